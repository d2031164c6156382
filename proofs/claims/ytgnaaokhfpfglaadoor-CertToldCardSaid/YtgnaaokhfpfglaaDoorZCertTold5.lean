/- Texts of this claim, one behind the other: PCertTold11, PCertTold12, PCertTold13, PCertTold14, PCertTold15, PCertTold. -/
import Derived.Test.YtgnaaokhfpfglaaDoorZCertTold1
import Derived.Test.YtgnaaokhfpfglaaDoorZCertTold2
import Derived.Test.YtgnaaokhfpfglaaDoorZCertTold4
import Derived.Test.YtgnaaokhfpfglaaDoorZCertTold3

set_option maxHeartbeats 8000000
set_option maxRecDepth 100000
set_option linter.unusedVariables false
set_option linter.unusedSimpArgs false
section
namespace Go.Proofs.YtgnaaokhfpfglaaDoor.PCertTold
open Go.RowKit Go.Proofs.YtgnaaokhfpfglaaDoorW.PrintWords Go.Proofs.YtgnaaokhfpfglaaDoorW.PrintLast Go.Proofs.YtgnaaokhfpfglaaDoorW.PrintMore
attribute [local go_sem] qaW qaU qa3 qa2 qaN qaM qaV qaT
set_option linter.unusedVariables false
set_option linter.unusedSimpArgs false
noncomputable section
def cert_Same.f (k:Nat) (aa:Int) (ab:Int) (ac:List (S53)) (ae:Int) (af:Int) (ag:List Int) (ah:List Int) (ai:List (S49)) (aj:Int) (ak:Int) (al:List (S53)) (am:Int) (an:Int) (ap:List Int) (aq:List Int) (ar:List (S49)):Option (Bool):=(tasks_Same.f k aa ab ac aj ak al).bind fun au=>(if au=true then (if ae=am then (if af=an then ((slices_Equal_int_int.f k ag ap).bind fun av=>(if av=true then ((slices_Equal_int64_int64.f k ah aq).bind fun aw=>(if aw=true then ((api_Bound_22.f k ai ar).bind fun ax=>(some ax)) else (some false))) else (some false))) else (some false)) else (some false)) else (some false))
theorem cert_Same.calls (k:Nat) (an:Int) (ap:Int) (A0_2:Option Addr) (c0_2:Nat) (al:List (S53)) (aD:Int) (aE:Int) (A0_5:Option Addr) (c0_5:Nat) (ay:List Int) (A0_6:Option Addr) (c0_6:Nat) (aw:List Int) (A0_7:Option Addr) (c0_7:Nat) (au:List (S49)) (aq:Int) (ar:Int) (aJ:Option Addr) (aK:Nat) (am:List (S53)) (aG:Int) (aH:Int) (aV:Option Addr) (aW:Nat) (az:List Int) (aX:Option Addr) (aY:Nat) (ax:List Int) (aZ:Option Addr) (a8:Nat) (av:List (S49)) (r:Bool) (w:World) (hr0_2:Kd.C k53 w A0_2 al.length al) (hc0_2:al.length≤c0_2) (hr0_5:Kd.C (Kd.int .i64) w A0_5 ay.length ay) (hc0_5:ay.length≤c0_5) (hr0_6:Kd.C (Kd.int .i64) w A0_6 aw.length aw) (hc0_6:aw.length≤c0_6) (hr0_7:Kd.C k49 w A0_7 au.length au) (hc0_7:au.length≤c0_7) (bn:Kd.C k53 w aJ am.length am) (bp:am.length≤aK) (bq:Kd.C (Kd.int .i64) w aV az.length az) (bt:az.length≤aW) (bv:Kd.C (Kd.int .i64) w aX ax.length ax) (bw:ax.length≤aY) (bx:Kd.C k49 w aZ av.length av) (bz:av.length≤a8) (h:cert_Same.f k an ap al aD aE ay aw au aq ar am aG aH az ax av=some r) :
  Calls Tryd.prog 9 #[.agg #[.int .i64 an,.int .i64 ap,.slice A0_2 al.length c0_2,.int .i64 aD,.int .i64 aE,.slice A0_5 ay.length c0_5,.slice A0_6 aw.length c0_6,.slice A0_7 au.length c0_7],.agg #[.int .i64 aq,.int .i64 ar,.slice aJ am.length aK,.int .i64 aG,.int .i64 aH,.slice aV az.length aW,.slice aX ax.length aY,.slice aZ av.length a8]] w fun e w'=>e=.returned (.bool r)∧Below w.heap.size w w':=by
 have kA:=Tryd.underlying39
 have kB:=Tryd.underlying33
 have aN:=qaa.mk hr0_2
 have aQ:=qaa.mk hc0_2
 clear hr0_2 hc0_2
 have bg:=qaa.mk hr0_5
 have bh:=qaa.mk hc0_5
 clear hr0_5 hc0_5
 have bB:=qaa.mk hr0_6
 have bC:=qaa.mk hc0_6
 clear hr0_6 hc0_6
 have bF:=qaa.mk hr0_7
 have bG:=qaa.mk hc0_7
 clear hr0_7 hc0_7
 have aT:=qaa.mk bn
 have aU:=qaa.mk bp
 clear bn bp
 have bi:=qaa.mk bq
 have bj:=qaa.mk bt
 clear bq bt
 have bD:=qaa.mk bv
 have bE:=qaa.mk bw
 clear bv bw
 have bH:=qaa.mk bx
 have bI:=qaa.mk bz
 clear bx bz
 have HB:=qaa.mk (Below.refl w.heap.size w)
 have H:((tasks_Same.f k an ap al aq ar am).bind fun bm=>(if bm=true then (if aD=aG then (if aE=aH then ((slices_Equal_int_int.f k ay az).bind fun ba=>(if ba=true then ((slices_Equal_int64_int64.f k aw ax).bind fun aM=>(if aM=true then ((api_Bound_22.f k au av).bind fun aI=>(some aI)) else (some false))) else (some false))) else (some false)) else (some false)) else (some false)))=some r:=h
 clear h
 replace H:=Option.bind_eq_some_iff.mp H
 obtain⟨bm,jW,H⟩:=H
 replace H:(if bm=true then (if aD=aG then (if aE=aH then ((slices_Equal_int_int.f k ay az).bind fun ba=>(if ba=true then ((slices_Equal_int64_int64.f k aw ax).bind fun aM=>(if aM=true then ((api_Bound_22.f k au av).bind fun aI=>(some aI)) else (some false))) else (some false))) else (some false)) else (some false)) else (some false))=some r:=H
 have A3:=qaa.mk jW
 clear jW
 by_cases c4:bm=true
 ·subst c4
  have H1:(if aD=aG then (if aE=aH then ((slices_Equal_int_int.f k ay az).bind fun ba=>(if ba=true then ((slices_Equal_int64_int64.f k aw ax).bind fun aM=>(if aM=true then ((api_Bound_22.f k au av).bind fun aI=>(some aI)) else (some false))) else (some false))) else (some false)) else (some false))=some r:=by rw [if_pos rfl] at H;exact H
  clear H
  have H:=H1
  clear H1
  by_cases c5:aD=aG
  ·rw [if_pos c5] at H
   have jS:(aD == aG)=true:=beq_iff_eq.mpr c5
   have jT:(aD != aG)=false:=bne_eq_false_iff_eq.mpr c5
   clear c5
   by_cases c6:aE=aH
   ·rw [if_pos c6] at H
    have jU:(aE == aH)=true:=beq_iff_eq.mpr c6
    have jV:(aE != aH)=false:=bne_eq_false_iff_eq.mpr c6
    clear c6
    replace H:=Option.bind_eq_some_iff.mp H
    obtain⟨ba,jX,H⟩:=H
    replace H:(if ba=true then ((slices_Equal_int64_int64.f k aw ax).bind fun aM=>(if aM=true then ((api_Bound_22.f k au av).bind fun aI=>(some aI)) else (some false))) else (some false))=some r:=H
    have A7:=qaa.mk jX
    clear jX
    by_cases c8:ba=true
    ·subst c8
     have H1:((slices_Equal_int64_int64.f k aw ax).bind fun aM=>(if aM=true then ((api_Bound_22.f k au av).bind fun aI=>(some aI)) else (some false)))=some r:=by rw [if_pos rfl] at H;exact H
     clear H
     have H:=H1
     clear H1
     replace H:=Option.bind_eq_some_iff.mp H
     obtain⟨aM,jY,H⟩:=H
     replace H:(if aM=true then ((api_Bound_22.f k au av).bind fun aI=>(some aI)) else (some false))=some r:=H
     have A9:=qaa.mk jY
     clear jY
     by_cases bL:aM=true
     ·subst bL
      have H1:((api_Bound_22.f k au av).bind fun aI=>(some aI))=some r:=by rw [if_pos rfl] at H;exact H
      clear H
      have H:=H1
      clear H1
      replace H:=Option.bind_eq_some_iff.mp H
      obtain⟨aI,bJ,H⟩:=H
      replace H:(some aI)=some r:=H
      have kC:=qaa.mk bJ
      clear bJ
      obtain rfl:=Option.some.inj H
      go_enter Tryd.func9,Tryd.ntmps9
      go_wp2_with (first|((with_reducible refine qap (N:=2) rfl ?_);refine qao ?hg (N:=2) ?hd (cs:=#[.int .i64 an,.int .i64 ap,.slice A0_2 al.length c0_2,.int .i64 aD,.int .i64 aE,.slice A0_5 ay.length c0_5,.slice A0_6 aw.length c0_6,.slice A0_7 au.length c0_7]) (t:=39) ?hr ?_;(case hd=>rfl);(case hg=>rfl);(case hr=>first|(go_simp;done)|(go_simp;rfl));intro ac hg kD hbox hb;have aa:=qaa.mk (hbox);have be:=qaa.mk ((by rw [hg];exact (qac sB):w.heap.size≤ac));have aA:=qaa.mk ((by rw [hg];exact (qac sB):w.heap.size≤ac));replace HB:=qaa.mk (qai sB hb);clear hb hbox hg)|((with_reducible refine qap (N:=3) rfl ?_);refine qao ?hg (N:=3) ?hd (cs:=#[.int .i64 aq,.int .i64 ar,.slice aJ am.length aK,.int .i64 aG,.int .i64 aH,.slice aV az.length aW,.slice aX ax.length aY,.slice aZ av.length a8]) (t:=39) ?hr ?_;(case hd=>rfl);(case hg=>rfl);(case hr=>first|(go_simp;done)|(go_simp;rfl));intro ae hg jZ hbox hb;have ab:=qaa.mk (hbox);have bf:=qaa.mk ((by rw [hg];exact (qac sB):w.heap.size≤ae));have aC:=qaa.mk ((by rw [hg];exact (qac sB):w.heap.size≤ae));replace HB:=qaa.mk (qai sB hb);have af:=qaa.mk ((by rw [hg];exact Nat.ne_of_lt (sLt aa.out):ac≠ae));have ag:=qaa.mk ((by rw [hg];exact Nat.ne_of_gt (sLt aa.out):ae≠ac));replace aa:=qaa.mk (sKb aa.out hb);clear hb hbox hg;have j9:=af.out;have ka:=ag.out;obtain⟨bM,bN,bO,bP,bQ,bR,bS,bT⟩:=sC8 (w:=jZ) aa.out;obtain⟨bU,bV,bW,bX,bY,bZ,b8,b9⟩:=sF8 aa.out;obtain⟨ca,cb,ce,cf,cg,cj,ck,cm⟩:=sC8 (w:=jZ) ab.out;obtain⟨co,cp,cq,cr,ct,cu,cv,cw⟩:=sF8 ab.out)|((with_reducible refine qaA (f:=19) rfl ?_);refine qa7 (some 11) rfl rfl Tryd.func19 (by kernel_rfl) rfl #[.agg #[.int .i64 an,.int .i64 ap,.slice A0_2 al.length c0_2],.agg #[.int .i64 aq,.int .i64 ar,.slice aJ am.length aK]] rfl (by (try simp only [List.map_toArray,List.map_cons,List.map_nil]);first|done|rfl|(simp only [List.length_drop,List.length_take];rfl)) ?_;(with_reducible refine (tasks_Same.calls k an ap _ _ al aq ar _ _ am true _ ?ah ?ai ?aj ?ak A3.out).mono ?_);(case ah=>repeat (first|exact (Kd.C_below aN.out HB.out)|(with_reducible refine Kd.C_alloc ?_ _)|(with_reducible refine Kd.C_drewN ?_ _)|(with_reducible refine Kd.C_drew ?_)));(case ai=>exact aQ.out);(case aj=>repeat (first|exact (Kd.C_below aT.out HB.out)|(with_reducible refine Kd.C_alloc ?_ _)|(with_reducible refine Kd.C_drewN ?_ _)|(with_reducible refine Kd.C_drew ?_)));(case ak=>exact aU.out);rintro e kb ⟨rfl,hb⟩;refine⟨_,rfl,?_⟩;replace aa:=qaa.mk (sKb aa.out hb);replace ab:=qaa.mk (sKb ab.out hb);replace HB:=qaa.mk (qai sB hb);(try clear hb);(try clear bK);(try clear hk);(try clear hi);obtain⟨cx,cy,cz,cA,cB,cC,cD,cE⟩:=sC8 (w:=kb) aa.out;obtain⟨cF,cG,cH,cI,cJ,cK,cL,cM⟩:=sF8 aa.out;obtain⟨cN,cO,cP,cQ,cR,cS,cT,cU⟩:=sC8 (w:=kb) ab.out;obtain⟨cV,cW,cX,cY,cZ,da,db,dc⟩:=sF8 ab.out)|(go_at_call 20;(with_reducible refine (slices_Equal_int_int.calls k _ _ ay _ _ az true _ ?ah ?ai ?aj ?ak A7.out).mono ?_);(case ah=>repeat (first|exact (Kd.C_below bg.out HB.out)|(with_reducible refine Kd.C_alloc ?_ _)|(with_reducible refine Kd.C_drewN ?_ _)|(with_reducible refine Kd.C_drew ?_)));(case ai=>exact bh.out);(case aj=>repeat (first|exact (Kd.C_below bi.out HB.out)|(with_reducible refine Kd.C_alloc ?_ _)|(with_reducible refine Kd.C_drewN ?_ _)|(with_reducible refine Kd.C_drew ?_)));(case ak=>exact bj.out);rintro e w' ⟨rfl,⟨nd,rfl⟩⟩)|(go_at_call 21;(with_reducible refine (slices_Equal_int64_int64.calls k _ _ aw _ _ ax true _ ?ah ?ai ?aj ?ak A9.out).mono ?_);(case ah=>repeat (first|exact (Kd.C_below bB.out sB)|(with_reducible refine Kd.C_alloc ?_ _)|(with_reducible refine Kd.C_drewN ?_ _)|(with_reducible refine Kd.C_drew ?_)));(case ai=>exact bC.out);(case aj=>repeat (first|exact (Kd.C_below bD.out sB)|(with_reducible refine Kd.C_alloc ?_ _)|(with_reducible refine Kd.C_drewN ?_ _)|(with_reducible refine Kd.C_drew ?_)));(case ak=>exact bE.out);rintro e w' ⟨rfl,⟨nd,rfl⟩⟩)|(go_at_call 22;(with_reducible refine (api_Bound_22.calls k _ _ au _ _ av aI _ ?ah ?ai ?aj ?ak kC.out).mono ?_);(case ah=>repeat (first|exact (Kd.C_below bF.out sB)|(with_reducible refine Kd.C_alloc ?_ _)|(with_reducible refine Kd.C_drewN ?_ _)|(with_reducible refine Kd.C_drew ?_)));(case ai=>exact bG.out);(case aj=>repeat (first|exact (Kd.C_below bH.out sB)|(with_reducible refine Kd.C_alloc ?_ _)|(with_reducible refine Kd.C_drewN ?_ _)|(with_reducible refine Kd.C_drew ?_)));(case ak=>exact bI.out);rintro e w' ⟨rfl,⟨nd,rfl⟩⟩))
      go_ret
      exact⟨by first|rfl|(simp [qam,qal]<;>rfl)|(simp [bneNil,bneNilU]<;>rfl)|(simp [*,qam,qal]<;>rfl),by repeat (first|(with_reducible first|exact HB.out|apply qah|apply qae|apply qag|refine qad ?_ aA.out|refine qad ?_ aC.out)|exact HB.out)⟩
     ·replace bL:=Bool.eq_false_iff.mpr bL
      subst bL
      have H1:(some false)=some r:=by rw [if_neg (show ¬ (false=true) by decide)] at H;exact H
      clear H
      have H:=H1
      clear H1
      obtain rfl:=Option.some.inj H
      go_enter Tryd.func9,Tryd.ntmps9
      go_wp2_with (first|((with_reducible refine qap (N:=2) rfl ?_);refine qao ?hg (N:=2) ?hd (cs:=#[.int .i64 an,.int .i64 ap,.slice A0_2 al.length c0_2,.int .i64 aD,.int .i64 aE,.slice A0_5 ay.length c0_5,.slice A0_6 aw.length c0_6,.slice A0_7 au.length c0_7]) (t:=39) ?hr ?_;(case hd=>rfl);(case hg=>rfl);(case hr=>first|(go_simp;done)|(go_simp;rfl));intro ac hg kE hbox hb;have aa:=qaa.mk (hbox);have be:=qaa.mk ((by rw [hg];exact (qac sB):w.heap.size≤ac));have aA:=qaa.mk ((by rw [hg];exact (qac sB):w.heap.size≤ac));replace HB:=qaa.mk (qai sB hb);clear hb hbox hg)|((with_reducible refine qap (N:=3) rfl ?_);refine qao ?hg (N:=3) ?hd (cs:=#[.int .i64 aq,.int .i64 ar,.slice aJ am.length aK,.int .i64 aG,.int .i64 aH,.slice aV az.length aW,.slice aX ax.length aY,.slice aZ av.length a8]) (t:=39) ?hr ?_;(case hd=>rfl);(case hg=>rfl);(case hr=>first|(go_simp;done)|(go_simp;rfl));intro ae hg kc hbox hb;have ab:=qaa.mk (hbox);have bf:=qaa.mk ((by rw [hg];exact (qac sB):w.heap.size≤ae));have aC:=qaa.mk ((by rw [hg];exact (qac sB):w.heap.size≤ae));replace HB:=qaa.mk (qai sB hb);have af:=qaa.mk ((by rw [hg];exact Nat.ne_of_lt (sLt aa.out):ac≠ae));have ag:=qaa.mk ((by rw [hg];exact Nat.ne_of_gt (sLt aa.out):ae≠ac));replace aa:=qaa.mk (sKb aa.out hb);clear hb hbox hg;have kd:=af.out;have ke:=ag.out;obtain⟨dd,de,df,dg,dh,di,dj,dk⟩:=sC8 (w:=kc) aa.out;obtain⟨dl,dm,dn,dp,dq,dr,du,dv⟩:=sF8 aa.out;obtain⟨dw,dx,dy,dz,dA,dB,dC,dD⟩:=sC8 (w:=kc) ab.out;obtain⟨dE,dF,dG,dH,dI,dJ,dK,dL⟩:=sF8 ab.out)|((with_reducible refine qaA (f:=19) rfl ?_);refine qa7 (some 11) rfl rfl Tryd.func19 (by kernel_rfl) rfl #[.agg #[.int .i64 an,.int .i64 ap,.slice A0_2 al.length c0_2],.agg #[.int .i64 aq,.int .i64 ar,.slice aJ am.length aK]] rfl (by (try simp only [List.map_toArray,List.map_cons,List.map_nil]);first|done|rfl|(simp only [List.length_drop,List.length_take];rfl)) ?_;(with_reducible refine (tasks_Same.calls k an ap _ _ al aq ar _ _ am true _ ?ah ?ai ?aj ?ak A3.out).mono ?_);(case ah=>repeat (first|exact (Kd.C_below aN.out HB.out)|(with_reducible refine Kd.C_alloc ?_ _)|(with_reducible refine Kd.C_drewN ?_ _)|(with_reducible refine Kd.C_drew ?_)));(case ai=>exact aQ.out);(case aj=>repeat (first|exact (Kd.C_below aT.out HB.out)|(with_reducible refine Kd.C_alloc ?_ _)|(with_reducible refine Kd.C_drewN ?_ _)|(with_reducible refine Kd.C_drew ?_)));(case ak=>exact aU.out);rintro e kf ⟨rfl,hb⟩;refine⟨_,rfl,?_⟩;replace aa:=qaa.mk (sKb aa.out hb);replace ab:=qaa.mk (sKb ab.out hb);replace HB:=qaa.mk (qai sB hb);(try clear hb);(try clear bK);(try clear hk);(try clear hi);obtain⟨dM,dN,dO,dP,dQ,dT,dU,dV⟩:=sC8 (w:=kf) aa.out;obtain⟨dW,dX,dY,dZ,d7,d8,d9,ea⟩:=sF8 aa.out;obtain⟨eb,ec,ed,ef,eg,eh,ek,el⟩:=sC8 (w:=kf) ab.out;obtain⟨en,ep,eq,er,es,et,eu,ev⟩:=sF8 ab.out)|(go_at_call 20;(with_reducible refine (slices_Equal_int_int.calls k _ _ ay _ _ az true _ ?ah ?ai ?aj ?ak A7.out).mono ?_);(case ah=>repeat (first|exact (Kd.C_below bg.out HB.out)|(with_reducible refine Kd.C_alloc ?_ _)|(with_reducible refine Kd.C_drewN ?_ _)|(with_reducible refine Kd.C_drew ?_)));(case ai=>exact bh.out);(case aj=>repeat (first|exact (Kd.C_below bi.out HB.out)|(with_reducible refine Kd.C_alloc ?_ _)|(with_reducible refine Kd.C_drewN ?_ _)|(with_reducible refine Kd.C_drew ?_)));(case ak=>exact bj.out);rintro e w' ⟨rfl,⟨nd,rfl⟩⟩)|(go_at_call 21;(with_reducible refine (slices_Equal_int64_int64.calls k _ _ aw _ _ ax false _ ?ah ?ai ?aj ?ak A9.out).mono ?_);(case ah=>repeat (first|exact (Kd.C_below bB.out sB)|(with_reducible refine Kd.C_alloc ?_ _)|(with_reducible refine Kd.C_drewN ?_ _)|(with_reducible refine Kd.C_drew ?_)));(case ai=>exact bC.out);(case aj=>repeat (first|exact (Kd.C_below bD.out sB)|(with_reducible refine Kd.C_alloc ?_ _)|(with_reducible refine Kd.C_drewN ?_ _)|(with_reducible refine Kd.C_drew ?_)));(case ak=>exact bE.out);rintro e w' ⟨rfl,⟨nd,rfl⟩⟩))
      go_ret
      exact⟨by first|rfl|(simp [qam,qal]<;>rfl)|(simp [bneNil,bneNilU]<;>rfl)|(simp [*,qam,qal]<;>rfl),by repeat (first|(with_reducible first|exact HB.out|apply qah|apply qae|apply qag|refine qad ?_ aA.out|refine qad ?_ aC.out)|exact HB.out)⟩
    ·replace c8:=Bool.eq_false_iff.mpr c8
     subst c8
     have H1:(some false)=some r:=by rw [if_neg (show ¬ (false=true) by decide)] at H;exact H
     clear H
     have H:=H1
     clear H1
     obtain rfl:=Option.some.inj H
     go_enter Tryd.func9,Tryd.ntmps9
     go_wp2_with (first|((with_reducible refine qap (N:=2) rfl ?_);refine qao ?hg (N:=2) ?hd (cs:=#[.int .i64 an,.int .i64 ap,.slice A0_2 al.length c0_2,.int .i64 aD,.int .i64 aE,.slice A0_5 ay.length c0_5,.slice A0_6 aw.length c0_6,.slice A0_7 au.length c0_7]) (t:=39) ?hr ?_;(case hd=>rfl);(case hg=>rfl);(case hr=>first|(go_simp;done)|(go_simp;rfl));intro ac hg kF hbox hb;have aa:=qaa.mk (hbox);have be:=qaa.mk ((by rw [hg];exact (qac sB):w.heap.size≤ac));have aA:=qaa.mk ((by rw [hg];exact (qac sB):w.heap.size≤ac));replace HB:=qaa.mk (qai sB hb);clear hb hbox hg)|((with_reducible refine qap (N:=3) rfl ?_);refine qao ?hg (N:=3) ?hd (cs:=#[.int .i64 aq,.int .i64 ar,.slice aJ am.length aK,.int .i64 aG,.int .i64 aH,.slice aV az.length aW,.slice aX ax.length aY,.slice aZ av.length a8]) (t:=39) ?hr ?_;(case hd=>rfl);(case hg=>rfl);(case hr=>first|(go_simp;done)|(go_simp;rfl));intro ae hg kg hbox hb;have ab:=qaa.mk (hbox);have bf:=qaa.mk ((by rw [hg];exact (qac sB):w.heap.size≤ae));have aC:=qaa.mk ((by rw [hg];exact (qac sB):w.heap.size≤ae));replace HB:=qaa.mk (qai sB hb);have af:=qaa.mk ((by rw [hg];exact Nat.ne_of_lt (sLt aa.out):ac≠ae));have ag:=qaa.mk ((by rw [hg];exact Nat.ne_of_gt (sLt aa.out):ae≠ac));replace aa:=qaa.mk (sKb aa.out hb);clear hb hbox hg;have ki:=af.out;have kj:=ag.out;obtain⟨ew,ex,ey,ez,eA,eB,eC,eD⟩:=sC8 (w:=kg) aa.out;obtain⟨eE,eF,eG,eH,eI,eJ,eK,eL⟩:=sF8 aa.out;obtain⟨eM,eN,eO,eP,eQ,eR,eS,eT⟩:=sC8 (w:=kg) ab.out;obtain⟨eU,eV,eW,eX,eY,eZ,fa,fb⟩:=sF8 ab.out)|((with_reducible refine qaA (f:=19) rfl ?_);refine qa7 (some 11) rfl rfl Tryd.func19 (by kernel_rfl) rfl #[.agg #[.int .i64 an,.int .i64 ap,.slice A0_2 al.length c0_2],.agg #[.int .i64 aq,.int .i64 ar,.slice aJ am.length aK]] rfl (by (try simp only [List.map_toArray,List.map_cons,List.map_nil]);first|done|rfl|(simp only [List.length_drop,List.length_take];rfl)) ?_;(with_reducible refine (tasks_Same.calls k an ap _ _ al aq ar _ _ am true _ ?ah ?ai ?aj ?ak A3.out).mono ?_);(case ah=>repeat (first|exact (Kd.C_below aN.out HB.out)|(with_reducible refine Kd.C_alloc ?_ _)|(with_reducible refine Kd.C_drewN ?_ _)|(with_reducible refine Kd.C_drew ?_)));(case ai=>exact aQ.out);(case aj=>repeat (first|exact (Kd.C_below aT.out HB.out)|(with_reducible refine Kd.C_alloc ?_ _)|(with_reducible refine Kd.C_drewN ?_ _)|(with_reducible refine Kd.C_drew ?_)));(case ak=>exact aU.out);rintro e km ⟨rfl,hb⟩;refine⟨_,rfl,?_⟩;replace aa:=qaa.mk (sKb aa.out hb);replace ab:=qaa.mk (sKb ab.out hb);replace HB:=qaa.mk (qai sB hb);(try clear hb);(try clear bK);(try clear hk);(try clear hi);obtain⟨fc,fe,ff,fg,fh,fi,fj,fk⟩:=sC8 (w:=km) aa.out;obtain⟨fl,fm,fo,fp,fq,ft,fu,fv⟩:=sF8 aa.out;obtain⟨fw,fx,fy,fz,fA,fB,fC,fD⟩:=sC8 (w:=km) ab.out;obtain⟨fE,fF,fG,fH,fI,fJ,fK,fL⟩:=sF8 ab.out)|(go_at_call 20;(with_reducible refine (slices_Equal_int_int.calls k _ _ ay _ _ az false _ ?ah ?ai ?aj ?ak A7.out).mono ?_);(case ah=>repeat (first|exact (Kd.C_below bg.out HB.out)|(with_reducible refine Kd.C_alloc ?_ _)|(with_reducible refine Kd.C_drewN ?_ _)|(with_reducible refine Kd.C_drew ?_)));(case ai=>exact bh.out);(case aj=>repeat (first|exact (Kd.C_below bi.out HB.out)|(with_reducible refine Kd.C_alloc ?_ _)|(with_reducible refine Kd.C_drewN ?_ _)|(with_reducible refine Kd.C_drew ?_)));(case ak=>exact bj.out);rintro e w' ⟨rfl,⟨nd,rfl⟩⟩))
     go_ret
     exact⟨by first|rfl|(simp [qam,qal]<;>rfl)|(simp [bneNil,bneNilU]<;>rfl)|(simp [*,qam,qal]<;>rfl),by repeat (first|(with_reducible first|exact HB.out|apply qah|apply qae|apply qag|refine qad ?_ aA.out|refine qad ?_ aC.out)|exact HB.out)⟩
   ·rw [if_neg c6] at H
    have jU:(aE == aH)=false:=beq_eq_false_iff_ne.mpr c6
    have jV:(aE != aH)=true:=bne_iff_ne.mpr c6
    obtain rfl:=Option.some.inj H
    go_enter Tryd.func9,Tryd.ntmps9
    go_wp2_with (first|((with_reducible refine qap (N:=2) rfl ?_);refine qao ?hg (N:=2) ?hd (cs:=#[.int .i64 an,.int .i64 ap,.slice A0_2 al.length c0_2,.int .i64 aD,.int .i64 aE,.slice A0_5 ay.length c0_5,.slice A0_6 aw.length c0_6,.slice A0_7 au.length c0_7]) (t:=39) ?hr ?_;(case hd=>rfl);(case hg=>rfl);(case hr=>first|(go_simp;done)|(go_simp;rfl));intro ac hg kG hbox hb;have aa:=qaa.mk (hbox);have be:=qaa.mk ((by rw [hg];exact (qac sB):w.heap.size≤ac));have aA:=qaa.mk ((by rw [hg];exact (qac sB):w.heap.size≤ac));replace HB:=qaa.mk (qai sB hb);clear hb hbox hg)|((with_reducible refine qap (N:=3) rfl ?_);refine qao ?hg (N:=3) ?hd (cs:=#[.int .i64 aq,.int .i64 ar,.slice aJ am.length aK,.int .i64 aG,.int .i64 aH,.slice aV az.length aW,.slice aX ax.length aY,.slice aZ av.length a8]) (t:=39) ?hr ?_;(case hd=>rfl);(case hg=>rfl);(case hr=>first|(go_simp;done)|(go_simp;rfl));intro ae hg kn hbox hb;have ab:=qaa.mk (hbox);have bf:=qaa.mk ((by rw [hg];exact (qac sB):w.heap.size≤ae));have aC:=qaa.mk ((by rw [hg];exact (qac sB):w.heap.size≤ae));replace HB:=qaa.mk (qai sB hb);have af:=qaa.mk ((by rw [hg];exact Nat.ne_of_lt (sLt aa.out):ac≠ae));have ag:=qaa.mk ((by rw [hg];exact Nat.ne_of_gt (sLt aa.out):ae≠ac));replace aa:=qaa.mk (sKb aa.out hb);clear hb hbox hg;have ko:=af.out;have kp:=ag.out;obtain⟨fM,fN,fO,fP,fQ,fR,fS,fT⟩:=sC8 (w:=kn) aa.out;obtain⟨fU,fV,fW,fX,fY,fZ,ga,gb⟩:=sF8 aa.out;obtain⟨gc,ge,gf,gg,gh,gi,gj,gl⟩:=sC8 (w:=kn) ab.out;obtain⟨gm,gn,go,gp,gq,gr,gt,gu⟩:=sF8 ab.out)|((with_reducible refine qaA (f:=19) rfl ?_);refine qa7 (some 11) rfl rfl Tryd.func19 (by kernel_rfl) rfl #[.agg #[.int .i64 an,.int .i64 ap,.slice A0_2 al.length c0_2],.agg #[.int .i64 aq,.int .i64 ar,.slice aJ am.length aK]] rfl (by (try simp only [List.map_toArray,List.map_cons,List.map_nil]);first|done|rfl|(simp only [List.length_drop,List.length_take];rfl)) ?_;(with_reducible refine (tasks_Same.calls k an ap _ _ al aq ar _ _ am true _ ?ah ?ai ?aj ?ak A3.out).mono ?_);(case ah=>repeat (first|exact (Kd.C_below aN.out HB.out)|(with_reducible refine Kd.C_alloc ?_ _)|(with_reducible refine Kd.C_drewN ?_ _)|(with_reducible refine Kd.C_drew ?_)));(case ai=>exact aQ.out);(case aj=>repeat (first|exact (Kd.C_below aT.out HB.out)|(with_reducible refine Kd.C_alloc ?_ _)|(with_reducible refine Kd.C_drewN ?_ _)|(with_reducible refine Kd.C_drew ?_)));(case ak=>exact aU.out);rintro e kr ⟨rfl,hb⟩;refine⟨_,rfl,?_⟩;replace aa:=qaa.mk (sKb aa.out hb);replace ab:=qaa.mk (sKb ab.out hb);replace HB:=qaa.mk (qai sB hb);(try clear hb);(try clear bK);(try clear hk);(try clear hi);obtain⟨gv,gw,gx,gy,gz,gA,gB,gC⟩:=sC8 (w:=kr) aa.out;obtain⟨gD,gE,gF,gG,gH,gI,gJ,gK⟩:=sF8 aa.out;obtain⟨gL,gM,gN,gO,gP,gQ,gR,gS⟩:=sC8 (w:=kr) ab.out;obtain⟨gT,gU,gV,gW,gX,gY,gZ,hH⟩:=sF8 ab.out))
    go_ret
    exact⟨by first|rfl|(simp [qam,qal]<;>rfl)|(simp [bneNil,bneNilU]<;>rfl)|(simp [*,qam,qal]<;>rfl),by repeat (first|(with_reducible first|exact HB.out|apply qah|apply qae|apply qag|refine qad ?_ aA.out|refine qad ?_ aC.out)|exact HB.out)⟩
  ·rw [if_neg c5] at H
   have jS:(aD == aG)=false:=beq_eq_false_iff_ne.mpr c5
   have jT:(aD != aG)=true:=bne_iff_ne.mpr c5
   obtain rfl:=Option.some.inj H
   go_enter Tryd.func9,Tryd.ntmps9
   go_wp2_with (first|((with_reducible refine qap (N:=2) rfl ?_);refine qao ?hg (N:=2) ?hd (cs:=#[.int .i64 an,.int .i64 ap,.slice A0_2 al.length c0_2,.int .i64 aD,.int .i64 aE,.slice A0_5 ay.length c0_5,.slice A0_6 aw.length c0_6,.slice A0_7 au.length c0_7]) (t:=39) ?hr ?_;(case hd=>rfl);(case hg=>rfl);(case hr=>first|(go_simp;done)|(go_simp;rfl));intro ac hg kH hbox hb;have aa:=qaa.mk (hbox);have be:=qaa.mk ((by rw [hg];exact (qac sB):w.heap.size≤ac));have aA:=qaa.mk ((by rw [hg];exact (qac sB):w.heap.size≤ac));replace HB:=qaa.mk (qai sB hb);clear hb hbox hg)|((with_reducible refine qap (N:=3) rfl ?_);refine qao ?hg (N:=3) ?hd (cs:=#[.int .i64 aq,.int .i64 ar,.slice aJ am.length aK,.int .i64 aG,.int .i64 aH,.slice aV az.length aW,.slice aX ax.length aY,.slice aZ av.length a8]) (t:=39) ?hr ?_;(case hd=>rfl);(case hg=>rfl);(case hr=>first|(go_simp;done)|(go_simp;rfl));intro ae hg ks hbox hb;have ab:=qaa.mk (hbox);have bf:=qaa.mk ((by rw [hg];exact (qac sB):w.heap.size≤ae));have aC:=qaa.mk ((by rw [hg];exact (qac sB):w.heap.size≤ae));replace HB:=qaa.mk (qai sB hb);have af:=qaa.mk ((by rw [hg];exact Nat.ne_of_lt (sLt aa.out):ac≠ae));have ag:=qaa.mk ((by rw [hg];exact Nat.ne_of_gt (sLt aa.out):ae≠ac));replace aa:=qaa.mk (sKb aa.out hb);clear hb hbox hg;have kt:=af.out;have ku:=ag.out;obtain⟨hJ,hO,hX,hY,ia,ib,ic,ie⟩:=sC8 (w:=ks) aa.out;obtain⟨ig,ii,ij,ik,il,im,io,ip⟩:=sF8 aa.out;obtain⟨iq,ir,iu,iv,iw,ix,iy,iz⟩:=sC8 (w:=ks) ab.out;obtain⟨iA,iB,iC,iD,iE,iF,iG,iH⟩:=sF8 ab.out)|((with_reducible refine qaA (f:=19) rfl ?_);refine qa7 (some 11) rfl rfl Tryd.func19 (by kernel_rfl) rfl #[.agg #[.int .i64 an,.int .i64 ap,.slice A0_2 al.length c0_2],.agg #[.int .i64 aq,.int .i64 ar,.slice aJ am.length aK]] rfl (by (try simp only [List.map_toArray,List.map_cons,List.map_nil]);first|done|rfl|(simp only [List.length_drop,List.length_take];rfl)) ?_;(with_reducible refine (tasks_Same.calls k an ap _ _ al aq ar _ _ am true _ ?ah ?ai ?aj ?ak A3.out).mono ?_);(case ah=>repeat (first|exact (Kd.C_below aN.out HB.out)|(with_reducible refine Kd.C_alloc ?_ _)|(with_reducible refine Kd.C_drewN ?_ _)|(with_reducible refine Kd.C_drew ?_)));(case ai=>exact aQ.out);(case aj=>repeat (first|exact (Kd.C_below aT.out HB.out)|(with_reducible refine Kd.C_alloc ?_ _)|(with_reducible refine Kd.C_drewN ?_ _)|(with_reducible refine Kd.C_drew ?_)));(case ak=>exact aU.out);rintro e kv ⟨rfl,hb⟩;refine⟨_,rfl,?_⟩;replace aa:=qaa.mk (sKb aa.out hb);replace ab:=qaa.mk (sKb ab.out hb);replace HB:=qaa.mk (qai sB hb);(try clear hb);(try clear bK);(try clear hk);(try clear hi);obtain⟨iI,iJ,iK,iL,iM,iN,iO,iP⟩:=sC8 (w:=kv) aa.out;obtain⟨iQ,iR,iS,iT,iU,iV,iW,iX⟩:=sF8 aa.out;obtain⟨iY,iZ,i7,i8,ja,jb,jc,jd⟩:=sC8 (w:=kv) ab.out;obtain⟨je,jf,jg,jh,ji,jj,jk,jl⟩:=sF8 ab.out))
   go_ret
   exact⟨by first|rfl|(simp [qam,qal]<;>rfl)|(simp [bneNil,bneNilU]<;>rfl)|(simp [*,qam,qal]<;>rfl),by repeat (first|(with_reducible first|exact HB.out|apply qah|apply qae|apply qag|refine qad ?_ aA.out|refine qad ?_ aC.out)|exact HB.out)⟩
 ·replace c4:=Bool.eq_false_iff.mpr c4
  subst c4
  have H1:(some false)=some r:=by rw [if_neg (show ¬ (false=true) by decide)] at H;exact H
  clear H
  have H:=H1
  clear H1
  obtain rfl:=Option.some.inj H
  go_enter Tryd.func9,Tryd.ntmps9
  go_wp2_with (first|((with_reducible refine qap (N:=2) rfl ?_);refine qao ?hg (N:=2) ?hd (cs:=#[.int .i64 an,.int .i64 ap,.slice A0_2 al.length c0_2,.int .i64 aD,.int .i64 aE,.slice A0_5 ay.length c0_5,.slice A0_6 aw.length c0_6,.slice A0_7 au.length c0_7]) (t:=39) ?hr ?_;(case hd=>rfl);(case hg=>rfl);(case hr=>first|(go_simp;done)|(go_simp;rfl));intro ac hg kI hbox hb;have aa:=qaa.mk (hbox);have be:=qaa.mk ((by rw [hg];exact (qac sB):w.heap.size≤ac));have aA:=qaa.mk ((by rw [hg];exact (qac sB):w.heap.size≤ac));replace HB:=qaa.mk (qai sB hb);clear hb hbox hg)|((with_reducible refine qap (N:=3) rfl ?_);refine qao ?hg (N:=3) ?hd (cs:=#[.int .i64 aq,.int .i64 ar,.slice aJ am.length aK,.int .i64 aG,.int .i64 aH,.slice aV az.length aW,.slice aX ax.length aY,.slice aZ av.length a8]) (t:=39) ?hr ?_;(case hd=>rfl);(case hg=>rfl);(case hr=>first|(go_simp;done)|(go_simp;rfl));intro ae hg kx hbox hb;have ab:=qaa.mk (hbox);have bf:=qaa.mk ((by rw [hg];exact (qac sB):w.heap.size≤ae));have aC:=qaa.mk ((by rw [hg];exact (qac sB):w.heap.size≤ae));replace HB:=qaa.mk (qai sB hb);have af:=qaa.mk ((by rw [hg];exact Nat.ne_of_lt (sLt aa.out):ac≠ae));have ag:=qaa.mk ((by rw [hg];exact Nat.ne_of_gt (sLt aa.out):ae≠ac));replace aa:=qaa.mk (sKb aa.out hb);clear hb hbox hg;have ky:=af.out;have kz:=ag.out;obtain⟨jm,jn,jo,jp,jq,jr,js,jt⟩:=sC8 (w:=kx) aa.out;obtain⟨ju,jv,jw,jx,jy,jz,jA,jB⟩:=sF8 aa.out;obtain⟨jC,jD,jE,jF,jG,jH,jI,jJ⟩:=sC8 (w:=kx) ab.out;obtain⟨jK,jL,jM,jN,jO,jP,jQ,jR⟩:=sF8 ab.out)|((with_reducible refine qaA (f:=19) rfl ?_);refine qa7 (some 11) rfl rfl Tryd.func19 (by kernel_rfl) rfl #[.agg #[.int .i64 an,.int .i64 ap,.slice A0_2 al.length c0_2],.agg #[.int .i64 aq,.int .i64 ar,.slice aJ am.length aK]] rfl (by (try simp only [List.map_toArray,List.map_cons,List.map_nil]);first|done|rfl|(simp only [List.length_drop,List.length_take];rfl)) ?_;(with_reducible refine (tasks_Same.calls k an ap _ _ al aq ar _ _ am false _ ?ah ?ai ?aj ?ak A3.out).mono ?_);(case ah=>repeat (first|exact (Kd.C_below aN.out HB.out)|(with_reducible refine Kd.C_alloc ?_ _)|(with_reducible refine Kd.C_drewN ?_ _)|(with_reducible refine Kd.C_drew ?_)));(case ai=>exact aQ.out);(case aj=>repeat (first|exact (Kd.C_below aT.out HB.out)|(with_reducible refine Kd.C_alloc ?_ _)|(with_reducible refine Kd.C_drewN ?_ _)|(with_reducible refine Kd.C_drew ?_)));(case ak=>exact aU.out);rintro e kJ ⟨rfl,hb⟩;refine⟨_,rfl,?_⟩;replace aa:=qaa.mk (sKb aa.out hb);replace ab:=qaa.mk (sKb ab.out hb);replace HB:=qaa.mk (qai sB hb);(try clear hb);(try clear bK);(try clear hk);(try clear hi)))
  go_ret
  exact⟨by first|rfl|(simp [qam,qal]<;>rfl)|(simp [bneNil,bneNilU]<;>rfl)|(simp [*,qam,qal]<;>rfl),by repeat (first|(with_reducible first|exact HB.out|apply qah|apply qae|apply qag|refine qad ?_ aA.out|refine qad ?_ aC.out)|exact HB.out)⟩
end
end Go.Proofs.YtgnaaokhfpfglaaDoor.PCertTold
end
section
namespace Go.Proofs.YtgnaaokhfpfglaaDoor.PCertTold
open Go.RowKit Go.Proofs.YtgnaaokhfpfglaaDoorW.PrintWords Go.Proofs.YtgnaaokhfpfglaaDoorW.PrintLast Go.Proofs.YtgnaaokhfpfglaaDoorW.PrintMore
attribute [local go_sem] qaW qaU qa3 qa2 qaN qaM qaV qaT
set_option linter.unusedVariables false
set_option linter.unusedSimpArgs false
noncomputable section
mutual
def ostinatoref05_SameTask.j0:Nat→Bool→Int→Int→Int→Int→Int→List Int→List Int→Int→Int→Int→Int→Int→List Int→List Int→Option (Bool)
 |0,_,_,_,_,_,_,_,_,_,_,_,_,_,_,_=>none
 |k+1,aq,aa,ab,ac,ae,af,ag,ah,ai,aj,ak,al,am,an,ap=>if aq=true then (some false) else (ostinatoref05_SameTask.l0 k 0 aa ab ac ae af ag ah ai aj ak al am an ap)
def ostinatoref05_SameTask.l0:Nat→Int→Int→Int→Int→Int→Int→List Int→List Int→Int→Int→Int→Int→Int→List Int→List Int→Option (Bool)
 |0,_,_,_,_,_,_,_,_,_,_,_,_,_,_,_=>none
 |k+1,x5,ac,ae,af,ag,ah,aa,ai,aj,ak,al,am,an,ab,ap=>if x5<(aa.length:Int) then (if 0≤x5 then (if x5<(ab.length:Int) then (if (rd aa x5)=(rd ab x5) then (ostinatoref05_SameTask.l0 k (wrap64 (x5+1)) ac ae af ag ah aa ai aj ak al am an ab ap) else (some false)) else (none)) else (none)) else (ostinatoref05_SameTask.l1 k 0 ac ae af ag ah aa ai aj ak al am an ab ap)
def ostinatoref05_SameTask.l1:Nat→Int→Int→Int→Int→Int→Int→List Int→List Int→Int→Int→Int→Int→Int→List Int→List Int→Option (Bool)
 |0,_,_,_,_,_,_,_,_,_,_,_,_,_,_,_=>none
 |k+1,x6,ac,ae,af,ag,ah,ai,aa,aj,ak,al,am,an,ap,ab=>if x6<(aa.length:Int) then (if 0≤x6 then (if x6<(ab.length:Int) then (if (rd aa x6)=(rd ab x6) then (ostinatoref05_SameTask.l1 k (wrap64 (x6+1)) ac ae af ag ah ai aa aj ak al am an ap ab) else (some false)) else (none)) else (none)) else (some true)
end
def ostinatoref05_SameTask.f (k:Nat) (aa:Int) (ab:Int) (ac:Int) (ae:Int) (af:Int) (ag:List Int) (ah:List Int) (ai:Int) (aj:Int) (ak:Int) (al:Int) (am:Int) (an:List Int) (ap:List Int):Option (Bool):=if aa=ai then (if ab=aj then (if ac=ak then (if ae=al then (if af=am then (if (ag.length:Int)=(an.length:Int) then (ostinatoref05_SameTask.j0 k ((ah.length:Int) != (ap.length:Int)) aa ab ac ae af ag ah ai aj ak al am an ap) else (ostinatoref05_SameTask.j0 k true aa ab ac ae af ag ah ai aj ak al am an ap)) else (ostinatoref05_SameTask.j0 k true aa ab ac ae af ag ah ai aj ak al am an ap)) else (ostinatoref05_SameTask.j0 k true aa ab ac ae af ag ah ai aj ak al am an ap)) else (ostinatoref05_SameTask.j0 k true aa ab ac ae af ag ah ai aj ak al am an ap)) else (ostinatoref05_SameTask.j0 k true aa ab ac ae af ag ah ai aj ak al am an ap)) else (ostinatoref05_SameTask.j0 k true aa ab ac ae af ag ah ai aj ak al am an ap)
theorem ostinatoref05_SameTask.calls (k:Nat) (aq:Int) (ar:Int) (au:Int) (av:Int) (aw:Int) (A0_5:Option Addr) (c0_5:Nat) (af:List Int) (A0_6:Option Addr) (c0_6:Nat) (ah:List Int) (ax:Int) (ay:Int) (az:Int) (aA:Int) (aC:Int) (eX:Option Addr) (eY:Nat) (ag:List Int) (eZ:Option Addr) (fa:Nat) (ai:List Int) (r:Bool) (w:World) (hr0_5:Kd.C (Kd.int .i64) w A0_5 af.length af) (hc0_5:af.length≤c0_5) (hr0_6:Kd.C (Kd.int .i64) w A0_6 ah.length ah) (hc0_6:ah.length≤c0_6) (gY:Kd.C (Kd.int .i64) w eX ag.length ag) (gZ:ag.length≤eY) (hH:Kd.C (Kd.int .i64) w eZ ai.length ai) (hJ:ai.length≤fa) (h:ostinatoref05_SameTask.f k aq ar au av aw af ah ax ay az aA aC ag ai=some r) :
  Calls Tryd.prog 59 #[.agg #[.int .i64 aq,.int .i64 ar,.int .i64 au,.int .i64 av,.int .i64 aw,.slice A0_5 af.length c0_5,.slice A0_6 ah.length c0_6],.agg #[.int .i64 ax,.int .i64 ay,.int .i64 az,.int .i64 aA,.int .i64 aC,.slice eX ag.length eY,.slice eZ ai.length fa]] w fun e w'=>e=.returned (.bool r)∧Below w.heap.size w w':=by
 have kU:=Tryd.underlying53
 have hO:=qaa.mk hr0_5
 have kb:=qaa.mk hc0_5
 clear hr0_5 hc0_5
 have hX:=qaa.mk hr0_6
 have kc:=qaa.mk hc0_6
 clear hr0_6 hc0_6
 have hY:=qaa.mk gY
 have kd:=qaa.mk gZ
 clear gY gZ
 have ia:=qaa.mk hH
 have ke:=qaa.mk hJ
 clear hH hJ
 have HB:=qaa.mk (Below.refl w.heap.size w)
 have H:(if aq=ax then (if ar=ay then (if au=az then (if av=aA then (if aw=aC then (if (af.length:Int)=(ag.length:Int) then (ostinatoref05_SameTask.j0 k ((ah.length:Int) != (ai.length:Int)) aq ar au av aw af ah ax ay az aA aC ag ai) else (ostinatoref05_SameTask.j0 k true aq ar au av aw af ah ax ay az aA aC ag ai)) else (ostinatoref05_SameTask.j0 k true aq ar au av aw af ah ax ay az aA aC ag ai)) else (ostinatoref05_SameTask.j0 k true aq ar au av aw af ah ax ay az aA aC ag ai)) else (ostinatoref05_SameTask.j0 k true aq ar au av aw af ah ax ay az aA aC ag ai)) else (ostinatoref05_SameTask.j0 k true aq ar au av aw af ah ax ay az aA aC ag ai)) else (ostinatoref05_SameTask.j0 k true aq ar au av aw af ah ax ay az aA aC ag ai))=some r:=h
 clear h
 have j9:=qaa.mk H
 clear H
 go_enter Tryd.func59,Tryd.ntmps59
 go_upto_region 1 with (first|((with_reducible refine qap (N:=2) rfl ?_);(try (refine qaI (by rfl) ?_;dsimp only));refine qao ?hg (N:=2) ?hd (cs:=#[.int .i64 aq,.int .i64 ar,.int .i64 au,.int .i64 av,.int .i64 aw,.slice A0_5 af.length c0_5,.slice A0_6 ah.length c0_6]) (t:=53) ?hr ?_;(case hd=>rfl);(case hg=>rfl);(case hr=>first|(go_simp;done)|(go_simp;rfl));intro al hg w4 hbox hb;have aa:=qaa.mk (hbox);have ib:=qaa.mk ((by rw [hg];exact (qac sB):w.heap.size≤al));have am:=qaa.mk ((by rw [hg];exact (qac sB):w.heap.size≤al));replace HB:=qaa.mk (qai sB hb);clear hb hbox hg)|((with_reducible refine qap (N:=3) rfl ?_);(try (refine qaI (by rfl) ?_;dsimp only));refine qao ?hg (N:=3) ?hd (cs:=#[.int .i64 ax,.int .i64 ay,.int .i64 az,.int .i64 aA,.int .i64 aC,.slice eX ag.length eY,.slice eZ ai.length fa]) (t:=53) ?hr ?_;(case hd=>rfl);(case hg=>rfl);(case hr=>first|(go_simp;done)|(go_simp;rfl));intro an hg w5 hbox hb;have ab:=qaa.mk (hbox);have ic:=qaa.mk ((by rw [hg];exact (qac sB):w.heap.size≤an));have ap:=qaa.mk ((by rw [hg];exact (qac sB):w.heap.size≤an));replace HB:=qaa.mk (qai sB hb);have ac:=qaa.mk ((by rw [hg];exact Nat.ne_of_lt (sLt aa.out):al≠an));have ae:=qaa.mk ((by rw [hg];exact Nat.ne_of_gt (sLt aa.out):an≠al));replace aa:=qaa.mk (sKb aa.out hb);clear hb hbox hg))
 repeat (go_quiet (first|((with_reducible refine qap (N:=2) rfl ?_);(try (refine qaI (by rfl) ?_;dsimp only));refine qao ?hg (N:=2) ?hd (cs:=#[.int .i64 aq,.int .i64 ar,.int .i64 au,.int .i64 av,.int .i64 aw,.slice A0_5 af.length c0_5,.slice A0_6 ah.length c0_6]) (t:=53) ?hr ?_;(case hd=>rfl);(case hg=>rfl);(case hr=>first|(go_simp;done)|(go_simp;rfl));intro al hg w4 hbox hb;have aa:=qaa.mk (hbox);have ib:=qaa.mk ((by rw [hg];exact (qac sB):w.heap.size≤al));have am:=qaa.mk ((by rw [hg];exact (qac sB):w.heap.size≤al));replace HB:=qaa.mk (qai sB hb);clear hb hbox hg)|((with_reducible refine qap (N:=3) rfl ?_);(try (refine qaI (by rfl) ?_;dsimp only));refine qao ?hg (N:=3) ?hd (cs:=#[.int .i64 ax,.int .i64 ay,.int .i64 az,.int .i64 aA,.int .i64 aC,.slice eX ag.length eY,.slice eZ ai.length fa]) (t:=53) ?hr ?_;(case hd=>rfl);(case hg=>rfl);(case hr=>first|(go_simp;done)|(go_simp;rfl));intro an hg w5 hbox hb;have ab:=qaa.mk (hbox);have ic:=qaa.mk ((by rw [hg];exact (qac sB):w.heap.size≤an));have ap:=qaa.mk ((by rw [hg];exact (qac sB):w.heap.size≤an));replace HB:=qaa.mk (qai sB hb);have ac:=qaa.mk ((by rw [hg];exact Nat.ne_of_lt (sLt aa.out):al≠an));have ae:=qaa.mk ((by rw [hg];exact Nat.ne_of_gt (sLt aa.out):an≠al));replace aa:=qaa.mk (sKb aa.out hb);clear hb hbox hg));go_upto_region 1 with (first|((with_reducible refine qap (N:=2) rfl ?_);(try (refine qaI (by rfl) ?_;dsimp only));refine qao ?hg (N:=2) ?hd (cs:=#[.int .i64 aq,.int .i64 ar,.int .i64 au,.int .i64 av,.int .i64 aw,.slice A0_5 af.length c0_5,.slice A0_6 ah.length c0_6]) (t:=53) ?hr ?_;(case hd=>rfl);(case hg=>rfl);(case hr=>first|(go_simp;done)|(go_simp;rfl));intro al hg w4 hbox hb;have aa:=qaa.mk (hbox);have ib:=qaa.mk ((by rw [hg];exact (qac sB):w.heap.size≤al));have am:=qaa.mk ((by rw [hg];exact (qac sB):w.heap.size≤al));replace HB:=qaa.mk (qai sB hb);clear hb hbox hg)|((with_reducible refine qap (N:=3) rfl ?_);(try (refine qaI (by rfl) ?_;dsimp only));refine qao ?hg (N:=3) ?hd (cs:=#[.int .i64 ax,.int .i64 ay,.int .i64 az,.int .i64 aA,.int .i64 aC,.slice eX ag.length eY,.slice eZ ai.length fa]) (t:=53) ?hr ?_;(case hd=>rfl);(case hg=>rfl);(case hr=>first|(go_simp;done)|(go_simp;rfl));intro an hg w5 hbox hb;have ab:=qaa.mk (hbox);have ic:=qaa.mk ((by rw [hg];exact (qac sB):w.heap.size≤an));have ap:=qaa.mk ((by rw [hg];exact (qac sB):w.heap.size≤an));replace HB:=qaa.mk (qai sB hb);have ac:=qaa.mk ((by rw [hg];exact Nat.ne_of_lt (sLt aa.out):al≠an));have ae:=qaa.mk ((by rw [hg];exact Nat.ne_of_gt (sLt aa.out):an≠al));replace aa:=qaa.mk (sKb aa.out hb);clear hb hbox hg)))
 (try simp only [Act.put,List.setIfInBounds_toArray,List.set_cons_zero,List.set_cons_succ])
 go_cut [57] (fun kV wc=>∃ (kq:Nat) (fl:Bool),kV=.bool fl∧qaa (ostinatoref05_SameTask.j0 kq fl aq ar au av aw af ah ax ay az aA aC ag ai=some r)∧qaa (kq≤k)∧qaa (wc.heap[al]? = some (.cells #[.int .i64 aq,.int .i64 ar,.int .i64 au,.int .i64 av,.int .i64 aw,(.slice A0_5 af.length c0_5),(.slice A0_6 ah.length c0_6)] 53 (0,0)))∧qaa (wc.heap[an]? = some (.cells #[.int .i64 ax,.int .i64 ay,.int .i64 az,.int .i64 aA,.int .i64 aC,(.slice eX ag.length eY),(.slice eZ ai.length fa)] 53 (0,0)))∧qaa (Below w.heap.size w wc))
 case first=>
  have H:=j9.out
  clear j9
  by_cases c6:aq=ax
  ·rw [if_pos c6] at H
   have fb:(aq == ax)=true:=beq_iff_eq.mpr c6
   have fw:(aq != ax)=false:=bne_eq_false_iff_eq.mpr c6
   clear c6
   (first|rw [fb]|(simp only [qaC,qaE];rw [fb])|skip)
   by_cases c7:ar=ay
   ·rw [if_pos c7] at H
    have fx:(ar == ay)=true:=beq_iff_eq.mpr c7
    have fy:(ar != ay)=false:=bne_eq_false_iff_eq.mpr c7
    clear c7
    by_cases c8:au=az
    ·rw [if_pos c8] at H
     have fz:(au == az)=true:=beq_iff_eq.mpr c8
     have fA:(au != az)=false:=bne_eq_false_iff_eq.mpr c8
     clear c8
     by_cases c9:av=aA
     ·rw [if_pos c9] at H
      have fB:(av == aA)=true:=beq_iff_eq.mpr c9
      have fC:(av != aA)=false:=bne_eq_false_iff_eq.mpr c9
      clear c9
      by_cases fv:aw=aC
      ·rw [if_pos fv] at H
       have fm:(aw == aC)=true:=beq_iff_eq.mpr fv
       have fo:(aw != aC)=false:=bne_eq_false_iff_eq.mpr fv
       clear fv
       by_cases fp:(af.length:Int)=(ag.length:Int)
       ·rw [if_pos fp] at H
        have fq:((af.length:Int) == (ag.length:Int))=true:=beq_iff_eq.mpr fp
        have ft:((af.length:Int) != (ag.length:Int))=false:=bne_eq_false_iff_eq.mpr fp
        have fu:(af.length == ag.length)=true:=by first|simpa using fp|(simp at fp ⊢;omega)
        clear fp
        have H':=qaa.mk H
        clear H
        have kf:=ac.out
        have kg:=ae.out
        obtain⟨aI,aJ,aK,aM,aN,aQ,aT⟩:=sC7 (w:=w5) aa.out
        obtain⟨aU,aV,aW,aX,aY,aZ,a8⟩:=sF7 aa.out
        obtain⟨ba,be,bf,bg,bh,bi,bj⟩:=sC7 (w:=w5) ab.out
        obtain⟨bm,bn,bp,bq,bt,bv,bw⟩:=sF7 ab.out
        go_wp2
        repeat (go_quiet (fail);try go_wp2)
        go_meet
        case rel=>exact⟨_,(((ah.length:Int) != (ai.length:Int))),(by first|rfl|(simp;done)|(simp [*];done)),H',⟨by first|omega|exact Nat.le_refl _⟩,⟨by refine sM ?_;exact aa.out⟩,⟨by refine sM ?_;exact ab.out⟩,⟨by repeat (first|(with_reducible first|exact HB.out|apply qah|apply qae|apply qag|refine qad ?_ am.out|refine qad ?_ ap.out)|exact HB.out)⟩⟩
       ·rw [if_neg fp] at H
        have fq:((af.length:Int) == (ag.length:Int))=false:=beq_eq_false_iff_ne.mpr fp
        have ft:((af.length:Int) != (ag.length:Int))=true:=bne_iff_ne.mpr fp
        have fu:(af.length == ag.length)=false:=by first|simpa using fp|(simp at fp ⊢;omega)
        have H':=qaa.mk H
        clear H
        have ki:=ac.out
        have kj:=ae.out
        obtain⟨bx,bz,bB,bC,bD,bE,bF⟩:=sC7 (w:=w5) aa.out
        obtain⟨bG,bH,bI,bJ,bK,bL,bM⟩:=sF7 aa.out
        obtain⟨bN,bO,bP,bQ,bR,bS,bT⟩:=sC7 (w:=w5) ab.out
        obtain⟨bU,bV,bW,bX,bY,bZ,b8⟩:=sF7 ab.out
        go_wp2
        repeat (go_quiet (fail);try go_wp2)
        go_meet
        case rel=>exact⟨_,(true),(by first|rfl|(simp;done)|(simp [*];done)),H',⟨by first|omega|exact Nat.le_refl _⟩,⟨by refine sM ?_;exact aa.out⟩,⟨by refine sM ?_;exact ab.out⟩,⟨by repeat (first|(with_reducible first|exact HB.out|apply qah|apply qae|apply qag|refine qad ?_ am.out|refine qad ?_ ap.out)|exact HB.out)⟩⟩
      ·rw [if_neg fv] at H
       have fm:(aw == aC)=false:=beq_eq_false_iff_ne.mpr fv
       have fo:(aw != aC)=true:=bne_iff_ne.mpr fv
       have H':=qaa.mk H
       clear H
       have km:=ac.out
       have kn:=ae.out
       obtain⟨b9,ca,cb,ce,cf,cg,cj⟩:=sC7 (w:=w5) aa.out
       obtain⟨ck,cm,co,cp,cq,cr,ct⟩:=sF7 aa.out
       obtain⟨cu,cv,cw,cx,cy,cz,cA⟩:=sC7 (w:=w5) ab.out
       obtain⟨cB,cC,cD,cE,cF,cG,cH⟩:=sF7 ab.out
       go_wp2
       repeat (go_quiet (fail);try go_wp2)
       go_meet
       case rel=>exact⟨_,(true),(by first|rfl|(simp;done)|(simp [*];done)),H',⟨by first|omega|exact Nat.le_refl _⟩,⟨by refine sM ?_;exact aa.out⟩,⟨by refine sM ?_;exact ab.out⟩,⟨by repeat (first|(with_reducible first|exact HB.out|apply qah|apply qae|apply qag|refine qad ?_ am.out|refine qad ?_ ap.out)|exact HB.out)⟩⟩
     ·rw [if_neg c9] at H
      have fB:(av == aA)=false:=beq_eq_false_iff_ne.mpr c9
      have fC:(av != aA)=true:=bne_iff_ne.mpr c9
      have H':=qaa.mk H
      clear H
      have ko:=ac.out
      have kp:=ae.out
      obtain⟨cI,cJ,cK,cL,cM,cN,cO⟩:=sC7 (w:=w5) aa.out
      obtain⟨cP,cQ,cR,cS,cT,cU,cV⟩:=sF7 aa.out
      obtain⟨cW,cX,cY,cZ,da,db,dc⟩:=sC7 (w:=w5) ab.out
      obtain⟨dd,de,df,dg,dh,di,dj⟩:=sF7 ab.out
      go_wp2
      repeat (go_quiet (fail);try go_wp2)
      go_meet
      case rel=>exact⟨_,(true),(by first|rfl|(simp;done)|(simp [*];done)),H',⟨by first|omega|exact Nat.le_refl _⟩,⟨by refine sM ?_;exact aa.out⟩,⟨by refine sM ?_;exact ab.out⟩,⟨by repeat (first|(with_reducible first|exact HB.out|apply qah|apply qae|apply qag|refine qad ?_ am.out|refine qad ?_ ap.out)|exact HB.out)⟩⟩
    ·rw [if_neg c8] at H
     have fz:(au == az)=false:=beq_eq_false_iff_ne.mpr c8
     have fA:(au != az)=true:=bne_iff_ne.mpr c8
     have H':=qaa.mk H
     clear H
     have kr:=ac.out
     have ks:=ae.out
     obtain⟨dk,dl,dm,dn,dp,dq,dr⟩:=sC7 (w:=w5) aa.out
     obtain⟨du,dv,dw,dx,dy,dz,dA⟩:=sF7 aa.out
     obtain⟨dB,dC,dD,dE,dF,dG,dH⟩:=sC7 (w:=w5) ab.out
     obtain⟨dI,dJ,dK,dL,dM,dN,dO⟩:=sF7 ab.out
     go_wp2
     repeat (go_quiet (fail);try go_wp2)
     go_meet
     case rel=>exact⟨_,(true),(by first|rfl|(simp;done)|(simp [*];done)),H',⟨by first|omega|exact Nat.le_refl _⟩,⟨by refine sM ?_;exact aa.out⟩,⟨by refine sM ?_;exact ab.out⟩,⟨by repeat (first|(with_reducible first|exact HB.out|apply qah|apply qae|apply qag|refine qad ?_ am.out|refine qad ?_ ap.out)|exact HB.out)⟩⟩
   ·rw [if_neg c7] at H
    have fx:(ar == ay)=false:=beq_eq_false_iff_ne.mpr c7
    have fy:(ar != ay)=true:=bne_iff_ne.mpr c7
    have H':=qaa.mk H
    clear H
    have kt:=ac.out
    have ku:=ae.out
    obtain⟨dP,dQ,dT,dU,dV,dW,dX⟩:=sC7 (w:=w5) aa.out
    obtain⟨dY,dZ,d7,d8,d9,ea,eb⟩:=sF7 aa.out
    obtain⟨ec,ed,ef,eg,eh,ek,el⟩:=sC7 (w:=w5) ab.out
    obtain⟨en,ep,eq,er,es,et,eu⟩:=sF7 ab.out
    go_wp2
    repeat (go_quiet (fail);try go_wp2)
    go_meet
    case rel=>exact⟨_,(true),(by first|rfl|(simp;done)|(simp [*];done)),H',⟨by first|omega|exact Nat.le_refl _⟩,⟨by refine sM ?_;exact aa.out⟩,⟨by refine sM ?_;exact ab.out⟩,⟨by repeat (first|(with_reducible first|exact HB.out|apply qah|apply qae|apply qag|refine qad ?_ am.out|refine qad ?_ ap.out)|exact HB.out)⟩⟩
  ·rw [if_neg c6] at H
   have fb:(aq == ax)=false:=beq_eq_false_iff_ne.mpr c6
   have fw:(aq != ax)=true:=bne_iff_ne.mpr c6
   (first|rw [fb]|(simp only [qaC,qaE];rw [fb])|skip)
   have H':=qaa.mk H
   clear H
   have kv:=ac.out
   have kx:=ae.out
   obtain⟨ev,ew,ex,ey,ez,eA,eB⟩:=sC7 (w:=w5) aa.out
   obtain⟨eC,eD,eE,eF,eG,eH,eI⟩:=sF7 aa.out
   obtain⟨eJ,eK,eL,eM,eN,eO,eP⟩:=sC7 (w:=w5) ab.out
   obtain⟨eQ,eR,eS,eT,eU,eV,eW⟩:=sF7 ab.out
   go_wp2
   repeat (go_quiet (fail);try go_wp2)
   go_meet
   case rel=>exact⟨_,(true),(by first|rfl|(simp;done)|(simp [*];done)),H',⟨by first|omega|exact Nat.le_refl _⟩,⟨by refine sM ?_;exact aa.out⟩,⟨by refine sM ?_;exact ab.out⟩,⟨by repeat (first|(with_reducible first|exact HB.out|apply qah|apply qae|apply qag|refine qad ?_ am.out|refine qad ?_ ap.out)|exact HB.out)⟩⟩
 case rest=>
  clear j9
  try clear c1
  try clear c2
  try clear p2
  try clear c3
  try clear c5
  try clear c6
  try clear fb
  try clear fw
  try clear c7
  try clear fx
  try clear fy
  try clear c8
  try clear fz
  try clear fA
  try clear c9
  try clear fB
  try clear fC
  try clear fv
  try clear fm
  try clear fo
  try clear fp
  try clear fq
  try clear ft
  try clear fu
  try clear ky
  try clear kz
  try clear kA
  try clear kB
  try clear kC
  try clear kD
  try clear kE
  try clear aI aJ aK aM aN aQ aT
  try clear ba be bf bg bh bi bj
  try clear bx bz bB bC bD bE bF
  try clear bN bO bP bQ bR bS bT
  try clear b9 ca cb ce cf cg cj
  try clear cu cv cw cx cy cz cA
  try clear cI cJ cK cL cM cN cO
  try clear cW cX cY cZ da db dc
  try clear dk dl dm dn dp dq dr
  try clear dB dC dD dE dF dG dH
  try clear dP dQ dT dU dV dW dX
  try clear ec ed ef eg eh ek el
  try clear ev ew ex ey ez eA eB
  try clear eJ eK eL eM eN eO eP
  try clear aU aV aW aX aY aZ a8
  try clear bm bn bp bq bt bv bw
  try clear bG bH bI bJ bK bL bM
  try clear bU bV bW bX bY bZ b8
  try clear ck cm co cp cq cr ct
  try clear cB cC cD cE cF cG cH
  try clear cP cQ cR cS cT cU cV
  try clear dd de df dg dh di dj
  try clear du dv dw dx dy dz dA
  try clear dI dJ dK dL dM dN dO
  try clear dY dZ d7 d8 d9 ea eb
  try clear en ep eq er es et eu
  try clear eC eD eE eF eG eH eI
  try clear eQ eR eS eT eU eV eW
  obtain⟨kq,fl,rfl,HA,iG,aa,ab,HB⟩:=hcut
  cases kq with
  |zero=>exact absurd HA.out (by simp [ostinatoref05_SameTask.j0])
  |succ ka=>
   have H:=HA.out
   clear HA
   simp only [ostinatoref05_SameTask.j0] at H
   by_cases ir:fl=true
   ·subst ir
    have H1:(some false)=some r:=by rw [if_pos rfl] at H;exact H
    clear H
    have H:=H1
    clear H1
    obtain rfl:=Option.some.inj H
    go_wp2
    repeat (go_quiet (fail);try go_wp2)
    go_ret
    exact⟨by first|rfl|(simp [qam,qal]<;>rfl)|(simp [bneNil,bneNilU]<;>rfl)|(simp [*,qam,qal]<;>rfl),by repeat (first|(with_reducible first|exact HB.out|apply qah|apply qae|apply qag|refine qad ?_ am.out|refine qad ?_ ap.out)|exact HB.out)⟩
   ·replace ir:=Bool.eq_false_iff.mpr ir
    subst ir
    have H1:(ostinatoref05_SameTask.l0 ka 0 aq ar au av aw af ah ax ay az aA aC ag ai)=some r:=by rw [if_neg (show ¬ (false=true) by decide)] at H;exact H
    clear H
    have H:=H1
    clear H1
    have H':=qaa.mk H
    clear H
    go_wp2
    repeat (go_quiet (fail);try go_wp2)
    go_loopg [5] ka (fun kq v5 w'=>∃ (aj:Int),v5=.int .i64 aj∧qaa (ostinatoref05_SameTask.l0 kq aj aq ar au av aw af ah ax ay az aA aC ag ai=some r)∧qaa (kq≤ka)∧qaa (w'.heap[al]? = some (.cells #[.int .i64 aq,.int .i64 ar,.int .i64 au,.int .i64 av,.int .i64 aw,(.slice A0_5 af.length c0_5),(.slice A0_6 ah.length c0_6)] 53 (0,0)))∧qaa (w'.heap[an]? = some (.cells #[.int .i64 ax,.int .i64 ay,.int .i64 az,.int .i64 aA,.int .i64 aC,(.slice eX ag.length eY),(.slice eZ ai.length fa)] 53 (0,0)))∧qaa (Below w.heap.size w w'))
    case atStart=>exact⟨(0),(by first|rfl|(simp;done)|(simp [*];done)),H',⟨Nat.le_refl _⟩,⟨by refine sM ?_;exact aa.out⟩,⟨by refine sM ?_;exact ab.out⟩,⟨by repeat (first|(with_reducible first|exact HB.out|apply qah|apply qae|apply qag|refine qad ?_ am.out|refine qad ?_ ap.out)|exact HB.out)⟩⟩
    case round=>
     clear H'
     try clear c1
     try clear c2
     try clear p2
     try clear c3
     try clear c5
     try clear c6
     try clear fb
     try clear fw
     try clear c7
     try clear fx
     try clear fy
     try clear c8
     try clear fz
     try clear fA
     try clear c9
     try clear fB
     try clear fC
     try clear fv
     try clear fm
     try clear fo
     try clear fp
     try clear fq
     try clear ft
     try clear fu
     try clear ky
     try clear kz
     try clear kA
     try clear kB
     try clear kC
     try clear kD
     try clear kE
     try clear ir
     try clear aI aJ aK aM aN aQ aT
     try clear ba be bf bg bh bi bj
     try clear bx bz bB bC bD bE bF
     try clear bN bO bP bQ bR bS bT
     try clear b9 ca cb ce cf cg cj
     try clear cu cv cw cx cy cz cA
     try clear cI cJ cK cL cM cN cO
     try clear cW cX cY cZ da db dc
     try clear dk dl dm dn dp dq dr
     try clear dB dC dD dE dF dG dH
     try clear dP dQ dT dU dV dW dX
     try clear ec ed ef eg eh ek el
     try clear ev ew ex ey ez eA eB
     try clear eJ eK eL eM eN eO eP
     try clear aU aV aW aX aY aZ a8
     try clear bm bn bp bq bt bv bw
     try clear bG bH bI bJ bK bL bM
     try clear bU bV bW bX bY bZ b8
     try clear ck cm co cp cq cr ct
     try clear cB cC cD cE cF cG cH
     try clear cP cQ cR cS cT cU cV
     try clear dd de df dg dh di dj
     try clear du dv dw dx dy dz dA
     try clear dI dJ dK dL dM dN dO
     try clear dY dZ d7 d8 d9 ea eb
     try clear en ep eq er es et eu
     try clear eC eD eE eF eG eH eI
     try clear eQ eR eS eT eU eV eW
     try clear p2
     obtain⟨aj,rfl,HA,iH,aa,ab,HB⟩:=hrel
     cases gk with
     |zero=>exact absurd HA.out (by simp [ostinatoref05_SameTask.l0])
     |succ k2=>
      have H:=HA.out
      clear HA
      simp only [ostinatoref05_SameTask.l0] at H
      by_cases ik:aj<(af.length:Int)
      ·rw [if_pos ik] at H
       have ie:decide (aj<(af.length:Int))=true:=decide_eq_true ik
       clear ik
       by_cases iv:0≤aj
       ·rw [if_pos iv] at H
        have iw:decide (0≤aj)=true:=decide_eq_true iv
        clear iv
        by_cases ix:aj<(ag.length:Int)
        ·rw [if_pos ix] at H
         have iy:decide (aj<(ag.length:Int))=true:=decide_eq_true ix
         clear ix
         by_cases ig:(rd af aj)=(rd ag aj)
         ·rw [if_pos ig] at H
          have ii:((rd af aj) == (rd ag aj))=true:=beq_iff_eq.mpr ig
          have ij:((rd af aj) != (rd ag aj))=false:=bne_eq_false_iff_eq.mpr ig
          clear ig
          have H':=qaa.mk H
          clear H
          have kF:=ac.out
          have kG:=ae.out
          obtain⟨fD,fE,fF,fG,fH,fI,fJ⟩:=sC7 (w:=wr) aa.out
          obtain⟨fK,fL,fM,fN,fO,fP,fQ⟩:=sF7 aa.out
          have fc:0≤(aj:Int):=of_decide_eq_true sA
          have fe:aj<(af.length:Int):=of_decide_eq_true sA
          obtain⟨iz,il,aD⟩:=Kd.at_int hO.out aj fc fe
          cases il
          replace aD:=(HB.out.cell (bLt w _ aD)).trans aD
          replace fc:=eq_true fc
          replace fe:=eq_true fe
          obtain⟨fR,fS,fT,fU,fV,fW,fX⟩:=sC7 (w:=wr) ab.out
          obtain⟨fY,fZ,ga,gb,gc,ge,gf⟩:=sF7 ab.out
          have ff:0≤(aj:Int):=of_decide_eq_true sA
          have fg:aj<(ag.length:Int):=of_decide_eq_true sA
          obtain⟨iA,im,aE⟩:=Kd.at_int hY.out aj ff fg
          cases im
          replace aE:=(HB.out.cell (bLt w _ aE)).trans aE
          replace ff:=eq_true ff
          replace fg:=eq_true fg
          go_wp2
          repeat (go_quiet (fail);try go_wp2)
          go_roundg k2
          case measure=>have:=iG.out;have:=iH.out;omega
          case rel=>exact⟨(wrap64 (aj+1)),(by first|rfl|(simp;done)|(simp [*];done)),H',⟨by have:=iG.out;have:=iH.out;omega⟩,⟨by refine sM ?_;exact aa.out⟩,⟨by refine sM ?_;exact ab.out⟩,⟨by repeat (first|(with_reducible first|exact HB.out|apply qah|apply qae|apply qag|refine qad ?_ am.out|refine qad ?_ ap.out)|exact HB.out)⟩⟩
         ·rw [if_neg ig] at H
          have ii:((rd af aj) == (rd ag aj))=false:=beq_eq_false_iff_ne.mpr ig
          have ij:((rd af aj) != (rd ag aj))=true:=bne_iff_ne.mpr ig
          obtain rfl:=Option.some.inj H
          have kH:=ac.out
          have kI:=ae.out
          obtain⟨gg,gh,gi,gj,gl,gm,gn⟩:=sC7 (w:=wr) aa.out
          obtain⟨go,gp,gq,gr,gt,gu,gv⟩:=sF7 aa.out
          have fc:0≤(aj:Int):=of_decide_eq_true sA
          have fe:aj<(af.length:Int):=of_decide_eq_true sA
          obtain⟨iz,il,aD⟩:=Kd.at_int hO.out aj fc fe
          cases il
          replace aD:=(HB.out.cell (bLt w _ aD)).trans aD
          replace fc:=eq_true fc
          replace fe:=eq_true fe
          obtain⟨gw,gx,gy,gz,gA,gB,gC⟩:=sC7 (w:=wr) ab.out
          obtain⟨gD,gE,gF,gG,gH,gI,gJ⟩:=sF7 ab.out
          have ff:0≤(aj:Int):=of_decide_eq_true sA
          have fg:aj<(ag.length:Int):=of_decide_eq_true sA
          obtain⟨iA,im,aE⟩:=Kd.at_int hY.out aj ff fg
          cases im
          replace aE:=(HB.out.cell (bLt w _ aE)).trans aE
          replace ff:=eq_true ff
          replace fg:=eq_true fg
          go_wp2
          repeat (go_quiet (fail);try go_wp2)
          go_ret
          exact⟨by first|rfl|(simp [qam,qal]<;>rfl)|(simp [bneNil,bneNilU]<;>rfl)|(simp [*,qam,qal]<;>rfl),by repeat (first|(with_reducible first|exact HB.out|apply qah|apply qae|apply qag|refine qad ?_ am.out|refine qad ?_ ap.out)|exact HB.out)⟩
        ·rw [if_neg ix] at H
         exact absurd H (by simp)
       ·rw [if_neg iv] at H
        exact absurd H (by simp)
      ·rw [if_neg ik] at H
       have ie:decide (aj<(af.length:Int))=false:=decide_eq_false ik
       clear ik
       have H':=qaa.mk H
       clear H
       have kJ:=ac.out
       have kK:=ae.out
       obtain⟨gK,gL,gM,gN,gO,gP,gQ⟩:=sC7 (w:=wr) aa.out
       obtain⟨gR,gS,gT,gU,gV,gW,gX⟩:=sF7 aa.out
       go_wp2
       repeat (go_quiet (fail);try go_wp2)
       go_loopg [6] k2 (fun kq v6 w'=>∃ (ak:Int),v6=.int .i64 ak∧qaa (ostinatoref05_SameTask.l1 kq ak aq ar au av aw af ah ax ay az aA aC ag ai=some r)∧qaa (kq≤k2)∧qaa (w'.heap[al]? = some (.cells #[.int .i64 aq,.int .i64 ar,.int .i64 au,.int .i64 av,.int .i64 aw,(.slice A0_5 af.length c0_5),(.slice A0_6 ah.length c0_6)] 53 (0,0)))∧qaa (w'.heap[an]? = some (.cells #[.int .i64 ax,.int .i64 ay,.int .i64 az,.int .i64 aA,.int .i64 aC,(.slice eX ag.length eY),(.slice eZ ai.length fa)] 53 (0,0)))∧qaa (Below w.heap.size w w'))
       case atStart=>exact⟨(0),(by first|rfl|(simp;done)|(simp [*];done)),H',⟨Nat.le_refl _⟩,⟨by refine sM ?_;exact aa.out⟩,⟨by refine sM ?_;exact ab.out⟩,⟨by repeat (first|(with_reducible first|exact HB.out|apply qah|apply qae|apply qag|refine qad ?_ am.out|refine qad ?_ ap.out)|exact HB.out)⟩⟩
       case round=>
        clear H'
        try clear c1
        try clear c2
        try clear p2
        try clear c3
        try clear p3
        try clear q3
        try clear kX
        try clear c4
        try clear c5
        try clear c6
        try clear fb
        try clear fw
        try clear p6
        try clear c7
        try clear fx
        try clear fy
        try clear c8
        try clear fz
        try clear fA
        try clear c9
        try clear fB
        try clear fC
        try clear fv
        try clear fm
        try clear fo
        try clear fp
        try clear fq
        try clear ft
        try clear fu
        try clear ky
        try clear kz
        try clear kA
        try clear kB
        try clear kC
        try clear kD
        try clear kE
        try clear p30
        try clear kY
        try clear kW
        try clear ir
        try clear ik
        try clear ie
        try clear iv
        try clear iw
        try clear ix
        try clear iy
        try clear ig
        try clear ii
        try clear ij
        try clear kZ
        try clear k7
        try clear k8
        try clear aI aJ aK aM aN aQ aT
        try clear ba be bf bg bh bi bj
        try clear bx bz bB bC bD bE bF
        try clear bN bO bP bQ bR bS bT
        try clear b9 ca cb ce cf cg cj
        try clear cu cv cw cx cy cz cA
        try clear cI cJ cK cL cM cN cO
        try clear cW cX cY cZ da db dc
        try clear dk dl dm dn dp dq dr
        try clear dB dC dD dE dF dG dH
        try clear dP dQ dT dU dV dW dX
        try clear ec ed ef eg eh ek el
        try clear ev ew ex ey ez eA eB
        try clear eJ eK eL eM eN eO eP
        try clear fD fE fF fG fH fI fJ
        try clear fR fS fT fU fV fW fX
        try clear gg gh gi gj gl gm gn
        try clear gw gx gy gz gA gB gC
        try clear gK gL gM gN gO gP gQ
        try clear aU aV aW aX aY aZ a8
        try clear bm bn bp bq bt bv bw
        try clear bG bH bI bJ bK bL bM
        try clear bU bV bW bX bY bZ b8
        try clear ck cm co cp cq cr ct
        try clear cB cC cD cE cF cG cH
        try clear cP cQ cR cS cT cU cV
        try clear dd de df dg dh di dj
        try clear du dv dw dx dy dz dA
        try clear dI dJ dK dL dM dN dO
        try clear dY dZ d7 d8 d9 ea eb
        try clear en ep eq er es et eu
        try clear eC eD eE eF eG eH eI
        try clear eQ eR eS eT eU eV eW
        try clear fK fL fM fN fO fP fQ
        try clear fY fZ ga gb gc ge gf
        try clear go gp gq gr gt gu gv
        try clear gD gE gF gG gH gI gJ
        try clear gR gS gT gU gV gW gX
        try clear aD
        try clear aE
        try clear p2
        try clear fc
        try clear ff
        try clear fe
        try clear fg
        obtain⟨ak,rfl,HA,kL,aa,ab,HB⟩:=hrel
        cases gk with
        |zero=>exact absurd HA.out (by simp [ostinatoref05_SameTask.l1])
        |succ k3=>
         have H:=HA.out
         clear HA
         simp only [ostinatoref05_SameTask.l1] at H
         by_cases iu:ak<(ah.length:Int)
         ·rw [if_pos iu] at H
          have iB:decide (ak<(ah.length:Int))=true:=decide_eq_true iu
          clear iu
          by_cases iI:0≤ak
          ·rw [if_pos iI] at H
           have kM:decide (0≤ak)=true:=decide_eq_true iI
           clear iI
           by_cases iJ:ak<(ai.length:Int)
           ·rw [if_pos iJ] at H
            have kN:decide (ak<(ai.length:Int))=true:=decide_eq_true iJ
            clear iJ
            by_cases io:(rd ah ak)=(rd ai ak)
            ·rw [if_pos io] at H
             have iC:((rd ah ak) == (rd ai ak))=true:=beq_iff_eq.mpr io
             have iD:((rd ah ak) != (rd ai ak))=false:=bne_eq_false_iff_eq.mpr io
             clear io
             have H':=qaa.mk H
             clear H
             have kO:=ac.out
             have kP:=ae.out
             obtain⟨iK,iL,iM,iN,iO,iP,iQ⟩:=sC7 (w:=wr) aa.out
             obtain⟨iR,iS,iT,iU,iV,iW,iX⟩:=sF7 aa.out
             have fh:0≤(ak:Int):=of_decide_eq_true sA
             have fi:ak<(ah.length:Int):=of_decide_eq_true sA
             obtain⟨iE,ip,aG⟩:=Kd.at_int hX.out ak fh fi
             cases ip
             replace aG:=(HB.out.cell (bLt w _ aG)).trans aG
             replace fh:=eq_true fh
             replace fi:=eq_true fi
             obtain⟨iY,iZ,i7,i8,ja,jb,jc⟩:=sC7 (w:=wr) ab.out
             obtain⟨jd,je,jf,jg,jh,ji,jj⟩:=sF7 ab.out
             have fj:0≤(ak:Int):=of_decide_eq_true sA
             have fk:ak<(ai.length:Int):=of_decide_eq_true sA
             obtain⟨iF,iq,aH⟩:=Kd.at_int ia.out ak fj fk
             cases iq
             replace aH:=(HB.out.cell (bLt w _ aH)).trans aH
             replace fj:=eq_true fj
             replace fk:=eq_true fk
             go_wp2
             repeat (go_quiet (fail);try go_wp2)
             go_roundg k3
             case measure=>have:=iG.out;have:=iH.out;have:=kL.out;omega
             case rel=>exact⟨(wrap64 (ak+1)),(by first|rfl|(simp;done)|(simp [*];done)),H',⟨by have:=iG.out;have:=iH.out;have:=kL.out;omega⟩,⟨by refine sM ?_;exact aa.out⟩,⟨by refine sM ?_;exact ab.out⟩,⟨by repeat (first|(with_reducible first|exact HB.out|apply qah|apply qae|apply qag|refine qad ?_ am.out|refine qad ?_ ap.out)|exact HB.out)⟩⟩
            ·rw [if_neg io] at H
             have iC:((rd ah ak) == (rd ai ak))=false:=beq_eq_false_iff_ne.mpr io
             have iD:((rd ah ak) != (rd ai ak))=true:=bne_iff_ne.mpr io
             obtain rfl:=Option.some.inj H
             have kQ:=ac.out
             have kR:=ae.out
             obtain⟨jk,jl,jm,jn,jo,jp,jq⟩:=sC7 (w:=wr) aa.out
             obtain⟨jr,js,jt,ju,jv,jw,jx⟩:=sF7 aa.out
             have fh:0≤(ak:Int):=of_decide_eq_true sA
             have fi:ak<(ah.length:Int):=of_decide_eq_true sA
             obtain⟨iE,ip,aG⟩:=Kd.at_int hX.out ak fh fi
             cases ip
             replace aG:=(HB.out.cell (bLt w _ aG)).trans aG
             replace fh:=eq_true fh
             replace fi:=eq_true fi
             obtain⟨jy,jz,jA,jB,jC,jD,jE⟩:=sC7 (w:=wr) ab.out
             obtain⟨jF,jG,jH,jI,jJ,jK,jL⟩:=sF7 ab.out
             have fj:0≤(ak:Int):=of_decide_eq_true sA
             have fk:ak<(ai.length:Int):=of_decide_eq_true sA
             obtain⟨iF,iq,aH⟩:=Kd.at_int ia.out ak fj fk
             cases iq
             replace aH:=(HB.out.cell (bLt w _ aH)).trans aH
             replace fj:=eq_true fj
             replace fk:=eq_true fk
             go_wp2
             repeat (go_quiet (fail);try go_wp2)
             go_ret
             exact⟨by first|rfl|(simp [qam,qal]<;>rfl)|(simp [bneNil,bneNilU]<;>rfl)|(simp [*,qam,qal]<;>rfl),by repeat (first|(with_reducible first|exact HB.out|apply qah|apply qae|apply qag|refine qad ?_ am.out|refine qad ?_ ap.out)|exact HB.out)⟩
           ·rw [if_neg iJ] at H
            exact absurd H (by simp)
          ·rw [if_neg iI] at H
           exact absurd H (by simp)
         ·rw [if_neg iu] at H
          have iB:decide (ak<(ah.length:Int))=false:=decide_eq_false iu
          clear iu
          obtain rfl:=Option.some.inj H
          have kS:=ac.out
          have kT:=ae.out
          obtain⟨jM,jN,jO,jP,jQ,jR,jS⟩:=sC7 (w:=wr) aa.out
          obtain⟨jT,jU,jV,jW,jX,jY,jZ⟩:=sF7 aa.out
          go_wp2
          repeat (go_quiet (fail);try go_wp2)
          go_ret
          exact⟨by first|rfl|(simp [qam,qal]<;>rfl)|(simp [bneNil,bneNilU]<;>rfl)|(simp [*,qam,qal]<;>rfl),by repeat (first|(with_reducible first|exact HB.out|apply qah|apply qae|apply qag|refine qad ?_ am.out|refine qad ?_ ap.out)|exact HB.out)⟩
end
end Go.Proofs.YtgnaaokhfpfglaaDoor.PCertTold
end
section
namespace Go.Proofs.YtgnaaokhfpfglaaDoor.PCertTold
open Go.RowKit Go.Proofs.YtgnaaokhfpfglaaDoorW.PrintWords Go.Proofs.YtgnaaokhfpfglaaDoorW.PrintLast Go.Proofs.YtgnaaokhfpfglaaDoorW.PrintMore
attribute [local go_sem] qaW qaU qa3 qa2 qaN qaM qaV qaT
set_option linter.unusedVariables false
set_option linter.unusedSimpArgs false
noncomputable section
def ostinatoref05_SameTasks.l0:Nat→List (S53)→List (S53)→Int→Option (Bool)
 |0,_,_,_=>none
 |k+1,x0,x1,x5=>if x5<(x0.length:Int) then (if 0≤x5 then (if x5<(x1.length:Int) then ((ostinatoref05_SameTask.f k ((qaj x0 x5).f0) ((qaj x0 x5).f1) ((qaj x0 x5).f2) ((qaj x0 x5).f3) ((qaj x0 x5).f4) ((qaj x0 x5).f5) ((qaj x0 x5).f6) ((qaj x1 x5).f0) ((qaj x1 x5).f1) ((qaj x1 x5).f2) ((qaj x1 x5).f3) ((qaj x1 x5).f4) ((qaj x1 x5).f5) ((qaj x1 x5).f6)).bind fun aa=>(if aa=true then (ostinatoref05_SameTasks.l0 k x0 x1 (wrap64 (x5+1))) else (some false))) else (none)) else (none)) else (some true)
def ostinatoref05_SameTasks.f (k:Nat) (l0:List (S53)) (l1:List (S53)):Option (Bool):=if (l0.length:Int)=(l1.length:Int) then (ostinatoref05_SameTasks.l0 k l0 l1 0) else (some false)
def ostinatoref05_SameTasks.T6:Bool × List (List Nat × List Nat):=(true,[([],[]),([],[]),([0,1],[0,1]),([2],[2]),([],[]),([],[]),([4,5],[4,5]),([6],[6]),([3,7],[3,7]),([8,8,0,1,2,3,4,5,6,7,8],[8])])
def ostinatoref05_SameTasks.B6:List Nat:=[0,0,3,7,0,0,48,112,255,511]
theorem ostinatoref05_SameTasks.tab6:rtab .any (opsOf Tryd.f43 6)=ostinatoref05_SameTasks.T6:=by kernel_rfl
theorem ostinatoref05_SameTasks.bits6:waitsOk ostinatoref05_SameTasks.T6.2 ostinatoref05_SameTasks.B6=true:=by kernel_rfl
theorem ostinatoref05_SameTasks.calls (k:Nat) (A0:Option Addr) (c0:Nat) (l0:List (S53)) (A1:Option Addr) (c1:Nat) (l1:List (S53)) (r:Bool) (w:World) (bV:Kd.C k53 w A0 l0.length l0) (bW:l0.length≤c0) (bX:Kd.C k53 w A1 l1.length l1) (bY:l1.length≤c1) (h:ostinatoref05_SameTasks.f k l0 l1=some r) :
  Calls Tryd.prog 43 #[.slice A0 l0.length c0,.slice A1 l1.length c1] w fun e w'=>e=.returned (.bool r)∧Below w.heap.size w w':=by
 have cb:=Tryd.underlying53
 have bZ:=qaa.mk bV
 have cj:=qaa.mk bW
 clear bV bW
 have b8:=qaa.mk bX
 have ck:=qaa.mk bY
 clear bX bY
 have HB:=qaa.mk (Below.refl w.heap.size w)
 have H:(if (l0.length:Int)=(l1.length:Int) then (ostinatoref05_SameTasks.l0 k l0 l1 0) else (some false))=some r:=h
 clear h
 by_cases c3:(l0.length:Int)=(l1.length:Int)
 ·rw [if_pos c3] at H
  have bM:((l0.length:Int) == (l1.length:Int))=true:=beq_iff_eq.mpr c3
  have bN:((l0.length:Int) != (l1.length:Int))=false:=bne_eq_false_iff_eq.mpr c3
  have bO:(l0.length == l1.length)=true:=by first|simpa using c3|(simp at c3 ⊢;omega)
  clear c3
  have H':=qaa.mk H
  clear H
  go_enter Tryd.func43,Tryd.ntmps43
  go_wp2
  go_loopg [5] k (fun kq v5 w'=>∃ (aa:Int),v5=.int .i64 aa∧qaa (ostinatoref05_SameTasks.l0 kq l0 l1 aa=some r)∧qaa (kq≤k)∧qaa (Below w.heap.size w w'))
  case atStart=>exact⟨(0),(by first|rfl|(simp;done)|(simp [*];done)),H',⟨Nat.le_refl _⟩,⟨by repeat (first|(with_reducible first|exact HB.out|apply qah|apply qae|apply qag)|exact HB.out)⟩⟩
  case round=>
   clear H'
   try clear c1
   try clear p2
   try clear c3
   try clear bM
   try clear bN
   try clear bO
   obtain⟨aa,rfl,HA,b9,HB⟩:=hrel
   cases gk with
   |zero=>exact absurd HA.out (by simp [ostinatoref05_SameTasks.l0])
   |succ k1=>
    have H:=HA.out
    clear HA
    simp only [ostinatoref05_SameTasks.l0] at H
    by_cases c4:aa<(l0.length:Int)
    ·rw [if_pos c4] at H
     have bQ:decide (aa<(l0.length:Int))=true:=decide_eq_true c4
     clear c4
     by_cases c5:0≤aa
     ·rw [if_pos c5] at H
      have ce:decide (0≤aa)=true:=decide_eq_true c5
      clear c5
      by_cases c6:aa<(l1.length:Int)
      ·rw [if_pos c6] at H
       have cf:decide (aa<(l1.length:Int))=true:=decide_eq_true c6
       clear c6
       replace H:=Option.bind_eq_some_iff.mp H
       obtain⟨bP,ca,H⟩:=H
       replace H:(if bP=true then (ostinatoref05_SameTasks.l0 k1 l0 l1 (wrap64 (aa+1))) else (some false))=some r:=H
       have A7:=qaa.mk ca
       clear ca
       by_cases c8:bP=true
       ·subst c8
        have H1:(ostinatoref05_SameTasks.l0 k1 l0 l1 (wrap64 (aa+1)))=some r:=by rw [if_pos rfl] at H;exact H
        clear H
        have H:=H1
        clear H1
        have H':=qaa.mk H
        clear H
        try go_wp2
        replace HB:=qaa.mk (qag HB.out)
        have bw:0≤(aa:Int):=of_decide_eq_true sA
        have bx:aa<(l0.length:Int):=of_decide_eq_true sA
        obtain⟨ab,be,bf,bg,bh,bK,ae,af,ag,ah,ai,aj,ak,aM,aN,aQ,aT⟩:=at_T53 bZ.out aa bw bx
        have av:=ak
        have aw:=aj
        have ax:=ai
        have ay:=ah
        have az:=ag
        have aA:=af
        have aC:=ae
        cases bK
        replace ae:=(HB.out.cell (bLt w _ ae)).trans ae
        replace af:=(HB.out.cell (bLt w _ af)).trans af
        replace ag:=(HB.out.cell (bLt w _ ag)).trans ag
        replace ah:=(HB.out.cell (bLt w _ ah)).trans ah
        replace ai:=(HB.out.cell (bLt w _ ai)).trans ai
        replace aj:=(HB.out.cell (bLt w _ aj)).trans aj
        replace ak:=(HB.out.cell (bLt w _ ak)).trans ak
        have aU:=qaa.mk aN
        have bp:=qaa.mk aM
        clear aN aM
        have aV:=qaa.mk aT
        have bq:=qaa.mk aQ
        clear aT aQ
        replace bw:=eq_true bw
        replace bx:=eq_true bx
        have bz:0≤(aa:Int):=of_decide_eq_true sA
        have bB:aa<(l1.length:Int):=of_decide_eq_true sA
        obtain⟨ac,bi,bj,bm,bn,bL,al,am,an,ap,aq,ar,au,aW,aX,aY,aZ⟩:=at_T53 b8.out aa bz bB
        have aD:=au
        have aE:=ar
        have aG:=aq
        have aH:=ap
        have aI:=an
        have aJ:=am
        have aK:=al
        cases bL
        replace al:=(HB.out.cell (bLt w _ al)).trans al
        replace am:=(HB.out.cell (bLt w _ am)).trans am
        replace an:=(HB.out.cell (bLt w _ an)).trans an
        replace ap:=(HB.out.cell (bLt w _ ap)).trans ap
        replace aq:=(HB.out.cell (bLt w _ aq)).trans aq
        replace ar:=(HB.out.cell (bLt w _ ar)).trans ar
        replace au:=(HB.out.cell (bLt w _ au)).trans au
        have a8:=qaa.mk aX
        have bt:=qaa.mk aW
        clear aX aW
        have ba:=qaa.mk aZ
        have bv:=qaa.mk aY
        clear aZ aY
        replace bz:=eq_true bz
        replace bB:=eq_true bB
        refine start_ (n:=10) (S:=fun w'=>w'.cell? (ab.add ((aa).toNat * 7))=some (.int .i64 ((qaj l0 aa).f0))∧w'.cell? ⟨(ab.add ((aa).toNat * 7)).block,(ab.add ((aa).toNat * 7)).off+1,none⟩=some (.int .i64 ((qaj l0 aa).f1))∧w'.cell? ⟨(ab.add ((aa).toNat * 7)).block,(ab.add ((aa).toNat * 7)).off+2,none⟩=some (.int .i64 ((qaj l0 aa).f2))∧w'.cell? ⟨(ab.add ((aa).toNat * 7)).block,(ab.add ((aa).toNat * 7)).off+3,none⟩=some (.int .i64 ((qaj l0 aa).f3))∧w'.cell? ⟨(ab.add ((aa).toNat * 7)).block,(ab.add ((aa).toNat * 7)).off+4,none⟩=some (.int .i64 ((qaj l0 aa).f4))∧w'.cell? ⟨(ab.add ((aa).toNat * 7)).block,(ab.add ((aa).toNat * 7)).off+5,none⟩=some (.slice be ((qaj l0 aa).f5).length bf)∧w'.cell? ⟨(ab.add ((aa).toNat * 7)).block,(ab.add ((aa).toNat * 7)).off+6,none⟩=some (.slice bg ((qaj l0 aa).f6).length bh)∧w'.cell? (ac.add ((aa).toNat * 7))=some (.int .i64 ((qaj l1 aa).f0))∧w'.cell? ⟨(ac.add ((aa).toNat * 7)).block,(ac.add ((aa).toNat * 7)).off+1,none⟩=some (.int .i64 ((qaj l1 aa).f1))∧w'.cell? ⟨(ac.add ((aa).toNat * 7)).block,(ac.add ((aa).toNat * 7)).off+2,none⟩=some (.int .i64 ((qaj l1 aa).f2))∧w'.cell? ⟨(ac.add ((aa).toNat * 7)).block,(ac.add ((aa).toNat * 7)).off+3,none⟩=some (.int .i64 ((qaj l1 aa).f3))∧w'.cell? ⟨(ac.add ((aa).toNat * 7)).block,(ac.add ((aa).toNat * 7)).off+4,none⟩=some (.int .i64 ((qaj l1 aa).f4))∧w'.cell? ⟨(ac.add ((aa).toNat * 7)).block,(ac.add ((aa).toNat * 7)).off+5,none⟩=some (.slice bi ((qaj l1 aa).f5).length bj)∧w'.cell? ⟨(ac.add ((aa).toNat * 7)).block,(ac.add ((aa).toNat * 7)).off+6,none⟩=some (.slice bm ((qaj l1 aa).f6).length bn)) (ds:=[]) #[false,false,false,false,false,false,false,false,false,false] (by kernel_rfl) rfl rfl ⟨((HB.out.cell (bLt w _ aC)).trans aC),((HB.out.cell (bLt w _ aA)).trans aA),((HB.out.cell (bLt w _ az)).trans az),((HB.out.cell (bLt w _ ay)).trans ay),((HB.out.cell (bLt w _ ax)).trans ax),((HB.out.cell (bLt w _ aw)).trans aw),((HB.out.cell (bLt w _ av)).trans av),((HB.out.cell (bLt w _ aK)).trans aK),((HB.out.cell (bLt w _ aJ)).trans aJ),((HB.out.cell (bLt w _ aI)).trans aI),((HB.out.cell (bLt w _ aH)).trans aH),((HB.out.cell (bLt w _ aG)).trans aG),((HB.out.cell (bLt w _ aE)).trans aE),((HB.out.cell (bLt w _ aD)).trans aD)⟩ (fun hHeld=>?_);refine qaX ostinatoref05_SameTasks.tab6 ostinatoref05_SameTasks.bits6 (fun HT_ HW_=>?_)
        generalize wr.drew=w9 at HB aU aV a8 ba ae af ag ah ai aj ak al am an ap aq ar au hHeld ⊢
        refine sP 0 (some 18) rfl rfl ?_
        refine sP 1 (some 19) rfl rfl ?_
        refine sP 2 (some 20) rfl rfl ?_
        refine sP 4 (some 22) rfl rfl ?_
        refine sP 5 (some 23) rfl rfl ?_
        refine sP 6 (some 24) rfl rfl ?_
        refine qaZ (i:=3) (N:=some 21) (v:=?_) (a':=?_) #[true,true,true,true,true,true,true,false,false,false] rfl rfl (qay HT_.out HW_.out (by kernel_rfl)) (fun _ _ _ h=>h) (Or.inl ⟨by rfl,?_⟩) hHeld ?_ ?_
        rotate_left
        ·rintro w' ⟨s0,s1,s2,s3,s4,s5,s6,s7,s8,s9,bR,bS,bT,bU⟩
         go_simp
         with_reducible rfl
        rotate_left
        ·simp only [Act.put,List.setIfInBounds_toArray,List.set_cons_zero,List.set_cons_succ,qaC,qaE]
         rfl
        refine qaZ (i:=7) (N:=some 25) (v:=?_) (a':=?_) #[true,true,true,true,true,true,true,true,false,false] rfl rfl (qay HT_.out HW_.out (by kernel_rfl)) (fun _ _ _ h=>h) (Or.inl ⟨by rfl,?_⟩) hHeld ?_ ?_
        rotate_left
        ·rintro w' ⟨s0,s1,s2,s3,s4,s5,s6,s7,s8,s9,bR,bS,bT,bU⟩
         go_simp
         with_reducible rfl
        rotate_left
        ·simp only [Act.put,List.setIfInBounds_toArray,List.set_cons_zero,List.set_cons_succ,qaC,qaE]
         rfl
        refine one_ (i:=8) (N:=some 26) #[true,true,true,true,true,true,true,true,true,false] rfl rfl (qaO HT_.out (by kernel_rfl)) (by decide) (fun K hK=>?_)
        refine goes_ Tryd.func59 (by kernel_rfl) rfl #[.agg #[.int .i64 ((qaj l0 aa).f0),.int .i64 ((qaj l0 aa).f1),.int .i64 ((qaj l0 aa).f2),.int .i64 ((qaj l0 aa).f3),.int .i64 ((qaj l0 aa).f4),.slice be ((qaj l0 aa).f5).length bf,.slice bg ((qaj l0 aa).f6).length bh],.agg #[.int .i64 ((qaj l1 aa).f0),.int .i64 ((qaj l1 aa).f1),.int .i64 ((qaj l1 aa).f2),.int .i64 ((qaj l1 aa).f3),.int .i64 ((qaj l1 aa).f4),.slice bi ((qaj l1 aa).f5).length bj,.slice bm ((qaj l1 aa).f6).length bn]] (by rfl) rfl rfl (by (try simp only [List.map_toArray,List.map_cons,List.map_nil]);first|done|rfl|(simp only [List.length_drop,List.length_take];rfl)) ?_
        with_reducible refine (ostinatoref05_SameTask.calls k1 ((qaj l0 aa).f0) ((qaj l0 aa).f1) ((qaj l0 aa).f2) ((qaj l0 aa).f3) ((qaj l0 aa).f4) _ _ ((qaj l0 aa).f5) _ _ ((qaj l0 aa).f6) ((qaj l1 aa).f0) ((qaj l1 aa).f1) ((qaj l1 aa).f2) ((qaj l1 aa).f3) ((qaj l1 aa).f4) _ _ ((qaj l1 aa).f5) _ _ ((qaj l1 aa).f6) true _ ?bC ?bD ?bE ?bF ?bG ?bH ?bI ?bJ A7.out).mono ?_
        (case bC=>repeat (first|exact (Kd.C_below aU.out HB.out)|(with_reducible refine Kd.C_alloc ?_ _)|(with_reducible refine Kd.C_drewN ?_ _)|(with_reducible refine Kd.C_drew ?_)))
        (case bD=>exact bp.out)
        (case bE=>repeat (first|exact (Kd.C_below aV.out HB.out)|(with_reducible refine Kd.C_alloc ?_ _)|(with_reducible refine Kd.C_drewN ?_ _)|(with_reducible refine Kd.C_drew ?_)))
        (case bF=>exact bq.out)
        (case bG=>repeat (first|exact (Kd.C_below a8.out HB.out)|(with_reducible refine Kd.C_alloc ?_ _)|(with_reducible refine Kd.C_drewN ?_ _)|(with_reducible refine Kd.C_drew ?_)))
        (case bH=>exact bt.out)
        (case bI=>repeat (first|exact (Kd.C_below ba.out HB.out)|(with_reducible refine Kd.C_alloc ?_ _)|(with_reducible refine Kd.C_drewN ?_ _)|(with_reducible refine Kd.C_drew ?_)))
        (case bJ=>exact bv.out)
        rintro e cm ⟨rfl,hb⟩
        refine⟨_,rfl,?_⟩
        replace HB:=qaa.mk (qai sB hb)
        (try clear hb)
        (try clear cg)
        (try clear hk)
        (try clear hi)
        refine hK.out _ _ ⟨((HB.out.cell (bLt w _ aC)).trans aC),((HB.out.cell (bLt w _ aA)).trans aA),((HB.out.cell (bLt w _ az)).trans az),((HB.out.cell (bLt w _ ay)).trans ay),((HB.out.cell (bLt w _ ax)).trans ax),((HB.out.cell (bLt w _ aw)).trans aw),((HB.out.cell (bLt w _ av)).trans av),((HB.out.cell (bLt w _ aK)).trans aK),((HB.out.cell (bLt w _ aJ)).trans aJ),((HB.out.cell (bLt w _ aI)).trans aI),((HB.out.cell (bLt w _ aH)).trans aH),((HB.out.cell (bLt w _ aG)).trans aG),((HB.out.cell (bLt w _ aE)).trans aE),((HB.out.cell (bLt w _ aD)).trans aD)⟩ (fun hHeld=>?_)
        clear hK K
        refine qa0 (a':=?_) ?_ ?_
        rotate_left
        ·show Act.put _ (some 26) _=_
         simp only [Act.put,List.setIfInBounds_toArray,List.set_cons_zero,List.set_cons_succ,qaC,qaE]
         rfl
        refine sP 9 (some 6) rfl rfl ?_
        refine done_ (done_of HT_.out (by kernel_rfl)) ?_
        try go_wp2
        go_roundg k1
        case measure=>have:=b9.out;omega
        case rel=>exact⟨(wrap64 (aa+1)),(by first|rfl|(simp;done)|(simp [*];done)),H',⟨by have:=b9.out;omega⟩,⟨by repeat (first|(with_reducible first|exact HB.out|apply qah|apply qae|apply qag)|exact HB.out)⟩⟩
       ·replace c8:=Bool.eq_false_iff.mpr c8
        subst c8
        have H1:(some false)=some r:=by rw [if_neg (show ¬ (false=true) by decide)] at H;exact H
        clear H
        have H:=H1
        clear H1
        obtain rfl:=Option.some.inj H
        try go_wp2
        replace HB:=qaa.mk (qag HB.out)
        have bw:0≤(aa:Int):=of_decide_eq_true sA
        have bx:aa<(l0.length:Int):=of_decide_eq_true sA
        obtain⟨ab,be,bf,bg,bh,bK,ae,af,ag,ah,ai,aj,ak,aM,aN,aQ,aT⟩:=at_T53 bZ.out aa bw bx
        have av:=ak
        have aw:=aj
        have ax:=ai
        have ay:=ah
        have az:=ag
        have aA:=af
        have aC:=ae
        cases bK
        replace ae:=(HB.out.cell (bLt w _ ae)).trans ae
        replace af:=(HB.out.cell (bLt w _ af)).trans af
        replace ag:=(HB.out.cell (bLt w _ ag)).trans ag
        replace ah:=(HB.out.cell (bLt w _ ah)).trans ah
        replace ai:=(HB.out.cell (bLt w _ ai)).trans ai
        replace aj:=(HB.out.cell (bLt w _ aj)).trans aj
        replace ak:=(HB.out.cell (bLt w _ ak)).trans ak
        have aU:=qaa.mk aN
        have bp:=qaa.mk aM
        clear aN aM
        have aV:=qaa.mk aT
        have bq:=qaa.mk aQ
        clear aT aQ
        replace bw:=eq_true bw
        replace bx:=eq_true bx
        have bz:0≤(aa:Int):=of_decide_eq_true sA
        have bB:aa<(l1.length:Int):=of_decide_eq_true sA
        obtain⟨ac,bi,bj,bm,bn,bL,al,am,an,ap,aq,ar,au,aW,aX,aY,aZ⟩:=at_T53 b8.out aa bz bB
        have aD:=au
        have aE:=ar
        have aG:=aq
        have aH:=ap
        have aI:=an
        have aJ:=am
        have aK:=al
        cases bL
        replace al:=(HB.out.cell (bLt w _ al)).trans al
        replace am:=(HB.out.cell (bLt w _ am)).trans am
        replace an:=(HB.out.cell (bLt w _ an)).trans an
        replace ap:=(HB.out.cell (bLt w _ ap)).trans ap
        replace aq:=(HB.out.cell (bLt w _ aq)).trans aq
        replace ar:=(HB.out.cell (bLt w _ ar)).trans ar
        replace au:=(HB.out.cell (bLt w _ au)).trans au
        have a8:=qaa.mk aX
        have bt:=qaa.mk aW
        clear aX aW
        have ba:=qaa.mk aZ
        have bv:=qaa.mk aY
        clear aZ aY
        replace bz:=eq_true bz
        replace bB:=eq_true bB
        refine start_ (n:=10) (S:=fun w'=>w'.cell? (ab.add ((aa).toNat * 7))=some (.int .i64 ((qaj l0 aa).f0))∧w'.cell? ⟨(ab.add ((aa).toNat * 7)).block,(ab.add ((aa).toNat * 7)).off+1,none⟩=some (.int .i64 ((qaj l0 aa).f1))∧w'.cell? ⟨(ab.add ((aa).toNat * 7)).block,(ab.add ((aa).toNat * 7)).off+2,none⟩=some (.int .i64 ((qaj l0 aa).f2))∧w'.cell? ⟨(ab.add ((aa).toNat * 7)).block,(ab.add ((aa).toNat * 7)).off+3,none⟩=some (.int .i64 ((qaj l0 aa).f3))∧w'.cell? ⟨(ab.add ((aa).toNat * 7)).block,(ab.add ((aa).toNat * 7)).off+4,none⟩=some (.int .i64 ((qaj l0 aa).f4))∧w'.cell? ⟨(ab.add ((aa).toNat * 7)).block,(ab.add ((aa).toNat * 7)).off+5,none⟩=some (.slice be ((qaj l0 aa).f5).length bf)∧w'.cell? ⟨(ab.add ((aa).toNat * 7)).block,(ab.add ((aa).toNat * 7)).off+6,none⟩=some (.slice bg ((qaj l0 aa).f6).length bh)∧w'.cell? (ac.add ((aa).toNat * 7))=some (.int .i64 ((qaj l1 aa).f0))∧w'.cell? ⟨(ac.add ((aa).toNat * 7)).block,(ac.add ((aa).toNat * 7)).off+1,none⟩=some (.int .i64 ((qaj l1 aa).f1))∧w'.cell? ⟨(ac.add ((aa).toNat * 7)).block,(ac.add ((aa).toNat * 7)).off+2,none⟩=some (.int .i64 ((qaj l1 aa).f2))∧w'.cell? ⟨(ac.add ((aa).toNat * 7)).block,(ac.add ((aa).toNat * 7)).off+3,none⟩=some (.int .i64 ((qaj l1 aa).f3))∧w'.cell? ⟨(ac.add ((aa).toNat * 7)).block,(ac.add ((aa).toNat * 7)).off+4,none⟩=some (.int .i64 ((qaj l1 aa).f4))∧w'.cell? ⟨(ac.add ((aa).toNat * 7)).block,(ac.add ((aa).toNat * 7)).off+5,none⟩=some (.slice bi ((qaj l1 aa).f5).length bj)∧w'.cell? ⟨(ac.add ((aa).toNat * 7)).block,(ac.add ((aa).toNat * 7)).off+6,none⟩=some (.slice bm ((qaj l1 aa).f6).length bn)) (ds:=[]) #[false,false,false,false,false,false,false,false,false,false] (by kernel_rfl) rfl rfl ⟨((HB.out.cell (bLt w _ aC)).trans aC),((HB.out.cell (bLt w _ aA)).trans aA),((HB.out.cell (bLt w _ az)).trans az),((HB.out.cell (bLt w _ ay)).trans ay),((HB.out.cell (bLt w _ ax)).trans ax),((HB.out.cell (bLt w _ aw)).trans aw),((HB.out.cell (bLt w _ av)).trans av),((HB.out.cell (bLt w _ aK)).trans aK),((HB.out.cell (bLt w _ aJ)).trans aJ),((HB.out.cell (bLt w _ aI)).trans aI),((HB.out.cell (bLt w _ aH)).trans aH),((HB.out.cell (bLt w _ aG)).trans aG),((HB.out.cell (bLt w _ aE)).trans aE),((HB.out.cell (bLt w _ aD)).trans aD)⟩ (fun hHeld=>?_);refine qaX ostinatoref05_SameTasks.tab6 ostinatoref05_SameTasks.bits6 (fun HT_ HW_=>?_)
        generalize wr.drew=co at HB aU aV a8 ba ae af ag ah ai aj ak al am an ap aq ar au hHeld ⊢
        refine sP 0 (some 18) rfl rfl ?_
        refine sP 1 (some 19) rfl rfl ?_
        refine sP 2 (some 20) rfl rfl ?_
        refine sP 4 (some 22) rfl rfl ?_
        refine sP 5 (some 23) rfl rfl ?_
        refine sP 6 (some 24) rfl rfl ?_
        refine qaZ (i:=3) (N:=some 21) (v:=?_) (a':=?_) #[true,true,true,true,true,true,true,false,false,false] rfl rfl (qay HT_.out HW_.out (by kernel_rfl)) (fun _ _ _ h=>h) (Or.inl ⟨by rfl,?_⟩) hHeld ?_ ?_
        rotate_left
        ·rintro w' ⟨s0,s1,s2,s3,s4,s5,s6,s7,s8,s9,bR,bS,bT,bU⟩
         go_simp
         with_reducible rfl
        rotate_left
        ·simp only [Act.put,List.setIfInBounds_toArray,List.set_cons_zero,List.set_cons_succ,qaC,qaE]
         rfl
        refine qaZ (i:=7) (N:=some 25) (v:=?_) (a':=?_) #[true,true,true,true,true,true,true,true,false,false] rfl rfl (qay HT_.out HW_.out (by kernel_rfl)) (fun _ _ _ h=>h) (Or.inl ⟨by rfl,?_⟩) hHeld ?_ ?_
        rotate_left
        ·rintro w' ⟨s0,s1,s2,s3,s4,s5,s6,s7,s8,s9,bR,bS,bT,bU⟩
         go_simp
         with_reducible rfl
        rotate_left
        ·simp only [Act.put,List.setIfInBounds_toArray,List.set_cons_zero,List.set_cons_succ,qaC,qaE]
         rfl
        refine one_ (i:=8) (N:=some 26) #[true,true,true,true,true,true,true,true,true,false] rfl rfl (qaO HT_.out (by kernel_rfl)) (by decide) (fun K hK=>?_)
        refine goes_ Tryd.func59 (by kernel_rfl) rfl #[.agg #[.int .i64 ((qaj l0 aa).f0),.int .i64 ((qaj l0 aa).f1),.int .i64 ((qaj l0 aa).f2),.int .i64 ((qaj l0 aa).f3),.int .i64 ((qaj l0 aa).f4),.slice be ((qaj l0 aa).f5).length bf,.slice bg ((qaj l0 aa).f6).length bh],.agg #[.int .i64 ((qaj l1 aa).f0),.int .i64 ((qaj l1 aa).f1),.int .i64 ((qaj l1 aa).f2),.int .i64 ((qaj l1 aa).f3),.int .i64 ((qaj l1 aa).f4),.slice bi ((qaj l1 aa).f5).length bj,.slice bm ((qaj l1 aa).f6).length bn]] (by rfl) rfl rfl (by (try simp only [List.map_toArray,List.map_cons,List.map_nil]);first|done|rfl|(simp only [List.length_drop,List.length_take];rfl)) ?_
        with_reducible refine (ostinatoref05_SameTask.calls k1 ((qaj l0 aa).f0) ((qaj l0 aa).f1) ((qaj l0 aa).f2) ((qaj l0 aa).f3) ((qaj l0 aa).f4) _ _ ((qaj l0 aa).f5) _ _ ((qaj l0 aa).f6) ((qaj l1 aa).f0) ((qaj l1 aa).f1) ((qaj l1 aa).f2) ((qaj l1 aa).f3) ((qaj l1 aa).f4) _ _ ((qaj l1 aa).f5) _ _ ((qaj l1 aa).f6) false _ ?bC ?bD ?bE ?bF ?bG ?bH ?bI ?bJ A7.out).mono ?_
        (case bC=>repeat (first|exact (Kd.C_below aU.out HB.out)|(with_reducible refine Kd.C_alloc ?_ _)|(with_reducible refine Kd.C_drewN ?_ _)|(with_reducible refine Kd.C_drew ?_)))
        (case bD=>exact bp.out)
        (case bE=>repeat (first|exact (Kd.C_below aV.out HB.out)|(with_reducible refine Kd.C_alloc ?_ _)|(with_reducible refine Kd.C_drewN ?_ _)|(with_reducible refine Kd.C_drew ?_)))
        (case bF=>exact bq.out)
        (case bG=>repeat (first|exact (Kd.C_below a8.out HB.out)|(with_reducible refine Kd.C_alloc ?_ _)|(with_reducible refine Kd.C_drewN ?_ _)|(with_reducible refine Kd.C_drew ?_)))
        (case bH=>exact bt.out)
        (case bI=>repeat (first|exact (Kd.C_below ba.out HB.out)|(with_reducible refine Kd.C_alloc ?_ _)|(with_reducible refine Kd.C_drewN ?_ _)|(with_reducible refine Kd.C_drew ?_)))
        (case bJ=>exact bv.out)
        rintro e cp ⟨rfl,hb⟩
        refine⟨_,rfl,?_⟩
        replace HB:=qaa.mk (qai sB hb)
        (try clear hb)
        (try clear cg)
        (try clear hk)
        (try clear hi)
        refine hK.out _ _ ⟨((HB.out.cell (bLt w _ aC)).trans aC),((HB.out.cell (bLt w _ aA)).trans aA),((HB.out.cell (bLt w _ az)).trans az),((HB.out.cell (bLt w _ ay)).trans ay),((HB.out.cell (bLt w _ ax)).trans ax),((HB.out.cell (bLt w _ aw)).trans aw),((HB.out.cell (bLt w _ av)).trans av),((HB.out.cell (bLt w _ aK)).trans aK),((HB.out.cell (bLt w _ aJ)).trans aJ),((HB.out.cell (bLt w _ aI)).trans aI),((HB.out.cell (bLt w _ aH)).trans aH),((HB.out.cell (bLt w _ aG)).trans aG),((HB.out.cell (bLt w _ aE)).trans aE),((HB.out.cell (bLt w _ aD)).trans aD)⟩ (fun hHeld=>?_)
        clear hK K
        refine qa0 (a':=?_) ?_ ?_
        rotate_left
        ·show Act.put _ (some 26) _=_
         simp only [Act.put,List.setIfInBounds_toArray,List.set_cons_zero,List.set_cons_succ,qaC,qaE]
         rfl
        refine sP 9 (some 6) rfl rfl ?_
        refine done_ (done_of HT_.out (by kernel_rfl)) ?_
        try go_wp2
        go_ret
        exact⟨by first|rfl|(simp [qam,qal]<;>rfl)|(simp [bneNil,bneNilU]<;>rfl)|(simp [*,qam,qal]<;>rfl),by repeat (first|(with_reducible first|exact HB.out|apply qah|apply qae|apply qag)|exact HB.out)⟩
      ·rw [if_neg c6] at H
       exact absurd H (by simp)
     ·rw [if_neg c5] at H
      exact absurd H (by simp)
    ·rw [if_neg c4] at H
     have bQ:decide (aa<(l0.length:Int))=false:=decide_eq_false c4
     clear c4
     obtain rfl:=Option.some.inj H
     go_wp2
     go_ret
     exact⟨by first|rfl|(simp [qam,qal]<;>rfl)|(simp [bneNil,bneNilU]<;>rfl)|(simp [*,qam,qal]<;>rfl),by repeat (first|(with_reducible first|exact HB.out|apply qah|apply qae|apply qag)|exact HB.out)⟩
 ·rw [if_neg c3] at H
  have bM:((l0.length:Int) == (l1.length:Int))=false:=beq_eq_false_iff_ne.mpr c3
  have bN:((l0.length:Int) != (l1.length:Int))=true:=bne_iff_ne.mpr c3
  have bO:(l0.length == l1.length)=false:=by first|simpa using c3|(simp at c3 ⊢;omega)
  obtain rfl:=Option.some.inj H
  go_enter Tryd.func43,Tryd.ntmps43
  go_wp2
  go_ret
  exact⟨by first|rfl|(simp [qam,qal]<;>rfl)|(simp [bneNil,bneNilU]<;>rfl)|(simp [*,qam,qal]<;>rfl),by repeat (first|(with_reducible first|exact HB.out|apply qah|apply qae|apply qag)|exact HB.out)⟩
def ostinatoref05_Same.f (k:Nat) (aa:Int) (ab:Int) (ac:List (S53)) (ae:Int) (af:Int) (ag:List (S53)):Option (Bool):=(ostinatoref05_SameTasks.f k ac ag).bind fun ah=>(if ah=true then (if aa=ae then (some (ab == af)) else (some false)) else (some false))
theorem ostinatoref05_Same.calls (k:Nat) (aj:Int) (al:Int) (A0_2:Option Addr) (c0_2:Nat) (ah:List (S53)) (ak:Int) (am:Int) (an:Option Addr) (ap:Nat) (ai:List (S53)) (r:Bool) (w:World) (hr0_2:Kd.C k53 w A0_2 ah.length ah) (hc0_2:ah.length≤c0_2) (aE:Kd.C k53 w an ai.length ai) (aG:ai.length≤ap) (h:ostinatoref05_Same.f k aj al ah ak am ai=some r) :
  Calls Tryd.prog 23 #[.agg #[.int .i64 aj,.int .i64 al,.slice A0_2 ah.length c0_2],.agg #[.int .i64 ak,.int .i64 am,.slice an ai.length ap]] w fun e w'=>e=.returned (.bool r)∧Below w.heap.size w w':=by
 have cx:=Tryd.underlying33
 have ay:=qaa.mk hr0_2
 have az:=qaa.mk hc0_2
 clear hr0_2 hc0_2
 have aA:=qaa.mk aE
 have aC:=qaa.mk aG
 clear aE aG
 have HB:=qaa.mk (Below.refl w.heap.size w)
 have H:((ostinatoref05_SameTasks.f k ah ai).bind fun aD=>(if aD=true then (if aj=ak then (some (al == am)) else (some false)) else (some false)))=some r:=h
 clear h
 replace H:=Option.bind_eq_some_iff.mp H
 obtain⟨aD,ck,H⟩:=H
 replace H:(if aD=true then (if aj=ak then (some (al == am)) else (some false)) else (some false))=some r:=H
 have A3:=qaa.mk ck
 clear ck
 by_cases c4:aD=true
 ·subst c4
  have H1:(if aj=ak then (some (al == am)) else (some false))=some r:=by rw [if_pos rfl] at H;exact H
  clear H
  have H:=H1
  clear H1
  by_cases c5:aj=ak
  ·rw [if_pos c5] at H
   have b8:(aj == ak)=true:=beq_iff_eq.mpr c5
   have b9:(aj != ak)=false:=bne_eq_false_iff_eq.mpr c5
   clear c5
   obtain rfl:=Option.some.inj H
   go_enter Tryd.func23,Tryd.ntmps23
   go_wp2_with (first|((with_reducible refine qap (N:=2) rfl ?_);refine qao ?hg (N:=2) ?hd (cs:=#[.int .i64 aj,.int .i64 al,.slice A0_2 ah.length c0_2]) (t:=33) ?hr ?_;(case hd=>rfl);(case hg=>rfl);(case hr=>first|(go_simp;done)|(go_simp;rfl));intro ac hg w6 hbox hb;have aa:=qaa.mk (hbox);have aH:=qaa.mk ((by rw [hg];exact (qac sB):w.heap.size≤ac));have aq:=qaa.mk ((by rw [hg];exact (qac sB):w.heap.size≤ac));replace HB:=qaa.mk (qai sB hb);clear hb hbox hg)|((with_reducible refine qap (N:=3) rfl ?_);refine qao ?hg (N:=3) ?hd (cs:=#[.int .i64 ak,.int .i64 am,.slice an ai.length ap]) (t:=33) ?hr ?_;(case hd=>rfl);(case hg=>rfl);(case hr=>first|(go_simp;done)|(go_simp;rfl));intro ae hg w7 hbox hb;have ab:=qaa.mk (hbox);have aI:=qaa.mk ((by rw [hg];exact (qac sB):w.heap.size≤ae));have ar:=qaa.mk ((by rw [hg];exact (qac sB):w.heap.size≤ae));replace HB:=qaa.mk (qai sB hb);have af:=qaa.mk ((by rw [hg];exact Nat.ne_of_lt (sLt aa.out):ac≠ae));have ag:=qaa.mk ((by rw [hg];exact Nat.ne_of_gt (sLt aa.out):ae≠ac));replace aa:=qaa.mk (sKb aa.out hb);clear hb hbox hg;have cy:=af.out;have cz:=ag.out;obtain⟨ca,cb,ce⟩:=sC3 (w:=w7) aa.out;obtain⟨cf,cg,cj⟩:=sF3 aa.out;obtain⟨aJ,aK,aM⟩:=sC3 (w:=w7) ab.out;obtain⟨aN,aQ,aT⟩:=sF3 ab.out)|((with_reducible refine qaA (f:=43) rfl ?_);refine qa7 (some 10) rfl rfl Tryd.func43 (by kernel_rfl) rfl #[.slice A0_2 ah.length c0_2,.slice an ai.length ap] rfl (by (try simp only [List.map_toArray,List.map_cons,List.map_nil]);first|done|rfl|(simp only [List.length_drop,List.length_take];rfl)) ?_;(with_reducible refine (ostinatoref05_SameTasks.calls k _ _ ah _ _ ai true _ ?au ?av ?aw ?ax A3.out).mono ?_);(case au=>repeat (first|exact (Kd.C_below ay.out HB.out)|(with_reducible refine Kd.C_alloc ?_ _)|(with_reducible refine Kd.C_drewN ?_ _)|(with_reducible refine Kd.C_drew ?_)));(case av=>exact az.out);(case aw=>repeat (first|exact (Kd.C_below aA.out HB.out)|(with_reducible refine Kd.C_alloc ?_ _)|(with_reducible refine Kd.C_drewN ?_ _)|(with_reducible refine Kd.C_drew ?_)));(case ax=>exact aC.out);rintro e cm ⟨rfl,hb⟩;refine⟨_,rfl,?_⟩;replace aa:=qaa.mk (sKb aa.out hb);replace ab:=qaa.mk (sKb ab.out hb);replace HB:=qaa.mk (qai sB hb);(try clear hb);(try clear co);(try clear hk);(try clear hi);obtain⟨aU,aV,aW⟩:=sC3 (w:=cm) aa.out;obtain⟨aX,aY,aZ⟩:=sF3 aa.out;obtain⟨a8,ba,be⟩:=sC3 (w:=cm) ab.out;obtain⟨bf,bg,bh⟩:=sF3 ab.out))
   go_ret
   exact⟨by first|rfl|(simp [qam,qal]<;>rfl)|(simp [bneNil,bneNilU]<;>rfl)|(simp [*,qam,qal]<;>rfl),by repeat (first|(with_reducible first|exact HB.out|apply qah|apply qae|apply qag|refine qad ?_ aq.out|refine qad ?_ ar.out)|exact HB.out)⟩
  ·rw [if_neg c5] at H
   have b8:(aj == ak)=false:=beq_eq_false_iff_ne.mpr c5
   have b9:(aj != ak)=true:=bne_iff_ne.mpr c5
   obtain rfl:=Option.some.inj H
   go_enter Tryd.func23,Tryd.ntmps23
   go_wp2_with (first|((with_reducible refine qap (N:=2) rfl ?_);refine qao ?hg (N:=2) ?hd (cs:=#[.int .i64 aj,.int .i64 al,.slice A0_2 ah.length c0_2]) (t:=33) ?hr ?_;(case hd=>rfl);(case hg=>rfl);(case hr=>first|(go_simp;done)|(go_simp;rfl));intro ac hg cA hbox hb;have aa:=qaa.mk (hbox);have aH:=qaa.mk ((by rw [hg];exact (qac sB):w.heap.size≤ac));have aq:=qaa.mk ((by rw [hg];exact (qac sB):w.heap.size≤ac));replace HB:=qaa.mk (qai sB hb);clear hb hbox hg)|((with_reducible refine qap (N:=3) rfl ?_);refine qao ?hg (N:=3) ?hd (cs:=#[.int .i64 ak,.int .i64 am,.slice an ai.length ap]) (t:=33) ?hr ?_;(case hd=>rfl);(case hg=>rfl);(case hr=>first|(go_simp;done)|(go_simp;rfl));intro ae hg cp hbox hb;have ab:=qaa.mk (hbox);have aI:=qaa.mk ((by rw [hg];exact (qac sB):w.heap.size≤ae));have ar:=qaa.mk ((by rw [hg];exact (qac sB):w.heap.size≤ae));replace HB:=qaa.mk (qai sB hb);have af:=qaa.mk ((by rw [hg];exact Nat.ne_of_lt (sLt aa.out):ac≠ae));have ag:=qaa.mk ((by rw [hg];exact Nat.ne_of_gt (sLt aa.out):ae≠ac));replace aa:=qaa.mk (sKb aa.out hb);clear hb hbox hg;have cq:=af.out;have cr:=ag.out;obtain⟨bi,bj,bm⟩:=sC3 (w:=cp) aa.out;obtain⟨bn,bp,bq⟩:=sF3 aa.out;obtain⟨bt,bv,bw⟩:=sC3 (w:=cp) ab.out;obtain⟨bx,bz,bB⟩:=sF3 ab.out)|((with_reducible refine qaA (f:=43) rfl ?_);refine qa7 (some 10) rfl rfl Tryd.func43 (by kernel_rfl) rfl #[.slice A0_2 ah.length c0_2,.slice an ai.length ap] rfl (by (try simp only [List.map_toArray,List.map_cons,List.map_nil]);first|done|rfl|(simp only [List.length_drop,List.length_take];rfl)) ?_;(with_reducible refine (ostinatoref05_SameTasks.calls k _ _ ah _ _ ai true _ ?au ?av ?aw ?ax A3.out).mono ?_);(case au=>repeat (first|exact (Kd.C_below ay.out HB.out)|(with_reducible refine Kd.C_alloc ?_ _)|(with_reducible refine Kd.C_drewN ?_ _)|(with_reducible refine Kd.C_drew ?_)));(case av=>exact az.out);(case aw=>repeat (first|exact (Kd.C_below aA.out HB.out)|(with_reducible refine Kd.C_alloc ?_ _)|(with_reducible refine Kd.C_drewN ?_ _)|(with_reducible refine Kd.C_drew ?_)));(case ax=>exact aC.out);rintro e ct ⟨rfl,hb⟩;refine⟨_,rfl,?_⟩;replace aa:=qaa.mk (sKb aa.out hb);replace ab:=qaa.mk (sKb ab.out hb);replace HB:=qaa.mk (qai sB hb);(try clear hb);(try clear co);(try clear hk);(try clear hi);obtain⟨bC,bD,bE⟩:=sC3 (w:=ct) aa.out;obtain⟨bF,bG,bH⟩:=sF3 aa.out;obtain⟨bI,bJ,bK⟩:=sC3 (w:=ct) ab.out;obtain⟨bL,bM,bN⟩:=sF3 ab.out))
   go_ret
   exact⟨by first|rfl|(simp [qam,qal]<;>rfl)|(simp [bneNil,bneNilU]<;>rfl)|(simp [*,qam,qal]<;>rfl),by repeat (first|(with_reducible first|exact HB.out|apply qah|apply qae|apply qag|refine qad ?_ aq.out|refine qad ?_ ar.out)|exact HB.out)⟩
 ·replace c4:=Bool.eq_false_iff.mpr c4
  subst c4
  have H1:(some false)=some r:=by rw [if_neg (show ¬ (false=true) by decide)] at H;exact H
  clear H
  have H:=H1
  clear H1
  obtain rfl:=Option.some.inj H
  go_enter Tryd.func23,Tryd.ntmps23
  go_wp2_with (first|((with_reducible refine qap (N:=2) rfl ?_);refine qao ?hg (N:=2) ?hd (cs:=#[.int .i64 aj,.int .i64 al,.slice A0_2 ah.length c0_2]) (t:=33) ?hr ?_;(case hd=>rfl);(case hg=>rfl);(case hr=>first|(go_simp;done)|(go_simp;rfl));intro ac hg cB hbox hb;have aa:=qaa.mk (hbox);have aH:=qaa.mk ((by rw [hg];exact (qac sB):w.heap.size≤ac));have aq:=qaa.mk ((by rw [hg];exact (qac sB):w.heap.size≤ac));replace HB:=qaa.mk (qai sB hb);clear hb hbox hg)|((with_reducible refine qap (N:=3) rfl ?_);refine qao ?hg (N:=3) ?hd (cs:=#[.int .i64 ak,.int .i64 am,.slice an ai.length ap]) (t:=33) ?hr ?_;(case hd=>rfl);(case hg=>rfl);(case hr=>first|(go_simp;done)|(go_simp;rfl));intro ae hg cu hbox hb;have ab:=qaa.mk (hbox);have aI:=qaa.mk ((by rw [hg];exact (qac sB):w.heap.size≤ae));have ar:=qaa.mk ((by rw [hg];exact (qac sB):w.heap.size≤ae));replace HB:=qaa.mk (qai sB hb);have af:=qaa.mk ((by rw [hg];exact Nat.ne_of_lt (sLt aa.out):ac≠ae));have ag:=qaa.mk ((by rw [hg];exact Nat.ne_of_gt (sLt aa.out):ae≠ac));replace aa:=qaa.mk (sKb aa.out hb);clear hb hbox hg;have cv:=af.out;have cw:=ag.out;obtain⟨bO,bP,bQ⟩:=sC3 (w:=cu) aa.out;obtain⟨bR,bS,bT⟩:=sF3 aa.out;obtain⟨bU,bV,bW⟩:=sC3 (w:=cu) ab.out;obtain⟨bX,bY,bZ⟩:=sF3 ab.out)|((with_reducible refine qaA (f:=43) rfl ?_);refine qa7 (some 10) rfl rfl Tryd.func43 (by kernel_rfl) rfl #[.slice A0_2 ah.length c0_2,.slice an ai.length ap] rfl (by (try simp only [List.map_toArray,List.map_cons,List.map_nil]);first|done|rfl|(simp only [List.length_drop,List.length_take];rfl)) ?_;(with_reducible refine (ostinatoref05_SameTasks.calls k _ _ ah _ _ ai false _ ?au ?av ?aw ?ax A3.out).mono ?_);(case au=>repeat (first|exact (Kd.C_below ay.out HB.out)|(with_reducible refine Kd.C_alloc ?_ _)|(with_reducible refine Kd.C_drewN ?_ _)|(with_reducible refine Kd.C_drew ?_)));(case av=>exact az.out);(case aw=>repeat (first|exact (Kd.C_below aA.out HB.out)|(with_reducible refine Kd.C_alloc ?_ _)|(with_reducible refine Kd.C_drewN ?_ _)|(with_reducible refine Kd.C_drew ?_)));(case ax=>exact aC.out);rintro e cC ⟨rfl,hb⟩;refine⟨_,rfl,?_⟩;replace aa:=qaa.mk (sKb aa.out hb);replace ab:=qaa.mk (sKb ab.out hb);replace HB:=qaa.mk (qai sB hb);(try clear hb);(try clear co);(try clear hk);(try clear hi)))
  go_ret
  exact⟨by first|rfl|(simp [qam,qal]<;>rfl)|(simp [bneNil,bneNilU]<;>rfl)|(simp [*,qam,qal]<;>rfl),by repeat (first|(with_reducible first|exact HB.out|apply qah|apply qae|apply qag|refine qad ?_ aq.out|refine qad ?_ ar.out)|exact HB.out)⟩
def ostinatoref02_Same.l0:Nat→List Int→List Int→Int→Option (Bool)
 |0,_,_,_=>none
 |k+1,x0,x1,x5=>if x5<(x0.length:Int) then (if 0≤x5 then (if x5<(x1.length:Int) then (if (rd x0 x5)=(rd x1 x5) then (ostinatoref02_Same.l0 k x0 x1 (wrap64 (x5+1))) else (some false)) else (none)) else (none)) else (some true)
def ostinatoref02_Same.f (k:Nat) (l0:List Int) (l1:List Int):Option (Bool):=if (l0.length:Int)=(l1.length:Int) then (ostinatoref02_Same.l0 k l0 l1 0) else (some false)
theorem ostinatoref02_Same.calls (k:Nat) (A0:Option Addr) (c0:Nat) (l0:List Int) (A1:Option Addr) (c1:Nat) (l1:List Int) (r:Bool) (w:World) (av:Kd.C (Kd.int .i64) w A0 l0.length l0) (aw:l0.length≤c0) (ax:Kd.C (Kd.int .i64) w A1 l1.length l1) (ay:l1.length≤c1) (h:ostinatoref02_Same.f k l0 l1=some r) :
  Calls Tryd.prog 24 #[.slice A0 l0.length c0,.slice A1 l1.length c1] w fun e w'=>e=.returned (.bool r)∧qar w w':=by
 have az:=qaa.mk av
 have aG:=qaa.mk aw
 clear av aw
 have aA:=qaa.mk ax
 have aH:=qaa.mk ay
 clear ax ay
 have H:(if (l0.length:Int)=(l1.length:Int) then (ostinatoref02_Same.l0 k l0 l1 0) else (some false))=some r:=h
 clear h
 by_cases c3:(l0.length:Int)=(l1.length:Int)
 ·rw [if_pos c3] at H
  have ak:((l0.length:Int) == (l1.length:Int))=true:=beq_iff_eq.mpr c3
  have al:((l0.length:Int) != (l1.length:Int))=false:=bne_eq_false_iff_eq.mpr c3
  have am:(l0.length == l1.length)=true:=by first|simpa using c3|(simp at c3 ⊢;omega)
  clear c3
  have H':=qaa.mk H
  clear H
  go_enter Tryd.func24,Tryd.ntmps24
  go_wp2
  repeat (go_quiet (fail);try go_wp2)
  go_loopg [5] k (fun kq v5 w'=>∃ (aa:Int),v5=.int .i64 aa∧qaa (ostinatoref02_Same.l0 kq l0 l1 aa=some r)∧qaa (kq≤k)∧qar w w')
  case atStart=>exact⟨(0),(by first|rfl|(simp;done)|(simp [*];done)),H',⟨Nat.le_refl _⟩,by repeat (first|exact qar.refl _|apply qar.step)⟩
  case round=>
   clear H'
   try clear c1
   try clear c2
   try clear p2
   try clear c3
   try clear ak
   try clear al
   try clear am
   obtain⟨aa,rfl,HA,aC,⟨m1,rfl⟩⟩:=hrel
   cases gk with
   |zero=>exact absurd HA.out (by simp [ostinatoref02_Same.l0])
   |succ k1=>
    have H:=HA.out
    clear HA
    simp only [ostinatoref02_Same.l0] at H
    by_cases c4:aa<(l0.length:Int)
    ·rw [if_pos c4] at H
     have aq:decide (aa<(l0.length:Int))=true:=decide_eq_true c4
     clear c4
     by_cases c5:0≤aa
     ·rw [if_pos c5] at H
      have aD:decide (0≤aa)=true:=decide_eq_true c5
      clear c5
      by_cases c6:aa<(l1.length:Int)
      ·rw [if_pos c6] at H
       have aE:decide (aa<(l1.length:Int))=true:=decide_eq_true c6
       clear c6
       by_cases c7:(rd l0 aa)=(rd l1 aa)
       ·rw [if_pos c7] at H
        have ar:((rd l0 aa) == (rd l1 aa))=true:=beq_iff_eq.mpr c7
        have au:((rd l0 aa) != (rd l1 aa))=false:=bne_eq_false_iff_eq.mpr c7
        clear c7
        have H':=qaa.mk H
        clear H
        have ab:0≤(aa:Int):=of_decide_eq_true sA
        have ac:aa<(l0.length:Int):=of_decide_eq_true sA
        obtain⟨an,ai,ag⟩:=Kd.at_int az.out aa ab ac
        cases ai
        replace ab:=eq_true ab
        replace ac:=eq_true ac
        have ae:0≤(aa:Int):=of_decide_eq_true sA
        have af:aa<(l1.length:Int):=of_decide_eq_true sA
        obtain⟨ap,aj,ah⟩:=Kd.at_int aA.out aa ae af
        cases aj
        replace ae:=eq_true ae
        replace af:=eq_true af
        go_wp2
        repeat (go_quiet (fail);try go_wp2)
        go_roundg k1
        case measure=>have:=aC.out;omega
        case rel=>exact⟨(wrap64 (aa+1)),(by first|rfl|(simp;done)|(simp [*];done)),H',⟨by have:=aC.out;omega⟩,by repeat (first|exact qar.refl _|apply qar.step)⟩
       ·rw [if_neg c7] at H
        have ar:((rd l0 aa) == (rd l1 aa))=false:=beq_eq_false_iff_ne.mpr c7
        have au:((rd l0 aa) != (rd l1 aa))=true:=bne_iff_ne.mpr c7
        obtain rfl:=Option.some.inj H
        have ab:0≤(aa:Int):=of_decide_eq_true sA
        have ac:aa<(l0.length:Int):=of_decide_eq_true sA
        obtain⟨an,ai,ag⟩:=Kd.at_int az.out aa ab ac
        cases ai
        replace ab:=eq_true ab
        replace ac:=eq_true ac
        have ae:0≤(aa:Int):=of_decide_eq_true sA
        have af:aa<(l1.length:Int):=of_decide_eq_true sA
        obtain⟨ap,aj,ah⟩:=Kd.at_int aA.out aa ae af
        cases aj
        replace ae:=eq_true ae
        replace af:=eq_true af
        go_wp2
        repeat (go_quiet (fail);try go_wp2)
        go_ret
        exact⟨by first|rfl|(simp;done)|(simp [*];done),by repeat (first|exact qar.refl _|apply qar.step)⟩
      ·rw [if_neg c6] at H
       exact absurd H (by simp)
     ·rw [if_neg c5] at H
      exact absurd H (by simp)
    ·rw [if_neg c4] at H
     have aq:decide (aa<(l0.length:Int))=false:=decide_eq_false c4
     clear c4
     obtain rfl:=Option.some.inj H
     go_wp2
     repeat (go_quiet (fail);try go_wp2)
     go_ret
     exact⟨by first|rfl|(simp;done)|(simp [*];done),by repeat (first|exact qar.refl _|apply qar.step)⟩
 ·rw [if_neg c3] at H
  have ak:((l0.length:Int) == (l1.length:Int))=false:=beq_eq_false_iff_ne.mpr c3
  have al:((l0.length:Int) != (l1.length:Int))=true:=bne_iff_ne.mpr c3
  have am:(l0.length == l1.length)=false:=by first|simpa using c3|(simp at c3 ⊢;omega)
  obtain rfl:=Option.some.inj H
  go_enter Tryd.func24,Tryd.ntmps24
  go_wp2
  repeat (go_quiet (fail);try go_wp2)
  go_ret
  exact⟨by first|rfl|(simp;done)|(simp [*];done),by repeat (first|exact qar.refl _|apply qar.step)⟩
def ostinatoref05_SameLong.l0:Nat→List Int→List Int→Int→Option (Bool)
 |0,_,_,_=>none
 |k+1,x0,x1,x5=>if x5<(x0.length:Int) then (if 0≤x5 then (if x5<(x1.length:Int) then (if (rd x0 x5)=(rd x1 x5) then (ostinatoref05_SameLong.l0 k x0 x1 (wrap64 (x5+1))) else (some false)) else (none)) else (none)) else (some true)
def ostinatoref05_SameLong.f (k:Nat) (l0:List Int) (l1:List Int):Option (Bool):=if (l0.length:Int)=(l1.length:Int) then (ostinatoref05_SameLong.l0 k l0 l1 0) else (some false)
theorem ostinatoref05_SameLong.calls (k:Nat) (A0:Option Addr) (c0:Nat) (l0:List Int) (A1:Option Addr) (c1:Nat) (l1:List Int) (r:Bool) (w:World) (av:Kd.C (Kd.int .i64) w A0 l0.length l0) (aw:l0.length≤c0) (ax:Kd.C (Kd.int .i64) w A1 l1.length l1) (ay:l1.length≤c1) (h:ostinatoref05_SameLong.f k l0 l1=some r) :
  Calls Tryd.prog 25 #[.slice A0 l0.length c0,.slice A1 l1.length c1] w fun e w'=>e=.returned (.bool r)∧qar w w':=by
 have az:=qaa.mk av
 have aG:=qaa.mk aw
 clear av aw
 have aA:=qaa.mk ax
 have aH:=qaa.mk ay
 clear ax ay
 have H:(if (l0.length:Int)=(l1.length:Int) then (ostinatoref05_SameLong.l0 k l0 l1 0) else (some false))=some r:=h
 clear h
 by_cases c3:(l0.length:Int)=(l1.length:Int)
 ·rw [if_pos c3] at H
  have ak:((l0.length:Int) == (l1.length:Int))=true:=beq_iff_eq.mpr c3
  have al:((l0.length:Int) != (l1.length:Int))=false:=bne_eq_false_iff_eq.mpr c3
  have am:(l0.length == l1.length)=true:=by first|simpa using c3|(simp at c3 ⊢;omega)
  clear c3
  have H':=qaa.mk H
  clear H
  go_enter Tryd.func25,Tryd.ntmps25
  go_wp2
  repeat (go_quiet (fail);try go_wp2)
  go_loopg [5] k (fun kq v5 w'=>∃ (aa:Int),v5=.int .i64 aa∧qaa (ostinatoref05_SameLong.l0 kq l0 l1 aa=some r)∧qaa (kq≤k)∧qar w w')
  case atStart=>exact⟨(0),(by first|rfl|(simp;done)|(simp [*];done)),H',⟨Nat.le_refl _⟩,by repeat (first|exact qar.refl _|apply qar.step)⟩
  case round=>
   clear H'
   try clear c1
   try clear c2
   try clear p2
   try clear c3
   try clear ak
   try clear al
   try clear am
   obtain⟨aa,rfl,HA,aC,⟨m1,rfl⟩⟩:=hrel
   cases gk with
   |zero=>exact absurd HA.out (by simp [ostinatoref05_SameLong.l0])
   |succ k1=>
    have H:=HA.out
    clear HA
    simp only [ostinatoref05_SameLong.l0] at H
    by_cases c4:aa<(l0.length:Int)
    ·rw [if_pos c4] at H
     have aq:decide (aa<(l0.length:Int))=true:=decide_eq_true c4
     clear c4
     by_cases c5:0≤aa
     ·rw [if_pos c5] at H
      have aD:decide (0≤aa)=true:=decide_eq_true c5
      clear c5
      by_cases c6:aa<(l1.length:Int)
      ·rw [if_pos c6] at H
       have aE:decide (aa<(l1.length:Int))=true:=decide_eq_true c6
       clear c6
       by_cases c7:(rd l0 aa)=(rd l1 aa)
       ·rw [if_pos c7] at H
        have ar:((rd l0 aa) == (rd l1 aa))=true:=beq_iff_eq.mpr c7
        have au:((rd l0 aa) != (rd l1 aa))=false:=bne_eq_false_iff_eq.mpr c7
        clear c7
        have H':=qaa.mk H
        clear H
        have ab:0≤(aa:Int):=of_decide_eq_true sA
        have ac:aa<(l0.length:Int):=of_decide_eq_true sA
        obtain⟨an,ai,ag⟩:=Kd.at_int az.out aa ab ac
        cases ai
        replace ab:=eq_true ab
        replace ac:=eq_true ac
        have ae:0≤(aa:Int):=of_decide_eq_true sA
        have af:aa<(l1.length:Int):=of_decide_eq_true sA
        obtain⟨ap,aj,ah⟩:=Kd.at_int aA.out aa ae af
        cases aj
        replace ae:=eq_true ae
        replace af:=eq_true af
        go_wp2
        repeat (go_quiet (fail);try go_wp2)
        go_roundg k1
        case measure=>have:=aC.out;omega
        case rel=>exact⟨(wrap64 (aa+1)),(by first|rfl|(simp;done)|(simp [*];done)),H',⟨by have:=aC.out;omega⟩,by repeat (first|exact qar.refl _|apply qar.step)⟩
       ·rw [if_neg c7] at H
        have ar:((rd l0 aa) == (rd l1 aa))=false:=beq_eq_false_iff_ne.mpr c7
        have au:((rd l0 aa) != (rd l1 aa))=true:=bne_iff_ne.mpr c7
        obtain rfl:=Option.some.inj H
        have ab:0≤(aa:Int):=of_decide_eq_true sA
        have ac:aa<(l0.length:Int):=of_decide_eq_true sA
        obtain⟨an,ai,ag⟩:=Kd.at_int az.out aa ab ac
        cases ai
        replace ab:=eq_true ab
        replace ac:=eq_true ac
        have ae:0≤(aa:Int):=of_decide_eq_true sA
        have af:aa<(l1.length:Int):=of_decide_eq_true sA
        obtain⟨ap,aj,ah⟩:=Kd.at_int aA.out aa ae af
        cases aj
        replace ae:=eq_true ae
        replace af:=eq_true af
        go_wp2
        repeat (go_quiet (fail);try go_wp2)
        go_ret
        exact⟨by first|rfl|(simp;done)|(simp [*];done),by repeat (first|exact qar.refl _|apply qar.step)⟩
      ·rw [if_neg c6] at H
       exact absurd H (by simp)
     ·rw [if_neg c5] at H
      exact absurd H (by simp)
    ·rw [if_neg c4] at H
     have aq:decide (aa<(l0.length:Int))=false:=decide_eq_false c4
     clear c4
     obtain rfl:=Option.some.inj H
     go_wp2
     repeat (go_quiet (fail);try go_wp2)
     go_ret
     exact⟨by first|rfl|(simp;done)|(simp [*];done),by repeat (first|exact qar.refl _|apply qar.step)⟩
 ·rw [if_neg c3] at H
  have ak:((l0.length:Int) == (l1.length:Int))=false:=beq_eq_false_iff_ne.mpr c3
  have al:((l0.length:Int) != (l1.length:Int))=true:=bne_iff_ne.mpr c3
  have am:(l0.length == l1.length)=false:=by first|simpa using c3|(simp at c3 ⊢;omega)
  obtain rfl:=Option.some.inj H
  go_enter Tryd.func25,Tryd.ntmps25
  go_wp2
  repeat (go_quiet (fail);try go_wp2)
  go_ret
  exact⟨by first|rfl|(simp;done)|(simp [*];done),by repeat (first|exact qar.refl _|apply qar.step)⟩
end
end Go.Proofs.YtgnaaokhfpfglaaDoor.PCertTold
end
section
namespace Go.Proofs.YtgnaaokhfpfglaaDoor.PCertTold
open Go.RowKit Go.Proofs.YtgnaaokhfpfglaaDoorW.PrintWords Go.Proofs.YtgnaaokhfpfglaaDoorW.PrintLast Go.Proofs.YtgnaaokhfpfglaaDoorW.PrintMore
attribute [local go_sem] qaW qaU qa3 qa2 qaN qaM qaV qaT
set_option linter.unusedVariables false
set_option linter.unusedSimpArgs false
noncomputable section
attribute [local go_sem high] eqA49
mutual
def ostinatoref21_Same.j0:Nat→Bool→Int→Int→List (S53)→Int→Int→List Int→List Int→List (S49)→Int→Int→List (S53)→Int→Int→List Int→List Int→List (S49)→Option (Bool)
 |0,_,_,_,_,_,_,_,_,_,_,_,_,_,_,_,_,_=>none
 |k+1,au,aa,ab,ac,ae,af,ag,ah,ai,aj,ak,al,am,an,ap,aq,ar=>if au=true then (some false) else (ostinatoref21_Same.l0 k 0 aa ab ac ae af ag ah ai aj ak al am an ap aq ar)
def ostinatoref21_Same.l0:Nat→Int→Int→Int→List (S53)→Int→Int→List Int→List Int→List (S49)→Int→Int→List (S53)→Int→Int→List Int→List Int→List (S49)→Option (Bool)
 |0,_,_,_,_,_,_,_,_,_,_,_,_,_,_,_,_,_=>none
 |k+1,x8,ac,ae,af,ag,ah,ai,aj,aa,ak,al,am,an,ap,aq,ar,ab=>if x8<(aa.length:Int) then (if 0≤x8 then (if x8<(ab.length:Int) then (if (!(((qaw aa x8).f0) == ((qaw ab x8).f0)) || (!(((qaw aa x8).f1) == ((qaw ab x8).f1)) || (!(((qaw aa x8).f2) == ((qaw ab x8).f2)) || (!(((qaw aa x8).f3) == ((qaw ab x8).f3))))))=true then (some false) else (ostinatoref21_Same.l0 k (wrap64 (x8+1)) ac ae af ag ah ai aj aa ak al am an ap aq ar ab)) else (none)) else (none)) else (some true)
end
def ostinatoref21_Same.f (k:Nat) (aa:Int) (ab:Int) (ac:List (S53)) (ae:Int) (af:Int) (ag:List Int) (ah:List Int) (ai:List (S49)) (aj:Int) (ak:Int) (al:List (S53)) (am:Int) (an:Int) (ap:List Int) (aq:List Int) (ar:List (S49)):Option (Bool):=(ostinatoref05_Same.f k aa ab ac aj ak al).bind fun au=>((ostinatoref02_Same.f k ag ap).bind fun av=>((ostinatoref05_SameLong.f k ah aq).bind fun aw=>(if au=true then (if av=true then (if aw=true then (if ae=am then (if af=an then (ostinatoref21_Same.j0 k ((ai.length:Int) != (ar.length:Int)) aa ab ac ae af ag ah ai aj ak al am an ap aq ar) else (ostinatoref21_Same.j0 k true aa ab ac ae af ag ah ai aj ak al am an ap aq ar)) else (ostinatoref21_Same.j0 k true aa ab ac ae af ag ah ai aj ak al am an ap aq ar)) else (ostinatoref21_Same.j0 k true aa ab ac ae af ag ah ai aj ak al am an ap aq ar)) else (ostinatoref21_Same.j0 k true aa ab ac ae af ag ah ai aj ak al am an ap aq ar)) else (ostinatoref21_Same.j0 k true aa ab ac ae af ag ah ai aj ak al am an ap aq ar))))
theorem ostinatoref21_Same.calls (k:Nat) (aq:Int) (ar:Int) (A0_2:Option Addr) (c0_2:Nat) (an:List (S53)) (ae:Int) (af:Int) (A0_5:Option Addr) (c0_5:Nat) (al:List Int) (A0_6:Option Addr) (c0_6:Nat) (aj:List Int) (A0_7:Option Addr) (c0_7:Nat) (ab:List (S49)) (au:Int) (av:Int) (cB:Option Addr) (cC:Nat) (ap:List (S53)) (ag:Int) (ah:Int) (cD:Option Addr) (cE:Nat) (am:List Int) (cF:Option Addr) (cG:Nat) (ak:List Int) (cH:Option Addr) (cI:Nat) (ac:List (S49)) (r:Bool) (w:World) (hr0_2:Kd.C k53 w A0_2 an.length an) (hc0_2:an.length≤c0_2) (hr0_5:Kd.C (Kd.int .i64) w A0_5 al.length al) (hc0_5:al.length≤c0_5) (hr0_6:Kd.C (Kd.int .i64) w A0_6 aj.length aj) (hc0_6:aj.length≤c0_6) (hr0_7:Kd.C k49 w A0_7 ab.length ab) (hc0_7:ab.length≤c0_7) (fg:Kd.C k53 w cB ap.length ap) (fh:ap.length≤cC) (fi:Kd.C (Kd.int .i64) w cD am.length am) (fj:am.length≤cE) (fk:Kd.C (Kd.int .i64) w cF ak.length ak) (fl:ak.length≤cG) (fm:Kd.C k49 w cH ac.length ac) (fo:ac.length≤cI) (h:ostinatoref21_Same.f k aq ar an ae af al aj ab au av ap ag ah am ak ac=some r) :
  Calls Tryd.prog 10 #[.agg #[.int .i64 aq,.int .i64 ar,.slice A0_2 an.length c0_2,.int .i64 ae,.int .i64 af,.slice A0_5 al.length c0_5,.slice A0_6 aj.length c0_6,.slice A0_7 ab.length c0_7],.agg #[.int .i64 au,.int .i64 av,.slice cB ap.length cC,.int .i64 ag,.int .i64 ah,.slice cD am.length cE,.slice cF ak.length cG,.slice cH ac.length cI]] w fun e w'=>e=.returned (.bool r)∧Below w.heap.size w w':=by
 have iP:=Tryd.underlying39
 have iQ:=Tryd.underlying33
 have iR:=Tryd.underlying49
 have eO:=qaa.mk hr0_2
 have eP:=qaa.mk hc0_2
 clear hr0_2 hc0_2
 have eQ:=qaa.mk hr0_5
 have eR:=qaa.mk hc0_5
 clear hr0_5 hc0_5
 have eS:=qaa.mk hr0_6
 have eT:=qaa.mk hc0_6
 clear hr0_6 hc0_6
 have fp:=qaa.mk hr0_7
 have ir:=qaa.mk hc0_7
 clear hr0_7 hc0_7
 have eU:=qaa.mk fg
 have eV:=qaa.mk fh
 clear fg fh
 have eW:=qaa.mk fi
 have eX:=qaa.mk fj
 clear fi fj
 have eY:=qaa.mk fk
 have eZ:=qaa.mk fl
 clear fk fl
 have fq:=qaa.mk fm
 have iu:=qaa.mk fo
 clear fm fo
 have HB:=qaa.mk (Below.refl w.heap.size w)
 have H:((ostinatoref05_Same.f k aq ar an au av ap).bind fun cA=>((ostinatoref02_Same.f k al am).bind fun cy=>((ostinatoref05_SameLong.f k aj ak).bind fun aW=>(if cA=true then (if cy=true then (if aW=true then (if ae=ag then (if af=ah then (ostinatoref21_Same.j0 k ((ab.length:Int) != (ac.length:Int)) aq ar an ae af al aj ab au av ap ag ah am ak ac) else (ostinatoref21_Same.j0 k true aq ar an ae af al aj ab au av ap ag ah am ak ac)) else (ostinatoref21_Same.j0 k true aq ar an ae af al aj ab au av ap ag ah am ak ac)) else (ostinatoref21_Same.j0 k true aq ar an ae af al aj ab au av ap ag ah am ak ac)) else (ostinatoref21_Same.j0 k true aq ar an ae af al aj ab au av ap ag ah am ak ac)) else (ostinatoref21_Same.j0 k true aq ar an ae af al aj ab au av ap ag ah am ak ac)))))=some r:=h
 clear h
 replace H:=Option.bind_eq_some_iff.mp H
 obtain⟨cA,iv,H⟩:=H
 replace H:((ostinatoref02_Same.f k al am).bind fun cy=>((ostinatoref05_SameLong.f k aj ak).bind fun aW=>(if cA=true then (if cy=true then (if aW=true then (if ae=ag then (if af=ah then (ostinatoref21_Same.j0 k ((ab.length:Int) != (ac.length:Int)) aq ar an ae af al aj ab au av ap ag ah am ak ac) else (ostinatoref21_Same.j0 k true aq ar an ae af al aj ab au av ap ag ah am ak ac)) else (ostinatoref21_Same.j0 k true aq ar an ae af al aj ab au av ap ag ah am ak ac)) else (ostinatoref21_Same.j0 k true aq ar an ae af al aj ab au av ap ag ah am ak ac)) else (ostinatoref21_Same.j0 k true aq ar an ae af al aj ab au av ap ag ah am ak ac)) else (ostinatoref21_Same.j0 k true aq ar an ae af al aj ab au av ap ag ah am ak ac))))=some r:=H
 have A3:=qaa.mk iv
 clear iv
 replace H:=Option.bind_eq_some_iff.mp H
 obtain⟨cy,iw,H⟩:=H
 replace H:((ostinatoref05_SameLong.f k aj ak).bind fun aW=>(if cA=true then (if cy=true then (if aW=true then (if ae=ag then (if af=ah then (ostinatoref21_Same.j0 k ((ab.length:Int) != (ac.length:Int)) aq ar an ae af al aj ab au av ap ag ah am ak ac) else (ostinatoref21_Same.j0 k true aq ar an ae af al aj ab au av ap ag ah am ak ac)) else (ostinatoref21_Same.j0 k true aq ar an ae af al aj ab au av ap ag ah am ak ac)) else (ostinatoref21_Same.j0 k true aq ar an ae af al aj ab au av ap ag ah am ak ac)) else (ostinatoref21_Same.j0 k true aq ar an ae af al aj ab au av ap ag ah am ak ac)) else (ostinatoref21_Same.j0 k true aq ar an ae af al aj ab au av ap ag ah am ak ac)))=some r:=H
 have A4:=qaa.mk iw
 clear iw
 replace H:=Option.bind_eq_some_iff.mp H
 obtain⟨aW,ix,H⟩:=H
 replace H:(if cA=true then (if cy=true then (if aW=true then (if ae=ag then (if af=ah then (ostinatoref21_Same.j0 k ((ab.length:Int) != (ac.length:Int)) aq ar an ae af al aj ab au av ap ag ah am ak ac) else (ostinatoref21_Same.j0 k true aq ar an ae af al aj ab au av ap ag ah am ak ac)) else (ostinatoref21_Same.j0 k true aq ar an ae af al aj ab au av ap ag ah am ak ac)) else (ostinatoref21_Same.j0 k true aq ar an ae af al aj ab au av ap ag ah am ak ac)) else (ostinatoref21_Same.j0 k true aq ar an ae af al aj ab au av ap ag ah am ak ac)) else (ostinatoref21_Same.j0 k true aq ar an ae af al aj ab au av ap ag ah am ak ac))=some r:=H
 have A5:=qaa.mk ix
 clear ix
 have ip:=qaa.mk H
 clear H
 go_enter Tryd.func10,Tryd.ntmps10
 go_upto_region 4 with (first|((with_reducible refine qap (N:=2) rfl ?_);(try (refine qaI (by rfl) ?_;dsimp only));refine qao ?hg (N:=2) ?hd (cs:=#[.int .i64 aq,.int .i64 ar,.slice A0_2 an.length c0_2,.int .i64 ae,.int .i64 af,.slice A0_5 al.length c0_5,.slice A0_6 aj.length c0_6,.slice A0_7 ab.length c0_7]) (t:=39) ?hr ?_;(case hd=>rfl);(case hg=>rfl);(case hr=>first|(go_simp;done)|(go_simp;rfl));intro aE hg w7 hbox hb;have aa:=qaa.mk (hbox);have ft:=qaa.mk ((by rw [hg];exact (qac sB):w.heap.size≤aE));have aH:=qaa.mk ((by rw [hg];exact (qac sB):w.heap.size≤aE));replace HB:=qaa.mk (qai sB hb);clear hb hbox hg)|((with_reducible refine qap (N:=3) rfl ?_);(try (refine qaI (by rfl) ?_;dsimp only));refine qao ?hg (N:=3) ?hd (cs:=#[.int .i64 au,.int .i64 av,.slice cB ap.length cC,.int .i64 ag,.int .i64 ah,.slice cD am.length cE,.slice cF ak.length cG,.slice cH ac.length cI]) (t:=39) ?hr ?_;(case hd=>rfl);(case hg=>rfl);(case hr=>first|(go_simp;done)|(go_simp;rfl));intro aG hg w8 hbox hb;have ai:=qaa.mk (hbox);have fu:=qaa.mk ((by rw [hg];exact (qac sB):w.heap.size≤aG));have aI:=qaa.mk ((by rw [hg];exact (qac sB):w.heap.size≤aG));replace HB:=qaa.mk (qai sB hb);have ax:=qaa.mk ((by rw [hg];exact Nat.ne_of_lt (sLt aa.out):aE≠aG));have ay:=qaa.mk ((by rw [hg];exact Nat.ne_of_gt (sLt aa.out):aG≠aE));replace aa:=qaa.mk (sKb aa.out hb);clear hb hbox hg;have fC:=ax.out;have fD:=ay.out;obtain⟨aX,aY,aZ,a8,ba,be,bf,bg⟩:=sC8 (w:=w8) aa.out;obtain⟨bh,bi,bj,bm,bn,bp,bq,bt⟩:=sF8 aa.out;obtain⟨bv,bw,bx,bz,bB,bC,bD,bE⟩:=sC8 (w:=w8) ai.out;obtain⟨bF,bG,bH,bI,bJ,bK,bL,bM⟩:=sF8 ai.out)|(go_at_call 23;(with_reducible refine (ostinatoref05_Same.calls k aq ar _ _ an au av _ _ ap cA _ ?az ?aA ?aC ?aD A3.out).mono ?_);(case az=>repeat (first|exact (Kd.C_below eO.out HB.out)|(with_reducible refine Kd.C_alloc ?_ _)|(with_reducible refine Kd.C_drewN ?_ _)|(with_reducible refine Kd.C_drew ?_)));(case aA=>exact eP.out);(case aC=>repeat (first|exact (Kd.C_below eU.out HB.out)|(with_reducible refine Kd.C_alloc ?_ _)|(with_reducible refine Kd.C_drewN ?_ _)|(with_reducible refine Kd.C_drew ?_)));(case aD=>exact eV.out);rintro e cN ⟨rfl,hb⟩;replace aa:=qaa.mk (sKb aa.out hb);replace ai:=qaa.mk (sKb ai.out hb);replace HB:=qaa.mk (qai sB hb);(try clear hb);(try clear iy);(try clear hk);(try clear hi);obtain⟨bN,bO,bP,bQ,bR,bS,bT,bU⟩:=sC8 (w:=cN) aa.out;obtain⟨bV,bW,bX,bY,bZ,b8,b9,ca⟩:=sF8 aa.out;obtain⟨cb,ce,cf,cg,cj,ck,cm,co⟩:=sC8 (w:=cN) ai.out;obtain⟨cp,cq,cr,ct,cu,cv,cw,cx⟩:=sF8 ai.out)|(go_at_call 24;(with_reducible refine (ostinatoref02_Same.calls k _ _ al _ _ am cy _ ?az ?aA ?aC ?aD A4.out).mono ?_);(case az=>repeat (first|exact (Kd.C_below eQ.out HB.out)|(with_reducible refine Kd.C_alloc ?_ _)|(with_reducible refine Kd.C_drewN ?_ _)|(with_reducible refine Kd.C_drew ?_)));(case aA=>exact eR.out);(case aC=>repeat (first|exact (Kd.C_below eW.out HB.out)|(with_reducible refine Kd.C_alloc ?_ _)|(with_reducible refine Kd.C_drewN ?_ _)|(with_reducible refine Kd.C_drew ?_)));(case aD=>exact eX.out);rintro e w' ⟨rfl,⟨nd,rfl⟩⟩;(try first|exact⟨rfl,_,World.drewN_drewN _ _ _⟩|exact⟨rfl,_,Eq.trans (World.drewN_drewN _ _ _) (congrArg (World.drewN _) (Nat.add_assoc _ _ _))⟩))|(go_at_call 25;(with_reducible refine (ostinatoref05_SameLong.calls k _ _ aj _ _ ak aW _ ?az ?aA ?aC ?aD A5.out).mono ?_);(case az=>repeat (first|exact (Kd.C_below eS.out sB)|(with_reducible refine Kd.C_alloc ?_ _)|(with_reducible refine Kd.C_drewN ?_ _)|(with_reducible refine Kd.C_drew ?_)));(case aA=>exact eT.out);(case aC=>repeat (first|exact (Kd.C_below eY.out sB)|(with_reducible refine Kd.C_alloc ?_ _)|(with_reducible refine Kd.C_drewN ?_ _)|(with_reducible refine Kd.C_drew ?_)));(case aD=>exact eZ.out);rintro e w' ⟨rfl,⟨nd,rfl⟩⟩;(try first|exact⟨rfl,_,World.drewN_drewN _ _ _⟩|exact⟨rfl,_,Eq.trans (World.drewN_drewN _ _ _) (congrArg (World.drewN _) (Nat.add_assoc _ _ _))⟩)))
 repeat (go_quiet (first|((with_reducible refine qap (N:=2) rfl ?_);(try (refine qaI (by rfl) ?_;dsimp only));refine qao ?hg (N:=2) ?hd (cs:=#[.int .i64 aq,.int .i64 ar,.slice A0_2 an.length c0_2,.int .i64 ae,.int .i64 af,.slice A0_5 al.length c0_5,.slice A0_6 aj.length c0_6,.slice A0_7 ab.length c0_7]) (t:=39) ?hr ?_;(case hd=>rfl);(case hg=>rfl);(case hr=>first|(go_simp;done)|(go_simp;rfl));intro aE hg w7 hbox hb;have aa:=qaa.mk (hbox);have ft:=qaa.mk ((by rw [hg];exact (qac sB):w.heap.size≤aE));have aH:=qaa.mk ((by rw [hg];exact (qac sB):w.heap.size≤aE));replace HB:=qaa.mk (qai sB hb);clear hb hbox hg)|((with_reducible refine qap (N:=3) rfl ?_);(try (refine qaI (by rfl) ?_;dsimp only));refine qao ?hg (N:=3) ?hd (cs:=#[.int .i64 au,.int .i64 av,.slice cB ap.length cC,.int .i64 ag,.int .i64 ah,.slice cD am.length cE,.slice cF ak.length cG,.slice cH ac.length cI]) (t:=39) ?hr ?_;(case hd=>rfl);(case hg=>rfl);(case hr=>first|(go_simp;done)|(go_simp;rfl));intro aG hg w8 hbox hb;have ai:=qaa.mk (hbox);have fu:=qaa.mk ((by rw [hg];exact (qac sB):w.heap.size≤aG));have aI:=qaa.mk ((by rw [hg];exact (qac sB):w.heap.size≤aG));replace HB:=qaa.mk (qai sB hb);have ax:=qaa.mk ((by rw [hg];exact Nat.ne_of_lt (sLt aa.out):aE≠aG));have ay:=qaa.mk ((by rw [hg];exact Nat.ne_of_gt (sLt aa.out):aG≠aE));replace aa:=qaa.mk (sKb aa.out hb);clear hb hbox hg;have fC:=ax.out;have fD:=ay.out;obtain⟨aX,aY,aZ,a8,ba,be,bf,bg⟩:=sC8 (w:=w8) aa.out;obtain⟨bh,bi,bj,bm,bn,bp,bq,bt⟩:=sF8 aa.out;obtain⟨bv,bw,bx,bz,bB,bC,bD,bE⟩:=sC8 (w:=w8) ai.out;obtain⟨bF,bG,bH,bI,bJ,bK,bL,bM⟩:=sF8 ai.out)|(go_at_call 23;(with_reducible refine (ostinatoref05_Same.calls k aq ar _ _ an au av _ _ ap cA _ ?az ?aA ?aC ?aD A3.out).mono ?_);(case az=>repeat (first|exact (Kd.C_below eO.out HB.out)|(with_reducible refine Kd.C_alloc ?_ _)|(with_reducible refine Kd.C_drewN ?_ _)|(with_reducible refine Kd.C_drew ?_)));(case aA=>exact eP.out);(case aC=>repeat (first|exact (Kd.C_below eU.out HB.out)|(with_reducible refine Kd.C_alloc ?_ _)|(with_reducible refine Kd.C_drewN ?_ _)|(with_reducible refine Kd.C_drew ?_)));(case aD=>exact eV.out);rintro e cN ⟨rfl,hb⟩;replace aa:=qaa.mk (sKb aa.out hb);replace ai:=qaa.mk (sKb ai.out hb);replace HB:=qaa.mk (qai sB hb);(try clear hb);(try clear iy);(try clear hk);(try clear hi);obtain⟨bN,bO,bP,bQ,bR,bS,bT,bU⟩:=sC8 (w:=cN) aa.out;obtain⟨bV,bW,bX,bY,bZ,b8,b9,ca⟩:=sF8 aa.out;obtain⟨cb,ce,cf,cg,cj,ck,cm,co⟩:=sC8 (w:=cN) ai.out;obtain⟨cp,cq,cr,ct,cu,cv,cw,cx⟩:=sF8 ai.out)|(go_at_call 24;(with_reducible refine (ostinatoref02_Same.calls k _ _ al _ _ am cy _ ?az ?aA ?aC ?aD A4.out).mono ?_);(case az=>repeat (first|exact (Kd.C_below eQ.out HB.out)|(with_reducible refine Kd.C_alloc ?_ _)|(with_reducible refine Kd.C_drewN ?_ _)|(with_reducible refine Kd.C_drew ?_)));(case aA=>exact eR.out);(case aC=>repeat (first|exact (Kd.C_below eW.out HB.out)|(with_reducible refine Kd.C_alloc ?_ _)|(with_reducible refine Kd.C_drewN ?_ _)|(with_reducible refine Kd.C_drew ?_)));(case aD=>exact eX.out);rintro e w' ⟨rfl,⟨nd,rfl⟩⟩;(try first|exact⟨rfl,_,World.drewN_drewN _ _ _⟩|exact⟨rfl,_,Eq.trans (World.drewN_drewN _ _ _) (congrArg (World.drewN _) (Nat.add_assoc _ _ _))⟩))|(go_at_call 25;(with_reducible refine (ostinatoref05_SameLong.calls k _ _ aj _ _ ak aW _ ?az ?aA ?aC ?aD A5.out).mono ?_);(case az=>repeat (first|exact (Kd.C_below eS.out sB)|(with_reducible refine Kd.C_alloc ?_ _)|(with_reducible refine Kd.C_drewN ?_ _)|(with_reducible refine Kd.C_drew ?_)));(case aA=>exact eT.out);(case aC=>repeat (first|exact (Kd.C_below eY.out sB)|(with_reducible refine Kd.C_alloc ?_ _)|(with_reducible refine Kd.C_drewN ?_ _)|(with_reducible refine Kd.C_drew ?_)));(case aD=>exact eZ.out);rintro e w' ⟨rfl,⟨nd,rfl⟩⟩;(try first|exact⟨rfl,_,World.drewN_drewN _ _ _⟩|exact⟨rfl,_,Eq.trans (World.drewN_drewN _ _ _) (congrArg (World.drewN _) (Nat.add_assoc _ _ _))⟩)));go_upto_region 4 with (first|((with_reducible refine qap (N:=2) rfl ?_);(try (refine qaI (by rfl) ?_;dsimp only));refine qao ?hg (N:=2) ?hd (cs:=#[.int .i64 aq,.int .i64 ar,.slice A0_2 an.length c0_2,.int .i64 ae,.int .i64 af,.slice A0_5 al.length c0_5,.slice A0_6 aj.length c0_6,.slice A0_7 ab.length c0_7]) (t:=39) ?hr ?_;(case hd=>rfl);(case hg=>rfl);(case hr=>first|(go_simp;done)|(go_simp;rfl));intro aE hg w7 hbox hb;have aa:=qaa.mk (hbox);have ft:=qaa.mk ((by rw [hg];exact (qac sB):w.heap.size≤aE));have aH:=qaa.mk ((by rw [hg];exact (qac sB):w.heap.size≤aE));replace HB:=qaa.mk (qai sB hb);clear hb hbox hg)|((with_reducible refine qap (N:=3) rfl ?_);(try (refine qaI (by rfl) ?_;dsimp only));refine qao ?hg (N:=3) ?hd (cs:=#[.int .i64 au,.int .i64 av,.slice cB ap.length cC,.int .i64 ag,.int .i64 ah,.slice cD am.length cE,.slice cF ak.length cG,.slice cH ac.length cI]) (t:=39) ?hr ?_;(case hd=>rfl);(case hg=>rfl);(case hr=>first|(go_simp;done)|(go_simp;rfl));intro aG hg w8 hbox hb;have ai:=qaa.mk (hbox);have fu:=qaa.mk ((by rw [hg];exact (qac sB):w.heap.size≤aG));have aI:=qaa.mk ((by rw [hg];exact (qac sB):w.heap.size≤aG));replace HB:=qaa.mk (qai sB hb);have ax:=qaa.mk ((by rw [hg];exact Nat.ne_of_lt (sLt aa.out):aE≠aG));have ay:=qaa.mk ((by rw [hg];exact Nat.ne_of_gt (sLt aa.out):aG≠aE));replace aa:=qaa.mk (sKb aa.out hb);clear hb hbox hg;have fC:=ax.out;have fD:=ay.out;obtain⟨aX,aY,aZ,a8,ba,be,bf,bg⟩:=sC8 (w:=w8) aa.out;obtain⟨bh,bi,bj,bm,bn,bp,bq,bt⟩:=sF8 aa.out;obtain⟨bv,bw,bx,bz,bB,bC,bD,bE⟩:=sC8 (w:=w8) ai.out;obtain⟨bF,bG,bH,bI,bJ,bK,bL,bM⟩:=sF8 ai.out)|(go_at_call 23;(with_reducible refine (ostinatoref05_Same.calls k aq ar _ _ an au av _ _ ap cA _ ?az ?aA ?aC ?aD A3.out).mono ?_);(case az=>repeat (first|exact (Kd.C_below eO.out HB.out)|(with_reducible refine Kd.C_alloc ?_ _)|(with_reducible refine Kd.C_drewN ?_ _)|(with_reducible refine Kd.C_drew ?_)));(case aA=>exact eP.out);(case aC=>repeat (first|exact (Kd.C_below eU.out HB.out)|(with_reducible refine Kd.C_alloc ?_ _)|(with_reducible refine Kd.C_drewN ?_ _)|(with_reducible refine Kd.C_drew ?_)));(case aD=>exact eV.out);rintro e cN ⟨rfl,hb⟩;replace aa:=qaa.mk (sKb aa.out hb);replace ai:=qaa.mk (sKb ai.out hb);replace HB:=qaa.mk (qai sB hb);(try clear hb);(try clear iy);(try clear hk);(try clear hi);obtain⟨bN,bO,bP,bQ,bR,bS,bT,bU⟩:=sC8 (w:=cN) aa.out;obtain⟨bV,bW,bX,bY,bZ,b8,b9,ca⟩:=sF8 aa.out;obtain⟨cb,ce,cf,cg,cj,ck,cm,co⟩:=sC8 (w:=cN) ai.out;obtain⟨cp,cq,cr,ct,cu,cv,cw,cx⟩:=sF8 ai.out)|(go_at_call 24;(with_reducible refine (ostinatoref02_Same.calls k _ _ al _ _ am cy _ ?az ?aA ?aC ?aD A4.out).mono ?_);(case az=>repeat (first|exact (Kd.C_below eQ.out HB.out)|(with_reducible refine Kd.C_alloc ?_ _)|(with_reducible refine Kd.C_drewN ?_ _)|(with_reducible refine Kd.C_drew ?_)));(case aA=>exact eR.out);(case aC=>repeat (first|exact (Kd.C_below eW.out HB.out)|(with_reducible refine Kd.C_alloc ?_ _)|(with_reducible refine Kd.C_drewN ?_ _)|(with_reducible refine Kd.C_drew ?_)));(case aD=>exact eX.out);rintro e w' ⟨rfl,⟨nd,rfl⟩⟩;(try first|exact⟨rfl,_,World.drewN_drewN _ _ _⟩|exact⟨rfl,_,Eq.trans (World.drewN_drewN _ _ _) (congrArg (World.drewN _) (Nat.add_assoc _ _ _))⟩))|(go_at_call 25;(with_reducible refine (ostinatoref05_SameLong.calls k _ _ aj _ _ ak aW _ ?az ?aA ?aC ?aD A5.out).mono ?_);(case az=>repeat (first|exact (Kd.C_below eS.out sB)|(with_reducible refine Kd.C_alloc ?_ _)|(with_reducible refine Kd.C_drewN ?_ _)|(with_reducible refine Kd.C_drew ?_)));(case aA=>exact eT.out);(case aC=>repeat (first|exact (Kd.C_below eY.out sB)|(with_reducible refine Kd.C_alloc ?_ _)|(with_reducible refine Kd.C_drewN ?_ _)|(with_reducible refine Kd.C_drew ?_)));(case aD=>exact eZ.out);rintro e w' ⟨rfl,⟨nd,rfl⟩⟩;(try first|exact⟨rfl,_,World.drewN_drewN _ _ _⟩|exact⟨rfl,_,Eq.trans (World.drewN_drewN _ _ _) (congrArg (World.drewN _) (Nat.add_assoc _ _ _))⟩))))
 (try simp only [Act.put,List.setIfInBounds_toArray,List.set_cons_zero,List.set_cons_succ])
 go_cut [66] (fun iS wc=>∃ (kq:Nat) (cO:Bool),iS=.bool cO∧qaa (ostinatoref21_Same.j0 kq cO aq ar an ae af al aj ab au av ap ag ah am ak ac=some r)∧qaa (kq≤k)∧qaa (wc.heap[aE]? = some (.cells #[.int .i64 aq,.int .i64 ar,(.slice A0_2 an.length c0_2),.int .i64 ae,.int .i64 af,(.slice A0_5 al.length c0_5),(.slice A0_6 aj.length c0_6),(.slice A0_7 ab.length c0_7)] 39 (0,0)))∧qaa (wc.heap[aG]? = some (.cells #[.int .i64 au,.int .i64 av,(.slice cB ap.length cC),.int .i64 ag,.int .i64 ah,(.slice cD am.length cE),(.slice cF ak.length cG),(.slice cH ac.length cI)] 39 (0,0)))∧qaa (Below w.heap.size w wc))
 case first=>
  have H:=ip.out
  clear ip
  by_cases fx:cA=true
  ·subst fx
   have H1:(if cy=true then (if aW=true then (if ae=ag then (if af=ah then (ostinatoref21_Same.j0 k ((ab.length:Int) != (ac.length:Int)) aq ar an ae af al aj ab au av ap ag ah am ak ac) else (ostinatoref21_Same.j0 k true aq ar an ae af al aj ab au av ap ag ah am ak ac)) else (ostinatoref21_Same.j0 k true aq ar an ae af al aj ab au av ap ag ah am ak ac)) else (ostinatoref21_Same.j0 k true aq ar an ae af al aj ab au av ap ag ah am ak ac)) else (ostinatoref21_Same.j0 k true aq ar an ae af al aj ab au av ap ag ah am ak ac))=some r:=by rw [if_pos rfl] at H;exact H
   clear H
   have H:=H1
   clear H1
   by_cases fy:cy=true
   ·subst fy
    have H1:(if aW=true then (if ae=ag then (if af=ah then (ostinatoref21_Same.j0 k ((ab.length:Int) != (ac.length:Int)) aq ar an ae af al aj ab au av ap ag ah am ak ac) else (ostinatoref21_Same.j0 k true aq ar an ae af al aj ab au av ap ag ah am ak ac)) else (ostinatoref21_Same.j0 k true aq ar an ae af al aj ab au av ap ag ah am ak ac)) else (ostinatoref21_Same.j0 k true aq ar an ae af al aj ab au av ap ag ah am ak ac))=some r:=by rw [if_pos rfl] at H;exact H
    clear H
    have H:=H1
    clear H1
    by_cases fz:aW=true
    ·subst fz
     have H1:(if ae=ag then (if af=ah then (ostinatoref21_Same.j0 k ((ab.length:Int) != (ac.length:Int)) aq ar an ae af al aj ab au av ap ag ah am ak ac) else (ostinatoref21_Same.j0 k true aq ar an ae af al aj ab au av ap ag ah am ak ac)) else (ostinatoref21_Same.j0 k true aq ar an ae af al aj ab au av ap ag ah am ak ac))=some r:=by rw [if_pos rfl] at H;exact H
     clear H
     have H:=H1
     clear H1
     by_cases fe:ae=ag
     ·rw [if_pos fe] at H
      have cz:(ae == ag)=true:=beq_iff_eq.mpr fe
      have fa:(ae != ag)=false:=bne_eq_false_iff_eq.mpr fe
      clear fe
      (first|rw [cz]|(simp only [qaC,qaE];rw [cz])|skip)
      by_cases ff:af=ah
      ·rw [if_pos ff] at H
       have fb:(af == ah)=true:=beq_iff_eq.mpr ff
       have fc:(af != ah)=false:=bne_eq_false_iff_eq.mpr ff
       clear ff
       have H':=qaa.mk H
       clear H
       have iz:=ax.out
       have iA:=ay.out
       obtain⟨cP,cQ,cR,cS,cT,cU,cV,cW⟩:=sC8 (w:=cN) aa.out
       obtain⟨cX,cY,cZ,da,db,dc,dd,de⟩:=sF8 aa.out
       obtain⟨df,dg,dh,di,dj,dk,dl,dm⟩:=sC8 (w:=cN) ai.out
       obtain⟨dn,dp,dq,dr,du,dv,dw,dx⟩:=sF8 ai.out
       go_wp2
       repeat (go_quiet (fail);try go_wp2)
       go_meet
       case rel=>exact⟨_,(((ab.length:Int) != (ac.length:Int))),(by first|rfl|(simp;done)|(simp [*];done)),H',⟨by first|omega|exact Nat.le_refl _⟩,⟨by refine sM ?_;exact aa.out⟩,⟨by refine sM ?_;exact ai.out⟩,⟨by repeat (first|(with_reducible first|exact HB.out|apply qah|apply qae|apply qag|refine qad ?_ aH.out|refine qad ?_ aI.out)|exact HB.out)⟩⟩
      ·rw [if_neg ff] at H
       have fb:(af == ah)=false:=beq_eq_false_iff_ne.mpr ff
       have fc:(af != ah)=true:=bne_iff_ne.mpr ff
       have H':=qaa.mk H
       clear H
       have iB:=ax.out
       have iC:=ay.out
       obtain⟨dy,dz,dA,dB,dC,dD,dE,dF⟩:=sC8 (w:=cN) aa.out
       obtain⟨dG,dH,dI,dJ,dK,dL,dM,dN⟩:=sF8 aa.out
       obtain⟨dO,dP,dQ,dT,dU,dV,dW,dX⟩:=sC8 (w:=cN) ai.out
       obtain⟨dY,dZ,d7,d8,d9,ea,eb,ec⟩:=sF8 ai.out
       go_wp2
       repeat (go_quiet (fail);try go_wp2)
       go_meet
       case rel=>exact⟨_,(true),(by first|rfl|(simp;done)|(simp [*];done)),H',⟨by first|omega|exact Nat.le_refl _⟩,⟨by refine sM ?_;exact aa.out⟩,⟨by refine sM ?_;exact ai.out⟩,⟨by repeat (first|(with_reducible first|exact HB.out|apply qah|apply qae|apply qag|refine qad ?_ aH.out|refine qad ?_ aI.out)|exact HB.out)⟩⟩
     ·rw [if_neg fe] at H
      have cz:(ae == ag)=false:=beq_eq_false_iff_ne.mpr fe
      have fa:(ae != ag)=true:=bne_iff_ne.mpr fe
      (first|rw [cz]|(simp only [qaC,qaE];rw [cz])|skip)
      have H':=qaa.mk H
      clear H
      have iD:=ax.out
      have iE:=ay.out
      obtain⟨ed,ef,eg,eh,ek,el,en,ep⟩:=sC8 (w:=cN) aa.out
      obtain⟨eq,er,es,et,eu,ev,ew,ex⟩:=sF8 aa.out
      obtain⟨ey,ez,eA,eB,eC,eD,eE,eF⟩:=sC8 (w:=cN) ai.out
      obtain⟨eG,eH,eI,eJ,eK,eL,eM,eN⟩:=sF8 ai.out
      go_wp2
      repeat (go_quiet (fail);try go_wp2)
      go_meet
      case rel=>exact⟨_,(true),(by first|rfl|(simp;done)|(simp [*];done)),H',⟨by first|omega|exact Nat.le_refl _⟩,⟨by refine sM ?_;exact aa.out⟩,⟨by refine sM ?_;exact ai.out⟩,⟨by repeat (first|(with_reducible first|exact HB.out|apply qah|apply qae|apply qag|refine qad ?_ aH.out|refine qad ?_ aI.out)|exact HB.out)⟩⟩
    ·replace fz:=Bool.eq_false_iff.mpr fz
     subst fz
     have H1:(ostinatoref21_Same.j0 k true aq ar an ae af al aj ab au av ap ag ah am ak ac)=some r:=by rw [if_neg (show ¬ (false=true) by decide)] at H;exact H
     clear H
     have H:=H1
     clear H1
     have H':=qaa.mk H
     clear H
     go_wp2
     repeat (go_quiet (fail);try go_wp2)
     go_meet
     case rel=>exact⟨_,(true),(by first|rfl|(simp;done)|(simp [*];done)),H',⟨by first|omega|exact Nat.le_refl _⟩,⟨by refine sM ?_;exact aa.out⟩,⟨by refine sM ?_;exact ai.out⟩,⟨by repeat (first|(with_reducible first|exact HB.out|apply qah|apply qae|apply qag|refine qad ?_ aH.out|refine qad ?_ aI.out)|exact HB.out)⟩⟩
   ·replace fy:=Bool.eq_false_iff.mpr fy
    subst fy
    have H1:(ostinatoref21_Same.j0 k true aq ar an ae af al aj ab au av ap ag ah am ak ac)=some r:=by rw [if_neg (show ¬ (false=true) by decide)] at H;exact H
    clear H
    have H:=H1
    clear H1
    have H':=qaa.mk H
    clear H
    go_wp2
    repeat (go_quiet (fail);try go_wp2)
    go_meet
    case rel=>exact⟨_,(true),(by first|rfl|(simp;done)|(simp [*];done)),H',⟨by first|omega|exact Nat.le_refl _⟩,⟨by refine sM ?_;exact aa.out⟩,⟨by refine sM ?_;exact ai.out⟩,⟨by repeat (first|(with_reducible first|exact HB.out|apply qah|apply qae|apply qag|refine qad ?_ aH.out|refine qad ?_ aI.out)|exact HB.out)⟩⟩
  ·replace fx:=Bool.eq_false_iff.mpr fx
   subst fx
   have H1:(ostinatoref21_Same.j0 k true aq ar an ae af al aj ab au av ap ag ah am ak ac)=some r:=by rw [if_neg (show ¬ (false=true) by decide)] at H;exact H
   clear H
   have H:=H1
   clear H1
   have H':=qaa.mk H
   clear H
   go_wp2
   repeat (go_quiet (fail);try go_wp2)
   go_meet
   case rel=>exact⟨_,(true),(by first|rfl|(simp;done)|(simp [*];done)),H',⟨by first|omega|exact Nat.le_refl _⟩,⟨by refine sM ?_;exact aa.out⟩,⟨by refine sM ?_;exact ai.out⟩,⟨by repeat (first|(with_reducible first|exact HB.out|apply qah|apply qae|apply qag|refine qad ?_ aH.out|refine qad ?_ aI.out)|exact HB.out)⟩⟩
 case rest=>
  clear ip
  try clear c1
  try clear c2
  try clear p2
  try clear c9
  try clear iT
  try clear fx
  try clear fy
  try clear fz
  try clear fe
  try clear cz
  try clear fa
  try clear ff
  try clear fb
  try clear fc
  try clear iU
  try clear iV
  try clear iW
  try clear aX aY aZ a8 ba be bf bg
  try clear bv bw bx bz bB bC bD bE
  try clear bN bO bP bQ bR bS bT bU
  try clear cb ce cf cg cj ck cm co
  try clear cP cQ cR cS cT cU cV cW
  try clear df dg dh di dj dk dl dm
  try clear dy dz dA dB dC dD dE dF
  try clear dO dP dQ dT dU dV dW dX
  try clear ed ef eg eh ek el en ep
  try clear ey ez eA eB eC eD eE eF
  try clear bh bi bj bm bn bp bq bt
  try clear bF bG bH bI bJ bK bL bM
  try clear bV bW bX bY bZ b8 b9 ca
  try clear cp cq cr ct cu cv cw cx
  try clear cX cY cZ da db dc dd de
  try clear dn dp dq dr du dv dw dx
  try clear dG dH dI dJ dK dL dM dN
  try clear dY dZ d7 d8 d9 ea eb ec
  try clear eq er es et eu ev ew ex
  try clear eG eH eI eJ eK eL eM eN
  obtain⟨kq,cO,rfl,HA,iF,aa,ai,HB⟩:=hcut
  cases kq with
  |zero=>exact absurd HA.out (by simp [ostinatoref21_Same.j0])
  |succ iq=>
   have H:=HA.out
   clear HA
   simp only [ostinatoref21_Same.j0] at H
   by_cases fE:cO=true
   ·subst fE
    have H1:(some false)=some r:=by rw [if_pos rfl] at H;exact H
    clear H
    have H:=H1
    clear H1
    obtain rfl:=Option.some.inj H
    go_wp2
    repeat (go_quiet (fail);try go_wp2)
    go_ret
    exact⟨by first|rfl|(simp [qam,qal]<;>rfl)|(simp [bneNil,bneNilU]<;>rfl)|(simp [*,qam,qal]<;>rfl),by repeat (first|(with_reducible first|exact HB.out|apply qah|apply qae|apply qag|refine qad ?_ aH.out|refine qad ?_ aI.out)|exact HB.out)⟩
   ·replace fE:=Bool.eq_false_iff.mpr fE
    subst fE
    have H1:(ostinatoref21_Same.l0 iq 0 aq ar an ae af al aj ab au av ap ag ah am ak ac)=some r:=by rw [if_neg (show ¬ (false=true) by decide)] at H;exact H
    clear H
    have H:=H1
    clear H1
    have H':=qaa.mk H
    clear H
    go_wp2
    repeat (go_quiet (fail);try go_wp2)
    go_loopg [8] iq (fun kq v8 w'=>∃ (aw:Int),v8=.int .i64 aw∧qaa (ostinatoref21_Same.l0 kq aw aq ar an ae af al aj ab au av ap ag ah am ak ac=some r)∧qaa (kq≤iq)∧qaa (w'.heap[aE]? = some (.cells #[.int .i64 aq,.int .i64 ar,(.slice A0_2 an.length c0_2),.int .i64 ae,.int .i64 af,(.slice A0_5 al.length c0_5),(.slice A0_6 aj.length c0_6),(.slice A0_7 ab.length c0_7)] 39 (0,0)))∧qaa (w'.heap[aG]? = some (.cells #[.int .i64 au,.int .i64 av,(.slice cB ap.length cC),.int .i64 ag,.int .i64 ah,(.slice cD am.length cE),(.slice cF ak.length cG),(.slice cH ac.length cI)] 39 (0,0)))∧qaa (Below w.heap.size w w'))
    case atStart=>exact⟨(0),(by first|rfl|(simp;done)|(simp [*];done)),H',⟨Nat.le_refl _⟩,⟨by refine sM ?_;exact aa.out⟩,⟨by refine sM ?_;exact ai.out⟩,⟨by repeat (first|(with_reducible first|exact HB.out|apply qah|apply qae|apply qag|refine qad ?_ aH.out|refine qad ?_ aI.out)|exact HB.out)⟩⟩
    case round=>
     clear H'
     try clear c1
     try clear c2
     try clear p2
     try clear c9
     try clear iT
     try clear fx
     try clear fy
     try clear fz
     try clear fe
     try clear cz
     try clear fa
     try clear ff
     try clear fb
     try clear fc
     try clear iU
     try clear iV
     try clear iW
     try clear fE
     try clear aX aY aZ a8 ba be bf bg
     try clear bv bw bx bz bB bC bD bE
     try clear bN bO bP bQ bR bS bT bU
     try clear cb ce cf cg cj ck cm co
     try clear cP cQ cR cS cT cU cV cW
     try clear df dg dh di dj dk dl dm
     try clear dy dz dA dB dC dD dE dF
     try clear dO dP dQ dT dU dV dW dX
     try clear ed ef eg eh ek el en ep
     try clear ey ez eA eB eC eD eE eF
     try clear bh bi bj bm bn bp bq bt
     try clear bF bG bH bI bJ bK bL bM
     try clear bV bW bX bY bZ b8 b9 ca
     try clear cp cq cr ct cu cv cw cx
     try clear cX cY cZ da db dc dd de
     try clear dn dp dq dr du dv dw dx
     try clear dG dH dI dJ dK dL dM dN
     try clear dY dZ d7 d8 d9 ea eb ec
     try clear eq er es et eu ev ew ex
     try clear eG eH eI eJ eK eL eM eN
     try clear p2
     obtain⟨aw,rfl,HA,iG,aa,ai,HB⟩:=hrel
     cases gk with
     |zero=>exact absurd HA.out (by simp [ostinatoref21_Same.l0])
     |succ k2=>
      have H:=HA.out
      clear HA
      simp only [ostinatoref21_Same.l0] at H
      by_cases fA:aw<(ab.length:Int)
      ·rw [if_pos fA] at H
       have fF:decide (aw<(ab.length:Int))=true:=decide_eq_true fA
       clear fA
       by_cases fJ:0≤aw
       ·rw [if_pos fJ] at H
        have iH:decide (0≤aw)=true:=decide_eq_true fJ
        clear fJ
        by_cases fK:aw<(ac.length:Int)
        ·rw [if_pos fK] at H
         have iI:decide (aw<(ac.length:Int))=true:=decide_eq_true fK
         clear fK
         by_cases fB:(!(((qaw ab aw).f0) == ((qaw ac aw).f0)) || (!(((qaw ab aw).f1) == ((qaw ac aw).f1)) || (!(((qaw ab aw).f2) == ((qaw ac aw).f2)) || (!(((qaw ab aw).f3) == ((qaw ac aw).f3))))))=true
         ·rw [if_pos fB] at H
          have fG:(!(((qaw ab aw).f0) == ((qaw ac aw).f0)) || (!(((qaw ab aw).f1) == ((qaw ac aw).f1)) || (!(((qaw ab aw).f2) == ((qaw ac aw).f2)) || (!(((qaw ab aw).f3) == ((qaw ac aw).f3))))))=true:=fB
          clear fB
          obtain rfl:=Option.some.inj H
          have iJ:=ax.out
          have iK:=ay.out
          obtain⟨fL,fM,fN,fO,fP,fQ,fR,fS⟩:=sC8 (w:=wr) aa.out
          obtain⟨fT,fU,fV,fW,fX,fY,fZ,ga⟩:=sF8 aa.out
          have cJ:0≤(aw:Int):=of_decide_eq_true sA
          have cK:aw<(ab.length:Int):=of_decide_eq_true sA
          obtain⟨fH,fv,aJ,aK,aM,aN⟩:=at_T49 fp.out aw cJ cK
          cases fv
          replace aJ:=(HB.out.cell (bLt w _ aJ)).trans aJ
          replace aK:=(HB.out.cell (bLt w _ aK)).trans aK
          replace aM:=(HB.out.cell (bLt w _ aM)).trans aM
          replace aN:=(HB.out.cell (bLt w _ aN)).trans aN
          replace cJ:=eq_true cJ
          replace cK:=eq_true cK
          obtain⟨gb,gc,ge,gf,gg,gh,gi,gj⟩:=sC8 (w:=wr) ai.out
          obtain⟨gl,gm,gn,go,gp,gq,gr,gt⟩:=sF8 ai.out
          have cL:0≤(aw:Int):=of_decide_eq_true sA
          have cM:aw<(ac.length:Int):=of_decide_eq_true sA
          obtain⟨fI,fw,aQ,aT,aU,aV⟩:=at_T49 fq.out aw cL cM
          cases fw
          replace aQ:=(HB.out.cell (bLt w _ aQ)).trans aQ
          replace aT:=(HB.out.cell (bLt w _ aT)).trans aT
          replace aU:=(HB.out.cell (bLt w _ aU)).trans aU
          replace aV:=(HB.out.cell (bLt w _ aV)).trans aV
          replace cL:=eq_true cL
          replace cM:=eq_true cM
          go_wp2
          repeat (go_quiet (fail);try go_wp2)
          go_ret
          exact⟨by first|rfl|(simp [qam,qal]<;>rfl)|(simp [bneNil,bneNilU]<;>rfl)|(simp [*,qam,qal]<;>rfl),by repeat (first|(with_reducible first|exact HB.out|apply qah|apply qae|apply qag|refine qad ?_ aH.out|refine qad ?_ aI.out)|exact HB.out)⟩
         ·rw [if_neg fB] at H
          have fG:(!(((qaw ab aw).f0) == ((qaw ac aw).f0)) || (!(((qaw ab aw).f1) == ((qaw ac aw).f1)) || (!(((qaw ab aw).f2) == ((qaw ac aw).f2)) || (!(((qaw ab aw).f3) == ((qaw ac aw).f3))))))=false:=by simpa using fB
          clear fB
          have H':=qaa.mk H
          clear H
          have iL:=ax.out
          have iM:=ay.out
          obtain⟨gu,gv,gw,gx,gy,gz,gA,gB⟩:=sC8 (w:=wr) aa.out
          obtain⟨gC,gD,gE,gF,gG,gH,gI,gJ⟩:=sF8 aa.out
          have cJ:0≤(aw:Int):=of_decide_eq_true sA
          have cK:aw<(ab.length:Int):=of_decide_eq_true sA
          obtain⟨fH,fv,aJ,aK,aM,aN⟩:=at_T49 fp.out aw cJ cK
          cases fv
          replace aJ:=(HB.out.cell (bLt w _ aJ)).trans aJ
          replace aK:=(HB.out.cell (bLt w _ aK)).trans aK
          replace aM:=(HB.out.cell (bLt w _ aM)).trans aM
          replace aN:=(HB.out.cell (bLt w _ aN)).trans aN
          replace cJ:=eq_true cJ
          replace cK:=eq_true cK
          obtain⟨gK,gL,gM,gN,gO,gP,gQ,gR⟩:=sC8 (w:=wr) ai.out
          obtain⟨gS,gT,gU,gV,gW,gX,gY,gZ⟩:=sF8 ai.out
          have cL:0≤(aw:Int):=of_decide_eq_true sA
          have cM:aw<(ac.length:Int):=of_decide_eq_true sA
          obtain⟨fI,fw,aQ,aT,aU,aV⟩:=at_T49 fq.out aw cL cM
          cases fw
          replace aQ:=(HB.out.cell (bLt w _ aQ)).trans aQ
          replace aT:=(HB.out.cell (bLt w _ aT)).trans aT
          replace aU:=(HB.out.cell (bLt w _ aU)).trans aU
          replace aV:=(HB.out.cell (bLt w _ aV)).trans aV
          replace cL:=eq_true cL
          replace cM:=eq_true cM
          go_wp2
          repeat (go_quiet (fail);try go_wp2)
          go_roundg k2
          case measure=>have:=iF.out;have:=iG.out;omega
          case rel=>exact⟨(wrap64 (aw+1)),(by first|rfl|(simp;done)|(simp [*];done)),H',⟨by have:=iF.out;have:=iG.out;omega⟩,⟨by refine sM ?_;exact aa.out⟩,⟨by refine sM ?_;exact ai.out⟩,⟨by repeat (first|(with_reducible first|exact HB.out|apply qah|apply qae|apply qag|refine qad ?_ aH.out|refine qad ?_ aI.out)|exact HB.out)⟩⟩
        ·rw [if_neg fK] at H
         exact absurd H (by simp)
       ·rw [if_neg fJ] at H
        exact absurd H (by simp)
      ·rw [if_neg fA] at H
       have fF:decide (aw<(ab.length:Int))=false:=decide_eq_false fA
       clear fA
       obtain rfl:=Option.some.inj H
       have iN:=ax.out
       have iO:=ay.out
       obtain⟨hH,hJ,hO,hX,hY,ia,ib,ic⟩:=sC8 (w:=wr) aa.out
       obtain⟨ie,ig,ii,ij,ik,il,im,io⟩:=sF8 aa.out
       go_wp2
       repeat (go_quiet (fail);try go_wp2)
       go_ret
       exact⟨by first|rfl|(simp [qam,qal]<;>rfl)|(simp [bneNil,bneNilU]<;>rfl)|(simp [*,qam,qal]<;>rfl),by repeat (first|(with_reducible first|exact HB.out|apply qah|apply qae|apply qag|refine qad ?_ aH.out|refine qad ?_ aI.out)|exact HB.out)⟩
end
end Go.Proofs.YtgnaaokhfpfglaaDoor.PCertTold
end
section
namespace Go.Proofs.YtgnaaokhfpfglaaDoor.PCertTold
open Go.RowKit Go.Proofs.YtgnaaokhfpfglaaDoorW.PrintWords Go.Proofs.YtgnaaokhfpfglaaDoorW.PrintLast Go.Proofs.YtgnaaokhfpfglaaDoorW.PrintMore
attribute [local go_sem] qaW qaU qa3 qa2 qaN qaM qaV qaT
set_option linter.unusedVariables false
set_option linter.unusedSimpArgs false
noncomputable section
def ostinatolaw21_CertTold.j0:Nat→Bool→Int→Int→List (S53)→Int→Int→List Int→List Int→List (S49)→Int→Int→List (S53)→Int→Int→List Int→List Int→List (S49)→Option (Bool)
 |0,_,_,_,_,_,_,_,_,_,_,_,_,_,_,_,_,_=>none
 |k+1,x7,aa,ab,ac,ae,af,ag,ah,ai,aj,ak,al,am,an,ap,aq,ar=>if x7=true then ((cert_Print.f aa ab ac ae af ag ah ai).bind fun au=>(if au.toList=([]:List UInt8) then (some false) else ((cert_Print.f aa ab ac ae af ag ah ai).bind fun av=>((cert_Print.f aj ak al am an ap aq ar).bind fun aw=>((cert_Same.f k aa ab ac ae af ag ah ai aj ak al am an ap aq ar).bind fun ax=>(if ((av.toList == aw.toList) == ax)=true then ((cert_Same.f k aa ab ac ae af ag ah ai aj ak al am an ap aq ar).bind fun ay=>((ostinatoref21_Same.f k aa ab ac ae af ag ah ai aj ak al am an ap aq ar).bind fun az=>(some (ay == az)))) else (some false))))))) else (some false)
def ostinatolaw21_CertTold.f (k:Nat) (ah:Int) (ai:Int) (aj:List (S82)) (ak:Int) (al:Int) (am:List Int) (an:List Int) (ap:List (S56)) (a1:Int) (a2:Int):Option (Bool):=(ostinatolaw21_awake.f).bind fun ab=>((ostinatolaw21_Spec_cert.f k ah ai aj ak al am an ap).bind fun aa=>(if (Int.tmod (wrap64 ((Int.tmod a1 4)+4)) 4)=0 then (ostinatolaw21_CertTold.j0 k ab aa.1 aa.2.1 aa.2.2.1 aa.2.2.2.1 aa.2.2.2.2.1 aa.2.2.2.2.2.1 aa.2.2.2.2.2.2.1 aa.2.2.2.2.2.2.2 aa.1 aa.2.1 aa.2.2.1 aa.2.2.2.1 (wrap64 (1+(Go.bits .and .i64 (wrap64 (aa.2.2.2.2.1+(Go.bits .and .i64 a2 15))) 3))) aa.2.2.2.2.2.1 aa.2.2.2.2.2.2.1 aa.2.2.2.2.2.2.2) else (if (Int.tmod (wrap64 ((Int.tmod a1 4)+4)) 4)=1 then ((some (([]:List Int):List Int)).bind fun ae=>(if ae.length+aa.2.2.2.2.2.2.1.length<17592186044416 then ((some (ae++aa.2.2.2.2.2.2.1:List Int)).bind fun ac=>(if 0<(ac.length:Int) then (ostinatolaw21_CertTold.j0 k ab aa.1 aa.2.1 aa.2.2.1 aa.2.2.2.1 aa.2.2.2.2.1 aa.2.2.2.2.2.1 aa.2.2.2.2.2.2.1 aa.2.2.2.2.2.2.2 aa.1 aa.2.1 aa.2.2.1 aa.2.2.2.1 aa.2.2.2.2.1 aa.2.2.2.2.2.1 (ac.set (0:Int).toNat (wrap64 ((rd ac 0)+(Go.bits .and .i64 a2 15)))) aa.2.2.2.2.2.2.2) else (none))) else (none))) else (if (Int.tmod (wrap64 ((Int.tmod a1 4)+4)) 4)=2 then ((some (([]:List (S49)):List (S49))).bind fun af=>(if af.length+aa.2.2.2.2.2.2.2.length<4398046511104 then ((some (af++aa.2.2.2.2.2.2.2:List (S49))).bind fun ag=>(if ag.length<4398046511104 then (ostinatolaw21_CertTold.j0 k ab aa.1 aa.2.1 aa.2.2.1 aa.2.2.2.1 aa.2.2.2.2.1 aa.2.2.2.2.2.1 aa.2.2.2.2.2.2.1 aa.2.2.2.2.2.2.2 aa.1 aa.2.1 aa.2.2.1 aa.2.2.2.1 aa.2.2.2.2.1 aa.2.2.2.2.2.1 aa.2.2.2.2.2.2.1 (ag++[(⟨5,Go.bits .and .i64 a2 15,0,0⟩:S49)])) else (none))) else (none))) else (if (Int.tmod (wrap64 ((Int.tmod a1 4)+4)) 4)=3 then (ostinatolaw21_CertTold.j0 k ab aa.1 aa.2.1 aa.2.2.1 aa.2.2.2.1 aa.2.2.2.2.1 aa.2.2.2.2.2.1 aa.2.2.2.2.2.2.1 aa.2.2.2.2.2.2.2 aa.1 aa.2.1 aa.2.2.1 (wrap64 (1+(Go.bits .and .i64 (wrap64 (aa.2.2.2.1+(Go.bits .and .i64 a2 15))) 1))) aa.2.2.2.2.1 aa.2.2.2.2.2.1 aa.2.2.2.2.2.2.1 aa.2.2.2.2.2.2.2) else (ostinatolaw21_CertTold.j0 k ab aa.1 aa.2.1 aa.2.2.1 aa.2.2.2.1 aa.2.2.2.2.1 aa.2.2.2.2.2.1 aa.2.2.2.2.2.2.1 aa.2.2.2.2.2.2.2 aa.1 aa.2.1 aa.2.2.1 aa.2.2.2.1 aa.2.2.2.2.1 aa.2.2.2.2.2.1 aa.2.2.2.2.2.2.1 aa.2.2.2.2.2.2.2))))))
def ostinatolaw21_CertTold.T10:Bool × List (List Nat × List Nat):=(true,[([],[]),([0],[0]),([1],[1]),([],[]),([3],[3]),([4],[4]),([5],[5]),([6],[6]),([],[]),([7,8],[7,8]),([2,0,1,2,3,4,5,6,7,8,9],[2]),([10,9,0,1,2,3,4,5,6,7,8,9],[9,10])])
def ostinatolaw21_CertTold.B10:List Nat:=[0,1,3,0,8,24,56,120,0,504,1023,2047]
theorem ostinatolaw21_CertTold.tab10:rtab .any (opsOf Tryd.f4 10)=ostinatolaw21_CertTold.T10:=by kernel_rfl
theorem ostinatolaw21_CertTold.bits10:waitsOk ostinatolaw21_CertTold.T10.2 ostinatolaw21_CertTold.B10=true:=by kernel_rfl
def ostinatolaw21_CertTold.T15:Bool × List (List Nat × List Nat):=(true,[([],[]),([0],[0]),([1],[1]),([2,1,1],[1,2]),([3,1],[1,3]),([1,4],[1,4]),([5,3],[5]),([6],[6]),([7,6,6],[6,7]),([6],[6]),([9,8,6],[6,9]),([8,10,6],[6,8,10]),([6],[6]),([6],[6]),([12,13,10,6],[6,12,13]),([11,14,6],[6,11,14]),([6,15],[6,15]),([16,14],[16]),([17],[17]),([17],[17]),([18,19,17,17],[17,18,19]),([17],[17]),([17],[17]),([21,22,20,17],[17,21,22]),([20,23,17],[17,20,23]),([17,24],[17,24]),([25,23,0,1,2,3,4,5,6,7,8,9,10,11,12,13,14,15,16,17,18,19,20,21,22,23,24,25],[25])])
def ostinatolaw21_CertTold.B15:List Nat:=[0,1,3,7,15,31,63,127,255,127,1023,2047,127,127,14335,32767,65535,131071,262143,262143,1048575,262143,262143,8388607,16777215,33554431,67108863]
theorem ostinatolaw21_CertTold.tab15:rtab .any (opsOf Tryd.f4 15)=ostinatolaw21_CertTold.T15:=by kernel_rfl
theorem ostinatolaw21_CertTold.bits15:waitsOk ostinatolaw21_CertTold.T15.2 ostinatolaw21_CertTold.B15=true:=by kernel_rfl
theorem ostinatolaw21_CertTold.calls (k:Nat) (bN:Int) (bO:Int) (A0_2:Option Addr) (c0_2:Nat) (bB:List (S82)) (bP:Int) (bQ:Int) (A0_5:Option Addr) (c0_5:Nat) (bC:List Int) (A0_6:Option Addr) (c0_6:Nat) (bD:List Int) (A0_7:Option Addr) (c0_7:Nat) (bE:List (S56)) (a1:Int) (a2:Int) (_r:Bool) (w:World) (hr0_2:Kd.C k82 w A0_2 bB.length bB) (hc0_2:bB.length≤c0_2) (hr0_5:Kd.C (Kd.int .i64) w A0_5 bC.length bC) (hc0_5:bC.length≤c0_5) (hr0_6:Kd.C (Kd.int .i64) w A0_6 bD.length bD) (hc0_6:bD.length≤c0_6) (hr0_7:Kd.C k56 w A0_7 bE.length bE) (hc0_7:bE.length≤c0_7) (h:ostinatolaw21_CertTold.f k bN bO bB bP bQ bC bD bE a1 a2=some true) (hT:Tabs w) :
  Calls Tryd.prog 4 #[.agg #[.int .i64 bN,.int .i64 bO,.slice A0_2 bB.length c0_2,.int .i64 bP,.int .i64 bQ,.slice A0_5 bC.length c0_5,.slice A0_6 bD.length c0_6,.slice A0_7 bE.length c0_7],.int .i64 a1,.int .i64 a2] w fun e w'=>e=.returned (.bool true)∧Below w.heap.size w w':=by
 have ki:=Tryd.underlying30
 have kj:=Tryd.underlying39
 have km:=Tryd.underlying49
 have hH:=qaa.mk hr0_2
 have hJ:=qaa.mk hc0_2
 clear hr0_2 hc0_2
 have hO:=qaa.mk hr0_5
 have hX:=qaa.mk hc0_5
 clear hr0_5 hc0_5
 have hY:=qaa.mk hr0_6
 have ia:=qaa.mk hc0_6
 clear hr0_6 hc0_6
 have ib:=qaa.mk hr0_7
 have ic:=qaa.mk hc0_7
 clear hr0_7 hc0_7
 have HB:=qaa.mk (Below.refl w.heap.size w)
 have H:((ostinatolaw21_awake.f).bind fun bf=>((ostinatolaw21_Spec_cert.f k bN bO bB bP bQ bC bD bE).bind fun ab=>(if (Int.tmod (wrap64 ((Int.tmod a1 4)+4)) 4)=0 then (ostinatolaw21_CertTold.j0 k bf ab.1 ab.2.1 ab.2.2.1 ab.2.2.2.1 ab.2.2.2.2.1 ab.2.2.2.2.2.1 ab.2.2.2.2.2.2.1 ab.2.2.2.2.2.2.2 ab.1 ab.2.1 ab.2.2.1 ab.2.2.2.1 (wrap64 (1+(Go.bits .and .i64 (wrap64 (ab.2.2.2.2.1+(Go.bits .and .i64 a2 15))) 3))) ab.2.2.2.2.2.1 ab.2.2.2.2.2.2.1 ab.2.2.2.2.2.2.2) else (if (Int.tmod (wrap64 ((Int.tmod a1 4)+4)) 4)=1 then ((some (([]:List Int):List Int)).bind fun bR=>(if bR.length+ab.2.2.2.2.2.2.1.length<17592186044416 then ((some (bR++ab.2.2.2.2.2.2.1:List Int)).bind fun aX=>(if 0<(aX.length:Int) then (ostinatolaw21_CertTold.j0 k bf ab.1 ab.2.1 ab.2.2.1 ab.2.2.2.1 ab.2.2.2.2.1 ab.2.2.2.2.2.1 ab.2.2.2.2.2.2.1 ab.2.2.2.2.2.2.2 ab.1 ab.2.1 ab.2.2.1 ab.2.2.2.1 ab.2.2.2.2.1 ab.2.2.2.2.2.1 (aX.set (0:Int).toNat (wrap64 ((rd aX 0)+(Go.bits .and .i64 a2 15)))) ab.2.2.2.2.2.2.2) else (none))) else (none))) else (if (Int.tmod (wrap64 ((Int.tmod a1 4)+4)) 4)=2 then ((some (([]:List (S49)):List (S49))).bind fun bS=>(if bS.length+ab.2.2.2.2.2.2.2.length<4398046511104 then ((some (bS++ab.2.2.2.2.2.2.2:List (S49))).bind fun bG=>(if bG.length<4398046511104 then (ostinatolaw21_CertTold.j0 k bf ab.1 ab.2.1 ab.2.2.1 ab.2.2.2.1 ab.2.2.2.2.1 ab.2.2.2.2.2.1 ab.2.2.2.2.2.2.1 ab.2.2.2.2.2.2.2 ab.1 ab.2.1 ab.2.2.1 ab.2.2.2.1 ab.2.2.2.2.1 ab.2.2.2.2.2.1 ab.2.2.2.2.2.2.1 (bG++[(⟨5,Go.bits .and .i64 a2 15,0,0⟩:S49)])) else (none))) else (none))) else (if (Int.tmod (wrap64 ((Int.tmod a1 4)+4)) 4)=3 then (ostinatolaw21_CertTold.j0 k bf ab.1 ab.2.1 ab.2.2.1 ab.2.2.2.1 ab.2.2.2.2.1 ab.2.2.2.2.2.1 ab.2.2.2.2.2.2.1 ab.2.2.2.2.2.2.2 ab.1 ab.2.1 ab.2.2.1 (wrap64 (1+(Go.bits .and .i64 (wrap64 (ab.2.2.2.1+(Go.bits .and .i64 a2 15))) 1))) ab.2.2.2.2.1 ab.2.2.2.2.2.1 ab.2.2.2.2.2.2.1 ab.2.2.2.2.2.2.2) else (ostinatolaw21_CertTold.j0 k bf ab.1 ab.2.1 ab.2.2.1 ab.2.2.2.1 ab.2.2.2.2.1 ab.2.2.2.2.2.1 ab.2.2.2.2.2.2.1 ab.2.2.2.2.2.2.2 ab.1 ab.2.1 ab.2.2.1 ab.2.2.2.1 ab.2.2.2.2.1 ab.2.2.2.2.2.1 ab.2.2.2.2.2.2.1 ab.2.2.2.2.2.2.2)))))))=some true:=h
 clear h
 have HT:=qaa.mk hT
 clear hT
 replace H:=Option.bind_eq_some_iff.mp H
 obtain⟨bf,jt,H⟩:=H
 replace H:((ostinatolaw21_Spec_cert.f k bN bO bB bP bQ bC bD bE).bind fun ab=>(if (Int.tmod (wrap64 ((Int.tmod a1 4)+4)) 4)=0 then (ostinatolaw21_CertTold.j0 k bf ab.1 ab.2.1 ab.2.2.1 ab.2.2.2.1 ab.2.2.2.2.1 ab.2.2.2.2.2.1 ab.2.2.2.2.2.2.1 ab.2.2.2.2.2.2.2 ab.1 ab.2.1 ab.2.2.1 ab.2.2.2.1 (wrap64 (1+(Go.bits .and .i64 (wrap64 (ab.2.2.2.2.1+(Go.bits .and .i64 a2 15))) 3))) ab.2.2.2.2.2.1 ab.2.2.2.2.2.2.1 ab.2.2.2.2.2.2.2) else (if (Int.tmod (wrap64 ((Int.tmod a1 4)+4)) 4)=1 then ((some (([]:List Int):List Int)).bind fun bR=>(if bR.length+ab.2.2.2.2.2.2.1.length<17592186044416 then ((some (bR++ab.2.2.2.2.2.2.1:List Int)).bind fun aX=>(if 0<(aX.length:Int) then (ostinatolaw21_CertTold.j0 k bf ab.1 ab.2.1 ab.2.2.1 ab.2.2.2.1 ab.2.2.2.2.1 ab.2.2.2.2.2.1 ab.2.2.2.2.2.2.1 ab.2.2.2.2.2.2.2 ab.1 ab.2.1 ab.2.2.1 ab.2.2.2.1 ab.2.2.2.2.1 ab.2.2.2.2.2.1 (aX.set (0:Int).toNat (wrap64 ((rd aX 0)+(Go.bits .and .i64 a2 15)))) ab.2.2.2.2.2.2.2) else (none))) else (none))) else (if (Int.tmod (wrap64 ((Int.tmod a1 4)+4)) 4)=2 then ((some (([]:List (S49)):List (S49))).bind fun bS=>(if bS.length+ab.2.2.2.2.2.2.2.length<4398046511104 then ((some (bS++ab.2.2.2.2.2.2.2:List (S49))).bind fun bG=>(if bG.length<4398046511104 then (ostinatolaw21_CertTold.j0 k bf ab.1 ab.2.1 ab.2.2.1 ab.2.2.2.1 ab.2.2.2.2.1 ab.2.2.2.2.2.1 ab.2.2.2.2.2.2.1 ab.2.2.2.2.2.2.2 ab.1 ab.2.1 ab.2.2.1 ab.2.2.2.1 ab.2.2.2.2.1 ab.2.2.2.2.2.1 ab.2.2.2.2.2.2.1 (bG++[(⟨5,Go.bits .and .i64 a2 15,0,0⟩:S49)])) else (none))) else (none))) else (if (Int.tmod (wrap64 ((Int.tmod a1 4)+4)) 4)=3 then (ostinatolaw21_CertTold.j0 k bf ab.1 ab.2.1 ab.2.2.1 ab.2.2.2.1 ab.2.2.2.2.1 ab.2.2.2.2.2.1 ab.2.2.2.2.2.2.1 ab.2.2.2.2.2.2.2 ab.1 ab.2.1 ab.2.2.1 (wrap64 (1+(Go.bits .and .i64 (wrap64 (ab.2.2.2.1+(Go.bits .and .i64 a2 15))) 1))) ab.2.2.2.2.1 ab.2.2.2.2.2.1 ab.2.2.2.2.2.2.1 ab.2.2.2.2.2.2.2) else (ostinatolaw21_CertTold.j0 k bf ab.1 ab.2.1 ab.2.2.1 ab.2.2.2.1 ab.2.2.2.2.1 ab.2.2.2.2.2.1 ab.2.2.2.2.2.2.1 ab.2.2.2.2.2.2.2 ab.1 ab.2.1 ab.2.2.1 ab.2.2.2.1 ab.2.2.2.2.1 ab.2.2.2.2.2.1 ab.2.2.2.2.2.2.1 ab.2.2.2.2.2.2.2))))))=some true:=H
 have A4:=qaa.mk jt
 clear jt
 replace H:=Option.bind_eq_some_iff.mp H
 obtain⟨⟨ae,af,ag,al,am,ak,aq,an⟩,ju,H⟩:=H
 replace H:(if (Int.tmod (wrap64 ((Int.tmod a1 4)+4)) 4)=0 then (ostinatolaw21_CertTold.j0 k bf ae af ag al am ak aq an ae af ag al (wrap64 (1+(Go.bits .and .i64 (wrap64 (am+(Go.bits .and .i64 a2 15))) 3))) ak aq an) else (if (Int.tmod (wrap64 ((Int.tmod a1 4)+4)) 4)=1 then ((some (([]:List Int):List Int)).bind fun bR=>(if bR.length+aq.length<17592186044416 then ((some (bR++aq:List Int)).bind fun aX=>(if 0<(aX.length:Int) then (ostinatolaw21_CertTold.j0 k bf ae af ag al am ak aq an ae af ag al am ak (aX.set (0:Int).toNat (wrap64 ((rd aX 0)+(Go.bits .and .i64 a2 15)))) an) else (none))) else (none))) else (if (Int.tmod (wrap64 ((Int.tmod a1 4)+4)) 4)=2 then ((some (([]:List (S49)):List (S49))).bind fun bS=>(if bS.length+an.length<4398046511104 then ((some (bS++an:List (S49))).bind fun bG=>(if bG.length<4398046511104 then (ostinatolaw21_CertTold.j0 k bf ae af ag al am ak aq an ae af ag al am ak aq (bG++[(⟨5,Go.bits .and .i64 a2 15,0,0⟩:S49)])) else (none))) else (none))) else (if (Int.tmod (wrap64 ((Int.tmod a1 4)+4)) 4)=3 then (ostinatolaw21_CertTold.j0 k bf ae af ag al am ak aq an ae af ag (wrap64 (1+(Go.bits .and .i64 (wrap64 (al+(Go.bits .and .i64 a2 15))) 1))) am ak aq an) else (ostinatolaw21_CertTold.j0 k bf ae af ag al am ak aq an ae af ag al am ak aq an)))))=some true:=H
 have A5:=qaa.mk ju
 clear ju
 have iV:=qaa.mk H
 clear H
 go_enter Tryd.func4,Tryd.ntmps4
 go_upto_block 0 with (first|((with_reducible refine qap (N:=3) rfl ?_);refine qao ?hg (N:=3) ?hd (cs:=#[.int .i64 bN,.int .i64 bO,.slice A0_2 bB.length c0_2,.int .i64 bP,.int .i64 bQ,.slice A0_5 bC.length c0_5,.slice A0_6 bD.length c0_6,.slice A0_7 bE.length c0_7]) (t:=30) ?hr ?_;(case hd=>rfl);(case hg=>rfl);(case hr=>first|(go_simp;done)|(go_simp;rfl));intro be hg w7 hbox hb;have aM:=qaa.mk (hbox);have ie:=qaa.mk ((by rw [hg];exact (qac sB):w.heap.size≤be));have bX:=qaa.mk ((by rw [hg];exact (qac sB):w.heap.size≤be));replace HB:=qaa.mk (qai sB hb);clear hb hbox hg)|((with_reducible refine qaA (f:=5) rfl ?_);refine qa7 (some 11) rfl rfl Tryd.func5 (by kernel_rfl) rfl #[] rfl (by (try simp only [List.map_toArray,List.map_cons,List.map_nil]);first|done|rfl|(simp only [List.length_drop,List.length_take];rfl)) ?_;(with_reducible refine (ostinatolaw21_awake.calls  bf _ A4.out (Tabs.below HT.out sB)).mono ?_);rintro e w8 ⟨rfl,hb⟩;refine⟨_,rfl,?_⟩;replace aM:=qaa.mk (sKb aM.out hb);replace HB:=qaa.mk (qai sB hb);(try clear hb);(try clear gG);(try clear hk);(try clear hi);obtain⟨gH,gI,gJ,gK,gL,gM,gN,gO⟩:=sC8 (w:=w8) aM.out;obtain⟨gP,gQ,gR,gS,gT,gU,gV,gW⟩:=sF8 aM.out)|((with_reducible refine qaA (f:=6) rfl ?_);refine qa7 (some 13) rfl rfl Tryd.func6 (by kernel_rfl) rfl #[.agg #[.int .i64 bN,.int .i64 bO,.slice A0_2 bB.length c0_2,.int .i64 bP,.int .i64 bQ,.slice A0_5 bC.length c0_5,.slice A0_6 bD.length c0_6,.slice A0_7 bE.length c0_7]] rfl (by (try simp only [List.map_toArray,List.map_cons,List.map_nil]);first|done|rfl|(simp only [List.length_drop,List.length_take];rfl)) ?_;(with_reducible refine (ostinatolaw21_Spec_cert.calls k bN bO (fun k_=>k_<w.heap.size) _ _ bB bP bQ _ _ bC _ _ bD _ _ bE ae af ag al am ak aq an _ ?bi ?bj ?bm ?bn ?bp ?bq ?bt A5.out).mono ?_);(case bi=>exact Kd.V_mk hJ.out (Kd.F_below (Kd.C_F k82_heap hH.out) sB));(case bj=>repeat (first|exact (Kd.C_below hO.out HB.out)|(with_reducible refine Kd.C_alloc ?_ _)|(with_reducible refine Kd.C_drewN ?_ _)|(with_reducible refine Kd.C_drew ?_)));(case bm=>exact hX.out);(case bn=>repeat (first|exact (Kd.C_below hY.out HB.out)|(with_reducible refine Kd.C_alloc ?_ _)|(with_reducible refine Kd.C_drewN ?_ _)|(with_reducible refine Kd.C_drew ?_)));(case bp=>exact ia.out);(case bq=>repeat (first|exact (Kd.C_below ib.out HB.out)|(with_reducible refine Kd.C_alloc ?_ _)|(with_reducible refine Kd.C_drewN ?_ _)|(with_reducible refine Kd.C_drew ?_)));(case bt=>exact ic.out);rintro e kJ ⟨kn,iW,iX,iY,rfl,jv,jw,jx,jy,hb⟩;refine⟨_,rfl,?_⟩;have a8:=qaa.mk (Kd.V_lower (Kd.V_mono (ok':=fun k_=>some k_≠(iW:Value).ownBlock∧some k_≠(iX:Value).ownBlock∧some k_≠(iY:Value).ownBlock∧k_≠be) jv (fun k_ hk_=>⟨hk_.2.1,hk_.2.2.1,hk_.2.2.2,Or.elim hk_.1 (fun hs_=>fun e_=>Nat.not_le.2 hs_ (by rw [e_];exact ie.out)) (fun hn_=>(Kd.freshB (g:=be) (o:=.cells #[.int .i64 bN,.int .i64 bO,.slice A0_2 bB.length c0_2,.int .i64 bP,.int .i64 bQ,.slice A0_5 bC.length c0_5,.slice A0_6 bD.length c0_6,.slice A0_7 bE.length c0_7] 30 (0,0)) (sK aM.out) k_ hn_))⟩)) (qac sB));have ba:=qaa.mk (Kd.R_lower (Kd.R_mono (ok':=fun k_=>True) jw (fun _ hk_=>trivial)) (qac sB));have aZ:=qaa.mk (Kd.R_lower (Kd.R_mono (ok':=fun k_=>True) jx (fun _ hk_=>trivial)) (qac sB));have aY:=qaa.mk (Kd.R_lower (Kd.R_mono (ok':=fun k_=>True) jy (fun _ hk_=>trivial)) (qac sB));replace aM:=qaa.mk (sKb aM.out hb);replace HB:=qaa.mk (qai sB hb);(try clear hb);(try clear gG);(try clear hk);(try clear hi);(try clear jv);(try clear jw);(try clear jx);(try clear jy))|((with_reducible refine qap (N:=8) rfl ?_);refine qao ?hg (N:=8) ?hd (cs:=#[.int .i64 0,.int .i64 0,.slice none 0 0,.int .i64 0,.int .i64 0,.slice none 0 0,.slice none 0 0,.slice none 0 0]) (t:=39) ?hr ?_;(case hd=>rfl);(case hg=>rfl);(case hr=>first|(go_simp;done)|(go_simp;rfl));intro aC hg ko hbox hb;replace a8:=qaa.mk (Kd.V_below (Kd.V_elderB (sV a8.out) aC (Nat.le_of_eq hg.symm)) hb);replace ba:=qaa.mk (Kd.R_below (sR ba.out) hb);replace aZ:=qaa.mk (Kd.R_below (sR aZ.out) hb);replace aY:=qaa.mk (Kd.R_below (sR aY.out) hb);have aj:=qaa.mk (hbox);have jz:=qaa.mk ((by rw [hg];exact (qac sB):w.heap.size≤aC));have bY:=qaa.mk ((by rw [hg];exact (qac sB):w.heap.size≤aC));replace HB:=qaa.mk (qai sB hb);have ax:=qaa.mk ((by rw [hg];exact Nat.ne_of_lt (sLt aM.out):be≠aC));have bv:=qaa.mk ((by rw [hg];exact Nat.ne_of_gt (sLt aM.out):aC≠be));replace aM:=qaa.mk (sKb aM.out hb);clear hb hbox hg;have jA:=bv.out;have jB:=ax.out;obtain⟨cM,cN,cO,cP,cQ,cR,cS,cT⟩:=sC8 (w:=ko) aj.out;obtain⟨cU,cV,cW,cX,cY,cZ,da,db⟩:=sF8 aj.out;obtain⟨ar,au,iZ⟩:=Kd.V_slice a8.out;subst iZ;obtain⟨aD,aE,i7⟩:=Kd.R_slice ba.out;subst i7;obtain⟨aT,aU,i8⟩:=Kd.R_slice aZ.out;subst i8;obtain⟨aV,aW,ja⟩:=Kd.R_slice aY.out;subst ja)|((with_reducible refine qap (N:=9) rfl ?_);refine qao ?hg (N:=9) ?hd (cs:=#[.int .i64 0,.int .i64 0,.slice none 0 0,.int .i64 0,.int .i64 0,.slice none 0 0,.slice none 0 0,.slice none 0 0]) (t:=39) ?hr ?_;(case hd=>rfl);(case hg=>rfl);(case hr=>first|(go_simp;done)|(go_simp;rfl));intro aa hg ig hbox hb;replace a8:=qaa.mk (Kd.V_below (Kd.V_elderB (by refine sVm ?_;exact (Kd.V_mono (Kd.V_far (p:=⟨aC,7,none⟩) (Kd.V_far (p:=⟨aC,6,none⟩) (Kd.V_far (p:=⟨aC,5,none⟩) (Kd.V_far (p:=⟨aC,4,none⟩) (Kd.V_far (p:=⟨aC,3,none⟩) (Kd.V_far (p:=⟨aC,2,none⟩) (Kd.V_far (p:=⟨aC,1,none⟩) (Kd.V_far (p:=⟨aC,0,none⟩) (Kd.V_mono a8.out (fun k_ hk=>(⟨hk,hk.2⟩:_∧k_≠aC))) (fun _ hk=>hk.2) (.int .i64 ae)) (fun _ hk=>hk.2) (.int .i64 af)) (fun _ hk=>hk.2) (.slice ar ag.length au)) (fun _ hk=>hk.2) (.int .i64 al)) (fun _ hk=>hk.2) (.int .i64 am)) (fun _ hk=>hk.2) (.slice aD ak.length aE)) (fun _ hk=>hk.2) (.slice aT aq.length aU)) (fun _ hk=>hk.2) (.slice aV an.length aW)) (fun _ h_=>h_.1))) aa (Nat.le_of_eq hg.symm)) hb);replace ba:=qaa.mk (Kd.R_below (by refine sRm ?_;exact (Kd.R_mono (Kd.R_far (p:=⟨aC,7,none⟩) (Kd.R_far (p:=⟨aC,6,none⟩) (Kd.R_far (p:=⟨aC,5,none⟩) (Kd.R_far (p:=⟨aC,4,none⟩) (Kd.R_far (p:=⟨aC,3,none⟩) (Kd.R_far (p:=⟨aC,2,none⟩) (Kd.R_far (p:=⟨aC,1,none⟩) (Kd.R_far (p:=⟨aC,0,none⟩) (Kd.R_types ba.out aj.out (by decide)) (fun _ hk=>hk.2) (.int .i64 ae)) (fun _ hk=>hk.2) (.int .i64 af)) (fun _ hk=>hk.2) (.slice ar ag.length au)) (fun _ hk=>hk.2) (.int .i64 al)) (fun _ hk=>hk.2) (.int .i64 am)) (fun _ hk=>hk.2) (.slice aD ak.length aE)) (fun _ hk=>hk.2) (.slice aT aq.length aU)) (fun _ hk=>hk.2) (.slice aV an.length aW)) (fun _ h_=>h_.1))) hb);replace aZ:=qaa.mk (Kd.R_below (by refine sRm ?_;exact (Kd.R_mono (Kd.R_far (p:=⟨aC,7,none⟩) (Kd.R_far (p:=⟨aC,6,none⟩) (Kd.R_far (p:=⟨aC,5,none⟩) (Kd.R_far (p:=⟨aC,4,none⟩) (Kd.R_far (p:=⟨aC,3,none⟩) (Kd.R_far (p:=⟨aC,2,none⟩) (Kd.R_far (p:=⟨aC,1,none⟩) (Kd.R_far (p:=⟨aC,0,none⟩) (Kd.R_types aZ.out aj.out (by decide)) (fun _ hk=>hk.2) (.int .i64 ae)) (fun _ hk=>hk.2) (.int .i64 af)) (fun _ hk=>hk.2) (.slice ar ag.length au)) (fun _ hk=>hk.2) (.int .i64 al)) (fun _ hk=>hk.2) (.int .i64 am)) (fun _ hk=>hk.2) (.slice aD ak.length aE)) (fun _ hk=>hk.2) (.slice aT aq.length aU)) (fun _ hk=>hk.2) (.slice aV an.length aW)) (fun _ h_=>h_.1))) hb);replace aY:=qaa.mk (Kd.R_below (by refine sRm ?_;exact (Kd.R_mono (Kd.R_far (p:=⟨aC,7,none⟩) (Kd.R_far (p:=⟨aC,6,none⟩) (Kd.R_far (p:=⟨aC,5,none⟩) (Kd.R_far (p:=⟨aC,4,none⟩) (Kd.R_far (p:=⟨aC,3,none⟩) (Kd.R_far (p:=⟨aC,2,none⟩) (Kd.R_far (p:=⟨aC,1,none⟩) (Kd.R_far (p:=⟨aC,0,none⟩) (Kd.R_types aY.out aj.out (by decide)) (fun _ hk=>hk.2) (.int .i64 ae)) (fun _ hk=>hk.2) (.int .i64 af)) (fun _ hk=>hk.2) (.slice ar ag.length au)) (fun _ hk=>hk.2) (.int .i64 al)) (fun _ hk=>hk.2) (.int .i64 am)) (fun _ hk=>hk.2) (.slice aD ak.length aE)) (fun _ hk=>hk.2) (.slice aT aq.length aU)) (fun _ hk=>hk.2) (.slice aV an.length aW)) (fun _ h_=>h_.1))) hb);have ac:=qaa.mk (hbox);have jC:=qaa.mk ((by rw [hg];exact (qac sB):w.heap.size≤aa));have bZ:=qaa.mk ((by rw [hg];exact (qac sB):w.heap.size≤aa));replace HB:=qaa.mk (qai sB hb);have ah:=qaa.mk ((by rw [hg];exact Nat.ne_of_lt (blk_lt (g:=be) (o:=.cells #[.int .i64 bN,.int .i64 bO,.slice A0_2 bB.length c0_2,.int .i64 bP,.int .i64 bQ,.slice A0_5 bC.length c0_5,.slice A0_6 bD.length c0_6,.slice A0_7 bE.length c0_7] 30 (0,0)) (by refine sM ?_;refine qaf ?_ ax.out _;refine sM ?_;refine qaf ?_ ax.out _;refine sM ?_;refine qaf ?_ ax.out _;refine sM ?_;refine qaf ?_ ax.out _;refine sM ?_;refine qaf ?_ ax.out _;refine sM ?_;refine qaf ?_ ax.out _;refine sM ?_;refine qaf ?_ ax.out _;refine sM ?_;refine qaf ?_ ax.out _;refine sM ?_;exact aM.out)):be≠aa));have bw:=qaa.mk ((by rw [hg];exact Nat.ne_of_gt (blk_lt (g:=be) (o:=.cells #[.int .i64 bN,.int .i64 bO,.slice A0_2 bB.length c0_2,.int .i64 bP,.int .i64 bQ,.slice A0_5 bC.length c0_5,.slice A0_6 bD.length c0_6,.slice A0_7 bE.length c0_7] 30 (0,0)) (by refine sM ?_;refine qaf ?_ ax.out _;refine sM ?_;refine qaf ?_ ax.out _;refine sM ?_;refine qaf ?_ ax.out _;refine sM ?_;refine qaf ?_ ax.out _;refine sM ?_;refine qaf ?_ ax.out _;refine sM ?_;refine qaf ?_ ax.out _;refine sM ?_;refine qaf ?_ ax.out _;refine sM ?_;refine qaf ?_ ax.out _;refine sM ?_;exact aM.out)):aa≠be));replace aM:=qaa.mk (qa9 (g:=be) (o:=.cells #[.int .i64 bN,.int .i64 bO,.slice A0_2 bB.length c0_2,.int .i64 bP,.int .i64 bQ,.slice A0_5 bC.length c0_5,.slice A0_6 bD.length c0_6,.slice A0_7 bE.length c0_7] 30 (0,0)) (by refine sM ?_;refine qaf ?_ ax.out _;refine sM ?_;refine qaf ?_ ax.out _;refine sM ?_;refine qaf ?_ ax.out _;refine sM ?_;refine qaf ?_ ax.out _;refine sM ?_;refine qaf ?_ ax.out _;refine sM ?_;refine qaf ?_ ax.out _;refine sM ?_;refine qaf ?_ ax.out _;refine sM ?_;refine qaf ?_ ax.out _;refine sM ?_;exact aM.out) hb);have ai:=qaa.mk ((by rw [hg];exact Nat.ne_of_lt (blk_lt (g:=aC) (o:=.cells #[.int .i64 ae,.int .i64 af,.slice ar ag.length au,.int .i64 al,.int .i64 am,.slice aD ak.length aE,.slice aT aq.length aU,.slice aV an.length aW] 39 (0,0)) (by refine sM ?_;refine qak (cs:=#[.int .i64 ae,.int .i64 af,.slice ar ag.length au,.int .i64 al,.int .i64 am,.slice aD ak.length aE,.slice aT aq.length aU,.slice none 0 0]) ?_ 7 _ rfl;refine sM ?_;refine qak (cs:=#[.int .i64 ae,.int .i64 af,.slice ar ag.length au,.int .i64 al,.int .i64 am,.slice aD ak.length aE,.slice none 0 0,.slice none 0 0]) ?_ 6 _ rfl;refine sM ?_;refine qak (cs:=#[.int .i64 ae,.int .i64 af,.slice ar ag.length au,.int .i64 al,.int .i64 am,.slice none 0 0,.slice none 0 0,.slice none 0 0]) ?_ 5 _ rfl;refine sM ?_;refine qak (cs:=#[.int .i64 ae,.int .i64 af,.slice ar ag.length au,.int .i64 al,.int .i64 0,.slice none 0 0,.slice none 0 0,.slice none 0 0]) ?_ 4 _ rfl;refine sM ?_;refine qak (cs:=#[.int .i64 ae,.int .i64 af,.slice ar ag.length au,.int .i64 0,.int .i64 0,.slice none 0 0,.slice none 0 0,.slice none 0 0]) ?_ 3 _ rfl;refine sM ?_;refine qak (cs:=#[.int .i64 ae,.int .i64 af,.slice none 0 0,.int .i64 0,.int .i64 0,.slice none 0 0,.slice none 0 0,.slice none 0 0]) ?_ 2 _ rfl;refine sM ?_;refine qak (cs:=#[.int .i64 ae,.int .i64 0,.slice none 0 0,.int .i64 0,.int .i64 0,.slice none 0 0,.slice none 0 0,.slice none 0 0]) ?_ 1 _ rfl;refine sM ?_;refine qak (cs:=#[.int .i64 0,.int .i64 0,.slice none 0 0,.int .i64 0,.int .i64 0,.slice none 0 0,.slice none 0 0,.slice none 0 0]) ?_ 0 _ rfl;refine sM ?_;exact aj.out)):aC≠aa));have bx:=qaa.mk ((by rw [hg];exact Nat.ne_of_gt (blk_lt (g:=aC) (o:=.cells #[.int .i64 ae,.int .i64 af,.slice ar ag.length au,.int .i64 al,.int .i64 am,.slice aD ak.length aE,.slice aT aq.length aU,.slice aV an.length aW] 39 (0,0)) (by refine sM ?_;refine qak (cs:=#[.int .i64 ae,.int .i64 af,.slice ar ag.length au,.int .i64 al,.int .i64 am,.slice aD ak.length aE,.slice aT aq.length aU,.slice none 0 0]) ?_ 7 _ rfl;refine sM ?_;refine qak (cs:=#[.int .i64 ae,.int .i64 af,.slice ar ag.length au,.int .i64 al,.int .i64 am,.slice aD ak.length aE,.slice none 0 0,.slice none 0 0]) ?_ 6 _ rfl;refine sM ?_;refine qak (cs:=#[.int .i64 ae,.int .i64 af,.slice ar ag.length au,.int .i64 al,.int .i64 am,.slice none 0 0,.slice none 0 0,.slice none 0 0]) ?_ 5 _ rfl;refine sM ?_;refine qak (cs:=#[.int .i64 ae,.int .i64 af,.slice ar ag.length au,.int .i64 al,.int .i64 0,.slice none 0 0,.slice none 0 0,.slice none 0 0]) ?_ 4 _ rfl;refine sM ?_;refine qak (cs:=#[.int .i64 ae,.int .i64 af,.slice ar ag.length au,.int .i64 0,.int .i64 0,.slice none 0 0,.slice none 0 0,.slice none 0 0]) ?_ 3 _ rfl;refine sM ?_;refine qak (cs:=#[.int .i64 ae,.int .i64 af,.slice none 0 0,.int .i64 0,.int .i64 0,.slice none 0 0,.slice none 0 0,.slice none 0 0]) ?_ 2 _ rfl;refine sM ?_;refine qak (cs:=#[.int .i64 ae,.int .i64 0,.slice none 0 0,.int .i64 0,.int .i64 0,.slice none 0 0,.slice none 0 0,.slice none 0 0]) ?_ 1 _ rfl;refine sM ?_;refine qak (cs:=#[.int .i64 0,.int .i64 0,.slice none 0 0,.int .i64 0,.int .i64 0,.slice none 0 0,.slice none 0 0,.slice none 0 0]) ?_ 0 _ rfl;refine sM ?_;exact aj.out)):aa≠aC));replace aj:=qaa.mk (qa9 (g:=aC) (o:=.cells #[.int .i64 ae,.int .i64 af,.slice ar ag.length au,.int .i64 al,.int .i64 am,.slice aD ak.length aE,.slice aT aq.length aU,.slice aV an.length aW] 39 (0,0)) (by refine sM ?_;refine qak (cs:=#[.int .i64 ae,.int .i64 af,.slice ar ag.length au,.int .i64 al,.int .i64 am,.slice aD ak.length aE,.slice aT aq.length aU,.slice none 0 0]) ?_ 7 _ rfl;refine sM ?_;refine qak (cs:=#[.int .i64 ae,.int .i64 af,.slice ar ag.length au,.int .i64 al,.int .i64 am,.slice aD ak.length aE,.slice none 0 0,.slice none 0 0]) ?_ 6 _ rfl;refine sM ?_;refine qak (cs:=#[.int .i64 ae,.int .i64 af,.slice ar ag.length au,.int .i64 al,.int .i64 am,.slice none 0 0,.slice none 0 0,.slice none 0 0]) ?_ 5 _ rfl;refine sM ?_;refine qak (cs:=#[.int .i64 ae,.int .i64 af,.slice ar ag.length au,.int .i64 al,.int .i64 0,.slice none 0 0,.slice none 0 0,.slice none 0 0]) ?_ 4 _ rfl;refine sM ?_;refine qak (cs:=#[.int .i64 ae,.int .i64 af,.slice ar ag.length au,.int .i64 0,.int .i64 0,.slice none 0 0,.slice none 0 0,.slice none 0 0]) ?_ 3 _ rfl;refine sM ?_;refine qak (cs:=#[.int .i64 ae,.int .i64 af,.slice none 0 0,.int .i64 0,.int .i64 0,.slice none 0 0,.slice none 0 0,.slice none 0 0]) ?_ 2 _ rfl;refine sM ?_;refine qak (cs:=#[.int .i64 ae,.int .i64 0,.slice none 0 0,.int .i64 0,.int .i64 0,.slice none 0 0,.slice none 0 0,.slice none 0 0]) ?_ 1 _ rfl;refine sM ?_;refine qak (cs:=#[.int .i64 0,.int .i64 0,.slice none 0 0,.int .i64 0,.int .i64 0,.slice none 0 0,.slice none 0 0,.slice none 0 0]) ?_ 0 _ rfl;refine sM ?_;exact aj.out) hb);clear hb hbox hg;have jD:=bw.out;have jE:=ah.out;have jF:=bx.out;have jG:=ai.out;obtain⟨dc,dd,de,df,dg,dh,di,dj⟩:=sC8 (w:=ig) ac.out;obtain⟨dk,dl,dm,dn,dp,dq,dr,du⟩:=sF8 ac.out))
 (try simp only [Act.put,List.setIfInBounds_toArray,List.set_cons_zero,List.set_cons_succ])
 go_cut [] (fun wc=>∃ (kq:Nat) (ap:List Int) (av:Int) (aw:Int) (ay:List Int) (az:List (S49)) (bT:Value) (bJ:Value) (bK:Value),qaa (ostinatolaw21_CertTold.j0 kq bf ae af ag al am ak ap an ae af ag av aw ak ay az=some true)∧qaa (kq≤k)∧qaa (Kd.V k53 53 wc w.heap.size (fun k_=>some k_≠((.slice aD ak.length aE):Value).ownBlock∧some k_≠(bT:Value).ownBlock∧some k_≠((.slice aV an.length aW):Value).ownBlock∧some k_≠((.slice aD ak.length aE):Value).ownBlock∧some k_≠(bJ:Value).ownBlock∧some k_≠(bK:Value).ownBlock∧k_≠be∧k_≠aC∧k_≠aa) (.slice ar ag.length au) ag)∧qaa (Kd.R (Kd.int .i64) 3 wc w.heap.size (fun _=>True) (.slice aD ak.length aE) ak)∧qaa (Kd.R (Kd.int .i64) 2 wc w.heap.size (fun _=>True) bT ap)∧qaa (Kd.R k49 49 wc w.heap.size (fun _=>True) (.slice aV an.length aW) an)∧qaa (Kd.V k53 53 wc w.heap.size (fun k_=>some k_≠((.slice aD ak.length aE):Value).ownBlock∧some k_≠(bT:Value).ownBlock∧some k_≠((.slice aV an.length aW):Value).ownBlock∧some k_≠((.slice aD ak.length aE):Value).ownBlock∧some k_≠(bJ:Value).ownBlock∧some k_≠(bK:Value).ownBlock∧k_≠be∧k_≠aC∧k_≠aa) (.slice ar ag.length au) ag)∧qaa (Kd.R (Kd.int .i64) 3 wc w.heap.size (fun _=>True) (.slice aD ak.length aE) ak)∧qaa (Kd.R (Kd.int .i64) 2 wc w.heap.size (fun _=>True) bJ ay)∧qaa (Kd.R k49 49 wc w.heap.size (fun _=>True) bK az)∧qaa (wc.heap[be]? = some (.cells #[.int .i64 bN,.int .i64 bO,(.slice A0_2 bB.length c0_2),.int .i64 bP,.int .i64 bQ,(.slice A0_5 bC.length c0_5),(.slice A0_6 bD.length c0_6),(.slice A0_7 bE.length c0_7)] 30 (0,0)))∧qaa (wc.heap[aC]? = some (.cells #[.int .i64 ae,.int .i64 af,(.slice ar ag.length au),.int .i64 al,.int .i64 am,(.slice aD ak.length aE),bT,(.slice aV an.length aW)] 39 (0,0)))∧qaa (wc.heap[aa]? = some (.cells #[.int .i64 ae,.int .i64 af,(.slice ar ag.length au),.int .i64 av,.int .i64 aw,(.slice aD ak.length aE),bJ,bK] 39 (0,0)))∧qaa (Below w.heap.size w wc))
 case first=>
  have H:=iV.out
  clear iV
  by_cases gi:(Int.tmod (wrap64 ((Int.tmod a1 4)+4)) 4)=0
  ·rw [if_pos gi] at H
   have cq:((Int.tmod (wrap64 ((Int.tmod a1 4)+4)) 4) == 0)=true:=beq_iff_eq.mpr gi
   have gj:((Int.tmod (wrap64 ((Int.tmod a1 4)+4)) 4) != 0)=false:=bne_eq_false_iff_eq.mpr gi
   clear gi
   (first|rw [cq]|(simp only [qaC,qaE];rw [cq])|skip)
   have H':=qaa.mk H
   clear H
   have jH:=bv.out
   have jI:=ax.out
   have jJ:=ai.out
   have jK:=bx.out
   obtain⟨dv,dw,dx,dy,dz,dA,dB,dC⟩:=sC8 (w:=ig) aj.out
   obtain⟨dD,dE,dF,dG,dH,dI,dJ,dK⟩:=sF8 aj.out
   have jL:=bw.out
   have jM:=ah.out
   obtain⟨dL,dM,dN,dO,dP,dQ,dT,dU⟩:=sC8 (w:=ig) ac.out
   obtain⟨dV,dW,dX,dY,dZ,d7,d8,d9⟩:=sF8 ac.out
   go_wp2
   go_meet
   case rel=>exact⟨_,(aq),(al),(wrap64 (1+(Go.bits .and .i64 (wrap64 (am+(Go.bits .and .i64 a2 15))) 3))),(aq),(an),(.slice aT aq.length aU),(.slice aT aq.length aU),(.slice aV an.length aW),H',⟨by first|omega|exact Nat.le_refl _⟩,⟨by refine sVm ?_;exact Kd.V_mono (Kd.V_far (p:=⟨aa,4,none⟩) (Kd.V_far (p:=⟨aa,7,none⟩) (Kd.V_far (p:=⟨aa,6,none⟩) (Kd.V_far (p:=⟨aa,5,none⟩) (Kd.V_far (p:=⟨aa,4,none⟩) (Kd.V_far (p:=⟨aa,3,none⟩) (Kd.V_far (p:=⟨aa,2,none⟩) (Kd.V_far (p:=⟨aa,1,none⟩) (Kd.V_far (p:=⟨aa,0,none⟩) (Kd.V_mono a8.out (fun k_ hk=>(⟨hk,hk.2⟩:_∧k_≠aa))) (fun _ hk=>hk.2) (.int .i64 ae)) (fun _ hk=>hk.2) (.int .i64 af)) (fun _ hk=>hk.2) (.slice ar ag.length au)) (fun _ hk=>hk.2) (.int .i64 al)) (fun _ hk=>hk.2) (.int .i64 am)) (fun _ hk=>hk.2) (.slice aD ak.length aE)) (fun _ hk=>hk.2) (.slice aT aq.length aU)) (fun _ hk=>hk.2) (.slice aV an.length aW)) (fun _ hk=>hk.2) (.int .i64 (wrap64 (1+(Go.bits .and .i64 (wrap64 (am+(Go.bits .and .i64 a2 15))) 3))))) (fun _ hk=>⟨hk.1.1.1.1,⟨hk.1.1.1.2.1,⟨hk.1.1.1.2.2.1,⟨hk.1.1.1.1,⟨hk.1.1.1.2.1,⟨hk.1.1.1.2.2.1,⟨hk.1.1.1.2.2.2,⟨hk.1.1.2,hk.1.2⟩⟩⟩⟩⟩⟩⟩⟩)⟩,⟨by refine sRm ?_;exact Kd.R_mono (Kd.R_far (p:=⟨aa,4,none⟩) (Kd.R_far (p:=⟨aa,7,none⟩) (Kd.R_far (p:=⟨aa,6,none⟩) (Kd.R_far (p:=⟨aa,5,none⟩) (Kd.R_far (p:=⟨aa,4,none⟩) (Kd.R_far (p:=⟨aa,3,none⟩) (Kd.R_far (p:=⟨aa,2,none⟩) (Kd.R_far (p:=⟨aa,1,none⟩) (Kd.R_far (p:=⟨aa,0,none⟩) (Kd.R_types ba.out ac.out (by decide)) (fun _ hk=>hk.2) (.int .i64 ae)) (fun _ hk=>hk.2) (.int .i64 af)) (fun _ hk=>hk.2) (.slice ar ag.length au)) (fun _ hk=>hk.2) (.int .i64 al)) (fun _ hk=>hk.2) (.int .i64 am)) (fun _ hk=>hk.2) (.slice aD ak.length aE)) (fun _ hk=>hk.2) (.slice aT aq.length aU)) (fun _ hk=>hk.2) (.slice aV an.length aW)) (fun _ hk=>hk.2) (.int .i64 (wrap64 (1+(Go.bits .and .i64 (wrap64 (am+(Go.bits .and .i64 a2 15))) 3))))) (fun _ hk=>trivial)⟩,⟨by refine sRm ?_;exact Kd.R_mono (Kd.R_far (p:=⟨aa,4,none⟩) (Kd.R_far (p:=⟨aa,7,none⟩) (Kd.R_far (p:=⟨aa,6,none⟩) (Kd.R_far (p:=⟨aa,5,none⟩) (Kd.R_far (p:=⟨aa,4,none⟩) (Kd.R_far (p:=⟨aa,3,none⟩) (Kd.R_far (p:=⟨aa,2,none⟩) (Kd.R_far (p:=⟨aa,1,none⟩) (Kd.R_far (p:=⟨aa,0,none⟩) (Kd.R_types aZ.out ac.out (by decide)) (fun _ hk=>hk.2) (.int .i64 ae)) (fun _ hk=>hk.2) (.int .i64 af)) (fun _ hk=>hk.2) (.slice ar ag.length au)) (fun _ hk=>hk.2) (.int .i64 al)) (fun _ hk=>hk.2) (.int .i64 am)) (fun _ hk=>hk.2) (.slice aD ak.length aE)) (fun _ hk=>hk.2) (.slice aT aq.length aU)) (fun _ hk=>hk.2) (.slice aV an.length aW)) (fun _ hk=>hk.2) (.int .i64 (wrap64 (1+(Go.bits .and .i64 (wrap64 (am+(Go.bits .and .i64 a2 15))) 3))))) (fun _ hk=>trivial)⟩,⟨by refine sRm ?_;exact Kd.R_mono (Kd.R_far (p:=⟨aa,4,none⟩) (Kd.R_far (p:=⟨aa,7,none⟩) (Kd.R_far (p:=⟨aa,6,none⟩) (Kd.R_far (p:=⟨aa,5,none⟩) (Kd.R_far (p:=⟨aa,4,none⟩) (Kd.R_far (p:=⟨aa,3,none⟩) (Kd.R_far (p:=⟨aa,2,none⟩) (Kd.R_far (p:=⟨aa,1,none⟩) (Kd.R_far (p:=⟨aa,0,none⟩) (Kd.R_types aY.out ac.out (by decide)) (fun _ hk=>hk.2) (.int .i64 ae)) (fun _ hk=>hk.2) (.int .i64 af)) (fun _ hk=>hk.2) (.slice ar ag.length au)) (fun _ hk=>hk.2) (.int .i64 al)) (fun _ hk=>hk.2) (.int .i64 am)) (fun _ hk=>hk.2) (.slice aD ak.length aE)) (fun _ hk=>hk.2) (.slice aT aq.length aU)) (fun _ hk=>hk.2) (.slice aV an.length aW)) (fun _ hk=>hk.2) (.int .i64 (wrap64 (1+(Go.bits .and .i64 (wrap64 (am+(Go.bits .and .i64 a2 15))) 3))))) (fun _ hk=>trivial)⟩,⟨by refine sVm ?_;exact Kd.V_mono (Kd.V_far (p:=⟨aa,4,none⟩) (Kd.V_far (p:=⟨aa,7,none⟩) (Kd.V_far (p:=⟨aa,6,none⟩) (Kd.V_far (p:=⟨aa,5,none⟩) (Kd.V_far (p:=⟨aa,4,none⟩) (Kd.V_far (p:=⟨aa,3,none⟩) (Kd.V_far (p:=⟨aa,2,none⟩) (Kd.V_far (p:=⟨aa,1,none⟩) (Kd.V_far (p:=⟨aa,0,none⟩) (Kd.V_mono a8.out (fun k_ hk=>(⟨hk,hk.2⟩:_∧k_≠aa))) (fun _ hk=>hk.2) (.int .i64 ae)) (fun _ hk=>hk.2) (.int .i64 af)) (fun _ hk=>hk.2) (.slice ar ag.length au)) (fun _ hk=>hk.2) (.int .i64 al)) (fun _ hk=>hk.2) (.int .i64 am)) (fun _ hk=>hk.2) (.slice aD ak.length aE)) (fun _ hk=>hk.2) (.slice aT aq.length aU)) (fun _ hk=>hk.2) (.slice aV an.length aW)) (fun _ hk=>hk.2) (.int .i64 (wrap64 (1+(Go.bits .and .i64 (wrap64 (am+(Go.bits .and .i64 a2 15))) 3))))) (fun _ hk=>⟨hk.1.1.1.1,⟨hk.1.1.1.2.1,⟨hk.1.1.1.2.2.1,⟨hk.1.1.1.1,⟨hk.1.1.1.2.1,⟨hk.1.1.1.2.2.1,⟨hk.1.1.1.2.2.2,⟨hk.1.1.2,hk.1.2⟩⟩⟩⟩⟩⟩⟩⟩)⟩,⟨by refine sRm ?_;exact Kd.R_mono (Kd.R_far (p:=⟨aa,4,none⟩) (Kd.R_far (p:=⟨aa,7,none⟩) (Kd.R_far (p:=⟨aa,6,none⟩) (Kd.R_far (p:=⟨aa,5,none⟩) (Kd.R_far (p:=⟨aa,4,none⟩) (Kd.R_far (p:=⟨aa,3,none⟩) (Kd.R_far (p:=⟨aa,2,none⟩) (Kd.R_far (p:=⟨aa,1,none⟩) (Kd.R_far (p:=⟨aa,0,none⟩) (Kd.R_types ba.out ac.out (by decide)) (fun _ hk=>hk.2) (.int .i64 ae)) (fun _ hk=>hk.2) (.int .i64 af)) (fun _ hk=>hk.2) (.slice ar ag.length au)) (fun _ hk=>hk.2) (.int .i64 al)) (fun _ hk=>hk.2) (.int .i64 am)) (fun _ hk=>hk.2) (.slice aD ak.length aE)) (fun _ hk=>hk.2) (.slice aT aq.length aU)) (fun _ hk=>hk.2) (.slice aV an.length aW)) (fun _ hk=>hk.2) (.int .i64 (wrap64 (1+(Go.bits .and .i64 (wrap64 (am+(Go.bits .and .i64 a2 15))) 3))))) (fun _ hk=>trivial)⟩,⟨by refine sRm ?_;exact Kd.R_mono (Kd.R_far (p:=⟨aa,4,none⟩) (Kd.R_far (p:=⟨aa,7,none⟩) (Kd.R_far (p:=⟨aa,6,none⟩) (Kd.R_far (p:=⟨aa,5,none⟩) (Kd.R_far (p:=⟨aa,4,none⟩) (Kd.R_far (p:=⟨aa,3,none⟩) (Kd.R_far (p:=⟨aa,2,none⟩) (Kd.R_far (p:=⟨aa,1,none⟩) (Kd.R_far (p:=⟨aa,0,none⟩) (Kd.R_types aZ.out ac.out (by decide)) (fun _ hk=>hk.2) (.int .i64 ae)) (fun _ hk=>hk.2) (.int .i64 af)) (fun _ hk=>hk.2) (.slice ar ag.length au)) (fun _ hk=>hk.2) (.int .i64 al)) (fun _ hk=>hk.2) (.int .i64 am)) (fun _ hk=>hk.2) (.slice aD ak.length aE)) (fun _ hk=>hk.2) (.slice aT aq.length aU)) (fun _ hk=>hk.2) (.slice aV an.length aW)) (fun _ hk=>hk.2) (.int .i64 (wrap64 (1+(Go.bits .and .i64 (wrap64 (am+(Go.bits .and .i64 a2 15))) 3))))) (fun _ hk=>trivial)⟩,⟨by refine sRm ?_;exact Kd.R_mono (Kd.R_far (p:=⟨aa,4,none⟩) (Kd.R_far (p:=⟨aa,7,none⟩) (Kd.R_far (p:=⟨aa,6,none⟩) (Kd.R_far (p:=⟨aa,5,none⟩) (Kd.R_far (p:=⟨aa,4,none⟩) (Kd.R_far (p:=⟨aa,3,none⟩) (Kd.R_far (p:=⟨aa,2,none⟩) (Kd.R_far (p:=⟨aa,1,none⟩) (Kd.R_far (p:=⟨aa,0,none⟩) (Kd.R_types aY.out ac.out (by decide)) (fun _ hk=>hk.2) (.int .i64 ae)) (fun _ hk=>hk.2) (.int .i64 af)) (fun _ hk=>hk.2) (.slice ar ag.length au)) (fun _ hk=>hk.2) (.int .i64 al)) (fun _ hk=>hk.2) (.int .i64 am)) (fun _ hk=>hk.2) (.slice aD ak.length aE)) (fun _ hk=>hk.2) (.slice aT aq.length aU)) (fun _ hk=>hk.2) (.slice aV an.length aW)) (fun _ hk=>hk.2) (.int .i64 (wrap64 (1+(Go.bits .and .i64 (wrap64 (am+(Go.bits .and .i64 a2 15))) 3))))) (fun _ hk=>trivial)⟩,⟨by refine sM ?_;refine qaf ?_ ah.out _;refine sM ?_;refine qaf ?_ ah.out _;refine sM ?_;refine qaf ?_ ah.out _;refine sM ?_;refine qaf ?_ ah.out _;refine sM ?_;refine qaf ?_ ah.out _;refine sM ?_;refine qaf ?_ ah.out _;refine sM ?_;refine qaf ?_ ah.out _;refine sM ?_;refine qaf ?_ ah.out _;refine sM ?_;refine qaf ?_ ah.out _;refine sM ?_;exact aM.out⟩,⟨by refine sM ?_;refine qaf ?_ ai.out _;refine sM ?_;refine qaf ?_ ai.out _;refine sM ?_;refine qaf ?_ ai.out _;refine sM ?_;refine qaf ?_ ai.out _;refine sM ?_;refine qaf ?_ ai.out _;refine sM ?_;refine qaf ?_ ai.out _;refine sM ?_;refine qaf ?_ ai.out _;refine sM ?_;refine qaf ?_ ai.out _;refine sM ?_;refine qaf ?_ ai.out _;refine sM ?_;exact aj.out⟩,⟨by refine sM ?_;refine qak (cs:=#[.int .i64 ae,.int .i64 af,.slice ar ag.length au,.int .i64 al,.int .i64 am,.slice aD ak.length aE,.slice aT aq.length aU,.slice aV an.length aW]) ?_ 4 _ rfl;refine sM ?_;refine qak (cs:=#[.int .i64 ae,.int .i64 af,.slice ar ag.length au,.int .i64 al,.int .i64 am,.slice aD ak.length aE,.slice aT aq.length aU,.slice none 0 0]) ?_ 7 _ rfl;refine sM ?_;refine qak (cs:=#[.int .i64 ae,.int .i64 af,.slice ar ag.length au,.int .i64 al,.int .i64 am,.slice aD ak.length aE,.slice none 0 0,.slice none 0 0]) ?_ 6 _ rfl;refine sM ?_;refine qak (cs:=#[.int .i64 ae,.int .i64 af,.slice ar ag.length au,.int .i64 al,.int .i64 am,.slice none 0 0,.slice none 0 0,.slice none 0 0]) ?_ 5 _ rfl;refine sM ?_;refine qak (cs:=#[.int .i64 ae,.int .i64 af,.slice ar ag.length au,.int .i64 al,.int .i64 0,.slice none 0 0,.slice none 0 0,.slice none 0 0]) ?_ 4 _ rfl;refine sM ?_;refine qak (cs:=#[.int .i64 ae,.int .i64 af,.slice ar ag.length au,.int .i64 0,.int .i64 0,.slice none 0 0,.slice none 0 0,.slice none 0 0]) ?_ 3 _ rfl;refine sM ?_;refine qak (cs:=#[.int .i64 ae,.int .i64 af,.slice none 0 0,.int .i64 0,.int .i64 0,.slice none 0 0,.slice none 0 0,.slice none 0 0]) ?_ 2 _ rfl;refine sM ?_;refine qak (cs:=#[.int .i64 ae,.int .i64 0,.slice none 0 0,.int .i64 0,.int .i64 0,.slice none 0 0,.slice none 0 0,.slice none 0 0]) ?_ 1 _ rfl;refine sM ?_;refine qak (cs:=#[.int .i64 0,.int .i64 0,.slice none 0 0,.int .i64 0,.int .i64 0,.slice none 0 0,.slice none 0 0,.slice none 0 0]) ?_ 0 _ rfl;refine sM ?_;exact ac.out⟩,⟨by repeat (first|(with_reducible first|exact HB.out|apply qah|apply qae|apply qag|refine qad ?_ bX.out|refine qad ?_ bY.out|refine qad ?_ bZ.out)|exact HB.out)⟩⟩
  ·rw [if_neg gi] at H
   have cq:((Int.tmod (wrap64 ((Int.tmod a1 4)+4)) 4) == 0)=false:=beq_eq_false_iff_ne.mpr gi
   have gj:((Int.tmod (wrap64 ((Int.tmod a1 4)+4)) 4) != 0)=true:=bne_iff_ne.mpr gi
   (first|rw [cq]|(simp only [qaC,qaE];rw [cq])|skip)
   by_cases gl:(Int.tmod (wrap64 ((Int.tmod a1 4)+4)) 4)=1
   ·rw [if_pos gl] at H
    have gm:((Int.tmod (wrap64 ((Int.tmod a1 4)+4)) 4) == 1)=true:=beq_iff_eq.mpr gl
    have gn:((Int.tmod (wrap64 ((Int.tmod a1 4)+4)) 4) != 1)=false:=bne_eq_false_iff_eq.mpr gl
    clear gl
    obtain⟨bR,cx⟩:∃ y_:List Int,y_=(([]:List Int)):=⟨_,rfl⟩
    replace H:(if bR.length+aq.length<17592186044416 then ((some (bR++aq:List Int)).bind fun aX=>(if 0<(aX.length:Int) then (ostinatolaw21_CertTold.j0 k bf ae af ag al am ak aq an ae af ag al am ak (aX.set (0:Int).toNat (wrap64 ((rd aX 0)+(Go.bits .and .i64 a2 15)))) an) else (none))) else (none))=some true:=by first|(rw [cx];with_reducible exact H)|(have b8:=(Option.bind_some _ _).symm.trans H;rw [cx];with_reducible exact b8)|(have b8:=(Option.bind_some _ _).symm.trans H;with_reducible exact b8)|with_reducible exact H|(rw [cx];exact H)|exact H
    have go:=qaa.mk cx
    clear cx
    by_cases ii:bR.length+aq.length<17592186044416
    ·rw [if_pos ii] at H
     have ij:=qaa.mk ii
     clear ii
     obtain⟨aX,cy⟩:∃ y_:List Int,y_=(bR++aq):=⟨_,rfl⟩
     replace H:(if 0<(aX.length:Int) then (ostinatolaw21_CertTold.j0 k bf ae af ag al am ak aq an ae af ag al am ak (aX.set (0:Int).toNat (wrap64 ((rd aX 0)+(Go.bits .and .i64 a2 15)))) an) else (none))=some true:=by first|(rw [cy];with_reducible exact H)|(have b8:=(Option.bind_some _ _).symm.trans H;rw [cy];with_reducible exact b8)|(have b8:=(Option.bind_some _ _).symm.trans H;with_reducible exact b8)|with_reducible exact H|(rw [cy];exact H)|exact H
     have ik:=qaa.mk cy
     clear cy
     by_cases il:0<(aX.length:Int)
     ·rw [if_pos il] at H
      have im:decide (0<(aX.length:Int))=true:=decide_eq_true il
      have io:decide (0<aX.length)=true:=decide_eq_true (by omega)
      clear il
      obtain⟨ip,cz⟩:∃ y_:List Int,y_=(aX.set (0:Int).toNat (wrap64 ((rd aX 0)+(Go.bits .and .i64 a2 15)))):=⟨_,rfl⟩
      replace H:(ostinatolaw21_CertTold.j0 k bf ae af ag al am ak aq an ae af ag al am ak ip an)=some true:=by first|(rw [cz];with_reducible exact H)|(have b8:=(Option.bind_some _ _).symm.trans H;rw [cz];with_reducible exact b8)|(have b8:=(Option.bind_some _ _).symm.trans H;with_reducible exact b8)|with_reducible exact H|(rw [cz];exact H)|exact H
      have iq:=qaa.mk cz
      clear cz
      have H':=qaa.mk H
      clear H
      try go_wp2_with (first|((with_reducible refine qap (N:=34) rfl ?_);refine Kd.R_lit (Kd.int .i64) _ 2 ?hg (N:=34) ?hd (xs:=([]:List Int)) (inner:=[]) (ok:=fun _=>True) (okp:=fun _=>True) ?hr ?hp (fun _ hk=>hk) trivial (Below.refl _ _) (Nat.le_refl _) (by simp) ?_;(case hd=>rfl);(case hg=>rfl);(case hr=>first|(go_simp;done)|(go_simp;rfl));(case hp=>exact (Reps.none _ _));intro jb kp cE hb hg_ hnew_;clear hg_ hnew_;(first|rw [← go.out] at cE|(simp only [Int.reduceToNat] at cE;rw [← go.out] at cE));replace a8:=qaa.mk (Kd.V_elder' (by refine sVm ?_;exact (Kd.V_mono (Kd.V_far (p:=⟨aa,7,none⟩) (Kd.V_far (p:=⟨aa,6,none⟩) (Kd.V_far (p:=⟨aa,5,none⟩) (Kd.V_far (p:=⟨aa,4,none⟩) (Kd.V_far (p:=⟨aa,3,none⟩) (Kd.V_far (p:=⟨aa,2,none⟩) (Kd.V_far (p:=⟨aa,1,none⟩) (Kd.V_far (p:=⟨aa,0,none⟩) (Kd.V_mono a8.out (fun k_ hk=>(⟨hk,hk.2⟩:_∧k_≠aa))) (fun _ hk=>hk.2) (.int .i64 ae)) (fun _ hk=>hk.2) (.int .i64 af)) (fun _ hk=>hk.2) (.slice ar ag.length au)) (fun _ hk=>hk.2) (.int .i64 al)) (fun _ hk=>hk.2) (.int .i64 am)) (fun _ hk=>hk.2) (.slice aD ak.length aE)) (fun _ hk=>hk.2) (.slice aT aq.length aU)) (fun _ hk=>hk.2) (.slice aV an.length aW)) (fun _ h_=>h_.1))) (Kd.R_base cE) hb);replace ba:=qaa.mk (Kd.R_below (by refine sRm ?_;exact (Kd.R_mono (Kd.R_far (p:=⟨aa,7,none⟩) (Kd.R_far (p:=⟨aa,6,none⟩) (Kd.R_far (p:=⟨aa,5,none⟩) (Kd.R_far (p:=⟨aa,4,none⟩) (Kd.R_far (p:=⟨aa,3,none⟩) (Kd.R_far (p:=⟨aa,2,none⟩) (Kd.R_far (p:=⟨aa,1,none⟩) (Kd.R_far (p:=⟨aa,0,none⟩) (Kd.R_types ba.out ac.out (by decide)) (fun _ hk=>hk.2) (.int .i64 ae)) (fun _ hk=>hk.2) (.int .i64 af)) (fun _ hk=>hk.2) (.slice ar ag.length au)) (fun _ hk=>hk.2) (.int .i64 al)) (fun _ hk=>hk.2) (.int .i64 am)) (fun _ hk=>hk.2) (.slice aD ak.length aE)) (fun _ hk=>hk.2) (.slice aT aq.length aU)) (fun _ hk=>hk.2) (.slice aV an.length aW)) (fun _ h_=>h_.1))) hb);replace aY:=qaa.mk (Kd.R_below (by refine sRm ?_;exact (Kd.R_mono (Kd.R_far (p:=⟨aa,7,none⟩) (Kd.R_far (p:=⟨aa,6,none⟩) (Kd.R_far (p:=⟨aa,5,none⟩) (Kd.R_far (p:=⟨aa,4,none⟩) (Kd.R_far (p:=⟨aa,3,none⟩) (Kd.R_far (p:=⟨aa,2,none⟩) (Kd.R_far (p:=⟨aa,1,none⟩) (Kd.R_far (p:=⟨aa,0,none⟩) (Kd.R_types aY.out ac.out (by decide)) (fun _ hk=>hk.2) (.int .i64 ae)) (fun _ hk=>hk.2) (.int .i64 af)) (fun _ hk=>hk.2) (.slice ar ag.length au)) (fun _ hk=>hk.2) (.int .i64 al)) (fun _ hk=>hk.2) (.int .i64 am)) (fun _ hk=>hk.2) (.slice aD ak.length aE)) (fun _ hk=>hk.2) (.slice aT aq.length aU)) (fun _ hk=>hk.2) (.slice aV an.length aW)) (fun _ h_=>h_.1))) hb);have b9:=qaa.mk (Kd.R_lower (Kd.R_new' cE (Kd.R_lt (by refine sRm ?_;exact (Kd.R_mono (Kd.R_far (p:=⟨aa,7,none⟩) (Kd.R_far (p:=⟨aa,6,none⟩) (Kd.R_far (p:=⟨aa,5,none⟩) (Kd.R_far (p:=⟨aa,4,none⟩) (Kd.R_far (p:=⟨aa,3,none⟩) (Kd.R_far (p:=⟨aa,2,none⟩) (Kd.R_far (p:=⟨aa,1,none⟩) (Kd.R_far (p:=⟨aa,0,none⟩) (Kd.R_types aZ.out ac.out (by decide)) (fun _ hk=>hk.2) (.int .i64 ae)) (fun _ hk=>hk.2) (.int .i64 af)) (fun _ hk=>hk.2) (.slice ar ag.length au)) (fun _ hk=>hk.2) (.int .i64 al)) (fun _ hk=>hk.2) (.int .i64 am)) (fun _ hk=>hk.2) (.slice aD ak.length aE)) (fun _ hk=>hk.2) (.slice aT aq.length aU)) (fun _ hk=>hk.2) (.slice aV an.length aW)) (fun _ h_=>h_.1))))) (qac sB));replace aZ:=qaa.mk (Kd.R_elder' (by refine sRm ?_;exact (Kd.R_mono (Kd.R_far (p:=⟨aa,7,none⟩) (Kd.R_far (p:=⟨aa,6,none⟩) (Kd.R_far (p:=⟨aa,5,none⟩) (Kd.R_far (p:=⟨aa,4,none⟩) (Kd.R_far (p:=⟨aa,3,none⟩) (Kd.R_far (p:=⟨aa,2,none⟩) (Kd.R_far (p:=⟨aa,1,none⟩) (Kd.R_far (p:=⟨aa,0,none⟩) (Kd.R_types aZ.out ac.out (by decide)) (fun _ hk=>hk.2) (.int .i64 ae)) (fun _ hk=>hk.2) (.int .i64 af)) (fun _ hk=>hk.2) (.slice ar ag.length au)) (fun _ hk=>hk.2) (.int .i64 al)) (fun _ hk=>hk.2) (.int .i64 am)) (fun _ hk=>hk.2) (.slice aD ak.length aE)) (fun _ hk=>hk.2) (.slice aT aq.length aU)) (fun _ hk=>hk.2) (.slice aV an.length aW)) (fun _ h_=>h_.1))) (Kd.R_base cE) hb);replace aM:=qaa.mk (qa9 (g:=be) (o:=.cells #[.int .i64 bN,.int .i64 bO,.slice A0_2 bB.length c0_2,.int .i64 bP,.int .i64 bQ,.slice A0_5 bC.length c0_5,.slice A0_6 bD.length c0_6,.slice A0_7 bE.length c0_7] 30 (0,0)) (by refine sM ?_;refine qaf ?_ ah.out _;refine sM ?_;refine qaf ?_ ah.out _;refine sM ?_;refine qaf ?_ ah.out _;refine sM ?_;refine qaf ?_ ah.out _;refine sM ?_;refine qaf ?_ ah.out _;refine sM ?_;refine qaf ?_ ah.out _;refine sM ?_;refine qaf ?_ ah.out _;refine sM ?_;refine qaf ?_ ah.out _;refine sM ?_;exact aM.out) hb);replace aj:=qaa.mk (qa9 (g:=aC) (o:=.cells #[.int .i64 ae,.int .i64 af,.slice ar ag.length au,.int .i64 al,.int .i64 am,.slice aD ak.length aE,.slice aT aq.length aU,.slice aV an.length aW] 39 (0,0)) (by refine sM ?_;refine qaf ?_ ai.out _;refine sM ?_;refine qaf ?_ ai.out _;refine sM ?_;refine qaf ?_ ai.out _;refine sM ?_;refine qaf ?_ ai.out _;refine sM ?_;refine qaf ?_ ai.out _;refine sM ?_;refine qaf ?_ ai.out _;refine sM ?_;refine qaf ?_ ai.out _;refine sM ?_;refine qaf ?_ ai.out _;refine sM ?_;exact aj.out) hb);replace ac:=qaa.mk (qa9 (g:=aa) (o:=.cells #[.int .i64 ae,.int .i64 af,.slice ar ag.length au,.int .i64 al,.int .i64 am,.slice aD ak.length aE,.slice aT aq.length aU,.slice aV an.length aW] 39 (0,0)) (by refine sM ?_;refine qak (cs:=#[.int .i64 ae,.int .i64 af,.slice ar ag.length au,.int .i64 al,.int .i64 am,.slice aD ak.length aE,.slice aT aq.length aU,.slice none 0 0]) ?_ 7 _ rfl;refine sM ?_;refine qak (cs:=#[.int .i64 ae,.int .i64 af,.slice ar ag.length au,.int .i64 al,.int .i64 am,.slice aD ak.length aE,.slice none 0 0,.slice none 0 0]) ?_ 6 _ rfl;refine sM ?_;refine qak (cs:=#[.int .i64 ae,.int .i64 af,.slice ar ag.length au,.int .i64 al,.int .i64 am,.slice none 0 0,.slice none 0 0,.slice none 0 0]) ?_ 5 _ rfl;refine sM ?_;refine qak (cs:=#[.int .i64 ae,.int .i64 af,.slice ar ag.length au,.int .i64 al,.int .i64 0,.slice none 0 0,.slice none 0 0,.slice none 0 0]) ?_ 4 _ rfl;refine sM ?_;refine qak (cs:=#[.int .i64 ae,.int .i64 af,.slice ar ag.length au,.int .i64 0,.int .i64 0,.slice none 0 0,.slice none 0 0,.slice none 0 0]) ?_ 3 _ rfl;refine sM ?_;refine qak (cs:=#[.int .i64 ae,.int .i64 af,.slice none 0 0,.int .i64 0,.int .i64 0,.slice none 0 0,.slice none 0 0,.slice none 0 0]) ?_ 2 _ rfl;refine sM ?_;refine qak (cs:=#[.int .i64 ae,.int .i64 0,.slice none 0 0,.int .i64 0,.int .i64 0,.slice none 0 0,.slice none 0 0,.slice none 0 0]) ?_ 1 _ rfl;refine sM ?_;refine qak (cs:=#[.int .i64 0,.int .i64 0,.slice none 0 0,.int .i64 0,.int .i64 0,.slice none 0 0,.slice none 0 0,.slice none 0 0]) ?_ 0 _ rfl;refine sM ?_;exact ac.out) hb);replace HB:=qaa.mk (qai sB hb);clear hb cE;have jN:=bv.out;have jO:=ax.out;have jP:=ai.out;have jQ:=bx.out;obtain⟨ea,eb,ec,ed,ef,eg,eh,ek⟩:=sC8 (w:=kp) aj.out;obtain⟨el,en,ep,eq,er,es,et,eu⟩:=sF8 aj.out)|((with_reducible refine qaB (b:=.append) (xs:=#[.tmp 34,.tmp 37]) rfl ?_);at_builtin;refine Kd.R_append_rows (Kd.int .i64) (w0:=w) w.heap.size rfl (.tmp 34) (.tmp 37) 34 2 (.int .i64 0) 8 rfl Tryd.underlying34 info2 rfl (by decide) (by omega) jb bR aq _ _ _ (fun k_=>some k_≠(.slice aT aq.length aU:Value).ownBlock) (fun _=>False) rfl rfl ?aO ?aR (fun _ _ h=>h) (fun _ h=>h.elim) ?aF ?aB ?aS ?aL ?_;(case aR=>repeat (first|exact (Kd.R_reads' aZ.out).2.2|(with_reducible refine Kd.C_alloc ?_ _)|(with_reducible refine Kd.C_drewN ?_ _)|(with_reducible refine Kd.C_drew ?_)));(case aB=>exact sB);(case aF=>exact (fun k_ hk=>Kd.fresh' (Kd.R_lt (sR aZ.out)) k_ hk));(case aO=>exact (by refine sRm ?_;exact Kd.R_mono b9.out (fun _ hk=>hk.2)));(case aS=>exact (qac sB));(case aL=>have:=ij.out;omega);intro kr cJ ho hb hg hat;rw [← ik.out] at ho;replace aM:=qaa.mk (sKg aM.out hg (Kd.R_ne b9.out aM.out (by decide)));replace a8:=qaa.mk (Kd.V_afterv (ok:=(fun k_=>some k_≠(.slice aD ak.length aE:Value).ownBlock∧some k_≠(.slice aT aq.length aU:Value).ownBlock∧some k_≠(.slice aV an.length aW:Value).ownBlock∧k_≠be∧k_≠aC∧k_≠aa)) (by refine sVm ?_;exact Kd.V_mono a8.out (fun _ hk=>⟨⟨hk.1.1.1.1,⟨hk.1.1.1.2.1,⟨hk.1.1.1.2.2.1,⟨hk.1.1.1.2.2.2,⟨hk.1.1.2,hk.1.2⟩⟩⟩⟩⟩,hk.2⟩)) hg hat);replace ba:=qaa.mk (Kd.R_over' (sR ba.out) (Kd.R_typed (sR b9.out)) (by decide) hg);replace aZ:=qaa.mk (Kd.R_after (ok:=(fun _=>True)) (sR aZ.out) hg hat);replace aY:=qaa.mk (Kd.R_over' (sR aY.out) (Kd.R_typed (sR b9.out)) (by decide) hg);replace aj:=qaa.mk (sKg aj.out hg (Kd.R_ne b9.out aj.out (by decide)));replace ac:=qaa.mk (sKg ac.out hg (Kd.R_ne b9.out ac.out (by decide)));replace HB:=qaa.mk (hb);have bg:=qaa.mk (ho);clear b9 ho hb hg hat;obtain⟨bz,bh,jc⟩:=Kd.R_slice bg.out;subst jc;have jR:=bw.out;have jS:=ah.out;obtain⟨ev,ew,ex,ey,ez,eA,eB,eC⟩:=sC8 (w:=cJ) ac.out;obtain⟨eD,eE,eF,eG,eH,eI,eJ,eK⟩:=sF8 ac.out))
      have jd:qaa (Kd.V k53 53 (cJ.setCell ⟨aa,6,none⟩ (.slice bz aX.length bh)) w.heap.size (fun k_=>some k_≠(.slice aD ak.length aE:Value).ownBlock∧some k_≠(.slice aT aq.length aU:Value).ownBlock∧some k_≠(.slice aV an.length aW:Value).ownBlock∧some k_≠(.slice bz aX.length bh:Value).ownBlock∧k_≠be∧k_≠aC∧k_≠aa) (.slice ar ag.length au) ag):=⟨by refine sVm ?_;exact Kd.V_mono (Kd.V_far (p:=⟨aa,6,none⟩) (Kd.V_mono a8.out (fun k_ hk=>(⟨hk,hk.1.2.2.2.2.2⟩:_∧k_≠aa))) (fun _ hk=>hk.2) (.slice bz aX.length bh)) (fun _ hk=>⟨hk.1.1.1,⟨hk.1.1.2.1,⟨hk.1.1.2.2.1,⟨hk.1.2,⟨hk.1.1.2.2.2.1,⟨hk.1.1.2.2.2.2.1,hk.1.1.2.2.2.2.2⟩⟩⟩⟩⟩⟩)⟩
      have je:qaa (Kd.R (Kd.int .i64) 3 (cJ.setCell ⟨aa,6,none⟩ (.slice bz aX.length bh)) w.heap.size (fun _=>True) (.slice aD ak.length aE) ak):=⟨by refine sRm ?_;exact Kd.R_mono (Kd.R_far (p:=⟨aa,6,none⟩) (Kd.R_types ba.out ac.out (by decide)) (fun _ hk=>hk.2) (.slice bz aX.length bh)) (fun _ hk=>trivial)⟩
      have jf:qaa (Kd.R (Kd.int .i64) 2 (cJ.setCell ⟨aa,6,none⟩ (.slice bz aX.length bh)) w.heap.size (fun k_=>some k_≠(.slice bz aX.length bh:Value).ownBlock) (.slice aT aq.length aU) aq):=⟨by refine sRm ?_;exact Kd.R_mono (Kd.R_far (p:=⟨aa,6,none⟩) (Kd.R_types aZ.out ac.out (by decide)) (fun _ hk=>hk.2) (.slice bz aX.length bh)) (fun _ hk=>hk.1.2)⟩
      have jg:qaa (Kd.R k49 49 (cJ.setCell ⟨aa,6,none⟩ (.slice bz aX.length bh)) w.heap.size (fun _=>True) (.slice aV an.length aW) an):=⟨by refine sRm ?_;exact Kd.R_mono (Kd.R_far (p:=⟨aa,6,none⟩) (Kd.R_types aY.out ac.out (by decide)) (fun _ hk=>hk.2) (.slice bz aX.length bh)) (fun _ hk=>trivial)⟩
      have jh:qaa (Kd.R (Kd.int .i64) 2 (cJ.setCell ⟨aa,6,none⟩ (.slice bz aX.length bh)) w.heap.size (fun k_=>some k_≠(.slice aT aq.length aU:Value).ownBlock) (.slice bz aX.length bh) aX):=⟨by refine sRm ?_;exact Kd.R_mono (Kd.R_far (p:=⟨aa,6,none⟩) (Kd.R_types bg.out ac.out (by decide)) (fun _ hk=>hk.2) (.slice bz aX.length bh)) (fun _ hk=>hk.1)⟩
      have ji:qaa ((cJ.setCell ⟨aa,6,none⟩ (.slice bz aX.length bh)).heap[be]? = some (.cells #[.int .i64 bN,.int .i64 bO,.slice A0_2 bB.length c0_2,.int .i64 bP,.int .i64 bQ,.slice A0_5 bC.length c0_5,.slice A0_6 bD.length c0_6,.slice A0_7 bE.length c0_7] 30 (0,0))):=⟨by refine sM ?_;refine qaf ?_ ah.out _;refine sM ?_;exact aM.out⟩
      have jj:qaa ((cJ.setCell ⟨aa,6,none⟩ (.slice bz aX.length bh)).heap[aC]? = some (.cells #[.int .i64 ae,.int .i64 af,.slice ar ag.length au,.int .i64 al,.int .i64 am,.slice aD ak.length aE,.slice aT aq.length aU,.slice aV an.length aW] 39 (0,0))):=⟨by refine sM ?_;refine qaf ?_ ai.out _;refine sM ?_;exact aj.out⟩
      have jk:qaa ((cJ.setCell ⟨aa,6,none⟩ (.slice bz aX.length bh)).heap[aa]? = some (.cells #[.int .i64 ae,.int .i64 af,.slice ar ag.length au,.int .i64 al,.int .i64 am,.slice aD ak.length aE,.slice bz aX.length bh,.slice aV an.length aW] 39 (0,0))):=⟨by refine sM ?_;refine qak (cs:=#[.int .i64 ae,.int .i64 af,.slice ar ag.length au,.int .i64 al,.int .i64 am,.slice aD ak.length aE,.slice aT aq.length aU,.slice aV an.length aW]) ?_ 6 _ rfl;refine sM ?_;exact ac.out⟩
      have jl:qaa (Below w.heap.size w (cJ.setCell ⟨aa,6,none⟩ (.slice bz aX.length bh))):=⟨by repeat (first|(with_reducible first|exact HB.out|apply qah|apply qae|apply qag|refine qad ?_ bX.out|refine qad ?_ bY.out|refine qad ?_ bZ.out)|exact HB.out)⟩
      (try clear a8)
      (try clear ba)
      (try clear aZ)
      (try clear aY)
      (try clear bg)
      (try clear aM)
      (try clear aj)
      (try clear ac)
      (try clear HB)
      generalize (cJ.setCell ⟨aa,6,none⟩ (.slice bz aX.length bh))=ks at jd je jf jg jh ji jj jk jl ⊢
      have a8:=jd
      have ba:=je
      have aZ:=jf
      have aY:=jg
      have bg:=jh
      have aM:=ji
      have aj:=jj
      have ac:=jk
      have HB:=jl
      clear jd je jf jg jh ji jj jk jl
      replace a8:=qaa.mk (Kd.V_drew a8.out)
      replace ba:=qaa.mk (Kd.R_drew ba.out)
      replace aZ:=qaa.mk (Kd.R_drew aZ.out)
      replace aY:=qaa.mk (Kd.R_drew aY.out)
      replace bg:=qaa.mk (Kd.R_drew bg.out)
      replace aM:=qaa.mk (qax aM.out)
      replace aj:=qaa.mk (qax aj.out)
      replace ac:=qaa.mk (qax ac.out)
      replace HB:=qaa.mk (qag HB.out)
      have eL:0≤(0:Int):=(by omega)
      have eM:0<(aX.length:Int):=of_decide_eq_true sA
      obtain⟨jT,jm,bL⟩:=Kd.at_int (Kd.R_reads' bg.out).2.2 0 eL eM
      cases jm
      have jU:(0<aX.length)=True:=eq_true (by omega)
      (try rw [show ((0:Int)).toNat=0 from rfl] at bL)
      (try rw [Addr.add_zero'] at bL)
      replace eL:=eq_true eL
      replace eM:=eq_true eM
      have p31:0≤(0:Int):=(by omega)
      have ir:(0:Int)<((aX.length:Int):Int):=of_decide_eq_true sA
      have jn:(0<aX.length)=True:=eq_true (by omega)
      obtain⟨bV,kt,iu,iv,jo,ku,iw⟩:=Kd.R_form bg.out (by omega)
      (first|cases iu|(injection iu with ea_ en_ ec_;(first|subst ea_|(injection ea_ with ea_;subst ea_));subst ec_;clear en_))
      have jp:=qaa.mk iv
      have cK:=qaa.mk iw
      clear iv jo iw
      (first|simp only [add_plain] at bL|skip)
      obtain⟨cr,cF⟩:=Kd.R_celln 0 bg.out (0:Int) p31 ir
      (try rw [show ((0:Int)).toNat=0 from rfl] at cr)
      (try simp only [Nat.reduceMul,Nat.zero_mul,Nat.zero_add,Nat.reduceAdd] at cr)
      (try rw [show ((0:Int)).toNat=0 from rfl] at cF)
      (try simp only [Nat.reduceMul,Nat.zero_mul,Nat.zero_add,Nat.reduceAdd] at cF)
      replace p31:=eq_true p31
      replace ir:=eq_true ir
      have gX:=Kd.R_putn bg.out (0:Int) (wrap64 ((rd aX 0)+(Go.bits .and .i64 a2 15)))
      rw [← iq.out] at gX
      have gY:=qaa.mk gX
      clear gX
      refine start_ (n:=12) (S:=fun w'=>w'.cell? ⟨aa,0,none⟩=some (.int .i64 ae)∧w'.cell? ⟨aa,1,none⟩=some (.int .i64 af)∧w'.cell? ⟨aa,2,none⟩=some (.slice ar ag.length au)∧w'.cell? ⟨aa,3,none⟩=some (.int .i64 al)∧w'.cell? ⟨aa,4,none⟩=some (.int .i64 am)∧w'.cell? ⟨aa,5,none⟩=some (.slice aD ak.length aE)∧w'.cell? ⟨aa,6,none⟩=some (.slice (some ⟨bV,0,none⟩) aX.length bh)∧w'.cell? ⟨aa,7,none⟩=some (.slice aV an.length aW)∧w'.cell? ⟨bV,0,none⟩=some (.int .i64 (rd aX 0))) (ds:=[11]) #[false,false,false,false,false,false,false,false,false,false,false,false] (by kernel_rfl) rfl rfl ⟨(qab ac.out 0).trans rfl,(qab ac.out 1).trans rfl,(qab ac.out 2).trans rfl,(qab ac.out 3).trans rfl,(qab ac.out 4).trans rfl,(qab ac.out 5).trans rfl,(qab ac.out 6).trans rfl,(qab ac.out 7).trans rfl,bL⟩ (fun hHeld=>?_);refine qaX ostinatolaw21_CertTold.tab10 ostinatolaw21_CertTold.bits10 (fun HT_ HW_=>?_)
      generalize ks.drew=kK at a8 ba aZ aY bg aM aj ac HB cK gY cF cr bL hHeld ⊢
      refine sP 0 (some 41) rfl rfl ?_
      refine sP 1 (some 42) rfl rfl ?_
      refine sP 3 (some 44) rfl rfl ?_
      refine sP 4 (some 45) rfl rfl ?_
      refine sP 8 (some 49) rfl rfl ?_
      refine qaZ (i:=2) (N:=some 43) (v:=?_) (a':=?_) #[true,true,true,true,true,false,false,false,true,false,false,false] rfl rfl (qay HT_.out HW_.out (by kernel_rfl)) (fun _ _ _ h=>h) (Or.inl ⟨by rfl,?_⟩) hHeld ?_ ?_
      rotate_left
      ·rintro w' ⟨s0,s1,s2,s3,s4,s5,s6,s7,s8⟩
       go_simp
       with_reducible rfl
      rotate_left
      ·simp only [Act.put,List.setIfInBounds_toArray,List.set_cons_zero,List.set_cons_succ,qaC,qaE]
       rfl
      refine qaZ (i:=5) (N:=some 46) (v:=?_) (a':=?_) #[true,true,true,true,true,true,false,false,true,false,false,false] rfl rfl (qay HT_.out HW_.out (by kernel_rfl)) (fun _ _ _ h=>h) (Or.inl ⟨by rfl,?_⟩) hHeld ?_ ?_
      rotate_left
      ·rintro w' ⟨s0,s1,s2,s3,s4,s5,s6,s7,s8⟩
       go_simp
       with_reducible rfl
      rotate_left
      ·simp only [Act.put,List.setIfInBounds_toArray,List.set_cons_zero,List.set_cons_succ,qaC,qaE]
       rfl
      refine sP 6 (some 47) rfl rfl ?_
      refine qaZ (i:=7) (N:=some 48) (v:=?_) (a':=?_) #[true,true,true,true,true,true,true,true,true,false,false,false] rfl rfl (qay HT_.out HW_.out (by kernel_rfl)) (fun _ _ _ h=>h) (Or.inl ⟨by rfl,?_⟩) hHeld ?_ ?_
      rotate_left
      ·rintro w' ⟨s0,s1,s2,s3,s4,s5,s6,s7,s8⟩
       go_simp
       with_reducible rfl
      rotate_left
      ·simp only [Act.put,List.setIfInBounds_toArray,List.set_cons_zero,List.set_cons_succ,qaC,qaE]
       rfl
      refine sP 9 (some 50) rfl rfl ?_
      refine sP 10 (some 51) rfl rfl ?_
      refine last_ (i:=11) (N:=none) #[true,true,true,true,true,true,true,true,true,true,true,true] rfl rfl (qaO HT_.out (by kernel_rfl)) (by decide) (fun K hK=>?_)
      refine skip_ (w1:=?_) (by rfl) rfl ?_ ?_
      rotate_left
      ·go_simp
       rfl
      refine hK.out _ _ ?_
      clear hK K
      refine done_ (done_of HT_.out (by kernel_rfl)) ?_
      try go_wp2
      go_meet
      case rel=>exact⟨_,(aq),(al),(am),(ip),(an),(.slice aT aq.length aU),(.slice (some ⟨bV,0,none⟩) aX.length bh),(.slice aV an.length aW),H',⟨by first|omega|exact Nat.le_refl _⟩,⟨by refine sVm ?_;exact Kd.V_mono (Kd.V_far (p:=⟨bV,0,none⟩) (Kd.V_mono a8.out (fun k_ hk=>(⟨hk,fun e_=>hk.2.2.2.1 (by rw [e_];rfl)⟩:_∧k_≠bV))) (fun _ hk=>hk.2) (.int .i64 (wrap64 ((rd aX 0)+(Go.bits .and .i64 a2 15))))) (fun _ hk=>⟨hk.1.1,⟨hk.1.2.1,⟨hk.1.2.2.1,⟨hk.1.1,⟨hk.1.2.2.2.1,⟨hk.1.2.2.1,⟨hk.1.2.2.2.2.1,⟨hk.1.2.2.2.2.2.1,hk.1.2.2.2.2.2.2⟩⟩⟩⟩⟩⟩⟩⟩)⟩,⟨by refine sRm ?_;exact Kd.R_mono (Kd.R_far (p:=⟨bV,0,none⟩) (Kd.R_types ba.out cK.out (by decide)) (fun _ hk=>hk.2) (.int .i64 (wrap64 ((rd aX 0)+(Go.bits .and .i64 a2 15))))) (fun _ hk=>trivial)⟩,⟨by refine sRm ?_;exact Kd.R_mono (Kd.R_far (p:=⟨bV,0,none⟩) (Kd.R_mono aZ.out (fun k_ hk=>(⟨hk,fun e_=>hk (by rw [e_];rfl)⟩:_∧k_≠bV))) (fun _ hk=>hk.2) (.int .i64 (wrap64 ((rd aX 0)+(Go.bits .and .i64 a2 15))))) (fun _ hk=>by first|exact hk.1|trivial)⟩,⟨by refine sRm ?_;exact Kd.R_mono (Kd.R_far (p:=⟨bV,0,none⟩) (Kd.R_types aY.out cK.out (by decide)) (fun _ hk=>hk.2) (.int .i64 (wrap64 ((rd aX 0)+(Go.bits .and .i64 a2 15))))) (fun _ hk=>trivial)⟩,⟨by refine sVm ?_;exact Kd.V_mono (Kd.V_far (p:=⟨bV,0,none⟩) (Kd.V_mono a8.out (fun k_ hk=>(⟨hk,fun e_=>hk.2.2.2.1 (by rw [e_];rfl)⟩:_∧k_≠bV))) (fun _ hk=>hk.2) (.int .i64 (wrap64 ((rd aX 0)+(Go.bits .and .i64 a2 15))))) (fun _ hk=>⟨hk.1.1,⟨hk.1.2.1,⟨hk.1.2.2.1,⟨hk.1.1,⟨hk.1.2.2.2.1,⟨hk.1.2.2.1,⟨hk.1.2.2.2.2.1,⟨hk.1.2.2.2.2.2.1,hk.1.2.2.2.2.2.2⟩⟩⟩⟩⟩⟩⟩⟩)⟩,⟨by refine sRm ?_;exact Kd.R_mono (Kd.R_far (p:=⟨bV,0,none⟩) (Kd.R_types ba.out cK.out (by decide)) (fun _ hk=>hk.2) (.int .i64 (wrap64 ((rd aX 0)+(Go.bits .and .i64 a2 15))))) (fun _ hk=>trivial)⟩,⟨by refine sRm ?_;first|exact gY.out|exact Kd.R_mono gY.out (fun _ _=>trivial)⟩,⟨by refine sRm ?_;exact Kd.R_mono (Kd.R_far (p:=⟨bV,0,none⟩) (Kd.R_types aY.out cK.out (by decide)) (fun _ hk=>hk.2) (.int .i64 (wrap64 ((rd aX 0)+(Go.bits .and .i64 a2 15))))) (fun _ hk=>trivial)⟩,⟨by refine sM ?_;refine qaf ?_ (by have h_:=Kd.R_ne bg.out aM.out (by decide);intro e_;exact h_ (by rw [e_];rfl)) _;refine sM ?_;exact aM.out⟩,⟨by refine sM ?_;refine qaf ?_ (by have h_:=Kd.R_ne bg.out aj.out (by decide);intro e_;exact h_ (by rw [e_];rfl)) _;refine sM ?_;exact aj.out⟩,⟨by refine sM ?_;refine qaf ?_ (by have h_:=Kd.R_ne bg.out ac.out (by decide);intro e_;exact h_ (by rw [e_];rfl)) _;refine sM ?_;exact ac.out⟩,⟨by repeat (first|(with_reducible first|exact HB.out|apply qah|apply qae|apply qag|refine qad ?_ jp.out|refine qad ?_ bX.out|refine qad ?_ bY.out|refine qad ?_ bZ.out)|exact HB.out)⟩⟩
     ·rw [if_neg il] at H
      exact absurd H (by simp)
    ·rw [if_neg ii] at H
     exact absurd H (by simp)
   ·rw [if_neg gl] at H
    have gm:((Int.tmod (wrap64 ((Int.tmod a1 4)+4)) 4) == 1)=false:=beq_eq_false_iff_ne.mpr gl
    have gn:((Int.tmod (wrap64 ((Int.tmod a1 4)+4)) 4) != 1)=true:=bne_iff_ne.mpr gl
    by_cases gp:(Int.tmod (wrap64 ((Int.tmod a1 4)+4)) 4)=2
    ·rw [if_pos gp] at H
     have gq:((Int.tmod (wrap64 ((Int.tmod a1 4)+4)) 4) == 2)=true:=beq_iff_eq.mpr gp
     have gr:((Int.tmod (wrap64 ((Int.tmod a1 4)+4)) 4) != 2)=false:=bne_eq_false_iff_eq.mpr gp
     clear gp
     obtain⟨bS,cA⟩:∃ y_:List (S49),y_=(([]:List (S49))):=⟨_,rfl⟩
     replace H:(if bS.length+an.length<4398046511104 then ((some (bS++an:List (S49))).bind fun bG=>(if bG.length<4398046511104 then (ostinatolaw21_CertTold.j0 k bf ae af ag al am ak aq an ae af ag al am ak aq (bG++[(⟨5,Go.bits .and .i64 a2 15,0,0⟩:S49)])) else (none))) else (none))=some true:=by first|(rw [cA];with_reducible exact H)|(have b8:=(Option.bind_some _ _).symm.trans H;rw [cA];with_reducible exact b8)|(have b8:=(Option.bind_some _ _).symm.trans H;with_reducible exact b8)|with_reducible exact H|(rw [cA];exact H)|exact H
     have gt:=qaa.mk cA
     clear cA
     by_cases ix:bS.length+an.length<4398046511104
     ·rw [if_pos ix] at H
      have iy:=qaa.mk ix
      clear ix
      obtain⟨bG,cB⟩:∃ y_:List (S49),y_=(bS++an):=⟨_,rfl⟩
      replace H:(if bG.length<4398046511104 then (ostinatolaw21_CertTold.j0 k bf ae af ag al am ak aq an ae af ag al am ak aq (bG++[(⟨5,Go.bits .and .i64 a2 15,0,0⟩:S49)])) else (none))=some true:=by first|(rw [cB];with_reducible exact H)|(have b8:=(Option.bind_some _ _).symm.trans H;rw [cB];with_reducible exact b8)|(have b8:=(Option.bind_some _ _).symm.trans H;with_reducible exact b8)|with_reducible exact H|(rw [cB];exact H)|exact H
      have iz:=qaa.mk cB
      clear cB
      by_cases iA:bG.length<4398046511104
      ·rw [if_pos iA] at H
       have iB:=qaa.mk iA
       clear iA
       obtain⟨ca,cC⟩:∃ y_:List (S49),y_=(bG++[(⟨5,Go.bits .and .i64 a2 15,0,0⟩:S49)]):=⟨_,rfl⟩
       replace H:(ostinatolaw21_CertTold.j0 k bf ae af ag al am ak aq an ae af ag al am ak aq ca)=some true:=by first|(rw [cC];with_reducible exact H)|(have b8:=(Option.bind_some _ _).symm.trans H;rw [cC];with_reducible exact b8)|(have b8:=(Option.bind_some _ _).symm.trans H;with_reducible exact b8)|with_reducible exact H|(rw [cC];exact H)|exact H
       have iC:=qaa.mk cC
       clear cC
       have H':=qaa.mk H
       clear H
       go_wp2_with (first|((with_reducible refine qap (N:=54) rfl ?_);refine Kd.R_lit k49 _ 49 ?hg (N:=54) ?hd (xs:=([]:List (S49))) (inner:=[]) (ok:=fun _=>True) (okp:=fun _=>True) ?hr ?hp (fun _ hk=>hk) trivial (Below.refl _ _) (Nat.le_refl _) (by simp) ?_;(case hd=>rfl);(case hg=>rfl);(case hr=>first|(go_simp;done)|(go_simp;rfl));(case hp=>exact (Reps.none _ _));intro jq kv cG hb hg_ hnew_;clear hg_ hnew_;(first|rw [← gt.out] at cG|(simp only [Int.reduceToNat] at cG;rw [← gt.out] at cG));replace a8:=qaa.mk (Kd.V_elder' (by refine sVm ?_;exact (Kd.V_mono (Kd.V_far (p:=⟨aa,7,none⟩) (Kd.V_far (p:=⟨aa,6,none⟩) (Kd.V_far (p:=⟨aa,5,none⟩) (Kd.V_far (p:=⟨aa,4,none⟩) (Kd.V_far (p:=⟨aa,3,none⟩) (Kd.V_far (p:=⟨aa,2,none⟩) (Kd.V_far (p:=⟨aa,1,none⟩) (Kd.V_far (p:=⟨aa,0,none⟩) (Kd.V_mono a8.out (fun k_ hk=>(⟨hk,hk.2⟩:_∧k_≠aa))) (fun _ hk=>hk.2) (.int .i64 ae)) (fun _ hk=>hk.2) (.int .i64 af)) (fun _ hk=>hk.2) (.slice ar ag.length au)) (fun _ hk=>hk.2) (.int .i64 al)) (fun _ hk=>hk.2) (.int .i64 am)) (fun _ hk=>hk.2) (.slice aD ak.length aE)) (fun _ hk=>hk.2) (.slice aT aq.length aU)) (fun _ hk=>hk.2) (.slice aV an.length aW)) (fun _ h_=>h_.1))) (Kd.R_base cG) hb);replace ba:=qaa.mk (Kd.R_below (by refine sRm ?_;exact (Kd.R_mono (Kd.R_far (p:=⟨aa,7,none⟩) (Kd.R_far (p:=⟨aa,6,none⟩) (Kd.R_far (p:=⟨aa,5,none⟩) (Kd.R_far (p:=⟨aa,4,none⟩) (Kd.R_far (p:=⟨aa,3,none⟩) (Kd.R_far (p:=⟨aa,2,none⟩) (Kd.R_far (p:=⟨aa,1,none⟩) (Kd.R_far (p:=⟨aa,0,none⟩) (Kd.R_types ba.out ac.out (by decide)) (fun _ hk=>hk.2) (.int .i64 ae)) (fun _ hk=>hk.2) (.int .i64 af)) (fun _ hk=>hk.2) (.slice ar ag.length au)) (fun _ hk=>hk.2) (.int .i64 al)) (fun _ hk=>hk.2) (.int .i64 am)) (fun _ hk=>hk.2) (.slice aD ak.length aE)) (fun _ hk=>hk.2) (.slice aT aq.length aU)) (fun _ hk=>hk.2) (.slice aV an.length aW)) (fun _ h_=>h_.1))) hb);replace aZ:=qaa.mk (Kd.R_below (by refine sRm ?_;exact (Kd.R_mono (Kd.R_far (p:=⟨aa,7,none⟩) (Kd.R_far (p:=⟨aa,6,none⟩) (Kd.R_far (p:=⟨aa,5,none⟩) (Kd.R_far (p:=⟨aa,4,none⟩) (Kd.R_far (p:=⟨aa,3,none⟩) (Kd.R_far (p:=⟨aa,2,none⟩) (Kd.R_far (p:=⟨aa,1,none⟩) (Kd.R_far (p:=⟨aa,0,none⟩) (Kd.R_types aZ.out ac.out (by decide)) (fun _ hk=>hk.2) (.int .i64 ae)) (fun _ hk=>hk.2) (.int .i64 af)) (fun _ hk=>hk.2) (.slice ar ag.length au)) (fun _ hk=>hk.2) (.int .i64 al)) (fun _ hk=>hk.2) (.int .i64 am)) (fun _ hk=>hk.2) (.slice aD ak.length aE)) (fun _ hk=>hk.2) (.slice aT aq.length aU)) (fun _ hk=>hk.2) (.slice aV an.length aW)) (fun _ h_=>h_.1))) hb);have cb:=qaa.mk (Kd.R_lower (Kd.R_new' cG (Kd.R_lt (by refine sRm ?_;exact (Kd.R_mono (Kd.R_far (p:=⟨aa,7,none⟩) (Kd.R_far (p:=⟨aa,6,none⟩) (Kd.R_far (p:=⟨aa,5,none⟩) (Kd.R_far (p:=⟨aa,4,none⟩) (Kd.R_far (p:=⟨aa,3,none⟩) (Kd.R_far (p:=⟨aa,2,none⟩) (Kd.R_far (p:=⟨aa,1,none⟩) (Kd.R_far (p:=⟨aa,0,none⟩) (Kd.R_types aY.out ac.out (by decide)) (fun _ hk=>hk.2) (.int .i64 ae)) (fun _ hk=>hk.2) (.int .i64 af)) (fun _ hk=>hk.2) (.slice ar ag.length au)) (fun _ hk=>hk.2) (.int .i64 al)) (fun _ hk=>hk.2) (.int .i64 am)) (fun _ hk=>hk.2) (.slice aD ak.length aE)) (fun _ hk=>hk.2) (.slice aT aq.length aU)) (fun _ hk=>hk.2) (.slice aV an.length aW)) (fun _ h_=>h_.1))))) (qac sB));replace aY:=qaa.mk (Kd.R_elder' (by refine sRm ?_;exact (Kd.R_mono (Kd.R_far (p:=⟨aa,7,none⟩) (Kd.R_far (p:=⟨aa,6,none⟩) (Kd.R_far (p:=⟨aa,5,none⟩) (Kd.R_far (p:=⟨aa,4,none⟩) (Kd.R_far (p:=⟨aa,3,none⟩) (Kd.R_far (p:=⟨aa,2,none⟩) (Kd.R_far (p:=⟨aa,1,none⟩) (Kd.R_far (p:=⟨aa,0,none⟩) (Kd.R_types aY.out ac.out (by decide)) (fun _ hk=>hk.2) (.int .i64 ae)) (fun _ hk=>hk.2) (.int .i64 af)) (fun _ hk=>hk.2) (.slice ar ag.length au)) (fun _ hk=>hk.2) (.int .i64 al)) (fun _ hk=>hk.2) (.int .i64 am)) (fun _ hk=>hk.2) (.slice aD ak.length aE)) (fun _ hk=>hk.2) (.slice aT aq.length aU)) (fun _ hk=>hk.2) (.slice aV an.length aW)) (fun _ h_=>h_.1))) (Kd.R_base cG) hb);replace aM:=qaa.mk (qa9 (g:=be) (o:=.cells #[.int .i64 bN,.int .i64 bO,.slice A0_2 bB.length c0_2,.int .i64 bP,.int .i64 bQ,.slice A0_5 bC.length c0_5,.slice A0_6 bD.length c0_6,.slice A0_7 bE.length c0_7] 30 (0,0)) (by refine sM ?_;refine qaf ?_ ah.out _;refine sM ?_;refine qaf ?_ ah.out _;refine sM ?_;refine qaf ?_ ah.out _;refine sM ?_;refine qaf ?_ ah.out _;refine sM ?_;refine qaf ?_ ah.out _;refine sM ?_;refine qaf ?_ ah.out _;refine sM ?_;refine qaf ?_ ah.out _;refine sM ?_;refine qaf ?_ ah.out _;refine sM ?_;exact aM.out) hb);replace aj:=qaa.mk (qa9 (g:=aC) (o:=.cells #[.int .i64 ae,.int .i64 af,.slice ar ag.length au,.int .i64 al,.int .i64 am,.slice aD ak.length aE,.slice aT aq.length aU,.slice aV an.length aW] 39 (0,0)) (by refine sM ?_;refine qaf ?_ ai.out _;refine sM ?_;refine qaf ?_ ai.out _;refine sM ?_;refine qaf ?_ ai.out _;refine sM ?_;refine qaf ?_ ai.out _;refine sM ?_;refine qaf ?_ ai.out _;refine sM ?_;refine qaf ?_ ai.out _;refine sM ?_;refine qaf ?_ ai.out _;refine sM ?_;refine qaf ?_ ai.out _;refine sM ?_;exact aj.out) hb);replace ac:=qaa.mk (qa9 (g:=aa) (o:=.cells #[.int .i64 ae,.int .i64 af,.slice ar ag.length au,.int .i64 al,.int .i64 am,.slice aD ak.length aE,.slice aT aq.length aU,.slice aV an.length aW] 39 (0,0)) (by refine sM ?_;refine qak (cs:=#[.int .i64 ae,.int .i64 af,.slice ar ag.length au,.int .i64 al,.int .i64 am,.slice aD ak.length aE,.slice aT aq.length aU,.slice none 0 0]) ?_ 7 _ rfl;refine sM ?_;refine qak (cs:=#[.int .i64 ae,.int .i64 af,.slice ar ag.length au,.int .i64 al,.int .i64 am,.slice aD ak.length aE,.slice none 0 0,.slice none 0 0]) ?_ 6 _ rfl;refine sM ?_;refine qak (cs:=#[.int .i64 ae,.int .i64 af,.slice ar ag.length au,.int .i64 al,.int .i64 am,.slice none 0 0,.slice none 0 0,.slice none 0 0]) ?_ 5 _ rfl;refine sM ?_;refine qak (cs:=#[.int .i64 ae,.int .i64 af,.slice ar ag.length au,.int .i64 al,.int .i64 0,.slice none 0 0,.slice none 0 0,.slice none 0 0]) ?_ 4 _ rfl;refine sM ?_;refine qak (cs:=#[.int .i64 ae,.int .i64 af,.slice ar ag.length au,.int .i64 0,.int .i64 0,.slice none 0 0,.slice none 0 0,.slice none 0 0]) ?_ 3 _ rfl;refine sM ?_;refine qak (cs:=#[.int .i64 ae,.int .i64 af,.slice none 0 0,.int .i64 0,.int .i64 0,.slice none 0 0,.slice none 0 0,.slice none 0 0]) ?_ 2 _ rfl;refine sM ?_;refine qak (cs:=#[.int .i64 ae,.int .i64 0,.slice none 0 0,.int .i64 0,.int .i64 0,.slice none 0 0,.slice none 0 0,.slice none 0 0]) ?_ 1 _ rfl;refine sM ?_;refine qak (cs:=#[.int .i64 0,.int .i64 0,.slice none 0 0,.int .i64 0,.int .i64 0,.slice none 0 0,.slice none 0 0,.slice none 0 0]) ?_ 0 _ rfl;refine sM ?_;exact ac.out) hb);replace HB:=qaa.mk (qai sB hb);clear hb cG;have jV:=bv.out;have jW:=ax.out;have jX:=ai.out;have jY:=bx.out;obtain⟨eN,eO,eP,eQ,eR,eS,eT,eU⟩:=sC8 (w:=kv) aj.out;obtain⟨eV,eW,eX,eY,eZ,fa,fb,fc⟩:=sF8 aj.out)|((with_reducible refine qaB (b:=.append) (xs:=#[.tmp 54,.tmp 56]) rfl ?_);at_builtin;refine Kd.R_append_rows k49 (w0:=w) w.heap.size rfl (.tmp 54) (.tmp 56) 37 49 (.agg #[(.int .i64 0),(.int .i64 0),(.int .i64 0),(.int .i64 0)]) 32 rfl Tryd.underlying37 info49 rfl (by decide) (by omega) jq bS an _ _ _ (fun k_=>some k_≠(.slice aV an.length aW:Value).ownBlock) (fun _=>False) rfl rfl ?aO ?aR (fun _ _ h=>h) (fun _ h=>h.elim) ?aF ?aB ?aS ?aL ?_;(case aR=>repeat (first|exact (Kd.R_reads' aY.out).2.2|(with_reducible refine Kd.C_alloc ?_ _)|(with_reducible refine Kd.C_drewN ?_ _)|(with_reducible refine Kd.C_drew ?_)));(case aB=>exact sB);(case aF=>exact (fun k_ hk=>Kd.fresh' (Kd.R_lt (sR aY.out)) k_ hk));(case aO=>exact (by refine sRm ?_;exact Kd.R_mono cb.out (fun _ hk=>hk.2)));(case aS=>exact (qac sB));(case aL=>have:=iy.out;omega);intro jr kL ho hb hg hat;rw [← iz.out] at ho;replace aM:=qaa.mk (sKg aM.out hg (Kd.R_ne cb.out aM.out (by decide)));replace a8:=qaa.mk (Kd.V_afterv (ok:=(fun k_=>some k_≠(.slice aD ak.length aE:Value).ownBlock∧some k_≠(.slice aT aq.length aU:Value).ownBlock∧some k_≠(.slice aV an.length aW:Value).ownBlock∧k_≠be∧k_≠aC∧k_≠aa)) (by refine sVm ?_;exact Kd.V_mono a8.out (fun _ hk=>⟨⟨hk.1.1.1.1,⟨hk.1.1.1.2.1,⟨hk.1.1.1.2.2.1,⟨hk.1.1.1.2.2.2,⟨hk.1.1.2,hk.1.2⟩⟩⟩⟩⟩,hk.2⟩)) hg hat);replace ba:=qaa.mk (Kd.R_over' (sR ba.out) (Kd.R_typed (sR cb.out)) (by decide) hg);replace aZ:=qaa.mk (Kd.R_over' (sR aZ.out) (Kd.R_typed (sR cb.out)) (by decide) hg);replace aY:=qaa.mk (Kd.R_after (ok:=(fun _=>True)) (sR aY.out) hg hat);replace aj:=qaa.mk (sKg aj.out hg (Kd.R_ne cb.out aj.out (by decide)));replace ac:=qaa.mk (sKg ac.out hg (Kd.R_ne cb.out ac.out (by decide)));replace HB:=qaa.mk (hb);have ce:=qaa.mk (ho);clear cb ho hb hg hat)|((with_reducible refine qaB (b:=.append) (xs:=#[.tmp 57,.tmp 60]) rfl ?_);at_builtin;refine Kd.R_append k49 (w0:=w) w.heap.size rfl (.tmp 57) (.tmp 60) 37 49 (.agg #[(.int .i64 0),(.int .i64 0),(.int .i64 0),(.int .i64 0)]) 32 rfl Tryd.underlying37 info49 rfl (by decide) (by omega) jr bG (⟨5,Go.bits .and .i64 a2 15,0,0⟩:S49) [.int .i64 5,.int .i64 (Go.bits .and .i64 a2 15),.int .i64 0,.int .i64 0] (fun k_=>some k_≠(.slice aV an.length aW:Value).ownBlock) (fun _=>False) rfl rfl ?aP (fun _ hk=>hk.elim) ?aF ?aO ?aB ?aS ?aL ?_;(case aP=>exact k49_mkM _ _ _ (⟨5,Go.bits .and .i64 a2 15,0,0⟩:S49));(case aB=>exact sB);(case aF=>exact (fun k_ hk=>Kd.fresh' (Kd.R_lt (sR aY.out)) k_ hk));(case aO=>exact (sR ce.out));(case aS=>exact (qac sB));(case aL=>have:=iB.out;omega);intro kx ky ho hb hg hat;rw [← iC.out] at ho;replace aM:=qaa.mk (sKg aM.out hg (Kd.R_ne ce.out aM.out (by decide)));replace a8:=qaa.mk (Kd.V_afterv (ok:=(fun k_=>some k_≠(.slice aD ak.length aE:Value).ownBlock∧some k_≠(.slice aT aq.length aU:Value).ownBlock∧some k_≠(.slice aV an.length aW:Value).ownBlock∧k_≠be∧k_≠aC∧k_≠aa)) (sV a8.out) hg hat);replace ba:=qaa.mk (Kd.R_over' (sR ba.out) (Kd.R_typed (sR ce.out)) (by decide) hg);replace aZ:=qaa.mk (Kd.R_over' (sR aZ.out) (Kd.R_typed (sR ce.out)) (by decide) hg);replace aY:=qaa.mk (Kd.R_after (ok:=(fun _=>True)) (sR aY.out) hg hat);replace aj:=qaa.mk (sKg aj.out hg (Kd.R_ne ce.out aj.out (by decide)));replace ac:=qaa.mk (sKg ac.out hg (Kd.R_ne ce.out ac.out (by decide)));replace HB:=qaa.mk (hb);have gu:=qaa.mk (ho);clear ce ho hb hg hat;obtain⟨ct,cu,js⟩:=Kd.R_slice gu.out;subst js;have jZ:=bw.out;have j9:=ah.out;obtain⟨fe,ff,fg,fh,fi,fj,fk,fl⟩:=sC8 (w:=ky) ac.out;obtain⟨fm,fo,fp,fq,ft,fu,fv,fw⟩:=sF8 ac.out))
       go_meet
       case rel=>exact⟨_,(aq),(al),(am),(aq),(ca),(.slice aT aq.length aU),(.slice aT aq.length aU),(.slice ct ca.length cu),H',⟨by first|omega|exact Nat.le_refl _⟩,⟨by refine sVm ?_;exact Kd.V_mono (Kd.V_far (p:=⟨aa,7,none⟩) (Kd.V_mono a8.out (fun k_ hk=>(⟨hk,hk.1.2.2.2.2.2⟩:_∧k_≠aa))) (fun _ hk=>hk.2) (.slice ct ca.length cu)) (fun _ hk=>⟨hk.1.1.1,⟨hk.1.1.2.1,⟨hk.1.1.2.2.1,⟨hk.1.1.1,⟨hk.1.1.2.1,⟨hk.1.2,⟨hk.1.1.2.2.2.1,⟨hk.1.1.2.2.2.2.1,hk.1.1.2.2.2.2.2⟩⟩⟩⟩⟩⟩⟩⟩)⟩,⟨by refine sRm ?_;exact Kd.R_mono (Kd.R_far (p:=⟨aa,7,none⟩) (Kd.R_types ba.out ac.out (by decide)) (fun _ hk=>hk.2) (.slice ct ca.length cu)) (fun _ hk=>trivial)⟩,⟨by refine sRm ?_;exact Kd.R_mono (Kd.R_far (p:=⟨aa,7,none⟩) (Kd.R_types aZ.out ac.out (by decide)) (fun _ hk=>hk.2) (.slice ct ca.length cu)) (fun _ hk=>trivial)⟩,⟨by refine sRm ?_;exact Kd.R_mono (Kd.R_far (p:=⟨aa,7,none⟩) (Kd.R_types aY.out ac.out (by decide)) (fun _ hk=>hk.2) (.slice ct ca.length cu)) (fun _ hk=>by first|exact hk.1.2|trivial)⟩,⟨by refine sVm ?_;exact Kd.V_mono (Kd.V_far (p:=⟨aa,7,none⟩) (Kd.V_mono a8.out (fun k_ hk=>(⟨hk,hk.1.2.2.2.2.2⟩:_∧k_≠aa))) (fun _ hk=>hk.2) (.slice ct ca.length cu)) (fun _ hk=>⟨hk.1.1.1,⟨hk.1.1.2.1,⟨hk.1.1.2.2.1,⟨hk.1.1.1,⟨hk.1.1.2.1,⟨hk.1.2,⟨hk.1.1.2.2.2.1,⟨hk.1.1.2.2.2.2.1,hk.1.1.2.2.2.2.2⟩⟩⟩⟩⟩⟩⟩⟩)⟩,⟨by refine sRm ?_;exact Kd.R_mono (Kd.R_far (p:=⟨aa,7,none⟩) (Kd.R_types ba.out ac.out (by decide)) (fun _ hk=>hk.2) (.slice ct ca.length cu)) (fun _ hk=>trivial)⟩,⟨by refine sRm ?_;exact Kd.R_mono (Kd.R_far (p:=⟨aa,7,none⟩) (Kd.R_types aZ.out ac.out (by decide)) (fun _ hk=>hk.2) (.slice ct ca.length cu)) (fun _ hk=>trivial)⟩,⟨by refine sRm ?_;exact Kd.R_mono (Kd.R_far (p:=⟨aa,7,none⟩) (Kd.R_types gu.out ac.out (by decide)) (fun _ hk=>hk.2) (.slice ct ca.length cu)) (fun _ hk=>by first|exact hk.1|trivial)⟩,⟨by refine sM ?_;refine qaf ?_ ah.out _;refine sM ?_;exact aM.out⟩,⟨by refine sM ?_;refine qaf ?_ ai.out _;refine sM ?_;exact aj.out⟩,⟨by refine sM ?_;refine qak (cs:=#[.int .i64 ae,.int .i64 af,.slice ar ag.length au,.int .i64 al,.int .i64 am,.slice aD ak.length aE,.slice aT aq.length aU,.slice aV an.length aW]) ?_ 7 _ rfl;refine sM ?_;exact ac.out⟩,⟨by repeat (first|(with_reducible first|exact HB.out|apply qah|apply qae|apply qag|refine qad ?_ bX.out|refine qad ?_ bY.out|refine qad ?_ bZ.out)|exact HB.out)⟩⟩
      ·rw [if_neg iA] at H
       exact absurd H (by simp)
     ·rw [if_neg ix] at H
      exact absurd H (by simp)
    ·rw [if_neg gp] at H
     have gq:((Int.tmod (wrap64 ((Int.tmod a1 4)+4)) 4) == 2)=false:=beq_eq_false_iff_ne.mpr gp
     have gr:((Int.tmod (wrap64 ((Int.tmod a1 4)+4)) 4) != 2)=true:=bne_iff_ne.mpr gp
     by_cases gv:(Int.tmod (wrap64 ((Int.tmod a1 4)+4)) 4)=3
     ·rw [if_pos gv] at H
      have gw:((Int.tmod (wrap64 ((Int.tmod a1 4)+4)) 4) == 3)=true:=beq_iff_eq.mpr gv
      have gx:((Int.tmod (wrap64 ((Int.tmod a1 4)+4)) 4) != 3)=false:=bne_eq_false_iff_eq.mpr gv
      clear gv
      have H':=qaa.mk H
      clear H
      have ka:=bv.out
      have kb:=ax.out
      have kc:=ai.out
      have kd:=bx.out
      obtain⟨fx,fy,fz,fA,fB,fC,fD,fE⟩:=sC8 (w:=ig) aj.out
      obtain⟨fF,fG,fH,fI,fJ,fK,fL,fM⟩:=sF8 aj.out
      have ke:=bw.out
      have kf:=ah.out
      obtain⟨fN,fO,fP,fQ,fR,fS,fT,fU⟩:=sC8 (w:=ig) ac.out
      obtain⟨fV,fW,fX,fY,fZ,ga,gb,gc⟩:=sF8 ac.out
      go_wp2
      go_meet
      case rel=>exact⟨_,(aq),(wrap64 (1+(Go.bits .and .i64 (wrap64 (al+(Go.bits .and .i64 a2 15))) 1))),(am),(aq),(an),(.slice aT aq.length aU),(.slice aT aq.length aU),(.slice aV an.length aW),H',⟨by first|omega|exact Nat.le_refl _⟩,⟨by refine sVm ?_;exact Kd.V_mono (Kd.V_far (p:=⟨aa,3,none⟩) (Kd.V_far (p:=⟨aa,7,none⟩) (Kd.V_far (p:=⟨aa,6,none⟩) (Kd.V_far (p:=⟨aa,5,none⟩) (Kd.V_far (p:=⟨aa,4,none⟩) (Kd.V_far (p:=⟨aa,3,none⟩) (Kd.V_far (p:=⟨aa,2,none⟩) (Kd.V_far (p:=⟨aa,1,none⟩) (Kd.V_far (p:=⟨aa,0,none⟩) (Kd.V_mono a8.out (fun k_ hk=>(⟨hk,hk.2⟩:_∧k_≠aa))) (fun _ hk=>hk.2) (.int .i64 ae)) (fun _ hk=>hk.2) (.int .i64 af)) (fun _ hk=>hk.2) (.slice ar ag.length au)) (fun _ hk=>hk.2) (.int .i64 al)) (fun _ hk=>hk.2) (.int .i64 am)) (fun _ hk=>hk.2) (.slice aD ak.length aE)) (fun _ hk=>hk.2) (.slice aT aq.length aU)) (fun _ hk=>hk.2) (.slice aV an.length aW)) (fun _ hk=>hk.2) (.int .i64 (wrap64 (1+(Go.bits .and .i64 (wrap64 (al+(Go.bits .and .i64 a2 15))) 1))))) (fun _ hk=>⟨hk.1.1.1.1,⟨hk.1.1.1.2.1,⟨hk.1.1.1.2.2.1,⟨hk.1.1.1.1,⟨hk.1.1.1.2.1,⟨hk.1.1.1.2.2.1,⟨hk.1.1.1.2.2.2,⟨hk.1.1.2,hk.1.2⟩⟩⟩⟩⟩⟩⟩⟩)⟩,⟨by refine sRm ?_;exact Kd.R_mono (Kd.R_far (p:=⟨aa,3,none⟩) (Kd.R_far (p:=⟨aa,7,none⟩) (Kd.R_far (p:=⟨aa,6,none⟩) (Kd.R_far (p:=⟨aa,5,none⟩) (Kd.R_far (p:=⟨aa,4,none⟩) (Kd.R_far (p:=⟨aa,3,none⟩) (Kd.R_far (p:=⟨aa,2,none⟩) (Kd.R_far (p:=⟨aa,1,none⟩) (Kd.R_far (p:=⟨aa,0,none⟩) (Kd.R_types ba.out ac.out (by decide)) (fun _ hk=>hk.2) (.int .i64 ae)) (fun _ hk=>hk.2) (.int .i64 af)) (fun _ hk=>hk.2) (.slice ar ag.length au)) (fun _ hk=>hk.2) (.int .i64 al)) (fun _ hk=>hk.2) (.int .i64 am)) (fun _ hk=>hk.2) (.slice aD ak.length aE)) (fun _ hk=>hk.2) (.slice aT aq.length aU)) (fun _ hk=>hk.2) (.slice aV an.length aW)) (fun _ hk=>hk.2) (.int .i64 (wrap64 (1+(Go.bits .and .i64 (wrap64 (al+(Go.bits .and .i64 a2 15))) 1))))) (fun _ hk=>trivial)⟩,⟨by refine sRm ?_;exact Kd.R_mono (Kd.R_far (p:=⟨aa,3,none⟩) (Kd.R_far (p:=⟨aa,7,none⟩) (Kd.R_far (p:=⟨aa,6,none⟩) (Kd.R_far (p:=⟨aa,5,none⟩) (Kd.R_far (p:=⟨aa,4,none⟩) (Kd.R_far (p:=⟨aa,3,none⟩) (Kd.R_far (p:=⟨aa,2,none⟩) (Kd.R_far (p:=⟨aa,1,none⟩) (Kd.R_far (p:=⟨aa,0,none⟩) (Kd.R_types aZ.out ac.out (by decide)) (fun _ hk=>hk.2) (.int .i64 ae)) (fun _ hk=>hk.2) (.int .i64 af)) (fun _ hk=>hk.2) (.slice ar ag.length au)) (fun _ hk=>hk.2) (.int .i64 al)) (fun _ hk=>hk.2) (.int .i64 am)) (fun _ hk=>hk.2) (.slice aD ak.length aE)) (fun _ hk=>hk.2) (.slice aT aq.length aU)) (fun _ hk=>hk.2) (.slice aV an.length aW)) (fun _ hk=>hk.2) (.int .i64 (wrap64 (1+(Go.bits .and .i64 (wrap64 (al+(Go.bits .and .i64 a2 15))) 1))))) (fun _ hk=>trivial)⟩,⟨by refine sRm ?_;exact Kd.R_mono (Kd.R_far (p:=⟨aa,3,none⟩) (Kd.R_far (p:=⟨aa,7,none⟩) (Kd.R_far (p:=⟨aa,6,none⟩) (Kd.R_far (p:=⟨aa,5,none⟩) (Kd.R_far (p:=⟨aa,4,none⟩) (Kd.R_far (p:=⟨aa,3,none⟩) (Kd.R_far (p:=⟨aa,2,none⟩) (Kd.R_far (p:=⟨aa,1,none⟩) (Kd.R_far (p:=⟨aa,0,none⟩) (Kd.R_types aY.out ac.out (by decide)) (fun _ hk=>hk.2) (.int .i64 ae)) (fun _ hk=>hk.2) (.int .i64 af)) (fun _ hk=>hk.2) (.slice ar ag.length au)) (fun _ hk=>hk.2) (.int .i64 al)) (fun _ hk=>hk.2) (.int .i64 am)) (fun _ hk=>hk.2) (.slice aD ak.length aE)) (fun _ hk=>hk.2) (.slice aT aq.length aU)) (fun _ hk=>hk.2) (.slice aV an.length aW)) (fun _ hk=>hk.2) (.int .i64 (wrap64 (1+(Go.bits .and .i64 (wrap64 (al+(Go.bits .and .i64 a2 15))) 1))))) (fun _ hk=>trivial)⟩,⟨by refine sVm ?_;exact Kd.V_mono (Kd.V_far (p:=⟨aa,3,none⟩) (Kd.V_far (p:=⟨aa,7,none⟩) (Kd.V_far (p:=⟨aa,6,none⟩) (Kd.V_far (p:=⟨aa,5,none⟩) (Kd.V_far (p:=⟨aa,4,none⟩) (Kd.V_far (p:=⟨aa,3,none⟩) (Kd.V_far (p:=⟨aa,2,none⟩) (Kd.V_far (p:=⟨aa,1,none⟩) (Kd.V_far (p:=⟨aa,0,none⟩) (Kd.V_mono a8.out (fun k_ hk=>(⟨hk,hk.2⟩:_∧k_≠aa))) (fun _ hk=>hk.2) (.int .i64 ae)) (fun _ hk=>hk.2) (.int .i64 af)) (fun _ hk=>hk.2) (.slice ar ag.length au)) (fun _ hk=>hk.2) (.int .i64 al)) (fun _ hk=>hk.2) (.int .i64 am)) (fun _ hk=>hk.2) (.slice aD ak.length aE)) (fun _ hk=>hk.2) (.slice aT aq.length aU)) (fun _ hk=>hk.2) (.slice aV an.length aW)) (fun _ hk=>hk.2) (.int .i64 (wrap64 (1+(Go.bits .and .i64 (wrap64 (al+(Go.bits .and .i64 a2 15))) 1))))) (fun _ hk=>⟨hk.1.1.1.1,⟨hk.1.1.1.2.1,⟨hk.1.1.1.2.2.1,⟨hk.1.1.1.1,⟨hk.1.1.1.2.1,⟨hk.1.1.1.2.2.1,⟨hk.1.1.1.2.2.2,⟨hk.1.1.2,hk.1.2⟩⟩⟩⟩⟩⟩⟩⟩)⟩,⟨by refine sRm ?_;exact Kd.R_mono (Kd.R_far (p:=⟨aa,3,none⟩) (Kd.R_far (p:=⟨aa,7,none⟩) (Kd.R_far (p:=⟨aa,6,none⟩) (Kd.R_far (p:=⟨aa,5,none⟩) (Kd.R_far (p:=⟨aa,4,none⟩) (Kd.R_far (p:=⟨aa,3,none⟩) (Kd.R_far (p:=⟨aa,2,none⟩) (Kd.R_far (p:=⟨aa,1,none⟩) (Kd.R_far (p:=⟨aa,0,none⟩) (Kd.R_types ba.out ac.out (by decide)) (fun _ hk=>hk.2) (.int .i64 ae)) (fun _ hk=>hk.2) (.int .i64 af)) (fun _ hk=>hk.2) (.slice ar ag.length au)) (fun _ hk=>hk.2) (.int .i64 al)) (fun _ hk=>hk.2) (.int .i64 am)) (fun _ hk=>hk.2) (.slice aD ak.length aE)) (fun _ hk=>hk.2) (.slice aT aq.length aU)) (fun _ hk=>hk.2) (.slice aV an.length aW)) (fun _ hk=>hk.2) (.int .i64 (wrap64 (1+(Go.bits .and .i64 (wrap64 (al+(Go.bits .and .i64 a2 15))) 1))))) (fun _ hk=>trivial)⟩,⟨by refine sRm ?_;exact Kd.R_mono (Kd.R_far (p:=⟨aa,3,none⟩) (Kd.R_far (p:=⟨aa,7,none⟩) (Kd.R_far (p:=⟨aa,6,none⟩) (Kd.R_far (p:=⟨aa,5,none⟩) (Kd.R_far (p:=⟨aa,4,none⟩) (Kd.R_far (p:=⟨aa,3,none⟩) (Kd.R_far (p:=⟨aa,2,none⟩) (Kd.R_far (p:=⟨aa,1,none⟩) (Kd.R_far (p:=⟨aa,0,none⟩) (Kd.R_types aZ.out ac.out (by decide)) (fun _ hk=>hk.2) (.int .i64 ae)) (fun _ hk=>hk.2) (.int .i64 af)) (fun _ hk=>hk.2) (.slice ar ag.length au)) (fun _ hk=>hk.2) (.int .i64 al)) (fun _ hk=>hk.2) (.int .i64 am)) (fun _ hk=>hk.2) (.slice aD ak.length aE)) (fun _ hk=>hk.2) (.slice aT aq.length aU)) (fun _ hk=>hk.2) (.slice aV an.length aW)) (fun _ hk=>hk.2) (.int .i64 (wrap64 (1+(Go.bits .and .i64 (wrap64 (al+(Go.bits .and .i64 a2 15))) 1))))) (fun _ hk=>trivial)⟩,⟨by refine sRm ?_;exact Kd.R_mono (Kd.R_far (p:=⟨aa,3,none⟩) (Kd.R_far (p:=⟨aa,7,none⟩) (Kd.R_far (p:=⟨aa,6,none⟩) (Kd.R_far (p:=⟨aa,5,none⟩) (Kd.R_far (p:=⟨aa,4,none⟩) (Kd.R_far (p:=⟨aa,3,none⟩) (Kd.R_far (p:=⟨aa,2,none⟩) (Kd.R_far (p:=⟨aa,1,none⟩) (Kd.R_far (p:=⟨aa,0,none⟩) (Kd.R_types aY.out ac.out (by decide)) (fun _ hk=>hk.2) (.int .i64 ae)) (fun _ hk=>hk.2) (.int .i64 af)) (fun _ hk=>hk.2) (.slice ar ag.length au)) (fun _ hk=>hk.2) (.int .i64 al)) (fun _ hk=>hk.2) (.int .i64 am)) (fun _ hk=>hk.2) (.slice aD ak.length aE)) (fun _ hk=>hk.2) (.slice aT aq.length aU)) (fun _ hk=>hk.2) (.slice aV an.length aW)) (fun _ hk=>hk.2) (.int .i64 (wrap64 (1+(Go.bits .and .i64 (wrap64 (al+(Go.bits .and .i64 a2 15))) 1))))) (fun _ hk=>trivial)⟩,⟨by refine sM ?_;refine qaf ?_ ah.out _;refine sM ?_;refine qaf ?_ ah.out _;refine sM ?_;refine qaf ?_ ah.out _;refine sM ?_;refine qaf ?_ ah.out _;refine sM ?_;refine qaf ?_ ah.out _;refine sM ?_;refine qaf ?_ ah.out _;refine sM ?_;refine qaf ?_ ah.out _;refine sM ?_;refine qaf ?_ ah.out _;refine sM ?_;refine qaf ?_ ah.out _;refine sM ?_;exact aM.out⟩,⟨by refine sM ?_;refine qaf ?_ ai.out _;refine sM ?_;refine qaf ?_ ai.out _;refine sM ?_;refine qaf ?_ ai.out _;refine sM ?_;refine qaf ?_ ai.out _;refine sM ?_;refine qaf ?_ ai.out _;refine sM ?_;refine qaf ?_ ai.out _;refine sM ?_;refine qaf ?_ ai.out _;refine sM ?_;refine qaf ?_ ai.out _;refine sM ?_;refine qaf ?_ ai.out _;refine sM ?_;exact aj.out⟩,⟨by refine sM ?_;refine qak (cs:=#[.int .i64 ae,.int .i64 af,.slice ar ag.length au,.int .i64 al,.int .i64 am,.slice aD ak.length aE,.slice aT aq.length aU,.slice aV an.length aW]) ?_ 3 _ rfl;refine sM ?_;refine qak (cs:=#[.int .i64 ae,.int .i64 af,.slice ar ag.length au,.int .i64 al,.int .i64 am,.slice aD ak.length aE,.slice aT aq.length aU,.slice none 0 0]) ?_ 7 _ rfl;refine sM ?_;refine qak (cs:=#[.int .i64 ae,.int .i64 af,.slice ar ag.length au,.int .i64 al,.int .i64 am,.slice aD ak.length aE,.slice none 0 0,.slice none 0 0]) ?_ 6 _ rfl;refine sM ?_;refine qak (cs:=#[.int .i64 ae,.int .i64 af,.slice ar ag.length au,.int .i64 al,.int .i64 am,.slice none 0 0,.slice none 0 0,.slice none 0 0]) ?_ 5 _ rfl;refine sM ?_;refine qak (cs:=#[.int .i64 ae,.int .i64 af,.slice ar ag.length au,.int .i64 al,.int .i64 0,.slice none 0 0,.slice none 0 0,.slice none 0 0]) ?_ 4 _ rfl;refine sM ?_;refine qak (cs:=#[.int .i64 ae,.int .i64 af,.slice ar ag.length au,.int .i64 0,.int .i64 0,.slice none 0 0,.slice none 0 0,.slice none 0 0]) ?_ 3 _ rfl;refine sM ?_;refine qak (cs:=#[.int .i64 ae,.int .i64 af,.slice none 0 0,.int .i64 0,.int .i64 0,.slice none 0 0,.slice none 0 0,.slice none 0 0]) ?_ 2 _ rfl;refine sM ?_;refine qak (cs:=#[.int .i64 ae,.int .i64 0,.slice none 0 0,.int .i64 0,.int .i64 0,.slice none 0 0,.slice none 0 0,.slice none 0 0]) ?_ 1 _ rfl;refine sM ?_;refine qak (cs:=#[.int .i64 0,.int .i64 0,.slice none 0 0,.int .i64 0,.int .i64 0,.slice none 0 0,.slice none 0 0,.slice none 0 0]) ?_ 0 _ rfl;refine sM ?_;exact ac.out⟩,⟨by repeat (first|(with_reducible first|exact HB.out|apply qah|apply qae|apply qag|refine qad ?_ bX.out|refine qad ?_ bY.out|refine qad ?_ bZ.out)|exact HB.out)⟩⟩
     ·rw [if_neg gv] at H
      have gw:((Int.tmod (wrap64 ((Int.tmod a1 4)+4)) 4) == 3)=false:=beq_eq_false_iff_ne.mpr gv
      have gx:((Int.tmod (wrap64 ((Int.tmod a1 4)+4)) 4) != 3)=true:=bne_iff_ne.mpr gv
      have H':=qaa.mk H
      clear H
      go_wp2
      go_meet
      case rel=>exact⟨_,(aq),(al),(am),(aq),(an),(.slice aT aq.length aU),(.slice aT aq.length aU),(.slice aV an.length aW),H',⟨by first|omega|exact Nat.le_refl _⟩,⟨by refine sVm ?_;exact Kd.V_mono (Kd.V_far (p:=⟨aa,7,none⟩) (Kd.V_far (p:=⟨aa,6,none⟩) (Kd.V_far (p:=⟨aa,5,none⟩) (Kd.V_far (p:=⟨aa,4,none⟩) (Kd.V_far (p:=⟨aa,3,none⟩) (Kd.V_far (p:=⟨aa,2,none⟩) (Kd.V_far (p:=⟨aa,1,none⟩) (Kd.V_far (p:=⟨aa,0,none⟩) (Kd.V_mono a8.out (fun k_ hk=>(⟨hk,hk.2⟩:_∧k_≠aa))) (fun _ hk=>hk.2) (.int .i64 ae)) (fun _ hk=>hk.2) (.int .i64 af)) (fun _ hk=>hk.2) (.slice ar ag.length au)) (fun _ hk=>hk.2) (.int .i64 al)) (fun _ hk=>hk.2) (.int .i64 am)) (fun _ hk=>hk.2) (.slice aD ak.length aE)) (fun _ hk=>hk.2) (.slice aT aq.length aU)) (fun _ hk=>hk.2) (.slice aV an.length aW)) (fun _ hk=>⟨hk.1.1.1.1,⟨hk.1.1.1.2.1,⟨hk.1.1.1.2.2.1,⟨hk.1.1.1.1,⟨hk.1.1.1.2.1,⟨hk.1.1.1.2.2.1,⟨hk.1.1.1.2.2.2,⟨hk.1.1.2,hk.1.2⟩⟩⟩⟩⟩⟩⟩⟩)⟩,⟨by refine sRm ?_;exact Kd.R_mono (Kd.R_far (p:=⟨aa,7,none⟩) (Kd.R_far (p:=⟨aa,6,none⟩) (Kd.R_far (p:=⟨aa,5,none⟩) (Kd.R_far (p:=⟨aa,4,none⟩) (Kd.R_far (p:=⟨aa,3,none⟩) (Kd.R_far (p:=⟨aa,2,none⟩) (Kd.R_far (p:=⟨aa,1,none⟩) (Kd.R_far (p:=⟨aa,0,none⟩) (Kd.R_types ba.out ac.out (by decide)) (fun _ hk=>hk.2) (.int .i64 ae)) (fun _ hk=>hk.2) (.int .i64 af)) (fun _ hk=>hk.2) (.slice ar ag.length au)) (fun _ hk=>hk.2) (.int .i64 al)) (fun _ hk=>hk.2) (.int .i64 am)) (fun _ hk=>hk.2) (.slice aD ak.length aE)) (fun _ hk=>hk.2) (.slice aT aq.length aU)) (fun _ hk=>hk.2) (.slice aV an.length aW)) (fun _ hk=>trivial)⟩,⟨by refine sRm ?_;exact Kd.R_mono (Kd.R_far (p:=⟨aa,7,none⟩) (Kd.R_far (p:=⟨aa,6,none⟩) (Kd.R_far (p:=⟨aa,5,none⟩) (Kd.R_far (p:=⟨aa,4,none⟩) (Kd.R_far (p:=⟨aa,3,none⟩) (Kd.R_far (p:=⟨aa,2,none⟩) (Kd.R_far (p:=⟨aa,1,none⟩) (Kd.R_far (p:=⟨aa,0,none⟩) (Kd.R_types aZ.out ac.out (by decide)) (fun _ hk=>hk.2) (.int .i64 ae)) (fun _ hk=>hk.2) (.int .i64 af)) (fun _ hk=>hk.2) (.slice ar ag.length au)) (fun _ hk=>hk.2) (.int .i64 al)) (fun _ hk=>hk.2) (.int .i64 am)) (fun _ hk=>hk.2) (.slice aD ak.length aE)) (fun _ hk=>hk.2) (.slice aT aq.length aU)) (fun _ hk=>hk.2) (.slice aV an.length aW)) (fun _ hk=>trivial)⟩,⟨by refine sRm ?_;exact Kd.R_mono (Kd.R_far (p:=⟨aa,7,none⟩) (Kd.R_far (p:=⟨aa,6,none⟩) (Kd.R_far (p:=⟨aa,5,none⟩) (Kd.R_far (p:=⟨aa,4,none⟩) (Kd.R_far (p:=⟨aa,3,none⟩) (Kd.R_far (p:=⟨aa,2,none⟩) (Kd.R_far (p:=⟨aa,1,none⟩) (Kd.R_far (p:=⟨aa,0,none⟩) (Kd.R_types aY.out ac.out (by decide)) (fun _ hk=>hk.2) (.int .i64 ae)) (fun _ hk=>hk.2) (.int .i64 af)) (fun _ hk=>hk.2) (.slice ar ag.length au)) (fun _ hk=>hk.2) (.int .i64 al)) (fun _ hk=>hk.2) (.int .i64 am)) (fun _ hk=>hk.2) (.slice aD ak.length aE)) (fun _ hk=>hk.2) (.slice aT aq.length aU)) (fun _ hk=>hk.2) (.slice aV an.length aW)) (fun _ hk=>trivial)⟩,⟨by refine sVm ?_;exact Kd.V_mono (Kd.V_far (p:=⟨aa,7,none⟩) (Kd.V_far (p:=⟨aa,6,none⟩) (Kd.V_far (p:=⟨aa,5,none⟩) (Kd.V_far (p:=⟨aa,4,none⟩) (Kd.V_far (p:=⟨aa,3,none⟩) (Kd.V_far (p:=⟨aa,2,none⟩) (Kd.V_far (p:=⟨aa,1,none⟩) (Kd.V_far (p:=⟨aa,0,none⟩) (Kd.V_mono a8.out (fun k_ hk=>(⟨hk,hk.2⟩:_∧k_≠aa))) (fun _ hk=>hk.2) (.int .i64 ae)) (fun _ hk=>hk.2) (.int .i64 af)) (fun _ hk=>hk.2) (.slice ar ag.length au)) (fun _ hk=>hk.2) (.int .i64 al)) (fun _ hk=>hk.2) (.int .i64 am)) (fun _ hk=>hk.2) (.slice aD ak.length aE)) (fun _ hk=>hk.2) (.slice aT aq.length aU)) (fun _ hk=>hk.2) (.slice aV an.length aW)) (fun _ hk=>⟨hk.1.1.1.1,⟨hk.1.1.1.2.1,⟨hk.1.1.1.2.2.1,⟨hk.1.1.1.1,⟨hk.1.1.1.2.1,⟨hk.1.1.1.2.2.1,⟨hk.1.1.1.2.2.2,⟨hk.1.1.2,hk.1.2⟩⟩⟩⟩⟩⟩⟩⟩)⟩,⟨by refine sRm ?_;exact Kd.R_mono (Kd.R_far (p:=⟨aa,7,none⟩) (Kd.R_far (p:=⟨aa,6,none⟩) (Kd.R_far (p:=⟨aa,5,none⟩) (Kd.R_far (p:=⟨aa,4,none⟩) (Kd.R_far (p:=⟨aa,3,none⟩) (Kd.R_far (p:=⟨aa,2,none⟩) (Kd.R_far (p:=⟨aa,1,none⟩) (Kd.R_far (p:=⟨aa,0,none⟩) (Kd.R_types ba.out ac.out (by decide)) (fun _ hk=>hk.2) (.int .i64 ae)) (fun _ hk=>hk.2) (.int .i64 af)) (fun _ hk=>hk.2) (.slice ar ag.length au)) (fun _ hk=>hk.2) (.int .i64 al)) (fun _ hk=>hk.2) (.int .i64 am)) (fun _ hk=>hk.2) (.slice aD ak.length aE)) (fun _ hk=>hk.2) (.slice aT aq.length aU)) (fun _ hk=>hk.2) (.slice aV an.length aW)) (fun _ hk=>trivial)⟩,⟨by refine sRm ?_;exact Kd.R_mono (Kd.R_far (p:=⟨aa,7,none⟩) (Kd.R_far (p:=⟨aa,6,none⟩) (Kd.R_far (p:=⟨aa,5,none⟩) (Kd.R_far (p:=⟨aa,4,none⟩) (Kd.R_far (p:=⟨aa,3,none⟩) (Kd.R_far (p:=⟨aa,2,none⟩) (Kd.R_far (p:=⟨aa,1,none⟩) (Kd.R_far (p:=⟨aa,0,none⟩) (Kd.R_types aZ.out ac.out (by decide)) (fun _ hk=>hk.2) (.int .i64 ae)) (fun _ hk=>hk.2) (.int .i64 af)) (fun _ hk=>hk.2) (.slice ar ag.length au)) (fun _ hk=>hk.2) (.int .i64 al)) (fun _ hk=>hk.2) (.int .i64 am)) (fun _ hk=>hk.2) (.slice aD ak.length aE)) (fun _ hk=>hk.2) (.slice aT aq.length aU)) (fun _ hk=>hk.2) (.slice aV an.length aW)) (fun _ hk=>trivial)⟩,⟨by refine sRm ?_;exact Kd.R_mono (Kd.R_far (p:=⟨aa,7,none⟩) (Kd.R_far (p:=⟨aa,6,none⟩) (Kd.R_far (p:=⟨aa,5,none⟩) (Kd.R_far (p:=⟨aa,4,none⟩) (Kd.R_far (p:=⟨aa,3,none⟩) (Kd.R_far (p:=⟨aa,2,none⟩) (Kd.R_far (p:=⟨aa,1,none⟩) (Kd.R_far (p:=⟨aa,0,none⟩) (Kd.R_types aY.out ac.out (by decide)) (fun _ hk=>hk.2) (.int .i64 ae)) (fun _ hk=>hk.2) (.int .i64 af)) (fun _ hk=>hk.2) (.slice ar ag.length au)) (fun _ hk=>hk.2) (.int .i64 al)) (fun _ hk=>hk.2) (.int .i64 am)) (fun _ hk=>hk.2) (.slice aD ak.length aE)) (fun _ hk=>hk.2) (.slice aT aq.length aU)) (fun _ hk=>hk.2) (.slice aV an.length aW)) (fun _ hk=>trivial)⟩,⟨by refine sM ?_;refine qaf ?_ ah.out _;refine sM ?_;refine qaf ?_ ah.out _;refine sM ?_;refine qaf ?_ ah.out _;refine sM ?_;refine qaf ?_ ah.out _;refine sM ?_;refine qaf ?_ ah.out _;refine sM ?_;refine qaf ?_ ah.out _;refine sM ?_;refine qaf ?_ ah.out _;refine sM ?_;refine qaf ?_ ah.out _;refine sM ?_;exact aM.out⟩,⟨by refine sM ?_;refine qaf ?_ ai.out _;refine sM ?_;refine qaf ?_ ai.out _;refine sM ?_;refine qaf ?_ ai.out _;refine sM ?_;refine qaf ?_ ai.out _;refine sM ?_;refine qaf ?_ ai.out _;refine sM ?_;refine qaf ?_ ai.out _;refine sM ?_;refine qaf ?_ ai.out _;refine sM ?_;refine qaf ?_ ai.out _;refine sM ?_;exact aj.out⟩,⟨by refine sM ?_;refine qak (cs:=#[.int .i64 ae,.int .i64 af,.slice ar ag.length au,.int .i64 al,.int .i64 am,.slice aD ak.length aE,.slice aT aq.length aU,.slice none 0 0]) ?_ 7 _ rfl;refine sM ?_;refine qak (cs:=#[.int .i64 ae,.int .i64 af,.slice ar ag.length au,.int .i64 al,.int .i64 am,.slice aD ak.length aE,.slice none 0 0,.slice none 0 0]) ?_ 6 _ rfl;refine sM ?_;refine qak (cs:=#[.int .i64 ae,.int .i64 af,.slice ar ag.length au,.int .i64 al,.int .i64 am,.slice none 0 0,.slice none 0 0,.slice none 0 0]) ?_ 5 _ rfl;refine sM ?_;refine qak (cs:=#[.int .i64 ae,.int .i64 af,.slice ar ag.length au,.int .i64 al,.int .i64 0,.slice none 0 0,.slice none 0 0,.slice none 0 0]) ?_ 4 _ rfl;refine sM ?_;refine qak (cs:=#[.int .i64 ae,.int .i64 af,.slice ar ag.length au,.int .i64 0,.int .i64 0,.slice none 0 0,.slice none 0 0,.slice none 0 0]) ?_ 3 _ rfl;refine sM ?_;refine qak (cs:=#[.int .i64 ae,.int .i64 af,.slice none 0 0,.int .i64 0,.int .i64 0,.slice none 0 0,.slice none 0 0,.slice none 0 0]) ?_ 2 _ rfl;refine sM ?_;refine qak (cs:=#[.int .i64 ae,.int .i64 0,.slice none 0 0,.int .i64 0,.int .i64 0,.slice none 0 0,.slice none 0 0,.slice none 0 0]) ?_ 1 _ rfl;refine sM ?_;refine qak (cs:=#[.int .i64 0,.int .i64 0,.slice none 0 0,.int .i64 0,.int .i64 0,.slice none 0 0,.slice none 0 0,.slice none 0 0]) ?_ 0 _ rfl;refine sM ?_;exact ac.out⟩,⟨by repeat (first|(with_reducible first|exact HB.out|apply qah|apply qae|apply qag|refine qad ?_ bX.out|refine qad ?_ bY.out|refine qad ?_ bZ.out)|exact HB.out)⟩⟩
 case rest=>
  clear iV
  try clear c1
  try clear c2
  try clear p2
  try clear c3
  try clear p3
  try clear q3
  try clear kM
  try clear kN
  try clear kO
  try clear c4
  try clear c5
  try clear c6
  try clear p6
  try clear kP
  try clear kQ
  try clear kR
  try clear gi
  try clear cq
  try clear gj
  try clear kS
  try clear kT
  try clear kU
  try clear gl
  try clear gm
  try clear gn
  try clear ii
  try clear il
  try clear im
  try clear io
  try clear p31
  try clear ir
  try clear kz
  try clear jn
  try clear kA
  try clear kV
  try clear kW
  try clear p35
  try clear kX
  try clear kB
  try clear kC
  try clear kY
  try clear gp
  try clear gq
  try clear gr
  try clear ix
  try clear iA
  try clear kZ
  try clear k7
  try clear k8
  try clear gv
  try clear gw
  try clear gx
  try clear k9
  try clear la
  try clear lb
  try clear cM cN cO cP cQ cR cS cT
  try clear dc dd de df dg dh di dj
  try clear dv dw dx dy dz dA dB dC
  try clear dL dM dN dO dP dQ dT dU
  try clear ea eb ec ed ef eg eh ek
  try clear ev ew ex ey ez eA eB eC
  try clear eN eO eP eQ eR eS eT eU
  try clear fe ff fg fh fi fj fk fl
  try clear fx fy fz fA fB fC fD fE
  try clear fN fO fP fQ fR fS fT fU
  try clear gH gI gJ gK gL gM gN gO
  try clear cU cV cW cX cY cZ da db
  try clear dk dl dm dn dp dq dr du
  try clear dD dE dF dG dH dI dJ dK
  try clear dV dW dX dY dZ d7 d8 d9
  try clear el en ep eq er es et eu
  try clear eD eE eF eG eH eI eJ eK
  try clear eV eW eX eY eZ fa fb fc
  try clear fm fo fp fq ft fu fv fw
  try clear fF fG fH fI fJ fK fL fM
  try clear fV fW fX fY fZ ga gb gc
  try clear gP gQ gR gS gT gU gV gW
  try clear cr
  try clear bL
  try clear p31
  try clear eL
  try clear ir
  try clear eM
  obtain⟨kq,ap,av,aw,ay,az,bT,bJ,bK,HA,ld,aG,aH,aA,aI,aN,aQ,aJ,aK,aM,aj,ac,HB⟩:=hcut
  cases kq with
  |zero=>exact absurd HA.out (by simp [ostinatolaw21_CertTold.j0])
  |succ cw=>
   have H:=HA.out
   clear HA
   simp only [ostinatolaw21_CertTold.j0] at H
   by_cases iU:bf=true
   ·subst iU
    have H1:((cert_Print.f ae af ag al am ak ap an).bind fun cv=>(if cv.toList=([]:List UInt8) then (some false) else ((cert_Print.f ae af ag al am ak ap an).bind fun bM=>((cert_Print.f ae af ag av aw ak ay az).bind fun bH=>((cert_Same.f cw ae af ag al am ak ap an ae af ag av aw ak ay az).bind fun bF=>(if ((bM.toList == bH.toList) == bF)=true then ((cert_Same.f cw ae af ag al am ak ap an ae af ag av aw ak ay az).bind fun bW=>((ostinatoref21_Same.f cw ae af ag al am ak ap an ae af ag av aw ak ay az).bind fun bU=>(some (bW == bU)))) else (some false)))))))=some true:=by rw [if_pos rfl] at H;exact H
    clear H
    have H:=H1
    clear H1
    replace H:=Option.bind_eq_some_iff.mp H
    obtain⟨cv,iD,H⟩:=H
    replace H:(if cv.toList=([]:List UInt8) then (some false) else ((cert_Print.f ae af ag al am ak ap an).bind fun bM=>((cert_Print.f ae af ag av aw ak ay az).bind fun bH=>((cert_Same.f cw ae af ag al am ak ap an ae af ag av aw ak ay az).bind fun bF=>(if ((bM.toList == bH.toList) == bF)=true then ((cert_Same.f cw ae af ag al am ak ap an ae af ag av aw ak ay az).bind fun bW=>((ostinatoref21_Same.f cw ae af ag al am ak ap an ae af ag av aw ak ay az).bind fun bU=>(some (bW == bU)))) else (some false))))))=some true:=H
    have kD:=qaa.mk iD
    clear iD
    by_cases gZ:cv.toList=([]:List UInt8)
    ·rw [if_pos gZ] at H
     have iE:(cv.toList == ([]:List UInt8))=true:=beq_iff_eq.mpr gZ
     have iF:(cv.toList != ([]:List UInt8))=false:=bne_eq_false_iff_eq.mpr gZ
     clear gZ
     exact absurd (Option.some.inj H) (by decide)
    ·rw [if_neg gZ] at H
     have iE:(cv.toList == ([]:List UInt8))=false:=beq_eq_false_iff_ne.mpr gZ
     have iF:(cv.toList != ([]:List UInt8))=true:=bne_iff_ne.mpr gZ
     replace H:=Option.bind_eq_some_iff.mp H
     obtain⟨bM,iG,H⟩:=H
     replace H:((cert_Print.f ae af ag av aw ak ay az).bind fun bH=>((cert_Same.f cw ae af ag al am ak ap an ae af ag av aw ak ay az).bind fun bF=>(if ((bM.toList == bH.toList) == bF)=true then ((cert_Same.f cw ae af ag al am ak ap an ae af ag av aw ak ay az).bind fun bW=>((ostinatoref21_Same.f cw ae af ag al am ak ap an ae af ag av aw ak ay az).bind fun bU=>(some (bW == bU)))) else (some false))))=some true:=H
     have kE:=qaa.mk iG
     clear iG
     replace H:=Option.bind_eq_some_iff.mp H
     obtain⟨bH,iH,H⟩:=H
     replace H:((cert_Same.f cw ae af ag al am ak ap an ae af ag av aw ak ay az).bind fun bF=>(if ((bM.toList == bH.toList) == bF)=true then ((cert_Same.f cw ae af ag al am ak ap an ae af ag av aw ak ay az).bind fun bW=>((ostinatoref21_Same.f cw ae af ag al am ak ap an ae af ag av aw ak ay az).bind fun bU=>(some (bW == bU)))) else (some false)))=some true:=H
     have kF:=qaa.mk iH
     clear iH
     replace H:=Option.bind_eq_some_iff.mp H
     obtain⟨bF,iI,H⟩:=H
     replace H:(if ((bM.toList == bH.toList) == bF)=true then ((cert_Same.f cw ae af ag al am ak ap an ae af ag av aw ak ay az).bind fun bW=>((ostinatoref21_Same.f cw ae af ag al am ak ap an ae af ag av aw ak ay az).bind fun bU=>(some (bW == bU)))) else (some false))=some true:=H
     have kG:=qaa.mk iI
     clear iI
     by_cases cL:((bM.toList == bH.toList) == bF)=true
     ·rw [if_pos cL] at H
      have iJ:((bM.toList == bH.toList) == bF)=true:=cL
      (try (have iK:decide ((bM.toList == bH.toList)=bF)=true:=by simpa using cL))
      (try (have iL:((bM.toList == bH.toList) == bF)=true:=by simpa using cL))
      clear cL
      replace H:=Option.bind_eq_some_iff.mp H
      obtain⟨bW,iM,H⟩:=H
      replace H:((ostinatoref21_Same.f cw ae af ag al am ak ap an ae af ag av aw ak ay az).bind fun bU=>(some (bW == bU)))=some true:=H
      have kH:=qaa.mk iM
      clear iM
      replace H:=Option.bind_eq_some_iff.mp H
      obtain⟨bU,iN,H⟩:=H
      replace H:(some (bW == bU))=some true:=H
      have kI:=qaa.mk iN
      clear iN
      have HTr_:=qaa.mk (Option.some.inj H)
      clear H
      try go_wp2
      replace aG:=qaa.mk (Kd.V_drew aG.out)
      replace aH:=qaa.mk (Kd.R_drew aH.out)
      replace aA:=qaa.mk (Kd.R_drew aA.out)
      replace aI:=qaa.mk (Kd.R_drew aI.out)
      replace aN:=qaa.mk (Kd.V_drew aN.out)
      replace aQ:=qaa.mk (Kd.R_drew aQ.out)
      replace aJ:=qaa.mk (Kd.R_drew aJ.out)
      replace aK:=qaa.mk (Kd.R_drew aK.out)
      replace aM:=qaa.mk (qax aM.out)
      replace aj:=qaa.mk (qax aj.out)
      replace ac:=qaa.mk (qax ac.out)
      replace HB:=qaa.mk (qag HB.out)
      obtain⟨cH,cI,iO⟩:=Kd.R_slice aA.out
      (first|subst iO|(injection iO with gy iP gz;have iQ:=gy.symm;have iR:=gz.symm;clear gy iP gz;subst iQ;subst iR))
      refine start_ (n:=27) (S:=fun w'=>w'.cell? ⟨aC,0,none⟩=some (.int .i64 ae)∧w'.cell? ⟨aC,1,none⟩=some (.int .i64 af)∧w'.cell? ⟨aC,2,none⟩=some (.slice ar ag.length au)∧w'.cell? ⟨aC,3,none⟩=some (.int .i64 al)∧w'.cell? ⟨aC,4,none⟩=some (.int .i64 am)∧w'.cell? ⟨aC,5,none⟩=some (.slice aD ak.length aE)∧w'.cell? ⟨aC,6,none⟩=some (.slice cH ap.length cI)∧w'.cell? ⟨aC,7,none⟩=some (.slice aV an.length aW)∧w'.cell? ⟨aa,0,none⟩=some (.int .i64 ae)∧w'.cell? ⟨aa,1,none⟩=some (.int .i64 af)∧w'.cell? ⟨aa,2,none⟩=some (.slice ar ag.length au)∧w'.cell? ⟨aa,3,none⟩=some (.int .i64 av)∧w'.cell? ⟨aa,4,none⟩=some (.int .i64 aw)∧w'.cell? ⟨aa,5,none⟩=some (.slice aD ak.length aE)∧w'.cell? ⟨aa,6,none⟩=some (bJ)∧w'.cell? ⟨aa,7,none⟩=some (bK)) (ds:=[]) #[false,false,false,false,false,false,false,false,false,false,false,false,false,false,false,false,false,false,false,false,false,false,false,false,false,false,false] (by kernel_rfl) rfl rfl ⟨(qab aj.out 0).trans rfl,(qab aj.out 1).trans rfl,(qab aj.out 2).trans rfl,(qab aj.out 3).trans rfl,(qab aj.out 4).trans rfl,(qab aj.out 5).trans rfl,(qab aj.out 6).trans rfl,(qab aj.out 7).trans rfl,(qab ac.out 0).trans rfl,(qab ac.out 1).trans rfl,(qab ac.out 2).trans rfl,(qab ac.out 3).trans rfl,(qab ac.out 4).trans rfl,(qab ac.out 5).trans rfl,(qab ac.out 6).trans rfl,(qab ac.out 7).trans rfl⟩ (fun hHeld=>?_);refine qaX ostinatolaw21_CertTold.tab15 ostinatolaw21_CertTold.bits15 (fun HT_ HW_=>?_)
      generalize wc.drew=le at aG aH aA aI aN aQ aJ aK aM aj ac HB hHeld ⊢
      refine sP 0 (some 74) rfl rfl ?_
      refine sP 1 (some 75) rfl rfl ?_
      refine qaZ (i:=2) (N:=some 76) (v:=?_) (a':=?_) #[true,true,true,false,false,false,false,false,false,false,false,false,false,false,false,false,false,false,false,false,false,false,false,false,false,false,false] rfl rfl (qay HT_.out HW_.out (by kernel_rfl)) (fun _ _ _ h=>h) (Or.inl ⟨by rfl,?_⟩) hHeld ?_ ?_
      rotate_left
      ·rintro w' ⟨s0,s1,s2,s3,s4,s5,s6,s7,s8,s9,gA,gB,gC,gD,gE,gF⟩
       go_simp
       with_reducible rfl
      rotate_left
      ·simp only [Act.put,List.setIfInBounds_toArray,List.set_cons_zero,List.set_cons_succ,qaC,qaE]
       rfl
      refine one_ (i:=3) (N:=some 77) #[true,true,true,true,false,false,false,false,false,false,false,false,false,false,false,false,false,false,false,false,false,false,false,false,false,false,false] rfl rfl (qaO HT_.out (by kernel_rfl)) (by decide) (fun K hK=>?_)
      refine goes_ Tryd.func15 (by kernel_rfl) rfl #[.agg #[.int .i64 ae,.int .i64 af,.slice ar ag.length au,.int .i64 al,.int .i64 am,.slice aD ak.length aE,.slice cH ap.length cI,.slice aV an.length aW]] (by rfl) rfl rfl (by (try simp only [List.map_toArray,List.map_cons,List.map_nil]);first|done|rfl|(simp only [List.length_drop,List.length_take];rfl)) ?_
      with_reducible refine (cert_Print.calls ae af _ _ ag al am _ _ ak _ _ ap _ _ an cv _ ?bi ?bj ?bm ?bn ?bp ?bq ?bt ?bI kD.out (Tabs.below HT.out sB)).mono ?_
      (case bi=>repeat (first|exact (Kd.V_reads' aG.out).2.2|(with_reducible refine Kd.C_alloc ?_ _)|(with_reducible refine Kd.C_drewN ?_ _)|(with_reducible refine Kd.C_drew ?_)))
      (case bj=>exact (Kd.V_reads' aG.out).2.1)
      (case bm=>repeat (first|exact (Kd.R_reads' aH.out).2.2|(with_reducible refine Kd.C_alloc ?_ _)|(with_reducible refine Kd.C_drewN ?_ _)|(with_reducible refine Kd.C_drew ?_)))
      (case bn=>exact (Kd.R_reads' aH.out).2.1)
      (case bp=>repeat (first|exact (Kd.R_reads' aA.out).2.2|(with_reducible refine Kd.C_alloc ?_ _)|(with_reducible refine Kd.C_drewN ?_ _)|(with_reducible refine Kd.C_drew ?_)))
      (case bq=>exact (Kd.R_reads' aA.out).2.1)
      (case bt=>repeat (first|exact (Kd.R_reads' aI.out).2.2|(with_reducible refine Kd.C_alloc ?_ _)|(with_reducible refine Kd.C_drewN ?_ _)|(with_reducible refine Kd.C_drew ?_)))
      (case bI=>exact (Kd.R_reads' aI.out).2.1)
      rintro e lf ⟨rfl,hb⟩
      refine⟨_,rfl,?_⟩
      replace aG:=qaa.mk (Kd.V_below (sV aG.out) hb)
      replace aH:=qaa.mk (Kd.R_below (sR aH.out) hb)
      replace aA:=qaa.mk (Kd.R_below (sR aA.out) hb)
      replace aI:=qaa.mk (Kd.R_below (sR aI.out) hb)
      replace aN:=qaa.mk (Kd.V_below (sV aN.out) hb)
      replace aQ:=qaa.mk (Kd.R_below (sR aQ.out) hb)
      replace aJ:=qaa.mk (Kd.R_below (sR aJ.out) hb)
      replace aK:=qaa.mk (Kd.R_below (sR aK.out) hb)
      replace aM:=qaa.mk (sKb aM.out hb)
      replace aj:=qaa.mk (sKb aj.out hb)
      replace ac:=qaa.mk (sKb ac.out hb)
      replace HB:=qaa.mk (qai sB hb)
      (try clear hb)
      (try clear gG)
      (try clear hk)
      (try clear hi)
      refine hK.out _ _ ⟨(qab aj.out 0).trans rfl,(qab aj.out 1).trans rfl,(qab aj.out 2).trans rfl,(qab aj.out 3).trans rfl,(qab aj.out 4).trans rfl,(qab aj.out 5).trans rfl,(qab aj.out 6).trans rfl,(qab aj.out 7).trans rfl,(qab ac.out 0).trans rfl,(qab ac.out 1).trans rfl,(qab ac.out 2).trans rfl,(qab ac.out 3).trans rfl,(qab ac.out 4).trans rfl,(qab ac.out 5).trans rfl,(qab ac.out 6).trans rfl,(qab ac.out 7).trans rfl⟩ (fun hHeld=>?_)
      clear hK K
      refine qa0 (a':=?_) ?_ ?_
      rotate_left
      ·show Act.put _ (some 77) _=_
       simp only [Act.put,List.setIfInBounds_toArray,List.set_cons_zero,List.set_cons_succ,qaC,qaE]
       rfl
      refine sP 4 (some 78) rfl rfl ?_
      refine sP 5 (some 79) rfl rfl ?_
      refine sP 6 (some 80) rfl rfl ?_
      refine qaZ (i:=7) (N:=some 81) (v:=?_) (a':=?_) #[true,true,true,true,true,true,true,true,false,false,false,false,false,false,false,false,false,false,false,false,false,false,false,false,false,false,false] rfl rfl (qay HT_.out HW_.out (by kernel_rfl)) (fun _ _ _ h=>h) (Or.inl ⟨by rfl,?_⟩) hHeld ?_ ?_
      rotate_left
      ·rintro w' ⟨s0,s1,s2,s3,s4,s5,s6,s7,s8,s9,gA,gB,gC,gD,gE,gF⟩
       go_simp
       with_reducible rfl
      rotate_left
      ·simp only [Act.put,List.setIfInBounds_toArray,List.set_cons_zero,List.set_cons_succ,qaC,qaE]
       rfl
      refine qaZ (i:=9) (N:=some 83) (v:=?_) (a':=?_) #[true,true,true,true,true,true,true,true,false,true,false,false,false,false,false,false,false,false,false,false,false,false,false,false,false,false,false] rfl rfl (qay HT_.out HW_.out (by kernel_rfl)) (fun _ _ _ h=>h) (Or.inl ⟨by rfl,?_⟩) hHeld ?_ ?_
      rotate_left
      ·rintro w' ⟨s0,s1,s2,s3,s4,s5,s6,s7,s8,s9,gA,gB,gC,gD,gE,gF⟩
       go_simp
       with_reducible rfl
      rotate_left
      ·simp only [Act.put,List.setIfInBounds_toArray,List.set_cons_zero,List.set_cons_succ,qaC,qaE]
       rfl
      refine qaZ (i:=12) (N:=some 86) (v:=?_) (a':=?_) #[true,true,true,true,true,true,true,true,false,true,false,false,true,false,false,false,false,false,false,false,false,false,false,false,false,false,false] rfl rfl (qay HT_.out HW_.out (by kernel_rfl)) (fun _ _ _ h=>h) (Or.inl ⟨by rfl,?_⟩) hHeld ?_ ?_
      rotate_left
      ·rintro w' ⟨s0,s1,s2,s3,s4,s5,s6,s7,s8,s9,gA,gB,gC,gD,gE,gF⟩
       go_simp
       with_reducible rfl
      rotate_left
      ·simp only [Act.put,List.setIfInBounds_toArray,List.set_cons_zero,List.set_cons_succ,qaC,qaE]
       rfl
      refine qaZ (i:=13) (N:=some 87) (v:=?_) (a':=?_) #[true,true,true,true,true,true,true,true,false,true,false,false,true,true,false,false,false,false,false,false,false,false,false,false,false,false,false] rfl rfl (qay HT_.out HW_.out (by kernel_rfl)) (fun _ _ _ h=>h) (Or.inl ⟨by rfl,?_⟩) hHeld ?_ ?_
      rotate_left
      ·rintro w' ⟨s0,s1,s2,s3,s4,s5,s6,s7,s8,s9,gA,gB,gC,gD,gE,gF⟩
       go_simp
       with_reducible rfl
      rotate_left
      ·simp only [Act.put,List.setIfInBounds_toArray,List.set_cons_zero,List.set_cons_succ,qaC,qaE]
       rfl
      refine one_ (i:=8) (N:=some 82) #[true,true,true,true,true,true,true,true,true,true,false,false,true,true,false,false,false,false,false,false,false,false,false,false,false,false,false] rfl rfl (qaO HT_.out (by kernel_rfl)) (by decide) (fun K hK=>?_)
      refine goes_ Tryd.func15 (by kernel_rfl) rfl #[.agg #[.int .i64 ae,.int .i64 af,.slice ar ag.length au,.int .i64 al,.int .i64 am,.slice aD ak.length aE,.slice cH ap.length cI,.slice aV an.length aW]] (by rfl) rfl rfl (by (try simp only [List.map_toArray,List.map_cons,List.map_nil]);first|done|rfl|(simp only [List.length_drop,List.length_take];rfl)) ?_
      with_reducible refine (cert_Print.calls ae af _ _ ag al am _ _ ak _ _ ap _ _ an bM _ ?bi ?bj ?bm ?bn ?bp ?bq ?bt ?bI kE.out (Tabs.below HT.out sB)).mono ?_
      (case bi=>repeat (first|exact (Kd.V_reads' aG.out).2.2|(with_reducible refine Kd.C_alloc ?_ _)|(with_reducible refine Kd.C_drewN ?_ _)|(with_reducible refine Kd.C_drew ?_)))
      (case bj=>exact (Kd.V_reads' aG.out).2.1)
      (case bm=>repeat (first|exact (Kd.R_reads' aH.out).2.2|(with_reducible refine Kd.C_alloc ?_ _)|(with_reducible refine Kd.C_drewN ?_ _)|(with_reducible refine Kd.C_drew ?_)))
      (case bn=>exact (Kd.R_reads' aH.out).2.1)
      (case bp=>repeat (first|exact (Kd.R_reads' aA.out).2.2|(with_reducible refine Kd.C_alloc ?_ _)|(with_reducible refine Kd.C_drewN ?_ _)|(with_reducible refine Kd.C_drew ?_)))
      (case bq=>exact (Kd.R_reads' aA.out).2.1)
      (case bt=>repeat (first|exact (Kd.R_reads' aI.out).2.2|(with_reducible refine Kd.C_alloc ?_ _)|(with_reducible refine Kd.C_drewN ?_ _)|(with_reducible refine Kd.C_drew ?_)))
      (case bI=>exact (Kd.R_reads' aI.out).2.1)
      rintro e lg ⟨rfl,hb⟩
      refine⟨_,rfl,?_⟩
      replace aG:=qaa.mk (Kd.V_below (sV aG.out) hb)
      replace aH:=qaa.mk (Kd.R_below (sR aH.out) hb)
      replace aA:=qaa.mk (Kd.R_below (sR aA.out) hb)
      replace aI:=qaa.mk (Kd.R_below (sR aI.out) hb)
      replace aN:=qaa.mk (Kd.V_below (sV aN.out) hb)
      replace aQ:=qaa.mk (Kd.R_below (sR aQ.out) hb)
      replace aJ:=qaa.mk (Kd.R_below (sR aJ.out) hb)
      replace aK:=qaa.mk (Kd.R_below (sR aK.out) hb)
      replace aM:=qaa.mk (sKb aM.out hb)
      replace aj:=qaa.mk (sKb aj.out hb)
      replace ac:=qaa.mk (sKb ac.out hb)
      replace HB:=qaa.mk (qai sB hb)
      (try clear hb)
      (try clear gG)
      (try clear hk)
      (try clear hi)
      obtain⟨ge,gf,iS⟩:=Kd.R_slice aJ.out
      (first|subst iS|(injection iS with gy iP gz;have iQ:=gy.symm;have iR:=gz.symm;clear gy iP gz;subst iQ;subst iR))
      obtain⟨gg,gh,iT⟩:=Kd.R_slice aK.out
      (first|subst iT|(injection iT with gy iP gz;have iQ:=gy.symm;have iR:=gz.symm;clear gy iP gz;subst iQ;subst iR))
      refine hK.out _ _ ⟨(qab aj.out 0).trans rfl,(qab aj.out 1).trans rfl,(qab aj.out 2).trans rfl,(qab aj.out 3).trans rfl,(qab aj.out 4).trans rfl,(qab aj.out 5).trans rfl,(qab aj.out 6).trans rfl,(qab aj.out 7).trans rfl,(qab ac.out 0).trans rfl,(qab ac.out 1).trans rfl,(qab ac.out 2).trans rfl,(qab ac.out 3).trans rfl,(qab ac.out 4).trans rfl,(qab ac.out 5).trans rfl,(qab ac.out 6).trans rfl,(qab ac.out 7).trans rfl⟩ (fun hHeld=>?_)
      clear hK K
      refine qa0 (a':=?_) ?_ ?_
      rotate_left
      ·show Act.put _ (some 82) _=_
       simp only [Act.put,List.setIfInBounds_toArray,List.set_cons_zero,List.set_cons_succ,qaC,qaE]
       rfl
      refine one_ (i:=10) (N:=some 84) #[true,true,true,true,true,true,true,true,true,true,true,false,true,true,false,false,false,false,false,false,false,false,false,false,false,false,false] rfl rfl (qaO HT_.out (by kernel_rfl)) (by decide) (fun K hK=>?_)
      refine goes_ Tryd.func15 (by kernel_rfl) rfl #[.agg #[.int .i64 ae,.int .i64 af,.slice ar ag.length au,.int .i64 av,.int .i64 aw,.slice aD ak.length aE,.slice ge ay.length gf,.slice gg az.length gh]] (by rfl) rfl rfl (by (try simp only [List.map_toArray,List.map_cons,List.map_nil]);first|done|rfl|(simp only [List.length_drop,List.length_take];rfl)) ?_
      with_reducible refine (cert_Print.calls ae af _ _ ag av aw _ _ ak _ _ ay _ _ az bH _ ?bi ?bj ?bm ?bn ?bp ?bq ?bt ?bI kF.out (Tabs.below HT.out sB)).mono ?_
      (case bi=>repeat (first|exact (Kd.V_reads' aN.out).2.2|(with_reducible refine Kd.C_alloc ?_ _)|(with_reducible refine Kd.C_drewN ?_ _)|(with_reducible refine Kd.C_drew ?_)))
      (case bj=>exact (Kd.V_reads' aN.out).2.1)
      (case bm=>repeat (first|exact (Kd.R_reads' aQ.out).2.2|(with_reducible refine Kd.C_alloc ?_ _)|(with_reducible refine Kd.C_drewN ?_ _)|(with_reducible refine Kd.C_drew ?_)))
      (case bn=>exact (Kd.R_reads' aQ.out).2.1)
      (case bp=>repeat (first|exact (Kd.R_reads' aJ.out).2.2|(with_reducible refine Kd.C_alloc ?_ _)|(with_reducible refine Kd.C_drewN ?_ _)|(with_reducible refine Kd.C_drew ?_)))
      (case bq=>exact (Kd.R_reads' aJ.out).2.1)
      (case bt=>repeat (first|exact (Kd.R_reads' aK.out).2.2|(with_reducible refine Kd.C_alloc ?_ _)|(with_reducible refine Kd.C_drewN ?_ _)|(with_reducible refine Kd.C_drew ?_)))
      (case bI=>exact (Kd.R_reads' aK.out).2.1)
      rintro e lh ⟨rfl,hb⟩
      refine⟨_,rfl,?_⟩
      replace aG:=qaa.mk (Kd.V_below (sV aG.out) hb)
      replace aH:=qaa.mk (Kd.R_below (sR aH.out) hb)
      replace aA:=qaa.mk (Kd.R_below (sR aA.out) hb)
      replace aI:=qaa.mk (Kd.R_below (sR aI.out) hb)
      replace aN:=qaa.mk (Kd.V_below (sV aN.out) hb)
      replace aQ:=qaa.mk (Kd.R_below (sR aQ.out) hb)
      replace aJ:=qaa.mk (Kd.R_below (sR aJ.out) hb)
      replace aK:=qaa.mk (Kd.R_below (sR aK.out) hb)
      replace aM:=qaa.mk (sKb aM.out hb)
      replace aj:=qaa.mk (sKb aj.out hb)
      replace ac:=qaa.mk (sKb ac.out hb)
      replace HB:=qaa.mk (qai sB hb)
      (try clear hb)
      (try clear gG)
      (try clear hk)
      (try clear hi)
      refine hK.out _ _ ⟨(qab aj.out 0).trans rfl,(qab aj.out 1).trans rfl,(qab aj.out 2).trans rfl,(qab aj.out 3).trans rfl,(qab aj.out 4).trans rfl,(qab aj.out 5).trans rfl,(qab aj.out 6).trans rfl,(qab aj.out 7).trans rfl,(qab ac.out 0).trans rfl,(qab ac.out 1).trans rfl,(qab ac.out 2).trans rfl,(qab ac.out 3).trans rfl,(qab ac.out 4).trans rfl,(qab ac.out 5).trans rfl,(qab ac.out 6).trans rfl,(qab ac.out 7).trans rfl⟩ (fun hHeld=>?_)
      clear hK K
      refine qa0 (a':=?_) ?_ ?_
      rotate_left
      ·show Act.put _ (some 84) _=_
       simp only [Act.put,List.setIfInBounds_toArray,List.set_cons_zero,List.set_cons_succ,qaC,qaE]
       rfl
      refine sP 11 (some 85) rfl rfl ?_
      refine one_ (i:=14) (N:=some 88) #[true,true,true,true,true,true,true,true,true,true,true,true,true,true,true,false,false,false,false,false,false,false,false,false,false,false,false] rfl rfl (qaO HT_.out (by kernel_rfl)) (by decide) (fun K hK=>?_)
      refine goes_ Tryd.func9 (by kernel_rfl) rfl #[.agg #[.int .i64 ae,.int .i64 af,.slice ar ag.length au,.int .i64 al,.int .i64 am,.slice aD ak.length aE,.slice cH ap.length cI,.slice aV an.length aW],.agg #[.int .i64 ae,.int .i64 af,.slice ar ag.length au,.int .i64 av,.int .i64 aw,.slice aD ak.length aE,.slice ge ay.length gf,.slice gg az.length gh]] (by rfl) rfl rfl (by (try simp only [List.map_toArray,List.map_cons,List.map_nil]);first|done|rfl|(simp only [List.length_drop,List.length_take];rfl)) ?_
      with_reducible refine (cert_Same.calls cw ae af _ _ ag al am _ _ ak _ _ ap _ _ an ae af _ _ ag av aw _ _ ak _ _ ay _ _ az bF _ ?bi ?bj ?bm ?bn ?bp ?bq ?bt ?bI ?cD ?cf ?cg ?cj ?ck ?cm ?co ?cp kG.out).mono ?_
      (case bi=>repeat (first|exact (Kd.V_reads' aG.out).2.2|(with_reducible refine Kd.C_alloc ?_ _)|(with_reducible refine Kd.C_drewN ?_ _)|(with_reducible refine Kd.C_drew ?_)))
      (case bj=>exact (Kd.V_reads' aG.out).2.1)
      (case bm=>repeat (first|exact (Kd.R_reads' aH.out).2.2|(with_reducible refine Kd.C_alloc ?_ _)|(with_reducible refine Kd.C_drewN ?_ _)|(with_reducible refine Kd.C_drew ?_)))
      (case bn=>exact (Kd.R_reads' aH.out).2.1)
      (case bp=>repeat (first|exact (Kd.R_reads' aA.out).2.2|(with_reducible refine Kd.C_alloc ?_ _)|(with_reducible refine Kd.C_drewN ?_ _)|(with_reducible refine Kd.C_drew ?_)))
      (case bq=>exact (Kd.R_reads' aA.out).2.1)
      (case bt=>repeat (first|exact (Kd.R_reads' aI.out).2.2|(with_reducible refine Kd.C_alloc ?_ _)|(with_reducible refine Kd.C_drewN ?_ _)|(with_reducible refine Kd.C_drew ?_)))
      (case bI=>exact (Kd.R_reads' aI.out).2.1)
      (case cD=>repeat (first|exact (Kd.V_reads' aN.out).2.2|(with_reducible refine Kd.C_alloc ?_ _)|(with_reducible refine Kd.C_drewN ?_ _)|(with_reducible refine Kd.C_drew ?_)))
      (case cf=>exact (Kd.V_reads' aN.out).2.1)
      (case cg=>repeat (first|exact (Kd.R_reads' aQ.out).2.2|(with_reducible refine Kd.C_alloc ?_ _)|(with_reducible refine Kd.C_drewN ?_ _)|(with_reducible refine Kd.C_drew ?_)))
      (case cj=>exact (Kd.R_reads' aQ.out).2.1)
      (case ck=>repeat (first|exact (Kd.R_reads' aJ.out).2.2|(with_reducible refine Kd.C_alloc ?_ _)|(with_reducible refine Kd.C_drewN ?_ _)|(with_reducible refine Kd.C_drew ?_)))
      (case cm=>exact (Kd.R_reads' aJ.out).2.1)
      (case co=>repeat (first|exact (Kd.R_reads' aK.out).2.2|(with_reducible refine Kd.C_alloc ?_ _)|(with_reducible refine Kd.C_drewN ?_ _)|(with_reducible refine Kd.C_drew ?_)))
      (case cp=>exact (Kd.R_reads' aK.out).2.1)
      rintro e ll ⟨rfl,hb⟩
      refine⟨_,rfl,?_⟩
      replace aG:=qaa.mk (Kd.V_below (sV aG.out) hb)
      replace aH:=qaa.mk (Kd.R_below (sR aH.out) hb)
      replace aA:=qaa.mk (Kd.R_below (sR aA.out) hb)
      replace aI:=qaa.mk (Kd.R_below (sR aI.out) hb)
      replace aN:=qaa.mk (Kd.V_below (sV aN.out) hb)
      replace aQ:=qaa.mk (Kd.R_below (sR aQ.out) hb)
      replace aJ:=qaa.mk (Kd.R_below (sR aJ.out) hb)
      replace aK:=qaa.mk (Kd.R_below (sR aK.out) hb)
      replace aM:=qaa.mk (sKb aM.out hb)
      replace aj:=qaa.mk (sKb aj.out hb)
      replace ac:=qaa.mk (sKb ac.out hb)
      replace HB:=qaa.mk (qai sB hb)
      (try clear hb)
      (try clear gG)
      (try clear hk)
      (try clear hi)
      refine hK.out _ _ ⟨(qab aj.out 0).trans rfl,(qab aj.out 1).trans rfl,(qab aj.out 2).trans rfl,(qab aj.out 3).trans rfl,(qab aj.out 4).trans rfl,(qab aj.out 5).trans rfl,(qab aj.out 6).trans rfl,(qab aj.out 7).trans rfl,(qab ac.out 0).trans rfl,(qab ac.out 1).trans rfl,(qab ac.out 2).trans rfl,(qab ac.out 3).trans rfl,(qab ac.out 4).trans rfl,(qab ac.out 5).trans rfl,(qab ac.out 6).trans rfl,(qab ac.out 7).trans rfl⟩ (fun hHeld=>?_)
      clear hK K
      refine qa0 (a':=?_) ?_ ?_
      rotate_left
      ·show Act.put _ (some 88) _=_
       simp only [Act.put,List.setIfInBounds_toArray,List.set_cons_zero,List.set_cons_succ,qaC,qaE]
       rfl
      refine sP 15 (some 89) rfl rfl ?_
      refine sP 16 (some 90) rfl rfl ?_
      refine sP 17 (some 91) rfl rfl ?_
      refine qaZ (i:=18) (N:=some 92) (v:=?_) (a':=?_) #[true,true,true,true,true,true,true,true,true,true,true,true,true,true,true,true,true,true,true,false,false,false,false,false,false,false,false] rfl rfl (qay HT_.out HW_.out (by kernel_rfl)) (fun _ _ _ h=>h) (Or.inl ⟨by rfl,?_⟩) hHeld ?_ ?_
      rotate_left
      ·rintro w' ⟨s0,s1,s2,s3,s4,s5,s6,s7,s8,s9,gA,gB,gC,gD,gE,gF⟩
       go_simp
       with_reducible rfl
      rotate_left
      ·simp only [Act.put,List.setIfInBounds_toArray,List.set_cons_zero,List.set_cons_succ,qaC,qaE]
       rfl
      refine qaZ (i:=19) (N:=some 93) (v:=?_) (a':=?_) #[true,true,true,true,true,true,true,true,true,true,true,true,true,true,true,true,true,true,true,true,false,false,false,false,false,false,false] rfl rfl (qay HT_.out HW_.out (by kernel_rfl)) (fun _ _ _ h=>h) (Or.inl ⟨by rfl,?_⟩) hHeld ?_ ?_
      rotate_left
      ·rintro w' ⟨s0,s1,s2,s3,s4,s5,s6,s7,s8,s9,gA,gB,gC,gD,gE,gF⟩
       go_simp
       with_reducible rfl
      rotate_left
      ·simp only [Act.put,List.setIfInBounds_toArray,List.set_cons_zero,List.set_cons_succ,qaC,qaE]
       rfl
      refine qaZ (i:=21) (N:=some 95) (v:=?_) (a':=?_) #[true,true,true,true,true,true,true,true,true,true,true,true,true,true,true,true,true,true,true,true,false,true,false,false,false,false,false] rfl rfl (qay HT_.out HW_.out (by kernel_rfl)) (fun _ _ _ h=>h) (Or.inl ⟨by rfl,?_⟩) hHeld ?_ ?_
      rotate_left
      ·rintro w' ⟨s0,s1,s2,s3,s4,s5,s6,s7,s8,s9,gA,gB,gC,gD,gE,gF⟩
       go_simp
       with_reducible rfl
      rotate_left
      ·simp only [Act.put,List.setIfInBounds_toArray,List.set_cons_zero,List.set_cons_succ,qaC,qaE]
       rfl
      refine qaZ (i:=22) (N:=some 96) (v:=?_) (a':=?_) #[true,true,true,true,true,true,true,true,true,true,true,true,true,true,true,true,true,true,true,true,false,true,true,false,false,false,false] rfl rfl (qay HT_.out HW_.out (by kernel_rfl)) (fun _ _ _ h=>h) (Or.inl ⟨by rfl,?_⟩) hHeld ?_ ?_
      rotate_left
      ·rintro w' ⟨s0,s1,s2,s3,s4,s5,s6,s7,s8,s9,gA,gB,gC,gD,gE,gF⟩
       go_simp
       with_reducible rfl
      rotate_left
      ·simp only [Act.put,List.setIfInBounds_toArray,List.set_cons_zero,List.set_cons_succ,qaC,qaE]
       rfl
      refine one_ (i:=20) (N:=some 94) #[true,true,true,true,true,true,true,true,true,true,true,true,true,true,true,true,true,true,true,true,true,true,true,false,false,false,false] rfl rfl (qaO HT_.out (by kernel_rfl)) (by decide) (fun K hK=>?_)
      refine goes_ Tryd.func9 (by kernel_rfl) rfl #[.agg #[.int .i64 ae,.int .i64 af,.slice ar ag.length au,.int .i64 al,.int .i64 am,.slice aD ak.length aE,.slice cH ap.length cI,.slice aV an.length aW],.agg #[.int .i64 ae,.int .i64 af,.slice ar ag.length au,.int .i64 av,.int .i64 aw,.slice aD ak.length aE,.slice ge ay.length gf,.slice gg az.length gh]] (by rfl) rfl rfl (by (try simp only [List.map_toArray,List.map_cons,List.map_nil]);first|done|rfl|(simp only [List.length_drop,List.length_take];rfl)) ?_
      with_reducible refine (cert_Same.calls cw ae af _ _ ag al am _ _ ak _ _ ap _ _ an ae af _ _ ag av aw _ _ ak _ _ ay _ _ az bW _ ?bi ?bj ?bm ?bn ?bp ?bq ?bt ?bI ?cD ?cf ?cg ?cj ?ck ?cm ?co ?cp kH.out).mono ?_
      (case bi=>repeat (first|exact (Kd.V_reads' aG.out).2.2|(with_reducible refine Kd.C_alloc ?_ _)|(with_reducible refine Kd.C_drewN ?_ _)|(with_reducible refine Kd.C_drew ?_)))
      (case bj=>exact (Kd.V_reads' aG.out).2.1)
      (case bm=>repeat (first|exact (Kd.R_reads' aH.out).2.2|(with_reducible refine Kd.C_alloc ?_ _)|(with_reducible refine Kd.C_drewN ?_ _)|(with_reducible refine Kd.C_drew ?_)))
      (case bn=>exact (Kd.R_reads' aH.out).2.1)
      (case bp=>repeat (first|exact (Kd.R_reads' aA.out).2.2|(with_reducible refine Kd.C_alloc ?_ _)|(with_reducible refine Kd.C_drewN ?_ _)|(with_reducible refine Kd.C_drew ?_)))
      (case bq=>exact (Kd.R_reads' aA.out).2.1)
      (case bt=>repeat (first|exact (Kd.R_reads' aI.out).2.2|(with_reducible refine Kd.C_alloc ?_ _)|(with_reducible refine Kd.C_drewN ?_ _)|(with_reducible refine Kd.C_drew ?_)))
      (case bI=>exact (Kd.R_reads' aI.out).2.1)
      (case cD=>repeat (first|exact (Kd.V_reads' aN.out).2.2|(with_reducible refine Kd.C_alloc ?_ _)|(with_reducible refine Kd.C_drewN ?_ _)|(with_reducible refine Kd.C_drew ?_)))
      (case cf=>exact (Kd.V_reads' aN.out).2.1)
      (case cg=>repeat (first|exact (Kd.R_reads' aQ.out).2.2|(with_reducible refine Kd.C_alloc ?_ _)|(with_reducible refine Kd.C_drewN ?_ _)|(with_reducible refine Kd.C_drew ?_)))
      (case cj=>exact (Kd.R_reads' aQ.out).2.1)
      (case ck=>repeat (first|exact (Kd.R_reads' aJ.out).2.2|(with_reducible refine Kd.C_alloc ?_ _)|(with_reducible refine Kd.C_drewN ?_ _)|(with_reducible refine Kd.C_drew ?_)))
      (case cm=>exact (Kd.R_reads' aJ.out).2.1)
      (case co=>repeat (first|exact (Kd.R_reads' aK.out).2.2|(with_reducible refine Kd.C_alloc ?_ _)|(with_reducible refine Kd.C_drewN ?_ _)|(with_reducible refine Kd.C_drew ?_)))
      (case cp=>exact (Kd.R_reads' aK.out).2.1)
      rintro e lm ⟨rfl,hb⟩
      refine⟨_,rfl,?_⟩
      replace aG:=qaa.mk (Kd.V_below (sV aG.out) hb)
      replace aH:=qaa.mk (Kd.R_below (sR aH.out) hb)
      replace aA:=qaa.mk (Kd.R_below (sR aA.out) hb)
      replace aI:=qaa.mk (Kd.R_below (sR aI.out) hb)
      replace aN:=qaa.mk (Kd.V_below (sV aN.out) hb)
      replace aQ:=qaa.mk (Kd.R_below (sR aQ.out) hb)
      replace aJ:=qaa.mk (Kd.R_below (sR aJ.out) hb)
      replace aK:=qaa.mk (Kd.R_below (sR aK.out) hb)
      replace aM:=qaa.mk (sKb aM.out hb)
      replace aj:=qaa.mk (sKb aj.out hb)
      replace ac:=qaa.mk (sKb ac.out hb)
      replace HB:=qaa.mk (qai sB hb)
      (try clear hb)
      (try clear gG)
      (try clear hk)
      (try clear hi)
      refine hK.out _ _ ⟨(qab aj.out 0).trans rfl,(qab aj.out 1).trans rfl,(qab aj.out 2).trans rfl,(qab aj.out 3).trans rfl,(qab aj.out 4).trans rfl,(qab aj.out 5).trans rfl,(qab aj.out 6).trans rfl,(qab aj.out 7).trans rfl,(qab ac.out 0).trans rfl,(qab ac.out 1).trans rfl,(qab ac.out 2).trans rfl,(qab ac.out 3).trans rfl,(qab ac.out 4).trans rfl,(qab ac.out 5).trans rfl,(qab ac.out 6).trans rfl,(qab ac.out 7).trans rfl⟩ (fun hHeld=>?_)
      clear hK K
      refine qa0 (a':=?_) ?_ ?_
      rotate_left
      ·show Act.put _ (some 94) _=_
       simp only [Act.put,List.setIfInBounds_toArray,List.set_cons_zero,List.set_cons_succ,qaC,qaE]
       rfl
      refine one_ (i:=23) (N:=some 97) #[true,true,true,true,true,true,true,true,true,true,true,true,true,true,true,true,true,true,true,true,true,true,true,true,false,false,false] rfl rfl (qaO HT_.out (by kernel_rfl)) (by decide) (fun K hK=>?_)
      refine goes_ Tryd.func10 (by kernel_rfl) rfl #[.agg #[.int .i64 ae,.int .i64 af,.slice ar ag.length au,.int .i64 al,.int .i64 am,.slice aD ak.length aE,.slice cH ap.length cI,.slice aV an.length aW],.agg #[.int .i64 ae,.int .i64 af,.slice ar ag.length au,.int .i64 av,.int .i64 aw,.slice aD ak.length aE,.slice ge ay.length gf,.slice gg az.length gh]] (by rfl) rfl rfl (by (try simp only [List.map_toArray,List.map_cons,List.map_nil]);first|done|rfl|(simp only [List.length_drop,List.length_take];rfl)) ?_
      with_reducible refine (ostinatoref21_Same.calls cw ae af _ _ ag al am _ _ ak _ _ ap _ _ an ae af _ _ ag av aw _ _ ak _ _ ay _ _ az bU _ ?bi ?bj ?bm ?bn ?bp ?bq ?bt ?bI ?cD ?cf ?cg ?cj ?ck ?cm ?co ?cp kI.out).mono ?_
      (case bi=>repeat (first|exact (Kd.V_reads' aG.out).2.2|(with_reducible refine Kd.C_alloc ?_ _)|(with_reducible refine Kd.C_drewN ?_ _)|(with_reducible refine Kd.C_drew ?_)))
      (case bj=>exact (Kd.V_reads' aG.out).2.1)
      (case bm=>repeat (first|exact (Kd.R_reads' aH.out).2.2|(with_reducible refine Kd.C_alloc ?_ _)|(with_reducible refine Kd.C_drewN ?_ _)|(with_reducible refine Kd.C_drew ?_)))
      (case bn=>exact (Kd.R_reads' aH.out).2.1)
      (case bp=>repeat (first|exact (Kd.R_reads' aA.out).2.2|(with_reducible refine Kd.C_alloc ?_ _)|(with_reducible refine Kd.C_drewN ?_ _)|(with_reducible refine Kd.C_drew ?_)))
      (case bq=>exact (Kd.R_reads' aA.out).2.1)
      (case bt=>repeat (first|exact (Kd.R_reads' aI.out).2.2|(with_reducible refine Kd.C_alloc ?_ _)|(with_reducible refine Kd.C_drewN ?_ _)|(with_reducible refine Kd.C_drew ?_)))
      (case bI=>exact (Kd.R_reads' aI.out).2.1)
      (case cD=>repeat (first|exact (Kd.V_reads' aN.out).2.2|(with_reducible refine Kd.C_alloc ?_ _)|(with_reducible refine Kd.C_drewN ?_ _)|(with_reducible refine Kd.C_drew ?_)))
      (case cf=>exact (Kd.V_reads' aN.out).2.1)
      (case cg=>repeat (first|exact (Kd.R_reads' aQ.out).2.2|(with_reducible refine Kd.C_alloc ?_ _)|(with_reducible refine Kd.C_drewN ?_ _)|(with_reducible refine Kd.C_drew ?_)))
      (case cj=>exact (Kd.R_reads' aQ.out).2.1)
      (case ck=>repeat (first|exact (Kd.R_reads' aJ.out).2.2|(with_reducible refine Kd.C_alloc ?_ _)|(with_reducible refine Kd.C_drewN ?_ _)|(with_reducible refine Kd.C_drew ?_)))
      (case cm=>exact (Kd.R_reads' aJ.out).2.1)
      (case co=>repeat (first|exact (Kd.R_reads' aK.out).2.2|(with_reducible refine Kd.C_alloc ?_ _)|(with_reducible refine Kd.C_drewN ?_ _)|(with_reducible refine Kd.C_drew ?_)))
      (case cp=>exact (Kd.R_reads' aK.out).2.1)
      rintro e ln ⟨rfl,hb⟩
      refine⟨_,rfl,?_⟩
      replace aG:=qaa.mk (Kd.V_below (sV aG.out) hb)
      replace aH:=qaa.mk (Kd.R_below (sR aH.out) hb)
      replace aA:=qaa.mk (Kd.R_below (sR aA.out) hb)
      replace aI:=qaa.mk (Kd.R_below (sR aI.out) hb)
      replace aN:=qaa.mk (Kd.V_below (sV aN.out) hb)
      replace aQ:=qaa.mk (Kd.R_below (sR aQ.out) hb)
      replace aJ:=qaa.mk (Kd.R_below (sR aJ.out) hb)
      replace aK:=qaa.mk (Kd.R_below (sR aK.out) hb)
      replace aM:=qaa.mk (sKb aM.out hb)
      replace aj:=qaa.mk (sKb aj.out hb)
      replace ac:=qaa.mk (sKb ac.out hb)
      replace HB:=qaa.mk (qai sB hb)
      (try clear hb)
      (try clear gG)
      (try clear hk)
      (try clear hi)
      refine hK.out _ _ ⟨(qab aj.out 0).trans rfl,(qab aj.out 1).trans rfl,(qab aj.out 2).trans rfl,(qab aj.out 3).trans rfl,(qab aj.out 4).trans rfl,(qab aj.out 5).trans rfl,(qab aj.out 6).trans rfl,(qab aj.out 7).trans rfl,(qab ac.out 0).trans rfl,(qab ac.out 1).trans rfl,(qab ac.out 2).trans rfl,(qab ac.out 3).trans rfl,(qab ac.out 4).trans rfl,(qab ac.out 5).trans rfl,(qab ac.out 6).trans rfl,(qab ac.out 7).trans rfl⟩ (fun hHeld=>?_)
      clear hK K
      refine qa0 (a':=?_) ?_ ?_
      rotate_left
      ·show Act.put _ (some 97) _=_
       simp only [Act.put,List.setIfInBounds_toArray,List.set_cons_zero,List.set_cons_succ,qaC,qaE]
       rfl
      refine sP 24 (some 98) rfl rfl ?_
      refine sP 25 (some 99) rfl rfl ?_
      refine sP 26 (some 6) rfl rfl ?_
      refine done_ (done_of HT_.out (by kernel_rfl)) ?_
      try go_wp2
      go_ret
      exact⟨by first|rfl|(rw [HTr_.out];rfl)|(simp [qam,qal]<;>rfl)|(simp [bneNil,bneNilU]<;>rfl)|(simp [*,qam,qal]<;>rfl),by repeat (first|(with_reducible first|exact HB.out|apply qah|apply qae|apply qag|refine qad ?_ bX.out|refine qad ?_ bY.out|refine qad ?_ bZ.out)|exact HB.out)⟩
     ·rw [if_neg cL] at H
      have iJ:((bM.toList == bH.toList) == bF)=false:=by simpa using cL
      (try (have iK:decide ((bM.toList == bH.toList)=bF)=false:=by simpa using cL))
      (try (have iL:((bM.toList == bH.toList) == bF)=false:=by simpa using cL))
      (try (have kg:¬ ((bM.toList == bH.toList)=bF):=by simpa using cL))
      clear cL
      exact absurd (Option.some.inj H) (by decide)
   ·replace iU:=Bool.eq_false_iff.mpr iU
    subst iU
    have H1:(some false)=some true:=by rw [if_neg (show ¬ (false=true) by decide)] at H;exact H
    clear H
    have H:=H1
    clear H1
    exact absurd (Option.some.inj H) (by decide)
end
end Go.Proofs.YtgnaaokhfpfglaaDoor.PCertTold
end
section
namespace Go.Proofs.YtgnaaokhfpfglaaDoor.PCertTold
open Go.RowKit Go.Proofs.YtgnaaokhfpfglaaDoorW.PrintWords Go.Proofs.YtgnaaokhfpfglaaDoorW.PrintLast Go.Proofs.YtgnaaokhfpfglaaDoorW.PrintMore
attribute [local go_sem] qaW qaU qa3 qa2 qaN qaM qaV qaT
set_option linter.unusedVariables false
set_option linter.unusedSimpArgs false
noncomputable section
end
end Go.Proofs.YtgnaaokhfpfglaaDoor.PCertTold
end
