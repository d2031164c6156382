/- Texts of this claim, one behind the other: PCertRight0, PCertRight1, PCertRight2, Sqf, PCertRight3, PCertRight4, PCertRight5, PCertRight6, PCertRight7, PCertRight. -/
import Derived.Test.YtgnaaokhfpfglaaGreatDoorZCertRight1
import Derived.Test.YtgnaaokhfpfglaaGreatDoorProg
import Derived.Below
import Derived.Deep.Draws
import Derived.Deep.AppendLies
import Derived.Maps.AppendAt
import Derived.OwnWalk
import Derived.Laws.BytesArg
import Derived.Laws.MakeOwn
import Derived.Laws.OwnMore
import Derived.Deep.OwnRows
import Derived.Tactics
import Derived.Lib.ConvBytes
import Derived.Laws.Slices
import Derived.WalkKit
import Derived.KernelRfl
import Derived.RowKit3
import Derived.Deep.LoopGhost
import Derived.Deep.QuietTactic
import Derived.BigQuiet
import Derived.WideLaws
import Derived.Deep.DeepCutAuto
import Derived.Deep.CutBlock
import Derived.Deep.RegionHeld3
import Derived.Laws.Rows
import Derived.Lib.AppendStr
import Derived.ArgAppend
import Derived.Laws.IdiomCopy
import Derived.OrdersHeld
import Derived.Laws.BitsLemmas
import Derived.RowKit
import Derived.Test.YtgnaaokhfpfglaaGreatDoorZCertRight3
import Derived.Deep.MidRow

set_option maxHeartbeats 8000000
set_option maxRecDepth 100000
set_option linter.unusedVariables false
set_option linter.unusedSimpArgs false
section
namespace Go.Proofs.YtgnaaokhfpfglaaGreatDoor.PCertRight
open Go.RowKit Go.Proofs.YtgnaaokhfpfglaaGreatDoorW.PrintWords Go.Proofs.YtgnaaokhfpfglaaGreatDoorW.PrintLast Go.Proofs.YtgnaaokhfpfglaaGreatDoorW.PrintMore
attribute [local go_sem] max2_int min2_int max_two min_two max_three min_three max_four min_four
set_option linter.unusedVariables false
set_option linter.unusedSimpArgs false
noncomputable section
def errW:Option Int→Value
 |none=>.nilIface
 |some c=>.iface 0 (.int .i64 c)
theorem qak:errW none=.nilIface:=rfl
theorem qaj (c:Int):errW (some c)=.iface 0 (.int .i64 c):=rfl
theorem info2:(Tryz.prog.info? 2).map (fun i=>(i.zero,i.size,i.bytes))=some (some (.int .i64 0),1,8):=by kernel_rfl
structure S58 where
 f0:Int
 f1:Int
 f2:Int
 f3:Int
 f4:Int
 f5:(List Int)
 f6:(List Int)
def z58:S58:=⟨(0:Int),(0:Int),(0:Int),(0:Int),(0:Int),([]:List Int),([]:List Int)⟩
def k58:Kd S58:=Kd.iso (Kd.pair (Kd.int .i64) (Kd.pair (Kd.int .i64) (Kd.pair (Kd.int .i64) (Kd.pair (Kd.int .i64) (Kd.pair (Kd.int .i64) (Kd.pair (Kd.slice 2 (Kd.int .i64)) (Kd.slice 3 (Kd.int .i64)))))))) (fun x:S58=>(x.f0,x.f1,x.f2,x.f3,x.f4,x.f5,x.f6))
theorem k58_open {w:World} {x:S58} {cs:List Value} (h:k58.K w x cs):∃ A5 c5 A6 c6,cs=[.int .i64 x.f0,.int .i64 x.f1,.int .i64 x.f2,.int .i64 x.f3,.int .i64 x.f4,.slice A5 x.f5.length c5,.slice A6 x.f6.length c6]∧x.f5.length≤c5∧(Kd.int .i64).C w A5 x.f5.length x.f5∧x.f6.length≤c6∧(Kd.int .i64).C w A6 x.f6.length x.f6:=by
 obtain⟨_,_,rfl,rfl,⟨_,_,rfl,rfl,⟨_,_,rfl,rfl,⟨_,_,rfl,rfl,⟨_,_,rfl,rfl,⟨_,_,rfl,⟨A5,c5,rfl,l5,g5⟩,⟨A6,c6,rfl,l6,g6⟩⟩⟩⟩⟩⟩⟩:=h
 exact⟨A5,c5,A6,c6,rfl,l5,g5,l6,g6⟩
theorem k58_mkM (w:World) (base:Nat) (ok:Nat→Prop) (x:S58) {v5:Value} (g5:(Kd.int .i64).R 2 w base ok v5 x.f5) {v6:Value} (g6:(Kd.int .i64).R 3 w base ok v6 x.f6):k58.M w base ok x [.int .i64 x.f0,.int .i64 x.f1,.int .i64 x.f2,.int .i64 x.f3,.int .i64 x.f4,v5,v6]:=⟨[.int .i64 x.f0],[.int .i64 x.f1,.int .i64 x.f2,.int .i64 x.f3,.int .i64 x.f4,v5,v6],rfl,rfl,⟨[.int .i64 x.f1],[.int .i64 x.f2,.int .i64 x.f3,.int .i64 x.f4,v5,v6],rfl,rfl,⟨[.int .i64 x.f2],[.int .i64 x.f3,.int .i64 x.f4,v5,v6],rfl,rfl,⟨[.int .i64 x.f3],[.int .i64 x.f4,v5,v6],rfl,rfl,⟨[.int .i64 x.f4],[v5,v6],rfl,rfl,⟨[v5],[v6],rfl,⟨v5,rfl,g5⟩,⟨v6,rfl,g6⟩⟩⟩⟩⟩⟩⟩
def qal (xs:List S58) (i:Int):S58:=xs.getD i.toNat z58
theorem at_T58 {w:World} {A:Option Addr} {n:Nat} {xs:List S58} (h:Kd.C k58 w A n xs) (i:Int) (h0:0≤i) (h1:i<n):∃ ad A5 c5 A6 c6,A=some ad∧w.cell? (ad.add (i.toNat * 7))=some (.int .i64 (qal xs i).f0)∧w.cell? ⟨(ad.add (i.toNat * 7)).block,(ad.add (i.toNat * 7)).off+1,none⟩=some (.int .i64 (qal xs i).f1)∧w.cell? ⟨(ad.add (i.toNat * 7)).block,(ad.add (i.toNat * 7)).off+2,none⟩=some (.int .i64 (qal xs i).f2)∧w.cell? ⟨(ad.add (i.toNat * 7)).block,(ad.add (i.toNat * 7)).off+3,none⟩=some (.int .i64 (qal xs i).f3)∧w.cell? ⟨(ad.add (i.toNat * 7)).block,(ad.add (i.toNat * 7)).off+4,none⟩=some (.int .i64 (qal xs i).f4)∧w.cell? ⟨(ad.add (i.toNat * 7)).block,(ad.add (i.toNat * 7)).off+5,none⟩=some (.slice A5 (qal xs i).f5.length c5)∧w.cell? ⟨(ad.add (i.toNat * 7)).block,(ad.add (i.toNat * 7)).off+6,none⟩=some (.slice A6 (qal xs i).f6.length c6)∧(qal xs i).f5.length≤c5∧(Kd.int .i64).C w A5 (qal xs i).f5.length (qal xs i).f5∧(qal xs i).f6.length≤c6∧(Kd.int .i64).C w A6 (qal xs i).f6.length (qal xs i).f6:=by
 obtain⟨ad,c,e,_,hK,hc0⟩:=Kd.C_get h z58 i h0 h1
 have hc:∀ j u,c[j]? = some u→w.cell? (ad.add (i.toNat * 7+j))=some u:=hc0
 obtain⟨A5,c5,A6,c6,rfl,l5,g5,l6,g6⟩:=k58_open hK
 exact⟨ad,A5,c5,A6,c6,e,hc 0 _ rfl,by rw [← add_field _ _ 1 (by omega)];exact hc 1 _ rfl,by rw [← add_field _ _ 2 (by omega)];exact hc 2 _ rfl,by rw [← add_field _ _ 3 (by omega)];exact hc 3 _ rfl,by rw [← add_field _ _ 4 (by omega)];exact hc 4 _ rfl,by rw [← add_field _ _ 5 (by omega)];exact hc 5 _ rfl,by rw [← add_field _ _ 6 (by omega)];exact hc 6 _ rfl,l5,g5,l6,g6⟩
structure S37 where
 f0:Int
 f1:Int
 f2:(List S58)
def z37:S37:=⟨(0:Int),(0:Int),([]:List S58)⟩
structure S60 where
 f0:Int
 f1:Int
 f2:Int
 f3:Int
def z60:S60:=⟨(0:Int),(0:Int),(0:Int),(0:Int)⟩
def k60:Kd S60:=Kd.iso (Kd.pair (Kd.int .i64) (Kd.pair (Kd.int .i64) (Kd.pair (Kd.int .i64) (Kd.int .i64)))) (fun x:S60=>(x.f0,x.f1,x.f2,x.f3))
theorem k60_open {w:World} {x:S60} {cs:List Value} (h:k60.K w x cs):cs=[.int .i64 x.f0,.int .i64 x.f1,.int .i64 x.f2,.int .i64 x.f3]:=by
 obtain⟨_,_,rfl,rfl,⟨_,_,rfl,rfl,⟨_,_,rfl,rfl,rfl⟩⟩⟩:=h
 exact rfl
theorem k60_mkM (w:World) (base:Nat) (ok:Nat→Prop) (x:S60):k60.M w base ok x [.int .i64 x.f0,.int .i64 x.f1,.int .i64 x.f2,.int .i64 x.f3]:=⟨[.int .i64 x.f0],[.int .i64 x.f1,.int .i64 x.f2,.int .i64 x.f3],rfl,rfl,⟨[.int .i64 x.f1],[.int .i64 x.f2,.int .i64 x.f3],rfl,rfl,⟨[.int .i64 x.f2],[.int .i64 x.f3],rfl,rfl,rfl⟩⟩⟩
def qay (xs:List S60) (i:Int):S60:=xs.getD i.toNat z60
theorem at_T60 {w:World} {A:Option Addr} {n:Nat} {xs:List S60} (h:Kd.C k60 w A n xs) (i:Int) (h0:0≤i) (h1:i<n):∃ ad ,A=some ad∧w.cell? (ad.add (i.toNat * 4))=some (.int .i64 (qay xs i).f0)∧w.cell? ⟨(ad.add (i.toNat * 4)).block,(ad.add (i.toNat * 4)).off+1,none⟩=some (.int .i64 (qay xs i).f1)∧w.cell? ⟨(ad.add (i.toNat * 4)).block,(ad.add (i.toNat * 4)).off+2,none⟩=some (.int .i64 (qay xs i).f2)∧w.cell? ⟨(ad.add (i.toNat * 4)).block,(ad.add (i.toNat * 4)).off+3,none⟩=some (.int .i64 (qay xs i).f3):=by
 obtain⟨ad,c,e,_,hK,hc0⟩:=Kd.C_get h z60 i h0 h1
 have hc:∀ j u,c[j]? = some u→w.cell? (ad.add (i.toNat * 4+j))=some u:=hc0
 obtain rfl:=k60_open hK
 exact⟨ad,e,hc 0 _ rfl,by rw [← add_field _ _ 1 (by omega)];exact hc 1 _ rfl,by rw [← add_field _ _ 2 (by omega)];exact hc 2 _ rfl,by rw [← add_field _ _ 3 (by omega)];exact hc 3 _ rfl⟩
structure S40 where
 f0:S37
 f1:Int
 f2:Int
 f3:(List Int)
 f4:(List Int)
structure S43 where
 f0:S40
 f1:(List S60)
end
end Go.Proofs.YtgnaaokhfpfglaaGreatDoor.PCertRight
end
section
namespace Go.Proofs.YtgnaaokhfpfglaaGreatDoor.PCertRight
open Go.RowKit Go.Proofs.YtgnaaokhfpfglaaGreatDoorW.PrintWords Go.Proofs.YtgnaaokhfpfglaaGreatDoorW.PrintLast Go.Proofs.YtgnaaokhfpfglaaGreatDoorW.PrintMore
attribute [local go_sem] max2_int min2_int max_two min_two max_three min_three max_four min_four
set_option linter.unusedVariables false
set_option linter.unusedSimpArgs false
noncomputable section
theorem eqA60 (d:Nat) (w:World) (x0 y0:Int) (x1 y1:Int) (x2 y2:Int) (x3 y3:Int) :
  (Op.equalIn (d+2) 60 (.agg #[.int .i64 x0,.int .i64 x1,.int .i64 x2,.int .i64 x3]) (.agg #[.int .i64 y0,.int .i64 y1,.int .i64 y2,.int .i64 y3])).run Tryz.prog w=.ok (x0 == y0 && (x1 == y1 && (x2 == y2 && (x3 == y3)))) w:=by
 refine eqA_of Tryz.underlying60 (by kernel_rfl) ?_
 refine eqf_cons (by rfl) (by go_simp;rfl) (by go_simp;rfl) (by go_simp) ?_
 refine eqf_cons (by rfl) (by go_simp;rfl) (by go_simp;rfl) (by go_simp) ?_
 refine eqf_cons (by rfl) (by go_simp;rfl) (by go_simp;rfl) (by go_simp) ?_
 exact eqf_last (by rfl) (by go_simp;rfl) (by go_simp;rfl) (by go_simp)
end
end Go.Proofs.YtgnaaokhfpfglaaGreatDoor.PCertRight
end
section
namespace Go.Proofs.YtgnaaokhfpfglaaGreatDoor.PCertRight
open Go.RowKit Go.Proofs.YtgnaaokhfpfglaaGreatDoorW.PrintWords Go.Proofs.YtgnaaokhfpfglaaGreatDoorW.PrintLast Go.Proofs.YtgnaaokhfpfglaaGreatDoorW.PrintMore
attribute [local go_sem] max2_int min2_int max_two min_two max_three min_three max_four min_four
set_option linter.unusedVariables false
set_option linter.unusedSimpArgs false
noncomputable section
def cert_Policy.f (a0:Int):Option (ByteArray):=if a0=1 then (some (⟨#[101,100,102]⟩:ByteArray)) else (if a0=2 then (some (⟨#[102,112]⟩:ByteArray)) else (some (⟨#[]⟩:ByteArray)))
theorem cert_Policy.calls (a0:Int) (r:ByteArray) (w:World) (h:cert_Policy.f a0=some r) :
  Calls Tryz.prog 37 #[.int .i64 a0] w fun e w'=>e=.returned (.string r)∧qar w w':=by
 have H:(if a0=1 then (some (⟨#[101,100,102]⟩:ByteArray)) else (if a0=2 then (some (⟨#[102,112]⟩:ByteArray)) else (some (⟨#[]⟩:ByteArray))))=some r:=h
 clear h
 by_cases c2:a0=1
 ·rw [if_pos c2] at H
  have aa:(a0 == 1)=true:=beq_iff_eq.mpr c2
  have ac:(a0 != 1)=false:=bne_eq_false_iff_eq.mpr c2
  clear c2
  obtain rfl:=Option.some.inj H
  go_enter Tryz.func37,Tryz.ntmps37
  go_wp2
  go_ret
  exact⟨by first|rfl|(simp;done)|(simp [*];done),by repeat (first|exact qar.refl _|apply qar.step)⟩
 ·rw [if_neg c2] at H
  have aa:(a0 == 1)=false:=beq_eq_false_iff_ne.mpr c2
  have ac:(a0 != 1)=true:=bne_iff_ne.mpr c2
  by_cases c3:a0=2
  ·rw [if_pos c3] at H
   have ae:(a0 == 2)=true:=beq_iff_eq.mpr c3
   have af:(a0 != 2)=false:=bne_eq_false_iff_eq.mpr c3
   clear c3
   obtain rfl:=Option.some.inj H
   go_enter Tryz.func37,Tryz.ntmps37
   go_wp2
   go_ret
   exact⟨by first|rfl|(simp;done)|(simp [*];done),by repeat (first|exact qar.refl _|apply qar.step)⟩
  ·rw [if_neg c3] at H
   have ae:(a0 == 2)=false:=beq_eq_false_iff_ne.mpr c3
   have af:(a0 != 2)=true:=bne_iff_ne.mpr c3
   obtain rfl:=Option.some.inj H
   go_enter Tryz.func37,Tryz.ntmps37
   go_wp2
   go_ret
   exact⟨by first|rfl|(simp;done)|(simp [*];done),by repeat (first|exact qar.refl _|apply qar.step)⟩
def cert_Mode.f (a0:Int):Option (ByteArray):=if a0=1 then (some (⟨#[102,117,108,108]⟩:ByteArray)) else (if a0=2 then (some (⟨#[116,104,114,101,115,104,111,108,100,115]⟩:ByteArray)) else (if a0=3 then (some (⟨#[99,104,117,110,107,101,100]⟩:ByteArray)) else (if a0=4 then (some (⟨#[102,108,111,97,116,105,110,103]⟩:ByteArray)) else (some (⟨#[]⟩:ByteArray)))))
theorem cert_Mode.calls (a0:Int) (r:ByteArray) (w:World) (h:cert_Mode.f a0=some r) :
  Calls Tryz.prog 38 #[.int .i64 a0] w fun e w'=>e=.returned (.string r)∧qar w w':=by
 have H:(if a0=1 then (some (⟨#[102,117,108,108]⟩:ByteArray)) else (if a0=2 then (some (⟨#[116,104,114,101,115,104,111,108,100,115]⟩:ByteArray)) else (if a0=3 then (some (⟨#[99,104,117,110,107,101,100]⟩:ByteArray)) else (if a0=4 then (some (⟨#[102,108,111,97,116,105,110,103]⟩:ByteArray)) else (some (⟨#[]⟩:ByteArray))))))=some r:=h
 clear h
 by_cases c2:a0=1
 ·rw [if_pos c2] at H
  have aa:(a0 == 1)=true:=beq_iff_eq.mpr c2
  have ac:(a0 != 1)=false:=bne_eq_false_iff_eq.mpr c2
  clear c2
  obtain rfl:=Option.some.inj H
  go_enter Tryz.func38,Tryz.ntmps38
  go_wp2
  go_ret
  exact⟨by first|rfl|(simp;done)|(simp [*];done),by repeat (first|exact qar.refl _|apply qar.step)⟩
 ·rw [if_neg c2] at H
  have aa:(a0 == 1)=false:=beq_eq_false_iff_ne.mpr c2
  have ac:(a0 != 1)=true:=bne_iff_ne.mpr c2
  by_cases c3:a0=2
  ·rw [if_pos c3] at H
   have ae:(a0 == 2)=true:=beq_iff_eq.mpr c3
   have af:(a0 != 2)=false:=bne_eq_false_iff_eq.mpr c3
   clear c3
   obtain rfl:=Option.some.inj H
   go_enter Tryz.func38,Tryz.ntmps38
   go_wp2
   go_ret
   exact⟨by first|rfl|(simp;done)|(simp [*];done),by repeat (first|exact qar.refl _|apply qar.step)⟩
  ·rw [if_neg c3] at H
   have ae:(a0 == 2)=false:=beq_eq_false_iff_ne.mpr c3
   have af:(a0 != 2)=true:=bne_iff_ne.mpr c3
   by_cases c4:a0=3
   ·rw [if_pos c4] at H
    have ag:(a0 == 3)=true:=beq_iff_eq.mpr c4
    have ah:(a0 != 3)=false:=bne_eq_false_iff_eq.mpr c4
    clear c4
    obtain rfl:=Option.some.inj H
    go_enter Tryz.func38,Tryz.ntmps38
    go_wp2
    go_ret
    exact⟨by first|rfl|(simp;done)|(simp [*];done),by repeat (first|exact qar.refl _|apply qar.step)⟩
   ·rw [if_neg c4] at H
    have ag:(a0 == 3)=false:=beq_eq_false_iff_ne.mpr c4
    have ah:(a0 != 3)=true:=bne_iff_ne.mpr c4
    by_cases c5:a0=4
    ·rw [if_pos c5] at H
     have ai:(a0 == 4)=true:=beq_iff_eq.mpr c5
     have aj:(a0 != 4)=false:=bne_eq_false_iff_eq.mpr c5
     clear c5
     obtain rfl:=Option.some.inj H
     go_enter Tryz.func38,Tryz.ntmps38
     go_wp2
     go_ret
     exact⟨by first|rfl|(simp;done)|(simp [*];done),by repeat (first|exact qar.refl _|apply qar.step)⟩
    ·rw [if_neg c5] at H
     have ai:(a0 == 4)=false:=beq_eq_false_iff_ne.mpr c5
     have aj:(a0 != 4)=true:=bne_iff_ne.mpr c5
     obtain rfl:=Option.some.inj H
     go_enter Tryz.func38,Tryz.ntmps38
     go_wp2
     go_ret
     exact⟨by first|rfl|(simp;done)|(simp [*];done),by repeat (first|exact qar.refl _|apply qar.step)⟩
def tkOf (x:S58):Tk:=⟨x.f0,x.f1,x.f2,x.f3,x.f4,x.f5,x.f6⟩
def tkTo (x:Tk):S58:=⟨x.id,x.c,x.d,x.t,x.p,x.ch,x.us⟩
theorem C_of_tk {w:World} {A:Option Addr} {L:List S58} (h:Kd.C k58 w A L.length L):Kd.C kTk w A (L.map tkOf).length (L.map tkOf):=by
 obtain⟨h1,h2,h3⟩:=h
 refine⟨rfl,by rw [List.length_map];exact h2,fun hl=>?_⟩
 rw [List.length_map] at hl
 obtain⟨ad,e,hc⟩:=h3 hl
 refine⟨ad,e,fun j p hj=>?_⟩
 rw [List.getElem?_map] at hj
 cases hx:L[j]? with
 |none=>rw [hx] at hj;cases hj
 |some x=>
  rw [hx] at hj
  obtain rfl:=Option.some.inj hj
  obtain⟨c,a1,a2,a3⟩:=hc j x hx
  exact⟨c,a1,a2,a3⟩
def chkOk (L:List S58):Bool:=decide (L.length≤70000) && L.all fun x=>decide (x.f5.length≤4000000) && decide (x.f6.length≤4000000) && decide (x.f1≤9223372036854775807)
def tasks_Check.f (ac ae:Int) (aa:List S58):Option Int:=if chkOk aa=true then some (checkE ac ae (aa.map tkOf)) else none
theorem tasks_Check.calls (ac:Int) (ae:Int) (af:Option Addr) (ag:Nat) (aa:List S58) (r:Int) (w:World) (ah:Kd.C k58 w af aa.length aa) (ai:aa.length≤ag) (h:tasks_Check.f ac ae aa=some r) :
  Calls Tryz.prog 61 #[.agg #[.int .i64 ac,.int .i64 ae,.slice af aa.length ag]] w fun e w'=>e=.returned (.int .i64 r)∧Below w.heap.size w w':=by
 unfold tasks_Check.f at h
 split at h
 ·rename_i h1
  obtain rfl:=Option.some.inj h
  unfold chkOk at h1
  simp only [Bool.and_eq_true,decide_eq_true_eq] at h1
  have:=check_any ac ae af ag (aa.map tkOf) w (by rw [List.length_map];omega) (fun x hx=>by
   obtain⟨y,hy,rfl⟩:=List.mem_map.1 hx
   have:=List.all_eq_true.1 h1.2 y hy
   simp only [Bool.and_eq_true,decide_eq_true_eq] at this
   exact⟨this.1.1,this.1.2,this.2⟩) (tkrow_of_C (C_of_tk ah))
  rw [List.length_map] at this
  exact this
 ·cases h
def cert_within_int.f (a0:Int) (l1:List Int):Option Bool:=if l1.length≤4000000 then some (inA a0 l1) else none
theorem cert_within_int.calls (a0:Int) (A1:Option Addr) (c1:Nat) (l1:List Int) (r:Bool) (w:World) (aa:Kd.C (Kd.int .i64) w A1 l1.length l1) (ac:l1.length≤c1) (h:cert_within_int.f a0 l1=some r) :
  Calls Tryz.prog 69 #[.int .i64 a0,.slice A1 l1.length c1] w fun e w'=>e=.returned (.bool r)∧Below w.heap.size w w':=by
 unfold cert_within_int.f at h
 split at h
 ·rename_i h1
  obtain rfl:=Option.some.inj h
  refine (inAI_any a0 A1 c1 l1 w h1 (nrow_of_C aa)).mono ?_
  rintro e w' ⟨he,rfl⟩
  exact⟨he,Below.refl _ _⟩
 ·cases h
def cert_within_int64.f (a0:Int) (l1:List Int):Option Bool:=if l1.length≤4000000 then some (inA a0 l1) else none
theorem cert_within_int64.calls (a0:Int) (A1:Option Addr) (c1:Nat) (l1:List Int) (r:Bool) (w:World) (aa:Kd.C (Kd.int .i64) w A1 l1.length l1) (ac:l1.length≤c1) (h:cert_within_int64.f a0 l1=some r) :
  Calls Tryz.prog 70 #[.int .i64 a0,.slice A1 l1.length c1] w fun e w'=>e=.returned (.bool r)∧Below w.heap.size w w':=by
 unfold cert_within_int64.f at h
 split at h
 ·rename_i h1
  obtain rfl:=Option.some.inj h
  refine (inAL_any a0 A1 c1 l1 w h1 (nrow_of_C aa)).mono ?_
  rintro e w' ⟨he,rfl⟩
  exact⟨he,Below.refl _ _⟩
 ·cases h
def cert_may_1.f (aa:Int) (ac:Int) (ae:Int) (af:Int):Option (Bool):=(cert_within_int.f 99 (([aa]:List Int))).bind fun ag=>(if ag=true then ((cert_within_int64.f 1099511627776 (([ac,ae,af]:List Int))).bind fun ah=>(some (!ah))) else (some true))
theorem cert_may_1.calls (ae:Int) (af:Int) (ag:Int) (ah:Int) (r:Bool) (w:World) (h:cert_may_1.f ae af ag ah=some r) :
  Calls Tryz.prog 68 #[.agg #[.int .i64 ae,.int .i64 af,.int .i64 ag,.int .i64 ah]] w fun e w'=>e=.returned (.bool r)∧Below w.heap.size w w':=by
 have bE:=Tryz.underlying60
 have HB:=qaa.mk (Below.refl w.heap.size w)
 have H:((cert_within_int.f 99 (([ae]:List Int))).bind fun ar=>(if ar=true then ((cert_within_int64.f 1099511627776 (([af,ag,ah]:List Int))).bind fun ai=>(some (!ai))) else (some true)))=some r:=h
 clear h
 obtain⟨au,aj⟩:∃ y_:List Int,y_=(([ae]:List Int)):=⟨_,rfl⟩
 replace H:((cert_within_int.f 99 au).bind fun ar=>(if ar=true then ((cert_within_int64.f 1099511627776 (([af,ag,ah]:List Int))).bind fun ai=>(some (!ai))) else (some true)))=some r:=by first|(rw [aj];with_reducible exact H)|(have az:=(Option.bind_some _ _).symm.trans H;rw [aj];with_reducible exact az)|(have az:=(Option.bind_some _ _).symm.trans H;with_reducible exact az)|with_reducible exact H|(rw [aj];exact H)|exact H
 have aq:=qaa.mk aj
 clear aj
 replace H:=Option.bind_eq_some_iff.mp H
 obtain⟨ar,bB,H⟩:=H
 replace H:(if ar=true then ((cert_within_int64.f 1099511627776 (([af,ag,ah]:List Int))).bind fun ai=>(some (!ai))) else (some true))=some r:=H
 have A2:=qaa.mk bB
 clear bB
 by_cases c3:ar=true
 ·subst c3
  have H1:((cert_within_int64.f 1099511627776 (([af,ag,ah]:List Int))).bind fun ai=>(some (!ai)))=some r:=by rw [if_pos rfl] at H;exact H
  clear H
  have H:=H1
  clear H1
  obtain⟨aA,ak⟩:∃ y_:List Int,y_=(([af,ag,ah]:List Int)):=⟨_,rfl⟩
  replace H:((cert_within_int64.f 1099511627776 aA).bind fun ai=>(some (!ai)))=some r:=by first|(rw [ak];with_reducible exact H)|(have az:=(Option.bind_some _ _).symm.trans H;rw [ak];with_reducible exact az)|(have az:=(Option.bind_some _ _).symm.trans H;with_reducible exact az)|with_reducible exact H|(rw [ak];exact H)|exact H
  have ay:=qaa.mk ak
  clear ak
  replace H:=Option.bind_eq_some_iff.mp H
  obtain⟨ai,bC,H⟩:=H
  replace H:(some (!ai))=some r:=H
  have A4:=qaa.mk bC
  clear bC
  obtain rfl:=Option.some.inj H
  go_enter Tryz.func68,Tryz.ntmps68
  go_wp2_with (first|((with_reducible refine qaq (N:=1) rfl ?_);(try (refine qaH (by rfl) ?_;dsimp only));refine qap ?hg (N:=1) ?hd (cs:=#[.int .i64 ae,.int .i64 af,.int .i64 ag,.int .i64 ah]) (t:=60) ?hr ?_;(case hd=>rfl);(case hg=>rfl);(case hr=>first|(go_simp;done)|(go_simp;rfl));intro al hg w5 hbox hb;have aa:=qaa.mk (hbox);have aC:=qaa.mk ((by rw [hg];exact (qac sB):w.heap.size≤al));have av:=qaa.mk ((by rw [hg];exact (qac sB):w.heap.size≤al));replace HB:=qaa.mk (qai sB hb);clear hb hbox hg;obtain⟨a8,ba,bf,bg⟩:=sC4 (w:=w5) aa.out;obtain⟨bh,bj,bl,bm⟩:=sF4 aa.out)|((with_reducible refine qaq (N:=5) rfl ?_);(try (refine qaH (by rfl) ?_;dsimp only));refine Kd.R_lit (Kd.int .i64) _ 3 ?hg (N:=5) ?hd (xs:=([ae]:List Int)) (inner:=[.int .i64 ae]) (ok:=fun _=>True) (okp:=fun _=>True) ?hr ?hp (fun _ hk=>hk) trivial (Below.refl _ _) (Nat.le_refl _) (by simp) ?_;(case hd=>rfl);(case hg=>rfl);(case hr=>first|(go_simp;done)|(go_simp;rfl));(case hp=>exact (Reps.one (show Kd.M (Kd.int .i64) _ _ _ ae [.int .i64 ae] from rfl) (Reps.none _ _)));intro bn w7 aD hb hg_ hnew_;clear hg_ hnew_;(first|rw [← aq.out] at aD|(simp only [Int.reduceToNat] at aD;rw [← aq.out] at aD));have ac:=qaa.mk (Kd.R_lower aD (qac sB));replace aa:=qaa.mk (sKb aa.out hb);replace HB:=qaa.mk (qai sB hb);clear hb aD;obtain⟨bF,bG,bH⟩:=Kd.R_slice ac.out;subst bH)|((with_reducible refine qax (f:=69) rfl ?_);refine goesL_ (some 6) rfl rfl Tryz.func69 (by kernel_rfl) rfl #[.int .i64 99,.slice bF au.length bG] rfl (by (try simp only [List.map_toArray,List.map_cons,List.map_nil]);first|done|rfl|(simp only [List.length_drop,List.length_take];rfl)) ?_;(with_reducible refine (cert_within_int.calls 99 _ _ au true _ ?am ?an A2.out).mono ?_);(case am=>repeat (first|exact (Kd.R_reads' ac.out).2.2|(with_reducible refine Kd.C_alloc ?_ _)|(with_reducible refine Kd.C_drewN ?_ _)|(with_reducible refine Kd.C_drew ?_)));(case an=>exact (Kd.R_reads' ac.out).2.1);rintro e bI ⟨rfl,hb⟩;refine⟨_,rfl,?_⟩;replace ac:=qaa.mk (Kd.R_below (sR ac.out) hb);replace aa:=qaa.mk (sKb aa.out hb);replace HB:=qaa.mk (qai sB hb);(try clear hb);(try clear bD);(try clear hk);(try clear hi);obtain⟨aE,aG,aH,aI⟩:=sC4 (w:=bI) aa.out;obtain⟨aJ,aK,aM,aN⟩:=sF4 aa.out)|((with_reducible refine qaq (N:=15) rfl ?_);(try (refine qaH (by rfl) ?_;dsimp only));refine Kd.R_lit (Kd.int .i64) _ 2 ?hg (N:=15) ?hd (xs:=([af,ag,ah]:List Int)) (inner:=[.int .i64 af,.int .i64 ag,.int .i64 ah]) (ok:=fun _=>True) (okp:=fun _=>True) ?hr ?hp (fun _ hk=>hk) trivial (Below.refl _ _) (Nat.le_refl _) (by simp) ?_;(case hd=>rfl);(case hg=>rfl);(case hr=>first|(go_simp;done)|(go_simp;rfl));(case hp=>exact (Reps.one (show Kd.M (Kd.int .i64) _ _ _ af [.int .i64 af] from rfl) (Reps.one (show Kd.M (Kd.int .i64) _ _ _ ag [.int .i64 ag] from rfl) (Reps.one (show Kd.M (Kd.int .i64) _ _ _ ah [.int .i64 ah] from rfl) (Reps.none _ _)))));intro bJ bN aw hb hg_ hnew_;clear hg_ hnew_;(first|rw [← ay.out] at aw|(simp only [Int.reduceToNat] at aw;rw [← ay.out] at aw));replace ac:=qaa.mk (Kd.R_below (sR ac.out) hb);have ap:=qaa.mk (Kd.R_lower aw (qac sB));replace aa:=qaa.mk (sKb aa.out hb);replace HB:=qaa.mk (qai sB hb);clear hb aw;obtain⟨bK,bL,bp⟩:=Kd.R_slice ap.out;subst bp)|(go_at_call 70;(with_reducible refine (cert_within_int64.calls 1099511627776 _ _ aA ai _ ?am ?an A4.out).mono ?_);(case am=>repeat (first|exact (Kd.R_reads' ap.out).2.2|(with_reducible refine Kd.C_alloc ?_ _)|(with_reducible refine Kd.C_drewN ?_ _)|(with_reducible refine Kd.C_drew ?_)));(case an=>exact (Kd.R_reads' ap.out).2.1);rintro e bO ⟨rfl,hb⟩;replace ac:=qaa.mk (Kd.R_below (sR ac.out) hb);replace ap:=qaa.mk (Kd.R_below (sR ap.out) hb);replace aa:=qaa.mk (sKb aa.out hb);replace HB:=qaa.mk (qai sB hb);(try clear hb);(try clear bD);(try clear hk);(try clear hi)))
  go_ret
  exact⟨by first|rfl|(simp [qak,qaj]<;>rfl)|(simp [bneNil,bneNilU]<;>rfl)|(simp [*,qak,qaj]<;>rfl),by repeat (first|(with_reducible first|exact HB.out|apply qag|apply qab|apply qaf|refine qah ?_ av.out)|exact HB.out)⟩
 ·replace c3:=Bool.eq_false_iff.mpr c3
  subst c3
  have H1:(some true)=some r:=by rw [if_neg (show ¬ (false=true) by decide)] at H;exact H
  clear H
  have H:=H1
  clear H1
  obtain rfl:=Option.some.inj H
  go_enter Tryz.func68,Tryz.ntmps68
  go_wp2_with (first|((with_reducible refine qaq (N:=1) rfl ?_);(try (refine qaH (by rfl) ?_;dsimp only));refine qap ?hg (N:=1) ?hd (cs:=#[.int .i64 ae,.int .i64 af,.int .i64 ag,.int .i64 ah]) (t:=60) ?hr ?_;(case hd=>rfl);(case hg=>rfl);(case hr=>first|(go_simp;done)|(go_simp;rfl));intro al hg bM hbox hb;have aa:=qaa.mk (hbox);have aC:=qaa.mk ((by rw [hg];exact (qac sB):w.heap.size≤al));have av:=qaa.mk ((by rw [hg];exact (qac sB):w.heap.size≤al));replace HB:=qaa.mk (qai sB hb);clear hb hbox hg;obtain⟨aQ,aR,aT,aU⟩:=sC4 (w:=bM) aa.out;obtain⟨aV,aW,aY,aZ⟩:=sF4 aa.out)|((with_reducible refine qaq (N:=5) rfl ?_);(try (refine qaH (by rfl) ?_;dsimp only));refine Kd.R_lit (Kd.int .i64) _ 3 ?hg (N:=5) ?hd (xs:=([ae]:List Int)) (inner:=[.int .i64 ae]) (ok:=fun _=>True) (okp:=fun _=>True) ?hr ?hp (fun _ hk=>hk) trivial (Below.refl _ _) (Nat.le_refl _) (by simp) ?_;(case hd=>rfl);(case hg=>rfl);(case hr=>first|(go_simp;done)|(go_simp;rfl));(case hp=>exact (Reps.one (show Kd.M (Kd.int .i64) _ _ _ ae [.int .i64 ae] from rfl) (Reps.none _ _)));intro bn bP ax hb hg_ hnew_;clear hg_ hnew_;(first|rw [← aq.out] at ax|(simp only [Int.reduceToNat] at ax;rw [← aq.out] at ax));have ac:=qaa.mk (Kd.R_lower ax (qac sB));replace aa:=qaa.mk (sKb aa.out hb);replace HB:=qaa.mk (qai sB hb);clear hb ax;obtain⟨bt,bx,bz⟩:=Kd.R_slice ac.out;subst bz)|((with_reducible refine qax (f:=69) rfl ?_);refine goesL_ (some 6) rfl rfl Tryz.func69 (by kernel_rfl) rfl #[.int .i64 99,.slice bt au.length bx] rfl (by (try simp only [List.map_toArray,List.map_cons,List.map_nil]);first|done|rfl|(simp only [List.length_drop,List.length_take];rfl)) ?_;(with_reducible refine (cert_within_int.calls 99 _ _ au false _ ?am ?an A2.out).mono ?_);(case am=>repeat (first|exact (Kd.R_reads' ac.out).2.2|(with_reducible refine Kd.C_alloc ?_ _)|(with_reducible refine Kd.C_drewN ?_ _)|(with_reducible refine Kd.C_drew ?_)));(case an=>exact (Kd.R_reads' ac.out).2.1);rintro e bQ ⟨rfl,hb⟩;refine⟨_,rfl,?_⟩;replace ac:=qaa.mk (Kd.R_below (sR ac.out) hb);replace aa:=qaa.mk (sKb aa.out hb);replace HB:=qaa.mk (qai sB hb);(try clear hb);(try clear bD);(try clear hk);(try clear hi)))
  go_ret
  exact⟨by first|rfl|(simp [qak,qaj]<;>rfl)|(simp [bneNil,bneNilU]<;>rfl)|(simp [*,qak,qaj]<;>rfl),by repeat (first|(with_reducible first|exact HB.out|apply qag|apply qab|apply qaf|refine qah ?_ av.out)|exact HB.out)⟩
def bdOf (x:S60):Bd:=⟨x.f0,x.f1,x.f2,x.f3⟩
def bdTo (x:Bd):S60:=⟨x.i,x.g,x.t,x.k⟩
theorem k_bd {w:World} {x:S60} {c:List Value} (h:k60.K w x c):c=[.int .i64 (bdOf x).i,.int .i64 (bdOf x).g,.int .i64 (bdOf x).t,.int .i64 (bdOf x).k]:=k60_open h
theorem bdrow_of_C {w:World} {A:Option Addr} {l:List S60} (h:Kd.C k60 w A l.length l):BdRow w w.heap.size A (l.map bdOf):=by
 intro hl
 rw [List.length_map] at hl
 obtain⟨_,_,h⟩:=h
 obtain⟨ad,rfl,hc⟩:=h hl
 have hat:∀ j,j<l.length→∀ i u,((l.map bdOf)[j]?.map fun x=>[Value.int .i64 x.i,.int .i64 x.g,.int .i64 x.t,.int .i64 x.k]).bind (·[i]?)=some u→w.cell? (ad.add (j * 4+i))=some u:=by
  intro j hj i u hu
  obtain⟨c,_,hk,hcell⟩:=hc j _ (List.getElem?_eq_getElem hj)
  obtain rfl:=k_bd hk
  refine hcell i u ?_
  rw [List.getElem?_map,List.getElem?_eq_getElem hj] at hu
  exact hu
 have h00:=hat 0 hl 0 _ (by rw [List.getElem?_map,List.getElem?_eq_getElem hl];rfl)
 have hsp:=World.cell?_spot h00
 have hlt:=bLt w _ h00
 obtain⟨b,off,spot⟩:=ad
 have hs:spot=none:=by simpa [Addr.add] using hsp
 subst hs
 have hadd:∀ j,(⟨b,off,none⟩:Addr).add j=⟨b,off+j,none⟩:=fun j=>by unfold Addr.add;split<;>simp_all
 refine⟨b,off,rfl,by simpa [hadd] using hlt,fun i hi=>?_⟩
 have hi':i<l.length:=by simpa using hi
 have g0:=hat i hi' 0 _ (by rw [List.getElem?_map,List.getElem?_eq_getElem hi'];rfl)
 have g1:=hat i hi' 1 _ (by rw [List.getElem?_map,List.getElem?_eq_getElem hi'];rfl)
 have g2:=hat i hi' 2 _ (by rw [List.getElem?_map,List.getElem?_eq_getElem hi'];rfl)
 have g3:=hat i hi' 3 _ (by rw [List.getElem?_map,List.getElem?_eq_getElem hi'];rfl)
 rw [hadd] at g0 g1 g2 g3
 rw [List.getElem_map]
 exact⟨g0,by rw [Nat.add_assoc];exact g1,by rw [Nat.add_assoc];exact g2,by rw [Nat.add_assoc];exact g3⟩
theorem may_1_is (x:Bd):cert_may_1.f x.i x.g x.t x.k=some (wrongB x):=by
 unfold cert_may_1.f cert_within_int.f cert_within_int64.f wrongB
 rw [if_pos (by simp),if_pos (by simp)]
 cases inA 99 [x.i]<;>simp
def api_Bound_71.f (l0:List S60) (_:ByteArray):Option Bool:=if l0.length≤4000000 then some ((l0.map bdOf).any wrongB) else none
theorem api_Bound_71.calls (A0:Option Addr) (c0:Nat) (l0:List S60) (a1:ByteArray) (r:Bool) (w:World) (aa:Kd.C k60 w A0 l0.length l0) (ac:l0.length≤c0) (h:api_Bound_71.f l0 a1=some r) :
  Calls Tryz.prog 71 #[.slice A0 l0.length c0,.func (Fn.func 68) #[] #[]] w fun e w'=>e=.returned (.bool r)∧Below w.heap.size w w':=by
 unfold api_Bound_71.f at h
 split at h
 ·rename_i h1
  obtain rfl:=Option.some.inj h
  have:=boundContains_any wrongB A0 c0 (l0.map bdOf) w (by rw [List.length_map];exact h1) (bdrow_of_C aa) (fun x _ W=>cert_may_1.calls _ _ _ _ _ W (may_1_is x))
  rw [List.length_map] at this
  exact this
 ·cases h
def polP (p:Int):ByteArray:=if p=1 then ⟨#[101,100,102]⟩ else if p=2 then ⟨#[102,112]⟩ else ⟨#[]⟩
def modeP (m:Int):ByteArray:=if m=1 then ⟨#[102,117,108,108]⟩ else if m=2 then ⟨#[116,104,114,101,115,104,111,108,100,115]⟩ else if m=3 then ⟨#[99,104,117,110,107,101,100]⟩ else if m=4 then ⟨#[102,108,111,97,116,105,110,103]⟩ else ⟨#[]⟩
theorem pol_is (p:Int):cert_Policy.f p=some (polP p):=by
 unfold cert_Policy.f polP
 by_cases h1:p=1
 ·simp [h1]
 ·by_cases h2:p=2
  ·simp [h2]
  ·simp [h1,h2]
theorem mode_is (m:Int):cert_Mode.f m=some (modeP m):=by
 unfold cert_Mode.f modeP
 by_cases h1:m=1
 ·simp [h1]
 ·by_cases h2:m=2
  ·simp [h2]
  ·by_cases h3:m=3
   ·simp [h3]
   ·by_cases h4:m=4
    ·simp [h4]
    ·simp [h1,h2,h3,h4]
theorem polP_empty (p:Int):(polP p).toList=([]:List UInt8)↔¬ (1≤p∧p≤2):=by
 rw [Lib.toList_data]
 unfold polP
 split
 ·subst p;simp
 ·split
  ·subst p;simp
  ·simp;omega
theorem modeP_empty (m:Int):(modeP m).toList=([]:List UInt8)↔¬ (1≤m∧m≤4):=by
 rw [Lib.toList_data]
 unfold modeP
 split
 ·subst m;simp
 ·split
  ·subst m;simp
  ·split
   ·subst m;simp
   ·split
    ·subst m;simp
    ·simp;omega
theorem polP_size (p:Int):(polP p).size≤100:=by
 unfold polP
 split
 ·decide
 ·split<;>decide
theorem modeP_size (m:Int):(modeP m).size≤100:=by
 unfold modeP
 repeat' split
 all_goals decide
def mayV (s r:Int) (L:List Tk) (p m:Int) (th q:List Int) (bs:List Bd):Bool:=
 decide (checkE s r L=0) && decide (1≤p∧p≤2) && decide (1≤m∧m≤4) && decide (th.length≤64∧q.length≤64∧bs.length≤64) && inA 99 th && inA 1073741824 q && !(bs.any wrongB)
def crtOk (l2:List S58) (l5 l6:List Int) (l7:List S60):Bool:=chkOk l2 && decide (l5.length≤4000000∧l6.length≤4000000∧l7.length≤4000000)
theorem mayV_is (s r:Int) (L:List Tk) (p m:Int) (th q:List Int) (bs:List Bd):mayB (checkE s r L) (polP p).toList.isEmpty (modeP m).toList.isEmpty th.length q.length bs.length (inA 99 th) (inA 1073741824 q) (bs.any wrongB)=mayV s r L p m th q bs:=by
 have h1:(polP p).toList.isEmpty = !decide (1≤p∧p≤2):=by rw [Bool.eq_iff_iff,List.isEmpty_iff,polP_empty];simp;omega
 have h2:(modeP m).toList.isEmpty = !decide (1≤m∧m≤4):=by rw [Bool.eq_iff_iff,List.isEmpty_iff,modeP_empty];simp;omega
 unfold mayB mayV
 rw [h1,h2,Bool.not_not,Bool.not_not]
theorem drawn_below {w w':World} (h:qar w w'):Below w.heap.size w w':=by
 obtain⟨n,rfl⟩:=h
 exact qaC (Below.refl _ _) n
def cert_may.f (ag ah:Int) (aa:List S58) (ai aj:Int) (ac ae:List Int) (af:List S60):Option Bool:=if crtOk aa ac ae af=true then some (mayV ag ah (aa.map tkOf) ai aj ac ae (af.map bdOf)) else none
theorem cert_may.calls (ai:Int) (aj:Int) (ak:Option Addr) (al:Nat) (aa:List S58) (ag:Int) (ah:Int) (am:Option Addr) (an:Nat) (ac:List Int) (ap:Option Addr) (aq:Nat) (ae:List Int) (ar:Option Addr) (au:Nat) (af:List S60) (r:Bool) (w:World) (av:Kd.C k58 w ak aa.length aa) (aw:aa.length≤al) (ax:Kd.C (Kd.int .i64) w am ac.length ac) (ay:ac.length≤an) (az:Kd.C (Kd.int .i64) w ap ae.length ae) (aA:ae.length≤aq) (aC:Kd.C k60 w ar af.length af) (aD:af.length≤au) (h:cert_may.f ai aj aa ag ah ac ae af=some r) :
  Calls Tryz.prog 34 #[.agg #[.int .i64 ai,.int .i64 aj,.slice ak aa.length al,.int .i64 ag,.int .i64 ah,.slice am ac.length an,.slice ap ae.length aq,.slice ar af.length au]] w fun e w'=>e=.returned (.bool r)∧Below w.heap.size w w':=by
 unfold cert_may.f at h
 split at h
 ·rename_i h1
  obtain rfl:=Option.some.inj h
  unfold crtOk at h1
  simp only [Bool.and_eq_true,decide_eq_true_eq] at h1
  obtain⟨hk,h5,h6,h7⟩:=h1
  have:=certMay_any ai aj ag ah ak aa.length al am ac.length an ap ae.length aq ar af.length au w (checkE ai aj (aa.map tkOf)) (polP ag) (modeP ah) (inA 99 ac) (inA 1073741824 ae) ((af.map bdOf).any wrongB)
   (fun W hW=>tasks_Check.calls ai aj ak al aa _ W (Kd.C_below av hW) aw (by unfold tasks_Check.f;rw [if_pos hk]))
   (fun W=>(cert_Policy.calls ag _ W (pol_is ag)).mono (fun e w' h=>⟨h.1,drawn_below h.2⟩))
   (fun W=>(cert_Mode.calls ah _ W (mode_is ah)).mono (fun e w' h=>⟨h.1,drawn_below h.2⟩))
   (fun W hW=>cert_within_int.calls 99 am an ac _ W (Kd.C_below ax hW) ay (by unfold cert_within_int.f;rw [if_pos h5]))
   (fun W hW=>cert_within_int64.calls 1073741824 ap aq ae _ W (Kd.C_below az hW) aA (by unfold cert_within_int64.f;rw [if_pos h6]))
   (fun W hW=>api_Bound_71.calls ar au af ⟨#[]⟩ _ W (Kd.C_below aC hW) aD (by unfold api_Bound_71.f;rw [if_pos h7]))
  rw [← mayV_is,List.length_map]
  exact this
 ·cases h
def lex_Digits.f (a0:Int):Option ByteArray:=if i64B a0=true then some ⟨(Lib.itoa a0).toArray⟩ else none
theorem lex_Digits.calls (a0:Int) (r:ByteArray) (w:World) (h:lex_Digits.f a0=some r) (hT:Tabs w) :
  Calls Tryz.prog 73 #[.int .i64 a0] w fun e w'=>e=.returned (.string r)∧Below w.heap.size w w':=by
 unfold lex_Digits.f at h
 split at h
 ·rename_i h1
  obtain rfl:=Option.some.inj h
  rw [i64B_iff] at h1
  exact qaN a0 w h1.1 h1.2 hT.1.1.1
 ·cases h
def cert_long.l0:Nat→List Int→List Int→Int→Int→Option (List Int)
 |0,_,_,_,_=>none
 |k+1,x3,x6,x7,x8=>if x8<x7 then (if 0≤x8 then (if x8<(x6.length:Int) then (if x3.length<17592186044416 then (cert_long.l0 k (x3++[rd x6 x8]) x6 x7 (wrap64 (x8+1))) else (none)) else (none)) else (none)) else (some x3)
def cert_long.f (k:Nat) (l0:List Int):Option (List Int):=cert_long.l0 k ([]:List Int) l0 (l0.length:Int) 0
theorem cert_long.calls (k:Nat) (A0:Option Addr) (c0:Nat) (l0:List Int) (r:List Int) (w:World) (ar:Kd.C (Kd.int .i64) w A0 l0.length l0) (au:l0.length≤c0) (h:cert_long.f k l0=some r) :
  Calls Tryz.prog 40 #[.slice A0 l0.length c0] w fun e w'=>∃ av:Value,e=.returned (av)∧Kd.R (Kd.int .i64) 2 w' w.heap.size (fun _=>True) av r∧Below w.heap.size w w':=by
 have ay:=qaa.mk ar
 have aC:=qaa.mk au
 clear ar au
 have HB:=qaa.mk (Below.refl w.heap.size w)
 have H:(cert_long.l0 k ([]:List Int) l0 (l0.length:Int) 0)=some r:=h
 clear h
 have H':=qaa.mk H
 clear H
 go_enter Tryz.func40,Tryz.ntmps40
 go_wp2
 go_loopg [3,8] k (fun kq v3 v8 w'=>∃ (af:List Int) (aa:Int),v8=.int .i64 aa∧qaa (cert_long.l0 kq af l0 (l0.length:Int) aa=some r)∧qaa (kq≤k)∧qaa (Kd.R (Kd.int .i64) 2 w' w.heap.size (fun _=>True) v3 af)∧qaa (Below w.heap.size w w'))
 case atStart=>exact⟨(([]:List Int)),(0),(by first|rfl|(simp;done)|(simp [*];done)),H',⟨Nat.le_refl _⟩,⟨by first|exact Kd.R_nil _ _ _ _ _|exact Kd.N_nil _ _ _ _ _|exact Kd.V_nil _ _ _ _ _|exact Kd.Q_nil _ _ _ _ _|exact Kd.S_nil _ _ _ _ _⟩,⟨by repeat (first|(with_reducible first|exact HB.out|apply qag|apply qab|apply qaf)|exact HB.out)⟩⟩
 case round=>
  clear H'
  obtain⟨af,aa,rfl,HA,aw,ag,HB⟩:=hrel
  cases gk with
  |zero=>exact absurd HA.out (by simp [cert_long.l0])
  |succ k1=>
   have H:=HA.out
   clear HA
   simp only [cert_long.l0] at H
   by_cases c2:aa<(l0.length:Int)
   ·rw [if_pos c2] at H
    have am:decide (aa<(l0.length:Int))=true:=decide_eq_true c2
    clear c2
    by_cases c3:0≤aa
    ·rw [if_pos c3] at H
     have az:decide (0≤aa)=true:=decide_eq_true c3
     clear c3
     by_cases c4:aa<(l0.length:Int)
     ·rw [if_pos c4] at H
      have aA:decide (aa<(l0.length:Int))=true:=decide_eq_true c4
      clear c4
      by_cases c5:af.length<17592186044416
      ·rw [if_pos c5] at H
       have an:=qaa.mk c5
       clear c5
       obtain⟨aj,ae⟩:∃ y_:List Int,y_=(af++[rd l0 aa]):=⟨_,rfl⟩
       replace H:(cert_long.l0 k1 aj l0 (l0.length:Int) (wrap64 (aa+1)))=some r:=by first|(rw [ae];with_reducible exact H)|(have ap:=(Option.bind_some _ _).symm.trans H;rw [ae];with_reducible exact ap)|(have ap:=(Option.bind_some _ _).symm.trans H;with_reducible exact ap)|with_reducible exact H|(rw [ae];exact H)|exact H
       have ak:=qaa.mk ae
       clear ae
       have H':=qaa.mk H
       clear H
       have ah:0≤(aa:Int):=of_decide_eq_true sA
       have ai:aa<(l0.length:Int):=of_decide_eq_true sA
       obtain⟨ax,aq,ac⟩:=Kd.at_int ay.out aa ah ai
       cases aq
       replace ac:=(HB.out.cell (bLt w _ ac)).trans ac
       replace ah:=eq_true ah
       replace ai:=eq_true ai
       go_wp2_with (first|((with_reducible refine gate_builtin (b:=.append) (xs:=#[.tmp 12,.tmp 14]) rfl ?_);at_builtin;refine Kd.R_append (Kd.int .i64) (w0:=w) w.heap.size rfl (.tmp 12) (.tmp 14) 38 2 (.int .i64 0) 8 rfl Tryz.underlying38 info2 rfl (by decide) (by omega) u3 af (rd l0 aa) [.int .i64 (rd l0 aa)] (fun _=>True) (fun _=>False) rfl rfl ?aP (fun _ hk=>hk.elim) ?aF ?aO ?aB ?aS ?aL ?_;(case aP=>exact rfl);(case aB=>exact sB);(case aF=>exact (fun _ _=>trivial));(case aO=>exact (sR ag.out));(case aS=>exact (qac sB));(case aL=>have:=an.out;omega);intro v117 w6 ho hb hg hat;rw [← ak.out] at ho;replace HB:=qaa.mk (hb);have al:=qaa.mk (ho);clear ag ho hb hg hat))
       go_roundg k1
       case measure=>have:=aw.out;omega
       case rel=>exact⟨(aj),(wrap64 (aa+1)),(by first|rfl|(simp;done)|(simp [*];done)),H',⟨by have:=aw.out;omega⟩,⟨by refine sRm ?_;exact al.out⟩,⟨by repeat (first|(with_reducible first|exact HB.out|apply qag|apply qab|apply qaf)|exact HB.out)⟩⟩
      ·rw [if_neg c5] at H
       exact absurd H (by simp)
     ·rw [if_neg c4] at H
      exact absurd H (by simp)
    ·rw [if_neg c3] at H
     exact absurd H (by simp)
   ·rw [if_neg c2] at H
    have am:decide (aa<(l0.length:Int))=false:=decide_eq_false c2
    clear c2
    obtain rfl:=Option.some.inj H
    go_wp2
    go_ret
    exact⟨_,by first|rfl|(simp [qak,qaj]<;>rfl)|(simp [bneNil,bneNilU]<;>rfl)|(simp [*,qak,qaj]<;>rfl),by refine sRm ?_;exact ag.out,by repeat (first|(with_reducible first|exact HB.out|apply qag|apply qab|apply qaf)|exact HB.out)⟩
def cert_words.l0:Nat→ByteArray→List Int→Int→Int→Option (ByteArray)
 |0,_,_,_,_=>none
 |k+1,x3,x6,x7,x8=>if x8<x7 then (if 0≤x8 then (if x8<(x6.length:Int) then ((lex_Digits.f (rd x6 x8)).bind fun aa=>(if 1+aa.size≤9223372036854775807 then (if x3.size+((⟨#[32]⟩:ByteArray)++aa).size≤9223372036854775807 then (cert_words.l0 k (x3++((⟨#[32]⟩:ByteArray)++aa)) x6 x7 (wrap64 (x8+1))) else (none)) else (none))) else (none)) else (none)) else (some x3)
def cert_words.f (k:Nat) (l0:List Int):Option (ByteArray):=cert_words.l0 k (⟨#[]⟩:ByteArray) l0 (l0.length:Int) 0
theorem cert_words.calls (k:Nat) (A0:Option Addr) (c0:Nat) (l0:List Int) (r:ByteArray) (w:World) (ak:Kd.C (Kd.int .i64) w A0 l0.length l0) (al:l0.length≤c0) (h:cert_words.f k l0=some r) (hT:Tabs w) :
  Calls Tryz.prog 41 #[.slice A0 l0.length c0] w fun e w'=>e=.returned (.string r)∧Below w.heap.size w w':=by
 have aq:=qaa.mk ak
 have aD:=qaa.mk al
 clear ak al
 have HB:=qaa.mk (Below.refl w.heap.size w)
 have H:(cert_words.l0 k (⟨#[]⟩:ByteArray) l0 (l0.length:Int) 0)=some r:=h
 clear h
 have HT:=qaa.mk hT
 clear hT
 have H':=qaa.mk H
 clear H
 go_enter Tryz.func41,Tryz.ntmps41
 go_wp2
 go_loopg [3,8] k (fun kq v3 v8 w'=>∃ (ae:ByteArray) (aa:Int),v3=.string ae∧v8=.int .i64 aa∧qaa (cert_words.l0 kq ae l0 (l0.length:Int) aa=some r)∧qaa (kq≤k)∧qaa (Below w.heap.size w w'))
 case atStart=>exact⟨((⟨#[]⟩:ByteArray)),(0),(by first|rfl|(simp;done)|(simp [*];done)),(by first|rfl|(simp;done)|(simp [*];done)),H',⟨Nat.le_refl _⟩,⟨by repeat (first|(with_reducible first|exact HB.out|apply qag|apply qab|apply qaf)|exact HB.out)⟩⟩
 case round=>
  clear H'
  obtain⟨ae,aa,rfl,rfl,HA,am,HB⟩:=hrel
  cases gk with
  |zero=>exact absurd HA.out (by simp [cert_words.l0])
  |succ k1=>
   have H:=HA.out
   clear HA
   simp only [cert_words.l0] at H
   by_cases c2:aa<(l0.length:Int)
   ·rw [if_pos c2] at H
    have ai:decide (aa<(l0.length:Int))=true:=decide_eq_true c2
    clear c2
    by_cases c3:0≤aa
    ·rw [if_pos c3] at H
     have ar:decide (0≤aa)=true:=decide_eq_true c3
     clear c3
     by_cases c4:aa<(l0.length:Int)
     ·rw [if_pos c4] at H
      have au:decide (aa<(l0.length:Int))=true:=decide_eq_true c4
      clear c4
      replace H:=Option.bind_eq_some_iff.mp H
      obtain⟨ac,an,H⟩:=H
      replace H:(if 1+ac.size≤9223372036854775807 then (if ae.size+((⟨#[32]⟩:ByteArray)++ac).size≤9223372036854775807 then (cert_words.l0 k1 (ae++((⟨#[32]⟩:ByteArray)++ac)) l0 (l0.length:Int) (wrap64 (aa+1))) else (none)) else (none))=some r:=H
      have A5:=qaa.mk an
      clear an
      by_cases c6:1+ac.size≤9223372036854775807
      ·rw [if_pos c6] at H
       have av:=eq_true c6
       have aw:decide (1+ac.size≤9223372036854775807)=true:=decide_eq_true c6
       try have ax:(9223372036854775807<1+ac.size)=False:=eq_false (Nat.not_lt.2 c6)
       by_cases c7:ae.size+((⟨#[32]⟩:ByteArray)++ac).size≤9223372036854775807
       ·rw [if_pos c7] at H
        have ay:=eq_true c7
        have az:decide (ae.size+((⟨#[32]⟩:ByteArray)++ac).size≤9223372036854775807)=true:=decide_eq_true c7
        try have aA:(9223372036854775807<ae.size+((⟨#[32]⟩:ByteArray)++ac).size)=False:=eq_false (Nat.not_lt.2 c7)
        try have aC:(9223372036854775807<ae.size+1+ac.size)=False:=eq_false (Nat.not_lt.2 (by have e:=c7;simp only [ByteArray.size_append,show (⟨#[32]⟩:ByteArray).size=1 from rfl] at e;omega))
        have H':=qaa.mk H
        clear H
        have ag:0≤(aa:Int):=of_decide_eq_true sA
        have ah:aa<(l0.length:Int):=of_decide_eq_true sA
        obtain⟨ap,aj,af⟩:=Kd.at_int aq.out aa ag ah
        cases aj
        replace af:=(HB.out.cell (bLt w _ af)).trans af
        replace ag:=eq_true ag
        replace ah:=eq_true ah
        go_wp2_with (first|((with_reducible refine qax (f:=73) rfl ?_);refine goesL_ (some 14) rfl rfl Tryz.func73 (by kernel_rfl) rfl #[.int .i64 (rd l0 aa)] rfl (by (try simp only [List.map_toArray,List.map_cons,List.map_nil]);first|done|rfl|(simp only [List.length_drop,List.length_take];rfl)) ?_;(with_reducible refine (lex_Digits.calls (rd l0 aa) ac _ A5.out (Tabs.below HT.out sB)).mono ?_);rintro e w8 ⟨rfl,hb⟩;refine⟨_,rfl,?_⟩;replace HB:=qaa.mk (qai sB hb);(try clear hb);(try clear aE);(try clear hk);(try clear hi)))
        go_roundg k1
        case measure=>have:=am.out;omega
        case rel=>exact⟨(ae++((⟨#[32]⟩:ByteArray)++ac)),(wrap64 (aa+1)),(by first|rfl|(simp;done)|(simp [*];done)),(by first|rfl|(simp;done)|(simp [*];done)),H',⟨by have:=am.out;omega⟩,⟨by repeat (first|(with_reducible first|exact HB.out|apply qag|apply qab|apply qaf)|exact HB.out)⟩⟩
       ·rw [if_neg c7] at H
        exact absurd H (by simp)
      ·rw [if_neg c6] at H
       exact absurd H (by simp)
     ·rw [if_neg c4] at H
      exact absurd H (by simp)
    ·rw [if_neg c3] at H
     exact absurd H (by simp)
   ·rw [if_neg c2] at H
    have ai:decide (aa<(l0.length:Int))=false:=decide_eq_false c2
    clear c2
    obtain rfl:=Option.some.inj H
    go_wp2
    go_ret
    exact⟨by first|rfl|(simp [qak,qaj]<;>rfl)|(simp [bneNil,bneNilU]<;>rfl)|(simp [*,qak,qaj]<;>rfl),by repeat (first|(with_reducible first|exact HB.out|apply qag|apply qab|apply qaf)|exact HB.out)⟩
def prnOk (L:List S58):Bool:=decide (L.length≤70000) && L.all fun x=>decide (x.f5.length≤4000000) && decide (x.f6.length≤4000000) && decide (x.f1≤9223372036854775807)
def parse_Print.f (ac ae:Int) (aa:List S58):Option ByteArray:=if prnOk aa=true then some (if checkE ac ae (aa.map tkOf)=0 then printT ac ae (aa.map tkOf) else ⟨#[]⟩) else none
theorem parse_Print.calls (ac:Int) (ae:Int) (af:Option Addr) (ag:Nat) (aa:List S58) (r:ByteArray) (w:World) (ah:Kd.C k58 w af aa.length aa) (ai:aa.length≤ag) (h:parse_Print.f ac ae aa=some r) (hT:Tabs w) :
  Calls Tryz.prog 43 #[.agg #[.int .i64 ac,.int .i64 ae,.slice af aa.length ag]] w fun e w'=>e=.returned (.string r)∧Below w.heap.size w w':=by
 unfold parse_Print.f at h
 split at h
 ·rename_i h1
  obtain rfl:=Option.some.inj h
  unfold prnOk at h1
  simp only [Bool.and_eq_true,decide_eq_true_eq] at h1
  have:=print_any ac ae af ag (aa.map tkOf) w (by rw [List.length_map];exact h1.1) (fun x hx=>by
   obtain⟨y,hy,rfl⟩:=List.mem_map.1 hx
   have:=List.all_eq_true.1 h1.2 y hy
   simp only [Bool.and_eq_true,decide_eq_true_eq] at this
   exact⟨this.1.1,this.1.2,this.2⟩) (tkrow_of_C (C_of_tk ah)) hT.1.1.1 hT.1.1.2
  rw [List.length_map] at this
  exact this
 ·cases h
end
end Go.Proofs.YtgnaaokhfpfglaaGreatDoor.PCertRight
end
section
set_option linter.unusedVariables false
namespace Go.Proofs.YtgnaaokhfpfglaaGreatDoorW.PrintWords
open Go.RowKit Go.Proofs.YtgnaaokhfpfglaaGreatDoorW.PrintLast Go.Proofs.YtgnaaokhfpfglaaGreatDoorW.PrintMore
section
variable {α:Type} {d:Kd α} {e:Nat} {w:World} {base:Nat} {ok:Nat→Prop} {v:Value} {xs:List α} {g:Nat}
theorem far8R {u0 u1 u2 u3 u4 u5 u6 u7:Value} (h:Kd.R d e w base (fun k=>ok k∧k≠g) v xs):Kd.R d e ((((((((w.setCell ⟨g,0,none⟩ u0).setCell ⟨g,1,none⟩ u1).setCell ⟨g,2,none⟩ u2).setCell ⟨g,3,none⟩ u3).setCell ⟨g,4,none⟩ u4).setCell ⟨g,5,none⟩ u5).setCell ⟨g,6,none⟩ u6).setCell ⟨g,7,none⟩ u7) base (fun k=>ok k∧k≠g) v xs:=
 Kd.R_far (p:=⟨g,7,none⟩) (Kd.R_far (p:=⟨g,6,none⟩) (Kd.R_far (p:=⟨g,5,none⟩) (Kd.R_far (p:=⟨g,4,none⟩) (Kd.R_far (p:=⟨g,3,none⟩) (Kd.R_far (p:=⟨g,2,none⟩) (Kd.R_far (p:=⟨g,1,none⟩) (Kd.R_far (p:=⟨g,0,none⟩) (h) (fun _ hk=>hk.2) u0) (fun _ hk=>hk.2) u1) (fun _ hk=>hk.2) u2) (fun _ hk=>hk.2) u3) (fun _ hk=>hk.2) u4) (fun _ hk=>hk.2) u5) (fun _ hk=>hk.2) u6) (fun _ hk=>hk.2) u7
theorem fat8R {u0 u1 u2 u3 u4 u5 u6 u7:Value} {t:Nat} {cells:Array Value} (h:Kd.R d e w base ok v xs) (hb:w.heap[g]? = some (.cells cells t (0,0))) (ht:∀ q,q ∈ e::d.E→q≠t:=by decide):Kd.R d e ((((((((w.setCell ⟨g,0,none⟩ u0).setCell ⟨g,1,none⟩ u1).setCell ⟨g,2,none⟩ u2).setCell ⟨g,3,none⟩ u3).setCell ⟨g,4,none⟩ u4).setCell ⟨g,5,none⟩ u5).setCell ⟨g,6,none⟩ u6).setCell ⟨g,7,none⟩ u7) base ok v xs:=
 Kd.R_mono (far8R (Kd.R_types h hb ht)) (fun _ h_=>h_.1)
theorem far8S {u0 u1 u2 u3 u4 u5 u6 u7:Value} (h:Kd.S d e w base (fun k=>ok k∧k≠g) v xs):Kd.S d e ((((((((w.setCell ⟨g,0,none⟩ u0).setCell ⟨g,1,none⟩ u1).setCell ⟨g,2,none⟩ u2).setCell ⟨g,3,none⟩ u3).setCell ⟨g,4,none⟩ u4).setCell ⟨g,5,none⟩ u5).setCell ⟨g,6,none⟩ u6).setCell ⟨g,7,none⟩ u7) base (fun k=>ok k∧k≠g) v xs:=
 Kd.S_far (p:=⟨g,7,none⟩) (Kd.S_far (p:=⟨g,6,none⟩) (Kd.S_far (p:=⟨g,5,none⟩) (Kd.S_far (p:=⟨g,4,none⟩) (Kd.S_far (p:=⟨g,3,none⟩) (Kd.S_far (p:=⟨g,2,none⟩) (Kd.S_far (p:=⟨g,1,none⟩) (Kd.S_far (p:=⟨g,0,none⟩) (h) (fun _ hk=>hk.2) u0) (fun _ hk=>hk.2) u1) (fun _ hk=>hk.2) u2) (fun _ hk=>hk.2) u3) (fun _ hk=>hk.2) u4) (fun _ hk=>hk.2) u5) (fun _ hk=>hk.2) u6) (fun _ hk=>hk.2) u7
theorem fat8S {u0 u1 u2 u3 u4 u5 u6 u7:Value} {t:Nat} {cells:Array Value} (h:Kd.S d e w base ok v xs) (hb:w.heap[g]? = some (.cells cells t (0,0))) (ht:∀ q,q ∈ e::d.E→q≠t:=by decide):Kd.S d e ((((((((w.setCell ⟨g,0,none⟩ u0).setCell ⟨g,1,none⟩ u1).setCell ⟨g,2,none⟩ u2).setCell ⟨g,3,none⟩ u3).setCell ⟨g,4,none⟩ u4).setCell ⟨g,5,none⟩ u5).setCell ⟨g,6,none⟩ u6).setCell ⟨g,7,none⟩ u7) base ok v xs:=
 Kd.S_mono (far8S (Kd.S_types h hb ht)) (fun _ h_=>h_.1)
end
section
variable {P:Program} {ops:Array Oper} {Q:Exit→Act→World→Prop} {md:Region.Mode} {S:World→Prop} {ds:List Nat}
theorem sT (i:Nat) (N:Option Tmp) {oi:Oper} {v:Value} {fuel:Nat} {l:Array Bool} {a:Act} {w:World} {l':Array Bool} {a':Act} (hi:ops[i]? = some oi) (hN:oi.dst=N) (hS:S w)
  (h:qas P md ops Q S ds fuel l' a' w)
  (hl:l.setIfInBounds i true=l':=by (simp only [List.setIfInBounds_toArray,List.set_cons_zero,List.set_cons_succ];rfl))
  (hc:takeB md ops ds l l' i=true:=by exact take_ofW HT_.out HW_.out (by kernel_rfl))
  (hQ:∀ c a w,Q (.panic c) (a.put oi.dst v) w→Q (.panic c) a w:=by exact fun _ _ _ h=>h)
  (h1:Region.wanted oi (yielded ops a.tmps)=true:=by rfl) (hy:∀ w,S w→(execOp a.eval oi).run P w=.ok (.value v) w:=by (intro w' hS_;go_split_ands;go_simp;with_reducible rfl))
  (ha:a.put N v=a':=by (simp only [Act.put,List.setIfInBounds_toArray,List.set_cons_zero,List.set_cons_succ,i64_w,i32_w];rfl)):qas P md ops Q S ds (fuel+1) l a w:=
 take_ l' hi hN hc hQ (Or.inl ⟨h1,hy⟩) hS ha h
end
end Go.Proofs.YtgnaaokhfpfglaaGreatDoorW.PrintWords
end
section
namespace Go.Proofs.YtgnaaokhfpfglaaGreatDoor.PCertRight
open Go.RowKit Go.Proofs.YtgnaaokhfpfglaaGreatDoorW.PrintWords Go.Proofs.YtgnaaokhfpfglaaGreatDoorW.PrintLast Go.Proofs.YtgnaaokhfpfglaaGreatDoorW.PrintMore
attribute [local go_sem] max2_int min2_int max_two min_two max_three min_three max_four min_four
set_option linter.unusedVariables false
set_option linter.unusedSimpArgs false
noncomputable section
theorem c_of_four {W:World} {ρ:Nat} {a b c d:Int} (h:W.heap[ρ]? = some (.cells #[.int .i64 a,.int .i64 b,.int .i64 c,.int .i64 d] 2 (0,0))):Kd.C (Kd.int .i64) W (some ⟨ρ,0,none⟩) [a,b,c,d].length [a,b,c,d]:=by
 have h0:=cell_of_row W ρ 0 _ _ _ h
 have h1:=cell_of_row W ρ 1 _ _ _ h
 have h2:=cell_of_row W ρ 2 _ _ _ h
 have h3:=cell_of_row W ρ 3 _ _ _ h
 refine⟨rfl,by simp,fun _=>⟨_,rfl,fun j p hj=>⟨[.int .i64 p],rfl,rfl,fun i u hu=>?_⟩⟩⟩
 have hi:i=0:=by have:=(List.getElem?_eq_some_iff.1 hu).1;simp at this;omega
 subst hi
 obtain rfl:Value.int .i64 p=u:=by simpa using hu
 have hjl:j<4:=(List.getElem?_eq_some_iff.1 hj).1
 have hjs:j=0∨j=1∨j=2∨j=3:=by omega
 rcases hjs with rfl|rfl|rfl|rfl<;>(cases hj;first|exact h0|exact h1|exact h2|exact h3)
theorem long_l0 (l:List Int) (hl:l.length≤4000000):∀ (d i:Nat),i+d=l.length→Ev (fun k=>cert_long.l0 k (l.take i) l (l.length:Int) (i:Int)) l:=by
 intro d
 induction d with
 |zero=>
  intro i hi
  refine Ev.step (fun k=>by rw [cert_long.l0]) (Ev.ifn (by omega) ?_)
  rw [List.take_of_length_le (by omega)]
  exact Ev.now _
 |succ d ih=>
  intro i hi
  refine Ev.step (fun k=>by rw [cert_long.l0]) (Ev.ifp (by omega) (Ev.ifp (by omega) (Ev.ifp (by omega) (Ev.ifp (by rw [List.length_take];omega) ?_))))
  rw [qaJ i (by omega),rd_cast l i (by omega)]
  have:=ih (i+1) (by omega)
  rw [List.take_add_one,List.getElem?_eq_getElem (by omega)] at this
  exact this
theorem long_is (l:List Int) (hl:l.length≤4000000):Ev (fun k=>cert_long.f k l) l:=by
 have:=long_l0 l hl l.length 0 (by omega)
 exact Ev.congr (fun k=>by unfold cert_long.f;rfl) this
theorem words_is (x:Bd) (h:i64B x.i=true∧i64B x.g=true∧i64B x.t=true∧i64B x.k=true):Ev (fun k=>cert_words.f k [x.i,x.g,x.t,x.k]) (bdW x):=by
 obtain⟨h0,h1,h2,h3⟩:=h
 have d0:=qav x.i (i64B_iff.1 h0).1 (i64B_iff.1 h0).2
 have d1:=qav x.g (i64B_iff.1 h1).1 (i64B_iff.1 h1).2
 have d2:=qav x.t (i64B_iff.1 h2).1 (i64B_iff.1 h2).2
 have d3:=qav x.k (i64B_iff.1 h3).1 (i64B_iff.1 h3).2
 have z:(⟨#[32]⟩:ByteArray).size=1:=rfl
 have z0:(⟨#[]⟩:ByteArray).size=0:=rfl
 have hd:∀ n,i64B n=true→lex_Digits.f n=some (digB n):=fun n hn=>by unfold lex_Digits.f;rw [if_pos hn];rfl
 show Ev (fun k=>cert_words.l0 k (⟨#[]⟩:ByteArray) [x.i,x.g,x.t,x.k] (([x.i,x.g,x.t,x.k]:List Int).length:Int) 0) (bdW x)
 refine Ev.step (fun k=>by rw [cert_words.l0]) (Ev.ifp (by simp [wrap64]) (Ev.ifp (by simp [wrap64]) (Ev.ifp (by simp [wrap64]) (Ev.bindS (by simpa [rd,wrap64] using hd x.i h0) ?_))))
 refine Ev.ifp (by omega) (Ev.ifp (by rw [ByteArray.size_append];omega) ?_)
 refine Ev.step (fun k=>by rw [cert_words.l0]) (Ev.ifp (by simp [wrap64]) (Ev.ifp (by simp [wrap64]) (Ev.ifp (by simp [wrap64]) (Ev.bindS (by simpa [rd,wrap64] using hd x.g h1) ?_))))
 refine Ev.ifp (by omega) (Ev.ifp (by simp only [ByteArray.size_append];omega) ?_)
 refine Ev.step (fun k=>by rw [cert_words.l0]) (Ev.ifp (by simp [wrap64]) (Ev.ifp (by simp [wrap64]) (Ev.ifp (by simp [wrap64]) (Ev.bindS (by simpa [rd,wrap64] using hd x.t h2) ?_))))
 refine Ev.ifp (by omega) (Ev.ifp (by simp only [ByteArray.size_append];omega) ?_)
 refine Ev.step (fun k=>by rw [cert_words.l0]) (Ev.ifp (by simp [wrap64]) (Ev.ifp (by simp [wrap64]) (Ev.ifp (by simp [wrap64]) (Ev.bindS (by simpa [rd,wrap64] using hd x.k h3) ?_))))
 refine Ev.ifp (by omega) (Ev.ifp (by simp only [ByteArray.size_append];omega) ?_)
 refine Ev.step (fun k=>by rw [cert_words.l0]) ?_
 refine Ev.ifn (by simp [wrap64]) ?_
 exact Ev.now _
theorem mayV_small {s r p m:Int} {L:List Tk} {th q:List Int} {bs:List Bd} (h:mayV s r L p m th q bs=true):checkE s r L=0∧(th.length≤64∧q.length≤64∧bs.length≤64)∧(∀ x ∈ th,0≤x∧x≤99)∧(∀ x ∈ q,0≤x∧x≤1073741824)∧∀ x ∈ bs,(0≤x.i∧x.i≤99)∧(0≤x.g∧x.g≤1099511627776)∧(0≤x.t∧x.t≤1099511627776)∧(0≤x.k∧x.k≤1099511627776):=by
 unfold mayV at h
 simp only [Bool.and_eq_true,decide_eq_true_eq,Bool.not_eq_true'] at h
 obtain⟨⟨⟨⟨⟨⟨h0,_⟩,_⟩,h3⟩,h4⟩,h5⟩,h6⟩:=h
 refine⟨h0,h3,?_,?_,?_⟩
 ·intro x hx
  have:=List.all_eq_true.1 h4 x hx
  exact of_decide_eq_true this
 ·intro x hx
  have:=List.all_eq_true.1 h5 x hx
  exact of_decide_eq_true this
 ·intro x hx
  have h7:=List.any_eq_false.1 h6 x hx
  simp [wrongB,inA] at h7
  omega
noncomputable def certP (s r:Int) (L:List Tk) (p m:Int) (th q:List Int) (bs:List Bd):ByteArray:=if mayV s r L p m th q bs=true then certT (polP p) (modeP m) th q bs (printT s r L) else ⟨#[]⟩
noncomputable def cert_Print.f (ag ah:Int) (aa:List S58) (ai aj:Int) (ac ae:List Int) (af:List S60):Option ByteArray:=if crtOk aa ac ae af=true then some (certP ag ah (aa.map tkOf) ai aj ac ae (af.map bdOf)) else none
theorem cert_Print.calls (ac:Int) (ae:Int) (ak:Option Addr) (al:Nat) (aa:List S58) (ag:Int) (ah:Int) (am:Option Addr) (an:Nat) (af:List Int) (ap:Option Addr) (aq:Nat) (aj:List Int) (ar:Option Addr) (au:Nat) (ai:List S60) (r:ByteArray) (w:World) (av:Kd.C k58 w ak aa.length aa) (aw:aa.length≤al) (ax:Kd.C (Kd.int .i64) w am af.length af) (ay:af.length≤an) (az:Kd.C (Kd.int .i64) w ap aj.length aj) (aC:aj.length≤aq) (aA:Kd.C k60 w ar ai.length ai) (aD:ai.length≤au) (h:cert_Print.f ac ae aa ag ah af aj ai=some r) (hT:Tabs w) :
  Calls Tryz.prog 13 #[.agg #[.int .i64 ac,.int .i64 ae,.slice ak aa.length al,.int .i64 ag,.int .i64 ah,.slice am af.length an,.slice ap aj.length aq,.slice ar ai.length au]] w fun e w'=>e=.returned (.string r)∧Below w.heap.size w w':=by
 unfold cert_Print.f at h
 split at h
 ·rename_i h1
  obtain rfl:=Option.some.inj h
  have h1':=h1
  unfold crtOk at h1
  simp only [Bool.and_eq_true,decide_eq_true_eq] at h1
  obtain⟨hk,h5,h6,h7⟩:=h1
  have HM:cert_may.f ac ae aa ag ah af aj ai=some (mayV ac ae (aa.map tkOf) ag ah af aj (ai.map bdOf)):=by unfold cert_may.f;rw [if_pos h1']
  have HMay:∀ W,Below w.heap.size w W→Calls Tryz.prog 34 #[.agg #[.int .i64 ac,.int .i64 ae,.slice ak aa.length al,.int .i64 ag,.int .i64 ah,.slice am af.length an,.slice ap aj.length aq,.slice ar ai.length au]] W fun e w'=>e=.returned (.bool (mayV ac ae (aa.map tkOf) ag ah af aj (ai.map bdOf)))∧Below W.heap.size W w':=fun W hW=>
   cert_may.calls ac ae ak al aa ag ah am an af ap aq aj ar au ai _ W (Kd.C_below av hW) aw (Kd.C_below ax hW) ay (Kd.C_below az hW) aC (Kd.C_below aA hW) aD HM
  unfold certP
  cases hm:mayV ac ae (aa.map tkOf) ag ah af aj (ai.map bdOf) with
  |false=>
   rw [hm] at HMay
   exact certPrint_no ac ae ag ah ak _ al am _ an ap _ aq ar _ au w HMay
  |true=>
   rw [hm] at HMay
   rw [if_pos rfl]
   obtain⟨g0,⟨g5,g6,g7⟩,b5,b6,b7⟩:=mayV_small hm
   have aE:∀ x ∈ ai.map bdOf,i64B x.i=true∧i64B x.g=true∧i64B x.t=true∧i64B x.k=true:=fun x hx=>by
    have:=b7 x hx
    simp only [i64B_iff]
    omega
   have hprn:parse_Print.f ac ae aa=some (printT ac ae (aa.map tkOf)):=by
    unfold parse_Print.f
    rw [if_pos (show prnOk aa=true from hk),if_pos g0]
   have hps:(printT ac ae (aa.map tkOf)).size≤10000000:=by
    obtain⟨c0,c1,c2,c3⟩:=checkE_small g0
    have h1:=goT_size (aa.map tkOf) (headT ac ae)
    have h2:=headT_size ac ae c0 c1
    unfold printT
    omega
   obtain⟨kl,hkl⟩:=(long_is af h5)
   have:=certPrint_yes ac ae ag ah ak aa.length al am an af ap aq aj ar au (ai.map bdOf) w (polP ag) (modeP ah) (printT ac ae (aa.map tkOf)) (polP_size _) (modeP_size _) hps ⟨g5,fun x hx=>by have:=b5 x hx;omega⟩ ⟨g6,fun x hx=>by have:=b6 x hx;omega⟩ ⟨g7,fun x hx=>by
     have q:=aE x hx
     simp only [i64B_iff] at q
     have d0:=qav x.i q.1.1 q.1.2
     have d1:=qav x.g q.2.1.1 q.2.1.2
     have d2:=qav x.t q.2.2.1.1 q.2.2.1.2
     have d3:=qav x.k q.2.2.2.1 q.2.2.2.2
     have z:(⟨#[32]⟩:ByteArray).size=1:=rfl
     have z0:(⟨#[]⟩:ByteArray).size=0:=rfl
     unfold bdW
     simp only [ByteArray.size_append]
     omega⟩ (by rw [List.length_map];exact HMay)
    (fun W=>(cert_Policy.calls ag _ W (pol_is ag)).mono (fun e w' h=>⟨h.1,drawn_below h.2⟩))
    (fun W=>(cert_Mode.calls ah _ W (mode_is ah)).mono (fun e w' h=>⟨h.1,drawn_below h.2⟩))
    (fun W hW=>(cert_long.calls kl am an af af W (Kd.C_below ax hW) ay (hkl kl (Nat.le_refl _))).mono (fun e w' h=>by
     obtain⟨v,rfl,hR,hb⟩:=h
     obtain⟨A,c,rfl,hl,hC⟩:=Kd.R_reads hR
     exact⟨⟨A,c,rfl,nrow_of_C hC⟩,hb⟩))
    (fun x hx ρ W hρ hW=>by
     obtain⟨kw,hkw⟩:=words_is x (aE x hx)
     exact cert_words.calls kw (some ⟨ρ,0,none⟩) 4 [x.i,x.g,x.t,x.k] _ W (c_of_four hρ) (by simp) (hkw kw (Nat.le_refl _)) (Tabs.below hT hW))
    (fun W hW=>parse_Print.calls ac ae ak al aa _ W (Kd.C_below av hW) aw hprn (Tabs.below hT hW))
    (nrow_of_C az) (bdrow_of_C aA) hT.1.1.1 hT.1.1.2
   rw [List.length_map] at this
   exact this
 ·cases h
def ostinatolaw21_awake.f:Option (Bool):=(cert_Print.f 0 0 (([(⟨2,1,3,3,1,([]:List Int),([]:List Int)⟩:S58)]:List (S58))) 1 1 ([]:List Int) ([]:List Int) (([(⟨2,3,1,9⟩:S60)]:List (S60)))).bind fun aa=>(some (aa.toList == ([99,101,114,116,105,102,105,99,97,116,101,32,101,100,102,32,102,117,108,108,10,98,111,117,110,100,32,50,32,51,32,49,32,57,10,99,97,99,104,101,32,48,32,48,10,116,97,115,107,32,50,32,99,61,49,32,100,61,51,32,116,61,51,32,112,61,49,10]:List UInt8)))
theorem ostinatolaw21_awake.calls  (r:Bool) (w:World) (h:ostinatolaw21_awake.f=some r) (hT:Tabs w) :
  Calls Tryz.prog 6 #[] w fun e w'=>e=.returned (.bool r)∧Below w.heap.size w w':=by
 have bj:=Tryz.underlying58
 have bl:=Tryz.underlying37
 have bm:=Tryz.underlying40
 have bn:=Tryz.underlying60
 have bp:=Tryz.underlying43
 have HB:=qaa.mk (Below.refl w.heap.size w)
 have H:((cert_Print.f 0 0 (([(⟨2,1,3,3,1,([]:List Int),([]:List Int)⟩:S58)]:List (S58))) 1 1 ([]:List Int) ([]:List Int) (([(⟨2,3,1,9⟩:S60)]:List (S60)))).bind fun ag=>(some (ag.toList == ([99,101,114,116,105,102,105,99,97,116,101,32,101,100,102,32,102,117,108,108,10,98,111,117,110,100,32,50,32,51,32,49,32,57,10,99,97,99,104,101,32,48,32,48,10,116,97,115,107,32,50,32,99,61,49,32,100,61,51,32,116,61,51,32,112,61,49,10]:List UInt8))))=some r:=h
 clear h
 have HT:=qaa.mk hT
 clear hT
 obtain⟨ae,ah⟩:∃ y_:List (S58),y_=(([(⟨2,1,3,3,1,([]:List Int),([]:List Int)⟩:S58)]:List (S58))):=⟨_,rfl⟩
 replace H:((cert_Print.f 0 0 ae 1 1 ([]:List Int) ([]:List Int) (([(⟨2,3,1,9⟩:S60)]:List (S60)))).bind fun ag=>(some (ag.toList == ([99,101,114,116,105,102,105,99,97,116,101,32,101,100,102,32,102,117,108,108,10,98,111,117,110,100,32,50,32,51,32,49,32,57,10,99,97,99,104,101,32,48,32,48,10,116,97,115,107,32,50,32,99,61,49,32,100,61,51,32,116,61,51,32,112,61,49,10]:List UInt8))))=some r:=by first|(rw [ah];with_reducible exact H)|(have ap:=(Option.bind_some _ _).symm.trans H;rw [ah];with_reducible exact ap)|(have ap:=(Option.bind_some _ _).symm.trans H;with_reducible exact ap)|with_reducible exact H|(rw [ah];exact H)|exact H
 have al:=qaa.mk ah
 clear ah
 obtain⟨aj,ai⟩:∃ y_:List (S60),y_=(([(⟨2,3,1,9⟩:S60)]:List (S60))):=⟨_,rfl⟩
 replace H:((cert_Print.f 0 0 ae 1 1 ([]:List Int) ([]:List Int) aj).bind fun ag=>(some (ag.toList == ([99,101,114,116,105,102,105,99,97,116,101,32,101,100,102,32,102,117,108,108,10,98,111,117,110,100,32,50,32,51,32,49,32,57,10,99,97,99,104,101,32,48,32,48,10,116,97,115,107,32,50,32,99,61,49,32,100,61,51,32,116,61,51,32,112,61,49,10]:List UInt8))))=some r:=by first|(rw [ai];with_reducible exact H)|(have ap:=(Option.bind_some _ _).symm.trans H;rw [ai];with_reducible exact ap)|(have ap:=(Option.bind_some _ _).symm.trans H;with_reducible exact ap)|with_reducible exact H|(rw [ai];exact H)|exact H
 have am:=qaa.mk ai
 clear ai
 replace H:=Option.bind_eq_some_iff.mp H
 obtain⟨ag,bf,H⟩:=H
 replace H:(some (ag.toList == ([99,101,114,116,105,102,105,99,97,116,101,32,101,100,102,32,102,117,108,108,10,98,111,117,110,100,32,50,32,51,32,49,32,57,10,99,97,99,104,101,32,48,32,48,10,116,97,115,107,32,50,32,99,61,49,32,100,61,51,32,116,61,51,32,112,61,49,10]:List UInt8)))=some r:=H
 have A1:=qaa.mk bf
 clear bf
 obtain rfl:=Option.some.inj H
 go_enter Tryz.func6,Tryz.ntmps6
 go_wp2_with (first|((with_reducible refine qaq (N:=3) rfl ?_);refine Kd.S_lit k58 _ 58 ?hg (N:=3) ?hd (xs:=([(⟨2,1,3,3,1,([]:List Int),([]:List Int)⟩:S58)]:List (S58))) (inner:=[.int .i64 2,.int .i64 1,.int .i64 3,.int .i64 3,.int .i64 1,.slice none 0 0,.slice none 0 0]) (ok:=fun _=>True) (okp:=fun _=>True) ?hr ?hp (fun _ hk=>hk) trivial (Below.refl _ _) (Nat.le_refl _) (by simp) ?_;(case hd=>rfl);(case hg=>rfl);(case hr=>first|(go_simp;done)|(go_simp;rfl));(case hp=>exact (Reps.c7 (show Kd.M k58 _ _ _ (⟨2,1,3,3,1,([]:List Int),([]:List Int)⟩:S58) [.int .i64 2,.int .i64 1,.int .i64 3,.int .i64 3,.int .i64 1,.slice none 0 0,.slice none 0 0] from (k58_mkM _ _ _ (⟨2,1,3,3,1,([]:List Int),([]:List Int)⟩:S58) (Kd.R_nil _ _ _ _ _) (Kd.R_nil _ _ _ _ _))) (Reps.none _ _)));intro bt w2 ar hb hg_ hnew_;clear hg_ hnew_;(first|rw [← al.out] at ar|(simp only [Int.reduceToNat] at ar;rw [← al.out] at ar));have aa:=qaa.mk (Kd.S_lower ar (qac sB));replace HB:=qaa.mk (qai sB hb);clear hb ar;obtain⟨aq,an,bx⟩:=Kd.S_slice aa.out;subst bx)|((with_reducible refine qaq (N:=7) rfl ?_);refine Kd.R_lit k60 _ 60 ?hg (N:=7) ?hd (xs:=([(⟨2,3,1,9⟩:S60)]:List (S60))) (inner:=[.int .i64 2,.int .i64 3,.int .i64 1,.int .i64 9]) (ok:=fun _=>True) (okp:=fun _=>True) ?hr ?hp (fun _ hk=>hk) trivial (Below.refl _ _) (Nat.le_refl _) (by simp) ?_;(case hd=>rfl);(case hg=>rfl);(case hr=>first|(go_simp;done)|(go_simp;rfl));(case hp=>exact (Reps.c4 (show Kd.M k60 _ _ _ (⟨2,3,1,9⟩:S60) [.int .i64 2,.int .i64 3,.int .i64 1,.int .i64 9] from (k60_mkM _ _ _ (⟨2,3,1,9⟩:S60) )) (Reps.none _ _)));intro bz w5 au hb hg_ hnew_;clear hg_ hnew_;(first|rw [← am.out] at au|(simp only [Int.reduceToNat] at au;rw [← am.out] at au));replace aa:=qaa.mk (Kd.S_below (by (with_reducible repeat (first|apply Kd.S_alloc|apply Kd.S_drewN|apply Kd.S_drew));exact aa.out) hb);have af:=qaa.mk (Kd.R_lower au (qac sB));replace HB:=qaa.mk (qai sB hb);clear hb au;obtain⟨bg,aG,bB⟩:=Kd.R_slice af.out;subst bB)|((with_reducible refine qaq (N:=1) rfl ?_);refine qap ?hg (N:=1) ?hd (cs:=#[.int .i64 0,.int .i64 0,.slice none 0 0,.int .i64 0,.int .i64 0,.slice none 0 0,.slice none 0 0,.slice none 0 0]) (t:=43) ?hr ?_;(case hd=>rfl);(case hg=>rfl);(case hr=>first|(go_simp;done)|(go_simp;rfl));intro ak hg w8 hbox hb;replace aa:=qaa.mk (Kd.S_below (by (with_reducible repeat (first|apply Kd.S_alloc|apply Kd.S_drewN|apply Kd.S_drew));exact aa.out) hb);replace af:=qaa.mk (Kd.R_below (sR af.out) hb);have ac:=qaa.mk (hbox);have bh:=qaa.mk ((by rw [hg];exact (qac sB):w.heap.size≤ak));have av:=qaa.mk ((by rw [hg];exact (qac sB):w.heap.size≤ak));replace HB:=qaa.mk (qai sB hb);clear hb hbox hg;obtain⟨aH,aI,aJ,aK,aM,aN,aQ,aR⟩:=sC8 (w:=w8) ac.out;obtain⟨aT,aU,aV,aW,aY,aZ,a8,ba⟩:=sF8 ac.out)|((with_reducible refine qax (f:=13) rfl ?_);refine goesL_ (some 10) rfl rfl Tryz.func13 (by kernel_rfl) rfl #[.agg #[.int .i64 0,.int .i64 0,.slice aq ae.length an,.int .i64 1,.int .i64 1,.slice none 0 0,.slice none 0 0,.slice bg aj.length aG]] rfl (by (try simp only [List.map_toArray,List.map_cons,List.map_nil]);first|done|rfl|(simp only [List.length_drop,List.length_take];rfl)) ?_;(refine (cert_Print.calls 0 0 _ _ ae 1 1 _ _ ([]:List Int) _ _ ([]:List Int) _ _ aj ag _ ?aw ?ax ?ay ?az ?aA ?aC ?aD ?aE A1.out (Tabs.below HT.out sB)).mono ?_);(case aw=>refine (Kd.S_reads' (e:=58) (base:=w.heap.size) (ok:=fun k_=>True) (n:=ae.length) (c:=an) ?_).2.2;exact (by (with_reducible repeat (first|apply Kd.S_alloc|apply Kd.S_drewN|apply Kd.S_drew));exact (fat8S aa.out ac.out)));(case ax=>exact (Kd.S_reads' aa.out).2.1);(case ay=>exact Kd.C_nil _ _);(case az=>exact Nat.le_refl _);(case aA=>exact Kd.C_nil _ _);(case aC=>exact Nat.le_refl _);(case aD=>refine (Kd.R_reads' (e:=60) (base:=w.heap.size) (ok:=fun k_=>True) (n:=aj.length) (c:=aG) ?_).2.2;exact (by refine sRm ?_;exact (fat8R af.out ac.out)));(case aE=>exact (Kd.R_reads' af.out).2.1);rintro e bC ⟨rfl,hb⟩;refine⟨_,rfl,?_⟩;replace aa:=qaa.mk (Kd.S_below (by (with_reducible repeat (first|apply Kd.S_alloc|apply Kd.S_drewN|apply Kd.S_drew));exact (fat8S aa.out ac.out)) hb);replace af:=qaa.mk (Kd.R_below (by refine sRm ?_;exact (fat8R af.out ac.out)) hb);replace ac:=qaa.mk (blk_below (g:=ak) (o:=.cells #[.int .i64 0,.int .i64 0,.slice aq ae.length an,.int .i64 1,.int .i64 1,.slice none 0 0,.slice none 0 0,.slice bg aj.length aG] 43 (0,0)) (by refine sM ?_;refine qaB (cs:=#[.int .i64 0,.int .i64 0,.slice aq ae.length an,.int .i64 1,.int .i64 1,.slice none 0 0,.slice none 0 0,.slice none 0 0]) ?_ 7 _ rfl;refine sM ?_;refine qaB (cs:=#[.int .i64 0,.int .i64 0,.slice aq ae.length an,.int .i64 1,.int .i64 1,.slice none 0 0,.slice none 0 0,.slice none 0 0]) ?_ 6 _ rfl;refine sM ?_;refine qaB (cs:=#[.int .i64 0,.int .i64 0,.slice aq ae.length an,.int .i64 1,.int .i64 1,.slice none 0 0,.slice none 0 0,.slice none 0 0]) ?_ 5 _ rfl;refine sM ?_;refine qaB (cs:=#[.int .i64 0,.int .i64 0,.slice aq ae.length an,.int .i64 1,.int .i64 0,.slice none 0 0,.slice none 0 0,.slice none 0 0]) ?_ 4 _ rfl;refine sM ?_;refine qaB (cs:=#[.int .i64 0,.int .i64 0,.slice aq ae.length an,.int .i64 0,.int .i64 0,.slice none 0 0,.slice none 0 0,.slice none 0 0]) ?_ 3 _ rfl;refine sM ?_;refine qaB (cs:=#[.int .i64 0,.int .i64 0,.slice none 0 0,.int .i64 0,.int .i64 0,.slice none 0 0,.slice none 0 0,.slice none 0 0]) ?_ 2 _ rfl;refine sM ?_;refine qaB (cs:=#[.int .i64 0,.int .i64 0,.slice none 0 0,.int .i64 0,.int .i64 0,.slice none 0 0,.slice none 0 0,.slice none 0 0]) ?_ 1 _ rfl;refine sM ?_;refine qaB (cs:=#[.int .i64 0,.int .i64 0,.slice none 0 0,.int .i64 0,.int .i64 0,.slice none 0 0,.slice none 0 0,.slice none 0 0]) ?_ 0 _ rfl;refine sM ?_;exact ac.out) hb);replace HB:=qaa.mk (qai sB hb);(try clear hb);(try clear bD);(try clear hk);(try clear hi)))
 go_ret
 exact⟨by first|rfl|(simp [qak,qaj]<;>rfl)|(simp [bneNil,bneNilU]<;>rfl)|(simp [*,qak,qaj]<;>rfl),by repeat (first|(with_reducible first|exact HB.out|apply qag|apply qab|apply qaf|refine qah ?_ av.out)|exact HB.out)⟩
def ostinatolaw21_short.f (a0:ByteArray) (a1:Int):Option (ByteArray):=if (a0.size:Int) > a1 then (if 0≤a1 then (if a1≤(a0.size:Int) then (some (a0.extract 0 (a1:Int).toNat)) else (none)) else (none)) else (some a0)
theorem ostinatolaw21_short.calls (a0:ByteArray) (a1:Int) (r:ByteArray) (w:World) (h:ostinatolaw21_short.f a0 a1=some r) :
  Calls Tryz.prog 7 #[.string a0,.int .i64 a1] w fun e w'=>e=.returned (.string r)∧qar w w':=by
 have H:(if (a0.size:Int) > a1 then (if 0≤a1 then (if a1≤(a0.size:Int) then (some (a0.extract 0 (a1:Int).toNat)) else (none)) else (none)) else (some a0))=some r:=h
 clear h
 by_cases c3:(a0.size:Int) > a1
 ·rw [if_pos c3] at H
  have aa:decide (a1<(a0.size:Int))=true:=decide_eq_true c3
  clear c3
  by_cases c4:0≤a1
  ·rw [if_pos c4] at H
   have ac:=eq_true c4
   have ae:decide (0≤a1)=true:=decide_eq_true c4
   clear c4
   by_cases c5:a1≤(a0.size:Int)
   ·rw [if_pos c5] at H
    have af:=eq_true c5
    have ag:decide (a1≤(a0.size:Int))=true:=decide_eq_true c5
    clear c5
    obtain rfl:=Option.some.inj H
    go_enter Tryz.func7,Tryz.ntmps7
    go_wp2
    go_ret
    exact⟨by first|rfl|(simp;done)|(simp [*];done),by repeat (first|exact qar.refl _|apply qar.step)⟩
   ·rw [if_neg c5] at H
    exact absurd H (by simp)
  ·rw [if_neg c4] at H
   exact absurd H (by simp)
 ·rw [if_neg c3] at H
  have aa:decide (a1<(a0.size:Int))=false:=decide_eq_false c3
  clear c3
  obtain rfl:=Option.some.inj H
  go_enter Tryz.func7,Tryz.ntmps7
  go_wp2
  go_ret
  exact⟨by first|rfl|(simp;done)|(simp [*];done),by repeat (first|exact qar.refl _|apply qar.step)⟩
theorem S_tk {w:World} {base:Nat} {ok:Nat→Prop} {v:Value} {L:List Tk} (h:Kd.S kTk 58 w base ok v L):Kd.S k58 58 w base ok v (L.map tkTo):=by
 obtain⟨f,h0,inner,ho,hr⟩:=h
 refine⟨f,h0,inner,by rw [List.length_zipIdx,List.length_map];rw [List.length_zipIdx] at ho;exact ho,?_,fun j p hj=>?_⟩
 ·have:=hr.1
  rw [List.length_zipIdx] at this ⊢
  rw [List.length_map]
  exact this
 ·rw [List.getElem?_zipIdx,List.getElem?_map] at hj
  cases hx:L[j]? with
  |none=>rw [hx] at hj;cases hj
  |some x=>
   rw [hx] at hj
   obtain rfl:=Option.some.inj hj
   have:=hr.2 j (x,0+j) (by rw [List.getElem?_zipIdx,hx];rfl)
   exact this
theorem flat4_at:∀ (bs:List Bd) (j:Nat) (x:Bd),bs[j]? = some x→((bs.flatMap bdCells).drop (j * 4)).take 4=bdCells x:=by
 intro bs
 induction bs with
 |nil=>intro j x h;cases h
 |cons y bs ih=>
  intro j x h
  cases j with
  |zero=>
   obtain rfl:=Option.some.inj h
   rfl
  |succ j=>
   have:=ih j x h
   rw [List.flatMap_cons,show (j+1) * 4=4+j * 4 by omega,← List.drop_drop]
   exact this
theorem flat4_len:∀ (bs:List Bd),(bs.flatMap bdCells).length=bs.length * 4:=by
 intro bs
 induction bs with
 |nil=>rfl
 |cons y bs ih=>rw [List.flatMap_cons,List.length_append,ih,List.length_cons];show 4+_=_;omega
theorem R_bdrow {w:World} {base:Nat} {ok:Nat→Prop} {bv:Value} {bs:List Bd} (h:w.ownsRow base 60 4 bv bs.length (bs.flatMap bdCells)) (hok:∀ k,bv.ownBlock=some k→ok k):Kd.R k60 60 w base ok bv (bs.map bdTo):=by
 refine⟨hok,bs.flatMap bdCells,by rw [List.length_map];exact h,by rw [List.length_map];exact flat4_len bs,fun j p hj=>?_⟩
 rw [List.getElem?_map] at hj
 cases hx:bs[j]? with
 |none=>rw [hx] at hj;cases hj
 |some x=>
  rw [hx] at hj
  obtain rfl:=Option.some.inj hj
  have e:=flat4_at bs j x hx
  show k60.M w base _ (bdTo x) (((bs.flatMap bdCells).drop (j * 4)).take 4)
  rw [e]
  exact k60_mkM w base _ (bdTo x)
theorem R_ints {w:World} {base e:Nat} {ok:Nat→Prop} {v:Value} {l:List Int} (h:w.ownsRow base e 1 v l.length (l.map (Value.int .i64))) (hok:∀ k,v.ownBlock=some k→ok k):Kd.R (Kd.int .i64) e w base ok v l:=by
 refine⟨hok,l.map (Value.int .i64),h,by show (l.map (Value.int .i64)).length=l.length * 1;rw [List.length_map,Nat.mul_one],fun j p hj=>?_⟩
 show ((l.map (Value.int .i64)).drop (j * 1)).take 1=[Value.int .i64 p]
 have hl:=(List.getElem?_eq_some_iff.1 hj)
 obtain⟨h1,h2⟩:=hl
 rw [Nat.mul_one,List.drop_eq_getElem_cons (by rw [List.length_map];exact h1)]
 simp [h2]
noncomputable def cert_Parse.f (a0:ByteArray):Option (Int × Int × List S58 × Int × Int × List Int × List Int × List S60 × Int × Int):=
 if a0.size≤65536 then some ((parseC polP modeP a0).s,(parseC polP modeP a0).r,(parseC polP modeP a0).L.map tkTo,(parseC polP modeP a0).p,(parseC polP modeP a0).m,(parseC polP modeP a0).th,(parseC polP modeP a0).q,(parseC polP modeP a0).bs.map bdTo,(parseC polP modeP a0).z,(parseC polP modeP a0).e) else none
theorem cert_Parse.calls (a0:ByteArray) (r1 r2:Int) (r3:List S58) (r4 r5:Int) (r6 r7:List Int) (r8:List S60) (r9 ae:Int) (w:World) (h:cert_Parse.f a0=some (r1,r2,r3,r4,r5,r6,r7,r8,r9,ae)) (hT:Tabs w) :
  Calls Tryz.prog 10 #[.string a0] w fun e w'=>∃ af aa ac ag:Value,e=.returned (.tuple #[.agg #[.int .i64 r1,.int .i64 r2,af,.int .i64 r4,.int .i64 r5,aa,ac,ag],.int .i64 r9,.int .i64 ae])∧Kd.S k58 58 w' w.heap.size (fun k_=>some k_≠(aa:Value).ownBlock∧some k_≠(ac:Value).ownBlock) af r3∧Kd.R (Kd.int .i64) 3 w' w.heap.size (fun _=>True) aa r6∧Kd.R (Kd.int .i64) 2 w' w.heap.size (fun _=>True) ac r7∧Kd.R k60 60 w' w.heap.size (fun _=>True) ag r8∧Below w.heap.size w w':=by
 unfold cert_Parse.f at h
 by_cases h1:a0.size≤65536
 ·rw [if_pos h1] at h
  have h:=Option.some.inj h
  obtain⟨m,hm⟩:=hT.1.2
  injection h with e1 h
  injection h with e2 h
  injection h with e3 h
  injection h with e4 h
  injection h with e5 h
  injection h with e6 h
  injection h with e7 h
  injection h with e8 h
  injection h with e9 ah
  subst e1 e2 e3 e4 e5 e6 e7 e8 e9 ah
  refine (certParse_any polP modeP a0 h1 m w hm
   (fun s W=>numberPolicy_any polP s 2 (by omega) W (fun n W=>(cert_Policy.calls n _ W (pol_is n)).mono (fun e w' h=>⟨h.1,drawn_below h.2⟩)))
   (fun s W=>numberMode_any modeP s 4 (by omega) W (fun n W=>(cert_Mode.calls n _ W (mode_is n)).mono (fun e w' h=>⟨h.1,drawn_below h.2⟩)))).mono ?_
  rintro e w' ⟨⟨B,tv,thv,qv,bv,hB,rfl,h2,h5,h5b,h6,h7,_⟩,hb⟩
  refine⟨tv,thv,qv,bv,rfl,?_,R_ints h5 (fun _ _=>trivial),Kd.R_mono h6 (fun _ _=>trivial),R_bdrow h7 (fun _ _=>trivial),hb⟩
  have h6b:∀ k,qv.ownBlock=some k→k<B:=h6.1
  refine S_tk (Kd.S_lower (Kd.S_mono (Kd.S_bound h2) (fun k hk=>⟨fun e=>?_,fun e=>?_⟩)) hB)
  ·have:=h5b k e.symm;have:=hk.2.1;omega
  ·have:=h6b k e.symm;have:=hk.2.1;omega
 ·rw [if_neg h1] at h;cases h
def slices_Equal_int_int.l0:Nat→List Int→List Int→Int→Int→Option (Bool)
 |0,_,_,_,_=>none
 |k+1,x0,x1,ac,aa=>if aa<ac then (if 0≤aa then (if aa<(x0.length:Int) then (if aa<(x1.length:Int) then (if (rd x0 aa)=(rd x1 aa) then (slices_Equal_int_int.l0 k x0 x1 ac (wrap64 (aa+1))) else (some false)) else (none)) else (none)) else (none)) else (some true)
def slices_Equal_int_int.f (k:Nat) (l0:List Int) (l1:List Int):Option (Bool):=if (l0.length:Int)=(l1.length:Int) then (slices_Equal_int_int.l0 k l0 l1 (l0.length:Int) 0) else (some false)
theorem slices_Equal_int_int.calls (k:Nat) (A0:Option Addr) (c0:Nat) (l0:List Int) (A1:Option Addr) (c1:Nat) (l1:List Int) (r:Bool) (w:World) (aw:Kd.C (Kd.int .i64) w A0 l0.length l0) (ax:l0.length≤c0) (ay:Kd.C (Kd.int .i64) w A1 l1.length l1) (az:l1.length≤c1) (h:slices_Equal_int_int.f k l0 l1=some r) :
  Calls Tryz.prog 45 #[.slice A0 l0.length c0,.slice A1 l1.length c1] w fun e w'=>e=.returned (.bool r)∧qar w w':=by
 have aA:=qaa.mk aw
 have aJ:=qaa.mk ax
 clear aw ax
 have aC:=qaa.mk ay
 have aK:=qaa.mk az
 clear ay az
 have H:(if (l0.length:Int)=(l1.length:Int) then (slices_Equal_int_int.l0 k l0 l1 (l0.length:Int) 0) else (some false))=some r:=h
 clear h
 by_cases c3:(l0.length:Int)=(l1.length:Int)
 ·rw [if_pos c3] at H
  have al:((l0.length:Int) == (l1.length:Int))=true:=beq_iff_eq.mpr c3
  have am:((l0.length:Int) != (l1.length:Int))=false:=bne_eq_false_iff_eq.mpr c3
  have an:(l0.length == l1.length)=true:=by first|simpa using c3|(simp at c3 ⊢;omega)
  clear c3
  have H':=qaa.mk H
  clear H
  go_enter Tryz.func45,Tryz.ntmps45
  go_wp2
  repeat (go_quiet (fail);try go_wp2)
  go_loopg [13] k (fun kq aE w'=>∃ (aa:Int),aE=.int .i64 aa∧qaa (slices_Equal_int_int.l0 kq l0 l1 (l0.length:Int) aa=some r)∧qaa (kq≤k)∧qar w w')
  case atStart=>exact⟨(0),(by first|rfl|(simp;done)|(simp [*];done)),H',⟨Nat.le_refl _⟩,by repeat (first|exact qar.refl _|apply qar.step)⟩
  case round=>
   clear H'
   try clear c1
   try clear p2
   try clear c3
   try clear al
   try clear am
   try clear an
   obtain⟨aa,rfl,HA,aD,⟨m1,rfl⟩⟩:=hrel
   cases gk with
   |zero=>exact absurd HA.out (by simp [slices_Equal_int_int.l0])
   |succ k1=>
    have H:=HA.out
    clear HA
    simp only [slices_Equal_int_int.l0] at H
    by_cases c4:aa<(l0.length:Int)
    ·rw [if_pos c4] at H
     have ar:decide (aa<(l0.length:Int))=true:=decide_eq_true c4
     clear c4
     by_cases c5:0≤aa
     ·rw [if_pos c5] at H
      have aG:decide (0≤aa)=true:=decide_eq_true c5
      clear c5
      by_cases c6:aa<(l0.length:Int)
      ·rw [if_pos c6] at H
       have aH:decide (aa<(l0.length:Int))=true:=decide_eq_true c6
       clear c6
       by_cases c7:aa<(l1.length:Int)
       ·rw [if_pos c7] at H
        have aI:decide (aa<(l1.length:Int))=true:=decide_eq_true c7
        clear c7
        by_cases c8:(rd l0 aa)=(rd l1 aa)
        ·rw [if_pos c8] at H
         have au:((rd l0 aa) == (rd l1 aa))=true:=beq_iff_eq.mpr c8
         have av:((rd l0 aa) != (rd l1 aa))=false:=bne_eq_false_iff_eq.mpr c8
         clear c8
         have H':=qaa.mk H
         clear H
         have ac:0≤(aa:Int):=of_decide_eq_true sA
         have ae:aa<(l0.length:Int):=of_decide_eq_true sA
         obtain⟨ap,aj,ah⟩:=Kd.at_int aA.out aa ac ae
         cases aj
         replace ac:=eq_true ac
         replace ae:=eq_true ae
         have af:0≤(aa:Int):=of_decide_eq_true sA
         have ag:aa<(l1.length:Int):=of_decide_eq_true sA
         obtain⟨aq,ak,ai⟩:=Kd.at_int aC.out aa af ag
         cases ak
         replace af:=eq_true af
         replace ag:=eq_true ag
         go_wp2
         repeat (go_quiet (fail);try go_wp2)
         go_roundg k1
         case measure=>have:=aD.out;omega
         case rel=>exact⟨(wrap64 (aa+1)),(by first|rfl|(simp;done)|(simp [*];done)),H',⟨by have:=aD.out;omega⟩,by repeat (first|exact qar.refl _|apply qar.step)⟩
        ·rw [if_neg c8] at H
         have au:((rd l0 aa) == (rd l1 aa))=false:=beq_eq_false_iff_ne.mpr c8
         have av:((rd l0 aa) != (rd l1 aa))=true:=bne_iff_ne.mpr c8
         obtain rfl:=Option.some.inj H
         have ac:0≤(aa:Int):=of_decide_eq_true sA
         have ae:aa<(l0.length:Int):=of_decide_eq_true sA
         obtain⟨ap,aj,ah⟩:=Kd.at_int aA.out aa ac ae
         cases aj
         replace ac:=eq_true ac
         replace ae:=eq_true ae
         have af:0≤(aa:Int):=of_decide_eq_true sA
         have ag:aa<(l1.length:Int):=of_decide_eq_true sA
         obtain⟨aq,ak,ai⟩:=Kd.at_int aC.out aa af ag
         cases ak
         replace af:=eq_true af
         replace ag:=eq_true ag
         go_wp2
         repeat (go_quiet (fail);try go_wp2)
         go_ret
         exact⟨by first|rfl|(simp;done)|(simp [*];done),by repeat (first|exact qar.refl _|apply qar.step)⟩
       ·rw [if_neg c7] at H
        exact absurd H (by simp)
      ·rw [if_neg c6] at H
       exact absurd H (by simp)
     ·rw [if_neg c5] at H
      exact absurd H (by simp)
    ·rw [if_neg c4] at H
     have ar:decide (aa<(l0.length:Int))=false:=decide_eq_false c4
     clear c4
     obtain rfl:=Option.some.inj H
     go_wp2
     repeat (go_quiet (fail);try go_wp2)
     go_ret
     exact⟨by first|rfl|(simp;done)|(simp [*];done),by repeat (first|exact qar.refl _|apply qar.step)⟩
 ·rw [if_neg c3] at H
  have al:((l0.length:Int) == (l1.length:Int))=false:=beq_eq_false_iff_ne.mpr c3
  have am:((l0.length:Int) != (l1.length:Int))=true:=bne_iff_ne.mpr c3
  have an:(l0.length == l1.length)=false:=by first|simpa using c3|(simp at c3 ⊢;omega)
  obtain rfl:=Option.some.inj H
  go_enter Tryz.func45,Tryz.ntmps45
  go_wp2
  repeat (go_quiet (fail);try go_wp2)
  go_ret
  exact⟨by first|rfl|(simp;done)|(simp [*];done),by repeat (first|exact qar.refl _|apply qar.step)⟩
def slices_Equal_int64_int64.l0:Nat→List Int→List Int→Int→Int→Option (Bool)
 |0,_,_,_,_=>none
 |k+1,x0,x1,ac,aa=>if aa<ac then (if 0≤aa then (if aa<(x0.length:Int) then (if aa<(x1.length:Int) then (if (rd x0 aa)=(rd x1 aa) then (slices_Equal_int64_int64.l0 k x0 x1 ac (wrap64 (aa+1))) else (some false)) else (none)) else (none)) else (none)) else (some true)
def slices_Equal_int64_int64.f (k:Nat) (l0:List Int) (l1:List Int):Option (Bool):=if (l0.length:Int)=(l1.length:Int) then (slices_Equal_int64_int64.l0 k l0 l1 (l0.length:Int) 0) else (some false)
theorem slices_Equal_int64_int64.calls (k:Nat) (A0:Option Addr) (c0:Nat) (l0:List Int) (A1:Option Addr) (c1:Nat) (l1:List Int) (r:Bool) (w:World) (aw:Kd.C (Kd.int .i64) w A0 l0.length l0) (ax:l0.length≤c0) (ay:Kd.C (Kd.int .i64) w A1 l1.length l1) (az:l1.length≤c1) (h:slices_Equal_int64_int64.f k l0 l1=some r) :
  Calls Tryz.prog 46 #[.slice A0 l0.length c0,.slice A1 l1.length c1] w fun e w'=>e=.returned (.bool r)∧qar w w':=by
 have aA:=qaa.mk aw
 have aJ:=qaa.mk ax
 clear aw ax
 have aC:=qaa.mk ay
 have aK:=qaa.mk az
 clear ay az
 have H:(if (l0.length:Int)=(l1.length:Int) then (slices_Equal_int64_int64.l0 k l0 l1 (l0.length:Int) 0) else (some false))=some r:=h
 clear h
 by_cases c3:(l0.length:Int)=(l1.length:Int)
 ·rw [if_pos c3] at H
  have al:((l0.length:Int) == (l1.length:Int))=true:=beq_iff_eq.mpr c3
  have am:((l0.length:Int) != (l1.length:Int))=false:=bne_eq_false_iff_eq.mpr c3
  have an:(l0.length == l1.length)=true:=by first|simpa using c3|(simp at c3 ⊢;omega)
  clear c3
  have H':=qaa.mk H
  clear H
  go_enter Tryz.func46,Tryz.ntmps46
  go_wp2
  repeat (go_quiet (fail);try go_wp2)
  go_loopg [13] k (fun kq aE w'=>∃ (aa:Int),aE=.int .i64 aa∧qaa (slices_Equal_int64_int64.l0 kq l0 l1 (l0.length:Int) aa=some r)∧qaa (kq≤k)∧qar w w')
  case atStart=>exact⟨(0),(by first|rfl|(simp;done)|(simp [*];done)),H',⟨Nat.le_refl _⟩,by repeat (first|exact qar.refl _|apply qar.step)⟩
  case round=>
   clear H'
   try clear c1
   try clear p2
   try clear c3
   try clear al
   try clear am
   try clear an
   obtain⟨aa,rfl,HA,aD,⟨m1,rfl⟩⟩:=hrel
   cases gk with
   |zero=>exact absurd HA.out (by simp [slices_Equal_int64_int64.l0])
   |succ k1=>
    have H:=HA.out
    clear HA
    simp only [slices_Equal_int64_int64.l0] at H
    by_cases c4:aa<(l0.length:Int)
    ·rw [if_pos c4] at H
     have ar:decide (aa<(l0.length:Int))=true:=decide_eq_true c4
     clear c4
     by_cases c5:0≤aa
     ·rw [if_pos c5] at H
      have aG:decide (0≤aa)=true:=decide_eq_true c5
      clear c5
      by_cases c6:aa<(l0.length:Int)
      ·rw [if_pos c6] at H
       have aH:decide (aa<(l0.length:Int))=true:=decide_eq_true c6
       clear c6
       by_cases c7:aa<(l1.length:Int)
       ·rw [if_pos c7] at H
        have aI:decide (aa<(l1.length:Int))=true:=decide_eq_true c7
        clear c7
        by_cases c8:(rd l0 aa)=(rd l1 aa)
        ·rw [if_pos c8] at H
         have au:((rd l0 aa) == (rd l1 aa))=true:=beq_iff_eq.mpr c8
         have av:((rd l0 aa) != (rd l1 aa))=false:=bne_eq_false_iff_eq.mpr c8
         clear c8
         have H':=qaa.mk H
         clear H
         have ac:0≤(aa:Int):=of_decide_eq_true sA
         have ae:aa<(l0.length:Int):=of_decide_eq_true sA
         obtain⟨ap,aj,ah⟩:=Kd.at_int aA.out aa ac ae
         cases aj
         replace ac:=eq_true ac
         replace ae:=eq_true ae
         have af:0≤(aa:Int):=of_decide_eq_true sA
         have ag:aa<(l1.length:Int):=of_decide_eq_true sA
         obtain⟨aq,ak,ai⟩:=Kd.at_int aC.out aa af ag
         cases ak
         replace af:=eq_true af
         replace ag:=eq_true ag
         go_wp2
         repeat (go_quiet (fail);try go_wp2)
         go_roundg k1
         case measure=>have:=aD.out;omega
         case rel=>exact⟨(wrap64 (aa+1)),(by first|rfl|(simp;done)|(simp [*];done)),H',⟨by have:=aD.out;omega⟩,by repeat (first|exact qar.refl _|apply qar.step)⟩
        ·rw [if_neg c8] at H
         have au:((rd l0 aa) == (rd l1 aa))=false:=beq_eq_false_iff_ne.mpr c8
         have av:((rd l0 aa) != (rd l1 aa))=true:=bne_iff_ne.mpr c8
         obtain rfl:=Option.some.inj H
         have ac:0≤(aa:Int):=of_decide_eq_true sA
         have ae:aa<(l0.length:Int):=of_decide_eq_true sA
         obtain⟨ap,aj,ah⟩:=Kd.at_int aA.out aa ac ae
         cases aj
         replace ac:=eq_true ac
         replace ae:=eq_true ae
         have af:0≤(aa:Int):=of_decide_eq_true sA
         have ag:aa<(l1.length:Int):=of_decide_eq_true sA
         obtain⟨aq,ak,ai⟩:=Kd.at_int aC.out aa af ag
         cases ak
         replace af:=eq_true af
         replace ag:=eq_true ag
         go_wp2
         repeat (go_quiet (fail);try go_wp2)
         go_ret
         exact⟨by first|rfl|(simp;done)|(simp [*];done),by repeat (first|exact qar.refl _|apply qar.step)⟩
       ·rw [if_neg c7] at H
        exact absurd H (by simp)
      ·rw [if_neg c6] at H
       exact absurd H (by simp)
     ·rw [if_neg c5] at H
      exact absurd H (by simp)
    ·rw [if_neg c4] at H
     have ar:decide (aa<(l0.length:Int))=false:=decide_eq_false c4
     clear c4
     obtain rfl:=Option.some.inj H
     go_wp2
     repeat (go_quiet (fail);try go_wp2)
     go_ret
     exact⟨by first|rfl|(simp;done)|(simp [*];done),by repeat (first|exact qar.refl _|apply qar.step)⟩
 ·rw [if_neg c3] at H
  have al:((l0.length:Int) == (l1.length:Int))=false:=beq_eq_false_iff_ne.mpr c3
  have am:((l0.length:Int) != (l1.length:Int))=true:=bne_iff_ne.mpr c3
  have an:(l0.length == l1.length)=false:=by first|simpa using c3|(simp at c3 ⊢;omega)
  obtain rfl:=Option.some.inj H
  go_enter Tryz.func46,Tryz.ntmps46
  go_wp2
  repeat (go_quiet (fail);try go_wp2)
  go_ret
  exact⟨by first|rfl|(simp;done)|(simp [*];done),by repeat (first|exact qar.refl _|apply qar.step)⟩
def tasks_SameTask.f (k:Nat) (aa:Int) (ac:Int) (ae:Int) (af:Int) (ag:Int) (ah:List Int) (ai:List Int) (aj:Int) (ak:Int) (al:Int) (am:Int) (an:Int) (ap:List Int) (aq:List Int):Option (Bool):=if aa=aj then (if ac=ak then (if ae=al then (if af=am then (if ag=an then ((slices_Equal_int64_int64.f k ah ap).bind fun ar=>(if ar=true then ((slices_Equal_int_int.f k ai aq).bind fun au=>(some au)) else (some false))) else (some false)) else (some false)) else (some false)) else (some false)) else (some false)
theorem tasks_SameTask.calls (k:Nat) (am:Int) (an:Int) (ap:Int) (aq:Int) (ar:Int) (aE:Option Addr) (aG:Nat) (au:List Int) (aH:Option Addr) (aI:Nat) (ak:List Int) (av:Int) (aw:Int) (ax:Int) (ay:Int) (az:Int) (aJ:Option Addr) (aK:Nat) (aA:List Int) (aM:Option Addr) (aN:Nat) (al:List Int) (r:Bool) (w:World) (aY:Kd.C (Kd.int .i64) w aE au.length au) (aZ:au.length≤aG) (a8:Kd.C (Kd.int .i64) w aH ak.length ak) (ba:ak.length≤aI) (bf:Kd.C (Kd.int .i64) w aJ aA.length aA) (bg:aA.length≤aK) (bh:Kd.C (Kd.int .i64) w aM al.length al) (bj:al.length≤aN) (h:tasks_SameTask.f k am an ap aq ar au ak av aw ax ay az aA al=some r) :
  Calls Tryz.prog 77 #[.agg #[.int .i64 am,.int .i64 an,.int .i64 ap,.int .i64 aq,.int .i64 ar,.slice aE au.length aG,.slice aH ak.length aI],.agg #[.int .i64 av,.int .i64 aw,.int .i64 ax,.int .i64 ay,.int .i64 az,.slice aJ aA.length aK,.slice aM al.length aN]] w fun e w'=>e=.returned (.bool r)∧Below w.heap.size w w':=by
 have gC:=Tryz.underlying58
 have bl:=qaa.mk aY
 have bm:=qaa.mk aZ
 clear aY aZ
 have bt:=qaa.mk a8
 have bx:=qaa.mk ba
 clear a8 ba
 have bn:=qaa.mk bf
 have bp:=qaa.mk bg
 clear bf bg
 have bz:=qaa.mk bh
 have bB:=qaa.mk bj
 clear bh bj
 have HB:=qaa.mk (Below.refl w.heap.size w)
 have H:(if am=av then (if an=aw then (if ap=ax then (if aq=ay then (if ar=az then ((slices_Equal_int64_int64.f k au aA).bind fun aW=>(if aW=true then ((slices_Equal_int_int.f k ak al).bind fun aQ=>(some aQ)) else (some false))) else (some false)) else (some false)) else (some false)) else (some false)) else (some false))=some r:=h
 clear h
 by_cases c3:am=av
 ·rw [if_pos c3] at H
  have fP:(am == av)=true:=beq_iff_eq.mpr c3
  have fQ:(am != av)=false:=bne_eq_false_iff_eq.mpr c3
  clear c3
  by_cases c4:an=aw
  ·rw [if_pos c4] at H
   have fR:(an == aw)=true:=beq_iff_eq.mpr c4
   have fS:(an != aw)=false:=bne_eq_false_iff_eq.mpr c4
   clear c4
   by_cases c5:ap=ax
   ·rw [if_pos c5] at H
    have fT:(ap == ax)=true:=beq_iff_eq.mpr c5
    have fU:(ap != ax)=false:=bne_eq_false_iff_eq.mpr c5
    clear c5
    by_cases c6:aq=ay
    ·rw [if_pos c6] at H
     have fV:(aq == ay)=true:=beq_iff_eq.mpr c6
     have fW:(aq != ay)=false:=bne_eq_false_iff_eq.mpr c6
     clear c6
     by_cases c7:ar=az
     ·rw [if_pos c7] at H
      have fX:(ar == az)=true:=beq_iff_eq.mpr c7
      have fY:(ar != az)=false:=bne_eq_false_iff_eq.mpr c7
      clear c7
      replace H:=Option.bind_eq_some_iff.mp H
      obtain⟨aW,fZ,H⟩:=H
      replace H:(if aW=true then ((slices_Equal_int_int.f k ak al).bind fun aQ=>(some aQ)) else (some false))=some r:=H
      have A8:=qaa.mk fZ
      clear fZ
      by_cases c9:aW=true
      ·subst c9
       have H1:((slices_Equal_int_int.f k ak al).bind fun aQ=>(some aQ))=some r:=by rw [if_pos rfl] at H;exact H
       clear H
       have H:=H1
       clear H1
       replace H:=Option.bind_eq_some_iff.mp H
       obtain⟨aQ,bC,H⟩:=H
       replace H:(some aQ)=some r:=H
       have gD:=qaa.mk bC
       clear bC
       obtain rfl:=Option.some.inj H
       go_enter Tryz.func77,Tryz.ntmps77
       go_wp2_with (first|((with_reducible refine qaq (N:=2) rfl ?_);refine qap ?hg (N:=2) ?hd (cs:=#[.int .i64 am,.int .i64 an,.int .i64 ap,.int .i64 aq,.int .i64 ar,.slice aE au.length aG,.slice aH ak.length aI]) (t:=58) ?hr ?_;(case hd=>rfl);(case hg=>rfl);(case hr=>first|(go_simp;done)|(go_simp;rfl));intro ac hg gE hbox hb;have aa:=qaa.mk (hbox);have aC:=qaa.mk ((by rw [hg];exact (qac sB):w.heap.size≤ac));have ai:=qaa.mk ((by rw [hg];exact (qac sB):w.heap.size≤ac));replace HB:=qaa.mk (qai sB hb);clear hb hbox hg)|((with_reducible refine qaq (N:=3) rfl ?_);refine qap ?hg (N:=3) ?hd (cs:=#[.int .i64 av,.int .i64 aw,.int .i64 ax,.int .i64 ay,.int .i64 az,.slice aJ aA.length aK,.slice aM al.length aN]) (t:=58) ?hr ?_;(case hd=>rfl);(case hg=>rfl);(case hr=>first|(go_simp;done)|(go_simp;rfl));intro ae hg ga hbox hb;have ah:=qaa.mk (hbox);have aD:=qaa.mk ((by rw [hg];exact (qac sB):w.heap.size≤ae));have aj:=qaa.mk ((by rw [hg];exact (qac sB):w.heap.size≤ae));replace HB:=qaa.mk (qai sB hb);have af:=qaa.mk ((by rw [hg];exact Nat.ne_of_lt (sLt aa.out):ac≠ae));have ag:=qaa.mk ((by rw [hg];exact Nat.ne_of_gt (sLt aa.out):ae≠ac));replace aa:=qaa.mk (sKb aa.out hb);clear hb hbox hg;have gb:=af.out;have gc:=ag.out;obtain⟨bD,bE,bF,bG,bH,bI,bJ⟩:=sC7 (w:=ga) aa.out;obtain⟨bK,bL,bM,bN,bO,bP,bQ⟩:=sF7 aa.out;obtain⟨bR,bS,bT,bU,bV,bW,bY⟩:=sC7 (w:=ga) ah.out;obtain⟨bZ,b8,b9,ca,cb,cd,ce⟩:=sF7 ah.out)|(go_at_call 46;(with_reducible refine (slices_Equal_int64_int64.calls k _ _ au _ _ aA true _ ?aR ?aT ?aU ?aV A8.out).mono ?_);(case aR=>repeat (first|exact (Kd.C_below bl.out HB.out)|(with_reducible refine Kd.C_alloc ?_ _)|(with_reducible refine Kd.C_drewN ?_ _)|(with_reducible refine Kd.C_drew ?_)));(case aT=>exact bm.out);(case aU=>repeat (first|exact (Kd.C_below bn.out HB.out)|(with_reducible refine Kd.C_alloc ?_ _)|(with_reducible refine Kd.C_drewN ?_ _)|(with_reducible refine Kd.C_drew ?_)));(case aV=>exact bp.out);rintro e w' ⟨rfl,⟨nd,rfl⟩⟩)|(go_at_call 45;(with_reducible refine (slices_Equal_int_int.calls k _ _ ak _ _ al aQ _ ?aR ?aT ?aU ?aV gD.out).mono ?_);(case aR=>repeat (first|exact (Kd.C_below bt.out sB)|(with_reducible refine Kd.C_alloc ?_ _)|(with_reducible refine Kd.C_drewN ?_ _)|(with_reducible refine Kd.C_drew ?_)));(case aT=>exact bx.out);(case aU=>repeat (first|exact (Kd.C_below bz.out sB)|(with_reducible refine Kd.C_alloc ?_ _)|(with_reducible refine Kd.C_drewN ?_ _)|(with_reducible refine Kd.C_drew ?_)));(case aV=>exact bB.out);rintro e w' ⟨rfl,⟨nd,rfl⟩⟩))
       go_ret
       exact⟨by first|rfl|(simp [qak,qaj]<;>rfl)|(simp [bneNil,bneNilU]<;>rfl)|(simp [*,qak,qaj]<;>rfl),by repeat (first|(with_reducible first|exact HB.out|apply qag|apply qab|apply qaf|refine qah ?_ ai.out|refine qah ?_ aj.out)|exact HB.out)⟩
      ·replace c9:=Bool.eq_false_iff.mpr c9
       subst c9
       have H1:(some false)=some r:=by rw [if_neg (show ¬ (false=true) by decide)] at H;exact H
       clear H
       have H:=H1
       clear H1
       obtain rfl:=Option.some.inj H
       go_enter Tryz.func77,Tryz.ntmps77
       go_wp2_with (first|((with_reducible refine qaq (N:=2) rfl ?_);refine qap ?hg (N:=2) ?hd (cs:=#[.int .i64 am,.int .i64 an,.int .i64 ap,.int .i64 aq,.int .i64 ar,.slice aE au.length aG,.slice aH ak.length aI]) (t:=58) ?hr ?_;(case hd=>rfl);(case hg=>rfl);(case hr=>first|(go_simp;done)|(go_simp;rfl));intro ac hg gF hbox hb;have aa:=qaa.mk (hbox);have aC:=qaa.mk ((by rw [hg];exact (qac sB):w.heap.size≤ac));have ai:=qaa.mk ((by rw [hg];exact (qac sB):w.heap.size≤ac));replace HB:=qaa.mk (qai sB hb);clear hb hbox hg)|((with_reducible refine qaq (N:=3) rfl ?_);refine qap ?hg (N:=3) ?hd (cs:=#[.int .i64 av,.int .i64 aw,.int .i64 ax,.int .i64 ay,.int .i64 az,.slice aJ aA.length aK,.slice aM al.length aN]) (t:=58) ?hr ?_;(case hd=>rfl);(case hg=>rfl);(case hr=>first|(go_simp;done)|(go_simp;rfl));intro ae hg ge hbox hb;have ah:=qaa.mk (hbox);have aD:=qaa.mk ((by rw [hg];exact (qac sB):w.heap.size≤ae));have aj:=qaa.mk ((by rw [hg];exact (qac sB):w.heap.size≤ae));replace HB:=qaa.mk (qai sB hb);have af:=qaa.mk ((by rw [hg];exact Nat.ne_of_lt (sLt aa.out):ac≠ae));have ag:=qaa.mk ((by rw [hg];exact Nat.ne_of_gt (sLt aa.out):ae≠ac));replace aa:=qaa.mk (sKb aa.out hb);clear hb hbox hg;have gg:=af.out;have gh:=ag.out;obtain⟨cf,cg,cj,ck,cm,cn,co⟩:=sC7 (w:=ge) aa.out;obtain⟨cp,cq,cr,ct,cx,cy,cz⟩:=sF7 aa.out;obtain⟨cA,cB,cC,cD,cE,cF,cG⟩:=sC7 (w:=ge) ah.out;obtain⟨cH,cI,cJ,cK,cL,cM,cN⟩:=sF7 ah.out)|(go_at_call 46;(with_reducible refine (slices_Equal_int64_int64.calls k _ _ au _ _ aA false _ ?aR ?aT ?aU ?aV A8.out).mono ?_);(case aR=>repeat (first|exact (Kd.C_below bl.out HB.out)|(with_reducible refine Kd.C_alloc ?_ _)|(with_reducible refine Kd.C_drewN ?_ _)|(with_reducible refine Kd.C_drew ?_)));(case aT=>exact bm.out);(case aU=>repeat (first|exact (Kd.C_below bn.out HB.out)|(with_reducible refine Kd.C_alloc ?_ _)|(with_reducible refine Kd.C_drewN ?_ _)|(with_reducible refine Kd.C_drew ?_)));(case aV=>exact bp.out);rintro e w' ⟨rfl,⟨nd,rfl⟩⟩))
       go_ret
       exact⟨by first|rfl|(simp [qak,qaj]<;>rfl)|(simp [bneNil,bneNilU]<;>rfl)|(simp [*,qak,qaj]<;>rfl),by repeat (first|(with_reducible first|exact HB.out|apply qag|apply qab|apply qaf|refine qah ?_ ai.out|refine qah ?_ aj.out)|exact HB.out)⟩
     ·rw [if_neg c7] at H
      have fX:(ar == az)=false:=beq_eq_false_iff_ne.mpr c7
      have fY:(ar != az)=true:=bne_iff_ne.mpr c7
      obtain rfl:=Option.some.inj H
      go_enter Tryz.func77,Tryz.ntmps77
      go_wp2_with (first|((with_reducible refine qaq (N:=2) rfl ?_);refine qap ?hg (N:=2) ?hd (cs:=#[.int .i64 am,.int .i64 an,.int .i64 ap,.int .i64 aq,.int .i64 ar,.slice aE au.length aG,.slice aH ak.length aI]) (t:=58) ?hr ?_;(case hd=>rfl);(case hg=>rfl);(case hr=>first|(go_simp;done)|(go_simp;rfl));intro ac hg gG hbox hb;have aa:=qaa.mk (hbox);have aC:=qaa.mk ((by rw [hg];exact (qac sB):w.heap.size≤ac));have ai:=qaa.mk ((by rw [hg];exact (qac sB):w.heap.size≤ac));replace HB:=qaa.mk (qai sB hb);clear hb hbox hg)|((with_reducible refine qaq (N:=3) rfl ?_);refine qap ?hg (N:=3) ?hd (cs:=#[.int .i64 av,.int .i64 aw,.int .i64 ax,.int .i64 ay,.int .i64 az,.slice aJ aA.length aK,.slice aM al.length aN]) (t:=58) ?hr ?_;(case hd=>rfl);(case hg=>rfl);(case hr=>first|(go_simp;done)|(go_simp;rfl));intro ae hg gi hbox hb;have ah:=qaa.mk (hbox);have aD:=qaa.mk ((by rw [hg];exact (qac sB):w.heap.size≤ae));have aj:=qaa.mk ((by rw [hg];exact (qac sB):w.heap.size≤ae));replace HB:=qaa.mk (qai sB hb);have af:=qaa.mk ((by rw [hg];exact Nat.ne_of_lt (sLt aa.out):ac≠ae));have ag:=qaa.mk ((by rw [hg];exact Nat.ne_of_gt (sLt aa.out):ae≠ac));replace aa:=qaa.mk (sKb aa.out hb);clear hb hbox hg;have gj:=af.out;have gm:=ag.out;obtain⟨cO,cP,cR,cS,cT,cU,cV⟩:=sC7 (w:=gi) aa.out;obtain⟨cW,cY,cZ,da,db,dc,de⟩:=sF7 aa.out;obtain⟨df,dg,dh,di,dj,dk,dl⟩:=sC7 (w:=gi) ah.out;obtain⟨dm,dn,dp,dq,dr,dt,du⟩:=sF7 ah.out))
      go_ret
      exact⟨by first|rfl|(simp [qak,qaj]<;>rfl)|(simp [bneNil,bneNilU]<;>rfl)|(simp [*,qak,qaj]<;>rfl),by repeat (first|(with_reducible first|exact HB.out|apply qag|apply qab|apply qaf|refine qah ?_ ai.out|refine qah ?_ aj.out)|exact HB.out)⟩
    ·rw [if_neg c6] at H
     have fV:(aq == ay)=false:=beq_eq_false_iff_ne.mpr c6
     have fW:(aq != ay)=true:=bne_iff_ne.mpr c6
     obtain rfl:=Option.some.inj H
     go_enter Tryz.func77,Tryz.ntmps77
     go_wp2_with (first|((with_reducible refine qaq (N:=2) rfl ?_);refine qap ?hg (N:=2) ?hd (cs:=#[.int .i64 am,.int .i64 an,.int .i64 ap,.int .i64 aq,.int .i64 ar,.slice aE au.length aG,.slice aH ak.length aI]) (t:=58) ?hr ?_;(case hd=>rfl);(case hg=>rfl);(case hr=>first|(go_simp;done)|(go_simp;rfl));intro ac hg gH hbox hb;have aa:=qaa.mk (hbox);have aC:=qaa.mk ((by rw [hg];exact (qac sB):w.heap.size≤ac));have ai:=qaa.mk ((by rw [hg];exact (qac sB):w.heap.size≤ac));replace HB:=qaa.mk (qai sB hb);clear hb hbox hg)|((with_reducible refine qaq (N:=3) rfl ?_);refine qap ?hg (N:=3) ?hd (cs:=#[.int .i64 av,.int .i64 aw,.int .i64 ax,.int .i64 ay,.int .i64 az,.slice aJ aA.length aK,.slice aM al.length aN]) (t:=58) ?hr ?_;(case hd=>rfl);(case hg=>rfl);(case hr=>first|(go_simp;done)|(go_simp;rfl));intro ae hg gn hbox hb;have ah:=qaa.mk (hbox);have aD:=qaa.mk ((by rw [hg];exact (qac sB):w.heap.size≤ae));have aj:=qaa.mk ((by rw [hg];exact (qac sB):w.heap.size≤ae));replace HB:=qaa.mk (qai sB hb);have af:=qaa.mk ((by rw [hg];exact Nat.ne_of_lt (sLt aa.out):ac≠ae));have ag:=qaa.mk ((by rw [hg];exact Nat.ne_of_gt (sLt aa.out):ae≠ac));replace aa:=qaa.mk (sKb aa.out hb);clear hb hbox hg;have gp:=af.out;have gq:=ag.out;obtain⟨dv,dw,dx,dy,dz,dA,dB⟩:=sC7 (w:=gn) aa.out;obtain⟨dC,dD,dE,dF,dG,dH,dI⟩:=sF7 aa.out;obtain⟨dJ,dK,dL,dM,dN,dO,dP⟩:=sC7 (w:=gn) ah.out;obtain⟨dQ,dT,dU,dV,dW,dX,dY⟩:=sF7 ah.out))
     go_ret
     exact⟨by first|rfl|(simp [qak,qaj]<;>rfl)|(simp [bneNil,bneNilU]<;>rfl)|(simp [*,qak,qaj]<;>rfl),by repeat (first|(with_reducible first|exact HB.out|apply qag|apply qab|apply qaf|refine qah ?_ ai.out|refine qah ?_ aj.out)|exact HB.out)⟩
   ·rw [if_neg c5] at H
    have fT:(ap == ax)=false:=beq_eq_false_iff_ne.mpr c5
    have fU:(ap != ax)=true:=bne_iff_ne.mpr c5
    obtain rfl:=Option.some.inj H
    go_enter Tryz.func77,Tryz.ntmps77
    go_wp2_with (first|((with_reducible refine qaq (N:=2) rfl ?_);refine qap ?hg (N:=2) ?hd (cs:=#[.int .i64 am,.int .i64 an,.int .i64 ap,.int .i64 aq,.int .i64 ar,.slice aE au.length aG,.slice aH ak.length aI]) (t:=58) ?hr ?_;(case hd=>rfl);(case hg=>rfl);(case hr=>first|(go_simp;done)|(go_simp;rfl));intro ac hg gI hbox hb;have aa:=qaa.mk (hbox);have aC:=qaa.mk ((by rw [hg];exact (qac sB):w.heap.size≤ac));have ai:=qaa.mk ((by rw [hg];exact (qac sB):w.heap.size≤ac));replace HB:=qaa.mk (qai sB hb);clear hb hbox hg)|((with_reducible refine qaq (N:=3) rfl ?_);refine qap ?hg (N:=3) ?hd (cs:=#[.int .i64 av,.int .i64 aw,.int .i64 ax,.int .i64 ay,.int .i64 az,.slice aJ aA.length aK,.slice aM al.length aN]) (t:=58) ?hr ?_;(case hd=>rfl);(case hg=>rfl);(case hr=>first|(go_simp;done)|(go_simp;rfl));intro ae hg gr hbox hb;have ah:=qaa.mk (hbox);have aD:=qaa.mk ((by rw [hg];exact (qac sB):w.heap.size≤ae));have aj:=qaa.mk ((by rw [hg];exact (qac sB):w.heap.size≤ae));replace HB:=qaa.mk (qai sB hb);have af:=qaa.mk ((by rw [hg];exact Nat.ne_of_lt (sLt aa.out):ac≠ae));have ag:=qaa.mk ((by rw [hg];exact Nat.ne_of_gt (sLt aa.out):ae≠ac));replace aa:=qaa.mk (sKb aa.out hb);clear hb hbox hg;have gt:=af.out;have gu:=ag.out;obtain⟨dZ,d9,ea,eb,ec,ed,ef⟩:=sC7 (w:=gr) aa.out;obtain⟨eg,eh,ek,el,en,ep,eq⟩:=sF7 aa.out;obtain⟨er,es,et,eu,ev,ew,ex⟩:=sC7 (w:=gr) ah.out;obtain⟨ey,ez,eB,eC,eD,eE,eF⟩:=sF7 ah.out))
    go_ret
    exact⟨by first|rfl|(simp [qak,qaj]<;>rfl)|(simp [bneNil,bneNilU]<;>rfl)|(simp [*,qak,qaj]<;>rfl),by repeat (first|(with_reducible first|exact HB.out|apply qag|apply qab|apply qaf|refine qah ?_ ai.out|refine qah ?_ aj.out)|exact HB.out)⟩
  ·rw [if_neg c4] at H
   have fR:(an == aw)=false:=beq_eq_false_iff_ne.mpr c4
   have fS:(an != aw)=true:=bne_iff_ne.mpr c4
   obtain rfl:=Option.some.inj H
   go_enter Tryz.func77,Tryz.ntmps77
   go_wp2_with (first|((with_reducible refine qaq (N:=2) rfl ?_);refine qap ?hg (N:=2) ?hd (cs:=#[.int .i64 am,.int .i64 an,.int .i64 ap,.int .i64 aq,.int .i64 ar,.slice aE au.length aG,.slice aH ak.length aI]) (t:=58) ?hr ?_;(case hd=>rfl);(case hg=>rfl);(case hr=>first|(go_simp;done)|(go_simp;rfl));intro ac hg gJ hbox hb;have aa:=qaa.mk (hbox);have aC:=qaa.mk ((by rw [hg];exact (qac sB):w.heap.size≤ac));have ai:=qaa.mk ((by rw [hg];exact (qac sB):w.heap.size≤ac));replace HB:=qaa.mk (qai sB hb);clear hb hbox hg)|((with_reducible refine qaq (N:=3) rfl ?_);refine qap ?hg (N:=3) ?hd (cs:=#[.int .i64 av,.int .i64 aw,.int .i64 ax,.int .i64 ay,.int .i64 az,.slice aJ aA.length aK,.slice aM al.length aN]) (t:=58) ?hr ?_;(case hd=>rfl);(case hg=>rfl);(case hr=>first|(go_simp;done)|(go_simp;rfl));intro ae hg gv hbox hb;have ah:=qaa.mk (hbox);have aD:=qaa.mk ((by rw [hg];exact (qac sB):w.heap.size≤ae));have aj:=qaa.mk ((by rw [hg];exact (qac sB):w.heap.size≤ae));replace HB:=qaa.mk (qai sB hb);have af:=qaa.mk ((by rw [hg];exact Nat.ne_of_lt (sLt aa.out):ac≠ae));have ag:=qaa.mk ((by rw [hg];exact Nat.ne_of_gt (sLt aa.out):ae≠ac));replace aa:=qaa.mk (sKb aa.out hb);clear hb hbox hg;have gw:=af.out;have gx:=ag.out;obtain⟨eG,eH,eI,eJ,eK,eL,eM⟩:=sC7 (w:=gv) aa.out;obtain⟨eN,eO,eP,eQ,eR,eS,eT⟩:=sF7 aa.out;obtain⟨eU,eV,eW,eX,eY,eZ,fa⟩:=sC7 (w:=gv) ah.out;obtain⟨fb,fc,fe,ff,fg,fh,fj⟩:=sF7 ah.out))
   go_ret
   exact⟨by first|rfl|(simp [qak,qaj]<;>rfl)|(simp [bneNil,bneNilU]<;>rfl)|(simp [*,qak,qaj]<;>rfl),by repeat (first|(with_reducible first|exact HB.out|apply qag|apply qab|apply qaf|refine qah ?_ ai.out|refine qah ?_ aj.out)|exact HB.out)⟩
 ·rw [if_neg c3] at H
  have fP:(am == av)=false:=beq_eq_false_iff_ne.mpr c3
  have fQ:(am != av)=true:=bne_iff_ne.mpr c3
  obtain rfl:=Option.some.inj H
  go_enter Tryz.func77,Tryz.ntmps77
  go_wp2_with (first|((with_reducible refine qaq (N:=2) rfl ?_);refine qap ?hg (N:=2) ?hd (cs:=#[.int .i64 am,.int .i64 an,.int .i64 ap,.int .i64 aq,.int .i64 ar,.slice aE au.length aG,.slice aH ak.length aI]) (t:=58) ?hr ?_;(case hd=>rfl);(case hg=>rfl);(case hr=>first|(go_simp;done)|(go_simp;rfl));intro ac hg gK hbox hb;have aa:=qaa.mk (hbox);have aC:=qaa.mk ((by rw [hg];exact (qac sB):w.heap.size≤ac));have ai:=qaa.mk ((by rw [hg];exact (qac sB):w.heap.size≤ac));replace HB:=qaa.mk (qai sB hb);clear hb hbox hg)|((with_reducible refine qaq (N:=3) rfl ?_);refine qap ?hg (N:=3) ?hd (cs:=#[.int .i64 av,.int .i64 aw,.int .i64 ax,.int .i64 ay,.int .i64 az,.slice aJ aA.length aK,.slice aM al.length aN]) (t:=58) ?hr ?_;(case hd=>rfl);(case hg=>rfl);(case hr=>first|(go_simp;done)|(go_simp;rfl));intro ae hg gy hbox hb;have ah:=qaa.mk (hbox);have aD:=qaa.mk ((by rw [hg];exact (qac sB):w.heap.size≤ae));have aj:=qaa.mk ((by rw [hg];exact (qac sB):w.heap.size≤ae));replace HB:=qaa.mk (qai sB hb);have af:=qaa.mk ((by rw [hg];exact Nat.ne_of_lt (sLt aa.out):ac≠ae));have ag:=qaa.mk ((by rw [hg];exact Nat.ne_of_gt (sLt aa.out):ae≠ac));replace aa:=qaa.mk (sKb aa.out hb);clear hb hbox hg;have gz:=af.out;have gB:=ag.out;obtain⟨fk,fl,fm,fo,fp,fq,ft⟩:=sC7 (w:=gy) aa.out;obtain⟨fu,fv,fw,fx,fy,fz,fA⟩:=sF7 aa.out;obtain⟨fB,fC,fD,fE,fF,fG,fH⟩:=sC7 (w:=gy) ah.out;obtain⟨fI,fJ,fK,fL,fM,fN,fO⟩:=sF7 ah.out))
  go_ret
  exact⟨by first|rfl|(simp [qak,qaj]<;>rfl)|(simp [bneNil,bneNilU]<;>rfl)|(simp [*,qak,qaj]<;>rfl),by repeat (first|(with_reducible first|exact HB.out|apply qag|apply qab|apply qaf|refine qah ?_ ai.out|refine qah ?_ aj.out)|exact HB.out)⟩
def sameO (k:Nat) (x y:Tk):Option Bool:=tasks_SameTask.f k x.id x.c x.d x.t x.p x.ch x.us y.id y.c y.d y.t y.p y.ch y.us
def sameP (k:Nat) (x y:Tk):Bool:=(sameO k x y).getD false
def sameGo (k:Nat):List Tk→List Tk→Option Bool
 |x::r,y::q=>(sameO k x y).bind fun b=>(sameGo k r q).bind fun c=>some (b && c)
 |_,_=>some true
theorem sameGo_all (k:Nat):∀ (L M:List Tk) (b:Bool),L.length=M.length→sameGo k L M=some b→(∀ i (h:i<L.length) (h':i<M.length),sameO k L[i] M[i]=some (sameP k L[i] M[i]))∧b=allG (sameP k) L M:=by
 intro L
 induction L with
 |nil=>intro M b _ h;exact⟨fun i hi=>absurd hi (Nat.not_lt_zero _),by cases M<;>exact (Option.some.inj h).symm⟩
 |cons x r ih=>
  intro M b hl h
  cases M with
  |nil=>simp at hl
  |cons y q=>
   rw [sameGo] at h
   obtain⟨c,hc,h⟩:=Option.bind_eq_some_iff.1 h
   obtain⟨d,hd,h⟩:=Option.bind_eq_some_iff.1 h
   obtain rfl:=Option.some.inj h
   obtain⟨h1,rfl⟩:=ih q d (by simpa using hl) hd
   have hx:sameP k x y=c:=by unfold sameP;rw [hc];rfl
   refine⟨fun i hi hi'=>?_,by rw [allG,hx]⟩
   cases i with
   |zero=>show sameO k x y=some (sameP k x y);rw [hx,hc]
   |succ i=>exact h1 i (by simpa using hi) (by simpa using hi')
def api_Task.f (k:Nat) (l0 l1:List S58) (_:ByteArray):Option Bool:=if l0.length≤70000 then (if l0.length=l1.length then sameGo k (l0.map tkOf) (l1.map tkOf) else some false) else none
theorem api_Task.calls (k:Nat) (A0:Option Addr) (c0:Nat) (l0:List S58) (A1:Option Addr) (c1:Nat) (l1:List S58) (a2:ByteArray) (r:Bool) (w:World) (aa:Kd.C k58 w A0 l0.length l0) (ah:l0.length≤c0) (ac:Kd.C k58 w A1 l1.length l1) (ai:l1.length≤c1) (h:api_Task.f k l0 l1 a2=some r) :
  Calls Tryz.prog 76 #[.slice A0 l0.length c0,.slice A1 l1.length c1,.func (Fn.func 77) #[] #[]] w fun e w'=>e=.returned (.bool r)∧Below w.heap.size w w':=by
 unfold api_Task.f at h
 split at h
 ·rename_i h1
  have g0':=C_of_tk aa
  have g1':=C_of_tk ac
  have ha:∀ (i:Nat) (hi:i<(l0.map tkOf).length) (hi':i<(l1.map tkOf).length),(l0.length=l1.length→SaysTk (l0.map tkOf)[i] (l1.map tkOf)[i] (sameP k (l0.map tkOf)[i] (l1.map tkOf)[i])):=by
   intro i hi hi' hl
   rw [if_pos hl] at h
   have hs:=(sameGo_all k (l0.map tkOf) (l1.map tkOf) r (by rw [List.length_map,List.length_map];exact hl) h).1 i hi hi'
   intro A5 c5 A6 c6 B5 d5 B6 d6 W p5 p6 p7 p8 p9 ae af ag
   exact tasks_SameTask.calls k _ _ _ _ _ A5 c5 _ A6 c6 _ _ _ _ _ _ B5 d5 _ B6 d6 _ _ W p5 p6 p7 p8 p9 ae af ag hs
  by_cases hl:l0.length=l1.length
  ·have:=eqFunc_any (sameP k) A0 c0 A1 c1 (l0.map tkOf) (l1.map tkOf) w (by rw [List.length_map];exact h1) g0' g1' (fun _ i hi hi'=>ha i hi hi' hl)
   rw [if_pos hl] at h
   have hb:=(sameGo_all k (l0.map tkOf) (l1.map tkOf) r (by rw [List.length_map,List.length_map];exact hl) h).2
   rw [List.length_map,List.length_map,decide_eq_true hl,Bool.true_and,← hb] at this
   exact this
  ·rw [if_neg hl] at h
   obtain rfl:=Option.some.inj h
   have:=eqFunc_any (fun _ _=>false) A0 c0 A1 c1 (l0.map tkOf) (l1.map tkOf) w (by rw [List.length_map];exact h1) g0' g1' (fun he=>absurd (by rw [List.length_map,List.length_map] at he;exact he) hl)
   rw [List.length_map,List.length_map,decide_eq_false hl,Bool.false_and] at this
   exact this
 ·cases h
end
end Go.Proofs.YtgnaaokhfpfglaaGreatDoor.PCertRight
end
section
namespace Go.Proofs.YtgnaaokhfpfglaaGreatDoor.PCertRight
open Go.RowKit Go.Proofs.YtgnaaokhfpfglaaGreatDoorW.PrintWords Go.Proofs.YtgnaaokhfpfglaaGreatDoorW.PrintLast Go.Proofs.YtgnaaokhfpfglaaGreatDoorW.PrintMore
attribute [local go_sem] max2_int min2_int max_two min_two max_three min_three max_four min_four
set_option linter.unusedVariables false
set_option linter.unusedSimpArgs false
noncomputable section
attribute [local go_sem high] eqA60
def tasks_Same.f (k:Nat) (aa:Int) (ac:Int) (ae:List (S58)) (af:Int) (ag:Int) (ah:List (S58)):Option (Bool):=if aa=af then (if ac=ag then ((api_Task.f k ae ah (⟨#[70,78,0,77]⟩:ByteArray)).bind fun t139=>(some t139)) else (some false)) else (some false)
theorem tasks_Same.calls (k:Nat) (ai:Int) (aj:Int) (ar:Option Addr) (au:Nat) (am:List (S58)) (ak:Int) (al:Int) (av:Option Addr) (aw:Nat) (an:List (S58)) (r:Bool) (w:World) (ax:Kd.C k58 w ar am.length am) (ay:am.length≤au) (az:Kd.C k58 w av an.length an) (aA:an.length≤aw) (h:tasks_Same.f k ai aj am ak al an=some r) :
  Calls Tryz.prog 44 #[.agg #[.int .i64 ai,.int .i64 aj,.slice ar am.length au],.agg #[.int .i64 ak,.int .i64 al,.slice av an.length aw]] w fun e w'=>e=.returned (.bool r)∧Below w.heap.size w w':=by
 have ca:=Tryz.underlying37
 have aE:=qaa.mk ax
 have aG:=qaa.mk ay
 clear ax ay
 have aH:=qaa.mk az
 have aI:=qaa.mk aA
 clear az aA
 have HB:=qaa.mk (Below.refl w.heap.size w)
 have H:(if ai=ak then (if aj=al then ((api_Task.f k am an (⟨#[70,78,0,77]⟩:ByteArray)).bind fun t139=>(some t139)) else (some false)) else (some false))=some r:=h
 clear h
 by_cases c3:ai=ak
 ·rw [if_pos c3] at H
  have bK:(ai == ak)=true:=beq_iff_eq.mpr c3
  have bL:(ai != ak)=false:=bne_eq_false_iff_eq.mpr c3
  clear c3
  by_cases c4:aj=al
  ·rw [if_pos c4] at H
   have bM:(aj == al)=true:=beq_iff_eq.mpr c4
   have bN:(aj != al)=false:=bne_eq_false_iff_eq.mpr c4
   clear c4
   replace H:=Option.bind_eq_some_iff.mp H
   obtain⟨t139,bU,H⟩:=H
   replace H:(some t139)=some r:=H
   have A5:=qaa.mk bU
   clear bU
   obtain rfl:=Option.some.inj H
   go_enter Tryz.func44,Tryz.ntmps44
   go_wp2_with (first|((with_reducible refine qaq (N:=2) rfl ?_);refine qap ?hg (N:=2) ?hd (cs:=#[.int .i64 ai,.int .i64 aj,.slice ar am.length au]) (t:=37) ?hr ?_;(case hd=>rfl);(case hg=>rfl);(case hr=>first|(go_simp;done)|(go_simp;rfl));intro ac hg w6 hbox hb;have aa:=qaa.mk (hbox);have aC:=qaa.mk ((by rw [hg];exact (qac sB):w.heap.size≤ac));have ap:=qaa.mk ((by rw [hg];exact (qac sB):w.heap.size≤ac));replace HB:=qaa.mk (qai sB hb);clear hb hbox hg)|((with_reducible refine qaq (N:=3) rfl ?_);refine qap ?hg (N:=3) ?hd (cs:=#[.int .i64 ak,.int .i64 al,.slice av an.length aw]) (t:=37) ?hr ?_;(case hd=>rfl);(case hg=>rfl);(case hr=>first|(go_simp;done)|(go_simp;rfl));intro ae hg w7 hbox hb;have ah:=qaa.mk (hbox);have aD:=qaa.mk ((by rw [hg];exact (qac sB):w.heap.size≤ae));have aq:=qaa.mk ((by rw [hg];exact (qac sB):w.heap.size≤ae));replace HB:=qaa.mk (qai sB hb);have af:=qaa.mk ((by rw [hg];exact Nat.ne_of_lt (sLt aa.out):ac≠ae));have ag:=qaa.mk ((by rw [hg];exact Nat.ne_of_gt (sLt aa.out):ae≠ac));replace aa:=qaa.mk (sKb aa.out hb);clear hb hbox hg;have cb:=af.out;have cd:=ag.out;obtain⟨bO,bP,bQ⟩:=sC3 (w:=w7) aa.out;obtain⟨bR,bS,bT⟩:=sF3 aa.out;obtain⟨aQ,aR,aT⟩:=sC3 (w:=w7) ah.out;obtain⟨aU,aV,aW⟩:=sF3 ah.out)|(go_at_call 76;(with_reducible refine (api_Task.calls k _ _ am _ _ an (⟨#[70,78,0,77]⟩:ByteArray) t139 _ ?aJ ?aK ?aM ?aN A5.out).mono ?_);(case aJ=>repeat (first|exact (Kd.C_below aE.out HB.out)|(with_reducible refine Kd.C_alloc ?_ _)|(with_reducible refine Kd.C_drewN ?_ _)|(with_reducible refine Kd.C_drew ?_)));(case aK=>exact aG.out);(case aM=>repeat (first|exact (Kd.C_below aH.out HB.out)|(with_reducible refine Kd.C_alloc ?_ _)|(with_reducible refine Kd.C_drewN ?_ _)|(with_reducible refine Kd.C_drew ?_)));(case aN=>exact aI.out);rintro e ce ⟨rfl,hb⟩;replace aa:=qaa.mk (sKb aa.out hb);replace ah:=qaa.mk (sKb ah.out hb);replace HB:=qaa.mk (qai sB hb);(try clear hb);(try clear cf);(try clear hk);(try clear hi)))
   go_ret
   exact⟨by first|rfl|(simp [qak,qaj]<;>rfl)|(simp [bneNil,bneNilU]<;>rfl)|(simp [*,qak,qaj]<;>rfl),by repeat (first|(with_reducible first|exact HB.out|apply qag|apply qab|apply qaf|refine qah ?_ ap.out|refine qah ?_ aq.out)|exact HB.out)⟩
  ·rw [if_neg c4] at H
   have bM:(aj == al)=false:=beq_eq_false_iff_ne.mpr c4
   have bN:(aj != al)=true:=bne_iff_ne.mpr c4
   obtain rfl:=Option.some.inj H
   go_enter Tryz.func44,Tryz.ntmps44
   go_wp2_with (first|((with_reducible refine qaq (N:=2) rfl ?_);refine qap ?hg (N:=2) ?hd (cs:=#[.int .i64 ai,.int .i64 aj,.slice ar am.length au]) (t:=37) ?hr ?_;(case hd=>rfl);(case hg=>rfl);(case hr=>first|(go_simp;done)|(go_simp;rfl));intro ac hg cg hbox hb;have aa:=qaa.mk (hbox);have aC:=qaa.mk ((by rw [hg];exact (qac sB):w.heap.size≤ac));have ap:=qaa.mk ((by rw [hg];exact (qac sB):w.heap.size≤ac));replace HB:=qaa.mk (qai sB hb);clear hb hbox hg)|((with_reducible refine qaq (N:=3) rfl ?_);refine qap ?hg (N:=3) ?hd (cs:=#[.int .i64 ak,.int .i64 al,.slice av an.length aw]) (t:=37) ?hr ?_;(case hd=>rfl);(case hg=>rfl);(case hr=>first|(go_simp;done)|(go_simp;rfl));intro ae hg bV hbox hb;have ah:=qaa.mk (hbox);have aD:=qaa.mk ((by rw [hg];exact (qac sB):w.heap.size≤ae));have aq:=qaa.mk ((by rw [hg];exact (qac sB):w.heap.size≤ae));replace HB:=qaa.mk (qai sB hb);have af:=qaa.mk ((by rw [hg];exact Nat.ne_of_lt (sLt aa.out):ac≠ae));have ag:=qaa.mk ((by rw [hg];exact Nat.ne_of_gt (sLt aa.out):ae≠ac));replace aa:=qaa.mk (sKb aa.out hb);clear hb hbox hg;have bW:=af.out;have bY:=ag.out;obtain⟨aY,aZ,a8⟩:=sC3 (w:=bV) aa.out;obtain⟨ba,bf,bg⟩:=sF3 aa.out;obtain⟨bh,bj,bl⟩:=sC3 (w:=bV) ah.out;obtain⟨bm,bn,bp⟩:=sF3 ah.out))
   go_ret
   exact⟨by first|rfl|(simp [qak,qaj]<;>rfl)|(simp [bneNil,bneNilU]<;>rfl)|(simp [*,qak,qaj]<;>rfl),by repeat (first|(with_reducible first|exact HB.out|apply qag|apply qab|apply qaf|refine qah ?_ ap.out|refine qah ?_ aq.out)|exact HB.out)⟩
 ·rw [if_neg c3] at H
  have bK:(ai == ak)=false:=beq_eq_false_iff_ne.mpr c3
  have bL:(ai != ak)=true:=bne_iff_ne.mpr c3
  obtain rfl:=Option.some.inj H
  go_enter Tryz.func44,Tryz.ntmps44
  go_wp2_with (first|((with_reducible refine qaq (N:=2) rfl ?_);refine qap ?hg (N:=2) ?hd (cs:=#[.int .i64 ai,.int .i64 aj,.slice ar am.length au]) (t:=37) ?hr ?_;(case hd=>rfl);(case hg=>rfl);(case hr=>first|(go_simp;done)|(go_simp;rfl));intro ac hg cj hbox hb;have aa:=qaa.mk (hbox);have aC:=qaa.mk ((by rw [hg];exact (qac sB):w.heap.size≤ac));have ap:=qaa.mk ((by rw [hg];exact (qac sB):w.heap.size≤ac));replace HB:=qaa.mk (qai sB hb);clear hb hbox hg)|((with_reducible refine qaq (N:=3) rfl ?_);refine qap ?hg (N:=3) ?hd (cs:=#[.int .i64 ak,.int .i64 al,.slice av an.length aw]) (t:=37) ?hr ?_;(case hd=>rfl);(case hg=>rfl);(case hr=>first|(go_simp;done)|(go_simp;rfl));intro ae hg bZ hbox hb;have ah:=qaa.mk (hbox);have aD:=qaa.mk ((by rw [hg];exact (qac sB):w.heap.size≤ae));have aq:=qaa.mk ((by rw [hg];exact (qac sB):w.heap.size≤ae));replace HB:=qaa.mk (qai sB hb);have af:=qaa.mk ((by rw [hg];exact Nat.ne_of_lt (sLt aa.out):ac≠ae));have ag:=qaa.mk ((by rw [hg];exact Nat.ne_of_gt (sLt aa.out):ae≠ac));replace aa:=qaa.mk (sKb aa.out hb);clear hb hbox hg;have b8:=af.out;have b9:=ag.out;obtain⟨bt,bx,bz⟩:=sC3 (w:=bZ) aa.out;obtain⟨bB,bC,bD⟩:=sF3 aa.out;obtain⟨bE,bF,bG⟩:=sC3 (w:=bZ) ah.out;obtain⟨bH,bI,bJ⟩:=sF3 ah.out))
  go_ret
  exact⟨by first|rfl|(simp [qak,qaj]<;>rfl)|(simp [bneNil,bneNilU]<;>rfl)|(simp [*,qak,qaj]<;>rfl),by repeat (first|(with_reducible first|exact HB.out|apply qag|apply qab|apply qaf|refine qah ?_ ap.out|refine qah ?_ aq.out)|exact HB.out)⟩
def api_Bound_47.l0:Nat→List (S60)→List (S60)→Int→Int→Option (Bool)
 |0,_,_,_,_=>none
 |k+1,x0,x1,ac,aa=>if aa<ac then (if 0≤aa then (if aa<(x0.length:Int) then (if aa<(x1.length:Int) then (if (!(((qay x0 aa).f0) == ((qay x1 aa).f0)) || (!(((qay x0 aa).f1) == ((qay x1 aa).f1)) || (!(((qay x0 aa).f2) == ((qay x1 aa).f2)) || (!(((qay x0 aa).f3) == ((qay x1 aa).f3))))))=true then (some false) else (api_Bound_47.l0 k x0 x1 ac (wrap64 (aa+1)))) else (none)) else (none)) else (none)) else (some true)
def api_Bound_47.f (k:Nat) (l0:List (S60)) (l1:List (S60)):Option (Bool):=if (l0.length:Int)=(l1.length:Int) then (api_Bound_47.l0 k l0 l1 (l0.length:Int) 0) else (some false)
theorem api_Bound_47.calls (k:Nat) (A0:Option Addr) (c0:Nat) (l0:List (S60)) (A1:Option Addr) (c1:Nat) (l1:List (S60)) (r:Bool) (w:World) (aC:Kd.C k60 w A0 l0.length l0) (aD:l0.length≤c0) (aE:Kd.C k60 w A1 l1.length l1) (aG:l1.length≤c1) (h:api_Bound_47.f k l0 l1=some r) :
  Calls Tryz.prog 47 #[.slice A0 l0.length c0,.slice A1 l1.length c1] w fun e w'=>e=.returned (.bool r)∧qar w w':=by
 have aK:=Tryz.underlying60
 have aH:=qaa.mk aC
 have aT:=qaa.mk aD
 clear aC aD
 have aI:=qaa.mk aE
 have aU:=qaa.mk aG
 clear aE aG
 have H:(if (l0.length:Int)=(l1.length:Int) then (api_Bound_47.l0 k l0 l1 (l0.length:Int) 0) else (some false))=some r:=h
 clear h
 by_cases c3:(l0.length:Int)=(l1.length:Int)
 ·rw [if_pos c3] at H
  have au:((l0.length:Int) == (l1.length:Int))=true:=beq_iff_eq.mpr c3
  have av:((l0.length:Int) != (l1.length:Int))=false:=bne_eq_false_iff_eq.mpr c3
  have aw:(l0.length == l1.length)=true:=by first|simpa using c3|(simp at c3 ⊢;omega)
  clear c3
  have H':=qaa.mk H
  clear H
  go_enter Tryz.func47,Tryz.ntmps47
  go_wp2
  repeat (go_quiet (fail);try go_wp2)
  go_loopg [13] k (fun kq aM w'=>∃ (aa:Int),aM=.int .i64 aa∧qaa (api_Bound_47.l0 kq l0 l1 (l0.length:Int) aa=some r)∧qaa (kq≤k)∧qar w w')
  case atStart=>exact⟨(0),(by first|rfl|(simp;done)|(simp [*];done)),H',⟨Nat.le_refl _⟩,by repeat (first|exact qar.refl _|apply qar.step)⟩
  case round=>
   clear H'
   try clear c1
   try clear p2
   try clear c3
   try clear au
   try clear av
   try clear aw
   obtain⟨aa,rfl,HA,aJ,⟨m1,rfl⟩⟩:=hrel
   cases gk with
   |zero=>exact absurd HA.out (by simp [api_Bound_47.l0])
   |succ k1=>
    have H:=HA.out
    clear HA
    simp only [api_Bound_47.l0] at H
    by_cases c4:aa<(l0.length:Int)
    ·rw [if_pos c4] at H
     have az:decide (aa<(l0.length:Int))=true:=decide_eq_true c4
     clear c4
     by_cases c5:0≤aa
     ·rw [if_pos c5] at H
      have aN:decide (0≤aa)=true:=decide_eq_true c5
      clear c5
      by_cases c6:aa<(l0.length:Int)
      ·rw [if_pos c6] at H
       have aQ:decide (aa<(l0.length:Int))=true:=decide_eq_true c6
       clear c6
       by_cases c7:aa<(l1.length:Int)
       ·rw [if_pos c7] at H
        have aR:decide (aa<(l1.length:Int))=true:=decide_eq_true c7
        clear c7
        by_cases c8:(!(((qay l0 aa).f0) == ((qay l1 aa).f0)) || (!(((qay l0 aa).f1) == ((qay l1 aa).f1)) || (!(((qay l0 aa).f2) == ((qay l1 aa).f2)) || (!(((qay l0 aa).f3) == ((qay l1 aa).f3))))))=true
        ·rw [if_pos c8] at H
         have aA:(!(((qay l0 aa).f0) == ((qay l1 aa).f0)) || (!(((qay l0 aa).f1) == ((qay l1 aa).f1)) || (!(((qay l0 aa).f2) == ((qay l1 aa).f2)) || (!(((qay l0 aa).f3) == ((qay l1 aa).f3))))))=true:=c8
         clear c8
         obtain rfl:=Option.some.inj H
         have ac:0≤(aa:Int):=of_decide_eq_true sA
         have ae:aa<(l0.length:Int):=of_decide_eq_true sA
         obtain⟨ax,aq,ah,ai,aj,ak⟩:=at_T60 aH.out aa ac ae
         cases aq
         replace ac:=eq_true ac
         replace ae:=eq_true ae
         have af:0≤(aa:Int):=of_decide_eq_true sA
         have ag:aa<(l1.length:Int):=of_decide_eq_true sA
         obtain⟨ay,ar,al,am,an,ap⟩:=at_T60 aI.out aa af ag
         cases ar
         replace af:=eq_true af
         replace ag:=eq_true ag
         go_wp2
         repeat (go_quiet (fail);try go_wp2)
         go_ret
         exact⟨by first|rfl|(simp;done)|(simp [*];done),by repeat (first|exact qar.refl _|apply qar.step)⟩
        ·rw [if_neg c8] at H
         have aA:(!(((qay l0 aa).f0) == ((qay l1 aa).f0)) || (!(((qay l0 aa).f1) == ((qay l1 aa).f1)) || (!(((qay l0 aa).f2) == ((qay l1 aa).f2)) || (!(((qay l0 aa).f3) == ((qay l1 aa).f3))))))=false:=by simpa using c8
         clear c8
         have H':=qaa.mk H
         clear H
         have ac:0≤(aa:Int):=of_decide_eq_true sA
         have ae:aa<(l0.length:Int):=of_decide_eq_true sA
         obtain⟨ax,aq,ah,ai,aj,ak⟩:=at_T60 aH.out aa ac ae
         cases aq
         replace ac:=eq_true ac
         replace ae:=eq_true ae
         have af:0≤(aa:Int):=of_decide_eq_true sA
         have ag:aa<(l1.length:Int):=of_decide_eq_true sA
         obtain⟨ay,ar,al,am,an,ap⟩:=at_T60 aI.out aa af ag
         cases ar
         replace af:=eq_true af
         replace ag:=eq_true ag
         go_wp2
         repeat (go_quiet (fail);try go_wp2)
         go_roundg k1
         case measure=>have:=aJ.out;omega
         case rel=>exact⟨(wrap64 (aa+1)),(by first|rfl|(simp;done)|(simp [*];done)),H',⟨by have:=aJ.out;omega⟩,by repeat (first|exact qar.refl _|apply qar.step)⟩
       ·rw [if_neg c7] at H
        exact absurd H (by simp)
      ·rw [if_neg c6] at H
       exact absurd H (by simp)
     ·rw [if_neg c5] at H
      exact absurd H (by simp)
    ·rw [if_neg c4] at H
     have az:decide (aa<(l0.length:Int))=false:=decide_eq_false c4
     clear c4
     obtain rfl:=Option.some.inj H
     go_wp2
     repeat (go_quiet (fail);try go_wp2)
     go_ret
     exact⟨by first|rfl|(simp;done)|(simp [*];done),by repeat (first|exact qar.refl _|apply qar.step)⟩
 ·rw [if_neg c3] at H
  have au:((l0.length:Int) == (l1.length:Int))=false:=beq_eq_false_iff_ne.mpr c3
  have av:((l0.length:Int) != (l1.length:Int))=true:=bne_iff_ne.mpr c3
  have aw:(l0.length == l1.length)=false:=by first|simpa using c3|(simp at c3 ⊢;omega)
  obtain rfl:=Option.some.inj H
  go_enter Tryz.func47,Tryz.ntmps47
  go_wp2
  repeat (go_quiet (fail);try go_wp2)
  go_ret
  exact⟨by first|rfl|(simp;done)|(simp [*];done),by repeat (first|exact qar.refl _|apply qar.step)⟩
def cert_Same.f (k:Nat) (aa:Int) (ac:Int) (ae:List (S58)) (af:Int) (ag:Int) (ah:List Int) (ai:List Int) (aj:List (S60)) (ak:Int) (al:Int) (am:List (S58)) (an:Int) (ap:Int) (aq:List Int) (ar:List Int) (au:List (S60)):Option (Bool):=(tasks_Same.f k aa ac ae ak al am).bind fun av=>(if av=true then (if af=an then (if ag=ap then ((slices_Equal_int_int.f k ah aq).bind fun aw=>(if aw=true then ((slices_Equal_int64_int64.f k ai ar).bind fun t146=>(if t146=true then ((api_Bound_47.f k aj au).bind fun ax=>(some ax)) else (some false))) else (some false))) else (some false)) else (some false)) else (some false))
theorem cert_Same.calls (k:Nat) (ap:Int) (aq:Int) (aK:Option Addr) (aM:Nat) (am:List (S58)) (aE:Int) (aG:Int) (aW:Option Addr) (aY:Nat) (az:List Int) (aZ:Option Addr) (a8:Nat) (ax:List Int) (ba:Option Addr) (bf:Nat) (av:List (S60)) (ar:Int) (au:Int) (aN:Option Addr) (aQ:Nat) (an:List (S58)) (aH:Int) (aI:Int) (bg:Option Addr) (bh:Nat) (aA:List Int) (bj:Option Addr) (bl:Nat) (ay:List Int) (bm:Option Addr) (bn:Nat) (aw:List (S60)) (r:Bool) (w:World) (bF:Kd.C k58 w aK am.length am) (bG:am.length≤aM) (bH:Kd.C (Kd.int .i64) w aW az.length az) (bI:az.length≤aY) (bJ:Kd.C (Kd.int .i64) w aZ ax.length ax) (bK:ax.length≤a8) (bL:Kd.C k60 w ba av.length av) (bM:av.length≤bf) (bN:Kd.C k58 w aN an.length an) (bO:an.length≤aQ) (bP:Kd.C (Kd.int .i64) w bg aA.length aA) (bQ:aA.length≤bh) (bR:Kd.C (Kd.int .i64) w bj ay.length ay) (bS:ay.length≤bl) (bT:Kd.C k60 w bm aw.length aw) (bU:aw.length≤bn) (h:cert_Same.f k ap aq am aE aG az ax av ar au an aH aI aA ay aw=some r) :
  Calls Tryz.prog 14 #[.agg #[.int .i64 ap,.int .i64 aq,.slice aK am.length aM,.int .i64 aE,.int .i64 aG,.slice aW az.length aY,.slice aZ ax.length a8,.slice ba av.length bf],.agg #[.int .i64 ar,.int .i64 au,.slice aN an.length aQ,.int .i64 aH,.int .i64 aI,.slice bg aA.length bh,.slice bj ay.length bl,.slice bm aw.length bn]] w fun e w'=>e=.returned (.bool r)∧Below w.heap.size w w':=by
 have lx:=Tryz.underlying43
 have ly:=Tryz.underlying37
 have aR:=qaa.mk bF
 have aT:=qaa.mk bG
 clear bF bG
 have bz:=qaa.mk bH
 have bB:=qaa.mk bI
 clear bH bI
 have bV:=qaa.mk bJ
 have bW:=qaa.mk bK
 clear bJ bK
 have b8:=qaa.mk bL
 have b9:=qaa.mk bM
 clear bL bM
 have aU:=qaa.mk bN
 have aV:=qaa.mk bO
 clear bN bO
 have bC:=qaa.mk bP
 have bD:=qaa.mk bQ
 clear bP bQ
 have bY:=qaa.mk bR
 have bZ:=qaa.mk bS
 clear bR bS
 have ca:=qaa.mk bT
 have cb:=qaa.mk bU
 clear bT bU
 have HB:=qaa.mk (Below.refl w.heap.size w)
 have H:((tasks_Same.f k ap aq am ar au an).bind fun bE=>(if bE=true then (if aE=aH then (if aG=aI then ((slices_Equal_int_int.f k az aA).bind fun bp=>(if bp=true then ((slices_Equal_int64_int64.f k ax ay).bind fun t146=>(if t146=true then ((api_Bound_47.f k av aw).bind fun aJ=>(some aJ)) else (some false))) else (some false))) else (some false)) else (some false)) else (some false)))=some r:=h
 clear h
 replace H:=Option.bind_eq_some_iff.mp H
 obtain⟨bE,kO,H⟩:=H
 replace H:(if bE=true then (if aE=aH then (if aG=aI then ((slices_Equal_int_int.f k az aA).bind fun bp=>(if bp=true then ((slices_Equal_int64_int64.f k ax ay).bind fun t146=>(if t146=true then ((api_Bound_47.f k av aw).bind fun aJ=>(some aJ)) else (some false))) else (some false))) else (some false)) else (some false)) else (some false))=some r:=H
 have A3:=qaa.mk kO
 clear kO
 by_cases c4:bE=true
 ·subst c4
  have H1:(if aE=aH then (if aG=aI then ((slices_Equal_int_int.f k az aA).bind fun bp=>(if bp=true then ((slices_Equal_int64_int64.f k ax ay).bind fun t146=>(if t146=true then ((api_Bound_47.f k av aw).bind fun aJ=>(some aJ)) else (some false))) else (some false))) else (some false)) else (some false))=some r:=by rw [if_pos rfl] at H;exact H
  clear H
  have H:=H1
  clear H1
  by_cases c5:aE=aH
  ·rw [if_pos c5] at H
   have kK:(aE == aH)=true:=beq_iff_eq.mpr c5
   have kL:(aE != aH)=false:=bne_eq_false_iff_eq.mpr c5
   clear c5
   by_cases c6:aG=aI
   ·rw [if_pos c6] at H
    have kM:(aG == aI)=true:=beq_iff_eq.mpr c6
    have kN:(aG != aI)=false:=bne_eq_false_iff_eq.mpr c6
    clear c6
    replace H:=Option.bind_eq_some_iff.mp H
    obtain⟨bp,kP,H⟩:=H
    replace H:(if bp=true then ((slices_Equal_int64_int64.f k ax ay).bind fun t146=>(if t146=true then ((api_Bound_47.f k av aw).bind fun aJ=>(some aJ)) else (some false))) else (some false))=some r:=H
    have A7:=qaa.mk kP
    clear kP
    by_cases c8:bp=true
    ·subst c8
     have H1:((slices_Equal_int64_int64.f k ax ay).bind fun t146=>(if t146=true then ((api_Bound_47.f k av aw).bind fun aJ=>(some aJ)) else (some false)))=some r:=by rw [if_pos rfl] at H;exact H
     clear H
     have H:=H1
     clear H1
     replace H:=Option.bind_eq_some_iff.mp H
     obtain⟨t146,kQ,H⟩:=H
     replace H:(if t146=true then ((api_Bound_47.f k av aw).bind fun aJ=>(some aJ)) else (some false))=some r:=H
     have A9:=qaa.mk kQ
     clear kQ
     by_cases cf:t146=true
     ·subst cf
      have H1:((api_Bound_47.f k av aw).bind fun aJ=>(some aJ))=some r:=by rw [if_pos rfl] at H;exact H
      clear H
      have H:=H1
      clear H1
      replace H:=Option.bind_eq_some_iff.mp H
      obtain⟨aJ,cd,H⟩:=H
      replace H:(some aJ)=some r:=H
      have lz:=qaa.mk cd
      clear cd
      obtain rfl:=Option.some.inj H
      go_enter Tryz.func14,Tryz.ntmps14
      go_wp2_with (first|((with_reducible refine qaq (N:=2) rfl ?_);refine qap ?hg (N:=2) ?hd (cs:=#[.int .i64 ap,.int .i64 aq,.slice aK am.length aM,.int .i64 aE,.int .i64 aG,.slice aW az.length aY,.slice aZ ax.length a8,.slice ba av.length bf]) (t:=43) ?hr ?_;(case hd=>rfl);(case hg=>rfl);(case hr=>first|(go_simp;done)|(go_simp;rfl));intro ae hg lA hbox hb;have aa:=qaa.mk (hbox);have bt:=qaa.mk ((by rw [hg];exact (qac sB):w.heap.size≤ae));have aC:=qaa.mk ((by rw [hg];exact (qac sB):w.heap.size≤ae));replace HB:=qaa.mk (qai sB hb);clear hb hbox hg)|((with_reducible refine qaq (N:=3) rfl ?_);refine qap ?hg (N:=3) ?hd (cs:=#[.int .i64 ar,.int .i64 au,.slice aN an.length aQ,.int .i64 aH,.int .i64 aI,.slice bg aA.length bh,.slice bj ay.length bl,.slice bm aw.length bn]) (t:=43) ?hr ?_;(case hd=>rfl);(case hg=>rfl);(case hr=>first|(go_simp;done)|(go_simp;rfl));intro af hg kR hbox hb;have ac:=qaa.mk (hbox);have bx:=qaa.mk ((by rw [hg];exact (qac sB):w.heap.size≤af));have aD:=qaa.mk ((by rw [hg];exact (qac sB):w.heap.size≤af));replace HB:=qaa.mk (qai sB hb);have ag:=qaa.mk ((by rw [hg];exact Nat.ne_of_lt (sLt aa.out):ae≠af));have ah:=qaa.mk ((by rw [hg];exact Nat.ne_of_gt (sLt aa.out):af≠ae));replace aa:=qaa.mk (sKb aa.out hb);clear hb hbox hg;have kS:=ag.out;have kT:=ah.out;obtain⟨cg,cj,ck,cm,cn,co,cp,cq⟩:=sC8 (w:=kR) aa.out;obtain⟨cr,ct,cx,cy,cz,cA,cB,cC⟩:=sF8 aa.out;obtain⟨cD,cE,cF,cG,cH,cI,cJ,cK⟩:=sC8 (w:=kR) ac.out;obtain⟨cL,cM,cN,cO,cP,cR,cS,cT⟩:=sF8 ac.out)|((with_reducible refine qax (f:=44) rfl ?_);refine goesL_ (some 11) rfl rfl Tryz.func44 (by kernel_rfl) rfl #[.agg #[.int .i64 ap,.int .i64 aq,.slice aK am.length aM],.agg #[.int .i64 ar,.int .i64 au,.slice aN an.length aQ]] rfl (by (try simp only [List.map_toArray,List.map_cons,List.map_nil]);first|done|rfl|(simp only [List.length_drop,List.length_take];rfl)) ?_;(with_reducible refine (tasks_Same.calls k ap aq _ _ am ar au _ _ an true _ ?ai ?aj ?ak ?al A3.out).mono ?_);(case ai=>repeat (first|exact (Kd.C_below aR.out HB.out)|(with_reducible refine Kd.C_alloc ?_ _)|(with_reducible refine Kd.C_drewN ?_ _)|(with_reducible refine Kd.C_drew ?_)));(case aj=>exact aT.out);(case ak=>repeat (first|exact (Kd.C_below aU.out HB.out)|(with_reducible refine Kd.C_alloc ?_ _)|(with_reducible refine Kd.C_drewN ?_ _)|(with_reducible refine Kd.C_drew ?_)));(case al=>exact aV.out);rintro e kU ⟨rfl,hb⟩;refine⟨_,rfl,?_⟩;replace aa:=qaa.mk (sKb aa.out hb);replace ac:=qaa.mk (sKb ac.out hb);replace HB:=qaa.mk (qai sB hb);(try clear hb);(try clear ce);(try clear hk);(try clear hi);obtain⟨cU,cV,cW,cY,cZ,da,db,dc⟩:=sC8 (w:=kU) aa.out;obtain⟨de,df,dg,dh,di,dj,dk,dl⟩:=sF8 aa.out;obtain⟨dm,dn,dp,dq,dr,dt,du,dv⟩:=sC8 (w:=kU) ac.out;obtain⟨dw,dx,dy,dz,dA,dB,dC,dD⟩:=sF8 ac.out)|(go_at_call 45;(with_reducible refine (slices_Equal_int_int.calls k _ _ az _ _ aA true _ ?ai ?aj ?ak ?al A7.out).mono ?_);(case ai=>repeat (first|exact (Kd.C_below bz.out HB.out)|(with_reducible refine Kd.C_alloc ?_ _)|(with_reducible refine Kd.C_drewN ?_ _)|(with_reducible refine Kd.C_drew ?_)));(case aj=>exact bB.out);(case ak=>repeat (first|exact (Kd.C_below bC.out HB.out)|(with_reducible refine Kd.C_alloc ?_ _)|(with_reducible refine Kd.C_drewN ?_ _)|(with_reducible refine Kd.C_drew ?_)));(case al=>exact bD.out);rintro e w' ⟨rfl,⟨nd,rfl⟩⟩)|(go_at_call 46;(with_reducible refine (slices_Equal_int64_int64.calls k _ _ ax _ _ ay true _ ?ai ?aj ?ak ?al A9.out).mono ?_);(case ai=>repeat (first|exact (Kd.C_below bV.out sB)|(with_reducible refine Kd.C_alloc ?_ _)|(with_reducible refine Kd.C_drewN ?_ _)|(with_reducible refine Kd.C_drew ?_)));(case aj=>exact bW.out);(case ak=>repeat (first|exact (Kd.C_below bY.out sB)|(with_reducible refine Kd.C_alloc ?_ _)|(with_reducible refine Kd.C_drewN ?_ _)|(with_reducible refine Kd.C_drew ?_)));(case al=>exact bZ.out);rintro e w' ⟨rfl,⟨nd,rfl⟩⟩)|(go_at_call 47;(with_reducible refine (api_Bound_47.calls k _ _ av _ _ aw aJ _ ?ai ?aj ?ak ?al lz.out).mono ?_);(case ai=>repeat (first|exact (Kd.C_below b8.out sB)|(with_reducible refine Kd.C_alloc ?_ _)|(with_reducible refine Kd.C_drewN ?_ _)|(with_reducible refine Kd.C_drew ?_)));(case aj=>exact b9.out);(case ak=>repeat (first|exact (Kd.C_below ca.out sB)|(with_reducible refine Kd.C_alloc ?_ _)|(with_reducible refine Kd.C_drewN ?_ _)|(with_reducible refine Kd.C_drew ?_)));(case al=>exact cb.out);rintro e w' ⟨rfl,⟨nd,rfl⟩⟩))
      go_ret
      exact⟨by first|rfl|(simp [qak,qaj]<;>rfl)|(simp [bneNil,bneNilU]<;>rfl)|(simp [*,qak,qaj]<;>rfl),by repeat (first|(with_reducible first|exact HB.out|apply qag|apply qab|apply qaf|refine qah ?_ aC.out|refine qah ?_ aD.out)|exact HB.out)⟩
     ·replace cf:=Bool.eq_false_iff.mpr cf
      subst cf
      have H1:(some false)=some r:=by rw [if_neg (show ¬ (false=true) by decide)] at H;exact H
      clear H
      have H:=H1
      clear H1
      obtain rfl:=Option.some.inj H
      go_enter Tryz.func14,Tryz.ntmps14
      go_wp2_with (first|((with_reducible refine qaq (N:=2) rfl ?_);refine qap ?hg (N:=2) ?hd (cs:=#[.int .i64 ap,.int .i64 aq,.slice aK am.length aM,.int .i64 aE,.int .i64 aG,.slice aW az.length aY,.slice aZ ax.length a8,.slice ba av.length bf]) (t:=43) ?hr ?_;(case hd=>rfl);(case hg=>rfl);(case hr=>first|(go_simp;done)|(go_simp;rfl));intro ae hg lB hbox hb;have aa:=qaa.mk (hbox);have bt:=qaa.mk ((by rw [hg];exact (qac sB):w.heap.size≤ae));have aC:=qaa.mk ((by rw [hg];exact (qac sB):w.heap.size≤ae));replace HB:=qaa.mk (qai sB hb);clear hb hbox hg)|((with_reducible refine qaq (N:=3) rfl ?_);refine qap ?hg (N:=3) ?hd (cs:=#[.int .i64 ar,.int .i64 au,.slice aN an.length aQ,.int .i64 aH,.int .i64 aI,.slice bg aA.length bh,.slice bj ay.length bl,.slice bm aw.length bn]) (t:=43) ?hr ?_;(case hd=>rfl);(case hg=>rfl);(case hr=>first|(go_simp;done)|(go_simp;rfl));intro af hg kV hbox hb;have ac:=qaa.mk (hbox);have bx:=qaa.mk ((by rw [hg];exact (qac sB):w.heap.size≤af));have aD:=qaa.mk ((by rw [hg];exact (qac sB):w.heap.size≤af));replace HB:=qaa.mk (qai sB hb);have ag:=qaa.mk ((by rw [hg];exact Nat.ne_of_lt (sLt aa.out):ae≠af));have ah:=qaa.mk ((by rw [hg];exact Nat.ne_of_gt (sLt aa.out):af≠ae));replace aa:=qaa.mk (sKb aa.out hb);clear hb hbox hg;have kW:=ag.out;have kX:=ah.out;obtain⟨dE,dF,dG,dH,dI,dJ,dK,dL⟩:=sC8 (w:=kV) aa.out;obtain⟨dM,dN,dO,dP,dQ,dT,dU,dV⟩:=sF8 aa.out;obtain⟨dW,dX,dY,dZ,d9,ea,eb,ec⟩:=sC8 (w:=kV) ac.out;obtain⟨ed,ef,eg,eh,ek,el,en,ep⟩:=sF8 ac.out)|((with_reducible refine qax (f:=44) rfl ?_);refine goesL_ (some 11) rfl rfl Tryz.func44 (by kernel_rfl) rfl #[.agg #[.int .i64 ap,.int .i64 aq,.slice aK am.length aM],.agg #[.int .i64 ar,.int .i64 au,.slice aN an.length aQ]] rfl (by (try simp only [List.map_toArray,List.map_cons,List.map_nil]);first|done|rfl|(simp only [List.length_drop,List.length_take];rfl)) ?_;(with_reducible refine (tasks_Same.calls k ap aq _ _ am ar au _ _ an true _ ?ai ?aj ?ak ?al A3.out).mono ?_);(case ai=>repeat (first|exact (Kd.C_below aR.out HB.out)|(with_reducible refine Kd.C_alloc ?_ _)|(with_reducible refine Kd.C_drewN ?_ _)|(with_reducible refine Kd.C_drew ?_)));(case aj=>exact aT.out);(case ak=>repeat (first|exact (Kd.C_below aU.out HB.out)|(with_reducible refine Kd.C_alloc ?_ _)|(with_reducible refine Kd.C_drewN ?_ _)|(with_reducible refine Kd.C_drew ?_)));(case al=>exact aV.out);rintro e kY ⟨rfl,hb⟩;refine⟨_,rfl,?_⟩;replace aa:=qaa.mk (sKb aa.out hb);replace ac:=qaa.mk (sKb ac.out hb);replace HB:=qaa.mk (qai sB hb);(try clear hb);(try clear ce);(try clear hk);(try clear hi);obtain⟨eq,er,es,et,eu,ev,ew,ex⟩:=sC8 (w:=kY) aa.out;obtain⟨ey,ez,eB,eC,eD,eE,eF,eG⟩:=sF8 aa.out;obtain⟨eH,eI,eJ,eK,eL,eM,eN,eO⟩:=sC8 (w:=kY) ac.out;obtain⟨eP,eQ,eR,eS,eT,eU,eV,eW⟩:=sF8 ac.out)|(go_at_call 45;(with_reducible refine (slices_Equal_int_int.calls k _ _ az _ _ aA true _ ?ai ?aj ?ak ?al A7.out).mono ?_);(case ai=>repeat (first|exact (Kd.C_below bz.out HB.out)|(with_reducible refine Kd.C_alloc ?_ _)|(with_reducible refine Kd.C_drewN ?_ _)|(with_reducible refine Kd.C_drew ?_)));(case aj=>exact bB.out);(case ak=>repeat (first|exact (Kd.C_below bC.out HB.out)|(with_reducible refine Kd.C_alloc ?_ _)|(with_reducible refine Kd.C_drewN ?_ _)|(with_reducible refine Kd.C_drew ?_)));(case al=>exact bD.out);rintro e w' ⟨rfl,⟨nd,rfl⟩⟩)|(go_at_call 46;(with_reducible refine (slices_Equal_int64_int64.calls k _ _ ax _ _ ay false _ ?ai ?aj ?ak ?al A9.out).mono ?_);(case ai=>repeat (first|exact (Kd.C_below bV.out sB)|(with_reducible refine Kd.C_alloc ?_ _)|(with_reducible refine Kd.C_drewN ?_ _)|(with_reducible refine Kd.C_drew ?_)));(case aj=>exact bW.out);(case ak=>repeat (first|exact (Kd.C_below bY.out sB)|(with_reducible refine Kd.C_alloc ?_ _)|(with_reducible refine Kd.C_drewN ?_ _)|(with_reducible refine Kd.C_drew ?_)));(case al=>exact bZ.out);rintro e w' ⟨rfl,⟨nd,rfl⟩⟩))
      go_ret
      exact⟨by first|rfl|(simp [qak,qaj]<;>rfl)|(simp [bneNil,bneNilU]<;>rfl)|(simp [*,qak,qaj]<;>rfl),by repeat (first|(with_reducible first|exact HB.out|apply qag|apply qab|apply qaf|refine qah ?_ aC.out|refine qah ?_ aD.out)|exact HB.out)⟩
    ·replace c8:=Bool.eq_false_iff.mpr c8
     subst c8
     have H1:(some false)=some r:=by rw [if_neg (show ¬ (false=true) by decide)] at H;exact H
     clear H
     have H:=H1
     clear H1
     obtain rfl:=Option.some.inj H
     go_enter Tryz.func14,Tryz.ntmps14
     go_wp2_with (first|((with_reducible refine qaq (N:=2) rfl ?_);refine qap ?hg (N:=2) ?hd (cs:=#[.int .i64 ap,.int .i64 aq,.slice aK am.length aM,.int .i64 aE,.int .i64 aG,.slice aW az.length aY,.slice aZ ax.length a8,.slice ba av.length bf]) (t:=43) ?hr ?_;(case hd=>rfl);(case hg=>rfl);(case hr=>first|(go_simp;done)|(go_simp;rfl));intro ae hg lC hbox hb;have aa:=qaa.mk (hbox);have bt:=qaa.mk ((by rw [hg];exact (qac sB):w.heap.size≤ae));have aC:=qaa.mk ((by rw [hg];exact (qac sB):w.heap.size≤ae));replace HB:=qaa.mk (qai sB hb);clear hb hbox hg)|((with_reducible refine qaq (N:=3) rfl ?_);refine qap ?hg (N:=3) ?hd (cs:=#[.int .i64 ar,.int .i64 au,.slice aN an.length aQ,.int .i64 aH,.int .i64 aI,.slice bg aA.length bh,.slice bj ay.length bl,.slice bm aw.length bn]) (t:=43) ?hr ?_;(case hd=>rfl);(case hg=>rfl);(case hr=>first|(go_simp;done)|(go_simp;rfl));intro af hg kZ hbox hb;have ac:=qaa.mk (hbox);have bx:=qaa.mk ((by rw [hg];exact (qac sB):w.heap.size≤af));have aD:=qaa.mk ((by rw [hg];exact (qac sB):w.heap.size≤af));replace HB:=qaa.mk (qai sB hb);have ag:=qaa.mk ((by rw [hg];exact Nat.ne_of_lt (sLt aa.out):ae≠af));have ah:=qaa.mk ((by rw [hg];exact Nat.ne_of_gt (sLt aa.out):af≠ae));replace aa:=qaa.mk (sKb aa.out hb);clear hb hbox hg;have k9:=ag.out;have ld:=ah.out;obtain⟨eX,eY,eZ,fa,fb,fc,fe,ff⟩:=sC8 (w:=kZ) aa.out;obtain⟨fg,fh,fj,fk,fl,fm,fo,fp⟩:=sF8 aa.out;obtain⟨fq,ft,fu,fv,fw,fx,fy,fz⟩:=sC8 (w:=kZ) ac.out;obtain⟨fA,fB,fC,fD,fE,fF,fG,fH⟩:=sF8 ac.out)|((with_reducible refine qax (f:=44) rfl ?_);refine goesL_ (some 11) rfl rfl Tryz.func44 (by kernel_rfl) rfl #[.agg #[.int .i64 ap,.int .i64 aq,.slice aK am.length aM],.agg #[.int .i64 ar,.int .i64 au,.slice aN an.length aQ]] rfl (by (try simp only [List.map_toArray,List.map_cons,List.map_nil]);first|done|rfl|(simp only [List.length_drop,List.length_take];rfl)) ?_;(with_reducible refine (tasks_Same.calls k ap aq _ _ am ar au _ _ an true _ ?ai ?aj ?ak ?al A3.out).mono ?_);(case ai=>repeat (first|exact (Kd.C_below aR.out HB.out)|(with_reducible refine Kd.C_alloc ?_ _)|(with_reducible refine Kd.C_drewN ?_ _)|(with_reducible refine Kd.C_drew ?_)));(case aj=>exact aT.out);(case ak=>repeat (first|exact (Kd.C_below aU.out HB.out)|(with_reducible refine Kd.C_alloc ?_ _)|(with_reducible refine Kd.C_drewN ?_ _)|(with_reducible refine Kd.C_drew ?_)));(case al=>exact aV.out);rintro e le ⟨rfl,hb⟩;refine⟨_,rfl,?_⟩;replace aa:=qaa.mk (sKb aa.out hb);replace ac:=qaa.mk (sKb ac.out hb);replace HB:=qaa.mk (qai sB hb);(try clear hb);(try clear ce);(try clear hk);(try clear hi);obtain⟨fI,fJ,fK,fL,fM,fN,fO,fP⟩:=sC8 (w:=le) aa.out;obtain⟨fQ,fR,fS,fT,fU,fV,fW,fX⟩:=sF8 aa.out;obtain⟨fY,fZ,ga,gb,gc,ge,gg,gh⟩:=sC8 (w:=le) ac.out;obtain⟨gi,gj,gm,gn,gp,gq,gr,gt⟩:=sF8 ac.out)|(go_at_call 45;(with_reducible refine (slices_Equal_int_int.calls k _ _ az _ _ aA false _ ?ai ?aj ?ak ?al A7.out).mono ?_);(case ai=>repeat (first|exact (Kd.C_below bz.out HB.out)|(with_reducible refine Kd.C_alloc ?_ _)|(with_reducible refine Kd.C_drewN ?_ _)|(with_reducible refine Kd.C_drew ?_)));(case aj=>exact bB.out);(case ak=>repeat (first|exact (Kd.C_below bC.out HB.out)|(with_reducible refine Kd.C_alloc ?_ _)|(with_reducible refine Kd.C_drewN ?_ _)|(with_reducible refine Kd.C_drew ?_)));(case al=>exact bD.out);rintro e w' ⟨rfl,⟨nd,rfl⟩⟩))
     go_ret
     exact⟨by first|rfl|(simp [qak,qaj]<;>rfl)|(simp [bneNil,bneNilU]<;>rfl)|(simp [*,qak,qaj]<;>rfl),by repeat (first|(with_reducible first|exact HB.out|apply qag|apply qab|apply qaf|refine qah ?_ aC.out|refine qah ?_ aD.out)|exact HB.out)⟩
   ·rw [if_neg c6] at H
    have kM:(aG == aI)=false:=beq_eq_false_iff_ne.mpr c6
    have kN:(aG != aI)=true:=bne_iff_ne.mpr c6
    obtain rfl:=Option.some.inj H
    go_enter Tryz.func14,Tryz.ntmps14
    go_wp2_with (first|((with_reducible refine qaq (N:=2) rfl ?_);refine qap ?hg (N:=2) ?hd (cs:=#[.int .i64 ap,.int .i64 aq,.slice aK am.length aM,.int .i64 aE,.int .i64 aG,.slice aW az.length aY,.slice aZ ax.length a8,.slice ba av.length bf]) (t:=43) ?hr ?_;(case hd=>rfl);(case hg=>rfl);(case hr=>first|(go_simp;done)|(go_simp;rfl));intro ae hg lD hbox hb;have aa:=qaa.mk (hbox);have bt:=qaa.mk ((by rw [hg];exact (qac sB):w.heap.size≤ae));have aC:=qaa.mk ((by rw [hg];exact (qac sB):w.heap.size≤ae));replace HB:=qaa.mk (qai sB hb);clear hb hbox hg)|((with_reducible refine qaq (N:=3) rfl ?_);refine qap ?hg (N:=3) ?hd (cs:=#[.int .i64 ar,.int .i64 au,.slice aN an.length aQ,.int .i64 aH,.int .i64 aI,.slice bg aA.length bh,.slice bj ay.length bl,.slice bm aw.length bn]) (t:=43) ?hr ?_;(case hd=>rfl);(case hg=>rfl);(case hr=>first|(go_simp;done)|(go_simp;rfl));intro af hg lf hbox hb;have ac:=qaa.mk (hbox);have bx:=qaa.mk ((by rw [hg];exact (qac sB):w.heap.size≤af));have aD:=qaa.mk ((by rw [hg];exact (qac sB):w.heap.size≤af));replace HB:=qaa.mk (qai sB hb);have ag:=qaa.mk ((by rw [hg];exact Nat.ne_of_lt (sLt aa.out):ae≠af));have ah:=qaa.mk ((by rw [hg];exact Nat.ne_of_gt (sLt aa.out):af≠ae));replace aa:=qaa.mk (sKb aa.out hb);clear hb hbox hg;have lg:=ag.out;have lh:=ah.out;obtain⟨gu,gv,gw,gx,gy,gz,gB,gC⟩:=sC8 (w:=lf) aa.out;obtain⟨gD,gE,gF,gG,gH,gI,gJ,gK⟩:=sF8 aa.out;obtain⟨gL,gM,gN,gO,gP,gQ,gR,gS⟩:=sC8 (w:=lf) ac.out;obtain⟨gT,gU,gV,gW,gX,gY,gZ,hU⟩:=sF8 ac.out)|((with_reducible refine qax (f:=44) rfl ?_);refine goesL_ (some 11) rfl rfl Tryz.func44 (by kernel_rfl) rfl #[.agg #[.int .i64 ap,.int .i64 aq,.slice aK am.length aM],.agg #[.int .i64 ar,.int .i64 au,.slice aN an.length aQ]] rfl (by (try simp only [List.map_toArray,List.map_cons,List.map_nil]);first|done|rfl|(simp only [List.length_drop,List.length_take];rfl)) ?_;(with_reducible refine (tasks_Same.calls k ap aq _ _ am ar au _ _ an true _ ?ai ?aj ?ak ?al A3.out).mono ?_);(case ai=>repeat (first|exact (Kd.C_below aR.out HB.out)|(with_reducible refine Kd.C_alloc ?_ _)|(with_reducible refine Kd.C_drewN ?_ _)|(with_reducible refine Kd.C_drew ?_)));(case aj=>exact aT.out);(case ak=>repeat (first|exact (Kd.C_below aU.out HB.out)|(with_reducible refine Kd.C_alloc ?_ _)|(with_reducible refine Kd.C_drewN ?_ _)|(with_reducible refine Kd.C_drew ?_)));(case al=>exact aV.out);rintro e ll ⟨rfl,hb⟩;refine⟨_,rfl,?_⟩;replace aa:=qaa.mk (sKb aa.out hb);replace ac:=qaa.mk (sKb ac.out hb);replace HB:=qaa.mk (qai sB hb);(try clear hb);(try clear ce);(try clear hk);(try clear hi);obtain⟨ia,ic,ie,ig,ii,ij,ik,il⟩:=sC8 (w:=ll) aa.out;obtain⟨im,io,ip,iq,ir,iu,iv,iw⟩:=sF8 aa.out;obtain⟨iy,iz,iA,iB,iC,iD,iE,iF⟩:=sC8 (w:=ll) ac.out;obtain⟨iG,iH,iI,iJ,iK,iL,iM,iN⟩:=sF8 ac.out))
    go_ret
    exact⟨by first|rfl|(simp [qak,qaj]<;>rfl)|(simp [bneNil,bneNilU]<;>rfl)|(simp [*,qak,qaj]<;>rfl),by repeat (first|(with_reducible first|exact HB.out|apply qag|apply qab|apply qaf|refine qah ?_ aC.out|refine qah ?_ aD.out)|exact HB.out)⟩
  ·rw [if_neg c5] at H
   have kK:(aE == aH)=false:=beq_eq_false_iff_ne.mpr c5
   have kL:(aE != aH)=true:=bne_iff_ne.mpr c5
   obtain rfl:=Option.some.inj H
   go_enter Tryz.func14,Tryz.ntmps14
   go_wp2_with (first|((with_reducible refine qaq (N:=2) rfl ?_);refine qap ?hg (N:=2) ?hd (cs:=#[.int .i64 ap,.int .i64 aq,.slice aK am.length aM,.int .i64 aE,.int .i64 aG,.slice aW az.length aY,.slice aZ ax.length a8,.slice ba av.length bf]) (t:=43) ?hr ?_;(case hd=>rfl);(case hg=>rfl);(case hr=>first|(go_simp;done)|(go_simp;rfl));intro ae hg lE hbox hb;have aa:=qaa.mk (hbox);have bt:=qaa.mk ((by rw [hg];exact (qac sB):w.heap.size≤ae));have aC:=qaa.mk ((by rw [hg];exact (qac sB):w.heap.size≤ae));replace HB:=qaa.mk (qai sB hb);clear hb hbox hg)|((with_reducible refine qaq (N:=3) rfl ?_);refine qap ?hg (N:=3) ?hd (cs:=#[.int .i64 ar,.int .i64 au,.slice aN an.length aQ,.int .i64 aH,.int .i64 aI,.slice bg aA.length bh,.slice bj ay.length bl,.slice bm aw.length bn]) (t:=43) ?hr ?_;(case hd=>rfl);(case hg=>rfl);(case hr=>first|(go_simp;done)|(go_simp;rfl));intro af hg lm hbox hb;have ac:=qaa.mk (hbox);have bx:=qaa.mk ((by rw [hg];exact (qac sB):w.heap.size≤af));have aD:=qaa.mk ((by rw [hg];exact (qac sB):w.heap.size≤af));replace HB:=qaa.mk (qai sB hb);have ag:=qaa.mk ((by rw [hg];exact Nat.ne_of_lt (sLt aa.out):ae≠af));have ah:=qaa.mk ((by rw [hg];exact Nat.ne_of_gt (sLt aa.out):af≠ae));replace aa:=qaa.mk (sKb aa.out hb);clear hb hbox hg;have ln:=ag.out;have lp:=ah.out;obtain⟨iO,iP,iQ,iR,iS,iT,iU,iV⟩:=sC8 (w:=lm) aa.out;obtain⟨iW,iX,iY,iZ,i7,i8,ja,jb⟩:=sF8 aa.out;obtain⟨jc,jd,je,jf,jg,jh,ji,jj⟩:=sC8 (w:=lm) ac.out;obtain⟨jk,jl,jm,jn,jo,jp,jq,jr⟩:=sF8 ac.out)|((with_reducible refine qax (f:=44) rfl ?_);refine goesL_ (some 11) rfl rfl Tryz.func44 (by kernel_rfl) rfl #[.agg #[.int .i64 ap,.int .i64 aq,.slice aK am.length aM],.agg #[.int .i64 ar,.int .i64 au,.slice aN an.length aQ]] rfl (by (try simp only [List.map_toArray,List.map_cons,List.map_nil]);first|done|rfl|(simp only [List.length_drop,List.length_take];rfl)) ?_;(with_reducible refine (tasks_Same.calls k ap aq _ _ am ar au _ _ an true _ ?ai ?aj ?ak ?al A3.out).mono ?_);(case ai=>repeat (first|exact (Kd.C_below aR.out HB.out)|(with_reducible refine Kd.C_alloc ?_ _)|(with_reducible refine Kd.C_drewN ?_ _)|(with_reducible refine Kd.C_drew ?_)));(case aj=>exact aT.out);(case ak=>repeat (first|exact (Kd.C_below aU.out HB.out)|(with_reducible refine Kd.C_alloc ?_ _)|(with_reducible refine Kd.C_drewN ?_ _)|(with_reducible refine Kd.C_drew ?_)));(case al=>exact aV.out);rintro e lq ⟨rfl,hb⟩;refine⟨_,rfl,?_⟩;replace aa:=qaa.mk (sKb aa.out hb);replace ac:=qaa.mk (sKb ac.out hb);replace HB:=qaa.mk (qai sB hb);(try clear hb);(try clear ce);(try clear hk);(try clear hi);obtain⟨js,jt,ju,jv,jw,jx,jy,jz⟩:=sC8 (w:=lq) aa.out;obtain⟨jA,jB,jC,jD,jE,jF,jG,jH⟩:=sF8 aa.out;obtain⟨jI,jJ,jK,jL,jM,jN,jO,jP⟩:=sC8 (w:=lq) ac.out;obtain⟨jQ,jR,jS,jT,jU,jV,jW,jX⟩:=sF8 ac.out))
   go_ret
   exact⟨by first|rfl|(simp [qak,qaj]<;>rfl)|(simp [bneNil,bneNilU]<;>rfl)|(simp [*,qak,qaj]<;>rfl),by repeat (first|(with_reducible first|exact HB.out|apply qag|apply qab|apply qaf|refine qah ?_ aC.out|refine qah ?_ aD.out)|exact HB.out)⟩
 ·replace c4:=Bool.eq_false_iff.mpr c4
  subst c4
  have H1:(some false)=some r:=by rw [if_neg (show ¬ (false=true) by decide)] at H;exact H
  clear H
  have H:=H1
  clear H1
  obtain rfl:=Option.some.inj H
  go_enter Tryz.func14,Tryz.ntmps14
  go_wp2_with (first|((with_reducible refine qaq (N:=2) rfl ?_);refine qap ?hg (N:=2) ?hd (cs:=#[.int .i64 ap,.int .i64 aq,.slice aK am.length aM,.int .i64 aE,.int .i64 aG,.slice aW az.length aY,.slice aZ ax.length a8,.slice ba av.length bf]) (t:=43) ?hr ?_;(case hd=>rfl);(case hg=>rfl);(case hr=>first|(go_simp;done)|(go_simp;rfl));intro ae hg lF hbox hb;have aa:=qaa.mk (hbox);have bt:=qaa.mk ((by rw [hg];exact (qac sB):w.heap.size≤ae));have aC:=qaa.mk ((by rw [hg];exact (qac sB):w.heap.size≤ae));replace HB:=qaa.mk (qai sB hb);clear hb hbox hg)|((with_reducible refine qaq (N:=3) rfl ?_);refine qap ?hg (N:=3) ?hd (cs:=#[.int .i64 ar,.int .i64 au,.slice aN an.length aQ,.int .i64 aH,.int .i64 aI,.slice bg aA.length bh,.slice bj ay.length bl,.slice bm aw.length bn]) (t:=43) ?hr ?_;(case hd=>rfl);(case hg=>rfl);(case hr=>first|(go_simp;done)|(go_simp;rfl));intro af hg lr hbox hb;have ac:=qaa.mk (hbox);have bx:=qaa.mk ((by rw [hg];exact (qac sB):w.heap.size≤af));have aD:=qaa.mk ((by rw [hg];exact (qac sB):w.heap.size≤af));replace HB:=qaa.mk (qai sB hb);have ag:=qaa.mk ((by rw [hg];exact Nat.ne_of_lt (sLt aa.out):ae≠af));have ah:=qaa.mk ((by rw [hg];exact Nat.ne_of_gt (sLt aa.out):af≠ae));replace aa:=qaa.mk (sKb aa.out hb);clear hb hbox hg;have ls:=ag.out;have lv:=ah.out;obtain⟨jY,jZ,j9,ka,kb,kc,kd,ke⟩:=sC8 (w:=lr) aa.out;obtain⟨kf,kg,ki,kj,kn,ko,kp,kr⟩:=sF8 aa.out;obtain⟨ks,ku,kv,kx,ky,kz,kA,kB⟩:=sC8 (w:=lr) ac.out;obtain⟨kC,kD,kE,kF,kG,kH,kI,kJ⟩:=sF8 ac.out)|((with_reducible refine qax (f:=44) rfl ?_);refine goesL_ (some 11) rfl rfl Tryz.func44 (by kernel_rfl) rfl #[.agg #[.int .i64 ap,.int .i64 aq,.slice aK am.length aM],.agg #[.int .i64 ar,.int .i64 au,.slice aN an.length aQ]] rfl (by (try simp only [List.map_toArray,List.map_cons,List.map_nil]);first|done|rfl|(simp only [List.length_drop,List.length_take];rfl)) ?_;(with_reducible refine (tasks_Same.calls k ap aq _ _ am ar au _ _ an false _ ?ai ?aj ?ak ?al A3.out).mono ?_);(case ai=>repeat (first|exact (Kd.C_below aR.out HB.out)|(with_reducible refine Kd.C_alloc ?_ _)|(with_reducible refine Kd.C_drewN ?_ _)|(with_reducible refine Kd.C_drew ?_)));(case aj=>exact aT.out);(case ak=>repeat (first|exact (Kd.C_below aU.out HB.out)|(with_reducible refine Kd.C_alloc ?_ _)|(with_reducible refine Kd.C_drewN ?_ _)|(with_reducible refine Kd.C_drew ?_)));(case al=>exact aV.out);rintro e lG ⟨rfl,hb⟩;refine⟨_,rfl,?_⟩;replace aa:=qaa.mk (sKb aa.out hb);replace ac:=qaa.mk (sKb ac.out hb);replace HB:=qaa.mk (qai sB hb);(try clear hb);(try clear ce);(try clear hk);(try clear hi)))
  go_ret
  exact⟨by first|rfl|(simp [qak,qaj]<;>rfl)|(simp [bneNil,bneNilU]<;>rfl)|(simp [*,qak,qaj]<;>rfl),by repeat (first|(with_reducible first|exact HB.out|apply qag|apply qab|apply qaf|refine qah ?_ aC.out|refine qah ?_ aD.out)|exact HB.out)⟩
end
end Go.Proofs.YtgnaaokhfpfglaaGreatDoor.PCertRight
end
section
namespace Go.Proofs.YtgnaaokhfpfglaaGreatDoor.PCertRight
open Go.RowKit Go.Proofs.YtgnaaokhfpfglaaGreatDoorW.PrintWords Go.Proofs.YtgnaaokhfpfglaaGreatDoorW.PrintLast Go.Proofs.YtgnaaokhfpfglaaGreatDoorW.PrintMore
attribute [local go_sem] max2_int min2_int max_two min_two max_three min_three max_four min_four
set_option linter.unusedVariables false
set_option linter.unusedSimpArgs false
noncomputable section
mutual
def ostinatoref05_Right.j0:Nat→Int→Bool→Int→Int→Int→Int→Int→List Int→List Int→Option (Int)
 |0,_,_,_,_,_,_,_,_,_=>none
 |k+1,x1,aj,af,aa,ac,ae,ag,ah,ai=>if aj=true then (some 1) else (if aa<1 then (ostinatoref05_Right.j1 k x1 true af aa ac ae ag ah ai) else (if aa > ac then (ostinatoref05_Right.j1 k x1 true af aa ac ae ag ah ai) else (if ac > ae then (ostinatoref05_Right.j1 k x1 true af aa ac ae ag ah ai) else (ostinatoref05_Right.j1 k x1 (decide (ae > 1073741824)) af aa ac ae ag ah ai))))
def ostinatoref05_Right.j1:Nat→Int→Bool→Int→Int→Int→Int→Int→List Int→List Int→Option (Int)
 |0,_,_,_,_,_,_,_,_,_=>none
 |k+1,x1,aj,ac,aa,ae,af,ag,ah,ai=>if aj=true then (some 10) else (ostinatoref05_Right.l0 k x1 aa 0 ac aa ae af ag ah ai)
def ostinatoref05_Right.l0:Nat→Int→Int→Int→Int→Int→Int→Int→Int→List Int→List Int→Option (Int)
 |0,_,_,_,_,_,_,_,_,_,_=>none
 |k+1,x1,x5,x6,ac,ae,af,ag,ah,aa,ai=>if x6<(aa.length:Int) then (if 0≤x6 then (if (rd aa x6)<1 then (some 13) else (if (rd aa x6) > x5 then (some 13) else (ostinatoref05_Right.l0 k x1 (wrap64 (x5 - (rd aa x6))) (wrap64 (x6+1)) ac ae af ag ah aa ai))) else (none)) else (if (aa.length:Int) > 64 then (ostinatoref05_Right.j3 k x1 true ac ae af ag ah aa ai) else (if (aa.length:Int) > 0 then (ostinatoref05_Right.j3 k x1 (x5 != 0) ac ae af ag ah aa ai) else (ostinatoref05_Right.j3 k x1 false ac ae af ag ah aa ai)))
def ostinatoref05_Right.j3:Nat→Int→Bool→Int→Int→Int→Int→Int→List Int→List Int→Option (Int)
 |0,_,_,_,_,_,_,_,_,_=>none
 |k+1,x1,aj,aa,ac,ae,af,ag,ah,ai=>if aj=true then (some 13) else (ostinatoref05_Right.l1 k x1 0 aa ac ae af ag ah ai)
def ostinatoref05_Right.l1:Nat→Int→Int→Int→Int→Int→Int→Int→List Int→List Int→Option (Int)
 |0,_,_,_,_,_,_,_,_,_=>none
 |k+1,x1,x7,ac,ae,af,ag,ah,ai,aa=>if x7<(aa.length:Int) then (if 0≤x7 then (if (rd aa x7)<0 then (some 12) else (if (rd aa x7) ≥ x1 then (some 12) else (ostinatoref05_Right.l1 k x1 (wrap64 (x7+1)) ac ae af ag ah ai aa))) else (none)) else (if (aa.length:Int) > 64 then (some 12) else (some 0))
end
def ostinatoref05_Right.f (k:Nat) (aa:Int) (ae:Int) (af:Int) (ag:Int) (ac:Int) (ah:List Int) (ai:List Int) (a1:Int):Option (Int):=if aa<1 then (ostinatoref05_Right.j0 k a1 true aa ae af ag ac ah ai) else (if aa > 99 then (ostinatoref05_Right.j0 k a1 true aa ae af ag ac ah ai) else (if ac<1 then (ostinatoref05_Right.j0 k a1 true aa ae af ag ac ah ai) else (ostinatoref05_Right.j0 k a1 (decide (ac > 99)) aa ae af ag ac ah ai)))
theorem ostinatoref05_Right.calls (k:Nat) (aj:Int) (ai:Int) (ak:Int) (am:Int) (an:Int) (dL:Option Addr) (dM:Nat) (ac:List Int) (dN:Option Addr) (dO:Nat) (ae:List Int) (a1:Int) (r:Int) (w:World) (gE:Kd.C (Kd.int .i64) w dL ac.length ac) (gF:ac.length≤dM) (gG:Kd.C (Kd.int .i64) w dN ae.length ae) (gH:ae.length≤dO) (h:ostinatoref05_Right.f k aj ai ak am an ac ae a1=some r) :
  Calls Tryz.prog 48 #[.agg #[.int .i64 aj,.int .i64 ai,.int .i64 ak,.int .i64 am,.int .i64 an,.slice dL ac.length dM,.slice dN ae.length dO],.int .i64 a1] w fun e w'=>e=.returned (.int .i64 r)∧Below w.heap.size w w':=by
 have jW:=Tryz.underlying58
 have dr:=qaa.mk gE
 have jN:=qaa.mk gF
 clear gE gF
 have dP:=qaa.mk gG
 have jO:=qaa.mk gH
 clear gG gH
 have HB:=qaa.mk (Below.refl w.heap.size w)
 have H:(if aj<1 then (ostinatoref05_Right.j0 k a1 true aj ai ak am an ac ae) else (if aj > 99 then (ostinatoref05_Right.j0 k a1 true aj ai ak am an ac ae) else (if an<1 then (ostinatoref05_Right.j0 k a1 true aj ai ak am an ac ae) else (ostinatoref05_Right.j0 k a1 (decide (an > 99)) aj ai ak am an ac ae))))=some r:=h
 clear h
 have jJ:=qaa.mk H
 clear H
 go_enter Tryz.func48,Tryz.ntmps48
 go_upto_region 1 with (first|((with_reducible refine qaq (N:=2) rfl ?_);(try (refine qaH (by rfl) ?_;dsimp only));refine qap ?hg (N:=2) ?hd (cs:=#[.int .i64 aj,.int .i64 ai,.int .i64 ak,.int .i64 am,.int .i64 an,.slice dL ac.length dM,.slice dN ae.length dO]) (t:=58) ?hr ?_;(case hd=>rfl);(case hg=>rfl);(case hr=>first|(go_simp;done)|(go_simp;rfl));intro cG hg w4 hbox hb;have aa:=qaa.mk (hbox);have jP:=qaa.mk ((by rw [hg];exact (qac sB):w.heap.size≤cG));have af:=qaa.mk ((by rw [hg];exact (qac sB):w.heap.size≤cG));replace HB:=qaa.mk (qai sB hb);clear hb hbox hg))
 (try simp only [Act.put,List.setIfInBounds_toArray,List.set_cons_zero,List.set_cons_succ])
 go_cut [25] (fun jX wc=>∃ (kq:Nat) (dZ:Bool),jX=.bool dZ∧qaa (ostinatoref05_Right.j0 kq a1 dZ aj ai ak am an ac ae=some r)∧qaa (kq≤k)∧qaa (wc.heap[cG]? = some (.cells #[.int .i64 aj,.int .i64 ai,.int .i64 ak,.int .i64 am,.int .i64 an,(.slice dL ac.length dM),(.slice dN ae.length dO)] 58 (0,0)))∧qaa (Below w.heap.size w wc))
 case first=>
  have H:=jJ.out
  clear jJ
  by_cases c5:aj<1
  ·rw [if_pos c5] at H
   have dq:decide (aj<1)=true:=decide_eq_true c5
   clear c5
   (first|rw [dq]|(simp only [i64_w,i32_w];rw [dq])|skip)
   have H':=qaa.mk H
   clear H
   obtain⟨cH,cI,cJ,cK,cL,cM,cN⟩:=sC7 (w:=w4) aa.out
   obtain⟨cO,cP,cR,cS,cT,cU,cV⟩:=sF7 aa.out
   go_wp2
   go_meet
   case rel=>exact⟨_,(true),(by first|rfl|(simp;done)|(simp [*];done)),H',⟨by first|omega|exact Nat.le_refl _⟩,⟨by refine sM ?_;exact aa.out⟩,⟨by repeat (first|(with_reducible first|exact HB.out|apply qag|apply qab|apply qaf|refine qah ?_ af.out)|exact HB.out)⟩⟩
  ·rw [if_neg c5] at H
   have dq:decide (aj<1)=false:=decide_eq_false c5
   clear c5
   (first|rw [dq]|(simp only [i64_w,i32_w];rw [dq])|skip)
   by_cases c7:aj > 99
   ·rw [if_pos c7] at H
    have gh:decide (99<aj)=true:=decide_eq_true c7
    clear c7
    have H':=qaa.mk H
    clear H
    obtain⟨cW,cY,cZ,da,db,dc,de⟩:=sC7 (w:=w4) aa.out
    obtain⟨df,dg,dh,di,dj,dk,dl⟩:=sF7 aa.out
    go_wp2
    go_meet
    case rel=>exact⟨_,(true),(by first|rfl|(simp;done)|(simp [*];done)),H',⟨by first|omega|exact Nat.le_refl _⟩,⟨by refine sM ?_;exact aa.out⟩,⟨by repeat (first|(with_reducible first|exact HB.out|apply qag|apply qab|apply qaf|refine qah ?_ af.out)|exact HB.out)⟩⟩
   ·rw [if_neg c7] at H
    have gh:decide (99<aj)=false:=decide_eq_false c7
    clear c7
    by_cases c9:an<1
    ·rw [if_pos c9] at H
     have gi:decide (an<1)=true:=decide_eq_true c9
     clear c9
     have H':=qaa.mk H
     clear H
     obtain⟨au,av,aw,ax,ay,az,aA⟩:=sC7 (w:=w4) aa.out
     obtain⟨aC,aD,aE,aG,aH,aI,aJ⟩:=sF7 aa.out
     go_wp2
     go_meet
     case rel=>exact⟨_,(true),(by first|rfl|(simp;done)|(simp [*];done)),H',⟨by first|omega|exact Nat.le_refl _⟩,⟨by refine sM ?_;exact aa.out⟩,⟨by repeat (first|(with_reducible first|exact HB.out|apply qag|apply qab|apply qaf|refine qah ?_ af.out)|exact HB.out)⟩⟩
    ·rw [if_neg c9] at H
     have gi:decide (an<1)=false:=decide_eq_false c9
     clear c9
     have H':=qaa.mk H
     clear H
     obtain⟨aK,aM,aN,aQ,aR,aT,aU⟩:=sC7 (w:=w4) aa.out
     obtain⟨aV,aW,aY,aZ,a8,ba,bf⟩:=sF7 aa.out
     go_wp2
     go_meet
     case rel=>exact⟨_,(decide (an > 99)),(by first|rfl|(simp;done)|(simp [*];done)),H',⟨by first|omega|exact Nat.le_refl _⟩,⟨by refine sM ?_;exact aa.out⟩,⟨by repeat (first|(with_reducible first|exact HB.out|apply qag|apply qab|apply qaf|refine qah ?_ af.out)|exact HB.out)⟩⟩
 case rest=>
  clear jJ
  try clear p2
  try clear c4
  try clear c5
  try clear dq
  try clear c7
  try clear gh
  try clear c9
  try clear gi
  try clear au av aw ax ay az aA
  try clear aK aM aN aQ aR aT aU
  try clear cH cI cJ cK cL cM cN
  try clear cW cY cZ da db dc de
  try clear aC aD aE aG aH aI aJ
  try clear aV aW aY aZ a8 ba bf
  try clear cO cP cR cS cT cU cV
  try clear df dg dh di dj dk dl
  obtain⟨kq,dZ,rfl,HA,gj,aa,HB⟩:=hcut
  cases kq with
  |zero=>exact absurd HA.out (by simp [ostinatoref05_Right.j0])
  |succ ic=>
   have H:=HA.out
   clear HA
   simp only [ostinatoref05_Right.j0] at H
   by_cases gI:dZ=true
   ·subst gI
    have H1:(some 1)=some r:=by rw [if_pos rfl] at H;exact H
    clear H
    have H:=H1
    clear H1
    obtain rfl:=Option.some.inj H
    go_wp2
    go_ret
    exact⟨by first|rfl|(simp [qak,qaj]<;>rfl)|(simp [bneNil,bneNilU]<;>rfl)|(simp [*,qak,qaj]<;>rfl),by repeat (first|(with_reducible first|exact HB.out|apply qag|apply qab|apply qaf|refine qah ?_ af.out)|exact HB.out)⟩
   ·replace gI:=Bool.eq_false_iff.mpr gI
    subst gI
    have H1:(if ai<1 then (ostinatoref05_Right.j1 ic a1 true aj ai ak am an ac ae) else (if ai > ak then (ostinatoref05_Right.j1 ic a1 true aj ai ak am an ac ae) else (if ak > am then (ostinatoref05_Right.j1 ic a1 true aj ai ak am an ac ae) else (ostinatoref05_Right.j1 ic a1 (decide (am > 1073741824)) aj ai ak am an ac ae))))=some r:=by rw [if_neg (show ¬ (false=true) by decide)] at H;exact H
    clear H
    have H:=H1
    clear H1
    have gP:=qaa.mk H
    clear H
    go_upto_region 3 with (fail)
    go_cut [47] (fun jY wc=>∃ (kq:Nat) (dt:Bool),jY=.bool dt∧qaa (ostinatoref05_Right.j1 kq a1 dt aj ai ak am an ac ae=some r)∧qaa (kq≤ic)∧qaa (wc.heap[cG]? = some (.cells #[.int .i64 aj,.int .i64 ai,.int .i64 ak,.int .i64 am,.int .i64 an,(.slice dL ac.length dM),(.slice dN ae.length dO)] 58 (0,0)))∧qaa (Below w.heap.size w wc))
    case first=>
     have H:=gP.out
     clear gP
     by_cases gB:ai<1
     ·rw [if_pos gB] at H
      have bg:decide (ai<1)=true:=decide_eq_true gB
      clear gB
      (first|rw [bg]|(simp only [i64_w,i32_w];rw [bg])|skip)
      have H':=qaa.mk H
      clear H
      obtain⟨bm,bn,bp,bt,bx,bz,bB⟩:=sC7 (w:=wc) aa.out
      obtain⟨bC,bD,bE,bF,bG,bH,bI⟩:=sF7 aa.out
      go_wp2
      go_meet
      case rel=>exact⟨_,(true),(by first|rfl|(simp;done)|(simp [*];done)),H',⟨by have:=gj.out;first|omega|exact Nat.le_refl _⟩,⟨by refine sM ?_;exact aa.out⟩,⟨by repeat (first|(with_reducible first|exact HB.out|apply qag|apply qab|apply qaf|refine qah ?_ af.out)|exact HB.out)⟩⟩
     ·rw [if_neg gB] at H
      have bg:decide (ai<1)=false:=decide_eq_false gB
      clear gB
      (first|rw [bg]|(simp only [i64_w,i32_w];rw [bg])|skip)
      by_cases gC:ai > ak
      ·rw [if_pos gC] at H
       have dQ:decide (ak<ai)=true:=decide_eq_true gC
       clear gC
       have H':=qaa.mk H
       clear H
       obtain⟨bJ,bK,bL,bM,bN,bO,bP⟩:=sC7 (w:=wc) aa.out
       obtain⟨bQ,bR,bS,bT,bU,bV,bW⟩:=sF7 aa.out
       go_wp2
       go_meet
       case rel=>exact⟨_,(true),(by first|rfl|(simp;done)|(simp [*];done)),H',⟨by have:=gj.out;first|omega|exact Nat.le_refl _⟩,⟨by refine sM ?_;exact aa.out⟩,⟨by repeat (first|(with_reducible first|exact HB.out|apply qag|apply qab|apply qaf|refine qah ?_ af.out)|exact HB.out)⟩⟩
      ·rw [if_neg gC] at H
       have dQ:decide (ak<ai)=false:=decide_eq_false gC
       clear gC
       by_cases gD:ak > am
       ·rw [if_pos gD] at H
        have dT:decide (am<ak)=true:=decide_eq_true gD
        clear gD
        have H':=qaa.mk H
        clear H
        obtain⟨bY,bZ,b8,b9,ca,cb,cd⟩:=sC7 (w:=wc) aa.out
        obtain⟨ce,cf,cg,cj,ck,cm,cn⟩:=sF7 aa.out
        go_wp2
        go_meet
        case rel=>exact⟨_,(true),(by first|rfl|(simp;done)|(simp [*];done)),H',⟨by have:=gj.out;first|omega|exact Nat.le_refl _⟩,⟨by refine sM ?_;exact aa.out⟩,⟨by repeat (first|(with_reducible first|exact HB.out|apply qag|apply qab|apply qaf|refine qah ?_ af.out)|exact HB.out)⟩⟩
       ·rw [if_neg gD] at H
        have dT:decide (am<ak)=false:=decide_eq_false gD
        clear gD
        have H':=qaa.mk H
        clear H
        obtain⟨co,cp,cq,cr,ct,cx,cy⟩:=sC7 (w:=wc) aa.out
        obtain⟨cz,cA,cB,cC,cD,cE,cF⟩:=sF7 aa.out
        go_wp2
        go_meet
        case rel=>exact⟨_,(decide (am > 1073741824)),(by first|rfl|(simp;done)|(simp [*];done)),H',⟨by have:=gj.out;first|omega|exact Nat.le_refl _⟩,⟨by refine sM ?_;exact aa.out⟩,⟨by repeat (first|(with_reducible first|exact HB.out|apply qag|apply qab|apply qaf|refine qah ?_ af.out)|exact HB.out)⟩⟩
    case rest=>
     clear gP
     try clear c1
     try clear p2
     try clear c4
     try clear c5
     try clear dq
     try clear c7
     try clear gh
     try clear c9
     try clear gi
     try clear gI
     try clear gB
     try clear bg
     try clear gC
     try clear dQ
     try clear gD
     try clear dT
     try clear au av aw ax ay az aA
     try clear aK aM aN aQ aR aT aU
     try clear bm bn bp bt bx bz bB
     try clear bJ bK bL bM bN bO bP
     try clear bY bZ b8 b9 ca cb cd
     try clear co cp cq cr ct cx cy
     try clear cH cI cJ cK cL cM cN
     try clear cW cY cZ da db dc de
     try clear aC aD aE aG aH aI aJ
     try clear aV aW aY aZ a8 ba bf
     try clear bC bD bE bF bG bH bI
     try clear bQ bR bS bT bU bV bW
     try clear ce cf cg cj ck cm cn
     try clear cz cA cB cC cD cE cF
     try clear cO cP cR cS cT cU cV
     try clear df dg dh di dj dk dl
     try clear p2
     obtain⟨kq,dt,rfl,HA,dW,aa,HB⟩:=hcut
     cases kq with
     |zero=>exact absurd HA.out (by simp [ostinatoref05_Right.j1])
     |succ gQ=>
      have H:=HA.out
      clear HA
      simp only [ostinatoref05_Right.j1] at H
      by_cases gR:dt=true
      ·subst gR
       have H1:(some 10)=some r:=by rw [if_pos rfl] at H;exact H
       clear H
       have H:=H1
       clear H1
       obtain rfl:=Option.some.inj H
       go_wp2
       go_ret
       exact⟨by first|rfl|(simp [qak,qaj]<;>rfl)|(simp [bneNil,bneNilU]<;>rfl)|(simp [*,qak,qaj]<;>rfl),by repeat (first|(with_reducible first|exact HB.out|apply qag|apply qab|apply qaf|refine qah ?_ af.out)|exact HB.out)⟩
      ·replace gR:=Bool.eq_false_iff.mpr gR
       subst gR
       have H1:(ostinatoref05_Right.l0 gQ a1 ai 0 aj ai ak am an ac ae)=some r:=by rw [if_neg (show ¬ (false=true) by decide)] at H;exact H
       clear H
       have H:=H1
       clear H1
       have H':=qaa.mk H
       clear H
       obtain⟨du,dv,dw,dx,dy,dz,dA⟩:=sC7 (w:=wc) aa.out
       obtain⟨dB,dC,dD,dE,dF,dG,dH⟩:=sF7 aa.out
       go_wp2
       go_loopg [5,6] gQ (fun kq v5 v6 w'=>∃ (dU:Int) (ag:Int),v5=.int .i64 dU∧v6=.int .i64 ag∧qaa (ostinatoref05_Right.l0 kq a1 dU ag aj ai ak am an ac ae=some r)∧qaa (kq≤gQ)∧qaa (w'.heap[cG]? = some (.cells #[.int .i64 aj,.int .i64 ai,.int .i64 ak,.int .i64 am,.int .i64 an,(.slice dL ac.length dM),(.slice dN ae.length dO)] 58 (0,0)))∧qaa (Below w.heap.size w w'))
       case atStart=>exact⟨(ai),(0),(by first|rfl|(simp;done)|(simp [*];done)),(by first|rfl|(simp;done)|(simp [*];done)),H',⟨Nat.le_refl _⟩,⟨by refine sM ?_;exact aa.out⟩,⟨by repeat (first|(with_reducible first|exact HB.out|apply qag|apply qab|apply qaf|refine qah ?_ af.out)|exact HB.out)⟩⟩
       case round=>
        clear H'
        try clear c1
        try clear c2
        try clear p2
        try clear c4
        try clear c5
        try clear dq
        try clear c7
        try clear gh
        try clear c9
        try clear gi
        try clear gI
        try clear gB
        try clear bg
        try clear gC
        try clear dQ
        try clear gD
        try clear dT
        try clear gR
        try clear au av aw ax ay az aA
        try clear aK aM aN aQ aR aT aU
        try clear bm bn bp bt bx bz bB
        try clear bJ bK bL bM bN bO bP
        try clear bY bZ b8 b9 ca cb cd
        try clear co cp cq cr ct cx cy
        try clear du dv dw dx dy dz dA
        try clear cH cI cJ cK cL cM cN
        try clear cW cY cZ da db dc de
        try clear aC aD aE aG aH aI aJ
        try clear aV aW aY aZ a8 ba bf
        try clear bC bD bE bF bG bH bI
        try clear bQ bR bS bT bU bV bW
        try clear ce cf cg cj ck cm cn
        try clear cz cA cB cC cD cE cF
        try clear dB dC dD dE dF dG dH
        try clear cO cP cR cS cT cU cV
        try clear df dg dh di dj dk dl
        try clear p2
        obtain⟨dU,ag,rfl,rfl,HA,gS,aa,HB⟩:=hrel
        cases gk with
        |zero=>exact absurd HA.out (by simp [ostinatoref05_Right.l0])
        |succ k3=>
         have H:=HA.out
         clear HA
         simp only [ostinatoref05_Right.l0] at H
         by_cases gJ:ag<(ac.length:Int)
         ·rw [if_pos gJ] at H
          have gm:decide (ag<(ac.length:Int))=true:=decide_eq_true gJ
          clear gJ
          by_cases gX:0≤ag
          ·rw [if_pos gX] at H
           have gK:decide (0≤ag)=true:=decide_eq_true gX
           clear gX
           by_cases gL:(rd ac ag)<1
           ·rw [if_pos gL] at H
            have gn:decide ((rd ac ag)<1)=true:=decide_eq_true gL
            clear gL
            obtain rfl:=Option.some.inj H
            obtain⟨d9,ea,eb,ec,ed,ef,eg⟩:=sC7 (w:=wr) aa.out
            obtain⟨eh,ek,el,en,ep,eq,er⟩:=sF7 aa.out
            have bj:0≤(ag:Int):=of_decide_eq_true sA
            have bl:ag<(ac.length:Int):=of_decide_eq_true sA
            obtain⟨dV,gp,ah⟩:=Kd.at_int dr.out ag bj bl
            cases gp
            replace ah:=(HB.out.cell (bLt w _ ah)).trans ah
            replace bj:=eq_true bj
            replace bl:=eq_true bl
            go_wp2
            go_ret
            exact⟨by first|rfl|(simp [qak,qaj]<;>rfl)|(simp [bneNil,bneNilU]<;>rfl)|(simp [*,qak,qaj]<;>rfl),by repeat (first|(with_reducible first|exact HB.out|apply qag|apply qab|apply qaf|refine qah ?_ af.out)|exact HB.out)⟩
           ·rw [if_neg gL] at H
            have gn:decide ((rd ac ag)<1)=false:=decide_eq_false gL
            clear gL
            by_cases gM:(rd ac ag) > dU
            ·rw [if_pos gM] at H
             have gq:decide (dU<(rd ac ag))=true:=decide_eq_true gM
             clear gM
             obtain rfl:=Option.some.inj H
             obtain⟨es,et,eu,ev,ew,ex,ey⟩:=sC7 (w:=wr) aa.out
             obtain⟨ez,eB,eC,eD,eE,eF,eG⟩:=sF7 aa.out
             have bj:0≤(ag:Int):=of_decide_eq_true sA
             have bl:ag<(ac.length:Int):=of_decide_eq_true sA
             obtain⟨dV,gp,ah⟩:=Kd.at_int dr.out ag bj bl
             cases gp
             replace ah:=(HB.out.cell (bLt w _ ah)).trans ah
             replace bj:=eq_true bj
             replace bl:=eq_true bl
             have dI:0≤(ag:Int):=of_decide_eq_true sA
             have dJ:ag<(ac.length:Int):=of_decide_eq_true sA
             obtain⟨gr,gT,aq⟩:=Kd.at_int dr.out ag dI dJ
             obtain rfl:dV=gr:=(by injection gT)
             replace aq:=(HB.out.cell (bLt w _ aq)).trans aq
             replace dI:=eq_true dI
             replace dJ:=eq_true dJ
             go_wp2
             go_ret
             exact⟨by first|rfl|(simp [qak,qaj]<;>rfl)|(simp [bneNil,bneNilU]<;>rfl)|(simp [*,qak,qaj]<;>rfl),by repeat (first|(with_reducible first|exact HB.out|apply qag|apply qab|apply qaf|refine qah ?_ af.out)|exact HB.out)⟩
            ·rw [if_neg gM] at H
             have gq:decide (dU<(rd ac ag))=false:=decide_eq_false gM
             clear gM
             have H':=qaa.mk H
             clear H
             obtain⟨eH,eI,eJ,eK,eL,eM,eN⟩:=sC7 (w:=wr) aa.out
             obtain⟨eO,eP,eQ,eR,eS,eT,eU⟩:=sF7 aa.out
             have bj:0≤(ag:Int):=of_decide_eq_true sA
             have bl:ag<(ac.length:Int):=of_decide_eq_true sA
             obtain⟨dV,gp,ah⟩:=Kd.at_int dr.out ag bj bl
             cases gp
             replace ah:=(HB.out.cell (bLt w _ ah)).trans ah
             replace bj:=eq_true bj
             replace bl:=eq_true bl
             have dI:0≤(ag:Int):=of_decide_eq_true sA
             have dJ:ag<(ac.length:Int):=of_decide_eq_true sA
             obtain⟨gr,gT,aq⟩:=Kd.at_int dr.out ag dI dJ
             obtain rfl:dV=gr:=(by injection gT)
             replace aq:=(HB.out.cell (bLt w _ aq)).trans aq
             replace dI:=eq_true dI
             replace dJ:=eq_true dJ
             have gt:0≤(ag:Int):=of_decide_eq_true sA
             have gu:ag<(ac.length:Int):=of_decide_eq_true sA
             obtain⟨ie,jK,bh⟩:=Kd.at_int dr.out ag gt gu
             obtain rfl:dV=ie:=(by injection jK)
             replace bh:=(HB.out.cell (bLt w _ bh)).trans bh
             replace gt:=eq_true gt
             replace gu:=eq_true gu
             go_wp2
             go_roundg k3
             case measure=>have:=gj.out;have:=dW.out;have:=gS.out;omega
             case rel=>exact⟨(wrap64 (dU - (rd ac ag))),(wrap64 (ag+1)),(by first|rfl|(simp;done)|(simp [*];done)),(by first|rfl|(simp;done)|(simp [*];done)),H',⟨by have:=gj.out;have:=dW.out;have:=gS.out;omega⟩,⟨by refine sM ?_;exact aa.out⟩,⟨by repeat (first|(with_reducible first|exact HB.out|apply qag|apply qab|apply qaf|refine qah ?_ af.out)|exact HB.out)⟩⟩
          ·rw [if_neg gX] at H
           exact absurd H (by simp)
         ·rw [if_neg gJ] at H
          have gm:decide (ag<(ac.length:Int))=false:=decide_eq_false gJ
          clear gJ
          have gU:=qaa.mk H
          clear H
          obtain⟨eV,eW,eX,eY,eZ,fa,fb⟩:=sC7 (w:=wr) aa.out
          obtain⟨fc,fe,ff,fg,fh,fj,fk⟩:=sF7 aa.out
          go_upto_region 12 with (fail)
          go_cut [92] (fun jZ wc=>∃ (kq:Nat) (dK:Bool),jZ=.bool dK∧qaa (ostinatoref05_Right.j3 kq a1 dK aj ai ak am an ac ae=some r)∧qaa (kq≤k3)∧qaa (wc.heap[cG]? = some (.cells #[.int .i64 aj,.int .i64 ai,.int .i64 ak,.int .i64 am,.int .i64 an,(.slice dL ac.length dM),(.slice dN ae.length dO)] 58 (0,0)))∧qaa (Below w.heap.size w wc))
          case first=>
           have H:=gU.out
           clear gU
           by_cases gN:(ac.length:Int) > 64
           ·rw [if_pos gN] at H
            have dm:decide (64<(ac.length:Int))=true:=decide_eq_true gN
            have gv:decide (64<ac.length)=true:=decide_eq_true (by omega)
            clear gN
            (first|rw [dm]|(simp only [i64_w,i32_w];rw [dm])|skip)
            have H':=qaa.mk H
            clear H
            obtain⟨fl,fm,fo,fp,fq,ft,fu⟩:=sC7 (w:=wr) aa.out
            obtain⟨fv,fw,fx,fy,fz,fA,fB⟩:=sF7 aa.out
            go_wp2
            go_meet
            case rel=>exact⟨_,(true),(by first|rfl|(simp;done)|(simp [*];done)),H',⟨by have:=gj.out;have:=dW.out;have:=gS.out;first|omega|exact Nat.le_refl _⟩,⟨by refine sM ?_;exact aa.out⟩,⟨by repeat (first|(with_reducible first|exact HB.out|apply qag|apply qab|apply qaf|refine qah ?_ af.out)|exact HB.out)⟩⟩
           ·rw [if_neg gN] at H
            have dm:decide (64<(ac.length:Int))=false:=decide_eq_false gN
            have gv:decide (64<ac.length)=false:=decide_eq_false (by omega)
            clear gN
            (first|rw [dm]|(simp only [i64_w,i32_w];rw [dm])|skip)
            by_cases gO:(ac.length:Int) > 0
            ·rw [if_pos gO] at H
             have gw:decide (0<(ac.length:Int))=true:=decide_eq_true gO
             have gx:decide (0<ac.length)=true:=decide_eq_true (by omega)
             clear gO
             have H':=qaa.mk H
             clear H
             obtain⟨fC,fD,fE,fF,fG,fH,fI⟩:=sC7 (w:=wr) aa.out
             obtain⟨fJ,fK,fL,fM,fN,fO,fP⟩:=sF7 aa.out
             go_wp2
             go_meet
             case rel=>exact⟨_,((dU != 0)),(by first|rfl|(simp;done)|(simp [*];done)),H',⟨by have:=gj.out;have:=dW.out;have:=gS.out;first|omega|exact Nat.le_refl _⟩,⟨by refine sM ?_;exact aa.out⟩,⟨by repeat (first|(with_reducible first|exact HB.out|apply qag|apply qab|apply qaf|refine qah ?_ af.out)|exact HB.out)⟩⟩
            ·rw [if_neg gO] at H
             have gw:decide (0<(ac.length:Int))=false:=decide_eq_false gO
             have gx:decide (0<ac.length)=false:=decide_eq_false (by omega)
             clear gO
             have H':=qaa.mk H
             clear H
             obtain⟨fQ,fR,fS,fT,fU,fV,fW⟩:=sC7 (w:=wr) aa.out
             obtain⟨fX,fY,fZ,ga,gb,gc,ge⟩:=sF7 aa.out
             go_wp2
             go_meet
             case rel=>exact⟨_,(false),(by first|rfl|(simp;done)|(simp [*];done)),H',⟨by have:=gj.out;have:=dW.out;have:=gS.out;first|omega|exact Nat.le_refl _⟩,⟨by refine sM ?_;exact aa.out⟩,⟨by repeat (first|(with_reducible first|exact HB.out|apply qag|apply qab|apply qaf|refine qah ?_ af.out)|exact HB.out)⟩⟩
          case rest=>
           clear gU
           try clear c1
           try clear p1
           try clear q1
           try clear j9
           try clear c2
           try clear p2
           try clear c3
           try clear c4
           try clear c5
           try clear dq
           try clear p6
           try clear c7
           try clear gh
           try clear c9
           try clear gi
           try clear gI
           try clear gB
           try clear bg
           try clear jQ
           try clear jR
           try clear jL
           try clear jS
           try clear jT
           try clear jM
           try clear gC
           try clear dQ
           try clear gD
           try clear dT
           try clear gR
           try clear gJ
           try clear gm
           try clear gX
           try clear gK
           try clear gL
           try clear gn
           try clear gM
           try clear gq
           try clear gN
           try clear dm
           try clear gv
           try clear gO
           try clear gw
           try clear gx
           try clear au av aw ax ay az aA
           try clear aK aM aN aQ aR aT aU
           try clear bm bn bp bt bx bz bB
           try clear bJ bK bL bM bN bO bP
           try clear bY bZ b8 b9 ca cb cd
           try clear co cp cq cr ct cx cy
           try clear du dv dw dx dy dz dA
           try clear d9 ea eb ec ed ef eg
           try clear es et eu ev ew ex ey
           try clear eH eI eJ eK eL eM eN
           try clear eV eW eX eY eZ fa fb
           try clear fl fm fo fp fq ft fu
           try clear fC fD fE fF fG fH fI
           try clear fQ fR fS fT fU fV fW
           try clear cH cI cJ cK cL cM cN
           try clear cW cY cZ da db dc de
           try clear aC aD aE aG aH aI aJ
           try clear aV aW aY aZ a8 ba bf
           try clear bC bD bE bF bG bH bI
           try clear bQ bR bS bT bU bV bW
           try clear ce cf cg cj ck cm cn
           try clear cz cA cB cC cD cE cF
           try clear dB dC dD dE dF dG dH
           try clear eh ek el en ep eq er
           try clear ez eB eC eD eE eF eG
           try clear eO eP eQ eR eS eT eU
           try clear fc fe ff fg fh fj fk
           try clear fv fw fx fy fz fA fB
           try clear fJ fK fL fM fN fO fP
           try clear fX fY fZ ga gb gc ge
           try clear cO cP cR cS cT cU cV
           try clear df dg dh di dj dk dl
           try clear ah
           try clear aq
           try clear bh
           try clear bj
           try clear dI
           try clear gt
           try clear p2
           try clear bl
           try clear dJ
           try clear gu
           obtain⟨kq,dK,rfl,HA,ig,aa,HB⟩:=hcut
           cases kq with
           |zero=>exact absurd HA.out (by simp [ostinatoref05_Right.j3])
           |succ gV=>
            have H:=HA.out
            clear HA
            simp only [ostinatoref05_Right.j3] at H
            by_cases ii:dK=true
            ·subst ii
             have H1:(some 13)=some r:=by rw [if_pos rfl] at H;exact H
             clear H
             have H:=H1
             clear H1
             obtain rfl:=Option.some.inj H
             go_wp2
             go_ret
             exact⟨by first|rfl|(simp [qak,qaj]<;>rfl)|(simp [bneNil,bneNilU]<;>rfl)|(simp [*,qak,qaj]<;>rfl),by repeat (first|(with_reducible first|exact HB.out|apply qag|apply qab|apply qaf|refine qah ?_ af.out)|exact HB.out)⟩
            ·replace ii:=Bool.eq_false_iff.mpr ii
             subst ii
             have H1:(ostinatoref05_Right.l1 gV a1 0 aj ai ak am an ac ae)=some r:=by rw [if_neg (show ¬ (false=true) by decide)] at H;exact H
             clear H
             have H:=H1
             clear H1
             have H':=qaa.mk H
             clear H
             go_wp2
             go_loopg [7] gV (fun kq v7 w'=>∃ (al:Int),v7=.int .i64 al∧qaa (ostinatoref05_Right.l1 kq a1 al aj ai ak am an ac ae=some r)∧qaa (kq≤gV)∧qaa (w'.heap[cG]? = some (.cells #[.int .i64 aj,.int .i64 ai,.int .i64 ak,.int .i64 am,.int .i64 an,(.slice dL ac.length dM),(.slice dN ae.length dO)] 58 (0,0)))∧qaa (Below w.heap.size w w'))
             case atStart=>exact⟨(0),(by first|rfl|(simp;done)|(simp [*];done)),H',⟨Nat.le_refl _⟩,⟨by refine sM ?_;exact aa.out⟩,⟨by repeat (first|(with_reducible first|exact HB.out|apply qag|apply qab|apply qaf|refine qah ?_ af.out)|exact HB.out)⟩⟩
             case round=>
              clear H'
              try clear c1
              try clear p1
              try clear q1
              try clear j9
              try clear c2
              try clear p2
              try clear c3
              try clear c4
              try clear c5
              try clear dq
              try clear p6
              try clear c7
              try clear gh
              try clear c9
              try clear gi
              try clear gI
              try clear gB
              try clear bg
              try clear jQ
              try clear jR
              try clear jL
              try clear jS
              try clear jT
              try clear jM
              try clear gC
              try clear dQ
              try clear gD
              try clear dT
              try clear gR
              try clear gJ
              try clear gm
              try clear gX
              try clear gK
              try clear gL
              try clear gn
              try clear gM
              try clear gq
              try clear gN
              try clear dm
              try clear gv
              try clear gO
              try clear gw
              try clear gx
              try clear ii
              try clear au av aw ax ay az aA
              try clear aK aM aN aQ aR aT aU
              try clear bm bn bp bt bx bz bB
              try clear bJ bK bL bM bN bO bP
              try clear bY bZ b8 b9 ca cb cd
              try clear co cp cq cr ct cx cy
              try clear du dv dw dx dy dz dA
              try clear d9 ea eb ec ed ef eg
              try clear es et eu ev ew ex ey
              try clear eH eI eJ eK eL eM eN
              try clear eV eW eX eY eZ fa fb
              try clear fl fm fo fp fq ft fu
              try clear fC fD fE fF fG fH fI
              try clear fQ fR fS fT fU fV fW
              try clear cH cI cJ cK cL cM cN
              try clear cW cY cZ da db dc de
              try clear aC aD aE aG aH aI aJ
              try clear aV aW aY aZ a8 ba bf
              try clear bC bD bE bF bG bH bI
              try clear bQ bR bS bT bU bV bW
              try clear ce cf cg cj ck cm cn
              try clear cz cA cB cC cD cE cF
              try clear dB dC dD dE dF dG dH
              try clear eh ek el en ep eq er
              try clear ez eB eC eD eE eF eG
              try clear eO eP eQ eR eS eT eU
              try clear fc fe ff fg fh fj fk
              try clear fv fw fx fy fz fA fB
              try clear fJ fK fL fM fN fO fP
              try clear fX fY fZ ga gb gc ge
              try clear cO cP cR cS cT cU cV
              try clear df dg dh di dj dk dl
              try clear ah
              try clear aq
              try clear bh
              try clear p1
              try clear jQ
              try clear bj
              try clear jS
              try clear dI
              try clear gt
              try clear p2
              try clear p6
              try clear q1
              try clear jR
              try clear bl
              try clear jT
              try clear dJ
              try clear gu
              obtain⟨al,rfl,HA,jU,aa,HB⟩:=hrel
              cases gk with
              |zero=>exact absurd HA.out (by simp [ostinatoref05_Right.l1])
              |succ k5=>
               have H:=HA.out
               clear HA
               simp only [ostinatoref05_Right.l1] at H
               by_cases gY:al<(ae.length:Int)
               ·rw [if_pos gY] at H
                have ij:decide (al<(ae.length:Int))=true:=decide_eq_true gY
                clear gY
                by_cases ip:0≤al
                ·rw [if_pos ip] at H
                 have jV:decide (0≤al)=true:=decide_eq_true ip
                 clear ip
                 by_cases gZ:(rd ae al)<0
                 ·rw [if_pos gZ] at H
                  have ik:decide ((rd ae al)<0)=true:=decide_eq_true gZ
                  clear gZ
                  obtain rfl:=Option.some.inj H
                  obtain⟨iq,ir,iu,iv,iw,iy,iz⟩:=sC7 (w:=wr) aa.out
                  obtain⟨iA,iB,iC,iD,iE,iF,iG⟩:=sF7 aa.out
                  have dn:0≤(al:Int):=of_decide_eq_true sA
                  have dp:al<(ae.length:Int):=of_decide_eq_true sA
                  obtain⟨gg,gy,ap⟩:=Kd.at_int dP.out al dn dp
                  cases gy
                  replace ap:=(HB.out.cell (bLt w _ ap)).trans ap
                  replace dn:=eq_true dn
                  replace dp:=eq_true dp
                  go_wp2
                  go_ret
                  exact⟨by first|rfl|(simp [qak,qaj]<;>rfl)|(simp [bneNil,bneNilU]<;>rfl)|(simp [*,qak,qaj]<;>rfl),by repeat (first|(with_reducible first|exact HB.out|apply qag|apply qab|apply qaf|refine qah ?_ af.out)|exact HB.out)⟩
                 ·rw [if_neg gZ] at H
                  have ik:decide ((rd ae al)<0)=false:=decide_eq_false gZ
                  clear gZ
                  by_cases hU:(rd ae al) ≥ a1
                  ·rw [if_pos hU] at H
                   have il:decide (a1≤(rd ae al))=true:=decide_eq_true hU
                   clear hU
                   obtain rfl:=Option.some.inj H
                   obtain⟨iH,iI,iJ,iK,iL,iM,iN⟩:=sC7 (w:=wr) aa.out
                   obtain⟨iO,iP,iQ,iR,iS,iT,iU⟩:=sF7 aa.out
                   have dn:0≤(al:Int):=of_decide_eq_true sA
                   have dp:al<(ae.length:Int):=of_decide_eq_true sA
                   obtain⟨gg,gy,ap⟩:=Kd.at_int dP.out al dn dp
                   cases gy
                   replace ap:=(HB.out.cell (bLt w _ ap)).trans ap
                   replace dn:=eq_true dn
                   replace dp:=eq_true dp
                   have dX:0≤(al:Int):=of_decide_eq_true sA
                   have dY:al<(ae.length:Int):=of_decide_eq_true sA
                   obtain⟨gz,gW,ar⟩:=Kd.at_int dP.out al dX dY
                   obtain rfl:gg=gz:=(by injection gW)
                   replace ar:=(HB.out.cell (bLt w _ ar)).trans ar
                   replace dX:=eq_true dX
                   replace dY:=eq_true dY
                   go_wp2
                   go_ret
                   exact⟨by first|rfl|(simp [qak,qaj]<;>rfl)|(simp [bneNil,bneNilU]<;>rfl)|(simp [*,qak,qaj]<;>rfl),by repeat (first|(with_reducible first|exact HB.out|apply qag|apply qab|apply qaf|refine qah ?_ af.out)|exact HB.out)⟩
                  ·rw [if_neg hU] at H
                   have il:decide (a1≤(rd ae al))=false:=decide_eq_false hU
                   clear hU
                   have H':=qaa.mk H
                   clear H
                   obtain⟨iV,iW,iX,iY,iZ,i7,i8⟩:=sC7 (w:=wr) aa.out
                   obtain⟨ja,jb,jc,jd,je,jf,jg⟩:=sF7 aa.out
                   have dn:0≤(al:Int):=of_decide_eq_true sA
                   have dp:al<(ae.length:Int):=of_decide_eq_true sA
                   obtain⟨gg,gy,ap⟩:=Kd.at_int dP.out al dn dp
                   cases gy
                   replace ap:=(HB.out.cell (bLt w _ ap)).trans ap
                   replace dn:=eq_true dn
                   replace dp:=eq_true dp
                   have dX:0≤(al:Int):=of_decide_eq_true sA
                   have dY:al<(ae.length:Int):=of_decide_eq_true sA
                   obtain⟨gz,gW,ar⟩:=Kd.at_int dP.out al dX dY
                   obtain rfl:gg=gz:=(by injection gW)
                   replace ar:=(HB.out.cell (bLt w _ ar)).trans ar
                   replace dX:=eq_true dX
                   replace dY:=eq_true dY
                   go_wp2
                   go_roundg k5
                   case measure=>have:=gj.out;have:=dW.out;have:=gS.out;have:=ig.out;have:=jU.out;omega
                   case rel=>exact⟨(wrap64 (al+1)),(by first|rfl|(simp;done)|(simp [*];done)),H',⟨by have:=gj.out;have:=dW.out;have:=gS.out;have:=ig.out;have:=jU.out;omega⟩,⟨by refine sM ?_;exact aa.out⟩,⟨by repeat (first|(with_reducible first|exact HB.out|apply qag|apply qab|apply qaf|refine qah ?_ af.out)|exact HB.out)⟩⟩
                ·rw [if_neg ip] at H
                 exact absurd H (by simp)
               ·rw [if_neg gY] at H
                have ij:decide (al<(ae.length:Int))=false:=decide_eq_false gY
                clear gY
                by_cases ia:(ae.length:Int) > 64
                ·rw [if_pos ia] at H
                 have im:decide (64<(ae.length:Int))=true:=decide_eq_true ia
                 have io:decide (64<ae.length)=true:=decide_eq_true (by omega)
                 clear ia
                 obtain rfl:=Option.some.inj H
                 obtain⟨jh,ji,jj,jk,jl,jm,jn⟩:=sC7 (w:=wr) aa.out
                 obtain⟨jo,jp,jq,jr,js,jt,ju⟩:=sF7 aa.out
                 go_wp2
                 go_ret
                 exact⟨by first|rfl|(simp [qak,qaj]<;>rfl)|(simp [bneNil,bneNilU]<;>rfl)|(simp [*,qak,qaj]<;>rfl),by repeat (first|(with_reducible first|exact HB.out|apply qag|apply qab|apply qaf|refine qah ?_ af.out)|exact HB.out)⟩
                ·rw [if_neg ia] at H
                 have im:decide (64<(ae.length:Int))=false:=decide_eq_false ia
                 have io:decide (64<ae.length)=false:=decide_eq_false (by omega)
                 clear ia
                 obtain rfl:=Option.some.inj H
                 obtain⟨jv,jw,jx,jy,jz,jA,jB⟩:=sC7 (w:=wr) aa.out
                 obtain⟨jC,jD,jE,jF,jG,jH,jI⟩:=sF7 aa.out
                 go_wp2
                 go_ret
                 exact⟨by first|rfl|(simp [qak,qaj]<;>rfl)|(simp [bneNil,bneNilU]<;>rfl)|(simp [*,qak,qaj]<;>rfl),by repeat (first|(with_reducible first|exact HB.out|apply qag|apply qab|apply qaf|refine qah ?_ af.out)|exact HB.out)⟩
end
end Go.Proofs.YtgnaaokhfpfglaaGreatDoor.PCertRight
end
section
namespace Go.Proofs.YtgnaaokhfpfglaaGreatDoor.PCertRight
open Go.RowKit Go.Proofs.YtgnaaokhfpfglaaGreatDoorW.PrintWords Go.Proofs.YtgnaaokhfpfglaaGreatDoorW.PrintLast Go.Proofs.YtgnaaokhfpfglaaGreatDoorW.PrintMore
attribute [local go_sem] max2_int min2_int max_two min_two max_three min_three max_four min_four
set_option linter.unusedVariables false
set_option linter.unusedSimpArgs false
noncomputable section
mutual
def ostinatoref05_Check.j0:Nat→Bool→Int→Int→List (S58)→Option (Int)
 |0,_,_,_,_=>none
 |k+1,af,ac,ae,aa=>if af=true then (some 1) else (if (aa.length:Int) > 64 then (some 15) else (ostinatoref05_Check.l0 k 0 ac ae aa))
def ostinatoref05_Check.l0:Nat→Int→Int→Int→List (S58)→Option (Int)
 |0,_,_,_,_=>none
 |k+1,x3,ac,ae,aa=>if x3<(aa.length:Int) then (if 0≤x3 then ((ostinatoref05_Right.f k ((qal aa x3).f0) ((qal aa x3).f1) ((qal aa x3).f2) ((qal aa x3).f3) ((qal aa x3).f4) ((qal aa x3).f5) ((qal aa x3).f6) ac).bind fun af=>(if af=0 then (if x3 > 0 then (if 0≤(wrap64 (x3 - 1)) then (if (wrap64 (x3 - 1))<(aa.length:Int) then (ostinatoref05_Check.j2 k x3 (decide (((qal aa x3).f0)≤((qal aa (wrap64 (x3 - 1))).f0))) ac ae aa) else (none)) else (none)) else (ostinatoref05_Check.j2 k x3 false ac ae aa)) else (some af))) else (none)) else (some 0)
def ostinatoref05_Check.j2:Nat→Int→Bool→Int→Int→List (S58)→Option (Int)
 |0,_,_,_,_,_=>none
 |k+1,x3,af,aa,ac,ae=>if af=true then (some 10) else (ostinatoref05_Check.l1 k x3 0 aa ac ae)
def ostinatoref05_Check.l1:Nat→Int→Int→Int→Int→List (S58)→Option (Int)
 |0,_,_,_,_,_=>none
 |k+1,x3,x5,ac,ae,aa=>if x5<x3 then (if 0≤x5 then (if x5<(aa.length:Int) then (if 0≤x3 then (if x3<(aa.length:Int) then (if ((qal aa x5).f4)=((qal aa x3).f4) then (some 14) else (ostinatoref05_Check.l1 k x3 (wrap64 (x5+1)) ac ae aa)) else (none)) else (none)) else (none)) else (none)) else (ostinatoref05_Check.l0 k (wrap64 (x3+1)) ac ae aa)
end
def ostinatoref05_Check.f (k:Nat) (aa:Int) (ac:Int) (ae:List (S58)):Option (Int):=if aa<0 then (ostinatoref05_Check.j0 k true aa ac ae) else (if aa > 256 then (ostinatoref05_Check.j0 k true aa ac ae) else (if ac<0 then (ostinatoref05_Check.j0 k true aa ac ae) else (if ac > 1000 then (ostinatoref05_Check.j0 k true aa ac ae) else (ostinatoref05_Check.j0 k ((ae.length:Int) == 0) aa ac ae))))
def ostinatoref05_Check.T8:Bool × List (List Nat × List Nat):=(true,[([],[]),([0],[0]),([],[]),([1,2],[1,2]),([3],[3]),([],[]),([5],[5]),([4,6],[4,6]),([7,7,0,1,2,3,4,5,6,7],[7])])
def ostinatoref05_Check.B8:List Nat:=[0,1,0,7,15,0,32,127,255]
theorem ostinatoref05_Check.tab8:rtab .any (opsOf Tryz.f15 8)=ostinatoref05_Check.T8:=by kernel_rfl
theorem ostinatoref05_Check.bits8:waitsOk ostinatoref05_Check.T8.2 ostinatoref05_Check.B8=true:=by kernel_rfl
def ostinatoref05_Check.T11:Bool × List (List Nat × List Nat):=(true,[([],[]),([0],[0]),([1],[1]),([2],[2]),([3,2],[2,3]),([2],[2]),([4,5,2],[2,4,5]),([6,2],[2,6]),([7,2],[2,7]),([2],[2]),([9,2],[2,9]),([2],[2]),([11,2],[2,11]),([10,12,2],[2,10,12]),([13,2],[2,13]),([14,2],[2,14]),([8,15,2],[2,8,15]),([2,16],[2,16])])
def ostinatoref05_Check.B11:List Nat:=[0,1,3,7,15,7,63,127,255,7,519,7,2055,7687,15879,32263,65535,131071]
theorem ostinatoref05_Check.tab11:rtab .any (opsOf Tryz.f15 11)=ostinatoref05_Check.T11:=by kernel_rfl
theorem ostinatoref05_Check.bits11:waitsOk ostinatoref05_Check.T11.2 ostinatoref05_Check.B11=true:=by kernel_rfl
def ostinatoref05_Check.T16:Bool × List (List Nat × List Nat):=(true,[([],[]),([0],[0]),([],[]),([1,2],[1,2]),([3],[3]),([4],[4]),([],[]),([6],[6]),([],[]),([7,8],[7,8]),([9],[9]),([10],[10]),([5,11],[5,11])])
def ostinatoref05_Check.B16:List Nat:=[0,1,0,7,15,31,0,64,0,448,960,1984,4095]
theorem ostinatoref05_Check.tab16:rtab .any (opsOf Tryz.f15 16)=ostinatoref05_Check.T16:=by kernel_rfl
theorem ostinatoref05_Check.bits16:waitsOk ostinatoref05_Check.T16.2 ostinatoref05_Check.B16=true:=by kernel_rfl
theorem ostinatoref05_Check.calls (k:Nat) (ah:Int) (ai:Int) (ev:Option Addr) (cd:Nat) (ae:List (S58)) (r:Int) (w:World) (eY:Kd.C k58 w ev ae.length ae) (eZ:ae.length≤cd) (h:ostinatoref05_Check.f k ah ai ae=some r) :
  Calls Tryz.prog 15 #[.agg #[.int .i64 ah,.int .i64 ai,.slice ev ae.length cd]] w fun e w'=>e=.returned (.int .i64 r)∧Below w.heap.size w w':=by
 have gE:=Tryz.underlying37
 have gF:=Tryz.underlying58
 have cb:=qaa.mk eY
 have gr:=qaa.mk eZ
 clear eY eZ
 have HB:=qaa.mk (Below.refl w.heap.size w)
 have H:(if ah<0 then (ostinatoref05_Check.j0 k true ah ai ae) else (if ah > 256 then (ostinatoref05_Check.j0 k true ah ai ae) else (if ai<0 then (ostinatoref05_Check.j0 k true ah ai ae) else (if ai > 1000 then (ostinatoref05_Check.j0 k true ah ai ae) else (ostinatoref05_Check.j0 k ((ae.length:Int) == 0) ah ai ae)))))=some r:=h
 clear h
 have gj:=qaa.mk H
 clear H
 go_enter Tryz.func15,Tryz.ntmps15
 go_upto_region 1 with (first|((with_reducible refine qaq (N:=1) rfl ?_);(try (refine qaH (by rfl) ?_;dsimp only));refine qap ?hg (N:=1) ?hd (cs:=#[.int .i64 ah,.int .i64 ai,.slice ev ae.length cd]) (t:=37) ?hr ?_;(case hd=>rfl);(case hg=>rfl);(case hr=>first|(go_simp;done)|(go_simp;rfl));intro ar hg w3 hbox hb;have af:=qaa.mk (hbox);have gt:=qaa.mk ((by rw [hg];exact (qac sB):w.heap.size≤ar));have aM:=qaa.mk ((by rw [hg];exact (qac sB):w.heap.size≤ar));replace HB:=qaa.mk (qai sB hb);clear hb hbox hg))
 (try simp only [Act.put,List.setIfInBounds_toArray,List.set_cons_zero,List.set_cons_succ])
 go_cut [29] (fun gG wc=>∃ (kq:Nat) (dJ:Bool),gG=.bool dJ∧qaa (ostinatoref05_Check.j0 kq dJ ah ai ae=some r)∧qaa (kq≤k)∧qaa (wc.heap[ar]? = some (.cells #[.int .i64 ah,.int .i64 ai,(.slice ev ae.length cd)] 37 (0,0)))∧qaa (Below w.heap.size w wc))
 case first=>
  have H:=gj.out
  clear gj
  by_cases c4:ah<0
  ·rw [if_pos c4] at H
   have cC:decide (ah<0)=true:=decide_eq_true c4
   clear c4
   (first|rw [cC]|(simp only [i64_w,i32_w];rw [cC])|skip)
   have H':=qaa.mk H
   clear H
   obtain⟨cD,cE,cF⟩:=sC3 (w:=w3) af.out
   obtain⟨cG,cH,cI⟩:=sF3 af.out
   go_wp2
   go_meet
   case rel=>exact⟨_,(true),(by first|rfl|(simp;done)|(simp [*];done)),H',⟨by first|omega|exact Nat.le_refl _⟩,⟨by refine sM ?_;exact af.out⟩,⟨by repeat (first|(with_reducible first|exact HB.out|apply qag|apply qab|apply qaf|refine qah ?_ aM.out)|exact HB.out)⟩⟩
  ·rw [if_neg c4] at H
   have cC:decide (ah<0)=false:=decide_eq_false c4
   clear c4
   (first|rw [cC]|(simp only [i64_w,i32_w];rw [cC])|skip)
   by_cases c6:ah > 256
   ·rw [if_pos c6] at H
    have ew:decide (256<ah)=true:=decide_eq_true c6
    clear c6
    have H':=qaa.mk H
    clear H
    obtain⟨cJ,cK,cL⟩:=sC3 (w:=w3) af.out
    obtain⟨cM,cN,cO⟩:=sF3 af.out
    go_wp2
    go_meet
    case rel=>exact⟨_,(true),(by first|rfl|(simp;done)|(simp [*];done)),H',⟨by first|omega|exact Nat.le_refl _⟩,⟨by refine sM ?_;exact af.out⟩,⟨by repeat (first|(with_reducible first|exact HB.out|apply qag|apply qab|apply qaf|refine qah ?_ aM.out)|exact HB.out)⟩⟩
   ·rw [if_neg c6] at H
    have ew:decide (256<ah)=false:=decide_eq_false c6
    clear c6
    by_cases c8:ai<0
    ·rw [if_pos c8] at H
     have ex:decide (ai<0)=true:=decide_eq_true c8
     clear c8
     have H':=qaa.mk H
     clear H
     obtain⟨cP,cR,cS⟩:=sC3 (w:=w3) af.out
     obtain⟨cT,cU,cV⟩:=sF3 af.out
     go_wp2
     go_meet
     case rel=>exact⟨_,(true),(by first|rfl|(simp;done)|(simp [*];done)),H',⟨by first|omega|exact Nat.le_refl _⟩,⟨by refine sM ?_;exact af.out⟩,⟨by repeat (first|(with_reducible first|exact HB.out|apply qag|apply qab|apply qaf|refine qah ?_ aM.out)|exact HB.out)⟩⟩
    ·rw [if_neg c8] at H
     have ex:decide (ai<0)=false:=decide_eq_false c8
     clear c8
     by_cases eM:ai > 1000
     ·rw [if_pos eM] at H
      have dw:decide (1000<ai)=true:=decide_eq_true eM
      clear eM
      have H':=qaa.mk H
      clear H
      obtain⟨ce,cf,cg⟩:=sC3 (w:=w3) af.out
      obtain⟨cj,ck,cm⟩:=sF3 af.out
      go_wp2
      go_meet
      case rel=>exact⟨_,(true),(by first|rfl|(simp;done)|(simp [*];done)),H',⟨by first|omega|exact Nat.le_refl _⟩,⟨by refine sM ?_;exact af.out⟩,⟨by repeat (first|(with_reducible first|exact HB.out|apply qag|apply qab|apply qaf|refine qah ?_ aM.out)|exact HB.out)⟩⟩
     ·rw [if_neg eM] at H
      have dw:decide (1000<ai)=false:=decide_eq_false eM
      clear eM
      have H':=qaa.mk H
      clear H
      obtain⟨cn,co,cp⟩:=sC3 (w:=w3) af.out
      obtain⟨cq,cr,ct⟩:=sF3 af.out
      go_wp2
      go_meet
      case rel=>exact⟨_,(((ae.length:Int) == 0)),(by first|rfl|(simp;done)|(simp [*];done)),H',⟨by first|omega|exact Nat.le_refl _⟩,⟨by refine sM ?_;exact af.out⟩,⟨by repeat (first|(with_reducible first|exact HB.out|apply qag|apply qab|apply qaf|refine qah ?_ aM.out)|exact HB.out)⟩⟩
 case rest=>
  clear gj
  try clear c1
  try clear p2
  try clear c4
  try clear cC
  try clear c6
  try clear ew
  try clear c8
  try clear ex
  try clear eM
  try clear dw
  try clear ce cf cg
  try clear cn co cp
  try clear cD cE cF
  try clear cJ cK cL
  try clear cP cR cS
  try clear cj ck cm
  try clear cq cr ct
  try clear cG cH cI
  try clear cM cN cO
  try clear cT cU cV
  obtain⟨kq,dJ,rfl,HA,fz,af,HB⟩:=hcut
  cases kq with
  |zero=>exact absurd HA.out (by simp [ostinatoref05_Check.j0])
  |succ gm=>
   have H:=HA.out
   clear HA
   simp only [ostinatoref05_Check.j0] at H
   by_cases fg:dJ=true
   ·subst fg
    have H1:(some 1)=some r:=by rw [if_pos rfl] at H;exact H
    clear H
    have H:=H1
    clear H1
    obtain rfl:=Option.some.inj H
    go_wp2
    go_ret
    exact⟨by first|rfl|(simp [qak,qaj]<;>rfl)|(simp [bneNil,bneNilU]<;>rfl)|(simp [*,qak,qaj]<;>rfl),by repeat (first|(with_reducible first|exact HB.out|apply qag|apply qab|apply qaf|refine qah ?_ aM.out)|exact HB.out)⟩
   ·replace fg:=Bool.eq_false_iff.mpr fg
    subst fg
    have H1:(if (ae.length:Int) > 64 then (some 15) else (ostinatoref05_Check.l0 gm 0 ah ai ae))=some r:=by rw [if_neg (show ¬ (false=true) by decide)] at H;exact H
    clear H
    have H:=H1
    clear H1
    by_cases eN:(ae.length:Int) > 64
    ·rw [if_pos eN] at H
     have dK:decide (64<(ae.length:Int))=true:=decide_eq_true eN
     have dL:decide (64<ae.length)=true:=decide_eq_true (by omega)
     clear eN
     obtain rfl:=Option.some.inj H
     obtain⟨cW,cY,cZ⟩:=sC3 (w:=wc) af.out
     obtain⟨da,db,dc⟩:=sF3 af.out
     go_wp2
     go_ret
     exact⟨by first|rfl|(simp [qak,qaj]<;>rfl)|(simp [bneNil,bneNilU]<;>rfl)|(simp [*,qak,qaj]<;>rfl),by repeat (first|(with_reducible first|exact HB.out|apply qag|apply qab|apply qaf|refine qah ?_ aM.out)|exact HB.out)⟩
    ·rw [if_neg eN] at H
     have dK:decide (64<(ae.length:Int))=false:=decide_eq_false eN
     have dL:decide (64<ae.length)=false:=decide_eq_false (by omega)
     clear eN
     have H':=qaa.mk H
     clear H
     obtain⟨de,df,dg⟩:=sC3 (w:=wc) af.out
     obtain⟨dh,di,dj⟩:=sF3 af.out
     go_wp2
     go_loopg [3] gm (fun kq v3 w'=>∃ (aa:Int),v3=.int .i64 aa∧qaa (ostinatoref05_Check.l0 kq aa ah ai ae=some r)∧qaa (kq≤gm)∧qaa (w'.heap[ar]? = some (.cells #[.int .i64 ah,.int .i64 ai,(.slice ev ae.length cd)] 37 (0,0)))∧qaa (Below w.heap.size w w'))
     case atStart=>exact⟨(0),(by first|rfl|(simp;done)|(simp [*];done)),H',⟨Nat.le_refl _⟩,⟨by refine sM ?_;exact af.out⟩,⟨by repeat (first|(with_reducible first|exact HB.out|apply qag|apply qab|apply qaf|refine qah ?_ aM.out)|exact HB.out)⟩⟩
     case round=>
      clear H'
      try clear c1
      try clear p2
      try clear c4
      try clear cC
      try clear c6
      try clear ew
      try clear c8
      try clear ex
      try clear eM
      try clear dw
      try clear fg
      try clear eN
      try clear dK
      try clear dL
      try clear gu
      try clear ce cf cg
      try clear cn co cp
      try clear cW cY cZ
      try clear de df dg
      try clear cD cE cF
      try clear cJ cK cL
      try clear cP cR cS
      try clear cj ck cm
      try clear cq cr ct
      try clear da db dc
      try clear dh di dj
      try clear cG cH cI
      try clear cM cN cO
      try clear cT cU cV
      try clear p2
      obtain⟨aa,rfl,HA,fA,af,HB⟩:=hrel
      cases gk with
      |zero=>exact absurd HA.out (by simp [ostinatoref05_Check.l0])
      |succ k2=>
       have H:=HA.out
       clear HA
       simp only [ostinatoref05_Check.l0] at H
       by_cases fa:aa<(ae.length:Int)
       ·rw [if_pos fa] at H
        have ey:decide (aa<(ae.length:Int))=true:=decide_eq_true fa
        clear fa
        by_cases fB:0≤aa
        ·rw [if_pos fB] at H
         have fb:decide (0≤aa)=true:=decide_eq_true fB
         clear fB
         replace H:=Option.bind_eq_some_iff.mp H
         obtain⟨dk,fF,H⟩:=H
         replace H:(if dk=0 then (if aa > 0 then (if 0≤(wrap64 (aa - 1)) then (if (wrap64 (aa - 1))<(ae.length:Int) then (ostinatoref05_Check.j2 k2 aa (decide (((qal ae aa).f0)≤((qal ae (wrap64 (aa - 1))).f0))) ah ai ae) else (none)) else (none)) else (ostinatoref05_Check.j2 k2 aa false ah ai ae)) else (some dk))=some r:=H
         have gv:=qaa.mk fF
         clear fF
         by_cases eO:dk=0
         ·rw [if_pos eO] at H
          have ez:(dk == 0)=true:=beq_iff_eq.mpr eO
          have eB:(dk != 0)=false:=bne_eq_false_iff_eq.mpr eO
          clear eO
          have fh:=qaa.mk H
          clear H
          obtain⟨dM,dN,dO⟩:=sC3 (w:=wr) af.out
          obtain⟨dP,dQ,dT⟩:=sF3 af.out
          try go_wp2
          replace af:=qaa.mk (blk_drew af.out)
          replace HB:=qaa.mk (qaf HB.out)
          have dl:0≤(aa:Int):=of_decide_eq_true sA
          have dm:aa<(ae.length:Int):=of_decide_eq_true sA
          obtain⟨ac,cx,cy,cz,cA,fj,aj,ak,al,am,an,ap,aq,bz,bB,bC,bD⟩:=at_T58 cb.out aa dl dm
          have aN:=aq
          have aQ:=ap
          have aR:=an
          have aT:=am
          have aU:=al
          have aV:=ak
          have aW:=aj
          cases fj
          replace aj:=(HB.out.cell (bLt w _ aj)).trans aj
          replace ak:=(HB.out.cell (bLt w _ ak)).trans ak
          replace al:=(HB.out.cell (bLt w _ al)).trans al
          replace am:=(HB.out.cell (bLt w _ am)).trans am
          replace an:=(HB.out.cell (bLt w _ an)).trans an
          replace ap:=(HB.out.cell (bLt w _ ap)).trans ap
          replace aq:=(HB.out.cell (bLt w _ aq)).trans aq
          have bE:=qaa.mk bB
          have dn:=qaa.mk bz
          clear bB bz
          have bF:=qaa.mk bD
          have dp:=qaa.mk bC
          clear bD bC
          replace dl:=eq_true dl
          replace dm:=eq_true dm
          refine start_ (n:=9) (S:=fun w'=>w'.cell? ⟨ar,0,none⟩=some (.int .i64 ah)∧w'.cell? ⟨ar,1,none⟩=some (.int .i64 ai)∧w'.cell? ⟨ar,2,none⟩=some (.slice (some ac) ae.length cd)∧w'.cell? (ac.add ((aa).toNat * 7))=some (.int .i64 ((qal ae aa).f0))∧w'.cell? ⟨(ac.add ((aa).toNat * 7)).block,(ac.add ((aa).toNat * 7)).off+1,none⟩=some (.int .i64 ((qal ae aa).f1))∧w'.cell? ⟨(ac.add ((aa).toNat * 7)).block,(ac.add ((aa).toNat * 7)).off+2,none⟩=some (.int .i64 ((qal ae aa).f2))∧w'.cell? ⟨(ac.add ((aa).toNat * 7)).block,(ac.add ((aa).toNat * 7)).off+3,none⟩=some (.int .i64 ((qal ae aa).f3))∧w'.cell? ⟨(ac.add ((aa).toNat * 7)).block,(ac.add ((aa).toNat * 7)).off+4,none⟩=some (.int .i64 ((qal ae aa).f4))∧w'.cell? ⟨(ac.add ((aa).toNat * 7)).block,(ac.add ((aa).toNat * 7)).off+5,none⟩=some (.slice cx ((qal ae aa).f5).length cy)∧w'.cell? ⟨(ac.add ((aa).toNat * 7)).block,(ac.add ((aa).toNat * 7)).off+6,none⟩=some (.slice cz ((qal ae aa).f6).length cA)) (ds:=[]) #[false,false,false,false,false,false,false,false,false] (by kernel_rfl) rfl rfl ⟨(qam af.out 0).trans rfl,(qam af.out 1).trans rfl,(qam af.out 2).trans rfl,((HB.out.cell (bLt w _ aW)).trans aW),((HB.out.cell (bLt w _ aV)).trans aV),((HB.out.cell (bLt w _ aU)).trans aU),((HB.out.cell (bLt w _ aT)).trans aT),((HB.out.cell (bLt w _ aR)).trans aR),((HB.out.cell (bLt w _ aQ)).trans aQ),((HB.out.cell (bLt w _ aN)).trans aN)⟩ (fun hHeld=>?_);refine with_tabW ostinatoref05_Check.tab8 ostinatoref05_Check.bits8 (fun HT_ HW_=>?_)
          generalize wr.drew=gK at af HB bE bF aj ak al am an ap aq hHeld ⊢
          refine sP 0 (some 41) rfl rfl ?_
          refine sP 2 (some 43) rfl rfl ?_
          refine sP 5 (some 46) rfl rfl ?_
          refine sT 1 (some 42) rfl rfl hHeld ?_
          refine sP 3 (some 44) rfl rfl ?_
          refine sT 4 (some 45) rfl rfl hHeld ?_
          refine sT 6 (some 47) rfl rfl hHeld ?_
          refine one_ (i:=7) (N:=some 48) #[true,true,true,true,true,true,true,true,false] rfl rfl (one_of HT_.out (by kernel_rfl)) (by decide) (fun K hK=>?_)
          refine goes_ Tryz.func48 (by kernel_rfl) rfl #[.agg #[.int .i64 ((qal ae aa).f0),.int .i64 ((qal ae aa).f1),.int .i64 ((qal ae aa).f2),.int .i64 ((qal ae aa).f3),.int .i64 ((qal ae aa).f4),.slice cx ((qal ae aa).f5).length cy,.slice cz ((qal ae aa).f6).length cA],.int .i64 ah] (by rfl) rfl rfl (by (try simp only [List.map_toArray,List.map_cons,List.map_nil]);first|done|rfl|(simp only [List.length_drop,List.length_take];rfl)) ?_
          with_reducible refine (ostinatoref05_Right.calls k2 ((qal ae aa).f0) ((qal ae aa).f1) ((qal ae aa).f2) ((qal ae aa).f3) ((qal ae aa).f4) _ _ ((qal ae aa).f5) _ _ ((qal ae aa).f6) ah dk _ ?eC ?eD ?eE ?eF gv.out).mono ?_
          (case eC=>repeat (first|exact (Kd.C_below bE.out HB.out)|(with_reducible refine Kd.C_alloc ?_ _)|(with_reducible refine Kd.C_drewN ?_ _)|(with_reducible refine Kd.C_drew ?_)))
          (case eD=>exact dn.out)
          (case eE=>repeat (first|exact (Kd.C_below bF.out HB.out)|(with_reducible refine Kd.C_alloc ?_ _)|(with_reducible refine Kd.C_drewN ?_ _)|(with_reducible refine Kd.C_drew ?_)))
          (case eF=>exact dp.out)
          rintro e gw ⟨rfl,hb⟩
          refine⟨_,rfl,?_⟩
          replace af:=qaa.mk (sKb af.out hb)
          replace HB:=qaa.mk (qai sB hb)
          (try clear hb)
          (try clear gH)
          (try clear hk)
          (try clear hi)
          refine hK.out _ _ ⟨(qam af.out 0).trans rfl,(qam af.out 1).trans rfl,(qam af.out 2).trans rfl,((HB.out.cell (bLt w _ aW)).trans aW),((HB.out.cell (bLt w _ aV)).trans aV),((HB.out.cell (bLt w _ aU)).trans aU),((HB.out.cell (bLt w _ aT)).trans aT),((HB.out.cell (bLt w _ aR)).trans aR),((HB.out.cell (bLt w _ aQ)).trans aQ),((HB.out.cell (bLt w _ aN)).trans aN)⟩ (fun hHeld=>?_)
          clear hK K
          refine norm_ (a':=?_) ?_ ?_
          rotate_left
          ·show Act.put _ (some 48) _=_
           simp only [Act.put,List.setIfInBounds_toArray,List.set_cons_zero,List.set_cons_succ,i64_w,i32_w]
           rfl
          refine sP 8 (some 4) rfl rfl ?_
          refine done_ (done_of HT_.out (by kernel_rfl)) ?_
          go_upto_region 11 with (fail)
          go_cut [69] (fun gI wc=>∃ (kq:Nat) (dq:Bool),gI=.bool dq∧qaa (ostinatoref05_Check.j2 kq aa dq ah ai ae=some r)∧qaa (kq≤k2)∧qaa (wc.heap[ar]? = some (.cells #[.int .i64 ah,.int .i64 ai,(.slice (some ac) ae.length cd)] 37 (0,0)))∧qaa (Below w.heap.size w wc))
          case first=>
           have H:=fh.out
           clear fh
           by_cases fc:aa > 0
           ·rw [if_pos fc] at H
            have cB:decide (0<aa)=true:=decide_eq_true fc
            clear fc
            (first|rw [cB]|(simp only [i64_w,i32_w];rw [cB])|skip)
            obtain⟨au,dU⟩:∃ j_:Int,(wrap64 (aa - 1))=j_:=⟨_,rfl⟩
            replace H:(if 0≤(au) then (if (au)<(ae.length:Int) then (ostinatoref05_Check.j2 k2 aa (decide (((qal ae aa).f0)≤((qal ae (au)).f0))) ah ai ae) else (none)) else (none))=some r:=by first|(rw [dU] at H;exact H)|(simp only [dU] at H ⊢;exact H)
            have hji26w:(IntKind.i64.wrap (aa - 1))=au:=(i64_w _).trans dU
            by_cases fC:0≤(au)
            ·rw [if_pos fC] at H
             have fe:decide (0≤(au))=true:=decide_eq_true fC
             clear fC
             by_cases fD:(au)<(ae.length:Int)
             ·rw [if_pos fD] at H
              have ff:decide ((au)<(ae.length:Int))=true:=decide_eq_true fD
              clear fD
              have H':=qaa.mk H
              clear H
              try go_wp2
              replace af:=qaa.mk (blk_drew af.out)
              replace HB:=qaa.mk (qaf HB.out)
              have eG:0≤(aa:Int):=of_decide_eq_true sA
              have eH:aa<(ae.length:Int):=of_decide_eq_true sA
              obtain⟨fG,fk,fl,fm,fo,gn,aY,aZ,a8,ba,bf,bg,bh,dV,dW,dX,dY⟩:=at_T58 cb.out aa eG eH
              have dZ:=bh
              have d9:=bg
              have ea:=bf
              have eb:=ba
              have ec:=a8
              have ed:=aZ
              have ef:=aY
              obtain rfl:ac=fG:=(by injection gn)
              replace aY:=(HB.out.cell (bLt w _ aY)).trans aY
              replace aZ:=(HB.out.cell (bLt w _ aZ)).trans aZ
              replace a8:=(HB.out.cell (bLt w _ a8)).trans a8
              replace ba:=(HB.out.cell (bLt w _ ba)).trans ba
              replace bf:=(HB.out.cell (bLt w _ bf)).trans bf
              replace bg:=(HB.out.cell (bLt w _ bg)).trans bg
              replace bh:=(HB.out.cell (bLt w _ bh)).trans bh
              have eP:=qaa.mk dW
              have fM:=qaa.mk dV
              clear dW dV
              have eQ:=qaa.mk dY
              have fN:=qaa.mk dX
              clear dY dX
              replace eG:=eq_true eG
              replace eH:=eq_true eH
              have eI:0≤((au):Int):=of_decide_eq_true sA
              have eJ:(au)<(ae.length:Int):=of_decide_eq_true sA
              obtain⟨fH,fp,fq,ft,fu,gp,bj,bl,bm,bn,bp,bt,bx,eg,eh,ek,el⟩:=at_T58 cb.out (au) eI eJ
              have en:=bx
              have ep:=bt
              have eq:=bp
              have er:=bn
              have es:=bm
              have et:=bl
              have eu:=bj
              obtain rfl:ac=fH:=(by injection gp)
              replace bj:=(HB.out.cell (bLt w _ bj)).trans bj
              replace bl:=(HB.out.cell (bLt w _ bl)).trans bl
              replace bm:=(HB.out.cell (bLt w _ bm)).trans bm
              replace bn:=(HB.out.cell (bLt w _ bn)).trans bn
              replace bp:=(HB.out.cell (bLt w _ bp)).trans bp
              replace bt:=(HB.out.cell (bLt w _ bt)).trans bt
              replace bx:=(HB.out.cell (bLt w _ bx)).trans bx
              have eR:=qaa.mk eh
              have fO:=qaa.mk eg
              clear eh eg
              have eS:=qaa.mk el
              have fP:=qaa.mk ek
              clear el ek
              replace eI:=eq_true eI
              replace eJ:=eq_true eJ
              refine start_ (n:=18) (S:=fun w'=>w'.cell? ⟨ar,0,none⟩=some (.int .i64 ah)∧w'.cell? ⟨ar,1,none⟩=some (.int .i64 ai)∧w'.cell? ⟨ar,2,none⟩=some (.slice (some ac) ae.length cd)∧w'.cell? (ac.add ((aa).toNat * 7))=some (.int .i64 ((qal ae aa).f0))∧w'.cell? ⟨(ac.add ((aa).toNat * 7)).block,(ac.add ((aa).toNat * 7)).off+1,none⟩=some (.int .i64 ((qal ae aa).f1))∧w'.cell? ⟨(ac.add ((aa).toNat * 7)).block,(ac.add ((aa).toNat * 7)).off+2,none⟩=some (.int .i64 ((qal ae aa).f2))∧w'.cell? ⟨(ac.add ((aa).toNat * 7)).block,(ac.add ((aa).toNat * 7)).off+3,none⟩=some (.int .i64 ((qal ae aa).f3))∧w'.cell? ⟨(ac.add ((aa).toNat * 7)).block,(ac.add ((aa).toNat * 7)).off+4,none⟩=some (.int .i64 ((qal ae aa).f4))∧w'.cell? ⟨(ac.add ((aa).toNat * 7)).block,(ac.add ((aa).toNat * 7)).off+5,none⟩=some (.slice fk ((qal ae aa).f5).length fl)∧w'.cell? ⟨(ac.add ((aa).toNat * 7)).block,(ac.add ((aa).toNat * 7)).off+6,none⟩=some (.slice fm ((qal ae aa).f6).length fo)∧w'.cell? (ac.add (((au)).toNat * 7))=some (.int .i64 ((qal ae (au)).f0))∧w'.cell? ⟨(ac.add (((au)).toNat * 7)).block,(ac.add (((au)).toNat * 7)).off+1,none⟩=some (.int .i64 ((qal ae (au)).f1))∧w'.cell? ⟨(ac.add (((au)).toNat * 7)).block,(ac.add (((au)).toNat * 7)).off+2,none⟩=some (.int .i64 ((qal ae (au)).f2))∧w'.cell? ⟨(ac.add (((au)).toNat * 7)).block,(ac.add (((au)).toNat * 7)).off+3,none⟩=some (.int .i64 ((qal ae (au)).f3))∧w'.cell? ⟨(ac.add (((au)).toNat * 7)).block,(ac.add (((au)).toNat * 7)).off+4,none⟩=some (.int .i64 ((qal ae (au)).f4))∧w'.cell? ⟨(ac.add (((au)).toNat * 7)).block,(ac.add (((au)).toNat * 7)).off+5,none⟩=some (.slice fp ((qal ae (au)).f5).length fq)∧w'.cell? ⟨(ac.add (((au)).toNat * 7)).block,(ac.add (((au)).toNat * 7)).off+6,none⟩=some (.slice ft ((qal ae (au)).f6).length fu)) (ds:=[]) #[false,false,false,false,false,false,false,false,false,false,false,false,false,false,false,false,false,false] (by kernel_rfl) rfl rfl ⟨(qam af.out 0).trans rfl,(qam af.out 1).trans rfl,(qam af.out 2).trans rfl,((HB.out.cell (bLt w _ ef)).trans ef),((HB.out.cell (bLt w _ ed)).trans ed),((HB.out.cell (bLt w _ ec)).trans ec),((HB.out.cell (bLt w _ eb)).trans eb),((HB.out.cell (bLt w _ ea)).trans ea),((HB.out.cell (bLt w _ d9)).trans d9),((HB.out.cell (bLt w _ dZ)).trans dZ),((HB.out.cell (bLt w _ eu)).trans eu),((HB.out.cell (bLt w _ et)).trans et),((HB.out.cell (bLt w _ es)).trans es),((HB.out.cell (bLt w _ er)).trans er),((HB.out.cell (bLt w _ eq)).trans eq),((HB.out.cell (bLt w _ ep)).trans ep),((HB.out.cell (bLt w _ en)).trans en)⟩ (fun hHeld=>?_);refine with_tabW ostinatoref05_Check.tab11 ostinatoref05_Check.bits11 (fun HT_ HW_=>?_)
              generalize gw.drew=gL at af HB eP eQ eR eS aY aZ a8 ba bf bg bh bj bl bm bn bp bt bx hHeld ⊢
              refine sP 0 (some 52) rfl rfl ?_
              refine sP 1 (some 53) rfl rfl ?_
              refine sP 2 (some 54) rfl rfl ?_
              refine sP 3 (some 55) rfl rfl ?_
              refine sP 5 (some 57) rfl rfl ?_
              refine sP 9 (some 61) rfl rfl ?_
              refine sP 11 (some 63) rfl rfl ?_
              refine sP 12 (some 64) rfl rfl ?_
              refine sT 4 (some 56) rfl rfl hHeld ?_
              refine sP 6 (some 58) rfl rfl ?_
              refine sP 7 (some 59) rfl rfl ?_
              refine sT 8 (some 60) rfl rfl hHeld ?_
              refine sT 10 (some 62) rfl rfl hHeld ?_
              refine sP 13 (some 65) rfl rfl ?_
              refine sP 14 (some 66) rfl rfl ?_
              refine sT 15 (some 67) rfl rfl hHeld ?_
              refine sP 16 (some 68) rfl rfl ?_
              refine sP 17 (some 69) rfl rfl ?_
              refine done_ (done_of HT_.out (by kernel_rfl)) ?_
              try go_wp2
              go_meet
              case rel=>exact⟨_,(decide (((qal ae aa).f0)≤((qal ae (au)).f0))),(by first|rfl|(simp;done)|(simp only [← dU]<;>(first|rfl|simp))|(simp [*];done)),H',⟨by have:=fz.out;have:=fA.out;first|omega|exact Nat.le_refl _⟩,⟨by refine sM ?_;exact af.out⟩,⟨by repeat (first|(with_reducible first|exact HB.out|apply qag|apply qab|apply qaf|refine qah ?_ aM.out)|exact HB.out)⟩⟩
             ·rw [if_neg fD] at H
              exact absurd H (by simp)
            ·rw [if_neg fC] at H
             exact absurd H (by simp)
           ·rw [if_neg fc] at H
            have cB:decide (0<aa)=false:=decide_eq_false fc
            clear fc
            (first|rw [cB]|(simp only [i64_w,i32_w];rw [cB])|skip)
            have H':=qaa.mk H
            clear H
            try go_wp2
            replace af:=qaa.mk (blk_drew af.out)
            replace HB:=qaa.mk (qaf HB.out)
            refine start_ (n:=18) (S:=fun w'=>True) (ds:=[]) #[false,false,false,false,false,false,false,false,false,false,false,false,false,false,false,false,false,false] (by kernel_rfl) rfl rfl trivial (fun hHeld=>?_);refine with_tabW ostinatoref05_Check.tab11 ostinatoref05_Check.bits11 (fun HT_ HW_=>?_)
            generalize gw.drew=gM at af HB hHeld ⊢
            refine sP 0 (some 52) rfl rfl ?_
            refine sP 1 (some 53) rfl rfl ?_
            refine sP 2 (some 54) rfl rfl ?_
            refine sU 3 (some 55) rfl rfl ?_
            refine sU 4 (some 56) rfl rfl ?_
            refine sU 5 (some 57) rfl rfl ?_
            refine sU 6 (some 58) rfl rfl ?_
            refine sU 7 (some 59) rfl rfl ?_
            refine sU 8 (some 60) rfl rfl ?_
            refine sU 9 (some 61) rfl rfl ?_
            refine sU 10 (some 62) rfl rfl ?_
            refine sU 11 (some 63) rfl rfl ?_
            refine sU 12 (some 64) rfl rfl ?_
            refine sU 13 (some 65) rfl rfl ?_
            refine sU 14 (some 66) rfl rfl ?_
            refine sU 15 (some 67) rfl rfl ?_
            refine sU 16 (some 68) rfl rfl ?_
            refine sP 17 (some 69) rfl rfl ?_
            refine done_ (done_of HT_.out (by kernel_rfl)) ?_
            try go_wp2
            go_meet
            case rel=>exact⟨_,(false),(by first|rfl|(simp;done)|(simp [*];done)),H',⟨by have:=fz.out;have:=fA.out;first|omega|exact Nat.le_refl _⟩,⟨by refine sM ?_;exact af.out⟩,⟨by repeat (first|(with_reducible first|exact HB.out|apply qag|apply qab|apply qaf|refine qah ?_ aM.out)|exact HB.out)⟩⟩
          case rest=>
           clear fh
           try clear c1
           try clear p1
           try clear q1
           try clear gJ
           try clear c2
           try clear p2
           try clear c4
           try clear cC
           try clear c6
           try clear ew
           try clear p6
           try clear c8
           try clear ex
           try clear eM
           try clear dw
           try clear fg
           try clear eN
           try clear dK
           try clear dL
           try clear gu
           try clear gx
           try clear gy
           try clear gq
           try clear fa
           try clear ey
           try clear fB
           try clear fb
           try clear eO
           try clear ez
           try clear eB
           try clear fc
           try clear cB
           try clear fC
           try clear fe
           try clear fD
           try clear ff
           try clear ce cf cg
           try clear cn co cp
           try clear cW cY cZ
           try clear de df dg
           try clear dM dN dO
           try clear cD cE cF
           try clear cJ cK cL
           try clear cP cR cS
           try clear cj ck cm
           try clear cq cr ct
           try clear da db dc
           try clear dh di dj
           try clear dP dQ dT
           try clear cG cH cI
           try clear cM cN cO
           try clear cT cU cV
           try clear aj
           try clear ak
           try clear al
           try clear am
           try clear an
           try clear ap
           try clear aq
           try clear aY
           try clear aZ
           try clear a8
           try clear ba
           try clear bf
           try clear bg
           try clear bh
           try clear bj
           try clear bl
           try clear bm
           try clear bn
           try clear bp
           try clear bt
           try clear bx
           try clear dl
           try clear eG
           try clear eI
           try clear p2
           try clear dm
           try clear eH
           try clear eJ
           obtain⟨kq,dq,rfl,HA,eT,af,HB⟩:=hcut
           cases kq with
           |zero=>exact absurd HA.out (by simp [ostinatoref05_Check.j2])
           |succ fv=>
            have H:=HA.out
            clear HA
            simp only [ostinatoref05_Check.j2] at H
            by_cases fI:dq=true
            ·subst fI
             have H1:(some 10)=some r:=by rw [if_pos rfl] at H;exact H
             clear H
             have H:=H1
             clear H1
             obtain rfl:=Option.some.inj H
             go_wp2
             go_ret
             exact⟨by first|rfl|(simp [qak,qaj]<;>rfl)|(simp [bneNil,bneNilU]<;>rfl)|(simp [*,qak,qaj]<;>rfl),by repeat (first|(with_reducible first|exact HB.out|apply qag|apply qab|apply qaf|refine qah ?_ aM.out)|exact HB.out)⟩
            ·replace fI:=Bool.eq_false_iff.mpr fI
             subst fI
             have H1:(ostinatoref05_Check.l1 fv aa 0 ah ai ae)=some r:=by rw [if_neg (show ¬ (false=true) by decide)] at H;exact H
             clear H
             have H:=H1
             clear H1
             have H':=qaa.mk H
             clear H
             go_wp2
             go_loopg [5] fv (fun kq v5 w'=>∃ (ag:Int),v5=.int .i64 ag∧qaa (ostinatoref05_Check.l1 kq aa ag ah ai ae=some r)∧qaa (kq≤fv)∧qaa (w'.heap[ar]? = some (.cells #[.int .i64 ah,.int .i64 ai,(.slice (some ac) ae.length cd)] 37 (0,0)))∧qaa (Below w.heap.size w w'))
             case atStart=>exact⟨(0),(by first|rfl|(simp;done)|(simp [*];done)),H',⟨Nat.le_refl _⟩,⟨by refine sM ?_;exact af.out⟩,⟨by repeat (first|(with_reducible first|exact HB.out|apply qag|apply qab|apply qaf|refine qah ?_ aM.out)|exact HB.out)⟩⟩
             case round=>
              clear H'
              try clear c1
              try clear p1
              try clear q1
              try clear gJ
              try clear c2
              try clear p2
              try clear c3
              try clear c4
              try clear cC
              try clear c6
              try clear ew
              try clear p6
              try clear c8
              try clear ex
              try clear eM
              try clear dw
              try clear fg
              try clear eN
              try clear dK
              try clear dL
              try clear gu
              try clear gx
              try clear gy
              try clear gq
              try clear fa
              try clear ey
              try clear fB
              try clear fb
              try clear eO
              try clear ez
              try clear eB
              try clear fc
              try clear cB
              try clear fC
              try clear fe
              try clear fD
              try clear ff
              try clear fI
              try clear ce cf cg
              try clear cn co cp
              try clear cW cY cZ
              try clear de df dg
              try clear dM dN dO
              try clear cD cE cF
              try clear cJ cK cL
              try clear cP cR cS
              try clear cj ck cm
              try clear cq cr ct
              try clear da db dc
              try clear dh di dj
              try clear dP dQ dT
              try clear cG cH cI
              try clear cM cN cO
              try clear cT cU cV
              try clear aj
              try clear ak
              try clear al
              try clear am
              try clear an
              try clear ap
              try clear aq
              try clear aY
              try clear aZ
              try clear a8
              try clear ba
              try clear bf
              try clear bg
              try clear bh
              try clear bj
              try clear bl
              try clear bm
              try clear bn
              try clear bp
              try clear bt
              try clear bx
              try clear p1
              try clear gx
              try clear dl
              try clear eG
              try clear eI
              try clear p2
              try clear p6
              try clear q1
              try clear gy
              try clear dm
              try clear eH
              try clear eJ
              obtain⟨ag,rfl,HA,fQ,af,HB⟩:=hrel
              cases gk with
              |zero=>exact absurd HA.out (by simp [ostinatoref05_Check.l1])
              |succ k4=>
               have H:=HA.out
               clear HA
               simp only [ostinatoref05_Check.l1] at H
               by_cases fE:ag<aa
               ·rw [if_pos fE] at H
                have fJ:decide (ag<aa)=true:=decide_eq_true fE
                clear fE
                by_cases fR:0≤ag
                ·rw [if_pos fR] at H
                 have gz:decide (0≤ag)=true:=decide_eq_true fR
                 clear fR
                 by_cases fS:ag<(ae.length:Int)
                 ·rw [if_pos fS] at H
                  have gB:decide (ag<(ae.length:Int))=true:=decide_eq_true fS
                  clear fS
                  by_cases fT:0≤aa
                  ·rw [if_pos fT] at H
                   have gC:decide (0≤aa)=true:=decide_eq_true fT
                   clear fT
                   by_cases fU:aa<(ae.length:Int)
                   ·rw [if_pos fU] at H
                    have gD:decide (aa<(ae.length:Int))=true:=decide_eq_true fU
                    clear fU
                    by_cases fw:((qal ae ag).f4)=((qal ae aa).f4)
                    ·rw [if_pos fw] at H
                     have fK:(((qal ae ag).f4) == ((qal ae aa).f4))=true:=beq_iff_eq.mpr fw
                     have fL:(((qal ae ag).f4) != ((qal ae aa).f4))=false:=bne_eq_false_iff_eq.mpr fw
                     clear fw
                     obtain rfl:=Option.some.inj H
                     try go_wp2
                     replace af:=qaa.mk (blk_drew af.out)
                     replace HB:=qaa.mk (qaf HB.out)
                     have dx:0≤(ag:Int):=of_decide_eq_true sA
                     have dy:ag<(ae.length:Int):=of_decide_eq_true sA
                     obtain⟨eK,dz,dA,dB,dC,fx,av,aw,ax,ay,az,aA,aC,bG,bH,bI,bJ⟩:=at_T58 cb.out ag dx dy
                     have bK:=aC
                     have bL:=aA
                     have bM:=az
                     have bN:=ay
                     have bO:=ax
                     have bP:=aw
                     have bQ:=av
                     obtain rfl:ac=eK:=(by injection fx)
                     replace av:=(HB.out.cell (bLt w _ av)).trans av
                     replace aw:=(HB.out.cell (bLt w _ aw)).trans aw
                     replace ax:=(HB.out.cell (bLt w _ ax)).trans ax
                     replace ay:=(HB.out.cell (bLt w _ ay)).trans ay
                     replace az:=(HB.out.cell (bLt w _ az)).trans az
                     replace aA:=(HB.out.cell (bLt w _ aA)).trans aA
                     replace aC:=(HB.out.cell (bLt w _ aC)).trans aC
                     have dr:=qaa.mk bH
                     have eU:=qaa.mk bG
                     clear bH bG
                     have dt:=qaa.mk bJ
                     have eV:=qaa.mk bI
                     clear bJ bI
                     replace dx:=eq_true dx
                     replace dy:=eq_true dy
                     have dD:0≤(aa:Int):=of_decide_eq_true sA
                     have dE:aa<(ae.length:Int):=of_decide_eq_true sA
                     obtain⟨eL,dF,dG,dH,dI,fy,aD,aE,aG,aH,aI,aJ,aK,bR,bS,bT,bU⟩:=at_T58 cb.out aa dD dE
                     have bV:=aK
                     have bW:=aJ
                     have bY:=aI
                     have bZ:=aH
                     have b8:=aG
                     have b9:=aE
                     have ca:=aD
                     obtain rfl:ac=eL:=(by injection fy)
                     replace aD:=(HB.out.cell (bLt w _ aD)).trans aD
                     replace aE:=(HB.out.cell (bLt w _ aE)).trans aE
                     replace aG:=(HB.out.cell (bLt w _ aG)).trans aG
                     replace aH:=(HB.out.cell (bLt w _ aH)).trans aH
                     replace aI:=(HB.out.cell (bLt w _ aI)).trans aI
                     replace aJ:=(HB.out.cell (bLt w _ aJ)).trans aJ
                     replace aK:=(HB.out.cell (bLt w _ aK)).trans aK
                     have du:=qaa.mk bS
                     have eW:=qaa.mk bR
                     clear bS bR
                     have dv:=qaa.mk bU
                     have eX:=qaa.mk bT
                     clear bU bT
                     replace dD:=eq_true dD
                     replace dE:=eq_true dE
                     refine start_ (n:=13) (S:=fun w'=>w'.cell? ⟨ar,0,none⟩=some (.int .i64 ah)∧w'.cell? ⟨ar,1,none⟩=some (.int .i64 ai)∧w'.cell? ⟨ar,2,none⟩=some (.slice (some ac) ae.length cd)∧w'.cell? (ac.add ((ag).toNat * 7))=some (.int .i64 ((qal ae ag).f0))∧w'.cell? ⟨(ac.add ((ag).toNat * 7)).block,(ac.add ((ag).toNat * 7)).off+1,none⟩=some (.int .i64 ((qal ae ag).f1))∧w'.cell? ⟨(ac.add ((ag).toNat * 7)).block,(ac.add ((ag).toNat * 7)).off+2,none⟩=some (.int .i64 ((qal ae ag).f2))∧w'.cell? ⟨(ac.add ((ag).toNat * 7)).block,(ac.add ((ag).toNat * 7)).off+3,none⟩=some (.int .i64 ((qal ae ag).f3))∧w'.cell? ⟨(ac.add ((ag).toNat * 7)).block,(ac.add ((ag).toNat * 7)).off+4,none⟩=some (.int .i64 ((qal ae ag).f4))∧w'.cell? ⟨(ac.add ((ag).toNat * 7)).block,(ac.add ((ag).toNat * 7)).off+5,none⟩=some (.slice dz ((qal ae ag).f5).length dA)∧w'.cell? ⟨(ac.add ((ag).toNat * 7)).block,(ac.add ((ag).toNat * 7)).off+6,none⟩=some (.slice dB ((qal ae ag).f6).length dC)∧w'.cell? (ac.add ((aa).toNat * 7))=some (.int .i64 ((qal ae aa).f0))∧w'.cell? ⟨(ac.add ((aa).toNat * 7)).block,(ac.add ((aa).toNat * 7)).off+1,none⟩=some (.int .i64 ((qal ae aa).f1))∧w'.cell? ⟨(ac.add ((aa).toNat * 7)).block,(ac.add ((aa).toNat * 7)).off+2,none⟩=some (.int .i64 ((qal ae aa).f2))∧w'.cell? ⟨(ac.add ((aa).toNat * 7)).block,(ac.add ((aa).toNat * 7)).off+3,none⟩=some (.int .i64 ((qal ae aa).f3))∧w'.cell? ⟨(ac.add ((aa).toNat * 7)).block,(ac.add ((aa).toNat * 7)).off+4,none⟩=some (.int .i64 ((qal ae aa).f4))∧w'.cell? ⟨(ac.add ((aa).toNat * 7)).block,(ac.add ((aa).toNat * 7)).off+5,none⟩=some (.slice dF ((qal ae aa).f5).length dG)∧w'.cell? ⟨(ac.add ((aa).toNat * 7)).block,(ac.add ((aa).toNat * 7)).off+6,none⟩=some (.slice dH ((qal ae aa).f6).length dI)) (ds:=[]) #[false,false,false,false,false,false,false,false,false,false,false,false,false] (by kernel_rfl) rfl rfl ⟨(qam af.out 0).trans rfl,(qam af.out 1).trans rfl,(qam af.out 2).trans rfl,((HB.out.cell (bLt w _ bQ)).trans bQ),((HB.out.cell (bLt w _ bP)).trans bP),((HB.out.cell (bLt w _ bO)).trans bO),((HB.out.cell (bLt w _ bN)).trans bN),((HB.out.cell (bLt w _ bM)).trans bM),((HB.out.cell (bLt w _ bL)).trans bL),((HB.out.cell (bLt w _ bK)).trans bK),((HB.out.cell (bLt w _ ca)).trans ca),((HB.out.cell (bLt w _ b9)).trans b9),((HB.out.cell (bLt w _ b8)).trans b8),((HB.out.cell (bLt w _ bZ)).trans bZ),((HB.out.cell (bLt w _ bY)).trans bY),((HB.out.cell (bLt w _ bW)).trans bW),((HB.out.cell (bLt w _ bV)).trans bV)⟩ (fun hHeld=>?_);refine with_tabW ostinatoref05_Check.tab16 ostinatoref05_Check.bits16 (fun HT_ HW_=>?_)
                     generalize wr.drew=gN at af HB dr dt du dv av aw ax ay az aA aC aD aE aG aH aI aJ aK hHeld ⊢
                     refine sP 0 (some 75) rfl rfl ?_
                     refine sP 2 (some 77) rfl rfl ?_
                     refine sP 6 (some 81) rfl rfl ?_
                     refine sP 8 (some 83) rfl rfl ?_
                     refine sT 1 (some 76) rfl rfl hHeld ?_
                     refine sP 3 (some 78) rfl rfl ?_
                     refine sP 4 (some 79) rfl rfl ?_
                     refine sT 5 (some 80) rfl rfl hHeld ?_
                     refine sT 7 (some 82) rfl rfl hHeld ?_
                     refine sP 9 (some 84) rfl rfl ?_
                     refine sP 10 (some 85) rfl rfl ?_
                     refine sT 11 (some 86) rfl rfl hHeld ?_
                     refine sP 12 (some 87) rfl rfl ?_
                     refine done_ (done_of HT_.out (by kernel_rfl)) ?_
                     try go_wp2
                     go_ret
                     exact⟨by first|rfl|(simp [qak,qaj]<;>rfl)|(simp [bneNil,bneNilU]<;>rfl)|(simp [*,qak,qaj]<;>rfl),by repeat (first|(with_reducible first|exact HB.out|apply qag|apply qab|apply qaf|refine qah ?_ aM.out)|exact HB.out)⟩
                    ·rw [if_neg fw] at H
                     have fK:(((qal ae ag).f4) == ((qal ae aa).f4))=false:=beq_eq_false_iff_ne.mpr fw
                     have fL:(((qal ae ag).f4) != ((qal ae aa).f4))=true:=bne_iff_ne.mpr fw
                     have H':=qaa.mk H
                     clear H
                     try go_wp2
                     replace af:=qaa.mk (blk_drew af.out)
                     replace HB:=qaa.mk (qaf HB.out)
                     have dx:0≤(ag:Int):=of_decide_eq_true sA
                     have dy:ag<(ae.length:Int):=of_decide_eq_true sA
                     obtain⟨eK,dz,dA,dB,dC,fx,av,aw,ax,ay,az,aA,aC,bG,bH,bI,bJ⟩:=at_T58 cb.out ag dx dy
                     have bK:=aC
                     have bL:=aA
                     have bM:=az
                     have bN:=ay
                     have bO:=ax
                     have bP:=aw
                     have bQ:=av
                     obtain rfl:ac=eK:=(by injection fx)
                     replace av:=(HB.out.cell (bLt w _ av)).trans av
                     replace aw:=(HB.out.cell (bLt w _ aw)).trans aw
                     replace ax:=(HB.out.cell (bLt w _ ax)).trans ax
                     replace ay:=(HB.out.cell (bLt w _ ay)).trans ay
                     replace az:=(HB.out.cell (bLt w _ az)).trans az
                     replace aA:=(HB.out.cell (bLt w _ aA)).trans aA
                     replace aC:=(HB.out.cell (bLt w _ aC)).trans aC
                     have dr:=qaa.mk bH
                     have eU:=qaa.mk bG
                     clear bH bG
                     have dt:=qaa.mk bJ
                     have eV:=qaa.mk bI
                     clear bJ bI
                     replace dx:=eq_true dx
                     replace dy:=eq_true dy
                     have dD:0≤(aa:Int):=of_decide_eq_true sA
                     have dE:aa<(ae.length:Int):=of_decide_eq_true sA
                     obtain⟨eL,dF,dG,dH,dI,fy,aD,aE,aG,aH,aI,aJ,aK,bR,bS,bT,bU⟩:=at_T58 cb.out aa dD dE
                     have bV:=aK
                     have bW:=aJ
                     have bY:=aI
                     have bZ:=aH
                     have b8:=aG
                     have b9:=aE
                     have ca:=aD
                     obtain rfl:ac=eL:=(by injection fy)
                     replace aD:=(HB.out.cell (bLt w _ aD)).trans aD
                     replace aE:=(HB.out.cell (bLt w _ aE)).trans aE
                     replace aG:=(HB.out.cell (bLt w _ aG)).trans aG
                     replace aH:=(HB.out.cell (bLt w _ aH)).trans aH
                     replace aI:=(HB.out.cell (bLt w _ aI)).trans aI
                     replace aJ:=(HB.out.cell (bLt w _ aJ)).trans aJ
                     replace aK:=(HB.out.cell (bLt w _ aK)).trans aK
                     have du:=qaa.mk bS
                     have eW:=qaa.mk bR
                     clear bS bR
                     have dv:=qaa.mk bU
                     have eX:=qaa.mk bT
                     clear bU bT
                     replace dD:=eq_true dD
                     replace dE:=eq_true dE
                     refine start_ (n:=13) (S:=fun w'=>w'.cell? ⟨ar,0,none⟩=some (.int .i64 ah)∧w'.cell? ⟨ar,1,none⟩=some (.int .i64 ai)∧w'.cell? ⟨ar,2,none⟩=some (.slice (some ac) ae.length cd)∧w'.cell? (ac.add ((ag).toNat * 7))=some (.int .i64 ((qal ae ag).f0))∧w'.cell? ⟨(ac.add ((ag).toNat * 7)).block,(ac.add ((ag).toNat * 7)).off+1,none⟩=some (.int .i64 ((qal ae ag).f1))∧w'.cell? ⟨(ac.add ((ag).toNat * 7)).block,(ac.add ((ag).toNat * 7)).off+2,none⟩=some (.int .i64 ((qal ae ag).f2))∧w'.cell? ⟨(ac.add ((ag).toNat * 7)).block,(ac.add ((ag).toNat * 7)).off+3,none⟩=some (.int .i64 ((qal ae ag).f3))∧w'.cell? ⟨(ac.add ((ag).toNat * 7)).block,(ac.add ((ag).toNat * 7)).off+4,none⟩=some (.int .i64 ((qal ae ag).f4))∧w'.cell? ⟨(ac.add ((ag).toNat * 7)).block,(ac.add ((ag).toNat * 7)).off+5,none⟩=some (.slice dz ((qal ae ag).f5).length dA)∧w'.cell? ⟨(ac.add ((ag).toNat * 7)).block,(ac.add ((ag).toNat * 7)).off+6,none⟩=some (.slice dB ((qal ae ag).f6).length dC)∧w'.cell? (ac.add ((aa).toNat * 7))=some (.int .i64 ((qal ae aa).f0))∧w'.cell? ⟨(ac.add ((aa).toNat * 7)).block,(ac.add ((aa).toNat * 7)).off+1,none⟩=some (.int .i64 ((qal ae aa).f1))∧w'.cell? ⟨(ac.add ((aa).toNat * 7)).block,(ac.add ((aa).toNat * 7)).off+2,none⟩=some (.int .i64 ((qal ae aa).f2))∧w'.cell? ⟨(ac.add ((aa).toNat * 7)).block,(ac.add ((aa).toNat * 7)).off+3,none⟩=some (.int .i64 ((qal ae aa).f3))∧w'.cell? ⟨(ac.add ((aa).toNat * 7)).block,(ac.add ((aa).toNat * 7)).off+4,none⟩=some (.int .i64 ((qal ae aa).f4))∧w'.cell? ⟨(ac.add ((aa).toNat * 7)).block,(ac.add ((aa).toNat * 7)).off+5,none⟩=some (.slice dF ((qal ae aa).f5).length dG)∧w'.cell? ⟨(ac.add ((aa).toNat * 7)).block,(ac.add ((aa).toNat * 7)).off+6,none⟩=some (.slice dH ((qal ae aa).f6).length dI)) (ds:=[]) #[false,false,false,false,false,false,false,false,false,false,false,false,false] (by kernel_rfl) rfl rfl ⟨(qam af.out 0).trans rfl,(qam af.out 1).trans rfl,(qam af.out 2).trans rfl,((HB.out.cell (bLt w _ bQ)).trans bQ),((HB.out.cell (bLt w _ bP)).trans bP),((HB.out.cell (bLt w _ bO)).trans bO),((HB.out.cell (bLt w _ bN)).trans bN),((HB.out.cell (bLt w _ bM)).trans bM),((HB.out.cell (bLt w _ bL)).trans bL),((HB.out.cell (bLt w _ bK)).trans bK),((HB.out.cell (bLt w _ ca)).trans ca),((HB.out.cell (bLt w _ b9)).trans b9),((HB.out.cell (bLt w _ b8)).trans b8),((HB.out.cell (bLt w _ bZ)).trans bZ),((HB.out.cell (bLt w _ bY)).trans bY),((HB.out.cell (bLt w _ bW)).trans bW),((HB.out.cell (bLt w _ bV)).trans bV)⟩ (fun hHeld=>?_);refine with_tabW ostinatoref05_Check.tab16 ostinatoref05_Check.bits16 (fun HT_ HW_=>?_)
                     generalize wr.drew=gO at af HB dr dt du dv av aw ax ay az aA aC aD aE aG aH aI aJ aK hHeld ⊢
                     refine sP 0 (some 75) rfl rfl ?_
                     refine sP 2 (some 77) rfl rfl ?_
                     refine sP 6 (some 81) rfl rfl ?_
                     refine sP 8 (some 83) rfl rfl ?_
                     refine sT 1 (some 76) rfl rfl hHeld ?_
                     refine sP 3 (some 78) rfl rfl ?_
                     refine sP 4 (some 79) rfl rfl ?_
                     refine sT 5 (some 80) rfl rfl hHeld ?_
                     refine sT 7 (some 82) rfl rfl hHeld ?_
                     refine sP 9 (some 84) rfl rfl ?_
                     refine sP 10 (some 85) rfl rfl ?_
                     refine sT 11 (some 86) rfl rfl hHeld ?_
                     refine sP 12 (some 87) rfl rfl ?_
                     refine done_ (done_of HT_.out (by kernel_rfl)) ?_
                     try go_wp2
                     go_roundg k4
                     case measure=>have:=fz.out;have:=fA.out;have:=eT.out;have:=fQ.out;omega
                     case rel=>exact⟨(wrap64 (ag+1)),(by first|rfl|(simp;done)|(simp [*];done)),H',⟨by have:=fz.out;have:=fA.out;have:=eT.out;have:=fQ.out;omega⟩,⟨by refine sM ?_;exact af.out⟩,⟨by repeat (first|(with_reducible first|exact HB.out|apply qag|apply qab|apply qaf|refine qah ?_ aM.out)|exact HB.out)⟩⟩
                   ·rw [if_neg fU] at H
                    exact absurd H (by simp)
                  ·rw [if_neg fT] at H
                   exact absurd H (by simp)
                 ·rw [if_neg fS] at H
                  exact absurd H (by simp)
                ·rw [if_neg fR] at H
                 exact absurd H (by simp)
               ·rw [if_neg fE] at H
                have fJ:decide (ag<aa)=false:=decide_eq_false fE
                clear fE
                have H':=qaa.mk H
                clear H
                go_wp2
                go_roundg k4
                case measure=>have:=fz.out;have:=fA.out;have:=eT.out;have:=fQ.out;omega
                case rel=>exact⟨(wrap64 (aa+1)),(by first|rfl|(simp;done)|(simp [*];done)),H',⟨by have:=fz.out;have:=fA.out;have:=eT.out;have:=fQ.out;omega⟩,⟨by refine sM ?_;exact af.out⟩,⟨by repeat (first|(with_reducible first|exact HB.out|apply qag|apply qab|apply qaf|refine qah ?_ aM.out)|exact HB.out)⟩⟩
         ·rw [if_neg eO] at H
          have ez:(dk == 0)=false:=beq_eq_false_iff_ne.mpr eO
          have eB:(dk != 0)=true:=bne_iff_ne.mpr eO
          obtain rfl:=Option.some.inj H
          obtain⟨fV,fW,fX⟩:=sC3 (w:=wr) af.out
          obtain⟨fY,fZ,ga⟩:=sF3 af.out
          try go_wp2
          replace af:=qaa.mk (blk_drew af.out)
          replace HB:=qaa.mk (qaf HB.out)
          have dl:0≤(aa:Int):=of_decide_eq_true sA
          have dm:aa<(ae.length:Int):=of_decide_eq_true sA
          obtain⟨ac,cx,cy,cz,cA,fj,aj,ak,al,am,an,ap,aq,bz,bB,bC,bD⟩:=at_T58 cb.out aa dl dm
          have aN:=aq
          have aQ:=ap
          have aR:=an
          have aT:=am
          have aU:=al
          have aV:=ak
          have aW:=aj
          cases fj
          replace aj:=(HB.out.cell (bLt w _ aj)).trans aj
          replace ak:=(HB.out.cell (bLt w _ ak)).trans ak
          replace al:=(HB.out.cell (bLt w _ al)).trans al
          replace am:=(HB.out.cell (bLt w _ am)).trans am
          replace an:=(HB.out.cell (bLt w _ an)).trans an
          replace ap:=(HB.out.cell (bLt w _ ap)).trans ap
          replace aq:=(HB.out.cell (bLt w _ aq)).trans aq
          have bE:=qaa.mk bB
          have dn:=qaa.mk bz
          clear bB bz
          have bF:=qaa.mk bD
          have dp:=qaa.mk bC
          clear bD bC
          replace dl:=eq_true dl
          replace dm:=eq_true dm
          refine start_ (n:=9) (S:=fun w'=>w'.cell? ⟨ar,0,none⟩=some (.int .i64 ah)∧w'.cell? ⟨ar,1,none⟩=some (.int .i64 ai)∧w'.cell? ⟨ar,2,none⟩=some (.slice (some ac) ae.length cd)∧w'.cell? (ac.add ((aa).toNat * 7))=some (.int .i64 ((qal ae aa).f0))∧w'.cell? ⟨(ac.add ((aa).toNat * 7)).block,(ac.add ((aa).toNat * 7)).off+1,none⟩=some (.int .i64 ((qal ae aa).f1))∧w'.cell? ⟨(ac.add ((aa).toNat * 7)).block,(ac.add ((aa).toNat * 7)).off+2,none⟩=some (.int .i64 ((qal ae aa).f2))∧w'.cell? ⟨(ac.add ((aa).toNat * 7)).block,(ac.add ((aa).toNat * 7)).off+3,none⟩=some (.int .i64 ((qal ae aa).f3))∧w'.cell? ⟨(ac.add ((aa).toNat * 7)).block,(ac.add ((aa).toNat * 7)).off+4,none⟩=some (.int .i64 ((qal ae aa).f4))∧w'.cell? ⟨(ac.add ((aa).toNat * 7)).block,(ac.add ((aa).toNat * 7)).off+5,none⟩=some (.slice cx ((qal ae aa).f5).length cy)∧w'.cell? ⟨(ac.add ((aa).toNat * 7)).block,(ac.add ((aa).toNat * 7)).off+6,none⟩=some (.slice cz ((qal ae aa).f6).length cA)) (ds:=[]) #[false,false,false,false,false,false,false,false,false] (by kernel_rfl) rfl rfl ⟨(qam af.out 0).trans rfl,(qam af.out 1).trans rfl,(qam af.out 2).trans rfl,((HB.out.cell (bLt w _ aW)).trans aW),((HB.out.cell (bLt w _ aV)).trans aV),((HB.out.cell (bLt w _ aU)).trans aU),((HB.out.cell (bLt w _ aT)).trans aT),((HB.out.cell (bLt w _ aR)).trans aR),((HB.out.cell (bLt w _ aQ)).trans aQ),((HB.out.cell (bLt w _ aN)).trans aN)⟩ (fun hHeld=>?_);refine with_tabW ostinatoref05_Check.tab8 ostinatoref05_Check.bits8 (fun HT_ HW_=>?_)
          generalize wr.drew=gP at af HB bE bF aj ak al am an ap aq hHeld ⊢
          refine sP 0 (some 41) rfl rfl ?_
          refine sP 2 (some 43) rfl rfl ?_
          refine sP 5 (some 46) rfl rfl ?_
          refine sT 1 (some 42) rfl rfl hHeld ?_
          refine sP 3 (some 44) rfl rfl ?_
          refine sT 4 (some 45) rfl rfl hHeld ?_
          refine sT 6 (some 47) rfl rfl hHeld ?_
          refine one_ (i:=7) (N:=some 48) #[true,true,true,true,true,true,true,true,false] rfl rfl (one_of HT_.out (by kernel_rfl)) (by decide) (fun K hK=>?_)
          refine goes_ Tryz.func48 (by kernel_rfl) rfl #[.agg #[.int .i64 ((qal ae aa).f0),.int .i64 ((qal ae aa).f1),.int .i64 ((qal ae aa).f2),.int .i64 ((qal ae aa).f3),.int .i64 ((qal ae aa).f4),.slice cx ((qal ae aa).f5).length cy,.slice cz ((qal ae aa).f6).length cA],.int .i64 ah] (by rfl) rfl rfl (by (try simp only [List.map_toArray,List.map_cons,List.map_nil]);first|done|rfl|(simp only [List.length_drop,List.length_take];rfl)) ?_
          with_reducible refine (ostinatoref05_Right.calls k2 ((qal ae aa).f0) ((qal ae aa).f1) ((qal ae aa).f2) ((qal ae aa).f3) ((qal ae aa).f4) _ _ ((qal ae aa).f5) _ _ ((qal ae aa).f6) ah dk _ ?eC ?eD ?eE ?eF gv.out).mono ?_
          (case eC=>repeat (first|exact (Kd.C_below bE.out HB.out)|(with_reducible refine Kd.C_alloc ?_ _)|(with_reducible refine Kd.C_drewN ?_ _)|(with_reducible refine Kd.C_drew ?_)))
          (case eD=>exact dn.out)
          (case eE=>repeat (first|exact (Kd.C_below bF.out HB.out)|(with_reducible refine Kd.C_alloc ?_ _)|(with_reducible refine Kd.C_drewN ?_ _)|(with_reducible refine Kd.C_drew ?_)))
          (case eF=>exact dp.out)
          rintro e gQ ⟨rfl,hb⟩
          refine⟨_,rfl,?_⟩
          replace af:=qaa.mk (sKb af.out hb)
          replace HB:=qaa.mk (qai sB hb)
          (try clear hb)
          (try clear gH)
          (try clear hk)
          (try clear hi)
          refine hK.out _ _ ⟨(qam af.out 0).trans rfl,(qam af.out 1).trans rfl,(qam af.out 2).trans rfl,((HB.out.cell (bLt w _ aW)).trans aW),((HB.out.cell (bLt w _ aV)).trans aV),((HB.out.cell (bLt w _ aU)).trans aU),((HB.out.cell (bLt w _ aT)).trans aT),((HB.out.cell (bLt w _ aR)).trans aR),((HB.out.cell (bLt w _ aQ)).trans aQ),((HB.out.cell (bLt w _ aN)).trans aN)⟩ (fun hHeld=>?_)
          clear hK K
          refine norm_ (a':=?_) ?_ ?_
          rotate_left
          ·show Act.put _ (some 48) _=_
           simp only [Act.put,List.setIfInBounds_toArray,List.set_cons_zero,List.set_cons_succ,i64_w,i32_w]
           rfl
          refine sP 8 (some 4) rfl rfl ?_
          refine done_ (done_of HT_.out (by kernel_rfl)) ?_
          try go_wp2
          go_ret
          exact⟨by first|rfl|(simp [qak,qaj]<;>rfl)|(simp [bneNil,bneNilU]<;>rfl)|(simp [*,qak,qaj]<;>rfl),by repeat (first|(with_reducible first|exact HB.out|apply qag|apply qab|apply qaf|refine qah ?_ aM.out)|exact HB.out)⟩
        ·rw [if_neg fB] at H
         exact absurd H (by simp)
       ·rw [if_neg fa] at H
        have ey:decide (aa<(ae.length:Int))=false:=decide_eq_false fa
        clear fa
        obtain rfl:=Option.some.inj H
        obtain⟨gb,gc,ge⟩:=sC3 (w:=wr) af.out
        obtain⟨gg,gh,gi⟩:=sF3 af.out
        go_wp2
        go_ret
        exact⟨by first|rfl|(simp [qak,qaj]<;>rfl)|(simp [bneNil,bneNilU]<;>rfl)|(simp [*,qak,qaj]<;>rfl),by repeat (first|(with_reducible first|exact HB.out|apply qag|apply qab|apply qaf|refine qah ?_ aM.out)|exact HB.out)⟩
end
end Go.Proofs.YtgnaaokhfpfglaaGreatDoor.PCertRight
end
section
namespace Go.Proofs.YtgnaaokhfpfglaaGreatDoor.PCertRight
open Go.RowKit Go.Proofs.YtgnaaokhfpfglaaGreatDoorW.PrintWords Go.Proofs.YtgnaaokhfpfglaaGreatDoorW.PrintLast Go.Proofs.YtgnaaokhfpfglaaGreatDoorW.PrintMore
attribute [local go_sem] max2_int min2_int max_two min_two max_three min_three max_four min_four
set_option linter.unusedVariables false
set_option linter.unusedSimpArgs false
noncomputable section
def ostinatolaw21_CertRight.f (k:Nat) (a0:ByteArray):Option (Bool):=(ostinatolaw21_awake.f).bind fun af=>((ostinatolaw21_short.f a0 160).bind fun ae=>((cert_Parse.f ae).bind fun aa=>(if aa.2.2.2.2.2.2.2.2.2=0 then ((cert_Print.f aa.1 aa.2.1 aa.2.2.1 aa.2.2.2.1 aa.2.2.2.2.1 aa.2.2.2.2.2.1 aa.2.2.2.2.2.2.1 aa.2.2.2.2.2.2.2.1).bind fun ag=>((cert_Parse.f ag).bind fun ac=>(if af=true then (if aa.2.2.2.2.2.2.2.2.1=(ae.size:Int) then (if ag.toList=([]:List UInt8) then (some false) else (if ac.2.2.2.2.2.2.2.2.2=0 then ((cert_Same.f k aa.1 aa.2.1 aa.2.2.1 aa.2.2.2.1 aa.2.2.2.2.1 aa.2.2.2.2.2.1 aa.2.2.2.2.2.2.1 aa.2.2.2.2.2.2.2.1 ac.1 ac.2.1 ac.2.2.1 ac.2.2.2.1 ac.2.2.2.2.1 ac.2.2.2.2.2.1 ac.2.2.2.2.2.2.1 ac.2.2.2.2.2.2.2.1).bind fun ah=>(if ah=true then ((ostinatoref05_Check.f k aa.1 aa.2.1 aa.2.2.1).bind fun ai=>(some (ai == 0))) else (some false))) else (some false))) else (some false)) else (some false)))) else (if af=true then (if aa.2.2.2.2.2.2.2.2.1 ≥ 0 then (if aa.2.2.2.2.2.2.2.2.1≤(ae.size:Int) then (if (wrap64 ((wrap64 ((wrap64 ((aa.2.2.2.2.2.2.2.1.length:Int)+(aa.2.2.2.2.2.1.length:Int)))+(aa.2.2.2.2.2.2.1.length:Int)))+(aa.2.2.1.length:Int)))=0 then (some (aa.2.2.2.1 == 0)) else (some false)) else (some false)) else (some false)) else (some false)))))
theorem ostinatolaw21_CertRight.calls (k:Nat) (a0:ByteArray) (_r:Bool) (w:World) (h:ostinatolaw21_CertRight.f k a0=some true) (hT:Tabs w) :
  Calls Tryz.prog 5 #[.string a0] w fun e w'=>e=.returned (.bool true)∧Below w.heap.size w w':=by
 have fb:=Tryz.underlying43
 have fc:=Tryz.underlying37
 have HB:=qaa.mk (Below.refl w.heap.size w)
 have H:((ostinatolaw21_awake.f).bind fun aG=>((ostinatolaw21_short.f a0 160).bind fun am=>((cert_Parse.f am).bind fun aa=>(if aa.2.2.2.2.2.2.2.2.2=0 then ((cert_Print.f aa.1 aa.2.1 aa.2.2.1 aa.2.2.2.1 aa.2.2.2.2.1 aa.2.2.2.2.2.1 aa.2.2.2.2.2.2.1 aa.2.2.2.2.2.2.2.1).bind fun aq=>((cert_Parse.f aq).bind fun ac=>(if aG=true then (if aa.2.2.2.2.2.2.2.2.1=(am.size:Int) then (if aq.toList=([]:List UInt8) then (some false) else (if ac.2.2.2.2.2.2.2.2.2=0 then ((cert_Same.f k aa.1 aa.2.1 aa.2.2.1 aa.2.2.2.1 aa.2.2.2.2.1 aa.2.2.2.2.2.1 aa.2.2.2.2.2.2.1 aa.2.2.2.2.2.2.2.1 ac.1 ac.2.1 ac.2.2.1 ac.2.2.2.1 ac.2.2.2.2.1 ac.2.2.2.2.2.1 ac.2.2.2.2.2.2.1 ac.2.2.2.2.2.2.2.1).bind fun ax=>(if ax=true then ((ostinatoref05_Check.f k aa.1 aa.2.1 aa.2.2.1).bind fun av=>(some (av == 0))) else (some false))) else (some false))) else (some false)) else (some false)))) else (if aG=true then (if aa.2.2.2.2.2.2.2.2.1 ≥ 0 then (if aa.2.2.2.2.2.2.2.2.1≤(am.size:Int) then (if (wrap64 ((wrap64 ((wrap64 ((aa.2.2.2.2.2.2.2.1.length:Int)+(aa.2.2.2.2.2.1.length:Int)))+(aa.2.2.2.2.2.2.1.length:Int)))+(aa.2.2.1.length:Int)))=0 then (some (aa.2.2.2.1 == 0)) else (some false)) else (some false)) else (some false)) else (some false))))))=some true:=h
 clear h
 have HT:=qaa.mk hT
 clear hT
 replace H:=Option.bind_eq_some_iff.mp H
 obtain⟨aG,eK,H⟩:=H
 replace H:((ostinatolaw21_short.f a0 160).bind fun am=>((cert_Parse.f am).bind fun aa=>(if aa.2.2.2.2.2.2.2.2.2=0 then ((cert_Print.f aa.1 aa.2.1 aa.2.2.1 aa.2.2.2.1 aa.2.2.2.2.1 aa.2.2.2.2.2.1 aa.2.2.2.2.2.2.1 aa.2.2.2.2.2.2.2.1).bind fun aq=>((cert_Parse.f aq).bind fun ac=>(if aG=true then (if aa.2.2.2.2.2.2.2.2.1=(am.size:Int) then (if aq.toList=([]:List UInt8) then (some false) else (if ac.2.2.2.2.2.2.2.2.2=0 then ((cert_Same.f k aa.1 aa.2.1 aa.2.2.1 aa.2.2.2.1 aa.2.2.2.2.1 aa.2.2.2.2.2.1 aa.2.2.2.2.2.2.1 aa.2.2.2.2.2.2.2.1 ac.1 ac.2.1 ac.2.2.1 ac.2.2.2.1 ac.2.2.2.2.1 ac.2.2.2.2.2.1 ac.2.2.2.2.2.2.1 ac.2.2.2.2.2.2.2.1).bind fun ax=>(if ax=true then ((ostinatoref05_Check.f k aa.1 aa.2.1 aa.2.2.1).bind fun av=>(some (av == 0))) else (some false))) else (some false))) else (some false)) else (some false)))) else (if aG=true then (if aa.2.2.2.2.2.2.2.2.1 ≥ 0 then (if aa.2.2.2.2.2.2.2.2.1≤(am.size:Int) then (if (wrap64 ((wrap64 ((wrap64 ((aa.2.2.2.2.2.2.2.1.length:Int)+(aa.2.2.2.2.2.1.length:Int)))+(aa.2.2.2.2.2.2.1.length:Int)))+(aa.2.2.1.length:Int)))=0 then (some (aa.2.2.2.1 == 0)) else (some false)) else (some false)) else (some false)) else (some false)))))=some true:=H
 have A2:=qaa.mk eK
 clear eK
 replace H:=Option.bind_eq_some_iff.mp H
 obtain⟨am,eL,H⟩:=H
 replace H:((cert_Parse.f am).bind fun aa=>(if aa.2.2.2.2.2.2.2.2.2=0 then ((cert_Print.f aa.1 aa.2.1 aa.2.2.1 aa.2.2.2.1 aa.2.2.2.2.1 aa.2.2.2.2.2.1 aa.2.2.2.2.2.2.1 aa.2.2.2.2.2.2.2.1).bind fun aq=>((cert_Parse.f aq).bind fun ac=>(if aG=true then (if aa.2.2.2.2.2.2.2.2.1=(am.size:Int) then (if aq.toList=([]:List UInt8) then (some false) else (if ac.2.2.2.2.2.2.2.2.2=0 then ((cert_Same.f k aa.1 aa.2.1 aa.2.2.1 aa.2.2.2.1 aa.2.2.2.2.1 aa.2.2.2.2.2.1 aa.2.2.2.2.2.2.1 aa.2.2.2.2.2.2.2.1 ac.1 ac.2.1 ac.2.2.1 ac.2.2.2.1 ac.2.2.2.2.1 ac.2.2.2.2.2.1 ac.2.2.2.2.2.2.1 ac.2.2.2.2.2.2.2.1).bind fun ax=>(if ax=true then ((ostinatoref05_Check.f k aa.1 aa.2.1 aa.2.2.1).bind fun av=>(some (av == 0))) else (some false))) else (some false))) else (some false)) else (some false)))) else (if aG=true then (if aa.2.2.2.2.2.2.2.2.1 ≥ 0 then (if aa.2.2.2.2.2.2.2.2.1≤(am.size:Int) then (if (wrap64 ((wrap64 ((wrap64 ((aa.2.2.2.2.2.2.2.1.length:Int)+(aa.2.2.2.2.2.1.length:Int)))+(aa.2.2.2.2.2.2.1.length:Int)))+(aa.2.2.1.length:Int)))=0 then (some (aa.2.2.2.1 == 0)) else (some false)) else (some false)) else (some false)) else (some false))))=some true:=H
 have A3:=qaa.mk eL
 clear eL
 replace H:=Option.bind_eq_some_iff.mp H
 obtain⟨⟨ap,t164,ai,aw,ay,an,t173,ar,au,aW⟩,eM,H⟩:=H
 replace H:(if aW=0 then ((cert_Print.f ap t164 ai aw ay an t173 ar).bind fun aq=>((cert_Parse.f aq).bind fun ac=>(if aG=true then (if au=(am.size:Int) then (if aq.toList=([]:List UInt8) then (some false) else (if ac.2.2.2.2.2.2.2.2.2=0 then ((cert_Same.f k ap t164 ai aw ay an t173 ar ac.1 ac.2.1 ac.2.2.1 ac.2.2.2.1 ac.2.2.2.2.1 ac.2.2.2.2.2.1 ac.2.2.2.2.2.2.1 ac.2.2.2.2.2.2.2.1).bind fun ax=>(if ax=true then ((ostinatoref05_Check.f k ap t164 ai).bind fun av=>(some (av == 0))) else (some false))) else (some false))) else (some false)) else (some false)))) else (if aG=true then (if au ≥ 0 then (if au≤(am.size:Int) then (if (wrap64 ((wrap64 ((wrap64 ((ar.length:Int)+(an.length:Int)))+(t173.length:Int)))+(ai.length:Int)))=0 then (some (aw == 0)) else (some false)) else (some false)) else (some false)) else (some false)))=some true:=H
 have A4:=qaa.mk eM
 clear eM
 by_cases c5:aW=0
 ·rw [if_pos c5] at H
  have es:(aW == 0)=true:=beq_iff_eq.mpr c5
  have et:(aW != 0)=false:=bne_eq_false_iff_eq.mpr c5
  clear c5
  replace H:=Option.bind_eq_some_iff.mp H
  obtain⟨aq,eN,H⟩:=H
  replace H:((cert_Parse.f aq).bind fun ac=>(if aG=true then (if au=(am.size:Int) then (if aq.toList=([]:List UInt8) then (some false) else (if ac.2.2.2.2.2.2.2.2.2=0 then ((cert_Same.f k ap t164 ai aw ay an t173 ar ac.1 ac.2.1 ac.2.2.1 ac.2.2.2.1 ac.2.2.2.2.1 ac.2.2.2.2.2.1 ac.2.2.2.2.2.2.1 ac.2.2.2.2.2.2.2.1).bind fun ax=>(if ax=true then ((ostinatoref05_Check.f k ap t164 ai).bind fun av=>(some (av == 0))) else (some false))) else (some false))) else (some false)) else (some false)))=some true:=H
  have A6:=qaa.mk eN
  clear eN
  replace H:=Option.bind_eq_some_iff.mp H
  obtain⟨⟨aH,aJ,aI,aT,aY,aK,aQ,bj,eu,aZ⟩,eO,H⟩:=H
  replace H:(if aG=true then (if au=(am.size:Int) then (if aq.toList=([]:List UInt8) then (some false) else (if aZ=0 then ((cert_Same.f k ap t164 ai aw ay an t173 ar aH aJ aI aT aY aK aQ bj).bind fun ax=>(if ax=true then ((ostinatoref05_Check.f k ap t164 ai).bind fun av=>(some (av == 0))) else (some false))) else (some false))) else (some false)) else (some false))=some true:=H
  have A7:=qaa.mk eO
  clear eO
  by_cases c8:aG=true
  ·subst c8
   have H1:(if au=(am.size:Int) then (if aq.toList=([]:List UInt8) then (some false) else (if aZ=0 then ((cert_Same.f k ap t164 ai aw ay an t173 ar aH aJ aI aT aY aK aQ bj).bind fun ax=>(if ax=true then ((ostinatoref05_Check.f k ap t164 ai).bind fun av=>(some (av == 0))) else (some false))) else (some false))) else (some false))=some true:=by rw [if_pos rfl] at H;exact H
   clear H
   have H:=H1
   clear H1
   by_cases c9:au=(am.size:Int)
   ·rw [if_pos c9] at H
    have ev:(au == (am.size:Int))=true:=beq_iff_eq.mpr c9
    have ew:(au != (am.size:Int))=false:=bne_eq_false_iff_eq.mpr c9
    clear c9
    by_cases bS:aq.toList=([]:List UInt8)
    ·rw [if_pos bS] at H
     have cj:(aq.toList == ([]:List UInt8))=true:=beq_iff_eq.mpr bS
     have ck:(aq.toList != ([]:List UInt8))=false:=bne_eq_false_iff_eq.mpr bS
     clear bS
     exact absurd (Option.some.inj H) (by decide)
    ·rw [if_neg bS] at H
     have cj:(aq.toList == ([]:List UInt8))=false:=beq_eq_false_iff_ne.mpr bS
     have ck:(aq.toList != ([]:List UInt8))=true:=bne_iff_ne.mpr bS
     by_cases bT:aZ=0
     ·rw [if_pos bT] at H
      have cm:(aZ == 0)=true:=beq_iff_eq.mpr bT
      have cn:(aZ != 0)=false:=bne_eq_false_iff_eq.mpr bT
      clear bT
      replace H:=Option.bind_eq_some_iff.mp H
      obtain⟨ax,co,H⟩:=H
      replace H:(if ax=true then ((ostinatoref05_Check.f k ap t164 ai).bind fun av=>(some (av == 0))) else (some false))=some true:=H
      have fe:=qaa.mk co
      clear co
      by_cases cU:ax=true
      ·subst cU
       have H1:((ostinatoref05_Check.f k ap t164 ai).bind fun av=>(some (av == 0)))=some true:=by rw [if_pos rfl] at H;exact H
       clear H
       have H:=H1
       clear H1
       replace H:=Option.bind_eq_some_iff.mp H
       obtain⟨av,cp,H⟩:=H
       replace H:(some (av == 0))=some true:=H
       have ff:=qaa.mk cp
       clear cp
       have HTr_:=qaa.mk (Option.some.inj H)
       clear H
       go_enter Tryz.func5,Tryz.ntmps5
       go_wp2_with (first|((with_reducible refine qax (f:=6) rfl ?_);refine goesL_ (some 11) rfl rfl Tryz.func6 (by kernel_rfl) rfl #[] rfl (by (try simp only [List.map_toArray,List.map_cons,List.map_nil]);first|done|rfl|(simp only [List.length_drop,List.length_take];rfl)) ?_;(with_reducible refine (ostinatolaw21_awake.calls  true _ A2.out (Tabs.below HT.out sB)).mono ?_);rintro e cV ⟨rfl,hb⟩;refine⟨_,rfl,?_⟩;replace HB:=qaa.mk (qai sB hb);(try clear hb);(try clear bU);(try clear hk);(try clear hi))|((with_reducible refine qax (f:=7) rfl ?_);refine goesL_ (some 13) rfl rfl Tryz.func7 (by kernel_rfl) rfl #[.string a0,.int .i64 160] rfl (by (try simp only [List.map_toArray,List.map_cons,List.map_nil]);first|done|rfl|(simp only [List.length_drop,List.length_take];rfl)) ?_;(with_reducible refine (ostinatolaw21_short.calls a0 160 am _ A3.out).mono ?_);rintro e w' ⟨rfl,⟨nd,rfl⟩⟩;refine⟨_,rfl,?_⟩;(try (rw [drewN_self cV];generalize hq_:World.drewN cV _=cV;have cq:qaa (Below w.heap.size w cV):=⟨by rw [← hq_];exact sB⟩;clear HB hq_;have HB:=cq;clear cq)))|((with_reducible refine qax (f:=10) rfl ?_);refine goesL_ (some 16) rfl rfl Tryz.func10 (by kernel_rfl) rfl #[.string am] rfl (by (try simp only [List.map_toArray,List.map_cons,List.map_nil]);first|done|rfl|(simp only [List.length_drop,List.length_take];rfl)) ?_;(with_reducible refine (cert_Parse.calls am ap t164 ai aw ay an t173 ar au aW _ A4.out (Tabs.below HT.out sB)).mono ?_);rintro e fp ⟨ex,v171,ey,ez,rfl,bN,bL,bM,bO,hb⟩;refine⟨_,rfl,?_⟩;have af:=qaa.mk (Kd.S_lower bN (qac sB));have ag:=qaa.mk (Kd.R_lower bL (qac sB));have ah:=qaa.mk (Kd.R_lower bM (qac sB));have ak:=qaa.mk (Kd.R_lower bO (qac sB));replace HB:=qaa.mk (qai sB hb);(try clear hb);(try clear bU);(try clear hk);(try clear hi);(try clear bN);(try clear bL);(try clear bM);(try clear bO))|((with_reducible refine qaq (N:=4) rfl ?_);(try (refine qaH (by rfl) ?_;dsimp only));refine qap ?hg (N:=4) ?hd (cs:=#[.int .i64 0,.int .i64 0,.slice none 0 0,.int .i64 0,.int .i64 0,.slice none 0 0,.slice none 0 0,.slice none 0 0]) (t:=43) ?hr ?_;(case hd=>rfl);(case hg=>rfl);(case hr=>first|(go_simp;done)|(go_simp;rfl));intro az hg fg hbox hb;replace af:=qaa.mk (Kd.S_below (by (with_reducible repeat (first|apply Kd.S_alloc|apply Kd.S_drewN|apply Kd.S_drew));exact af.out) hb);replace ag:=qaa.mk (Kd.R_below (sR ag.out) hb);replace ah:=qaa.mk (Kd.R_below (sR ah.out) hb);replace ak:=qaa.mk (Kd.R_below (sR ak.out) hb);have ae:=qaa.mk (hbox);have cr:=qaa.mk ((by rw [hg];exact (qac sB):w.heap.size≤az));have bD:=qaa.mk ((by rw [hg];exact (qac sB):w.heap.size≤az));replace HB:=qaa.mk (qai sB hb);clear hb hbox hg;obtain⟨cW,cY,cZ,da,db,dc,de,df⟩:=sC8 (w:=fg) ae.out;obtain⟨dg,dh,di,dj,dk,dl,dm,dn⟩:=sF8 ae.out;obtain⟨aU,aM,eB⟩:=Kd.S_slice af.out;subst eB;obtain⟨aV,aN,eC⟩:=Kd.R_slice ag.out;subst eC;obtain⟨a8,aR,eD⟩:=Kd.R_slice ah.out;subst eD;obtain⟨bP,bp,eE⟩:=Kd.R_slice ak.out;subst eE)|((with_reducible refine qax (f:=13) rfl ?_);refine goesL_ (some 62) rfl rfl Tryz.func13 (by kernel_rfl) rfl #[.agg #[.int .i64 ap,.int .i64 t164,.slice aU ai.length aM,.int .i64 aw,.int .i64 ay,.slice aV an.length aN,.slice a8 t173.length aR,.slice bP ar.length bp]] rfl (by (try simp only [List.map_toArray,List.map_cons,List.map_nil]);first|done|rfl|(simp only [List.length_drop,List.length_take];rfl)) ?_;(with_reducible refine (cert_Print.calls ap t164 _ _ ai aw ay _ _ an _ _ t173 _ _ ar aq _ ?ba ?bf ?bE ?bF ?bG ?bH ?bI ?bJ A6.out (Tabs.below HT.out sB)).mono ?_);(case ba=>refine (Kd.S_reads' (e:=58) (base:=w.heap.size) (ok:=fun k_=>(some k_≠(.slice aV an.length aN:Value).ownBlock∧some k_≠(.slice a8 t173.length aR:Value).ownBlock)) (n:=ai.length) (c:=aM) ?_).2.2;exact (by (with_reducible repeat (first|apply Kd.S_alloc|apply Kd.S_drewN|apply Kd.S_drew));exact (fat8S af.out ae.out)));(case bf=>exact (Kd.S_reads' af.out).2.1);(case bE=>refine (Kd.R_reads' (e:=3) (base:=w.heap.size) (ok:=fun k_=>True) (n:=an.length) (c:=aN) ?_).2.2;exact (by refine sRm ?_;exact (fat8R ag.out ae.out)));(case bF=>exact (Kd.R_reads' ag.out).2.1);(case bG=>refine (Kd.R_reads' (e:=2) (base:=w.heap.size) (ok:=fun k_=>True) (n:=t173.length) (c:=aR) ?_).2.2;exact (by refine sRm ?_;exact (fat8R ah.out ae.out)));(case bH=>exact (Kd.R_reads' ah.out).2.1);(case bI=>refine (Kd.R_reads' (e:=60) (base:=w.heap.size) (ok:=fun k_=>True) (n:=ar.length) (c:=bp) ?_).2.2;exact (by refine sRm ?_;exact (fat8R ak.out ae.out)));(case bJ=>exact (Kd.R_reads' ak.out).2.1);rintro e fq ⟨rfl,hb⟩;refine⟨_,rfl,?_⟩;replace af:=qaa.mk (Kd.S_below (by (with_reducible repeat (first|apply Kd.S_alloc|apply Kd.S_drewN|apply Kd.S_drew));exact (fat8S af.out ae.out)) hb);replace ag:=qaa.mk (Kd.R_below (by refine sRm ?_;exact (fat8R ag.out ae.out)) hb);replace ah:=qaa.mk (Kd.R_below (by refine sRm ?_;exact (fat8R ah.out ae.out)) hb);replace ak:=qaa.mk (Kd.R_below (by refine sRm ?_;exact (fat8R ak.out ae.out)) hb);replace ae:=qaa.mk (blk_below (g:=az) (o:=.cells #[.int .i64 ap,.int .i64 t164,.slice aU ai.length aM,.int .i64 aw,.int .i64 ay,.slice aV an.length aN,.slice a8 t173.length aR,.slice bP ar.length bp] 43 (0,0)) (by refine sM ?_;refine qaB (cs:=#[.int .i64 ap,.int .i64 t164,.slice aU ai.length aM,.int .i64 aw,.int .i64 ay,.slice aV an.length aN,.slice a8 t173.length aR,.slice none 0 0]) ?_ 7 _ rfl;refine sM ?_;refine qaB (cs:=#[.int .i64 ap,.int .i64 t164,.slice aU ai.length aM,.int .i64 aw,.int .i64 ay,.slice aV an.length aN,.slice none 0 0,.slice none 0 0]) ?_ 6 _ rfl;refine sM ?_;refine qaB (cs:=#[.int .i64 ap,.int .i64 t164,.slice aU ai.length aM,.int .i64 aw,.int .i64 ay,.slice none 0 0,.slice none 0 0,.slice none 0 0]) ?_ 5 _ rfl;refine sM ?_;refine qaB (cs:=#[.int .i64 ap,.int .i64 t164,.slice aU ai.length aM,.int .i64 aw,.int .i64 0,.slice none 0 0,.slice none 0 0,.slice none 0 0]) ?_ 4 _ rfl;refine sM ?_;refine qaB (cs:=#[.int .i64 ap,.int .i64 t164,.slice aU ai.length aM,.int .i64 0,.int .i64 0,.slice none 0 0,.slice none 0 0,.slice none 0 0]) ?_ 3 _ rfl;refine sM ?_;refine qaB (cs:=#[.int .i64 ap,.int .i64 t164,.slice none 0 0,.int .i64 0,.int .i64 0,.slice none 0 0,.slice none 0 0,.slice none 0 0]) ?_ 2 _ rfl;refine sM ?_;refine qaB (cs:=#[.int .i64 ap,.int .i64 0,.slice none 0 0,.int .i64 0,.int .i64 0,.slice none 0 0,.slice none 0 0,.slice none 0 0]) ?_ 1 _ rfl;refine sM ?_;refine qaB (cs:=#[.int .i64 0,.int .i64 0,.slice none 0 0,.int .i64 0,.int .i64 0,.slice none 0 0,.slice none 0 0,.slice none 0 0]) ?_ 0 _ rfl;refine sM ?_;exact ae.out) hb);replace HB:=qaa.mk (qai sB hb);(try clear hb);(try clear bU);(try clear hk);(try clear hi))|((with_reducible refine qax (f:=10) rfl ?_);refine goesL_ (some 65) rfl rfl Tryz.func10 (by kernel_rfl) rfl #[.string aq] rfl (by (try simp only [List.map_toArray,List.map_cons,List.map_nil]);first|done|rfl|(simp only [List.length_drop,List.length_take];rfl)) ?_;(with_reducible refine (cert_Parse.calls aq aH aJ aI aT aY aK aQ bj eu aZ _ A7.out (Tabs.below HT.out sB)).mono ?_);rintro e ft ⟨fh,fj,fk,fl,rfl,bN,bL,bM,bO,hb⟩;refine⟨_,rfl,?_⟩;have aA:=qaa.mk (Kd.S_lower (Kd.S_new' (Kd.S_new' (Kd.S_new' bN (Kd.S_lt (by (with_reducible repeat (first|apply Kd.S_alloc|apply Kd.S_drewN|apply Kd.S_drew));exact af.out))) (Kd.R_lt (sR ag.out))) (Kd.R_lt (sR ah.out))) (qac sB));replace af:=qaa.mk (Kd.S_mono (Kd.S_told (Kd.S_told (Kd.S_told (Kd.S_old (by (with_reducible repeat (first|apply Kd.S_alloc|apply Kd.S_drewN|apply Kd.S_drew));exact af.out) hb) (Kd.S_base bN)) (Kd.R_base bL)) (Kd.R_base bM)) (fun _ h_=>h_.1));have aC:=qaa.mk (Kd.R_lower (Kd.R_new' bL (Kd.R_lt (sR ag.out))) (qac sB));replace ag:=qaa.mk (Kd.R_elder' (sR ag.out) (Kd.R_base bL) hb);have aD:=qaa.mk (Kd.R_lower (Kd.R_new' bM (Kd.R_lt (sR ah.out))) (qac sB));replace ah:=qaa.mk (Kd.R_elder' (sR ah.out) (Kd.R_base bM) hb);have aE:=qaa.mk (Kd.R_lower (Kd.R_new' bO (Kd.R_lt (sR ak.out))) (qac sB));replace ak:=qaa.mk (Kd.R_elder' (sR ak.out) (Kd.R_base bO) hb);replace ae:=qaa.mk (sKb ae.out hb);replace HB:=qaa.mk (qai sB hb);(try clear hb);(try clear bU);(try clear hk);(try clear hi);(try clear bN);(try clear bL);(try clear bM);(try clear bO))|((with_reducible refine qaq (N:=8) rfl ?_);(try (refine qaH (by rfl) ?_;dsimp only));refine qap ?hg (N:=8) ?hd (cs:=#[.int .i64 0,.int .i64 0,.slice none 0 0,.int .i64 0,.int .i64 0,.slice none 0 0,.slice none 0 0,.slice none 0 0]) (t:=43) ?hr ?_;(case hd=>rfl);(case hg=>rfl);(case hr=>first|(go_simp;done)|(go_simp;rfl));intro bg hg eP hbox hb;replace af:=qaa.mk (Kd.S_below (by (with_reducible repeat (first|apply Kd.S_alloc|apply Kd.S_drewN|apply Kd.S_drew));exact af.out) hb);replace ag:=qaa.mk (Kd.R_below (sR ag.out) hb);replace ah:=qaa.mk (Kd.R_below (sR ah.out) hb);replace ak:=qaa.mk (Kd.R_below (sR ak.out) hb);replace aA:=qaa.mk (Kd.S_below (by (with_reducible repeat (first|apply Kd.S_alloc|apply Kd.S_drewN|apply Kd.S_drew));exact aA.out) hb);replace aC:=qaa.mk (Kd.R_below (sR aC.out) hb);replace aD:=qaa.mk (Kd.R_below (sR aD.out) hb);replace aE:=qaa.mk (Kd.R_below (sR aE.out) hb);have al:=qaa.mk (hbox);have eQ:=qaa.mk ((by rw [hg];exact (qac sB):w.heap.size≤bg));have ct:=qaa.mk ((by rw [hg];exact (qac sB):w.heap.size≤bg));replace HB:=qaa.mk (qai sB hb);have aj:=qaa.mk ((by rw [hg];exact Nat.ne_of_lt (sLt ae.out):az≠bg));have bt:=qaa.mk ((by rw [hg];exact Nat.ne_of_gt (sLt ae.out):bg≠az));replace ae:=qaa.mk (sKb ae.out hb);clear hb hbox hg;have eR:=bt.out;have eS:=aj.out;obtain⟨dp,dq,dr,dt,du,dv,dw,dx⟩:=sC8 (w:=eP) al.out;obtain⟨dy,dz,dA,dB,dC,dD,dE,dF⟩:=sF8 al.out;obtain⟨bl,bh,eF⟩:=Kd.S_slice aA.out;subst eF;obtain⟨bx,bm,eG⟩:=Kd.R_slice aC.out;subst eG;obtain⟨bK,bz,eH⟩:=Kd.R_slice aD.out;subst eH;obtain⟨cx,bV,eI⟩:=Kd.R_slice aE.out;subst eI;obtain⟨dG,dH,dI,dJ,dK,dL,dM,dN⟩:=sC8 (w:=eP) ae.out;obtain⟨dO,dP,dQ,dT,dU,dV,dW,dX⟩:=sF8 ae.out)|(go_at_call 14;(with_reducible refine (cert_Same.calls k ap t164 _ _ ai aw ay _ _ an _ _ t173 _ _ ar aH aJ _ _ aI aT aY _ _ aK _ _ aQ _ _ bj true _ ?ba ?bf ?bE ?bF ?bG ?bH ?bI ?bJ ?cy ?bW ?bY ?bZ ?b8 ?b9 ?ca ?cb fe.out).mono ?_);(case ba=>refine (Kd.S_reads' (e:=58) (base:=w.heap.size) (ok:=fun k_=>((((some k_≠(.slice aV an.length aN:Value).ownBlock∧some k_≠(.slice a8 t173.length aR:Value).ownBlock)∧some k_≠(.slice bl aI.length bh:Value).ownBlock)∧some k_≠(.slice bx aK.length bm:Value).ownBlock)∧some k_≠(.slice bK aQ.length bz:Value).ownBlock)) (n:=ai.length) (c:=aM) ?_).2.2;exact (by (with_reducible repeat (first|apply Kd.S_alloc|apply Kd.S_drewN|apply Kd.S_drew));exact (fat8S af.out al.out)));(case bf=>exact (Kd.S_reads' af.out).2.1);(case bE=>refine (Kd.R_reads' (e:=3) (base:=w.heap.size) (ok:=fun k_=>(True∧some k_≠(.slice bx aK.length bm:Value).ownBlock)) (n:=an.length) (c:=aN) ?_).2.2;exact (by refine sRm ?_;exact (fat8R ag.out al.out)));(case bF=>exact (Kd.R_reads' ag.out).2.1);(case bG=>refine (Kd.R_reads' (e:=2) (base:=w.heap.size) (ok:=fun k_=>(True∧some k_≠(.slice bK aQ.length bz:Value).ownBlock)) (n:=t173.length) (c:=aR) ?_).2.2;exact (by refine sRm ?_;exact (fat8R ah.out al.out)));(case bH=>exact (Kd.R_reads' ah.out).2.1);(case bI=>refine (Kd.R_reads' (e:=60) (base:=w.heap.size) (ok:=fun k_=>(True∧some k_≠(.slice cx bj.length bV:Value).ownBlock)) (n:=ar.length) (c:=bp) ?_).2.2;exact (by refine sRm ?_;exact (fat8R ak.out al.out)));(case bJ=>exact (Kd.R_reads' ak.out).2.1);(case cy=>refine (Kd.S_reads' (e:=58) (base:=w.heap.size) (ok:=fun k_=>((((some k_≠(.slice bx aK.length bm:Value).ownBlock∧some k_≠(.slice bK aQ.length bz:Value).ownBlock)∧some k_≠(.slice aU ai.length aM:Value).ownBlock)∧some k_≠(.slice aV an.length aN:Value).ownBlock)∧some k_≠(.slice a8 t173.length aR:Value).ownBlock)) (n:=aI.length) (c:=bh) ?_).2.2;exact (by (with_reducible repeat (first|apply Kd.S_alloc|apply Kd.S_drewN|apply Kd.S_drew));exact (fat8S aA.out al.out)));(case bW=>exact (Kd.S_reads' aA.out).2.1);(case bY=>refine (Kd.R_reads' (e:=3) (base:=w.heap.size) (ok:=fun k_=>(True∧some k_≠(.slice aV an.length aN:Value).ownBlock)) (n:=aK.length) (c:=bm) ?_).2.2;exact (by refine sRm ?_;exact (fat8R aC.out al.out)));(case bZ=>exact (Kd.R_reads' aC.out).2.1);(case b8=>refine (Kd.R_reads' (e:=2) (base:=w.heap.size) (ok:=fun k_=>(True∧some k_≠(.slice a8 t173.length aR:Value).ownBlock)) (n:=aQ.length) (c:=bz) ?_).2.2;exact (by refine sRm ?_;exact (fat8R aD.out al.out)));(case b9=>exact (Kd.R_reads' aD.out).2.1);(case ca=>refine (Kd.R_reads' (e:=60) (base:=w.heap.size) (ok:=fun k_=>(True∧some k_≠(.slice bP ar.length bp:Value).ownBlock)) (n:=bj.length) (c:=bV) ?_).2.2;exact (by refine sRm ?_;exact (fat8R aE.out al.out)));(case cb=>exact (Kd.R_reads' aE.out).2.1);rintro e fm ⟨rfl,hb⟩;replace af:=qaa.mk (Kd.S_below (by (with_reducible repeat (first|apply Kd.S_alloc|apply Kd.S_drewN|apply Kd.S_drew));exact (fat8S af.out al.out)) hb);replace ag:=qaa.mk (Kd.R_below (by refine sRm ?_;exact (fat8R ag.out al.out)) hb);replace ah:=qaa.mk (Kd.R_below (by refine sRm ?_;exact (fat8R ah.out al.out)) hb);replace ak:=qaa.mk (Kd.R_below (by refine sRm ?_;exact (fat8R ak.out al.out)) hb);replace aA:=qaa.mk (Kd.S_below (by (with_reducible repeat (first|apply Kd.S_alloc|apply Kd.S_drewN|apply Kd.S_drew));exact (fat8S aA.out al.out)) hb);replace aC:=qaa.mk (Kd.R_below (by refine sRm ?_;exact (fat8R aC.out al.out)) hb);replace aD:=qaa.mk (Kd.R_below (by refine sRm ?_;exact (fat8R aD.out al.out)) hb);replace aE:=qaa.mk (Kd.R_below (by refine sRm ?_;exact (fat8R aE.out al.out)) hb);replace ae:=qaa.mk (blk_below (g:=az) (o:=.cells #[.int .i64 ap,.int .i64 t164,.slice aU ai.length aM,.int .i64 aw,.int .i64 ay,.slice aV an.length aN,.slice a8 t173.length aR,.slice bP ar.length bp] 43 (0,0)) (by refine sM ?_;refine blk_far ?_ aj.out _;refine sM ?_;refine blk_far ?_ aj.out _;refine sM ?_;refine blk_far ?_ aj.out _;refine sM ?_;refine blk_far ?_ aj.out _;refine sM ?_;refine blk_far ?_ aj.out _;refine sM ?_;refine blk_far ?_ aj.out _;refine sM ?_;refine blk_far ?_ aj.out _;refine sM ?_;refine blk_far ?_ aj.out _;refine sM ?_;exact ae.out) hb);replace al:=qaa.mk (blk_below (g:=bg) (o:=.cells #[.int .i64 aH,.int .i64 aJ,.slice bl aI.length bh,.int .i64 aT,.int .i64 aY,.slice bx aK.length bm,.slice bK aQ.length bz,.slice cx bj.length bV] 43 (0,0)) (by refine sM ?_;refine qaB (cs:=#[.int .i64 aH,.int .i64 aJ,.slice bl aI.length bh,.int .i64 aT,.int .i64 aY,.slice bx aK.length bm,.slice bK aQ.length bz,.slice none 0 0]) ?_ 7 _ rfl;refine sM ?_;refine qaB (cs:=#[.int .i64 aH,.int .i64 aJ,.slice bl aI.length bh,.int .i64 aT,.int .i64 aY,.slice bx aK.length bm,.slice none 0 0,.slice none 0 0]) ?_ 6 _ rfl;refine sM ?_;refine qaB (cs:=#[.int .i64 aH,.int .i64 aJ,.slice bl aI.length bh,.int .i64 aT,.int .i64 aY,.slice none 0 0,.slice none 0 0,.slice none 0 0]) ?_ 5 _ rfl;refine sM ?_;refine qaB (cs:=#[.int .i64 aH,.int .i64 aJ,.slice bl aI.length bh,.int .i64 aT,.int .i64 0,.slice none 0 0,.slice none 0 0,.slice none 0 0]) ?_ 4 _ rfl;refine sM ?_;refine qaB (cs:=#[.int .i64 aH,.int .i64 aJ,.slice bl aI.length bh,.int .i64 0,.int .i64 0,.slice none 0 0,.slice none 0 0,.slice none 0 0]) ?_ 3 _ rfl;refine sM ?_;refine qaB (cs:=#[.int .i64 aH,.int .i64 aJ,.slice none 0 0,.int .i64 0,.int .i64 0,.slice none 0 0,.slice none 0 0,.slice none 0 0]) ?_ 2 _ rfl;refine sM ?_;refine qaB (cs:=#[.int .i64 aH,.int .i64 0,.slice none 0 0,.int .i64 0,.int .i64 0,.slice none 0 0,.slice none 0 0,.slice none 0 0]) ?_ 1 _ rfl;refine sM ?_;refine qaB (cs:=#[.int .i64 0,.int .i64 0,.slice none 0 0,.int .i64 0,.int .i64 0,.slice none 0 0,.slice none 0 0,.slice none 0 0]) ?_ 0 _ rfl;refine sM ?_;exact al.out) hb);replace HB:=qaa.mk (qai sB hb);(try clear hb);(try clear bU);(try clear hk);(try clear hi);obtain⟨dY,dZ,d9,ea,eb,ec,ed,ef⟩:=sC8 (w:=fm) ae.out;obtain⟨eg,eh,ek,el,en,ep,eq,er⟩:=sF8 ae.out)|(go_at_call 15;(with_reducible refine (ostinatoref05_Check.calls k ap t164 _ _ ai av _ ?ba ?bf ff.out).mono ?_);(case ba=>repeat (first|exact (Kd.S_reads' af.out).2.2|(with_reducible refine Kd.C_alloc ?_ _)|(with_reducible refine Kd.C_drewN ?_ _)|(with_reducible refine Kd.C_drew ?_)));(case bf=>exact (Kd.S_reads' af.out).2.1);rintro e fu ⟨rfl,hb⟩;replace af:=qaa.mk (Kd.S_below (by (with_reducible repeat (first|apply Kd.S_alloc|apply Kd.S_drewN|apply Kd.S_drew));exact af.out) hb);replace ag:=qaa.mk (Kd.R_below (sR ag.out) hb);replace ah:=qaa.mk (Kd.R_below (sR ah.out) hb);replace ak:=qaa.mk (Kd.R_below (sR ak.out) hb);replace aA:=qaa.mk (Kd.S_below (by (with_reducible repeat (first|apply Kd.S_alloc|apply Kd.S_drewN|apply Kd.S_drew));exact aA.out) hb);replace aC:=qaa.mk (Kd.R_below (sR aC.out) hb);replace aD:=qaa.mk (Kd.R_below (sR aD.out) hb);replace aE:=qaa.mk (Kd.R_below (sR aE.out) hb);replace ae:=qaa.mk (sKb ae.out hb);replace al:=qaa.mk (sKb al.out hb);replace HB:=qaa.mk (qai sB hb);(try clear hb);(try clear bU);(try clear hk);(try clear hi)))
       go_ret
       exact⟨by first|rfl|(rw [HTr_.out];rfl)|(simp [qak,qaj]<;>rfl)|(simp [bneNil,bneNilU]<;>rfl)|(simp [*,qak,qaj]<;>rfl),by repeat (first|(with_reducible first|exact HB.out|apply qag|apply qab|apply qaf|refine qah ?_ bD.out|refine qah ?_ ct.out)|exact HB.out)⟩
      ·replace cU:=Bool.eq_false_iff.mpr cU
       subst cU
       have H1:(some false)=some true:=by rw [if_neg (show ¬ (false=true) by decide)] at H;exact H
       clear H
       have H:=H1
       clear H1
       exact absurd (Option.some.inj H) (by decide)
     ·rw [if_neg bT] at H
      have cm:(aZ == 0)=false:=beq_eq_false_iff_ne.mpr bT
      have cn:(aZ != 0)=true:=bne_iff_ne.mpr bT
      exact absurd (Option.some.inj H) (by decide)
   ·rw [if_neg c9] at H
    have ev:(au == (am.size:Int))=false:=beq_eq_false_iff_ne.mpr c9
    have ew:(au != (am.size:Int))=true:=bne_iff_ne.mpr c9
    exact absurd (Option.some.inj H) (by decide)
  ·replace c8:=Bool.eq_false_iff.mpr c8
   subst c8
   have H1:(some false)=some true:=by rw [if_neg (show ¬ (false=true) by decide)] at H;exact H
   clear H
   have H:=H1
   clear H1
   exact absurd (Option.some.inj H) (by decide)
 ·rw [if_neg c5] at H
  have es:(aW == 0)=false:=beq_eq_false_iff_ne.mpr c5
  have et:(aW != 0)=true:=bne_iff_ne.mpr c5
  by_cases bQ:aG=true
  ·subst bQ
   have H1:(if au ≥ 0 then (if au≤(am.size:Int) then (if (wrap64 ((wrap64 ((wrap64 ((ar.length:Int)+(an.length:Int)))+(t173.length:Int)))+(ai.length:Int)))=0 then (some (aw == 0)) else (some false)) else (some false)) else (some false))=some true:=by rw [if_pos rfl] at H;exact H
   clear H
   have H:=H1
   clear H1
   by_cases bB:au ≥ 0
   ·rw [if_pos bB] at H
    have cd:decide (0≤au)=true:=decide_eq_true bB
    clear bB
    by_cases bC:au≤(am.size:Int)
    ·rw [if_pos bC] at H
     have ce:decide (au≤(am.size:Int))=true:=decide_eq_true bC
     clear bC
     by_cases bn:(wrap64 ((wrap64 ((wrap64 ((ar.length:Int)+(an.length:Int)))+(t173.length:Int)))+(ai.length:Int)))=0
     ·rw [if_pos bn] at H
      have cf:((wrap64 ((wrap64 ((wrap64 ((ar.length:Int)+(an.length:Int)))+(t173.length:Int)))+(ai.length:Int))) == 0)=true:=beq_iff_eq.mpr bn
      have cg:((wrap64 ((wrap64 ((wrap64 ((ar.length:Int)+(an.length:Int)))+(t173.length:Int)))+(ai.length:Int))) != 0)=false:=bne_eq_false_iff_eq.mpr bn
      clear bn
      have HTr_:=qaa.mk (Option.some.inj H)
      clear H
      go_enter Tryz.func5,Tryz.ntmps5
      go_wp2_with (first|((with_reducible refine qax (f:=6) rfl ?_);refine goesL_ (some 11) rfl rfl Tryz.func6 (by kernel_rfl) rfl #[] rfl (by (try simp only [List.map_toArray,List.map_cons,List.map_nil]);first|done|rfl|(simp only [List.length_drop,List.length_take];rfl)) ?_;(with_reducible refine (ostinatolaw21_awake.calls  true _ A2.out (Tabs.below HT.out sB)).mono ?_);rintro e bR ⟨rfl,hb⟩;refine⟨_,rfl,?_⟩;replace HB:=qaa.mk (qai sB hb);(try clear hb);(try clear bU);(try clear hk);(try clear hi))|((with_reducible refine qax (f:=7) rfl ?_);refine goesL_ (some 13) rfl rfl Tryz.func7 (by kernel_rfl) rfl #[.string a0,.int .i64 160] rfl (by (try simp only [List.map_toArray,List.map_cons,List.map_nil]);first|done|rfl|(simp only [List.length_drop,List.length_take];rfl)) ?_;(with_reducible refine (ostinatolaw21_short.calls a0 160 am _ A3.out).mono ?_);rintro e w' ⟨rfl,⟨nd,rfl⟩⟩;refine⟨_,rfl,?_⟩;(try (rw [drewN_self bR];generalize hq_:World.drewN bR _=bR;have cq:qaa (Below w.heap.size w bR):=⟨by rw [← hq_];exact sB⟩;clear HB hq_;have HB:=cq;clear cq)))|((with_reducible refine qax (f:=10) rfl ?_);refine goesL_ (some 16) rfl rfl Tryz.func10 (by kernel_rfl) rfl #[.string am] rfl (by (try simp only [List.map_toArray,List.map_cons,List.map_nil]);first|done|rfl|(simp only [List.length_drop,List.length_take];rfl)) ?_;(with_reducible refine (cert_Parse.calls am ap t164 ai aw ay an t173 ar au aW _ A4.out (Tabs.below HT.out sB)).mono ?_);rintro e fo ⟨ex,v171,ey,ez,rfl,bN,bL,bM,bO,hb⟩;refine⟨_,rfl,?_⟩;have af:=qaa.mk (Kd.S_lower bN (qac sB));have ag:=qaa.mk (Kd.R_lower bL (qac sB));have ah:=qaa.mk (Kd.R_lower bM (qac sB));have ak:=qaa.mk (Kd.R_lower bO (qac sB));replace HB:=qaa.mk (qai sB hb);(try clear hb);(try clear bU);(try clear hk);(try clear hi);(try clear bN);(try clear bL);(try clear bM);(try clear bO))|((with_reducible refine qaq (N:=4) rfl ?_);(try (refine qaH (by rfl) ?_;dsimp only));refine qap ?hg (N:=4) ?hd (cs:=#[.int .i64 0,.int .i64 0,.slice none 0 0,.int .i64 0,.int .i64 0,.slice none 0 0,.slice none 0 0,.slice none 0 0]) (t:=43) ?hr ?_;(case hd=>rfl);(case hg=>rfl);(case hr=>first|(go_simp;done)|(go_simp;rfl));intro az hg eJ hbox hb;replace af:=qaa.mk (Kd.S_below (by (with_reducible repeat (first|apply Kd.S_alloc|apply Kd.S_drewN|apply Kd.S_drew));exact af.out) hb);replace ag:=qaa.mk (Kd.R_below (sR ag.out) hb);replace ah:=qaa.mk (Kd.R_below (sR ah.out) hb);replace ak:=qaa.mk (Kd.R_below (sR ak.out) hb);have ae:=qaa.mk (hbox);have cr:=qaa.mk ((by rw [hg];exact (qac sB):w.heap.size≤az));have bD:=qaa.mk ((by rw [hg];exact (qac sB):w.heap.size≤az));replace HB:=qaa.mk (qai sB hb);clear hb hbox hg;obtain⟨cz,cA,cB,cC,cD,cE,cF,cG⟩:=sC8 (w:=eJ) ae.out;obtain⟨cH,cI,cJ,cK,cL,cM,cN,cO⟩:=sF8 ae.out;obtain⟨eT,eU,cP⟩:=Kd.S_slice af.out;subst cP;obtain⟨eV,eW,cR⟩:=Kd.R_slice ag.out;subst cR;obtain⟨eX,eY,cS⟩:=Kd.R_slice ah.out;subst cS;obtain⟨eZ,fa,cT⟩:=Kd.R_slice ak.out;subst cT))
      go_ret
      exact⟨by first|rfl|(rw [HTr_.out];rfl)|(simp [qak,qaj]<;>rfl)|(simp [bneNil,bneNilU]<;>rfl)|(simp [*,qak,qaj]<;>rfl),by repeat (first|(with_reducible first|exact HB.out|apply qag|apply qab|apply qaf|refine qah ?_ bD.out)|exact HB.out)⟩
     ·rw [if_neg bn] at H
      have cf:((wrap64 ((wrap64 ((wrap64 ((ar.length:Int)+(an.length:Int)))+(t173.length:Int)))+(ai.length:Int))) == 0)=false:=beq_eq_false_iff_ne.mpr bn
      have cg:((wrap64 ((wrap64 ((wrap64 ((ar.length:Int)+(an.length:Int)))+(t173.length:Int)))+(ai.length:Int))) != 0)=true:=bne_iff_ne.mpr bn
      exact absurd (Option.some.inj H) (by decide)
    ·rw [if_neg bC] at H
     have ce:decide (au≤(am.size:Int))=false:=decide_eq_false bC
     clear bC
     exact absurd (Option.some.inj H) (by decide)
   ·rw [if_neg bB] at H
    have cd:decide (0≤au)=false:=decide_eq_false bB
    clear bB
    exact absurd (Option.some.inj H) (by decide)
  ·replace bQ:=Bool.eq_false_iff.mpr bQ
   subst bQ
   have H1:(some false)=some true:=by rw [if_neg (show ¬ (false=true) by decide)] at H;exact H
   clear H
   have H:=H1
   clear H1
   exact absurd (Option.some.inj H) (by decide)
end
end Go.Proofs.YtgnaaokhfpfglaaGreatDoor.PCertRight
end
section
namespace Go.Proofs.YtgnaaokhfpfglaaGreatDoor.PCertRight
open Go.RowKit Go.Proofs.YtgnaaokhfpfglaaGreatDoorW.PrintWords Go.Proofs.YtgnaaokhfpfglaaGreatDoorW.PrintLast Go.Proofs.YtgnaaokhfpfglaaGreatDoorW.PrintMore
attribute [local go_sem] max2_int min2_int max_two min_two max_three min_three max_four min_four
set_option linter.unusedVariables false
set_option linter.unusedSimpArgs false
noncomputable section
end
end Go.Proofs.YtgnaaokhfpfglaaGreatDoor.PCertRight
end
