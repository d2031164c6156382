/- Texts of this claim, one behind the other: ParseM, LexW, LexZ, ParseN, WTab, WRepsOne, WInv, WGuard, PParseReads0, Kopen, KParseReads, PParseReads2. -/
import Derived.Test.YtcfknijdhmildaaDoorZParseReads2
import Derived.Deep.RegionHeld
import Derived.Test.YtcfknijdhmildaaDoorZParseReads1
import Derived.Test.YtcfknijdhmildaaDoorProg
import Derived.Below
import Derived.Deep.Draws
import Derived.Deep.AppendLies
import Derived.Maps.AppendAt
import Derived.OwnWalk
import Derived.Laws.BytesArg
import Derived.Laws.MakeOwn
import Derived.Laws.OwnMore
import Derived.Deep.OwnRows
import Derived.Tactics
import Derived.Lib.ConvBytes
import Derived.Laws.Slices
import Derived.WalkKit
import Derived.KernelRfl
import Derived.RowKit3
import Derived.Deep.LoopGhost
import Derived.Deep.QuietTactic
import Derived.BigQuiet
import Derived.WideLaws
import Derived.Deep.DeepCutAuto
import Derived.Deep.CutBlock
import Derived.Deep.RegionHeld3
import Derived.Laws.Rows
import Derived.Lib.AppendStr
import Derived.ArgAppend
import Derived.Laws.IdiomCopy
import Derived.OrdersHeld
import Derived.Laws.BitsLemmas
import Derived.RowKit
import Derived.Laws.StructEq
import Derived.Test.YtcfknijdhmildaaDoorRows
import Derived.ProofKit
import Derived.OpenShut
import Derived.ShutString
import Derived.ChangeOld
import Derived.Deep.Slices

set_option maxHeartbeats 8000000
set_option maxRecDepth 100000
set_option linter.unusedVariables false
set_option linter.unusedSimpArgs false
section
namespace Go.Proofs.YtcfknijdhmildaaDoor
open Go.RowKit Go.Shelf Go.Lib Go.Proofs.YtcfknijdhmildaaDoorW.PrintWords
def FrG (w wi:World) (r:Nat) (A:Option Addr) (L:List Wd):Prop:=
 Below r w wi∧wi.heap[r]? = some (.cells #[.int .i64 0,.int .i64 0,.int .i64 0,.int .i64 0,.int .i64 0,.slice none 0 0,.slice none 0 0,.int .i64 0,.int .i64 0] 76 (0,0))∧WRow wi r A L∧r<wi.heap.size
theorem FrG.below {w wi w':World} {r:Nat} {A:Option Addr} {L:List Wd} (h:FrG w wi r A L) (hb:Below wi.heap.size wi w'):FrG w w' r A L:=
 ⟨h.1.trans (hb.mono (Nat.le_of_lt h.2.2.2)),(hb.block r h.2.2.2).trans h.2.1,h.2.2.1.below hb (Nat.le_of_lt h.2.2.2),Nat.lt_of_lt_of_le h.2.2.2 hb.size⟩
theorem FrG.alloc {w wi:World} {r:Nat} {A:Option Addr} {L:List Wd} (h:FrG w wi r A L) (o:Obj):FrG w (wi.alloc o) r A L:=h.below ((Below.refl _ _).alloc (Nat.le_refl _) o)
theorem FrG.drew {w wi:World} {r:Nat} {A:Option Addr} {L:List Wd} (h:FrG w wi r A L):FrG w wi.drew r A L:=h.below (Below.refl _ _).drew
theorem FrG.far {w wi w':World} {r s:Nat} {A:Option Addr} {L:List Wd} (h:FrG w wi r A L) (hg:wi.grownBy w' (some s)) (hs:r<s):FrG w w' r A L:=by
 have hl:=h.2.2.2
 have hb:Below (r+1) wi w':=⟨hg.os,hg.tape,hg.output,hg.size,fun j hj=>hg.block j (by omega) (fun e=>by injection e with e;omega)⟩
 exact⟨h.1.trans (hb.mono (by omega)),(hb.block r (by omega)).trans h.2.1,h.2.2.1.below hb (by omega),Nat.lt_of_lt_of_le h.2.2.2 hb.size⟩
theorem FrG.put {w wi W:World} {r:Nat} {A:Option Addr} {L:List Wd} (h:FrG w wi r A L) (hg:wi.grownBy W (some r)):Below r w W:=qar h.1 hg (Nat.le_of_lt h.2.2.2) (Nat.le_refl _)
def Glp (w:World) (L:List Wd) (R:Except Int Tk) (e:Ending) (w':World):Prop:=
 (match R with
  |.error p=>e=.returned (gotBad p)
  |.ok x=>∃ A5 c5 A6 c6,e=.returned (.agg #[.int .i64 x.id,.int .i64 x.c,.int .i64 x.d,.int .i64 x.t,.int .i64 x.p,.slice A5 x.ch.length c5,.slice A6 x.us.length c6,.int .i64 (endP L),.int .i64 0])∧OwnI w' w.heap.size 2 A5 c5 x.ch∧OwnI w' w.heap.size 3 A6 c6 x.us)
 ∧ Below w.heap.size w w'
theorem qaI {R:Ending→World→Prop} {tmps:Array Value} {W:World} {r:Nat} {t:TypeId} {a0 a1 a2 a3 a4 a5 a6 a7 a8:Value} (ht:tmps[2]?.getD undef=.pointer (some ⟨r,0,none⟩)) (hb:W.heap[r]? = some (.cells #[a0,a1,a2,a3,a4,a5,a6,a7,a8] t (0,0)))
  (hR:R (.returned (.agg #[a0,a1,a2,a3,a4,a5,a6,a7,a8])) W) :
  bodyPost Tryd.prog Tryd.f29 R .ret { tmps:=tmps,defers:=[] } W:=by
 refine bodyPost_ret ?_ rfl hR
 obtain⟨h0,h1,h2,h3,h4,h5,h6,h7,h8,_⟩:=qaD hb
 simp [results,Tryd.f29,go_sem,ht,h0,h1,h2,h3,h4,h5,h6,h7,h8]
theorem refWrong_any' (k cap:Nat) (A:Option Addr) (L:List Wd) (w:World) (hn:L.length≤1000000) (hk:k≤1000000) (hr:WRow w w.heap.size A L) :
  Calls Tryd.prog 28 #[.slice A L.length cap,.int .i64 k] w fun e w'=>e=.returned (.agg #[.int .i64 0,.int .i64 0,.int .i64 0,.int .i64 0,.int .i64 0,.slice none 0 0,.slice none 0 0,.int .i64 (wrongP L k),.int .i64 10])∧Below w.heap.size w w':=refWrong_any k cap A L w hn hk hr
def nmF:Nat→ByteArray
 |0=>⟨#[99]⟩
 |1=>⟨#[100]⟩
 |2=>⟨#[116]⟩
 |_=>⟨#[112]⟩
def moF (i:Nat):Int:=if i=3 then 99 else 1073741824
theorem valueV_named (x name:ByteArray):isNamed x name=(valueV x name).2.2:=by
 unfold isNamed valueV
 by_cases h:(pairV x).1=name
 ·rw [if_pos h];simp [h]
 ·rw [if_neg h];simp [h]
theorem valueV_val {x name:ByteArray} (h:(valueV x name).2.2=true):(valueV x name).2.1=(pairV x).2.1∧isNamed x name=true:=by
 unfold valueV at h ⊢
 unfold isNamed
 by_cases h':(pairV x).1=name
 ·rw [if_pos h'] at h ⊢;simp [h,h']
 ·rw [if_neg h'] at h;simp at h
theorem qbe (x name:ByteArray) (most:Int):(namedP x name most).2=(numberR x name most).2∧((numberR x name most).2=true→(namedP x name most).1=(numberR x name most).1):=by
 unfold namedP numberR
 by_cases h:(valueV x name).2.2=true
 ·rw [if_pos h]
  obtain⟨h1,h2⟩:=valueV_val h
  unfold isNamed at h2
  rw [h1]
  exact⟨by simp only [h2,Bool.true_and],fun _=>rfl⟩
 ·rw [if_neg h]
  have h2:((pairV x).2.2 && decide ((pairV x).1=name))=false:=by
   unfold valueV at h
   by_cases h':(pairV x).1=name
   ·rw [if_pos h'] at h;simp [h]
   ·simp [h']
  exact⟨by simp only [h2,Bool.false_and],fun h=>by cases h⟩
theorem numP_empty (most:Int):numP ByteArray.empty most=(0,false):=by
 unfold numP
 exact if_neg (fun h=>h.1.1 rfl)
noncomputable def avF (L:List Wd) (j i:Nat):Int:=if j<i then (numberR (nextP L (2+j)) (nmF j) (moF j)).1 else 0
theorem qa4 {W:World} {r:Nat} {t:TypeId} {a0 a1 a2 a3:Value} (hb:W.heap[r]? = some (.cells #[a0,a1,a2,a3] t (0,0))):W.cell? ⟨r,0,none⟩=some a0∧W.cell? ⟨r,1,none⟩=some a1∧W.cell? ⟨r,2,none⟩=some a2∧W.cell? ⟨r,3,none⟩=some a3∧(∀ i,W.frozen? ⟨r,i,none⟩=false):=by
 refine⟨?_,?_,?_,?_,fun i=>by simp [World.frozen?,hb]⟩<;>simp [World.cell?,hb]
def LnI (w wi:World) (r ib nb ab:Nat) (A:Option Addr) (L:List Wd) (v0:Int) (i:Nat):Prop:=
 FrG w wi r A L∧wi.heap[ib]? = some (.cells #[.int .i64 v0,.bool true] 73 (0,0))∧wi.heap[nb]? = some (.cells #[.string ⟨#[99]⟩,.string ⟨#[100]⟩,.string ⟨#[116]⟩,.string ⟨#[112]⟩] 110 (0,0)) ∧
 wi.heap[ab]? = some (.cells #[.int .i64 (avF L 0 i),.int .i64 (avF L 1 i),.int .i64 (avF L 2 i),.int .i64 (avF L 3 i)] 111 (0,0))∧∀ j,j<i→(numberR (nextP L (2+j)) (nmF j) (moF j)).2=true
theorem LnI.below {w wi w':World} {r ib nb ab:Nat} {A:Option Addr} {L:List Wd} {v0:Int} {i:Nat} (h:LnI w wi r ib nb ab A L v0 i) (hb:Below wi.heap.size wi w'):LnI w w' r ib nb ab A L v0 i:=
 ⟨h.1.below hb,(hb.block _ (lt_of_block h.2.1)).trans h.2.1,(hb.block _ (lt_of_block h.2.2.1)).trans h.2.2.1,(hb.block _ (lt_of_block h.2.2.2.1)).trans h.2.2.2.1,h.2.2.2.2⟩
theorem LnI.name {w wi:World} {r ib nb ab:Nat} {A:Option Addr} {L:List Wd} {v0:Int} {i:Nat} (h:LnI w wi r ib nb ab A L v0 i) (j:Nat) (hj:j<4):wi.cell? ⟨nb,j,none⟩=some (.string (nmF j)):=by
 obtain rfl|rfl|rfl|rfl:j=0∨j=1∨j=2∨j=3:=by omega
 ·exact (qa4 h.2.2.1).1
 ·exact (qa4 h.2.2.1).2.1
 ·exact (qa4 h.2.2.1).2.2.1
 ·exact (qa4 h.2.2.1).2.2.2.1
theorem LnI.num {w wi:World} {r ib nb ab:Nat} {A:Option Addr} {L:List Wd} {v0:Int} {i:Nat} (h:LnI w wi r ib nb ab A L v0 i) (j:Nat) (hj:j<4):wi.cell? ⟨ab,j,none⟩=some (.int .i64 (avF L j i)):=by
 obtain rfl|rfl|rfl|rfl:j=0∨j=1∨j=2∨j=3:=by omega
 ·exact (qa4 h.2.2.2.1).1
 ·exact (qa4 h.2.2.2.1).2.1
 ·exact (qa4 h.2.2.2.1).2.2.1
 ·exact (qa4 h.2.2.2.1).2.2.2.1
theorem LnI.put {w wi:World} {r ib nb ab:Nat} {A:Option Addr} {L:List Wd} {v0:Int} {i:Nat} (h:LnI w wi r ib nb ab A L v0 i) (hi:i<4) (hr:r<ib) (hib:ib<nb) (hnb:nb<ab) (hok:(numberR (nextP L (2+i)) (nmF i) (moF i)).2=true) :
  LnI w (wi.setCell ⟨ab,i,none⟩ (.int .i64 (numberR (nextP L (2+i)) (nmF i) (moF i)).1)) r ib nb ab A L v0 (i+1):=by
 have hg:=qas wi ab i (.int .i64 (numberR (nextP L (2+i)) (nmF i) (moF i)).1)
 refine⟨h.1.far hg (by omega),(hg.block _ (lt_of_block h.2.1) (fun e=>by injection e with e;omega)).trans h.2.1,(hg.block _ (lt_of_block h.2.2.1) (fun e=>by injection e with e;omega)).trans h.2.2.1,?_,fun j hj=>?_⟩
 ·refine blkPut h.2.2.2.1 i _ ?_
  obtain rfl|rfl|rfl|rfl:i=0∨i=1∨i=2∨i=3:=by omega
  all_goals simp [avF]
 ·by_cases hji:j=i
  ·rw [hji];exact hok
  ·exact h.2.2.2.2 j (by omega)
theorem taskNums {L:List Wd} {R X:Except Int Tk} {i:Nat} (hi:i<4) (h:∀ j,j<i→(numberR (nextP L (2+j)) (nmF j) (moF j)).2=true) (hno:(numberR (nextP L (2+i)) (nmF i) (moF i)).2=false)
  (hR:R=if (namedP (nextP L 2) ⟨#[99]⟩ 1073741824).2=true then
   if (namedP (nextP L 3) ⟨#[100]⟩ 1073741824).2=true then
   if (namedP (nextP L 4) ⟨#[116]⟩ 1073741824).2=true then
   if (namedP (nextP L 5) ⟨#[112]⟩ 99).2=true then X
   else .error (wrongP L 5)
   else .error (wrongP L 4)
   else .error (wrongP L 3)
   else .error (wrongP L 2)):R=.error (wrongP L (2+i)):=by
 rw [(qbe _ _ _).1,(qbe _ _ _).1,(qbe _ _ _).1,(qbe _ _ _).1] at hR
 obtain rfl|rfl|rfl|rfl:i=0∨i=1∨i=2∨i=3:=by omega
 ·rw [hR,if_neg (by have:=hno;simp only [nmF,moF] at this;simpa using this)]
 ·have h0:=h 0 (by omega)
  rw [hR,if_pos (by simpa [nmF,moF] using h0),if_neg (by simpa [nmF,moF] using hno)]
 ·have h0:=h 0 (by omega)
  have h1:=h 1 (by omega)
  rw [hR,if_pos (by simpa [nmF,moF] using h0),if_pos (by simpa [nmF,moF] using h1),if_neg (by simpa [nmF,moF] using hno)]
 ·have h0:=h 0 (by omega)
  have h1:=h 1 (by omega)
  have h2:=h 2 (by omega)
  rw [hR,if_pos (by simpa [nmF,moF] using h0),if_pos (by simpa [nmF,moF] using h1),if_pos (by simpa [nmF,moF] using h2),if_neg (by simpa [nmF,moF] using hno)]
theorem refNumbers_N (s:ByteArray) (hs:s.size≤65536) (most:Int) (w:World) (hm2:most≤9223372036854775807) :
  Calls Tryd.prog 55 #[.string s,.int .i64 most] w fun e w'=>(∃ A6 c6,e=.returned (.tuple #[.slice A6 (numsP s most).1.length c6,.bool (numsP s most).2])∧OwnI w' w.heap.size 2 A6 c6 (numsP s most).1)∧Below w.heap.size w w':=
 (refNumbers_any s hs most w hm2 (commas s) (commas_slc s)).mono fun e w' ⟨h,hb⟩=>by
  unfold numsP
  rcases h with ⟨h1,v,rfl,ho⟩|⟨h1,rfl⟩
  ·rw [if_pos h1]
   rw [show (commas s).length=(numsOf (commas s)).length by simp [numsOf]] at ho
   obtain⟨A6,c6,rfl,h2⟩:=OwnI.of ho
   exact⟨⟨A6,c6,rfl,h2⟩,hb⟩
  ·rw [if_neg h1]
   exact⟨⟨none,0,rfl,OwnI.nil _ _ _⟩,hb⟩
theorem grown_put {x9 AL w3:World} {tb:Nat} {ob:Option Nat} (h1:x9.grownBy AL (some tb)) (h2:AL.grownBy w3 ob) (hob:∀ k,ob=some k→x9.heap.size≤k) (i:Nat) (u:Value):x9.grownBy (w3.setCell ⟨tb,i,none⟩ u) (some tb):=
 ⟨h2.os.trans h1.os,h2.tape.trans h1.tape,h2.output.trans h1.output,by have a:=h1.size;have b:=h2.size;simp only [World.setCell,Array.size_modify];omega,fun k hk hne=>
  (Below.heap_setCell w3 ⟨tb,i,none⟩ u k (fun e=>hne (by rw [e]))).trans ((h2.block k (Nat.lt_of_lt_of_le hk h1.size) (fun e=>by have:=hob k e.symm;omega)).trans (h1.block k hk hne))⟩
theorem nums_len255 (s:ByteArray) (hs:s.size≤65536):(numsP s 255).1.length≤65537:=by
 unfold numsP
 split
 ·have h1:=commas_len s
  simp only [numsOf,List.length_map]
  omega
 ·simp
theorem taskNumsOk {L:List Wd} {R X:Except Int Tk} (h:∀ j,j<4→(numberR (nextP L (2+j)) (nmF j) (moF j)).2=true)
  (hR:R=if (namedP (nextP L 2) ⟨#[99]⟩ 1073741824).2=true then
   if (namedP (nextP L 3) ⟨#[100]⟩ 1073741824).2=true then
   if (namedP (nextP L 4) ⟨#[116]⟩ 1073741824).2=true then
   if (namedP (nextP L 5) ⟨#[112]⟩ 99).2=true then X
   else .error (wrongP L 5)
   else .error (wrongP L 4)
   else .error (wrongP L 3)
   else .error (wrongP L 2)):R=X∧(namedP (nextP L 2) ⟨#[99]⟩ 1073741824).1=avF L 0 4∧(namedP (nextP L 3) ⟨#[100]⟩ 1073741824).1=avF L 1 4∧(namedP (nextP L 4) ⟨#[116]⟩ 1073741824).1=avF L 2 4∧(namedP (nextP L 5) ⟨#[112]⟩ 99).1=avF L 3 4:=by
 have h0:(numberR (nextP L 2) ⟨#[99]⟩ 1073741824).2=true:=h 0 (by omega)
 have h1:(numberR (nextP L 3) ⟨#[100]⟩ 1073741824).2=true:=h 1 (by omega)
 have h2:(numberR (nextP L 4) ⟨#[116]⟩ 1073741824).2=true:=h 2 (by omega)
 have h3:(numberR (nextP L 5) ⟨#[112]⟩ 99).2=true:=h 3 (by omega)
 rw [(qbe _ _ _).1,(qbe _ _ _).1,(qbe _ _ _).1,(qbe _ _ _).1,if_pos h0,if_pos h1,if_pos h2,if_pos h3] at hR
 exact⟨hR,(qbe _ _ _).2 h0,(qbe _ _ _).2 h1,(qbe _ _ _).2 h2,(qbe _ _ _).2 h3⟩
theorem numberR_lt {L:List Wd} {k:Nat} {name:ByteArray} {most:Int} (h:(numberR (nextP L k) name most).2=true):k<L.length:=by
 rcases Nat.lt_or_ge k L.length with hk|hk
 ·exact hk
 ·rw [show nextP L k=ByteArray.empty by rw [nextP,List.getElem?_eq_none hk],numberR,valueV_empty] at h
  simp at h
theorem valueV_lt {L:List Wd} {k:Nat} {name:ByteArray} (h:(valueV (nextP L k) name).2.2=true):k<L.length:=by
 rcases Nat.lt_or_ge k L.length with hk|hk
 ·exact hk
 ·rw [show nextP L k=ByteArray.empty by rw [nextP,List.getElem?_eq_none hk],valueV_empty] at h
  simp at h
theorem rowP_yes {x name:ByteArray} {most:Int} (h:(valueV x name).2.2=true) (k:Nat):rowP x name most=numsP (valueV x name).2.1 most∧rowK x name k=k+1:=by
 obtain⟨h1,h2⟩:=valueV_val h
 unfold rowP rowK
 rw [if_pos h2,if_pos h2,h1]
 exact⟨rfl,rfl⟩
theorem rowP_no {x name:ByteArray} {most:Int} (h:(valueV x name).2.2=false) (k:Nat):rowP x name most=([],true)∧rowK x name k=k:=by
 rw [← valueV_named] at h
 unfold rowP rowK
 simp [h]
theorem refLine_any (cap:Nat) (A:Option Addr) (L:List Wd) (w:World) (hn:L.length≤100000) (hL:∀ x ∈ L,x.t.size≤65536) (hr:WRow w w.heap.size A L) :
  Calls Tryd.prog 29 #[.slice A L.length cap] w fun e w'=>Glp w L (taskG L) e w':=by
 have HL1:=Lib.hid (fun x (hx:x ∈ L)=>Nat.le_trans (hL x hx) (show 65536≤1000000 by decide))
 have hF0:FrG w (w.alloc (.cells #[.int .i64 0,.int .i64 0,.int .i64 0,.int .i64 0,.int .i64 0,.slice none 0 0,.slice none 0 0,.int .i64 0,.int .i64 0] 76)) w.heap.size A L:=
  ⟨(Below.refl w.heap.size w).alloc (Nat.le_refl _) _,heap_alloc_new w _,hr.below ((Below.refl w.heap.size w).alloc (Nat.le_refl _) _) (Nat.le_refl _),by simp⟩
 obtain⟨R,hR⟩:∃ z,z=taskG L:=⟨_,rfl⟩
 rw [← hR]
 unfold taskG at hR
 have HR:=Lib.hid hR
 have HLL:=Lib.hid (And.intro hn hL)
 obtain⟨n,hn'⟩:∃ z,L.length=z:=⟨_,rfl⟩
 have HWR:=Lib.hid (fun (k:Nat) (W:World) (hk:k≤1000000) (h:WRow W W.heap.size A L)=>hn' ▸ refWrong_any' k cap A L W (by omega) hk h)
 have HNU:=Lib.hid (fun (k:Nat) (name:ByteArray) (most:Int) (W:World) (hk:k≤1000000) (hm:most≤9223372036854775807) (h:WRow W W.heap.size A L)=>hn' ▸ refNumberN_any k cap A L name most W (by omega) hk HL1.out hm h)
 have HVA:=Lib.hid (fun (k:Nat) (name:ByteArray) (W:World) (hk:k≤1000000) (h:WRow W W.heap.size A L)=>hn' ▸ refValue_any k cap A L name W (by omega) hk HL1.out h)
 have HEN:=Lib.hid (fun (W:World) (h:WRow W W.heap.size A L)=>hn' ▸ refEnd_any cap A L W (by omega) h)
 have hn1:n≤100000:=by omega
 rw [hn']
 have HN:=Lib.hid hn'
 clear hn' hn hL hr hR
 go_enter Tryd.func29,Tryd.ntmps29
 go_upto_region 1 with (fail)
 generalize w.alloc (.cells #[.int .i64 0,.int .i64 0,.int .i64 0,.int .i64 0,.int .i64 0,.slice none 0 0,.slice none 0 0,.int .i64 0,.int .i64 0] 76)=w0 at hF0 ⊢
 obtain⟨r,hr⟩:∃ z,w.heap.size=z:=⟨_,rfl⟩
 rw [hr] at hF0 ⊢
 have FR:=Lib.hid hF0
 clear hF0
 by_cases hn0:n=0
 ·subst hn0
  have HE:Hid (R=.error (wrongP L 0)):=Lib.hid (by rw [HR.out,List.eq_nil_of_length_eq_zero HN.out];rfl)
  go_wp2_with (first|(go_at_call 28;refine (HWR.out (0) _ (by omega) (FR.out.2.2.1.more (by have:=FR.out.1.size;omega))).mono ?_;rintro e wz ⟨rfl,hbz⟩;have FZ:=FR.out.below hbz;obtain⟨q0,q1,q2,q3,q4,q5,q6,q7,q8,hqz⟩:=qaD FZ.2.1;have HFZ:=Lib.hid FZ;clear FZ hbz))
  obtain⟨s1,s2⟩:=qaV HFZ.out.2.1 (.int .i64 0) (.int .i64 0) (.int .i64 0) (.int .i64 0) (.int .i64 0) (.slice none 0 0) (.slice none 0 0) (.int .i64 (wrongP L (0))) (.int .i64 10)
  generalize (((((((((wz.setCell ⟨r,0,none⟩ (.int .i64 0)).setCell ⟨r,1,none⟩ (.int .i64 0)).setCell ⟨r,2,none⟩ (.int .i64 0)).setCell ⟨r,3,none⟩ (.int .i64 0)).setCell ⟨r,4,none⟩ (.int .i64 0)).setCell ⟨r,5,none⟩ (.slice none 0 0)).setCell ⟨r,6,none⟩ (.slice none 0 0)).setCell ⟨r,7,none⟩ (.int .i64 (wrongP L (0)))).setCell ⟨r,8,none⟩ (.int .i64 10))=W at s1 s2 ⊢
  refine qaI (r:=r) ?_ s1 ?_
  ·rfl
  exact⟨by rw [HE.out];rfl,by rw [hr];exact HFZ.out.put s2⟩
 have hpos:0<n:=by omega
 have hne0:((n:Int) == 0)=false:=by simpa using hn0
 obtain⟨bA,oA,rfl,hltA,hcA⟩:=FR.out.2.2.1 (by rw [HN.out];exact hpos)
 have HC:=Lib.hid hcA
 have x0:=(hcA 0 (by rw [HN.out];exact hpos)).2.2
 have hnx:nextP L 0=(L[0]'(by rw [HN.out];exact hpos)).t:=by rw [nextP,List.getElem?_eq_getElem (by rw [HN.out];exact hpos)]
 rw [← hnx] at x0
 clear hcA hnx
 simp only [Nat.zero_mul,Nat.add_zero] at x0
 cases h1:decide (nextP L 0=⟨#[116,97,115,107]⟩) with
 |false=>
  have HE:Hid (R=.error (wrongP L 0)):=Lib.hid (by rw [HR.out,if_neg (by simpa using h1)])
  have hb1:¬ (nextP L 0).toList=[116,97,115,107]:=by
   have:=bytes_ne (of_decide_eq_false h1)
   simpa using this
  have hb2:((nextP L 0).toList == [116,97,115,107])=false:=by simpa using hb1
  clear h1
  generalize nextP L 0=xx at x0 hb1 hb2
  go_wp2_with (first|(go_at_call 28;refine (HWR.out (0) _ (by omega) (FR.out.2.2.1.more (by have:=FR.out.1.size;omega))).mono ?_;rintro e wz ⟨rfl,hbz⟩;have FZ:=FR.out.below hbz;obtain⟨q0,q1,q2,q3,q4,q5,q6,q7,q8,hqz⟩:=qaD FZ.2.1;have HFZ:=Lib.hid FZ;clear FZ hbz))
  obtain⟨s1,s2⟩:=qaV HFZ.out.2.1 (.int .i64 0) (.int .i64 0) (.int .i64 0) (.int .i64 0) (.int .i64 0) (.slice none 0 0) (.slice none 0 0) (.int .i64 (wrongP L (0))) (.int .i64 10)
  generalize (((((((((wz.setCell ⟨r,0,none⟩ (.int .i64 0)).setCell ⟨r,1,none⟩ (.int .i64 0)).setCell ⟨r,2,none⟩ (.int .i64 0)).setCell ⟨r,3,none⟩ (.int .i64 0)).setCell ⟨r,4,none⟩ (.int .i64 0)).setCell ⟨r,5,none⟩ (.slice none 0 0)).setCell ⟨r,6,none⟩ (.slice none 0 0)).setCell ⟨r,7,none⟩ (.int .i64 (wrongP L (0)))).setCell ⟨r,8,none⟩ (.int .i64 10))=W at s1 s2 ⊢
  refine qaI (r:=r) ?_ s1 ?_
  ·rfl
  exact⟨by rw [HE.out];rfl,by rw [hr];exact HFZ.out.put s2⟩
 |true=>
 have HR1:=Lib.hid (HR.out.trans (if_pos (by simpa using h1)))
 rw [of_decide_eq_true h1] at x0
 clear HR h1
 have g0:x0=x0:=rfl
 clear g0
 go_upto_region 4 with (fail)
 have F1:=FR.out.alloc (.cells #[.int .i64 0,.bool false] 73)
 have hid:=heap_alloc_new w0 (.cells #[.int .i64 0,.bool false] 73)
 have hb1:=(Below.refl w0.heap.size w0).alloc (Nat.le_refl _) (.cells #[.int .i64 0,.bool false] 73)
 have hri:r<w0.heap.size:=FR.out.2.2.2
 generalize w0.alloc (.cells #[.int .i64 0,.bool false] 73)=w1 at F1 hid hb1 ⊢
 obtain⟨ib,hib⟩:∃ z,w0.heap.size=z:=⟨_,rfl⟩
 rw [hib] at hid hb1 hri ⊢
 clear x0 FR
 have FR:=Lib.hid F1
 clear F1
 obtain⟨i0,i1,hiz⟩:=qaS hid
 have HI:=Lib.hid hid
 clear hid
 by_cases hn1':n≤1
 ·have HE:Hid (R=.error (wrongP L 1)):=Lib.hid (by
   rw [HR1.out,show nextP L 1=ByteArray.empty by rw [nextP,List.getElem?_eq_none (by rw [HN.out];exact hn1')],numP_empty,if_neg (by decide)])
  have hnl:¬ (1:Int)<n:=by omega
  clear HC
  go_wp2_with (first|(go_at_call 28;refine (HWR.out (1) _ (by omega) (FR.out.2.2.1.more (by have:=FR.out.1.size;omega))).mono ?_;rintro e wz ⟨rfl,hbz⟩;have FZ:=FR.out.below hbz;obtain⟨q0,q1,q2,q3,q4,q5,q6,q7,q8,hqz⟩:=qaD FZ.2.1;have HFZ:=Lib.hid FZ;clear FZ hbz))
  obtain⟨s1,s2⟩:=qaV HFZ.out.2.1 (.int .i64 0) (.int .i64 0) (.int .i64 0) (.int .i64 0) (.int .i64 0) (.slice none 0 0) (.slice none 0 0) (.int .i64 (wrongP L (1))) (.int .i64 10)
  generalize (((((((((wz.setCell ⟨r,0,none⟩ (.int .i64 0)).setCell ⟨r,1,none⟩ (.int .i64 0)).setCell ⟨r,2,none⟩ (.int .i64 0)).setCell ⟨r,3,none⟩ (.int .i64 0)).setCell ⟨r,4,none⟩ (.int .i64 0)).setCell ⟨r,5,none⟩ (.slice none 0 0)).setCell ⟨r,6,none⟩ (.slice none 0 0)).setCell ⟨r,7,none⟩ (.int .i64 (wrongP L (1)))).setCell ⟨r,8,none⟩ (.int .i64 10))=W at s1 s2 ⊢
  refine qaI (r:=r) ?_ s1 ?_
  ·rfl
  exact⟨by rw [HE.out];rfl,by rw [hr];exact HFZ.out.put s2⟩
 have hnl:(1:Int)<n:=by omega
 have x1:=(HC.out 1 (by rw [HN.out];omega)).2.2
 have hnx:nextP L 1=(L[1]'(by rw [HN.out];omega)).t:=by rw [nextP,List.getElem?_eq_getElem (by rw [HN.out];omega)]
 rw [← hnx] at x1
 have x1:=(hb1.cell (p:=⟨bA,oA+1 * 3+2,none⟩) (by show bA<ib;omega)).trans x1
 simp only [Nat.one_mul] at x1
 have HQ:=Lib.hid (fun W=>refNumber_P (nextP L 1) 99 W (qa3 HL1.out 1) (by decide))
 generalize nextP L 1=xx at x1 HQ HR1
 generalize numP xx 99=v at HQ HR1
 obtain⟨v0,ok⟩:=v
 clear hnx hb1
 cases ok with
 |false=>
  have HE:Hid (R=.error (wrongP L 1)):=Lib.hid (by rw [HR1.out,if_neg (by simp)])
  go_upto_region 6 with (first|(go_at_call 27;refine (HQ.out _).mono ?_;rintro e w2 ⟨rfl,hb2⟩;have hi2:=(hb2.block _ (lt_of_block HI.out)).trans HI.out;obtain⟨j0,j1,hjz⟩:=qaS hi2;have HI2:=Lib.hid (And.intro hi2 (FR.out.below hb2));clear hi2 hb2))
  obtain⟨s1,s2⟩:=two_set HI2.out.1 (.int .i64 v0) (.bool false)
  have F3:=HI2.out.2.far s2 hri
  generalize (w2.setCell ⟨ib,0,none⟩ (.int .i64 v0)).setCell ⟨ib,1,none⟩ (.bool false)=w3 at s1 s2 F3 ⊢
  obtain⟨k0,k1,_⟩:=qaS s1
  clear FR HI HI2 j0 j1 hjz i0 i1 hiz x1 s1 s2
  have FR:=Lib.hid F3
  clear F3
  go_wp2_with (first|(go_at_call 28;refine (HWR.out (1) _ (by omega) (FR.out.2.2.1.more (by have:=FR.out.1.size;omega))).mono ?_;rintro e wz ⟨rfl,hbz⟩;have FZ:=FR.out.below hbz;obtain⟨q0,q1,q2,q3,q4,q5,q6,q7,q8,hqz⟩:=qaD FZ.2.1;have HFZ:=Lib.hid FZ;clear FZ hbz))
  obtain⟨s1,s2⟩:=qaV HFZ.out.2.1 (.int .i64 0) (.int .i64 0) (.int .i64 0) (.int .i64 0) (.int .i64 0) (.slice none 0 0) (.slice none 0 0) (.int .i64 (wrongP L (1))) (.int .i64 10)
  generalize (((((((((wz.setCell ⟨r,0,none⟩ (.int .i64 0)).setCell ⟨r,1,none⟩ (.int .i64 0)).setCell ⟨r,2,none⟩ (.int .i64 0)).setCell ⟨r,3,none⟩ (.int .i64 0)).setCell ⟨r,4,none⟩ (.int .i64 0)).setCell ⟨r,5,none⟩ (.slice none 0 0)).setCell ⟨r,6,none⟩ (.slice none 0 0)).setCell ⟨r,7,none⟩ (.int .i64 (wrongP L (1)))).setCell ⟨r,8,none⟩ (.int .i64 10))=W at s1 s2 ⊢
  refine qaI (r:=r) ?_ s1 ?_
  ·rfl
  exact⟨by rw [HE.out];rfl,by rw [hr];exact HFZ.out.put s2⟩
 |true=>
 have HR2:=Lib.hid (HR1.out.trans (if_pos rfl))
 go_upto_region 6 with (first|(go_at_call 27;refine (HQ.out _).mono ?_;rintro e w2 ⟨rfl,hb2⟩;have hi2:=(hb2.block _ (lt_of_block HI.out)).trans HI.out;obtain⟨j0,j1,hjz⟩:=qaS hi2;have HI2:=Lib.hid (And.intro hi2 (FR.out.below hb2));clear hi2 hb2))
 obtain⟨s1,s2⟩:=two_set HI2.out.1 (.int .i64 v0) (.bool true)
 have F3:=HI2.out.2.far s2 hri
 generalize (w2.setCell ⟨ib,0,none⟩ (.int .i64 v0)).setCell ⟨ib,1,none⟩ (.bool true)=w3 at s1 s2 F3 ⊢
 obtain⟨k0,k1,_⟩:=qaS s1
 have HI3:=Lib.hid s1
 clear FR HI HI2 j0 j1 hjz i0 i1 hiz x1 s1 s2 HR1 HQ
 have FR:=Lib.hid F3
 clear F3
 go_wp2
 have HI5:Hid (LnI w ((w3.alloc (.cells #[.string ⟨#[99]⟩,.string ⟨#[100]⟩,.string ⟨#[116]⟩,.string ⟨#[112]⟩] 110)).alloc (.cells #[.int .i64 0,.int .i64 0,.int .i64 0,.int .i64 0] 111)) r ib w3.heap.size (w3.heap.size+1) (some ⟨bA,oA,none⟩) L v0 0):=Lib.hid (by
  obtain⟨e0,e1,e2⟩:=two_blocks w3 (.cells #[.string ⟨#[99]⟩,.string ⟨#[100]⟩,.string ⟨#[116]⟩,.string ⟨#[112]⟩] 110) (.cells #[.int .i64 0,.int .i64 0,.int .i64 0,.int .i64 0] 111)
  have hb:=((Below.refl w3.heap.size w3).alloc (Nat.le_refl _) (.cells #[.string ⟨#[99]⟩,.string ⟨#[100]⟩,.string ⟨#[116]⟩,.string ⟨#[112]⟩] 110)).alloc (by simp) (.cells #[.int .i64 0,.int .i64 0,.int .i64 0,.int .i64 0] 111)
  exact⟨FR.out.below hb,(hb.block _ (lt_of_block HI3.out)).trans HI3.out,e0,by simpa [avF] using e1,fun j hj=>absurd hj (Nat.not_lt_zero _)⟩)
 have hibn:ib<w3.heap.size:=lt_of_block HI3.out
 generalize (w3.alloc (.cells #[.string ⟨#[99]⟩,.string ⟨#[100]⟩,.string ⟨#[116]⟩,.string ⟨#[112]⟩] 110)).alloc (.cells #[.int .i64 0,.int .i64 0,.int .i64 0,.int .i64 0] 111)=w5 at HI5 ⊢
 obtain⟨nb,hnb⟩:∃ z,w3.heap.size=z:=⟨_,rfl⟩
 rw [hnb] at HI5 hibn ⊢
 obtain⟨ab,hab⟩:∃ z,nb+1=z:=⟨_,rfl⟩
 rw [hab] at HI5 ⊢
 have hnab:nb<ab:=by omega
 clear FR HI3 k0 k1 hnb hib HC
 go_loopw [6] (fun v6 wr=>∃ (i:Nat),v6=.int .i64 i∧i≤4∧Hid (LnI w wr r ib nb ab (some ⟨bA,oA,none⟩) L v0 i)) (fun v6 _=>4 - (RowKit.intOf v6).toNat)
 case atStart=>exact⟨0,rfl,Nat.zero_le _,HI5⟩
 case round=>
  clear HI5
  obtain⟨i,rfl,hi,hI⟩:=hrel
  by_cases hi4:i<4
  ·have z0:=hI.out.name i hi4
   have hw2:IntKind.i64.wrap (2+(i:Int))=2+(i:Int):=by rw [IntKind.wrap_i64];omega
   have hc2:((2+i:Nat):Int)=2+(i:Int):=by omega
   have HV:Hid (∀ W,FrG w W r (some ⟨bA,oA,none⟩) L→Calls Tryd.prog 53 #[.slice (some ⟨bA,oA,none⟩) n cap,.int .i64 (2+(i:Int)),.string (nmF i),.int .i64 (moF i)] W fun e w'=>e=.returned (.agg #[.int .i64 (numberR (nextP L (2+i)) (nmF i) (moF i)).1,.bool (numberR (nextP L (2+i)) (nmF i) (moF i)).2])∧Below W.heap.size W w'):=Lib.hid (fun W h=>hc2 ▸ HNU.out (2+i) (nmF i) (moF i) W (by omega) (by unfold moF;split<;>decide) (h.2.2.1.more (Nat.le_of_lt h.2.2.2)))
   have hV:∃ q,numberR (nextP L (2+i)) (nmF i) (moF i)=q:=⟨_,rfl⟩
   obtain⟨⟨vi,ok⟩,hV⟩:=hV
   rw [hV] at HV
   have HVV:=Lib.hid hV
   clear hV
   have hmo:moF i=if i=3 then 99 else 1073741824:=rfl
   have HW2:Hid (∀ W,FrG w W r (some ⟨bA,oA,none⟩) L→Calls Tryd.prog 28 #[.slice (some ⟨bA,oA,none⟩) n cap,.int .i64 (2+(i:Int))] W fun e w'=>e=.returned (.agg #[.int .i64 0,.int .i64 0,.int .i64 0,.int .i64 0,.int .i64 0,.slice none 0 0,.slice none 0 0,.int .i64 (wrongP L (2+i)),.int .i64 10])∧Below W.heap.size W w'):=Lib.hid (fun W h=>hc2 ▸ HWR.out (2+i) W (by omega) (h.2.2.1.more (Nat.le_of_lt h.2.2.2)))
   by_cases hi3:i=3
   all_goals
    first|rw [if_pos hi3] at hmo|rw [if_neg hi3] at hmo
    rw [hmo] at HV
    have HMO:=Lib.hid hmo
    clear hmo
    first|(have hq3:((i:Int) == 3)=true:=by (subst hi3;decide))|(have hq3:((i:Int) == 3)=false:=by (simp;omega))
    have HI3':=Lib.hid hi3
    clear hi3
    go_upto_region 17 with (go_at_call 53;refine (HV.out _ hI.out.1).mono ?_;rintro e w6 ⟨rfl,hb6⟩)
    have ha7:=(Below.refl w6.heap.size w6).alloc (Nat.le_refl _) (.cells #[.int .i64 vi,.bool ok] 73)
    have h87:=heap_alloc_new w6 (.cells #[.int .i64 vi,.bool ok] 73)
    have hI7:=hI.out.below (hb6.trans (ha7.mono hb6.size))
    generalize w6.alloc (.cells #[.int .i64 vi,.bool ok] 73)=w7 at h87 hI7 ⊢
    obtain⟨f0,f1,_⟩:=qaS h87
    clear ha7 hb6 z0 h87
    cases ok with
    |false=>
     have HE:Hid (R=.error (wrongP L (2+i))):=Lib.hid (taskNums hi4 hI.out.2.2.2.2 (by rw [HVV.out]) HR2.out)
     have FR:=Lib.hid hI7.1
     clear hI7
     go_wp2_with (first|(go_at_call 28;refine (HW2.out _ FR.out).mono ?_;rintro e wz ⟨rfl,hbz⟩;have FZ:=FR.out.below hbz;obtain⟨q0,q1,q2,q3,q4,q5,q6,q7,q8,hqz⟩:=qaD FZ.2.1;have HFZ:=Lib.hid FZ;clear FZ hbz))
     obtain⟨s1,s2⟩:=qaV HFZ.out.2.1 (.int .i64 0) (.int .i64 0) (.int .i64 0) (.int .i64 0) (.int .i64 0) (.slice none 0 0) (.slice none 0 0) (.int .i64 (wrongP L (2+i))) (.int .i64 10)
     generalize (((((((((wz.setCell ⟨r,0,none⟩ (.int .i64 0)).setCell ⟨r,1,none⟩ (.int .i64 0)).setCell ⟨r,2,none⟩ (.int .i64 0)).setCell ⟨r,3,none⟩ (.int .i64 0)).setCell ⟨r,4,none⟩ (.int .i64 0)).setCell ⟨r,5,none⟩ (.slice none 0 0)).setCell ⟨r,6,none⟩ (.slice none 0 0)).setCell ⟨r,7,none⟩ (.int .i64 (wrongP L (2+i)))).setCell ⟨r,8,none⟩ (.int .i64 10))=W at s1 s2 ⊢
     refine qaI (r:=r) ?_ s1 ?_
     ·rfl
     exact⟨by rw [HE.out];rfl,by rw [hr];exact HFZ.out.put s2⟩
    |true=>
     have hz7:=hI7.num i hi4
     have hzf:=(qa4 hI7.2.2.2.1).2.2.2.2 i
     have HI7:=Lib.hid hI7
     clear hI7
     go_wp2
     have hN:=Lib.hid (HI7.out.put hi4 hri hibn hnab (by rw [HVV.out]))
     rw [HVV.out] at hN
     go_roundw
     case rel=>exact⟨i+1,by simp,hi4,hN⟩
     case measure=>simp [RowKit.intOf]<;>omega
  ·obtain rfl:i=4:=by omega
   obtain⟨hRX,q1,q2,q3,q4⟩:=taskNumsOk hI.out.2.2.2.2 HR2.out
   have h5:6≤n:=by have:=numberR_lt (hI.out.2.2.2.2 3 (by omega));rw [HN.out] at this;omega
   rw [q1,q2,q3,q4] at hRX
   have HR6:=Lib.hid hRX
   clear hRX q1 q2 q3 q4
   obtain⟨k0,k1,_⟩:=qaS hI.out.2.1
   obtain⟨m0,m1,m2,m3,_⟩:=qa4 hI.out.2.2.2.1
   have FR:=Lib.hid hI.out.1
   generalize avF L 0 4=v1 at m0 HR6
   generalize avF L 1 4=v2 at m1 HR6
   generalize avF L 2 4=v3 at m2 HR6
   generalize avF L 3 4=v4 at m3 HR6
   clear hI
   go_upto_region 21 with (fail)
   have F1:=FR.out.alloc (.cells #[.int .i64 v0,.int .i64 v1,.int .i64 v2,.int .i64 v3,.int .i64 v4,.slice none 0 0,.slice none 0 0] 52)
   have ht:=heap_alloc_new wr (.cells #[.int .i64 v0,.int .i64 v1,.int .i64 v2,.int .i64 v3,.int .i64 v4,.slice none 0 0,.slice none 0 0] 52)
   have hrt:r<wr.heap.size:=FR.out.2.2.2
   generalize wr.alloc (.cells #[.int .i64 v0,.int .i64 v1,.int .i64 v2,.int .i64 v3,.int .i64 v4,.slice none 0 0,.slice none 0 0] 52)=w6 at F1 ht ⊢
   obtain⟨tb,htb⟩:∃ z,wr.heap.size=z:=⟨_,rfl⟩
   rw [htb] at ht hrt ⊢
   clear FR k0 k1 m0 m1 m2 m3 htb
   have FR:=Lib.hid F1
   have HT:=Lib.hid ht
   clear F1 ht
   have HV:=Lib.hid (HVA.out 6 ⟨#[99,104,117,110,107,115]⟩ w6 (by omega) (FR.out.2.2.1.more (Nat.le_of_lt FR.out.2.2.2)))
   have hvs:=valueV_size (name:=⟨#[99,104,117,110,107,115]⟩) (qa3 HLL.out.2 6)
   have hy:=fun h=>rowP_yes (x:=nextP L 6) (name:=⟨#[99,104,117,110,107,115]⟩) (most:=1073741824) h 6
   have hno:=fun h=>rowP_no (x:=nextP L 6) (name:=⟨#[99,104,117,110,107,115]⟩) (most:=1073741824) h 6
   have hlt:=fun h=>valueV_lt (L:=L) (k:=6) (name:=⟨#[99,104,117,110,107,115]⟩) h
   generalize valueV (nextP L 6) ⟨#[99,104,117,110,107,115]⟩=V at HV hvs hy hno hlt
   obtain⟨c1,c2,c3⟩:=V
   simp only at hy hno hlt hvs
   cases c3 with
   |false=>
    obtain⟨e1,e2⟩:=hno rfl
    rw [e1,e2] at HR6
    clear hy hno hlt e1 e2 hvs
    go_upto_region 23 with (go_at_call 54;refine HV.out.mono ?_;rintro e w7 ⟨rfl,hb7⟩)
    have ha8:=(Below.refl w7.heap.size w7).alloc (Nat.le_refl _) (.cells #[.string c1,.string c2,.bool false] 114)
    have h88:=heap_alloc_new w7 (.cells #[.string c1,.string c2,.bool false] 114)
    have hb8:=hb7.trans (ha8.mono hb7.size)
    have F8:=FR.out.below hb8
    have ht8:=(hb8.block tb (lt_of_block HT.out)).trans HT.out
    generalize w7.alloc (.cells #[.string c1,.string c2,.bool false] 114)=w8 at h88 F8 ht8 ⊢
    obtain⟨f0,f1,f2,_⟩:=qaB h88
    clear FR HT hb7 ha8 hb8 h88 HV
    have FR:=Lib.hid F8
    have HT:=Lib.hid ht8
    clear F8 ht8
    have O5:Hid (OwnI w8 (tb+1) 2 none 0 []):=Lib.hid (OwnI.nil _ _ _)
    have HR7:=Lib.hid (HR6.out.trans (if_pos (by trivial)))
    clear HR6
    have HVu:=Lib.hid (HVA.out 6 ⟨#[117,115,101]⟩ w8 (by omega) (FR.out.2.2.1.more (Nat.le_of_lt FR.out.2.2.2)))
    have hvs':=valueV_size (name:=⟨#[117,115,101]⟩) (qa3 HLL.out.2 6)
    have hy':=fun h=>rowP_yes (x:=nextP L 6) (name:=⟨#[117,115,101]⟩) (most:=255) h 6
    have hno':=fun h=>rowP_no (x:=nextP L 6) (name:=⟨#[117,115,101]⟩) (most:=255) h 6
    have hlt':=fun h=>valueV_lt (L:=L) (k:=6) (name:=⟨#[117,115,101]⟩) h
    generalize valueV (nextP L 6) ⟨#[117,115,101]⟩=V' at HVu hvs' hy' hno' hlt'
    obtain⟨d1,d2,d3⟩:=V'
    simp only at hy' hno' hlt' hvs'
    cases d3 with
    |false=>
     obtain⟨e1,e2⟩:=hno' rfl
     rw [e1,e2] at HR7
     have HR8:=Lib.hid (HR7.out.trans (if_pos (by trivial)))
     clear hy' hno' hlt' e1 e2 hvs' HR7
     go_upto_region 30 with (go_at_call 54;refine HVu.out.mono ?_;rintro e x7 ⟨rfl,hb7⟩)
     have ha8:=(Below.refl x7.heap.size x7).alloc (Nat.le_refl _) (.cells #[.string d1,.string d2,.bool false] 114)
     have h88:=heap_alloc_new x7 (.cells #[.string d1,.string d2,.bool false] 114)
     have hb8:=hb7.trans (ha8.mono hb7.size)
     have F8:=FR.out.below hb8
     have ht8:=(hb8.block tb (lt_of_block HT.out)).trans HT.out
     have o8:=O5.out.below hb8
     generalize x7.alloc (.cells #[.string d1,.string d2,.bool false] 114)=x8 at h88 F8 ht8 o8 ⊢
     obtain⟨g0,g1,g2,_⟩:=qaB h88
     clear FR HT O5 hb7 ha8 hb8 h88 HVu
     have FR:=Lib.hid F8
     have HT:=Lib.hid ht8
     have O5:=Lib.hid o8
     clear F8 ht8 o8
     have O6:Hid (OwnI x8 (tb+1) 3 none 0 []):=Lib.hid (OwnI.nil _ _ _)
     by_cases hkn:6<n
     ·have HE:Hid (R=.error (wrongP L (6))):=Lib.hid (by rw [HR8.out,if_neg (by rw [HN.out];omega)])
      have hkz:((6:Nat):Int)<(n:Int):=by omega
      simp at hkz
      go_wp2_with (first|(go_at_call 28;refine (HWR.out (6) _ (by omega) (FR.out.2.2.1.more (by have:=FR.out.1.size;omega))).mono ?_;rintro e wz ⟨rfl,hbz⟩;have FZ:=FR.out.below hbz;obtain⟨q0,q1,q2,q3,q4,q5,q6,q7,q8,hqz⟩:=qaD FZ.2.1;have HFZ:=Lib.hid FZ;clear FZ hbz))
      obtain⟨s1,s2⟩:=qaV HFZ.out.2.1 (.int .i64 0) (.int .i64 0) (.int .i64 0) (.int .i64 0) (.int .i64 0) (.slice none 0 0) (.slice none 0 0) (.int .i64 (wrongP L (6))) (.int .i64 10)
      generalize (((((((((wz.setCell ⟨r,0,none⟩ (.int .i64 0)).setCell ⟨r,1,none⟩ (.int .i64 0)).setCell ⟨r,2,none⟩ (.int .i64 0)).setCell ⟨r,3,none⟩ (.int .i64 0)).setCell ⟨r,4,none⟩ (.int .i64 0)).setCell ⟨r,5,none⟩ (.slice none 0 0)).setCell ⟨r,6,none⟩ (.slice none 0 0)).setCell ⟨r,7,none⟩ (.int .i64 (wrongP L (6)))).setCell ⟨r,8,none⟩ (.int .i64 10))=W at s1 s2 ⊢
      refine qaI (r:=r) ?_ s1 ?_
      ·rfl
      exact⟨by rw [HE.out];rfl,by rw [hr];exact HFZ.out.put s2⟩
     ·have HE:Hid (R=.ok ⟨v0,v1,v2,v3,v4,[],[]⟩):=Lib.hid (by rw [HR8.out,if_pos (by rw [HN.out];omega)])
      have hkz:¬ ((6:Nat):Int)<(n:Int):=by omega
      simp at hkz
      have t0:=cell_of_row _ tb 0 _ _ _ HT.out
      have t1:=cell_of_row _ tb 1 _ _ _ HT.out
      have t2:=cell_of_row _ tb 2 _ _ _ HT.out
      have t3:=cell_of_row _ tb 3 _ _ _ HT.out
      have t4:=cell_of_row _ tb 4 _ _ _ HT.out
      have t5:=cell_of_row _ tb 5 _ _ _ HT.out
      have t6:=cell_of_row _ tb 6 _ _ _ HT.out
      have hlt12:=lt_of_block HT.out
      have hrl12:r<x8.heap.size:=FR.out.2.2.2
      have nrt:¬ r=tb:=by omega
      have nrt':¬ tb=r:=by omega
      simp at t0 t1 t2 t3 t4 t5 t6
      go_upto_region 41 with (fail)
      go_region_held (fun W=>W.cell? ⟨tb,0,none⟩=some (.int .i64 v0)∧W.cell? ⟨tb,1,none⟩=some (.int .i64 v1)∧W.cell? ⟨tb,2,none⟩=some (.int .i64 v2)∧W.cell? ⟨tb,3,none⟩=some (.int .i64 v3)∧W.cell? ⟨tb,4,none⟩=some (.int .i64 v4)∧W.cell? ⟨tb,5,none⟩=some (.slice none 0 0)∧W.cell? ⟨tb,6,none⟩=some (.slice none 0 0)) (go_keep) (first|(go_at_call 52;refine (HEN.out _ (FR.out.drew.2.2.1.more (Nat.le_of_lt hrl12))).mono ?_;rintro e w12 ⟨rfl,hb12⟩;have u0:=(hb12.cell (p:=⟨tb,0,none⟩) hlt12).trans t0;have u1:=(hb12.cell (p:=⟨tb,1,none⟩) hlt12).trans t1;have u2:=(hb12.cell (p:=⟨tb,2,none⟩) hlt12).trans t2;have u3:=(hb12.cell (p:=⟨tb,3,none⟩) hlt12).trans t3;have u4:=(hb12.cell (p:=⟨tb,4,none⟩) hlt12).trans t4;have u5:=(hb12.cell (p:=⟨tb,5,none⟩) hlt12).trans t5;have u6:=(hb12.cell (p:=⟨tb,6,none⟩) hlt12).trans t6;have F12:=FR.out.drew.below hb12;obtain⟨q0,q1,q2,q3,q4,q5,q6,q7,q8,hqz⟩:=qaD F12.2.1;have HF12:=Lib.hid (And.intro F12 (And.intro (OwnI.below (w:=x8.drew) O5.out hb12) (OwnI.below (w:=x8.drew) O6.out hb12)));clear F12 hb12))
      obtain⟨s1,s2⟩:=qaV HF12.out.1.2.1 (.int .i64 v0) (.int .i64 v1) (.int .i64 v2) (.int .i64 v3) (.int .i64 v4) (.slice none 0 0) (.slice none 0 0) (.int .i64 (endP L)) (.int .i64 0)
      generalize (((((((((w12.setCell ⟨r,0,none⟩ (.int .i64 v0)).setCell ⟨r,1,none⟩ (.int .i64 v1)).setCell ⟨r,2,none⟩ (.int .i64 v2)).setCell ⟨r,3,none⟩ (.int .i64 v3)).setCell ⟨r,4,none⟩ (.int .i64 v4)).setCell ⟨r,5,none⟩ (.slice none 0 0)).setCell ⟨r,6,none⟩ (.slice none 0 0)).setCell ⟨r,7,none⟩ (.int .i64 (endP L))).setCell ⟨r,8,none⟩ (.int .i64 0))=W at s1 s2 ⊢
      have o5:=(HF12.out.2.1.grown s2 (by omega)).weaken (base':=r) (by omega)
      have o6:=(HF12.out.2.2.grown s2 (by omega)).weaken (base':=r) (by omega)
      have hB:=HF12.out.1.put s2
      go_wp2
      refine qaI (r:=r) ?_ s1 ?_
      ·rfl
      rw [HE.out]
      exact⟨⟨none,0,none,0,rfl,by rw [hr];exact o5,by rw [hr];exact o6⟩,by rw [hr];exact hB⟩
    |true=>
     obtain⟨e1,e2⟩:=hy' rfl
     have h7n:=hlt' rfl
     rw [HN.out] at h7n
     rw [e1,e2] at HR7
     clear hy' hno' hlt' e1 e2
     have HNM:=Lib.hid (fun W=>refNumbers_N d2 hvs' 255 W (by decide))
     have hnl:=nums_len255 d2 hvs'
     generalize numsP d2 255=v at HNM HR7 hnl
     obtain⟨raw,ok⟩:=v
     go_upto_region 30 with (go_at_call 54;refine HVu.out.mono ?_;rintro e x7 ⟨rfl,hb7⟩)
     have ha8:=(Below.refl x7.heap.size x7).alloc (Nat.le_refl _) (.cells #[.string d1,.string d2,.bool true] 114)
     have h88:=heap_alloc_new x7 (.cells #[.string d1,.string d2,.bool true] 114)
     have hb8:=hb7.trans (ha8.mono hb7.size)
     have F8:=FR.out.below hb8
     have ht8:=(hb8.block tb (lt_of_block HT.out)).trans HT.out
     have o8:=O5.out.below hb8
     generalize x7.alloc (.cells #[.string d1,.string d2,.bool true] 114)=x8 at h88 F8 ht8 o8 ⊢
     obtain⟨g0,g1,g2,_⟩:=qaB h88
     clear FR HT O5 hb7 ha8 hb8 h88 HVu
     have FR:=Lib.hid F8
     have HT:=Lib.hid ht8
     have O5:=Lib.hid o8
     clear F8 ht8 o8
     cases ok with
     |false=>
      have HE:Hid (R=.error (wrongP L 6)):=Lib.hid (by rw [HR7.out,if_neg (by simp)])
      go_upto_region 33 with (go_at_call 55;refine (HNM.out _).mono ?_;rintro e x9 ⟨⟨A7,c7,rfl,o7⟩,hb9⟩)
      have F9:=FR.out.below hb9
      clear FR
      have FR:=Lib.hid F9
      clear F9
      go_wp2_with (first|(go_at_call 28;refine (HWR.out (6) _ (by omega) (FR.out.2.2.1.more (by have:=FR.out.1.size;omega))).mono ?_;rintro e wz ⟨rfl,hbz⟩;have FZ:=FR.out.below hbz;obtain⟨q0,q1,q2,q3,q4,q5,q6,q7,q8,hqz⟩:=qaD FZ.2.1;have HFZ:=Lib.hid FZ;clear FZ hbz))
      obtain⟨s1,s2⟩:=qaV HFZ.out.2.1 (.int .i64 0) (.int .i64 0) (.int .i64 0) (.int .i64 0) (.int .i64 0) (.slice none 0 0) (.slice none 0 0) (.int .i64 (wrongP L (6))) (.int .i64 10)
      generalize (((((((((wz.setCell ⟨r,0,none⟩ (.int .i64 0)).setCell ⟨r,1,none⟩ (.int .i64 0)).setCell ⟨r,2,none⟩ (.int .i64 0)).setCell ⟨r,3,none⟩ (.int .i64 0)).setCell ⟨r,4,none⟩ (.int .i64 0)).setCell ⟨r,5,none⟩ (.slice none 0 0)).setCell ⟨r,6,none⟩ (.slice none 0 0)).setCell ⟨r,7,none⟩ (.int .i64 (wrongP L (6)))).setCell ⟨r,8,none⟩ (.int .i64 10))=W at s1 s2 ⊢
      refine qaI (r:=r) ?_ s1 ?_
      ·rfl
      exact⟨by rw [HE.out];rfl,by rw [hr];exact HFZ.out.put s2⟩
     |true=>
     have HR8:=Lib.hid (HR7.out.trans (if_pos rfl))
     clear HR7
     go_wp2_with (go_at_call 55;refine (HNM.out _).mono ?_;rintro e x9 ⟨⟨A7,c7,rfl,o7⟩,hb9⟩)
     have ht9:=(hb9.block tb (lt_of_block HT.out)).trans HT.out
     have F9:=FR.out.below hb9
     have o9:=O5.out.below hb9
     have htx8:=lt_of_block HT.out
     have hx89:=hb9.size
     obtain⟨hNR,hNB⟩:=o7.nrow
     have HNRR:=Lib.hid hNR
     have HNBB:=Lib.hid hNB
     have HT9:=Lib.hid ht9
     have F9':=Lib.hid F9
     have O9:=Lib.hid o9
     clear hNR hNB ht9 F9 o9 FR HT O5 HNM g0 g1 g2 o7
     obtain⟨i0,hi0,hz0,hz1,hz2⟩:=info_parts infoI
     obtain⟨mm,hmm⟩:∃ z,raw.length=z:=⟨_,rfl⟩
     have HMM:=Lib.hid hmm
     rw [hmm] at hnl ⊢
     clear hmm
     go_loopw [17] (fun v17 wr=>∃ (i:Nat) (u:Value),v17=.int .i64 i∧i≤mm∧Hid (wr.heap[tb]? = some (.cells #[.int .i64 v0,.int .i64 v1,.int .i64 v2,.int .i64 v3,.int .i64 v4,.slice none 0 0,u] 52 (0,0)))∧Hid (wr.ownsRow x9.heap.size 3 1 u i ((raw.take i).map (Value.int .i64)))∧Hid (x9.grownBy wr (some tb))) (fun v17 _=>mm - (RowKit.intOf v17).toNat)
     case atStart=>exact⟨0,.slice none 0 0,rfl,Nat.zero_le _,HT9,Lib.hid (by simpa using World.ownsRow_nil _ _ _ _),Lib.hid (World.grownBy.refl _ _)⟩
     case round=>
      obtain⟨i,u,rfl,hi,hT,hO,hG⟩:=hrel
      by_cases hin:i<mm
      ·have hil:i<raw.length:=by rw [HMM.out];exact hin
       obtain⟨gA,oA',rfl,hg9,hcA⟩:=HNRR.out (by rw [HMM.out];omega)
       have hgt:gA≠tb:=by have:=HNBB.out _ rfl;simp at this;omega
       have a0:=(World.cell?_of_block (hG.out.block gA hg9 (fun e=>by injection e with e;exact hgt e))).trans (hcA i hil)
       have htk:raw.take (i+1)=raw.take i++[raw[i]]:=by rw [List.take_add_one,List.getElem?_eq_getElem hil];rfl
       generalize raw[i]=x at a0 htk
       have HTK:=Lib.hid htk
       clear hcA htk
       have f6:=cell_of_row _ tb 6 _ _ _ hT.out
       have hlw:=lt_of_block hT.out
       have hsz:x9.heap.size≤wr.heap.size:=hG.out.size
       have HOB:=Lib.hid (fun k (e:u.ownBlock=some k)=>hO.out.lt k e)
       have hgw:gA<wr.heap.size:=by omega
       have hbt:tb<x9.heap.size:=by omega
       simp at f6
       have HOD:Hid (wr.drew.ownsRow x9.heap.size 3 1 u i ((raw.take i).map (Value.int .i64))):=Lib.hid hO.out
       have hS0:wr.drew.cell? ⟨gA,oA' + i,none⟩=some (.int .i64 x):=a0
       have hS1:(wr.drew.alloc (.cells #[.int .i64 x] 3)).cell? ⟨gA,oA' + i,none⟩=some (.int .i64 x):=(World.cell?_alloc_lt _ _ _ hgw).trans a0
       have htAL:(wr.drew.alloc (.cells #[.int .i64 x] 3)).heap[tb]? = some (.cells #[.int .i64 v0,.int .i64 v1,.int .i64 v2,.int .i64 v3,.int .i64 v4,.slice none 0 0,u] 52 (0,0)):=(((Below.refl wr.heap.size wr).drew.alloc (Nat.le_refl _) _).block tb hlw).trans hT.out
       have fAL:(wr.drew.alloc (.cells #[.int .i64 x] 3)).cell? ⟨tb,6,none⟩=some u:=(World.cell?_alloc_lt _ _ _ hlw).trans f6
       go_upto_region 37 with (fail)
       refine wp_region_held_drew (S:=fun W=>W.cell? ⟨gA,oA' + i,none⟩=some (.int .i64 x)) (by kernel_rfl) hS0 (fun _=>?_)
       (refine wpAnyH_take (i:=0) (v:=?_) rfl (by kernel_rfl) (by kernel_rfl) (by kernel_rfl) (fun _ _ _ h=>h) (Or.inl ⟨by rfl,fun W' hS=>?_⟩) hS0 ?_;rotate_left;· (go_simp;try with_reducible rfl))
       (refine wpAnyH_take (i:=2) (v:=?_) rfl (by kernel_rfl) (by kernel_rfl) (by kernel_rfl) (fun _ _ _ h=>h) (Or.inl ⟨by rfl,fun W' hS=>?_⟩) hS0 ?_;rotate_left;· (go_simp;try with_reducible rfl))
       (refine wpAnyH_take (i:=3) (v:=?_) rfl (by kernel_rfl) (by kernel_rfl) (by kernel_rfl) (fun _ _ _ h=>h) (Or.inl ⟨by rfl,fun W' hS=>?_⟩) hS0 ?_;rotate_left;· (go_simp;try with_reducible rfl))
       (refine wpAnyH_take (i:=4) (v:=?_) rfl (by kernel_rfl) (by kernel_rfl) (by kernel_rfl) (fun _ _ _ h=>h) (Or.inl ⟨by rfl,fun W' hS=>?_⟩) hS0 ?_;rotate_left;· (go_simp;try with_reducible rfl))
       (refine wpAnyH_take (i:=5) (v:=?_) rfl (by kernel_rfl) (by kernel_rfl) (by kernel_rfl) (fun _ _ _ h=>h) (Or.inl ⟨by rfl,fun W' hS=>?_⟩) hS0 ?_;rotate_left;· (go_simp;try with_reducible rfl))
       refine wpAnyH_ready (rs:=[1,6]) (by kernel_rfl) (by simp) ?_
       refine AllReadyH.cons rfl (fun K9 hK9=>?_) (AllReadyH.cons rfl (fun K9 hK9=>?_) AllReadyH.nil)
       ·go_simp
        refine hK9.out _ _ hS0 (fun _=>?_)
        clear hK9 K9
        refine wpAnyH_ready (rs:=[6]) (by kernel_rfl) (by simp) ?_
        refine AllReadyH.cons rfl (fun K9 hK9=>?_) AllReadyH.nil
        go_simp
        refine hK9.out _ _ hS1 (fun _=>?_)
        clear hK9 K9
        refine wpAnyH_ready (rs:=[7]) (by kernel_rfl) (by simp) ?_
        refine AllReadyH.cons rfl (fun K9 hK9=>?_) AllReadyH.nil
        refine step_append_lies _ (by rfl) (.tmp 124) (.tmp 129) 50 (by rfl) x9.heap.size 3 i0 _ 1 8 Tryd.underlying50 hi0 hz0 hz1 hz2 rfl (by decide) u i ((raw.take i).map (Value.int .i64)) (by rfl) ((HOD.out).alloc _) ⟨wr.heap.size,0,none⟩ 1 1 [.int .i64 x] (by rfl) rfl (cell_one_new wr.drew _ _) (by simp [Value.oneCell']) (by decide) (by unfold maxLen;omega) (by omega) (by simp;omega) _ rfl ?_
        intro g' cap' w3 hown' hgrow _ _
        have hS3:w3.cell? ⟨gA,oA' + i,none⟩=some (.int .i64 x):=(hgrow.cell_far ⟨gA,oA' + i,none⟩ (by simp;omega) (fun e=>by have:=HOB.out gA e.symm;omega)).trans hS1
        have ht3:=(hgrow.block tb (by simp;omega) (fun e=>by have:=HOB.out tb e.symm;omega)).trans htAL
        have y6:=cell_of_row w3 tb 6 _ _ _ ht3
        have yz:w3.frozen? ⟨tb,6,none⟩=false:=by simp [World.frozen?,ht3]
        simp at y6
        have HY:=Lib.hid (And.intro hown' (And.intro hgrow ht3))
        clear hown' hgrow ht3
        refine hK9.out _ _ hS3 (fun _=>?_)
        clear hK9 K9
        (refine wpAnyH_take (i:=8) (v:=?_) rfl (by kernel_rfl) (by kernel_rfl) (by kernel_rfl) (fun _ _ _ h=>h) (Or.inl ⟨by rfl,fun W' hS=>?_⟩) hS3 ?_;rotate_left;· (go_simp;try with_reducible rfl))
        refine wpAnyH_ready (rs:=[9]) (by kernel_rfl) (by simp) ?_
        refine AllReadyH.cons rfl (fun K9 hK9=>?_) AllReadyH.nil
        go_simp
        refine hK9.out _ _ ((World.cell?_of_block (Below.heap_setCell w3 ⟨tb,6,none⟩ _ gA hgt)).trans hS3) (fun _=>?_)
        clear hK9 K9
        refine wpAnyH_done (by kernel_rfl) ?_ _
        have hGA:=qam hG.out (qan ((Below.refl wr.heap.size wr).drew.alloc (Nat.le_refl _) (.cells #[.int .i64 x] 3)) (some tb))
        have hgx:=grown_put hGA HY.out.2.1 (fun k e=>(HOB.out k e).1) 6 (.slice (some ⟨g',0,none⟩) (i+1) cap')
        have hox:=ownsRow_far HY.out.1 hbt 6 (.slice (some ⟨g',0,none⟩) (i+1) cap')
        rw [show List.map (Value.int .i64) (raw.take i)++[Value.int .i64 x]=List.map (Value.int .i64) (raw.take (i+1)) by rw [HTK.out,List.map_append];rfl] at hox
        have htx:=blkPut HY.out.2.2 6 (.slice (some ⟨g',0,none⟩) (i+1) cap') rfl
        go_wp2
        go_roundw
        case rel=>exact⟨i+1,.slice (some ⟨g',0,none⟩) (i+1) cap',by simp,hin,Lib.hid htx,Lib.hid hox,Lib.hid hgx⟩
        case measure=>simp [RowKit.intOf]<;>omega
       ·go_simp
        refine hK9.out _ _ hS1 (fun _=>?_)
        clear hK9 K9
        refine wpAnyH_ready (rs:=[1]) (by kernel_rfl) (by simp) ?_
        refine AllReadyH.cons rfl (fun K9 hK9=>?_) AllReadyH.nil
        go_simp
        refine hK9.out _ _ hS1 (fun _=>?_)
        clear hK9 K9
        refine wpAnyH_ready (rs:=[7]) (by kernel_rfl) (by simp) ?_
        refine AllReadyH.cons rfl (fun K9 hK9=>?_) AllReadyH.nil
        refine step_append_lies _ (by rfl) (.tmp 124) (.tmp 129) 50 (by rfl) x9.heap.size 3 i0 _ 1 8 Tryd.underlying50 hi0 hz0 hz1 hz2 rfl (by decide) u i ((raw.take i).map (Value.int .i64)) (by rfl) ((HOD.out).alloc _) ⟨wr.heap.size,0,none⟩ 1 1 [.int .i64 x] (by rfl) rfl (cell_one_new wr.drew _ _) (by simp [Value.oneCell']) (by decide) (by unfold maxLen;omega) (by omega) (by simp;omega) _ rfl ?_
        intro g' cap' w3 hown' hgrow _ _
        have hS3:w3.cell? ⟨gA,oA' + i,none⟩=some (.int .i64 x):=(hgrow.cell_far ⟨gA,oA' + i,none⟩ (by simp;omega) (fun e=>by have:=HOB.out gA e.symm;omega)).trans hS1
        have ht3:=(hgrow.block tb (by simp;omega) (fun e=>by have:=HOB.out tb e.symm;omega)).trans htAL
        have y6:=cell_of_row w3 tb 6 _ _ _ ht3
        have yz:w3.frozen? ⟨tb,6,none⟩=false:=by simp [World.frozen?,ht3]
        simp at y6
        have HY:=Lib.hid (And.intro hown' (And.intro hgrow ht3))
        clear hown' hgrow ht3
        refine hK9.out _ _ hS3 (fun _=>?_)
        clear hK9 K9
        (refine wpAnyH_take (i:=8) (v:=?_) rfl (by kernel_rfl) (by kernel_rfl) (by kernel_rfl) (fun _ _ _ h=>h) (Or.inl ⟨by rfl,fun W' hS=>?_⟩) hS3 ?_;rotate_left;· (go_simp;try with_reducible rfl))
        refine wpAnyH_ready (rs:=[9]) (by kernel_rfl) (by simp) ?_
        refine AllReadyH.cons rfl (fun K9 hK9=>?_) AllReadyH.nil
        go_simp
        refine hK9.out _ _ ((World.cell?_of_block (Below.heap_setCell w3 ⟨tb,6,none⟩ _ gA hgt)).trans hS3) (fun _=>?_)
        clear hK9 K9
        refine wpAnyH_done (by kernel_rfl) ?_ _
        have hGA:=qam hG.out (qan ((Below.refl wr.heap.size wr).drew.alloc (Nat.le_refl _) (.cells #[.int .i64 x] 3)) (some tb))
        have hgx:=grown_put hGA HY.out.2.1 (fun k e=>(HOB.out k e).1) 6 (.slice (some ⟨g',0,none⟩) (i+1) cap')
        have hox:=ownsRow_far HY.out.1 hbt 6 (.slice (some ⟨g',0,none⟩) (i+1) cap')
        rw [show List.map (Value.int .i64) (raw.take i)++[Value.int .i64 x]=List.map (Value.int .i64) (raw.take (i+1)) by rw [HTK.out,List.map_append];rfl] at hox
        have htx:=blkPut HY.out.2.2 6 (.slice (some ⟨g',0,none⟩) (i+1) cap') rfl
        go_wp2
        go_roundw
        case rel=>exact⟨i+1,.slice (some ⟨g',0,none⟩) (i+1) cap',by simp,hin,Lib.hid htx,Lib.hid hox,Lib.hid hgx⟩
        case measure=>simp [RowKit.intOf]<;>omega
      ·obtain rfl:i=mm:=by omega
       have hOu:wr.ownsRow x9.heap.size 3 1 u raw.length (raw.map (Value.int .i64)):=by
        have:=hO.out
        rw [List.take_of_length_le (by rw [HMM.out];exact Nat.le_refl _)] at this
        rw [HMM.out]
        exact this
       obtain⟨Au,cu,rfl,hnu⟩:=OwnI.of hOu
       have FR:=Lib.hid (F9'.out.far hG.out hrt)
       have HT:=Lib.hid hT.out
       have O5:=Lib.hid (O9.out.grown hG.out (Nat.lt_succ_self _))
       have O6:=Lib.hid (hnu.weaken (base':=tb+1) (by omega))
       clear hT hO hG hOu hnu HNRR HNBB F9' O9 HT9
       by_cases hkn:6+1<n
       ·have HE:Hid (R=.error (wrongP L (6+1))):=Lib.hid (by rw [HR8.out,if_neg (by rw [HN.out];omega)])
        have hkz:((6+1:Nat):Int)<(n:Int):=by omega
        simp at hkz
        go_wp2_with (first|(go_at_call 28;refine (HWR.out (6+1) _ (by omega) (FR.out.2.2.1.more (by have:=FR.out.1.size;omega))).mono ?_;rintro e wz ⟨rfl,hbz⟩;have FZ:=FR.out.below hbz;obtain⟨q0,q1,q2,q3,q4,q5,q6,q7,q8,hqz⟩:=qaD FZ.2.1;have HFZ:=Lib.hid FZ;clear FZ hbz))
        obtain⟨s1,s2⟩:=qaV HFZ.out.2.1 (.int .i64 0) (.int .i64 0) (.int .i64 0) (.int .i64 0) (.int .i64 0) (.slice none 0 0) (.slice none 0 0) (.int .i64 (wrongP L (6+1))) (.int .i64 10)
        generalize (((((((((wz.setCell ⟨r,0,none⟩ (.int .i64 0)).setCell ⟨r,1,none⟩ (.int .i64 0)).setCell ⟨r,2,none⟩ (.int .i64 0)).setCell ⟨r,3,none⟩ (.int .i64 0)).setCell ⟨r,4,none⟩ (.int .i64 0)).setCell ⟨r,5,none⟩ (.slice none 0 0)).setCell ⟨r,6,none⟩ (.slice none 0 0)).setCell ⟨r,7,none⟩ (.int .i64 (wrongP L (6+1)))).setCell ⟨r,8,none⟩ (.int .i64 10))=W at s1 s2 ⊢
        refine qaI (r:=r) ?_ s1 ?_
        ·rfl
        exact⟨by rw [HE.out];rfl,by rw [hr];exact HFZ.out.put s2⟩
       ·have HE:Hid (R=.ok ⟨v0,v1,v2,v3,v4,[],raw⟩):=Lib.hid (by rw [HR8.out,if_pos (by rw [HN.out];omega)])
        have hkz:¬ ((6+1:Nat):Int)<(n:Int):=by omega
        simp at hkz
        have t0:=cell_of_row _ tb 0 _ _ _ HT.out
        have t1:=cell_of_row _ tb 1 _ _ _ HT.out
        have t2:=cell_of_row _ tb 2 _ _ _ HT.out
        have t3:=cell_of_row _ tb 3 _ _ _ HT.out
        have t4:=cell_of_row _ tb 4 _ _ _ HT.out
        have t5:=cell_of_row _ tb 5 _ _ _ HT.out
        have t6:=cell_of_row _ tb 6 _ _ _ HT.out
        have hlt12:=lt_of_block HT.out
        have hrl12:r<wr.heap.size:=FR.out.2.2.2
        have nrt:¬ r=tb:=by omega
        have nrt':¬ tb=r:=by omega
        simp at t0 t1 t2 t3 t4 t5 t6
        go_upto_region 41 with (fail)
        go_region_held (fun W=>W.cell? ⟨tb,0,none⟩=some (.int .i64 v0)∧W.cell? ⟨tb,1,none⟩=some (.int .i64 v1)∧W.cell? ⟨tb,2,none⟩=some (.int .i64 v2)∧W.cell? ⟨tb,3,none⟩=some (.int .i64 v3)∧W.cell? ⟨tb,4,none⟩=some (.int .i64 v4)∧W.cell? ⟨tb,5,none⟩=some (.slice none 0 0)∧W.cell? ⟨tb,6,none⟩=some (.slice Au raw.length cu)) (go_keep) (first|(go_at_call 52;refine (HEN.out _ (FR.out.drew.2.2.1.more (Nat.le_of_lt hrl12))).mono ?_;rintro e w12 ⟨rfl,hb12⟩;have u0:=(hb12.cell (p:=⟨tb,0,none⟩) hlt12).trans t0;have u1:=(hb12.cell (p:=⟨tb,1,none⟩) hlt12).trans t1;have u2:=(hb12.cell (p:=⟨tb,2,none⟩) hlt12).trans t2;have u3:=(hb12.cell (p:=⟨tb,3,none⟩) hlt12).trans t3;have u4:=(hb12.cell (p:=⟨tb,4,none⟩) hlt12).trans t4;have u5:=(hb12.cell (p:=⟨tb,5,none⟩) hlt12).trans t5;have u6:=(hb12.cell (p:=⟨tb,6,none⟩) hlt12).trans t6;have F12:=FR.out.drew.below hb12;obtain⟨q0,q1,q2,q3,q4,q5,q6,q7,q8,hqz⟩:=qaD F12.2.1;have HF12:=Lib.hid (And.intro F12 (And.intro (OwnI.below (w:=wr.drew) O5.out hb12) (OwnI.below (w:=wr.drew) O6.out hb12)));clear F12 hb12))
        obtain⟨s1,s2⟩:=qaV HF12.out.1.2.1 (.int .i64 v0) (.int .i64 v1) (.int .i64 v2) (.int .i64 v3) (.int .i64 v4) (.slice none 0 0) (.slice Au raw.length cu) (.int .i64 (endP L)) (.int .i64 0)
        generalize (((((((((w12.setCell ⟨r,0,none⟩ (.int .i64 v0)).setCell ⟨r,1,none⟩ (.int .i64 v1)).setCell ⟨r,2,none⟩ (.int .i64 v2)).setCell ⟨r,3,none⟩ (.int .i64 v3)).setCell ⟨r,4,none⟩ (.int .i64 v4)).setCell ⟨r,5,none⟩ (.slice none 0 0)).setCell ⟨r,6,none⟩ (.slice Au raw.length cu)).setCell ⟨r,7,none⟩ (.int .i64 (endP L))).setCell ⟨r,8,none⟩ (.int .i64 0))=W at s1 s2 ⊢
        have o5:=(HF12.out.2.1.grown s2 (by omega)).weaken (base':=r) (by omega)
        have o6:=(HF12.out.2.2.grown s2 (by omega)).weaken (base':=r) (by omega)
        have hB:=HF12.out.1.put s2
        go_wp2
        refine qaI (r:=r) ?_ s1 ?_
        ·rfl
        rw [HE.out]
        exact⟨⟨none,0,Au,cu,rfl,by rw [hr];exact o5,by rw [hr];exact o6⟩,by rw [hr];exact hB⟩
   |true=>
    obtain⟨e1,e2⟩:=hy rfl
    have h6n:=hlt rfl
    rw [HN.out] at h6n
    rw [e1,e2] at HR6
    clear hy hno hlt e1 e2
    have HNM:=Lib.hid (fun W=>refNumbers_N c2 hvs 1073741824 W (by decide))
    generalize numsP c2 1073741824=v at HNM HR6
    obtain⟨xch,ok⟩:=v
    go_upto_region 23 with (go_at_call 54;refine HV.out.mono ?_;rintro e w7 ⟨rfl,hb7⟩)
    have ha8:=(Below.refl w7.heap.size w7).alloc (Nat.le_refl _) (.cells #[.string c1,.string c2,.bool true] 114)
    have h88:=heap_alloc_new w7 (.cells #[.string c1,.string c2,.bool true] 114)
    have hb8:=hb7.trans (ha8.mono hb7.size)
    have F8:=FR.out.below hb8
    have ht8:=(hb8.block tb (lt_of_block HT.out)).trans HT.out
    generalize w7.alloc (.cells #[.string c1,.string c2,.bool true] 114)=w8 at h88 F8 ht8 ⊢
    obtain⟨f0,f1,f2,_⟩:=qaB h88
    clear FR HT hb7 ha8 hb8 h88 HV
    have FR:=Lib.hid F8
    have HT:=Lib.hid ht8
    clear F8 ht8
    cases ok with
    |false=>
     have HE:Hid (R=.error (wrongP L 6)):=Lib.hid (by rw [HR6.out,if_neg (by simp)])
     go_upto_region 26 with (go_at_call 55;refine (HNM.out _).mono ?_;rintro e w9 ⟨⟨A5,c5,rfl,o5⟩,hb9⟩)
     have F9:=FR.out.below hb9
     clear FR
     have FR:=Lib.hid F9
     clear F9
     go_wp2_with (first|(go_at_call 28;refine (HWR.out (6) _ (by omega) (FR.out.2.2.1.more (by have:=FR.out.1.size;omega))).mono ?_;rintro e wz ⟨rfl,hbz⟩;have FZ:=FR.out.below hbz;obtain⟨q0,q1,q2,q3,q4,q5,q6,q7,q8,hqz⟩:=qaD FZ.2.1;have HFZ:=Lib.hid FZ;clear FZ hbz))
     obtain⟨s1,s2⟩:=qaV HFZ.out.2.1 (.int .i64 0) (.int .i64 0) (.int .i64 0) (.int .i64 0) (.int .i64 0) (.slice none 0 0) (.slice none 0 0) (.int .i64 (wrongP L (6))) (.int .i64 10)
     generalize (((((((((wz.setCell ⟨r,0,none⟩ (.int .i64 0)).setCell ⟨r,1,none⟩ (.int .i64 0)).setCell ⟨r,2,none⟩ (.int .i64 0)).setCell ⟨r,3,none⟩ (.int .i64 0)).setCell ⟨r,4,none⟩ (.int .i64 0)).setCell ⟨r,5,none⟩ (.slice none 0 0)).setCell ⟨r,6,none⟩ (.slice none 0 0)).setCell ⟨r,7,none⟩ (.int .i64 (wrongP L (6)))).setCell ⟨r,8,none⟩ (.int .i64 10))=W at s1 s2 ⊢
     refine qaI (r:=r) ?_ s1 ?_
     ·rfl
     exact⟨by rw [HE.out];rfl,by rw [hr];exact HFZ.out.put s2⟩
    |true=>
    have HR7:=Lib.hid (HR6.out.trans (if_pos rfl))
    go_upto_region 27 with (go_at_call 55;refine (HNM.out _).mono ?_;rintro e w9 ⟨⟨A5,c5,rfl,o5⟩,hb9⟩)
    have ht9:=(hb9.block tb (lt_of_block HT.out)).trans HT.out
    have F9:=FR.out.below hb9
    have hlt8:=lt_of_block HT.out
    have t5:=cell_of_row w9 tb 5 _ _ _ ht9
    have hz5:w9.frozen? ⟨tb,5,none⟩=false:=by simp [World.frozen?,ht9]
    have HX:=Lib.hid (And.intro ht9 (And.intro F9 o5))
    clear ht9 F9 o5 FR HT hb9 HR6
    simp at t5
    go_upto_region 29 with (fail)
    have F10:=HX.out.2.1.far (qas w9 tb 5 (.slice A5 xch.length c5)) hrt
    have ht10:=blkPut HX.out.1 5 (.slice A5 xch.length c5) (cs':=#[.int .i64 v0,.int .i64 v1,.int .i64 v2,.int .i64 v3,.int .i64 v4,.slice A5 xch.length c5,.slice none 0 0]) (by simp)
    have o10:=(HX.out.2.2.far hlt8 5 (.slice A5 xch.length c5)).weaken (base':=tb+1) (Nat.succ_le_of_lt hlt8)
    generalize w9.setCell ⟨tb,5,none⟩ (.slice A5 xch.length c5)=w10 at F10 ht10 o10 ⊢
    clear HX t5 hz5
    have FR:=Lib.hid F10
    have HT:=Lib.hid ht10
    have O5:=Lib.hid o10
    clear F10 ht10 o10
    have HVu:=Lib.hid (HVA.out 7 ⟨#[117,115,101]⟩ w10 (by omega) (FR.out.2.2.1.more (Nat.le_of_lt FR.out.2.2.2)))
    have hvs':=valueV_size (name:=⟨#[117,115,101]⟩) (qa3 HLL.out.2 7)
    have hy':=fun h=>rowP_yes (x:=nextP L 7) (name:=⟨#[117,115,101]⟩) (most:=255) h 7
    have hno':=fun h=>rowP_no (x:=nextP L 7) (name:=⟨#[117,115,101]⟩) (most:=255) h 7
    have hlt':=fun h=>valueV_lt (L:=L) (k:=7) (name:=⟨#[117,115,101]⟩) h
    generalize valueV (nextP L 7) ⟨#[117,115,101]⟩=V' at HVu hvs' hy' hno' hlt'
    obtain⟨d1,d2,d3⟩:=V'
    simp only at hy' hno' hlt' hvs'
    cases d3 with
    |false=>
     obtain⟨e1,e2⟩:=hno' rfl
     rw [e1,e2] at HR7
     have HR8:=Lib.hid (HR7.out.trans (if_pos (by trivial)))
     clear hy' hno' hlt' e1 e2 hvs' HR7
     go_upto_region 30 with (go_at_call 54;refine HVu.out.mono ?_;rintro e x7 ⟨rfl,hb7⟩)
     have ha8:=(Below.refl x7.heap.size x7).alloc (Nat.le_refl _) (.cells #[.string d1,.string d2,.bool false] 114)
     have h88:=heap_alloc_new x7 (.cells #[.string d1,.string d2,.bool false] 114)
     have hb8:=hb7.trans (ha8.mono hb7.size)
     have F8:=FR.out.below hb8
     have ht8:=(hb8.block tb (lt_of_block HT.out)).trans HT.out
     have o8:=O5.out.below hb8
     generalize x7.alloc (.cells #[.string d1,.string d2,.bool false] 114)=x8 at h88 F8 ht8 o8 ⊢
     obtain⟨g0,g1,g2,_⟩:=qaB h88
     clear FR HT O5 hb7 ha8 hb8 h88 HVu
     have FR:=Lib.hid F8
     have HT:=Lib.hid ht8
     have O5:=Lib.hid o8
     clear F8 ht8 o8
     have O6:Hid (OwnI x8 (tb+1) 3 none 0 []):=Lib.hid (OwnI.nil _ _ _)
     by_cases hkn:7<n
     ·have HE:Hid (R=.error (wrongP L (7))):=Lib.hid (by rw [HR8.out,if_neg (by rw [HN.out];omega)])
      have hkz:((7:Nat):Int)<(n:Int):=by omega
      simp at hkz
      go_wp2_with (first|(go_at_call 28;refine (HWR.out (7) _ (by omega) (FR.out.2.2.1.more (by have:=FR.out.1.size;omega))).mono ?_;rintro e wz ⟨rfl,hbz⟩;have FZ:=FR.out.below hbz;obtain⟨q0,q1,q2,q3,q4,q5,q6,q7,q8,hqz⟩:=qaD FZ.2.1;have HFZ:=Lib.hid FZ;clear FZ hbz))
      obtain⟨s1,s2⟩:=qaV HFZ.out.2.1 (.int .i64 0) (.int .i64 0) (.int .i64 0) (.int .i64 0) (.int .i64 0) (.slice none 0 0) (.slice none 0 0) (.int .i64 (wrongP L (7))) (.int .i64 10)
      generalize (((((((((wz.setCell ⟨r,0,none⟩ (.int .i64 0)).setCell ⟨r,1,none⟩ (.int .i64 0)).setCell ⟨r,2,none⟩ (.int .i64 0)).setCell ⟨r,3,none⟩ (.int .i64 0)).setCell ⟨r,4,none⟩ (.int .i64 0)).setCell ⟨r,5,none⟩ (.slice none 0 0)).setCell ⟨r,6,none⟩ (.slice none 0 0)).setCell ⟨r,7,none⟩ (.int .i64 (wrongP L (7)))).setCell ⟨r,8,none⟩ (.int .i64 10))=W at s1 s2 ⊢
      refine qaI (r:=r) ?_ s1 ?_
      ·rfl
      exact⟨by rw [HE.out];rfl,by rw [hr];exact HFZ.out.put s2⟩
     ·have HE:Hid (R=.ok ⟨v0,v1,v2,v3,v4,xch,[]⟩):=Lib.hid (by rw [HR8.out,if_pos (by rw [HN.out];omega)])
      have hkz:¬ ((7:Nat):Int)<(n:Int):=by omega
      simp at hkz
      have t0:=cell_of_row _ tb 0 _ _ _ HT.out
      have t1:=cell_of_row _ tb 1 _ _ _ HT.out
      have t2:=cell_of_row _ tb 2 _ _ _ HT.out
      have t3:=cell_of_row _ tb 3 _ _ _ HT.out
      have t4:=cell_of_row _ tb 4 _ _ _ HT.out
      have t5:=cell_of_row _ tb 5 _ _ _ HT.out
      have t6:=cell_of_row _ tb 6 _ _ _ HT.out
      have hlt12:=lt_of_block HT.out
      have hrl12:r<x8.heap.size:=FR.out.2.2.2
      have nrt:¬ r=tb:=by omega
      have nrt':¬ tb=r:=by omega
      simp at t0 t1 t2 t3 t4 t5 t6
      go_upto_region 41 with (fail)
      go_region_held (fun W=>W.cell? ⟨tb,0,none⟩=some (.int .i64 v0)∧W.cell? ⟨tb,1,none⟩=some (.int .i64 v1)∧W.cell? ⟨tb,2,none⟩=some (.int .i64 v2)∧W.cell? ⟨tb,3,none⟩=some (.int .i64 v3)∧W.cell? ⟨tb,4,none⟩=some (.int .i64 v4)∧W.cell? ⟨tb,5,none⟩=some (.slice A5 xch.length c5)∧W.cell? ⟨tb,6,none⟩=some (.slice none 0 0)) (go_keep) (first|(go_at_call 52;refine (HEN.out _ (FR.out.drew.2.2.1.more (Nat.le_of_lt hrl12))).mono ?_;rintro e w12 ⟨rfl,hb12⟩;have u0:=(hb12.cell (p:=⟨tb,0,none⟩) hlt12).trans t0;have u1:=(hb12.cell (p:=⟨tb,1,none⟩) hlt12).trans t1;have u2:=(hb12.cell (p:=⟨tb,2,none⟩) hlt12).trans t2;have u3:=(hb12.cell (p:=⟨tb,3,none⟩) hlt12).trans t3;have u4:=(hb12.cell (p:=⟨tb,4,none⟩) hlt12).trans t4;have u5:=(hb12.cell (p:=⟨tb,5,none⟩) hlt12).trans t5;have u6:=(hb12.cell (p:=⟨tb,6,none⟩) hlt12).trans t6;have F12:=FR.out.drew.below hb12;obtain⟨q0,q1,q2,q3,q4,q5,q6,q7,q8,hqz⟩:=qaD F12.2.1;have HF12:=Lib.hid (And.intro F12 (And.intro (OwnI.below (w:=x8.drew) O5.out hb12) (OwnI.below (w:=x8.drew) O6.out hb12)));clear F12 hb12))
      obtain⟨s1,s2⟩:=qaV HF12.out.1.2.1 (.int .i64 v0) (.int .i64 v1) (.int .i64 v2) (.int .i64 v3) (.int .i64 v4) (.slice A5 xch.length c5) (.slice none 0 0) (.int .i64 (endP L)) (.int .i64 0)
      generalize (((((((((w12.setCell ⟨r,0,none⟩ (.int .i64 v0)).setCell ⟨r,1,none⟩ (.int .i64 v1)).setCell ⟨r,2,none⟩ (.int .i64 v2)).setCell ⟨r,3,none⟩ (.int .i64 v3)).setCell ⟨r,4,none⟩ (.int .i64 v4)).setCell ⟨r,5,none⟩ (.slice A5 xch.length c5)).setCell ⟨r,6,none⟩ (.slice none 0 0)).setCell ⟨r,7,none⟩ (.int .i64 (endP L))).setCell ⟨r,8,none⟩ (.int .i64 0))=W at s1 s2 ⊢
      have o5:=(HF12.out.2.1.grown s2 (by omega)).weaken (base':=r) (by omega)
      have o6:=(HF12.out.2.2.grown s2 (by omega)).weaken (base':=r) (by omega)
      have hB:=HF12.out.1.put s2
      go_wp2
      refine qaI (r:=r) ?_ s1 ?_
      ·rfl
      rw [HE.out]
      exact⟨⟨A5,c5,none,0,rfl,by rw [hr];exact o5,by rw [hr];exact o6⟩,by rw [hr];exact hB⟩
    |true=>
     obtain⟨e1,e2⟩:=hy' rfl
     have h7n:=hlt' rfl
     rw [HN.out] at h7n
     rw [e1,e2] at HR7
     clear hy' hno' hlt' e1 e2
     have HNM:=Lib.hid (fun W=>refNumbers_N d2 hvs' 255 W (by decide))
     have hnl:=nums_len255 d2 hvs'
     generalize numsP d2 255=v at HNM HR7 hnl
     obtain⟨raw,ok⟩:=v
     go_upto_region 30 with (go_at_call 54;refine HVu.out.mono ?_;rintro e x7 ⟨rfl,hb7⟩)
     have ha8:=(Below.refl x7.heap.size x7).alloc (Nat.le_refl _) (.cells #[.string d1,.string d2,.bool true] 114)
     have h88:=heap_alloc_new x7 (.cells #[.string d1,.string d2,.bool true] 114)
     have hb8:=hb7.trans (ha8.mono hb7.size)
     have F8:=FR.out.below hb8
     have ht8:=(hb8.block tb (lt_of_block HT.out)).trans HT.out
     have o8:=O5.out.below hb8
     generalize x7.alloc (.cells #[.string d1,.string d2,.bool true] 114)=x8 at h88 F8 ht8 o8 ⊢
     obtain⟨g0,g1,g2,_⟩:=qaB h88
     clear FR HT O5 hb7 ha8 hb8 h88 HVu
     have FR:=Lib.hid F8
     have HT:=Lib.hid ht8
     have O5:=Lib.hid o8
     clear F8 ht8 o8
     cases ok with
     |false=>
      have HE:Hid (R=.error (wrongP L 7)):=Lib.hid (by rw [HR7.out,if_neg (by simp)])
      go_upto_region 33 with (go_at_call 55;refine (HNM.out _).mono ?_;rintro e x9 ⟨⟨A7,c7,rfl,o7⟩,hb9⟩)
      have F9:=FR.out.below hb9
      clear FR
      have FR:=Lib.hid F9
      clear F9
      go_wp2_with (first|(go_at_call 28;refine (HWR.out (7) _ (by omega) (FR.out.2.2.1.more (by have:=FR.out.1.size;omega))).mono ?_;rintro e wz ⟨rfl,hbz⟩;have FZ:=FR.out.below hbz;obtain⟨q0,q1,q2,q3,q4,q5,q6,q7,q8,hqz⟩:=qaD FZ.2.1;have HFZ:=Lib.hid FZ;clear FZ hbz))
      obtain⟨s1,s2⟩:=qaV HFZ.out.2.1 (.int .i64 0) (.int .i64 0) (.int .i64 0) (.int .i64 0) (.int .i64 0) (.slice none 0 0) (.slice none 0 0) (.int .i64 (wrongP L (7))) (.int .i64 10)
      generalize (((((((((wz.setCell ⟨r,0,none⟩ (.int .i64 0)).setCell ⟨r,1,none⟩ (.int .i64 0)).setCell ⟨r,2,none⟩ (.int .i64 0)).setCell ⟨r,3,none⟩ (.int .i64 0)).setCell ⟨r,4,none⟩ (.int .i64 0)).setCell ⟨r,5,none⟩ (.slice none 0 0)).setCell ⟨r,6,none⟩ (.slice none 0 0)).setCell ⟨r,7,none⟩ (.int .i64 (wrongP L (7)))).setCell ⟨r,8,none⟩ (.int .i64 10))=W at s1 s2 ⊢
      refine qaI (r:=r) ?_ s1 ?_
      ·rfl
      exact⟨by rw [HE.out];rfl,by rw [hr];exact HFZ.out.put s2⟩
     |true=>
     have HR8:=Lib.hid (HR7.out.trans (if_pos rfl))
     clear HR7
     go_wp2_with (go_at_call 55;refine (HNM.out _).mono ?_;rintro e x9 ⟨⟨A7,c7,rfl,o7⟩,hb9⟩)
     have ht9:=(hb9.block tb (lt_of_block HT.out)).trans HT.out
     have F9:=FR.out.below hb9
     have o9:=O5.out.below hb9
     have htx8:=lt_of_block HT.out
     have hx89:=hb9.size
     obtain⟨hNR,hNB⟩:=o7.nrow
     have HNRR:=Lib.hid hNR
     have HNBB:=Lib.hid hNB
     have HT9:=Lib.hid ht9
     have F9':=Lib.hid F9
     have O9:=Lib.hid o9
     clear hNR hNB ht9 F9 o9 FR HT O5 HNM g0 g1 g2 o7
     obtain⟨i0,hi0,hz0,hz1,hz2⟩:=info_parts infoI
     obtain⟨mm,hmm⟩:∃ z,raw.length=z:=⟨_,rfl⟩
     have HMM:=Lib.hid hmm
     rw [hmm] at hnl ⊢
     clear hmm
     go_loopw [17] (fun v17 wr=>∃ (i:Nat) (u:Value),v17=.int .i64 i∧i≤mm∧Hid (wr.heap[tb]? = some (.cells #[.int .i64 v0,.int .i64 v1,.int .i64 v2,.int .i64 v3,.int .i64 v4,.slice A5 xch.length c5,u] 52 (0,0)))∧Hid (wr.ownsRow x9.heap.size 3 1 u i ((raw.take i).map (Value.int .i64)))∧Hid (x9.grownBy wr (some tb))) (fun v17 _=>mm - (RowKit.intOf v17).toNat)
     case atStart=>exact⟨0,.slice none 0 0,rfl,Nat.zero_le _,HT9,Lib.hid (by simpa using World.ownsRow_nil _ _ _ _),Lib.hid (World.grownBy.refl _ _)⟩
     case round=>
      obtain⟨i,u,rfl,hi,hT,hO,hG⟩:=hrel
      by_cases hin:i<mm
      ·have hil:i<raw.length:=by rw [HMM.out];exact hin
       obtain⟨gA,oA',rfl,hg9,hcA⟩:=HNRR.out (by rw [HMM.out];omega)
       have hgt:gA≠tb:=by have:=HNBB.out _ rfl;simp at this;omega
       have a0:=(World.cell?_of_block (hG.out.block gA hg9 (fun e=>by injection e with e;exact hgt e))).trans (hcA i hil)
       have htk:raw.take (i+1)=raw.take i++[raw[i]]:=by rw [List.take_add_one,List.getElem?_eq_getElem hil];rfl
       generalize raw[i]=x at a0 htk
       have HTK:=Lib.hid htk
       clear hcA htk
       have f6:=cell_of_row _ tb 6 _ _ _ hT.out
       have hlw:=lt_of_block hT.out
       have hsz:x9.heap.size≤wr.heap.size:=hG.out.size
       have HOB:=Lib.hid (fun k (e:u.ownBlock=some k)=>hO.out.lt k e)
       have hgw:gA<wr.heap.size:=by omega
       have hbt:tb<x9.heap.size:=by omega
       simp at f6
       have HOD:Hid (wr.drew.ownsRow x9.heap.size 3 1 u i ((raw.take i).map (Value.int .i64))):=Lib.hid hO.out
       have hS0:wr.drew.cell? ⟨gA,oA' + i,none⟩=some (.int .i64 x):=a0
       have hS1:(wr.drew.alloc (.cells #[.int .i64 x] 3)).cell? ⟨gA,oA' + i,none⟩=some (.int .i64 x):=(World.cell?_alloc_lt _ _ _ hgw).trans a0
       have htAL:(wr.drew.alloc (.cells #[.int .i64 x] 3)).heap[tb]? = some (.cells #[.int .i64 v0,.int .i64 v1,.int .i64 v2,.int .i64 v3,.int .i64 v4,.slice A5 xch.length c5,u] 52 (0,0)):=(((Below.refl wr.heap.size wr).drew.alloc (Nat.le_refl _) _).block tb hlw).trans hT.out
       have fAL:(wr.drew.alloc (.cells #[.int .i64 x] 3)).cell? ⟨tb,6,none⟩=some u:=(World.cell?_alloc_lt _ _ _ hlw).trans f6
       go_upto_region 37 with (fail)
       refine wp_region_held_drew (S:=fun W=>W.cell? ⟨gA,oA' + i,none⟩=some (.int .i64 x)) (by kernel_rfl) hS0 (fun _=>?_)
       (refine wpAnyH_take (i:=0) (v:=?_) rfl (by kernel_rfl) (by kernel_rfl) (by kernel_rfl) (fun _ _ _ h=>h) (Or.inl ⟨by rfl,fun W' hS=>?_⟩) hS0 ?_;rotate_left;· (go_simp;try with_reducible rfl))
       (refine wpAnyH_take (i:=2) (v:=?_) rfl (by kernel_rfl) (by kernel_rfl) (by kernel_rfl) (fun _ _ _ h=>h) (Or.inl ⟨by rfl,fun W' hS=>?_⟩) hS0 ?_;rotate_left;· (go_simp;try with_reducible rfl))
       (refine wpAnyH_take (i:=3) (v:=?_) rfl (by kernel_rfl) (by kernel_rfl) (by kernel_rfl) (fun _ _ _ h=>h) (Or.inl ⟨by rfl,fun W' hS=>?_⟩) hS0 ?_;rotate_left;· (go_simp;try with_reducible rfl))
       (refine wpAnyH_take (i:=4) (v:=?_) rfl (by kernel_rfl) (by kernel_rfl) (by kernel_rfl) (fun _ _ _ h=>h) (Or.inl ⟨by rfl,fun W' hS=>?_⟩) hS0 ?_;rotate_left;· (go_simp;try with_reducible rfl))
       (refine wpAnyH_take (i:=5) (v:=?_) rfl (by kernel_rfl) (by kernel_rfl) (by kernel_rfl) (fun _ _ _ h=>h) (Or.inl ⟨by rfl,fun W' hS=>?_⟩) hS0 ?_;rotate_left;· (go_simp;try with_reducible rfl))
       refine wpAnyH_ready (rs:=[1,6]) (by kernel_rfl) (by simp) ?_
       refine AllReadyH.cons rfl (fun K9 hK9=>?_) (AllReadyH.cons rfl (fun K9 hK9=>?_) AllReadyH.nil)
       ·go_simp
        refine hK9.out _ _ hS0 (fun _=>?_)
        clear hK9 K9
        refine wpAnyH_ready (rs:=[6]) (by kernel_rfl) (by simp) ?_
        refine AllReadyH.cons rfl (fun K9 hK9=>?_) AllReadyH.nil
        go_simp
        refine hK9.out _ _ hS1 (fun _=>?_)
        clear hK9 K9
        refine wpAnyH_ready (rs:=[7]) (by kernel_rfl) (by simp) ?_
        refine AllReadyH.cons rfl (fun K9 hK9=>?_) AllReadyH.nil
        refine step_append_lies _ (by rfl) (.tmp 124) (.tmp 129) 50 (by rfl) x9.heap.size 3 i0 _ 1 8 Tryd.underlying50 hi0 hz0 hz1 hz2 rfl (by decide) u i ((raw.take i).map (Value.int .i64)) (by rfl) ((HOD.out).alloc _) ⟨wr.heap.size,0,none⟩ 1 1 [.int .i64 x] (by rfl) rfl (cell_one_new wr.drew _ _) (by simp [Value.oneCell']) (by decide) (by unfold maxLen;omega) (by omega) (by simp;omega) _ rfl ?_
        intro g' cap' w3 hown' hgrow _ _
        have hS3:w3.cell? ⟨gA,oA' + i,none⟩=some (.int .i64 x):=(hgrow.cell_far ⟨gA,oA' + i,none⟩ (by simp;omega) (fun e=>by have:=HOB.out gA e.symm;omega)).trans hS1
        have ht3:=(hgrow.block tb (by simp;omega) (fun e=>by have:=HOB.out tb e.symm;omega)).trans htAL
        have y6:=cell_of_row w3 tb 6 _ _ _ ht3
        have yz:w3.frozen? ⟨tb,6,none⟩=false:=by simp [World.frozen?,ht3]
        simp at y6
        have HY:=Lib.hid (And.intro hown' (And.intro hgrow ht3))
        clear hown' hgrow ht3
        refine hK9.out _ _ hS3 (fun _=>?_)
        clear hK9 K9
        (refine wpAnyH_take (i:=8) (v:=?_) rfl (by kernel_rfl) (by kernel_rfl) (by kernel_rfl) (fun _ _ _ h=>h) (Or.inl ⟨by rfl,fun W' hS=>?_⟩) hS3 ?_;rotate_left;· (go_simp;try with_reducible rfl))
        refine wpAnyH_ready (rs:=[9]) (by kernel_rfl) (by simp) ?_
        refine AllReadyH.cons rfl (fun K9 hK9=>?_) AllReadyH.nil
        go_simp
        refine hK9.out _ _ ((World.cell?_of_block (Below.heap_setCell w3 ⟨tb,6,none⟩ _ gA hgt)).trans hS3) (fun _=>?_)
        clear hK9 K9
        refine wpAnyH_done (by kernel_rfl) ?_ _
        have hGA:=qam hG.out (qan ((Below.refl wr.heap.size wr).drew.alloc (Nat.le_refl _) (.cells #[.int .i64 x] 3)) (some tb))
        have hgx:=grown_put hGA HY.out.2.1 (fun k e=>(HOB.out k e).1) 6 (.slice (some ⟨g',0,none⟩) (i+1) cap')
        have hox:=ownsRow_far HY.out.1 hbt 6 (.slice (some ⟨g',0,none⟩) (i+1) cap')
        rw [show List.map (Value.int .i64) (raw.take i)++[Value.int .i64 x]=List.map (Value.int .i64) (raw.take (i+1)) by rw [HTK.out,List.map_append];rfl] at hox
        have htx:=blkPut HY.out.2.2 6 (.slice (some ⟨g',0,none⟩) (i+1) cap') rfl
        go_wp2
        go_roundw
        case rel=>exact⟨i+1,.slice (some ⟨g',0,none⟩) (i+1) cap',by simp,hin,Lib.hid htx,Lib.hid hox,Lib.hid hgx⟩
        case measure=>simp [RowKit.intOf]<;>omega
       ·go_simp
        refine hK9.out _ _ hS1 (fun _=>?_)
        clear hK9 K9
        refine wpAnyH_ready (rs:=[1]) (by kernel_rfl) (by simp) ?_
        refine AllReadyH.cons rfl (fun K9 hK9=>?_) AllReadyH.nil
        go_simp
        refine hK9.out _ _ hS1 (fun _=>?_)
        clear hK9 K9
        refine wpAnyH_ready (rs:=[7]) (by kernel_rfl) (by simp) ?_
        refine AllReadyH.cons rfl (fun K9 hK9=>?_) AllReadyH.nil
        refine step_append_lies _ (by rfl) (.tmp 124) (.tmp 129) 50 (by rfl) x9.heap.size 3 i0 _ 1 8 Tryd.underlying50 hi0 hz0 hz1 hz2 rfl (by decide) u i ((raw.take i).map (Value.int .i64)) (by rfl) ((HOD.out).alloc _) ⟨wr.heap.size,0,none⟩ 1 1 [.int .i64 x] (by rfl) rfl (cell_one_new wr.drew _ _) (by simp [Value.oneCell']) (by decide) (by unfold maxLen;omega) (by omega) (by simp;omega) _ rfl ?_
        intro g' cap' w3 hown' hgrow _ _
        have hS3:w3.cell? ⟨gA,oA' + i,none⟩=some (.int .i64 x):=(hgrow.cell_far ⟨gA,oA' + i,none⟩ (by simp;omega) (fun e=>by have:=HOB.out gA e.symm;omega)).trans hS1
        have ht3:=(hgrow.block tb (by simp;omega) (fun e=>by have:=HOB.out tb e.symm;omega)).trans htAL
        have y6:=cell_of_row w3 tb 6 _ _ _ ht3
        have yz:w3.frozen? ⟨tb,6,none⟩=false:=by simp [World.frozen?,ht3]
        simp at y6
        have HY:=Lib.hid (And.intro hown' (And.intro hgrow ht3))
        clear hown' hgrow ht3
        refine hK9.out _ _ hS3 (fun _=>?_)
        clear hK9 K9
        (refine wpAnyH_take (i:=8) (v:=?_) rfl (by kernel_rfl) (by kernel_rfl) (by kernel_rfl) (fun _ _ _ h=>h) (Or.inl ⟨by rfl,fun W' hS=>?_⟩) hS3 ?_;rotate_left;· (go_simp;try with_reducible rfl))
        refine wpAnyH_ready (rs:=[9]) (by kernel_rfl) (by simp) ?_
        refine AllReadyH.cons rfl (fun K9 hK9=>?_) AllReadyH.nil
        go_simp
        refine hK9.out _ _ ((World.cell?_of_block (Below.heap_setCell w3 ⟨tb,6,none⟩ _ gA hgt)).trans hS3) (fun _=>?_)
        clear hK9 K9
        refine wpAnyH_done (by kernel_rfl) ?_ _
        have hGA:=qam hG.out (qan ((Below.refl wr.heap.size wr).drew.alloc (Nat.le_refl _) (.cells #[.int .i64 x] 3)) (some tb))
        have hgx:=grown_put hGA HY.out.2.1 (fun k e=>(HOB.out k e).1) 6 (.slice (some ⟨g',0,none⟩) (i+1) cap')
        have hox:=ownsRow_far HY.out.1 hbt 6 (.slice (some ⟨g',0,none⟩) (i+1) cap')
        rw [show List.map (Value.int .i64) (raw.take i)++[Value.int .i64 x]=List.map (Value.int .i64) (raw.take (i+1)) by rw [HTK.out,List.map_append];rfl] at hox
        have htx:=blkPut HY.out.2.2 6 (.slice (some ⟨g',0,none⟩) (i+1) cap') rfl
        go_wp2
        go_roundw
        case rel=>exact⟨i+1,.slice (some ⟨g',0,none⟩) (i+1) cap',by simp,hin,Lib.hid htx,Lib.hid hox,Lib.hid hgx⟩
        case measure=>simp [RowKit.intOf]<;>omega
      ·obtain rfl:i=mm:=by omega
       have hOu:wr.ownsRow x9.heap.size 3 1 u raw.length (raw.map (Value.int .i64)):=by
        have:=hO.out
        rw [List.take_of_length_le (by rw [HMM.out];exact Nat.le_refl _)] at this
        rw [HMM.out]
        exact this
       obtain⟨Au,cu,rfl,hnu⟩:=OwnI.of hOu
       have FR:=Lib.hid (F9'.out.far hG.out hrt)
       have HT:=Lib.hid hT.out
       have O5:=Lib.hid (O9.out.grown hG.out (Nat.lt_succ_self _))
       have O6:=Lib.hid (hnu.weaken (base':=tb+1) (by omega))
       clear hT hO hG hOu hnu HNRR HNBB F9' O9 HT9
       by_cases hkn:7+1<n
       ·have HE:Hid (R=.error (wrongP L (7+1))):=Lib.hid (by rw [HR8.out,if_neg (by rw [HN.out];omega)])
        have hkz:((7+1:Nat):Int)<(n:Int):=by omega
        simp at hkz
        go_wp2_with (first|(go_at_call 28;refine (HWR.out (7+1) _ (by omega) (FR.out.2.2.1.more (by have:=FR.out.1.size;omega))).mono ?_;rintro e wz ⟨rfl,hbz⟩;have FZ:=FR.out.below hbz;obtain⟨q0,q1,q2,q3,q4,q5,q6,q7,q8,hqz⟩:=qaD FZ.2.1;have HFZ:=Lib.hid FZ;clear FZ hbz))
        obtain⟨s1,s2⟩:=qaV HFZ.out.2.1 (.int .i64 0) (.int .i64 0) (.int .i64 0) (.int .i64 0) (.int .i64 0) (.slice none 0 0) (.slice none 0 0) (.int .i64 (wrongP L (7+1))) (.int .i64 10)
        generalize (((((((((wz.setCell ⟨r,0,none⟩ (.int .i64 0)).setCell ⟨r,1,none⟩ (.int .i64 0)).setCell ⟨r,2,none⟩ (.int .i64 0)).setCell ⟨r,3,none⟩ (.int .i64 0)).setCell ⟨r,4,none⟩ (.int .i64 0)).setCell ⟨r,5,none⟩ (.slice none 0 0)).setCell ⟨r,6,none⟩ (.slice none 0 0)).setCell ⟨r,7,none⟩ (.int .i64 (wrongP L (7+1)))).setCell ⟨r,8,none⟩ (.int .i64 10))=W at s1 s2 ⊢
        refine qaI (r:=r) ?_ s1 ?_
        ·rfl
        exact⟨by rw [HE.out];rfl,by rw [hr];exact HFZ.out.put s2⟩
       ·have HE:Hid (R=.ok ⟨v0,v1,v2,v3,v4,xch,raw⟩):=Lib.hid (by rw [HR8.out,if_pos (by rw [HN.out];omega)])
        have hkz:¬ ((7+1:Nat):Int)<(n:Int):=by omega
        simp at hkz
        have t0:=cell_of_row _ tb 0 _ _ _ HT.out
        have t1:=cell_of_row _ tb 1 _ _ _ HT.out
        have t2:=cell_of_row _ tb 2 _ _ _ HT.out
        have t3:=cell_of_row _ tb 3 _ _ _ HT.out
        have t4:=cell_of_row _ tb 4 _ _ _ HT.out
        have t5:=cell_of_row _ tb 5 _ _ _ HT.out
        have t6:=cell_of_row _ tb 6 _ _ _ HT.out
        have hlt12:=lt_of_block HT.out
        have hrl12:r<wr.heap.size:=FR.out.2.2.2
        have nrt:¬ r=tb:=by omega
        have nrt':¬ tb=r:=by omega
        simp at t0 t1 t2 t3 t4 t5 t6
        go_upto_region 41 with (fail)
        go_region_held (fun W=>W.cell? ⟨tb,0,none⟩=some (.int .i64 v0)∧W.cell? ⟨tb,1,none⟩=some (.int .i64 v1)∧W.cell? ⟨tb,2,none⟩=some (.int .i64 v2)∧W.cell? ⟨tb,3,none⟩=some (.int .i64 v3)∧W.cell? ⟨tb,4,none⟩=some (.int .i64 v4)∧W.cell? ⟨tb,5,none⟩=some (.slice A5 xch.length c5)∧W.cell? ⟨tb,6,none⟩=some (.slice Au raw.length cu)) (go_keep) (first|(go_at_call 52;refine (HEN.out _ (FR.out.drew.2.2.1.more (Nat.le_of_lt hrl12))).mono ?_;rintro e w12 ⟨rfl,hb12⟩;have u0:=(hb12.cell (p:=⟨tb,0,none⟩) hlt12).trans t0;have u1:=(hb12.cell (p:=⟨tb,1,none⟩) hlt12).trans t1;have u2:=(hb12.cell (p:=⟨tb,2,none⟩) hlt12).trans t2;have u3:=(hb12.cell (p:=⟨tb,3,none⟩) hlt12).trans t3;have u4:=(hb12.cell (p:=⟨tb,4,none⟩) hlt12).trans t4;have u5:=(hb12.cell (p:=⟨tb,5,none⟩) hlt12).trans t5;have u6:=(hb12.cell (p:=⟨tb,6,none⟩) hlt12).trans t6;have F12:=FR.out.drew.below hb12;obtain⟨q0,q1,q2,q3,q4,q5,q6,q7,q8,hqz⟩:=qaD F12.2.1;have HF12:=Lib.hid (And.intro F12 (And.intro (OwnI.below (w:=wr.drew) O5.out hb12) (OwnI.below (w:=wr.drew) O6.out hb12)));clear F12 hb12))
        obtain⟨s1,s2⟩:=qaV HF12.out.1.2.1 (.int .i64 v0) (.int .i64 v1) (.int .i64 v2) (.int .i64 v3) (.int .i64 v4) (.slice A5 xch.length c5) (.slice Au raw.length cu) (.int .i64 (endP L)) (.int .i64 0)
        generalize (((((((((w12.setCell ⟨r,0,none⟩ (.int .i64 v0)).setCell ⟨r,1,none⟩ (.int .i64 v1)).setCell ⟨r,2,none⟩ (.int .i64 v2)).setCell ⟨r,3,none⟩ (.int .i64 v3)).setCell ⟨r,4,none⟩ (.int .i64 v4)).setCell ⟨r,5,none⟩ (.slice A5 xch.length c5)).setCell ⟨r,6,none⟩ (.slice Au raw.length cu)).setCell ⟨r,7,none⟩ (.int .i64 (endP L))).setCell ⟨r,8,none⟩ (.int .i64 0))=W at s1 s2 ⊢
        have o5:=(HF12.out.2.1.grown s2 (by omega)).weaken (base':=r) (by omega)
        have o6:=(HF12.out.2.2.grown s2 (by omega)).weaken (base':=r) (by omega)
        have hB:=HF12.out.1.put s2
        go_wp2
        refine qaI (r:=r) ?_ s1 ?_
        ·rfl
        rw [HE.out]
        exact⟨⟨A5,c5,Au,cu,rfl,by rw [hr];exact o5,by rw [hr];exact o6⟩,by rw [hr];exact hB⟩
end Go.Proofs.YtcfknijdhmildaaDoor
end
section
namespace Go.Proofs.YtcfknijdhmildaaDoor
open Go.RowKit Go.Shelf Go.Lib
def SAt (all:List Wd) (l:List UInt8) (i q:Nat) (off:Bool) (cur:Option (Nat × List UInt8)) (pre:List Wd):Prop:=
 (i≤l.length∧all=pre++scan q off cur i (l.drop i)∧∀ p t,cur=some (p,t)→p<i∧t=(l.drop p).take (i - p))∨(i=l.length+1∧all=pre)
section
variable {all:List Wd} {l:List UInt8} {i q:Nat} {off:Bool} {cur:Option (Nat × List UInt8)} {pre:List Wd} {c:UInt8}
theorem drop_at (h:l[i]? = some c):l.drop i=c::l.drop (i+1):=by
 obtain⟨hl,he⟩:=List.getElem?_eq_some_iff.1 h
 rw [List.drop_eq_getElem_cons hl,he]
theorem sat_end (h:SAt all l i q off cur pre) (hi:i=l.length):SAt all l (i+1) (q+1) false none (pre++emit q cur):=by
 rcases h with ⟨_,h,_⟩|⟨h,_⟩
 ·refine .inr ⟨by omega,?_⟩
  rw [h,List.drop_eq_nil_of_le (by omega)]
  rfl
 ·omega
theorem sat_nl (h:SAt all l i q off cur pre) (hc:l[i]? = some 10):SAt all l (i+1) (q+1) false none (pre++emit q cur):=by
 have hl:=(List.getElem?_eq_some_iff.1 hc).1
 rcases h with ⟨_,h,_⟩|⟨h,_⟩
 ·refine .inl ⟨hl,?_,fun _ _ e=>by cases e⟩
  rw [h,drop_at hc]
  simp [scan]
 ·omega
theorem sat_off (h:SAt all l i q off cur pre) (hc:l[i]? = some c) (h10:c≠10) (ho:(off || c == 35)=true):SAt all l (i+1) q true none (pre++emit q cur):=by
 have hl:=(List.getElem?_eq_some_iff.1 hc).1
 rcases h with ⟨_,h,_⟩|⟨h,_⟩
 ·refine .inl ⟨hl,?_,fun _ _ e=>by cases e⟩
  rw [h,drop_at hc,scan,if_neg h10,if_pos ho]
  simp
 ·omega
theorem sat_ws (h:SAt all l i q false cur pre) (hc:l[i]? = some c) (h10:c≠10) (h35:c≠35) (hw:ws c=true):SAt all l (i+1) q false none (pre++emit q cur):=by
 have hl:=(List.getElem?_eq_some_iff.1 hc).1
 rcases h with ⟨_,h,_⟩|⟨h,_⟩
 ·refine .inl ⟨hl,?_,fun _ _ e=>by cases e⟩
  rw [h,drop_at hc,scan,if_neg h10,if_neg (by simp [h35]),if_pos hw]
  simp
 ·omega
theorem take_grow {p:Nat} (hc:l[i]? = some c) (hp:p<i):(l.drop p).take (i - p)++[c]=(l.drop p).take (i+1 - p):=by
 have hl:=(List.getElem?_eq_some_iff.1 hc).1
 rw [show i+1 - p=(i - p)+1 from by omega,List.take_add_one]
 rw [List.getElem?_drop,show p+(i - p)=i from by omega,hc]
 rfl
theorem sat_grow (h:SAt all l i q false cur pre) (hc:l[i]? = some c) (h10:c≠10) (h35:c≠35) (hw:ws c=false):SAt all l (i+1) q false (grow i c cur) pre:=by
 have hl:=(List.getElem?_eq_some_iff.1 hc).1
 rcases h with ⟨_,h,h3⟩|⟨h,_⟩
 ·refine .inl ⟨hl,?_,?_⟩
  ·rw [h,drop_at hc,scan,if_neg h10,if_neg (by simp [h35]),if_neg (by simp [hw])]
  ·intro p t e
   cases cur with
   |none=>
    simp [grow] at e
    obtain⟨rfl,rfl⟩:=e
    refine⟨Nat.lt_succ_self _,?_⟩
    rw [drop_at hc,show i+1 - i=1 from by omega]
    rfl
   |some x=>
    obtain⟨p0,t0⟩:=x
    simp [grow] at e
    obtain⟨rfl,rfl⟩:=e
    obtain⟨h4,h5⟩:=h3 p0 t0 rfl
    refine⟨by omega,?_⟩
    rw [h5,take_grow hc h4]
 ·omega
theorem sat_len (h:SAt all l i q off cur pre):pre.length≤all.length:=by
 rcases h with ⟨_,h,_⟩|⟨_,h⟩
 ·rw [h,List.length_append];omega
 ·rw [h];exact Nat.le_refl _
theorem sat_text {s:ByteArray} {p:Nat} {t:List UInt8} (h:SAt all s.data.toList i q off (some (p,t)) pre) (hi:i≤s.size):p<i∧s.extract p i=⟨t.toArray⟩:=by
 rcases h with ⟨_,_,h3⟩|⟨h,_⟩
 ·obtain⟨h4,h5⟩:=h3 p t rfl
  refine⟨h4,?_⟩
  apply ByteArray.ext
  apply Array.toList_inj.1
  rw [h5,ByteArray.data_extract,Array.toList_extract,List.extract_eq_take_drop]
 ·rw [← Lib.size_eq] at h;omega
end
theorem byte_is {x:UInt8} {n:Nat} (h:x.toNat=n):((x.toNat:Int) == (n:Int))=true:=by simp [h]
theorem byte_not {x:UInt8} {n:Nat} (h:x.toNat≠n):((x.toNat:Int) == (n:Int))=false:=by simp;omega
theorem refWords_any (s:ByteArray) (hs:s.size≤65536) (w:World) :
  Calls Tryd.prog 51 #[.string s] w fun e w'=>(∃ A cap,e=.returned (.slice A (textW s).length cap)∧WRow w' w'.heap.size A (textW s))∧Below w.heap.size w w':=by
 obtain⟨i0,hi0,hz0,hz1,hz2⟩:=info_parts infoW
 have HS:Hid (SAt (textW s) s.data.toList 0 1 false none []):=Lib.hid (.inl ⟨Nat.zero_le _,by rw [textW_scan];rfl,fun _ _ e=>by cases e⟩)
 have hN:=textW_len s
 generalize textW s=all at *
 go_enter Tryd.func51,Tryd.ntmps51
 go_wp2
 obtain⟨B,hB⟩:∃ B,w.heap.size=B:=⟨_,rfl⟩
 go_loopw [3,4,5,6,7] (fun v3 v4 v5 v6 v7 wr=>∃ (i q:Nat) (off:Bool) (cur:Option (Nat × List UInt8)) (pre:List Wd),v4=.int .i64 q∧((cur=none∧v5=.int .i64 (-1))∨∃ (p:Nat) (t:List UInt8),cur=some (p,t)∧v5=.int .i64 p)∧v6=.bool off∧v7=.int .i64 i ∧
   i≤s.size+1∧q≤i+1∧Hid (SAt all s.data.toList i q off cur pre)∧wr.ownsRow B 71 3 v3 pre.length (pre.flatMap Wd.cells)∧Below B w wr) (fun _ _ _ _ v7 _=>s.size+1 - (RowKit.intOf v7).toNat)
 case atStart=>exact⟨0,1,false,none,[],rfl,.inl ⟨rfl,rfl⟩,rfl,rfl,Nat.zero_le _,Nat.le_refl _,HS,World.ownsRow_nil _ _ _ _,Below.refl _ _⟩
 case round=>
  obtain⟨i,q,off,cur,pre,rfl,hcur,rfl,rfl,hi,hq,hsat,hrow,hbw⟩:=hrel
  have hBw:B≤wr.heap.size:=by rw [← hB];exact hbw.size
  have hpl:pre.length≤65537:=by have:=sat_len hsat.out;omega
  by_cases his:i≤s.size
  ·by_cases hie:i=s.size
   ·have hil:(i:Int)=(s.size:Int):=by omega
    have hlq:IntKind.i64.wrap ((q:Int)+1)=((q:Int)+1):=by rw [IntKind.wrap_i64];omega
    have hsat2:=Lib.hid (sat_end hsat.out (by rw [← Lib.size_eq];exact hie))
    subst hie
    have HN:=Lib.hid (hsat2.out)
    rcases hcur with ⟨rfl,rfl⟩|⟨p,t,rfl,rfl⟩
    ·go_wp2
     go_roundw
     case rel=>exact⟨s.size+1,q+1,false,none,pre,by simp,.inl ⟨rfl,rfl⟩,rfl,by simp,by omega,by omega,Lib.hid (by have h9:=HN.out;simpa [emit] using h9),hrow,hbw⟩
     case measure=>simp [RowKit.intOf]<;>omega
    ·obtain⟨hpi,htx⟩:=sat_text hsat.out (by omega)
     obtain⟨T,hT⟩:∃ T,s.extract p s.size=T:=⟨_,rfl⟩
     have HT:=Lib.hid (htx.symm.trans hT)
     clear htx
     go_wp2_with (at_builtin;refine wpList_append_own _ rfl _ _ 67 rfl B 71 i0 _ 3 32 Tryd.underlying67 hi0 hz0 hz1 hz2 rfl (by decide) _ _ _ rfl (hrow.alloc _) ⟨wr.heap.size,0,none⟩ 1 1 [.int .i64 p,.int .i64 q,.string T] rfl rfl (qa5 _ _ _ _ _) (by simp [Value.oneCell']) (by unfold maxLen;omega) (by omega) (by simp;omega) ?_;intro v' w1 hown' hgrow _)
     have hb1:Below B w w1:=(hbw.alloc hBw _).grown hgrow (by simp;omega) (fun k e=>(hrow.lt k e).1)
     go_roundw
     case rel=>exact⟨s.size+1,q+1,false,none,pre++emit q (some (p,t)),by simp,.inl ⟨rfl,rfl⟩,rfl,by simp,by omega,by omega,HN,by simpa [emit,HT.out,Wd.cells] using hown',hb1⟩
     case measure=>simp [RowKit.intOf]<;>omega
   ·have hil:i<s.size:=by omega
    have hget:s.data.toList[i]? = some s[i]:=by rw [List.getElem?_eq_getElem (by rw [← Lib.size_eq];exact hil)];rfl
    have HG:=Lib.hid hget
    have hne:(((i:Int)) == (s.size:Int))=false:=by simp;omega
    clear hget
    by_cases h10:s[i].toNat=10
    ·have b10:((s[i].toNat:Int) == 10)=true:=byte_is h10
     have h10':s[i]=10:=UInt8.toNat_inj.1 h10
     have hlq:IntKind.i64.wrap ((q:Int)+1)=((q:Int)+1):=by rw [IntKind.wrap_i64];omega
     have hsat2:=Lib.hid (sat_nl hsat.out (by rw [HG.out,h10']))
     clear h10' h10
     have HN:=Lib.hid (hsat2.out)
     rcases hcur with ⟨rfl,rfl⟩|⟨p,t,rfl,rfl⟩
     ·go_wp2
      go_roundw
      case rel=>exact⟨i+1,q+1,false,none,pre,by simp,.inl ⟨rfl,rfl⟩,rfl,by simp,by omega,by omega,Lib.hid (by have h9:=HN.out;simpa [emit] using h9),hrow,hbw⟩
      case measure=>simp [RowKit.intOf]<;>omega
     ·obtain⟨hpi,htx⟩:=sat_text hsat.out (by omega)
      obtain⟨T,hT⟩:∃ T,s.extract p i=T:=⟨_,rfl⟩
      have HT:=Lib.hid (htx.symm.trans hT)
      clear htx
      go_wp2_with (at_builtin;refine wpList_append_own _ rfl _ _ 67 rfl B 71 i0 _ 3 32 Tryd.underlying67 hi0 hz0 hz1 hz2 rfl (by decide) _ _ _ rfl (hrow.alloc _) ⟨wr.heap.size,0,none⟩ 1 1 [.int .i64 p,.int .i64 q,.string T] rfl rfl (qa5 _ _ _ _ _) (by simp [Value.oneCell']) (by unfold maxLen;omega) (by omega) (by simp;omega) ?_;intro v' w1 hown' hgrow _)
      have hb1:Below B w w1:=(hbw.alloc hBw _).grown hgrow (by simp;omega) (fun k e=>(hrow.lt k e).1)
      go_roundw
      case rel=>exact⟨i+1,q+1,false,none,pre++emit q (some (p,t)),by simp,.inl ⟨rfl,rfl⟩,rfl,by simp,by omega,by omega,HN,by simpa [emit,HT.out,Wd.cells] using hown',hb1⟩
      case measure=>simp [RowKit.intOf]<;>omega
    ·have b10:((s[i].toNat:Int) == 10)=false:=byte_not h10
     have h10':s[i]≠10:=fun e=>h10 (by rw [e];rfl)
     by_cases h35:s[i].toNat=35
     ·have b35:((s[i].toNat:Int) == 35)=true:=byte_is h35
      have h35':s[i]=35:=UInt8.toNat_inj.1 h35
      have hsat2:=Lib.hid (sat_off hsat.out HG.out h10' (by rw [h35'];simp))
      clear h10' h10 h35' h35
      have HN:=Lib.hid (hsat2.out)
      rcases hcur with ⟨rfl,rfl⟩|⟨p,t,rfl,rfl⟩
      ·go_wp2
       go_roundw
       case rel=>exact⟨i+1,q,true,none,pre,by simp,.inl ⟨rfl,rfl⟩,rfl,by simp,by omega,by omega,Lib.hid (by have h9:=HN.out;simpa [emit] using h9),hrow,hbw⟩
       case measure=>simp [RowKit.intOf]<;>omega
      ·obtain⟨hpi,htx⟩:=sat_text hsat.out (by omega)
       obtain⟨T,hT⟩:∃ T,s.extract p i=T:=⟨_,rfl⟩
       have HT:=Lib.hid (htx.symm.trans hT)
       clear htx
       go_wp2_with (at_builtin;refine wpList_append_own _ rfl _ _ 67 rfl B 71 i0 _ 3 32 Tryd.underlying67 hi0 hz0 hz1 hz2 rfl (by decide) _ _ _ rfl (hrow.alloc _) ⟨wr.heap.size,0,none⟩ 1 1 [.int .i64 p,.int .i64 q,.string T] rfl rfl (qa5 _ _ _ _ _) (by simp [Value.oneCell']) (by unfold maxLen;omega) (by omega) (by simp;omega) ?_;intro v' w1 hown' hgrow _)
       have hb1:Below B w w1:=(hbw.alloc hBw _).grown hgrow (by simp;omega) (fun k e=>(hrow.lt k e).1)
       go_roundw
       case rel=>exact⟨i+1,q,true,none,pre++emit q (some (p,t)),by simp,.inl ⟨rfl,rfl⟩,rfl,by simp,by omega,by omega,HN,by simpa [emit,HT.out,Wd.cells] using hown',hb1⟩
       case measure=>simp [RowKit.intOf]<;>omega
     ·have b35:((s[i].toNat:Int) == 35)=false:=byte_not h35
      have h35':s[i]≠35:=fun e=>h35 (by rw [e];rfl)
      cases off with
      |true=>
       have hsat2:=Lib.hid (sat_off hsat.out HG.out h10' rfl)
       clear h10' h10 h35' h35
       have HN:=Lib.hid (hsat2.out)
       rcases hcur with ⟨rfl,rfl⟩|⟨p,t,rfl,rfl⟩
       ·go_wp2
        go_roundw
        case rel=>exact⟨i+1,q,true,none,pre,by simp,.inl ⟨rfl,rfl⟩,rfl,by simp,by omega,by omega,Lib.hid (by have h9:=HN.out;simpa [emit] using h9),hrow,hbw⟩
        case measure=>simp [RowKit.intOf]<;>omega
       ·obtain⟨hpi,htx⟩:=sat_text hsat.out (by omega)
        obtain⟨T,hT⟩:∃ T,s.extract p i=T:=⟨_,rfl⟩
        have HT:=Lib.hid (htx.symm.trans hT)
        clear htx
        go_wp2_with (at_builtin;refine wpList_append_own _ rfl _ _ 67 rfl B 71 i0 _ 3 32 Tryd.underlying67 hi0 hz0 hz1 hz2 rfl (by decide) _ _ _ rfl (hrow.alloc _) ⟨wr.heap.size,0,none⟩ 1 1 [.int .i64 p,.int .i64 q,.string T] rfl rfl (qa5 _ _ _ _ _) (by simp [Value.oneCell']) (by unfold maxLen;omega) (by omega) (by simp;omega) ?_;intro v' w1 hown' hgrow _)
        have hb1:Below B w w1:=(hbw.alloc hBw _).grown hgrow (by simp;omega) (fun k e=>(hrow.lt k e).1)
        go_roundw
        case rel=>exact⟨i+1,q,true,none,pre++emit q (some (p,t)),by simp,.inl ⟨rfl,rfl⟩,rfl,by simp,by omega,by omega,HN,by simpa [emit,HT.out,Wd.cells] using hown',hb1⟩
        case measure=>simp [RowKit.intOf]<;>omega
      |false=>
       by_cases h32:s[i].toNat=32
       ·have b32:((s[i].toNat:Int) == 32)=true:=byte_is h32
        have h32':s[i]=32:=UInt8.toNat_inj.1 h32
        have hsat2:=Lib.hid (sat_ws hsat.out HG.out h10' h35' (by rw [h32'];rfl))
        clear h10' h10 h35' h35 h32' h32
        have HN:=Lib.hid (hsat2.out)
        rcases hcur with ⟨rfl,rfl⟩|⟨p,t,rfl,rfl⟩
        ·go_wp2
         go_roundw
         case rel=>exact⟨i+1,q,false,none,pre,by simp,.inl ⟨rfl,rfl⟩,rfl,by simp,by omega,by omega,Lib.hid (by have h9:=HN.out;simpa [emit] using h9),hrow,hbw⟩
         case measure=>simp [RowKit.intOf]<;>omega
        ·obtain⟨hpi,htx⟩:=sat_text hsat.out (by omega)
         obtain⟨T,hT⟩:∃ T,s.extract p i=T:=⟨_,rfl⟩
         have HT:=Lib.hid (htx.symm.trans hT)
         clear htx
         go_wp2_with (at_builtin;refine wpList_append_own _ rfl _ _ 67 rfl B 71 i0 _ 3 32 Tryd.underlying67 hi0 hz0 hz1 hz2 rfl (by decide) _ _ _ rfl (hrow.alloc _) ⟨wr.heap.size,0,none⟩ 1 1 [.int .i64 p,.int .i64 q,.string T] rfl rfl (qa5 _ _ _ _ _) (by simp [Value.oneCell']) (by unfold maxLen;omega) (by omega) (by simp;omega) ?_;intro v' w1 hown' hgrow _)
         have hb1:Below B w w1:=(hbw.alloc hBw _).grown hgrow (by simp;omega) (fun k e=>(hrow.lt k e).1)
         go_roundw
         case rel=>exact⟨i+1,q,false,none,pre++emit q (some (p,t)),by simp,.inl ⟨rfl,rfl⟩,rfl,by simp,by omega,by omega,HN,by simpa [emit,HT.out,Wd.cells] using hown',hb1⟩
         case measure=>simp [RowKit.intOf]<;>omega
       ·have b32:((s[i].toNat:Int) == 32)=false:=byte_not h32
        have h32':s[i]≠32:=fun e=>h32 (by rw [e];rfl)
        by_cases h9:s[i].toNat=9
        ·have b9:((s[i].toNat:Int) == 9)=true:=byte_is h9
         have h9':s[i]=9:=UInt8.toNat_inj.1 h9
         have hsat2:=Lib.hid (sat_ws hsat.out HG.out h10' h35' (by rw [h9'];rfl))
         clear h10' h10 h35' h35 h32' h32 h9' h9
         have HN:=Lib.hid (hsat2.out)
         rcases hcur with ⟨rfl,rfl⟩|⟨p,t,rfl,rfl⟩
         ·go_wp2
          go_roundw
          case rel=>exact⟨i+1,q,false,none,pre,by simp,.inl ⟨rfl,rfl⟩,rfl,by simp,by omega,by omega,Lib.hid (by have h9:=HN.out;simpa [emit] using h9),hrow,hbw⟩
          case measure=>simp [RowKit.intOf]<;>omega
         ·obtain⟨hpi,htx⟩:=sat_text hsat.out (by omega)
          obtain⟨T,hT⟩:∃ T,s.extract p i=T:=⟨_,rfl⟩
          have HT:=Lib.hid (htx.symm.trans hT)
          clear htx
          go_wp2_with (at_builtin;refine wpList_append_own _ rfl _ _ 67 rfl B 71 i0 _ 3 32 Tryd.underlying67 hi0 hz0 hz1 hz2 rfl (by decide) _ _ _ rfl (hrow.alloc _) ⟨wr.heap.size,0,none⟩ 1 1 [.int .i64 p,.int .i64 q,.string T] rfl rfl (qa5 _ _ _ _ _) (by simp [Value.oneCell']) (by unfold maxLen;omega) (by omega) (by simp;omega) ?_;intro v' w1 hown' hgrow _)
          have hb1:Below B w w1:=(hbw.alloc hBw _).grown hgrow (by simp;omega) (fun k e=>(hrow.lt k e).1)
          go_roundw
          case rel=>exact⟨i+1,q,false,none,pre++emit q (some (p,t)),by simp,.inl ⟨rfl,rfl⟩,rfl,by simp,by omega,by omega,HN,by simpa [emit,HT.out,Wd.cells] using hown',hb1⟩
          case measure=>simp [RowKit.intOf]<;>omega
        ·have b9:((s[i].toNat:Int) == 9)=false:=byte_not h9
         have h9':s[i]≠9:=fun e=>h9 (by rw [e];rfl)
         have HN:=Lib.hid (sat_grow hsat.out HG.out h10' h35' (by simp [ws,h32',h9']))
         clear h10' h10 h35' h35 h32' h32 h9' h9
         rcases hcur with ⟨rfl,rfl⟩|⟨p,t,rfl,rfl⟩
         ·go_wp2
          go_roundw
          case rel=>exact⟨i+1,q,false,grow i s[i] none,pre,by simp,.inr ⟨i,[s[i]],rfl,rfl⟩,rfl,by simp,by omega,by omega,HN,hrow,hbw⟩
          case measure=>simp [RowKit.intOf];omega
         ·go_wp2
          go_roundw
          case rel=>exact⟨i+1,q,false,grow i s[i] (some (p,t)),pre,by simp,.inr ⟨p,t++[s[i]],rfl,rfl⟩,rfl,by simp,by omega,by omega,HN,hrow,hbw⟩
          case measure=>simp [RowKit.intOf];omega
  ·obtain rfl:i=s.size+1:=by omega
   have HA:Hid (all=pre):=Lib.hid (by
    rcases hsat.out with ⟨h,_⟩|⟨_,h⟩
    ·rw [← Lib.size_eq] at h;omega
    ·exact h)
   go_wp2
   have ha:=HA.out
   subst ha
   obtain⟨A,cap,rfl,_,_,hr⟩:=wrow_own hrow
   go_ret
   exact⟨⟨A,cap,rfl,hr⟩,by rw [hB];exact hbw⟩
end Go.Proofs.YtcfknijdhmildaaDoor
end
section
namespace Go.Proofs.YtcfknijdhmildaaDoor
open Go.RowKit Go.Shelf Go.Lib
theorem ls_drewN {n0:Nat} {eo ei:TypeId} {pre:List Wd} {vo:Value} {W:World} (h:LS n0 eo ei pre vo W) (m:Nat):LS n0 eo ei pre vo (W.drewN m):=by
 rcases h with h|⟨G,g,y,V,v,hs,h1,h2,h3,h4,h5⟩
 ·exact .inl h
 ·exact .inr ⟨G,g,y,V,v,hs,h1,h2,h3,h4,⟨h5.out,h5.len,h5.low,h5.high,h5.done,h5.cur⟩⟩
theorem lns_take {T:List Wd} {i:Nat} (h:i<T.length):T.take (i+1)=T.take i++[T[i]]:=by rw [List.take_succ_eq_append_getElem h]
theorem take_last {T:List Wd} {i:Nat} (h:i<T.length):(T.take (i+1)).getLast? = some T[i]:=by rw [lns_take h];exact List.getLast?_concat
theorem refLines_ls (s:ByteArray) (hs:s.size≤65536) (w:World) :
  Calls Tryd.prog 26 #[.string s] w fun e w'=>(∃ B v,w.heap.size≤B∧e=.returned v∧LS B 67 71 (textW s) v w')∧Below w.heap.size w w':=by
 obtain⟨i0,hi0,hz0,hz1,hz2⟩:=info_parts infoW
 obtain⟨j0,hj0,hy0,hy1,hy2⟩:=info_parts infoR
 have hN:=textW_len s
 have HW:=Lib.hid (refWords_any s hs w)
 generalize textW s=T at *
 obtain⟨n,hn⟩:∃ n,n=T.length:=⟨_,rfl⟩
 rw [← hn] at hN HW
 have HN:=Lib.hid hn
 clear hn
 go_enter Tryd.func26,Tryd.ntmps26
 go_wp2_with (go_at_call 51;refine HW.out.mono ?_;rintro e w1 ⟨⟨A,cap,rfl,hr⟩,hb1⟩)
 obtain⟨B,hB⟩:∃ B,w1.heap.size=B:=⟨_,rfl⟩
 rw [hB] at hr
 go_loopw [3,5] (fun v3 v5 wr=>∃ i:Nat,v5=.int .i64 i∧i≤n∧LS B 67 71 (T.take i) v3 wr∧Below B w1 wr) (fun _ v5 _=>n - (RowKit.intOf v5).toNat)
 case atStart=>exact⟨0,rfl,Nat.zero_le _,.inl ⟨rfl,rfl⟩,Below.refl _ _⟩
 case round=>
  obtain⟨i,rfl,hi,hls,hbr⟩:=hrel
  have hBw:B≤wr.heap.size:=by rw [← hB];exact hbr.size
  by_cases hin:i<n
  ·have hil:i<T.length:=by rw [← HN.out];exact hin
   obtain⟨b1,o1,rfl,hlt1,hc1⟩:=hr (by omega)
   obtain⟨x0,x1,x2⟩:=hc1 i hil
   have a0:=(hbr.cell (p:=⟨b1,_,none⟩) (by show b1<B;omega)).trans x0
   have a1:=(hbr.cell (p:=⟨b1,_,none⟩) (by show b1<B;omega)).trans x1
   have a2:=(hbr.cell (p:=⟨b1,_,none⟩) (by show b1<B;omega)).trans x2
   have HTK:=Lib.hid (lns_take hil)
   have HCELL:Hid (∀ (k:Nat) (h:k<T.length),wr.cell? ⟨b1,o1+k * 3+1,none⟩=some (.int .i64 T[k].q)):=Lib.hid (fun k h=>(hbr.cell (p:=⟨b1,_,none⟩) (by show b1<B;omega)).trans (hc1 k h).2.1)
   clear x0 x1 x2 hc1
   obtain⟨⟨xp,xq,xt⟩,hx⟩:∃ x,T[i]=x:=⟨_,rfl⟩
   rw [hx] at a0 a1 a2 HTK
   simp only at a0 a1 a2
   clear hx
   obtain⟨bq,hbq⟩:∃ b:Bool,b=(match (T.take i).getLast? with|none=>true|some y=>xq != y.q):=⟨_,rfl⟩
   have HBQ:=Lib.hid hbq
   clear hbq
   have HLS:=Lib.hid hls
   clear hls
   go_upto_region 6 with (fail)
   go_cut [30] from 51 (fun v30 wx=>(∃ m,wx=wr.drewN m)∧v30=.bool bq)
   case first=>
    by_cases hi0:i=0
    ·subst hi0
     have hb:bq=true:=by rw [HBQ.out];rfl
     go_quiet (fail)
     go_wp2
     go_meet
     exact⟨⟨_,rfl⟩,by rw [hb]⟩
    ·obtain⟨k,rfl⟩:∃ k,i=k+1:=⟨i - 1,by omega⟩
     have hkl:k<T.length:=by rw [← HN.out];omega
     have a3:=HCELL.out k hkl
     have hb:bq=(xq != T[k].q):=by rw [HBQ.out,take_last hkl]
     generalize T[k].q=yq at *
     have hk1:IntKind.i64.wrap (k:Int)=(k:Int):=by rw [IntKind.wrap_i64];omega
     have hk0:((k:Int)+1 == 0)=false:=by simp;omega
     go_quiet (fail)
     go_wp2
     go_meet
     exact⟨⟨_,rfl⟩,by rw [hb]⟩
   case rest=>
    obtain⟨⟨m,rfl⟩,rfl⟩:=hcut
    have hlsd:LS B 67 71 (T.take i) u3 (wr.drewN m):=ls_drewN HLS.out m
    have hbd:Below B w1 (wr.drewN m):=qaZ hbr m
    have hBd:B≤(wr.drewN m).heap.size:=hBw
    have d0:(wr.drewN m).cell? ⟨b1,o1+i * 3,none⟩=some (.int .i64 xp):=a0
    have d1:(wr.drewN m).cell? ⟨b1,o1+i * 3+1,none⟩=some (.int .i64 xq):=a1
    have d2:(wr.drewN m).cell? ⟨b1,o1+i * 3+2,none⟩=some (.string xt):=a2
    clear HLS HCELL a0 a1 a2 hbr hBw
    generalize wr.drewN m=W at hlsd hbd hBd d0 d1 d2 ⊢
    go_upto_if 30 with (fail)
    go_cut [3] from 51 (fun v3 wx=>(∃ G g V v hs',Hid (lns (T.take (i+1))=G++[g++[⟨xp,xq,xt⟩]])∧G.length≤i∧g.length≤i∧MS B 67 71 G g V v hs' v3 wx)∧Below B W wx)
    case first=>
     rcases hlsd with ⟨hp0,rfl⟩|⟨G,g,y,V,v,hs',h1,h2,h3,h4,hms⟩
     ·have hb:bq=true:=by rw [HBQ.out,hp0];rfl
      subst hb
      have HL:Hid (lns (T.take (i+1))=[]++[[]++[⟨xp,xq,xt⟩]]):=Lib.hid (by rw [HTK.out,hp0];rfl)
      have hrow:=World.ownsRow_nil W B 67 1
      go_wp2_with (at_builtin;refine wpList_append_own _ rfl _ _ 61 rfl B 67 j0 _ 1 24 Tryd.underlying61 hj0 hy0 hy1 hy2 rfl (by decide) _ 0 [] rfl (hrow.alloc _) ⟨W.heap.size,0,none⟩ 1 1 [.slice none 0 0] rfl rfl (cell_one_new _ _ _) (by simp [Value.oneCell']) (by unfold maxLen;omega) (by omega) (by simp;omega) ?_;intro v' w2 hown' hgrow _)
      go_meet
      exact⟨⟨[],[],[],.slice none 0 0,_,HL,by simp,by simp,ms_first hown' (by have h9:=hgrow.size;simp at h9;omega)⟩,((Below.refl B W).alloc hBd _).grown hgrow (by simp;omega) (fun k e=>(hrow.lt k e).1)⟩
     ·have hilen:(T.take i).length=i:=by rw [List.length_take];omega
      rw [hilen] at h3 h4
      have hq:bq=(xq != y.q):=by rw [HBQ.out,h2]
      cases hbq:bq with
      |false=>
       subst hbq
       have hyq:y.q=xq:=by simp at hq;omega
       clear hq HBQ
       have HL:=Lib.hid (lns_same (x:=⟨xp,xq,xt⟩) h1 hyq)
       go_wp2
       go_meet
       exact⟨⟨G,g++[y],V,v,hs',Lib.hid (by rw [HTK.out];exact HL.out),by omega,by simp;omega,hms⟩,Below.refl _ _⟩
      |true=>
       subst hbq
       have hyq:y.q≠xq:=by simp at hq;omega
       clear hq HBQ
       have HL:=Lib.hid (lns_new (x:=⟨xp,xq,xt⟩) h1 hyq)
       have hrow:=hms.out
       have HLN:=Lib.hid hms.len
       go_wp2_with (at_builtin;refine wpList_append_own _ rfl _ _ 61 rfl B 67 j0 _ 1 24 Tryd.underlying61 hj0 hy0 hy1 hy2 rfl (by decide) _ (V.length+1) (V++[v]) rfl (hrow.alloc _) ⟨W.heap.size,0,none⟩ 1 1 [.slice none 0 0] rfl rfl (cell_one_new _ _ _) (by simp [Value.oneCell']) (by have:=HLN.out;unfold maxLen;omega) (by have:=HLN.out;omega) (by simp;omega) ?_;intro v' w2 hown' hgrow _)
       go_meet
       exact⟨⟨G++[g++[y]],[],V++[v],.slice none 0 0,_,Lib.hid (by rw [HTK.out];simpa using HL.out),by simp;omega,by simp,hms.next (by decide) hgrow hown'⟩,((Below.refl B W).alloc hBd _).grown hgrow (by simp;omega) (fun k e=>(hrow.lt k e).1)⟩
    case rest=>
     obtain⟨⟨G,g,V,v,hs',HL,hG,hg,hms⟩,hb2⟩:=hcut
     have hbw:=hbd.trans (hb2.mono (by omega))
     have e0:=(hb2.cell (p:=⟨b1,_,none⟩) (by show b1<B;omega)).trans d0
     have e1:=(hb2.cell (p:=⟨b1,_,none⟩) (by show b1<B;omega)).trans d1
     have e2:=(hb2.cell (p:=⟨b1,_,none⟩) (by show b1<B;omega)).trans d2
     clear hlsd hbd hBd d0 d1 d2
     obtain⟨bo,cap2,rfl,hbo1,hbo2,hcb,hfb⟩:=hms.at
     obtain⟨A2,c2,rfl⟩:=hms.val
     have HLN:=Lib.hid hms.len
     have hkb:V.length≤65537:=by rw [HLN.out];omega
     have HMS:=Lib.hid hms
     have hcur:=hms.cur
     obtain⟨k,hk⟩:∃ k,V.length=k:=⟨_,rfl⟩
     rw [hk] at hcb hfb hkb ⊢
     have HK:=Lib.hid hk
     obtain⟨gl,hgl⟩:∃ k,g.length=k:=⟨_,rfl⟩
     rw [hgl] at hcb hcur
     have HGL:=Lib.hid hgl
     have hgb:gl≤65537:=by rw [← hgl];omega
     clear hk hms hgl
     have hk1:IntKind.i64.wrap (k:Int)=(k:Int):=by rw [IntKind.wrap_i64];omega
     have hk2:(k:Int)<(k:Int)+1:=by omega
     have hBc:B≤wc.drew.heap.size:=by rw [← hB];exact hbw.size
     have hcd:wc.drew.cell? ⟨bo,k,none⟩=some (.slice A2 gl c2):=hcb
     have hS0:wc.drew.cell? ⟨b1,o1+i * 3,none⟩=some (.int .i64 xp)∧wc.drew.cell? ⟨b1,o1+i * 3+1,none⟩=some (.int .i64 xq)∧wc.drew.cell? ⟨b1,o1+i * 3+2,none⟩=some (.string xt):=⟨e0,e1,e2⟩
     have HBS:Hid (∀ W,Below B wc.drew W→W.cell? ⟨b1,o1+i * 3,none⟩=some (.int .i64 xp)∧W.cell? ⟨b1,o1+i * 3+1,none⟩=some (.int .i64 xq)∧W.cell? ⟨b1,o1+i * 3+2,none⟩=some (.string xt)):=Lib.hid (fun W hb=>
      ⟨(hb.cell (p:=⟨b1,_,none⟩) (by show b1<B;omega)).trans hS0.1,(hb.cell (p:=⟨b1,_,none⟩) (by show b1<B;omega)).trans hS0.2.1,(hb.cell (p:=⟨b1,_,none⟩) (by show b1<B;omega)).trans hS0.2.2⟩)
     have hcurd:wc.drew.ownsRow hs' 71 3 (.slice A2 gl c2) gl (g.flatMap Wd.cells):=hcur
     have HCUR:=Lib.hid hcurd
     clear hcur hcurd
     have hi2:(i:Int)<(n:Int):=by omega
     go_upto_region 9 with (fail)
     refine wp_region_held_drew (S:=fun W'=>W'.cell? ⟨b1,o1+i * 3,none⟩=some (.int .i64 xp)∧W'.cell? ⟨b1,o1+i * 3+1,none⟩=some (.int .i64 xq)∧W'.cell? ⟨b1,o1+i * 3+2,none⟩=some (.string xt)) (by kernel_rfl) hS0 (fun _=>?_)
     refine wpAnyH_take (i:=0) (v:=?_) rfl (by kernel_rfl) (by kernel_rfl) (by kernel_rfl) (fun _ _ _ h=>h) (Or.inl ⟨by rfl,fun W' hS=>?_⟩) hS0 ?_
     rotate_left
     ·obtain⟨s0,s1,s2⟩:=hS
      go_simp
      try with_reducible rfl
     refine wpAnyH_take (i:=1) (v:=?_) rfl (by kernel_rfl) (by kernel_rfl) (by kernel_rfl) (fun _ _ _ h=>h) (Or.inl ⟨by rfl,fun W' hS=>?_⟩) hS0 ?_
     rotate_left
     ·obtain⟨s0,s1,s2⟩:=hS
      go_simp
      try with_reducible rfl
     refine wpAnyH_take (i:=2) (v:=?_) rfl (by kernel_rfl) (by kernel_rfl) (by kernel_rfl) (fun _ _ _ h=>h) (Or.inl ⟨by rfl,fun W' hS=>?_⟩) hS0 ?_
     rotate_left
     ·obtain⟨s0,s1,s2⟩:=hS
      go_simp
      try with_reducible rfl
     refine wpAnyH_take (i:=3) (v:=?_) rfl (by kernel_rfl) (by kernel_rfl) (by kernel_rfl) (fun _ _ _ h=>h) (Or.inl ⟨by rfl,fun W' hS=>?_⟩) hS0 ?_
     rotate_left
     ·obtain⟨s0,s1,s2⟩:=hS
      go_simp
      try with_reducible rfl
     refine wpAnyH_take (i:=4) (v:=?_) rfl (by kernel_rfl) (by kernel_rfl) (by kernel_rfl) (fun _ _ _ h=>h) (Or.inl ⟨by rfl,fun W' hS=>?_⟩) hS0 ?_
     rotate_left
     ·obtain⟨s0,s1,s2⟩:=hS
      go_simp
      try with_reducible rfl
     refine wpAnyH_take (i:=6) (v:=?_) rfl (by kernel_rfl) (by kernel_rfl) (by kernel_rfl) (fun _ _ _ h=>h) (Or.inl ⟨by rfl,fun W' hS=>?_⟩) hS0 ?_
     rotate_left
     ·obtain⟨s0,s1,s2⟩:=hS
      go_simp
      try with_reducible rfl
     refine wpAnyH_take (i:=7) (v:=?_) rfl (by kernel_rfl) (by kernel_rfl) (by kernel_rfl) (fun _ _ _ h=>h) (Or.inl ⟨by rfl,fun W' hS=>?_⟩) hS0 ?_
     rotate_left
     ·obtain⟨s0,s1,s2⟩:=hS
      go_simp
      try with_reducible rfl
     refine wpAnyH_take (i:=8) (v:=?_) rfl (by kernel_rfl) (by kernel_rfl) (by kernel_rfl) (fun _ _ _ h=>h) (Or.inl ⟨by rfl,fun W' hS=>?_⟩) hS0 ?_
     rotate_left
     ·obtain⟨s0,s1,s2⟩:=hS
      go_simp
      try with_reducible rfl
     refine wpAnyH_take (i:=9) (v:=?_) rfl (by kernel_rfl) (by kernel_rfl) (by kernel_rfl) (fun _ _ _ h=>h) (Or.inl ⟨by rfl,fun W' hS=>?_⟩) hS0 ?_
     rotate_left
     ·obtain⟨s0,s1,s2⟩:=hS
      go_simp
      try with_reducible rfl
     refine wpAnyH_ready (rs:=[5,10]) (by kernel_rfl) (by simp) ?_
     refine AllReadyH.cons rfl (fun K9 hK9=>?_) (AllReadyH.cons rfl (fun K9 hK9=>?_) AllReadyH.nil)
     ·skip
      go_simp
      refine hK9.out _ _ hS0 (fun _=>?_)
      clear hK9 K9
      refine wpAnyH_ready (rs:=[10]) (by kernel_rfl) (by simp) ?_
      refine AllReadyH.cons rfl (fun K9 hK9=>?_) AllReadyH.nil
      go_simp
      refine hK9.out _ _ (HBS.out _ ((Below.refl B wc.drew).alloc hBc _)) (fun _=>?_)
      clear hK9 K9
      refine wpAnyH_ready (rs:=[11]) (by kernel_rfl) (by simp) ?_
      refine AllReadyH.cons rfl (fun K9 hK9=>?_) AllReadyH.nil
      refine step_append_lies _ (by rfl) (.tmp 42) (.tmp 47) 67 (by rfl) hs' 71 i0 _ 3 32 Tryd.underlying67 hi0 hz0 hz1 hz2 rfl (by decide) (.slice A2 gl c2) gl (g.flatMap Wd.cells) (by rfl) ((HCUR.out).alloc _) ⟨wc.heap.size,0,none⟩ 1 1 [.int .i64 xp,.int .i64 xq,.string xt] (by rfl) rfl (qa5 wc.drew _ _ _ _) (by simp [Value.oneCell']) (by decide) (by unfold maxLen;omega) (by omega) (by have:=HMS.out.high;simp;omega) _ rfl ?_
      intro g' cap' w2 hown' hgrow _ _
      have hgrow2:(wc.drew.alloc (.cells #[.int .i64 xp,.int .i64 xq,.string xt] 71)).grownBy w2 (Value.slice A2 g.length c2).ownBlock:=by rw [HGL.out];exact hgrow
      obtain⟨_,m2,m3⟩:=HMS.out.drew.mid (by decide) hgrow2
      have nw:=HMS.out.drew.add (x:=⟨xp,xq,xt⟩) (v':=.slice (some ⟨g',0,none⟩) (gl+1) cap') (by decide) hgrow2 (by rw [HGL.out];exact hown')
      rw [HK.out] at m2 m3 nw
      have hlow:=HMS.out.low
      have hB2:Below B wc.drew w2:=((Below.refl B wc.drew).alloc hBc _).grown hgrow (by simp;omega) (fun k e=>by have:=(HCUR.out.lt k e).1;omega)
      have hB3:Below B wc.drew (w2.setCell ⟨bo,k,none⟩ (.slice (some ⟨g',0,none⟩) (gl+1) cap')):=hB2.setCell (p:=⟨bo,k,none⟩) hbo1 _
      refine hK9.out _ _ (HBS.out _ hB2) (fun _=>?_)
      clear hK9 K9
      refine wpAnyH_ready (rs:=[12]) (by kernel_rfl) (by simp) ?_
      refine AllReadyH.cons rfl (fun K9 hK9=>?_) AllReadyH.nil
      go_simp
      refine hK9.out _ _ (HBS.out _ hB2) (fun _=>?_)
      clear hK9 K9
      refine wpAnyH_ready (rs:=[13]) (by kernel_rfl) (by simp) ?_
      refine AllReadyH.cons rfl (fun K9 hK9=>?_) AllReadyH.nil
      go_simp
      refine hK9.out _ _ (HBS.out _ hB3) (fun _=>?_)
      clear hK9 K9
      refine wpAnyH_done (by kernel_rfl) ?_ _
      go_wp2
      go_roundw
      case rel=>exact⟨i+1,by simp,hin,.inr ⟨G,g,⟨xp,xq,xt⟩,V,_,hs',HL.out,by rw [HTK.out];simp,by rw [List.length_take,← HN.out];omega,by have:=HGL.out;rw [List.length_take,← HN.out];omega,nw⟩,hbw.drew.trans hB3⟩
      case measure=>simp [RowKit.intOf]<;>omega
     ·skip
      go_simp
      refine hK9.out _ _ (HBS.out _ ((Below.refl B wc.drew).alloc hBc _)) (fun _=>?_)
      clear hK9 K9
      have hcd1:(wc.drew.alloc (.cells #[.int .i64 xp,.int .i64 xq,.string xt] 71)).cell? ⟨bo,k,none⟩=some (.slice A2 gl c2):=(World.cell?_alloc_lt _ _ _ hbo2).trans hcd
      refine wpAnyH_ready (rs:=[5]) (by kernel_rfl) (by simp) ?_
      refine AllReadyH.cons rfl (fun K9 hK9=>?_) AllReadyH.nil
      go_simp
      refine hK9.out _ _ (HBS.out _ ((Below.refl B wc.drew).alloc hBc _)) (fun _=>?_)
      clear hK9 K9
      refine wpAnyH_ready (rs:=[11]) (by kernel_rfl) (by simp) ?_
      refine AllReadyH.cons rfl (fun K9 hK9=>?_) AllReadyH.nil
      refine step_append_lies _ (by rfl) (.tmp 42) (.tmp 47) 67 (by rfl) hs' 71 i0 _ 3 32 Tryd.underlying67 hi0 hz0 hz1 hz2 rfl (by decide) (.slice A2 gl c2) gl (g.flatMap Wd.cells) (by rfl) ((HCUR.out).alloc _) ⟨wc.heap.size,0,none⟩ 1 1 [.int .i64 xp,.int .i64 xq,.string xt] (by rfl) rfl (qa5 wc.drew _ _ _ _) (by simp [Value.oneCell']) (by decide) (by unfold maxLen;omega) (by omega) (by have:=HMS.out.high;simp;omega) _ rfl ?_
      intro g' cap' w2 hown' hgrow _ _
      have hgrow2:(wc.drew.alloc (.cells #[.int .i64 xp,.int .i64 xq,.string xt] 71)).grownBy w2 (Value.slice A2 g.length c2).ownBlock:=by rw [HGL.out];exact hgrow
      obtain⟨_,m2,m3⟩:=HMS.out.drew.mid (by decide) hgrow2
      have nw:=HMS.out.drew.add (x:=⟨xp,xq,xt⟩) (v':=.slice (some ⟨g',0,none⟩) (gl+1) cap') (by decide) hgrow2 (by rw [HGL.out];exact hown')
      rw [HK.out] at m2 m3 nw
      have hlow:=HMS.out.low
      have hB2:Below B wc.drew w2:=((Below.refl B wc.drew).alloc hBc _).grown hgrow (by simp;omega) (fun k e=>by have:=(HCUR.out.lt k e).1;omega)
      have hB3:Below B wc.drew (w2.setCell ⟨bo,k,none⟩ (.slice (some ⟨g',0,none⟩) (gl+1) cap')):=hB2.setCell (p:=⟨bo,k,none⟩) hbo1 _
      refine hK9.out _ _ (HBS.out _ hB2) (fun _=>?_)
      clear hK9 K9
      refine wpAnyH_ready (rs:=[12]) (by kernel_rfl) (by simp) ?_
      refine AllReadyH.cons rfl (fun K9 hK9=>?_) AllReadyH.nil
      go_simp
      refine hK9.out _ _ (HBS.out _ hB2) (fun _=>?_)
      clear hK9 K9
      refine wpAnyH_ready (rs:=[13]) (by kernel_rfl) (by simp) ?_
      refine AllReadyH.cons rfl (fun K9 hK9=>?_) AllReadyH.nil
      go_simp
      refine hK9.out _ _ (HBS.out _ hB3) (fun _=>?_)
      clear hK9 K9
      refine wpAnyH_done (by kernel_rfl) ?_ _
      go_wp2
      go_roundw
      case rel=>exact⟨i+1,by simp,hin,.inr ⟨G,g,⟨xp,xq,xt⟩,V,_,hs',HL.out,by rw [HTK.out];simp,by rw [List.length_take,← HN.out];omega,by have:=HGL.out;rw [List.length_take,← HN.out];omega,nw⟩,hbw.drew.trans hB3⟩
      case measure=>simp [RowKit.intOf]<;>omega
  ·obtain rfl:i=n:=by omega
   rw [HN.out,List.take_length] at hls
   go_wp2
   go_ret
   exact⟨⟨_,_,by rw [← hB];exact hb1.size,rfl,hls⟩,hb1.trans (hbr.mono (by rw [← hB];exact hb1.size))⟩
theorem refLines_any (s:ByteArray) (hs:s.size≤65536) (w:World) :
  Calls Tryd.prog 26 #[.string s] w fun e w'=>(∃ A cap,e=.returned (.slice A (lns (textW s)).length cap)∧LRow w' w'.heap.size A (lns (textW s)))∧Below w.heap.size w w':=
 (refLines_ls s hs w).mono fun e w' ⟨⟨B,v,_,he,hls⟩,hb⟩=>by
  obtain⟨A2,c2,rfl,h2⟩:=lrow_own hls
  exact⟨⟨A2,c2,he,h2⟩,hb⟩
end Go.Proofs.YtcfknijdhmildaaDoor
end
section
namespace Go.Proofs.YtcfknijdhmildaaDoor
open Go.RowKit Go.Shelf Go.Lib Go.Proofs.YtcfknijdhmildaaDoorW.PrintWords
theorem qaU {W:World} {r:Nat} {t:TypeId} {a0 a1 a2 a3 a4:Value} (hb:W.heap[r]? = some (.cells #[a0,a1,a2,a3,a4] t (0,0))):W.cell? ⟨r,0,none⟩=some a0∧W.cell? ⟨r,1,none⟩=some a1∧W.cell? ⟨r,2,none⟩=some a2∧W.cell? ⟨r,3,none⟩=some a3∧W.cell? ⟨r,4,none⟩=some a4∧(∀ i,W.frozen? ⟨r,i,none⟩=false):=by
 refine⟨?_,?_,?_,?_,?_,fun i=>by simp [World.frozen?,hb]⟩<;>simp [World.cell?,hb]
theorem five_set {w:World} {r:Nat} {t:TypeId} {a0 a1 a2 a3 a4:Value} (h:w.heap[r]? = some (.cells #[a0,a1,a2,a3,a4] t (0,0))) (b0 b1 b2 b3 b4:Value) :
  (((((w.setCell ⟨r,0,none⟩ b0).setCell ⟨r,1,none⟩ b1).setCell ⟨r,2,none⟩ b2).setCell ⟨r,3,none⟩ b3).setCell ⟨r,4,none⟩ b4).heap[r]? = some (.cells #[b0,b1,b2,b3,b4] t (0,0)) ∧
  w.grownBy (((((w.setCell ⟨r,0,none⟩ b0).setCell ⟨r,1,none⟩ b1).setCell ⟨r,2,none⟩ b2).setCell ⟨r,3,none⟩ b3).setCell ⟨r,4,none⟩ b4) (some r):=
 ⟨blkPut (blkPut (blkPut (blkPut (blkPut h 0 b0 (cs':=#[b0,a1,a2,a3,a4]) (by simp)) 1 b1 (cs':=#[b0,b1,a2,a3,a4]) (by simp)) 2 b2 (cs':=#[b0,b1,b2,a3,a4]) (by simp)) 3 b3 (cs':=#[b0,b1,b2,b3,a4]) (by simp)) 4 b4 (cs':=#[b0,b1,b2,b3,b4]) (by simp),
  qam (qam (qam (qam (qas _ _ _ _) (qas _ _ _ _)) (qas _ _ _ _)) (qas _ _ _ _)) (qas _ _ _ _)⟩
def FrA (w wi:World) (r:Nat):Prop:=Below r w wi∧wi.heap[r]? = some (.cells #[.int .i64 0,.int .i64 0,.slice none 0 0,.int .i64 0,.int .i64 0] 39 (0,0))∧r<wi.heap.size
theorem FrA.below {w wi w':World} {r:Nat} (h:FrA w wi r) (hb:Below wi.heap.size wi w'):FrA w w' r:=
 ⟨h.1.trans (hb.mono (Nat.le_of_lt h.2.2)),(hb.block r h.2.2).trans h.2.1,Nat.lt_of_lt_of_le h.2.2 hb.size⟩
theorem FrA.far {w wi w':World} {r:Nat} (h:FrA w wi r) {ob:Option Nat} (hg:wi.grownBy w' ob) (hs:∀ s,ob=some s→r<s):FrA w w' r:=by
 have hl:=h.2.2
 have hb:Below (r+1) wi w':=⟨hg.os,hg.tape,hg.output,hg.size,fun j hj=>hg.block j (by omega) (fun e=>by have:=hs j e.symm;omega)⟩
 exact⟨h.1.trans (hb.mono (by omega)),(hb.block r (by omega)).trans h.2.1,Nat.lt_of_lt_of_le h.2.2 hb.size⟩
theorem FrA.put {w wi W:World} {r:Nat} (h:FrA w wi r) (hg:wi.grownBy W (some r)):Below r w W:=qar h.1 hg (Nat.le_of_lt h.2.2) (Nat.le_refl _)
theorem qaN {R:Ending→World→Prop} {tmps:Array Value} {W:World} {r:Nat} {t:TypeId} {a0 a1 a2 a3 a4:Value} (ht:tmps[2]?.getD undef=.pointer (some ⟨r,0,none⟩)) (hb:W.heap[r]? = some (.cells #[a0,a1,a2,a3,a4] t (0,0)))
  (hR:R (.returned (.agg #[a0,a1,a2,a3,a4])) W) :
  bodyPost Tryd.prog Tryd.f13 R .ret { tmps:=tmps,defers:=[] } W:=by
 refine bodyPost_ret ?_ rfl hR
 obtain⟨h0,h1,h2,h3,h4,_⟩:=qaU hb
 simp [results,Tryd.f13,go_sem,ht,h0,h1,h2,h3,h4]
def Qsp (w:World) (R:Int × Int × List Tk × Int × Int) (e:Ending) (w':World):Prop:=
 (∃ v,e=.returned (.agg #[.int .i64 R.1,.int .i64 R.2.1,v,.int .i64 R.2.2.2.1,.int .i64 R.2.2.2.2])∧Kd.R kTk 52 w' w.heap.size (fun _=>True) v R.2.2.1)∧Below w.heap.size w w'
theorem numP_ok {L:List Wd} {k:Nat} {most:Int} (h:(numP (nextP L k) most).2=true):k<L.length:=by
 rcases Nat.lt_or_ge k L.length with hk|hk
 ·exact hk
 ·rw [show nextP L k=ByteArray.empty by rw [nextP,List.getElem?_eq_none hk],numP_empty] at h
  simp at h
def LqI (w w1:World) (r xb:Nat) (sa sb size:Int) (Lr:List (List Wd)) (R:Int × Int × List Tk × Int × Int) (j:Nat) (acc:List Tk) (v:Value) (wr:World):Prop:=
 FrA w wr r∧wr.heap[xb]? = some (.cells #[.int .i64 sa,.int .i64 sb,v] 32 (0,0))∧Below xb w1 wr∧Kd.R kTk 52 wr xb (fun _=>True) v acc ∧
 (∀ x ∈ acc,x.ch.length≤1000000∧x.us.length≤1000000∧x.c≤9223372036854775807)∧acc.length≤j∧R=goP sa sb size acc (Lr.drop j)
theorem LqI.below {w w1 wr w':World} {r xb j:Nat} {sa sb size:Int} {Lr:List (List Wd)} {R:Int × Int × List Tk × Int × Int} {acc:List Tk} {v:Value} (h:LqI w w1 r xb sa sb size Lr R j acc v wr) (hb:Below wr.heap.size wr w'):LqI w w1 r xb sa sb size Lr R j acc v w':=by
 have l1:=lt_of_block h.2.1
 exact⟨h.1.below hb,(hb.block _ l1).trans h.2.1,h.2.2.1.trans (hb.mono (by omega)),Kd.R_below h.2.2.2.1 hb,h.2.2.2.2⟩
theorem LqI.app {w w1 W2 w9:World} {r xb j:Nat} {sa sb size:Int} {Lr:List (List Wd)} {R:Int × Int × List Tk × Int × Int} {acc:List Tk} {x:Tk} {v v1:Value} (h:LqI w w1 r xb sa sb size Lr R j acc v W2) (hr:r<xb)
  (hR1:Kd.R kTk 52 w9 xb (fun _=>True) v1 (acc++[x])) (hg:W2.grownBy w9 v.ownBlock) (hB:Below xb w1 w9) (hbx:x.ch.length≤1000000∧x.us.length≤1000000∧x.c≤9223372036854775807) :
  LqI w w1 r xb sa sb size Lr (goP sa sb size (acc++[x]) (Lr.drop (j+1))) (j+1) (acc++[x]) v1 (w9.setCell ⟨xb,2,none⟩ v1):=by
 have l1:=lt_of_block h.2.1
 obtain⟨inner,hown⟩:=Kd.R_own h.2.2.2.1
 have hv:∀ k,v.ownBlock=some k→xb≤k∧k<W2.heap.size:=hown.lt
 have g1:=(hg.block xb l1 (Kd.R_ne h.2.2.2.1 h.2.1 (by decide))).trans h.2.1
 have hs:=qas w9 xb 2 v1
 have l19:=lt_of_block g1
 refine⟨(h.1.far hg (fun s e=>by have:=hv s e;omega)).far hs (fun s e=>by injection e with e;omega),blkPut g1 2 v1 (by simp),qar hB hs (by omega) (Nat.le_refl _),R_keep1 hR1 g1 (by decide) hs,fun y hy=>?_,by have:=h.2.2.2.2.2.1;simp;omega,rfl⟩
 rcases List.mem_append.1 hy with hy|hy
 ·exact h.2.2.2.2.1 y hy
 ·rw [List.mem_singleton.1 hy];exact hbx
theorem refLine_bad (cap:Nat) (A:Option Addr) (L:List Wd) (w:World) (hn:L.length≤100000) (hL:∀ x ∈ L,x.t.size≤65536) (hr:WRow w w.heap.size A L) (p:Int) (h:taskG L=.error p) :
  Calls Tryd.prog 29 #[.slice A L.length cap] w fun e w'=>e=.returned (.agg #[.int .i64 0,.int .i64 0,.int .i64 0,.int .i64 0,.int .i64 0,.slice none 0 0,.slice none 0 0,.int .i64 p,.int .i64 10])∧Below w.heap.size w w':=by
 have:=refLine_any cap A L w hn hL hr
 rw [h] at this
 exact this
theorem refLine_good (cap:Nat) (A:Option Addr) (L:List Wd) (w:World) (hn:L.length≤100000) (hL:∀ x ∈ L,x.t.size≤65536) (hr:WRow w w.heap.size A L) (x:Tk) (h:taskG L=.ok x) :
  Calls Tryd.prog 29 #[.slice A L.length cap] w fun e w'=>(∃ A5 c5 A6 c6,e=.returned (.agg #[.int .i64 x.id,.int .i64 x.c,.int .i64 x.d,.int .i64 x.t,.int .i64 x.p,.slice A5 x.ch.length c5,.slice A6 x.us.length c6,.int .i64 (endP L),.int .i64 0])∧OwnI w' w.heap.size 2 A5 c5 x.ch∧OwnI w' w.heap.size 3 A6 c6 x.us)∧Below w.heap.size w w':=by
 have:=refLine_any cap A L w hn hL hr
 rw [h] at this
 exact this
def CkSays:Prop:=∀ (sets rel:Int) (A:Option Addr) (cap:Nat) (L:List Tk) (W:World),L.length≤70000→(∀ x ∈ L,x.ch.length≤1000000∧x.us.length≤1000000∧x.c≤9223372036854775807)→Kd.C kTk W A L.length L→L.length≤cap →
 Calls Tryd.prog 16 #[.agg #[.int .i64 sets,.int .i64 rel,.slice A L.length cap]] W fun e w'=>e=.returned (.int .i64 (checkE sets rel L))∧Below W.heap.size W w'
theorem refParse_any (HCK:CkSays) (s:ByteArray) (hs:s.size≤65536) (w:World) :
  Calls Tryd.prog 13 #[.string s] w fun e w'=>Qsp w (parseP s) e w':=by
 have hN:=textW_len s
 have hLL:=lns_len (textW s)
 have hEE:=lns_each' (textW s)
 have hWW:=lns_words (textW s) (fun x hx=>(text_bd s x hx).1.1)
 have hTT:=lns_texts s hs
 have HCH:=Lib.hid HCK
 have hF0:FrA w (w.alloc (.cells #[.int .i64 0,.int .i64 0,.slice none 0 0,.int .i64 0,.int .i64 0] 39)) w.heap.size:=⟨(Below.refl w.heap.size w).alloc (Nat.le_refl _) _,heap_alloc_new w _,by simp⟩
 have H1:=Lib.hid (refLines_any s hs (w.alloc (.cells #[.int .i64 0,.int .i64 0,.slice none 0 0,.int .i64 0,.int .i64 0] 39)))
 obtain⟨R,hR⟩:∃ z,z=parseP s:=⟨_,rfl⟩
 rw [← hR]
 unfold parseP at hR
 generalize lns (textW s)=Ls at *
 obtain⟨n,hn⟩:∃ z,Ls.length=z:=⟨_,rfl⟩
 rw [hn] at H1 hLL
 have HN:=Lib.hid hn
 have HE:=Lib.hid (And.intro hEE (And.intro hWW hTT))
 have HR:=Lib.hid hR
 clear hn hEE hWW hTT hR HCK
 generalize (textW s).length=nt at *
 go_enter Tryd.func13,Tryd.ntmps13
 go_upto_region 1 with (fail)
 generalize w.alloc (.cells #[.int .i64 0,.int .i64 0,.slice none 0 0,.int .i64 0,.int .i64 0] 39)=w0 at hF0 H1 ⊢
 obtain⟨r,hr⟩:∃ z,w.heap.size=z:=⟨_,rfl⟩
 rw [hr] at hF0 ⊢
 have F0:=Lib.hid hF0
 clear hF0
 go_upto_region 2 with (go_at_call 26;refine H1.out.mono ?_;rintro e w1 ⟨⟨A1,c1,rfl,r1⟩,hb1⟩)
 have F1:=F0.out.below hb1
 have FR:=Lib.hid F1
 clear F1 F0 hb1 H1
 by_cases h0:n=0
 ·subst h0
  have HE0:Hid (R=(0,0,[],(s.size:Int),10)):=Lib.hid (by rw [HR.out,List.eq_nil_of_length_eq_zero HN.out])
  obtain⟨q0,q1,q2,q3,q4,hqz⟩:=qaU FR.out.2.1
  have HFR:=Lib.hid FR.out
  go_wp2
  obtain⟨s1,s2⟩:=five_set HFR.out.2.1 (.int .i64 0) (.int .i64 0) (.slice none 0 0) (.int .i64 s.size) (.int .i64 10)
  generalize (((((w1.setCell ⟨r,0,none⟩ (.int .i64 0)).setCell ⟨r,1,none⟩ (.int .i64 0)).setCell ⟨r,2,none⟩ (.slice none 0 0)).setCell ⟨r,3,none⟩ (.int .i64 s.size)).setCell ⟨r,4,none⟩ (.int .i64 10))=W at s1 s2 ⊢
  refine qaN (r:=r) ?_ s1 ?_
  ·rfl
  rw [HE0.out]
  exact⟨⟨_,rfl,Kd.R_nil _ _ _ _ _⟩,by rw [hr];exact HFR.out.put s2⟩
 have hpos:0<n:=by omega
 have hne:((n:Int) == 0)=false:=by simpa using h0
 obtain⟨bA,oA,rfl,hltA,hcA⟩:=r1 (by rw [HN.out];exact hpos)
 obtain⟨La,Lr,rfl⟩:∃ x y,Ls=x::y:=by
  cases Ls with
  |nil=>have:=HN.out;simp at this;omega
  |cons x y=>exact⟨x,y,rfl⟩
 obtain⟨Aw,cw,x0,hrw⟩:=hcA 0 (by simp)
 simp only [List.getElem_cons_zero,Nat.add_zero] at x0 hrw
 have hlenA:=HE.out.1 La List.mem_cons_self
 have hneA:=(HE.out.2.1 La List.mem_cons_self).1
 have htxA:=HE.out.2.2 La List.mem_cons_self
 obtain⟨N1,hN1⟩:∃ z,Lr.length=z:=⟨_,rfl⟩
 have hnN:n=N1+1:=by have:=HN.out;simp at this;omega
 have HL1:=Lib.hid hN1
 have hl64:N1+1≤70000:=by omega
 have HNN:=Lib.hid hnN
 clear hnN
 have hHR:Hid (R=match headG La with|.error p=>(0,0,[],p,10)|.ok x=>goP x.1 x.2 s.size [] Lr):=Lib.hid HR.out
 have HC:=Lib.hid hcA
 clear hN1 HN h0 HR hcA
 go_upto_region 6 with (fail)
 have hx3:=heap_alloc_new w1 (.cells #[.int .i64 0,.int .i64 0,.slice none 0 0] 32)
 have ha3:=(Below.refl w1.heap.size w1).alloc (Nat.le_refl _) (.cells #[.int .i64 0,.int .i64 0,.slice none 0 0] 32)
 have F3:=FR.out.below ha3
 have hrx:=FR.out.2.2
 have hBx:=ha3
 generalize w1.alloc (.cells #[.int .i64 0,.int .i64 0,.slice none 0 0] 32)=w3 at hx3 ha3 F3 hBx ⊢
 obtain⟨xb,hxb⟩:∃ z,w1.heap.size=z:=⟨_,rfl⟩
 rw [hxb] at hx3 hltA hrw hrx hBx ⊢
 have HXB:=Lib.hid hxb
 clear FR x0 hxb
 have FR:=Lib.hid F3
 have HX:=Lib.hid hx3
 clear F3 hx3 ha3
 obtain⟨nl,hnl⟩:∃ z,La.length=z:=⟨_,rfl⟩
 have HNL:=Lib.hid hnl
 have hnl0:0<nl:=by rw [← hnl];exact List.length_pos_iff.2 hneA
 rw [hnl] at hlenA ⊢
 obtain⟨bw,ow,rfl,hltw,hcw⟩:=hrw (by omega)
 have HW:=Lib.hid hcw
 have HRW:=Lib.hid hrw
 obtain⟨y0,yq,y2⟩:=hcw 0 (by omega)
 clear yq
 simp only [Nat.zero_mul,Nat.add_zero] at y0 y2
 have hp0:Hid (wrongP La 0=La[0].p):=Lib.hid (by rw [wrongP,List.getElem?_eq_getElem (by omega)])
 have hx0:nextP La 0=La[0].t:=by rw [nextP,List.getElem?_eq_getElem (by omega)]
 rw [← hx0] at y2
 generalize La[0].p=px at y0 hp0
 have y0:=(hBx.cell (p:=⟨bw,ow,none⟩) hltw).trans y0
 have y2:=(hBx.cell (p:=⟨bw,ow+2,none⟩) hltw).trans y2
 clear hx0 hcw hnl
 cases h1:decide (nextP La 0=⟨#[99,97,99,104,101]⟩) with
 |false=>
  have HE0:Hid (R=(0,0,[],px,10)):=Lib.hid (by rw [hHR.out,headG,if_neg (by simpa using h1),hp0.out])
  have hb1:¬ (nextP La 0).toList=[99,97,99,104,101]:=by
   have:=bytes_ne (of_decide_eq_false h1)
   simpa using this
  have hb2:((nextP La 0).toList == [99,97,99,104,101])=false:=by simpa using hb1
  clear h1
  generalize nextP La 0=xx at y2 hb1 hb2
  obtain⟨q0,q1,q2,q3,q4,hqz⟩:=qaU FR.out.2.1
  have HFR:=Lib.hid FR.out
  go_wp2
  obtain⟨s1,s2⟩:=five_set HFR.out.2.1 (.int .i64 0) (.int .i64 0) (.slice none 0 0) (.int .i64 px) (.int .i64 10)
  generalize (((((w3.setCell ⟨r,0,none⟩ (.int .i64 0)).setCell ⟨r,1,none⟩ (.int .i64 0)).setCell ⟨r,2,none⟩ (.slice none 0 0)).setCell ⟨r,3,none⟩ (.int .i64 px)).setCell ⟨r,4,none⟩ (.int .i64 10))=W at s1 s2 ⊢
  refine qaN (r:=r) ?_ s1 ?_
  ·rfl
  rw [HE0.out]
  exact⟨⟨_,rfl,Kd.R_nil _ _ _ _ _⟩,by rw [hr];exact HFR.out.put s2⟩
 |true=>
 have hHR1:Hid (R=match (if (numP (nextP La 1) 256).2=true then if (numP (nextP La 2) 1000).2=true then if 3=La.length then .ok ((numP (nextP La 1) 256).1,(numP (nextP La 2) 1000).1) else .error (wrongP La 3) else .error (wrongP La 2) else .error (wrongP La 1):Except Int (Int × Int)) with|.error p=>(0,0,[],p,10)|.ok x=>goP x.1 x.2 s.size [] Lr):=Lib.hid (by rw [hHR.out,headG,if_pos (by simpa using h1)])
 rw [of_decide_eq_true h1] at y2
 clear hHR h1 y0 hp0
 have HWR:=Lib.hid (fun (k:Nat) (W:World) (hk:k≤1000000) (h:WRow W W.heap.size (some ⟨bw,ow,none⟩) La)=>HNL.out ▸ refWrong_any' k cw (some ⟨bw,ow,none⟩) La W (by rw [HNL.out];omega) hk h)
 go_wp2
 go_loopw [6] (fun v6 wr=>∃ (i:Nat),v6=.int .i64 i∧1≤i∧i≤3∧Hid (FrA w wr r)∧Hid (wr.heap[xb]? = some (.cells #[.int .i64 (if 1<i then (numP (nextP La 1) 256).1 else 0),.int .i64 (if 2<i then (numP (nextP La 2) 1000).1 else 0),.slice none 0 0] 32 (0,0)))∧Hid (Below xb w1 wr)∧Hid ((1<i→(numP (nextP La 1) 256).2=true)∧(2<i→(numP (nextP La 2) 1000).2=true))) (fun v6 _=>3 - (RowKit.intOf v6).toNat)
 case atStart=>exact⟨1,rfl,Nat.le_refl _,by omega,FR,HX,Lib.hid hBx,Lib.hid ⟨fun h=>absurd h (by decide),fun h=>absurd h (by decide)⟩⟩
 case round=>
  obtain⟨i,rfl,hi1,hi3,hF,hx,hBw,hok⟩:=hrel
  by_cases hi:i<3
  ·obtain rfl|rfl:i=1∨i=2:=by omega
   ·have F8:=hF.out.below ((Below.refl wr.heap.size wr).alloc (Nat.le_refl _) (.cells #[.int .i64 0,.bool false] 73))
    have hn8:=heap_alloc_new wr (.cells #[.int .i64 0,.bool false] 73)
    have hb8':=(Below.refl wr.heap.size wr).alloc (Nat.le_refl _) (.cells #[.int .i64 0,.bool false] 73)
    have hlx:=lt_of_block hx.out
    have hB8:=hBw.out.trans (hb8'.mono (Nat.le_of_lt hlx))
    have hx8:=(hb8'.block xb hlx).trans hx.out
    have hrw8:=hF.out.2.2
    go_upto_region 15 with (fail)
    generalize wr.alloc (.cells #[.int .i64 0,.bool false] 73)=w5 at F8 hn8 hB8 hx8 ⊢
    obtain⟨nb,hnb⟩:∃ z,wr.heap.size=z:=⟨_,rfl⟩
    rw [hnb] at hn8 hlx hrw8 ⊢
    obtain⟨m0,m1,mz⟩:=qaS hn8
    have H8:=Lib.hid (And.intro F8 (And.intro hB8 (And.intro hx8 hn8)))
    clear F8 hn8 hB8 hx8 hb8' hnb
    by_cases hlt:1<nl
    rotate_left
    ·have HE:Hid (R=(0,0,[],wrongP La 1,10)):=Lib.hid (by rw [hHR1.out,show nextP La 1=ByteArray.empty by rw [nextP,List.getElem?_eq_none (by rw [HNL.out];omega)],numP_empty,if_neg (by decide)])
     have hlz:¬ (1:Int)<(nl:Int):=by omega
     have FS:=Lib.hid (And.intro H8.out.1 (And.intro H8.out.2.1 H8.out.2.2.1))
     go_upto_region 19 with (first|(go_at_call 28;refine (HWR.out 1 _ (by omega) (((HRW.out.below FS.out.2.1 (Nat.le_refl _)).more (by have:=lt_of_block FS.out.2.2;omega)))).mono ?_;rintro e w8 ⟨rfl,hb8⟩))
     have ha9:=(Below.refl w8.heap.size w8).alloc (Nat.le_refl _) (.cells #[.int .i64 0,.int .i64 0,.int .i64 0,.int .i64 0,.int .i64 0,.slice none 0 0,.slice none 0 0,.int .i64 (wrongP La 1),.int .i64 10] 76)
     have h99:=heap_alloc_new w8 (.cells #[.int .i64 0,.int .i64 0,.int .i64 0,.int .i64 0,.int .i64 0,.slice none 0 0,.slice none 0 0,.int .i64 (wrongP La 1),.int .i64 10] 76)
     have F9:=FS.out.1.below (hb8.trans (ha9.mono hb8.size))
     generalize w8.alloc (.cells #[.int .i64 0,.int .i64 0,.int .i64 0,.int .i64 0,.int .i64 0,.slice none 0 0,.slice none 0 0,.int .i64 (wrongP La 1),.int .i64 10] 76)=w9 at h99 F9 ⊢
     obtain⟨_,_,_,_,_,_,_,j7,j8,_⟩:=qaD h99
     obtain⟨q0,q1,q2,q3,q4,hqz⟩:=qaU F9.2.1
     have HFR:=Lib.hid F9
     go_wp2
     obtain⟨s1,s2⟩:=five_set HFR.out.2.1 (.int .i64 0) (.int .i64 0) (.slice none 0 0) (.int .i64 (wrongP La 1)) (.int .i64 10)
     generalize (((((w9.setCell ⟨r,0,none⟩ (.int .i64 0)).setCell ⟨r,1,none⟩ (.int .i64 0)).setCell ⟨r,2,none⟩ (.slice none 0 0)).setCell ⟨r,3,none⟩ (.int .i64 (wrongP La 1))).setCell ⟨r,4,none⟩ (.int .i64 10))=W at s1 s2 ⊢
     refine qaN (r:=r) ?_ s1 ?_
     ·rfl
     rw [HE.out]
     exact⟨⟨_,rfl,Kd.R_nil _ _ _ _ _⟩,by rw [hr];exact HFR.out.put s2⟩
    ·have hlz:(1:Int)<(nl:Int):=by omega
     have z2:=(HW.out 1 (by rw [HNL.out];exact hlt)).2.2
     have hxx:nextP La 1=(La[1]'(by rw [HNL.out];exact hlt)).t:=by rw [nextP,List.getElem?_eq_getElem (by rw [HNL.out];exact hlt)]
     rw [← hxx] at z2
     have z2:=(H8.out.2.1.cell (p:=⟨bw,ow+1 * 3+2,none⟩) hltw).trans z2
     simp only [Nat.one_mul] at z2
     have HQ:=Lib.hid (fun W=>refNumber_P (nextP La 1) 256 W (Nat.le_trans (qa3 htxA 1) (by decide)) (by decide))
     have hHR2:=Lib.hid hHR1.out
     have hV:∃ q,numP (nextP La 1) 256=q:=⟨_,rfl⟩
     obtain⟨⟨vn,ok⟩,hV⟩:=hV
     rw [hV] at HQ
     have HVV:=Lib.hid hV
     clear hxx hV
     generalize nextP La 1=xx at z2 HQ
     go_upto_region 17 with (first|(go_at_call 27;refine (HQ.out _).mono ?_;rintro e w6 ⟨rfl,hb6⟩;have hn6:=(hb6.block nb (lt_of_block H8.out.2.2.2)).trans H8.out.2.2.2;obtain⟨p0,p1,pz⟩:=qaS hn6;have H6:=Lib.hid (And.intro (H8.out.1.below hb6) (And.intro (H8.out.2.1.trans (hb6.mono (by have:=lt_of_block H8.out.2.2.1;omega))) (And.intro ((hb6.block xb (lt_of_block H8.out.2.2.1)).trans H8.out.2.2.1) hn6)));clear hb6 hn6))
     obtain⟨s1,s2⟩:=two_set H6.out.2.2.2 (.int .i64 vn) (.bool ok)
     have F7:=H6.out.1.far s2 (fun s e=>by injection e with e;omega)
     have hB7:=qar H6.out.2.1 s2 (by have:=lt_of_block H6.out.2.2.1;omega) (by omega)
     have hx7:=(s2.block xb (lt_of_block H6.out.2.2.1) (fun e=>by injection e with e;omega)).trans H6.out.2.2.1
     generalize (w6.setCell ⟨nb,0,none⟩ (.int .i64 vn)).setCell ⟨nb,1,none⟩ (.bool ok)=w7 at s1 s2 F7 hB7 hx7 ⊢
     obtain⟨k0,k1,_⟩:=qaS s1
     have FS:=Lib.hid (And.intro F7 (And.intro hB7 hx7))
     clear F7 hB7 hx7 s1 s2 p0 p1 pz m0 m1 mz H6 H8
     cases ok with
     |false=>
      have HE:Hid (R=(0,0,[],wrongP La 1,10)):=Lib.hid (by rw [hHR1.out,HVV.out,if_neg (by simp)])
      go_upto_region 19 with (first|(go_at_call 28;refine (HWR.out 1 _ (by omega) (((HRW.out.below FS.out.2.1 (Nat.le_refl _)).more (by have:=lt_of_block FS.out.2.2;omega)))).mono ?_;rintro e w8 ⟨rfl,hb8⟩))
      have ha9:=(Below.refl w8.heap.size w8).alloc (Nat.le_refl _) (.cells #[.int .i64 0,.int .i64 0,.int .i64 0,.int .i64 0,.int .i64 0,.slice none 0 0,.slice none 0 0,.int .i64 (wrongP La 1),.int .i64 10] 76)
      have h99:=heap_alloc_new w8 (.cells #[.int .i64 0,.int .i64 0,.int .i64 0,.int .i64 0,.int .i64 0,.slice none 0 0,.slice none 0 0,.int .i64 (wrongP La 1),.int .i64 10] 76)
      have F9:=FS.out.1.below (hb8.trans (ha9.mono hb8.size))
      generalize w8.alloc (.cells #[.int .i64 0,.int .i64 0,.int .i64 0,.int .i64 0,.int .i64 0,.slice none 0 0,.slice none 0 0,.int .i64 (wrongP La 1),.int .i64 10] 76)=w9 at h99 F9 ⊢
      obtain⟨_,_,_,_,_,_,_,j7,j8,_⟩:=qaD h99
      obtain⟨q0,q1,q2,q3,q4,hqz⟩:=qaU F9.2.1
      have HFR:=Lib.hid F9
      go_wp2
      obtain⟨s1,s2⟩:=five_set HFR.out.2.1 (.int .i64 0) (.int .i64 0) (.slice none 0 0) (.int .i64 (wrongP La 1)) (.int .i64 10)
      generalize (((((w9.setCell ⟨r,0,none⟩ (.int .i64 0)).setCell ⟨r,1,none⟩ (.int .i64 0)).setCell ⟨r,2,none⟩ (.slice none 0 0)).setCell ⟨r,3,none⟩ (.int .i64 (wrongP La 1))).setCell ⟨r,4,none⟩ (.int .i64 10))=W at s1 s2 ⊢
      refine qaN (r:=r) ?_ s1 ?_
      ·rfl
      rw [HE.out]
      exact⟨⟨_,rfl,Kd.R_nil _ _ _ _ _⟩,by rw [hr];exact HFR.out.put s2⟩
     |true=>
      obtain⟨e0,e1,e2,ez⟩:=qaB FS.out.2.2
      go_wp2
      have htx:=blkPut FS.out.2.2 0 (.int .i64 vn) (cs':=#[.int .i64 (if 1<2 then (numP (nextP La 1) 256).1 else 0),.int .i64 (if 2<2 then (numP (nextP La 2) 1000).1 else 0),.slice none 0 0]) (by simp [HVV.out])
      have hgx:=qas w7 xb 0 (.int .i64 vn)
      have hFx:=Lib.hid (FS.out.1.far hgx (fun s e=>by injection e with e;omega))
      have hBx':=Lib.hid (qar FS.out.2.1 hgx (by have:=lt_of_block FS.out.2.2;omega) (Nat.le_refl _))
      have hoks:=Lib.hid (show (1<2→(numP (nextP La 1) 256).2=true)∧(2<2→(numP (nextP La 2) 1000).2=true) from ⟨fun _=>by rw [HVV.out],fun h=>absurd h (by decide)⟩)
      go_roundw
      case rel=>exact⟨2,by simp,by omega,by omega,hFx,Lib.hid htx,hBx',hoks⟩
      case measure=>simp [RowKit.intOf]
   ·have F8:=hF.out.below ((Below.refl wr.heap.size wr).alloc (Nat.le_refl _) (.cells #[.int .i64 0,.bool false] 73))
    have hn8:=heap_alloc_new wr (.cells #[.int .i64 0,.bool false] 73)
    have hb8':=(Below.refl wr.heap.size wr).alloc (Nat.le_refl _) (.cells #[.int .i64 0,.bool false] 73)
    have hlx:=lt_of_block hx.out
    have hB8:=hBw.out.trans (hb8'.mono (Nat.le_of_lt hlx))
    have hx8:=(hb8'.block xb hlx).trans hx.out
    have hrw8:=hF.out.2.2
    go_upto_region 15 with (fail)
    generalize wr.alloc (.cells #[.int .i64 0,.bool false] 73)=w5 at F8 hn8 hB8 hx8 ⊢
    obtain⟨nb,hnb⟩:∃ z,wr.heap.size=z:=⟨_,rfl⟩
    rw [hnb] at hn8 hlx hrw8 ⊢
    obtain⟨m0,m1,mz⟩:=qaS hn8
    have H8:=Lib.hid (And.intro F8 (And.intro hB8 (And.intro hx8 hn8)))
    clear F8 hn8 hB8 hx8 hb8' hnb
    by_cases hlt:2<nl
    rotate_left
    ·have HE:Hid (R=(0,0,[],wrongP La 2,10)):=Lib.hid (by rw [hHR1.out,if_pos (hok.out.1 (by omega)),show nextP La 2=ByteArray.empty by rw [nextP,List.getElem?_eq_none (by rw [HNL.out];omega)],numP_empty,if_neg (by decide)])
     have hlz:¬ (2:Int)<(nl:Int):=by omega
     have FS:=Lib.hid (And.intro H8.out.1 (And.intro H8.out.2.1 H8.out.2.2.1))
     go_upto_region 19 with (first|(go_at_call 28;refine (HWR.out 2 _ (by omega) (((HRW.out.below FS.out.2.1 (Nat.le_refl _)).more (by have:=lt_of_block FS.out.2.2;omega)))).mono ?_;rintro e w8 ⟨rfl,hb8⟩))
     have ha9:=(Below.refl w8.heap.size w8).alloc (Nat.le_refl _) (.cells #[.int .i64 0,.int .i64 0,.int .i64 0,.int .i64 0,.int .i64 0,.slice none 0 0,.slice none 0 0,.int .i64 (wrongP La 2),.int .i64 10] 76)
     have h99:=heap_alloc_new w8 (.cells #[.int .i64 0,.int .i64 0,.int .i64 0,.int .i64 0,.int .i64 0,.slice none 0 0,.slice none 0 0,.int .i64 (wrongP La 2),.int .i64 10] 76)
     have F9:=FS.out.1.below (hb8.trans (ha9.mono hb8.size))
     generalize w8.alloc (.cells #[.int .i64 0,.int .i64 0,.int .i64 0,.int .i64 0,.int .i64 0,.slice none 0 0,.slice none 0 0,.int .i64 (wrongP La 2),.int .i64 10] 76)=w9 at h99 F9 ⊢
     obtain⟨_,_,_,_,_,_,_,j7,j8,_⟩:=qaD h99
     obtain⟨q0,q1,q2,q3,q4,hqz⟩:=qaU F9.2.1
     have HFR:=Lib.hid F9
     go_wp2
     obtain⟨s1,s2⟩:=five_set HFR.out.2.1 (.int .i64 0) (.int .i64 0) (.slice none 0 0) (.int .i64 (wrongP La 2)) (.int .i64 10)
     generalize (((((w9.setCell ⟨r,0,none⟩ (.int .i64 0)).setCell ⟨r,1,none⟩ (.int .i64 0)).setCell ⟨r,2,none⟩ (.slice none 0 0)).setCell ⟨r,3,none⟩ (.int .i64 (wrongP La 2))).setCell ⟨r,4,none⟩ (.int .i64 10))=W at s1 s2 ⊢
     refine qaN (r:=r) ?_ s1 ?_
     ·rfl
     rw [HE.out]
     exact⟨⟨_,rfl,Kd.R_nil _ _ _ _ _⟩,by rw [hr];exact HFR.out.put s2⟩
    ·have hlz:(2:Int)<(nl:Int):=by omega
     have z2:=(HW.out 2 (by rw [HNL.out];exact hlt)).2.2
     have hxx:nextP La 2=(La[2]'(by rw [HNL.out];exact hlt)).t:=by rw [nextP,List.getElem?_eq_getElem (by rw [HNL.out];exact hlt)]
     rw [← hxx] at z2
     have z2:=(H8.out.2.1.cell (p:=⟨bw,ow+2 * 3+2,none⟩) hltw).trans z2
     simp only [Nat.reduceMul] at z2
     have HQ:=Lib.hid (fun W=>refNumber_P (nextP La 2) 1000 W (Nat.le_trans (qa3 htxA 2) (by decide)) (by decide))
     have hHR2:=Lib.hid hHR1.out
     have hV:∃ q,numP (nextP La 2) 1000=q:=⟨_,rfl⟩
     obtain⟨⟨vn,ok⟩,hV⟩:=hV
     rw [hV] at HQ
     have HVV:=Lib.hid hV
     clear hxx hV
     generalize nextP La 2=xx at z2 HQ
     go_upto_region 17 with (first|(go_at_call 27;refine (HQ.out _).mono ?_;rintro e w6 ⟨rfl,hb6⟩;have hn6:=(hb6.block nb (lt_of_block H8.out.2.2.2)).trans H8.out.2.2.2;obtain⟨p0,p1,pz⟩:=qaS hn6;have H6:=Lib.hid (And.intro (H8.out.1.below hb6) (And.intro (H8.out.2.1.trans (hb6.mono (by have:=lt_of_block H8.out.2.2.1;omega))) (And.intro ((hb6.block xb (lt_of_block H8.out.2.2.1)).trans H8.out.2.2.1) hn6)));clear hb6 hn6))
     obtain⟨s1,s2⟩:=two_set H6.out.2.2.2 (.int .i64 vn) (.bool ok)
     have F7:=H6.out.1.far s2 (fun s e=>by injection e with e;omega)
     have hB7:=qar H6.out.2.1 s2 (by have:=lt_of_block H6.out.2.2.1;omega) (by omega)
     have hx7:=(s2.block xb (lt_of_block H6.out.2.2.1) (fun e=>by injection e with e;omega)).trans H6.out.2.2.1
     generalize (w6.setCell ⟨nb,0,none⟩ (.int .i64 vn)).setCell ⟨nb,1,none⟩ (.bool ok)=w7 at s1 s2 F7 hB7 hx7 ⊢
     obtain⟨k0,k1,_⟩:=qaS s1
     have FS:=Lib.hid (And.intro F7 (And.intro hB7 hx7))
     clear F7 hB7 hx7 s1 s2 p0 p1 pz m0 m1 mz H6 H8
     cases ok with
     |false=>
      have HE:Hid (R=(0,0,[],wrongP La 2,10)):=Lib.hid (by rw [hHR1.out,if_pos (hok.out.1 (by omega)),HVV.out,if_neg (by simp)])
      go_upto_region 19 with (first|(go_at_call 28;refine (HWR.out 2 _ (by omega) (((HRW.out.below FS.out.2.1 (Nat.le_refl _)).more (by have:=lt_of_block FS.out.2.2;omega)))).mono ?_;rintro e w8 ⟨rfl,hb8⟩))
      have ha9:=(Below.refl w8.heap.size w8).alloc (Nat.le_refl _) (.cells #[.int .i64 0,.int .i64 0,.int .i64 0,.int .i64 0,.int .i64 0,.slice none 0 0,.slice none 0 0,.int .i64 (wrongP La 2),.int .i64 10] 76)
      have h99:=heap_alloc_new w8 (.cells #[.int .i64 0,.int .i64 0,.int .i64 0,.int .i64 0,.int .i64 0,.slice none 0 0,.slice none 0 0,.int .i64 (wrongP La 2),.int .i64 10] 76)
      have F9:=FS.out.1.below (hb8.trans (ha9.mono hb8.size))
      generalize w8.alloc (.cells #[.int .i64 0,.int .i64 0,.int .i64 0,.int .i64 0,.int .i64 0,.slice none 0 0,.slice none 0 0,.int .i64 (wrongP La 2),.int .i64 10] 76)=w9 at h99 F9 ⊢
      obtain⟨_,_,_,_,_,_,_,j7,j8,_⟩:=qaD h99
      obtain⟨q0,q1,q2,q3,q4,hqz⟩:=qaU F9.2.1
      have HFR:=Lib.hid F9
      go_wp2
      obtain⟨s1,s2⟩:=five_set HFR.out.2.1 (.int .i64 0) (.int .i64 0) (.slice none 0 0) (.int .i64 (wrongP La 2)) (.int .i64 10)
      generalize (((((w9.setCell ⟨r,0,none⟩ (.int .i64 0)).setCell ⟨r,1,none⟩ (.int .i64 0)).setCell ⟨r,2,none⟩ (.slice none 0 0)).setCell ⟨r,3,none⟩ (.int .i64 (wrongP La 2))).setCell ⟨r,4,none⟩ (.int .i64 10))=W at s1 s2 ⊢
      refine qaN (r:=r) ?_ s1 ?_
      ·rfl
      rw [HE.out]
      exact⟨⟨_,rfl,Kd.R_nil _ _ _ _ _⟩,by rw [hr];exact HFR.out.put s2⟩
     |true=>
      obtain⟨e0,e1,e2,ez⟩:=qaB FS.out.2.2
      go_wp2
      have htx:=blkPut FS.out.2.2 1 (.int .i64 vn) (cs':=#[.int .i64 (if 1<3 then (numP (nextP La 1) 256).1 else 0),.int .i64 (if 2<3 then (numP (nextP La 2) 1000).1 else 0),.slice none 0 0]) (by simp [HVV.out])
      have hgx:=qas w7 xb 1 (.int .i64 vn)
      have hFx:=Lib.hid (FS.out.1.far hgx (fun s e=>by injection e with e;omega))
      have hBx':=Lib.hid (qar FS.out.2.1 hgx (by have:=lt_of_block FS.out.2.2;omega) (Nat.le_refl _))
      have hoks:=Lib.hid (show (1<3→(numP (nextP La 1) 256).2=true)∧(2<3→(numP (nextP La 2) 1000).2=true) from ⟨fun _=>hok.out.1 (by omega),fun _=>by rw [HVV.out]⟩)
      go_roundw
      case rel=>exact⟨3,by simp,by omega,by omega,hFx,Lib.hid htx,hBx',hoks⟩
      case measure=>simp [RowKit.intOf]
  ·obtain rfl:i=3:=by omega
   have o1:=hok.out.1 (by omega)
   have o2:=hok.out.2 (by omega)
   have h3n:=numP_ok o2
   rw [HNL.out] at h3n
   have hHR3:=Lib.hid (hHR1.out)
   have hRR:Hid (R=match (if 3=La.length then .ok ((numP (nextP La 1) 256).1,(numP (nextP La 2) 1000).1) else .error (wrongP La 3):Except Int (Int × Int)) with|.error p=>(0,0,[],p,10)|.ok x=>goP x.1 x.2 s.size [] Lr):=Lib.hid (by rw [hHR1.out,if_pos o1,if_pos o2])
   have hxx:=hx.out
   rw [if_pos (by decide),if_pos (by decide)] at hxx
   generalize (numP (nextP La 1) 256).1=sa at hxx hRR
   generalize (numP (nextP La 2) 1000).1=sb at hxx hRR
   have HXX:=Lib.hid hxx
   clear o1 o2 hHR3 hHR1 hok hx hxx hi hi1 hi3 HX
   by_cases h3:3<nl
   ·have hlz:(3:Int)<(nl:Int):=by omega
    have z3:=(HW.out 3 (by rw [HNL.out];exact h3)).1
    have hp3:wrongP La 3=(La[3]'(by rw [HNL.out];exact h3)).p:=by rw [wrongP,List.getElem?_eq_getElem (by rw [HNL.out];exact h3)]
    rw [← hp3] at z3
    clear hp3
    have z3:=(hBw.out.cell (p:=⟨bw,ow+3 * 3,none⟩) hltw).trans z3
    simp only [Nat.reduceMul] at z3
    have HE:Hid (R=(0,0,[],wrongP La 3,10)):=Lib.hid (by rw [hRR.out,if_neg (by rw [HNL.out];omega)])
    obtain⟨q0,q1,q2,q3,q4,hqz⟩:=qaU hF.out.2.1
    have HFR:=Lib.hid hF.out
    go_wp2
    obtain⟨s1,s2⟩:=five_set HFR.out.2.1 (.int .i64 0) (.int .i64 0) (.slice none 0 0) (.int .i64 (wrongP La 3)) (.int .i64 10)
    generalize (((((wr.setCell ⟨r,0,none⟩ (.int .i64 0)).setCell ⟨r,1,none⟩ (.int .i64 0)).setCell ⟨r,2,none⟩ (.slice none 0 0)).setCell ⟨r,3,none⟩ (.int .i64 (wrongP La 3))).setCell ⟨r,4,none⟩ (.int .i64 10))=W at s1 s2 ⊢
    refine qaN (r:=r) ?_ s1 ?_
    ·rfl
    rw [HE.out]
    exact⟨⟨_,rfl,Kd.R_nil _ _ _ _ _⟩,by rw [hr];exact HFR.out.put s2⟩
   have hlz:¬ (3:Int)<(nl:Int):=by omega
   have hR0:R=goP sa sb s.size [] Lr:=by rw [hRR.out,if_pos (by rw [HNL.out];omega)]
   have HI:Hid (LqI w w1 r xb sa sb s.size Lr R 0 [] (.slice none 0 0) wr):=Lib.hid ⟨hF.out,HXX.out,hBw.out,Kd.R_nil _ _ _ _ _,(fun x hx=>by cases hx),Nat.le_refl _,hR0⟩
   clear hR0 hRR HXX hF hBw h3 HW HRW FR
   go_wp2
   go_loopw [10] (fun v10 wr=>∃ (i j:Nat) (acc:List Tk) (v:Value),v10=.int .i64 i∧i=j+1∧i≤n∧Hid (LqI w w1 r xb sa sb s.size Lr R j acc v wr)) (fun v10 _=>n - (RowKit.intOf v10).toNat)
   case atStart=>exact⟨1,0,[],.slice none 0 0,rfl,rfl,hpos,HI⟩
   case round=>
    clear HI
    obtain⟨i,j,acc,v,rfl,hij,hin',hI⟩:=hrel
    obtain⟨x0,x1,x2,xz⟩:=qaB hI.out.2.1
    have HIJ:=Lib.hid hij
    clear hij
    by_cases hin:i<n
    ·obtain⟨Ai,ci,u0,u1⟩:=HC.out i (by simp only [List.length_cons,HL1.out,← HNN.out];exact hin)
     have hil:j<Lr.length:=by have:=HL1.out;have:=HNN.out;have:=HIJ.out;omega
     have hget:(La::Lr)[i]'(by simp only [List.length_cons,HL1.out,← HNN.out];exact hin)=Lr[j]:=by simp only [HIJ.out,List.getElem_cons_succ]
     rw [hget] at u0 u1
     have hdrop:Lr.drop j=Lr[j]::Lr.drop (j+1):=List.drop_eq_getElem_cons hil
     have hmem:Lr[j] ∈ La::Lr:=List.mem_cons_of_mem _ (List.getElem_mem hil)
     have hLa:=HE.out.1 _ hmem
     have hLb:=HE.out.2.1 _ hmem
     have hLc:=HE.out.2.2 _ hmem
     clear hget
     generalize Lr[j]=L at u0 u1 hdrop hLa hLb hLc
     rw [HXB.out] at u1
     have z0:=(hI.out.2.2.1.cell (p:=⟨bA,oA+i,none⟩) (by show bA<xb;omega)).trans u0
     have HRL:=Lib.hid (fun (W:World) (hb:Below xb w1 W)=>u1.below hb (Nat.le_refl _))
     clear u0 u1 hmem hil
     have hlxr:=lt_of_block hI.out.2.1
     obtain⟨ml,hml⟩:∃ z,L.length=z:=⟨_,rfl⟩
     have HML:=Lib.hid hml
     rw [hml] at z0
     have HDR:=Lib.hid (And.intro hdrop (And.intro hLb hLc))
     have hpm:0<ml:=by rw [← hml];exact List.length_pos_iff.2 hLb.1
     have hLn:L.length≤100000:=by omega
     have hll2:=hLc
     clear hml hdrop hLb hLc
     cases hT:taskG L with
     |error p=>
      have HPL:=Lib.hid (HML.out ▸ refLine_bad ci Ai L wr hLn hll2 ((HRL.out wr hI.out.2.2.1).more (Nat.le_of_lt hlxr)) p hT)
      have HE9:Hid (R=(0,0,[],p,10)):=Lib.hid (by rw [hI.out.2.2.2.2.2.2,HDR.out.1,goP,hT])
      clear hT hll2
      go_upto_region 29 with (go_at_call 29;refine HPL.out.mono ?_;rintro e w2 ⟨rfl,hb2⟩)
      have ha2:=(Below.refl w2.heap.size w2).alloc (Nat.le_refl _) (.cells #[.int .i64 0,.int .i64 0,.int .i64 0,.int .i64 0,.int .i64 0,.slice none 0 0,.slice none 0 0,.int .i64 p,.int .i64 10] 76)
      have hg2:=heap_alloc_new w2 (.cells #[.int .i64 0,.int .i64 0,.int .i64 0,.int .i64 0,.int .i64 0,.slice none 0 0,.slice none 0 0,.int .i64 p,.int .i64 10] 76)
      have F2:=hI.out.1.below (hb2.trans (ha2.mono hb2.size))
      generalize w2.alloc (.cells #[.int .i64 0,.int .i64 0,.int .i64 0,.int .i64 0,.int .i64 0,.slice none 0 0,.slice none 0 0,.int .i64 p,.int .i64 10] 76)=w8 at hg2 F2 ⊢
      obtain⟨_,_,_,_,_,_,_,j7,j8,_⟩:=qaD hg2
      obtain⟨q0,q1,q2,q3,q4,hqz⟩:=qaU F2.2.1
      have HFR:=Lib.hid F2
      go_wp2
      obtain⟨s1,s2⟩:=five_set HFR.out.2.1 (.int .i64 0) (.int .i64 0) (.slice none 0 0) (.int .i64 p) (.int .i64 10)
      generalize (((((w8.setCell ⟨r,0,none⟩ (.int .i64 0)).setCell ⟨r,1,none⟩ (.int .i64 0)).setCell ⟨r,2,none⟩ (.slice none 0 0)).setCell ⟨r,3,none⟩ (.int .i64 p)).setCell ⟨r,4,none⟩ (.int .i64 10))=W at s1 s2 ⊢
      refine qaN (r:=r) ?_ s1 ?_
      ·rfl
      rw [HE9.out]
      exact⟨⟨_,rfl,Kd.R_nil _ _ _ _ _⟩,by rw [hr];exact HFR.out.put s2⟩
     |ok x=>
      have HPL:=Lib.hid (HML.out ▸ refLine_good ci Ai L wr hLn hll2 ((HRL.out wr hI.out.2.2.1).more (Nat.le_of_lt hlxr)) x hT)
      have hRE:Hid (R=if checkE sa sb (acc++[x])=0 then goP sa sb s.size (acc++[x]) (Lr.drop (j+1)) else (0,0,[],wat0 L,checkE sa sb (acc++[x]))):=Lib.hid (by rw [hI.out.2.2.2.2.2.2,HDR.out.1,goP,hT])
      have hbx:=taskG_bounds hll2 hT
      clear hT hll2
      obtain⟨xid,xc,xd,xt,xp,xch,xus⟩:=x
      go_upto_region 31 with (go_at_call 29;refine HPL.out.mono ?_;rintro e w2 ⟨⟨A5,c5,A6,c6,rfl,o5,o6⟩,hb2⟩)
      have ha2:=(Below.refl w2.heap.size w2).alloc (Nat.le_refl _) (.cells #[.int .i64 xid,.int .i64 xc,.int .i64 xd,.int .i64 xt,.int .i64 xp,.slice A5 xch.length c5,.slice A6 xus.length c6,.int .i64 (endP L),.int .i64 0] 76)
      have hI2:=hI.out.below (hb2.trans (ha2.mono hb2.size))
      have ht2:=heap_alloc_new w2 (.cells #[.int .i64 xid,.int .i64 xc,.int .i64 xd,.int .i64 xt,.int .i64 xp,.slice A5 xch.length c5,.slice A6 xus.length c6,.int .i64 (endP L),.int .i64 0] 76)
      have p5:=o5.below ha2
      have p6:=o6.below ha2
      have hvw:∀ k,v.ownBlock=some k→k<wr.heap.size:=fun k hk=>by
       obtain⟨inner,hown⟩:=Kd.R_own hI.out.2.2.2.1
       exact (hown.lt k hk).2
      generalize w2.alloc (.cells #[.int .i64 xid,.int .i64 xc,.int .i64 xd,.int .i64 xt,.int .i64 xp,.slice A5 xch.length c5,.slice A6 xus.length c6,.int .i64 (endP L),.int .i64 0] 76)=W2 at hI2 ht2 p5 p6 ⊢
      have n5:(Kd.int .i64).R 2 W2 xb (fun k=>some k≠v.ownBlock) (.slice A5 xch.length c5) xch:=R_numsOk (p5.weaken (by omega)) (fun k hk e=>by have:=(OwnI.nrow p5).2;cases A5 with|none=>simp [Value.ownBlock] at hk|some p=>(simp [Value.ownBlock] at hk;have h1:=this p rfl;have h2:=hvw k e.symm;omega))
      have n6:(Kd.int .i64).R 3 W2 xb (fun k=>some k≠v.ownBlock) (.slice A6 xus.length c6) xus:=R_numsOk (p6.weaken (by omega)) (fun k hk e=>by have:=(OwnI.nrow p6).2;cases A6 with|none=>simp [Value.ownBlock] at hk|some p=>(simp [Value.ownBlock] at hk;have h1:=this p rfl;have h2:=hvw k e.symm;omega))
      have hMT:=Lib.hid (kTk_mkM W2 xb (fun k=>some k≠v.ownBlock) ⟨xid,xc,xd,xt,xp,xch,xus⟩ n5 n6)
      have HB2:=Lib.hid hbx
      clear n5 n6 p5 p6 o5 o6 hb2 ha2 hvw hbx x0 x1 x2 xz
      obtain⟨gb,hgb⟩:∃ z,w2.heap.size=z:=⟨_,rfl⟩
      rw [hgb] at ht2 ⊢
      obtain⟨t0,t1,t2,t3,t4,t5,t6,t7,t8,_⟩:=qaD ht2
      obtain⟨_,_,x2',_⟩:=qaB hI2.2.1
      have HI2:=Lib.hid hI2
      clear hI2 ht2 hgb
      have hlx2:xb<W2.heap.size:=lt_of_block HI2.out.2.1
      have hal2:acc.length≤69999:=by have:=HI2.out.2.2.2.2.2.1;have:=HNN.out;have:=HIJ.out;omega
      go_upto_region 32 with (at_builtin;refine Kd.R_append kTk (w0:=w1) xb rfl (.tmp 100) (.tmp 103) 30 52 (.agg #[.int .i64 0,.int .i64 0,.int .i64 0,.int .i64 0,.int .i64 0,.slice none 0 0,.slice none 0 0]) 88 rfl Tryd.underlying30 infoTk rfl (by decide) (by omega) v acc ⟨xid,xc,xd,xt,xp,xch,xus⟩ [.int .i64 xid,.int .i64 xc,.int .i64 xd,.int .i64 xt,.int .i64 xp,.slice A5 xch.length c5,.slice A6 xus.length c6] (fun _=>True) (fun k=>some k≠v.ownBlock) rfl rfl hMT.out (fun k hk=>⟨trivial,hk⟩) (fun _ _=>trivial) HI2.out.2.2.2.1 HI2.out.2.2.1 (by omega) (by omega) ?_;intro v1 w9 ho9 hb9 hg9 _;obtain⟨A7,c7,rfl⟩:=Kd.R_slice ho9;have hx9:=(hg9.block xb (lt_of_block HI2.out.2.1) (Kd.R_ne HI2.out.2.2.2.1 HI2.out.2.1 (by decide))).trans HI2.out.2.1;have e2:=cell_of_row w9 xb 2 _ _ _ hx9;have hz9:w9.frozen? ⟨xb,2,none⟩=false:=(by simp [World.frozen?,hx9]);have HA9:=Lib.hid (HI2.out.app hrx ho9 hg9 hb9 HB2.out);clear ho9 hb9 hg9 hx9;simp at e2;generalize hl7:(acc++[(⟨xid,xc,xd,xt,xp,xch,xus⟩:Tk)]).length=l7 at HA9 ⊢;have HL7:=Lib.hid hl7;clear hl7)
      generalize w9.setCell ⟨xb,2,none⟩ (.slice A7 l7 c7)=W3 at HA9 ⊢
      clear e2 hz9 t0 t1 t2 t3 t4 t5 t6 t7 t8 x2' HI2 hMT HB2
      generalize hacc':acc++[(⟨xid,xc,xd,xt,xp,xch,xus⟩:Tk)]=acc' at HL7 HA9 hRE
      clear hacc'
      obtain⟨k0,k1,k2,_⟩:=qaB HA9.out.2.1
      have HCK:Hid (Calls Tryd.prog 16 #[.agg #[.int .i64 sa,.int .i64 sb,.slice A7 l7 c7]] W3 fun e w'=>e=.returned (.int .i64 (checkE sa sb acc'))∧Below W3.heap.size W3 w'):=Lib.hid (by
       obtain⟨A8,c8,e8,hc8,h8⟩:=Kd.R_reads HA9.out.2.2.2.1
       injection e8 with e1 e2 e3
       have:=HCH.out sa sb A7 c7 acc' W3 (by have:=HA9.out.2.2.2.2.2.1;have:=HNN.out;have:=HIJ.out;omega) HA9.out.2.2.2.2.1 (by rw [e1];exact h8) (by rw [e3];exact hc8)
       rw [HL7.out] at this
       exact this)
      generalize checkE sa sb acc' = E at HCK hRE
      cases hE:decide (E=0) with
      |true=>
       obtain rfl:E=0:=of_decide_eq_true hE
       have hRN:Hid (R=goP sa sb s.size acc' (Lr.drop (j+1))):=Lib.hid (by rw [hRE.out,if_pos rfl])
       clear hE hRE
       go_wp2_with (go_at_call 16;refine HCK.out.mono ?_;rintro e w11 ⟨rfl,hb11⟩)
       have hN:=Lib.hid (show LqI w w1 r xb sa sb s.size Lr R (j+1) acc' (.slice A7 l7 c7) w11 from ⟨(HA9.out.below hb11).1,(HA9.out.below hb11).2.1,(HA9.out.below hb11).2.2.1,(HA9.out.below hb11).2.2.2.1,(HA9.out.below hb11).2.2.2.2.1,(HA9.out.below hb11).2.2.2.2.2.1,hRN.out⟩)
       have hi1w:IntKind.i64.wrap ((i:Int)+1)=((i+1:Nat):Int):=by rw [IntKind.wrap_i64];omega
       go_roundw
       case rel=>exact⟨i+1,j+1,acc',_,by simp,by have:=HIJ.out;omega,hin,hN⟩
       case measure=>simp [RowKit.intOf]<;>omega
      |false=>
       have hE0:¬ E=0:=of_decide_eq_false hE
       have HE9:Hid (R=(0,0,[],wat0 L,E)):=Lib.hid (by rw [hRE.out,if_neg hE0])
       have hEb:(E == 0)=false:=by simpa using hE0
       clear hE hRE
       obtain⟨bi,oi,rfl,hlti,fi⟩:=(HRL.out W3 HA9.out.2.2.1) (by rw [HML.out];exact hpm)
       obtain⟨Lx,Ly,rfl⟩:∃ x y,L=x::y:=by
        have:=HDR.out.2.1.1
        cases L with
        |nil=>exact absurd rfl this
        |cons x y=>exact⟨x,y,rfl⟩
       have m0:=(fi 0 (by simp)).1
       simp only [Nat.zero_mul,Nat.add_zero,List.getElem_cons_zero] at m0
       have hWP:Hid (wat0 (Lx::Ly)=Lx.p):=Lib.hid rfl
       rw [hWP.out] at HE9
       generalize Lx.p=px at m0 HE9
       clear fi hWP
       have hlt3:=lt_of_block HA9.out.2.1
       have y3:W3.cell? ⟨bA,oA+i,none⟩=some (.slice (some ⟨bi,oi,none⟩) ml ci):=by
        obtain⟨Ai',ci',u0,_⟩:=HC.out i (by simp only [List.length_cons,HL1.out,← HNN.out];exact hin)
        have z1:=(hI.out.2.2.1.cell (p:=⟨bA,oA+i,none⟩) (by show bA<xb;omega)).trans u0
        rw [z0] at z1
        rw [z1]
        exact (HA9.out.2.2.1.cell (p:=⟨bA,oA+i,none⟩) (by show bA<xb;omega)).trans u0
       go_upto_region 34 with (go_at_call 16;refine HCK.out.mono ?_;rintro e w11 ⟨rfl,hb11⟩)
       have F11:=HA9.out.1.below hb11
       have y4:=(hb11.cell (p:=⟨bA,oA+i,none⟩) (by show bA<_;omega)).trans y3
       have m4:=(hb11.cell (p:=⟨bi,oi,none⟩) (by show bi<_;omega)).trans m0
       clear y3 m0
       obtain⟨q0,q1,q2,q3,q4,hqz⟩:=qaU F11.2.1
       have HFR:=Lib.hid F11
       go_wp2
       obtain⟨s1,s2⟩:=five_set HFR.out.2.1 (.int .i64 0) (.int .i64 0) (.slice none 0 0) (.int .i64 px) (.int .i64 E)
       generalize (((((w11.setCell ⟨r,0,none⟩ (.int .i64 0)).setCell ⟨r,1,none⟩ (.int .i64 0)).setCell ⟨r,2,none⟩ (.slice none 0 0)).setCell ⟨r,3,none⟩ (.int .i64 px)).setCell ⟨r,4,none⟩ (.int .i64 E))=W at s1 s2 ⊢
       refine qaN (r:=r) ?_ s1 ?_
       ·rfl
       rw [HE9.out]
       exact⟨⟨_,rfl,Kd.R_nil _ _ _ _ _⟩,by rw [hr];exact HFR.out.put s2⟩
    ·obtain rfl:i=n:=by omega
     obtain rfl:j=N1:=by have:=HNN.out;have:=HIJ.out;omega
     obtain⟨Av,cv,rfl⟩:=Kd.R_slice hI.out.2.2.2.1
     have hR0:Hid (R=if acc.length=0 then (0,0,[],(s.size:Int),1) else (sa,sb,acc,(s.size:Int),0)):=Lib.hid (by rw [hI.out.2.2.2.2.2.2,List.drop_eq_nil_of_le (by rw [HL1.out];exact Nat.le_refl _)];rfl)
     obtain⟨la,hla⟩:∃ z,acc.length=z:=⟨_,rfl⟩
     have HLA:=Lib.hid hla
     rw [hla] at x2
     have hlal:la≤70000:=by have:=hI.out.2.2.2.2.2.1;omega
     by_cases hl0:la=0
     ·have hle:((la:Int) == 0)=true:=by simp [hl0]
      have HE9:Hid (R=(0,0,[],(s.size:Int),1)):=Lib.hid (by rw [hR0.out,if_pos (by rw [HLA.out];exact hl0)])
      clear hl0 hla
      obtain⟨q0,q1,q2,q3,q4,hqz⟩:=qaU hI.out.1.2.1
      have HFR:=Lib.hid hI.out.1
      go_wp2
      obtain⟨s1,s2⟩:=five_set HFR.out.2.1 (.int .i64 0) (.int .i64 0) (.slice none 0 0) (.int .i64 s.size) (.int .i64 1)
      generalize (((((wr.setCell ⟨r,0,none⟩ (.int .i64 0)).setCell ⟨r,1,none⟩ (.int .i64 0)).setCell ⟨r,2,none⟩ (.slice none 0 0)).setCell ⟨r,3,none⟩ (.int .i64 s.size)).setCell ⟨r,4,none⟩ (.int .i64 1))=W at s1 s2 ⊢
      refine qaN (r:=r) ?_ s1 ?_
      ·rfl
      rw [HE9.out]
      exact⟨⟨_,rfl,Kd.R_nil _ _ _ _ _⟩,by rw [hr];exact HFR.out.put s2⟩
     ·have hle:((la:Int) == 0)=false:=by simpa using hl0
      have HE9:Hid (R=(sa,sb,acc,(s.size:Int),0)):=Lib.hid (by rw [hR0.out,if_neg (by rw [HLA.out];exact hl0)])
      clear hla
      obtain⟨q0,q1,q2,q3,q4,hqz⟩:=qaU hI.out.1.2.1
      have HFR:=Lib.hid hI.out.1
      go_wp2
      obtain⟨s1,s2⟩:=five_set HFR.out.2.1 (.int .i64 sa) (.int .i64 sb) (.slice Av la cv) (.int .i64 s.size) (.int .i64 0)
      generalize (((((wr.setCell ⟨r,0,none⟩ (.int .i64 sa)).setCell ⟨r,1,none⟩ (.int .i64 sb)).setCell ⟨r,2,none⟩ (.slice Av la cv)).setCell ⟨r,3,none⟩ (.int .i64 s.size)).setCell ⟨r,4,none⟩ (.int .i64 0))=W at s1 s2 ⊢
      have hRk:=R_keep1 hI.out.2.2.2.1 HFR.out.2.1 (by decide) s2
      rw [HLA.out] at hRk
      refine qaN (r:=r) ?_ s1 ?_
      ·rfl
      rw [HE9.out]
      exact⟨⟨_,rfl,by rw [hr];exact Kd.R_lower hRk (Nat.le_of_lt hrx)⟩,by rw [hr];exact HFR.out.put s2⟩
end Go.Proofs.YtcfknijdhmildaaDoor
end
section
namespace Go.Proofs.YtcfknijdhmildaaDoorW.PrintLast
open Go.Proofs.YtcfknijdhmildaaDoorW.PrintWords (qah)
def needsOf (md:Region.Mode) (o:Oper):List Nat:=(o.after.toList.filter (fun e=>Region.binds md e)).map (fun e=>e.on)
def clashOf (md:Region.Mode) (ops:Array Oper) (i:Nat) (oi:Oper):List Nat:=(List.range ops.size).filter fun j=>!(j == i) && match ops[j]? with
 |some oj=>!(oj.after.any (fun e=>Region.binds md e && e.on == i) || oi.apart ops oj)
 |none=>false
def rtab (md:Region.Mode) (ops:Array Oper):Bool × List (List Nat × List Nat):=(Region.noSelect ops,(List.range ops.size).map fun i=>match ops[i]? with
 |some o=>(needsOf md o,clashOf md ops i o)
 |none=>([],[]))
def readyAt (T:List (List Nat × List Nat)) (l:List Bool) (i:Nat):Bool:=!l.getD i true && match T[i]? with
 |some r=>r.1.all (fun j=>l.getD j false)
 |none=>false
def readyT (T:List (List Nat × List Nat)) (l:List Bool):List Nat:=(List.range T.length).filter (readyAt T l)
def freeT (T:List (List Nat × List Nat)) (l:List Bool) (i:Nat):Bool:=match T[i]? with
 |some r=>r.2.all (fun j=>l.getD j true)
 |none=>false
def closedT (T:List (List Nat × List Nat)) (l:List Bool):Bool:=(List.range T.length).all fun j=>!l.getD j false || match T[j]? with
 |some r=>r.1.all (fun k=>l.getD k false)
 |none=>true
def reachT (T:List (List Nat × List Nat)) (i:Nat):Nat→Nat→Bool
 |0,_=>false
 |fuel+1,d=>match T[d]? with
  |some r=>r.1.any fun j=>j == i || reachT T i fuel j
  |none=>false
def lastT (T:List (List Nat × List Nat)) (l:List Bool) (ds:List Nat) (i:Nat):Bool:=ds.all fun d=>l.getD d true || reachT T i T.length d
section
variable {md:Region.Mode} {ops:Array Oper} {T:Bool × List (List Nat × List Nat)} {l l' li lj lk:Array Bool} {ds:List Nat} {i j k:Nat}
theorem gd (l:Array Bool) (j:Nat) (b:Bool):l.getD j b=l.toList.getD j b:=by simp [Array.getD_eq_getD_getElem?,List.getD_eq_getElem?_getD]
theorem needs_all (o:Oper) (p:Nat→Bool):o.after.all (fun e=>!Region.binds md e || p e.on)=(needsOf md o).all p:=by
 unfold needsOf
 rw [← Array.all_toList]
 induction o.after.toList with
 |nil=>rfl
 |cons e r ih=>
  rw [List.all_cons,ih,List.filter_cons]
  cases h:Region.binds md e<;>simp
theorem needs_any (o:Oper) (p:Nat→Bool):o.after.any (fun e=>Region.binds md e && p e.on)=(needsOf md o).any p:=by
 unfold needsOf
 rw [← Array.any_toList]
 induction o.after.toList with
 |nil=>rfl
 |cons e r ih=>
  rw [List.any_cons,ih,List.filter_cons]
  cases h:Region.binds md e<;>simp
theorem rtab_length:(rtab md ops).2.length=ops.size:=by simp [rtab]
theorem rtab_some {o:Oper} (h:ops[i]? = some o):(rtab md ops).2[i]? = some (needsOf md o,clashOf md ops i o):=by
 have hi:=(Array.getElem?_eq_some_iff.1 h).1
 unfold rtab
 rw [List.getElem?_map,List.getElem?_range hi,Option.map_some,h]
theorem rtab_none (h:ops[i]? = none):(rtab md ops).2[i]? = none:=by
 have hi:ops.size≤i:=Array.getElem?_eq_none_iff.1 h
 exact List.getElem?_eq_none (by rw [rtab_length];exact hi)
theorem readyAt_eq:readyAt (rtab md ops).2 l.toList i=(!l.getD i true && ((ops[i]?).map (·.after.all fun e=>!Region.binds md e || l.getD e.on false)).getD false):=by
 unfold readyAt
 rw [gd]
 cases h:ops[i]? with
 |none=>rw [rtab_none h];rfl
 |some o=>
  rw [rtab_some h]
  simp only [Option.map_some,Option.getD_some]
  rw [← needs_all]
  simp only [gd]
theorem ready_eq:Region.ready md ops l=readyT (rtab md ops).2 l.toList:=by
 unfold Region.ready readyT
 rw [rtab_length]
 refine List.filter_congr (fun i _=>?_)
 rw [readyAt_eq]
theorem free_eq:Region.free md ops l i=freeT (rtab md ops).2 l.toList i:=by
 unfold Region.free freeT
 cases h:ops[i]? with
 |none=>rw [rtab_none h]
 |some oi=>
  rw [rtab_some h]
  simp only [clashOf]
  rw [List.all_filter]
  congr 1
  funext j
  rw [gd]
  cases hj:ops[j]? with
  |none=>cases (j == i)<;>cases (l.toList.getD j true)<;>simp
  |some oj=>
   cases (j == i)<;>cases (l.toList.getD j true)<;>cases (oj.after.any (fun e=>Region.binds md e && e.on == i) || oi.apart ops oj)<;>simp_all
theorem closed_eq:Region.closedB md ops l=closedT (rtab md ops).2 l.toList:=by
 unfold Region.closedB closedT
 rw [rtab_length]
 congr 1
 funext j
 rw [gd]
 cases h:ops[j]? with
 |none=>rw [rtab_none h]
 |some o=>
  rw [rtab_some h]
  simp only
  rw [← needs_all]
  simp only [gd]
theorem reach_eq:∀ (fuel d:Nat),Region.reachB md ops i fuel d=reachT (rtab md ops).2 i fuel d
 |0,_=>rfl
 |fuel+1,d=>by
  unfold Region.reachB reachT
  cases h:ops[d]? with
  |none=>rw [rtab_none h]
  |some o=>
   rw [rtab_some h]
   simp only
   rw [← needs_any]
   congr 1
   funext e
   rw [reach_eq fuel]
theorem last_eq:Region.lastB md ops l ds i=lastT (rtab md ops).2 l.toList ds i:=by
 unfold Region.lastB lastT
 rw [rtab_length]
 congr 1
 funext d
 rw [gd,reach_eq]
theorem readyAt_mem (h:readyAt T.2 l.toList i=true) (hT:rtab md ops=T):(Region.ready md ops l).contains i=true:=by
 subst hT
 rw [ready_eq]
 unfold readyT
 rw [List.contains_iff_mem,List.mem_filter,List.mem_range]
 refine⟨?_,h⟩
 unfold readyAt at h
 rw [Bool.and_eq_true] at h
 cases hq:(rtab md ops).2[i]? with
 |none=>rw [hq] at h;simp at h
 |some r=>exact (List.getElem?_eq_some_iff.1 hq).1
theorem set_of (h:(l.toList.set i true == l'.toList)=true):(l.setIfInBounds i true == l')=true:=by
 rw [beq_iff_eq] at h ⊢
 apply Array.ext'
 rw [Array.toList_setIfInBounds]
 exact h
def anyT (T:Bool × List (List Nat × List Nat)) (l l':List Bool) (i:Nat):Bool:=T.1 && freeT T.2 l i && readyAt T.2 l i && (l.set i true == l')
theorem qav (hT:rtab md ops=T) (h:anyT T l.toList l'.toList i=true):anyB md ops l l' i=true:=by
 simp only [anyT,Bool.and_eq_true] at h
 obtain⟨⟨⟨h1,h2⟩,h3⟩,h4⟩:=h
 have h5:=readyAt_mem h3 hT
 have h6:=set_of h4
 subst hT
 simp only [anyB,Bool.and_eq_true]
 exact⟨⟨⟨h1,by rw [free_eq];exact h2⟩,h5⟩,h6⟩
def takeT (T:Bool × List (List Nat × List Nat)) (ds:List Nat) (l l':List Bool) (i:Nat):Bool:=T.1 && freeT T.2 l i && readyAt T.2 l i && closedT T.2 l && lastT T.2 l ds i && (l.set i true == l')
theorem take_of (hT:rtab md ops=T) (h:takeT T ds l.toList l'.toList i=true):takeB md ops ds l l' i=true:=by
 simp only [takeT,Bool.and_eq_true] at h
 obtain⟨⟨⟨⟨⟨h1,h2⟩,h3⟩,h4⟩,h5⟩,h6⟩:=h
 have h7:=readyAt_mem h3 hT
 have h8:=set_of h6
 subst hT
 simp only [takeB,Bool.and_eq_true]
 exact⟨⟨⟨⟨⟨h1,by rw [free_eq];exact h2⟩,h7⟩,by rw [closed_eq];exact h4⟩,by rw [last_eq];exact h5⟩,h8⟩
theorem one_of (hT:rtab md ops=T) (h:(readyT T.2 l.toList == [i] && l.toList.set i true == l'.toList)=true):readyB md ops l l' i=true:=by
 simp only [Bool.and_eq_true] at h
 obtain⟨h1,h2⟩:=h
 subst hT
 simp only [readyB,Bool.and_eq_true]
 exact⟨by rw [ready_eq];exact h1,set_of h2⟩
theorem two_of (hT:rtab md ops=T) (h:(readyT T.2 l.toList == [i,j] && l.toList.set i true == li.toList && l.toList.set j true == lj.toList)=true):(Region.ready md ops l == [i,j] && l.setIfInBounds i true == li && l.setIfInBounds j true == lj)=true:=by
 simp only [Bool.and_eq_true] at h ⊢
 obtain⟨⟨h1,h2⟩,h3⟩:=h
 subst hT
 exact⟨⟨by rw [ready_eq];exact h1,set_of h2⟩,set_of h3⟩
theorem done_of (hT:rtab md ops=T) (h:(readyT T.2 l.toList == [])=true):(Region.ready md ops l == [])=true:=by
 subst hT
 rw [ready_eq]
 exact h
def upM (B:List Nat) (d:Nat):List Nat→Nat
 |[]=>0
 |n::r=>(2 ^ n ||| (if n<d then B.getD n 0 else 0)) ||| upM B d r
def waitsOk (T:List (List Nat × List Nat)) (B:List Nat):Bool:=(List.range T.length).all fun d=>match T[d]? with
 |some r=>(B.getD d 0 ||| upM B d r.1) == upM B d r.1
 |none=>false
theorem upM_bit {B:List Nat} {d i:Nat}:∀ {ns:List Nat},(upM B d ns).testBit i=true→∃ n ∈ ns,n=i∨(n<d∧(B.getD n 0).testBit i=true)
 |[],h=>by simp [upM] at h
 |n::r,h=>by
  unfold upM at h
  rw [Nat.testBit_or,Nat.testBit_or,Bool.or_eq_true,Bool.or_eq_true] at h
  rcases h with (h|h)|h
  ·rw [Nat.testBit_two_pow] at h
   exact⟨n,List.mem_cons_self,.inl (by simpa using h)⟩
  ·by_cases hn:n<d
   ·rw [if_pos hn] at h
    exact⟨n,List.mem_cons_self,.inr ⟨hn,h⟩⟩
   ·rw [if_neg hn] at h
    simp at h
  ·obtain⟨m,hm,h2⟩:=upM_bit h
   exact⟨m,List.mem_cons_of_mem _ hm,h2⟩
theorem reach_bit {T:List (List Nat × List Nat)} {B:List Nat} (hB:waitsOk T B=true):∀ (fuel d:Nat),d<fuel→d<T.length→(B.getD d 0).testBit i=true→reachT T i fuel d=true
 |0,d,h,_,_=>by omega
 |fuel+1,d,h,hd,hb=>by
  have h1:=List.all_eq_true.1 hB d (List.mem_range.2 hd)
  cases hr:T[d]? with
  |none=>rw [hr] at h1;simp at h1
  |some r=>
   rw [hr] at h1
   simp only [beq_iff_eq] at h1
   have h2:(upM B d r.1).testBit i=true:=by rw [← h1,Nat.testBit_or,hb,Bool.true_or]
   obtain⟨n,hn,h3⟩:=upM_bit h2
   unfold reachT
   rw [hr]
   simp only
   rw [List.any_eq_true]
   refine⟨n,hn,?_⟩
   rcases h3 with rfl|⟨h4,h5⟩
   ·simp
   ·rw [reach_bit hB fuel n (by omega) (by omega) h5,Bool.or_true]
def lastW (T:List (List Nat × List Nat)) (B:List Nat) (l:List Bool) (ds:List Nat) (i:Nat):Bool:=ds.all fun d=>l.getD d true || (decide (d<T.length) && (B.getD d 0).testBit i)
def takeW (T:Bool × List (List Nat × List Nat)) (B:List Nat) (ds:List Nat) (l l':List Bool) (i:Nat):Bool:=T.1 && freeT T.2 l i && readyAt T.2 l i && closedT T.2 l && lastW T.2 B l ds i && (l.set i true == l')
theorem qaE {B:List Nat} (hT:rtab md ops=T) (hB:waitsOk T.2 B=true) (h:takeW T B ds l.toList l'.toList i=true):takeB md ops ds l l' i=true:=by
 refine take_of hT ?_
 simp only [takeW,takeT,Bool.and_eq_true] at h ⊢
 obtain⟨⟨⟨⟨⟨h1,h2⟩,h3⟩,h4⟩,h5⟩,h6⟩:=h
 refine⟨⟨⟨⟨⟨h1,h2⟩,h3⟩,h4⟩,?_⟩,h6⟩
 unfold lastW at h5
 unfold lastT
 rw [List.all_eq_true] at h5 ⊢
 intro d hd
 have h7:=h5 d hd
 rw [Bool.or_eq_true,Bool.and_eq_true,decide_eq_true_eq] at h7
 rcases h7 with h7|⟨h8,h9⟩
 ·rw [h7,Bool.true_or]
 ·rw [reach_bit hB _ d h8 h8 h9,Bool.or_true]
theorem qa2 {P:Program} {Q:Exit→Act→World→Prop} {S:World→Prop} {n:Nat} {a:Act} {w:World} {B:List Nat} (hT:rtab md ops=T) (hB:waitsOk T.2 B=true) (h:qah (rtab md ops=T)→qah (waitsOk T.2 B=true)→qaA P md ops Q S ds n l a w):qaA P md ops Q S ds n l a w:=h ⟨hT⟩ ⟨hB⟩
end
def opsIn:Code→Nat→Option (Array Oper)
 |.region id ops _,k=>if id == k then some ops else none
 |.seq a b,k=>match opsIn a k with
  |some o=>some o
  |none=>opsIn b k
 |.cond _ a b,k=>match opsIn a k with
  |some o=>some o
  |none=>opsIn b k
 |.block _ c,k=>opsIn c k
 |.loop c,k=>opsIn c k
 |.scope c,k=>opsIn c k
 |.rangeFunc _ _ a b,k=>match opsIn a k with
  |some o=>some o
  |none=>opsIn b k
 |_,_=>none
def opsOf (f:Func) (k:Nat):Array Oper:=((f.body.bind fun c=>opsIn c k)).getD #[]
end Go.Proofs.YtcfknijdhmildaaDoorW.PrintLast
end
section
namespace Go.Proofs.YtcfknijdhmildaaDoorW.PrintWords
theorem Reps.front {α:Type} {R:α→List Value→Prop} {size:Nat} {ps:List α} {cs c all:List Value} {p:α} (hp:R p c) (hc:c.length=size) (h:Reps R size ps cs) (ha:c++cs=all):Reps R size (p::ps) all:=by
 subst ha
 refine⟨by rw [List.length_append,hc,h.1,List.length_cons,Nat.succ_mul,Nat.add_comm],fun j q hq=>?_⟩
 cases j with
 |zero=>
  simp only [List.getElem?_cons_zero,Option.some.injEq] at hq
  subst hq
  rw [Nat.zero_mul,List.drop_zero,List.take_append_of_le_length (by omega),List.take_of_length_le (by omega)]
  exact hp
 |succ j=>
  simp only [List.getElem?_cons_succ] at hq
  have h1:=h.2 j q hq
  rw [Nat.succ_mul,List.drop_append,List.drop_of_length_le (by rw [hc];exact Nat.le_add_left _ _),List.nil_append,hc,Nat.add_sub_cancel]
  exact h1
theorem Reps.c2 {α:Type} {R:α→List Value→Prop} {ps:List α} {cs:List Value} {p:α} {va vb:Value} (hp:R p [va,vb]) (h:Reps R 2 ps cs):Reps R 2 (p::ps) (va::vb::cs):=Reps.front hp rfl h rfl
theorem Reps.c3 {α:Type} {R:α→List Value→Prop} {ps:List α} {cs:List Value} {p:α} {va vb vc:Value} (hp:R p [va,vb,vc]) (h:Reps R 3 ps cs):Reps R 3 (p::ps) (va::vb::vc::cs):=Reps.front hp rfl h rfl
theorem Reps.c4 {α:Type} {R:α→List Value→Prop} {ps:List α} {cs:List Value} {p:α} {va vb vc vd:Value} (hp:R p [va,vb,vc,vd]) (h:Reps R 4 ps cs):Reps R 4 (p::ps) (va::vb::vc::vd::cs):=Reps.front hp rfl h rfl
theorem Reps.c5 {α:Type} {R:α→List Value→Prop} {ps:List α} {cs:List Value} {p:α} {va vb vc vd ve:Value} (hp:R p [va,vb,vc,vd,ve]) (h:Reps R 5 ps cs):Reps R 5 (p::ps) (va::vb::vc::vd::ve::cs):=Reps.front hp rfl h rfl
theorem Reps.c6 {α:Type} {R:α→List Value→Prop} {ps:List α} {cs:List Value} {p:α} {va vb vc vd ve vf:Value} (hp:R p [va,vb,vc,vd,ve,vf]) (h:Reps R 6 ps cs):Reps R 6 (p::ps) (va::vb::vc::vd::ve::vf::cs):=Reps.front hp rfl h rfl
theorem Reps.c7 {α:Type} {R:α→List Value→Prop} {ps:List α} {cs:List Value} {p:α} {va vb vc vd ve vf vg:Value} (hp:R p [va,vb,vc,vd,ve,vf,vg]) (h:Reps R 7 ps cs):Reps R 7 (p::ps) (va::vb::vc::vd::ve::vf::vg::cs):=Reps.front hp rfl h rfl
theorem Reps.c8 {α:Type} {R:α→List Value→Prop} {ps:List α} {cs:List Value} {p:α} {va vb vc vd ve vf vg vh:Value} (hp:R p [va,vb,vc,vd,ve,vf,vg,vh]) (h:Reps R 8 ps cs):Reps R 8 (p::ps) (va::vb::vc::vd::ve::vf::vg::vh::cs):=Reps.front hp rfl h rfl
theorem Reps.c9 {α:Type} {R:α→List Value→Prop} {ps:List α} {cs:List Value} {p:α} {va vb vc vd ve vf vg vh vi:Value} (hp:R p [va,vb,vc,vd,ve,vf,vg,vh,vi]) (h:Reps R 9 ps cs):Reps R 9 (p::ps) (va::vb::vc::vd::ve::vf::vg::vh::vi::cs):=Reps.front hp rfl h rfl
theorem Reps.c10 {α:Type} {R:α→List Value→Prop} {ps:List α} {cs:List Value} {p:α} {va vb vc vd ve vf vg vh vi vj:Value} (hp:R p [va,vb,vc,vd,ve,vf,vg,vh,vi,vj]) (h:Reps R 10 ps cs):Reps R 10 (p::ps) (va::vb::vc::vd::ve::vf::vg::vh::vi::vj::cs):=Reps.front hp rfl h rfl
end Go.Proofs.YtcfknijdhmildaaDoorW.PrintWords
end
section
namespace Go.Proofs.YtcfknijdhmildaaDoorW.PrintLast
def up (b:Nat→Bool) (i:Nat):Nat→Bool:=fun j=>if j=i then true else b j
section
variable {P:Program} {ops:Array Oper} {Q:Exit→Act→World→Prop} {md:Region.Mode} {T:Bool × List (List Nat × List Nat)} {B:List Nat} {O:List Nat} {b:Nat→Bool} {i j n:Nat}
end
end Go.Proofs.YtcfknijdhmildaaDoorW.PrintLast
end
section
namespace Go.Proofs.YtcfknijdhmildaaDoorW.PrintWords
open Go.RowKit
section
variable {P:Program} {ops:Array Oper} {rest:List Oper} {o:Oper} {a:Act} {Q:Exit→Act→World→Prop} {W:World}
theorem qbg (hw:Region.wanted o (yielded ops a.tmps)=true) (h:wpList P ops Q ({ o with guard:=none }::rest) a W):wpList P ops Q (o::rest) a W:=by
 have h1:Region.wanted { o with guard:=none } (yielded ops a.tmps)=true:=rfl
 unfold wpList at h ⊢
 rw [if_pos h1] at h
 rw [if_pos hw]
 exact h
end
end Go.Proofs.YtcfknijdhmildaaDoorW.PrintWords
end
section
namespace Go.Proofs.YtcfknijdhmildaaDoor.PParseReads
open Go.RowKit Go.Proofs.YtcfknijdhmildaaDoorW.PrintWords Go.Proofs.YtcfknijdhmildaaDoorW.PrintLast Go.Proofs.YtcfknijdhmildaaDoorW.PrintMore
attribute [local go_sem] max2_int min2_int max_two min_two qa7 qa6 max_four min_four
set_option linter.unusedVariables false
set_option linter.unusedSimpArgs false
noncomputable section
def errW:Option Int→Value
 |none=>.nilIface
 |some c=>.iface 0 (.int .i64 c)
theorem qaq:errW none=.nilIface:=rfl
theorem qap (c:Int):errW (some c)=.iface 0 (.int .i64 c):=rfl
theorem info2:(Tryd.prog.info? 2).map (fun i=>(i.zero,i.size,i.bytes))=some (some (.int .i64 0),1,8):=by kernel_rfl
theorem info3:(Tryd.prog.info? 3).map (fun i=>(i.zero,i.size,i.bytes))=some (some (.int .i64 0),1,8):=by kernel_rfl
theorem info52:(Tryd.prog.info? 52).map (fun i=>(i.zero,i.size,i.bytes))=some (some (.agg #[(.int .i64 0),(.int .i64 0),(.int .i64 0),(.int .i64 0),(.int .i64 0),(.slice none 0 0),(.slice none 0 0)]),7,88):=by kernel_rfl
theorem info59:(Tryd.prog.info? 59).map (fun i=>(i.zero,i.size,i.bytes))=some (some (.agg #[(.int .i64 0),(.int .i64 0),(.int .i64 0),(.int .i64 0),(.int .i64 0),(.slice none 0 0)]),6,64):=by kernel_rfl
structure S52 where
 f0:Int
 f1:Int
 f2:Int
 f3:Int
 f4:Int
 f5:(List Int)
 f6:(List Int)
def z52:S52:=⟨(0:Int),(0:Int),(0:Int),(0:Int),(0:Int),([]:List Int),([]:List Int)⟩
def k52:Kd S52:=Kd.iso (Kd.pair (Kd.int .i64) (Kd.pair (Kd.int .i64) (Kd.pair (Kd.int .i64) (Kd.pair (Kd.int .i64) (Kd.pair (Kd.int .i64) (Kd.pair (Kd.slice 2 (Kd.int .i64)) (Kd.slice 3 (Kd.int .i64)))))))) (fun x:S52=>(x.f0,x.f1,x.f2,x.f3,x.f4,x.f5,x.f6))
theorem k52_open {w:World} {x:S52} {cs:List Value} (h:k52.K w x cs):∃ A5 c5 A6 c6,cs=[.int .i64 x.f0,.int .i64 x.f1,.int .i64 x.f2,.int .i64 x.f3,.int .i64 x.f4,.slice A5 x.f5.length c5,.slice A6 x.f6.length c6]∧x.f5.length≤c5∧(Kd.int .i64).C w A5 x.f5.length x.f5∧x.f6.length≤c6∧(Kd.int .i64).C w A6 x.f6.length x.f6:=by
 obtain⟨_,_,rfl,rfl,⟨_,_,rfl,rfl,⟨_,_,rfl,rfl,⟨_,_,rfl,rfl,⟨_,_,rfl,rfl,⟨_,_,rfl,⟨A5,c5,rfl,l5,g5⟩,⟨A6,c6,rfl,l6,g6⟩⟩⟩⟩⟩⟩⟩:=h
 exact⟨A5,c5,A6,c6,rfl,l5,g5,l6,g6⟩
theorem k52_mkM (w:World) (base:Nat) (ok:Nat→Prop) (x:S52) {v5:Value} (g5:(Kd.int .i64).R 2 w base ok v5 x.f5) {v6:Value} (g6:(Kd.int .i64).R 3 w base ok v6 x.f6):k52.M w base ok x [.int .i64 x.f0,.int .i64 x.f1,.int .i64 x.f2,.int .i64 x.f3,.int .i64 x.f4,v5,v6]:=⟨[.int .i64 x.f0],[.int .i64 x.f1,.int .i64 x.f2,.int .i64 x.f3,.int .i64 x.f4,v5,v6],rfl,rfl,⟨[.int .i64 x.f1],[.int .i64 x.f2,.int .i64 x.f3,.int .i64 x.f4,v5,v6],rfl,rfl,⟨[.int .i64 x.f2],[.int .i64 x.f3,.int .i64 x.f4,v5,v6],rfl,rfl,⟨[.int .i64 x.f3],[.int .i64 x.f4,v5,v6],rfl,rfl,⟨[.int .i64 x.f4],[v5,v6],rfl,rfl,⟨[v5],[v6],rfl,⟨v5,rfl,g5⟩,⟨v6,rfl,g6⟩⟩⟩⟩⟩⟩⟩
def qal (xs:List S52) (i:Int):S52:=xs.getD i.toNat z52
theorem at_T52 {w:World} {A:Option Addr} {n:Nat} {xs:List S52} (h:Kd.C k52 w A n xs) (i:Int) (h0:0≤i) (h1:i<n):∃ ad A5 c5 A6 c6,A=some ad∧w.cell? (ad.add (i.toNat * 7))=some (.int .i64 (qal xs i).f0)∧w.cell? ⟨(ad.add (i.toNat * 7)).block,(ad.add (i.toNat * 7)).off+1,none⟩=some (.int .i64 (qal xs i).f1)∧w.cell? ⟨(ad.add (i.toNat * 7)).block,(ad.add (i.toNat * 7)).off+2,none⟩=some (.int .i64 (qal xs i).f2)∧w.cell? ⟨(ad.add (i.toNat * 7)).block,(ad.add (i.toNat * 7)).off+3,none⟩=some (.int .i64 (qal xs i).f3)∧w.cell? ⟨(ad.add (i.toNat * 7)).block,(ad.add (i.toNat * 7)).off+4,none⟩=some (.int .i64 (qal xs i).f4)∧w.cell? ⟨(ad.add (i.toNat * 7)).block,(ad.add (i.toNat * 7)).off+5,none⟩=some (.slice A5 (qal xs i).f5.length c5)∧w.cell? ⟨(ad.add (i.toNat * 7)).block,(ad.add (i.toNat * 7)).off+6,none⟩=some (.slice A6 (qal xs i).f6.length c6)∧(qal xs i).f5.length≤c5∧(Kd.int .i64).C w A5 (qal xs i).f5.length (qal xs i).f5∧(qal xs i).f6.length≤c6∧(Kd.int .i64).C w A6 (qal xs i).f6.length (qal xs i).f6:=by
 obtain⟨ad,c,e,_,hK,hc0⟩:=Kd.C_get h z52 i h0 h1
 have hc:∀ j u,c[j]? = some u→w.cell? (ad.add (i.toNat * 7+j))=some u:=hc0
 obtain⟨A5,c5,A6,c6,rfl,l5,g5,l6,g6⟩:=k52_open hK
 exact⟨ad,A5,c5,A6,c6,e,hc 0 _ rfl,by rw [← qaP _ _ 1 (by omega)];exact hc 1 _ rfl,by rw [← qaP _ _ 2 (by omega)];exact hc 2 _ rfl,by rw [← qaP _ _ 3 (by omega)];exact hc 3 _ rfl,by rw [← qaP _ _ 4 (by omega)];exact hc 4 _ rfl,by rw [← qaP _ _ 5 (by omega)];exact hc 5 _ rfl,by rw [← qaP _ _ 6 (by omega)];exact hc 6 _ rfl,l5,g5,l6,g6⟩
structure S59 where
 f0:Int
 f1:Int
 f2:Int
 f3:Int
 f4:Int
 f5:(List Int)
def z59:S59:=⟨(0:Int),(0:Int),(0:Int),(0:Int),(0:Int),([]:List Int)⟩
def k59:Kd S59:=Kd.iso (Kd.pair (Kd.int .i64) (Kd.pair (Kd.int .i64) (Kd.pair (Kd.int .i64) (Kd.pair (Kd.int .i64) (Kd.pair (Kd.int .i64) (Kd.slice 3 (Kd.int .i64))))))) (fun x:S59=>(x.f0,x.f1,x.f2,x.f3,x.f4,x.f5))
theorem k59_open {w:World} {x:S59} {cs:List Value} (h:k59.K w x cs):∃ A5 c5,cs=[.int .i64 x.f0,.int .i64 x.f1,.int .i64 x.f2,.int .i64 x.f3,.int .i64 x.f4,.slice A5 x.f5.length c5]∧x.f5.length≤c5∧(Kd.int .i64).C w A5 x.f5.length x.f5:=by
 obtain⟨_,_,rfl,rfl,⟨_,_,rfl,rfl,⟨_,_,rfl,rfl,⟨_,_,rfl,rfl,⟨_,_,rfl,rfl,⟨A5,c5,rfl,l5,g5⟩⟩⟩⟩⟩⟩:=h
 exact⟨A5,c5,rfl,l5,g5⟩
theorem k59_mk (w:World) (x:S59) {A5:Option Addr} {c5:Nat} (l5:x.f5.length≤c5) (g5:(Kd.int .i64).C w A5 x.f5.length x.f5):k59.K w x [.int .i64 x.f0,.int .i64 x.f1,.int .i64 x.f2,.int .i64 x.f3,.int .i64 x.f4,.slice A5 x.f5.length c5]:=⟨[.int .i64 x.f0],[.int .i64 x.f1,.int .i64 x.f2,.int .i64 x.f3,.int .i64 x.f4,.slice A5 x.f5.length c5],rfl,rfl,⟨[.int .i64 x.f1],[.int .i64 x.f2,.int .i64 x.f3,.int .i64 x.f4,.slice A5 x.f5.length c5],rfl,rfl,⟨[.int .i64 x.f2],[.int .i64 x.f3,.int .i64 x.f4,.slice A5 x.f5.length c5],rfl,rfl,⟨[.int .i64 x.f3],[.int .i64 x.f4,.slice A5 x.f5.length c5],rfl,rfl,⟨[.int .i64 x.f4],[.slice A5 x.f5.length c5],rfl,rfl,⟨A5,c5,rfl,l5,g5⟩⟩⟩⟩⟩⟩
theorem k59_mkF (W:World) (ok:Nat→Prop) (x:S59) {A5:Option Addr} {c5:Nat} (l5:x.f5.length≤c5) (g5:Kd.F (Kd.int .i64) W ok A5 x.f5.length x.f5):Kd.FK k59 W ok x [.int .i64 x.f0,.int .i64 x.f1,.int .i64 x.f2,.int .i64 x.f3,.int .i64 x.f4,.slice A5 x.f5.length c5]:=fun W2 hW=>k59_mk W2 x l5 (g5 W2 hW)
def qaK (xs:List S59) (i:Int):S59:=xs.getD i.toNat z59
theorem at_T59 {w:World} {A:Option Addr} {n:Nat} {xs:List S59} (h:Kd.C k59 w A n xs) (i:Int) (h0:0≤i) (h1:i<n):∃ ad A5 c5,A=some ad∧w.cell? (ad.add (i.toNat * 6))=some (.int .i64 (qaK xs i).f0)∧w.cell? ⟨(ad.add (i.toNat * 6)).block,(ad.add (i.toNat * 6)).off+1,none⟩=some (.int .i64 (qaK xs i).f1)∧w.cell? ⟨(ad.add (i.toNat * 6)).block,(ad.add (i.toNat * 6)).off+2,none⟩=some (.int .i64 (qaK xs i).f2)∧w.cell? ⟨(ad.add (i.toNat * 6)).block,(ad.add (i.toNat * 6)).off+3,none⟩=some (.int .i64 (qaK xs i).f3)∧w.cell? ⟨(ad.add (i.toNat * 6)).block,(ad.add (i.toNat * 6)).off+4,none⟩=some (.int .i64 (qaK xs i).f4)∧w.cell? ⟨(ad.add (i.toNat * 6)).block,(ad.add (i.toNat * 6)).off+5,none⟩=some (.slice A5 (qaK xs i).f5.length c5)∧(qaK xs i).f5.length≤c5∧(Kd.int .i64).C w A5 (qaK xs i).f5.length (qaK xs i).f5:=by
 obtain⟨ad,c,e,_,hK,hc0⟩:=Kd.C_get h z59 i h0 h1
 have hc:∀ j u,c[j]? = some u→w.cell? (ad.add (i.toNat * 6+j))=some u:=hc0
 obtain⟨A5,c5,rfl,l5,g5⟩:=k59_open hK
 exact⟨ad,A5,c5,e,hc 0 _ rfl,by rw [← qaP _ _ 1 (by omega)];exact hc 1 _ rfl,by rw [← qaP _ _ 2 (by omega)];exact hc 2 _ rfl,by rw [← qaP _ _ 3 (by omega)];exact hc 3 _ rfl,by rw [← qaP _ _ 4 (by omega)];exact hc 4 _ rfl,by rw [← qaP _ _ 5 (by omega)];exact hc 5 _ rfl,l5,g5⟩
structure S60 where
 f0:Int
 f1:Int
 f2:Int
 f3:Int
 f4:Int
 f5:(List Int)
def z60:S60:=⟨(0:Int),(0:Int),(0:Int),(0:Int),(0:Int),([]:List Int)⟩
def k60:Kd S60:=Kd.iso (Kd.pair (Kd.int .i64) (Kd.pair (Kd.int .i64) (Kd.pair (Kd.int .i64) (Kd.pair (Kd.int .i64) (Kd.pair (Kd.int .i64) (Kd.slice 3 (Kd.int .i64))))))) (fun x:S60=>(x.f0,x.f1,x.f2,x.f3,x.f4,x.f5))
theorem k60_open {w:World} {x:S60} {cs:List Value} (h:k60.K w x cs):∃ A5 c5,cs=[.int .i64 x.f0,.int .i64 x.f1,.int .i64 x.f2,.int .i64 x.f3,.int .i64 x.f4,.slice A5 x.f5.length c5]∧x.f5.length≤c5∧(Kd.int .i64).C w A5 x.f5.length x.f5:=by
 obtain⟨_,_,rfl,rfl,⟨_,_,rfl,rfl,⟨_,_,rfl,rfl,⟨_,_,rfl,rfl,⟨_,_,rfl,rfl,⟨A5,c5,rfl,l5,g5⟩⟩⟩⟩⟩⟩:=h
 exact⟨A5,c5,rfl,l5,g5⟩
theorem k60_openF {W:World} {ok:Nat→Prop} {x:S60} {cs:List Value} (h:Kd.FK k60 W ok x cs):∃ A5 c5,cs=[.int .i64 x.f0,.int .i64 x.f1,.int .i64 x.f2,.int .i64 x.f3,.int .i64 x.f4,.slice A5 x.f5.length c5]∧x.f5.length≤c5∧Kd.F (Kd.int .i64) W ok A5 x.f5.length x.f5:=by
 obtain⟨A5,c5,rfl,l5,_⟩:=k60_open (Kd.FK_now h)
 exact⟨A5,c5,rfl,l5,(fun W' hW=>by obtain⟨A5_,c5_,he,l5_,g5_⟩:=k60_open (h W' hW);injection (Option.some.inj (show some (Value.slice A5 x.f5.length c5)=some (Value.slice A5_ x.f5.length c5_) from congrArg (fun l=>l[5]?) he)) with ha_ _ _;rw [ha_];exact g5_)⟩
def qaF (xs:List S60) (i:Int):S60:=xs.getD i.toNat z60
theorem at_T60 {w:World} {A:Option Addr} {n:Nat} {xs:List S60} (h:Kd.C k60 w A n xs) (i:Int) (h0:0≤i) (h1:i<n):∃ ad A5 c5,A=some ad∧w.cell? (ad.add (i.toNat * 6))=some (.int .i64 (qaF xs i).f0)∧w.cell? ⟨(ad.add (i.toNat * 6)).block,(ad.add (i.toNat * 6)).off+1,none⟩=some (.int .i64 (qaF xs i).f1)∧w.cell? ⟨(ad.add (i.toNat * 6)).block,(ad.add (i.toNat * 6)).off+2,none⟩=some (.int .i64 (qaF xs i).f2)∧w.cell? ⟨(ad.add (i.toNat * 6)).block,(ad.add (i.toNat * 6)).off+3,none⟩=some (.int .i64 (qaF xs i).f3)∧w.cell? ⟨(ad.add (i.toNat * 6)).block,(ad.add (i.toNat * 6)).off+4,none⟩=some (.int .i64 (qaF xs i).f4)∧w.cell? ⟨(ad.add (i.toNat * 6)).block,(ad.add (i.toNat * 6)).off+5,none⟩=some (.slice A5 (qaF xs i).f5.length c5)∧(qaF xs i).f5.length≤c5∧(Kd.int .i64).C w A5 (qaF xs i).f5.length (qaF xs i).f5:=by
 obtain⟨ad,c,e,_,hK,hc0⟩:=Kd.C_get h z60 i h0 h1
 have hc:∀ j u,c[j]? = some u→w.cell? (ad.add (i.toNat * 6+j))=some u:=hc0
 obtain⟨A5,c5,rfl,l5,g5⟩:=k60_open hK
 exact⟨ad,A5,c5,e,hc 0 _ rfl,by rw [← qaP _ _ 1 (by omega)];exact hc 1 _ rfl,by rw [← qaP _ _ 2 (by omega)];exact hc 2 _ rfl,by rw [← qaP _ _ 3 (by omega)];exact hc 3 _ rfl,by rw [← qaP _ _ 4 (by omega)];exact hc 4 _ rfl,by rw [← qaP _ _ 5 (by omega)];exact hc 5 _ rfl,l5,g5⟩
end
end Go.Proofs.YtcfknijdhmildaaDoor.PParseReads
end
section
namespace Go.Proofs.YtcfknijdhmildaaDoor
open Go.ChangeShapes Go.WideShapes Go.ChangeAt Go.RowKit Go.Deep Go.Proofs.YtcfknijdhmildaaDoorW.PrintWords
def Opens {α:Type} (P:Program) (t:TypeId) (d:Kd α) (ok:α→Prop):Prop:=
 ∀ {H:Type} {enc:TypeId × Value→H} {w:World} {base:Nat} {held:Bool} {fuel:Nat} {cs:List Value} {y:DataW H × List MemPlace},
  DataW.trod enc P w base (fun _=>true) held fuel t cs=some y→∃ x,d.K w x cs∧ok x
def OpensF {α:Type} (P:Program) (n0:Nat) (fs:List (TypeId × Nat)) (d:Kd α) (ok:α→Prop):Prop:=
 ∀ {H:Type} {enc:TypeId × Value→H} {w:World} {base:Nat} {held:Bool} {fuel:Nat} {cs:List Value},
  (∀ f ∈ fs,∃ y:DataW H × List MemPlace,DataW.trod enc P w base (fun _=>true) held fuel f.1 ((cs.drop f.2).take (P.cellsOf f.1))=some y)→cs.length=n0+d.sz→∃ x,d.K w x (cs.drop n0)∧ok x
section
variable {α β:Type} {P:Program} {t:TypeId} {d:Kd α} {d':Kd β} {ok:α→Prop} {ok':β→Prop} {n0:Nat}
theorem Opens.int {k:IntKind} (ht:P.underlying t=some (.int k)):Opens P t (Kd.int k) (fun x=>(Lit.int k x).wf=true):=by
 intro H enc w base held fuel cs y h
 obtain⟨n,rfl,_,hw⟩:=DataW.trod_int ht h
 exact⟨n,rfl,hw⟩
theorem Opens.bool (ht:P.underlying t=some .bool):Opens P t Kd.bool (fun _=>True):=by
 intro H enc w base held fuel cs y h
 obtain⟨n,rfl,_⟩:=DataW.trod_bool ht h
 exact⟨n,rfl,trivial⟩
theorem Opens.string (ht:P.underlying t=some .string):Opens P t Kd.string (fun s=>s.size≤maxLen):=by
 intro H enc w base held fuel cs y h
 obtain⟨n,rfl,_,hl⟩:=DataW.trod_string ht h
 exact⟨n,rfl,hl⟩
theorem Opens.slice {e:TypeId} (e':TypeId) (ht:P.underlying t=some (.slice e)) (he:Opens P e d ok) (hc:P.cellsOf e=d.sz) (z:α):Opens P t (Kd.slice e' d) (fun l=>l.length≤maxLen∧∀ x ∈ l,ok x):=by
 intro H enc w base held fuel cs y h
 rcases open_slice ht h with ⟨rfl,_⟩|⟨a,len,cap,m,n,D,Pl,rfl,_,hl,hm,hmm,_,hx⟩
 ·exact⟨[],⟨none,0,rfl,Nat.le_refl _,Kd.C_nil d w⟩,Nat.zero_le _,fun x hx=>by cases hx⟩
 ·simp only [if_true] at hmm
  subst hmm
  have hk:∀ k,k<m→∃ g:α,ok g∧∃ c,d.K w g c∧∀ i u,c[i]? = some u→w.cell? (a.add (k * d.sz+i))=some u:=by
   intro k hk
   obtain⟨cs',hcs,ht'⟩:=hx k hk
   obtain⟨g,hg,hok⟩:=he ht'
   refine⟨g,hok,cs',hg,fun i u hu=>?_⟩
   obtain⟨_,_,hat⟩:=World.cells?_some hcs
   have hil:i<P.cellsOf e:=by
    have:=(List.getElem?_eq_some_iff.1 hu).1
    rw [d.K_len hg] at this
    omega
   have:=hat i hil
   rw [hu] at this
   rw [← this,hc]
   congr 1
   unfold Addr.add
   by_cases h1:k * d.sz=0<;>by_cases h2:i=0<;>simp [h1,h2,Nat.add_assoc]
  haveI:Inhabited α:=⟨z⟩
  obtain⟨f,hf⟩:=choose_lt (α:=α) (n:=m) (p:=fun k g=>ok g∧∃ c,d.K w g c∧∀ i u,c[i]? = some u→w.cell? (a.add (k * d.sz+i))=some u) hk
  have hm':len≤9223372036854775807:=by unfold maxLen at hm;omega
  refine⟨(List.range len).map f,⟨some a,m,by simp,by simpa using hl,⟨rfl,by simpa using hm',fun _=>⟨a,rfl,fun j p hj=>?_⟩⟩⟩,by simp;omega,fun x hx=>?_⟩
  ·have hj1:j<len:=by have:=(List.getElem?_eq_some_iff.1 hj).1;simpa using this
   rw [List.getElem?_map,List.getElem?_range hj1] at hj
   simp at hj
   subst hj
   obtain⟨_,c,hK,hcell⟩:=hf j (by omega)
   exact⟨c,d.K_len hK,hK,hcell⟩
  ·obtain⟨k,hk,rfl⟩:=List.mem_map.1 hx
   exact (hf k (by have:=List.mem_range.1 hk;omega)).1
theorem OpensF.last (h:Opens P t d ok) (hc:P.cellsOf t=d.sz):OpensF P n0 [(t,n0)] d ok:=by
 intro H enc w base held fuel cs hf hl
 obtain⟨y,hy⟩:=hf (t,n0) List.mem_cons_self
 rw [List.take_of_length_le (by rw [List.length_drop,hc];omega)] at hy
 exact h hy
theorem OpensF.cons {fs:List (TypeId × Nat)} (h:Opens P t d ok) (hc:P.cellsOf t=d.sz) {n1:Nat} (hn:n0+d.sz=n1) (hr:OpensF P n1 fs d' ok'):OpensF P n0 ((t,n0)::fs) (Kd.pair d d') (fun x=>ok x.1∧ok' x.2):=by
 subst hn
 intro H enc w base held fuel cs hf hl
 obtain⟨y,hy⟩:=hf (t,n0) List.mem_cons_self
 obtain⟨x,hx,hox⟩:=h hy
 obtain⟨x',hx',hox'⟩:=hr (fun f hm=>hf f (List.mem_cons_of_mem _ hm)) (by rw [hl];show n0+(d.sz+d'.sz)=_;omega)
 refine⟨(x,x'),⟨(cs.drop n0).take (P.cellsOf t),cs.drop (n0+d.sz),?_,hx,hx'⟩,hox,hox'⟩
 rw [hc,← List.drop_drop,List.take_append_drop]
theorem Opens.struct {fs:Array Field} {l:List (TypeId × Nat)} (f:β→α) (g:α→β) (hg:∀ x,f (g x)=x) (ht:P.underlying t=some (.struct fs)) (hfs:fs.toList.map (fun f=>(f.type,f.offset))=l) (hf:OpensF P 0 l d ok) (hc:P.cellsOf t=d.sz):Opens P t (Kd.iso d f) (fun b=>ok (f b)):=by
 subst hfs
 intro H enc w base held fuel cs y h
 obtain⟨xs,n,_,_,hl,hlen,hx⟩:=DataW.trod_struct ht h
 obtain⟨x,hk,ho⟩:=hf (cs:=cs) (fun q hq=>by
  obtain⟨fd,hfd,rfl⟩:=List.mem_map.1 hq
  obtain⟨i,hi,he⟩:=List.getElem_of_mem hfd
  have hi':i<fs.size:=by simpa using hi
  have hge:fs[i]? = some fd:=by rw [Array.getElem?_eq_getElem hi',← he];simp
  exact⟨xs[i]'(by omega),(hx i fd hge).trans (List.getElem?_eq_getElem (by omega))⟩) (by rw [hl,hc,Nat.zero_add])
 rw [List.drop_zero] at hk
 exact⟨g x,by show d.K w (f (g x)) cs;rw [hg];exact hk,by show ok (f (g x));rw [hg];exact ho⟩
theorem Opens.array {e:TypeId} {m:Nat} {l:List (TypeId × Nat)} (f:β→α) (g:α→β) (hg:∀ x,f (g x)=x) (ht:P.underlying t=some (.array m e)) (hfs:(List.range m).map (fun i=>(e,i * P.cellsOf e))=l) (hf:OpensF P 0 l d ok) (hc:P.cellsOf t=d.sz):Opens P t (Kd.iso d f) (fun b=>ok (f b)):=by
 subst hfs
 intro H enc w base held fuel cs y h
 obtain⟨xs,n,_,_,hl,hlen,hx⟩:=DataW.trod_array ht h
 obtain⟨x,hk,ho⟩:=hf (cs:=cs) (fun q hq=>by
  obtain⟨i,hi,rfl⟩:=List.mem_map.1 hq
  have hi':=List.mem_range.1 hi
  exact⟨xs[i]'(by omega),(hx i hi').trans (List.getElem?_eq_getElem (by omega))⟩) (by rw [hl,hc,Nat.zero_add])
 rw [List.drop_zero] at hk
 exact⟨g x,by show d.K w (f (g x)) cs;rw [hg];exact hk,by show ok (f (g x));rw [hg];exact ho⟩
end
end Go.Proofs.YtcfknijdhmildaaDoor
end
section
namespace Go.Proofs.YtcfknijdhmildaaDoor.PParseReads
open Go.RowKit Go.Proofs.YtcfknijdhmildaaDoorW.PrintWords
set_option maxRecDepth 100000
def ok60 (x:S60):Prop:=(Lit.int .i64 x.f0).wf=true∧(Lit.int .i64 x.f1).wf=true∧(Lit.int .i64 x.f2).wf=true∧(Lit.int .i64 x.f3).wf=true∧(Lit.int .i64 x.f4).wf=true∧(x.f5.length≤maxLen∧∀ y ∈ x.f5,(Lit.int .i64 y).wf=true)
theorem opens60:Opens Tryd.prog 60 k60 ok60:=Opens.struct (fun x:S60=>(x.f0,x.f1,x.f2,x.f3,x.f4,x.f5)) (fun x=>(⟨x.1,x.2.1,x.2.2.1,x.2.2.2.1,x.2.2.2.2.1,x.2.2.2.2.2⟩:S60)) (fun _=>rfl) Tryd.underlying60 (by rfl) (OpensF.cons (Opens.int Tryd.underlying3) (by kernel_rfl) (n1:=1) (by kernel_rfl) (OpensF.cons (Opens.int Tryd.underlying3) (by kernel_rfl) (n1:=2) (by kernel_rfl) (OpensF.cons (Opens.int Tryd.underlying3) (by kernel_rfl) (n1:=3) (by kernel_rfl) (OpensF.cons (Opens.int Tryd.underlying3) (by kernel_rfl) (n1:=4) (by kernel_rfl) (OpensF.cons (Opens.int Tryd.underlying3) (by kernel_rfl) (n1:=5) (by kernel_rfl) (OpensF.last (Opens.slice 3 Tryd.underlying50 (Opens.int Tryd.underlying3) (by kernel_rfl) (0:Int)) (by kernel_rfl))))))) (by kernel_rfl)
structure S24 where
 f0:Int
 f1:Int
 f2:(List S60)
def k24:Kd S24:=Kd.iso (Kd.pair (Kd.int .i64) (Kd.pair (Kd.int .i64) (Kd.slice 60 k60))) (fun x:S24=>(x.f0,x.f1,x.f2))
theorem k24_open {w:World} {x:S24} {cs:List Value} (h:k24.K w x cs):∃ A2 c2,cs=[.int .i64 x.f0,.int .i64 x.f1,.slice A2 x.f2.length c2]∧x.f2.length≤c2∧k60.C w A2 x.f2.length x.f2:=by
 obtain⟨_,_,rfl,rfl,⟨_,_,rfl,rfl,⟨A2,c2,rfl,l2,g2⟩⟩⟩:=h
 exact⟨A2,c2,rfl,l2,g2⟩
def ok24 (x:S24):Prop:=(Lit.int .i64 x.f0).wf=true∧(Lit.int .i64 x.f1).wf=true∧(x.f2.length≤maxLen∧∀ y ∈ x.f2,ok60 y)
theorem opens24:Opens Tryd.prog 24 k24 ok24:=Opens.struct (fun x:S24=>(x.f0,x.f1,x.f2)) (fun x=>(⟨x.1,x.2.1,x.2.2⟩:S24)) (fun _=>rfl) Tryd.underlying24 (by rfl) (OpensF.cons (Opens.int Tryd.underlying3) (by kernel_rfl) (n1:=1) (by kernel_rfl) (OpensF.cons (Opens.int Tryd.underlying3) (by kernel_rfl) (n1:=2) (by kernel_rfl) (OpensF.last (Opens.slice 60 Tryd.underlying22 opens60 (by kernel_rfl) z60) (by kernel_rfl)))) (by kernel_rfl)
structure S26 where
 f0:Int
 f1:Int
 f2:Int
def k26:Kd S26:=Kd.iso (Kd.pair (Kd.int .i64) (Kd.pair (Kd.int .i64) (Kd.int .u8))) (fun x:S26=>(x.f0,x.f1,x.f2))
theorem k26_open {w:World} {x:S26} {cs:List Value} (h:k26.K w x cs):cs=[.int .i64 x.f0,.int .i64 x.f1,.int .u8 x.f2]:=by
 obtain⟨_,_,rfl,rfl,⟨_,_,rfl,rfl,rfl⟩⟩:=h
 exact rfl
def ok26 (x:S26):Prop:=(Lit.int .i64 x.f0).wf=true∧(Lit.int .i64 x.f1).wf=true∧(Lit.int .u8 x.f2).wf=true
theorem opens26:Opens Tryd.prog 26 k26 ok26:=Opens.struct (fun x:S26=>(x.f0,x.f1,x.f2)) (fun x=>(⟨x.1,x.2.1,x.2.2⟩:S26)) (fun _=>rfl) Tryd.underlying26 (by rfl) (OpensF.cons (Opens.int Tryd.underlying3) (by kernel_rfl) (n1:=1) (by kernel_rfl) (OpensF.cons (Opens.int Tryd.underlying3) (by kernel_rfl) (n1:=2) (by kernel_rfl) (OpensF.last (Opens.int Tryd.underlying5) (by kernel_rfl)))) (by kernel_rfl)
end Go.Proofs.YtcfknijdhmildaaDoor.PParseReads
end
section
namespace Go.Proofs.YtcfknijdhmildaaDoor.PParseReads
open Go.RowKit Go.Proofs.YtcfknijdhmildaaDoorW.PrintWords Go.Proofs.YtcfknijdhmildaaDoorW.PrintLast Go.Proofs.YtcfknijdhmildaaDoorW.PrintMore
attribute [local go_sem] max2_int min2_int max_two min_two qa7 qa6 max_four min_four
set_option linter.unusedVariables false
set_option linter.unusedSimpArgs false
noncomputable section
mutual
def ostinatoref05_Right.j0:Nat→Int→Bool→Int→Int→Int→Int→Int→List Int→List Int→Option (Int)
 |0,_,_,_,_,_,_,_,_,_=>none
 |k+1,x1,x25,x102000,x102001,x102002,x102003,x102004,x102005,x102006=>if x25=true then (some 1) else (if x102001<1 then (ostinatoref05_Right.j1 k x1 true x102000 x102001 x102002 x102003 x102004 x102005 x102006) else (if x102001 > x102002 then (ostinatoref05_Right.j1 k x1 true x102000 x102001 x102002 x102003 x102004 x102005 x102006) else (if x102002 > x102003 then (ostinatoref05_Right.j1 k x1 true x102000 x102001 x102002 x102003 x102004 x102005 x102006) else (ostinatoref05_Right.j1 k x1 (decide (x102003 > 1073741824)) x102000 x102001 x102002 x102003 x102004 x102005 x102006))))
def ostinatoref05_Right.j1:Nat→Int→Bool→Int→Int→Int→Int→Int→List Int→List Int→Option (Int)
 |0,_,_,_,_,_,_,_,_,_=>none
 |k+1,x1,x47,x102000,x102001,x102002,x102003,x102004,x102005,x102006=>if x47=true then (some 10) else (ostinatoref05_Right.l0 k x1 x102001 0 x102000 x102001 x102002 x102003 x102004 x102005 x102006)
def ostinatoref05_Right.l0:Nat→Int→Int→Int→Int→Int→Int→Int→Int→List Int→List Int→Option (Int)
 |0,_,_,_,_,_,_,_,_,_,_=>none
 |k+1,x1,x5,x6,x102000,x102001,x102002,x102003,x102004,x102005,x102006=>if x6<(x102005.length:Int) then (if 0≤x6 then (if (rd x102005 x6)<1 then (some 13) else (if (rd x102005 x6) > x5 then (some 13) else (ostinatoref05_Right.l0 k x1 (wrap64 (x5 - (rd x102005 x6))) (wrap64 (x6+1)) x102000 x102001 x102002 x102003 x102004 x102005 x102006))) else (none)) else (if (x102005.length:Int) > 64 then (ostinatoref05_Right.j3 k x1 true x102000 x102001 x102002 x102003 x102004 x102005 x102006) else (if (x102005.length:Int) > 0 then (ostinatoref05_Right.j3 k x1 (x5 != 0) x102000 x102001 x102002 x102003 x102004 x102005 x102006) else (ostinatoref05_Right.j3 k x1 false x102000 x102001 x102002 x102003 x102004 x102005 x102006)))
def ostinatoref05_Right.j3:Nat→Int→Bool→Int→Int→Int→Int→Int→List Int→List Int→Option (Int)
 |0,_,_,_,_,_,_,_,_,_=>none
 |k+1,x1,x92,x102000,x102001,x102002,x102003,x102004,x102005,x102006=>if x92=true then (some 13) else (ostinatoref05_Right.l1 k x1 0 x102000 x102001 x102002 x102003 x102004 x102005 x102006)
def ostinatoref05_Right.l1:Nat→Int→Int→Int→Int→Int→Int→Int→List Int→List Int→Option (Int)
 |0,_,_,_,_,_,_,_,_,_=>none
 |k+1,x1,x7,x102000,x102001,x102002,x102003,x102004,x102005,x102006=>if x7<(x102006.length:Int) then (if 0≤x7 then (if (rd x102006 x7)<0 then (some 12) else (if (rd x102006 x7) ≥ x1 then (some 12) else (ostinatoref05_Right.l1 k x1 (wrap64 (x7+1)) x102000 x102001 x102002 x102003 x102004 x102005 x102006))) else (none)) else (if (x102006.length:Int) > 64 then (some 12) else (some 0))
end
def ostinatoref05_Right.f (k:Nat) (a0_0:Int) (a0_1:Int) (a0_2:Int) (a0_3:Int) (a0_4:Int) (l0_5:List Int) (l0_6:List Int) (a1:Int):Option (Int):=if a0_0<1 then (ostinatoref05_Right.j0 k a1 true a0_0 a0_1 a0_2 a0_3 a0_4 l0_5 l0_6) else (if a0_0 > 99 then (ostinatoref05_Right.j0 k a1 true a0_0 a0_1 a0_2 a0_3 a0_4 l0_5 l0_6) else (if a0_4<1 then (ostinatoref05_Right.j0 k a1 true a0_0 a0_1 a0_2 a0_3 a0_4 l0_5 l0_6) else (ostinatoref05_Right.j0 k a1 (decide (a0_4 > 99)) a0_0 a0_1 a0_2 a0_3 a0_4 l0_5 l0_6)))
theorem ostinatoref05_Right.calls (k:Nat) (a0_0:Int) (a0_1:Int) (a0_2:Int) (a0_3:Int) (a0_4:Int) (A0_5:Option Addr) (c0_5:Nat) (l0_5:List Int) (A0_6:Option Addr) (c0_6:Nat) (l0_6:List Int) (a1:Int) (r:Int) (w:World) (hr0_5:Kd.C (Kd.int .i64) w A0_5 l0_5.length l0_5) (hc0_5:l0_5.length≤c0_5) (hr0_6:Kd.C (Kd.int .i64) w A0_6 l0_6.length l0_6) (hc0_6:l0_6.length≤c0_6) (h:ostinatoref05_Right.f k a0_0 a0_1 a0_2 a0_3 a0_4 l0_5 l0_6 a1=some r) :
  Calls Tryd.prog 35 #[.agg #[.int .i64 a0_0,.int .i64 a0_1,.int .i64 a0_2,.int .i64 a0_3,.int .i64 a0_4,.slice A0_5 l0_5.length c0_5,.slice A0_6 l0_6.length c0_6],.int .i64 a1] w fun e w'=>e=.returned (.int .i64 r)∧Below w.heap.size w w':=by
 have hu52:=Tryd.underlying52
 have HR0_5:=qah.mk hr0_5
 have HC0_5:=qah.mk hc0_5
 clear hr0_5 hc0_5
 have HR0_6:=qah.mk hr0_6
 have HC0_6:=qah.mk hc0_6
 clear hr0_6 hc0_6
 have HB:=qah.mk (Below.refl w.heap.size w)
 have H:(if a0_0<1 then (ostinatoref05_Right.j0 k a1 true a0_0 a0_1 a0_2 a0_3 a0_4 l0_5 l0_6) else (if a0_0 > 99 then (ostinatoref05_Right.j0 k a1 true a0_0 a0_1 a0_2 a0_3 a0_4 l0_5 l0_6) else (if a0_4<1 then (ostinatoref05_Right.j0 k a1 true a0_0 a0_1 a0_2 a0_3 a0_4 l0_5 l0_6) else (ostinatoref05_Right.j0 k a1 (decide (a0_4 > 99)) a0_0 a0_1 a0_2 a0_3 a0_4 l0_5 l0_6))))=some r:=h
 clear h
 have HC3:=qah.mk H
 clear H
 go_enter Tryd.func35,Tryd.ntmps35
 go_upto_region 1 with (first|((with_reducible refine qaJ (N:=2) rfl ?_);(try (refine qbg (by rfl) ?_;dsimp only));refine qaG ?hg (N:=2) ?hd (cs:=#[.int .i64 a0_0,.int .i64 a0_1,.int .i64 a0_2,.int .i64 a0_3,.int .i64 a0_4,.slice A0_5 l0_5.length c0_5,.slice A0_6 l0_6.length c0_6]) (t:=52) ?hr ?_;(case hd=>rfl);(case hg=>rfl);(case hr=>first|(go_simp;done)|(go_simp;rfl));intro gb101 hg w4 hbox hb;have n0_:=qah.mk (qaw (by repeat (first|(with_reducible first|exact HB.out|apply qaj|apply qad|apply qai)|exact HB.out)) hb);have n1_:=qah.mk (hbox);have n2_:=qah.mk ((by rw [hg];exact (qao (by repeat (first|(with_reducible first|exact HB.out|apply qaj|apply qad|apply qai)|exact HB.out))):w.heap.size≤gb101));have n3_:=qah.mk ((by rw [hg];exact (qao (by repeat (first|(with_reducible first|exact HB.out|apply qaj|apply qad|apply qai)|exact HB.out))):w.heap.size≤gb101));clear HB;have HB:=n0_;have BK101:=n1_;have GW101:=n2_;have GE101:=n3_;clear n0_ n1_ n2_ n3_;clear hb hbox hg))
 (try simp only [Act.put,List.setIfInBounds_toArray,List.set_cons_zero,List.set_cons_succ])
 go_cut [25] (fun v25 wc=>∃ (kq:Nat) (x25_2:Bool),v25=.bool x25_2∧qah (ostinatoref05_Right.j0 kq a1 x25_2 a0_0 a0_1 a0_2 a0_3 a0_4 l0_5 l0_6=some r)∧qah (kq≤k)∧qah (wc.heap[gb101]? = some (.cells #[.int .i64 a0_0,.int .i64 a0_1,.int .i64 a0_2,.int .i64 a0_3,.int .i64 a0_4,(.slice A0_5 l0_5.length c0_5),(.slice A0_6 l0_6.length c0_6)] 52 (0,0)))∧qah (Below w.heap.size w wc))
 case first=>
  have H:=HC3.out
  clear HC3
  by_cases c5:a0_0<1
  ·rw [if_pos c5] at H
   have c5b0:decide (a0_0<1)=true:=decide_eq_true c5
   clear c5
   (first|rw [c5b0]|(simp only [qat,qau];rw [c5b0])|skip)
   have H':=qah.mk H
   clear H
   have hcz6_0:w4.cell? ⟨gb101,0,none⟩=some (.int .i64 a0_0):=(qab BK101.out 0).trans rfl
   have hcz6_1:w4.cell? ⟨gb101,1,none⟩=some (.int .i64 a0_1):=(qab BK101.out 1).trans rfl
   have hcz6_2:w4.cell? ⟨gb101,2,none⟩=some (.int .i64 a0_2):=(qab BK101.out 2).trans rfl
   have hcz6_3:w4.cell? ⟨gb101,3,none⟩=some (.int .i64 a0_3):=(qab BK101.out 3).trans rfl
   have hcz6_4:w4.cell? ⟨gb101,4,none⟩=some (.int .i64 a0_4):=(qab BK101.out 4).trans rfl
   have hcz6_5:w4.cell? ⟨gb101,5,none⟩=some (.slice A0_5 l0_5.length c0_5):=(qab BK101.out 5).trans rfl
   have hcz6_6:w4.cell? ⟨gb101,6,none⟩=some (.slice A0_6 l0_6.length c0_6):=(qab BK101.out 6).trans rfl
   have hfz6_0:=qaa BK101.out 0
   have hfz6_1:=qaa BK101.out 1
   have hfz6_2:=qaa BK101.out 2
   have hfz6_3:=qaa BK101.out 3
   have hfz6_4:=qaa BK101.out 4
   have hfz6_5:=qaa BK101.out 5
   have hfz6_6:=qaa BK101.out 6
   go_wp2
   go_meet
   case rel=>exact⟨_,(true),(by first|rfl|(simp;done)|(simp [*];done)),H',⟨by first|omega|exact Nat.le_refl _⟩,⟨by (with_reducible repeat (first|refine qae ?_ _|refine qag ?_|refine qac ?_ _));exact BK101.out⟩,⟨by repeat (first|(with_reducible first|exact HB.out|apply qaj|apply qad|apply qai|refine qaf ?_ GE101.out)|exact HB.out)⟩⟩
  ·rw [if_neg c5] at H
   have c5b0:decide (a0_0<1)=false:=decide_eq_false c5
   clear c5
   (first|rw [c5b0]|(simp only [qat,qau];rw [c5b0])|skip)
   by_cases c7:a0_0 > 99
   ·rw [if_pos c7] at H
    have c7b0:decide (99<a0_0)=true:=decide_eq_true c7
    clear c7
    have H':=qah.mk H
    clear H
    have hcz8_0:w4.cell? ⟨gb101,0,none⟩=some (.int .i64 a0_0):=(qab BK101.out 0).trans rfl
    have hcz8_1:w4.cell? ⟨gb101,1,none⟩=some (.int .i64 a0_1):=(qab BK101.out 1).trans rfl
    have hcz8_2:w4.cell? ⟨gb101,2,none⟩=some (.int .i64 a0_2):=(qab BK101.out 2).trans rfl
    have hcz8_3:w4.cell? ⟨gb101,3,none⟩=some (.int .i64 a0_3):=(qab BK101.out 3).trans rfl
    have hcz8_4:w4.cell? ⟨gb101,4,none⟩=some (.int .i64 a0_4):=(qab BK101.out 4).trans rfl
    have hcz8_5:w4.cell? ⟨gb101,5,none⟩=some (.slice A0_5 l0_5.length c0_5):=(qab BK101.out 5).trans rfl
    have hcz8_6:w4.cell? ⟨gb101,6,none⟩=some (.slice A0_6 l0_6.length c0_6):=(qab BK101.out 6).trans rfl
    have hfz8_0:=qaa BK101.out 0
    have hfz8_1:=qaa BK101.out 1
    have hfz8_2:=qaa BK101.out 2
    have hfz8_3:=qaa BK101.out 3
    have hfz8_4:=qaa BK101.out 4
    have hfz8_5:=qaa BK101.out 5
    have hfz8_6:=qaa BK101.out 6
    go_wp2
    go_meet
    case rel=>exact⟨_,(true),(by first|rfl|(simp;done)|(simp [*];done)),H',⟨by first|omega|exact Nat.le_refl _⟩,⟨by (with_reducible repeat (first|refine qae ?_ _|refine qag ?_|refine qac ?_ _));exact BK101.out⟩,⟨by repeat (first|(with_reducible first|exact HB.out|apply qaj|apply qad|apply qai|refine qaf ?_ GE101.out)|exact HB.out)⟩⟩
   ·rw [if_neg c7] at H
    have c7b0:decide (99<a0_0)=false:=decide_eq_false c7
    clear c7
    by_cases c9:a0_4<1
    ·rw [if_pos c9] at H
     have c9b0:decide (a0_4<1)=true:=decide_eq_true c9
     clear c9
     have H':=qah.mk H
     clear H
     have hcz10_0:w4.cell? ⟨gb101,0,none⟩=some (.int .i64 a0_0):=(qab BK101.out 0).trans rfl
     have hcz10_1:w4.cell? ⟨gb101,1,none⟩=some (.int .i64 a0_1):=(qab BK101.out 1).trans rfl
     have hcz10_2:w4.cell? ⟨gb101,2,none⟩=some (.int .i64 a0_2):=(qab BK101.out 2).trans rfl
     have hcz10_3:w4.cell? ⟨gb101,3,none⟩=some (.int .i64 a0_3):=(qab BK101.out 3).trans rfl
     have hcz10_4:w4.cell? ⟨gb101,4,none⟩=some (.int .i64 a0_4):=(qab BK101.out 4).trans rfl
     have hcz10_5:w4.cell? ⟨gb101,5,none⟩=some (.slice A0_5 l0_5.length c0_5):=(qab BK101.out 5).trans rfl
     have hcz10_6:w4.cell? ⟨gb101,6,none⟩=some (.slice A0_6 l0_6.length c0_6):=(qab BK101.out 6).trans rfl
     have hfz10_0:=qaa BK101.out 0
     have hfz10_1:=qaa BK101.out 1
     have hfz10_2:=qaa BK101.out 2
     have hfz10_3:=qaa BK101.out 3
     have hfz10_4:=qaa BK101.out 4
     have hfz10_5:=qaa BK101.out 5
     have hfz10_6:=qaa BK101.out 6
     go_wp2
     go_meet
     case rel=>exact⟨_,(true),(by first|rfl|(simp;done)|(simp [*];done)),H',⟨by first|omega|exact Nat.le_refl _⟩,⟨by (with_reducible repeat (first|refine qae ?_ _|refine qag ?_|refine qac ?_ _));exact BK101.out⟩,⟨by repeat (first|(with_reducible first|exact HB.out|apply qaj|apply qad|apply qai|refine qaf ?_ GE101.out)|exact HB.out)⟩⟩
    ·rw [if_neg c9] at H
     have c9b0:decide (a0_4<1)=false:=decide_eq_false c9
     clear c9
     have H':=qah.mk H
     clear H
     have hcz11_0:w4.cell? ⟨gb101,0,none⟩=some (.int .i64 a0_0):=(qab BK101.out 0).trans rfl
     have hcz11_1:w4.cell? ⟨gb101,1,none⟩=some (.int .i64 a0_1):=(qab BK101.out 1).trans rfl
     have hcz11_2:w4.cell? ⟨gb101,2,none⟩=some (.int .i64 a0_2):=(qab BK101.out 2).trans rfl
     have hcz11_3:w4.cell? ⟨gb101,3,none⟩=some (.int .i64 a0_3):=(qab BK101.out 3).trans rfl
     have hcz11_4:w4.cell? ⟨gb101,4,none⟩=some (.int .i64 a0_4):=(qab BK101.out 4).trans rfl
     have hcz11_5:w4.cell? ⟨gb101,5,none⟩=some (.slice A0_5 l0_5.length c0_5):=(qab BK101.out 5).trans rfl
     have hcz11_6:w4.cell? ⟨gb101,6,none⟩=some (.slice A0_6 l0_6.length c0_6):=(qab BK101.out 6).trans rfl
     have hfz11_0:=qaa BK101.out 0
     have hfz11_1:=qaa BK101.out 1
     have hfz11_2:=qaa BK101.out 2
     have hfz11_3:=qaa BK101.out 3
     have hfz11_4:=qaa BK101.out 4
     have hfz11_5:=qaa BK101.out 5
     have hfz11_6:=qaa BK101.out 6
     go_wp2
     go_meet
     case rel=>exact⟨_,(decide (a0_4 > 99)),(by first|rfl|(simp;done)|(simp [*];done)),H',⟨by first|omega|exact Nat.le_refl _⟩,⟨by (with_reducible repeat (first|refine qae ?_ _|refine qag ?_|refine qac ?_ _));exact BK101.out⟩,⟨by repeat (first|(with_reducible first|exact HB.out|apply qaj|apply qad|apply qai|refine qaf ?_ GE101.out)|exact HB.out)⟩⟩
 case rest=>
  clear HC3
  try clear p2
  try clear c3
  try clear c5
  try clear c5b0
  try clear c7
  try clear c7b0
  try clear c9
  try clear c9b0
  try clear hcz10_0
  try clear hcz10_1
  try clear hcz10_2
  try clear hcz10_3
  try clear hcz10_4
  try clear hcz10_5
  try clear hcz10_6
  try clear hcz11_0
  try clear hcz11_1
  try clear hcz11_2
  try clear hcz11_3
  try clear hcz11_4
  try clear hcz11_5
  try clear hcz11_6
  try clear hcz6_0
  try clear hcz6_1
  try clear hcz6_2
  try clear hcz6_3
  try clear hcz6_4
  try clear hcz6_5
  try clear hcz6_6
  try clear hcz8_0
  try clear hcz8_1
  try clear hcz8_2
  try clear hcz8_3
  try clear hcz8_4
  try clear hcz8_5
  try clear hcz8_6
  try clear hfz10_0
  try clear hfz10_1
  try clear hfz10_2
  try clear hfz10_3
  try clear hfz10_4
  try clear hfz10_5
  try clear hfz10_6
  try clear hfz11_0
  try clear hfz11_1
  try clear hfz11_2
  try clear hfz11_3
  try clear hfz11_4
  try clear hfz11_5
  try clear hfz11_6
  try clear hfz6_0
  try clear hfz6_1
  try clear hfz6_2
  try clear hfz6_3
  try clear hfz6_4
  try clear hfz6_5
  try clear hfz6_6
  try clear hfz8_0
  try clear hfz8_1
  try clear hfz8_2
  try clear hfz8_3
  try clear hfz8_4
  try clear hfz8_5
  try clear hfz8_6
  obtain⟨kq,x25_2,rfl,HA,HJ2,BK101,HB⟩:=hcut
  cases kq with
  |zero=>exact absurd HA.out (by simp [ostinatoref05_Right.j0])
  |succ kj2=>
   have H:=HA.out
   clear HA
   simp only [ostinatoref05_Right.j0] at H
   by_cases c12:x25_2=true
   ·subst c12
    have H1:(some 1)=some r:=by rw [if_pos rfl] at H;exact H
    clear H
    have H:=H1
    clear H1
    obtain rfl:=Option.some.inj H
    go_wp2
    go_ret
    exact⟨by first|rfl|(simp [qaq,qap]<;>rfl)|(simp [bneNil,bneNilU]<;>rfl)|(simp [*,qaq,qap]<;>rfl),by repeat (first|(with_reducible first|exact HB.out|apply qaj|apply qad|apply qai|refine qaf ?_ GE101.out)|exact HB.out)⟩
   ·replace c12:=Bool.eq_false_iff.mpr c12
    subst c12
    have H1:(if a0_1<1 then (ostinatoref05_Right.j1 kj2 a1 true a0_0 a0_1 a0_2 a0_3 a0_4 l0_5 l0_6) else (if a0_1 > a0_2 then (ostinatoref05_Right.j1 kj2 a1 true a0_0 a0_1 a0_2 a0_3 a0_4 l0_5 l0_6) else (if a0_2 > a0_3 then (ostinatoref05_Right.j1 kj2 a1 true a0_0 a0_1 a0_2 a0_3 a0_4 l0_5 l0_6) else (ostinatoref05_Right.j1 kj2 a1 (decide (a0_3 > 1073741824)) a0_0 a0_1 a0_2 a0_3 a0_4 l0_5 l0_6))))=some r:=by rw [if_neg (show ¬ (false=true) by decide)] at H;exact H
    clear H
    have H:=H1
    clear H1
    have HC13:=qah.mk H
    clear H
    go_upto_region 3 with (fail)
    go_cut [47] (fun v47 wc=>∃ (kq:Nat) (x47_12:Bool),v47=.bool x47_12∧qah (ostinatoref05_Right.j1 kq a1 x47_12 a0_0 a0_1 a0_2 a0_3 a0_4 l0_5 l0_6=some r)∧qah (kq≤kj2)∧qah (wc.heap[gb101]? = some (.cells #[.int .i64 a0_0,.int .i64 a0_1,.int .i64 a0_2,.int .i64 a0_3,.int .i64 a0_4,(.slice A0_5 l0_5.length c0_5),(.slice A0_6 l0_6.length c0_6)] 52 (0,0)))∧qah (Below w.heap.size w wc))
    case first=>
     have H:=HC13.out
     clear HC13
     by_cases c14:a0_1<1
     ·rw [if_pos c14] at H
      have c14b0:decide (a0_1<1)=true:=decide_eq_true c14
      clear c14
      (first|rw [c14b0]|(simp only [qat,qau];rw [c14b0])|skip)
      have H':=qah.mk H
      clear H
      have hcz15_0:wc.cell? ⟨gb101,0,none⟩=some (.int .i64 a0_0):=(qab BK101.out 0).trans rfl
      have hcz15_1:wc.cell? ⟨gb101,1,none⟩=some (.int .i64 a0_1):=(qab BK101.out 1).trans rfl
      have hcz15_2:wc.cell? ⟨gb101,2,none⟩=some (.int .i64 a0_2):=(qab BK101.out 2).trans rfl
      have hcz15_3:wc.cell? ⟨gb101,3,none⟩=some (.int .i64 a0_3):=(qab BK101.out 3).trans rfl
      have hcz15_4:wc.cell? ⟨gb101,4,none⟩=some (.int .i64 a0_4):=(qab BK101.out 4).trans rfl
      have hcz15_5:wc.cell? ⟨gb101,5,none⟩=some (.slice A0_5 l0_5.length c0_5):=(qab BK101.out 5).trans rfl
      have hcz15_6:wc.cell? ⟨gb101,6,none⟩=some (.slice A0_6 l0_6.length c0_6):=(qab BK101.out 6).trans rfl
      have hfz15_0:=qaa BK101.out 0
      have hfz15_1:=qaa BK101.out 1
      have hfz15_2:=qaa BK101.out 2
      have hfz15_3:=qaa BK101.out 3
      have hfz15_4:=qaa BK101.out 4
      have hfz15_5:=qaa BK101.out 5
      have hfz15_6:=qaa BK101.out 6
      go_wp2
      go_meet
      case rel=>exact⟨_,(true),(by first|rfl|(simp;done)|(simp [*];done)),H',⟨by have:=HJ2.out;first|omega|exact Nat.le_refl _⟩,⟨by (with_reducible repeat (first|refine qae ?_ _|refine qag ?_|refine qac ?_ _));exact BK101.out⟩,⟨by repeat (first|(with_reducible first|exact HB.out|apply qaj|apply qad|apply qai|refine qaf ?_ GE101.out)|exact HB.out)⟩⟩
     ·rw [if_neg c14] at H
      have c14b0:decide (a0_1<1)=false:=decide_eq_false c14
      clear c14
      (first|rw [c14b0]|(simp only [qat,qau];rw [c14b0])|skip)
      by_cases c16:a0_1 > a0_2
      ·rw [if_pos c16] at H
       have c16b0:decide (a0_2<a0_1)=true:=decide_eq_true c16
       clear c16
       have H':=qah.mk H
       clear H
       have hcz17_0:wc.cell? ⟨gb101,0,none⟩=some (.int .i64 a0_0):=(qab BK101.out 0).trans rfl
       have hcz17_1:wc.cell? ⟨gb101,1,none⟩=some (.int .i64 a0_1):=(qab BK101.out 1).trans rfl
       have hcz17_2:wc.cell? ⟨gb101,2,none⟩=some (.int .i64 a0_2):=(qab BK101.out 2).trans rfl
       have hcz17_3:wc.cell? ⟨gb101,3,none⟩=some (.int .i64 a0_3):=(qab BK101.out 3).trans rfl
       have hcz17_4:wc.cell? ⟨gb101,4,none⟩=some (.int .i64 a0_4):=(qab BK101.out 4).trans rfl
       have hcz17_5:wc.cell? ⟨gb101,5,none⟩=some (.slice A0_5 l0_5.length c0_5):=(qab BK101.out 5).trans rfl
       have hcz17_6:wc.cell? ⟨gb101,6,none⟩=some (.slice A0_6 l0_6.length c0_6):=(qab BK101.out 6).trans rfl
       have hfz17_0:=qaa BK101.out 0
       have hfz17_1:=qaa BK101.out 1
       have hfz17_2:=qaa BK101.out 2
       have hfz17_3:=qaa BK101.out 3
       have hfz17_4:=qaa BK101.out 4
       have hfz17_5:=qaa BK101.out 5
       have hfz17_6:=qaa BK101.out 6
       go_wp2
       go_meet
       case rel=>exact⟨_,(true),(by first|rfl|(simp;done)|(simp [*];done)),H',⟨by have:=HJ2.out;first|omega|exact Nat.le_refl _⟩,⟨by (with_reducible repeat (first|refine qae ?_ _|refine qag ?_|refine qac ?_ _));exact BK101.out⟩,⟨by repeat (first|(with_reducible first|exact HB.out|apply qaj|apply qad|apply qai|refine qaf ?_ GE101.out)|exact HB.out)⟩⟩
      ·rw [if_neg c16] at H
       have c16b0:decide (a0_2<a0_1)=false:=decide_eq_false c16
       clear c16
       by_cases c18:a0_2 > a0_3
       ·rw [if_pos c18] at H
        have c18b0:decide (a0_3<a0_2)=true:=decide_eq_true c18
        clear c18
        have H':=qah.mk H
        clear H
        have hcz19_0:wc.cell? ⟨gb101,0,none⟩=some (.int .i64 a0_0):=(qab BK101.out 0).trans rfl
        have hcz19_1:wc.cell? ⟨gb101,1,none⟩=some (.int .i64 a0_1):=(qab BK101.out 1).trans rfl
        have hcz19_2:wc.cell? ⟨gb101,2,none⟩=some (.int .i64 a0_2):=(qab BK101.out 2).trans rfl
        have hcz19_3:wc.cell? ⟨gb101,3,none⟩=some (.int .i64 a0_3):=(qab BK101.out 3).trans rfl
        have hcz19_4:wc.cell? ⟨gb101,4,none⟩=some (.int .i64 a0_4):=(qab BK101.out 4).trans rfl
        have hcz19_5:wc.cell? ⟨gb101,5,none⟩=some (.slice A0_5 l0_5.length c0_5):=(qab BK101.out 5).trans rfl
        have hcz19_6:wc.cell? ⟨gb101,6,none⟩=some (.slice A0_6 l0_6.length c0_6):=(qab BK101.out 6).trans rfl
        have hfz19_0:=qaa BK101.out 0
        have hfz19_1:=qaa BK101.out 1
        have hfz19_2:=qaa BK101.out 2
        have hfz19_3:=qaa BK101.out 3
        have hfz19_4:=qaa BK101.out 4
        have hfz19_5:=qaa BK101.out 5
        have hfz19_6:=qaa BK101.out 6
        go_wp2
        go_meet
        case rel=>exact⟨_,(true),(by first|rfl|(simp;done)|(simp [*];done)),H',⟨by have:=HJ2.out;first|omega|exact Nat.le_refl _⟩,⟨by (with_reducible repeat (first|refine qae ?_ _|refine qag ?_|refine qac ?_ _));exact BK101.out⟩,⟨by repeat (first|(with_reducible first|exact HB.out|apply qaj|apply qad|apply qai|refine qaf ?_ GE101.out)|exact HB.out)⟩⟩
       ·rw [if_neg c18] at H
        have c18b0:decide (a0_3<a0_2)=false:=decide_eq_false c18
        clear c18
        have H':=qah.mk H
        clear H
        have hcz20_0:wc.cell? ⟨gb101,0,none⟩=some (.int .i64 a0_0):=(qab BK101.out 0).trans rfl
        have hcz20_1:wc.cell? ⟨gb101,1,none⟩=some (.int .i64 a0_1):=(qab BK101.out 1).trans rfl
        have hcz20_2:wc.cell? ⟨gb101,2,none⟩=some (.int .i64 a0_2):=(qab BK101.out 2).trans rfl
        have hcz20_3:wc.cell? ⟨gb101,3,none⟩=some (.int .i64 a0_3):=(qab BK101.out 3).trans rfl
        have hcz20_4:wc.cell? ⟨gb101,4,none⟩=some (.int .i64 a0_4):=(qab BK101.out 4).trans rfl
        have hcz20_5:wc.cell? ⟨gb101,5,none⟩=some (.slice A0_5 l0_5.length c0_5):=(qab BK101.out 5).trans rfl
        have hcz20_6:wc.cell? ⟨gb101,6,none⟩=some (.slice A0_6 l0_6.length c0_6):=(qab BK101.out 6).trans rfl
        have hfz20_0:=qaa BK101.out 0
        have hfz20_1:=qaa BK101.out 1
        have hfz20_2:=qaa BK101.out 2
        have hfz20_3:=qaa BK101.out 3
        have hfz20_4:=qaa BK101.out 4
        have hfz20_5:=qaa BK101.out 5
        have hfz20_6:=qaa BK101.out 6
        go_wp2
        go_meet
        case rel=>exact⟨_,(decide (a0_3 > 1073741824)),(by first|rfl|(simp;done)|(simp [*];done)),H',⟨by have:=HJ2.out;first|omega|exact Nat.le_refl _⟩,⟨by (with_reducible repeat (first|refine qae ?_ _|refine qag ?_|refine qac ?_ _));exact BK101.out⟩,⟨by repeat (first|(with_reducible first|exact HB.out|apply qaj|apply qad|apply qai|refine qaf ?_ GE101.out)|exact HB.out)⟩⟩
    case rest=>
     clear HC13
     try clear c1
     try clear p2
     try clear c3
     try clear c5
     try clear c5b0
     try clear c7
     try clear c7b0
     try clear c9
     try clear c9b0
     try clear c12
     try clear c14
     try clear c14b0
     try clear c16
     try clear c16b0
     try clear c18
     try clear c18b0
     try clear hcz10_0
     try clear hcz10_1
     try clear hcz10_2
     try clear hcz10_3
     try clear hcz10_4
     try clear hcz10_5
     try clear hcz10_6
     try clear hcz11_0
     try clear hcz11_1
     try clear hcz11_2
     try clear hcz11_3
     try clear hcz11_4
     try clear hcz11_5
     try clear hcz11_6
     try clear hcz15_0
     try clear hcz15_1
     try clear hcz15_2
     try clear hcz15_3
     try clear hcz15_4
     try clear hcz15_5
     try clear hcz15_6
     try clear hcz17_0
     try clear hcz17_1
     try clear hcz17_2
     try clear hcz17_3
     try clear hcz17_4
     try clear hcz17_5
     try clear hcz17_6
     try clear hcz19_0
     try clear hcz19_1
     try clear hcz19_2
     try clear hcz19_3
     try clear hcz19_4
     try clear hcz19_5
     try clear hcz19_6
     try clear hcz20_0
     try clear hcz20_1
     try clear hcz20_2
     try clear hcz20_3
     try clear hcz20_4
     try clear hcz20_5
     try clear hcz20_6
     try clear hcz6_0
     try clear hcz6_1
     try clear hcz6_2
     try clear hcz6_3
     try clear hcz6_4
     try clear hcz6_5
     try clear hcz6_6
     try clear hcz8_0
     try clear hcz8_1
     try clear hcz8_2
     try clear hcz8_3
     try clear hcz8_4
     try clear hcz8_5
     try clear hcz8_6
     try clear hfz10_0
     try clear hfz10_1
     try clear hfz10_2
     try clear hfz10_3
     try clear hfz10_4
     try clear hfz10_5
     try clear hfz10_6
     try clear hfz11_0
     try clear hfz11_1
     try clear hfz11_2
     try clear hfz11_3
     try clear hfz11_4
     try clear hfz11_5
     try clear hfz11_6
     try clear hfz15_0
     try clear hfz15_1
     try clear hfz15_2
     try clear hfz15_3
     try clear hfz15_4
     try clear hfz15_5
     try clear hfz15_6
     try clear hfz17_0
     try clear hfz17_1
     try clear hfz17_2
     try clear hfz17_3
     try clear hfz17_4
     try clear hfz17_5
     try clear hfz17_6
     try clear hfz19_0
     try clear hfz19_1
     try clear hfz19_2
     try clear hfz19_3
     try clear hfz19_4
     try clear hfz19_5
     try clear hfz19_6
     try clear hfz20_0
     try clear hfz20_1
     try clear hfz20_2
     try clear hfz20_3
     try clear hfz20_4
     try clear hfz20_5
     try clear hfz20_6
     try clear hfz6_0
     try clear hfz6_1
     try clear hfz6_2
     try clear hfz6_3
     try clear hfz6_4
     try clear hfz6_5
     try clear hfz6_6
     try clear hfz8_0
     try clear hfz8_1
     try clear hfz8_2
     try clear hfz8_3
     try clear hfz8_4
     try clear hfz8_5
     try clear hfz8_6
     try clear p2
     obtain⟨kq,x47_12,rfl,HA,HJ12,BK101,HB⟩:=hcut
     cases kq with
     |zero=>exact absurd HA.out (by simp [ostinatoref05_Right.j1])
     |succ kj12=>
      have H:=HA.out
      clear HA
      simp only [ostinatoref05_Right.j1] at H
      by_cases c21:x47_12=true
      ·subst c21
       have H1:(some 10)=some r:=by rw [if_pos rfl] at H;exact H
       clear H
       have H:=H1
       clear H1
       obtain rfl:=Option.some.inj H
       go_wp2
       go_ret
       exact⟨by first|rfl|(simp [qaq,qap]<;>rfl)|(simp [bneNil,bneNilU]<;>rfl)|(simp [*,qaq,qap]<;>rfl),by repeat (first|(with_reducible first|exact HB.out|apply qaj|apply qad|apply qai|refine qaf ?_ GE101.out)|exact HB.out)⟩
      ·replace c21:=Bool.eq_false_iff.mpr c21
       subst c21
       have H1:(ostinatoref05_Right.l0 kj12 a1 a0_1 0 a0_0 a0_1 a0_2 a0_3 a0_4 l0_5 l0_6)=some r:=by rw [if_neg (show ¬ (false=true) by decide)] at H;exact H
       clear H
       have H:=H1
       clear H1
       have H':=qah.mk H
       clear H
       have hcz22_0:wc.cell? ⟨gb101,0,none⟩=some (.int .i64 a0_0):=(qab BK101.out 0).trans rfl
       have hcz22_1:wc.cell? ⟨gb101,1,none⟩=some (.int .i64 a0_1):=(qab BK101.out 1).trans rfl
       have hcz22_2:wc.cell? ⟨gb101,2,none⟩=some (.int .i64 a0_2):=(qab BK101.out 2).trans rfl
       have hcz22_3:wc.cell? ⟨gb101,3,none⟩=some (.int .i64 a0_3):=(qab BK101.out 3).trans rfl
       have hcz22_4:wc.cell? ⟨gb101,4,none⟩=some (.int .i64 a0_4):=(qab BK101.out 4).trans rfl
       have hcz22_5:wc.cell? ⟨gb101,5,none⟩=some (.slice A0_5 l0_5.length c0_5):=(qab BK101.out 5).trans rfl
       have hcz22_6:wc.cell? ⟨gb101,6,none⟩=some (.slice A0_6 l0_6.length c0_6):=(qab BK101.out 6).trans rfl
       have hfz22_0:=qaa BK101.out 0
       have hfz22_1:=qaa BK101.out 1
       have hfz22_2:=qaa BK101.out 2
       have hfz22_3:=qaa BK101.out 3
       have hfz22_4:=qaa BK101.out 4
       have hfz22_5:=qaa BK101.out 5
       have hfz22_6:=qaa BK101.out 6
       go_wp2
       go_loopg [5,6] kj12 (fun kq v5 v6 w'=>∃ (x5_3:Int) (x6_3:Int),v5=.int .i64 x5_3∧v6=.int .i64 x6_3∧qah (ostinatoref05_Right.l0 kq a1 x5_3 x6_3 a0_0 a0_1 a0_2 a0_3 a0_4 l0_5 l0_6=some r)∧qah (kq≤kj12)∧qah (w'.heap[gb101]? = some (.cells #[.int .i64 a0_0,.int .i64 a0_1,.int .i64 a0_2,.int .i64 a0_3,.int .i64 a0_4,(.slice A0_5 l0_5.length c0_5),(.slice A0_6 l0_6.length c0_6)] 52 (0,0)))∧qah (Below w.heap.size w w'))
       case atStart=>exact⟨(a0_1),(0),(by first|rfl|(simp;done)|(simp [*];done)),(by first|rfl|(simp;done)|(simp [*];done)),H',⟨Nat.le_refl _⟩,⟨by (with_reducible repeat (first|refine qae ?_ _|refine qag ?_|refine qac ?_ _));exact BK101.out⟩,⟨by repeat (first|(with_reducible first|exact HB.out|apply qaj|apply qad|apply qai|refine qaf ?_ GE101.out)|exact HB.out)⟩⟩
       case round=>
        clear H'
        try clear c1
        try clear c2
        try clear p2
        try clear c3
        try clear c5
        try clear c5b0
        try clear c7
        try clear c7b0
        try clear c9
        try clear c9b0
        try clear c12
        try clear c14
        try clear c14b0
        try clear c16
        try clear c16b0
        try clear c18
        try clear c18b0
        try clear c21
        try clear hcz10_0
        try clear hcz10_1
        try clear hcz10_2
        try clear hcz10_3
        try clear hcz10_4
        try clear hcz10_5
        try clear hcz10_6
        try clear hcz11_0
        try clear hcz11_1
        try clear hcz11_2
        try clear hcz11_3
        try clear hcz11_4
        try clear hcz11_5
        try clear hcz11_6
        try clear hcz15_0
        try clear hcz15_1
        try clear hcz15_2
        try clear hcz15_3
        try clear hcz15_4
        try clear hcz15_5
        try clear hcz15_6
        try clear hcz17_0
        try clear hcz17_1
        try clear hcz17_2
        try clear hcz17_3
        try clear hcz17_4
        try clear hcz17_5
        try clear hcz17_6
        try clear hcz19_0
        try clear hcz19_1
        try clear hcz19_2
        try clear hcz19_3
        try clear hcz19_4
        try clear hcz19_5
        try clear hcz19_6
        try clear hcz20_0
        try clear hcz20_1
        try clear hcz20_2
        try clear hcz20_3
        try clear hcz20_4
        try clear hcz20_5
        try clear hcz20_6
        try clear hcz22_0
        try clear hcz22_1
        try clear hcz22_2
        try clear hcz22_3
        try clear hcz22_4
        try clear hcz22_5
        try clear hcz22_6
        try clear hcz6_0
        try clear hcz6_1
        try clear hcz6_2
        try clear hcz6_3
        try clear hcz6_4
        try clear hcz6_5
        try clear hcz6_6
        try clear hcz8_0
        try clear hcz8_1
        try clear hcz8_2
        try clear hcz8_3
        try clear hcz8_4
        try clear hcz8_5
        try clear hcz8_6
        try clear hfz10_0
        try clear hfz10_1
        try clear hfz10_2
        try clear hfz10_3
        try clear hfz10_4
        try clear hfz10_5
        try clear hfz10_6
        try clear hfz11_0
        try clear hfz11_1
        try clear hfz11_2
        try clear hfz11_3
        try clear hfz11_4
        try clear hfz11_5
        try clear hfz11_6
        try clear hfz15_0
        try clear hfz15_1
        try clear hfz15_2
        try clear hfz15_3
        try clear hfz15_4
        try clear hfz15_5
        try clear hfz15_6
        try clear hfz17_0
        try clear hfz17_1
        try clear hfz17_2
        try clear hfz17_3
        try clear hfz17_4
        try clear hfz17_5
        try clear hfz17_6
        try clear hfz19_0
        try clear hfz19_1
        try clear hfz19_2
        try clear hfz19_3
        try clear hfz19_4
        try clear hfz19_5
        try clear hfz19_6
        try clear hfz20_0
        try clear hfz20_1
        try clear hfz20_2
        try clear hfz20_3
        try clear hfz20_4
        try clear hfz20_5
        try clear hfz20_6
        try clear hfz22_0
        try clear hfz22_1
        try clear hfz22_2
        try clear hfz22_3
        try clear hfz22_4
        try clear hfz22_5
        try clear hfz22_6
        try clear hfz6_0
        try clear hfz6_1
        try clear hfz6_2
        try clear hfz6_3
        try clear hfz6_4
        try clear hfz6_5
        try clear hfz6_6
        try clear hfz8_0
        try clear hfz8_1
        try clear hfz8_2
        try clear hfz8_3
        try clear hfz8_4
        try clear hfz8_5
        try clear hfz8_6
        try clear p2
        obtain⟨x5_3,x6_3,rfl,rfl,HA,HK3,BK101,HB⟩:=hrel
        cases gk with
        |zero=>exact absurd HA.out (by simp [ostinatoref05_Right.l0])
        |succ k3=>
         have H:=HA.out
         clear HA
         simp only [ostinatoref05_Right.l0] at H
         by_cases c23:x6_3<(l0_5.length:Int)
         ·rw [if_pos c23] at H
          have c23b0:decide (x6_3<(l0_5.length:Int))=true:=decide_eq_true c23
          clear c23
          by_cases c24:0≤x6_3
          ·rw [if_pos c24] at H
           have c24b0:decide (0≤x6_3)=true:=decide_eq_true c24
           clear c24
           by_cases c25:(rd l0_5 x6_3)<1
           ·rw [if_pos c25] at H
            have c25b0:decide ((rd l0_5 x6_3)<1)=true:=decide_eq_true c25
            clear c25
            obtain rfl:=Option.some.inj H
            have hcz26_0:wr.cell? ⟨gb101,0,none⟩=some (.int .i64 a0_0):=(qab BK101.out 0).trans rfl
            have hcz26_1:wr.cell? ⟨gb101,1,none⟩=some (.int .i64 a0_1):=(qab BK101.out 1).trans rfl
            have hcz26_2:wr.cell? ⟨gb101,2,none⟩=some (.int .i64 a0_2):=(qab BK101.out 2).trans rfl
            have hcz26_3:wr.cell? ⟨gb101,3,none⟩=some (.int .i64 a0_3):=(qab BK101.out 3).trans rfl
            have hcz26_4:wr.cell? ⟨gb101,4,none⟩=some (.int .i64 a0_4):=(qab BK101.out 4).trans rfl
            have hcz26_5:wr.cell? ⟨gb101,5,none⟩=some (.slice A0_5 l0_5.length c0_5):=(qab BK101.out 5).trans rfl
            have hcz26_6:wr.cell? ⟨gb101,6,none⟩=some (.slice A0_6 l0_6.length c0_6):=(qab BK101.out 6).trans rfl
            have hfz26_0:=qaa BK101.out 0
            have hfz26_1:=qaa BK101.out 1
            have hfz26_2:=qaa BK101.out 2
            have hfz26_3:=qaa BK101.out 3
            have hfz26_4:=qaa BK101.out 4
            have hfz26_5:=qaa BK101.out 5
            have hfz26_6:=qaa BK101.out 6
            have p102:0≤(x6_3:Int):=of_decide_eq_true (by first|(with_reducible assumption)|assumption)
            have q102:x6_3<(l0_5.length:Int):=of_decide_eq_true (by first|(with_reducible assumption)|assumption)
            obtain⟨ad102,e102,hx102_0⟩:=Kd.at_int HR0_5.out x6_3 p102 q102
            cases e102
            replace hx102_0:=(HB.out.cell (bLt w _ hx102_0)).trans hx102_0
            replace p102:=eq_true p102
            replace q102:=eq_true q102
            go_wp2
            go_ret
            exact⟨by first|rfl|(simp [qaq,qap]<;>rfl)|(simp [bneNil,bneNilU]<;>rfl)|(simp [*,qaq,qap]<;>rfl),by repeat (first|(with_reducible first|exact HB.out|apply qaj|apply qad|apply qai|refine qaf ?_ GE101.out)|exact HB.out)⟩
           ·rw [if_neg c25] at H
            have c25b0:decide ((rd l0_5 x6_3)<1)=false:=decide_eq_false c25
            clear c25
            by_cases c27:(rd l0_5 x6_3) > x5_3
            ·rw [if_pos c27] at H
             have c27b0:decide (x5_3<(rd l0_5 x6_3))=true:=decide_eq_true c27
             clear c27
             obtain rfl:=Option.some.inj H
             have hcz28_0:wr.cell? ⟨gb101,0,none⟩=some (.int .i64 a0_0):=(qab BK101.out 0).trans rfl
             have hcz28_1:wr.cell? ⟨gb101,1,none⟩=some (.int .i64 a0_1):=(qab BK101.out 1).trans rfl
             have hcz28_2:wr.cell? ⟨gb101,2,none⟩=some (.int .i64 a0_2):=(qab BK101.out 2).trans rfl
             have hcz28_3:wr.cell? ⟨gb101,3,none⟩=some (.int .i64 a0_3):=(qab BK101.out 3).trans rfl
             have hcz28_4:wr.cell? ⟨gb101,4,none⟩=some (.int .i64 a0_4):=(qab BK101.out 4).trans rfl
             have hcz28_5:wr.cell? ⟨gb101,5,none⟩=some (.slice A0_5 l0_5.length c0_5):=(qab BK101.out 5).trans rfl
             have hcz28_6:wr.cell? ⟨gb101,6,none⟩=some (.slice A0_6 l0_6.length c0_6):=(qab BK101.out 6).trans rfl
             have hfz28_0:=qaa BK101.out 0
             have hfz28_1:=qaa BK101.out 1
             have hfz28_2:=qaa BK101.out 2
             have hfz28_3:=qaa BK101.out 3
             have hfz28_4:=qaa BK101.out 4
             have hfz28_5:=qaa BK101.out 5
             have hfz28_6:=qaa BK101.out 6
             have p102:0≤(x6_3:Int):=of_decide_eq_true (by first|(with_reducible assumption)|assumption)
             have q102:x6_3<(l0_5.length:Int):=of_decide_eq_true (by first|(with_reducible assumption)|assumption)
             obtain⟨ad102,e102,hx102_0⟩:=Kd.at_int HR0_5.out x6_3 p102 q102
             cases e102
             replace hx102_0:=(HB.out.cell (bLt w _ hx102_0)).trans hx102_0
             replace p102:=eq_true p102
             replace q102:=eq_true q102
             have p103:0≤(x6_3:Int):=of_decide_eq_true (by first|(with_reducible assumption)|assumption)
             have q103:x6_3<(l0_5.length:Int):=of_decide_eq_true (by first|(with_reducible assumption)|assumption)
             obtain⟨ad103,e103,hx103_0⟩:=Kd.at_int HR0_5.out x6_3 p103 q103
             obtain rfl:ad102=ad103:=(by injection e103)
             replace hx103_0:=(HB.out.cell (bLt w _ hx103_0)).trans hx103_0
             replace p103:=eq_true p103
             replace q103:=eq_true q103
             go_wp2
             go_ret
             exact⟨by first|rfl|(simp [qaq,qap]<;>rfl)|(simp [bneNil,bneNilU]<;>rfl)|(simp [*,qaq,qap]<;>rfl),by repeat (first|(with_reducible first|exact HB.out|apply qaj|apply qad|apply qai|refine qaf ?_ GE101.out)|exact HB.out)⟩
            ·rw [if_neg c27] at H
             have c27b0:decide (x5_3<(rd l0_5 x6_3))=false:=decide_eq_false c27
             clear c27
             have H':=qah.mk H
             clear H
             have hcz29_0:wr.cell? ⟨gb101,0,none⟩=some (.int .i64 a0_0):=(qab BK101.out 0).trans rfl
             have hcz29_1:wr.cell? ⟨gb101,1,none⟩=some (.int .i64 a0_1):=(qab BK101.out 1).trans rfl
             have hcz29_2:wr.cell? ⟨gb101,2,none⟩=some (.int .i64 a0_2):=(qab BK101.out 2).trans rfl
             have hcz29_3:wr.cell? ⟨gb101,3,none⟩=some (.int .i64 a0_3):=(qab BK101.out 3).trans rfl
             have hcz29_4:wr.cell? ⟨gb101,4,none⟩=some (.int .i64 a0_4):=(qab BK101.out 4).trans rfl
             have hcz29_5:wr.cell? ⟨gb101,5,none⟩=some (.slice A0_5 l0_5.length c0_5):=(qab BK101.out 5).trans rfl
             have hcz29_6:wr.cell? ⟨gb101,6,none⟩=some (.slice A0_6 l0_6.length c0_6):=(qab BK101.out 6).trans rfl
             have hfz29_0:=qaa BK101.out 0
             have hfz29_1:=qaa BK101.out 1
             have hfz29_2:=qaa BK101.out 2
             have hfz29_3:=qaa BK101.out 3
             have hfz29_4:=qaa BK101.out 4
             have hfz29_5:=qaa BK101.out 5
             have hfz29_6:=qaa BK101.out 6
             have p102:0≤(x6_3:Int):=of_decide_eq_true (by first|(with_reducible assumption)|assumption)
             have q102:x6_3<(l0_5.length:Int):=of_decide_eq_true (by first|(with_reducible assumption)|assumption)
             obtain⟨ad102,e102,hx102_0⟩:=Kd.at_int HR0_5.out x6_3 p102 q102
             cases e102
             replace hx102_0:=(HB.out.cell (bLt w _ hx102_0)).trans hx102_0
             replace p102:=eq_true p102
             replace q102:=eq_true q102
             have p103:0≤(x6_3:Int):=of_decide_eq_true (by first|(with_reducible assumption)|assumption)
             have q103:x6_3<(l0_5.length:Int):=of_decide_eq_true (by first|(with_reducible assumption)|assumption)
             obtain⟨ad103,e103,hx103_0⟩:=Kd.at_int HR0_5.out x6_3 p103 q103
             obtain rfl:ad102=ad103:=(by injection e103)
             replace hx103_0:=(HB.out.cell (bLt w _ hx103_0)).trans hx103_0
             replace p103:=eq_true p103
             replace q103:=eq_true q103
             have p104:0≤(x6_3:Int):=of_decide_eq_true (by first|(with_reducible assumption)|assumption)
             have q104:x6_3<(l0_5.length:Int):=of_decide_eq_true (by first|(with_reducible assumption)|assumption)
             obtain⟨ad104,e104,hx104_0⟩:=Kd.at_int HR0_5.out x6_3 p104 q104
             obtain rfl:ad102=ad104:=(by injection e104)
             replace hx104_0:=(HB.out.cell (bLt w _ hx104_0)).trans hx104_0
             replace p104:=eq_true p104
             replace q104:=eq_true q104
             go_wp2
             go_roundg k3
             case measure=>have:=HJ2.out;have:=HJ12.out;have:=HK3.out;omega
             case rel=>exact⟨(wrap64 (x5_3 - (rd l0_5 x6_3))),(wrap64 (x6_3+1)),(by first|rfl|(simp;done)|(simp [*];done)),(by first|rfl|(simp;done)|(simp [*];done)),H',⟨by have:=HJ2.out;have:=HJ12.out;have:=HK3.out;omega⟩,⟨by (with_reducible repeat (first|refine qae ?_ _|refine qag ?_|refine qac ?_ _));exact BK101.out⟩,⟨by repeat (first|(with_reducible first|exact HB.out|apply qaj|apply qad|apply qai|refine qaf ?_ GE101.out)|exact HB.out)⟩⟩
          ·rw [if_neg c24] at H
           exact absurd H (by simp)
         ·rw [if_neg c23] at H
          have c23b0:decide (x6_3<(l0_5.length:Int))=false:=decide_eq_false c23
          clear c23
          have HC30:=qah.mk H
          clear H
          have hcz31_0:wr.cell? ⟨gb101,0,none⟩=some (.int .i64 a0_0):=(qab BK101.out 0).trans rfl
          have hcz31_1:wr.cell? ⟨gb101,1,none⟩=some (.int .i64 a0_1):=(qab BK101.out 1).trans rfl
          have hcz31_2:wr.cell? ⟨gb101,2,none⟩=some (.int .i64 a0_2):=(qab BK101.out 2).trans rfl
          have hcz31_3:wr.cell? ⟨gb101,3,none⟩=some (.int .i64 a0_3):=(qab BK101.out 3).trans rfl
          have hcz31_4:wr.cell? ⟨gb101,4,none⟩=some (.int .i64 a0_4):=(qab BK101.out 4).trans rfl
          have hcz31_5:wr.cell? ⟨gb101,5,none⟩=some (.slice A0_5 l0_5.length c0_5):=(qab BK101.out 5).trans rfl
          have hcz31_6:wr.cell? ⟨gb101,6,none⟩=some (.slice A0_6 l0_6.length c0_6):=(qab BK101.out 6).trans rfl
          have hfz31_0:=qaa BK101.out 0
          have hfz31_1:=qaa BK101.out 1
          have hfz31_2:=qaa BK101.out 2
          have hfz31_3:=qaa BK101.out 3
          have hfz31_4:=qaa BK101.out 4
          have hfz31_5:=qaa BK101.out 5
          have hfz31_6:=qaa BK101.out 6
          go_upto_region 12 with (fail)
          go_cut [92] (fun v92 wc=>∃ (kq:Nat) (x92_29:Bool),v92=.bool x92_29∧qah (ostinatoref05_Right.j3 kq a1 x92_29 a0_0 a0_1 a0_2 a0_3 a0_4 l0_5 l0_6=some r)∧qah (kq≤k3)∧qah (wc.heap[gb101]? = some (.cells #[.int .i64 a0_0,.int .i64 a0_1,.int .i64 a0_2,.int .i64 a0_3,.int .i64 a0_4,(.slice A0_5 l0_5.length c0_5),(.slice A0_6 l0_6.length c0_6)] 52 (0,0)))∧qah (Below w.heap.size w wc))
          case first=>
           have H:=HC30.out
           clear HC30
           by_cases c32:(l0_5.length:Int) > 64
           ·rw [if_pos c32] at H
            have c32b0:decide (64<(l0_5.length:Int))=true:=decide_eq_true c32
            have c32b1:decide (64<l0_5.length)=true:=decide_eq_true (by omega)
            clear c32
            (first|rw [c32b0]|(simp only [qat,qau];rw [c32b0])|skip)
            have H':=qah.mk H
            clear H
            have hcz33_0:wr.cell? ⟨gb101,0,none⟩=some (.int .i64 a0_0):=(qab BK101.out 0).trans rfl
            have hcz33_1:wr.cell? ⟨gb101,1,none⟩=some (.int .i64 a0_1):=(qab BK101.out 1).trans rfl
            have hcz33_2:wr.cell? ⟨gb101,2,none⟩=some (.int .i64 a0_2):=(qab BK101.out 2).trans rfl
            have hcz33_3:wr.cell? ⟨gb101,3,none⟩=some (.int .i64 a0_3):=(qab BK101.out 3).trans rfl
            have hcz33_4:wr.cell? ⟨gb101,4,none⟩=some (.int .i64 a0_4):=(qab BK101.out 4).trans rfl
            have hcz33_5:wr.cell? ⟨gb101,5,none⟩=some (.slice A0_5 l0_5.length c0_5):=(qab BK101.out 5).trans rfl
            have hcz33_6:wr.cell? ⟨gb101,6,none⟩=some (.slice A0_6 l0_6.length c0_6):=(qab BK101.out 6).trans rfl
            have hfz33_0:=qaa BK101.out 0
            have hfz33_1:=qaa BK101.out 1
            have hfz33_2:=qaa BK101.out 2
            have hfz33_3:=qaa BK101.out 3
            have hfz33_4:=qaa BK101.out 4
            have hfz33_5:=qaa BK101.out 5
            have hfz33_6:=qaa BK101.out 6
            go_wp2
            go_meet
            case rel=>exact⟨_,(true),(by first|rfl|(simp;done)|(simp [*];done)),H',⟨by have:=HJ2.out;have:=HJ12.out;have:=HK3.out;first|omega|exact Nat.le_refl _⟩,⟨by (with_reducible repeat (first|refine qae ?_ _|refine qag ?_|refine qac ?_ _));exact BK101.out⟩,⟨by repeat (first|(with_reducible first|exact HB.out|apply qaj|apply qad|apply qai|refine qaf ?_ GE101.out)|exact HB.out)⟩⟩
           ·rw [if_neg c32] at H
            have c32b0:decide (64<(l0_5.length:Int))=false:=decide_eq_false c32
            have c32b1:decide (64<l0_5.length)=false:=decide_eq_false (by omega)
            clear c32
            (first|rw [c32b0]|(simp only [qat,qau];rw [c32b0])|skip)
            by_cases c34:(l0_5.length:Int) > 0
            ·rw [if_pos c34] at H
             have c34b0:decide (0<(l0_5.length:Int))=true:=decide_eq_true c34
             have c34b1:decide (0<l0_5.length)=true:=decide_eq_true (by omega)
             clear c34
             have H':=qah.mk H
             clear H
             have hcz35_0:wr.cell? ⟨gb101,0,none⟩=some (.int .i64 a0_0):=(qab BK101.out 0).trans rfl
             have hcz35_1:wr.cell? ⟨gb101,1,none⟩=some (.int .i64 a0_1):=(qab BK101.out 1).trans rfl
             have hcz35_2:wr.cell? ⟨gb101,2,none⟩=some (.int .i64 a0_2):=(qab BK101.out 2).trans rfl
             have hcz35_3:wr.cell? ⟨gb101,3,none⟩=some (.int .i64 a0_3):=(qab BK101.out 3).trans rfl
             have hcz35_4:wr.cell? ⟨gb101,4,none⟩=some (.int .i64 a0_4):=(qab BK101.out 4).trans rfl
             have hcz35_5:wr.cell? ⟨gb101,5,none⟩=some (.slice A0_5 l0_5.length c0_5):=(qab BK101.out 5).trans rfl
             have hcz35_6:wr.cell? ⟨gb101,6,none⟩=some (.slice A0_6 l0_6.length c0_6):=(qab BK101.out 6).trans rfl
             have hfz35_0:=qaa BK101.out 0
             have hfz35_1:=qaa BK101.out 1
             have hfz35_2:=qaa BK101.out 2
             have hfz35_3:=qaa BK101.out 3
             have hfz35_4:=qaa BK101.out 4
             have hfz35_5:=qaa BK101.out 5
             have hfz35_6:=qaa BK101.out 6
             go_wp2
             go_meet
             case rel=>exact⟨_,((x5_3 != 0)),(by first|rfl|(simp;done)|(simp [*];done)),H',⟨by have:=HJ2.out;have:=HJ12.out;have:=HK3.out;first|omega|exact Nat.le_refl _⟩,⟨by (with_reducible repeat (first|refine qae ?_ _|refine qag ?_|refine qac ?_ _));exact BK101.out⟩,⟨by repeat (first|(with_reducible first|exact HB.out|apply qaj|apply qad|apply qai|refine qaf ?_ GE101.out)|exact HB.out)⟩⟩
            ·rw [if_neg c34] at H
             have c34b0:decide (0<(l0_5.length:Int))=false:=decide_eq_false c34
             have c34b1:decide (0<l0_5.length)=false:=decide_eq_false (by omega)
             clear c34
             have H':=qah.mk H
             clear H
             have hcz36_0:wr.cell? ⟨gb101,0,none⟩=some (.int .i64 a0_0):=(qab BK101.out 0).trans rfl
             have hcz36_1:wr.cell? ⟨gb101,1,none⟩=some (.int .i64 a0_1):=(qab BK101.out 1).trans rfl
             have hcz36_2:wr.cell? ⟨gb101,2,none⟩=some (.int .i64 a0_2):=(qab BK101.out 2).trans rfl
             have hcz36_3:wr.cell? ⟨gb101,3,none⟩=some (.int .i64 a0_3):=(qab BK101.out 3).trans rfl
             have hcz36_4:wr.cell? ⟨gb101,4,none⟩=some (.int .i64 a0_4):=(qab BK101.out 4).trans rfl
             have hcz36_5:wr.cell? ⟨gb101,5,none⟩=some (.slice A0_5 l0_5.length c0_5):=(qab BK101.out 5).trans rfl
             have hcz36_6:wr.cell? ⟨gb101,6,none⟩=some (.slice A0_6 l0_6.length c0_6):=(qab BK101.out 6).trans rfl
             have hfz36_0:=qaa BK101.out 0
             have hfz36_1:=qaa BK101.out 1
             have hfz36_2:=qaa BK101.out 2
             have hfz36_3:=qaa BK101.out 3
             have hfz36_4:=qaa BK101.out 4
             have hfz36_5:=qaa BK101.out 5
             have hfz36_6:=qaa BK101.out 6
             go_wp2
             go_meet
             case rel=>exact⟨_,(false),(by first|rfl|(simp;done)|(simp [*];done)),H',⟨by have:=HJ2.out;have:=HJ12.out;have:=HK3.out;first|omega|exact Nat.le_refl _⟩,⟨by (with_reducible repeat (first|refine qae ?_ _|refine qag ?_|refine qac ?_ _));exact BK101.out⟩,⟨by repeat (first|(with_reducible first|exact HB.out|apply qaj|apply qad|apply qai|refine qaf ?_ GE101.out)|exact HB.out)⟩⟩
          case rest=>
           clear HC30
           try clear c1
           try clear p1
           try clear q1
           try clear hx1
           try clear c2
           try clear p2
           try clear c3
           try clear c5
           try clear c5b0
           try clear p6
           try clear c7
           try clear c7b0
           try clear c9
           try clear c9b0
           try clear p10
           try clear q10
           try clear hx10
           try clear c12
           try clear c14
           try clear c14b0
           try clear c16
           try clear c16b0
           try clear c18
           try clear c18b0
           try clear c21
           try clear c23
           try clear c23b0
           try clear c24
           try clear c24b0
           try clear c25
           try clear c25b0
           try clear c27
           try clear c27b0
           try clear c32
           try clear c32b0
           try clear c32b1
           try clear c34
           try clear c34b0
           try clear c34b1
           try clear hcz10_0
           try clear hcz10_1
           try clear hcz10_2
           try clear hcz10_3
           try clear hcz10_4
           try clear hcz10_5
           try clear hcz10_6
           try clear hcz11_0
           try clear hcz11_1
           try clear hcz11_2
           try clear hcz11_3
           try clear hcz11_4
           try clear hcz11_5
           try clear hcz11_6
           try clear hcz15_0
           try clear hcz15_1
           try clear hcz15_2
           try clear hcz15_3
           try clear hcz15_4
           try clear hcz15_5
           try clear hcz15_6
           try clear hcz17_0
           try clear hcz17_1
           try clear hcz17_2
           try clear hcz17_3
           try clear hcz17_4
           try clear hcz17_5
           try clear hcz17_6
           try clear hcz19_0
           try clear hcz19_1
           try clear hcz19_2
           try clear hcz19_3
           try clear hcz19_4
           try clear hcz19_5
           try clear hcz19_6
           try clear hcz20_0
           try clear hcz20_1
           try clear hcz20_2
           try clear hcz20_3
           try clear hcz20_4
           try clear hcz20_5
           try clear hcz20_6
           try clear hcz22_0
           try clear hcz22_1
           try clear hcz22_2
           try clear hcz22_3
           try clear hcz22_4
           try clear hcz22_5
           try clear hcz22_6
           try clear hcz26_0
           try clear hcz26_1
           try clear hcz26_2
           try clear hcz26_3
           try clear hcz26_4
           try clear hcz26_5
           try clear hcz26_6
           try clear hcz28_0
           try clear hcz28_1
           try clear hcz28_2
           try clear hcz28_3
           try clear hcz28_4
           try clear hcz28_5
           try clear hcz28_6
           try clear hcz29_0
           try clear hcz29_1
           try clear hcz29_2
           try clear hcz29_3
           try clear hcz29_4
           try clear hcz29_5
           try clear hcz29_6
           try clear hcz31_0
           try clear hcz31_1
           try clear hcz31_2
           try clear hcz31_3
           try clear hcz31_4
           try clear hcz31_5
           try clear hcz31_6
           try clear hcz33_0
           try clear hcz33_1
           try clear hcz33_2
           try clear hcz33_3
           try clear hcz33_4
           try clear hcz33_5
           try clear hcz33_6
           try clear hcz35_0
           try clear hcz35_1
           try clear hcz35_2
           try clear hcz35_3
           try clear hcz35_4
           try clear hcz35_5
           try clear hcz35_6
           try clear hcz36_0
           try clear hcz36_1
           try clear hcz36_2
           try clear hcz36_3
           try clear hcz36_4
           try clear hcz36_5
           try clear hcz36_6
           try clear hcz6_0
           try clear hcz6_1
           try clear hcz6_2
           try clear hcz6_3
           try clear hcz6_4
           try clear hcz6_5
           try clear hcz6_6
           try clear hcz8_0
           try clear hcz8_1
           try clear hcz8_2
           try clear hcz8_3
           try clear hcz8_4
           try clear hcz8_5
           try clear hcz8_6
           try clear hfz10_0
           try clear hfz10_1
           try clear hfz10_2
           try clear hfz10_3
           try clear hfz10_4
           try clear hfz10_5
           try clear hfz10_6
           try clear hfz11_0
           try clear hfz11_1
           try clear hfz11_2
           try clear hfz11_3
           try clear hfz11_4
           try clear hfz11_5
           try clear hfz11_6
           try clear hfz15_0
           try clear hfz15_1
           try clear hfz15_2
           try clear hfz15_3
           try clear hfz15_4
           try clear hfz15_5
           try clear hfz15_6
           try clear hfz17_0
           try clear hfz17_1
           try clear hfz17_2
           try clear hfz17_3
           try clear hfz17_4
           try clear hfz17_5
           try clear hfz17_6
           try clear hfz19_0
           try clear hfz19_1
           try clear hfz19_2
           try clear hfz19_3
           try clear hfz19_4
           try clear hfz19_5
           try clear hfz19_6
           try clear hfz20_0
           try clear hfz20_1
           try clear hfz20_2
           try clear hfz20_3
           try clear hfz20_4
           try clear hfz20_5
           try clear hfz20_6
           try clear hfz22_0
           try clear hfz22_1
           try clear hfz22_2
           try clear hfz22_3
           try clear hfz22_4
           try clear hfz22_5
           try clear hfz22_6
           try clear hfz26_0
           try clear hfz26_1
           try clear hfz26_2
           try clear hfz26_3
           try clear hfz26_4
           try clear hfz26_5
           try clear hfz26_6
           try clear hfz28_0
           try clear hfz28_1
           try clear hfz28_2
           try clear hfz28_3
           try clear hfz28_4
           try clear hfz28_5
           try clear hfz28_6
           try clear hfz29_0
           try clear hfz29_1
           try clear hfz29_2
           try clear hfz29_3
           try clear hfz29_4
           try clear hfz29_5
           try clear hfz29_6
           try clear hfz31_0
           try clear hfz31_1
           try clear hfz31_2
           try clear hfz31_3
           try clear hfz31_4
           try clear hfz31_5
           try clear hfz31_6
           try clear hfz33_0
           try clear hfz33_1
           try clear hfz33_2
           try clear hfz33_3
           try clear hfz33_4
           try clear hfz33_5
           try clear hfz33_6
           try clear hfz35_0
           try clear hfz35_1
           try clear hfz35_2
           try clear hfz35_3
           try clear hfz35_4
           try clear hfz35_5
           try clear hfz35_6
           try clear hfz36_0
           try clear hfz36_1
           try clear hfz36_2
           try clear hfz36_3
           try clear hfz36_4
           try clear hfz36_5
           try clear hfz36_6
           try clear hfz6_0
           try clear hfz6_1
           try clear hfz6_2
           try clear hfz6_3
           try clear hfz6_4
           try clear hfz6_5
           try clear hfz6_6
           try clear hfz8_0
           try clear hfz8_1
           try clear hfz8_2
           try clear hfz8_3
           try clear hfz8_4
           try clear hfz8_5
           try clear hfz8_6
           try clear hx102_0
           try clear hx103_0
           try clear hx104_0
           try clear p102
           try clear p103
           try clear p104
           try clear p2
           try clear q102
           try clear q103
           try clear q104
           obtain⟨kq,x92_29,rfl,HA,HJ29,BK101,HB⟩:=hcut
           cases kq with
           |zero=>exact absurd HA.out (by simp [ostinatoref05_Right.j3])
           |succ kj29=>
            have H:=HA.out
            clear HA
            simp only [ostinatoref05_Right.j3] at H
            by_cases c37:x92_29=true
            ·subst c37
             have H1:(some 13)=some r:=by rw [if_pos rfl] at H;exact H
             clear H
             have H:=H1
             clear H1
             obtain rfl:=Option.some.inj H
             go_wp2
             go_ret
             exact⟨by first|rfl|(simp [qaq,qap]<;>rfl)|(simp [bneNil,bneNilU]<;>rfl)|(simp [*,qaq,qap]<;>rfl),by repeat (first|(with_reducible first|exact HB.out|apply qaj|apply qad|apply qai|refine qaf ?_ GE101.out)|exact HB.out)⟩
            ·replace c37:=Bool.eq_false_iff.mpr c37
             subst c37
             have H1:(ostinatoref05_Right.l1 kj29 a1 0 a0_0 a0_1 a0_2 a0_3 a0_4 l0_5 l0_6)=some r:=by rw [if_neg (show ¬ (false=true) by decide)] at H;exact H
             clear H
             have H:=H1
             clear H1
             have H':=qah.mk H
             clear H
             go_wp2
             go_loopg [7] kj29 (fun kq v7 w'=>∃ (x7_5:Int),v7=.int .i64 x7_5∧qah (ostinatoref05_Right.l1 kq a1 x7_5 a0_0 a0_1 a0_2 a0_3 a0_4 l0_5 l0_6=some r)∧qah (kq≤kj29)∧qah (w'.heap[gb101]? = some (.cells #[.int .i64 a0_0,.int .i64 a0_1,.int .i64 a0_2,.int .i64 a0_3,.int .i64 a0_4,(.slice A0_5 l0_5.length c0_5),(.slice A0_6 l0_6.length c0_6)] 52 (0,0)))∧qah (Below w.heap.size w w'))
             case atStart=>exact⟨(0),(by first|rfl|(simp;done)|(simp [*];done)),H',⟨Nat.le_refl _⟩,⟨by (with_reducible repeat (first|refine qae ?_ _|refine qag ?_|refine qac ?_ _));exact BK101.out⟩,⟨by repeat (first|(with_reducible first|exact HB.out|apply qaj|apply qad|apply qai|refine qaf ?_ GE101.out)|exact HB.out)⟩⟩
             case round=>
              clear H'
              try clear c1
              try clear p1
              try clear q1
              try clear hx1
              try clear c2
              try clear p2
              try clear c3
              try clear c5
              try clear c5b0
              try clear p6
              try clear c7
              try clear c7b0
              try clear c9
              try clear c9b0
              try clear p10
              try clear q10
              try clear hx10
              try clear c12
              try clear c14
              try clear c14b0
              try clear c16
              try clear c16b0
              try clear c18
              try clear c18b0
              try clear c21
              try clear c23
              try clear c23b0
              try clear c24
              try clear c24b0
              try clear c25
              try clear c25b0
              try clear c27
              try clear c27b0
              try clear c32
              try clear c32b0
              try clear c32b1
              try clear c34
              try clear c34b0
              try clear c34b1
              try clear c37
              try clear hcz10_0
              try clear hcz10_1
              try clear hcz10_2
              try clear hcz10_3
              try clear hcz10_4
              try clear hcz10_5
              try clear hcz10_6
              try clear hcz11_0
              try clear hcz11_1
              try clear hcz11_2
              try clear hcz11_3
              try clear hcz11_4
              try clear hcz11_5
              try clear hcz11_6
              try clear hcz15_0
              try clear hcz15_1
              try clear hcz15_2
              try clear hcz15_3
              try clear hcz15_4
              try clear hcz15_5
              try clear hcz15_6
              try clear hcz17_0
              try clear hcz17_1
              try clear hcz17_2
              try clear hcz17_3
              try clear hcz17_4
              try clear hcz17_5
              try clear hcz17_6
              try clear hcz19_0
              try clear hcz19_1
              try clear hcz19_2
              try clear hcz19_3
              try clear hcz19_4
              try clear hcz19_5
              try clear hcz19_6
              try clear hcz20_0
              try clear hcz20_1
              try clear hcz20_2
              try clear hcz20_3
              try clear hcz20_4
              try clear hcz20_5
              try clear hcz20_6
              try clear hcz22_0
              try clear hcz22_1
              try clear hcz22_2
              try clear hcz22_3
              try clear hcz22_4
              try clear hcz22_5
              try clear hcz22_6
              try clear hcz26_0
              try clear hcz26_1
              try clear hcz26_2
              try clear hcz26_3
              try clear hcz26_4
              try clear hcz26_5
              try clear hcz26_6
              try clear hcz28_0
              try clear hcz28_1
              try clear hcz28_2
              try clear hcz28_3
              try clear hcz28_4
              try clear hcz28_5
              try clear hcz28_6
              try clear hcz29_0
              try clear hcz29_1
              try clear hcz29_2
              try clear hcz29_3
              try clear hcz29_4
              try clear hcz29_5
              try clear hcz29_6
              try clear hcz31_0
              try clear hcz31_1
              try clear hcz31_2
              try clear hcz31_3
              try clear hcz31_4
              try clear hcz31_5
              try clear hcz31_6
              try clear hcz33_0
              try clear hcz33_1
              try clear hcz33_2
              try clear hcz33_3
              try clear hcz33_4
              try clear hcz33_5
              try clear hcz33_6
              try clear hcz35_0
              try clear hcz35_1
              try clear hcz35_2
              try clear hcz35_3
              try clear hcz35_4
              try clear hcz35_5
              try clear hcz35_6
              try clear hcz36_0
              try clear hcz36_1
              try clear hcz36_2
              try clear hcz36_3
              try clear hcz36_4
              try clear hcz36_5
              try clear hcz36_6
              try clear hcz6_0
              try clear hcz6_1
              try clear hcz6_2
              try clear hcz6_3
              try clear hcz6_4
              try clear hcz6_5
              try clear hcz6_6
              try clear hcz8_0
              try clear hcz8_1
              try clear hcz8_2
              try clear hcz8_3
              try clear hcz8_4
              try clear hcz8_5
              try clear hcz8_6
              try clear hfz10_0
              try clear hfz10_1
              try clear hfz10_2
              try clear hfz10_3
              try clear hfz10_4
              try clear hfz10_5
              try clear hfz10_6
              try clear hfz11_0
              try clear hfz11_1
              try clear hfz11_2
              try clear hfz11_3
              try clear hfz11_4
              try clear hfz11_5
              try clear hfz11_6
              try clear hfz15_0
              try clear hfz15_1
              try clear hfz15_2
              try clear hfz15_3
              try clear hfz15_4
              try clear hfz15_5
              try clear hfz15_6
              try clear hfz17_0
              try clear hfz17_1
              try clear hfz17_2
              try clear hfz17_3
              try clear hfz17_4
              try clear hfz17_5
              try clear hfz17_6
              try clear hfz19_0
              try clear hfz19_1
              try clear hfz19_2
              try clear hfz19_3
              try clear hfz19_4
              try clear hfz19_5
              try clear hfz19_6
              try clear hfz20_0
              try clear hfz20_1
              try clear hfz20_2
              try clear hfz20_3
              try clear hfz20_4
              try clear hfz20_5
              try clear hfz20_6
              try clear hfz22_0
              try clear hfz22_1
              try clear hfz22_2
              try clear hfz22_3
              try clear hfz22_4
              try clear hfz22_5
              try clear hfz22_6
              try clear hfz26_0
              try clear hfz26_1
              try clear hfz26_2
              try clear hfz26_3
              try clear hfz26_4
              try clear hfz26_5
              try clear hfz26_6
              try clear hfz28_0
              try clear hfz28_1
              try clear hfz28_2
              try clear hfz28_3
              try clear hfz28_4
              try clear hfz28_5
              try clear hfz28_6
              try clear hfz29_0
              try clear hfz29_1
              try clear hfz29_2
              try clear hfz29_3
              try clear hfz29_4
              try clear hfz29_5
              try clear hfz29_6
              try clear hfz31_0
              try clear hfz31_1
              try clear hfz31_2
              try clear hfz31_3
              try clear hfz31_4
              try clear hfz31_5
              try clear hfz31_6
              try clear hfz33_0
              try clear hfz33_1
              try clear hfz33_2
              try clear hfz33_3
              try clear hfz33_4
              try clear hfz33_5
              try clear hfz33_6
              try clear hfz35_0
              try clear hfz35_1
              try clear hfz35_2
              try clear hfz35_3
              try clear hfz35_4
              try clear hfz35_5
              try clear hfz35_6
              try clear hfz36_0
              try clear hfz36_1
              try clear hfz36_2
              try clear hfz36_3
              try clear hfz36_4
              try clear hfz36_5
              try clear hfz36_6
              try clear hfz6_0
              try clear hfz6_1
              try clear hfz6_2
              try clear hfz6_3
              try clear hfz6_4
              try clear hfz6_5
              try clear hfz6_6
              try clear hfz8_0
              try clear hfz8_1
              try clear hfz8_2
              try clear hfz8_3
              try clear hfz8_4
              try clear hfz8_5
              try clear hfz8_6
              try clear hx102_0
              try clear hx103_0
              try clear hx104_0
              try clear p1
              try clear p10
              try clear p102
              try clear p103
              try clear p104
              try clear p2
              try clear p6
              try clear q1
              try clear q10
              try clear q102
              try clear q103
              try clear q104
              obtain⟨x7_5,rfl,HA,HK5,BK101,HB⟩:=hrel
              cases gk with
              |zero=>exact absurd HA.out (by simp [ostinatoref05_Right.l1])
              |succ k5=>
               have H:=HA.out
               clear HA
               simp only [ostinatoref05_Right.l1] at H
               by_cases c38:x7_5<(l0_6.length:Int)
               ·rw [if_pos c38] at H
                have c38b0:decide (x7_5<(l0_6.length:Int))=true:=decide_eq_true c38
                clear c38
                by_cases c39:0≤x7_5
                ·rw [if_pos c39] at H
                 have c39b0:decide (0≤x7_5)=true:=decide_eq_true c39
                 clear c39
                 by_cases c40:(rd l0_6 x7_5)<0
                 ·rw [if_pos c40] at H
                  have c40b0:decide ((rd l0_6 x7_5)<0)=true:=decide_eq_true c40
                  clear c40
                  obtain rfl:=Option.some.inj H
                  have hcz41_0:wr.cell? ⟨gb101,0,none⟩=some (.int .i64 a0_0):=(qab BK101.out 0).trans rfl
                  have hcz41_1:wr.cell? ⟨gb101,1,none⟩=some (.int .i64 a0_1):=(qab BK101.out 1).trans rfl
                  have hcz41_2:wr.cell? ⟨gb101,2,none⟩=some (.int .i64 a0_2):=(qab BK101.out 2).trans rfl
                  have hcz41_3:wr.cell? ⟨gb101,3,none⟩=some (.int .i64 a0_3):=(qab BK101.out 3).trans rfl
                  have hcz41_4:wr.cell? ⟨gb101,4,none⟩=some (.int .i64 a0_4):=(qab BK101.out 4).trans rfl
                  have hcz41_5:wr.cell? ⟨gb101,5,none⟩=some (.slice A0_5 l0_5.length c0_5):=(qab BK101.out 5).trans rfl
                  have hcz41_6:wr.cell? ⟨gb101,6,none⟩=some (.slice A0_6 l0_6.length c0_6):=(qab BK101.out 6).trans rfl
                  have hfz41_0:=qaa BK101.out 0
                  have hfz41_1:=qaa BK101.out 1
                  have hfz41_2:=qaa BK101.out 2
                  have hfz41_3:=qaa BK101.out 3
                  have hfz41_4:=qaa BK101.out 4
                  have hfz41_5:=qaa BK101.out 5
                  have hfz41_6:=qaa BK101.out 6
                  have p105:0≤(x7_5:Int):=of_decide_eq_true (by first|(with_reducible assumption)|assumption)
                  have q105:x7_5<(l0_6.length:Int):=of_decide_eq_true (by first|(with_reducible assumption)|assumption)
                  obtain⟨ad105,e105,hx105_0⟩:=Kd.at_int HR0_6.out x7_5 p105 q105
                  cases e105
                  replace hx105_0:=(HB.out.cell (bLt w _ hx105_0)).trans hx105_0
                  replace p105:=eq_true p105
                  replace q105:=eq_true q105
                  go_wp2
                  go_ret
                  exact⟨by first|rfl|(simp [qaq,qap]<;>rfl)|(simp [bneNil,bneNilU]<;>rfl)|(simp [*,qaq,qap]<;>rfl),by repeat (first|(with_reducible first|exact HB.out|apply qaj|apply qad|apply qai|refine qaf ?_ GE101.out)|exact HB.out)⟩
                 ·rw [if_neg c40] at H
                  have c40b0:decide ((rd l0_6 x7_5)<0)=false:=decide_eq_false c40
                  clear c40
                  by_cases c42:(rd l0_6 x7_5) ≥ a1
                  ·rw [if_pos c42] at H
                   have c42b0:decide (a1≤(rd l0_6 x7_5))=true:=decide_eq_true c42
                   clear c42
                   obtain rfl:=Option.some.inj H
                   have hcz43_0:wr.cell? ⟨gb101,0,none⟩=some (.int .i64 a0_0):=(qab BK101.out 0).trans rfl
                   have hcz43_1:wr.cell? ⟨gb101,1,none⟩=some (.int .i64 a0_1):=(qab BK101.out 1).trans rfl
                   have hcz43_2:wr.cell? ⟨gb101,2,none⟩=some (.int .i64 a0_2):=(qab BK101.out 2).trans rfl
                   have hcz43_3:wr.cell? ⟨gb101,3,none⟩=some (.int .i64 a0_3):=(qab BK101.out 3).trans rfl
                   have hcz43_4:wr.cell? ⟨gb101,4,none⟩=some (.int .i64 a0_4):=(qab BK101.out 4).trans rfl
                   have hcz43_5:wr.cell? ⟨gb101,5,none⟩=some (.slice A0_5 l0_5.length c0_5):=(qab BK101.out 5).trans rfl
                   have hcz43_6:wr.cell? ⟨gb101,6,none⟩=some (.slice A0_6 l0_6.length c0_6):=(qab BK101.out 6).trans rfl
                   have hfz43_0:=qaa BK101.out 0
                   have hfz43_1:=qaa BK101.out 1
                   have hfz43_2:=qaa BK101.out 2
                   have hfz43_3:=qaa BK101.out 3
                   have hfz43_4:=qaa BK101.out 4
                   have hfz43_5:=qaa BK101.out 5
                   have hfz43_6:=qaa BK101.out 6
                   have p105:0≤(x7_5:Int):=of_decide_eq_true (by first|(with_reducible assumption)|assumption)
                   have q105:x7_5<(l0_6.length:Int):=of_decide_eq_true (by first|(with_reducible assumption)|assumption)
                   obtain⟨ad105,e105,hx105_0⟩:=Kd.at_int HR0_6.out x7_5 p105 q105
                   cases e105
                   replace hx105_0:=(HB.out.cell (bLt w _ hx105_0)).trans hx105_0
                   replace p105:=eq_true p105
                   replace q105:=eq_true q105
                   have p106:0≤(x7_5:Int):=of_decide_eq_true (by first|(with_reducible assumption)|assumption)
                   have q106:x7_5<(l0_6.length:Int):=of_decide_eq_true (by first|(with_reducible assumption)|assumption)
                   obtain⟨ad106,e106,hx106_0⟩:=Kd.at_int HR0_6.out x7_5 p106 q106
                   obtain rfl:ad105=ad106:=(by injection e106)
                   replace hx106_0:=(HB.out.cell (bLt w _ hx106_0)).trans hx106_0
                   replace p106:=eq_true p106
                   replace q106:=eq_true q106
                   go_wp2
                   go_ret
                   exact⟨by first|rfl|(simp [qaq,qap]<;>rfl)|(simp [bneNil,bneNilU]<;>rfl)|(simp [*,qaq,qap]<;>rfl),by repeat (first|(with_reducible first|exact HB.out|apply qaj|apply qad|apply qai|refine qaf ?_ GE101.out)|exact HB.out)⟩
                  ·rw [if_neg c42] at H
                   have c42b0:decide (a1≤(rd l0_6 x7_5))=false:=decide_eq_false c42
                   clear c42
                   have H':=qah.mk H
                   clear H
                   have hcz44_0:wr.cell? ⟨gb101,0,none⟩=some (.int .i64 a0_0):=(qab BK101.out 0).trans rfl
                   have hcz44_1:wr.cell? ⟨gb101,1,none⟩=some (.int .i64 a0_1):=(qab BK101.out 1).trans rfl
                   have hcz44_2:wr.cell? ⟨gb101,2,none⟩=some (.int .i64 a0_2):=(qab BK101.out 2).trans rfl
                   have hcz44_3:wr.cell? ⟨gb101,3,none⟩=some (.int .i64 a0_3):=(qab BK101.out 3).trans rfl
                   have hcz44_4:wr.cell? ⟨gb101,4,none⟩=some (.int .i64 a0_4):=(qab BK101.out 4).trans rfl
                   have hcz44_5:wr.cell? ⟨gb101,5,none⟩=some (.slice A0_5 l0_5.length c0_5):=(qab BK101.out 5).trans rfl
                   have hcz44_6:wr.cell? ⟨gb101,6,none⟩=some (.slice A0_6 l0_6.length c0_6):=(qab BK101.out 6).trans rfl
                   have hfz44_0:=qaa BK101.out 0
                   have hfz44_1:=qaa BK101.out 1
                   have hfz44_2:=qaa BK101.out 2
                   have hfz44_3:=qaa BK101.out 3
                   have hfz44_4:=qaa BK101.out 4
                   have hfz44_5:=qaa BK101.out 5
                   have hfz44_6:=qaa BK101.out 6
                   have p105:0≤(x7_5:Int):=of_decide_eq_true (by first|(with_reducible assumption)|assumption)
                   have q105:x7_5<(l0_6.length:Int):=of_decide_eq_true (by first|(with_reducible assumption)|assumption)
                   obtain⟨ad105,e105,hx105_0⟩:=Kd.at_int HR0_6.out x7_5 p105 q105
                   cases e105
                   replace hx105_0:=(HB.out.cell (bLt w _ hx105_0)).trans hx105_0
                   replace p105:=eq_true p105
                   replace q105:=eq_true q105
                   have p106:0≤(x7_5:Int):=of_decide_eq_true (by first|(with_reducible assumption)|assumption)
                   have q106:x7_5<(l0_6.length:Int):=of_decide_eq_true (by first|(with_reducible assumption)|assumption)
                   obtain⟨ad106,e106,hx106_0⟩:=Kd.at_int HR0_6.out x7_5 p106 q106
                   obtain rfl:ad105=ad106:=(by injection e106)
                   replace hx106_0:=(HB.out.cell (bLt w _ hx106_0)).trans hx106_0
                   replace p106:=eq_true p106
                   replace q106:=eq_true q106
                   go_wp2
                   go_roundg k5
                   case measure=>have:=HJ2.out;have:=HJ12.out;have:=HK3.out;have:=HJ29.out;have:=HK5.out;omega
                   case rel=>exact⟨(wrap64 (x7_5+1)),(by first|rfl|(simp;done)|(simp [*];done)),H',⟨by have:=HJ2.out;have:=HJ12.out;have:=HK3.out;have:=HJ29.out;have:=HK5.out;omega⟩,⟨by (with_reducible repeat (first|refine qae ?_ _|refine qag ?_|refine qac ?_ _));exact BK101.out⟩,⟨by repeat (first|(with_reducible first|exact HB.out|apply qaj|apply qad|apply qai|refine qaf ?_ GE101.out)|exact HB.out)⟩⟩
                ·rw [if_neg c39] at H
                 exact absurd H (by simp)
               ·rw [if_neg c38] at H
                have c38b0:decide (x7_5<(l0_6.length:Int))=false:=decide_eq_false c38
                clear c38
                by_cases c45:(l0_6.length:Int) > 64
                ·rw [if_pos c45] at H
                 have c45b0:decide (64<(l0_6.length:Int))=true:=decide_eq_true c45
                 have c45b1:decide (64<l0_6.length)=true:=decide_eq_true (by omega)
                 clear c45
                 obtain rfl:=Option.some.inj H
                 have hcz46_0:wr.cell? ⟨gb101,0,none⟩=some (.int .i64 a0_0):=(qab BK101.out 0).trans rfl
                 have hcz46_1:wr.cell? ⟨gb101,1,none⟩=some (.int .i64 a0_1):=(qab BK101.out 1).trans rfl
                 have hcz46_2:wr.cell? ⟨gb101,2,none⟩=some (.int .i64 a0_2):=(qab BK101.out 2).trans rfl
                 have hcz46_3:wr.cell? ⟨gb101,3,none⟩=some (.int .i64 a0_3):=(qab BK101.out 3).trans rfl
                 have hcz46_4:wr.cell? ⟨gb101,4,none⟩=some (.int .i64 a0_4):=(qab BK101.out 4).trans rfl
                 have hcz46_5:wr.cell? ⟨gb101,5,none⟩=some (.slice A0_5 l0_5.length c0_5):=(qab BK101.out 5).trans rfl
                 have hcz46_6:wr.cell? ⟨gb101,6,none⟩=some (.slice A0_6 l0_6.length c0_6):=(qab BK101.out 6).trans rfl
                 have hfz46_0:=qaa BK101.out 0
                 have hfz46_1:=qaa BK101.out 1
                 have hfz46_2:=qaa BK101.out 2
                 have hfz46_3:=qaa BK101.out 3
                 have hfz46_4:=qaa BK101.out 4
                 have hfz46_5:=qaa BK101.out 5
                 have hfz46_6:=qaa BK101.out 6
                 go_wp2
                 go_ret
                 exact⟨by first|rfl|(simp [qaq,qap]<;>rfl)|(simp [bneNil,bneNilU]<;>rfl)|(simp [*,qaq,qap]<;>rfl),by repeat (first|(with_reducible first|exact HB.out|apply qaj|apply qad|apply qai|refine qaf ?_ GE101.out)|exact HB.out)⟩
                ·rw [if_neg c45] at H
                 have c45b0:decide (64<(l0_6.length:Int))=false:=decide_eq_false c45
                 have c45b1:decide (64<l0_6.length)=false:=decide_eq_false (by omega)
                 clear c45
                 obtain rfl:=Option.some.inj H
                 have hcz47_0:wr.cell? ⟨gb101,0,none⟩=some (.int .i64 a0_0):=(qab BK101.out 0).trans rfl
                 have hcz47_1:wr.cell? ⟨gb101,1,none⟩=some (.int .i64 a0_1):=(qab BK101.out 1).trans rfl
                 have hcz47_2:wr.cell? ⟨gb101,2,none⟩=some (.int .i64 a0_2):=(qab BK101.out 2).trans rfl
                 have hcz47_3:wr.cell? ⟨gb101,3,none⟩=some (.int .i64 a0_3):=(qab BK101.out 3).trans rfl
                 have hcz47_4:wr.cell? ⟨gb101,4,none⟩=some (.int .i64 a0_4):=(qab BK101.out 4).trans rfl
                 have hcz47_5:wr.cell? ⟨gb101,5,none⟩=some (.slice A0_5 l0_5.length c0_5):=(qab BK101.out 5).trans rfl
                 have hcz47_6:wr.cell? ⟨gb101,6,none⟩=some (.slice A0_6 l0_6.length c0_6):=(qab BK101.out 6).trans rfl
                 have hfz47_0:=qaa BK101.out 0
                 have hfz47_1:=qaa BK101.out 1
                 have hfz47_2:=qaa BK101.out 2
                 have hfz47_3:=qaa BK101.out 3
                 have hfz47_4:=qaa BK101.out 4
                 have hfz47_5:=qaa BK101.out 5
                 have hfz47_6:=qaa BK101.out 6
                 go_wp2
                 go_ret
                 exact⟨by first|rfl|(simp [qaq,qap]<;>rfl)|(simp [bneNil,bneNilU]<;>rfl)|(simp [*,qaq,qap]<;>rfl),by repeat (first|(with_reducible first|exact HB.out|apply qaj|apply qad|apply qai|refine qaf ?_ GE101.out)|exact HB.out)⟩
end
end Go.Proofs.YtcfknijdhmildaaDoor.PParseReads
end
