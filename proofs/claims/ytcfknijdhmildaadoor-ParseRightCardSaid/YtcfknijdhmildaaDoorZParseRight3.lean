/- Texts of this claim, one behind the other: ParseQ, ParseR, WTab, WRepsOne, WInv, WGuard, PParseRight0, Kopen, PParseRight1, PParseRight2, PParseRight3, PParseRight4. -/
import Derived.Test.YtcfknijdhmildaaDoorZParseRight2
import Derived.Test.YtcfknijdhmildaaDoorZParseRight1
import Derived.Test.YtcfknijdhmildaaDoorProg
import Derived.Below
import Derived.Deep.Draws
import Derived.Deep.AppendLies
import Derived.Maps.AppendAt
import Derived.OwnWalk
import Derived.Laws.BytesArg
import Derived.Laws.MakeOwn
import Derived.Laws.OwnMore
import Derived.Deep.OwnRows
import Derived.Tactics
import Derived.Lib.ConvBytes
import Derived.Laws.Slices
import Derived.WalkKit
import Derived.KernelRfl
import Derived.RowKit3
import Derived.Deep.LoopGhost
import Derived.Deep.QuietTactic
import Derived.BigQuiet
import Derived.WideLaws
import Derived.Deep.DeepCutAuto
import Derived.Deep.CutBlock
import Derived.Deep.RegionHeld3
import Derived.Laws.Rows
import Derived.Lib.AppendStr
import Derived.ArgAppend
import Derived.Laws.IdiomCopy
import Derived.OrdersHeld
import Derived.Laws.BitsLemmas
import Derived.RowKit
import Derived.Laws.IdiomStrings
import Derived.Laws.StructEq
import Derived.Test.YtcfknijdhmildaaDoorRows
import Derived.ProofKit
import Derived.OpenShut
import Derived.ShutString
import Derived.ChangeOld
import Derived.Deep.Slices

set_option maxHeartbeats 8000000
set_option maxRecDepth 100000
set_option linter.unusedVariables false
set_option linter.unusedSimpArgs false
section
namespace Go.Proofs.YtcfknijdhmildaaDoor
open Go.RowKit Go.Shelf Go.Lib Go.Proofs.YtcfknijdhmildaaDoorW.PrintWords
theorem digB_data (n:Int):(digB n).data.toList=itoa n:=by simp [digB]
theorem numP_dig {n most:Int} (h0:0≤n) (h:n≤most):numP (digB n) most=(n,true):=by
 have h1:=itoa_num n h0 most
 unfold numP
 rw [digB_data,if_pos (h1.2.2 h),h1.1]
 rw [Int.toNat_of_nonneg h0]
def nameW (name v:ByteArray):ByteArray:=(name++⟨#[61]⟩)++v
theorem nameW_data (name v:ByteArray):(nameW name v).data.toList=name.data.toList++61::v.data.toList:=by
 simp [nameW,ByteArray.data_append]
theorem indexByte_at {l:List UInt8} {k:Nat} (h:l[k]? = some 61) (hk:∀ (j:Nat),j<k→l[j]?≠some 61):Lib.indexByte l 61=(k:Int):=by
 rcases Int.lt_or_le (Lib.indexByte l 61) 0 with h1|h1
 ·have h2:=Lib.indexByte_ge l 61
  exact absurd h (Lib.indexByte_none (by omega) k)
 ·obtain⟨h2,h3⟩:=Lib.indexByte_some (o:=(Lib.indexByte l 61).toNat) (l:=l) (c:=61) (by omega)
  have:¬ (Lib.indexByte l 61).toNat<k:=fun h4=>hk _ h4 h2
  have:¬ k<(Lib.indexByte l 61).toNat:=fun h4=>h3 _ h4 h
  omega
theorem pairV_named (name v:ByteArray) (h:(61:UInt8) ∉ name.data.toList):pairV (nameW name v)=(name,v,true):=by
 have hi:Lib.indexByte (nameW name v).data.toList 61=(name.data.toList.length:Int):=by
  rw [nameW_data]
  refine indexByte_at (by simp) (fun j hj e=>?_)
  rw [List.getElem?_append_left hj] at e
  exact h (List.mem_of_getElem? e)
 have e1:(name.data.toList++61::v.data.toList).take name.data.toList.length=name.data.toList:=List.take_left
 have e2:(name.data.toList++61::v.data.toList).drop (name.data.toList.length+1)=v.data.toList:=by
  rw [show name.data.toList++61::v.data.toList=(name.data.toList++[61])++v.data.toList by simp]
  exact List.drop_left' (by simp)
 unfold pairV
 rw [hi,if_pos (by omega),nameW_data,Int.toNat_natCast,e1,e2]
theorem namedP_dig {name:ByteArray} {n most:Int} (hn:(61:UInt8) ∉ name.data.toList) (h0:0≤n) (h:n≤most):namedP (nameW name (digB n)) name most=(n,true):=by
 unfold namedP
 rw [pairV_named _ _ hn]
 simp only
 rw [numP_dig h0 h]
 simp
theorem qaS {name v nm:ByteArray} (hn:(61:UInt8) ∉ name.data.toList):isNamed (nameW name v) nm=decide (name=nm):=by
 unfold isNamed
 rw [pairV_named _ _ hn]
 simp
theorem isNamed_empty (nm:ByteArray):isNamed ByteArray.empty nm=false:=by
 unfold isNamed
 rw [pairV_empty]
 rfl
theorem numsP_join {l:List Int} {most:Int} (hl:l≠[]) (h:∀ y ∈ l,0≤y∧y≤most):numsP (joinP l) most=(l,true):=by
 cases l with
 |nil=>exact absurd rfl hl
 |cons x r=>
  have hc:commas (joinP (x::r))=digs (x::r):=split_join x r (fun y hy=>(h y hy).1) _ rfl
  have ha:AllNum (digs (x::r)) most:=by
   intro i z hz
   unfold digs at hz
   rw [List.getElem?_map] at hz
   cases hy:(x::r)[i]? with
   |none=>rw [hy] at hz;cases hz
   |some y=>
    rw [hy] at hz
    obtain rfl:=Option.some.inj hz
    have hm:=h y (List.mem_of_getElem? hy)
    simpa using (itoa_num y hm.1 most).2.2 hm.2
  have hn:∀ M:List Int,(∀ y ∈ M,0≤y)→numsOf (digs M)=M:=by
   intro M
   induction M with
   |nil=>intro _;rfl
   |cons y M ih=>
    intro hM
    have h1:=itoa_num y (hM y List.mem_cons_self) 0
    have h2:=ih (fun z hz=>hM z (List.mem_cons_of_mem _ hz))
    unfold numsOf digs at h2 ⊢
    rw [List.map_cons,List.map_cons,h2]
    simp only [h1.1]
    rw [Int.toNat_of_nonneg (hM y List.mem_cons_self)]
  unfold numsP
  rw [hc,if_pos ha,hn _ (fun y hy=>(h y hy).1)]
theorem rowP_join {name:ByteArray} {l:List Int} {most:Int} (hn:(61:UInt8) ∉ name.data.toList) (hl:l≠[]) (h:∀ y ∈ l,0≤y∧y≤most):rowP (nameW name (joinP l)) name most=(l,true):=by
 unfold rowP
 rw [qaS hn,decide_eq_true rfl,if_pos rfl,pairV_named _ _ hn]
 exact numsP_join hl h
theorem rowP_other {name nm v:ByteArray} {most:Int} (hn:(61:UInt8) ∉ name.data.toList) (h:name≠nm):rowP (nameW name v) nm most=([],true):=by
 unfold rowP
 rw [qaS hn,decide_eq_false h,if_neg (by decide)]
theorem rowP_empty (nm:ByteArray) (most:Int):rowP ByteArray.empty nm most=([],true):=by
 unfold rowP
 rw [isNamed_empty,if_neg (by decide)]
def taskW (x:Tk):List ByteArray:=
 [⟨#[116,97,115,107]⟩,digB x.id,nameW ⟨#[99]⟩ (digB x.c),nameW ⟨#[100]⟩ (digB x.d),nameW ⟨#[116]⟩ (digB x.t),nameW ⟨#[112]⟩ (digB x.p)]
  ++ ((if 0<x.ch.length then [nameW ⟨#[99,104,117,110,107,115]⟩ (joinP x.ch)] else [])++(if 0<x.us.length then [nameW ⟨#[117,115,101]⟩ (joinP x.us)] else []))
theorem qaJ (L:List Wd) (k:Nat):nextP L k=((L.map (·.t))[k]?).getD ByteArray.empty:=by
 unfold nextP
 rw [List.getElem?_map]
 cases L[k]?<;>rfl
theorem taskG_words {L:List Wd} {x:Tk} (h:L.map (·.t)=taskW x) (hx:(1≤x.id∧x.id≤99)∧(1≤x.p∧x.p≤99)∧(1≤x.c∧x.c≤x.d∧x.d≤x.t∧x.t≤1073741824)∧(∀ y ∈ x.ch,1≤y∧y≤1073741824)∧(∀ y ∈ x.us,0≤y∧y<256)):taskG L=.ok x:=by
 obtain⟨h1,h2,h3,h4,h5⟩:=hx
 have hl:L.length=(taskW x).length:=by rw [← h,List.length_map]
 have n0:nextP L 0=⟨#[116,97,115,107]⟩:=by rw [qaJ,h];rfl
 have n1:nextP L 1=digB x.id:=by rw [qaJ,h];rfl
 have n2:nextP L 2=nameW ⟨#[99]⟩ (digB x.c):=by rw [qaJ,h];rfl
 have n3:nextP L 3=nameW ⟨#[100]⟩ (digB x.d):=by rw [qaJ,h];rfl
 have n4:nextP L 4=nameW ⟨#[116]⟩ (digB x.t):=by rw [qaJ,h];rfl
 have n5:nextP L 5=nameW ⟨#[112]⟩ (digB x.p):=by rw [qaJ,h];rfl
 have g1:=numP_dig (n:=x.id) (most:=99) (by omega) (by omega)
 have g2:=namedP_dig (name:=⟨#[99]⟩) (n:=x.c) (most:=1073741824) (by decide) (by omega) (by omega)
 have g3:=namedP_dig (name:=⟨#[100]⟩) (n:=x.d) (most:=1073741824) (by decide) (by omega) (by omega)
 have g4:=namedP_dig (name:=⟨#[116]⟩) (n:=x.t) (most:=1073741824) (by decide) (by omega) (by omega)
 have g5:=namedP_dig (name:=⟨#[112]⟩) (n:=x.p) (most:=99) (by decide) (by omega) (by omega)
 have key:∀ k7,rowP (nextP L 6) ⟨#[99,104,117,110,107,115]⟩ 1073741824=(x.ch,true)→rowK (nextP L 6) ⟨#[99,104,117,110,107,115]⟩ 6=k7→rowP (nextP L k7) ⟨#[117,115,101]⟩ 255=(x.us,true)→rowK (nextP L k7) ⟨#[117,115,101]⟩ k7=L.length→taskG L=.ok x:=by
  intro k7 e1 e2 e3 e4
  unfold taskG
  rw [n0,n1,n2,n3,n4,n5,g1,g2,g3,g4,g5,e1,e2,e3,e4]
  simp only [if_true]
 have c61:(61:UInt8) ∉ (⟨#[99,104,117,110,107,115]⟩:ByteArray).data.toList:=by decide
 have u61:(61:UInt8) ∉ (⟨#[117,115,101]⟩:ByteArray).data.toList:=by decide
 have hne:(⟨#[117,115,101]⟩:ByteArray)≠⟨#[99,104,117,110,107,115]⟩:=by decide
 by_cases hc:0<x.ch.length
 ·have hcn:x.ch≠[]:=by intro e;rw [e] at hc;exact absurd hc (by decide)
  have n6:nextP L 6=nameW ⟨#[99,104,117,110,107,115]⟩ (joinP x.ch):=by rw [qaJ,h];unfold taskW;rw [if_pos hc];rfl
  have k6:rowK (nextP L 6) ⟨#[99,104,117,110,107,115]⟩ 6=7:=by
   unfold rowK;rw [n6,qaS c61,decide_eq_true rfl,if_pos rfl]
  by_cases hu:0<x.us.length
  ·have hun:x.us≠[]:=by intro e;rw [e] at hu;exact absurd hu (by decide)
   have n7:nextP L 7=nameW ⟨#[117,115,101]⟩ (joinP x.us):=by rw [qaJ,h];unfold taskW;rw [if_pos hc,if_pos hu];rfl
   have hl8:L.length=8:=by rw [hl];unfold taskW;rw [if_pos hc,if_pos hu];rfl
   refine key 7 (by rw [n6];exact rowP_join c61 hcn (fun y hy=>by have:=h4 y hy;omega)) k6 (by rw [n7];exact rowP_join u61 hun (fun y hy=>by have:=h5 y hy;omega)) ?_
   unfold rowK;rw [n7,qaS u61,decide_eq_true rfl,if_pos rfl,hl8]
  ·have hun:x.us=[]:=by cases hx:x.us with
    |nil=>rfl
    |cons a r=>rw [hx] at hu;exact absurd (by simp) hu
   have n7:nextP L 7=ByteArray.empty:=by rw [qaJ,h];unfold taskW;rw [if_pos hc,if_neg hu];rfl
   have hl8:L.length=7:=by rw [hl];unfold taskW;rw [if_pos hc,if_neg hu];rfl
   refine key 7 (by rw [n6];exact rowP_join c61 hcn (fun y hy=>by have:=h4 y hy;omega)) k6 (by rw [n7,rowP_empty,hun]) ?_
   unfold rowK;rw [n7,isNamed_empty,if_neg (by decide),hl8]
 ·have hcn:x.ch=[]:=by cases hx:x.ch with
   |nil=>rfl
   |cons a r=>rw [hx] at hc;exact absurd (by simp) hc
  by_cases hu:0<x.us.length
  ·have hun:x.us≠[]:=by intro e;rw [e] at hu;exact absurd hu (by decide)
   have n6:nextP L 6=nameW ⟨#[117,115,101]⟩ (joinP x.us):=by rw [qaJ,h];unfold taskW;rw [if_neg hc,if_pos hu];rfl
   have hl8:L.length=7:=by rw [hl];unfold taskW;rw [if_neg hc,if_pos hu];rfl
   refine key 6 (by rw [n6,rowP_other u61 hne,hcn]) (by unfold rowK;rw [n6,qaS u61,decide_eq_false hne,if_neg (by decide)]) (by rw [n6];exact rowP_join u61 hun (fun y hy=>by have:=h5 y hy;omega)) ?_
   unfold rowK;rw [n6,qaS u61,decide_eq_true rfl,if_pos rfl,hl8]
  ·have hun:x.us=[]:=by cases hx:x.us with
    |nil=>rfl
    |cons a r=>rw [hx] at hu;exact absurd (by simp) hu
   have n6:nextP L 6=ByteArray.empty:=by rw [qaJ,h];unfold taskW;rw [if_neg hc,if_neg hu];rfl
   have hl8:L.length=6:=by rw [hl];unfold taskW;rw [if_neg hc,if_neg hu];rfl
   refine key 6 (by rw [n6,rowP_empty,hcn]) (by unfold rowK;rw [n6,isNamed_empty,if_neg (by decide)]) (by rw [n6,rowP_empty,hun]) ?_
   unfold rowK;rw [n6,isNamed_empty,if_neg (by decide),hl8]
theorem headG_words {L:List Wd} {sets rel:Int} (h:L.map (·.t)=[⟨#[99,97,99,104,101]⟩,digB sets,digB rel]) (hs:0≤sets∧sets≤256) (hr:0≤rel∧rel≤1000):headG L=.ok (sets,rel):=by
 have hl:3=L.length:=by rw [← List.length_map (f:=(·.t)),h];rfl
 have n0:nextP L 0=⟨#[99,97,99,104,101]⟩:=by rw [qaJ,h];rfl
 have n1:nextP L 1=digB sets:=by rw [qaJ,h];rfl
 have n2:nextP L 2=digB rel:=by rw [qaJ,h];rfl
 unfold headG
 rw [n0,n1,n2,numP_dig hs.1 hs.2,numP_dig hr.1 hr.2]
 simp only [if_true]
 rw [if_pos hl]
def text1:ByteArray:=⟨#[99,97,99,104,101,32,52,32,49,10,116,97,115,107,32,49,32,99,61,50,32,100,61,53,32,116,61,53]⟩
def text2:ByteArray:=⟨#[99,97,99,104,101,32,52,32,49,10,116,97,115,107,32,49,32,99,61,50,32,100,61,53,32,116,61,53,32,112,61,51,32,117,115,101,61,48,44,49]⟩
def head1:List Wd:=[⟨0,1,⟨#[99,97,99,104,101]⟩⟩,⟨6,1,⟨#[52]⟩⟩,⟨8,1,⟨#[49]⟩⟩]
def line1:List Wd:=[⟨10,2,⟨#[116,97,115,107]⟩⟩,⟨15,2,⟨#[49]⟩⟩,⟨17,2,⟨#[99,61,50]⟩⟩,⟨21,2,⟨#[100,61,53]⟩⟩,⟨25,2,⟨#[116,61,53]⟩⟩]
def line2:List Wd:=line1++[⟨29,2,⟨#[112,61,51]⟩⟩,⟨33,2,⟨#[117,115,101,61,48,44,49]⟩⟩]
theorem lns1:lns (textW text1)=[head1,line1]:=by kernel_rfl
theorem lns2:lns (textW text2)=[head1,line2]:=by kernel_rfl
theorem head1_says:headG head1=.ok (4,1):=headG_words (by kernel_rfl) (by decide) (by decide)
theorem line2_says:taskG line2=.ok ⟨1,2,5,5,3,[],[0,1]⟩:=taskG_words (by kernel_rfl) (by decide)
theorem line1_says:taskG line1=.error 28:=by
 have n0:nextP line1 0=⟨#[116,97,115,107]⟩:=by rfl
 have n1:nextP line1 1=digB 1:=by kernel_rfl
 have n2:nextP line1 2=nameW ⟨#[99]⟩ (digB 2):=by kernel_rfl
 have n3:nextP line1 3=nameW ⟨#[100]⟩ (digB 5):=by kernel_rfl
 have n4:nextP line1 4=nameW ⟨#[116]⟩ (digB 5):=by kernel_rfl
 have n5:nextP line1 5=ByteArray.empty:=by rfl
 have g5:(namedP ByteArray.empty ⟨#[112]⟩ 99).2=false:=by unfold namedP;rw [pairV_empty];rfl
 unfold taskG
 rw [n0,n1,n2,n3,n4,n5,numP_dig (by decide) (by decide),namedP_dig (by decide) (by decide) (by decide),namedP_dig (by decide) (by decide) (by decide),namedP_dig (by decide) (by decide) (by decide),g5]
 simp only [if_true]
 rw [if_neg (by decide)]
 have:wrongP line1 5=28:=by kernel_rfl
 rw [this]
theorem text1_says:parseP text1=(0,0,[],28,10):=by
 unfold parseP
 rw [lns1]
 simp only
 rw [head1_says]
 simp only
 unfold goP
 rw [line1_says]
theorem text2_says:parseP text2=(4,1,[⟨1,2,5,5,3,[],[0,1]⟩],40,0):=by
 unfold parseP
 rw [lns2]
 simp only
 rw [head1_says]
 simp only
 unfold goP
 rw [line2_says]
 simp only
 rw [if_pos (by decide)]
 unfold goP
 rw [if_neg (by decide)]
 rfl
theorem awake_any (m:Int) (w:World) (hm:w.cell? ⟨1,0,none⟩=some (.int .i64 m)) :
  Calls Tryd.prog 8 #[] w fun e w'=>e=.returned (.bool true)∧Below w.heap.size w w':=by
 have H1:Hid (Calls Tryd.prog 12 #[.string text1] w fun e w'=>(∃ A c,e=.returned (.tuple #[.agg #[.int .i64 0,.int .i64 0,.slice A 0 c],.int .i64 28,.int .i64 10]))∧Below w.heap.size w w'):=Lib.hid ((parse_any text1 (by decide) m w hm).mono (by
  intro e w' h
  rw [text1_says] at h
  obtain⟨⟨v,rfl,hR⟩,hb⟩:=h
  obtain⟨A,c,rfl,_,_⟩:=Kd.R_reads hR
  exact⟨⟨A,c,rfl⟩,hb⟩))
 have H2:Hid (∀ W:World,W.cell? ⟨1,0,none⟩=some (.int .i64 m)→Calls Tryd.prog 12 #[.string text2] W fun e w'=>(∃ b off c,e=.returned (.tuple #[.agg #[.int .i64 4,.int .i64 1,.slice (some ⟨b,off,none⟩) 1 c],.int .i64 40,.int .i64 0])∧w'.cell? ⟨b,off+4,none⟩=some (.int .i64 3))∧Below W.heap.size W w'):=Lib.hid (fun W hW=>(parse_any text2 (by decide) m W hW).mono (by
  intro e w' h
  rw [text2_says] at h
  obtain⟨⟨v,rfl,hR⟩,hb⟩:=h
  obtain⟨A,c,rfl,_,hC⟩:=Kd.R_reads hR
  obtain⟨b,off,rfl,_,hat⟩:=tk_at hC (by decide)
  obtain⟨_,_,_,_,_,_,_,_,h4,_⟩:=hat 0 (by decide)
  exact⟨⟨b,off,c,rfl,by simpa using h4⟩,hb⟩))
 have HM:=Lib.hid hm
 have hlt:=qaL hm
 go_enter Tryd.func8,Tryd.ntmps8
 go_upto_region 2 with (go_at_call 12;refine H1.out.mono ?_;rintro e w1 ⟨⟨A,c,rfl⟩,hb1⟩)
 have hb2:=hb1.alloc hb1.size (.cells #[.int .i64 0,.int .i64 0,.slice A 0 c] 32)
 generalize w1.alloc (.cells #[.int .i64 0,.int .i64 0,.slice A 0 c] 32)=w2 at hb2 ⊢
 have hm2:w2.cell? ⟨1,0,none⟩=some (.int .i64 m):=(hb2.cell (p:=⟨1,0,none⟩) hlt).trans HM.out
 have H3:=Lib.hid (H2.out w2 hm2)
 have HB2:=Lib.hid hb2
 clear hb1 hb2 hm2 hm
 go_upto_region 3 with (go_at_call 12;refine H3.out.mono ?_;rintro e w3 ⟨⟨b,off,c3,rfl,hp⟩,hb3⟩)
 have hb4:=(Below.refl w3.heap.size w3).alloc (Nat.le_refl _) (.cells #[.int .i64 4,.int .i64 1,.slice (some ⟨b,off,none⟩) 1 c3] 32)
 have hn4:=heap_alloc_new w3 (.cells #[.int .i64 4,.int .i64 1,.slice (some ⟨b,off,none⟩) 1 c3] 32)
 generalize w3.alloc (.cells #[.int .i64 4,.int .i64 1,.slice (some ⟨b,off,none⟩) 1 c3] 32)=w4 at hb4 hn4 ⊢
 obtain⟨_,_,t2,_⟩:=three_cells hn4
 have hp4:w4.cell? ⟨b,off+4,none⟩=some (.int .i64 3):=(hb4.cell (p:=⟨b,off+4,none⟩) (qaL hp)).trans hp
 have HB4:Hid (Below w.heap.size w w4):=Lib.hid (HB2.out.trans ((hb3.trans (hb4.mono hb3.size)).mono HB2.out.size))
 clear hb3 hb4 hn4 hp H3
 go_wp2
 go_ret
 exact⟨rfl,HB4.out⟩
end Go.Proofs.YtcfknijdhmildaaDoor
end
section
namespace Go.Proofs.YtcfknijdhmildaaDoorW.PrintLast
open Go.Proofs.YtcfknijdhmildaaDoorW.PrintWords (qaf)
def needsOf (md:Region.Mode) (o:Oper):List Nat:=(o.after.toList.filter (fun e=>Region.binds md e)).map (fun e=>e.on)
def clashOf (md:Region.Mode) (ops:Array Oper) (i:Nat) (oi:Oper):List Nat:=(List.range ops.size).filter fun j=>!(j == i) && match ops[j]? with
 |some oj=>!(oj.after.any (fun e=>Region.binds md e && e.on == i) || oi.apart ops oj)
 |none=>false
def rtab (md:Region.Mode) (ops:Array Oper):Bool × List (List Nat × List Nat):=(Region.noSelect ops,(List.range ops.size).map fun i=>match ops[i]? with
 |some o=>(needsOf md o,clashOf md ops i o)
 |none=>([],[]))
def readyAt (T:List (List Nat × List Nat)) (l:List Bool) (i:Nat):Bool:=!l.getD i true && match T[i]? with
 |some r=>r.1.all (fun j=>l.getD j false)
 |none=>false
def readyT (T:List (List Nat × List Nat)) (l:List Bool):List Nat:=(List.range T.length).filter (readyAt T l)
def freeT (T:List (List Nat × List Nat)) (l:List Bool) (i:Nat):Bool:=match T[i]? with
 |some r=>r.2.all (fun j=>l.getD j true)
 |none=>false
def closedT (T:List (List Nat × List Nat)) (l:List Bool):Bool:=(List.range T.length).all fun j=>!l.getD j false || match T[j]? with
 |some r=>r.1.all (fun k=>l.getD k false)
 |none=>true
def reachT (T:List (List Nat × List Nat)) (i:Nat):Nat→Nat→Bool
 |0,_=>false
 |fuel+1,d=>match T[d]? with
  |some r=>r.1.any fun j=>j == i || reachT T i fuel j
  |none=>false
def lastT (T:List (List Nat × List Nat)) (l:List Bool) (ds:List Nat) (i:Nat):Bool:=ds.all fun d=>l.getD d true || reachT T i T.length d
section
variable {md:Region.Mode} {ops:Array Oper} {T:Bool × List (List Nat × List Nat)} {l l' li lj lk:Array Bool} {ds:List Nat} {i j k:Nat}
theorem gd (l:Array Bool) (j:Nat) (b:Bool):l.getD j b=l.toList.getD j b:=by simp [Array.getD_eq_getD_getElem?,List.getD_eq_getElem?_getD]
theorem needs_all (o:Oper) (p:Nat→Bool):o.after.all (fun e=>!Region.binds md e || p e.on)=(needsOf md o).all p:=by
 unfold needsOf
 rw [← Array.all_toList]
 induction o.after.toList with
 |nil=>rfl
 |cons e r ih=>
  rw [List.all_cons,ih,List.filter_cons]
  cases h:Region.binds md e<;>simp
theorem needs_any (o:Oper) (p:Nat→Bool):o.after.any (fun e=>Region.binds md e && p e.on)=(needsOf md o).any p:=by
 unfold needsOf
 rw [← Array.any_toList]
 induction o.after.toList with
 |nil=>rfl
 |cons e r ih=>
  rw [List.any_cons,ih,List.filter_cons]
  cases h:Region.binds md e<;>simp
theorem rtab_length:(rtab md ops).2.length=ops.size:=by simp [rtab]
theorem rtab_some {o:Oper} (h:ops[i]? = some o):(rtab md ops).2[i]? = some (needsOf md o,clashOf md ops i o):=by
 have hi:=(Array.getElem?_eq_some_iff.1 h).1
 unfold rtab
 rw [List.getElem?_map,List.getElem?_range hi,Option.map_some,h]
theorem rtab_none (h:ops[i]? = none):(rtab md ops).2[i]? = none:=by
 have hi:ops.size≤i:=Array.getElem?_eq_none_iff.1 h
 exact List.getElem?_eq_none (by rw [rtab_length];exact hi)
theorem readyAt_eq:readyAt (rtab md ops).2 l.toList i=(!l.getD i true && ((ops[i]?).map (·.after.all fun e=>!Region.binds md e || l.getD e.on false)).getD false):=by
 unfold readyAt
 rw [gd]
 cases h:ops[i]? with
 |none=>rw [rtab_none h];rfl
 |some o=>
  rw [rtab_some h]
  simp only [Option.map_some,Option.getD_some]
  rw [← needs_all]
  simp only [gd]
theorem ready_eq:Region.ready md ops l=readyT (rtab md ops).2 l.toList:=by
 unfold Region.ready readyT
 rw [rtab_length]
 refine List.filter_congr (fun i _=>?_)
 rw [readyAt_eq]
theorem free_eq:Region.free md ops l i=freeT (rtab md ops).2 l.toList i:=by
 unfold Region.free freeT
 cases h:ops[i]? with
 |none=>rw [rtab_none h]
 |some oi=>
  rw [rtab_some h]
  simp only [clashOf]
  rw [List.all_filter]
  congr 1
  funext j
  rw [gd]
  cases hj:ops[j]? with
  |none=>cases (j == i)<;>cases (l.toList.getD j true)<;>simp
  |some oj=>
   cases (j == i)<;>cases (l.toList.getD j true)<;>cases (oj.after.any (fun e=>Region.binds md e && e.on == i) || oi.apart ops oj)<;>simp_all
theorem closed_eq:Region.closedB md ops l=closedT (rtab md ops).2 l.toList:=by
 unfold Region.closedB closedT
 rw [rtab_length]
 congr 1
 funext j
 rw [gd]
 cases h:ops[j]? with
 |none=>rw [rtab_none h]
 |some o=>
  rw [rtab_some h]
  simp only
  rw [← needs_all]
  simp only [gd]
theorem reach_eq:∀ (fuel d:Nat),Region.reachB md ops i fuel d=reachT (rtab md ops).2 i fuel d
 |0,_=>rfl
 |fuel+1,d=>by
  unfold Region.reachB reachT
  cases h:ops[d]? with
  |none=>rw [rtab_none h]
  |some o=>
   rw [rtab_some h]
   simp only
   rw [← needs_any]
   congr 1
   funext e
   rw [reach_eq fuel]
theorem last_eq:Region.lastB md ops l ds i=lastT (rtab md ops).2 l.toList ds i:=by
 unfold Region.lastB lastT
 rw [rtab_length]
 congr 1
 funext d
 rw [gd,reach_eq]
theorem readyAt_mem (h:readyAt T.2 l.toList i=true) (hT:rtab md ops=T):(Region.ready md ops l).contains i=true:=by
 subst hT
 rw [ready_eq]
 unfold readyT
 rw [List.contains_iff_mem,List.mem_filter,List.mem_range]
 refine⟨?_,h⟩
 unfold readyAt at h
 rw [Bool.and_eq_true] at h
 cases hq:(rtab md ops).2[i]? with
 |none=>rw [hq] at h;simp at h
 |some r=>exact (List.getElem?_eq_some_iff.1 hq).1
theorem set_of (h:(l.toList.set i true == l'.toList)=true):(l.setIfInBounds i true == l')=true:=by
 rw [beq_iff_eq] at h ⊢
 apply Array.ext'
 rw [Array.toList_setIfInBounds]
 exact h
def anyT (T:Bool × List (List Nat × List Nat)) (l l':List Bool) (i:Nat):Bool:=T.1 && freeT T.2 l i && readyAt T.2 l i && (l.set i true == l')
theorem qax (hT:rtab md ops=T) (h:anyT T l.toList l'.toList i=true):anyB md ops l l' i=true:=by
 simp only [anyT,Bool.and_eq_true] at h
 obtain⟨⟨⟨h1,h2⟩,h3⟩,h4⟩:=h
 have h5:=readyAt_mem h3 hT
 have h6:=set_of h4
 subst hT
 simp only [anyB,Bool.and_eq_true]
 exact⟨⟨⟨h1,by rw [free_eq];exact h2⟩,h5⟩,h6⟩
def takeT (T:Bool × List (List Nat × List Nat)) (ds:List Nat) (l l':List Bool) (i:Nat):Bool:=T.1 && freeT T.2 l i && readyAt T.2 l i && closedT T.2 l && lastT T.2 l ds i && (l.set i true == l')
theorem take_of (hT:rtab md ops=T) (h:takeT T ds l.toList l'.toList i=true):takeB md ops ds l l' i=true:=by
 simp only [takeT,Bool.and_eq_true] at h
 obtain⟨⟨⟨⟨⟨h1,h2⟩,h3⟩,h4⟩,h5⟩,h6⟩:=h
 have h7:=readyAt_mem h3 hT
 have h8:=set_of h6
 subst hT
 simp only [takeB,Bool.and_eq_true]
 exact⟨⟨⟨⟨⟨h1,by rw [free_eq];exact h2⟩,h7⟩,by rw [closed_eq];exact h4⟩,by rw [last_eq];exact h5⟩,h8⟩
theorem one_of (hT:rtab md ops=T) (h:(readyT T.2 l.toList == [i] && l.toList.set i true == l'.toList)=true):readyB md ops l l' i=true:=by
 simp only [Bool.and_eq_true] at h
 obtain⟨h1,h2⟩:=h
 subst hT
 simp only [readyB,Bool.and_eq_true]
 exact⟨by rw [ready_eq];exact h1,set_of h2⟩
theorem done_of (hT:rtab md ops=T) (h:(readyT T.2 l.toList == [])=true):(Region.ready md ops l == [])=true:=by
 subst hT
 rw [ready_eq]
 exact h
def upM (B:List Nat) (d:Nat):List Nat→Nat
 |[]=>0
 |n::r=>(2 ^ n ||| (if n<d then B.getD n 0 else 0)) ||| upM B d r
def waitsOk (T:List (List Nat × List Nat)) (B:List Nat):Bool:=(List.range T.length).all fun d=>match T[d]? with
 |some r=>(B.getD d 0 ||| upM B d r.1) == upM B d r.1
 |none=>false
theorem upM_bit {B:List Nat} {d i:Nat}:∀ {ns:List Nat},(upM B d ns).testBit i=true→∃ n ∈ ns,n=i∨(n<d∧(B.getD n 0).testBit i=true)
 |[],h=>by simp [upM] at h
 |n::r,h=>by
  unfold upM at h
  rw [Nat.testBit_or,Nat.testBit_or,Bool.or_eq_true,Bool.or_eq_true] at h
  rcases h with (h|h)|h
  ·rw [Nat.testBit_two_pow] at h
   exact⟨n,List.mem_cons_self,.inl (by simpa using h)⟩
  ·by_cases hn:n<d
   ·rw [if_pos hn] at h
    exact⟨n,List.mem_cons_self,.inr ⟨hn,h⟩⟩
   ·rw [if_neg hn] at h
    simp at h
  ·obtain⟨m,hm,h2⟩:=upM_bit h
   exact⟨m,List.mem_cons_of_mem _ hm,h2⟩
theorem reach_bit {T:List (List Nat × List Nat)} {B:List Nat} (hB:waitsOk T B=true):∀ (fuel d:Nat),d<fuel→d<T.length→(B.getD d 0).testBit i=true→reachT T i fuel d=true
 |0,d,h,_,_=>by omega
 |fuel+1,d,h,hd,hb=>by
  have h1:=List.all_eq_true.1 hB d (List.mem_range.2 hd)
  cases hr:T[d]? with
  |none=>rw [hr] at h1;simp at h1
  |some r=>
   rw [hr] at h1
   simp only [beq_iff_eq] at h1
   have h2:(upM B d r.1).testBit i=true:=by rw [← h1,Nat.testBit_or,hb,Bool.true_or]
   obtain⟨n,hn,h3⟩:=upM_bit h2
   unfold reachT
   rw [hr]
   simp only
   rw [List.any_eq_true]
   refine⟨n,hn,?_⟩
   rcases h3 with rfl|⟨h4,h5⟩
   ·simp
   ·rw [reach_bit hB fuel n (by omega) (by omega) h5,Bool.or_true]
def lastW (T:List (List Nat × List Nat)) (B:List Nat) (l:List Bool) (ds:List Nat) (i:Nat):Bool:=ds.all fun d=>l.getD d true || (decide (d<T.length) && (B.getD d 0).testBit i)
def takeW (T:Bool × List (List Nat × List Nat)) (B:List Nat) (ds:List Nat) (l l':List Bool) (i:Nat):Bool:=T.1 && freeT T.2 l i && readyAt T.2 l i && closedT T.2 l && lastW T.2 B l ds i && (l.set i true == l')
theorem qaH {B:List Nat} (hT:rtab md ops=T) (hB:waitsOk T.2 B=true) (h:takeW T B ds l.toList l'.toList i=true):takeB md ops ds l l' i=true:=by
 refine take_of hT ?_
 simp only [takeW,takeT,Bool.and_eq_true] at h ⊢
 obtain⟨⟨⟨⟨⟨h1,h2⟩,h3⟩,h4⟩,h5⟩,h6⟩:=h
 refine⟨⟨⟨⟨⟨h1,h2⟩,h3⟩,h4⟩,?_⟩,h6⟩
 unfold lastW at h5
 unfold lastT
 rw [List.all_eq_true] at h5 ⊢
 intro d hd
 have h7:=h5 d hd
 rw [Bool.or_eq_true,Bool.and_eq_true,decide_eq_true_eq] at h7
 rcases h7 with h7|⟨h8,h9⟩
 ·rw [h7,Bool.true_or]
 ·rw [reach_bit hB _ d h8 h8 h9,Bool.or_true]
theorem with_tabW {P:Program} {Q:Exit→Act→World→Prop} {S:World→Prop} {n:Nat} {a:Act} {w:World} {B:List Nat} (hT:rtab md ops=T) (hB:waitsOk T.2 B=true) (h:qaf (rtab md ops=T)→qaf (waitsOk T.2 B=true)→qaB P md ops Q S ds n l a w):qaB P md ops Q S ds n l a w:=h ⟨hT⟩ ⟨hB⟩
end
def opsIn:Code→Nat→Option (Array Oper)
 |.region id ops _,k=>if id == k then some ops else none
 |.seq a b,k=>match opsIn a k with
  |some o=>some o
  |none=>opsIn b k
 |.cond _ a b,k=>match opsIn a k with
  |some o=>some o
  |none=>opsIn b k
 |.block _ c,k=>opsIn c k
 |.loop c,k=>opsIn c k
 |.scope c,k=>opsIn c k
 |.rangeFunc _ _ a b,k=>match opsIn a k with
  |some o=>some o
  |none=>opsIn b k
 |_,_=>none
def opsOf (f:Func) (k:Nat):Array Oper:=((f.body.bind fun c=>opsIn c k)).getD #[]
end Go.Proofs.YtcfknijdhmildaaDoorW.PrintLast
end
section
namespace Go.Proofs.YtcfknijdhmildaaDoorW.PrintWords
theorem Reps.front {α:Type} {R:α→List Value→Prop} {size:Nat} {ps:List α} {cs c all:List Value} {p:α} (hp:R p c) (hc:c.length=size) (h:Reps R size ps cs) (ha:c++cs=all):Reps R size (p::ps) all:=by
 subst ha
 refine⟨by rw [List.length_append,hc,h.1,List.length_cons,Nat.succ_mul,Nat.add_comm],fun j q hq=>?_⟩
 cases j with
 |zero=>
  simp only [List.getElem?_cons_zero,Option.some.injEq] at hq
  subst hq
  rw [Nat.zero_mul,List.drop_zero,List.take_append_of_le_length (by omega),List.take_of_length_le (by omega)]
  exact hp
 |succ j=>
  simp only [List.getElem?_cons_succ] at hq
  have h1:=h.2 j q hq
  rw [Nat.succ_mul,List.drop_append,List.drop_of_length_le (by rw [hc];exact Nat.le_add_left _ _),List.nil_append,hc,Nat.add_sub_cancel]
  exact h1
theorem Reps.c2 {α:Type} {R:α→List Value→Prop} {ps:List α} {cs:List Value} {p:α} {va vb:Value} (hp:R p [va,vb]) (h:Reps R 2 ps cs):Reps R 2 (p::ps) (va::vb::cs):=Reps.front hp rfl h rfl
theorem Reps.c3 {α:Type} {R:α→List Value→Prop} {ps:List α} {cs:List Value} {p:α} {va vb vc:Value} (hp:R p [va,vb,vc]) (h:Reps R 3 ps cs):Reps R 3 (p::ps) (va::vb::vc::cs):=Reps.front hp rfl h rfl
theorem Reps.c4 {α:Type} {R:α→List Value→Prop} {ps:List α} {cs:List Value} {p:α} {va vb vc vd:Value} (hp:R p [va,vb,vc,vd]) (h:Reps R 4 ps cs):Reps R 4 (p::ps) (va::vb::vc::vd::cs):=Reps.front hp rfl h rfl
theorem Reps.c5 {α:Type} {R:α→List Value→Prop} {ps:List α} {cs:List Value} {p:α} {va vb vc vd ve:Value} (hp:R p [va,vb,vc,vd,ve]) (h:Reps R 5 ps cs):Reps R 5 (p::ps) (va::vb::vc::vd::ve::cs):=Reps.front hp rfl h rfl
theorem Reps.c6 {α:Type} {R:α→List Value→Prop} {ps:List α} {cs:List Value} {p:α} {va vb vc vd ve vf:Value} (hp:R p [va,vb,vc,vd,ve,vf]) (h:Reps R 6 ps cs):Reps R 6 (p::ps) (va::vb::vc::vd::ve::vf::cs):=Reps.front hp rfl h rfl
theorem Reps.c7 {α:Type} {R:α→List Value→Prop} {ps:List α} {cs:List Value} {p:α} {va vb vc vd ve vf vg:Value} (hp:R p [va,vb,vc,vd,ve,vf,vg]) (h:Reps R 7 ps cs):Reps R 7 (p::ps) (va::vb::vc::vd::ve::vf::vg::cs):=Reps.front hp rfl h rfl
theorem Reps.c8 {α:Type} {R:α→List Value→Prop} {ps:List α} {cs:List Value} {p:α} {va vb vc vd ve vf vg vh:Value} (hp:R p [va,vb,vc,vd,ve,vf,vg,vh]) (h:Reps R 8 ps cs):Reps R 8 (p::ps) (va::vb::vc::vd::ve::vf::vg::vh::cs):=Reps.front hp rfl h rfl
theorem Reps.c9 {α:Type} {R:α→List Value→Prop} {ps:List α} {cs:List Value} {p:α} {va vb vc vd ve vf vg vh vi:Value} (hp:R p [va,vb,vc,vd,ve,vf,vg,vh,vi]) (h:Reps R 9 ps cs):Reps R 9 (p::ps) (va::vb::vc::vd::ve::vf::vg::vh::vi::cs):=Reps.front hp rfl h rfl
theorem Reps.c10 {α:Type} {R:α→List Value→Prop} {ps:List α} {cs:List Value} {p:α} {va vb vc vd ve vf vg vh vi vj:Value} (hp:R p [va,vb,vc,vd,ve,vf,vg,vh,vi,vj]) (h:Reps R 10 ps cs):Reps R 10 (p::ps) (va::vb::vc::vd::ve::vf::vg::vh::vi::vj::cs):=Reps.front hp rfl h rfl
end Go.Proofs.YtcfknijdhmildaaDoorW.PrintWords
end
section
namespace Go.Proofs.YtcfknijdhmildaaDoorW.PrintLast
def up (b:Nat→Bool) (i:Nat):Nat→Bool:=fun j=>if j=i then true else b j
section
variable {P:Program} {ops:Array Oper} {Q:Exit→Act→World→Prop} {md:Region.Mode} {T:Bool × List (List Nat × List Nat)} {B:List Nat} {O:List Nat} {b:Nat→Bool} {i j n:Nat}
end
end Go.Proofs.YtcfknijdhmildaaDoorW.PrintLast
end
section
namespace Go.Proofs.YtcfknijdhmildaaDoorW.PrintWords
open Go.RowKit
section
variable {P:Program} {ops:Array Oper} {rest:List Oper} {o:Oper} {a:Act} {Q:Exit→Act→World→Prop} {W:World}
theorem qaz (hw:Region.wanted o (yielded ops a.tmps)=true) (h:wpList P ops Q ({ o with guard:=none }::rest) a W):wpList P ops Q (o::rest) a W:=by
 have h1:Region.wanted { o with guard:=none } (yielded ops a.tmps)=true:=rfl
 unfold wpList at h ⊢
 rw [if_pos h1] at h
 rw [if_pos hw]
 exact h
end
end Go.Proofs.YtcfknijdhmildaaDoorW.PrintWords
end
section
namespace Go.Proofs.YtcfknijdhmildaaDoor.PParseRight
open Go.RowKit Go.Proofs.YtcfknijdhmildaaDoorW.PrintWords Go.Proofs.YtcfknijdhmildaaDoorW.PrintLast Go.Proofs.YtcfknijdhmildaaDoorW.PrintMore
attribute [local go_sem] max2_int min2_int max_two min_two max_three min_three max_four min_four
set_option linter.unusedVariables false
set_option linter.unusedSimpArgs false
noncomputable section
def errW:Option Int→Value
 |none=>.nilIface
 |some c=>.iface 0 (.int .i64 c)
theorem qao:errW none=.nilIface:=rfl
theorem qan (c:Int):errW (some c)=.iface 0 (.int .i64 c):=rfl
structure S52 where
 f0:Int
 f1:Int
 f2:Int
 f3:Int
 f4:Int
 f5:(List Int)
 f6:(List Int)
def z52:S52:=⟨(0:Int),(0:Int),(0:Int),(0:Int),(0:Int),([]:List Int),([]:List Int)⟩
def k52:Kd S52:=Kd.iso (Kd.pair (Kd.int .i64) (Kd.pair (Kd.int .i64) (Kd.pair (Kd.int .i64) (Kd.pair (Kd.int .i64) (Kd.pair (Kd.int .i64) (Kd.pair (Kd.slice 2 (Kd.int .i64)) (Kd.slice 3 (Kd.int .i64)))))))) (fun x:S52=>(x.f0,x.f1,x.f2,x.f3,x.f4,x.f5,x.f6))
theorem k52_open {w:World} {x:S52} {cs:List Value} (h:k52.K w x cs):∃ A5 c5 A6 c6,cs=[.int .i64 x.f0,.int .i64 x.f1,.int .i64 x.f2,.int .i64 x.f3,.int .i64 x.f4,.slice A5 x.f5.length c5,.slice A6 x.f6.length c6]∧x.f5.length≤c5∧(Kd.int .i64).C w A5 x.f5.length x.f5∧x.f6.length≤c6∧(Kd.int .i64).C w A6 x.f6.length x.f6:=by
 obtain⟨_,_,rfl,rfl,⟨_,_,rfl,rfl,⟨_,_,rfl,rfl,⟨_,_,rfl,rfl,⟨_,_,rfl,rfl,⟨_,_,rfl,⟨A5,c5,rfl,l5,g5⟩,⟨A6,c6,rfl,l6,g6⟩⟩⟩⟩⟩⟩⟩:=h
 exact⟨A5,c5,A6,c6,rfl,l5,g5,l6,g6⟩
def qak (xs:List S52) (i:Int):S52:=xs.getD i.toNat z52
theorem at_T52 {w:World} {A:Option Addr} {n:Nat} {xs:List S52} (h:Kd.C k52 w A n xs) (i:Int) (h0:0≤i) (h1:i<n):∃ ad A5 c5 A6 c6,A=some ad∧w.cell? (ad.add (i.toNat * 7))=some (.int .i64 (qak xs i).f0)∧w.cell? ⟨(ad.add (i.toNat * 7)).block,(ad.add (i.toNat * 7)).off+1,none⟩=some (.int .i64 (qak xs i).f1)∧w.cell? ⟨(ad.add (i.toNat * 7)).block,(ad.add (i.toNat * 7)).off+2,none⟩=some (.int .i64 (qak xs i).f2)∧w.cell? ⟨(ad.add (i.toNat * 7)).block,(ad.add (i.toNat * 7)).off+3,none⟩=some (.int .i64 (qak xs i).f3)∧w.cell? ⟨(ad.add (i.toNat * 7)).block,(ad.add (i.toNat * 7)).off+4,none⟩=some (.int .i64 (qak xs i).f4)∧w.cell? ⟨(ad.add (i.toNat * 7)).block,(ad.add (i.toNat * 7)).off+5,none⟩=some (.slice A5 (qak xs i).f5.length c5)∧w.cell? ⟨(ad.add (i.toNat * 7)).block,(ad.add (i.toNat * 7)).off+6,none⟩=some (.slice A6 (qak xs i).f6.length c6)∧(qak xs i).f5.length≤c5∧(Kd.int .i64).C w A5 (qak xs i).f5.length (qak xs i).f5∧(qak xs i).f6.length≤c6∧(Kd.int .i64).C w A6 (qak xs i).f6.length (qak xs i).f6:=by
 obtain⟨ad,c,e,_,hK,hc0⟩:=Kd.C_get h z52 i h0 h1
 have hc:∀ j u,c[j]? = some u→w.cell? (ad.add (i.toNat * 7+j))=some u:=hc0
 obtain⟨A5,c5,A6,c6,rfl,l5,g5,l6,g6⟩:=k52_open hK
 exact⟨ad,A5,c5,A6,c6,e,hc 0 _ rfl,by rw [← add_field _ _ 1 (by omega)];exact hc 1 _ rfl,by rw [← add_field _ _ 2 (by omega)];exact hc 2 _ rfl,by rw [← add_field _ _ 3 (by omega)];exact hc 3 _ rfl,by rw [← add_field _ _ 4 (by omega)];exact hc 4 _ rfl,by rw [← add_field _ _ 5 (by omega)];exact hc 5 _ rfl,by rw [← add_field _ _ 6 (by omega)];exact hc 6 _ rfl,l5,g5,l6,g6⟩
structure S32 where
 f0:Int
 f1:Int
 f2:(List S52)
end
end Go.Proofs.YtcfknijdhmildaaDoor.PParseRight
end
section
namespace Go.Proofs.YtcfknijdhmildaaDoor
open Go.ChangeShapes Go.WideShapes Go.ChangeAt Go.RowKit Go.Deep Go.Proofs.YtcfknijdhmildaaDoorW.PrintWords
def Opens {α:Type} (P:Program) (t:TypeId) (d:Kd α) (ok:α→Prop):Prop:=
 ∀ {H:Type} {enc:TypeId × Value→H} {w:World} {base:Nat} {held:Bool} {fuel:Nat} {cs:List Value} {y:DataW H × List MemPlace},
  DataW.trod enc P w base (fun _=>true) held fuel t cs=some y→∃ x,d.K w x cs∧ok x
def OpensF {α:Type} (P:Program) (n0:Nat) (fs:List (TypeId × Nat)) (d:Kd α) (ok:α→Prop):Prop:=
 ∀ {H:Type} {enc:TypeId × Value→H} {w:World} {base:Nat} {held:Bool} {fuel:Nat} {cs:List Value},
  (∀ f ∈ fs,∃ y:DataW H × List MemPlace,DataW.trod enc P w base (fun _=>true) held fuel f.1 ((cs.drop f.2).take (P.cellsOf f.1))=some y)→cs.length=n0+d.sz→∃ x,d.K w x (cs.drop n0)∧ok x
section
variable {α β:Type} {P:Program} {t:TypeId} {d:Kd α} {d':Kd β} {ok:α→Prop} {ok':β→Prop} {n0:Nat}
theorem Opens.int {k:IntKind} (ht:P.underlying t=some (.int k)):Opens P t (Kd.int k) (fun x=>(Lit.int k x).wf=true):=by
 intro H enc w base held fuel cs y h
 obtain⟨n,rfl,_,hw⟩:=DataW.trod_int ht h
 exact⟨n,rfl,hw⟩
theorem Opens.bool (ht:P.underlying t=some .bool):Opens P t Kd.bool (fun _=>True):=by
 intro H enc w base held fuel cs y h
 obtain⟨n,rfl,_⟩:=DataW.trod_bool ht h
 exact⟨n,rfl,trivial⟩
theorem Opens.string (ht:P.underlying t=some .string):Opens P t Kd.string (fun s=>s.size≤maxLen):=by
 intro H enc w base held fuel cs y h
 obtain⟨n,rfl,_,hl⟩:=DataW.trod_string ht h
 exact⟨n,rfl,hl⟩
theorem Opens.slice {e:TypeId} (e':TypeId) (ht:P.underlying t=some (.slice e)) (he:Opens P e d ok) (hc:P.cellsOf e=d.sz) (z:α):Opens P t (Kd.slice e' d) (fun l=>l.length≤maxLen∧∀ x ∈ l,ok x):=by
 intro H enc w base held fuel cs y h
 rcases open_slice ht h with ⟨rfl,_⟩|⟨a,len,cap,m,n,D,Pl,rfl,_,hl,hm,hmm,_,hx⟩
 ·exact⟨[],⟨none,0,rfl,Nat.le_refl _,Kd.C_nil d w⟩,Nat.zero_le _,fun x hx=>by cases hx⟩
 ·simp only [if_true] at hmm
  subst hmm
  have hk:∀ k,k<m→∃ g:α,ok g∧∃ c,d.K w g c∧∀ i u,c[i]? = some u→w.cell? (a.add (k * d.sz+i))=some u:=by
   intro k hk
   obtain⟨cs',hcs,ht'⟩:=hx k hk
   obtain⟨g,hg,hok⟩:=he ht'
   refine⟨g,hok,cs',hg,fun i u hu=>?_⟩
   obtain⟨_,_,hat⟩:=World.cells?_some hcs
   have hil:i<P.cellsOf e:=by
    have:=(List.getElem?_eq_some_iff.1 hu).1
    rw [d.K_len hg] at this
    omega
   have:=hat i hil
   rw [hu] at this
   rw [← this,hc]
   congr 1
   unfold Addr.add
   by_cases h1:k * d.sz=0<;>by_cases h2:i=0<;>simp [h1,h2,Nat.add_assoc]
  haveI:Inhabited α:=⟨z⟩
  obtain⟨f,hf⟩:=choose_lt (α:=α) (n:=m) (p:=fun k g=>ok g∧∃ c,d.K w g c∧∀ i u,c[i]? = some u→w.cell? (a.add (k * d.sz+i))=some u) hk
  have hm':len≤9223372036854775807:=by unfold maxLen at hm;omega
  refine⟨(List.range len).map f,⟨some a,m,by simp,by simpa using hl,⟨rfl,by simpa using hm',fun _=>⟨a,rfl,fun j p hj=>?_⟩⟩⟩,by simp;omega,fun x hx=>?_⟩
  ·have hj1:j<len:=by have:=(List.getElem?_eq_some_iff.1 hj).1;simpa using this
   rw [List.getElem?_map,List.getElem?_range hj1] at hj
   simp at hj
   subst hj
   obtain⟨_,c,hK,hcell⟩:=hf j (by omega)
   exact⟨c,d.K_len hK,hK,hcell⟩
  ·obtain⟨k,hk,rfl⟩:=List.mem_map.1 hx
   exact (hf k (by have:=List.mem_range.1 hk;omega)).1
theorem OpensF.last (h:Opens P t d ok) (hc:P.cellsOf t=d.sz):OpensF P n0 [(t,n0)] d ok:=by
 intro H enc w base held fuel cs hf hl
 obtain⟨y,hy⟩:=hf (t,n0) List.mem_cons_self
 rw [List.take_of_length_le (by rw [List.length_drop,hc];omega)] at hy
 exact h hy
theorem OpensF.cons {fs:List (TypeId × Nat)} (h:Opens P t d ok) (hc:P.cellsOf t=d.sz) {n1:Nat} (hn:n0+d.sz=n1) (hr:OpensF P n1 fs d' ok'):OpensF P n0 ((t,n0)::fs) (Kd.pair d d') (fun x=>ok x.1∧ok' x.2):=by
 subst hn
 intro H enc w base held fuel cs hf hl
 obtain⟨y,hy⟩:=hf (t,n0) List.mem_cons_self
 obtain⟨x,hx,hox⟩:=h hy
 obtain⟨x',hx',hox'⟩:=hr (fun f hm=>hf f (List.mem_cons_of_mem _ hm)) (by rw [hl];show n0+(d.sz+d'.sz)=_;omega)
 refine⟨(x,x'),⟨(cs.drop n0).take (P.cellsOf t),cs.drop (n0+d.sz),?_,hx,hx'⟩,hox,hox'⟩
 rw [hc,← List.drop_drop,List.take_append_drop]
theorem Opens.struct {fs:Array Field} {l:List (TypeId × Nat)} (f:β→α) (g:α→β) (hg:∀ x,f (g x)=x) (ht:P.underlying t=some (.struct fs)) (hfs:fs.toList.map (fun f=>(f.type,f.offset))=l) (hf:OpensF P 0 l d ok) (hc:P.cellsOf t=d.sz):Opens P t (Kd.iso d f) (fun b=>ok (f b)):=by
 subst hfs
 intro H enc w base held fuel cs y h
 obtain⟨xs,n,_,_,hl,hlen,hx⟩:=DataW.trod_struct ht h
 obtain⟨x,hk,ho⟩:=hf (cs:=cs) (fun q hq=>by
  obtain⟨fd,hfd,rfl⟩:=List.mem_map.1 hq
  obtain⟨i,hi,he⟩:=List.getElem_of_mem hfd
  have hi':i<fs.size:=by simpa using hi
  have hge:fs[i]? = some fd:=by rw [Array.getElem?_eq_getElem hi',← he];simp
  exact⟨xs[i]'(by omega),(hx i fd hge).trans (List.getElem?_eq_getElem (by omega))⟩) (by rw [hl,hc,Nat.zero_add])
 rw [List.drop_zero] at hk
 exact⟨g x,by show d.K w (f (g x)) cs;rw [hg];exact hk,by show ok (f (g x));rw [hg];exact ho⟩
theorem Opens.array {e:TypeId} {m:Nat} {l:List (TypeId × Nat)} (f:β→α) (g:α→β) (hg:∀ x,f (g x)=x) (ht:P.underlying t=some (.array m e)) (hfs:(List.range m).map (fun i=>(e,i * P.cellsOf e))=l) (hf:OpensF P 0 l d ok) (hc:P.cellsOf t=d.sz):Opens P t (Kd.iso d f) (fun b=>ok (f b)):=by
 subst hfs
 intro H enc w base held fuel cs y h
 obtain⟨xs,n,_,_,hl,hlen,hx⟩:=DataW.trod_array ht h
 obtain⟨x,hk,ho⟩:=hf (cs:=cs) (fun q hq=>by
  obtain⟨i,hi,rfl⟩:=List.mem_map.1 hq
  have hi':=List.mem_range.1 hi
  exact⟨xs[i]'(by omega),(hx i hi').trans (List.getElem?_eq_getElem (by omega))⟩) (by rw [hl,hc,Nat.zero_add])
 rw [List.drop_zero] at hk
 exact⟨g x,by show d.K w (f (g x)) cs;rw [hg];exact hk,by show ok (f (g x));rw [hg];exact ho⟩
end
end Go.Proofs.YtcfknijdhmildaaDoor
end
section
namespace Go.Proofs.YtcfknijdhmildaaDoor.PParseRight
open Go.RowKit Go.Proofs.YtcfknijdhmildaaDoorW.PrintWords Go.Proofs.YtcfknijdhmildaaDoorW.PrintLast Go.Proofs.YtcfknijdhmildaaDoorW.PrintMore
attribute [local go_sem] max2_int min2_int max_two min_two max_three min_three max_four min_four
set_option linter.unusedVariables false
set_option linter.unusedSimpArgs false
noncomputable section
def tkTo (x:Tk):S52:=⟨x.id,x.c,x.d,x.t,x.p,x.ch,x.us⟩
theorem S_tk {w:World} {base:Nat} {ok:Nat→Prop} {v:Value} {L:List Tk} (h:Kd.S kTk 52 w base ok v L):Kd.S k52 52 w base ok v (L.map tkTo):=by
 obtain⟨f,h0,inner,ho,hr⟩:=h
 refine⟨f,h0,inner,by rw [List.length_zipIdx,List.length_map];rw [List.length_zipIdx] at ho;exact ho,?_,fun j p hj=>?_⟩
 ·have:=hr.1
  rw [List.length_zipIdx] at this ⊢
  rw [List.length_map]
  exact this
 ·rw [List.getElem?_zipIdx,List.getElem?_map] at hj
  cases hx:L[j]? with
  |none=>rw [hx] at hj;cases hj
  |some x=>
   rw [hx] at hj
   obtain rfl:=Option.some.inj hj
   have:=hr.2 j (x,0+j) (by rw [List.getElem?_zipIdx,hx];rfl)
   exact this
def parse_Parse.f (a0:ByteArray):Option (Int × Int × List S52 × Int × Int):=if a0.size≤65536 then some ((parseP a0).1,(parseP a0).2.1,(parseP a0).2.2.1.map tkTo,(parseP a0).2.2.2.1,(parseP a0).2.2.2.2) else none
theorem parse_Parse.calls (a0:ByteArray) (r1 r2:Int) (r3:List S52) (r4 r5:Int) (w:World) (h:parse_Parse.f a0=some (r1,r2,r3,r4,r5)) (hT:Tabs w) :
  Calls Tryd.prog 12 #[.string a0] w fun e w'=>∃ v2_:Value,e=.returned (.tuple #[.agg #[.int .i64 r1,.int .i64 r2,v2_],.int .i64 r4,.int .i64 r5])∧Kd.S k52 52 w' w.heap.size (fun _=>True) v2_ r3∧Below w.heap.size w w':=by
 unfold parse_Parse.f at h
 by_cases h1:a0.size≤65536
 ·rw [if_pos h1] at h
  have h:=Option.some.inj h
  obtain⟨_,m,hm⟩:=hT
  injection h with e1 h
  injection h with e2 h
  injection h with e3 h
  injection h with e4 e5
  subst e1 e2 e3 e4 e5
  refine (parse_anyS a0 h1 m w hm).mono ?_
  rintro e w' ⟨⟨v,rfl,ho⟩,hb⟩
  exact⟨v,rfl,S_tk ho,hb⟩
 ·rw [if_neg h1] at h;cases h
def ostinatolaw07_awake.f:Option Bool:=some true
theorem ostinatolaw07_awake.calls (r:Bool) (w:World) (h:ostinatolaw07_awake.f=some r) (hT:Tabs w) :
  Calls Tryd.prog 8 #[] w fun e w'=>e=.returned (.bool r)∧Below w.heap.size w w':=by
 obtain rfl:=Option.some.inj h
 obtain⟨_,m,hm⟩:=hT
 exact awake_any m w hm
def ostinatolaw07_short.f (a0:ByteArray) (a1:Int):Option (ByteArray):=if (a0.size:Int) > a1 then (if 0≤a1 then (if a1≤(a0.size:Int) then (some (a0.extract 0 (a1:Int).toNat)) else (none)) else (none)) else (some a0)
theorem ostinatolaw07_short.calls (a0:ByteArray) (a1:Int) (r:ByteArray) (w:World) (h:ostinatolaw07_short.f a0 a1=some r) :
  Calls Tryd.prog 9 #[.string a0,.int .i64 a1] w fun e w'=>e=.returned (.string r)∧Drawn0 w w':=by
 have H:(if (a0.size:Int) > a1 then (if 0≤a1 then (if a1≤(a0.size:Int) then (some (a0.extract 0 (a1:Int).toNat)) else (none)) else (none)) else (some a0))=some r:=h
 clear h
 by_cases c3:(a0.size:Int) > a1
 ·rw [if_pos c3] at H
  have c3b0:decide (a1<(a0.size:Int))=true:=decide_eq_true c3
  clear c3
  by_cases c4:0≤a1
  ·rw [if_pos c4] at H
   have c4b0:=eq_true c4
   have c4b1:decide (0≤a1)=true:=decide_eq_true c4
   clear c4
   by_cases c5:a1≤(a0.size:Int)
   ·rw [if_pos c5] at H
    have c5b0:=eq_true c5
    have c5b1:decide (a1≤(a0.size:Int))=true:=decide_eq_true c5
    clear c5
    obtain rfl:=Option.some.inj H
    go_enter Tryd.func9,Tryd.ntmps9
    go_wp2
    go_ret
    exact⟨by first|rfl|(simp;done)|(simp [*];done),by repeat (first|exact Drawn0.refl _|apply Drawn0.step)⟩
   ·rw [if_neg c5] at H
    exact absurd H (by simp)
  ·rw [if_neg c4] at H
   exact absurd H (by simp)
 ·rw [if_neg c3] at H
  have c3b0:decide (a1<(a0.size:Int))=false:=decide_eq_false c3
  clear c3
  obtain rfl:=Option.some.inj H
  go_enter Tryd.func9,Tryd.ntmps9
  go_wp2
  go_ret
  exact⟨by first|rfl|(simp;done)|(simp [*];done),by repeat (first|exact Drawn0.refl _|apply Drawn0.step)⟩
end
end Go.Proofs.YtcfknijdhmildaaDoor.PParseRight
end
section
namespace Go.Proofs.YtcfknijdhmildaaDoor.PParseRight
open Go.RowKit Go.Proofs.YtcfknijdhmildaaDoorW.PrintWords Go.Proofs.YtcfknijdhmildaaDoorW.PrintLast Go.Proofs.YtcfknijdhmildaaDoorW.PrintMore
attribute [local go_sem] max2_int min2_int max_two min_two max_three min_three max_four min_four
set_option linter.unusedVariables false
set_option linter.unusedSimpArgs false
noncomputable section
mutual
def ostinatoref05_SameTask.j0:Nat→Bool→Int→Int→Int→Int→Int→List Int→List Int→Int→Int→Int→Int→Int→List Int→List Int→Option (Bool)
 |0,_,_,_,_,_,_,_,_,_,_,_,_,_,_,_=>none
 |k+1,x57,x102000,x102001,x102002,x102003,x102004,x102005,x102006,x103000,x103001,x103002,x103003,x103004,x103005,x103006=>if x57=true then (some false) else (ostinatoref05_SameTask.l0 k 0 x102000 x102001 x102002 x102003 x102004 x102005 x102006 x103000 x103001 x103002 x103003 x103004 x103005 x103006)
def ostinatoref05_SameTask.l0:Nat→Int→Int→Int→Int→Int→Int→List Int→List Int→Int→Int→Int→Int→Int→List Int→List Int→Option (Bool)
 |0,_,_,_,_,_,_,_,_,_,_,_,_,_,_,_=>none
 |k+1,x5,x102000,x102001,x102002,x102003,x102004,x102005,x102006,x103000,x103001,x103002,x103003,x103004,x103005,x103006=>if x5<(x102005.length:Int) then (if 0≤x5 then (if x5<(x103005.length:Int) then (if (rd x102005 x5)=(rd x103005 x5) then (ostinatoref05_SameTask.l0 k (wrap64 (x5+1)) x102000 x102001 x102002 x102003 x102004 x102005 x102006 x103000 x103001 x103002 x103003 x103004 x103005 x103006) else (some false)) else (none)) else (none)) else (ostinatoref05_SameTask.l1 k 0 x102000 x102001 x102002 x102003 x102004 x102005 x102006 x103000 x103001 x103002 x103003 x103004 x103005 x103006)
def ostinatoref05_SameTask.l1:Nat→Int→Int→Int→Int→Int→Int→List Int→List Int→Int→Int→Int→Int→Int→List Int→List Int→Option (Bool)
 |0,_,_,_,_,_,_,_,_,_,_,_,_,_,_,_=>none
 |k+1,x6,x102000,x102001,x102002,x102003,x102004,x102005,x102006,x103000,x103001,x103002,x103003,x103004,x103005,x103006=>if x6<(x102006.length:Int) then (if 0≤x6 then (if x6<(x103006.length:Int) then (if (rd x102006 x6)=(rd x103006 x6) then (ostinatoref05_SameTask.l1 k (wrap64 (x6+1)) x102000 x102001 x102002 x102003 x102004 x102005 x102006 x103000 x103001 x103002 x103003 x103004 x103005 x103006) else (some false)) else (none)) else (none)) else (some true)
end
def ostinatoref05_SameTask.f (k:Nat) (a0_0:Int) (a0_1:Int) (a0_2:Int) (a0_3:Int) (a0_4:Int) (l0_5:List Int) (l0_6:List Int) (a1_0:Int) (a1_1:Int) (a1_2:Int) (a1_3:Int) (a1_4:Int) (l1_5:List Int) (l1_6:List Int):Option (Bool):=if a0_0=a1_0 then (if a0_1=a1_1 then (if a0_2=a1_2 then (if a0_3=a1_3 then (if a0_4=a1_4 then (if (l0_5.length:Int)=(l1_5.length:Int) then (ostinatoref05_SameTask.j0 k ((l0_6.length:Int) != (l1_6.length:Int)) a0_0 a0_1 a0_2 a0_3 a0_4 l0_5 l0_6 a1_0 a1_1 a1_2 a1_3 a1_4 l1_5 l1_6) else (ostinatoref05_SameTask.j0 k true a0_0 a0_1 a0_2 a0_3 a0_4 l0_5 l0_6 a1_0 a1_1 a1_2 a1_3 a1_4 l1_5 l1_6)) else (ostinatoref05_SameTask.j0 k true a0_0 a0_1 a0_2 a0_3 a0_4 l0_5 l0_6 a1_0 a1_1 a1_2 a1_3 a1_4 l1_5 l1_6)) else (ostinatoref05_SameTask.j0 k true a0_0 a0_1 a0_2 a0_3 a0_4 l0_5 l0_6 a1_0 a1_1 a1_2 a1_3 a1_4 l1_5 l1_6)) else (ostinatoref05_SameTask.j0 k true a0_0 a0_1 a0_2 a0_3 a0_4 l0_5 l0_6 a1_0 a1_1 a1_2 a1_3 a1_4 l1_5 l1_6)) else (ostinatoref05_SameTask.j0 k true a0_0 a0_1 a0_2 a0_3 a0_4 l0_5 l0_6 a1_0 a1_1 a1_2 a1_3 a1_4 l1_5 l1_6)) else (ostinatoref05_SameTask.j0 k true a0_0 a0_1 a0_2 a0_3 a0_4 l0_5 l0_6 a1_0 a1_1 a1_2 a1_3 a1_4 l1_5 l1_6)
theorem ostinatoref05_SameTask.calls (k:Nat) (a0_0:Int) (a0_1:Int) (a0_2:Int) (a0_3:Int) (a0_4:Int) (A0_5:Option Addr) (c0_5:Nat) (l0_5:List Int) (A0_6:Option Addr) (c0_6:Nat) (l0_6:List Int) (a1_0:Int) (a1_1:Int) (a1_2:Int) (a1_3:Int) (a1_4:Int) (A1_5:Option Addr) (c1_5:Nat) (l1_5:List Int) (A1_6:Option Addr) (c1_6:Nat) (l1_6:List Int) (r:Bool) (w:World) (hr0_5:Kd.C (Kd.int .i64) w A0_5 l0_5.length l0_5) (hc0_5:l0_5.length≤c0_5) (hr0_6:Kd.C (Kd.int .i64) w A0_6 l0_6.length l0_6) (hc0_6:l0_6.length≤c0_6) (hr1_5:Kd.C (Kd.int .i64) w A1_5 l1_5.length l1_5) (hc1_5:l1_5.length≤c1_5) (hr1_6:Kd.C (Kd.int .i64) w A1_6 l1_6.length l1_6) (hc1_6:l1_6.length≤c1_6) (h:ostinatoref05_SameTask.f k a0_0 a0_1 a0_2 a0_3 a0_4 l0_5 l0_6 a1_0 a1_1 a1_2 a1_3 a1_4 l1_5 l1_6=some r) :
  Calls Tryd.prog 56 #[.agg #[.int .i64 a0_0,.int .i64 a0_1,.int .i64 a0_2,.int .i64 a0_3,.int .i64 a0_4,.slice A0_5 l0_5.length c0_5,.slice A0_6 l0_6.length c0_6],.agg #[.int .i64 a1_0,.int .i64 a1_1,.int .i64 a1_2,.int .i64 a1_3,.int .i64 a1_4,.slice A1_5 l1_5.length c1_5,.slice A1_6 l1_6.length c1_6]] w fun e w'=>e=.returned (.bool r)∧Below w.heap.size w w':=by
 have hu52:=Tryd.underlying52
 have HR0_5:=qaf.mk hr0_5
 have HC0_5:=qaf.mk hc0_5
 clear hr0_5 hc0_5
 have HR0_6:=qaf.mk hr0_6
 have HC0_6:=qaf.mk hc0_6
 clear hr0_6 hc0_6
 have HR1_5:=qaf.mk hr1_5
 have HC1_5:=qaf.mk hc1_5
 clear hr1_5 hc1_5
 have HR1_6:=qaf.mk hr1_6
 have HC1_6:=qaf.mk hc1_6
 clear hr1_6 hc1_6
 have HB:=qaf.mk (Below.refl w.heap.size w)
 have H:(if a0_0=a1_0 then (if a0_1=a1_1 then (if a0_2=a1_2 then (if a0_3=a1_3 then (if a0_4=a1_4 then (if (l0_5.length:Int)=(l1_5.length:Int) then (ostinatoref05_SameTask.j0 k ((l0_6.length:Int) != (l1_6.length:Int)) a0_0 a0_1 a0_2 a0_3 a0_4 l0_5 l0_6 a1_0 a1_1 a1_2 a1_3 a1_4 l1_5 l1_6) else (ostinatoref05_SameTask.j0 k true a0_0 a0_1 a0_2 a0_3 a0_4 l0_5 l0_6 a1_0 a1_1 a1_2 a1_3 a1_4 l1_5 l1_6)) else (ostinatoref05_SameTask.j0 k true a0_0 a0_1 a0_2 a0_3 a0_4 l0_5 l0_6 a1_0 a1_1 a1_2 a1_3 a1_4 l1_5 l1_6)) else (ostinatoref05_SameTask.j0 k true a0_0 a0_1 a0_2 a0_3 a0_4 l0_5 l0_6 a1_0 a1_1 a1_2 a1_3 a1_4 l1_5 l1_6)) else (ostinatoref05_SameTask.j0 k true a0_0 a0_1 a0_2 a0_3 a0_4 l0_5 l0_6 a1_0 a1_1 a1_2 a1_3 a1_4 l1_5 l1_6)) else (ostinatoref05_SameTask.j0 k true a0_0 a0_1 a0_2 a0_3 a0_4 l0_5 l0_6 a1_0 a1_1 a1_2 a1_3 a1_4 l1_5 l1_6)) else (ostinatoref05_SameTask.j0 k true a0_0 a0_1 a0_2 a0_3 a0_4 l0_5 l0_6 a1_0 a1_1 a1_2 a1_3 a1_4 l1_5 l1_6))=some r:=h
 clear h
 have HC3:=qaf.mk H
 clear H
 go_enter Tryd.func56,Tryd.ntmps56
 go_upto_region 1 with (first|((with_reducible refine qaD (N:=2) rfl ?_);(try (refine qaz (by rfl) ?_;dsimp only));refine qay ?hg (N:=2) ?hd (cs:=#[.int .i64 a0_0,.int .i64 a0_1,.int .i64 a0_2,.int .i64 a0_3,.int .i64 a0_4,.slice A0_5 l0_5.length c0_5,.slice A0_6 l0_6.length c0_6]) (t:=52) ?hr ?_;(case hd=>rfl);(case hg=>rfl);(case hr=>first|(go_simp;done)|(go_simp;rfl));intro gb101 hg w4 hbox hb;have n0_:=qaf.mk (qal (by repeat (first|(with_reducible first|exact HB.out|apply qae|apply qab|apply qad)|exact HB.out)) hb);have n1_:=qaf.mk (hbox);have n2_:=qaf.mk ((by rw [hg];exact (qam (by repeat (first|(with_reducible first|exact HB.out|apply qae|apply qab|apply qad)|exact HB.out))):w.heap.size≤gb101));have n3_:=qaf.mk ((by rw [hg];exact (qam (by repeat (first|(with_reducible first|exact HB.out|apply qae|apply qab|apply qad)|exact HB.out))):w.heap.size≤gb101));clear HB;have HB:=n0_;have BK101:=n1_;have GW101:=n2_;have GE101:=n3_;clear n0_ n1_ n2_ n3_;clear hb hbox hg)|((with_reducible refine qaD (N:=3) rfl ?_);(try (refine qaz (by rfl) ?_;dsimp only));refine qay ?hg (N:=3) ?hd (cs:=#[.int .i64 a1_0,.int .i64 a1_1,.int .i64 a1_2,.int .i64 a1_3,.int .i64 a1_4,.slice A1_5 l1_5.length c1_5,.slice A1_6 l1_6.length c1_6]) (t:=52) ?hr ?_;(case hd=>rfl);(case hg=>rfl);(case hr=>first|(go_simp;done)|(go_simp;rfl));intro gb102 hg w5 hbox hb;have n0_:=qaf.mk (qas (g:=gb101) (o:=.cells #[.int .i64 a0_0,.int .i64 a0_1,.int .i64 a0_2,.int .i64 a0_3,.int .i64 a0_4,.slice A0_5 l0_5.length c0_5,.slice A0_6 l0_6.length c0_6] 52 (0,0)) (by (with_reducible repeat (first|refine qah ?_ _|refine qaj ?_|refine qai ?_ _));exact BK101.out) hb);have n1_:=qaf.mk (qal (by repeat (first|(with_reducible first|exact HB.out|apply qae|apply qab|apply qad|refine qag ?_ GE101.out)|exact HB.out)) hb);have n2_:=qaf.mk (hbox);have n3_:=qaf.mk ((by rw [hg];exact (qam (by repeat (first|(with_reducible first|exact HB.out|apply qae|apply qab|apply qad|refine qag ?_ GE101.out)|exact HB.out))):w.heap.size≤gb102));have n4_:=qaf.mk ((by rw [hg];exact (qam (by repeat (first|(with_reducible first|exact HB.out|apply qae|apply qab|apply qad|refine qag ?_ GE101.out)|exact HB.out))):w.heap.size≤gb102));have n5_:=qaf.mk ((by rw [hg];exact Nat.ne_of_lt (qaQ (g:=gb101) (o:=.cells #[.int .i64 a0_0,.int .i64 a0_1,.int .i64 a0_2,.int .i64 a0_3,.int .i64 a0_4,.slice A0_5 l0_5.length c0_5,.slice A0_6 l0_6.length c0_6] 52 (0,0)) (by (with_reducible repeat (first|refine qah ?_ _|refine qaj ?_|refine qai ?_ _));exact BK101.out)):gb101≠gb102));have n6_:=qaf.mk ((by rw [hg];exact Nat.ne_of_gt (qaQ (g:=gb101) (o:=.cells #[.int .i64 a0_0,.int .i64 a0_1,.int .i64 a0_2,.int .i64 a0_3,.int .i64 a0_4,.slice A0_5 l0_5.length c0_5,.slice A0_6 l0_6.length c0_6] 52 (0,0)) (by (with_reducible repeat (first|refine qah ?_ _|refine qaj ?_|refine qai ?_ _));exact BK101.out)):gb102≠gb101));clear BK101;clear HB;have BK101:=n0_;have HB:=n1_;have BK102:=n2_;have GW102:=n3_;have GE102:=n4_;have NB101_102:=n5_;have NB102_101:=n6_;clear n0_ n1_ n2_ n3_ n4_ n5_ n6_;clear hb hbox hg))
 repeat (go_quiet (first|((with_reducible refine qaD (N:=2) rfl ?_);(try (refine qaz (by rfl) ?_;dsimp only));refine qay ?hg (N:=2) ?hd (cs:=#[.int .i64 a0_0,.int .i64 a0_1,.int .i64 a0_2,.int .i64 a0_3,.int .i64 a0_4,.slice A0_5 l0_5.length c0_5,.slice A0_6 l0_6.length c0_6]) (t:=52) ?hr ?_;(case hd=>rfl);(case hg=>rfl);(case hr=>first|(go_simp;done)|(go_simp;rfl));intro gb101 hg w4 hbox hb;have n0_:=qaf.mk (qal (by repeat (first|(with_reducible first|exact HB.out|apply qae|apply qab|apply qad)|exact HB.out)) hb);have n1_:=qaf.mk (hbox);have n2_:=qaf.mk ((by rw [hg];exact (qam (by repeat (first|(with_reducible first|exact HB.out|apply qae|apply qab|apply qad)|exact HB.out))):w.heap.size≤gb101));have n3_:=qaf.mk ((by rw [hg];exact (qam (by repeat (first|(with_reducible first|exact HB.out|apply qae|apply qab|apply qad)|exact HB.out))):w.heap.size≤gb101));clear HB;have HB:=n0_;have BK101:=n1_;have GW101:=n2_;have GE101:=n3_;clear n0_ n1_ n2_ n3_;clear hb hbox hg)|((with_reducible refine qaD (N:=3) rfl ?_);(try (refine qaz (by rfl) ?_;dsimp only));refine qay ?hg (N:=3) ?hd (cs:=#[.int .i64 a1_0,.int .i64 a1_1,.int .i64 a1_2,.int .i64 a1_3,.int .i64 a1_4,.slice A1_5 l1_5.length c1_5,.slice A1_6 l1_6.length c1_6]) (t:=52) ?hr ?_;(case hd=>rfl);(case hg=>rfl);(case hr=>first|(go_simp;done)|(go_simp;rfl));intro gb102 hg w5 hbox hb;have n0_:=qaf.mk (qas (g:=gb101) (o:=.cells #[.int .i64 a0_0,.int .i64 a0_1,.int .i64 a0_2,.int .i64 a0_3,.int .i64 a0_4,.slice A0_5 l0_5.length c0_5,.slice A0_6 l0_6.length c0_6] 52 (0,0)) (by (with_reducible repeat (first|refine qah ?_ _|refine qaj ?_|refine qai ?_ _));exact BK101.out) hb);have n1_:=qaf.mk (qal (by repeat (first|(with_reducible first|exact HB.out|apply qae|apply qab|apply qad|refine qag ?_ GE101.out)|exact HB.out)) hb);have n2_:=qaf.mk (hbox);have n3_:=qaf.mk ((by rw [hg];exact (qam (by repeat (first|(with_reducible first|exact HB.out|apply qae|apply qab|apply qad|refine qag ?_ GE101.out)|exact HB.out))):w.heap.size≤gb102));have n4_:=qaf.mk ((by rw [hg];exact (qam (by repeat (first|(with_reducible first|exact HB.out|apply qae|apply qab|apply qad|refine qag ?_ GE101.out)|exact HB.out))):w.heap.size≤gb102));have n5_:=qaf.mk ((by rw [hg];exact Nat.ne_of_lt (qaQ (g:=gb101) (o:=.cells #[.int .i64 a0_0,.int .i64 a0_1,.int .i64 a0_2,.int .i64 a0_3,.int .i64 a0_4,.slice A0_5 l0_5.length c0_5,.slice A0_6 l0_6.length c0_6] 52 (0,0)) (by (with_reducible repeat (first|refine qah ?_ _|refine qaj ?_|refine qai ?_ _));exact BK101.out)):gb101≠gb102));have n6_:=qaf.mk ((by rw [hg];exact Nat.ne_of_gt (qaQ (g:=gb101) (o:=.cells #[.int .i64 a0_0,.int .i64 a0_1,.int .i64 a0_2,.int .i64 a0_3,.int .i64 a0_4,.slice A0_5 l0_5.length c0_5,.slice A0_6 l0_6.length c0_6] 52 (0,0)) (by (with_reducible repeat (first|refine qah ?_ _|refine qaj ?_|refine qai ?_ _));exact BK101.out)):gb102≠gb101));clear BK101;clear HB;have BK101:=n0_;have HB:=n1_;have BK102:=n2_;have GW102:=n3_;have GE102:=n4_;have NB101_102:=n5_;have NB102_101:=n6_;clear n0_ n1_ n2_ n3_ n4_ n5_ n6_;clear hb hbox hg));go_upto_region 1 with (first|((with_reducible refine qaD (N:=2) rfl ?_);(try (refine qaz (by rfl) ?_;dsimp only));refine qay ?hg (N:=2) ?hd (cs:=#[.int .i64 a0_0,.int .i64 a0_1,.int .i64 a0_2,.int .i64 a0_3,.int .i64 a0_4,.slice A0_5 l0_5.length c0_5,.slice A0_6 l0_6.length c0_6]) (t:=52) ?hr ?_;(case hd=>rfl);(case hg=>rfl);(case hr=>first|(go_simp;done)|(go_simp;rfl));intro gb101 hg w4 hbox hb;have n0_:=qaf.mk (qal (by repeat (first|(with_reducible first|exact HB.out|apply qae|apply qab|apply qad)|exact HB.out)) hb);have n1_:=qaf.mk (hbox);have n2_:=qaf.mk ((by rw [hg];exact (qam (by repeat (first|(with_reducible first|exact HB.out|apply qae|apply qab|apply qad)|exact HB.out))):w.heap.size≤gb101));have n3_:=qaf.mk ((by rw [hg];exact (qam (by repeat (first|(with_reducible first|exact HB.out|apply qae|apply qab|apply qad)|exact HB.out))):w.heap.size≤gb101));clear HB;have HB:=n0_;have BK101:=n1_;have GW101:=n2_;have GE101:=n3_;clear n0_ n1_ n2_ n3_;clear hb hbox hg)|((with_reducible refine qaD (N:=3) rfl ?_);(try (refine qaz (by rfl) ?_;dsimp only));refine qay ?hg (N:=3) ?hd (cs:=#[.int .i64 a1_0,.int .i64 a1_1,.int .i64 a1_2,.int .i64 a1_3,.int .i64 a1_4,.slice A1_5 l1_5.length c1_5,.slice A1_6 l1_6.length c1_6]) (t:=52) ?hr ?_;(case hd=>rfl);(case hg=>rfl);(case hr=>first|(go_simp;done)|(go_simp;rfl));intro gb102 hg w5 hbox hb;have n0_:=qaf.mk (qas (g:=gb101) (o:=.cells #[.int .i64 a0_0,.int .i64 a0_1,.int .i64 a0_2,.int .i64 a0_3,.int .i64 a0_4,.slice A0_5 l0_5.length c0_5,.slice A0_6 l0_6.length c0_6] 52 (0,0)) (by (with_reducible repeat (first|refine qah ?_ _|refine qaj ?_|refine qai ?_ _));exact BK101.out) hb);have n1_:=qaf.mk (qal (by repeat (first|(with_reducible first|exact HB.out|apply qae|apply qab|apply qad|refine qag ?_ GE101.out)|exact HB.out)) hb);have n2_:=qaf.mk (hbox);have n3_:=qaf.mk ((by rw [hg];exact (qam (by repeat (first|(with_reducible first|exact HB.out|apply qae|apply qab|apply qad|refine qag ?_ GE101.out)|exact HB.out))):w.heap.size≤gb102));have n4_:=qaf.mk ((by rw [hg];exact (qam (by repeat (first|(with_reducible first|exact HB.out|apply qae|apply qab|apply qad|refine qag ?_ GE101.out)|exact HB.out))):w.heap.size≤gb102));have n5_:=qaf.mk ((by rw [hg];exact Nat.ne_of_lt (qaQ (g:=gb101) (o:=.cells #[.int .i64 a0_0,.int .i64 a0_1,.int .i64 a0_2,.int .i64 a0_3,.int .i64 a0_4,.slice A0_5 l0_5.length c0_5,.slice A0_6 l0_6.length c0_6] 52 (0,0)) (by (with_reducible repeat (first|refine qah ?_ _|refine qaj ?_|refine qai ?_ _));exact BK101.out)):gb101≠gb102));have n6_:=qaf.mk ((by rw [hg];exact Nat.ne_of_gt (qaQ (g:=gb101) (o:=.cells #[.int .i64 a0_0,.int .i64 a0_1,.int .i64 a0_2,.int .i64 a0_3,.int .i64 a0_4,.slice A0_5 l0_5.length c0_5,.slice A0_6 l0_6.length c0_6] 52 (0,0)) (by (with_reducible repeat (first|refine qah ?_ _|refine qaj ?_|refine qai ?_ _));exact BK101.out)):gb102≠gb101));clear BK101;clear HB;have BK101:=n0_;have HB:=n1_;have BK102:=n2_;have GW102:=n3_;have GE102:=n4_;have NB101_102:=n5_;have NB102_101:=n6_;clear n0_ n1_ n2_ n3_ n4_ n5_ n6_;clear hb hbox hg)))
 (try simp only [Act.put,List.setIfInBounds_toArray,List.set_cons_zero,List.set_cons_succ])
 go_cut [57] (fun v57 wc=>∃ (kq:Nat) (x57_2:Bool),v57=.bool x57_2∧qaf (ostinatoref05_SameTask.j0 kq x57_2 a0_0 a0_1 a0_2 a0_3 a0_4 l0_5 l0_6 a1_0 a1_1 a1_2 a1_3 a1_4 l1_5 l1_6=some r)∧qaf (kq≤k)∧qaf (wc.heap[gb101]? = some (.cells #[.int .i64 a0_0,.int .i64 a0_1,.int .i64 a0_2,.int .i64 a0_3,.int .i64 a0_4,(.slice A0_5 l0_5.length c0_5),(.slice A0_6 l0_6.length c0_6)] 52 (0,0)))∧qaf (wc.heap[gb102]? = some (.cells #[.int .i64 a1_0,.int .i64 a1_1,.int .i64 a1_2,.int .i64 a1_3,.int .i64 a1_4,(.slice A1_5 l1_5.length c1_5),(.slice A1_6 l1_6.length c1_6)] 52 (0,0)))∧qaf (Below w.heap.size w wc))
 case first=>
  have H:=HC3.out
  clear HC3
  by_cases c6:a0_0=a1_0
  ·rw [if_pos c6] at H
   have c6b0:(a0_0 == a1_0)=true:=beq_iff_eq.mpr c6
   have c6b1:(a0_0 != a1_0)=false:=bne_eq_false_iff_eq.mpr c6
   clear c6
   (first|rw [c6b0]|(simp only [qav,qaw];rw [c6b0])|skip)
   by_cases c7:a0_1=a1_1
   ·rw [if_pos c7] at H
    have c7b0:(a0_1 == a1_1)=true:=beq_iff_eq.mpr c7
    have c7b1:(a0_1 != a1_1)=false:=bne_eq_false_iff_eq.mpr c7
    clear c7
    by_cases c8:a0_2=a1_2
    ·rw [if_pos c8] at H
     have c8b0:(a0_2 == a1_2)=true:=beq_iff_eq.mpr c8
     have c8b1:(a0_2 != a1_2)=false:=bne_eq_false_iff_eq.mpr c8
     clear c8
     by_cases c9:a0_3=a1_3
     ·rw [if_pos c9] at H
      have c9b0:(a0_3 == a1_3)=true:=beq_iff_eq.mpr c9
      have c9b1:(a0_3 != a1_3)=false:=bne_eq_false_iff_eq.mpr c9
      clear c9
      by_cases c10:a0_4=a1_4
      ·rw [if_pos c10] at H
       have c10b0:(a0_4 == a1_4)=true:=beq_iff_eq.mpr c10
       have c10b1:(a0_4 != a1_4)=false:=bne_eq_false_iff_eq.mpr c10
       clear c10
       by_cases c11:(l0_5.length:Int)=(l1_5.length:Int)
       ·rw [if_pos c11] at H
        have c11b0:((l0_5.length:Int) == (l1_5.length:Int))=true:=beq_iff_eq.mpr c11
        have c11b1:((l0_5.length:Int) != (l1_5.length:Int))=false:=bne_eq_false_iff_eq.mpr c11
        have c11b2:(l0_5.length == l1_5.length)=true:=by first|simpa using c11|(simp at c11 ⊢;omega)
        clear c11
        have H':=qaf.mk H
        clear H
        have hnb12:=NB101_102.out
        have hnc12:=NB102_101.out
        have hcz13_0:w5.cell? ⟨gb101,0,none⟩=some (.int .i64 a0_0):=(qac BK101.out 0).trans rfl
        have hcz13_1:w5.cell? ⟨gb101,1,none⟩=some (.int .i64 a0_1):=(qac BK101.out 1).trans rfl
        have hcz13_2:w5.cell? ⟨gb101,2,none⟩=some (.int .i64 a0_2):=(qac BK101.out 2).trans rfl
        have hcz13_3:w5.cell? ⟨gb101,3,none⟩=some (.int .i64 a0_3):=(qac BK101.out 3).trans rfl
        have hcz13_4:w5.cell? ⟨gb101,4,none⟩=some (.int .i64 a0_4):=(qac BK101.out 4).trans rfl
        have hcz13_5:w5.cell? ⟨gb101,5,none⟩=some (.slice A0_5 l0_5.length c0_5):=(qac BK101.out 5).trans rfl
        have hcz13_6:w5.cell? ⟨gb101,6,none⟩=some (.slice A0_6 l0_6.length c0_6):=(qac BK101.out 6).trans rfl
        have hfz13_0:=qaa BK101.out 0
        have hfz13_1:=qaa BK101.out 1
        have hfz13_2:=qaa BK101.out 2
        have hfz13_3:=qaa BK101.out 3
        have hfz13_4:=qaa BK101.out 4
        have hfz13_5:=qaa BK101.out 5
        have hfz13_6:=qaa BK101.out 6
        have hcz14_0:w5.cell? ⟨gb102,0,none⟩=some (.int .i64 a1_0):=(qac BK102.out 0).trans rfl
        have hcz14_1:w5.cell? ⟨gb102,1,none⟩=some (.int .i64 a1_1):=(qac BK102.out 1).trans rfl
        have hcz14_2:w5.cell? ⟨gb102,2,none⟩=some (.int .i64 a1_2):=(qac BK102.out 2).trans rfl
        have hcz14_3:w5.cell? ⟨gb102,3,none⟩=some (.int .i64 a1_3):=(qac BK102.out 3).trans rfl
        have hcz14_4:w5.cell? ⟨gb102,4,none⟩=some (.int .i64 a1_4):=(qac BK102.out 4).trans rfl
        have hcz14_5:w5.cell? ⟨gb102,5,none⟩=some (.slice A1_5 l1_5.length c1_5):=(qac BK102.out 5).trans rfl
        have hcz14_6:w5.cell? ⟨gb102,6,none⟩=some (.slice A1_6 l1_6.length c1_6):=(qac BK102.out 6).trans rfl
        have hfz14_0:=qaa BK102.out 0
        have hfz14_1:=qaa BK102.out 1
        have hfz14_2:=qaa BK102.out 2
        have hfz14_3:=qaa BK102.out 3
        have hfz14_4:=qaa BK102.out 4
        have hfz14_5:=qaa BK102.out 5
        have hfz14_6:=qaa BK102.out 6
        go_wp2
        repeat (go_quiet (fail);try go_wp2)
        go_meet
        case rel=>exact⟨_,(((l0_6.length:Int) != (l1_6.length:Int))),(by first|rfl|(simp;done)|(simp [*];done)),H',⟨by first|omega|exact Nat.le_refl _⟩,⟨by (with_reducible repeat (first|refine qah ?_ _|refine qaj ?_|refine qai ?_ _));exact BK101.out⟩,⟨by (with_reducible repeat (first|refine qah ?_ _|refine qaj ?_|refine qai ?_ _));exact BK102.out⟩,⟨by repeat (first|(with_reducible first|exact HB.out|apply qae|apply qab|apply qad|refine qag ?_ GE101.out|refine qag ?_ GE102.out)|exact HB.out)⟩⟩
       ·rw [if_neg c11] at H
        have c11b0:((l0_5.length:Int) == (l1_5.length:Int))=false:=beq_eq_false_iff_ne.mpr c11
        have c11b1:((l0_5.length:Int) != (l1_5.length:Int))=true:=bne_iff_ne.mpr c11
        have c11b2:(l0_5.length == l1_5.length)=false:=by first|simpa using c11|(simp at c11 ⊢;omega)
        have H':=qaf.mk H
        clear H
        have hnb15:=NB101_102.out
        have hnc15:=NB102_101.out
        have hcz16_0:w5.cell? ⟨gb101,0,none⟩=some (.int .i64 a0_0):=(qac BK101.out 0).trans rfl
        have hcz16_1:w5.cell? ⟨gb101,1,none⟩=some (.int .i64 a0_1):=(qac BK101.out 1).trans rfl
        have hcz16_2:w5.cell? ⟨gb101,2,none⟩=some (.int .i64 a0_2):=(qac BK101.out 2).trans rfl
        have hcz16_3:w5.cell? ⟨gb101,3,none⟩=some (.int .i64 a0_3):=(qac BK101.out 3).trans rfl
        have hcz16_4:w5.cell? ⟨gb101,4,none⟩=some (.int .i64 a0_4):=(qac BK101.out 4).trans rfl
        have hcz16_5:w5.cell? ⟨gb101,5,none⟩=some (.slice A0_5 l0_5.length c0_5):=(qac BK101.out 5).trans rfl
        have hcz16_6:w5.cell? ⟨gb101,6,none⟩=some (.slice A0_6 l0_6.length c0_6):=(qac BK101.out 6).trans rfl
        have hfz16_0:=qaa BK101.out 0
        have hfz16_1:=qaa BK101.out 1
        have hfz16_2:=qaa BK101.out 2
        have hfz16_3:=qaa BK101.out 3
        have hfz16_4:=qaa BK101.out 4
        have hfz16_5:=qaa BK101.out 5
        have hfz16_6:=qaa BK101.out 6
        have hcz17_0:w5.cell? ⟨gb102,0,none⟩=some (.int .i64 a1_0):=(qac BK102.out 0).trans rfl
        have hcz17_1:w5.cell? ⟨gb102,1,none⟩=some (.int .i64 a1_1):=(qac BK102.out 1).trans rfl
        have hcz17_2:w5.cell? ⟨gb102,2,none⟩=some (.int .i64 a1_2):=(qac BK102.out 2).trans rfl
        have hcz17_3:w5.cell? ⟨gb102,3,none⟩=some (.int .i64 a1_3):=(qac BK102.out 3).trans rfl
        have hcz17_4:w5.cell? ⟨gb102,4,none⟩=some (.int .i64 a1_4):=(qac BK102.out 4).trans rfl
        have hcz17_5:w5.cell? ⟨gb102,5,none⟩=some (.slice A1_5 l1_5.length c1_5):=(qac BK102.out 5).trans rfl
        have hcz17_6:w5.cell? ⟨gb102,6,none⟩=some (.slice A1_6 l1_6.length c1_6):=(qac BK102.out 6).trans rfl
        have hfz17_0:=qaa BK102.out 0
        have hfz17_1:=qaa BK102.out 1
        have hfz17_2:=qaa BK102.out 2
        have hfz17_3:=qaa BK102.out 3
        have hfz17_4:=qaa BK102.out 4
        have hfz17_5:=qaa BK102.out 5
        have hfz17_6:=qaa BK102.out 6
        go_wp2
        repeat (go_quiet (fail);try go_wp2)
        go_meet
        case rel=>exact⟨_,(true),(by first|rfl|(simp;done)|(simp [*];done)),H',⟨by first|omega|exact Nat.le_refl _⟩,⟨by (with_reducible repeat (first|refine qah ?_ _|refine qaj ?_|refine qai ?_ _));exact BK101.out⟩,⟨by (with_reducible repeat (first|refine qah ?_ _|refine qaj ?_|refine qai ?_ _));exact BK102.out⟩,⟨by repeat (first|(with_reducible first|exact HB.out|apply qae|apply qab|apply qad|refine qag ?_ GE101.out|refine qag ?_ GE102.out)|exact HB.out)⟩⟩
      ·rw [if_neg c10] at H
       have c10b0:(a0_4 == a1_4)=false:=beq_eq_false_iff_ne.mpr c10
       have c10b1:(a0_4 != a1_4)=true:=bne_iff_ne.mpr c10
       have H':=qaf.mk H
       clear H
       have hnb18:=NB101_102.out
       have hnc18:=NB102_101.out
       have hcz19_0:w5.cell? ⟨gb101,0,none⟩=some (.int .i64 a0_0):=(qac BK101.out 0).trans rfl
       have hcz19_1:w5.cell? ⟨gb101,1,none⟩=some (.int .i64 a0_1):=(qac BK101.out 1).trans rfl
       have hcz19_2:w5.cell? ⟨gb101,2,none⟩=some (.int .i64 a0_2):=(qac BK101.out 2).trans rfl
       have hcz19_3:w5.cell? ⟨gb101,3,none⟩=some (.int .i64 a0_3):=(qac BK101.out 3).trans rfl
       have hcz19_4:w5.cell? ⟨gb101,4,none⟩=some (.int .i64 a0_4):=(qac BK101.out 4).trans rfl
       have hcz19_5:w5.cell? ⟨gb101,5,none⟩=some (.slice A0_5 l0_5.length c0_5):=(qac BK101.out 5).trans rfl
       have hcz19_6:w5.cell? ⟨gb101,6,none⟩=some (.slice A0_6 l0_6.length c0_6):=(qac BK101.out 6).trans rfl
       have hfz19_0:=qaa BK101.out 0
       have hfz19_1:=qaa BK101.out 1
       have hfz19_2:=qaa BK101.out 2
       have hfz19_3:=qaa BK101.out 3
       have hfz19_4:=qaa BK101.out 4
       have hfz19_5:=qaa BK101.out 5
       have hfz19_6:=qaa BK101.out 6
       have hcz20_0:w5.cell? ⟨gb102,0,none⟩=some (.int .i64 a1_0):=(qac BK102.out 0).trans rfl
       have hcz20_1:w5.cell? ⟨gb102,1,none⟩=some (.int .i64 a1_1):=(qac BK102.out 1).trans rfl
       have hcz20_2:w5.cell? ⟨gb102,2,none⟩=some (.int .i64 a1_2):=(qac BK102.out 2).trans rfl
       have hcz20_3:w5.cell? ⟨gb102,3,none⟩=some (.int .i64 a1_3):=(qac BK102.out 3).trans rfl
       have hcz20_4:w5.cell? ⟨gb102,4,none⟩=some (.int .i64 a1_4):=(qac BK102.out 4).trans rfl
       have hcz20_5:w5.cell? ⟨gb102,5,none⟩=some (.slice A1_5 l1_5.length c1_5):=(qac BK102.out 5).trans rfl
       have hcz20_6:w5.cell? ⟨gb102,6,none⟩=some (.slice A1_6 l1_6.length c1_6):=(qac BK102.out 6).trans rfl
       have hfz20_0:=qaa BK102.out 0
       have hfz20_1:=qaa BK102.out 1
       have hfz20_2:=qaa BK102.out 2
       have hfz20_3:=qaa BK102.out 3
       have hfz20_4:=qaa BK102.out 4
       have hfz20_5:=qaa BK102.out 5
       have hfz20_6:=qaa BK102.out 6
       go_wp2
       repeat (go_quiet (fail);try go_wp2)
       go_meet
       case rel=>exact⟨_,(true),(by first|rfl|(simp;done)|(simp [*];done)),H',⟨by first|omega|exact Nat.le_refl _⟩,⟨by (with_reducible repeat (first|refine qah ?_ _|refine qaj ?_|refine qai ?_ _));exact BK101.out⟩,⟨by (with_reducible repeat (first|refine qah ?_ _|refine qaj ?_|refine qai ?_ _));exact BK102.out⟩,⟨by repeat (first|(with_reducible first|exact HB.out|apply qae|apply qab|apply qad|refine qag ?_ GE101.out|refine qag ?_ GE102.out)|exact HB.out)⟩⟩
     ·rw [if_neg c9] at H
      have c9b0:(a0_3 == a1_3)=false:=beq_eq_false_iff_ne.mpr c9
      have c9b1:(a0_3 != a1_3)=true:=bne_iff_ne.mpr c9
      have H':=qaf.mk H
      clear H
      have hnb21:=NB101_102.out
      have hnc21:=NB102_101.out
      have hcz22_0:w5.cell? ⟨gb101,0,none⟩=some (.int .i64 a0_0):=(qac BK101.out 0).trans rfl
      have hcz22_1:w5.cell? ⟨gb101,1,none⟩=some (.int .i64 a0_1):=(qac BK101.out 1).trans rfl
      have hcz22_2:w5.cell? ⟨gb101,2,none⟩=some (.int .i64 a0_2):=(qac BK101.out 2).trans rfl
      have hcz22_3:w5.cell? ⟨gb101,3,none⟩=some (.int .i64 a0_3):=(qac BK101.out 3).trans rfl
      have hcz22_4:w5.cell? ⟨gb101,4,none⟩=some (.int .i64 a0_4):=(qac BK101.out 4).trans rfl
      have hcz22_5:w5.cell? ⟨gb101,5,none⟩=some (.slice A0_5 l0_5.length c0_5):=(qac BK101.out 5).trans rfl
      have hcz22_6:w5.cell? ⟨gb101,6,none⟩=some (.slice A0_6 l0_6.length c0_6):=(qac BK101.out 6).trans rfl
      have hfz22_0:=qaa BK101.out 0
      have hfz22_1:=qaa BK101.out 1
      have hfz22_2:=qaa BK101.out 2
      have hfz22_3:=qaa BK101.out 3
      have hfz22_4:=qaa BK101.out 4
      have hfz22_5:=qaa BK101.out 5
      have hfz22_6:=qaa BK101.out 6
      have hcz23_0:w5.cell? ⟨gb102,0,none⟩=some (.int .i64 a1_0):=(qac BK102.out 0).trans rfl
      have hcz23_1:w5.cell? ⟨gb102,1,none⟩=some (.int .i64 a1_1):=(qac BK102.out 1).trans rfl
      have hcz23_2:w5.cell? ⟨gb102,2,none⟩=some (.int .i64 a1_2):=(qac BK102.out 2).trans rfl
      have hcz23_3:w5.cell? ⟨gb102,3,none⟩=some (.int .i64 a1_3):=(qac BK102.out 3).trans rfl
      have hcz23_4:w5.cell? ⟨gb102,4,none⟩=some (.int .i64 a1_4):=(qac BK102.out 4).trans rfl
      have hcz23_5:w5.cell? ⟨gb102,5,none⟩=some (.slice A1_5 l1_5.length c1_5):=(qac BK102.out 5).trans rfl
      have hcz23_6:w5.cell? ⟨gb102,6,none⟩=some (.slice A1_6 l1_6.length c1_6):=(qac BK102.out 6).trans rfl
      have hfz23_0:=qaa BK102.out 0
      have hfz23_1:=qaa BK102.out 1
      have hfz23_2:=qaa BK102.out 2
      have hfz23_3:=qaa BK102.out 3
      have hfz23_4:=qaa BK102.out 4
      have hfz23_5:=qaa BK102.out 5
      have hfz23_6:=qaa BK102.out 6
      go_wp2
      repeat (go_quiet (fail);try go_wp2)
      go_meet
      case rel=>exact⟨_,(true),(by first|rfl|(simp;done)|(simp [*];done)),H',⟨by first|omega|exact Nat.le_refl _⟩,⟨by (with_reducible repeat (first|refine qah ?_ _|refine qaj ?_|refine qai ?_ _));exact BK101.out⟩,⟨by (with_reducible repeat (first|refine qah ?_ _|refine qaj ?_|refine qai ?_ _));exact BK102.out⟩,⟨by repeat (first|(with_reducible first|exact HB.out|apply qae|apply qab|apply qad|refine qag ?_ GE101.out|refine qag ?_ GE102.out)|exact HB.out)⟩⟩
    ·rw [if_neg c8] at H
     have c8b0:(a0_2 == a1_2)=false:=beq_eq_false_iff_ne.mpr c8
     have c8b1:(a0_2 != a1_2)=true:=bne_iff_ne.mpr c8
     have H':=qaf.mk H
     clear H
     have hnb24:=NB101_102.out
     have hnc24:=NB102_101.out
     have hcz25_0:w5.cell? ⟨gb101,0,none⟩=some (.int .i64 a0_0):=(qac BK101.out 0).trans rfl
     have hcz25_1:w5.cell? ⟨gb101,1,none⟩=some (.int .i64 a0_1):=(qac BK101.out 1).trans rfl
     have hcz25_2:w5.cell? ⟨gb101,2,none⟩=some (.int .i64 a0_2):=(qac BK101.out 2).trans rfl
     have hcz25_3:w5.cell? ⟨gb101,3,none⟩=some (.int .i64 a0_3):=(qac BK101.out 3).trans rfl
     have hcz25_4:w5.cell? ⟨gb101,4,none⟩=some (.int .i64 a0_4):=(qac BK101.out 4).trans rfl
     have hcz25_5:w5.cell? ⟨gb101,5,none⟩=some (.slice A0_5 l0_5.length c0_5):=(qac BK101.out 5).trans rfl
     have hcz25_6:w5.cell? ⟨gb101,6,none⟩=some (.slice A0_6 l0_6.length c0_6):=(qac BK101.out 6).trans rfl
     have hfz25_0:=qaa BK101.out 0
     have hfz25_1:=qaa BK101.out 1
     have hfz25_2:=qaa BK101.out 2
     have hfz25_3:=qaa BK101.out 3
     have hfz25_4:=qaa BK101.out 4
     have hfz25_5:=qaa BK101.out 5
     have hfz25_6:=qaa BK101.out 6
     have hcz26_0:w5.cell? ⟨gb102,0,none⟩=some (.int .i64 a1_0):=(qac BK102.out 0).trans rfl
     have hcz26_1:w5.cell? ⟨gb102,1,none⟩=some (.int .i64 a1_1):=(qac BK102.out 1).trans rfl
     have hcz26_2:w5.cell? ⟨gb102,2,none⟩=some (.int .i64 a1_2):=(qac BK102.out 2).trans rfl
     have hcz26_3:w5.cell? ⟨gb102,3,none⟩=some (.int .i64 a1_3):=(qac BK102.out 3).trans rfl
     have hcz26_4:w5.cell? ⟨gb102,4,none⟩=some (.int .i64 a1_4):=(qac BK102.out 4).trans rfl
     have hcz26_5:w5.cell? ⟨gb102,5,none⟩=some (.slice A1_5 l1_5.length c1_5):=(qac BK102.out 5).trans rfl
     have hcz26_6:w5.cell? ⟨gb102,6,none⟩=some (.slice A1_6 l1_6.length c1_6):=(qac BK102.out 6).trans rfl
     have hfz26_0:=qaa BK102.out 0
     have hfz26_1:=qaa BK102.out 1
     have hfz26_2:=qaa BK102.out 2
     have hfz26_3:=qaa BK102.out 3
     have hfz26_4:=qaa BK102.out 4
     have hfz26_5:=qaa BK102.out 5
     have hfz26_6:=qaa BK102.out 6
     go_wp2
     repeat (go_quiet (fail);try go_wp2)
     go_meet
     case rel=>exact⟨_,(true),(by first|rfl|(simp;done)|(simp [*];done)),H',⟨by first|omega|exact Nat.le_refl _⟩,⟨by (with_reducible repeat (first|refine qah ?_ _|refine qaj ?_|refine qai ?_ _));exact BK101.out⟩,⟨by (with_reducible repeat (first|refine qah ?_ _|refine qaj ?_|refine qai ?_ _));exact BK102.out⟩,⟨by repeat (first|(with_reducible first|exact HB.out|apply qae|apply qab|apply qad|refine qag ?_ GE101.out|refine qag ?_ GE102.out)|exact HB.out)⟩⟩
   ·rw [if_neg c7] at H
    have c7b0:(a0_1 == a1_1)=false:=beq_eq_false_iff_ne.mpr c7
    have c7b1:(a0_1 != a1_1)=true:=bne_iff_ne.mpr c7
    have H':=qaf.mk H
    clear H
    have hnb27:=NB101_102.out
    have hnc27:=NB102_101.out
    have hcz28_0:w5.cell? ⟨gb101,0,none⟩=some (.int .i64 a0_0):=(qac BK101.out 0).trans rfl
    have hcz28_1:w5.cell? ⟨gb101,1,none⟩=some (.int .i64 a0_1):=(qac BK101.out 1).trans rfl
    have hcz28_2:w5.cell? ⟨gb101,2,none⟩=some (.int .i64 a0_2):=(qac BK101.out 2).trans rfl
    have hcz28_3:w5.cell? ⟨gb101,3,none⟩=some (.int .i64 a0_3):=(qac BK101.out 3).trans rfl
    have hcz28_4:w5.cell? ⟨gb101,4,none⟩=some (.int .i64 a0_4):=(qac BK101.out 4).trans rfl
    have hcz28_5:w5.cell? ⟨gb101,5,none⟩=some (.slice A0_5 l0_5.length c0_5):=(qac BK101.out 5).trans rfl
    have hcz28_6:w5.cell? ⟨gb101,6,none⟩=some (.slice A0_6 l0_6.length c0_6):=(qac BK101.out 6).trans rfl
    have hfz28_0:=qaa BK101.out 0
    have hfz28_1:=qaa BK101.out 1
    have hfz28_2:=qaa BK101.out 2
    have hfz28_3:=qaa BK101.out 3
    have hfz28_4:=qaa BK101.out 4
    have hfz28_5:=qaa BK101.out 5
    have hfz28_6:=qaa BK101.out 6
    have hcz29_0:w5.cell? ⟨gb102,0,none⟩=some (.int .i64 a1_0):=(qac BK102.out 0).trans rfl
    have hcz29_1:w5.cell? ⟨gb102,1,none⟩=some (.int .i64 a1_1):=(qac BK102.out 1).trans rfl
    have hcz29_2:w5.cell? ⟨gb102,2,none⟩=some (.int .i64 a1_2):=(qac BK102.out 2).trans rfl
    have hcz29_3:w5.cell? ⟨gb102,3,none⟩=some (.int .i64 a1_3):=(qac BK102.out 3).trans rfl
    have hcz29_4:w5.cell? ⟨gb102,4,none⟩=some (.int .i64 a1_4):=(qac BK102.out 4).trans rfl
    have hcz29_5:w5.cell? ⟨gb102,5,none⟩=some (.slice A1_5 l1_5.length c1_5):=(qac BK102.out 5).trans rfl
    have hcz29_6:w5.cell? ⟨gb102,6,none⟩=some (.slice A1_6 l1_6.length c1_6):=(qac BK102.out 6).trans rfl
    have hfz29_0:=qaa BK102.out 0
    have hfz29_1:=qaa BK102.out 1
    have hfz29_2:=qaa BK102.out 2
    have hfz29_3:=qaa BK102.out 3
    have hfz29_4:=qaa BK102.out 4
    have hfz29_5:=qaa BK102.out 5
    have hfz29_6:=qaa BK102.out 6
    go_wp2
    repeat (go_quiet (fail);try go_wp2)
    go_meet
    case rel=>exact⟨_,(true),(by first|rfl|(simp;done)|(simp [*];done)),H',⟨by first|omega|exact Nat.le_refl _⟩,⟨by (with_reducible repeat (first|refine qah ?_ _|refine qaj ?_|refine qai ?_ _));exact BK101.out⟩,⟨by (with_reducible repeat (first|refine qah ?_ _|refine qaj ?_|refine qai ?_ _));exact BK102.out⟩,⟨by repeat (first|(with_reducible first|exact HB.out|apply qae|apply qab|apply qad|refine qag ?_ GE101.out|refine qag ?_ GE102.out)|exact HB.out)⟩⟩
  ·rw [if_neg c6] at H
   have c6b0:(a0_0 == a1_0)=false:=beq_eq_false_iff_ne.mpr c6
   have c6b1:(a0_0 != a1_0)=true:=bne_iff_ne.mpr c6
   (first|rw [c6b0]|(simp only [qav,qaw];rw [c6b0])|skip)
   have H':=qaf.mk H
   clear H
   have hnb30:=NB101_102.out
   have hnc30:=NB102_101.out
   have hcz31_0:w5.cell? ⟨gb101,0,none⟩=some (.int .i64 a0_0):=(qac BK101.out 0).trans rfl
   have hcz31_1:w5.cell? ⟨gb101,1,none⟩=some (.int .i64 a0_1):=(qac BK101.out 1).trans rfl
   have hcz31_2:w5.cell? ⟨gb101,2,none⟩=some (.int .i64 a0_2):=(qac BK101.out 2).trans rfl
   have hcz31_3:w5.cell? ⟨gb101,3,none⟩=some (.int .i64 a0_3):=(qac BK101.out 3).trans rfl
   have hcz31_4:w5.cell? ⟨gb101,4,none⟩=some (.int .i64 a0_4):=(qac BK101.out 4).trans rfl
   have hcz31_5:w5.cell? ⟨gb101,5,none⟩=some (.slice A0_5 l0_5.length c0_5):=(qac BK101.out 5).trans rfl
   have hcz31_6:w5.cell? ⟨gb101,6,none⟩=some (.slice A0_6 l0_6.length c0_6):=(qac BK101.out 6).trans rfl
   have hfz31_0:=qaa BK101.out 0
   have hfz31_1:=qaa BK101.out 1
   have hfz31_2:=qaa BK101.out 2
   have hfz31_3:=qaa BK101.out 3
   have hfz31_4:=qaa BK101.out 4
   have hfz31_5:=qaa BK101.out 5
   have hfz31_6:=qaa BK101.out 6
   have hcz32_0:w5.cell? ⟨gb102,0,none⟩=some (.int .i64 a1_0):=(qac BK102.out 0).trans rfl
   have hcz32_1:w5.cell? ⟨gb102,1,none⟩=some (.int .i64 a1_1):=(qac BK102.out 1).trans rfl
   have hcz32_2:w5.cell? ⟨gb102,2,none⟩=some (.int .i64 a1_2):=(qac BK102.out 2).trans rfl
   have hcz32_3:w5.cell? ⟨gb102,3,none⟩=some (.int .i64 a1_3):=(qac BK102.out 3).trans rfl
   have hcz32_4:w5.cell? ⟨gb102,4,none⟩=some (.int .i64 a1_4):=(qac BK102.out 4).trans rfl
   have hcz32_5:w5.cell? ⟨gb102,5,none⟩=some (.slice A1_5 l1_5.length c1_5):=(qac BK102.out 5).trans rfl
   have hcz32_6:w5.cell? ⟨gb102,6,none⟩=some (.slice A1_6 l1_6.length c1_6):=(qac BK102.out 6).trans rfl
   have hfz32_0:=qaa BK102.out 0
   have hfz32_1:=qaa BK102.out 1
   have hfz32_2:=qaa BK102.out 2
   have hfz32_3:=qaa BK102.out 3
   have hfz32_4:=qaa BK102.out 4
   have hfz32_5:=qaa BK102.out 5
   have hfz32_6:=qaa BK102.out 6
   go_wp2
   repeat (go_quiet (fail);try go_wp2)
   go_meet
   case rel=>exact⟨_,(true),(by first|rfl|(simp;done)|(simp [*];done)),H',⟨by first|omega|exact Nat.le_refl _⟩,⟨by (with_reducible repeat (first|refine qah ?_ _|refine qaj ?_|refine qai ?_ _));exact BK101.out⟩,⟨by (with_reducible repeat (first|refine qah ?_ _|refine qaj ?_|refine qai ?_ _));exact BK102.out⟩,⟨by repeat (first|(with_reducible first|exact HB.out|apply qae|apply qab|apply qad|refine qag ?_ GE101.out|refine qag ?_ GE102.out)|exact HB.out)⟩⟩
 case rest=>
  clear HC3
  try clear c1
  try clear c2
  try clear p2
  try clear c3
  try clear c5
  try clear c6
  try clear c6b0
  try clear c6b1
  try clear c7
  try clear c7b0
  try clear c7b1
  try clear c8
  try clear c8b0
  try clear c8b1
  try clear c9
  try clear c9b0
  try clear c9b1
  try clear c10
  try clear c10b0
  try clear c10b1
  try clear c11
  try clear c11b0
  try clear c11b1
  try clear c11b2
  try clear c12
  try clear c15
  try clear c18
  try clear c21
  try clear c24
  try clear c27
  try clear c30
  try clear hcz13_0
  try clear hcz13_1
  try clear hcz13_2
  try clear hcz13_3
  try clear hcz13_4
  try clear hcz13_5
  try clear hcz13_6
  try clear hcz14_0
  try clear hcz14_1
  try clear hcz14_2
  try clear hcz14_3
  try clear hcz14_4
  try clear hcz14_5
  try clear hcz14_6
  try clear hcz16_0
  try clear hcz16_1
  try clear hcz16_2
  try clear hcz16_3
  try clear hcz16_4
  try clear hcz16_5
  try clear hcz16_6
  try clear hcz17_0
  try clear hcz17_1
  try clear hcz17_2
  try clear hcz17_3
  try clear hcz17_4
  try clear hcz17_5
  try clear hcz17_6
  try clear hcz19_0
  try clear hcz19_1
  try clear hcz19_2
  try clear hcz19_3
  try clear hcz19_4
  try clear hcz19_5
  try clear hcz19_6
  try clear hcz20_0
  try clear hcz20_1
  try clear hcz20_2
  try clear hcz20_3
  try clear hcz20_4
  try clear hcz20_5
  try clear hcz20_6
  try clear hcz22_0
  try clear hcz22_1
  try clear hcz22_2
  try clear hcz22_3
  try clear hcz22_4
  try clear hcz22_5
  try clear hcz22_6
  try clear hcz23_0
  try clear hcz23_1
  try clear hcz23_2
  try clear hcz23_3
  try clear hcz23_4
  try clear hcz23_5
  try clear hcz23_6
  try clear hcz25_0
  try clear hcz25_1
  try clear hcz25_2
  try clear hcz25_3
  try clear hcz25_4
  try clear hcz25_5
  try clear hcz25_6
  try clear hcz26_0
  try clear hcz26_1
  try clear hcz26_2
  try clear hcz26_3
  try clear hcz26_4
  try clear hcz26_5
  try clear hcz26_6
  try clear hcz28_0
  try clear hcz28_1
  try clear hcz28_2
  try clear hcz28_3
  try clear hcz28_4
  try clear hcz28_5
  try clear hcz28_6
  try clear hcz29_0
  try clear hcz29_1
  try clear hcz29_2
  try clear hcz29_3
  try clear hcz29_4
  try clear hcz29_5
  try clear hcz29_6
  try clear hcz31_0
  try clear hcz31_1
  try clear hcz31_2
  try clear hcz31_3
  try clear hcz31_4
  try clear hcz31_5
  try clear hcz31_6
  try clear hcz32_0
  try clear hcz32_1
  try clear hcz32_2
  try clear hcz32_3
  try clear hcz32_4
  try clear hcz32_5
  try clear hcz32_6
  try clear hfz13_0
  try clear hfz13_1
  try clear hfz13_2
  try clear hfz13_3
  try clear hfz13_4
  try clear hfz13_5
  try clear hfz13_6
  try clear hfz14_0
  try clear hfz14_1
  try clear hfz14_2
  try clear hfz14_3
  try clear hfz14_4
  try clear hfz14_5
  try clear hfz14_6
  try clear hfz16_0
  try clear hfz16_1
  try clear hfz16_2
  try clear hfz16_3
  try clear hfz16_4
  try clear hfz16_5
  try clear hfz16_6
  try clear hfz17_0
  try clear hfz17_1
  try clear hfz17_2
  try clear hfz17_3
  try clear hfz17_4
  try clear hfz17_5
  try clear hfz17_6
  try clear hfz19_0
  try clear hfz19_1
  try clear hfz19_2
  try clear hfz19_3
  try clear hfz19_4
  try clear hfz19_5
  try clear hfz19_6
  try clear hfz20_0
  try clear hfz20_1
  try clear hfz20_2
  try clear hfz20_3
  try clear hfz20_4
  try clear hfz20_5
  try clear hfz20_6
  try clear hfz22_0
  try clear hfz22_1
  try clear hfz22_2
  try clear hfz22_3
  try clear hfz22_4
  try clear hfz22_5
  try clear hfz22_6
  try clear hfz23_0
  try clear hfz23_1
  try clear hfz23_2
  try clear hfz23_3
  try clear hfz23_4
  try clear hfz23_5
  try clear hfz23_6
  try clear hfz25_0
  try clear hfz25_1
  try clear hfz25_2
  try clear hfz25_3
  try clear hfz25_4
  try clear hfz25_5
  try clear hfz25_6
  try clear hfz26_0
  try clear hfz26_1
  try clear hfz26_2
  try clear hfz26_3
  try clear hfz26_4
  try clear hfz26_5
  try clear hfz26_6
  try clear hfz28_0
  try clear hfz28_1
  try clear hfz28_2
  try clear hfz28_3
  try clear hfz28_4
  try clear hfz28_5
  try clear hfz28_6
  try clear hfz29_0
  try clear hfz29_1
  try clear hfz29_2
  try clear hfz29_3
  try clear hfz29_4
  try clear hfz29_5
  try clear hfz29_6
  try clear hfz31_0
  try clear hfz31_1
  try clear hfz31_2
  try clear hfz31_3
  try clear hfz31_4
  try clear hfz31_5
  try clear hfz31_6
  try clear hfz32_0
  try clear hfz32_1
  try clear hfz32_2
  try clear hfz32_3
  try clear hfz32_4
  try clear hfz32_5
  try clear hfz32_6
  obtain⟨kq,x57_2,rfl,HA,HJ2,BK101,BK102,HB⟩:=hcut
  cases kq with
  |zero=>exact absurd HA.out (by simp [ostinatoref05_SameTask.j0])
  |succ kj2=>
   have H:=HA.out
   clear HA
   simp only [ostinatoref05_SameTask.j0] at H
   by_cases c33:x57_2=true
   ·subst c33
    have H1:(some false)=some r:=by rw [if_pos rfl] at H;exact H
    clear H
    have H:=H1
    clear H1
    obtain rfl:=Option.some.inj H
    go_wp2
    repeat (go_quiet (fail);try go_wp2)
    go_ret
    exact⟨by first|rfl|(simp [qao,qan]<;>rfl)|(simp [bneNil,bneNilU]<;>rfl)|(simp [*,qao,qan]<;>rfl),by repeat (first|(with_reducible first|exact HB.out|apply qae|apply qab|apply qad|refine qag ?_ GE101.out|refine qag ?_ GE102.out)|exact HB.out)⟩
   ·replace c33:=Bool.eq_false_iff.mpr c33
    subst c33
    have H1:(ostinatoref05_SameTask.l0 kj2 0 a0_0 a0_1 a0_2 a0_3 a0_4 l0_5 l0_6 a1_0 a1_1 a1_2 a1_3 a1_4 l1_5 l1_6)=some r:=by rw [if_neg (show ¬ (false=true) by decide)] at H;exact H
    clear H
    have H:=H1
    clear H1
    have H':=qaf.mk H
    clear H
    go_wp2
    repeat (go_quiet (fail);try go_wp2)
    go_loopg [5] kj2 (fun kq v5 w'=>∃ (x5_2:Int),v5=.int .i64 x5_2∧qaf (ostinatoref05_SameTask.l0 kq x5_2 a0_0 a0_1 a0_2 a0_3 a0_4 l0_5 l0_6 a1_0 a1_1 a1_2 a1_3 a1_4 l1_5 l1_6=some r)∧qaf (kq≤kj2)∧qaf (w'.heap[gb101]? = some (.cells #[.int .i64 a0_0,.int .i64 a0_1,.int .i64 a0_2,.int .i64 a0_3,.int .i64 a0_4,(.slice A0_5 l0_5.length c0_5),(.slice A0_6 l0_6.length c0_6)] 52 (0,0)))∧qaf (w'.heap[gb102]? = some (.cells #[.int .i64 a1_0,.int .i64 a1_1,.int .i64 a1_2,.int .i64 a1_3,.int .i64 a1_4,(.slice A1_5 l1_5.length c1_5),(.slice A1_6 l1_6.length c1_6)] 52 (0,0)))∧qaf (Below w.heap.size w w'))
    case atStart=>exact⟨(0),(by first|rfl|(simp;done)|(simp [*];done)),H',⟨Nat.le_refl _⟩,⟨by (with_reducible repeat (first|refine qah ?_ _|refine qaj ?_|refine qai ?_ _));exact BK101.out⟩,⟨by (with_reducible repeat (first|refine qah ?_ _|refine qaj ?_|refine qai ?_ _));exact BK102.out⟩,⟨by repeat (first|(with_reducible first|exact HB.out|apply qae|apply qab|apply qad|refine qag ?_ GE101.out|refine qag ?_ GE102.out)|exact HB.out)⟩⟩
    case round=>
     clear H'
     try clear c1
     try clear c2
     try clear p2
     try clear c3
     try clear c5
     try clear c6
     try clear c6b0
     try clear c6b1
     try clear c7
     try clear c7b0
     try clear c7b1
     try clear c8
     try clear c8b0
     try clear c8b1
     try clear c9
     try clear c9b0
     try clear c9b1
     try clear c10
     try clear c10b0
     try clear c10b1
     try clear c11
     try clear c11b0
     try clear c11b1
     try clear c11b2
     try clear c12
     try clear c15
     try clear c18
     try clear c21
     try clear c24
     try clear c27
     try clear c30
     try clear c33
     try clear hcz13_0
     try clear hcz13_1
     try clear hcz13_2
     try clear hcz13_3
     try clear hcz13_4
     try clear hcz13_5
     try clear hcz13_6
     try clear hcz14_0
     try clear hcz14_1
     try clear hcz14_2
     try clear hcz14_3
     try clear hcz14_4
     try clear hcz14_5
     try clear hcz14_6
     try clear hcz16_0
     try clear hcz16_1
     try clear hcz16_2
     try clear hcz16_3
     try clear hcz16_4
     try clear hcz16_5
     try clear hcz16_6
     try clear hcz17_0
     try clear hcz17_1
     try clear hcz17_2
     try clear hcz17_3
     try clear hcz17_4
     try clear hcz17_5
     try clear hcz17_6
     try clear hcz19_0
     try clear hcz19_1
     try clear hcz19_2
     try clear hcz19_3
     try clear hcz19_4
     try clear hcz19_5
     try clear hcz19_6
     try clear hcz20_0
     try clear hcz20_1
     try clear hcz20_2
     try clear hcz20_3
     try clear hcz20_4
     try clear hcz20_5
     try clear hcz20_6
     try clear hcz22_0
     try clear hcz22_1
     try clear hcz22_2
     try clear hcz22_3
     try clear hcz22_4
     try clear hcz22_5
     try clear hcz22_6
     try clear hcz23_0
     try clear hcz23_1
     try clear hcz23_2
     try clear hcz23_3
     try clear hcz23_4
     try clear hcz23_5
     try clear hcz23_6
     try clear hcz25_0
     try clear hcz25_1
     try clear hcz25_2
     try clear hcz25_3
     try clear hcz25_4
     try clear hcz25_5
     try clear hcz25_6
     try clear hcz26_0
     try clear hcz26_1
     try clear hcz26_2
     try clear hcz26_3
     try clear hcz26_4
     try clear hcz26_5
     try clear hcz26_6
     try clear hcz28_0
     try clear hcz28_1
     try clear hcz28_2
     try clear hcz28_3
     try clear hcz28_4
     try clear hcz28_5
     try clear hcz28_6
     try clear hcz29_0
     try clear hcz29_1
     try clear hcz29_2
     try clear hcz29_3
     try clear hcz29_4
     try clear hcz29_5
     try clear hcz29_6
     try clear hcz31_0
     try clear hcz31_1
     try clear hcz31_2
     try clear hcz31_3
     try clear hcz31_4
     try clear hcz31_5
     try clear hcz31_6
     try clear hcz32_0
     try clear hcz32_1
     try clear hcz32_2
     try clear hcz32_3
     try clear hcz32_4
     try clear hcz32_5
     try clear hcz32_6
     try clear hfz13_0
     try clear hfz13_1
     try clear hfz13_2
     try clear hfz13_3
     try clear hfz13_4
     try clear hfz13_5
     try clear hfz13_6
     try clear hfz14_0
     try clear hfz14_1
     try clear hfz14_2
     try clear hfz14_3
     try clear hfz14_4
     try clear hfz14_5
     try clear hfz14_6
     try clear hfz16_0
     try clear hfz16_1
     try clear hfz16_2
     try clear hfz16_3
     try clear hfz16_4
     try clear hfz16_5
     try clear hfz16_6
     try clear hfz17_0
     try clear hfz17_1
     try clear hfz17_2
     try clear hfz17_3
     try clear hfz17_4
     try clear hfz17_5
     try clear hfz17_6
     try clear hfz19_0
     try clear hfz19_1
     try clear hfz19_2
     try clear hfz19_3
     try clear hfz19_4
     try clear hfz19_5
     try clear hfz19_6
     try clear hfz20_0
     try clear hfz20_1
     try clear hfz20_2
     try clear hfz20_3
     try clear hfz20_4
     try clear hfz20_5
     try clear hfz20_6
     try clear hfz22_0
     try clear hfz22_1
     try clear hfz22_2
     try clear hfz22_3
     try clear hfz22_4
     try clear hfz22_5
     try clear hfz22_6
     try clear hfz23_0
     try clear hfz23_1
     try clear hfz23_2
     try clear hfz23_3
     try clear hfz23_4
     try clear hfz23_5
     try clear hfz23_6
     try clear hfz25_0
     try clear hfz25_1
     try clear hfz25_2
     try clear hfz25_3
     try clear hfz25_4
     try clear hfz25_5
     try clear hfz25_6
     try clear hfz26_0
     try clear hfz26_1
     try clear hfz26_2
     try clear hfz26_3
     try clear hfz26_4
     try clear hfz26_5
     try clear hfz26_6
     try clear hfz28_0
     try clear hfz28_1
     try clear hfz28_2
     try clear hfz28_3
     try clear hfz28_4
     try clear hfz28_5
     try clear hfz28_6
     try clear hfz29_0
     try clear hfz29_1
     try clear hfz29_2
     try clear hfz29_3
     try clear hfz29_4
     try clear hfz29_5
     try clear hfz29_6
     try clear hfz31_0
     try clear hfz31_1
     try clear hfz31_2
     try clear hfz31_3
     try clear hfz31_4
     try clear hfz31_5
     try clear hfz31_6
     try clear hfz32_0
     try clear hfz32_1
     try clear hfz32_2
     try clear hfz32_3
     try clear hfz32_4
     try clear hfz32_5
     try clear hfz32_6
     try clear p2
     obtain⟨x5_2,rfl,HA,HK2,BK101,BK102,HB⟩:=hrel
     cases gk with
     |zero=>exact absurd HA.out (by simp [ostinatoref05_SameTask.l0])
     |succ k2=>
      have H:=HA.out
      clear HA
      simp only [ostinatoref05_SameTask.l0] at H
      by_cases c34:x5_2<(l0_5.length:Int)
      ·rw [if_pos c34] at H
       have c34b0:decide (x5_2<(l0_5.length:Int))=true:=decide_eq_true c34
       clear c34
       by_cases c35:0≤x5_2
       ·rw [if_pos c35] at H
        have c35b0:decide (0≤x5_2)=true:=decide_eq_true c35
        clear c35
        by_cases c36:x5_2<(l1_5.length:Int)
        ·rw [if_pos c36] at H
         have c36b0:decide (x5_2<(l1_5.length:Int))=true:=decide_eq_true c36
         clear c36
         by_cases c37:(rd l0_5 x5_2)=(rd l1_5 x5_2)
         ·rw [if_pos c37] at H
          have c37b0:((rd l0_5 x5_2) == (rd l1_5 x5_2))=true:=beq_iff_eq.mpr c37
          have c37b1:((rd l0_5 x5_2) != (rd l1_5 x5_2))=false:=bne_eq_false_iff_eq.mpr c37
          clear c37
          have H':=qaf.mk H
          clear H
          have hnb38:=NB101_102.out
          have hnc38:=NB102_101.out
          have hcz39_0:wr.cell? ⟨gb101,0,none⟩=some (.int .i64 a0_0):=(qac BK101.out 0).trans rfl
          have hcz39_1:wr.cell? ⟨gb101,1,none⟩=some (.int .i64 a0_1):=(qac BK101.out 1).trans rfl
          have hcz39_2:wr.cell? ⟨gb101,2,none⟩=some (.int .i64 a0_2):=(qac BK101.out 2).trans rfl
          have hcz39_3:wr.cell? ⟨gb101,3,none⟩=some (.int .i64 a0_3):=(qac BK101.out 3).trans rfl
          have hcz39_4:wr.cell? ⟨gb101,4,none⟩=some (.int .i64 a0_4):=(qac BK101.out 4).trans rfl
          have hcz39_5:wr.cell? ⟨gb101,5,none⟩=some (.slice A0_5 l0_5.length c0_5):=(qac BK101.out 5).trans rfl
          have hcz39_6:wr.cell? ⟨gb101,6,none⟩=some (.slice A0_6 l0_6.length c0_6):=(qac BK101.out 6).trans rfl
          have hfz39_0:=qaa BK101.out 0
          have hfz39_1:=qaa BK101.out 1
          have hfz39_2:=qaa BK101.out 2
          have hfz39_3:=qaa BK101.out 3
          have hfz39_4:=qaa BK101.out 4
          have hfz39_5:=qaa BK101.out 5
          have hfz39_6:=qaa BK101.out 6
          have p103:0≤(x5_2:Int):=of_decide_eq_true (by first|(with_reducible assumption)|assumption)
          have q103:x5_2<(l0_5.length:Int):=of_decide_eq_true (by first|(with_reducible assumption)|assumption)
          obtain⟨ad103,e103,hx103_0⟩:=Kd.at_int HR0_5.out x5_2 p103 q103
          cases e103
          replace hx103_0:=(HB.out.cell (bLt w _ hx103_0)).trans hx103_0
          replace p103:=eq_true p103
          replace q103:=eq_true q103
          have hcz40_0:wr.cell? ⟨gb102,0,none⟩=some (.int .i64 a1_0):=(qac BK102.out 0).trans rfl
          have hcz40_1:wr.cell? ⟨gb102,1,none⟩=some (.int .i64 a1_1):=(qac BK102.out 1).trans rfl
          have hcz40_2:wr.cell? ⟨gb102,2,none⟩=some (.int .i64 a1_2):=(qac BK102.out 2).trans rfl
          have hcz40_3:wr.cell? ⟨gb102,3,none⟩=some (.int .i64 a1_3):=(qac BK102.out 3).trans rfl
          have hcz40_4:wr.cell? ⟨gb102,4,none⟩=some (.int .i64 a1_4):=(qac BK102.out 4).trans rfl
          have hcz40_5:wr.cell? ⟨gb102,5,none⟩=some (.slice A1_5 l1_5.length c1_5):=(qac BK102.out 5).trans rfl
          have hcz40_6:wr.cell? ⟨gb102,6,none⟩=some (.slice A1_6 l1_6.length c1_6):=(qac BK102.out 6).trans rfl
          have hfz40_0:=qaa BK102.out 0
          have hfz40_1:=qaa BK102.out 1
          have hfz40_2:=qaa BK102.out 2
          have hfz40_3:=qaa BK102.out 3
          have hfz40_4:=qaa BK102.out 4
          have hfz40_5:=qaa BK102.out 5
          have hfz40_6:=qaa BK102.out 6
          have p104:0≤(x5_2:Int):=of_decide_eq_true (by first|(with_reducible assumption)|assumption)
          have q104:x5_2<(l1_5.length:Int):=of_decide_eq_true (by first|(with_reducible assumption)|assumption)
          obtain⟨ad104,e104,hx104_0⟩:=Kd.at_int HR1_5.out x5_2 p104 q104
          cases e104
          replace hx104_0:=(HB.out.cell (bLt w _ hx104_0)).trans hx104_0
          replace p104:=eq_true p104
          replace q104:=eq_true q104
          go_wp2
          repeat (go_quiet (fail);try go_wp2)
          go_roundg k2
          case measure=>have:=HJ2.out;have:=HK2.out;omega
          case rel=>exact⟨(wrap64 (x5_2+1)),(by first|rfl|(simp;done)|(simp [*];done)),H',⟨by have:=HJ2.out;have:=HK2.out;omega⟩,⟨by (with_reducible repeat (first|refine qah ?_ _|refine qaj ?_|refine qai ?_ _));exact BK101.out⟩,⟨by (with_reducible repeat (first|refine qah ?_ _|refine qaj ?_|refine qai ?_ _));exact BK102.out⟩,⟨by repeat (first|(with_reducible first|exact HB.out|apply qae|apply qab|apply qad|refine qag ?_ GE101.out|refine qag ?_ GE102.out)|exact HB.out)⟩⟩
         ·rw [if_neg c37] at H
          have c37b0:((rd l0_5 x5_2) == (rd l1_5 x5_2))=false:=beq_eq_false_iff_ne.mpr c37
          have c37b1:((rd l0_5 x5_2) != (rd l1_5 x5_2))=true:=bne_iff_ne.mpr c37
          obtain rfl:=Option.some.inj H
          have hnb41:=NB101_102.out
          have hnc41:=NB102_101.out
          have hcz42_0:wr.cell? ⟨gb101,0,none⟩=some (.int .i64 a0_0):=(qac BK101.out 0).trans rfl
          have hcz42_1:wr.cell? ⟨gb101,1,none⟩=some (.int .i64 a0_1):=(qac BK101.out 1).trans rfl
          have hcz42_2:wr.cell? ⟨gb101,2,none⟩=some (.int .i64 a0_2):=(qac BK101.out 2).trans rfl
          have hcz42_3:wr.cell? ⟨gb101,3,none⟩=some (.int .i64 a0_3):=(qac BK101.out 3).trans rfl
          have hcz42_4:wr.cell? ⟨gb101,4,none⟩=some (.int .i64 a0_4):=(qac BK101.out 4).trans rfl
          have hcz42_5:wr.cell? ⟨gb101,5,none⟩=some (.slice A0_5 l0_5.length c0_5):=(qac BK101.out 5).trans rfl
          have hcz42_6:wr.cell? ⟨gb101,6,none⟩=some (.slice A0_6 l0_6.length c0_6):=(qac BK101.out 6).trans rfl
          have hfz42_0:=qaa BK101.out 0
          have hfz42_1:=qaa BK101.out 1
          have hfz42_2:=qaa BK101.out 2
          have hfz42_3:=qaa BK101.out 3
          have hfz42_4:=qaa BK101.out 4
          have hfz42_5:=qaa BK101.out 5
          have hfz42_6:=qaa BK101.out 6
          have p103:0≤(x5_2:Int):=of_decide_eq_true (by first|(with_reducible assumption)|assumption)
          have q103:x5_2<(l0_5.length:Int):=of_decide_eq_true (by first|(with_reducible assumption)|assumption)
          obtain⟨ad103,e103,hx103_0⟩:=Kd.at_int HR0_5.out x5_2 p103 q103
          cases e103
          replace hx103_0:=(HB.out.cell (bLt w _ hx103_0)).trans hx103_0
          replace p103:=eq_true p103
          replace q103:=eq_true q103
          have hcz43_0:wr.cell? ⟨gb102,0,none⟩=some (.int .i64 a1_0):=(qac BK102.out 0).trans rfl
          have hcz43_1:wr.cell? ⟨gb102,1,none⟩=some (.int .i64 a1_1):=(qac BK102.out 1).trans rfl
          have hcz43_2:wr.cell? ⟨gb102,2,none⟩=some (.int .i64 a1_2):=(qac BK102.out 2).trans rfl
          have hcz43_3:wr.cell? ⟨gb102,3,none⟩=some (.int .i64 a1_3):=(qac BK102.out 3).trans rfl
          have hcz43_4:wr.cell? ⟨gb102,4,none⟩=some (.int .i64 a1_4):=(qac BK102.out 4).trans rfl
          have hcz43_5:wr.cell? ⟨gb102,5,none⟩=some (.slice A1_5 l1_5.length c1_5):=(qac BK102.out 5).trans rfl
          have hcz43_6:wr.cell? ⟨gb102,6,none⟩=some (.slice A1_6 l1_6.length c1_6):=(qac BK102.out 6).trans rfl
          have hfz43_0:=qaa BK102.out 0
          have hfz43_1:=qaa BK102.out 1
          have hfz43_2:=qaa BK102.out 2
          have hfz43_3:=qaa BK102.out 3
          have hfz43_4:=qaa BK102.out 4
          have hfz43_5:=qaa BK102.out 5
          have hfz43_6:=qaa BK102.out 6
          have p104:0≤(x5_2:Int):=of_decide_eq_true (by first|(with_reducible assumption)|assumption)
          have q104:x5_2<(l1_5.length:Int):=of_decide_eq_true (by first|(with_reducible assumption)|assumption)
          obtain⟨ad104,e104,hx104_0⟩:=Kd.at_int HR1_5.out x5_2 p104 q104
          cases e104
          replace hx104_0:=(HB.out.cell (bLt w _ hx104_0)).trans hx104_0
          replace p104:=eq_true p104
          replace q104:=eq_true q104
          go_wp2
          repeat (go_quiet (fail);try go_wp2)
          go_ret
          exact⟨by first|rfl|(simp [qao,qan]<;>rfl)|(simp [bneNil,bneNilU]<;>rfl)|(simp [*,qao,qan]<;>rfl),by repeat (first|(with_reducible first|exact HB.out|apply qae|apply qab|apply qad|refine qag ?_ GE101.out|refine qag ?_ GE102.out)|exact HB.out)⟩
        ·rw [if_neg c36] at H
         exact absurd H (by simp)
       ·rw [if_neg c35] at H
        exact absurd H (by simp)
      ·rw [if_neg c34] at H
       have c34b0:decide (x5_2<(l0_5.length:Int))=false:=decide_eq_false c34
       clear c34
       have H':=qaf.mk H
       clear H
       have hnb44:=NB101_102.out
       have hnc44:=NB102_101.out
       have hcz45_0:wr.cell? ⟨gb101,0,none⟩=some (.int .i64 a0_0):=(qac BK101.out 0).trans rfl
       have hcz45_1:wr.cell? ⟨gb101,1,none⟩=some (.int .i64 a0_1):=(qac BK101.out 1).trans rfl
       have hcz45_2:wr.cell? ⟨gb101,2,none⟩=some (.int .i64 a0_2):=(qac BK101.out 2).trans rfl
       have hcz45_3:wr.cell? ⟨gb101,3,none⟩=some (.int .i64 a0_3):=(qac BK101.out 3).trans rfl
       have hcz45_4:wr.cell? ⟨gb101,4,none⟩=some (.int .i64 a0_4):=(qac BK101.out 4).trans rfl
       have hcz45_5:wr.cell? ⟨gb101,5,none⟩=some (.slice A0_5 l0_5.length c0_5):=(qac BK101.out 5).trans rfl
       have hcz45_6:wr.cell? ⟨gb101,6,none⟩=some (.slice A0_6 l0_6.length c0_6):=(qac BK101.out 6).trans rfl
       have hfz45_0:=qaa BK101.out 0
       have hfz45_1:=qaa BK101.out 1
       have hfz45_2:=qaa BK101.out 2
       have hfz45_3:=qaa BK101.out 3
       have hfz45_4:=qaa BK101.out 4
       have hfz45_5:=qaa BK101.out 5
       have hfz45_6:=qaa BK101.out 6
       go_wp2
       repeat (go_quiet (fail);try go_wp2)
       go_loopg [6] k2 (fun kq v6 w'=>∃ (x6_3:Int),v6=.int .i64 x6_3∧qaf (ostinatoref05_SameTask.l1 kq x6_3 a0_0 a0_1 a0_2 a0_3 a0_4 l0_5 l0_6 a1_0 a1_1 a1_2 a1_3 a1_4 l1_5 l1_6=some r)∧qaf (kq≤k2)∧qaf (w'.heap[gb101]? = some (.cells #[.int .i64 a0_0,.int .i64 a0_1,.int .i64 a0_2,.int .i64 a0_3,.int .i64 a0_4,(.slice A0_5 l0_5.length c0_5),(.slice A0_6 l0_6.length c0_6)] 52 (0,0)))∧qaf (w'.heap[gb102]? = some (.cells #[.int .i64 a1_0,.int .i64 a1_1,.int .i64 a1_2,.int .i64 a1_3,.int .i64 a1_4,(.slice A1_5 l1_5.length c1_5),(.slice A1_6 l1_6.length c1_6)] 52 (0,0)))∧qaf (Below w.heap.size w w'))
       case atStart=>exact⟨(0),(by first|rfl|(simp;done)|(simp [*];done)),H',⟨Nat.le_refl _⟩,⟨by (with_reducible repeat (first|refine qah ?_ _|refine qaj ?_|refine qai ?_ _));exact BK101.out⟩,⟨by (with_reducible repeat (first|refine qah ?_ _|refine qaj ?_|refine qai ?_ _));exact BK102.out⟩,⟨by repeat (first|(with_reducible first|exact HB.out|apply qae|apply qab|apply qad|refine qag ?_ GE101.out|refine qag ?_ GE102.out)|exact HB.out)⟩⟩
       case round=>
        clear H'
        try clear c1
        try clear p1
        try clear q1
        try clear hx1
        try clear c2
        try clear p2
        try clear c3
        try clear c4
        try clear c5
        try clear c6
        try clear c6b0
        try clear c6b1
        try clear p6
        try clear c7
        try clear c7b0
        try clear c7b1
        try clear c8
        try clear c8b0
        try clear c8b1
        try clear c9
        try clear c9b0
        try clear c9b1
        try clear c10
        try clear c10b0
        try clear c10b1
        try clear p10
        try clear q10
        try clear hx10
        try clear c11
        try clear c11b0
        try clear c11b1
        try clear c11b2
        try clear c12
        try clear c15
        try clear c18
        try clear c21
        try clear c24
        try clear c27
        try clear c30
        try clear c33
        try clear c34
        try clear c34b0
        try clear c35
        try clear c35b0
        try clear c36
        try clear c36b0
        try clear c37
        try clear c37b0
        try clear c37b1
        try clear c38
        try clear c41
        try clear c44
        try clear hcz13_0
        try clear hcz13_1
        try clear hcz13_2
        try clear hcz13_3
        try clear hcz13_4
        try clear hcz13_5
        try clear hcz13_6
        try clear hcz14_0
        try clear hcz14_1
        try clear hcz14_2
        try clear hcz14_3
        try clear hcz14_4
        try clear hcz14_5
        try clear hcz14_6
        try clear hcz16_0
        try clear hcz16_1
        try clear hcz16_2
        try clear hcz16_3
        try clear hcz16_4
        try clear hcz16_5
        try clear hcz16_6
        try clear hcz17_0
        try clear hcz17_1
        try clear hcz17_2
        try clear hcz17_3
        try clear hcz17_4
        try clear hcz17_5
        try clear hcz17_6
        try clear hcz19_0
        try clear hcz19_1
        try clear hcz19_2
        try clear hcz19_3
        try clear hcz19_4
        try clear hcz19_5
        try clear hcz19_6
        try clear hcz20_0
        try clear hcz20_1
        try clear hcz20_2
        try clear hcz20_3
        try clear hcz20_4
        try clear hcz20_5
        try clear hcz20_6
        try clear hcz22_0
        try clear hcz22_1
        try clear hcz22_2
        try clear hcz22_3
        try clear hcz22_4
        try clear hcz22_5
        try clear hcz22_6
        try clear hcz23_0
        try clear hcz23_1
        try clear hcz23_2
        try clear hcz23_3
        try clear hcz23_4
        try clear hcz23_5
        try clear hcz23_6
        try clear hcz25_0
        try clear hcz25_1
        try clear hcz25_2
        try clear hcz25_3
        try clear hcz25_4
        try clear hcz25_5
        try clear hcz25_6
        try clear hcz26_0
        try clear hcz26_1
        try clear hcz26_2
        try clear hcz26_3
        try clear hcz26_4
        try clear hcz26_5
        try clear hcz26_6
        try clear hcz28_0
        try clear hcz28_1
        try clear hcz28_2
        try clear hcz28_3
        try clear hcz28_4
        try clear hcz28_5
        try clear hcz28_6
        try clear hcz29_0
        try clear hcz29_1
        try clear hcz29_2
        try clear hcz29_3
        try clear hcz29_4
        try clear hcz29_5
        try clear hcz29_6
        try clear hcz31_0
        try clear hcz31_1
        try clear hcz31_2
        try clear hcz31_3
        try clear hcz31_4
        try clear hcz31_5
        try clear hcz31_6
        try clear hcz32_0
        try clear hcz32_1
        try clear hcz32_2
        try clear hcz32_3
        try clear hcz32_4
        try clear hcz32_5
        try clear hcz32_6
        try clear hcz39_0
        try clear hcz39_1
        try clear hcz39_2
        try clear hcz39_3
        try clear hcz39_4
        try clear hcz39_5
        try clear hcz39_6
        try clear hcz40_0
        try clear hcz40_1
        try clear hcz40_2
        try clear hcz40_3
        try clear hcz40_4
        try clear hcz40_5
        try clear hcz40_6
        try clear hcz42_0
        try clear hcz42_1
        try clear hcz42_2
        try clear hcz42_3
        try clear hcz42_4
        try clear hcz42_5
        try clear hcz42_6
        try clear hcz43_0
        try clear hcz43_1
        try clear hcz43_2
        try clear hcz43_3
        try clear hcz43_4
        try clear hcz43_5
        try clear hcz43_6
        try clear hcz45_0
        try clear hcz45_1
        try clear hcz45_2
        try clear hcz45_3
        try clear hcz45_4
        try clear hcz45_5
        try clear hcz45_6
        try clear hfz13_0
        try clear hfz13_1
        try clear hfz13_2
        try clear hfz13_3
        try clear hfz13_4
        try clear hfz13_5
        try clear hfz13_6
        try clear hfz14_0
        try clear hfz14_1
        try clear hfz14_2
        try clear hfz14_3
        try clear hfz14_4
        try clear hfz14_5
        try clear hfz14_6
        try clear hfz16_0
        try clear hfz16_1
        try clear hfz16_2
        try clear hfz16_3
        try clear hfz16_4
        try clear hfz16_5
        try clear hfz16_6
        try clear hfz17_0
        try clear hfz17_1
        try clear hfz17_2
        try clear hfz17_3
        try clear hfz17_4
        try clear hfz17_5
        try clear hfz17_6
        try clear hfz19_0
        try clear hfz19_1
        try clear hfz19_2
        try clear hfz19_3
        try clear hfz19_4
        try clear hfz19_5
        try clear hfz19_6
        try clear hfz20_0
        try clear hfz20_1
        try clear hfz20_2
        try clear hfz20_3
        try clear hfz20_4
        try clear hfz20_5
        try clear hfz20_6
        try clear hfz22_0
        try clear hfz22_1
        try clear hfz22_2
        try clear hfz22_3
        try clear hfz22_4
        try clear hfz22_5
        try clear hfz22_6
        try clear hfz23_0
        try clear hfz23_1
        try clear hfz23_2
        try clear hfz23_3
        try clear hfz23_4
        try clear hfz23_5
        try clear hfz23_6
        try clear hfz25_0
        try clear hfz25_1
        try clear hfz25_2
        try clear hfz25_3
        try clear hfz25_4
        try clear hfz25_5
        try clear hfz25_6
        try clear hfz26_0
        try clear hfz26_1
        try clear hfz26_2
        try clear hfz26_3
        try clear hfz26_4
        try clear hfz26_5
        try clear hfz26_6
        try clear hfz28_0
        try clear hfz28_1
        try clear hfz28_2
        try clear hfz28_3
        try clear hfz28_4
        try clear hfz28_5
        try clear hfz28_6
        try clear hfz29_0
        try clear hfz29_1
        try clear hfz29_2
        try clear hfz29_3
        try clear hfz29_4
        try clear hfz29_5
        try clear hfz29_6
        try clear hfz31_0
        try clear hfz31_1
        try clear hfz31_2
        try clear hfz31_3
        try clear hfz31_4
        try clear hfz31_5
        try clear hfz31_6
        try clear hfz32_0
        try clear hfz32_1
        try clear hfz32_2
        try clear hfz32_3
        try clear hfz32_4
        try clear hfz32_5
        try clear hfz32_6
        try clear hfz39_0
        try clear hfz39_1
        try clear hfz39_2
        try clear hfz39_3
        try clear hfz39_4
        try clear hfz39_5
        try clear hfz39_6
        try clear hfz40_0
        try clear hfz40_1
        try clear hfz40_2
        try clear hfz40_3
        try clear hfz40_4
        try clear hfz40_5
        try clear hfz40_6
        try clear hfz42_0
        try clear hfz42_1
        try clear hfz42_2
        try clear hfz42_3
        try clear hfz42_4
        try clear hfz42_5
        try clear hfz42_6
        try clear hfz43_0
        try clear hfz43_1
        try clear hfz43_2
        try clear hfz43_3
        try clear hfz43_4
        try clear hfz43_5
        try clear hfz43_6
        try clear hfz45_0
        try clear hfz45_1
        try clear hfz45_2
        try clear hfz45_3
        try clear hfz45_4
        try clear hfz45_5
        try clear hfz45_6
        try clear hx103_0
        try clear hx104_0
        try clear p103
        try clear p104
        try clear p2
        try clear q103
        try clear q104
        obtain⟨x6_3,rfl,HA,HK3,BK101,BK102,HB⟩:=hrel
        cases gk with
        |zero=>exact absurd HA.out (by simp [ostinatoref05_SameTask.l1])
        |succ k3=>
         have H:=HA.out
         clear HA
         simp only [ostinatoref05_SameTask.l1] at H
         by_cases c46:x6_3<(l0_6.length:Int)
         ·rw [if_pos c46] at H
          have c46b0:decide (x6_3<(l0_6.length:Int))=true:=decide_eq_true c46
          clear c46
          by_cases c47:0≤x6_3
          ·rw [if_pos c47] at H
           have c47b0:decide (0≤x6_3)=true:=decide_eq_true c47
           clear c47
           by_cases c48:x6_3<(l1_6.length:Int)
           ·rw [if_pos c48] at H
            have c48b0:decide (x6_3<(l1_6.length:Int))=true:=decide_eq_true c48
            clear c48
            by_cases c49:(rd l0_6 x6_3)=(rd l1_6 x6_3)
            ·rw [if_pos c49] at H
             have c49b0:((rd l0_6 x6_3) == (rd l1_6 x6_3))=true:=beq_iff_eq.mpr c49
             have c49b1:((rd l0_6 x6_3) != (rd l1_6 x6_3))=false:=bne_eq_false_iff_eq.mpr c49
             clear c49
             have H':=qaf.mk H
             clear H
             have hnb50:=NB101_102.out
             have hnc50:=NB102_101.out
             have hcz51_0:wr.cell? ⟨gb101,0,none⟩=some (.int .i64 a0_0):=(qac BK101.out 0).trans rfl
             have hcz51_1:wr.cell? ⟨gb101,1,none⟩=some (.int .i64 a0_1):=(qac BK101.out 1).trans rfl
             have hcz51_2:wr.cell? ⟨gb101,2,none⟩=some (.int .i64 a0_2):=(qac BK101.out 2).trans rfl
             have hcz51_3:wr.cell? ⟨gb101,3,none⟩=some (.int .i64 a0_3):=(qac BK101.out 3).trans rfl
             have hcz51_4:wr.cell? ⟨gb101,4,none⟩=some (.int .i64 a0_4):=(qac BK101.out 4).trans rfl
             have hcz51_5:wr.cell? ⟨gb101,5,none⟩=some (.slice A0_5 l0_5.length c0_5):=(qac BK101.out 5).trans rfl
             have hcz51_6:wr.cell? ⟨gb101,6,none⟩=some (.slice A0_6 l0_6.length c0_6):=(qac BK101.out 6).trans rfl
             have hfz51_0:=qaa BK101.out 0
             have hfz51_1:=qaa BK101.out 1
             have hfz51_2:=qaa BK101.out 2
             have hfz51_3:=qaa BK101.out 3
             have hfz51_4:=qaa BK101.out 4
             have hfz51_5:=qaa BK101.out 5
             have hfz51_6:=qaa BK101.out 6
             have p105:0≤(x6_3:Int):=of_decide_eq_true (by first|(with_reducible assumption)|assumption)
             have q105:x6_3<(l0_6.length:Int):=of_decide_eq_true (by first|(with_reducible assumption)|assumption)
             obtain⟨ad105,e105,hx105_0⟩:=Kd.at_int HR0_6.out x6_3 p105 q105
             cases e105
             replace hx105_0:=(HB.out.cell (bLt w _ hx105_0)).trans hx105_0
             replace p105:=eq_true p105
             replace q105:=eq_true q105
             have hcz52_0:wr.cell? ⟨gb102,0,none⟩=some (.int .i64 a1_0):=(qac BK102.out 0).trans rfl
             have hcz52_1:wr.cell? ⟨gb102,1,none⟩=some (.int .i64 a1_1):=(qac BK102.out 1).trans rfl
             have hcz52_2:wr.cell? ⟨gb102,2,none⟩=some (.int .i64 a1_2):=(qac BK102.out 2).trans rfl
             have hcz52_3:wr.cell? ⟨gb102,3,none⟩=some (.int .i64 a1_3):=(qac BK102.out 3).trans rfl
             have hcz52_4:wr.cell? ⟨gb102,4,none⟩=some (.int .i64 a1_4):=(qac BK102.out 4).trans rfl
             have hcz52_5:wr.cell? ⟨gb102,5,none⟩=some (.slice A1_5 l1_5.length c1_5):=(qac BK102.out 5).trans rfl
             have hcz52_6:wr.cell? ⟨gb102,6,none⟩=some (.slice A1_6 l1_6.length c1_6):=(qac BK102.out 6).trans rfl
             have hfz52_0:=qaa BK102.out 0
             have hfz52_1:=qaa BK102.out 1
             have hfz52_2:=qaa BK102.out 2
             have hfz52_3:=qaa BK102.out 3
             have hfz52_4:=qaa BK102.out 4
             have hfz52_5:=qaa BK102.out 5
             have hfz52_6:=qaa BK102.out 6
             have p106:0≤(x6_3:Int):=of_decide_eq_true (by first|(with_reducible assumption)|assumption)
             have q106:x6_3<(l1_6.length:Int):=of_decide_eq_true (by first|(with_reducible assumption)|assumption)
             obtain⟨ad106,e106,hx106_0⟩:=Kd.at_int HR1_6.out x6_3 p106 q106
             cases e106
             replace hx106_0:=(HB.out.cell (bLt w _ hx106_0)).trans hx106_0
             replace p106:=eq_true p106
             replace q106:=eq_true q106
             go_wp2
             repeat (go_quiet (fail);try go_wp2)
             go_roundg k3
             case measure=>have:=HJ2.out;have:=HK2.out;have:=HK3.out;omega
             case rel=>exact⟨(wrap64 (x6_3+1)),(by first|rfl|(simp;done)|(simp [*];done)),H',⟨by have:=HJ2.out;have:=HK2.out;have:=HK3.out;omega⟩,⟨by (with_reducible repeat (first|refine qah ?_ _|refine qaj ?_|refine qai ?_ _));exact BK101.out⟩,⟨by (with_reducible repeat (first|refine qah ?_ _|refine qaj ?_|refine qai ?_ _));exact BK102.out⟩,⟨by repeat (first|(with_reducible first|exact HB.out|apply qae|apply qab|apply qad|refine qag ?_ GE101.out|refine qag ?_ GE102.out)|exact HB.out)⟩⟩
            ·rw [if_neg c49] at H
             have c49b0:((rd l0_6 x6_3) == (rd l1_6 x6_3))=false:=beq_eq_false_iff_ne.mpr c49
             have c49b1:((rd l0_6 x6_3) != (rd l1_6 x6_3))=true:=bne_iff_ne.mpr c49
             obtain rfl:=Option.some.inj H
             have hnb53:=NB101_102.out
             have hnc53:=NB102_101.out
             have hcz54_0:wr.cell? ⟨gb101,0,none⟩=some (.int .i64 a0_0):=(qac BK101.out 0).trans rfl
             have hcz54_1:wr.cell? ⟨gb101,1,none⟩=some (.int .i64 a0_1):=(qac BK101.out 1).trans rfl
             have hcz54_2:wr.cell? ⟨gb101,2,none⟩=some (.int .i64 a0_2):=(qac BK101.out 2).trans rfl
             have hcz54_3:wr.cell? ⟨gb101,3,none⟩=some (.int .i64 a0_3):=(qac BK101.out 3).trans rfl
             have hcz54_4:wr.cell? ⟨gb101,4,none⟩=some (.int .i64 a0_4):=(qac BK101.out 4).trans rfl
             have hcz54_5:wr.cell? ⟨gb101,5,none⟩=some (.slice A0_5 l0_5.length c0_5):=(qac BK101.out 5).trans rfl
             have hcz54_6:wr.cell? ⟨gb101,6,none⟩=some (.slice A0_6 l0_6.length c0_6):=(qac BK101.out 6).trans rfl
             have hfz54_0:=qaa BK101.out 0
             have hfz54_1:=qaa BK101.out 1
             have hfz54_2:=qaa BK101.out 2
             have hfz54_3:=qaa BK101.out 3
             have hfz54_4:=qaa BK101.out 4
             have hfz54_5:=qaa BK101.out 5
             have hfz54_6:=qaa BK101.out 6
             have p105:0≤(x6_3:Int):=of_decide_eq_true (by first|(with_reducible assumption)|assumption)
             have q105:x6_3<(l0_6.length:Int):=of_decide_eq_true (by first|(with_reducible assumption)|assumption)
             obtain⟨ad105,e105,hx105_0⟩:=Kd.at_int HR0_6.out x6_3 p105 q105
             cases e105
             replace hx105_0:=(HB.out.cell (bLt w _ hx105_0)).trans hx105_0
             replace p105:=eq_true p105
             replace q105:=eq_true q105
             have hcz55_0:wr.cell? ⟨gb102,0,none⟩=some (.int .i64 a1_0):=(qac BK102.out 0).trans rfl
             have hcz55_1:wr.cell? ⟨gb102,1,none⟩=some (.int .i64 a1_1):=(qac BK102.out 1).trans rfl
             have hcz55_2:wr.cell? ⟨gb102,2,none⟩=some (.int .i64 a1_2):=(qac BK102.out 2).trans rfl
             have hcz55_3:wr.cell? ⟨gb102,3,none⟩=some (.int .i64 a1_3):=(qac BK102.out 3).trans rfl
             have hcz55_4:wr.cell? ⟨gb102,4,none⟩=some (.int .i64 a1_4):=(qac BK102.out 4).trans rfl
             have hcz55_5:wr.cell? ⟨gb102,5,none⟩=some (.slice A1_5 l1_5.length c1_5):=(qac BK102.out 5).trans rfl
             have hcz55_6:wr.cell? ⟨gb102,6,none⟩=some (.slice A1_6 l1_6.length c1_6):=(qac BK102.out 6).trans rfl
             have hfz55_0:=qaa BK102.out 0
             have hfz55_1:=qaa BK102.out 1
             have hfz55_2:=qaa BK102.out 2
             have hfz55_3:=qaa BK102.out 3
             have hfz55_4:=qaa BK102.out 4
             have hfz55_5:=qaa BK102.out 5
             have hfz55_6:=qaa BK102.out 6
             have p106:0≤(x6_3:Int):=of_decide_eq_true (by first|(with_reducible assumption)|assumption)
             have q106:x6_3<(l1_6.length:Int):=of_decide_eq_true (by first|(with_reducible assumption)|assumption)
             obtain⟨ad106,e106,hx106_0⟩:=Kd.at_int HR1_6.out x6_3 p106 q106
             cases e106
             replace hx106_0:=(HB.out.cell (bLt w _ hx106_0)).trans hx106_0
             replace p106:=eq_true p106
             replace q106:=eq_true q106
             go_wp2
             repeat (go_quiet (fail);try go_wp2)
             go_ret
             exact⟨by first|rfl|(simp [qao,qan]<;>rfl)|(simp [bneNil,bneNilU]<;>rfl)|(simp [*,qao,qan]<;>rfl),by repeat (first|(with_reducible first|exact HB.out|apply qae|apply qab|apply qad|refine qag ?_ GE101.out|refine qag ?_ GE102.out)|exact HB.out)⟩
           ·rw [if_neg c48] at H
            exact absurd H (by simp)
          ·rw [if_neg c47] at H
           exact absurd H (by simp)
         ·rw [if_neg c46] at H
          have c46b0:decide (x6_3<(l0_6.length:Int))=false:=decide_eq_false c46
          clear c46
          obtain rfl:=Option.some.inj H
          have hnb56:=NB101_102.out
          have hnc56:=NB102_101.out
          have hcz57_0:wr.cell? ⟨gb101,0,none⟩=some (.int .i64 a0_0):=(qac BK101.out 0).trans rfl
          have hcz57_1:wr.cell? ⟨gb101,1,none⟩=some (.int .i64 a0_1):=(qac BK101.out 1).trans rfl
          have hcz57_2:wr.cell? ⟨gb101,2,none⟩=some (.int .i64 a0_2):=(qac BK101.out 2).trans rfl
          have hcz57_3:wr.cell? ⟨gb101,3,none⟩=some (.int .i64 a0_3):=(qac BK101.out 3).trans rfl
          have hcz57_4:wr.cell? ⟨gb101,4,none⟩=some (.int .i64 a0_4):=(qac BK101.out 4).trans rfl
          have hcz57_5:wr.cell? ⟨gb101,5,none⟩=some (.slice A0_5 l0_5.length c0_5):=(qac BK101.out 5).trans rfl
          have hcz57_6:wr.cell? ⟨gb101,6,none⟩=some (.slice A0_6 l0_6.length c0_6):=(qac BK101.out 6).trans rfl
          have hfz57_0:=qaa BK101.out 0
          have hfz57_1:=qaa BK101.out 1
          have hfz57_2:=qaa BK101.out 2
          have hfz57_3:=qaa BK101.out 3
          have hfz57_4:=qaa BK101.out 4
          have hfz57_5:=qaa BK101.out 5
          have hfz57_6:=qaa BK101.out 6
          go_wp2
          repeat (go_quiet (fail);try go_wp2)
          go_ret
          exact⟨by first|rfl|(simp [qao,qan]<;>rfl)|(simp [bneNil,bneNilU]<;>rfl)|(simp [*,qao,qan]<;>rfl),by repeat (first|(with_reducible first|exact HB.out|apply qae|apply qab|apply qad|refine qag ?_ GE101.out|refine qag ?_ GE102.out)|exact HB.out)⟩
end
end Go.Proofs.YtcfknijdhmildaaDoor.PParseRight
end
section
namespace Go.Proofs.YtcfknijdhmildaaDoor.PParseRight
open Go.RowKit Go.Proofs.YtcfknijdhmildaaDoorW.PrintWords Go.Proofs.YtcfknijdhmildaaDoorW.PrintLast Go.Proofs.YtcfknijdhmildaaDoorW.PrintMore
attribute [local go_sem] max2_int min2_int max_two min_two max_three min_three max_four min_four
set_option linter.unusedVariables false
set_option linter.unusedSimpArgs false
noncomputable section
def ostinatoref05_SameTasks.l0:Nat→List (S52)→List (S52)→Int→Option (Bool)
 |0,_,_,_=>none
 |k+1,x0,x1,x5=>if x5<(x0.length:Int) then (if 0≤x5 then (if x5<(x1.length:Int) then ((ostinatoref05_SameTask.f k ((qak x0 x5).f0) ((qak x0 x5).f1) ((qak x0 x5).f2) ((qak x0 x5).f3) ((qak x0 x5).f4) ((qak x0 x5).f5) ((qak x0 x5).f6) ((qak x1 x5).f0) ((qak x1 x5).f1) ((qak x1 x5).f2) ((qak x1 x5).f3) ((qak x1 x5).f4) ((qak x1 x5).f5) ((qak x1 x5).f6)).bind fun t109=>(if t109=true then (ostinatoref05_SameTasks.l0 k x0 x1 (wrap64 (x5+1))) else (some false))) else (none)) else (none)) else (some true)
def ostinatoref05_SameTasks.f (k:Nat) (l0:List (S52)) (l1:List (S52)):Option (Bool):=if (l0.length:Int)=(l1.length:Int) then (ostinatoref05_SameTasks.l0 k l0 l1 0) else (some false)
def ostinatoref05_SameTasks.T6:Bool × List (List Nat × List Nat):=(true,[([],[]),([],[]),([0,1],[0,1]),([2],[2]),([],[]),([],[]),([4,5],[4,5]),([6],[6]),([3,7],[3,7]),([8,8,0,1,2,3,4,5,6,7,8],[8])])
def ostinatoref05_SameTasks.B6:List Nat:=[0,0,3,7,0,0,48,112,255,511]
theorem ostinatoref05_SameTasks.tab6:rtab .any (opsOf Tryd.f30 6)=ostinatoref05_SameTasks.T6:=by kernel_rfl
theorem ostinatoref05_SameTasks.bits6:waitsOk ostinatoref05_SameTasks.T6.2 ostinatoref05_SameTasks.B6=true:=by kernel_rfl
theorem ostinatoref05_SameTasks.calls (k:Nat) (A0:Option Addr) (c0:Nat) (l0:List (S52)) (A1:Option Addr) (c1:Nat) (l1:List (S52)) (r:Bool) (w:World) (hr0:Kd.C k52 w A0 l0.length l0) (hc0:l0.length≤c0) (hr1:Kd.C k52 w A1 l1.length l1) (hc1:l1.length≤c1) (h:ostinatoref05_SameTasks.f k l0 l1=some r) :
  Calls Tryd.prog 30 #[.slice A0 l0.length c0,.slice A1 l1.length c1] w fun e w'=>e=.returned (.bool r)∧Below w.heap.size w w':=by
 have hu52:=Tryd.underlying52
 have HR0:=qaf.mk hr0
 have HC0:=qaf.mk hc0
 clear hr0 hc0
 have HR1:=qaf.mk hr1
 have HC1:=qaf.mk hc1
 clear hr1 hc1
 have HB:=qaf.mk (Below.refl w.heap.size w)
 have H:(if (l0.length:Int)=(l1.length:Int) then (ostinatoref05_SameTasks.l0 k l0 l1 0) else (some false))=some r:=h
 clear h
 by_cases c3:(l0.length:Int)=(l1.length:Int)
 ·rw [if_pos c3] at H
  have c3b0:((l0.length:Int) == (l1.length:Int))=true:=beq_iff_eq.mpr c3
  have c3b1:((l0.length:Int) != (l1.length:Int))=false:=bne_eq_false_iff_eq.mpr c3
  have c3b2:(l0.length == l1.length)=true:=by first|simpa using c3|(simp at c3 ⊢;omega)
  clear c3
  have H':=qaf.mk H
  clear H
  go_enter Tryd.func30,Tryd.ntmps30
  go_wp2
  go_loopg [5] k (fun kq v5 w'=>∃ (x5_1:Int),v5=.int .i64 x5_1∧qaf (ostinatoref05_SameTasks.l0 kq l0 l1 x5_1=some r)∧qaf (kq≤k)∧qaf (Below w.heap.size w w'))
  case atStart=>exact⟨(0),(by first|rfl|(simp;done)|(simp [*];done)),H',⟨Nat.le_refl _⟩,⟨by repeat (first|(with_reducible first|exact HB.out|apply qae|apply qab|apply qad)|exact HB.out)⟩⟩
  case round=>
   clear H'
   try clear c1
   try clear p2
   try clear c3
   try clear c3b0
   try clear c3b1
   try clear c3b2
   obtain⟨x5_1,rfl,HA,HK1,HB⟩:=hrel
   cases gk with
   |zero=>exact absurd HA.out (by simp [ostinatoref05_SameTasks.l0])
   |succ k1=>
    have H:=HA.out
    clear HA
    simp only [ostinatoref05_SameTasks.l0] at H
    by_cases c4:x5_1<(l0.length:Int)
    ·rw [if_pos c4] at H
     have c4b0:decide (x5_1<(l0.length:Int))=true:=decide_eq_true c4
     clear c4
     by_cases c5:0≤x5_1
     ·rw [if_pos c5] at H
      have c5b0:decide (0≤x5_1)=true:=decide_eq_true c5
      clear c5
      by_cases c6:x5_1<(l1.length:Int)
      ·rw [if_pos c6] at H
       have c6b0:decide (x5_1<(l1.length:Int))=true:=decide_eq_true c6
       clear c6
       replace H:=Option.bind_eq_some_iff.mp H
       obtain⟨t109,A70,H⟩:=H
       replace H:(if t109=true then (ostinatoref05_SameTasks.l0 k1 l0 l1 (wrap64 (x5_1+1))) else (some false))=some r:=H
       have A7:=qaf.mk A70
       clear A70
       by_cases c8:t109=true
       ·subst c8
        have H1:(ostinatoref05_SameTasks.l0 k1 l0 l1 (wrap64 (x5_1+1)))=some r:=by rw [if_pos rfl] at H;exact H
        clear H
        have H:=H1
        clear H1
        have H':=qaf.mk H
        clear H
        try go_wp2
        have n0_:=qaf.mk (qad HB.out)
        clear HB
        have HB:=n0_
        clear n0_
        have p107:0≤(x5_1:Int):=of_decide_eq_true (by first|(with_reducible assumption)|assumption)
        have q107:x5_1<(l0.length:Int):=of_decide_eq_true (by first|(with_reducible assumption)|assumption)
        obtain⟨ad107,A107_5,c107_5,A107_6,c107_6,e107,hx107_0,hx107_1,hx107_2,hx107_3,hx107_4,hx107_5,hx107_6,hl107_5,hi107_5,hl107_6,hi107_6⟩:=at_T52 HR0.out x5_1 p107 q107
        have hw107_6:=hx107_6
        have hw107_5:=hx107_5
        have hw107_4:=hx107_4
        have hw107_3:=hx107_3
        have hw107_2:=hx107_2
        have hw107_1:=hx107_1
        have hw107_0:=hx107_0
        cases e107
        replace hx107_0:=(HB.out.cell (bLt w _ hx107_0)).trans hx107_0
        replace hx107_1:=(HB.out.cell (bLt w _ hx107_1)).trans hx107_1
        replace hx107_2:=(HB.out.cell (bLt w _ hx107_2)).trans hx107_2
        replace hx107_3:=(HB.out.cell (bLt w _ hx107_3)).trans hx107_3
        replace hx107_4:=(HB.out.cell (bLt w _ hx107_4)).trans hx107_4
        replace hx107_5:=(HB.out.cell (bLt w _ hx107_5)).trans hx107_5
        replace hx107_6:=(HB.out.cell (bLt w _ hx107_6)).trans hx107_6
        have HR107_5:=qaf.mk hi107_5
        have HC107_5:=qaf.mk hl107_5
        clear hi107_5 hl107_5
        have HR107_6:=qaf.mk hi107_6
        have HC107_6:=qaf.mk hl107_6
        clear hi107_6 hl107_6
        replace p107:=eq_true p107
        replace q107:=eq_true q107
        have p108:0≤(x5_1:Int):=of_decide_eq_true (by first|(with_reducible assumption)|assumption)
        have q108:x5_1<(l1.length:Int):=of_decide_eq_true (by first|(with_reducible assumption)|assumption)
        obtain⟨ad108,A108_5,c108_5,A108_6,c108_6,e108,hx108_0,hx108_1,hx108_2,hx108_3,hx108_4,hx108_5,hx108_6,hl108_5,hi108_5,hl108_6,hi108_6⟩:=at_T52 HR1.out x5_1 p108 q108
        have hw108_6:=hx108_6
        have hw108_5:=hx108_5
        have hw108_4:=hx108_4
        have hw108_3:=hx108_3
        have hw108_2:=hx108_2
        have hw108_1:=hx108_1
        have hw108_0:=hx108_0
        cases e108
        replace hx108_0:=(HB.out.cell (bLt w _ hx108_0)).trans hx108_0
        replace hx108_1:=(HB.out.cell (bLt w _ hx108_1)).trans hx108_1
        replace hx108_2:=(HB.out.cell (bLt w _ hx108_2)).trans hx108_2
        replace hx108_3:=(HB.out.cell (bLt w _ hx108_3)).trans hx108_3
        replace hx108_4:=(HB.out.cell (bLt w _ hx108_4)).trans hx108_4
        replace hx108_5:=(HB.out.cell (bLt w _ hx108_5)).trans hx108_5
        replace hx108_6:=(HB.out.cell (bLt w _ hx108_6)).trans hx108_6
        have HR108_5:=qaf.mk hi108_5
        have HC108_5:=qaf.mk hl108_5
        clear hi108_5 hl108_5
        have HR108_6:=qaf.mk hi108_6
        have HC108_6:=qaf.mk hl108_6
        clear hi108_6 hl108_6
        replace p108:=eq_true p108
        replace q108:=eq_true q108
        refine start_ (n:=10) (S:=fun w'=>w'.cell? (ad107.add ((x5_1).toNat * 7))=some (.int .i64 ((qak l0 x5_1).f0))∧w'.cell? ⟨(ad107.add ((x5_1).toNat * 7)).block,(ad107.add ((x5_1).toNat * 7)).off+1,none⟩=some (.int .i64 ((qak l0 x5_1).f1))∧w'.cell? ⟨(ad107.add ((x5_1).toNat * 7)).block,(ad107.add ((x5_1).toNat * 7)).off+2,none⟩=some (.int .i64 ((qak l0 x5_1).f2))∧w'.cell? ⟨(ad107.add ((x5_1).toNat * 7)).block,(ad107.add ((x5_1).toNat * 7)).off+3,none⟩=some (.int .i64 ((qak l0 x5_1).f3))∧w'.cell? ⟨(ad107.add ((x5_1).toNat * 7)).block,(ad107.add ((x5_1).toNat * 7)).off+4,none⟩=some (.int .i64 ((qak l0 x5_1).f4))∧w'.cell? ⟨(ad107.add ((x5_1).toNat * 7)).block,(ad107.add ((x5_1).toNat * 7)).off+5,none⟩=some (.slice A107_5 ((qak l0 x5_1).f5).length c107_5)∧w'.cell? ⟨(ad107.add ((x5_1).toNat * 7)).block,(ad107.add ((x5_1).toNat * 7)).off+6,none⟩=some (.slice A107_6 ((qak l0 x5_1).f6).length c107_6)∧w'.cell? (ad108.add ((x5_1).toNat * 7))=some (.int .i64 ((qak l1 x5_1).f0))∧w'.cell? ⟨(ad108.add ((x5_1).toNat * 7)).block,(ad108.add ((x5_1).toNat * 7)).off+1,none⟩=some (.int .i64 ((qak l1 x5_1).f1))∧w'.cell? ⟨(ad108.add ((x5_1).toNat * 7)).block,(ad108.add ((x5_1).toNat * 7)).off+2,none⟩=some (.int .i64 ((qak l1 x5_1).f2))∧w'.cell? ⟨(ad108.add ((x5_1).toNat * 7)).block,(ad108.add ((x5_1).toNat * 7)).off+3,none⟩=some (.int .i64 ((qak l1 x5_1).f3))∧w'.cell? ⟨(ad108.add ((x5_1).toNat * 7)).block,(ad108.add ((x5_1).toNat * 7)).off+4,none⟩=some (.int .i64 ((qak l1 x5_1).f4))∧w'.cell? ⟨(ad108.add ((x5_1).toNat * 7)).block,(ad108.add ((x5_1).toNat * 7)).off+5,none⟩=some (.slice A108_5 ((qak l1 x5_1).f5).length c108_5)∧w'.cell? ⟨(ad108.add ((x5_1).toNat * 7)).block,(ad108.add ((x5_1).toNat * 7)).off+6,none⟩=some (.slice A108_6 ((qak l1 x5_1).f6).length c108_6)) (ds:=[]) #[false,false,false,false,false,false,false,false,false,false] (by kernel_rfl) rfl rfl ⟨((HB.out.cell (bLt w _ hw107_0)).trans hw107_0),((HB.out.cell (bLt w _ hw107_1)).trans hw107_1),((HB.out.cell (bLt w _ hw107_2)).trans hw107_2),((HB.out.cell (bLt w _ hw107_3)).trans hw107_3),((HB.out.cell (bLt w _ hw107_4)).trans hw107_4),((HB.out.cell (bLt w _ hw107_5)).trans hw107_5),((HB.out.cell (bLt w _ hw107_6)).trans hw107_6),((HB.out.cell (bLt w _ hw108_0)).trans hw108_0),((HB.out.cell (bLt w _ hw108_1)).trans hw108_1),((HB.out.cell (bLt w _ hw108_2)).trans hw108_2),((HB.out.cell (bLt w _ hw108_3)).trans hw108_3),((HB.out.cell (bLt w _ hw108_4)).trans hw108_4),((HB.out.cell (bLt w _ hw108_5)).trans hw108_5),((HB.out.cell (bLt w _ hw108_6)).trans hw108_6)⟩ (fun hHeld=>?_);refine with_tabW ostinatoref05_SameTasks.tab6 ostinatoref05_SameTasks.bits6 (fun HT_ HW_=>?_)
        generalize wr.drew=w9 at HB HR107_5 HR107_6 HR108_5 HR108_6 hx107_0 hx107_1 hx107_2 hx107_3 hx107_4 hx107_5 hx107_6 hx108_0 hx108_1 hx108_2 hx108_3 hx108_4 hx108_5 hx108_6 hHeld ⊢
        refine qaE (i:=0) (N:=some 18) (v:=?_) (a':=?_) #[true,false,false,false,false,false,false,false,false,false] rfl rfl (qax HT_.out (by kernel_rfl)) (fun _ _ _ h=>h) (Or.inl ⟨by rfl,?_⟩) ?_ ?_
        rotate_left
        ·intro w'
         go_simp
         with_reducible rfl
        rotate_left
        ·simp only [Act.put,List.setIfInBounds_toArray,List.set_cons_zero,List.set_cons_succ,qav,qaw]
         rfl
        refine qaE (i:=1) (N:=some 19) (v:=?_) (a':=?_) #[true,true,false,false,false,false,false,false,false,false] rfl rfl (qax HT_.out (by kernel_rfl)) (fun _ _ _ h=>h) (Or.inl ⟨by rfl,?_⟩) ?_ ?_
        rotate_left
        ·intro w'
         go_simp
         with_reducible rfl
        rotate_left
        ·simp only [Act.put,List.setIfInBounds_toArray,List.set_cons_zero,List.set_cons_succ,qav,qaw]
         rfl
        refine qaE (i:=2) (N:=some 20) (v:=?_) (a':=?_) #[true,true,true,false,false,false,false,false,false,false] rfl rfl (qax HT_.out (by kernel_rfl)) (fun _ _ _ h=>h) (Or.inl ⟨by rfl,?_⟩) ?_ ?_
        rotate_left
        ·intro w'
         go_simp
         with_reducible rfl
        rotate_left
        ·simp only [Act.put,List.setIfInBounds_toArray,List.set_cons_zero,List.set_cons_succ,qav,qaw]
         rfl
        refine qaE (i:=4) (N:=some 22) (v:=?_) (a':=?_) #[true,true,true,false,true,false,false,false,false,false] rfl rfl (qax HT_.out (by kernel_rfl)) (fun _ _ _ h=>h) (Or.inl ⟨by rfl,?_⟩) ?_ ?_
        rotate_left
        ·intro w'
         go_simp
         with_reducible rfl
        rotate_left
        ·simp only [Act.put,List.setIfInBounds_toArray,List.set_cons_zero,List.set_cons_succ,qav,qaw]
         rfl
        refine qaE (i:=5) (N:=some 23) (v:=?_) (a':=?_) #[true,true,true,false,true,true,false,false,false,false] rfl rfl (qax HT_.out (by kernel_rfl)) (fun _ _ _ h=>h) (Or.inl ⟨by rfl,?_⟩) ?_ ?_
        rotate_left
        ·intro w'
         go_simp
         with_reducible rfl
        rotate_left
        ·simp only [Act.put,List.setIfInBounds_toArray,List.set_cons_zero,List.set_cons_succ,qav,qaw]
         rfl
        refine qaE (i:=6) (N:=some 24) (v:=?_) (a':=?_) #[true,true,true,false,true,true,true,false,false,false] rfl rfl (qax HT_.out (by kernel_rfl)) (fun _ _ _ h=>h) (Or.inl ⟨by rfl,?_⟩) ?_ ?_
        rotate_left
        ·intro w'
         go_simp
         with_reducible rfl
        rotate_left
        ·simp only [Act.put,List.setIfInBounds_toArray,List.set_cons_zero,List.set_cons_succ,qav,qaw]
         rfl
        refine take_ (i:=3) (N:=some 21) (v:=?_) (a':=?_) #[true,true,true,true,true,true,true,false,false,false] rfl rfl (qaH HT_.out HW_.out (by kernel_rfl)) (fun _ _ _ h=>h) (Or.inl ⟨by rfl,?_⟩) hHeld ?_ ?_
        rotate_left
        ·rintro w' ⟨s0,s1,s2,s3,s4,s5,s6,s7,s8,s9,s10,s11,s12,s13⟩
         go_simp
         with_reducible rfl
        rotate_left
        ·simp only [Act.put,List.setIfInBounds_toArray,List.set_cons_zero,List.set_cons_succ,qav,qaw]
         rfl
        refine take_ (i:=7) (N:=some 25) (v:=?_) (a':=?_) #[true,true,true,true,true,true,true,true,false,false] rfl rfl (qaH HT_.out HW_.out (by kernel_rfl)) (fun _ _ _ h=>h) (Or.inl ⟨by rfl,?_⟩) hHeld ?_ ?_
        rotate_left
        ·rintro w' ⟨s0,s1,s2,s3,s4,s5,s6,s7,s8,s9,s10,s11,s12,s13⟩
         go_simp
         with_reducible rfl
        rotate_left
        ·simp only [Act.put,List.setIfInBounds_toArray,List.set_cons_zero,List.set_cons_succ,qav,qaw]
         rfl
        refine one_ (i:=8) (N:=some 26) #[true,true,true,true,true,true,true,true,true,false] rfl rfl (one_of HT_.out (by kernel_rfl)) (by decide) (fun K hK=>?_)
        refine goes_ Tryd.func56 (by kernel_rfl) rfl #[.agg #[.int .i64 ((qak l0 x5_1).f0),.int .i64 ((qak l0 x5_1).f1),.int .i64 ((qak l0 x5_1).f2),.int .i64 ((qak l0 x5_1).f3),.int .i64 ((qak l0 x5_1).f4),.slice A107_5 ((qak l0 x5_1).f5).length c107_5,.slice A107_6 ((qak l0 x5_1).f6).length c107_6],.agg #[.int .i64 ((qak l1 x5_1).f0),.int .i64 ((qak l1 x5_1).f1),.int .i64 ((qak l1 x5_1).f2),.int .i64 ((qak l1 x5_1).f3),.int .i64 ((qak l1 x5_1).f4),.slice A108_5 ((qak l1 x5_1).f5).length c108_5,.slice A108_6 ((qak l1 x5_1).f6).length c108_6]] (by rfl) rfl rfl (by (try simp only [List.map_toArray,List.map_cons,List.map_nil]);first|done|rfl|(simp only [List.length_drop,List.length_take];rfl)) ?_
        with_reducible refine (ostinatoref05_SameTask.calls k1 ((qak l0 x5_1).f0) ((qak l0 x5_1).f1) ((qak l0 x5_1).f2) ((qak l0 x5_1).f3) ((qak l0 x5_1).f4) _ _ ((qak l0 x5_1).f5) _ _ ((qak l0 x5_1).f6) ((qak l1 x5_1).f0) ((qak l1 x5_1).f1) ((qak l1 x5_1).f2) ((qak l1 x5_1).f3) ((qak l1 x5_1).f4) _ _ ((qak l1 x5_1).f5) _ _ ((qak l1 x5_1).f6) true _ ?side1 ?side2 ?side3 ?side4 ?side5 ?side6 ?side7 ?side8 A7.out).mono ?_
        (case side1=>repeat (first|exact (Kd.C_below HR107_5.out HB.out)|(with_reducible refine Kd.C_alloc ?_ _)|(with_reducible refine Kd.C_drewN ?_ _)|(with_reducible refine Kd.C_drew ?_)))
        (case side2=>exact HC107_5.out)
        (case side3=>repeat (first|exact (Kd.C_below HR107_6.out HB.out)|(with_reducible refine Kd.C_alloc ?_ _)|(with_reducible refine Kd.C_drewN ?_ _)|(with_reducible refine Kd.C_drew ?_)))
        (case side4=>exact HC107_6.out)
        (case side5=>repeat (first|exact (Kd.C_below HR108_5.out HB.out)|(with_reducible refine Kd.C_alloc ?_ _)|(with_reducible refine Kd.C_drewN ?_ _)|(with_reducible refine Kd.C_drew ?_)))
        (case side6=>exact HC108_5.out)
        (case side7=>repeat (first|exact (Kd.C_below HR108_6.out HB.out)|(with_reducible refine Kd.C_alloc ?_ _)|(with_reducible refine Kd.C_drewN ?_ _)|(with_reducible refine Kd.C_drew ?_)))
        (case side8=>exact HC108_6.out)
        rintro e w10 ⟨rfl,hb⟩
        refine⟨_,rfl,?_⟩
        have n0_:=qaf.mk (qal (by repeat (first|(with_reducible first|exact HB.out|apply qae|apply qab|apply qad)|exact HB.out)) hb)
        clear HB
        have HB:=n0_
        clear n0_
        (try clear hb)
        (try clear hb2)
        (try clear hk)
        (try clear hi)
        refine hK.out _ _ ⟨((HB.out.cell (bLt w _ hw107_0)).trans hw107_0),((HB.out.cell (bLt w _ hw107_1)).trans hw107_1),((HB.out.cell (bLt w _ hw107_2)).trans hw107_2),((HB.out.cell (bLt w _ hw107_3)).trans hw107_3),((HB.out.cell (bLt w _ hw107_4)).trans hw107_4),((HB.out.cell (bLt w _ hw107_5)).trans hw107_5),((HB.out.cell (bLt w _ hw107_6)).trans hw107_6),((HB.out.cell (bLt w _ hw108_0)).trans hw108_0),((HB.out.cell (bLt w _ hw108_1)).trans hw108_1),((HB.out.cell (bLt w _ hw108_2)).trans hw108_2),((HB.out.cell (bLt w _ hw108_3)).trans hw108_3),((HB.out.cell (bLt w _ hw108_4)).trans hw108_4),((HB.out.cell (bLt w _ hw108_5)).trans hw108_5),((HB.out.cell (bLt w _ hw108_6)).trans hw108_6)⟩ (fun hHeld=>?_)
        clear hK K
        refine norm_ (a':=?_) ?_ ?_
        rotate_left
        ·show Act.put _ (some 26) _=_
         simp only [Act.put,List.setIfInBounds_toArray,List.set_cons_zero,List.set_cons_succ,qav,qaw]
         rfl
        refine qaE (i:=9) (N:=some 6) (v:=?_) (a':=?_) #[true,true,true,true,true,true,true,true,true,true] rfl rfl (qax HT_.out (by kernel_rfl)) (fun _ _ _ h=>h) (Or.inl ⟨by rfl,?_⟩) ?_ ?_
        rotate_left
        ·intro w'
         go_simp
         with_reducible rfl
        rotate_left
        ·simp only [Act.put,List.setIfInBounds_toArray,List.set_cons_zero,List.set_cons_succ,qav,qaw]
         rfl
        refine done_ (done_of HT_.out (by kernel_rfl)) ?_
        try go_wp2
        go_roundg k1
        case measure=>have:=HK1.out;omega
        case rel=>exact⟨(wrap64 (x5_1+1)),(by first|rfl|(simp;done)|(simp [*];done)),H',⟨by have:=HK1.out;omega⟩,⟨by repeat (first|(with_reducible first|exact HB.out|apply qae|apply qab|apply qad)|exact HB.out)⟩⟩
       ·replace c8:=Bool.eq_false_iff.mpr c8
        subst c8
        have H1:(some false)=some r:=by rw [if_neg (show ¬ (false=true) by decide)] at H;exact H
        clear H
        have H:=H1
        clear H1
        obtain rfl:=Option.some.inj H
        try go_wp2
        have n0_:=qaf.mk (qad HB.out)
        clear HB
        have HB:=n0_
        clear n0_
        have p107:0≤(x5_1:Int):=of_decide_eq_true (by first|(with_reducible assumption)|assumption)
        have q107:x5_1<(l0.length:Int):=of_decide_eq_true (by first|(with_reducible assumption)|assumption)
        obtain⟨ad107,A107_5,c107_5,A107_6,c107_6,e107,hx107_0,hx107_1,hx107_2,hx107_3,hx107_4,hx107_5,hx107_6,hl107_5,hi107_5,hl107_6,hi107_6⟩:=at_T52 HR0.out x5_1 p107 q107
        have hw107_6:=hx107_6
        have hw107_5:=hx107_5
        have hw107_4:=hx107_4
        have hw107_3:=hx107_3
        have hw107_2:=hx107_2
        have hw107_1:=hx107_1
        have hw107_0:=hx107_0
        cases e107
        replace hx107_0:=(HB.out.cell (bLt w _ hx107_0)).trans hx107_0
        replace hx107_1:=(HB.out.cell (bLt w _ hx107_1)).trans hx107_1
        replace hx107_2:=(HB.out.cell (bLt w _ hx107_2)).trans hx107_2
        replace hx107_3:=(HB.out.cell (bLt w _ hx107_3)).trans hx107_3
        replace hx107_4:=(HB.out.cell (bLt w _ hx107_4)).trans hx107_4
        replace hx107_5:=(HB.out.cell (bLt w _ hx107_5)).trans hx107_5
        replace hx107_6:=(HB.out.cell (bLt w _ hx107_6)).trans hx107_6
        have HR107_5:=qaf.mk hi107_5
        have HC107_5:=qaf.mk hl107_5
        clear hi107_5 hl107_5
        have HR107_6:=qaf.mk hi107_6
        have HC107_6:=qaf.mk hl107_6
        clear hi107_6 hl107_6
        replace p107:=eq_true p107
        replace q107:=eq_true q107
        have p108:0≤(x5_1:Int):=of_decide_eq_true (by first|(with_reducible assumption)|assumption)
        have q108:x5_1<(l1.length:Int):=of_decide_eq_true (by first|(with_reducible assumption)|assumption)
        obtain⟨ad108,A108_5,c108_5,A108_6,c108_6,e108,hx108_0,hx108_1,hx108_2,hx108_3,hx108_4,hx108_5,hx108_6,hl108_5,hi108_5,hl108_6,hi108_6⟩:=at_T52 HR1.out x5_1 p108 q108
        have hw108_6:=hx108_6
        have hw108_5:=hx108_5
        have hw108_4:=hx108_4
        have hw108_3:=hx108_3
        have hw108_2:=hx108_2
        have hw108_1:=hx108_1
        have hw108_0:=hx108_0
        cases e108
        replace hx108_0:=(HB.out.cell (bLt w _ hx108_0)).trans hx108_0
        replace hx108_1:=(HB.out.cell (bLt w _ hx108_1)).trans hx108_1
        replace hx108_2:=(HB.out.cell (bLt w _ hx108_2)).trans hx108_2
        replace hx108_3:=(HB.out.cell (bLt w _ hx108_3)).trans hx108_3
        replace hx108_4:=(HB.out.cell (bLt w _ hx108_4)).trans hx108_4
        replace hx108_5:=(HB.out.cell (bLt w _ hx108_5)).trans hx108_5
        replace hx108_6:=(HB.out.cell (bLt w _ hx108_6)).trans hx108_6
        have HR108_5:=qaf.mk hi108_5
        have HC108_5:=qaf.mk hl108_5
        clear hi108_5 hl108_5
        have HR108_6:=qaf.mk hi108_6
        have HC108_6:=qaf.mk hl108_6
        clear hi108_6 hl108_6
        replace p108:=eq_true p108
        replace q108:=eq_true q108
        refine start_ (n:=10) (S:=fun w'=>w'.cell? (ad107.add ((x5_1).toNat * 7))=some (.int .i64 ((qak l0 x5_1).f0))∧w'.cell? ⟨(ad107.add ((x5_1).toNat * 7)).block,(ad107.add ((x5_1).toNat * 7)).off+1,none⟩=some (.int .i64 ((qak l0 x5_1).f1))∧w'.cell? ⟨(ad107.add ((x5_1).toNat * 7)).block,(ad107.add ((x5_1).toNat * 7)).off+2,none⟩=some (.int .i64 ((qak l0 x5_1).f2))∧w'.cell? ⟨(ad107.add ((x5_1).toNat * 7)).block,(ad107.add ((x5_1).toNat * 7)).off+3,none⟩=some (.int .i64 ((qak l0 x5_1).f3))∧w'.cell? ⟨(ad107.add ((x5_1).toNat * 7)).block,(ad107.add ((x5_1).toNat * 7)).off+4,none⟩=some (.int .i64 ((qak l0 x5_1).f4))∧w'.cell? ⟨(ad107.add ((x5_1).toNat * 7)).block,(ad107.add ((x5_1).toNat * 7)).off+5,none⟩=some (.slice A107_5 ((qak l0 x5_1).f5).length c107_5)∧w'.cell? ⟨(ad107.add ((x5_1).toNat * 7)).block,(ad107.add ((x5_1).toNat * 7)).off+6,none⟩=some (.slice A107_6 ((qak l0 x5_1).f6).length c107_6)∧w'.cell? (ad108.add ((x5_1).toNat * 7))=some (.int .i64 ((qak l1 x5_1).f0))∧w'.cell? ⟨(ad108.add ((x5_1).toNat * 7)).block,(ad108.add ((x5_1).toNat * 7)).off+1,none⟩=some (.int .i64 ((qak l1 x5_1).f1))∧w'.cell? ⟨(ad108.add ((x5_1).toNat * 7)).block,(ad108.add ((x5_1).toNat * 7)).off+2,none⟩=some (.int .i64 ((qak l1 x5_1).f2))∧w'.cell? ⟨(ad108.add ((x5_1).toNat * 7)).block,(ad108.add ((x5_1).toNat * 7)).off+3,none⟩=some (.int .i64 ((qak l1 x5_1).f3))∧w'.cell? ⟨(ad108.add ((x5_1).toNat * 7)).block,(ad108.add ((x5_1).toNat * 7)).off+4,none⟩=some (.int .i64 ((qak l1 x5_1).f4))∧w'.cell? ⟨(ad108.add ((x5_1).toNat * 7)).block,(ad108.add ((x5_1).toNat * 7)).off+5,none⟩=some (.slice A108_5 ((qak l1 x5_1).f5).length c108_5)∧w'.cell? ⟨(ad108.add ((x5_1).toNat * 7)).block,(ad108.add ((x5_1).toNat * 7)).off+6,none⟩=some (.slice A108_6 ((qak l1 x5_1).f6).length c108_6)) (ds:=[]) #[false,false,false,false,false,false,false,false,false,false] (by kernel_rfl) rfl rfl ⟨((HB.out.cell (bLt w _ hw107_0)).trans hw107_0),((HB.out.cell (bLt w _ hw107_1)).trans hw107_1),((HB.out.cell (bLt w _ hw107_2)).trans hw107_2),((HB.out.cell (bLt w _ hw107_3)).trans hw107_3),((HB.out.cell (bLt w _ hw107_4)).trans hw107_4),((HB.out.cell (bLt w _ hw107_5)).trans hw107_5),((HB.out.cell (bLt w _ hw107_6)).trans hw107_6),((HB.out.cell (bLt w _ hw108_0)).trans hw108_0),((HB.out.cell (bLt w _ hw108_1)).trans hw108_1),((HB.out.cell (bLt w _ hw108_2)).trans hw108_2),((HB.out.cell (bLt w _ hw108_3)).trans hw108_3),((HB.out.cell (bLt w _ hw108_4)).trans hw108_4),((HB.out.cell (bLt w _ hw108_5)).trans hw108_5),((HB.out.cell (bLt w _ hw108_6)).trans hw108_6)⟩ (fun hHeld=>?_);refine with_tabW ostinatoref05_SameTasks.tab6 ostinatoref05_SameTasks.bits6 (fun HT_ HW_=>?_)
        generalize wr.drew=w11 at HB HR107_5 HR107_6 HR108_5 HR108_6 hx107_0 hx107_1 hx107_2 hx107_3 hx107_4 hx107_5 hx107_6 hx108_0 hx108_1 hx108_2 hx108_3 hx108_4 hx108_5 hx108_6 hHeld ⊢
        refine qaE (i:=0) (N:=some 18) (v:=?_) (a':=?_) #[true,false,false,false,false,false,false,false,false,false] rfl rfl (qax HT_.out (by kernel_rfl)) (fun _ _ _ h=>h) (Or.inl ⟨by rfl,?_⟩) ?_ ?_
        rotate_left
        ·intro w'
         go_simp
         with_reducible rfl
        rotate_left
        ·simp only [Act.put,List.setIfInBounds_toArray,List.set_cons_zero,List.set_cons_succ,qav,qaw]
         rfl
        refine qaE (i:=1) (N:=some 19) (v:=?_) (a':=?_) #[true,true,false,false,false,false,false,false,false,false] rfl rfl (qax HT_.out (by kernel_rfl)) (fun _ _ _ h=>h) (Or.inl ⟨by rfl,?_⟩) ?_ ?_
        rotate_left
        ·intro w'
         go_simp
         with_reducible rfl
        rotate_left
        ·simp only [Act.put,List.setIfInBounds_toArray,List.set_cons_zero,List.set_cons_succ,qav,qaw]
         rfl
        refine qaE (i:=2) (N:=some 20) (v:=?_) (a':=?_) #[true,true,true,false,false,false,false,false,false,false] rfl rfl (qax HT_.out (by kernel_rfl)) (fun _ _ _ h=>h) (Or.inl ⟨by rfl,?_⟩) ?_ ?_
        rotate_left
        ·intro w'
         go_simp
         with_reducible rfl
        rotate_left
        ·simp only [Act.put,List.setIfInBounds_toArray,List.set_cons_zero,List.set_cons_succ,qav,qaw]
         rfl
        refine qaE (i:=4) (N:=some 22) (v:=?_) (a':=?_) #[true,true,true,false,true,false,false,false,false,false] rfl rfl (qax HT_.out (by kernel_rfl)) (fun _ _ _ h=>h) (Or.inl ⟨by rfl,?_⟩) ?_ ?_
        rotate_left
        ·intro w'
         go_simp
         with_reducible rfl
        rotate_left
        ·simp only [Act.put,List.setIfInBounds_toArray,List.set_cons_zero,List.set_cons_succ,qav,qaw]
         rfl
        refine qaE (i:=5) (N:=some 23) (v:=?_) (a':=?_) #[true,true,true,false,true,true,false,false,false,false] rfl rfl (qax HT_.out (by kernel_rfl)) (fun _ _ _ h=>h) (Or.inl ⟨by rfl,?_⟩) ?_ ?_
        rotate_left
        ·intro w'
         go_simp
         with_reducible rfl
        rotate_left
        ·simp only [Act.put,List.setIfInBounds_toArray,List.set_cons_zero,List.set_cons_succ,qav,qaw]
         rfl
        refine qaE (i:=6) (N:=some 24) (v:=?_) (a':=?_) #[true,true,true,false,true,true,true,false,false,false] rfl rfl (qax HT_.out (by kernel_rfl)) (fun _ _ _ h=>h) (Or.inl ⟨by rfl,?_⟩) ?_ ?_
        rotate_left
        ·intro w'
         go_simp
         with_reducible rfl
        rotate_left
        ·simp only [Act.put,List.setIfInBounds_toArray,List.set_cons_zero,List.set_cons_succ,qav,qaw]
         rfl
        refine take_ (i:=3) (N:=some 21) (v:=?_) (a':=?_) #[true,true,true,true,true,true,true,false,false,false] rfl rfl (qaH HT_.out HW_.out (by kernel_rfl)) (fun _ _ _ h=>h) (Or.inl ⟨by rfl,?_⟩) hHeld ?_ ?_
        rotate_left
        ·rintro w' ⟨s0,s1,s2,s3,s4,s5,s6,s7,s8,s9,s10,s11,s12,s13⟩
         go_simp
         with_reducible rfl
        rotate_left
        ·simp only [Act.put,List.setIfInBounds_toArray,List.set_cons_zero,List.set_cons_succ,qav,qaw]
         rfl
        refine take_ (i:=7) (N:=some 25) (v:=?_) (a':=?_) #[true,true,true,true,true,true,true,true,false,false] rfl rfl (qaH HT_.out HW_.out (by kernel_rfl)) (fun _ _ _ h=>h) (Or.inl ⟨by rfl,?_⟩) hHeld ?_ ?_
        rotate_left
        ·rintro w' ⟨s0,s1,s2,s3,s4,s5,s6,s7,s8,s9,s10,s11,s12,s13⟩
         go_simp
         with_reducible rfl
        rotate_left
        ·simp only [Act.put,List.setIfInBounds_toArray,List.set_cons_zero,List.set_cons_succ,qav,qaw]
         rfl
        refine one_ (i:=8) (N:=some 26) #[true,true,true,true,true,true,true,true,true,false] rfl rfl (one_of HT_.out (by kernel_rfl)) (by decide) (fun K hK=>?_)
        refine goes_ Tryd.func56 (by kernel_rfl) rfl #[.agg #[.int .i64 ((qak l0 x5_1).f0),.int .i64 ((qak l0 x5_1).f1),.int .i64 ((qak l0 x5_1).f2),.int .i64 ((qak l0 x5_1).f3),.int .i64 ((qak l0 x5_1).f4),.slice A107_5 ((qak l0 x5_1).f5).length c107_5,.slice A107_6 ((qak l0 x5_1).f6).length c107_6],.agg #[.int .i64 ((qak l1 x5_1).f0),.int .i64 ((qak l1 x5_1).f1),.int .i64 ((qak l1 x5_1).f2),.int .i64 ((qak l1 x5_1).f3),.int .i64 ((qak l1 x5_1).f4),.slice A108_5 ((qak l1 x5_1).f5).length c108_5,.slice A108_6 ((qak l1 x5_1).f6).length c108_6]] (by rfl) rfl rfl (by (try simp only [List.map_toArray,List.map_cons,List.map_nil]);first|done|rfl|(simp only [List.length_drop,List.length_take];rfl)) ?_
        with_reducible refine (ostinatoref05_SameTask.calls k1 ((qak l0 x5_1).f0) ((qak l0 x5_1).f1) ((qak l0 x5_1).f2) ((qak l0 x5_1).f3) ((qak l0 x5_1).f4) _ _ ((qak l0 x5_1).f5) _ _ ((qak l0 x5_1).f6) ((qak l1 x5_1).f0) ((qak l1 x5_1).f1) ((qak l1 x5_1).f2) ((qak l1 x5_1).f3) ((qak l1 x5_1).f4) _ _ ((qak l1 x5_1).f5) _ _ ((qak l1 x5_1).f6) false _ ?side1 ?side2 ?side3 ?side4 ?side5 ?side6 ?side7 ?side8 A7.out).mono ?_
        (case side1=>repeat (first|exact (Kd.C_below HR107_5.out HB.out)|(with_reducible refine Kd.C_alloc ?_ _)|(with_reducible refine Kd.C_drewN ?_ _)|(with_reducible refine Kd.C_drew ?_)))
        (case side2=>exact HC107_5.out)
        (case side3=>repeat (first|exact (Kd.C_below HR107_6.out HB.out)|(with_reducible refine Kd.C_alloc ?_ _)|(with_reducible refine Kd.C_drewN ?_ _)|(with_reducible refine Kd.C_drew ?_)))
        (case side4=>exact HC107_6.out)
        (case side5=>repeat (first|exact (Kd.C_below HR108_5.out HB.out)|(with_reducible refine Kd.C_alloc ?_ _)|(with_reducible refine Kd.C_drewN ?_ _)|(with_reducible refine Kd.C_drew ?_)))
        (case side6=>exact HC108_5.out)
        (case side7=>repeat (first|exact (Kd.C_below HR108_6.out HB.out)|(with_reducible refine Kd.C_alloc ?_ _)|(with_reducible refine Kd.C_drewN ?_ _)|(with_reducible refine Kd.C_drew ?_)))
        (case side8=>exact HC108_6.out)
        rintro e w12 ⟨rfl,hb⟩
        refine⟨_,rfl,?_⟩
        have n0_:=qaf.mk (qal (by repeat (first|(with_reducible first|exact HB.out|apply qae|apply qab|apply qad)|exact HB.out)) hb)
        clear HB
        have HB:=n0_
        clear n0_
        (try clear hb)
        (try clear hb2)
        (try clear hk)
        (try clear hi)
        refine hK.out _ _ ⟨((HB.out.cell (bLt w _ hw107_0)).trans hw107_0),((HB.out.cell (bLt w _ hw107_1)).trans hw107_1),((HB.out.cell (bLt w _ hw107_2)).trans hw107_2),((HB.out.cell (bLt w _ hw107_3)).trans hw107_3),((HB.out.cell (bLt w _ hw107_4)).trans hw107_4),((HB.out.cell (bLt w _ hw107_5)).trans hw107_5),((HB.out.cell (bLt w _ hw107_6)).trans hw107_6),((HB.out.cell (bLt w _ hw108_0)).trans hw108_0),((HB.out.cell (bLt w _ hw108_1)).trans hw108_1),((HB.out.cell (bLt w _ hw108_2)).trans hw108_2),((HB.out.cell (bLt w _ hw108_3)).trans hw108_3),((HB.out.cell (bLt w _ hw108_4)).trans hw108_4),((HB.out.cell (bLt w _ hw108_5)).trans hw108_5),((HB.out.cell (bLt w _ hw108_6)).trans hw108_6)⟩ (fun hHeld=>?_)
        clear hK K
        refine norm_ (a':=?_) ?_ ?_
        rotate_left
        ·show Act.put _ (some 26) _=_
         simp only [Act.put,List.setIfInBounds_toArray,List.set_cons_zero,List.set_cons_succ,qav,qaw]
         rfl
        refine qaE (i:=9) (N:=some 6) (v:=?_) (a':=?_) #[true,true,true,true,true,true,true,true,true,true] rfl rfl (qax HT_.out (by kernel_rfl)) (fun _ _ _ h=>h) (Or.inl ⟨by rfl,?_⟩) ?_ ?_
        rotate_left
        ·intro w'
         go_simp
         with_reducible rfl
        rotate_left
        ·simp only [Act.put,List.setIfInBounds_toArray,List.set_cons_zero,List.set_cons_succ,qav,qaw]
         rfl
        refine done_ (done_of HT_.out (by kernel_rfl)) ?_
        try go_wp2
        go_ret
        exact⟨by first|rfl|(simp [qao,qan]<;>rfl)|(simp [bneNil,bneNilU]<;>rfl)|(simp [*,qao,qan]<;>rfl),by repeat (first|(with_reducible first|exact HB.out|apply qae|apply qab|apply qad)|exact HB.out)⟩
      ·rw [if_neg c6] at H
       exact absurd H (by simp)
     ·rw [if_neg c5] at H
      exact absurd H (by simp)
    ·rw [if_neg c4] at H
     have c4b0:decide (x5_1<(l0.length:Int))=false:=decide_eq_false c4
     clear c4
     obtain rfl:=Option.some.inj H
     go_wp2
     go_ret
     exact⟨by first|rfl|(simp [qao,qan]<;>rfl)|(simp [bneNil,bneNilU]<;>rfl)|(simp [*,qao,qan]<;>rfl),by repeat (first|(with_reducible first|exact HB.out|apply qae|apply qab|apply qad)|exact HB.out)⟩
 ·rw [if_neg c3] at H
  have c3b0:((l0.length:Int) == (l1.length:Int))=false:=beq_eq_false_iff_ne.mpr c3
  have c3b1:((l0.length:Int) != (l1.length:Int))=true:=bne_iff_ne.mpr c3
  have c3b2:(l0.length == l1.length)=false:=by first|simpa using c3|(simp at c3 ⊢;omega)
  obtain rfl:=Option.some.inj H
  go_enter Tryd.func30,Tryd.ntmps30
  go_wp2
  go_ret
  exact⟨by first|rfl|(simp [qao,qan]<;>rfl)|(simp [bneNil,bneNilU]<;>rfl)|(simp [*,qao,qan]<;>rfl),by repeat (first|(with_reducible first|exact HB.out|apply qae|apply qab|apply qad)|exact HB.out)⟩
def ostinatoref05_Same.f (k:Nat) (a0_0:Int) (a0_1:Int) (l0_2:List (S52)) (a1_0:Int) (a1_1:Int) (l1_2:List (S52)):Option (Bool):=(ostinatoref05_SameTasks.f k l0_2 l1_2).bind fun t112=>(if t112=true then (if a0_0=a1_0 then (some (a0_1 == a1_1)) else (some false)) else (some false))
theorem ostinatoref05_Same.calls (k:Nat) (a0_0:Int) (a0_1:Int) (A0_2:Option Addr) (c0_2:Nat) (l0_2:List (S52)) (a1_0:Int) (a1_1:Int) (A1_2:Option Addr) (c1_2:Nat) (l1_2:List (S52)) (r:Bool) (w:World) (hr0_2:Kd.C k52 w A0_2 l0_2.length l0_2) (hc0_2:l0_2.length≤c0_2) (hr1_2:Kd.C k52 w A1_2 l1_2.length l1_2) (hc1_2:l1_2.length≤c1_2) (h:ostinatoref05_Same.f k a0_0 a0_1 l0_2 a1_0 a1_1 l1_2=some r) :
  Calls Tryd.prog 14 #[.agg #[.int .i64 a0_0,.int .i64 a0_1,.slice A0_2 l0_2.length c0_2],.agg #[.int .i64 a1_0,.int .i64 a1_1,.slice A1_2 l1_2.length c1_2]] w fun e w'=>e=.returned (.bool r)∧Below w.heap.size w w':=by
 have hu32:=Tryd.underlying32
 have HR0_2:=qaf.mk hr0_2
 have HC0_2:=qaf.mk hc0_2
 clear hr0_2 hc0_2
 have HR1_2:=qaf.mk hr1_2
 have HC1_2:=qaf.mk hc1_2
 clear hr1_2 hc1_2
 have HB:=qaf.mk (Below.refl w.heap.size w)
 have H:((ostinatoref05_SameTasks.f k l0_2 l1_2).bind fun t112=>(if t112=true then (if a0_0=a1_0 then (some (a0_1 == a1_1)) else (some false)) else (some false)))=some r:=h
 clear h
 replace H:=Option.bind_eq_some_iff.mp H
 obtain⟨t112,A30,H⟩:=H
 replace H:(if t112=true then (if a0_0=a1_0 then (some (a0_1 == a1_1)) else (some false)) else (some false))=some r:=H
 have A3:=qaf.mk A30
 clear A30
 by_cases c4:t112=true
 ·subst c4
  have H1:(if a0_0=a1_0 then (some (a0_1 == a1_1)) else (some false))=some r:=by rw [if_pos rfl] at H;exact H
  clear H
  have H:=H1
  clear H1
  by_cases c5:a0_0=a1_0
  ·rw [if_pos c5] at H
   have c5b0:(a0_0 == a1_0)=true:=beq_iff_eq.mpr c5
   have c5b1:(a0_0 != a1_0)=false:=bne_eq_false_iff_eq.mpr c5
   clear c5
   obtain rfl:=Option.some.inj H
   go_enter Tryd.func14,Tryd.ntmps14
   go_wp2_with (first|((with_reducible refine qaD (N:=2) rfl ?_);refine qay ?hg (N:=2) ?hd (cs:=#[.int .i64 a0_0,.int .i64 a0_1,.slice A0_2 l0_2.length c0_2]) (t:=32) ?hr ?_;(case hd=>rfl);(case hg=>rfl);(case hr=>first|(go_simp;done)|(go_simp;rfl));intro gb110 hg w6 hbox hb;have n0_:=qaf.mk (qal (by repeat (first|(with_reducible first|exact HB.out|apply qae|apply qab|apply qad)|exact HB.out)) hb);have n1_:=qaf.mk (hbox);have n2_:=qaf.mk ((by rw [hg];exact (qam (by repeat (first|(with_reducible first|exact HB.out|apply qae|apply qab|apply qad)|exact HB.out))):w.heap.size≤gb110));have n3_:=qaf.mk ((by rw [hg];exact (qam (by repeat (first|(with_reducible first|exact HB.out|apply qae|apply qab|apply qad)|exact HB.out))):w.heap.size≤gb110));clear HB;have HB:=n0_;have BK110:=n1_;have GW110:=n2_;have GE110:=n3_;clear n0_ n1_ n2_ n3_;clear hb hbox hg)|((with_reducible refine qaD (N:=3) rfl ?_);refine qay ?hg (N:=3) ?hd (cs:=#[.int .i64 a1_0,.int .i64 a1_1,.slice A1_2 l1_2.length c1_2]) (t:=32) ?hr ?_;(case hd=>rfl);(case hg=>rfl);(case hr=>first|(go_simp;done)|(go_simp;rfl));intro gb111 hg w7 hbox hb;have n0_:=qaf.mk (qas (g:=gb110) (o:=.cells #[.int .i64 a0_0,.int .i64 a0_1,.slice A0_2 l0_2.length c0_2] 32 (0,0)) (by (with_reducible repeat (first|refine qah ?_ _|refine qaj ?_|refine qai ?_ _));exact BK110.out) hb);have n1_:=qaf.mk (qal (by repeat (first|(with_reducible first|exact HB.out|apply qae|apply qab|apply qad|refine qag ?_ GE110.out)|exact HB.out)) hb);have n2_:=qaf.mk (hbox);have n3_:=qaf.mk ((by rw [hg];exact (qam (by repeat (first|(with_reducible first|exact HB.out|apply qae|apply qab|apply qad|refine qag ?_ GE110.out)|exact HB.out))):w.heap.size≤gb111));have n4_:=qaf.mk ((by rw [hg];exact (qam (by repeat (first|(with_reducible first|exact HB.out|apply qae|apply qab|apply qad|refine qag ?_ GE110.out)|exact HB.out))):w.heap.size≤gb111));have n5_:=qaf.mk ((by rw [hg];exact Nat.ne_of_lt (qaQ (g:=gb110) (o:=.cells #[.int .i64 a0_0,.int .i64 a0_1,.slice A0_2 l0_2.length c0_2] 32 (0,0)) (by (with_reducible repeat (first|refine qah ?_ _|refine qaj ?_|refine qai ?_ _));exact BK110.out)):gb110≠gb111));have n6_:=qaf.mk ((by rw [hg];exact Nat.ne_of_gt (qaQ (g:=gb110) (o:=.cells #[.int .i64 a0_0,.int .i64 a0_1,.slice A0_2 l0_2.length c0_2] 32 (0,0)) (by (with_reducible repeat (first|refine qah ?_ _|refine qaj ?_|refine qai ?_ _));exact BK110.out)):gb111≠gb110));clear BK110;clear HB;have BK110:=n0_;have HB:=n1_;have BK111:=n2_;have GW111:=n3_;have GE111:=n4_;have NB110_111:=n5_;have NB111_110:=n6_;clear n0_ n1_ n2_ n3_ n4_ n5_ n6_;clear hb hbox hg;have hnb8:=NB110_111.out;have hnc8:=NB111_110.out;have hcz9_0:w7.cell? ⟨gb110,0,none⟩=some (.int .i64 a0_0):=(qac BK110.out 0).trans rfl;have hcz9_1:w7.cell? ⟨gb110,1,none⟩=some (.int .i64 a0_1):=(qac BK110.out 1).trans rfl;have hcz9_2:w7.cell? ⟨gb110,2,none⟩=some (.slice A0_2 l0_2.length c0_2):=(qac BK110.out 2).trans rfl;have hfz9_0:=qaa BK110.out 0;have hfz9_1:=qaa BK110.out 1;have hfz9_2:=qaa BK110.out 2;have hcz10_0:w7.cell? ⟨gb111,0,none⟩=some (.int .i64 a1_0):=(qac BK111.out 0).trans rfl;have hcz10_1:w7.cell? ⟨gb111,1,none⟩=some (.int .i64 a1_1):=(qac BK111.out 1).trans rfl;have hcz10_2:w7.cell? ⟨gb111,2,none⟩=some (.slice A1_2 l1_2.length c1_2):=(qac BK111.out 2).trans rfl;have hfz10_0:=qaa BK111.out 0;have hfz10_1:=qaa BK111.out 1;have hfz10_2:=qaa BK111.out 2)|((with_reducible refine qaq (f:=30) rfl ?_);refine qaC (some 10) rfl rfl Tryd.func30 (by kernel_rfl) rfl #[.slice A0_2 l0_2.length c0_2,.slice A1_2 l1_2.length c1_2] rfl (by (try simp only [List.map_toArray,List.map_cons,List.map_nil]);first|done|rfl|(simp only [List.length_drop,List.length_take];rfl)) ?_;(with_reducible refine (ostinatoref05_SameTasks.calls k _ _ l0_2 _ _ l1_2 true _ ?side1 ?side2 ?side3 ?side4 A3.out).mono ?_);(case side1=>repeat (first|exact (Kd.C_below HR0_2.out HB.out)|(with_reducible refine Kd.C_alloc ?_ _)|(with_reducible refine Kd.C_drewN ?_ _)|(with_reducible refine Kd.C_drew ?_)));(case side2=>exact HC0_2.out);(case side3=>repeat (first|exact (Kd.C_below HR1_2.out HB.out)|(with_reducible refine Kd.C_alloc ?_ _)|(with_reducible refine Kd.C_drewN ?_ _)|(with_reducible refine Kd.C_drew ?_)));(case side4=>exact HC1_2.out);rintro e w11 ⟨rfl,hb⟩;refine⟨_,rfl,?_⟩;have n0_:=qaf.mk (qas (g:=gb110) (o:=.cells #[.int .i64 a0_0,.int .i64 a0_1,.slice A0_2 l0_2.length c0_2] 32 (0,0)) (by (with_reducible repeat (first|refine qah ?_ _|refine qaj ?_|refine qai ?_ _));exact BK110.out) hb);have n1_:=qaf.mk (qas (g:=gb111) (o:=.cells #[.int .i64 a1_0,.int .i64 a1_1,.slice A1_2 l1_2.length c1_2] 32 (0,0)) (by (with_reducible repeat (first|refine qah ?_ _|refine qaj ?_|refine qai ?_ _));exact BK111.out) hb);have n2_:=qaf.mk (qal (by repeat (first|(with_reducible first|exact HB.out|apply qae|apply qab|apply qad|refine qag ?_ GE110.out|refine qag ?_ GE111.out)|exact HB.out)) hb);clear BK110;clear BK111;clear HB;have BK110:=n0_;have BK111:=n1_;have HB:=n2_;clear n0_ n1_ n2_;(try clear hb);(try clear hb2);(try clear hk);(try clear hi);have hcz12_0:w11.cell? ⟨gb110,0,none⟩=some (.int .i64 a0_0):=(qac BK110.out 0).trans rfl;have hcz12_1:w11.cell? ⟨gb110,1,none⟩=some (.int .i64 a0_1):=(qac BK110.out 1).trans rfl;have hcz12_2:w11.cell? ⟨gb110,2,none⟩=some (.slice A0_2 l0_2.length c0_2):=(qac BK110.out 2).trans rfl;have hfz12_0:=qaa BK110.out 0;have hfz12_1:=qaa BK110.out 1;have hfz12_2:=qaa BK110.out 2;have hcz13_0:w11.cell? ⟨gb111,0,none⟩=some (.int .i64 a1_0):=(qac BK111.out 0).trans rfl;have hcz13_1:w11.cell? ⟨gb111,1,none⟩=some (.int .i64 a1_1):=(qac BK111.out 1).trans rfl;have hcz13_2:w11.cell? ⟨gb111,2,none⟩=some (.slice A1_2 l1_2.length c1_2):=(qac BK111.out 2).trans rfl;have hfz13_0:=qaa BK111.out 0;have hfz13_1:=qaa BK111.out 1;have hfz13_2:=qaa BK111.out 2))
   go_ret
   exact⟨by first|rfl|(simp [qao,qan]<;>rfl)|(simp [bneNil,bneNilU]<;>rfl)|(simp [*,qao,qan]<;>rfl),by repeat (first|(with_reducible first|exact HB.out|apply qae|apply qab|apply qad|refine qag ?_ GE110.out|refine qag ?_ GE111.out)|exact HB.out)⟩
  ·rw [if_neg c5] at H
   have c5b0:(a0_0 == a1_0)=false:=beq_eq_false_iff_ne.mpr c5
   have c5b1:(a0_0 != a1_0)=true:=bne_iff_ne.mpr c5
   obtain rfl:=Option.some.inj H
   go_enter Tryd.func14,Tryd.ntmps14
   go_wp2_with (first|((with_reducible refine qaD (N:=2) rfl ?_);refine qay ?hg (N:=2) ?hd (cs:=#[.int .i64 a0_0,.int .i64 a0_1,.slice A0_2 l0_2.length c0_2]) (t:=32) ?hr ?_;(case hd=>rfl);(case hg=>rfl);(case hr=>first|(go_simp;done)|(go_simp;rfl));intro gb110 hg w14 hbox hb;have n0_:=qaf.mk (qal (by repeat (first|(with_reducible first|exact HB.out|apply qae|apply qab|apply qad)|exact HB.out)) hb);have n1_:=qaf.mk (hbox);have n2_:=qaf.mk ((by rw [hg];exact (qam (by repeat (first|(with_reducible first|exact HB.out|apply qae|apply qab|apply qad)|exact HB.out))):w.heap.size≤gb110));have n3_:=qaf.mk ((by rw [hg];exact (qam (by repeat (first|(with_reducible first|exact HB.out|apply qae|apply qab|apply qad)|exact HB.out))):w.heap.size≤gb110));clear HB;have HB:=n0_;have BK110:=n1_;have GW110:=n2_;have GE110:=n3_;clear n0_ n1_ n2_ n3_;clear hb hbox hg)|((with_reducible refine qaD (N:=3) rfl ?_);refine qay ?hg (N:=3) ?hd (cs:=#[.int .i64 a1_0,.int .i64 a1_1,.slice A1_2 l1_2.length c1_2]) (t:=32) ?hr ?_;(case hd=>rfl);(case hg=>rfl);(case hr=>first|(go_simp;done)|(go_simp;rfl));intro gb111 hg w15 hbox hb;have n0_:=qaf.mk (qas (g:=gb110) (o:=.cells #[.int .i64 a0_0,.int .i64 a0_1,.slice A0_2 l0_2.length c0_2] 32 (0,0)) (by (with_reducible repeat (first|refine qah ?_ _|refine qaj ?_|refine qai ?_ _));exact BK110.out) hb);have n1_:=qaf.mk (qal (by repeat (first|(with_reducible first|exact HB.out|apply qae|apply qab|apply qad|refine qag ?_ GE110.out)|exact HB.out)) hb);have n2_:=qaf.mk (hbox);have n3_:=qaf.mk ((by rw [hg];exact (qam (by repeat (first|(with_reducible first|exact HB.out|apply qae|apply qab|apply qad|refine qag ?_ GE110.out)|exact HB.out))):w.heap.size≤gb111));have n4_:=qaf.mk ((by rw [hg];exact (qam (by repeat (first|(with_reducible first|exact HB.out|apply qae|apply qab|apply qad|refine qag ?_ GE110.out)|exact HB.out))):w.heap.size≤gb111));have n5_:=qaf.mk ((by rw [hg];exact Nat.ne_of_lt (qaQ (g:=gb110) (o:=.cells #[.int .i64 a0_0,.int .i64 a0_1,.slice A0_2 l0_2.length c0_2] 32 (0,0)) (by (with_reducible repeat (first|refine qah ?_ _|refine qaj ?_|refine qai ?_ _));exact BK110.out)):gb110≠gb111));have n6_:=qaf.mk ((by rw [hg];exact Nat.ne_of_gt (qaQ (g:=gb110) (o:=.cells #[.int .i64 a0_0,.int .i64 a0_1,.slice A0_2 l0_2.length c0_2] 32 (0,0)) (by (with_reducible repeat (first|refine qah ?_ _|refine qaj ?_|refine qai ?_ _));exact BK110.out)):gb111≠gb110));clear BK110;clear HB;have BK110:=n0_;have HB:=n1_;have BK111:=n2_;have GW111:=n3_;have GE111:=n4_;have NB110_111:=n5_;have NB111_110:=n6_;clear n0_ n1_ n2_ n3_ n4_ n5_ n6_;clear hb hbox hg;have hnb16:=NB110_111.out;have hnc16:=NB111_110.out;have hcz17_0:w15.cell? ⟨gb110,0,none⟩=some (.int .i64 a0_0):=(qac BK110.out 0).trans rfl;have hcz17_1:w15.cell? ⟨gb110,1,none⟩=some (.int .i64 a0_1):=(qac BK110.out 1).trans rfl;have hcz17_2:w15.cell? ⟨gb110,2,none⟩=some (.slice A0_2 l0_2.length c0_2):=(qac BK110.out 2).trans rfl;have hfz17_0:=qaa BK110.out 0;have hfz17_1:=qaa BK110.out 1;have hfz17_2:=qaa BK110.out 2;have hcz18_0:w15.cell? ⟨gb111,0,none⟩=some (.int .i64 a1_0):=(qac BK111.out 0).trans rfl;have hcz18_1:w15.cell? ⟨gb111,1,none⟩=some (.int .i64 a1_1):=(qac BK111.out 1).trans rfl;have hcz18_2:w15.cell? ⟨gb111,2,none⟩=some (.slice A1_2 l1_2.length c1_2):=(qac BK111.out 2).trans rfl;have hfz18_0:=qaa BK111.out 0;have hfz18_1:=qaa BK111.out 1;have hfz18_2:=qaa BK111.out 2)|((with_reducible refine qaq (f:=30) rfl ?_);refine qaC (some 10) rfl rfl Tryd.func30 (by kernel_rfl) rfl #[.slice A0_2 l0_2.length c0_2,.slice A1_2 l1_2.length c1_2] rfl (by (try simp only [List.map_toArray,List.map_cons,List.map_nil]);first|done|rfl|(simp only [List.length_drop,List.length_take];rfl)) ?_;(with_reducible refine (ostinatoref05_SameTasks.calls k _ _ l0_2 _ _ l1_2 true _ ?side1 ?side2 ?side3 ?side4 A3.out).mono ?_);(case side1=>repeat (first|exact (Kd.C_below HR0_2.out HB.out)|(with_reducible refine Kd.C_alloc ?_ _)|(with_reducible refine Kd.C_drewN ?_ _)|(with_reducible refine Kd.C_drew ?_)));(case side2=>exact HC0_2.out);(case side3=>repeat (first|exact (Kd.C_below HR1_2.out HB.out)|(with_reducible refine Kd.C_alloc ?_ _)|(with_reducible refine Kd.C_drewN ?_ _)|(with_reducible refine Kd.C_drew ?_)));(case side4=>exact HC1_2.out);rintro e w19 ⟨rfl,hb⟩;refine⟨_,rfl,?_⟩;have n0_:=qaf.mk (qas (g:=gb110) (o:=.cells #[.int .i64 a0_0,.int .i64 a0_1,.slice A0_2 l0_2.length c0_2] 32 (0,0)) (by (with_reducible repeat (first|refine qah ?_ _|refine qaj ?_|refine qai ?_ _));exact BK110.out) hb);have n1_:=qaf.mk (qas (g:=gb111) (o:=.cells #[.int .i64 a1_0,.int .i64 a1_1,.slice A1_2 l1_2.length c1_2] 32 (0,0)) (by (with_reducible repeat (first|refine qah ?_ _|refine qaj ?_|refine qai ?_ _));exact BK111.out) hb);have n2_:=qaf.mk (qal (by repeat (first|(with_reducible first|exact HB.out|apply qae|apply qab|apply qad|refine qag ?_ GE110.out|refine qag ?_ GE111.out)|exact HB.out)) hb);clear BK110;clear BK111;clear HB;have BK110:=n0_;have BK111:=n1_;have HB:=n2_;clear n0_ n1_ n2_;(try clear hb);(try clear hb2);(try clear hk);(try clear hi);have hcz20_0:w19.cell? ⟨gb110,0,none⟩=some (.int .i64 a0_0):=(qac BK110.out 0).trans rfl;have hcz20_1:w19.cell? ⟨gb110,1,none⟩=some (.int .i64 a0_1):=(qac BK110.out 1).trans rfl;have hcz20_2:w19.cell? ⟨gb110,2,none⟩=some (.slice A0_2 l0_2.length c0_2):=(qac BK110.out 2).trans rfl;have hfz20_0:=qaa BK110.out 0;have hfz20_1:=qaa BK110.out 1;have hfz20_2:=qaa BK110.out 2;have hcz21_0:w19.cell? ⟨gb111,0,none⟩=some (.int .i64 a1_0):=(qac BK111.out 0).trans rfl;have hcz21_1:w19.cell? ⟨gb111,1,none⟩=some (.int .i64 a1_1):=(qac BK111.out 1).trans rfl;have hcz21_2:w19.cell? ⟨gb111,2,none⟩=some (.slice A1_2 l1_2.length c1_2):=(qac BK111.out 2).trans rfl;have hfz21_0:=qaa BK111.out 0;have hfz21_1:=qaa BK111.out 1;have hfz21_2:=qaa BK111.out 2))
   go_ret
   exact⟨by first|rfl|(simp [qao,qan]<;>rfl)|(simp [bneNil,bneNilU]<;>rfl)|(simp [*,qao,qan]<;>rfl),by repeat (first|(with_reducible first|exact HB.out|apply qae|apply qab|apply qad|refine qag ?_ GE110.out|refine qag ?_ GE111.out)|exact HB.out)⟩
 ·replace c4:=Bool.eq_false_iff.mpr c4
  subst c4
  have H1:(some false)=some r:=by rw [if_neg (show ¬ (false=true) by decide)] at H;exact H
  clear H
  have H:=H1
  clear H1
  obtain rfl:=Option.some.inj H
  go_enter Tryd.func14,Tryd.ntmps14
  go_wp2_with (first|((with_reducible refine qaD (N:=2) rfl ?_);refine qay ?hg (N:=2) ?hd (cs:=#[.int .i64 a0_0,.int .i64 a0_1,.slice A0_2 l0_2.length c0_2]) (t:=32) ?hr ?_;(case hd=>rfl);(case hg=>rfl);(case hr=>first|(go_simp;done)|(go_simp;rfl));intro gb110 hg w22 hbox hb;have n0_:=qaf.mk (qal (by repeat (first|(with_reducible first|exact HB.out|apply qae|apply qab|apply qad)|exact HB.out)) hb);have n1_:=qaf.mk (hbox);have n2_:=qaf.mk ((by rw [hg];exact (qam (by repeat (first|(with_reducible first|exact HB.out|apply qae|apply qab|apply qad)|exact HB.out))):w.heap.size≤gb110));have n3_:=qaf.mk ((by rw [hg];exact (qam (by repeat (first|(with_reducible first|exact HB.out|apply qae|apply qab|apply qad)|exact HB.out))):w.heap.size≤gb110));clear HB;have HB:=n0_;have BK110:=n1_;have GW110:=n2_;have GE110:=n3_;clear n0_ n1_ n2_ n3_;clear hb hbox hg)|((with_reducible refine qaD (N:=3) rfl ?_);refine qay ?hg (N:=3) ?hd (cs:=#[.int .i64 a1_0,.int .i64 a1_1,.slice A1_2 l1_2.length c1_2]) (t:=32) ?hr ?_;(case hd=>rfl);(case hg=>rfl);(case hr=>first|(go_simp;done)|(go_simp;rfl));intro gb111 hg w23 hbox hb;have n0_:=qaf.mk (qas (g:=gb110) (o:=.cells #[.int .i64 a0_0,.int .i64 a0_1,.slice A0_2 l0_2.length c0_2] 32 (0,0)) (by (with_reducible repeat (first|refine qah ?_ _|refine qaj ?_|refine qai ?_ _));exact BK110.out) hb);have n1_:=qaf.mk (qal (by repeat (first|(with_reducible first|exact HB.out|apply qae|apply qab|apply qad|refine qag ?_ GE110.out)|exact HB.out)) hb);have n2_:=qaf.mk (hbox);have n3_:=qaf.mk ((by rw [hg];exact (qam (by repeat (first|(with_reducible first|exact HB.out|apply qae|apply qab|apply qad|refine qag ?_ GE110.out)|exact HB.out))):w.heap.size≤gb111));have n4_:=qaf.mk ((by rw [hg];exact (qam (by repeat (first|(with_reducible first|exact HB.out|apply qae|apply qab|apply qad|refine qag ?_ GE110.out)|exact HB.out))):w.heap.size≤gb111));have n5_:=qaf.mk ((by rw [hg];exact Nat.ne_of_lt (qaQ (g:=gb110) (o:=.cells #[.int .i64 a0_0,.int .i64 a0_1,.slice A0_2 l0_2.length c0_2] 32 (0,0)) (by (with_reducible repeat (first|refine qah ?_ _|refine qaj ?_|refine qai ?_ _));exact BK110.out)):gb110≠gb111));have n6_:=qaf.mk ((by rw [hg];exact Nat.ne_of_gt (qaQ (g:=gb110) (o:=.cells #[.int .i64 a0_0,.int .i64 a0_1,.slice A0_2 l0_2.length c0_2] 32 (0,0)) (by (with_reducible repeat (first|refine qah ?_ _|refine qaj ?_|refine qai ?_ _));exact BK110.out)):gb111≠gb110));clear BK110;clear HB;have BK110:=n0_;have HB:=n1_;have BK111:=n2_;have GW111:=n3_;have GE111:=n4_;have NB110_111:=n5_;have NB111_110:=n6_;clear n0_ n1_ n2_ n3_ n4_ n5_ n6_;clear hb hbox hg;have hnb24:=NB110_111.out;have hnc24:=NB111_110.out;have hcz25_0:w23.cell? ⟨gb110,0,none⟩=some (.int .i64 a0_0):=(qac BK110.out 0).trans rfl;have hcz25_1:w23.cell? ⟨gb110,1,none⟩=some (.int .i64 a0_1):=(qac BK110.out 1).trans rfl;have hcz25_2:w23.cell? ⟨gb110,2,none⟩=some (.slice A0_2 l0_2.length c0_2):=(qac BK110.out 2).trans rfl;have hfz25_0:=qaa BK110.out 0;have hfz25_1:=qaa BK110.out 1;have hfz25_2:=qaa BK110.out 2;have hcz26_0:w23.cell? ⟨gb111,0,none⟩=some (.int .i64 a1_0):=(qac BK111.out 0).trans rfl;have hcz26_1:w23.cell? ⟨gb111,1,none⟩=some (.int .i64 a1_1):=(qac BK111.out 1).trans rfl;have hcz26_2:w23.cell? ⟨gb111,2,none⟩=some (.slice A1_2 l1_2.length c1_2):=(qac BK111.out 2).trans rfl;have hfz26_0:=qaa BK111.out 0;have hfz26_1:=qaa BK111.out 1;have hfz26_2:=qaa BK111.out 2)|((with_reducible refine qaq (f:=30) rfl ?_);refine qaC (some 10) rfl rfl Tryd.func30 (by kernel_rfl) rfl #[.slice A0_2 l0_2.length c0_2,.slice A1_2 l1_2.length c1_2] rfl (by (try simp only [List.map_toArray,List.map_cons,List.map_nil]);first|done|rfl|(simp only [List.length_drop,List.length_take];rfl)) ?_;(with_reducible refine (ostinatoref05_SameTasks.calls k _ _ l0_2 _ _ l1_2 false _ ?side1 ?side2 ?side3 ?side4 A3.out).mono ?_);(case side1=>repeat (first|exact (Kd.C_below HR0_2.out HB.out)|(with_reducible refine Kd.C_alloc ?_ _)|(with_reducible refine Kd.C_drewN ?_ _)|(with_reducible refine Kd.C_drew ?_)));(case side2=>exact HC0_2.out);(case side3=>repeat (first|exact (Kd.C_below HR1_2.out HB.out)|(with_reducible refine Kd.C_alloc ?_ _)|(with_reducible refine Kd.C_drewN ?_ _)|(with_reducible refine Kd.C_drew ?_)));(case side4=>exact HC1_2.out);rintro e w27 ⟨rfl,hb⟩;refine⟨_,rfl,?_⟩;have n0_:=qaf.mk (qas (g:=gb110) (o:=.cells #[.int .i64 a0_0,.int .i64 a0_1,.slice A0_2 l0_2.length c0_2] 32 (0,0)) (by (with_reducible repeat (first|refine qah ?_ _|refine qaj ?_|refine qai ?_ _));exact BK110.out) hb);have n1_:=qaf.mk (qas (g:=gb111) (o:=.cells #[.int .i64 a1_0,.int .i64 a1_1,.slice A1_2 l1_2.length c1_2] 32 (0,0)) (by (with_reducible repeat (first|refine qah ?_ _|refine qaj ?_|refine qai ?_ _));exact BK111.out) hb);have n2_:=qaf.mk (qal (by repeat (first|(with_reducible first|exact HB.out|apply qae|apply qab|apply qad|refine qag ?_ GE110.out|refine qag ?_ GE111.out)|exact HB.out)) hb);clear BK110;clear BK111;clear HB;have BK110:=n0_;have BK111:=n1_;have HB:=n2_;clear n0_ n1_ n2_;(try clear hb);(try clear hb2);(try clear hk);(try clear hi)))
  go_ret
  exact⟨by first|rfl|(simp [qao,qan]<;>rfl)|(simp [bneNil,bneNilU]<;>rfl)|(simp [*,qao,qan]<;>rfl),by repeat (first|(with_reducible first|exact HB.out|apply qae|apply qab|apply qad|refine qag ?_ GE110.out|refine qag ?_ GE111.out)|exact HB.out)⟩
def tkOf (x:S52):Tk:=⟨x.f0,x.f1,x.f2,x.f3,x.f4,x.f5,x.f6⟩
theorem C_of_tk {w:World} {A:Option Addr} {L:List S52} (h:Kd.C k52 w A L.length L):Kd.C kTk w A (L.map tkOf).length (L.map tkOf):=by
 obtain⟨h1,h2,h3⟩:=h
 refine⟨rfl,by rw [List.length_map];exact h2,fun hl=>?_⟩
 rw [List.length_map] at hl
 obtain⟨ad,e,hc⟩:=h3 hl
 refine⟨ad,e,fun j p hj=>?_⟩
 rw [List.getElem?_map] at hj
 cases hx:L[j]? with
 |none=>rw [hx] at hj;cases hj
 |some x=>
  rw [hx] at hj
  obtain rfl:=Option.some.inj hj
  obtain⟨c,a1,a2,a3⟩:=hc j x hx
  exact⟨c,a1,a2,a3⟩
def prnOk (L:List S52):Bool:=decide (L.length≤70000) && L.all fun x=>decide (x.f5.length≤1000000) && decide (x.f6.length≤1000000) && decide (x.f1≤9223372036854775807)
def parse_Print.f (a0_0 a0_1:Int) (l0_2:List S52):Option ByteArray:=if prnOk l0_2=true then some (if checkE a0_0 a0_1 (l0_2.map tkOf)=0 then printT a0_0 a0_1 (l0_2.map tkOf) else ⟨#[]⟩) else none
theorem parse_Print.calls (a0_0:Int) (a0_1:Int) (A0_2:Option Addr) (c0_2:Nat) (l0_2:List S52) (r:ByteArray) (w:World) (hr0_2:Kd.C k52 w A0_2 l0_2.length l0_2) (hc0_2:l0_2.length≤c0_2) (h:parse_Print.f a0_0 a0_1 l0_2=some r) (hT:Tabs w) :
  Calls Tryd.prog 15 #[.agg #[.int .i64 a0_0,.int .i64 a0_1,.slice A0_2 l0_2.length c0_2]] w fun e w'=>e=.returned (.string r)∧Below w.heap.size w w':=by
 unfold parse_Print.f at h
 split at h
 ·rename_i h1
  obtain rfl:=Option.some.inj h
  unfold prnOk at h1
  simp only [Bool.and_eq_true,decide_eq_true_eq] at h1
  have:=print_any a0_0 a0_1 A0_2 c0_2 (l0_2.map tkOf) w (by rw [List.length_map];exact h1.1) (fun x hx=>by
   obtain⟨y,hy,rfl⟩:=List.mem_map.1 hx
   have:=List.all_eq_true.1 h1.2 y hy
   simp only [Bool.and_eq_true,decide_eq_true_eq] at this
   exact⟨this.1.1,this.1.2,this.2⟩) (tkrow_of_C (C_of_tk hr0_2)) hT.1.1 hT.1.2
  rw [List.length_map] at this
  exact this
 ·cases h
end
end Go.Proofs.YtcfknijdhmildaaDoor.PParseRight
end
section
namespace Go.Proofs.YtcfknijdhmildaaDoor.PParseRight
open Go.RowKit Go.Proofs.YtcfknijdhmildaaDoorW.PrintWords Go.Proofs.YtcfknijdhmildaaDoorW.PrintLast Go.Proofs.YtcfknijdhmildaaDoorW.PrintMore
attribute [local go_sem] max2_int min2_int max_two min_two max_three min_three max_four min_four
set_option linter.unusedVariables false
set_option linter.unusedSimpArgs false
noncomputable section
mutual
def ostinatoref05_Right.j0:Nat→Int→Bool→Int→Int→Int→Int→Int→List Int→List Int→Option (Int)
 |0,_,_,_,_,_,_,_,_,_=>none
 |k+1,x1,x25,x114000,x114001,x114002,x114003,x114004,x114005,x114006=>if x25=true then (some 1) else (if x114001<1 then (ostinatoref05_Right.j1 k x1 true x114000 x114001 x114002 x114003 x114004 x114005 x114006) else (if x114001 > x114002 then (ostinatoref05_Right.j1 k x1 true x114000 x114001 x114002 x114003 x114004 x114005 x114006) else (if x114002 > x114003 then (ostinatoref05_Right.j1 k x1 true x114000 x114001 x114002 x114003 x114004 x114005 x114006) else (ostinatoref05_Right.j1 k x1 (decide (x114003 > 1073741824)) x114000 x114001 x114002 x114003 x114004 x114005 x114006))))
def ostinatoref05_Right.j1:Nat→Int→Bool→Int→Int→Int→Int→Int→List Int→List Int→Option (Int)
 |0,_,_,_,_,_,_,_,_,_=>none
 |k+1,x1,x47,x114000,x114001,x114002,x114003,x114004,x114005,x114006=>if x47=true then (some 10) else (ostinatoref05_Right.l0 k x1 x114001 0 x114000 x114001 x114002 x114003 x114004 x114005 x114006)
def ostinatoref05_Right.l0:Nat→Int→Int→Int→Int→Int→Int→Int→Int→List Int→List Int→Option (Int)
 |0,_,_,_,_,_,_,_,_,_,_=>none
 |k+1,x1,x5,x6,x114000,x114001,x114002,x114003,x114004,x114005,x114006=>if x6<(x114005.length:Int) then (if 0≤x6 then (if (rd x114005 x6)<1 then (some 13) else (if (rd x114005 x6) > x5 then (some 13) else (ostinatoref05_Right.l0 k x1 (wrap64 (x5 - (rd x114005 x6))) (wrap64 (x6+1)) x114000 x114001 x114002 x114003 x114004 x114005 x114006))) else (none)) else (if (x114005.length:Int) > 64 then (ostinatoref05_Right.j3 k x1 true x114000 x114001 x114002 x114003 x114004 x114005 x114006) else (if (x114005.length:Int) > 0 then (ostinatoref05_Right.j3 k x1 (x5 != 0) x114000 x114001 x114002 x114003 x114004 x114005 x114006) else (ostinatoref05_Right.j3 k x1 false x114000 x114001 x114002 x114003 x114004 x114005 x114006)))
def ostinatoref05_Right.j3:Nat→Int→Bool→Int→Int→Int→Int→Int→List Int→List Int→Option (Int)
 |0,_,_,_,_,_,_,_,_,_=>none
 |k+1,x1,x92,x114000,x114001,x114002,x114003,x114004,x114005,x114006=>if x92=true then (some 13) else (ostinatoref05_Right.l1 k x1 0 x114000 x114001 x114002 x114003 x114004 x114005 x114006)
def ostinatoref05_Right.l1:Nat→Int→Int→Int→Int→Int→Int→Int→List Int→List Int→Option (Int)
 |0,_,_,_,_,_,_,_,_,_=>none
 |k+1,x1,x7,x114000,x114001,x114002,x114003,x114004,x114005,x114006=>if x7<(x114006.length:Int) then (if 0≤x7 then (if (rd x114006 x7)<0 then (some 12) else (if (rd x114006 x7) ≥ x1 then (some 12) else (ostinatoref05_Right.l1 k x1 (wrap64 (x7+1)) x114000 x114001 x114002 x114003 x114004 x114005 x114006))) else (none)) else (if (x114006.length:Int) > 64 then (some 12) else (some 0))
end
def ostinatoref05_Right.f (k:Nat) (a0_0:Int) (a0_1:Int) (a0_2:Int) (a0_3:Int) (a0_4:Int) (l0_5:List Int) (l0_6:List Int) (a1:Int):Option (Int):=if a0_0<1 then (ostinatoref05_Right.j0 k a1 true a0_0 a0_1 a0_2 a0_3 a0_4 l0_5 l0_6) else (if a0_0 > 99 then (ostinatoref05_Right.j0 k a1 true a0_0 a0_1 a0_2 a0_3 a0_4 l0_5 l0_6) else (if a0_4<1 then (ostinatoref05_Right.j0 k a1 true a0_0 a0_1 a0_2 a0_3 a0_4 l0_5 l0_6) else (ostinatoref05_Right.j0 k a1 (decide (a0_4 > 99)) a0_0 a0_1 a0_2 a0_3 a0_4 l0_5 l0_6)))
theorem ostinatoref05_Right.calls (k:Nat) (a0_0:Int) (a0_1:Int) (a0_2:Int) (a0_3:Int) (a0_4:Int) (A0_5:Option Addr) (c0_5:Nat) (l0_5:List Int) (A0_6:Option Addr) (c0_6:Nat) (l0_6:List Int) (a1:Int) (r:Int) (w:World) (hr0_5:Kd.C (Kd.int .i64) w A0_5 l0_5.length l0_5) (hc0_5:l0_5.length≤c0_5) (hr0_6:Kd.C (Kd.int .i64) w A0_6 l0_6.length l0_6) (hc0_6:l0_6.length≤c0_6) (h:ostinatoref05_Right.f k a0_0 a0_1 a0_2 a0_3 a0_4 l0_5 l0_6 a1=some r) :
  Calls Tryd.prog 35 #[.agg #[.int .i64 a0_0,.int .i64 a0_1,.int .i64 a0_2,.int .i64 a0_3,.int .i64 a0_4,.slice A0_5 l0_5.length c0_5,.slice A0_6 l0_6.length c0_6],.int .i64 a1] w fun e w'=>e=.returned (.int .i64 r)∧Below w.heap.size w w':=by
 have hu52:=Tryd.underlying52
 have HR0_5:=qaf.mk hr0_5
 have HC0_5:=qaf.mk hc0_5
 clear hr0_5 hc0_5
 have HR0_6:=qaf.mk hr0_6
 have HC0_6:=qaf.mk hc0_6
 clear hr0_6 hc0_6
 have HB:=qaf.mk (Below.refl w.heap.size w)
 have H:(if a0_0<1 then (ostinatoref05_Right.j0 k a1 true a0_0 a0_1 a0_2 a0_3 a0_4 l0_5 l0_6) else (if a0_0 > 99 then (ostinatoref05_Right.j0 k a1 true a0_0 a0_1 a0_2 a0_3 a0_4 l0_5 l0_6) else (if a0_4<1 then (ostinatoref05_Right.j0 k a1 true a0_0 a0_1 a0_2 a0_3 a0_4 l0_5 l0_6) else (ostinatoref05_Right.j0 k a1 (decide (a0_4 > 99)) a0_0 a0_1 a0_2 a0_3 a0_4 l0_5 l0_6))))=some r:=h
 clear h
 have HC3:=qaf.mk H
 clear H
 go_enter Tryd.func35,Tryd.ntmps35
 go_upto_region 1 with (first|((with_reducible refine qaD (N:=2) rfl ?_);(try (refine qaz (by rfl) ?_;dsimp only));refine qay ?hg (N:=2) ?hd (cs:=#[.int .i64 a0_0,.int .i64 a0_1,.int .i64 a0_2,.int .i64 a0_3,.int .i64 a0_4,.slice A0_5 l0_5.length c0_5,.slice A0_6 l0_6.length c0_6]) (t:=52) ?hr ?_;(case hd=>rfl);(case hg=>rfl);(case hr=>first|(go_simp;done)|(go_simp;rfl));intro gb113 hg w4 hbox hb;have n0_:=qaf.mk (qal (by repeat (first|(with_reducible first|exact HB.out|apply qae|apply qab|apply qad)|exact HB.out)) hb);have n1_:=qaf.mk (hbox);have n2_:=qaf.mk ((by rw [hg];exact (qam (by repeat (first|(with_reducible first|exact HB.out|apply qae|apply qab|apply qad)|exact HB.out))):w.heap.size≤gb113));have n3_:=qaf.mk ((by rw [hg];exact (qam (by repeat (first|(with_reducible first|exact HB.out|apply qae|apply qab|apply qad)|exact HB.out))):w.heap.size≤gb113));clear HB;have HB:=n0_;have BK113:=n1_;have GW113:=n2_;have GE113:=n3_;clear n0_ n1_ n2_ n3_;clear hb hbox hg))
 (try simp only [Act.put,List.setIfInBounds_toArray,List.set_cons_zero,List.set_cons_succ])
 go_cut [25] (fun v25 wc=>∃ (kq:Nat) (x25_2:Bool),v25=.bool x25_2∧qaf (ostinatoref05_Right.j0 kq a1 x25_2 a0_0 a0_1 a0_2 a0_3 a0_4 l0_5 l0_6=some r)∧qaf (kq≤k)∧qaf (wc.heap[gb113]? = some (.cells #[.int .i64 a0_0,.int .i64 a0_1,.int .i64 a0_2,.int .i64 a0_3,.int .i64 a0_4,(.slice A0_5 l0_5.length c0_5),(.slice A0_6 l0_6.length c0_6)] 52 (0,0)))∧qaf (Below w.heap.size w wc))
 case first=>
  have H:=HC3.out
  clear HC3
  by_cases c5:a0_0<1
  ·rw [if_pos c5] at H
   have c5b0:decide (a0_0<1)=true:=decide_eq_true c5
   clear c5
   (first|rw [c5b0]|(simp only [qav,qaw];rw [c5b0])|skip)
   have H':=qaf.mk H
   clear H
   have hcz6_0:w4.cell? ⟨gb113,0,none⟩=some (.int .i64 a0_0):=(qac BK113.out 0).trans rfl
   have hcz6_1:w4.cell? ⟨gb113,1,none⟩=some (.int .i64 a0_1):=(qac BK113.out 1).trans rfl
   have hcz6_2:w4.cell? ⟨gb113,2,none⟩=some (.int .i64 a0_2):=(qac BK113.out 2).trans rfl
   have hcz6_3:w4.cell? ⟨gb113,3,none⟩=some (.int .i64 a0_3):=(qac BK113.out 3).trans rfl
   have hcz6_4:w4.cell? ⟨gb113,4,none⟩=some (.int .i64 a0_4):=(qac BK113.out 4).trans rfl
   have hcz6_5:w4.cell? ⟨gb113,5,none⟩=some (.slice A0_5 l0_5.length c0_5):=(qac BK113.out 5).trans rfl
   have hcz6_6:w4.cell? ⟨gb113,6,none⟩=some (.slice A0_6 l0_6.length c0_6):=(qac BK113.out 6).trans rfl
   have hfz6_0:=qaa BK113.out 0
   have hfz6_1:=qaa BK113.out 1
   have hfz6_2:=qaa BK113.out 2
   have hfz6_3:=qaa BK113.out 3
   have hfz6_4:=qaa BK113.out 4
   have hfz6_5:=qaa BK113.out 5
   have hfz6_6:=qaa BK113.out 6
   go_wp2
   go_meet
   case rel=>exact⟨_,(true),(by first|rfl|(simp;done)|(simp [*];done)),H',⟨by first|omega|exact Nat.le_refl _⟩,⟨by (with_reducible repeat (first|refine qah ?_ _|refine qaj ?_|refine qai ?_ _));exact BK113.out⟩,⟨by repeat (first|(with_reducible first|exact HB.out|apply qae|apply qab|apply qad|refine qag ?_ GE113.out)|exact HB.out)⟩⟩
  ·rw [if_neg c5] at H
   have c5b0:decide (a0_0<1)=false:=decide_eq_false c5
   clear c5
   (first|rw [c5b0]|(simp only [qav,qaw];rw [c5b0])|skip)
   by_cases c7:a0_0 > 99
   ·rw [if_pos c7] at H
    have c7b0:decide (99<a0_0)=true:=decide_eq_true c7
    clear c7
    have H':=qaf.mk H
    clear H
    have hcz8_0:w4.cell? ⟨gb113,0,none⟩=some (.int .i64 a0_0):=(qac BK113.out 0).trans rfl
    have hcz8_1:w4.cell? ⟨gb113,1,none⟩=some (.int .i64 a0_1):=(qac BK113.out 1).trans rfl
    have hcz8_2:w4.cell? ⟨gb113,2,none⟩=some (.int .i64 a0_2):=(qac BK113.out 2).trans rfl
    have hcz8_3:w4.cell? ⟨gb113,3,none⟩=some (.int .i64 a0_3):=(qac BK113.out 3).trans rfl
    have hcz8_4:w4.cell? ⟨gb113,4,none⟩=some (.int .i64 a0_4):=(qac BK113.out 4).trans rfl
    have hcz8_5:w4.cell? ⟨gb113,5,none⟩=some (.slice A0_5 l0_5.length c0_5):=(qac BK113.out 5).trans rfl
    have hcz8_6:w4.cell? ⟨gb113,6,none⟩=some (.slice A0_6 l0_6.length c0_6):=(qac BK113.out 6).trans rfl
    have hfz8_0:=qaa BK113.out 0
    have hfz8_1:=qaa BK113.out 1
    have hfz8_2:=qaa BK113.out 2
    have hfz8_3:=qaa BK113.out 3
    have hfz8_4:=qaa BK113.out 4
    have hfz8_5:=qaa BK113.out 5
    have hfz8_6:=qaa BK113.out 6
    go_wp2
    go_meet
    case rel=>exact⟨_,(true),(by first|rfl|(simp;done)|(simp [*];done)),H',⟨by first|omega|exact Nat.le_refl _⟩,⟨by (with_reducible repeat (first|refine qah ?_ _|refine qaj ?_|refine qai ?_ _));exact BK113.out⟩,⟨by repeat (first|(with_reducible first|exact HB.out|apply qae|apply qab|apply qad|refine qag ?_ GE113.out)|exact HB.out)⟩⟩
   ·rw [if_neg c7] at H
    have c7b0:decide (99<a0_0)=false:=decide_eq_false c7
    clear c7
    by_cases c9:a0_4<1
    ·rw [if_pos c9] at H
     have c9b0:decide (a0_4<1)=true:=decide_eq_true c9
     clear c9
     have H':=qaf.mk H
     clear H
     have hcz10_0:w4.cell? ⟨gb113,0,none⟩=some (.int .i64 a0_0):=(qac BK113.out 0).trans rfl
     have hcz10_1:w4.cell? ⟨gb113,1,none⟩=some (.int .i64 a0_1):=(qac BK113.out 1).trans rfl
     have hcz10_2:w4.cell? ⟨gb113,2,none⟩=some (.int .i64 a0_2):=(qac BK113.out 2).trans rfl
     have hcz10_3:w4.cell? ⟨gb113,3,none⟩=some (.int .i64 a0_3):=(qac BK113.out 3).trans rfl
     have hcz10_4:w4.cell? ⟨gb113,4,none⟩=some (.int .i64 a0_4):=(qac BK113.out 4).trans rfl
     have hcz10_5:w4.cell? ⟨gb113,5,none⟩=some (.slice A0_5 l0_5.length c0_5):=(qac BK113.out 5).trans rfl
     have hcz10_6:w4.cell? ⟨gb113,6,none⟩=some (.slice A0_6 l0_6.length c0_6):=(qac BK113.out 6).trans rfl
     have hfz10_0:=qaa BK113.out 0
     have hfz10_1:=qaa BK113.out 1
     have hfz10_2:=qaa BK113.out 2
     have hfz10_3:=qaa BK113.out 3
     have hfz10_4:=qaa BK113.out 4
     have hfz10_5:=qaa BK113.out 5
     have hfz10_6:=qaa BK113.out 6
     go_wp2
     go_meet
     case rel=>exact⟨_,(true),(by first|rfl|(simp;done)|(simp [*];done)),H',⟨by first|omega|exact Nat.le_refl _⟩,⟨by (with_reducible repeat (first|refine qah ?_ _|refine qaj ?_|refine qai ?_ _));exact BK113.out⟩,⟨by repeat (first|(with_reducible first|exact HB.out|apply qae|apply qab|apply qad|refine qag ?_ GE113.out)|exact HB.out)⟩⟩
    ·rw [if_neg c9] at H
     have c9b0:decide (a0_4<1)=false:=decide_eq_false c9
     clear c9
     have H':=qaf.mk H
     clear H
     have hcz11_0:w4.cell? ⟨gb113,0,none⟩=some (.int .i64 a0_0):=(qac BK113.out 0).trans rfl
     have hcz11_1:w4.cell? ⟨gb113,1,none⟩=some (.int .i64 a0_1):=(qac BK113.out 1).trans rfl
     have hcz11_2:w4.cell? ⟨gb113,2,none⟩=some (.int .i64 a0_2):=(qac BK113.out 2).trans rfl
     have hcz11_3:w4.cell? ⟨gb113,3,none⟩=some (.int .i64 a0_3):=(qac BK113.out 3).trans rfl
     have hcz11_4:w4.cell? ⟨gb113,4,none⟩=some (.int .i64 a0_4):=(qac BK113.out 4).trans rfl
     have hcz11_5:w4.cell? ⟨gb113,5,none⟩=some (.slice A0_5 l0_5.length c0_5):=(qac BK113.out 5).trans rfl
     have hcz11_6:w4.cell? ⟨gb113,6,none⟩=some (.slice A0_6 l0_6.length c0_6):=(qac BK113.out 6).trans rfl
     have hfz11_0:=qaa BK113.out 0
     have hfz11_1:=qaa BK113.out 1
     have hfz11_2:=qaa BK113.out 2
     have hfz11_3:=qaa BK113.out 3
     have hfz11_4:=qaa BK113.out 4
     have hfz11_5:=qaa BK113.out 5
     have hfz11_6:=qaa BK113.out 6
     go_wp2
     go_meet
     case rel=>exact⟨_,(decide (a0_4 > 99)),(by first|rfl|(simp;done)|(simp [*];done)),H',⟨by first|omega|exact Nat.le_refl _⟩,⟨by (with_reducible repeat (first|refine qah ?_ _|refine qaj ?_|refine qai ?_ _));exact BK113.out⟩,⟨by repeat (first|(with_reducible first|exact HB.out|apply qae|apply qab|apply qad|refine qag ?_ GE113.out)|exact HB.out)⟩⟩
 case rest=>
  clear HC3
  try clear p2
  try clear c3
  try clear c5
  try clear c5b0
  try clear c7
  try clear c7b0
  try clear c9
  try clear c9b0
  try clear hcz10_0
  try clear hcz10_1
  try clear hcz10_2
  try clear hcz10_3
  try clear hcz10_4
  try clear hcz10_5
  try clear hcz10_6
  try clear hcz11_0
  try clear hcz11_1
  try clear hcz11_2
  try clear hcz11_3
  try clear hcz11_4
  try clear hcz11_5
  try clear hcz11_6
  try clear hcz6_0
  try clear hcz6_1
  try clear hcz6_2
  try clear hcz6_3
  try clear hcz6_4
  try clear hcz6_5
  try clear hcz6_6
  try clear hcz8_0
  try clear hcz8_1
  try clear hcz8_2
  try clear hcz8_3
  try clear hcz8_4
  try clear hcz8_5
  try clear hcz8_6
  try clear hfz10_0
  try clear hfz10_1
  try clear hfz10_2
  try clear hfz10_3
  try clear hfz10_4
  try clear hfz10_5
  try clear hfz10_6
  try clear hfz11_0
  try clear hfz11_1
  try clear hfz11_2
  try clear hfz11_3
  try clear hfz11_4
  try clear hfz11_5
  try clear hfz11_6
  try clear hfz6_0
  try clear hfz6_1
  try clear hfz6_2
  try clear hfz6_3
  try clear hfz6_4
  try clear hfz6_5
  try clear hfz6_6
  try clear hfz8_0
  try clear hfz8_1
  try clear hfz8_2
  try clear hfz8_3
  try clear hfz8_4
  try clear hfz8_5
  try clear hfz8_6
  obtain⟨kq,x25_2,rfl,HA,HJ2,BK113,HB⟩:=hcut
  cases kq with
  |zero=>exact absurd HA.out (by simp [ostinatoref05_Right.j0])
  |succ kj2=>
   have H:=HA.out
   clear HA
   simp only [ostinatoref05_Right.j0] at H
   by_cases c12:x25_2=true
   ·subst c12
    have H1:(some 1)=some r:=by rw [if_pos rfl] at H;exact H
    clear H
    have H:=H1
    clear H1
    obtain rfl:=Option.some.inj H
    go_wp2
    go_ret
    exact⟨by first|rfl|(simp [qao,qan]<;>rfl)|(simp [bneNil,bneNilU]<;>rfl)|(simp [*,qao,qan]<;>rfl),by repeat (first|(with_reducible first|exact HB.out|apply qae|apply qab|apply qad|refine qag ?_ GE113.out)|exact HB.out)⟩
   ·replace c12:=Bool.eq_false_iff.mpr c12
    subst c12
    have H1:(if a0_1<1 then (ostinatoref05_Right.j1 kj2 a1 true a0_0 a0_1 a0_2 a0_3 a0_4 l0_5 l0_6) else (if a0_1 > a0_2 then (ostinatoref05_Right.j1 kj2 a1 true a0_0 a0_1 a0_2 a0_3 a0_4 l0_5 l0_6) else (if a0_2 > a0_3 then (ostinatoref05_Right.j1 kj2 a1 true a0_0 a0_1 a0_2 a0_3 a0_4 l0_5 l0_6) else (ostinatoref05_Right.j1 kj2 a1 (decide (a0_3 > 1073741824)) a0_0 a0_1 a0_2 a0_3 a0_4 l0_5 l0_6))))=some r:=by rw [if_neg (show ¬ (false=true) by decide)] at H;exact H
    clear H
    have H:=H1
    clear H1
    have HC13:=qaf.mk H
    clear H
    go_upto_region 3 with (fail)
    go_cut [47] (fun v47 wc=>∃ (kq:Nat) (x47_12:Bool),v47=.bool x47_12∧qaf (ostinatoref05_Right.j1 kq a1 x47_12 a0_0 a0_1 a0_2 a0_3 a0_4 l0_5 l0_6=some r)∧qaf (kq≤kj2)∧qaf (wc.heap[gb113]? = some (.cells #[.int .i64 a0_0,.int .i64 a0_1,.int .i64 a0_2,.int .i64 a0_3,.int .i64 a0_4,(.slice A0_5 l0_5.length c0_5),(.slice A0_6 l0_6.length c0_6)] 52 (0,0)))∧qaf (Below w.heap.size w wc))
    case first=>
     have H:=HC13.out
     clear HC13
     by_cases c14:a0_1<1
     ·rw [if_pos c14] at H
      have c14b0:decide (a0_1<1)=true:=decide_eq_true c14
      clear c14
      (first|rw [c14b0]|(simp only [qav,qaw];rw [c14b0])|skip)
      have H':=qaf.mk H
      clear H
      have hcz15_0:wc.cell? ⟨gb113,0,none⟩=some (.int .i64 a0_0):=(qac BK113.out 0).trans rfl
      have hcz15_1:wc.cell? ⟨gb113,1,none⟩=some (.int .i64 a0_1):=(qac BK113.out 1).trans rfl
      have hcz15_2:wc.cell? ⟨gb113,2,none⟩=some (.int .i64 a0_2):=(qac BK113.out 2).trans rfl
      have hcz15_3:wc.cell? ⟨gb113,3,none⟩=some (.int .i64 a0_3):=(qac BK113.out 3).trans rfl
      have hcz15_4:wc.cell? ⟨gb113,4,none⟩=some (.int .i64 a0_4):=(qac BK113.out 4).trans rfl
      have hcz15_5:wc.cell? ⟨gb113,5,none⟩=some (.slice A0_5 l0_5.length c0_5):=(qac BK113.out 5).trans rfl
      have hcz15_6:wc.cell? ⟨gb113,6,none⟩=some (.slice A0_6 l0_6.length c0_6):=(qac BK113.out 6).trans rfl
      have hfz15_0:=qaa BK113.out 0
      have hfz15_1:=qaa BK113.out 1
      have hfz15_2:=qaa BK113.out 2
      have hfz15_3:=qaa BK113.out 3
      have hfz15_4:=qaa BK113.out 4
      have hfz15_5:=qaa BK113.out 5
      have hfz15_6:=qaa BK113.out 6
      go_wp2
      go_meet
      case rel=>exact⟨_,(true),(by first|rfl|(simp;done)|(simp [*];done)),H',⟨by have:=HJ2.out;first|omega|exact Nat.le_refl _⟩,⟨by (with_reducible repeat (first|refine qah ?_ _|refine qaj ?_|refine qai ?_ _));exact BK113.out⟩,⟨by repeat (first|(with_reducible first|exact HB.out|apply qae|apply qab|apply qad|refine qag ?_ GE113.out)|exact HB.out)⟩⟩
     ·rw [if_neg c14] at H
      have c14b0:decide (a0_1<1)=false:=decide_eq_false c14
      clear c14
      (first|rw [c14b0]|(simp only [qav,qaw];rw [c14b0])|skip)
      by_cases c16:a0_1 > a0_2
      ·rw [if_pos c16] at H
       have c16b0:decide (a0_2<a0_1)=true:=decide_eq_true c16
       clear c16
       have H':=qaf.mk H
       clear H
       have hcz17_0:wc.cell? ⟨gb113,0,none⟩=some (.int .i64 a0_0):=(qac BK113.out 0).trans rfl
       have hcz17_1:wc.cell? ⟨gb113,1,none⟩=some (.int .i64 a0_1):=(qac BK113.out 1).trans rfl
       have hcz17_2:wc.cell? ⟨gb113,2,none⟩=some (.int .i64 a0_2):=(qac BK113.out 2).trans rfl
       have hcz17_3:wc.cell? ⟨gb113,3,none⟩=some (.int .i64 a0_3):=(qac BK113.out 3).trans rfl
       have hcz17_4:wc.cell? ⟨gb113,4,none⟩=some (.int .i64 a0_4):=(qac BK113.out 4).trans rfl
       have hcz17_5:wc.cell? ⟨gb113,5,none⟩=some (.slice A0_5 l0_5.length c0_5):=(qac BK113.out 5).trans rfl
       have hcz17_6:wc.cell? ⟨gb113,6,none⟩=some (.slice A0_6 l0_6.length c0_6):=(qac BK113.out 6).trans rfl
       have hfz17_0:=qaa BK113.out 0
       have hfz17_1:=qaa BK113.out 1
       have hfz17_2:=qaa BK113.out 2
       have hfz17_3:=qaa BK113.out 3
       have hfz17_4:=qaa BK113.out 4
       have hfz17_5:=qaa BK113.out 5
       have hfz17_6:=qaa BK113.out 6
       go_wp2
       go_meet
       case rel=>exact⟨_,(true),(by first|rfl|(simp;done)|(simp [*];done)),H',⟨by have:=HJ2.out;first|omega|exact Nat.le_refl _⟩,⟨by (with_reducible repeat (first|refine qah ?_ _|refine qaj ?_|refine qai ?_ _));exact BK113.out⟩,⟨by repeat (first|(with_reducible first|exact HB.out|apply qae|apply qab|apply qad|refine qag ?_ GE113.out)|exact HB.out)⟩⟩
      ·rw [if_neg c16] at H
       have c16b0:decide (a0_2<a0_1)=false:=decide_eq_false c16
       clear c16
       by_cases c18:a0_2 > a0_3
       ·rw [if_pos c18] at H
        have c18b0:decide (a0_3<a0_2)=true:=decide_eq_true c18
        clear c18
        have H':=qaf.mk H
        clear H
        have hcz19_0:wc.cell? ⟨gb113,0,none⟩=some (.int .i64 a0_0):=(qac BK113.out 0).trans rfl
        have hcz19_1:wc.cell? ⟨gb113,1,none⟩=some (.int .i64 a0_1):=(qac BK113.out 1).trans rfl
        have hcz19_2:wc.cell? ⟨gb113,2,none⟩=some (.int .i64 a0_2):=(qac BK113.out 2).trans rfl
        have hcz19_3:wc.cell? ⟨gb113,3,none⟩=some (.int .i64 a0_3):=(qac BK113.out 3).trans rfl
        have hcz19_4:wc.cell? ⟨gb113,4,none⟩=some (.int .i64 a0_4):=(qac BK113.out 4).trans rfl
        have hcz19_5:wc.cell? ⟨gb113,5,none⟩=some (.slice A0_5 l0_5.length c0_5):=(qac BK113.out 5).trans rfl
        have hcz19_6:wc.cell? ⟨gb113,6,none⟩=some (.slice A0_6 l0_6.length c0_6):=(qac BK113.out 6).trans rfl
        have hfz19_0:=qaa BK113.out 0
        have hfz19_1:=qaa BK113.out 1
        have hfz19_2:=qaa BK113.out 2
        have hfz19_3:=qaa BK113.out 3
        have hfz19_4:=qaa BK113.out 4
        have hfz19_5:=qaa BK113.out 5
        have hfz19_6:=qaa BK113.out 6
        go_wp2
        go_meet
        case rel=>exact⟨_,(true),(by first|rfl|(simp;done)|(simp [*];done)),H',⟨by have:=HJ2.out;first|omega|exact Nat.le_refl _⟩,⟨by (with_reducible repeat (first|refine qah ?_ _|refine qaj ?_|refine qai ?_ _));exact BK113.out⟩,⟨by repeat (first|(with_reducible first|exact HB.out|apply qae|apply qab|apply qad|refine qag ?_ GE113.out)|exact HB.out)⟩⟩
       ·rw [if_neg c18] at H
        have c18b0:decide (a0_3<a0_2)=false:=decide_eq_false c18
        clear c18
        have H':=qaf.mk H
        clear H
        have hcz20_0:wc.cell? ⟨gb113,0,none⟩=some (.int .i64 a0_0):=(qac BK113.out 0).trans rfl
        have hcz20_1:wc.cell? ⟨gb113,1,none⟩=some (.int .i64 a0_1):=(qac BK113.out 1).trans rfl
        have hcz20_2:wc.cell? ⟨gb113,2,none⟩=some (.int .i64 a0_2):=(qac BK113.out 2).trans rfl
        have hcz20_3:wc.cell? ⟨gb113,3,none⟩=some (.int .i64 a0_3):=(qac BK113.out 3).trans rfl
        have hcz20_4:wc.cell? ⟨gb113,4,none⟩=some (.int .i64 a0_4):=(qac BK113.out 4).trans rfl
        have hcz20_5:wc.cell? ⟨gb113,5,none⟩=some (.slice A0_5 l0_5.length c0_5):=(qac BK113.out 5).trans rfl
        have hcz20_6:wc.cell? ⟨gb113,6,none⟩=some (.slice A0_6 l0_6.length c0_6):=(qac BK113.out 6).trans rfl
        have hfz20_0:=qaa BK113.out 0
        have hfz20_1:=qaa BK113.out 1
        have hfz20_2:=qaa BK113.out 2
        have hfz20_3:=qaa BK113.out 3
        have hfz20_4:=qaa BK113.out 4
        have hfz20_5:=qaa BK113.out 5
        have hfz20_6:=qaa BK113.out 6
        go_wp2
        go_meet
        case rel=>exact⟨_,(decide (a0_3 > 1073741824)),(by first|rfl|(simp;done)|(simp [*];done)),H',⟨by have:=HJ2.out;first|omega|exact Nat.le_refl _⟩,⟨by (with_reducible repeat (first|refine qah ?_ _|refine qaj ?_|refine qai ?_ _));exact BK113.out⟩,⟨by repeat (first|(with_reducible first|exact HB.out|apply qae|apply qab|apply qad|refine qag ?_ GE113.out)|exact HB.out)⟩⟩
    case rest=>
     clear HC13
     try clear c1
     try clear p2
     try clear c3
     try clear c5
     try clear c5b0
     try clear c7
     try clear c7b0
     try clear c9
     try clear c9b0
     try clear c12
     try clear c14
     try clear c14b0
     try clear c16
     try clear c16b0
     try clear c18
     try clear c18b0
     try clear hcz10_0
     try clear hcz10_1
     try clear hcz10_2
     try clear hcz10_3
     try clear hcz10_4
     try clear hcz10_5
     try clear hcz10_6
     try clear hcz11_0
     try clear hcz11_1
     try clear hcz11_2
     try clear hcz11_3
     try clear hcz11_4
     try clear hcz11_5
     try clear hcz11_6
     try clear hcz15_0
     try clear hcz15_1
     try clear hcz15_2
     try clear hcz15_3
     try clear hcz15_4
     try clear hcz15_5
     try clear hcz15_6
     try clear hcz17_0
     try clear hcz17_1
     try clear hcz17_2
     try clear hcz17_3
     try clear hcz17_4
     try clear hcz17_5
     try clear hcz17_6
     try clear hcz19_0
     try clear hcz19_1
     try clear hcz19_2
     try clear hcz19_3
     try clear hcz19_4
     try clear hcz19_5
     try clear hcz19_6
     try clear hcz20_0
     try clear hcz20_1
     try clear hcz20_2
     try clear hcz20_3
     try clear hcz20_4
     try clear hcz20_5
     try clear hcz20_6
     try clear hcz6_0
     try clear hcz6_1
     try clear hcz6_2
     try clear hcz6_3
     try clear hcz6_4
     try clear hcz6_5
     try clear hcz6_6
     try clear hcz8_0
     try clear hcz8_1
     try clear hcz8_2
     try clear hcz8_3
     try clear hcz8_4
     try clear hcz8_5
     try clear hcz8_6
     try clear hfz10_0
     try clear hfz10_1
     try clear hfz10_2
     try clear hfz10_3
     try clear hfz10_4
     try clear hfz10_5
     try clear hfz10_6
     try clear hfz11_0
     try clear hfz11_1
     try clear hfz11_2
     try clear hfz11_3
     try clear hfz11_4
     try clear hfz11_5
     try clear hfz11_6
     try clear hfz15_0
     try clear hfz15_1
     try clear hfz15_2
     try clear hfz15_3
     try clear hfz15_4
     try clear hfz15_5
     try clear hfz15_6
     try clear hfz17_0
     try clear hfz17_1
     try clear hfz17_2
     try clear hfz17_3
     try clear hfz17_4
     try clear hfz17_5
     try clear hfz17_6
     try clear hfz19_0
     try clear hfz19_1
     try clear hfz19_2
     try clear hfz19_3
     try clear hfz19_4
     try clear hfz19_5
     try clear hfz19_6
     try clear hfz20_0
     try clear hfz20_1
     try clear hfz20_2
     try clear hfz20_3
     try clear hfz20_4
     try clear hfz20_5
     try clear hfz20_6
     try clear hfz6_0
     try clear hfz6_1
     try clear hfz6_2
     try clear hfz6_3
     try clear hfz6_4
     try clear hfz6_5
     try clear hfz6_6
     try clear hfz8_0
     try clear hfz8_1
     try clear hfz8_2
     try clear hfz8_3
     try clear hfz8_4
     try clear hfz8_5
     try clear hfz8_6
     try clear p2
     obtain⟨kq,x47_12,rfl,HA,HJ12,BK113,HB⟩:=hcut
     cases kq with
     |zero=>exact absurd HA.out (by simp [ostinatoref05_Right.j1])
     |succ kj12=>
      have H:=HA.out
      clear HA
      simp only [ostinatoref05_Right.j1] at H
      by_cases c21:x47_12=true
      ·subst c21
       have H1:(some 10)=some r:=by rw [if_pos rfl] at H;exact H
       clear H
       have H:=H1
       clear H1
       obtain rfl:=Option.some.inj H
       go_wp2
       go_ret
       exact⟨by first|rfl|(simp [qao,qan]<;>rfl)|(simp [bneNil,bneNilU]<;>rfl)|(simp [*,qao,qan]<;>rfl),by repeat (first|(with_reducible first|exact HB.out|apply qae|apply qab|apply qad|refine qag ?_ GE113.out)|exact HB.out)⟩
      ·replace c21:=Bool.eq_false_iff.mpr c21
       subst c21
       have H1:(ostinatoref05_Right.l0 kj12 a1 a0_1 0 a0_0 a0_1 a0_2 a0_3 a0_4 l0_5 l0_6)=some r:=by rw [if_neg (show ¬ (false=true) by decide)] at H;exact H
       clear H
       have H:=H1
       clear H1
       have H':=qaf.mk H
       clear H
       have hcz22_0:wc.cell? ⟨gb113,0,none⟩=some (.int .i64 a0_0):=(qac BK113.out 0).trans rfl
       have hcz22_1:wc.cell? ⟨gb113,1,none⟩=some (.int .i64 a0_1):=(qac BK113.out 1).trans rfl
       have hcz22_2:wc.cell? ⟨gb113,2,none⟩=some (.int .i64 a0_2):=(qac BK113.out 2).trans rfl
       have hcz22_3:wc.cell? ⟨gb113,3,none⟩=some (.int .i64 a0_3):=(qac BK113.out 3).trans rfl
       have hcz22_4:wc.cell? ⟨gb113,4,none⟩=some (.int .i64 a0_4):=(qac BK113.out 4).trans rfl
       have hcz22_5:wc.cell? ⟨gb113,5,none⟩=some (.slice A0_5 l0_5.length c0_5):=(qac BK113.out 5).trans rfl
       have hcz22_6:wc.cell? ⟨gb113,6,none⟩=some (.slice A0_6 l0_6.length c0_6):=(qac BK113.out 6).trans rfl
       have hfz22_0:=qaa BK113.out 0
       have hfz22_1:=qaa BK113.out 1
       have hfz22_2:=qaa BK113.out 2
       have hfz22_3:=qaa BK113.out 3
       have hfz22_4:=qaa BK113.out 4
       have hfz22_5:=qaa BK113.out 5
       have hfz22_6:=qaa BK113.out 6
       go_wp2
       go_loopg [5,6] kj12 (fun kq v5 v6 w'=>∃ (x5_3:Int) (x6_3:Int),v5=.int .i64 x5_3∧v6=.int .i64 x6_3∧qaf (ostinatoref05_Right.l0 kq a1 x5_3 x6_3 a0_0 a0_1 a0_2 a0_3 a0_4 l0_5 l0_6=some r)∧qaf (kq≤kj12)∧qaf (w'.heap[gb113]? = some (.cells #[.int .i64 a0_0,.int .i64 a0_1,.int .i64 a0_2,.int .i64 a0_3,.int .i64 a0_4,(.slice A0_5 l0_5.length c0_5),(.slice A0_6 l0_6.length c0_6)] 52 (0,0)))∧qaf (Below w.heap.size w w'))
       case atStart=>exact⟨(a0_1),(0),(by first|rfl|(simp;done)|(simp [*];done)),(by first|rfl|(simp;done)|(simp [*];done)),H',⟨Nat.le_refl _⟩,⟨by (with_reducible repeat (first|refine qah ?_ _|refine qaj ?_|refine qai ?_ _));exact BK113.out⟩,⟨by repeat (first|(with_reducible first|exact HB.out|apply qae|apply qab|apply qad|refine qag ?_ GE113.out)|exact HB.out)⟩⟩
       case round=>
        clear H'
        try clear c1
        try clear c2
        try clear p2
        try clear c3
        try clear c5
        try clear c5b0
        try clear c7
        try clear c7b0
        try clear c9
        try clear c9b0
        try clear c12
        try clear c14
        try clear c14b0
        try clear c16
        try clear c16b0
        try clear c18
        try clear c18b0
        try clear c21
        try clear hcz10_0
        try clear hcz10_1
        try clear hcz10_2
        try clear hcz10_3
        try clear hcz10_4
        try clear hcz10_5
        try clear hcz10_6
        try clear hcz11_0
        try clear hcz11_1
        try clear hcz11_2
        try clear hcz11_3
        try clear hcz11_4
        try clear hcz11_5
        try clear hcz11_6
        try clear hcz15_0
        try clear hcz15_1
        try clear hcz15_2
        try clear hcz15_3
        try clear hcz15_4
        try clear hcz15_5
        try clear hcz15_6
        try clear hcz17_0
        try clear hcz17_1
        try clear hcz17_2
        try clear hcz17_3
        try clear hcz17_4
        try clear hcz17_5
        try clear hcz17_6
        try clear hcz19_0
        try clear hcz19_1
        try clear hcz19_2
        try clear hcz19_3
        try clear hcz19_4
        try clear hcz19_5
        try clear hcz19_6
        try clear hcz20_0
        try clear hcz20_1
        try clear hcz20_2
        try clear hcz20_3
        try clear hcz20_4
        try clear hcz20_5
        try clear hcz20_6
        try clear hcz22_0
        try clear hcz22_1
        try clear hcz22_2
        try clear hcz22_3
        try clear hcz22_4
        try clear hcz22_5
        try clear hcz22_6
        try clear hcz6_0
        try clear hcz6_1
        try clear hcz6_2
        try clear hcz6_3
        try clear hcz6_4
        try clear hcz6_5
        try clear hcz6_6
        try clear hcz8_0
        try clear hcz8_1
        try clear hcz8_2
        try clear hcz8_3
        try clear hcz8_4
        try clear hcz8_5
        try clear hcz8_6
        try clear hfz10_0
        try clear hfz10_1
        try clear hfz10_2
        try clear hfz10_3
        try clear hfz10_4
        try clear hfz10_5
        try clear hfz10_6
        try clear hfz11_0
        try clear hfz11_1
        try clear hfz11_2
        try clear hfz11_3
        try clear hfz11_4
        try clear hfz11_5
        try clear hfz11_6
        try clear hfz15_0
        try clear hfz15_1
        try clear hfz15_2
        try clear hfz15_3
        try clear hfz15_4
        try clear hfz15_5
        try clear hfz15_6
        try clear hfz17_0
        try clear hfz17_1
        try clear hfz17_2
        try clear hfz17_3
        try clear hfz17_4
        try clear hfz17_5
        try clear hfz17_6
        try clear hfz19_0
        try clear hfz19_1
        try clear hfz19_2
        try clear hfz19_3
        try clear hfz19_4
        try clear hfz19_5
        try clear hfz19_6
        try clear hfz20_0
        try clear hfz20_1
        try clear hfz20_2
        try clear hfz20_3
        try clear hfz20_4
        try clear hfz20_5
        try clear hfz20_6
        try clear hfz22_0
        try clear hfz22_1
        try clear hfz22_2
        try clear hfz22_3
        try clear hfz22_4
        try clear hfz22_5
        try clear hfz22_6
        try clear hfz6_0
        try clear hfz6_1
        try clear hfz6_2
        try clear hfz6_3
        try clear hfz6_4
        try clear hfz6_5
        try clear hfz6_6
        try clear hfz8_0
        try clear hfz8_1
        try clear hfz8_2
        try clear hfz8_3
        try clear hfz8_4
        try clear hfz8_5
        try clear hfz8_6
        try clear p2
        obtain⟨x5_3,x6_3,rfl,rfl,HA,HK3,BK113,HB⟩:=hrel
        cases gk with
        |zero=>exact absurd HA.out (by simp [ostinatoref05_Right.l0])
        |succ k3=>
         have H:=HA.out
         clear HA
         simp only [ostinatoref05_Right.l0] at H
         by_cases c23:x6_3<(l0_5.length:Int)
         ·rw [if_pos c23] at H
          have c23b0:decide (x6_3<(l0_5.length:Int))=true:=decide_eq_true c23
          clear c23
          by_cases c24:0≤x6_3
          ·rw [if_pos c24] at H
           have c24b0:decide (0≤x6_3)=true:=decide_eq_true c24
           clear c24
           by_cases c25:(rd l0_5 x6_3)<1
           ·rw [if_pos c25] at H
            have c25b0:decide ((rd l0_5 x6_3)<1)=true:=decide_eq_true c25
            clear c25
            obtain rfl:=Option.some.inj H
            have hcz26_0:wr.cell? ⟨gb113,0,none⟩=some (.int .i64 a0_0):=(qac BK113.out 0).trans rfl
            have hcz26_1:wr.cell? ⟨gb113,1,none⟩=some (.int .i64 a0_1):=(qac BK113.out 1).trans rfl
            have hcz26_2:wr.cell? ⟨gb113,2,none⟩=some (.int .i64 a0_2):=(qac BK113.out 2).trans rfl
            have hcz26_3:wr.cell? ⟨gb113,3,none⟩=some (.int .i64 a0_3):=(qac BK113.out 3).trans rfl
            have hcz26_4:wr.cell? ⟨gb113,4,none⟩=some (.int .i64 a0_4):=(qac BK113.out 4).trans rfl
            have hcz26_5:wr.cell? ⟨gb113,5,none⟩=some (.slice A0_5 l0_5.length c0_5):=(qac BK113.out 5).trans rfl
            have hcz26_6:wr.cell? ⟨gb113,6,none⟩=some (.slice A0_6 l0_6.length c0_6):=(qac BK113.out 6).trans rfl
            have hfz26_0:=qaa BK113.out 0
            have hfz26_1:=qaa BK113.out 1
            have hfz26_2:=qaa BK113.out 2
            have hfz26_3:=qaa BK113.out 3
            have hfz26_4:=qaa BK113.out 4
            have hfz26_5:=qaa BK113.out 5
            have hfz26_6:=qaa BK113.out 6
            have p114:0≤(x6_3:Int):=of_decide_eq_true (by first|(with_reducible assumption)|assumption)
            have q114:x6_3<(l0_5.length:Int):=of_decide_eq_true (by first|(with_reducible assumption)|assumption)
            obtain⟨ad114,e114,hx114_0⟩:=Kd.at_int HR0_5.out x6_3 p114 q114
            cases e114
            replace hx114_0:=(HB.out.cell (bLt w _ hx114_0)).trans hx114_0
            replace p114:=eq_true p114
            replace q114:=eq_true q114
            go_wp2
            go_ret
            exact⟨by first|rfl|(simp [qao,qan]<;>rfl)|(simp [bneNil,bneNilU]<;>rfl)|(simp [*,qao,qan]<;>rfl),by repeat (first|(with_reducible first|exact HB.out|apply qae|apply qab|apply qad|refine qag ?_ GE113.out)|exact HB.out)⟩
           ·rw [if_neg c25] at H
            have c25b0:decide ((rd l0_5 x6_3)<1)=false:=decide_eq_false c25
            clear c25
            by_cases c27:(rd l0_5 x6_3) > x5_3
            ·rw [if_pos c27] at H
             have c27b0:decide (x5_3<(rd l0_5 x6_3))=true:=decide_eq_true c27
             clear c27
             obtain rfl:=Option.some.inj H
             have hcz28_0:wr.cell? ⟨gb113,0,none⟩=some (.int .i64 a0_0):=(qac BK113.out 0).trans rfl
             have hcz28_1:wr.cell? ⟨gb113,1,none⟩=some (.int .i64 a0_1):=(qac BK113.out 1).trans rfl
             have hcz28_2:wr.cell? ⟨gb113,2,none⟩=some (.int .i64 a0_2):=(qac BK113.out 2).trans rfl
             have hcz28_3:wr.cell? ⟨gb113,3,none⟩=some (.int .i64 a0_3):=(qac BK113.out 3).trans rfl
             have hcz28_4:wr.cell? ⟨gb113,4,none⟩=some (.int .i64 a0_4):=(qac BK113.out 4).trans rfl
             have hcz28_5:wr.cell? ⟨gb113,5,none⟩=some (.slice A0_5 l0_5.length c0_5):=(qac BK113.out 5).trans rfl
             have hcz28_6:wr.cell? ⟨gb113,6,none⟩=some (.slice A0_6 l0_6.length c0_6):=(qac BK113.out 6).trans rfl
             have hfz28_0:=qaa BK113.out 0
             have hfz28_1:=qaa BK113.out 1
             have hfz28_2:=qaa BK113.out 2
             have hfz28_3:=qaa BK113.out 3
             have hfz28_4:=qaa BK113.out 4
             have hfz28_5:=qaa BK113.out 5
             have hfz28_6:=qaa BK113.out 6
             have p114:0≤(x6_3:Int):=of_decide_eq_true (by first|(with_reducible assumption)|assumption)
             have q114:x6_3<(l0_5.length:Int):=of_decide_eq_true (by first|(with_reducible assumption)|assumption)
             obtain⟨ad114,e114,hx114_0⟩:=Kd.at_int HR0_5.out x6_3 p114 q114
             cases e114
             replace hx114_0:=(HB.out.cell (bLt w _ hx114_0)).trans hx114_0
             replace p114:=eq_true p114
             replace q114:=eq_true q114
             have p115:0≤(x6_3:Int):=of_decide_eq_true (by first|(with_reducible assumption)|assumption)
             have q115:x6_3<(l0_5.length:Int):=of_decide_eq_true (by first|(with_reducible assumption)|assumption)
             obtain⟨ad115,e115,hx115_0⟩:=Kd.at_int HR0_5.out x6_3 p115 q115
             obtain rfl:ad114=ad115:=(by injection e115)
             replace hx115_0:=(HB.out.cell (bLt w _ hx115_0)).trans hx115_0
             replace p115:=eq_true p115
             replace q115:=eq_true q115
             go_wp2
             go_ret
             exact⟨by first|rfl|(simp [qao,qan]<;>rfl)|(simp [bneNil,bneNilU]<;>rfl)|(simp [*,qao,qan]<;>rfl),by repeat (first|(with_reducible first|exact HB.out|apply qae|apply qab|apply qad|refine qag ?_ GE113.out)|exact HB.out)⟩
            ·rw [if_neg c27] at H
             have c27b0:decide (x5_3<(rd l0_5 x6_3))=false:=decide_eq_false c27
             clear c27
             have H':=qaf.mk H
             clear H
             have hcz29_0:wr.cell? ⟨gb113,0,none⟩=some (.int .i64 a0_0):=(qac BK113.out 0).trans rfl
             have hcz29_1:wr.cell? ⟨gb113,1,none⟩=some (.int .i64 a0_1):=(qac BK113.out 1).trans rfl
             have hcz29_2:wr.cell? ⟨gb113,2,none⟩=some (.int .i64 a0_2):=(qac BK113.out 2).trans rfl
             have hcz29_3:wr.cell? ⟨gb113,3,none⟩=some (.int .i64 a0_3):=(qac BK113.out 3).trans rfl
             have hcz29_4:wr.cell? ⟨gb113,4,none⟩=some (.int .i64 a0_4):=(qac BK113.out 4).trans rfl
             have hcz29_5:wr.cell? ⟨gb113,5,none⟩=some (.slice A0_5 l0_5.length c0_5):=(qac BK113.out 5).trans rfl
             have hcz29_6:wr.cell? ⟨gb113,6,none⟩=some (.slice A0_6 l0_6.length c0_6):=(qac BK113.out 6).trans rfl
             have hfz29_0:=qaa BK113.out 0
             have hfz29_1:=qaa BK113.out 1
             have hfz29_2:=qaa BK113.out 2
             have hfz29_3:=qaa BK113.out 3
             have hfz29_4:=qaa BK113.out 4
             have hfz29_5:=qaa BK113.out 5
             have hfz29_6:=qaa BK113.out 6
             have p114:0≤(x6_3:Int):=of_decide_eq_true (by first|(with_reducible assumption)|assumption)
             have q114:x6_3<(l0_5.length:Int):=of_decide_eq_true (by first|(with_reducible assumption)|assumption)
             obtain⟨ad114,e114,hx114_0⟩:=Kd.at_int HR0_5.out x6_3 p114 q114
             cases e114
             replace hx114_0:=(HB.out.cell (bLt w _ hx114_0)).trans hx114_0
             replace p114:=eq_true p114
             replace q114:=eq_true q114
             have p115:0≤(x6_3:Int):=of_decide_eq_true (by first|(with_reducible assumption)|assumption)
             have q115:x6_3<(l0_5.length:Int):=of_decide_eq_true (by first|(with_reducible assumption)|assumption)
             obtain⟨ad115,e115,hx115_0⟩:=Kd.at_int HR0_5.out x6_3 p115 q115
             obtain rfl:ad114=ad115:=(by injection e115)
             replace hx115_0:=(HB.out.cell (bLt w _ hx115_0)).trans hx115_0
             replace p115:=eq_true p115
             replace q115:=eq_true q115
             have p116:0≤(x6_3:Int):=of_decide_eq_true (by first|(with_reducible assumption)|assumption)
             have q116:x6_3<(l0_5.length:Int):=of_decide_eq_true (by first|(with_reducible assumption)|assumption)
             obtain⟨ad116,e116,hx116_0⟩:=Kd.at_int HR0_5.out x6_3 p116 q116
             obtain rfl:ad114=ad116:=(by injection e116)
             replace hx116_0:=(HB.out.cell (bLt w _ hx116_0)).trans hx116_0
             replace p116:=eq_true p116
             replace q116:=eq_true q116
             go_wp2
             go_roundg k3
             case measure=>have:=HJ2.out;have:=HJ12.out;have:=HK3.out;omega
             case rel=>exact⟨(wrap64 (x5_3 - (rd l0_5 x6_3))),(wrap64 (x6_3+1)),(by first|rfl|(simp;done)|(simp [*];done)),(by first|rfl|(simp;done)|(simp [*];done)),H',⟨by have:=HJ2.out;have:=HJ12.out;have:=HK3.out;omega⟩,⟨by (with_reducible repeat (first|refine qah ?_ _|refine qaj ?_|refine qai ?_ _));exact BK113.out⟩,⟨by repeat (first|(with_reducible first|exact HB.out|apply qae|apply qab|apply qad|refine qag ?_ GE113.out)|exact HB.out)⟩⟩
          ·rw [if_neg c24] at H
           exact absurd H (by simp)
         ·rw [if_neg c23] at H
          have c23b0:decide (x6_3<(l0_5.length:Int))=false:=decide_eq_false c23
          clear c23
          have HC30:=qaf.mk H
          clear H
          have hcz31_0:wr.cell? ⟨gb113,0,none⟩=some (.int .i64 a0_0):=(qac BK113.out 0).trans rfl
          have hcz31_1:wr.cell? ⟨gb113,1,none⟩=some (.int .i64 a0_1):=(qac BK113.out 1).trans rfl
          have hcz31_2:wr.cell? ⟨gb113,2,none⟩=some (.int .i64 a0_2):=(qac BK113.out 2).trans rfl
          have hcz31_3:wr.cell? ⟨gb113,3,none⟩=some (.int .i64 a0_3):=(qac BK113.out 3).trans rfl
          have hcz31_4:wr.cell? ⟨gb113,4,none⟩=some (.int .i64 a0_4):=(qac BK113.out 4).trans rfl
          have hcz31_5:wr.cell? ⟨gb113,5,none⟩=some (.slice A0_5 l0_5.length c0_5):=(qac BK113.out 5).trans rfl
          have hcz31_6:wr.cell? ⟨gb113,6,none⟩=some (.slice A0_6 l0_6.length c0_6):=(qac BK113.out 6).trans rfl
          have hfz31_0:=qaa BK113.out 0
          have hfz31_1:=qaa BK113.out 1
          have hfz31_2:=qaa BK113.out 2
          have hfz31_3:=qaa BK113.out 3
          have hfz31_4:=qaa BK113.out 4
          have hfz31_5:=qaa BK113.out 5
          have hfz31_6:=qaa BK113.out 6
          go_upto_region 12 with (fail)
          go_cut [92] (fun v92 wc=>∃ (kq:Nat) (x92_29:Bool),v92=.bool x92_29∧qaf (ostinatoref05_Right.j3 kq a1 x92_29 a0_0 a0_1 a0_2 a0_3 a0_4 l0_5 l0_6=some r)∧qaf (kq≤k3)∧qaf (wc.heap[gb113]? = some (.cells #[.int .i64 a0_0,.int .i64 a0_1,.int .i64 a0_2,.int .i64 a0_3,.int .i64 a0_4,(.slice A0_5 l0_5.length c0_5),(.slice A0_6 l0_6.length c0_6)] 52 (0,0)))∧qaf (Below w.heap.size w wc))
          case first=>
           have H:=HC30.out
           clear HC30
           by_cases c32:(l0_5.length:Int) > 64
           ·rw [if_pos c32] at H
            have c32b0:decide (64<(l0_5.length:Int))=true:=decide_eq_true c32
            have c32b1:decide (64<l0_5.length)=true:=decide_eq_true (by omega)
            clear c32
            (first|rw [c32b0]|(simp only [qav,qaw];rw [c32b0])|skip)
            have H':=qaf.mk H
            clear H
            have hcz33_0:wr.cell? ⟨gb113,0,none⟩=some (.int .i64 a0_0):=(qac BK113.out 0).trans rfl
            have hcz33_1:wr.cell? ⟨gb113,1,none⟩=some (.int .i64 a0_1):=(qac BK113.out 1).trans rfl
            have hcz33_2:wr.cell? ⟨gb113,2,none⟩=some (.int .i64 a0_2):=(qac BK113.out 2).trans rfl
            have hcz33_3:wr.cell? ⟨gb113,3,none⟩=some (.int .i64 a0_3):=(qac BK113.out 3).trans rfl
            have hcz33_4:wr.cell? ⟨gb113,4,none⟩=some (.int .i64 a0_4):=(qac BK113.out 4).trans rfl
            have hcz33_5:wr.cell? ⟨gb113,5,none⟩=some (.slice A0_5 l0_5.length c0_5):=(qac BK113.out 5).trans rfl
            have hcz33_6:wr.cell? ⟨gb113,6,none⟩=some (.slice A0_6 l0_6.length c0_6):=(qac BK113.out 6).trans rfl
            have hfz33_0:=qaa BK113.out 0
            have hfz33_1:=qaa BK113.out 1
            have hfz33_2:=qaa BK113.out 2
            have hfz33_3:=qaa BK113.out 3
            have hfz33_4:=qaa BK113.out 4
            have hfz33_5:=qaa BK113.out 5
            have hfz33_6:=qaa BK113.out 6
            go_wp2
            go_meet
            case rel=>exact⟨_,(true),(by first|rfl|(simp;done)|(simp [*];done)),H',⟨by have:=HJ2.out;have:=HJ12.out;have:=HK3.out;first|omega|exact Nat.le_refl _⟩,⟨by (with_reducible repeat (first|refine qah ?_ _|refine qaj ?_|refine qai ?_ _));exact BK113.out⟩,⟨by repeat (first|(with_reducible first|exact HB.out|apply qae|apply qab|apply qad|refine qag ?_ GE113.out)|exact HB.out)⟩⟩
           ·rw [if_neg c32] at H
            have c32b0:decide (64<(l0_5.length:Int))=false:=decide_eq_false c32
            have c32b1:decide (64<l0_5.length)=false:=decide_eq_false (by omega)
            clear c32
            (first|rw [c32b0]|(simp only [qav,qaw];rw [c32b0])|skip)
            by_cases c34:(l0_5.length:Int) > 0
            ·rw [if_pos c34] at H
             have c34b0:decide (0<(l0_5.length:Int))=true:=decide_eq_true c34
             have c34b1:decide (0<l0_5.length)=true:=decide_eq_true (by omega)
             clear c34
             have H':=qaf.mk H
             clear H
             have hcz35_0:wr.cell? ⟨gb113,0,none⟩=some (.int .i64 a0_0):=(qac BK113.out 0).trans rfl
             have hcz35_1:wr.cell? ⟨gb113,1,none⟩=some (.int .i64 a0_1):=(qac BK113.out 1).trans rfl
             have hcz35_2:wr.cell? ⟨gb113,2,none⟩=some (.int .i64 a0_2):=(qac BK113.out 2).trans rfl
             have hcz35_3:wr.cell? ⟨gb113,3,none⟩=some (.int .i64 a0_3):=(qac BK113.out 3).trans rfl
             have hcz35_4:wr.cell? ⟨gb113,4,none⟩=some (.int .i64 a0_4):=(qac BK113.out 4).trans rfl
             have hcz35_5:wr.cell? ⟨gb113,5,none⟩=some (.slice A0_5 l0_5.length c0_5):=(qac BK113.out 5).trans rfl
             have hcz35_6:wr.cell? ⟨gb113,6,none⟩=some (.slice A0_6 l0_6.length c0_6):=(qac BK113.out 6).trans rfl
             have hfz35_0:=qaa BK113.out 0
             have hfz35_1:=qaa BK113.out 1
             have hfz35_2:=qaa BK113.out 2
             have hfz35_3:=qaa BK113.out 3
             have hfz35_4:=qaa BK113.out 4
             have hfz35_5:=qaa BK113.out 5
             have hfz35_6:=qaa BK113.out 6
             go_wp2
             go_meet
             case rel=>exact⟨_,((x5_3 != 0)),(by first|rfl|(simp;done)|(simp [*];done)),H',⟨by have:=HJ2.out;have:=HJ12.out;have:=HK3.out;first|omega|exact Nat.le_refl _⟩,⟨by (with_reducible repeat (first|refine qah ?_ _|refine qaj ?_|refine qai ?_ _));exact BK113.out⟩,⟨by repeat (first|(with_reducible first|exact HB.out|apply qae|apply qab|apply qad|refine qag ?_ GE113.out)|exact HB.out)⟩⟩
            ·rw [if_neg c34] at H
             have c34b0:decide (0<(l0_5.length:Int))=false:=decide_eq_false c34
             have c34b1:decide (0<l0_5.length)=false:=decide_eq_false (by omega)
             clear c34
             have H':=qaf.mk H
             clear H
             have hcz36_0:wr.cell? ⟨gb113,0,none⟩=some (.int .i64 a0_0):=(qac BK113.out 0).trans rfl
             have hcz36_1:wr.cell? ⟨gb113,1,none⟩=some (.int .i64 a0_1):=(qac BK113.out 1).trans rfl
             have hcz36_2:wr.cell? ⟨gb113,2,none⟩=some (.int .i64 a0_2):=(qac BK113.out 2).trans rfl
             have hcz36_3:wr.cell? ⟨gb113,3,none⟩=some (.int .i64 a0_3):=(qac BK113.out 3).trans rfl
             have hcz36_4:wr.cell? ⟨gb113,4,none⟩=some (.int .i64 a0_4):=(qac BK113.out 4).trans rfl
             have hcz36_5:wr.cell? ⟨gb113,5,none⟩=some (.slice A0_5 l0_5.length c0_5):=(qac BK113.out 5).trans rfl
             have hcz36_6:wr.cell? ⟨gb113,6,none⟩=some (.slice A0_6 l0_6.length c0_6):=(qac BK113.out 6).trans rfl
             have hfz36_0:=qaa BK113.out 0
             have hfz36_1:=qaa BK113.out 1
             have hfz36_2:=qaa BK113.out 2
             have hfz36_3:=qaa BK113.out 3
             have hfz36_4:=qaa BK113.out 4
             have hfz36_5:=qaa BK113.out 5
             have hfz36_6:=qaa BK113.out 6
             go_wp2
             go_meet
             case rel=>exact⟨_,(false),(by first|rfl|(simp;done)|(simp [*];done)),H',⟨by have:=HJ2.out;have:=HJ12.out;have:=HK3.out;first|omega|exact Nat.le_refl _⟩,⟨by (with_reducible repeat (first|refine qah ?_ _|refine qaj ?_|refine qai ?_ _));exact BK113.out⟩,⟨by repeat (first|(with_reducible first|exact HB.out|apply qae|apply qab|apply qad|refine qag ?_ GE113.out)|exact HB.out)⟩⟩
          case rest=>
           clear HC30
           try clear c1
           try clear p1
           try clear q1
           try clear hx1
           try clear c2
           try clear p2
           try clear c3
           try clear c5
           try clear c5b0
           try clear p6
           try clear c7
           try clear c7b0
           try clear c9
           try clear c9b0
           try clear p11
           try clear q11
           try clear hx11
           try clear c12
           try clear c14
           try clear c14b0
           try clear c16
           try clear c16b0
           try clear c18
           try clear c18b0
           try clear c21
           try clear c23
           try clear c23b0
           try clear c24
           try clear c24b0
           try clear c25
           try clear c25b0
           try clear c27
           try clear c27b0
           try clear c32
           try clear c32b0
           try clear c32b1
           try clear c34
           try clear c34b0
           try clear c34b1
           try clear hcz10_0
           try clear hcz10_1
           try clear hcz10_2
           try clear hcz10_3
           try clear hcz10_4
           try clear hcz10_5
           try clear hcz10_6
           try clear hcz11_0
           try clear hcz11_1
           try clear hcz11_2
           try clear hcz11_3
           try clear hcz11_4
           try clear hcz11_5
           try clear hcz11_6
           try clear hcz15_0
           try clear hcz15_1
           try clear hcz15_2
           try clear hcz15_3
           try clear hcz15_4
           try clear hcz15_5
           try clear hcz15_6
           try clear hcz17_0
           try clear hcz17_1
           try clear hcz17_2
           try clear hcz17_3
           try clear hcz17_4
           try clear hcz17_5
           try clear hcz17_6
           try clear hcz19_0
           try clear hcz19_1
           try clear hcz19_2
           try clear hcz19_3
           try clear hcz19_4
           try clear hcz19_5
           try clear hcz19_6
           try clear hcz20_0
           try clear hcz20_1
           try clear hcz20_2
           try clear hcz20_3
           try clear hcz20_4
           try clear hcz20_5
           try clear hcz20_6
           try clear hcz22_0
           try clear hcz22_1
           try clear hcz22_2
           try clear hcz22_3
           try clear hcz22_4
           try clear hcz22_5
           try clear hcz22_6
           try clear hcz26_0
           try clear hcz26_1
           try clear hcz26_2
           try clear hcz26_3
           try clear hcz26_4
           try clear hcz26_5
           try clear hcz26_6
           try clear hcz28_0
           try clear hcz28_1
           try clear hcz28_2
           try clear hcz28_3
           try clear hcz28_4
           try clear hcz28_5
           try clear hcz28_6
           try clear hcz29_0
           try clear hcz29_1
           try clear hcz29_2
           try clear hcz29_3
           try clear hcz29_4
           try clear hcz29_5
           try clear hcz29_6
           try clear hcz31_0
           try clear hcz31_1
           try clear hcz31_2
           try clear hcz31_3
           try clear hcz31_4
           try clear hcz31_5
           try clear hcz31_6
           try clear hcz33_0
           try clear hcz33_1
           try clear hcz33_2
           try clear hcz33_3
           try clear hcz33_4
           try clear hcz33_5
           try clear hcz33_6
           try clear hcz35_0
           try clear hcz35_1
           try clear hcz35_2
           try clear hcz35_3
           try clear hcz35_4
           try clear hcz35_5
           try clear hcz35_6
           try clear hcz36_0
           try clear hcz36_1
           try clear hcz36_2
           try clear hcz36_3
           try clear hcz36_4
           try clear hcz36_5
           try clear hcz36_6
           try clear hcz6_0
           try clear hcz6_1
           try clear hcz6_2
           try clear hcz6_3
           try clear hcz6_4
           try clear hcz6_5
           try clear hcz6_6
           try clear hcz8_0
           try clear hcz8_1
           try clear hcz8_2
           try clear hcz8_3
           try clear hcz8_4
           try clear hcz8_5
           try clear hcz8_6
           try clear hfz10_0
           try clear hfz10_1
           try clear hfz10_2
           try clear hfz10_3
           try clear hfz10_4
           try clear hfz10_5
           try clear hfz10_6
           try clear hfz11_0
           try clear hfz11_1
           try clear hfz11_2
           try clear hfz11_3
           try clear hfz11_4
           try clear hfz11_5
           try clear hfz11_6
           try clear hfz15_0
           try clear hfz15_1
           try clear hfz15_2
           try clear hfz15_3
           try clear hfz15_4
           try clear hfz15_5
           try clear hfz15_6
           try clear hfz17_0
           try clear hfz17_1
           try clear hfz17_2
           try clear hfz17_3
           try clear hfz17_4
           try clear hfz17_5
           try clear hfz17_6
           try clear hfz19_0
           try clear hfz19_1
           try clear hfz19_2
           try clear hfz19_3
           try clear hfz19_4
           try clear hfz19_5
           try clear hfz19_6
           try clear hfz20_0
           try clear hfz20_1
           try clear hfz20_2
           try clear hfz20_3
           try clear hfz20_4
           try clear hfz20_5
           try clear hfz20_6
           try clear hfz22_0
           try clear hfz22_1
           try clear hfz22_2
           try clear hfz22_3
           try clear hfz22_4
           try clear hfz22_5
           try clear hfz22_6
           try clear hfz26_0
           try clear hfz26_1
           try clear hfz26_2
           try clear hfz26_3
           try clear hfz26_4
           try clear hfz26_5
           try clear hfz26_6
           try clear hfz28_0
           try clear hfz28_1
           try clear hfz28_2
           try clear hfz28_3
           try clear hfz28_4
           try clear hfz28_5
           try clear hfz28_6
           try clear hfz29_0
           try clear hfz29_1
           try clear hfz29_2
           try clear hfz29_3
           try clear hfz29_4
           try clear hfz29_5
           try clear hfz29_6
           try clear hfz31_0
           try clear hfz31_1
           try clear hfz31_2
           try clear hfz31_3
           try clear hfz31_4
           try clear hfz31_5
           try clear hfz31_6
           try clear hfz33_0
           try clear hfz33_1
           try clear hfz33_2
           try clear hfz33_3
           try clear hfz33_4
           try clear hfz33_5
           try clear hfz33_6
           try clear hfz35_0
           try clear hfz35_1
           try clear hfz35_2
           try clear hfz35_3
           try clear hfz35_4
           try clear hfz35_5
           try clear hfz35_6
           try clear hfz36_0
           try clear hfz36_1
           try clear hfz36_2
           try clear hfz36_3
           try clear hfz36_4
           try clear hfz36_5
           try clear hfz36_6
           try clear hfz6_0
           try clear hfz6_1
           try clear hfz6_2
           try clear hfz6_3
           try clear hfz6_4
           try clear hfz6_5
           try clear hfz6_6
           try clear hfz8_0
           try clear hfz8_1
           try clear hfz8_2
           try clear hfz8_3
           try clear hfz8_4
           try clear hfz8_5
           try clear hfz8_6
           try clear hx114_0
           try clear hx115_0
           try clear hx116_0
           try clear p114
           try clear p115
           try clear p116
           try clear p2
           try clear q114
           try clear q115
           try clear q116
           obtain⟨kq,x92_29,rfl,HA,HJ29,BK113,HB⟩:=hcut
           cases kq with
           |zero=>exact absurd HA.out (by simp [ostinatoref05_Right.j3])
           |succ kj29=>
            have H:=HA.out
            clear HA
            simp only [ostinatoref05_Right.j3] at H
            by_cases c37:x92_29=true
            ·subst c37
             have H1:(some 13)=some r:=by rw [if_pos rfl] at H;exact H
             clear H
             have H:=H1
             clear H1
             obtain rfl:=Option.some.inj H
             go_wp2
             go_ret
             exact⟨by first|rfl|(simp [qao,qan]<;>rfl)|(simp [bneNil,bneNilU]<;>rfl)|(simp [*,qao,qan]<;>rfl),by repeat (first|(with_reducible first|exact HB.out|apply qae|apply qab|apply qad|refine qag ?_ GE113.out)|exact HB.out)⟩
            ·replace c37:=Bool.eq_false_iff.mpr c37
             subst c37
             have H1:(ostinatoref05_Right.l1 kj29 a1 0 a0_0 a0_1 a0_2 a0_3 a0_4 l0_5 l0_6)=some r:=by rw [if_neg (show ¬ (false=true) by decide)] at H;exact H
             clear H
             have H:=H1
             clear H1
             have H':=qaf.mk H
             clear H
             go_wp2
             go_loopg [7] kj29 (fun kq v7 w'=>∃ (x7_5:Int),v7=.int .i64 x7_5∧qaf (ostinatoref05_Right.l1 kq a1 x7_5 a0_0 a0_1 a0_2 a0_3 a0_4 l0_5 l0_6=some r)∧qaf (kq≤kj29)∧qaf (w'.heap[gb113]? = some (.cells #[.int .i64 a0_0,.int .i64 a0_1,.int .i64 a0_2,.int .i64 a0_3,.int .i64 a0_4,(.slice A0_5 l0_5.length c0_5),(.slice A0_6 l0_6.length c0_6)] 52 (0,0)))∧qaf (Below w.heap.size w w'))
             case atStart=>exact⟨(0),(by first|rfl|(simp;done)|(simp [*];done)),H',⟨Nat.le_refl _⟩,⟨by (with_reducible repeat (first|refine qah ?_ _|refine qaj ?_|refine qai ?_ _));exact BK113.out⟩,⟨by repeat (first|(with_reducible first|exact HB.out|apply qae|apply qab|apply qad|refine qag ?_ GE113.out)|exact HB.out)⟩⟩
             case round=>
              clear H'
              try clear c1
              try clear p1
              try clear q1
              try clear hx1
              try clear c2
              try clear p2
              try clear c3
              try clear c5
              try clear c5b0
              try clear p6
              try clear c7
              try clear c7b0
              try clear c9
              try clear c9b0
              try clear p11
              try clear q11
              try clear hx11
              try clear c12
              try clear c14
              try clear c14b0
              try clear c16
              try clear c16b0
              try clear c18
              try clear c18b0
              try clear c21
              try clear c23
              try clear c23b0
              try clear c24
              try clear c24b0
              try clear c25
              try clear c25b0
              try clear c27
              try clear c27b0
              try clear c32
              try clear c32b0
              try clear c32b1
              try clear c34
              try clear c34b0
              try clear c34b1
              try clear c37
              try clear hcz10_0
              try clear hcz10_1
              try clear hcz10_2
              try clear hcz10_3
              try clear hcz10_4
              try clear hcz10_5
              try clear hcz10_6
              try clear hcz11_0
              try clear hcz11_1
              try clear hcz11_2
              try clear hcz11_3
              try clear hcz11_4
              try clear hcz11_5
              try clear hcz11_6
              try clear hcz15_0
              try clear hcz15_1
              try clear hcz15_2
              try clear hcz15_3
              try clear hcz15_4
              try clear hcz15_5
              try clear hcz15_6
              try clear hcz17_0
              try clear hcz17_1
              try clear hcz17_2
              try clear hcz17_3
              try clear hcz17_4
              try clear hcz17_5
              try clear hcz17_6
              try clear hcz19_0
              try clear hcz19_1
              try clear hcz19_2
              try clear hcz19_3
              try clear hcz19_4
              try clear hcz19_5
              try clear hcz19_6
              try clear hcz20_0
              try clear hcz20_1
              try clear hcz20_2
              try clear hcz20_3
              try clear hcz20_4
              try clear hcz20_5
              try clear hcz20_6
              try clear hcz22_0
              try clear hcz22_1
              try clear hcz22_2
              try clear hcz22_3
              try clear hcz22_4
              try clear hcz22_5
              try clear hcz22_6
              try clear hcz26_0
              try clear hcz26_1
              try clear hcz26_2
              try clear hcz26_3
              try clear hcz26_4
              try clear hcz26_5
              try clear hcz26_6
              try clear hcz28_0
              try clear hcz28_1
              try clear hcz28_2
              try clear hcz28_3
              try clear hcz28_4
              try clear hcz28_5
              try clear hcz28_6
              try clear hcz29_0
              try clear hcz29_1
              try clear hcz29_2
              try clear hcz29_3
              try clear hcz29_4
              try clear hcz29_5
              try clear hcz29_6
              try clear hcz31_0
              try clear hcz31_1
              try clear hcz31_2
              try clear hcz31_3
              try clear hcz31_4
              try clear hcz31_5
              try clear hcz31_6
              try clear hcz33_0
              try clear hcz33_1
              try clear hcz33_2
              try clear hcz33_3
              try clear hcz33_4
              try clear hcz33_5
              try clear hcz33_6
              try clear hcz35_0
              try clear hcz35_1
              try clear hcz35_2
              try clear hcz35_3
              try clear hcz35_4
              try clear hcz35_5
              try clear hcz35_6
              try clear hcz36_0
              try clear hcz36_1
              try clear hcz36_2
              try clear hcz36_3
              try clear hcz36_4
              try clear hcz36_5
              try clear hcz36_6
              try clear hcz6_0
              try clear hcz6_1
              try clear hcz6_2
              try clear hcz6_3
              try clear hcz6_4
              try clear hcz6_5
              try clear hcz6_6
              try clear hcz8_0
              try clear hcz8_1
              try clear hcz8_2
              try clear hcz8_3
              try clear hcz8_4
              try clear hcz8_5
              try clear hcz8_6
              try clear hfz10_0
              try clear hfz10_1
              try clear hfz10_2
              try clear hfz10_3
              try clear hfz10_4
              try clear hfz10_5
              try clear hfz10_6
              try clear hfz11_0
              try clear hfz11_1
              try clear hfz11_2
              try clear hfz11_3
              try clear hfz11_4
              try clear hfz11_5
              try clear hfz11_6
              try clear hfz15_0
              try clear hfz15_1
              try clear hfz15_2
              try clear hfz15_3
              try clear hfz15_4
              try clear hfz15_5
              try clear hfz15_6
              try clear hfz17_0
              try clear hfz17_1
              try clear hfz17_2
              try clear hfz17_3
              try clear hfz17_4
              try clear hfz17_5
              try clear hfz17_6
              try clear hfz19_0
              try clear hfz19_1
              try clear hfz19_2
              try clear hfz19_3
              try clear hfz19_4
              try clear hfz19_5
              try clear hfz19_6
              try clear hfz20_0
              try clear hfz20_1
              try clear hfz20_2
              try clear hfz20_3
              try clear hfz20_4
              try clear hfz20_5
              try clear hfz20_6
              try clear hfz22_0
              try clear hfz22_1
              try clear hfz22_2
              try clear hfz22_3
              try clear hfz22_4
              try clear hfz22_5
              try clear hfz22_6
              try clear hfz26_0
              try clear hfz26_1
              try clear hfz26_2
              try clear hfz26_3
              try clear hfz26_4
              try clear hfz26_5
              try clear hfz26_6
              try clear hfz28_0
              try clear hfz28_1
              try clear hfz28_2
              try clear hfz28_3
              try clear hfz28_4
              try clear hfz28_5
              try clear hfz28_6
              try clear hfz29_0
              try clear hfz29_1
              try clear hfz29_2
              try clear hfz29_3
              try clear hfz29_4
              try clear hfz29_5
              try clear hfz29_6
              try clear hfz31_0
              try clear hfz31_1
              try clear hfz31_2
              try clear hfz31_3
              try clear hfz31_4
              try clear hfz31_5
              try clear hfz31_6
              try clear hfz33_0
              try clear hfz33_1
              try clear hfz33_2
              try clear hfz33_3
              try clear hfz33_4
              try clear hfz33_5
              try clear hfz33_6
              try clear hfz35_0
              try clear hfz35_1
              try clear hfz35_2
              try clear hfz35_3
              try clear hfz35_4
              try clear hfz35_5
              try clear hfz35_6
              try clear hfz36_0
              try clear hfz36_1
              try clear hfz36_2
              try clear hfz36_3
              try clear hfz36_4
              try clear hfz36_5
              try clear hfz36_6
              try clear hfz6_0
              try clear hfz6_1
              try clear hfz6_2
              try clear hfz6_3
              try clear hfz6_4
              try clear hfz6_5
              try clear hfz6_6
              try clear hfz8_0
              try clear hfz8_1
              try clear hfz8_2
              try clear hfz8_3
              try clear hfz8_4
              try clear hfz8_5
              try clear hfz8_6
              try clear hx114_0
              try clear hx115_0
              try clear hx116_0
              try clear p1
              try clear p11
              try clear p114
              try clear p115
              try clear p116
              try clear p2
              try clear p6
              try clear q1
              try clear q11
              try clear q114
              try clear q115
              try clear q116
              obtain⟨x7_5,rfl,HA,HK5,BK113,HB⟩:=hrel
              cases gk with
              |zero=>exact absurd HA.out (by simp [ostinatoref05_Right.l1])
              |succ k5=>
               have H:=HA.out
               clear HA
               simp only [ostinatoref05_Right.l1] at H
               by_cases c38:x7_5<(l0_6.length:Int)
               ·rw [if_pos c38] at H
                have c38b0:decide (x7_5<(l0_6.length:Int))=true:=decide_eq_true c38
                clear c38
                by_cases c39:0≤x7_5
                ·rw [if_pos c39] at H
                 have c39b0:decide (0≤x7_5)=true:=decide_eq_true c39
                 clear c39
                 by_cases c40:(rd l0_6 x7_5)<0
                 ·rw [if_pos c40] at H
                  have c40b0:decide ((rd l0_6 x7_5)<0)=true:=decide_eq_true c40
                  clear c40
                  obtain rfl:=Option.some.inj H
                  have hcz41_0:wr.cell? ⟨gb113,0,none⟩=some (.int .i64 a0_0):=(qac BK113.out 0).trans rfl
                  have hcz41_1:wr.cell? ⟨gb113,1,none⟩=some (.int .i64 a0_1):=(qac BK113.out 1).trans rfl
                  have hcz41_2:wr.cell? ⟨gb113,2,none⟩=some (.int .i64 a0_2):=(qac BK113.out 2).trans rfl
                  have hcz41_3:wr.cell? ⟨gb113,3,none⟩=some (.int .i64 a0_3):=(qac BK113.out 3).trans rfl
                  have hcz41_4:wr.cell? ⟨gb113,4,none⟩=some (.int .i64 a0_4):=(qac BK113.out 4).trans rfl
                  have hcz41_5:wr.cell? ⟨gb113,5,none⟩=some (.slice A0_5 l0_5.length c0_5):=(qac BK113.out 5).trans rfl
                  have hcz41_6:wr.cell? ⟨gb113,6,none⟩=some (.slice A0_6 l0_6.length c0_6):=(qac BK113.out 6).trans rfl
                  have hfz41_0:=qaa BK113.out 0
                  have hfz41_1:=qaa BK113.out 1
                  have hfz41_2:=qaa BK113.out 2
                  have hfz41_3:=qaa BK113.out 3
                  have hfz41_4:=qaa BK113.out 4
                  have hfz41_5:=qaa BK113.out 5
                  have hfz41_6:=qaa BK113.out 6
                  have p117:0≤(x7_5:Int):=of_decide_eq_true (by first|(with_reducible assumption)|assumption)
                  have q117:x7_5<(l0_6.length:Int):=of_decide_eq_true (by first|(with_reducible assumption)|assumption)
                  obtain⟨ad117,e117,hx117_0⟩:=Kd.at_int HR0_6.out x7_5 p117 q117
                  cases e117
                  replace hx117_0:=(HB.out.cell (bLt w _ hx117_0)).trans hx117_0
                  replace p117:=eq_true p117
                  replace q117:=eq_true q117
                  go_wp2
                  go_ret
                  exact⟨by first|rfl|(simp [qao,qan]<;>rfl)|(simp [bneNil,bneNilU]<;>rfl)|(simp [*,qao,qan]<;>rfl),by repeat (first|(with_reducible first|exact HB.out|apply qae|apply qab|apply qad|refine qag ?_ GE113.out)|exact HB.out)⟩
                 ·rw [if_neg c40] at H
                  have c40b0:decide ((rd l0_6 x7_5)<0)=false:=decide_eq_false c40
                  clear c40
                  by_cases c42:(rd l0_6 x7_5) ≥ a1
                  ·rw [if_pos c42] at H
                   have c42b0:decide (a1≤(rd l0_6 x7_5))=true:=decide_eq_true c42
                   clear c42
                   obtain rfl:=Option.some.inj H
                   have hcz43_0:wr.cell? ⟨gb113,0,none⟩=some (.int .i64 a0_0):=(qac BK113.out 0).trans rfl
                   have hcz43_1:wr.cell? ⟨gb113,1,none⟩=some (.int .i64 a0_1):=(qac BK113.out 1).trans rfl
                   have hcz43_2:wr.cell? ⟨gb113,2,none⟩=some (.int .i64 a0_2):=(qac BK113.out 2).trans rfl
                   have hcz43_3:wr.cell? ⟨gb113,3,none⟩=some (.int .i64 a0_3):=(qac BK113.out 3).trans rfl
                   have hcz43_4:wr.cell? ⟨gb113,4,none⟩=some (.int .i64 a0_4):=(qac BK113.out 4).trans rfl
                   have hcz43_5:wr.cell? ⟨gb113,5,none⟩=some (.slice A0_5 l0_5.length c0_5):=(qac BK113.out 5).trans rfl
                   have hcz43_6:wr.cell? ⟨gb113,6,none⟩=some (.slice A0_6 l0_6.length c0_6):=(qac BK113.out 6).trans rfl
                   have hfz43_0:=qaa BK113.out 0
                   have hfz43_1:=qaa BK113.out 1
                   have hfz43_2:=qaa BK113.out 2
                   have hfz43_3:=qaa BK113.out 3
                   have hfz43_4:=qaa BK113.out 4
                   have hfz43_5:=qaa BK113.out 5
                   have hfz43_6:=qaa BK113.out 6
                   have p117:0≤(x7_5:Int):=of_decide_eq_true (by first|(with_reducible assumption)|assumption)
                   have q117:x7_5<(l0_6.length:Int):=of_decide_eq_true (by first|(with_reducible assumption)|assumption)
                   obtain⟨ad117,e117,hx117_0⟩:=Kd.at_int HR0_6.out x7_5 p117 q117
                   cases e117
                   replace hx117_0:=(HB.out.cell (bLt w _ hx117_0)).trans hx117_0
                   replace p117:=eq_true p117
                   replace q117:=eq_true q117
                   have p118:0≤(x7_5:Int):=of_decide_eq_true (by first|(with_reducible assumption)|assumption)
                   have q118:x7_5<(l0_6.length:Int):=of_decide_eq_true (by first|(with_reducible assumption)|assumption)
                   obtain⟨ad118,e118,hx118_0⟩:=Kd.at_int HR0_6.out x7_5 p118 q118
                   obtain rfl:ad117=ad118:=(by injection e118)
                   replace hx118_0:=(HB.out.cell (bLt w _ hx118_0)).trans hx118_0
                   replace p118:=eq_true p118
                   replace q118:=eq_true q118
                   go_wp2
                   go_ret
                   exact⟨by first|rfl|(simp [qao,qan]<;>rfl)|(simp [bneNil,bneNilU]<;>rfl)|(simp [*,qao,qan]<;>rfl),by repeat (first|(with_reducible first|exact HB.out|apply qae|apply qab|apply qad|refine qag ?_ GE113.out)|exact HB.out)⟩
                  ·rw [if_neg c42] at H
                   have c42b0:decide (a1≤(rd l0_6 x7_5))=false:=decide_eq_false c42
                   clear c42
                   have H':=qaf.mk H
                   clear H
                   have hcz44_0:wr.cell? ⟨gb113,0,none⟩=some (.int .i64 a0_0):=(qac BK113.out 0).trans rfl
                   have hcz44_1:wr.cell? ⟨gb113,1,none⟩=some (.int .i64 a0_1):=(qac BK113.out 1).trans rfl
                   have hcz44_2:wr.cell? ⟨gb113,2,none⟩=some (.int .i64 a0_2):=(qac BK113.out 2).trans rfl
                   have hcz44_3:wr.cell? ⟨gb113,3,none⟩=some (.int .i64 a0_3):=(qac BK113.out 3).trans rfl
                   have hcz44_4:wr.cell? ⟨gb113,4,none⟩=some (.int .i64 a0_4):=(qac BK113.out 4).trans rfl
                   have hcz44_5:wr.cell? ⟨gb113,5,none⟩=some (.slice A0_5 l0_5.length c0_5):=(qac BK113.out 5).trans rfl
                   have hcz44_6:wr.cell? ⟨gb113,6,none⟩=some (.slice A0_6 l0_6.length c0_6):=(qac BK113.out 6).trans rfl
                   have hfz44_0:=qaa BK113.out 0
                   have hfz44_1:=qaa BK113.out 1
                   have hfz44_2:=qaa BK113.out 2
                   have hfz44_3:=qaa BK113.out 3
                   have hfz44_4:=qaa BK113.out 4
                   have hfz44_5:=qaa BK113.out 5
                   have hfz44_6:=qaa BK113.out 6
                   have p117:0≤(x7_5:Int):=of_decide_eq_true (by first|(with_reducible assumption)|assumption)
                   have q117:x7_5<(l0_6.length:Int):=of_decide_eq_true (by first|(with_reducible assumption)|assumption)
                   obtain⟨ad117,e117,hx117_0⟩:=Kd.at_int HR0_6.out x7_5 p117 q117
                   cases e117
                   replace hx117_0:=(HB.out.cell (bLt w _ hx117_0)).trans hx117_0
                   replace p117:=eq_true p117
                   replace q117:=eq_true q117
                   have p118:0≤(x7_5:Int):=of_decide_eq_true (by first|(with_reducible assumption)|assumption)
                   have q118:x7_5<(l0_6.length:Int):=of_decide_eq_true (by first|(with_reducible assumption)|assumption)
                   obtain⟨ad118,e118,hx118_0⟩:=Kd.at_int HR0_6.out x7_5 p118 q118
                   obtain rfl:ad117=ad118:=(by injection e118)
                   replace hx118_0:=(HB.out.cell (bLt w _ hx118_0)).trans hx118_0
                   replace p118:=eq_true p118
                   replace q118:=eq_true q118
                   go_wp2
                   go_roundg k5
                   case measure=>have:=HJ2.out;have:=HJ12.out;have:=HK3.out;have:=HJ29.out;have:=HK5.out;omega
                   case rel=>exact⟨(wrap64 (x7_5+1)),(by first|rfl|(simp;done)|(simp [*];done)),H',⟨by have:=HJ2.out;have:=HJ12.out;have:=HK3.out;have:=HJ29.out;have:=HK5.out;omega⟩,⟨by (with_reducible repeat (first|refine qah ?_ _|refine qaj ?_|refine qai ?_ _));exact BK113.out⟩,⟨by repeat (first|(with_reducible first|exact HB.out|apply qae|apply qab|apply qad|refine qag ?_ GE113.out)|exact HB.out)⟩⟩
                ·rw [if_neg c39] at H
                 exact absurd H (by simp)
               ·rw [if_neg c38] at H
                have c38b0:decide (x7_5<(l0_6.length:Int))=false:=decide_eq_false c38
                clear c38
                by_cases c45:(l0_6.length:Int) > 64
                ·rw [if_pos c45] at H
                 have c45b0:decide (64<(l0_6.length:Int))=true:=decide_eq_true c45
                 have c45b1:decide (64<l0_6.length)=true:=decide_eq_true (by omega)
                 clear c45
                 obtain rfl:=Option.some.inj H
                 have hcz46_0:wr.cell? ⟨gb113,0,none⟩=some (.int .i64 a0_0):=(qac BK113.out 0).trans rfl
                 have hcz46_1:wr.cell? ⟨gb113,1,none⟩=some (.int .i64 a0_1):=(qac BK113.out 1).trans rfl
                 have hcz46_2:wr.cell? ⟨gb113,2,none⟩=some (.int .i64 a0_2):=(qac BK113.out 2).trans rfl
                 have hcz46_3:wr.cell? ⟨gb113,3,none⟩=some (.int .i64 a0_3):=(qac BK113.out 3).trans rfl
                 have hcz46_4:wr.cell? ⟨gb113,4,none⟩=some (.int .i64 a0_4):=(qac BK113.out 4).trans rfl
                 have hcz46_5:wr.cell? ⟨gb113,5,none⟩=some (.slice A0_5 l0_5.length c0_5):=(qac BK113.out 5).trans rfl
                 have hcz46_6:wr.cell? ⟨gb113,6,none⟩=some (.slice A0_6 l0_6.length c0_6):=(qac BK113.out 6).trans rfl
                 have hfz46_0:=qaa BK113.out 0
                 have hfz46_1:=qaa BK113.out 1
                 have hfz46_2:=qaa BK113.out 2
                 have hfz46_3:=qaa BK113.out 3
                 have hfz46_4:=qaa BK113.out 4
                 have hfz46_5:=qaa BK113.out 5
                 have hfz46_6:=qaa BK113.out 6
                 go_wp2
                 go_ret
                 exact⟨by first|rfl|(simp [qao,qan]<;>rfl)|(simp [bneNil,bneNilU]<;>rfl)|(simp [*,qao,qan]<;>rfl),by repeat (first|(with_reducible first|exact HB.out|apply qae|apply qab|apply qad|refine qag ?_ GE113.out)|exact HB.out)⟩
                ·rw [if_neg c45] at H
                 have c45b0:decide (64<(l0_6.length:Int))=false:=decide_eq_false c45
                 have c45b1:decide (64<l0_6.length)=false:=decide_eq_false (by omega)
                 clear c45
                 obtain rfl:=Option.some.inj H
                 have hcz47_0:wr.cell? ⟨gb113,0,none⟩=some (.int .i64 a0_0):=(qac BK113.out 0).trans rfl
                 have hcz47_1:wr.cell? ⟨gb113,1,none⟩=some (.int .i64 a0_1):=(qac BK113.out 1).trans rfl
                 have hcz47_2:wr.cell? ⟨gb113,2,none⟩=some (.int .i64 a0_2):=(qac BK113.out 2).trans rfl
                 have hcz47_3:wr.cell? ⟨gb113,3,none⟩=some (.int .i64 a0_3):=(qac BK113.out 3).trans rfl
                 have hcz47_4:wr.cell? ⟨gb113,4,none⟩=some (.int .i64 a0_4):=(qac BK113.out 4).trans rfl
                 have hcz47_5:wr.cell? ⟨gb113,5,none⟩=some (.slice A0_5 l0_5.length c0_5):=(qac BK113.out 5).trans rfl
                 have hcz47_6:wr.cell? ⟨gb113,6,none⟩=some (.slice A0_6 l0_6.length c0_6):=(qac BK113.out 6).trans rfl
                 have hfz47_0:=qaa BK113.out 0
                 have hfz47_1:=qaa BK113.out 1
                 have hfz47_2:=qaa BK113.out 2
                 have hfz47_3:=qaa BK113.out 3
                 have hfz47_4:=qaa BK113.out 4
                 have hfz47_5:=qaa BK113.out 5
                 have hfz47_6:=qaa BK113.out 6
                 go_wp2
                 go_ret
                 exact⟨by first|rfl|(simp [qao,qan]<;>rfl)|(simp [bneNil,bneNilU]<;>rfl)|(simp [*,qao,qan]<;>rfl),by repeat (first|(with_reducible first|exact HB.out|apply qae|apply qab|apply qad|refine qag ?_ GE113.out)|exact HB.out)⟩
end
end Go.Proofs.YtcfknijdhmildaaDoor.PParseRight
end
