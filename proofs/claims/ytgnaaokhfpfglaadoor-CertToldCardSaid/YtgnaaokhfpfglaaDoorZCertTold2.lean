/- Texts of this claim, one behind the other: PrnL, FactsK, RunW, PrnP, CrtA, CrtE, CrtB, TabsCertTold, FactsT, CrtP, CrtM, WEqStruct, WRepsOne, WGuard, PCertTold0, KCertTold, PCertTold1, PCertTold2. -/
import Derived.Test.YtgnaaokhfpfglaaDoorZCertTold1
import Derived.Lib.Builder
import Derived.Lib.AppendStr
import Derived.Laws.StructEq
import Derived.Test.YtgnaaokhfpfglaaDoorProg
import Derived.Below
import Derived.Deep.Draws
import Derived.Deep.AppendLies
import Derived.Maps.AppendAt
import Derived.OwnWalk
import Derived.Laws.BytesArg
import Derived.Laws.MakeOwn
import Derived.Laws.OwnMore
import Derived.Deep.OwnRows
import Derived.Tactics
import Derived.Lib.ConvBytes
import Derived.Laws.Slices
import Derived.WalkKit
import Derived.KernelRfl
import Derived.RowKit3
import Derived.Deep.LoopGhost
import Derived.Deep.QuietTactic
import Derived.BigQuiet
import Derived.WideLaws
import Derived.Deep.DeepCutAuto
import Derived.Deep.CutBlock
import Derived.Deep.RegionHeld3
import Derived.Laws.Rows
import Derived.ArgAppend
import Derived.Laws.IdiomCopy
import Derived.OrdersHeld
import Derived.Laws.BitsLemmas
import Derived.RowKit

set_option maxHeartbeats 8000000
set_option maxRecDepth 100000
set_option linter.unusedVariables false
set_option linter.unusedSimpArgs false
section
namespace Go.Proofs.YtgnaaokhfpfglaaDoor
open Go.RowKit Go.Shelf Go.Lib Go.Proofs.YtgnaaokhfpfglaaDoorW.PrintWords
theorem task_words (x:Tk):(lineP x)=⟨(Lib.join ((([⟨#[116,97,115,107]⟩,digB x.id,⟨#[99,61]⟩++digB x.c,⟨#[100,61]⟩++digB x.d,⟨#[116,61]⟩++digB x.t,⟨#[112,61]⟩++digB x.p]
  ++ ((if 0<x.ch.length then [(⟨#[99,104,117,110,107,115,61]⟩:ByteArray)++joinP x.ch] else [])++(if 0<x.us.length then [(⟨#[117,115,101,61]⟩:ByteArray)++joinP x.us] else []))):List ByteArray).map (·.data.toList)) [32]).toArray⟩:=by
 refine ByteArray.ext (Array.ext' ?_)
 unfold lineP lineC lineN
 by_cases h1:0<x.ch.length
 ·by_cases h2:0<x.us.length
  ·simp [h1,h2,Lib.join,List.intercalate,ByteArray.data_append]
  ·simp [h1,h2,Lib.join,List.intercalate,ByteArray.data_append]
 ·by_cases h2:0<x.us.length
  ·simp [h1,h2,Lib.join,List.intercalate,ByteArray.data_append]
  ·simp [h1,h2,Lib.join,List.intercalate,ByteArray.data_append]
theorem sjoin_own {w:World} {base:Nat} {v:Value} (S:List ByteArray) (R:ByteArray) (h:w.ownsRow base 9 1 v S.length (S.map Value.string)) (h0:0<S.length) (h9:S.length≤100) (hR:R=⟨(Lib.join (S.map (·.data.toList)) [32]).toArray⟩) (hs:R.size≤140737488355328) :
  Calls Tryd.prog 51 #[v,.string ⟨#[32]⟩] w fun e w'=>e=.returned (.string R)∧Below w.heap.size w w':=by
 rcases h.2 with ⟨_,h1⟩|⟨g,cap,cur,rfl,h1,h2,h3,h4,h5,h6⟩
 ·omega
 ·subst hR
  rw [Lib.size_eq] at hs
  refine Tryd.strings_Join g 0 cap S ⟨#[32]⟩ w (fun j x hx=>?_) (lt_of_block h2) (by omega) h3 (by simpa using hs)
  have hj:(S.map Value.string)[j]? = some (.string x):=by rw [List.getElem?_map,hx];rfl
  rw [← h6,List.getElem?_take] at hj
  split at hj
  ·rw [World.cell?,h2]
   simpa using hj
  ·cases hj
theorem fill_next {l:List Int} {n i:Nat} (hn:l.length=n) (hi:i<n):(l.take (i+1)).map (Value.int .i64)++List.replicate (n - (i+1)) (Value.int .i64 0)=((l.take i).map (Value.int .i64)++List.replicate (n - i) (Value.int .i64 0)).set i (Value.int .i64 (l[i]'(by omega))):=by
 have hil:i<l.length:=by omega
 have e:n - i=(n - (i+1))+1:=by omega
 have hl:((l.take i).map (Value.int .i64)).length=i:=by rw [List.length_map,List.length_take];omega
 rw [List.set_append_right _ _ (by omega),hl,Nat.sub_self,e,List.replicate_succ,List.set_cons_zero,List.take_succ_eq_append_getElem hil,List.map_append]
 simp
theorem row_snoc {w:World} {base:Nat} {e:TypeId} {v:Value} {S:List ByteArray} {n:Nat} (x:ByteArray) (hn:S.length=n) (h:w.ownsRow base e 1 v (n+1) (S.map Value.string++[.string x])):w.ownsRow base e 1 v (S++[x]).length ((S++[x]).map Value.string):=by
 rw [List.length_append,hn]
 simpa using h
def TkIn (tb:Nat) (x:Tk) (A5:Option Addr) (lc c5:Nat) (A6:Option Addr) (lu c6:Nat) (w W:World):Prop:=W.cell? ⟨tb,0,none⟩=some (.int .i64 x.id)∧W.cell? ⟨tb,1,none⟩=some (.int .i64 x.c)∧W.cell? ⟨tb,2,none⟩=some (.int .i64 x.d)∧W.cell? ⟨tb,3,none⟩=some (.int .i64 x.t)∧W.cell? ⟨tb,4,none⟩=some (.int .i64 x.p)∧W.cell? ⟨tb,5,none⟩=some (.slice A5 lc c5)∧W.cell? ⟨tb,6,none⟩=some (.slice A6 lu c6)∧Below tb w W
theorem TkIn.below {tb:Nat} {x:Tk} {A5:Option Addr} {lc c5:Nat} {A6:Option Addr} {lu c6:Nat} {w W W':World} (h:TkIn tb x A5 lc c5 A6 lu c6 w W) (hb:Below W.heap.size W W'):TkIn tb x A5 lc c5 A6 lu c6 w W':=held_below h hb
theorem TkIn.lt {tb:Nat} {x:Tk} {A5:Option Addr} {lc c5:Nat} {A6:Option Addr} {lu c6:Nat} {w W:World} (h:TkIn tb x A5 lc c5 A6 lu c6 w W):tb<W.heap.size:=cell_lt h.1
theorem TkIn.grown {tb:Nat} {x:Tk} {A5:Option Addr} {lc c5:Nat} {A6:Option Addr} {lu c6:Nat} {w W W':World} {row:Option Nat} (h:TkIn tb x A5 lc c5 A6 lu c6 w W) (hg:W.grownBy W' row) (hr:∀ k,row=some k→tb<k):TkIn tb x A5 lc c5 A6 lu c6 w W':=by
 have hl:=h.lt
 have hb:W'.heap[tb]? = W.heap[tb]?:=hg.block tb hl (fun e=>by have:=hr tb e.symm;omega)
 obtain⟨h0,h1,h2,h3,h4,h5,h6,hB⟩:=h
 have m:∀ i v,W.cell? ⟨tb,i,none⟩=some v→W'.cell? ⟨tb,i,none⟩=some v:=fun i v h=>(World.cell?_of_block hb).trans h
 exact⟨m _ _ h0,m _ _ h1,m _ _ h2,m _ _ h3,m _ _ h4,m _ _ h5,m _ _ h6,hB.grown hg (by omega) (fun k e=>by have:=hr k e;omega)⟩
theorem arr_lit70 (xs:Array Value) (h:xs.size=70):xs=List.toArray (xs.getD 0 undef::xs.getD 1 undef::xs.getD 2 undef::xs.getD 3 undef::xs.getD 4 undef::xs.getD 5 undef::xs.getD 6 undef::xs.getD 7 undef::xs.getD 8 undef::xs.getD 9 undef::xs.getD 10 undef::xs.getD 11 undef::xs.getD 12 undef::xs.getD 13 undef::xs.getD 14 undef::xs.getD 15 undef::xs.getD 16 undef::xs.getD 17 undef::xs.getD 18 undef::xs.getD 19 undef::xs.getD 20 undef::xs.getD 21 undef::xs.getD 22 undef::xs.getD 23 undef::xs.getD 24 undef::xs.getD 25 undef::xs.getD 26 undef::xs.getD 27 undef::xs.getD 28 undef::xs.getD 29 undef::xs.getD 30 undef::xs.getD 31 undef::xs.getD 32 undef::xs.getD 33 undef::xs.getD 34 undef::xs.getD 35 undef::xs.getD 36 undef::xs.getD 37 undef::xs.getD 38 undef::xs.getD 39 undef::xs.getD 40 undef::xs.getD 41 undef::xs.getD 42 undef::xs.getD 43 undef::xs.getD 44 undef::xs.getD 45 undef::xs.getD 46 undef::xs.getD 47 undef::xs.getD 48 undef::xs.getD 49 undef::xs.getD 50 undef::xs.getD 51 undef::xs.getD 52 undef::xs.getD 53 undef::xs.getD 54 undef::xs.getD 55 undef::xs.getD 56 undef::xs.getD 57 undef::xs.getD 58 undef::xs.getD 59 undef::xs.getD 60 undef::xs.getD 61 undef::xs.getD 62 undef::xs.getD 63 undef::xs.getD 64 undef::xs.getD 65 undef::xs.getD 66 undef::xs.getD 67 undef::xs.getD 68 undef::xs.getD 69 undef::[]):=arr_range xs 70 h
theorem line_any (x:Tk) (A5:Option Addr) (c5:Nat) (A6:Option Addr) (c6:Nat) (w:World) (h5:x.ch.length≤4000000) (h6:x.us.length≤4000000) (hc:x.c≤9223372036854775807) (hr5:NRow w w.heap.size A5 x.ch) (hr6:NRow w w.heap.size A6 x.us)
  (htab:Lib.TabIs Tryd.prog w "internal/strconv.uint64pow10" .u64 Lib.pow10Tab) (hg:0<w.heap.size) :
  Calls Tryd.prog 52 #[.agg #[.int .i64 x.id,.int .i64 x.c,.int .i64 x.d,.int .i64 x.t,.int .i64 x.p,.slice A5 x.ch.length c5,.slice A6 x.us.length c6]] w fun e w'=>
   e=.returned (.string (lineT x))∧Below w.heap.size w w':=by
 unfold lineT
 have hb0:=(Below.refl w.heap.size w).alloc (Nat.le_refl _) (.cells #[.int .i64 x.id,.int .i64 x.c,.int .i64 x.d,.int .i64 x.t,.int .i64 x.p,.slice A5 x.ch.length c5,.slice A6 x.us.length c6] 53)
 have hn0:=heap_alloc_new w (.cells #[.int .i64 x.id,.int .i64 x.c,.int .i64 x.d,.int .i64 x.t,.int .i64 x.p,.slice A5 x.ch.length c5,.slice A6 x.us.length c6] 53)
 have HRT1:=Lib.hid (right_task x.id x.c x.d x.t x.p A5 c5 x.ch A6 c6 x.us 256 (w.alloc (.cells #[.int .i64 x.id,.int .i64 x.c,.int .i64 x.d,.int .i64 x.t,.int .i64 x.p,.slice A5 x.ch.length c5,.slice A6 x.us.length c6] 53)) h5 h6 hc (hr5.below hb0 (Nat.le_refl _) |>.more hb0.size) (hr6.below hb0 (Nat.le_refl _) |>.more hb0.size))
 have HN5:=Lib.hid hr5
 have HN6:=Lib.hid hr6
 have HTB:=Lib.hid (And.intro htab hg)
 have HSM:=Lib.hid (fun h=>rightE_small (x:=x) (sets:=256) (by decide) h)
 have HLP:=Lib.hid (task_words x)
 have HLZ:Hid (rightE x.id x.c x.d x.t x.p x.ch x.us 256=0→(lineP x).size≤3100):=Lib.hid (fun h=>by have:=lineT_size x;unfold lineT at this;rwa [if_pos h] at this)
 generalize lineP x=LP at HLP HLZ ⊢
 obtain⟨lc,hlc⟩:∃ z,x.ch.length=z:=⟨_,rfl⟩
 obtain⟨lu,hlu⟩:∃ z,x.us.length=z:=⟨_,rfl⟩
 have HJ5:Hid (∀ (W:World),Below w.heap.size w W→(∀ y ∈ x.ch,-9223372036854775808≤y∧y≤9223372036854775807)→x.ch.length≤1000→NRow W W.heap.size A5 x.ch→Calls Tryd.prog 29 #[.slice A5 lc c5] W fun e w'=>e=.returned (.string (joinP x.ch))∧Below W.heap.size W w'):=Lib.hid (fun W hb hl hn hr=>hlc ▸ join_any A5 c5 x.ch W hl hn hr (qaR htab hb hg) (by have:=hb.size;omega))
 have HJ6:Hid (∀ (W:World) (A:Option Addr) (c:Nat),Below w.heap.size w W→(∀ y ∈ x.us,-9223372036854775808≤y∧y≤9223372036854775807)→x.us.length≤1000→NRow W W.heap.size A x.us→Calls Tryd.prog 29 #[.slice A lu c] W fun e w'=>e=.returned (.string (joinP x.us))∧Below W.heap.size W w'):=Lib.hid (fun W A c hb hl hn hr=>hlu ▸ join_any A c x.us W hl hn hr (qaR htab hb hg) (by have:=hb.size;omega))
 have j5:Hid ((∀ y ∈ x.ch,-9223372036854775808≤y∧y≤9223372036854775807)→(joinP x.ch).size≤x.ch.length * 22):=Lib.hid joinP_size
 have j6:Hid ((∀ y ∈ x.us,-9223372036854775808≤y∧y≤9223372036854775807)→(joinP x.us).size≤x.us.length * 22):=Lib.hid joinP_size
 generalize joinP x.ch=J5 at HJ5 j5 HLP
 generalize joinP x.us=J6 at HJ6 j6 HLP
 rw [hlc,hlu] at hb0 hn0 HRT1
 rw [hlc,hlu]
 rw [hlc,hlu] at HLP
 have HLL:=Lib.hid (And.intro hlc hlu)
 generalize hE:rightE x.id x.c x.d x.t x.p x.ch x.us 256=E at HRT1 HSM HLZ ⊢
 clear hE hlc hlu hr5 hr6 h5 h6 hc htab hg
 by_cases hE0:E=0
 rotate_left
 ·rw [if_neg hE0]
  have hEb:(E == 0)=false:=by simpa using hE0
  clear hE0
  go_enter Tryd.func52,Tryd.ntmps52
  go_upto_region 1 with (fail)
  generalize w.alloc (.cells #[.int .i64 x.id,.int .i64 x.c,.int .i64 x.d,.int .i64 x.t,.int .i64 x.p,.slice A5 lc c5,.slice A6 lu c6] 53)=w0 at hb0 hn0 HRT1 ⊢
  obtain⟨t0,t1,t2,t3,t4,t5,t6⟩:=qba hn0
  have HB:=Lib.hid hb0
  clear hb0 hn0
  go_wp2_with (go_at_call 66;refine HRT1.out.mono ?_;rintro e w1 ⟨rfl,hb1⟩)
  go_ret
  exact⟨rfl,HB.out.trans (hb1.mono HB.out.size)⟩
 subst hE0
 rw [if_pos rfl]
 obtain⟨hid,hp,hcdt,hcl,hch,hul,hus⟩:=HSM.out rfl
 have d0:=qaG x.id (by omega) (by omega)
 have d1:=qaG x.c (by omega) (by omega)
 have d2:=qaG x.d (by omega) (by omega)
 have d3:=qaG x.t (by omega) (by omega)
 have d4:=qaG x.p (by omega) (by omega)
 have sJ5:J5.size≤1408:=by have:=j5.out (fun y hy=>by have:=hch y hy;omega);omega
 have sJ6:J6.size≤1408:=by have:=j6.out (fun y hy=>by have:=hus y hy;omega);omega
 have sLP:Hid (LP.size≤3100):=Lib.hid (HLZ.out rfl)
 clear j5 j6 HLZ
 have HCH:=Lib.hid hch
 have HUS:=Lib.hid hus
 have D0:=Lib.hid (fun W h=>qa5 x.id W (by omega) (by omega) h)
 have D1:=Lib.hid (fun W h=>qa5 x.c W (by omega) (by omega) h)
 have D2:=Lib.hid (fun W h=>qa5 x.d W (by omega) (by omega) h)
 have D3:=Lib.hid (fun W h=>qa5 x.t W (by omega) (by omega) h)
 have D4:=Lib.hid (fun W h=>qa5 x.p W (by omega) (by omega) h)
 rw [show (⟨(itoa x.id).toArray⟩:ByteArray)=digB x.id from rfl] at D0
 rw [show (⟨(itoa x.c).toArray⟩:ByteArray)=digB x.c from rfl] at D1
 rw [show (⟨(itoa x.d).toArray⟩:ByteArray)=digB x.d from rfl] at D2
 rw [show (⟨(itoa x.t).toArray⟩:ByteArray)=digB x.t from rfl] at D3
 rw [show (⟨(itoa x.p).toArray⟩:ByteArray)=digB x.p from rfl] at D4
 generalize digB x.id=b0 at d0 D0 HLP
 generalize digB x.c=b1 at d1 D1 HLP
 generalize digB x.d=b2 at d2 D2 HLP
 generalize digB x.t=b3 at d3 D3 HLP
 generalize digB x.p=b4 at d4 D4 HLP
 clear hch hus hid hp hcdt HSM
 go_enter Tryd.func52,Tryd.ntmps52
 go_upto_region 1 with (fail)
 generalize w.alloc (.cells #[.int .i64 x.id,.int .i64 x.c,.int .i64 x.d,.int .i64 x.t,.int .i64 x.p,.slice A5 lc c5,.slice A6 lu c6] 53)=w0 at hb0 hn0 HRT1 ⊢
 obtain⟨tb,htb⟩:∃ z,w.heap.size=z:=⟨_,rfl⟩
 rw [htb] at hn0 ⊢
 obtain⟨t0,t1,t2,t3,t4,t5,t6⟩:=qba hn0
 have HB:=Lib.hid (And.intro hb0 hn0)
 clear hb0 hn0
 go_upto_region 3 with (go_at_call 66;refine HRT1.out.mono ?_;rintro e w1 ⟨rfl,hb1⟩)
 have HS1:TkIn tb x A5 lc c5 A6 lu c6 w w1:=TkIn.below (W:=w0) ⟨t0,t1,t2,t3,t4,t5,t6,by rw [← htb];exact HB.out.1⟩ hb1
 have HW:Hid (w.heap.size=tb):=Lib.hid htb
 clear t0 t1 t2 t3 t4 t5 t6 hb1 HB HRT1
 have C0:Hid (∀ (W:World),TkIn tb x A5 lc c5 A6 lu c6 w W→Calls Tryd.prog 50 #[.int .i64 x.id] W fun e w'=>e=.returned (.string b0)∧(TkIn tb x A5 lc c5 A6 lu c6 w w'∧Below W.heap.size W w')):=Lib.hid (fun W h=>(D0.out W (qaR HTB.out.1 (by rw [HW.out];exact h.2.2.2.2.2.2.2) HTB.out.2)).mono fun e w' ⟨h1,h2⟩=>⟨h1,h.below h2,h2⟩)
 have C1:Hid (∀ (W:World),TkIn tb x A5 lc c5 A6 lu c6 w W→Calls Tryd.prog 50 #[.int .i64 x.c] W fun e w'=>e=.returned (.string b1)∧(TkIn tb x A5 lc c5 A6 lu c6 w w'∧Below W.heap.size W w')):=Lib.hid (fun W h=>(D1.out W (qaR HTB.out.1 (by rw [HW.out];exact h.2.2.2.2.2.2.2) HTB.out.2)).mono fun e w' ⟨h1,h2⟩=>⟨h1,h.below h2,h2⟩)
 have C2:Hid (∀ (W:World),TkIn tb x A5 lc c5 A6 lu c6 w W→Calls Tryd.prog 50 #[.int .i64 x.d] W fun e w'=>e=.returned (.string b2)∧(TkIn tb x A5 lc c5 A6 lu c6 w w'∧Below W.heap.size W w')):=Lib.hid (fun W h=>(D2.out W (qaR HTB.out.1 (by rw [HW.out];exact h.2.2.2.2.2.2.2) HTB.out.2)).mono fun e w' ⟨h1,h2⟩=>⟨h1,h.below h2,h2⟩)
 have C3:Hid (∀ (W:World),TkIn tb x A5 lc c5 A6 lu c6 w W→Calls Tryd.prog 50 #[.int .i64 x.t] W fun e w'=>e=.returned (.string b3)∧(TkIn tb x A5 lc c5 A6 lu c6 w w'∧Below W.heap.size W w')):=Lib.hid (fun W h=>(D3.out W (qaR HTB.out.1 (by rw [HW.out];exact h.2.2.2.2.2.2.2) HTB.out.2)).mono fun e w' ⟨h1,h2⟩=>⟨h1,h.below h2,h2⟩)
 have C4:Hid (∀ (W:World),TkIn tb x A5 lc c5 A6 lu c6 w W→Calls Tryd.prog 50 #[.int .i64 x.p] W fun e w'=>e=.returned (.string b4)∧(TkIn tb x A5 lc c5 A6 lu c6 w w'∧Below W.heap.size W w')):=Lib.hid (fun W h=>(D4.out W (qaR HTB.out.1 (by rw [HW.out];exact h.2.2.2.2.2.2.2) HTB.out.2)).mono fun e w' ⟨h1,h2⟩=>⟨h1,h.below h2,h2⟩)
 clear D0 D1 D2 D3 D4
 obtain⟨n0,hn0⟩:∃ z,w1.heap.size=z:=⟨_,rfl⟩
 have HTN:Hid (tb<n0):=Lib.hid (by rw [← hn0];exact HS1.lt)
 have HS1d:TkIn tb x A5 lc c5 A6 lu c6 w w1.drew∧n0≤w1.drew.heap.size:=⟨HS1.below (Below.refl _ _).drew,by rw [← hn0];exact Nat.le_refl _⟩
 have z1:(⟨#[99,61]⟩:ByteArray).size=2:=rfl
 have z2:(⟨#[100,61]⟩:ByteArray).size=2:=rfl
 have z3:(⟨#[116,61]⟩:ByteArray).size=2:=rfl
 have z4:(⟨#[112,61]⟩:ByteArray).size=2:=rfl
 have z5:(⟨#[99,104,117,110,107,115,61]⟩:ByteArray).size=7:=rfl
 have z6:(⟨#[117,115,101,61]⟩:ByteArray).size=4:=rfl
 go_cut [1,2,3] from 70 (fun v1 v2 v3 wx=>v1=.pointer (some ⟨tb,0,none⟩)∧v2=.string ⟨#[]⟩∧TkIn tb x A5 lc c5 A6 lu c6 w wx∧n0≤wx.heap.size∧wx.ownsRow n0 9 1 v3 6 [.string ⟨#[116,97,115,107]⟩,.string b0,.string ((⟨#[99,61]⟩:ByteArray)++b1),.string ((⟨#[100,61]⟩:ByteArray)++b2),.string ((⟨#[116,61]⟩:ByteArray)++b3),.string ((⟨#[112,61]⟩:ByteArray)++b4)])
 case first=>
  refine wp_region_facts (by kernel_rfl) (by kernel_rfl) (fun i v W=>match i with
    |0=>v=.pointer (some ⟨tb,0,none⟩)
    |1=>v=.int .i64 x.id
    |2=>v=.string b0
    |3=>v=.pointer (some ⟨tb,1,none⟩)
    |4=>v=.int .i64 x.c
    |5=>v=.string b1
    |6=>v=.string ((⟨#[99,61]⟩:ByteArray)++b1)
    |7=>v=.pointer (some ⟨tb,2,none⟩)
    |8=>v=.int .i64 x.d
    |9=>v=.string b2
    |10=>v=.string ((⟨#[100,61]⟩:ByteArray)++b2)
    |11=>v=.pointer (some ⟨tb,3,none⟩)
    |12=>v=.int .i64 x.t
    |13=>v=.string b3
    |14=>v=.string ((⟨#[116,61]⟩:ByteArray)++b3)
    |15=>v=.pointer (some ⟨tb,4,none⟩)
    |16=>v=.int .i64 x.p
    |17=>v=.string b4
    |18=>v=.string ((⟨#[112,61]⟩:ByteArray)++b4)
    |19=>W.ownsRow n0 9 1 v 6 [.string ⟨#[116,97,115,107]⟩,.string b0,.string ((⟨#[99,61]⟩:ByteArray)++b1),.string ((⟨#[100,61]⟩:ByteArray)++b2),.string ((⟨#[116,61]⟩:ByteArray)++b3),.string ((⟨#[112,61]⟩:ByteArray)++b4)]
    |20=>W.ownsRow n0 9 1 v 6 [.string ⟨#[116,97,115,107]⟩,.string b0,.string ((⟨#[99,61]⟩:ByteArray)++b1),.string ((⟨#[100,61]⟩:ByteArray)++b2),.string ((⟨#[116,61]⟩:ByteArray)++b3),.string ((⟨#[112,61]⟩:ByteArray)++b4)]
    |_=>True) (fun W W'=>Below W.heap.size W W') (fun i v W W' h hk=>?_) (fun W=>TkIn tb x A5 lc c5 A6 lu c6 w W∧n0≤W.heap.size) HS1d ?_ ?_
  ·match i with
   |19=>exact qaS h hk (Nat.le_refl _)
   |20=>exact qaS h hk (Nat.le_refl _)
   |0|1|2|3|4|5|6|7|8|9|10|11|12|13|14|15|16|17|18=>exact h
   |_+21=>exact h
  ·intro i o a W ho hsz hfr hdep hG
   have hi:i<21:=(Array.getElem?_eq_some_iff.1 ho).1
   have hin:i=0∨i=1∨i=2∨i=3∨i=4∨i=5∨i=6∨i=7∨i=8∨i=9∨i=10∨i=11∨i=12∨i=13∨i=14∨i=15∨i=16∨i=17∨i=18∨i=19∨i=20:=by omega
   rcases hin with rfl|rfl|rfl|rfl|rfl|rfl|rfl|rfl|rfl|rfl|rfl|rfl|rfl|rfl|rfl|rfl|rfl|rfl|rfl|rfl|rfl
   ·cases ho
    have g:a.tmps.getD 1 undef=.pointer (some ⟨tb,0,none⟩):=by rw [gDe,hfr 1 (qau (by kernel_rfl))];rfl
    clear hfr hdep hsz
    generalize hK:(fun (a':Act) (w':World)=>_)=K
    go_simp
    rw [← hK]
    exact⟨_,rfl,rfl,Below.refl _ _,hG⟩
   ·cases ho
    obtain⟨_,q0,e0⟩:=hdep ⟨0,.data⟩ (by simp) rfl _ _ rfl rfl
    have g0:a.tmps.getD 10 undef=.pointer (some ⟨tb,0,none⟩):=by rw [gDe,q0,e0];rfl
    rw [e0] at q0
    clear e0
    have hc:W.cell? ⟨tb,0,none⟩=some (.int .i64 x.id):=hG.1.1
    clear hfr hdep hsz
    generalize hK:(fun (a':Act) (w':World)=>_)=K
    go_simp
    rw [← hK]
    exact⟨_,rfl,rfl,Below.refl _ _,hG⟩
   ·cases ho
    obtain⟨_,q1,e1⟩:=hdep ⟨1,.data⟩ (by simp) rfl _ _ rfl rfl
    have g1:a.tmps.getD 11 undef=.int .i64 x.id:=by rw [gDe,q1,e1];rfl
    rw [e1] at q1
    clear e1
    clear hfr hdep hsz
    generalize hK:(fun (a':Act) (w':World)=>_)=K
    go_simp
    refine (C0.out W hG.1).mono ?_
    rintro e W2 ⟨rfl,hb,hb2⟩
    show K _ _
    rw [← hK]
    exact⟨_,rfl,rfl,hb2,hb,Nat.le_trans hG.2 hb2.size⟩
   ·cases ho
    have g:a.tmps.getD 1 undef=.pointer (some ⟨tb,0,none⟩):=by rw [gDe,hfr 1 (qau (by kernel_rfl))];rfl
    clear hfr hdep hsz
    generalize hK:(fun (a':Act) (w':World)=>_)=K
    go_simp
    rw [← hK]
    exact⟨_,rfl,rfl,Below.refl _ _,hG⟩
   ·cases ho
    obtain⟨_,q3,e3⟩:=hdep ⟨3,.data⟩ (by simp) rfl _ _ rfl rfl
    have g3:a.tmps.getD 13 undef=.pointer (some ⟨tb,1,none⟩):=by rw [gDe,q3,e3];rfl
    rw [e3] at q3
    clear e3
    have hc:W.cell? ⟨tb,1,none⟩=some (.int .i64 x.c):=hG.1.2.1
    clear hfr hdep hsz
    generalize hK:(fun (a':Act) (w':World)=>_)=K
    go_simp
    rw [← hK]
    exact⟨_,rfl,rfl,Below.refl _ _,hG⟩
   ·cases ho
    obtain⟨_,q4,e4⟩:=hdep ⟨4,.data⟩ (by simp) rfl _ _ rfl rfl
    have g4:a.tmps.getD 14 undef=.int .i64 x.c:=by rw [gDe,q4,e4];rfl
    rw [e4] at q4
    clear e4
    clear hfr hdep hsz
    generalize hK:(fun (a':Act) (w':World)=>_)=K
    go_simp
    refine (C1.out W hG.1).mono ?_
    rintro e W2 ⟨rfl,hb,hb2⟩
    show K _ _
    rw [← hK]
    exact⟨_,rfl,rfl,hb2,hb,Nat.le_trans hG.2 hb2.size⟩
   ·cases ho
    obtain⟨_,q5,e5⟩:=hdep ⟨5,.data⟩ (by simp) rfl _ _ rfl rfl
    have g5:a.tmps.getD 15 undef=.string b1:=by rw [gDe,q5,e5];rfl
    rw [e5] at q5
    clear e5
    clear hfr hdep hsz
    generalize hK:(fun (a':Act) (w':World)=>_)=K
    go_simp
    rw [if_neg (by omega)]
    go_simp
    rw [← hK]
    exact⟨_,rfl,rfl,Below.refl _ _,hG⟩
   ·cases ho
    have g:a.tmps.getD 1 undef=.pointer (some ⟨tb,0,none⟩):=by rw [gDe,hfr 1 (qau (by kernel_rfl))];rfl
    clear hfr hdep hsz
    generalize hK:(fun (a':Act) (w':World)=>_)=K
    go_simp
    rw [← hK]
    exact⟨_,rfl,rfl,Below.refl _ _,hG⟩
   ·cases ho
    obtain⟨_,q7,e7⟩:=hdep ⟨7,.data⟩ (by simp) rfl _ _ rfl rfl
    have g7:a.tmps.getD 17 undef=.pointer (some ⟨tb,2,none⟩):=by rw [gDe,q7,e7];rfl
    rw [e7] at q7
    clear e7
    have hc:W.cell? ⟨tb,2,none⟩=some (.int .i64 x.d):=hG.1.2.2.1
    clear hfr hdep hsz
    generalize hK:(fun (a':Act) (w':World)=>_)=K
    go_simp
    rw [← hK]
    exact⟨_,rfl,rfl,Below.refl _ _,hG⟩
   ·cases ho
    obtain⟨_,q8,e8⟩:=hdep ⟨8,.data⟩ (by simp) rfl _ _ rfl rfl
    have g8:a.tmps.getD 18 undef=.int .i64 x.d:=by rw [gDe,q8,e8];rfl
    rw [e8] at q8
    clear e8
    clear hfr hdep hsz
    generalize hK:(fun (a':Act) (w':World)=>_)=K
    go_simp
    refine (C2.out W hG.1).mono ?_
    rintro e W2 ⟨rfl,hb,hb2⟩
    show K _ _
    rw [← hK]
    exact⟨_,rfl,rfl,hb2,hb,Nat.le_trans hG.2 hb2.size⟩
   ·cases ho
    obtain⟨_,q9,e9⟩:=hdep ⟨9,.data⟩ (by simp) rfl _ _ rfl rfl
    have g9:a.tmps.getD 19 undef=.string b2:=by rw [gDe,q9,e9];rfl
    rw [e9] at q9
    clear e9
    clear hfr hdep hsz
    generalize hK:(fun (a':Act) (w':World)=>_)=K
    go_simp
    rw [if_neg (by omega)]
    go_simp
    rw [← hK]
    exact⟨_,rfl,rfl,Below.refl _ _,hG⟩
   ·cases ho
    have g:a.tmps.getD 1 undef=.pointer (some ⟨tb,0,none⟩):=by rw [gDe,hfr 1 (qau (by kernel_rfl))];rfl
    clear hfr hdep hsz
    generalize hK:(fun (a':Act) (w':World)=>_)=K
    go_simp
    rw [← hK]
    exact⟨_,rfl,rfl,Below.refl _ _,hG⟩
   ·cases ho
    obtain⟨_,q11,e11⟩:=hdep ⟨11,.data⟩ (by simp) rfl _ _ rfl rfl
    have g11:a.tmps.getD 21 undef=.pointer (some ⟨tb,3,none⟩):=by rw [gDe,q11,e11];rfl
    rw [e11] at q11
    clear e11
    have hc:W.cell? ⟨tb,3,none⟩=some (.int .i64 x.t):=hG.1.2.2.2.1
    clear hfr hdep hsz
    generalize hK:(fun (a':Act) (w':World)=>_)=K
    go_simp
    rw [← hK]
    exact⟨_,rfl,rfl,Below.refl _ _,hG⟩
   ·cases ho
    obtain⟨_,q12,e12⟩:=hdep ⟨12,.data⟩ (by simp) rfl _ _ rfl rfl
    have g12:a.tmps.getD 22 undef=.int .i64 x.t:=by rw [gDe,q12,e12];rfl
    rw [e12] at q12
    clear e12
    clear hfr hdep hsz
    generalize hK:(fun (a':Act) (w':World)=>_)=K
    go_simp
    refine (C3.out W hG.1).mono ?_
    rintro e W2 ⟨rfl,hb,hb2⟩
    show K _ _
    rw [← hK]
    exact⟨_,rfl,rfl,hb2,hb,Nat.le_trans hG.2 hb2.size⟩
   ·cases ho
    obtain⟨_,q13,e13⟩:=hdep ⟨13,.data⟩ (by simp) rfl _ _ rfl rfl
    have g13:a.tmps.getD 23 undef=.string b3:=by rw [gDe,q13,e13];rfl
    rw [e13] at q13
    clear e13
    clear hfr hdep hsz
    generalize hK:(fun (a':Act) (w':World)=>_)=K
    go_simp
    rw [if_neg (by omega)]
    go_simp
    rw [← hK]
    exact⟨_,rfl,rfl,Below.refl _ _,hG⟩
   ·cases ho
    have g:a.tmps.getD 1 undef=.pointer (some ⟨tb,0,none⟩):=by rw [gDe,hfr 1 (qau (by kernel_rfl))];rfl
    clear hfr hdep hsz
    generalize hK:(fun (a':Act) (w':World)=>_)=K
    go_simp
    rw [← hK]
    exact⟨_,rfl,rfl,Below.refl _ _,hG⟩
   ·cases ho
    obtain⟨_,q15,e15⟩:=hdep ⟨15,.data⟩ (by simp) rfl _ _ rfl rfl
    have g15:a.tmps.getD 25 undef=.pointer (some ⟨tb,4,none⟩):=by rw [gDe,q15,e15];rfl
    rw [e15] at q15
    clear e15
    have hc:W.cell? ⟨tb,4,none⟩=some (.int .i64 x.p):=hG.1.2.2.2.2.1
    clear hfr hdep hsz
    generalize hK:(fun (a':Act) (w':World)=>_)=K
    go_simp
    rw [← hK]
    exact⟨_,rfl,rfl,Below.refl _ _,hG⟩
   ·cases ho
    obtain⟨_,q16,e16⟩:=hdep ⟨16,.data⟩ (by simp) rfl _ _ rfl rfl
    have g16:a.tmps.getD 26 undef=.int .i64 x.p:=by rw [gDe,q16,e16];rfl
    rw [e16] at q16
    clear e16
    clear hfr hdep hsz
    generalize hK:(fun (a':Act) (w':World)=>_)=K
    go_simp
    refine (C4.out W hG.1).mono ?_
    rintro e W2 ⟨rfl,hb,hb2⟩
    show K _ _
    rw [← hK]
    exact⟨_,rfl,rfl,hb2,hb,Nat.le_trans hG.2 hb2.size⟩
   ·cases ho
    obtain⟨_,q17,e17⟩:=hdep ⟨17,.data⟩ (by simp) rfl _ _ rfl rfl
    have g17:a.tmps.getD 27 undef=.string b4:=by rw [gDe,q17,e17];rfl
    rw [e17] at q17
    clear e17
    clear hfr hdep hsz
    generalize hK:(fun (a':Act) (w':World)=>_)=K
    go_simp
    rw [if_neg (by omega)]
    go_simp
    rw [← hK]
    exact⟨_,rfl,rfl,Below.refl _ _,hG⟩
   ·cases ho
    obtain⟨_,q2,e2⟩:=hdep ⟨2,.data⟩ (by simp) rfl _ _ rfl rfl
    have g2:a.tmps.getD 12 undef=.string b0:=by rw [gDe,q2,e2];rfl
    rw [e2] at q2
    clear e2
    obtain⟨_,q6,e6⟩:=hdep ⟨6,.data⟩ (by simp) rfl _ _ rfl rfl
    have g6:a.tmps.getD 16 undef=.string ((⟨#[99,61]⟩:ByteArray)++b1):=by rw [gDe,q6,e6];rfl
    rw [e6] at q6
    clear e6
    obtain⟨_,q10,e10⟩:=hdep ⟨10,.data⟩ (by simp) rfl _ _ rfl rfl
    have g10:a.tmps.getD 20 undef=.string ((⟨#[100,61]⟩:ByteArray)++b2):=by rw [gDe,q10,e10];rfl
    rw [e10] at q10
    clear e10
    obtain⟨_,q14,e14⟩:=hdep ⟨14,.data⟩ (by simp) rfl _ _ rfl rfl
    have g14:a.tmps.getD 24 undef=.string ((⟨#[116,61]⟩:ByteArray)++b3):=by rw [gDe,q14,e14];rfl
    rw [e14] at q14
    clear e14
    obtain⟨_,q18,e18⟩:=hdep ⟨18,.data⟩ (by simp) rfl _ _ rfl rfl
    have g18:a.tmps.getD 28 undef=.string ((⟨#[112,61]⟩:ByteArray)++b4):=by rw [gDe,q18,e18];rfl
    rw [e18] at q18
    clear e18
    clear hfr hdep hsz
    generalize hK:(fun (a':Act) (w':World)=>_)=K
    have hal:=(Below.refl W.heap.size W).alloc (Nat.le_refl _) (.cells #[.string ⟨#[116,97,115,107]⟩,.string b0,.string ((⟨#[99,61]⟩:ByteArray)++b1),.string ((⟨#[100,61]⟩:ByteArray)++b2),.string ((⟨#[116,61]⟩:ByteArray)++b3),.string ((⟨#[112,61]⟩:ByteArray)++b4)] 9)
    have hro:=World.ownsRow_lit (base:=n0) (e:=9) (size:=1) W #[.string ⟨#[116,97,115,107]⟩,.string b0,.string ((⟨#[99,61]⟩:ByteArray)++b1),.string ((⟨#[100,61]⟩:ByteArray)++b2),.string ((⟨#[116,61]⟩:ByteArray)++b3),.string ((⟨#[112,61]⟩:ByteArray)++b4)] 6 hG.2 (by unfold maxLen;omega) rfl
    go_simp
    rw [← hK]
    exact⟨_,rfl,hro,hal,hG.1.below hal,Nat.le_trans hG.2 hal.size⟩
   ·cases ho
    obtain⟨v9,q19,e19⟩:=hdep ⟨19,.data⟩ (by simp) rfl _ _ rfl rfl
    have g19:a.tmps.getD 29 undef=v9:=by rw [gDe,q19];rfl
    clear hfr hdep hsz
    generalize hK:(fun (a':Act) (w':World)=>_)=K
    go_simp
    rw [← hK]
    exact⟨_,rfl,e19,Below.refl _ _,hG⟩
  ·intro a W hd hsz hfr hall hG
   obtain⟨v3,q3,e3⟩:=hall 20 _ 3 rfl rfl
   have f0:=hfr 0 (qau (by kernel_rfl))
   have f1:=hfr 1 (qau (by kernel_rfl))
   have f2:=hfr 2 (qau (by kernel_rfl))
   have f4:=hfr 4 (qau (by kernel_rfl))
   have f5:=hfr 5 (qau (by kernel_rfl))
   have f6:=hfr 6 (qau (by kernel_rfl))
   have f7:=hfr 7 (qau (by kernel_rfl))
   have f8:=hfr 8 (qau (by kernel_rfl))
   have f9:=hfr 9 (qau (by kernel_rfl))
   have f30:=hfr 30 (qau (by kernel_rfl))
   have f31:=hfr 31 (qau (by kernel_rfl))
   have f32:=hfr 32 (qau (by kernel_rfl))
   have f33:=hfr 33 (qau (by kernel_rfl))
   have f34:=hfr 34 (qau (by kernel_rfl))
   have f35:=hfr 35 (qau (by kernel_rfl))
   have f36:=hfr 36 (qau (by kernel_rfl))
   have f37:=hfr 37 (qau (by kernel_rfl))
   have f38:=hfr 38 (qau (by kernel_rfl))
   have f39:=hfr 39 (qau (by kernel_rfl))
   have f40:=hfr 40 (qau (by kernel_rfl))
   have f41:=hfr 41 (qau (by kernel_rfl))
   have f42:=hfr 42 (qau (by kernel_rfl))
   have f43:=hfr 43 (qau (by kernel_rfl))
   have f44:=hfr 44 (qau (by kernel_rfl))
   have f45:=hfr 45 (qau (by kernel_rfl))
   have f46:=hfr 46 (qau (by kernel_rfl))
   have f47:=hfr 47 (qau (by kernel_rfl))
   have f48:=hfr 48 (qau (by kernel_rfl))
   have f49:=hfr 49 (qau (by kernel_rfl))
   have f50:=hfr 50 (qau (by kernel_rfl))
   have f51:=hfr 51 (qau (by kernel_rfl))
   have f52:=hfr 52 (qau (by kernel_rfl))
   have f53:=hfr 53 (qau (by kernel_rfl))
   have f54:=hfr 54 (qau (by kernel_rfl))
   have f55:=hfr 55 (qau (by kernel_rfl))
   have f56:=hfr 56 (qau (by kernel_rfl))
   have f57:=hfr 57 (qau (by kernel_rfl))
   have f58:=hfr 58 (qau (by kernel_rfl))
   have f59:=hfr 59 (qau (by kernel_rfl))
   have f60:=hfr 60 (qau (by kernel_rfl))
   have f61:=hfr 61 (qau (by kernel_rfl))
   have f62:=hfr 62 (qau (by kernel_rfl))
   have f63:=hfr 63 (qau (by kernel_rfl))
   have f64:=hfr 64 (qau (by kernel_rfl))
   have f65:=hfr 65 (qau (by kernel_rfl))
   have f66:=hfr 66 (qau (by kernel_rfl))
   have f67:=hfr 67 (qau (by kernel_rfl))
   have f68:=hfr 68 (qau (by kernel_rfl))
   have f69:=hfr 69 (qau (by kernel_rfl))
   clear hfr hall
   have ha:a = { tmps:=a.tmps,defers:=[] }:=by cases a;simp at hd;subst hd;rfl
   rw [ha,arr_lit70 a.tmps hsz]
   rw [show a.tmps.getD 0 undef=.agg #[.int .i64 x.id,.int .i64 x.c,.int .i64 x.d,.int .i64 x.t,.int .i64 x.p,.slice A5 lc c5,.slice A6 lu c6] from by rw [gDe,f0];rfl]
   rw [show a.tmps.getD 1 undef=.pointer (some ⟨tb,0,none⟩) from by rw [gDe,f1];rfl]
   rw [show a.tmps.getD 2 undef=.string ⟨#[]⟩ from by rw [gDe,f2];rfl]
   rw [show a.tmps.getD 4 undef=undef from by rw [gDe,f4];rfl]
   rw [show a.tmps.getD 5 undef=undef from by rw [gDe,f5];rfl]
   rw [show a.tmps.getD 6 undef=undef from by rw [gDe,f6];rfl]
   rw [show a.tmps.getD 7 undef=.agg #[.int .i64 x.id,.int .i64 x.c,.int .i64 x.d,.int .i64 x.t,.int .i64 x.p,.slice A5 lc c5,.slice A6 lu c6] from by rw [gDe,f7];rfl]
   rw [show a.tmps.getD 8 undef=.int .i64 0 from by rw [gDe,f8];rfl]
   rw [show a.tmps.getD 9 undef=.bool false from by rw [gDe,f9];rfl]
   rw [show a.tmps.getD 30 undef=undef from by rw [gDe,f30];rfl]
   rw [show a.tmps.getD 31 undef=undef from by rw [gDe,f31];rfl]
   rw [show a.tmps.getD 32 undef=undef from by rw [gDe,f32];rfl]
   rw [show a.tmps.getD 33 undef=undef from by rw [gDe,f33];rfl]
   rw [show a.tmps.getD 34 undef=undef from by rw [gDe,f34];rfl]
   rw [show a.tmps.getD 35 undef=undef from by rw [gDe,f35];rfl]
   rw [show a.tmps.getD 36 undef=undef from by rw [gDe,f36];rfl]
   rw [show a.tmps.getD 37 undef=undef from by rw [gDe,f37];rfl]
   rw [show a.tmps.getD 38 undef=undef from by rw [gDe,f38];rfl]
   rw [show a.tmps.getD 39 undef=undef from by rw [gDe,f39];rfl]
   rw [show a.tmps.getD 40 undef=undef from by rw [gDe,f40];rfl]
   rw [show a.tmps.getD 41 undef=undef from by rw [gDe,f41];rfl]
   rw [show a.tmps.getD 42 undef=undef from by rw [gDe,f42];rfl]
   rw [show a.tmps.getD 43 undef=undef from by rw [gDe,f43];rfl]
   rw [show a.tmps.getD 44 undef=undef from by rw [gDe,f44];rfl]
   rw [show a.tmps.getD 45 undef=undef from by rw [gDe,f45];rfl]
   rw [show a.tmps.getD 46 undef=undef from by rw [gDe,f46];rfl]
   rw [show a.tmps.getD 47 undef=undef from by rw [gDe,f47];rfl]
   rw [show a.tmps.getD 48 undef=undef from by rw [gDe,f48];rfl]
   rw [show a.tmps.getD 49 undef=undef from by rw [gDe,f49];rfl]
   rw [show a.tmps.getD 50 undef=undef from by rw [gDe,f50];rfl]
   rw [show a.tmps.getD 51 undef=undef from by rw [gDe,f51];rfl]
   rw [show a.tmps.getD 52 undef=undef from by rw [gDe,f52];rfl]
   rw [show a.tmps.getD 53 undef=undef from by rw [gDe,f53];rfl]
   rw [show a.tmps.getD 54 undef=undef from by rw [gDe,f54];rfl]
   rw [show a.tmps.getD 55 undef=undef from by rw [gDe,f55];rfl]
   rw [show a.tmps.getD 56 undef=undef from by rw [gDe,f56];rfl]
   rw [show a.tmps.getD 57 undef=undef from by rw [gDe,f57];rfl]
   rw [show a.tmps.getD 58 undef=undef from by rw [gDe,f58];rfl]
   rw [show a.tmps.getD 59 undef=undef from by rw [gDe,f59];rfl]
   rw [show a.tmps.getD 60 undef=undef from by rw [gDe,f60];rfl]
   rw [show a.tmps.getD 61 undef=undef from by rw [gDe,f61];rfl]
   rw [show a.tmps.getD 62 undef=undef from by rw [gDe,f62];rfl]
   rw [show a.tmps.getD 63 undef=undef from by rw [gDe,f63];rfl]
   rw [show a.tmps.getD 64 undef=undef from by rw [gDe,f64];rfl]
   rw [show a.tmps.getD 65 undef=undef from by rw [gDe,f65];rfl]
   rw [show a.tmps.getD 66 undef=undef from by rw [gDe,f66];rfl]
   rw [show a.tmps.getD 67 undef=undef from by rw [gDe,f67];rfl]
   rw [show a.tmps.getD 68 undef=undef from by rw [gDe,f68];rfl]
   rw [show a.tmps.getD 69 undef=undef from by rw [gDe,f69];rfl]
   rw [show a.tmps.getD 3 undef=v3 from by rw [gDe,q3];rfl]
   clear ha hd hsz q3 f0 f1 f2 f4 f5 f6 f7 f8 f9 f30 f31 f32 f33 f34 f35 f36 f37 f38 f39 f40 f41 f42 f43 f44 f45 f46 f47 f48 f49 f50 f51 f52 f53 f54 f55 f56 f57 f58 f59 f60 f61 f62 f63 f64 f65 f66 f67 f68 f69
   go_wp2
   go_meet
   exact⟨rfl,rfl,hG.1,hG.2,e3⟩
 case rest=>
  obtain⟨rfl,rfl,hS3,hn3,hR3⟩:=hcut
  clear C0 C1 C2 C3 C4 HS1 HS1d d0 d1 d2 d3 d4 z1 z2 z3 z4
  obtain⟨S3,hS3e⟩:∃ S,S=[⟨#[116,97,115,107]⟩,b0,(⟨#[99,61]⟩:ByteArray)++b1,(⟨#[100,61]⟩:ByteArray)++b2,(⟨#[116,61]⟩:ByteArray)++b3,(⟨#[112,61]⟩:ByteArray)++b4]:=⟨_,rfl⟩
  have HR3:Hid (wc.ownsRow n0 9 1 u3 6 (S3.map Value.string)):=Lib.hid (by rw [hS3e];exact hR3)
  have HL3:Hid (S3.length=6):=Lib.hid (by rw [hS3e];rfl)
  rw [← hS3e] at HLP
  clear hS3e hR3
  obtain⟨i0,hi0,hz0,hz1,hz2⟩:=info_parts infoS
  have HU3:=Lib.hid (And.intro hS3 hn3)
  obtain⟨t0,t1,t2,t3,t4,t5,t6,HB⟩:=hS3
  go_upto_if 33 with (fail)
  generalize hbc:decide (0<lc)=bc
  have HBC:=Lib.hid hbc
  clear hbc t0 t1 t2 t3 t4 t6
  go_cut [3] from 70 (fun v3 wx=>∃ S:List ByteArray,S=S3++(if 0<lc then [(⟨#[99,104,117,110,107,115,61]⟩:ByteArray)++J5] else [])∧6≤S.length∧S.length≤7∧wx.ownsRow n0 9 1 v3 S.length (S.map Value.string)∧n0≤wx.heap.size∧TkIn tb x A5 lc c5 A6 lu c6 w wx)
  case first=>
   cases bc with
   |true=>
    have hlc:=of_decide_eq_true HBC.out
    have HJ:=Lib.hid (HJ5.out wc (by rw [HW.out];exact HB) (fun y hy=>by have:=HCH.out y hy;omega) (by omega) ((HN5.out.below HB (by have:=HW.out;omega)).more (by have:=HB.size;have:=HW.out;omega)))
    go_wp2_with (first|(go_at_call 29;refine HJ.out.mono ?_;rintro e w5 ⟨rfl,hb5⟩)|(at_builtin;refine wpList_append_own _ rfl _ _ 61 rfl n0 9 i0 _ 1 16 Tryd.underlying61 hi0 hz0 hz1 hz2 rfl (by decide) _ _ _ rfl ((qaS HR3.out hb5 (Nat.le_refl _)).alloc _) ⟨w5.heap.size,0,none⟩ 1 1 [.string (⟨#[99,104,117,110,107,115,61]⟩++J5)] rfl rfl (cell_one_new _ _ _) (by simp [Value.oneCell']) (by unfold maxLen;omega) (by omega) (by have:=hb5.size;simp;omega) ?_;intro v' w6 hown' hgrow _))
    go_meet
    refine⟨_,rfl,by rw [List.length_append,HL3.out];omega,by rw [List.length_append,HL3.out,if_pos hlc];simp,?_,?_,?_⟩
    ·rw [if_pos hlc]
     exact row_snoc _ HL3.out hown'
    ·have q1:=hgrow.size
     have q2:=hb5.size
     rw [heap_alloc_size] at q1
     have:=HU3.out.2
     omega
    ·refine TkIn.grown ((HU3.out.1.below hb5).below ((Below.refl _ _).alloc (Nat.le_refl _) _)) hgrow (fun k e=>?_)
     have:=(((qaS HR3.out hb5 (Nat.le_refl _))).lt k e).1
     have:=HTN.out
     omega
   |false=>
    have hlc:=of_decide_eq_false HBC.out
    go_wp2
    go_meet
    exact⟨S3,by rw [if_neg hlc];simp,by rw [HL3.out];omega,by rw [HL3.out];omega,by rw [HL3.out];exact HR3.out,HU3.out.2,HU3.out.1⟩
  case rest=>
   obtain⟨S4,hS4,hl6,hl4,hR4,hn4,hT4⟩:=hcut
   have HLP4:Hid (LP=⟨(Lib.join ((S4++(if 0<lu then [(⟨#[117,115,101,61]⟩:ByteArray)++J6] else [])).map (·.data.toList)) [32]).toArray⟩):=Lib.hid (by rw [HLP.out,hS4,List.append_assoc])
   have HU4:=Lib.hid (And.intro hT4 hn4)
   have HR4:=Lib.hid hR4
   clear HLP hS4 HR3 HL3 HU3 HBC HJ5 HCH sJ5 HN5 hR4 hn3 hn4 HB
   obtain⟨k4,hk4⟩:∃ z,S4.length=z:=⟨_,rfl⟩
   have HK4:=Lib.hid hk4
   rw [hk4] at hl6 hl4
   clear hk4
   obtain⟨t0,t1,t2,t3,t4,t5,t6,HB⟩:=hT4
   clear t0 t1 t2 t3 t4 t5
   go_upto_if 44 with (fail)
   generalize hbu:decide (0<lu)=bu
   have HBU:=Lib.hid hbu
   clear hbu
   go_cut [3] from 70 (fun v3 wx=>∃ S:List ByteArray,S=S4++(if 0<lu then [(⟨#[117,115,101,61]⟩:ByteArray)++J6] else [])∧6≤S.length∧S.length≤8∧wx.ownsRow n0 9 1 v3 S.length (S.map Value.string)∧n0≤wx.heap.size∧Below tb w wx)
   case first=>
    cases bu with
    |false=>
     have hlu:=of_decide_eq_false HBU.out
     go_wp2
     go_meet
     exact⟨S4,by rw [if_neg hlu];simp,by rw [HK4.out];omega,by rw [HK4.out];omega,HR4.out,HU4.out.2,HU4.out.1.2.2.2.2.2.2.2⟩
    |true=>
     have hlu:=of_decide_eq_true HBU.out
     have hlu64:lu≤64:=by have:=HLL.out.2;omega
     obtain⟨b6,o6,rfl,hb6,hc6⟩:=((HN6.out.below HB (by have:=HW.out;omega)).more (C:=wc.heap.size) (by have:=HB.size;have:=HW.out;omega)) (by have:=HLL.out.2;omega)
     have HC6:=Lib.hid hc6
     clear hc6
     obtain⟨i1,hi1,hy0,hy1,hy2⟩:=info_parts infoL
     obtain⟨n1,hn1⟩:∃ n,n=wc.heap.size:=⟨_,rfl⟩
     have HN1:=Lib.hid hn1
     go_upto_region 8 with (at_make;refine wpList_make_full _ rfl _ _ 34 rfl n1 2 i1 _ 1 Tryd.underlying34 hi1 hy0 hy1 _ _ _ _ lu rfl rfl rfl rfl (by rw [hy2];omega) (by unfold maxLen;omega) (Nat.le_of_eq hn1) ?_;intro w5 hown5 hg5)
     rw [← hn1] at hown5 ⊢
     have hb5:Below n1 wc w5:=⟨hg5.os,hg5.tape,hg5.output,hg5.size,fun k hk=>hg5.block k (by rw [← hn1];exact hk) (by simp)⟩
     have hro5:w5.ownsRow n1 2 1 (.slice (some ⟨n1,0,none⟩) lu lu) lu ((x.us.take 0).map (Value.int .i64)++List.replicate (lu - 0) (.int .i64 0)):=by
      rw [Nat.mul_one] at hown5
      have e1:(Value.int .i64 0).cells = #[Value.int .i64 0]:=rfl
      rw [e1,toList_madeCells_one] at hown5
      simpa using hown5
     have HT6:=Lib.hid t6
     have ht6:=(hb5.cell (p:=⟨tb,6,none⟩) (by rw [hn1];exact cell_lt t6)).trans t6
     clear hown5 hg5 t6 hn1
     go_wp2
     go_loopw [52] (fun v52 wr=>∃ (i:Nat),v52=.int .i64 i∧i≤lu∧wr.ownsRow n1 2 1 (.slice (some ⟨n1,0,none⟩) lu lu) lu ((x.us.take i).map (Value.int .i64)++List.replicate (lu - i) (.int .i64 0))∧Below n1 wc wr) (fun v52 _=>lu - (RowKit.intOf v52).toNat)
     case atStart=>exact⟨0,rfl,Nat.zero_le _,hro5,hb5⟩
     case round=>
      obtain⟨i,rfl,hi,hrow,hbw⟩:=hrel
      by_cases hil:i<lu
      ·have hix:i<x.us.length:=by have:=HLL.out.2;omega
       have hcell:=(hbw.cell (p:=⟨b6,o6+i,none⟩) (by rw [HN1.out];exact hb6)).trans (HC6.out i hix)
       have HST:=Lib.hid (hrow.stored i (.int .i64 x.us[i]))
       have hca:=hrow.cellAt i (by omega)
       have hfa:=hrow.frozenAt i
       have HX:=Lib.hid (fill_next (l:=x.us) (n:=lu) HLL.out.2 hil)
       have HBW:=Lib.hid hbw
       have hza:∃ z,wr.cell? ⟨n1,i,none⟩=some z:=by
        rw [hca]
        exact⟨_,List.getElem?_eq_getElem (by have:=hrow.1;omega)⟩
       obtain⟨z,hza⟩:=hza
       clear hca hrow hbw
       generalize x.us[i]=y at hcell HST HX
       go_wp2
       go_roundw
       case rel=>exact⟨i+1,by simp,hil,by rw [HX.out];exact HST.out.1,HBW.out.setCell (p:=⟨n1,i,none⟩) (Nat.le_refl _) _⟩
       case measure=>simp [RowKit.intOf];omega
      ·have hie:Hid (i=lu):=Lib.hid (by omega)
       have hnr:NRow wr wr.heap.size (some ⟨n1,0,none⟩) x.us:=fun _=>⟨n1,0,rfl,(hrow.lt n1 rfl).2,fun j hj=>by
        have hj':j<lu:=by have:=HLL.out.2;omega
        rw [Nat.zero_add,hrow.cellAt j (by omega),hie.out,← HLL.out.2,List.take_length,List.getElem?_append_left (by rw [List.length_map];exact hj),List.getElem?_map,List.getElem?_eq_getElem hj]
        rfl⟩
       have hbt:Below tb w wr:=HB.trans (hbw.mono (by have:=HU4.out.1.lt;have:=HN1.out;omega))
       have HJ:=Lib.hid (HJ6.out wr (some ⟨n1,0,none⟩) lu (by rw [HW.out];exact hbt) (fun y hy=>by have:=HUS.out y hy;omega) (by have:=HLL.out.2;omega) hnr)
       have HR9:=Lib.hid (qaS HR4.out hbw (by rw [HN1.out];exact Nat.le_refl _))
       have HBT:=Lib.hid hbt
       have hwn:n0≤wr.heap.size:=by have:=hbw.size;have:=HU4.out.2;omega
       clear hnr hrow hbt hbw
       go_wp2_with (first|(go_at_call 29;refine HJ.out.mono ?_;rintro e w5 ⟨rfl,hb5⟩)|(at_builtin;refine wpList_append_own _ rfl _ _ 61 rfl n0 9 i0 _ 1 16 Tryd.underlying61 hi0 hz0 hz1 hz2 rfl (by decide) _ _ _ rfl ((qaS HR9.out hb5 (Nat.le_refl _)).alloc _) ⟨w5.heap.size,0,none⟩ 1 1 [.string (⟨#[117,115,101,61]⟩++J6)] rfl rfl (cell_one_new _ _ _) (by simp [Value.oneCell']) (by unfold maxLen;have:=HK4.out;omega) (by have:=HK4.out;omega) (by have:=hb5.size;simp;omega) ?_;intro v' w6 hown' hgrow _))
       go_meet
       have q1:=hgrow.size
       have q2:=hb5.size
       rw [heap_alloc_size] at q1
       refine⟨_,rfl,by rw [List.length_append,HK4.out];omega,by rw [List.length_append,HK4.out,if_pos hlu];simp;omega,?_,by omega,?_⟩
       ·rw [if_pos hlu]
        rw [HK4.out] at hown'
        exact row_snoc _ HK4.out hown'
       ·refine (((HBT.out.trans (hb5.mono (by have:=HTN.out;omega))).alloc (by have:=HTN.out;omega) _).grown hgrow (by rw [heap_alloc_size];have:=HTN.out;omega) (fun k e=>?_))
        have:=((qaS HR9.out hb5 (Nat.le_refl _)).lt k e).1
        have:=HTN.out
        omega
   case rest=>
    obtain⟨S5,hS5,hl5,hl8,hR5,hn5,HB5⟩:=hcut
    have HJ:=Lib.hid (sjoin_own S5 LP hR5 (by omega) (by omega) (by rw [hS5];exact HLP4.out) (by have:=sLP.out;omega))
    go_wp2_with (go_at_call 51;refine HJ.out.mono ?_;rintro e w9 ⟨rfl,hb9⟩)
    go_ret
    exact⟨rfl,by rw [HW.out];exact HB5.trans (hb9.mono (by have:=HTN.out;omega))⟩
end Go.Proofs.YtgnaaokhfpfglaaDoor
end
section
namespace Go.Proofs.YtgnaaokhfpfglaaDoor
open Go.RowKit
theorem wp_region_facts_k (k0:Nat) {P:Program} {ops:Array Oper} {Q:Exit→Act→World→Prop} {id:Nat} {a0:Act} {w0:World} (hm:P.follows .mixedOrders=true) (ht:tidyB a0.tmps.size ops=true)
  (F:Nat→Value→World→Prop) (Kp:World→World→Prop) (hF:∀ i v w w',F i v w→Kp w w'→F i v w') (G:Bool→World→Prop) (hG:G false w0.drew) (hk0:k0<ops.size)
  (hstep:∀ (i:Nat) (o:Oper) (a:Act) (w:World) (bk:Bool),ops[i]? = some o→a.tmps.size=a0.tmps.size→(∀ d,(∀ (j:Nat) oj,ops[j]? = some oj→oj.dst≠some d)→a.tmps[d]? = a0.tmps[d]?) →
   (∀ e ∈ o.after,Region.binds .any e=true→∀ oe d,ops[e.on]? = some oe→oe.dst=some d→∃ v,a.tmps[d]? = some v∧F e.on v w)→G bk w→(i=k0→bk=false) →
   o.wp P a w (fun a' w'=>∃ v,a' = a.put o.dst v∧F i v w'∧Kp w w'∧G (bk || decide (i=k0)) w') Q)
  (hend:∀ (a:Act) (w:World),a.defers=a0.defers→a.tmps.size=a0.tmps.size→(∀ d,(∀ (j:Nat) oj,ops[j]? = some oj→oj.dst≠some d)→a.tmps[d]? = a0.tmps[d]?) →
   (∀ (i:Nat) o d,ops[i]? = some o→o.dst=some d→∃ v,a.tmps[d]? = some v∧F i v w)→G true w→Q .normal a w) :
  (Code.region id ops true).wp P Q a0 w0:=by
 refine wp_region_any hm ?_
 refine any_inv (fun i o ho=>(tidy_at ht ho).2.1) (fun listed a w=>a.defers=a0.defers∧a.tmps.size=a0.tmps.size∧(∀ d,(∀ (j:Nat) oj,ops[j]? = some oj→oj.dst≠some d)→a.tmps[d]? = a0.tmps[d]?) ∧
  (∀ (i:Nat) o d,ops[i]? = some o→o.dst=some d→listed.getD i false=true→∃ v,a.tmps[d]? = some v∧F i v w)∧G (listed.getD k0 false) w) ?_ ?_ _ _ _ _ (by simp) ?_ ⟨rfl,rfl,fun _ _=>rfl,?_,by rw [show (Array.replicate ops.size false).getD k0 false=false from by simp [gDe,Array.getElem?_replicate];split<;>rfl];exact hG⟩
 ·rintro i o listed a w ho hsz hl hd ⟨i1,i2,i3,i4,i5⟩
  obtain⟨g1,g2,g3⟩:=tidy_at ht ho
  have hil:i<listed.size:=by rw [hsz];exact (Array.getElem?_eq_some_iff.1 ho).1
  have hw:Region.wanted o (yielded ops a.tmps)=true:=by simp [Region.wanted,g1]
  unfold wpOp
  rw [ho]
  simp only [hw,if_true]
  refine .inl (Oper.wp_mono ?_ (hstep i o a w (listed.getD k0 false) ho i2 i3 (fun e he hb oe d hoe hde=>i4 e.on oe d hoe hde (hd e he hb)) i5 (fun e=>by subst e;rw [gDe,Array.getElem?_eq_getElem hil] at hl ⊢;exact hl)))
  rintro a' w' ⟨v,rfl,k1,k2,k3⟩
  have hgk:(listed.setIfInBounds i true).getD k0 false=(listed.getD k0 false || decide (i=k0)):=by
   by_cases e:i=k0
   ·subst e
    simp [gDe,hil]
   ·simp [gDe,e]
  rw [← hgk] at k3
  cases hdst:o.dst with
  |none=>
   refine⟨i1,i2,i3,fun j oj d hoj hdj hlj=>?_,k3⟩
   have hji:j≠i:=fun e=>by subst e;rw [ho] at hoj;cases hoj;rw [hdst] at hdj;cases hdj
   obtain⟨u,u1,u2⟩:=i4 j oj d hoj hdj (by simpa [gDe,Array.getElem?_setIfInBounds,Ne.symm hji] using hlj)
   exact⟨u,u1,hF _ _ _ _ u2 k2⟩
  |some d0=>
   have hd0:=(g3 d0 hdst).1
   have hput:(a.put (some d0) v).tmps=a.tmps.setIfInBounds d0 v:=rfl
   refine⟨i1,by rw [hput];simp [i2],fun d hn=>?_,fun j oj d hoj hdj hlj=>?_,k3⟩
   ·rw [hput,Array.getElem?_setIfInBounds]
    have:d0≠d:=fun e=>hn i o ho (by rw [hdst,e])
    rw [if_neg this]
    exact i3 d hn
   ·rw [hput,Array.getElem?_setIfInBounds]
    by_cases hji:j=i
    ·subst hji
     rw [ho] at hoj
     cases hoj
     rw [hdst] at hdj
     cases hdj
     rw [if_pos rfl,if_pos (by rw [i2];exact hd0)]
     exact⟨v,rfl,k1⟩
    ·have hdd:d0≠d:=fun e=>hji (tidy_one ht hoj ho hdj (by rw [hdst,e]))
     rw [if_neg hdd]
     obtain⟨u,u1,u2⟩:=i4 j oj d hoj hdj (by simpa [gDe,Array.getElem?_setIfInBounds,Ne.symm hji] using hlj)
     exact⟨u,u1,hF _ _ _ _ u2 k2⟩
 ·rintro listed a w hall ⟨i1,i2,i3,i4,i5⟩
  exact hend a w i1 i2 i3 (fun i o d ho hd=>i4 i o d ho hd (hall i (Array.getElem?_eq_some_iff.1 ho).1)) (by rw [hall k0 hk0] at i5;exact i5)
 ·exact Nat.le_trans List.countP_le_length (by simp)
 ·intro i o d _ _ h
  exfalso
  rw [gDe,Array.getElem?_replicate] at h
  split at h<;>simp at h
end Go.Proofs.YtgnaaokhfpfglaaDoor
end
section
namespace Go.Proofs.YtgnaaokhfpfglaaDoor
open Go.RowKit Go.Shelf Go.Lib
theorem infoBuilder:(Tryd.prog.info? 65).map (·.size)=some 2:=by kernel_rfl
theorem liesBuilder:liesAt Tryd.prog Tryd.prog.depth 65 (2 / Tryd.prog.cellsOf 65) 0 65 1=true:=by kernel_rfl
theorem infoU8:(Tryd.prog.info? 5).map (fun i=>(i.zero,i.size,i.bytes))=some (some (.int .u8 0),1,1):=by kernel_rfl
theorem copyCheck_used (b:Nat) (w:World) (h0:w.cell? ⟨b,0,none⟩=some (.pointer (some ⟨b,0,none⟩))) :
  Calls Tryd.prog 49 #[.pointer (some ⟨b,0,none⟩)] w fun e w'=>e=.returned (.tuple #[])∧w' = w:=by
 obtain⟨j,hj,_⟩:=Option.map_eq_some_iff.1 infoBuilder
 go_enter Tryd.func49,Tryd.ntmps49
 go_wp2
 rw [Lib.run_neq_ptr_same w _ Tryd.underlying62 hj]
 go_wp2
 go_end0
 exact⟨rfl,rfl⟩
theorem copyCheck_fresh (b:Nat) (w:World) (h0:w.cell? ⟨b,0,none⟩=some (.pointer none)) (hsh:w.shape? b=some (65,2)) (hfz:w.frozen? ⟨b,0,none⟩=false) :
  Calls Tryd.prog 49 #[.pointer (some ⟨b,0,none⟩)] w fun e w'=>e=.returned (.tuple #[])∧w' = w.setCell ⟨b,0,none⟩ (.pointer (some ⟨b,0,none⟩)):=by
 obtain⟨j,hj,hjs⟩:=Option.map_eq_some_iff.1 infoBuilder
 go_enter Tryd.func49,Tryd.ntmps49
 go_wp2
 rw [Lib.run_to_unsafe w ⟨b,0,none⟩ Tryd.underlying62 Tryd.underlying108 hj (by rw [hjs];decide) hsh (Nat.zero_lt_succ 1)]
 simp only [Result.andThen]
 rw [Oper.upon_value]
 go_wp2
 rw [run_callFunc_extern Tryd.func68 (by kernel_rfl) (by kernel_rfl) (by kernel_rfl) (e:=Extern.AbiNoEscape.same) (by kernel_rfl)]
 rw [Lib.run_noEscape]
 simp only [Result.andThen]
 rw [Oper.upon_value]
 go_wp2
 rw [Lib.run_from_unsafe w ⟨b,0,none⟩ Tryd.underlying108 Tryd.underlying62 hj hsh liesBuilder]
 simp only [Result.andThen]
 rw [Oper.upon_value]
 go_wp2
 go_end0
 exact⟨rfl,rfl⟩
theorem copyCheck_any (B b:Nat) (bs:List Value) (w:World) (h:Lib.IsBuilder 65 5 B b bs w) :
  Calls Tryd.prog 49 #[.pointer (some ⟨b,0,none⟩)] w fun e w'=>e=.returned (.tuple #[])∧(Lib.BuilderAt 65 5 B b (.pointer (some ⟨b,0,none⟩)) bs w'∧Below B w w'):=by
 rcases h with h|h
 ·refine (copyCheck_fresh b w h.cell0 h.shape h.frozen0).mono ?_
  rintro e w' ⟨rfl,rfl⟩
  exact⟨rfl,h.used _,(Below.refl B w).setCell (p:=⟨b,0,none⟩) h.1 _⟩
 ·refine (copyCheck_used b w h.cell0).mono ?_
  rintro e w' ⟨rfl,rfl⟩
  exact⟨rfl,h,Below.refl B _⟩
theorem writeString_any (B b:Nat) (bs:List Value) (s:ByteArray) (w:World) (h:Lib.IsBuilder 65 5 B b bs w) (hlen:bs.length+s.size≤140737488355328) (hBw:B≤w.heap.size) :
  Calls Tryd.prog 28 #[.pointer (some ⟨b,0,none⟩),.string s] w fun e w'=>e=.returned (.tuple #[.int .i64 s.size,.nilIface])∧(Lib.BuilderAt 65 5 B b (.pointer (some ⟨b,0,none⟩)) (bs++Lib.strCells s) w'∧Below B w w'):=by
 obtain⟨i0,hi,hz0,hz1,hz2⟩:=info_parts infoU8
 go_enter Tryd.func28,Tryd.ntmps28
 go_wp2_with (go_at_call 49;refine (copyCheck_any B b bs _ h).mono ?_)
 rintro e w1 ⟨rfl,h1,hb1⟩
 obtain⟨hB,v,hbk,hown,hne⟩:=h1
 have c0:w1.cell? ⟨b,0,none⟩=some (.pointer (some ⟨b,0,none⟩)):=by rw [Lib.cell_of_heap hbk];rfl
 have c1:w1.cell? ⟨b,1,none⟩=some v:=by rw [Lib.cell_of_heap hbk];rfl
 go_wp2_with (at_builtin;refine Lib.wpList_append_own_string _ rfl _ _ 63 9 rfl B 5 i0 Tryd.underlying63 Tryd.underlying9 hi hz0 hz1 hz2 _ _ _ rfl hown s rfl ?c3 ?c4 ?c5 ?_)
 case c3=>unfold maxLen;omega
 case c4=>omega
 case c5=>have:=hb1.size;omega
 intro v' w2 hown' hgrow _
 have hlt:b<w1.heap.size:=lt_of_block hbk
 have hb2:w2.heap[b]? = some (.cells #[.pointer (some ⟨b,0,none⟩),v] 65 (0,0)):=by
  rw [hgrow.block b hlt (fun e=>hne e.symm)]
  exact hbk
 have d0:w2.cell? ⟨b,0,none⟩=some (.pointer (some ⟨b,0,none⟩)):=by rw [Lib.cell_of_heap hb2];rfl
 have d1:w2.cell? ⟨b,1,none⟩=some v:=by rw [Lib.cell_of_heap hb2];rfl
 have f1:w2.frozen? ⟨b,1,none⟩=false:=Lib.frozen_of_heap hb2 1
 obtain⟨ao,n',cap,rfl⟩:∃ ao n' cap,v' = .slice ao n' cap:=by
  rcases hown'.2 with ⟨hv,_⟩|⟨g,cap,cur,hv,_⟩
  ·exact⟨_,_,_,hv⟩
  ·exact⟨_,_,_,hv⟩
 go_wp2
 go_ret2
 refine⟨rfl,?_,?_⟩
 ·exact Lib.BuilderAt.put (T:=65) (e:=5) hB hb2 (bs':=bs++Lib.strCells s) (by simpa [Lib.strCells_length] using hown') (by decide)
 ·exact ((hb1.grown hgrow (by have:=hb1.size;omega) (fun k hk=>(hown.lt k hk).1)).setCell (p:=⟨b,1,none⟩) hB _)
end Go.Proofs.YtgnaaokhfpfglaaDoor
end
section
namespace Go.Proofs.YtgnaaokhfpfglaaDoor
open Go.RowKit Go.Shelf Go.Lib Go.Proofs.YtgnaaokhfpfglaaDoorW.PrintWords
theorem strCells_bytes (s:ByteArray):Lib.strCells s=Lib.byteCells s.data.toList:=rfl
theorem byteCells_append (l m:List UInt8):Lib.byteCells (l++m)=Lib.byteCells l++Lib.byteCells m:=by simp [Lib.byteCells]
theorem byteCells_len (l:List UInt8):(Lib.byteCells l).length=l.length:=by simp [Lib.byteCells]
theorem isBuilder_below {T e:TypeId} {B b:Nat} {bs:List Value} {w w':World} (h:Lib.IsBuilder T e B b bs w) (hb:Below w.heap.size w w'):Lib.IsBuilder T e B b bs w':=by
 have key:∀ p,Lib.BuilderAt T e B b p bs w→Lib.BuilderAt T e B b p bs w':=fun p hp=>by
  obtain⟨h1,v,h2,h3,h4⟩:=hp
  exact⟨h1,v,(hb.block b (lt_of_block h2)).trans h2,qaS h3 hb (Nat.le_refl _),h4⟩
 exact h.imp (key _) (key _)
def PrI (tb b:Nat) (sets rel:Int) (A:Option Addr) (n cap:Nat) (w:World) (T:List UInt8) (W:World):Prop:=
 (W.cell? ⟨tb,0,none⟩=some (.int .i64 sets)∧W.cell? ⟨tb,1,none⟩=some (.int .i64 rel)∧W.cell? ⟨tb,2,none⟩=some (.slice A n cap))∧Below tb w W∧tb<b∧b≤W.heap.size∧Lib.IsBuilder 65 5 b b (Lib.byteCells T) W
theorem PrI.below {tb b:Nat} {sets rel:Int} {A:Option Addr} {n cap:Nat} {w W W':World} {T:List UInt8} (h:PrI tb b sets rel A n cap w T W) (hb:Below W.heap.size W W'):PrI tb b sets rel A n cap w T W':=by
 obtain⟨⟨h0,h1,h2⟩,h3,h4,h5,h6⟩:=h
 have m:∀ p v,W.cell? p=some v→W'.cell? p=some v:=fun p v h=>(hb.cell (bLt W _ h)).trans h
 exact⟨⟨m _ _ h0,m _ _ h1,m _ _ h2⟩,h3.trans (hb.mono (by omega)),h4,Nat.le_trans h5 hb.size,isBuilder_below h6 hb⟩
theorem PrI.wrote {tb b:Nat} {sets rel:Int} {A:Option Addr} {n cap:Nat} {w W W':World} {T:List UInt8} {s:ByteArray} (h:PrI tb b sets rel A n cap w T W) (h2:Lib.BuilderAt 65 5 b b (.pointer (some ⟨b,0,none⟩)) (Lib.byteCells T++Lib.strCells s) W') (hb:Below b W W'):PrI tb b sets rel A n cap w (T++s.data.toList) W':=by
 obtain⟨⟨h0,h1,h3⟩,h4,h5,h6,_⟩:=h
 refine⟨⟨(hb.cell (p:=⟨tb,_,none⟩) h5).trans h0,(hb.cell (p:=⟨tb,_,none⟩) h5).trans h1,(hb.cell (p:=⟨tb,_,none⟩) h5).trans h3⟩,h4.trans (hb.mono (by omega)),h5,Nat.le_trans h6 hb.size,?_⟩
 rw [byteCells_append,← strCells_bytes]
 exact .inr h2
theorem write_pr {tb b:Nat} {sets rel:Int} {A:Option Addr} {n cap:Nat} {w W:World} {T:List UInt8} (s:ByteArray) (h:PrI tb b sets rel A n cap w T W) (hl:T.length+s.size≤140737488355328) :
  Calls Tryd.prog 28 #[.pointer (some ⟨b,0,none⟩),.string s] W fun e w'=>e=.returned (.tuple #[.int .i64 s.size,.nilIface])∧PrI tb b sets rel A n cap w (T++s.data.toList) w':=by
 refine (writeString_any b b (Lib.byteCells T) s W h.2.2.2.2 (by rw [byteCells_len];exact hl) h.2.2.2.1).mono ?_
 rintro e w' ⟨rfl,h1,h2⟩
 exact⟨rfl,h.wrote h1 h2⟩
theorem arr_lit33 (xs:Array Value) (h:xs.size=33):xs=List.toArray (xs.getD 0 undef::xs.getD 1 undef::xs.getD 2 undef::xs.getD 3 undef::xs.getD 4 undef::xs.getD 5 undef::xs.getD 6 undef::xs.getD 7 undef::xs.getD 8 undef::xs.getD 9 undef::xs.getD 10 undef::xs.getD 11 undef::xs.getD 12 undef::xs.getD 13 undef::xs.getD 14 undef::xs.getD 15 undef::xs.getD 16 undef::xs.getD 17 undef::xs.getD 18 undef::xs.getD 19 undef::xs.getD 20 undef::xs.getD 21 undef::xs.getD 22 undef::xs.getD 23 undef::xs.getD 24 undef::xs.getD 25 undef::xs.getD 26 undef::xs.getD 27 undef::xs.getD 28 undef::xs.getD 29 undef::xs.getD 30 undef::xs.getD 31 undef::xs.getD 32 undef::[]):=arr_range xs 33 h
theorem print_any (sets rel:Int) (A:Option Addr) (cap:Nat) (L:List Tk) (w:World) (hL:L.length≤70000) (hb:∀ x ∈ L,x.ch.length≤4000000∧x.us.length≤4000000∧x.c≤9223372036854775807) (hr:TkRow w w.heap.size A L)
  (htab:Lib.TabIs Tryd.prog w "internal/strconv.uint64pow10" .u64 Lib.pow10Tab) (hg:0<w.heap.size) :
  Calls Tryd.prog 33 #[.agg #[.int .i64 sets,.int .i64 rel,.slice A L.length cap]] w fun e w'=>e=.returned (.string (if checkE sets rel L=0 then printT sets rel L else ⟨#[]⟩))∧Below w.heap.size w w':=by
 have hb0:=(Below.refl w.heap.size w).alloc (Nat.le_refl _) (.cells #[.int .i64 sets,.int .i64 rel,.slice A L.length cap] 33)
 have hn0:=heap_alloc_new w (.cells #[.int .i64 sets,.int .i64 rel,.slice A L.length cap] 33)
 have hz0:=heap_alloc_size w (.cells #[.int .i64 sets,.int .i64 rel,.slice A L.length cap] 33)
 have HCK:=Lib.hid (check_any sets rel A cap L (w.alloc (.cells #[.int .i64 sets,.int .i64 rel,.slice A L.length cap] 33)) (by omega) hb ((hr.below hb0 (Nat.le_refl _)).more hb0.size))
 have HB2:=Lib.hid hb
 have HR:=Lib.hid hr
 have HTB:=Lib.hid (And.intro htab hg)
 obtain⟨n,hn⟩:∃ z,L.length=z:=⟨_,rfl⟩
 have HSM:=Lib.hid (fun h=>checkE_small (sets:=sets) (rel:=rel) (L:=L) h)
 rw [hn] at hn0 hb0 hz0 HCK
 rw [hn]
 have HN:=Lib.hid hn
 have HPG:Hid (printT sets rel L=goT (headT sets rel) (L.take n)):=Lib.hid (by rw [← hn,List.take_length];rfl)
 have HHD:Hid (headT sets rel=((((⟨#[99,97,99,104,101,32]⟩:ByteArray)++digB sets)++⟨#[32]⟩)++digB rel)++⟨#[10]⟩):=Lib.hid rfl
 generalize printT sets rel L=P at HPG ⊢
 generalize hE:checkE sets rel L=E at HCK HSM ⊢
 clear hE hr hb htab hg hL hn
 by_cases hE0:E=0
 rotate_left
 ·rw [if_neg hE0]
  have hEb:(E == 0)=false:=by simpa using hE0
  clear hE0
  go_enter Tryd.func33,Tryd.ntmps33
  go_upto_region 1 with (fail)
  generalize w.alloc (.cells #[.int .i64 sets,.int .i64 rel,.slice A n cap] 33)=w0 at hb0 hn0 hz0 HCK ⊢
  obtain⟨t0,t1,t2,_⟩:=three_cells hn0
  have HB:=Lib.hid hb0
  clear hb0 hn0 hz0
  go_wp2_with (go_at_call 47;refine HCK.out.mono ?_;rintro e w1 ⟨rfl,hb1⟩)
  go_ret
  exact⟨rfl,HB.out.trans (hb1.mono HB.out.size)⟩
 subst hE0
 rw [if_pos rfl]
 obtain⟨hs,hre,hn1,hn2⟩:=HSM.out rfl
 have HNL:=Lib.hid (And.intro hn1 hn2)
 have dS:=qaG sets (by omega) (by omega)
 have dR:=qaG rel (by omega) (by omega)
 have hhs:=headT_size sets rel hs hre
 have HSIG:=Lib.hid (And.intro (And.intro (show -9223372036854775808≤sets by omega) (show sets≤9223372036854775807 by omega)) (And.intro (show -9223372036854775808≤rel by omega) (show rel≤9223372036854775807 by omega)))
 clear hs hre hn1 hn2 HSM
 have D0:=Lib.hid (fun W h=>qa5 sets W HSIG.out.1.1 HSIG.out.1.2 h)
 have D1:=Lib.hid (fun W h=>qa5 rel W HSIG.out.2.1 HSIG.out.2.2 h)
 rw [show (⟨(itoa sets).toArray⟩:ByteArray)=digB sets from rfl] at D0
 rw [show (⟨(itoa rel).toArray⟩:ByteArray)=digB rel from rfl] at D1
 generalize headT sets rel=HD at HHD HPG hhs
 generalize digB sets=bs at dS D0 HHD
 generalize digB rel=br at dR D1 HHD
 go_enter Tryd.func33,Tryd.ntmps33
 go_upto_region 1 with (fail)
 generalize w.alloc (.cells #[.int .i64 sets,.int .i64 rel,.slice A n cap] 33)=w0 at hb0 hn0 hz0 HCK ⊢
 obtain⟨tb,htb⟩:∃ z,w.heap.size=z:=⟨_,rfl⟩
 rw [htb] at hn0 hz0 ⊢
 obtain⟨t0,t1,t2,_⟩:=three_cells hn0
 have HB:Hid (Below tb w w0):=Lib.hid (by rw [← htb];exact hb0)
 have HZ:=Lib.hid hz0
 have HW:Hid (w.heap.size=tb):=Lib.hid htb
 clear hb0 hn0 hz0
 go_upto_region 3 with (go_at_call 47;refine HCK.out.mono ?_;rintro e w1 ⟨rfl,hb1⟩)
 have hl0:=cell_lt t0
 have hq0:=(hb1.cell (p:=⟨tb,0,none⟩) hl0).trans t0
 have hq1:=(hb1.cell (p:=⟨tb,1,none⟩) hl0).trans t1
 have hq2:=(hb1.cell (p:=⟨tb,2,none⟩) hl0).trans t2
 have HB1:Hid (Below tb w w1):=Lib.hid (HB.out.trans (hb1.mono (Nat.le_of_lt hl0)))
 have HT1:Hid (tb<w1.heap.size):=Lib.hid (Nat.lt_of_lt_of_le hl0 hb1.size)
 clear t0 t1 t2 hb1 HB HCK HZ hl0
 go_upto_region 4 with (fail)
 have hib:=fresh_isBuilder 65 5 w1
 have hb2:=(Below.refl w1.heap.size w1).alloc (Nat.le_refl _) (.cells #[.pointer none,.slice none 0 0] 65)
 generalize w1.alloc (.cells #[.pointer none,.slice none 0 0] 65)=w2 at hib hb2 ⊢
 obtain⟨b,hb⟩:∃ b,w1.heap.size=b:=⟨_,rfl⟩
 have HP2:PrI tb b sets rel A n cap w [] w2:=⟨⟨(hb2.cell (p:=⟨tb,0,none⟩) HT1.out).trans hq0,(hb2.cell (p:=⟨tb,1,none⟩) HT1.out).trans hq1,(hb2.cell (p:=⟨tb,2,none⟩) HT1.out).trans hq2⟩,HB1.out.trans (hb2.mono (Nat.le_of_lt HT1.out)),by rw [← hb];exact HT1.out,by rw [← hb];exact hb2.size,by rw [← hb];exact hib⟩
 rw [hb]
 clear hb hib hb2 hq0 hq1 hq2 HB1 HT1
 have C0:Hid (∀ (W:World) (T:List UInt8),PrI tb b sets rel A n cap w T W→Calls Tryd.prog 50 #[.int .i64 sets] W fun e w'=>e=.returned (.string bs)∧PrI tb b sets rel A n cap w T w'):=Lib.hid (fun W T h=>(D0.out W (qaR HTB.out.1 (by rw [HW.out];exact h.2.1) HTB.out.2)).mono fun e w' ⟨h1,h2⟩=>⟨h1,h.below h2⟩)
 have C1:Hid (∀ (W:World) (T:List UInt8),PrI tb b sets rel A n cap w T W→Calls Tryd.prog 50 #[.int .i64 rel] W fun e w'=>e=.returned (.string br)∧PrI tb b sets rel A n cap w T w'):=Lib.hid (fun W T h=>(D1.out W (qaR HTB.out.1 (by rw [HW.out];exact h.2.1) HTB.out.2)).mono fun e w' ⟨h1,h2⟩=>⟨h1,h.below h2⟩)
 clear D0 D1
 have z1:(⟨#[99,97,99,104,101,32]⟩:ByteArray).size=6:=rfl
 have z2:(⟨#[32]⟩:ByteArray).size=1:=rfl
 have z3:(⟨#[10]⟩:ByteArray).size=1:=rfl
 go_cut [1,2,3] from 33 (fun v1 v2 v3 wx=>v1=.pointer (some ⟨tb,0,none⟩)∧v2=.string ⟨#[]⟩∧v3=.pointer (some ⟨b,0,none⟩)∧PrI tb b sets rel A n cap w HD.data.toList wx)
 case first=>
  refine wp_region_facts_k 10 (by kernel_rfl) (by kernel_rfl) (fun i v W=>match i with
    |0=>v=.pointer (some ⟨tb,0,none⟩)
    |1=>v=.int .i64 sets
    |2=>v=.string bs
    |3=>v=.string ((⟨#[99,97,99,104,101,32]⟩:ByteArray)++bs)
    |4=>v=.string (((⟨#[99,97,99,104,101,32]⟩:ByteArray)++bs)++⟨#[32]⟩)
    |5=>v=.pointer (some ⟨tb,1,none⟩)
    |6=>v=.int .i64 rel
    |7=>v=.string br
    |8=>v=.string ((((⟨#[99,97,99,104,101,32]⟩:ByteArray)++bs)++⟨#[32]⟩)++br)
    |9=>v=.string (((((⟨#[99,97,99,104,101,32]⟩:ByteArray)++bs)++⟨#[32]⟩)++br)++⟨#[10]⟩)
    |10=>True
    |_=>True) (fun _ _=>True) (fun _ _ _ _ h _=>h) (fun bk W=>PrI tb b sets rel A n cap w (if bk=true then HD.data.toList else []) W) (HP2.below (Below.refl _ _).drew) (of_decide_eq_true (by rfl)) ?_ ?_
  ·intro i o a W bk ho hsz hfr hdep hG hbk
   have hi:i<11:=(Array.getElem?_eq_some_iff.1 ho).1
   have hin:i=0∨i=1∨i=2∨i=3∨i=4∨i=5∨i=6∨i=7∨i=8∨i=9∨i=10:=by omega
   rcases hin with rfl|rfl|rfl|rfl|rfl|rfl|rfl|rfl|rfl|rfl|rfl
   ·cases ho
    have g:a.tmps.getD 1 undef=.pointer (some ⟨tb,0,none⟩):=by rw [gDe,hfr 1 (qau (by kernel_rfl))];rfl
    clear hfr hdep hsz
    generalize hK:(fun (a':Act) (w':World)=>_)=K
    go_simp
    rw [← hK]
    exact⟨_,rfl,rfl,trivial,by simpa using hG⟩
   ·cases ho
    obtain⟨_,q0,e0⟩:=hdep ⟨0,.data⟩ (by simp) rfl _ _ rfl rfl
    have g0:a.tmps.getD 9 undef=.pointer (some ⟨tb,0,none⟩):=by rw [gDe,q0,e0];rfl
    rw [e0] at q0
    clear e0
    have hc:W.cell? ⟨tb,0,none⟩=some (.int .i64 sets):=hG.1.1
    clear hfr hdep hsz
    generalize hK:(fun (a':Act) (w':World)=>_)=K
    go_simp
    rw [← hK]
    exact⟨_,rfl,rfl,trivial,by simpa using hG⟩
   ·cases ho
    obtain⟨_,q1,e1⟩:=hdep ⟨1,.data⟩ (by simp) rfl _ _ rfl rfl
    have g1:a.tmps.getD 10 undef=.int .i64 sets:=by rw [gDe,q1,e1];rfl
    rw [e1] at q1
    clear e1
    clear hfr hdep hsz
    generalize hK:(fun (a':Act) (w':World)=>_)=K
    go_simp
    refine (C0.out W _ hG).mono ?_
    rintro e W2 ⟨rfl,hG2⟩
    show K _ _
    rw [← hK]
    exact⟨_,rfl,rfl,trivial,by simpa using hG2⟩
   ·cases ho
    obtain⟨_,q2,e2⟩:=hdep ⟨2,.data⟩ (by simp) rfl _ _ rfl rfl
    have g2:a.tmps.getD 11 undef=.string bs:=by rw [gDe,q2,e2];rfl
    rw [e2] at q2
    clear e2
    clear hfr hdep hsz
    generalize hK:(fun (a':Act) (w':World)=>_)=K
    go_simp
    rw [if_neg (by omega)]
    go_simp
    rw [← hK]
    exact⟨_,rfl,rfl,trivial,by simpa using hG⟩
   ·cases ho
    obtain⟨_,q3,e3⟩:=hdep ⟨3,.data⟩ (by simp) rfl _ _ rfl rfl
    have g3:a.tmps.getD 12 undef=.string ((⟨#[99,97,99,104,101,32]⟩:ByteArray)++bs):=by rw [gDe,q3,e3];rfl
    rw [e3] at q3
    clear e3
    clear hfr hdep hsz
    generalize hK:(fun (a':Act) (w':World)=>_)=K
    go_simp
    rw [if_neg (by omega)]
    go_simp
    rw [← hK]
    exact⟨_,rfl,rfl,trivial,by simpa using hG⟩
   ·cases ho
    have g:a.tmps.getD 1 undef=.pointer (some ⟨tb,0,none⟩):=by rw [gDe,hfr 1 (qau (by kernel_rfl))];rfl
    clear hfr hdep hsz
    generalize hK:(fun (a':Act) (w':World)=>_)=K
    go_simp
    rw [← hK]
    exact⟨_,rfl,rfl,trivial,by simpa using hG⟩
   ·cases ho
    obtain⟨_,q5,e5⟩:=hdep ⟨5,.data⟩ (by simp) rfl _ _ rfl rfl
    have g5:a.tmps.getD 14 undef=.pointer (some ⟨tb,1,none⟩):=by rw [gDe,q5,e5];rfl
    rw [e5] at q5
    clear e5
    have hc:W.cell? ⟨tb,1,none⟩=some (.int .i64 rel):=hG.1.2.1
    clear hfr hdep hsz
    generalize hK:(fun (a':Act) (w':World)=>_)=K
    go_simp
    rw [← hK]
    exact⟨_,rfl,rfl,trivial,by simpa using hG⟩
   ·cases ho
    obtain⟨_,q6,e6⟩:=hdep ⟨6,.data⟩ (by simp) rfl _ _ rfl rfl
    have g6:a.tmps.getD 15 undef=.int .i64 rel:=by rw [gDe,q6,e6];rfl
    rw [e6] at q6
    clear e6
    clear hfr hdep hsz
    generalize hK:(fun (a':Act) (w':World)=>_)=K
    go_simp
    refine (C1.out W _ hG).mono ?_
    rintro e W2 ⟨rfl,hG2⟩
    show K _ _
    rw [← hK]
    exact⟨_,rfl,rfl,trivial,by simpa using hG2⟩
   ·cases ho
    obtain⟨_,q4,e4⟩:=hdep ⟨4,.data⟩ (by simp) rfl _ _ rfl rfl
    have g4:a.tmps.getD 13 undef=.string (((⟨#[99,97,99,104,101,32]⟩:ByteArray)++bs)++⟨#[32]⟩):=by rw [gDe,q4,e4];rfl
    rw [e4] at q4
    clear e4
    obtain⟨_,q7,e7⟩:=hdep ⟨7,.data⟩ (by simp) rfl _ _ rfl rfl
    have g7:a.tmps.getD 16 undef=.string br:=by rw [gDe,q7,e7];rfl
    rw [e7] at q7
    clear e7
    clear hfr hdep hsz
    generalize hK:(fun (a':Act) (w':World)=>_)=K
    go_simp
    rw [if_neg (by omega)]
    go_simp
    rw [← hK]
    exact⟨_,rfl,rfl,trivial,by simpa using hG⟩
   ·cases ho
    obtain⟨_,q8,e8⟩:=hdep ⟨8,.data⟩ (by simp) rfl _ _ rfl rfl
    have g8:a.tmps.getD 17 undef=.string ((((⟨#[99,97,99,104,101,32]⟩:ByteArray)++bs)++⟨#[32]⟩)++br):=by rw [gDe,q8,e8];rfl
    rw [e8] at q8
    clear e8
    clear hfr hdep hsz
    generalize hK:(fun (a':Act) (w':World)=>_)=K
    go_simp
    rw [if_neg (by omega)]
    go_simp
    rw [← hK]
    exact⟨_,rfl,rfl,trivial,by simpa using hG⟩
   ·cases ho
    obtain⟨_,q9,e9⟩:=hdep ⟨9,.data⟩ (by simp) rfl _ _ rfl rfl
    have g9:a.tmps.getD 18 undef=.string (((((⟨#[99,97,99,104,101,32]⟩:ByteArray)++bs)++⟨#[32]⟩)++br)++⟨#[10]⟩):=by rw [gDe,q9,e9];rfl
    rw [e9] at q9
    clear e9
    have g:a.tmps.getD 3 undef=.pointer (some ⟨b,0,none⟩):=by rw [gDe,hfr 3 (qau (by kernel_rfl))];rfl
    rw [hbk rfl] at hG ⊢
    simp only [Bool.false_eq_true,if_false] at hG
    have HWS:=Lib.hid (write_pr (((((⟨#[99,97,99,104,101,32]⟩:ByteArray)++bs)++⟨#[32]⟩)++br)++⟨#[10]⟩) hG (by rw [← HHD.out,List.length_nil];omega))
    rw [List.nil_append,← HHD.out] at HWS
    rw [← HHD.out] at g9
    clear hfr hdep hsz
    generalize hK:(fun (a':Act) (w':World)=>_)=K
    go_simp
    refine HWS.out.mono ?_
    rintro e W2 ⟨rfl,hG2⟩
    show K _ _
    rw [← hK]
    exact⟨_,rfl,trivial,trivial,by simpa using hG2⟩
  ·intro a W hd hsz hfr hall hG
   have f0:=hfr 0 (qau (by kernel_rfl))
   have f1:=hfr 1 (qau (by kernel_rfl))
   have f2:=hfr 2 (qau (by kernel_rfl))
   have f3:=hfr 3 (qau (by kernel_rfl))
   have f4:=hfr 4 (qau (by kernel_rfl))
   have f5:=hfr 5 (qau (by kernel_rfl))
   have f6:=hfr 6 (qau (by kernel_rfl))
   have f7:=hfr 7 (qau (by kernel_rfl))
   have f8:=hfr 8 (qau (by kernel_rfl))
   have f20:=hfr 20 (qau (by kernel_rfl))
   have f21:=hfr 21 (qau (by kernel_rfl))
   have f22:=hfr 22 (qau (by kernel_rfl))
   have f23:=hfr 23 (qau (by kernel_rfl))
   have f24:=hfr 24 (qau (by kernel_rfl))
   have f25:=hfr 25 (qau (by kernel_rfl))
   have f26:=hfr 26 (qau (by kernel_rfl))
   have f27:=hfr 27 (qau (by kernel_rfl))
   have f28:=hfr 28 (qau (by kernel_rfl))
   have f29:=hfr 29 (qau (by kernel_rfl))
   have f30:=hfr 30 (qau (by kernel_rfl))
   have f31:=hfr 31 (qau (by kernel_rfl))
   have f32:=hfr 32 (qau (by kernel_rfl))
   clear hfr hall
   have ha:a = { tmps:=a.tmps,defers:=[] }:=by cases a;simp at hd;subst hd;rfl
   rw [ha,arr_lit33 a.tmps hsz]
   rw [show a.tmps.getD 0 undef=.agg #[.int .i64 sets,.int .i64 rel,.slice A n cap] from by rw [gDe,f0];rfl]
   rw [show a.tmps.getD 1 undef=.pointer (some ⟨tb,0,none⟩) from by rw [gDe,f1];rfl]
   rw [show a.tmps.getD 2 undef=.string ⟨#[]⟩ from by rw [gDe,f2];rfl]
   rw [show a.tmps.getD 3 undef=.pointer (some ⟨b,0,none⟩) from by rw [gDe,f3];rfl]
   rw [show a.tmps.getD 4 undef=undef from by rw [gDe,f4];rfl]
   rw [show a.tmps.getD 5 undef=undef from by rw [gDe,f5];rfl]
   rw [show a.tmps.getD 6 undef=.agg #[.int .i64 sets,.int .i64 rel,.slice A n cap] from by rw [gDe,f6];rfl]
   rw [show a.tmps.getD 7 undef=.int .i64 0 from by rw [gDe,f7];rfl]
   rw [show a.tmps.getD 8 undef=.bool false from by rw [gDe,f8];rfl]
   rw [show a.tmps.getD 20 undef=undef from by rw [gDe,f20];rfl]
   rw [show a.tmps.getD 21 undef=undef from by rw [gDe,f21];rfl]
   rw [show a.tmps.getD 22 undef=undef from by rw [gDe,f22];rfl]
   rw [show a.tmps.getD 23 undef=undef from by rw [gDe,f23];rfl]
   rw [show a.tmps.getD 24 undef=undef from by rw [gDe,f24];rfl]
   rw [show a.tmps.getD 25 undef=undef from by rw [gDe,f25];rfl]
   rw [show a.tmps.getD 26 undef=undef from by rw [gDe,f26];rfl]
   rw [show a.tmps.getD 27 undef=undef from by rw [gDe,f27];rfl]
   rw [show a.tmps.getD 28 undef=undef from by rw [gDe,f28];rfl]
   rw [show a.tmps.getD 29 undef=undef from by rw [gDe,f29];rfl]
   rw [show a.tmps.getD 30 undef=undef from by rw [gDe,f30];rfl]
   rw [show a.tmps.getD 31 undef=undef from by rw [gDe,f31];rfl]
   rw [show a.tmps.getD 32 undef=undef from by rw [gDe,f32];rfl]
   clear ha hd hsz f0 f1 f2 f3 f4 f5 f6 f7 f8 f20 f21 f22 f23 f24 f25 f26 f27 f28 f29 f30 f31 f32
   go_wp2
   go_meet
   exact⟨rfl,rfl,rfl,hG⟩
 case rest=>
  obtain⟨rfl,rfl,rfl,hP3⟩:=hcut
  clear C0 C1 HP2 z1 z2 dS dR HHD HSIG
  have t2:=hP3.1.2.2
  have HP3:=Lib.hid hP3
  clear hP3
  go_wp2
  go_loopw [23] (fun v23 wr=>∃ (i:Nat),v23=.int .i64 i∧i≤n∧PrI tb b sets rel A n cap w (goT HD (L.take i)).data.toList wr) (fun v23 _=>n - (RowKit.intOf v23).toNat)
  case atStart=>exact⟨0,rfl,Nat.zero_le _,HP3.out⟩
  case round=>
   obtain⟨i,rfl,hi,hP⟩:=hrel
   have HP:=Lib.hid hP
   have HSZ:=goT_size (L.take i) HD
   have hti:(L.take i).length≤64:=by have:=HN.out;have:=HNL.out;simp;omega
   have hsz:Hid ((goT HD (L.take i)).data.toList.length≤210000):=Lib.hid (by rw [← Lib.size_eq];omega)
   have hn64:n≤64:=by have:=HNL.out.2;have:=HN.out;omega
   clear HSZ hti hP
   by_cases hil:i<n
   ·have hil':i<L.length:=by have:=HN.out;omega
    have HGS:=Lib.hid (goT_succ hil' HD)
    have hwr:Below w.heap.size w wr:=by rw [HW.out];exact HP.out.2.1
    obtain⟨bb,off,rfl,hbl,HAT⟩:=HR.out (by omega)
    obtain⟨e0,e1,e2,e3,e4,A5,c5,A6,c6,e5,e6,g5,g6⟩:=HAT i hil'
    have m:∀ j v,w.cell? ⟨bb,j,none⟩=some v→wr.cell? ⟨bb,j,none⟩=some v:=fun j v h=>(hwr.cell (p:=⟨bb,j,none⟩) hbl).trans h
    have f0:=m _ _ e0
    have f1:=m _ _ e1
    have f2:=m _ _ e2
    have f3:=m _ _ e3
    have f4:=m _ _ e4
    have f5:=m _ _ e5
    have f6:=m _ _ e6
    clear e0 e1 e2 e3 e4 e5 e6 m HAT
    obtain⟨x,hx⟩:∃ x,x=L[i]:=⟨_,rfl⟩
    have hbx:=HB2.out x (by rw [hx];exact List.getElem_mem _)
    rw [← hx] at f0 f1 f2 f3 f4 f5 f6 g5 g6 HGS
    have HLN:Hid (∀ W,Below w.heap.size w W→Calls Tryd.prog 52 #[.agg #[.int .i64 x.id,.int .i64 x.c,.int .i64 x.d,.int .i64 x.t,.int .i64 x.p,.slice A5 x.ch.length c5,.slice A6 x.us.length c6]] W fun e w'=>e=.returned (.string (lineT x))∧Below W.heap.size W w'):=Lib.hid (fun W hW=>line_any x A5 c5 A6 c6 W hbx.1 hbx.2.1 hbx.2.2 ((g5.below hW (Nat.le_refl _)).more hW.size) ((g6.below hW (Nat.le_refl _)).more hW.size) (qaR HTB.out.1 hW HTB.out.2) (by have:=hW.size;have:=HTB.out.2;omega))
    have hlt:=lineT_size x
    generalize lineT x=T at HLN HGS hlt
    have HTL:Hid (T.size≤3100):=Lib.hid hlt
    clear hx hbx g5 g6 hwr hlt
    generalize x.ch.length=l5 at f5 HLN
    generalize x.us.length=l6 at f6 HLN
    go_upto_region 8 with (fail)
    have hal:=(Below.refl wr.heap.size wr).alloc (Nat.le_refl _) (.cells #[.int .i64 x.id,.int .i64 x.c,.int .i64 x.d,.int .i64 x.t,.int .i64 x.p,.slice A5 l5 c5,.slice A6 l6 c6] 53)
    have hnw:=heap_alloc_new wr (.cells #[.int .i64 x.id,.int .i64 x.c,.int .i64 x.d,.int .i64 x.t,.int .i64 x.p,.slice A5 l5 c5,.slice A6 l6 c6] 53)
    have HP8:=Lib.hid (HP.out.below hal)
    generalize wr.alloc (.cells #[.int .i64 x.id,.int .i64 x.c,.int .i64 x.d,.int .i64 x.t,.int .i64 x.p,.slice A5 l5 c5,.slice A6 l6 c6] 53)=W3 at hal hnw HP8 ⊢
    obtain⟨xb,hxb⟩:∃ z,wr.heap.size=z:=⟨_,rfl⟩
    rw [hxb] at hnw ⊢
    obtain⟨t0,t1,t2',t3,t4,t5,t6⟩:=qba hnw
    have HLN3:=Lib.hid (HLN.out W3 (by rw [HW.out];exact HP8.out.2.1))
    clear f0 f1 f2 f3 f4 f5 f6 hal hnw hxb HLN HP
    have kk0:(9223372036854775807<T.size+1)=False:=eq_false (by have:=HTL.out;omega)
    go_wp2_with (first|(go_at_call 52;refine HLN3.out.mono ?_;rintro e w5 ⟨rfl,hb5⟩;have HP9:=Lib.hid (HP8.out.below hb5);have HWS:=Lib.hid (write_pr (T++⟨#[10]⟩) HP9.out (by have z9:(⟨#[10]⟩:ByteArray).size=1:=rfl;have:=HTL.out;have:=hsz.out;simp only [ByteArray.size_append];omega)))|(go_at_call 28;refine HWS.out.mono ?_;rintro e w7 ⟨rfl,hP7⟩))
    have HP7:=Lib.hid hP7
    clear hP7
    go_roundw
    case rel=>exact⟨i+1,by simp,hil,by rw [HGS.out];simpa [ByteArray.data_append,List.append_assoc] using HP7.out⟩
    case measure=>simp [RowKit.intOf];omega
   ·have hie:Hid (i=n):=Lib.hid (by omega)
    have HTT:Hid (goT HD (L.take i)=P):=Lib.hid (by rw [hie.out,HPG.out])
    have hPP:=HP.out
    rw [HTT.out] at hPP
    have HST:=Lib.hid (Tryd.Builder_String_any b b P.data.toList wr hPP.2.2.2.2 hPP.2.2.2.1)
    have HBB:=Lib.hid (And.intro hPP.2.1 hPP.2.2.1)
    clear hPP
    go_wp2_with (go_at_call 32;refine HST.out.mono ?_;rintro e w4 ⟨rfl,hb4⟩)
    go_ret
    exact⟨rfl,by rw [HW.out];exact HBB.out.1.trans (hb4.mono (Nat.le_of_lt HBB.out.2))⟩
end Go.Proofs.YtgnaaokhfpfglaaDoor
end
section
namespace Go.Proofs.YtgnaaokhfpfglaaDoor
open Go.RowKit Go.Shelf Go.Lib
theorem le_foldl_min (z:Int):∀ (l:List Int) (a:Int),z≤l.foldl min a↔z≤a∧∀ x ∈ l,z≤x:=by
 intro l
 induction l with
 |nil=>intro a;simp
 |cons y r ih=>intro a;rw [List.foldl_cons,ih,Int.le_min];simp [and_assoc]
theorem foldl_max_le (z:Int):∀ (l:List Int) (a:Int),l.foldl max a≤z↔a≤z∧∀ x ∈ l,x≤z:=by
 intro l
 induction l with
 |nil=>intro a;simp
 |cons y r ih=>intro a;rw [List.foldl_cons,ih,Int.max_le];simp [and_assoc]
def inA (most:Int) (l:List Int):Bool:=l.all fun x=>decide (0≤x∧x≤most)
theorem inA_minmax (most:Int) {l:List Int} (h:l≠[]):(decide (0≤Lib.minOf l) && decide (Lib.maxOf l≤most))=inA most l:=by
 cases l with
 |nil=>exact absurd rfl h
 |cons y r=>
  rw [Bool.eq_iff_iff]
  simp only [inA,Lib.minOf,Lib.maxOf,List.headD_cons,Bool.and_eq_true,decide_eq_true_eq,le_foldl_min,foldl_max_le,List.all_eq_true]
  constructor
  ·rintro ⟨⟨h1,h2⟩,h3,h4⟩ x hx
   exact⟨h2 x hx,h4 x hx⟩
  ·intro h
   have h0:=h y List.mem_cons_self
   exact⟨⟨h0.1,fun x hx=>(h x hx).1⟩,h0.2,fun x hx=>(h x hx).2⟩
theorem slMaxI_any (b off n c:Nat) (zs:List Int) (w:World) (hn:0<n) (hz:n=zs.length) (hbig:n≤4000000) (hc:∀ j (h:j<zs.length),w.cell? ⟨b,off+j,none⟩=some (.int .i64 zs[j])) :
  Calls Tryd.prog 61 #[.slice (some ⟨b,off,none⟩) n c] w fun e w'=>e=.returned (.int .i64 (Lib.maxOf zs))∧w=w':=by
 have hc':∀ j,j<zs.length→w.cell? ⟨b,off+j,none⟩=some (.int .i64 (zs.getD j 0)):=fun j h=>by rw [hc j h];simp [List.getD,List.getElem?_eq_getElem h]
 have h0:w.cell? ⟨b,off,none⟩=some (.int .i64 (zs.getD 0 0)):=by simpa using hc' 0 (by omega)
 have HT:Hid (zs.take n=zs):=Lib.hid (by rw [hz,List.take_length])
 have HZ:=Lib.hid hz
 have hc':=Lib.hid hc'
 clear hc hz
 go_enter Tryd.func61,Tryd.ntmps61
 go_wp2
 go_loop [3,4] (fun m i=>∃ k:Nat,0<k∧k≤n∧i=.int .i64 k∧m=.int .i64 (Lib.maxOf (zs.take k))) (fun _ i=>match i with|.int _ q=>n - q.toNat|_=>0)
 case atStart=>exact⟨1,Nat.one_pos,hn,rfl,by rw [Lib.maxOf_one];simp [List.getD]⟩
 case round=>
  obtain⟨k,hk0,hk,rfl,rfl⟩:=hrel
  by_cases hlt:k<n
  ·have hcell:w.cell? ⟨b,off+k,none⟩=some (.int .i64 (zs.getD k 0)):=hc'.out k (by have:=HZ.out;omega)
   have HM:=Lib.hid (Lib.maxOf_step zs k hk0 (by have:=HZ.out;omega))
   generalize Lib.maxOf (zs.take k)=mk at HM ⊢
   go_wp2
   go_round
   case rel=>exact⟨k+1,Nat.succ_pos k,by omega,by simp,by rw [HM.out];simp [List.getD]⟩
   case measure=>simp;omega
  ·obtain rfl:k=n:=by omega
   rw [HT.out]
   go_wp2
   go_ret
   exact⟨rfl,rfl⟩
theorem slMinI_any (b off n c:Nat) (zs:List Int) (w:World) (hn:0<n) (hz:n=zs.length) (hbig:n≤4000000) (hc:∀ j (h:j<zs.length),w.cell? ⟨b,off+j,none⟩=some (.int .i64 zs[j])) :
  Calls Tryd.prog 60 #[.slice (some ⟨b,off,none⟩) n c] w fun e w'=>e=.returned (.int .i64 (Lib.minOf zs))∧w=w':=by
 have hc':∀ j,j<zs.length→w.cell? ⟨b,off+j,none⟩=some (.int .i64 (zs.getD j 0)):=fun j h=>by rw [hc j h];simp [List.getD,List.getElem?_eq_getElem h]
 have h0:w.cell? ⟨b,off,none⟩=some (.int .i64 (zs.getD 0 0)):=by simpa using hc' 0 (by omega)
 have HT:Hid (zs.take n=zs):=Lib.hid (by rw [hz,List.take_length])
 have HZ:=Lib.hid hz
 have hc':=Lib.hid hc'
 clear hc hz
 go_enter Tryd.func60,Tryd.ntmps60
 go_wp2
 go_loop [3,4] (fun m i=>∃ k:Nat,0<k∧k≤n∧i=.int .i64 k∧m=.int .i64 (Lib.minOf (zs.take k))) (fun _ i=>match i with|.int _ q=>n - q.toNat|_=>0)
 case atStart=>exact⟨1,Nat.one_pos,hn,rfl,by rw [Lib.minOf_one];simp [List.getD]⟩
 case round=>
  obtain⟨k,hk0,hk,rfl,rfl⟩:=hrel
  by_cases hlt:k<n
  ·have hcell:w.cell? ⟨b,off+k,none⟩=some (.int .i64 (zs.getD k 0)):=hc'.out k (by have:=HZ.out;omega)
   have HM:=Lib.hid (Lib.minOf_step zs k hk0 (by have:=HZ.out;omega))
   generalize Lib.minOf (zs.take k)=mk at HM ⊢
   go_wp2
   go_round
   case rel=>exact⟨k+1,Nat.succ_pos k,by omega,by simp,by rw [HM.out];simp [List.getD]⟩
   case measure=>simp;omega
  ·obtain rfl:k=n:=by omega
   rw [HT.out]
   go_wp2
   go_ret
   exact⟨rfl,rfl⟩
theorem inAI_any (most:Int) (A:Option Addr) (cap:Nat) (L:List Int) (w:World) (hn:L.length≤4000000) (hr:NRow w w.heap.size A L) :
  Calls Tryd.prog 45 #[.int .i64 most,.slice A L.length cap] w fun e w'=>e=.returned (.bool (inA most L))∧w=w':=by
 obtain⟨R,hR⟩:∃ R,R=inA most L:=⟨_,rfl⟩
 rw [← hR]
 by_cases h0:L=[]
 ·subst h0
  have HR:=Lib.hid hR
  clear hR hr hn
  go_enter Tryd.func45,Tryd.ntmps45
  go_wp2
  go_ret
  exact⟨by rw [HR.out];rfl,rfl⟩
 ·have hpos:0<L.length:=List.length_pos_iff.2 h0
  have HR:=Lib.hid (hR.trans (inA_minmax most h0).symm)
  obtain⟨b,off,rfl,_,hc⟩:=hr hpos
  obtain⟨n,hn'⟩:∃ n,n=L.length:=⟨_,rfl⟩
  have H1:=Lib.hid (slMinI_any b off n cap L w (by omega) hn' (by omega) hc)
  have H2:=Lib.hid (slMaxI_any b off n cap L w (by omega) hn' (by omega) hc)
  rw [← hn'] at hpos ⊢
  generalize Lib.minOf L=mn at H1 HR
  generalize Lib.maxOf L=mx at H2 HR
  clear hc hr hn hn' hR h0
  have hne:((n:Int) == 0)=false:=by simp;omega
  by_cases h1:0≤mn
  ·have HE:Hid (R=decide (mx≤most)):=Lib.hid (by rw [HR.out,decide_eq_true h1,Bool.true_and])
   clear HR
   go_enter Tryd.func45,Tryd.ntmps45
   go_wp2_with (first|(go_at_call 60;refine H1.out.mono ?_;rintro e w1 ⟨rfl,rfl⟩)|(go_at_call 61;refine H2.out.mono ?_;rintro e w2 ⟨rfl,rfl⟩))
   go_ret
   exact⟨by rw [HE.out];rfl,rfl⟩
  ·have HE:Hid (R=false):=Lib.hid (by rw [HR.out,decide_eq_false h1,Bool.false_and])
   clear HR
   go_enter Tryd.func45,Tryd.ntmps45
   go_wp2_with (first|(go_at_call 60;refine H1.out.mono ?_;rintro e w1 ⟨rfl,rfl⟩))
   go_ret
   exact⟨by rw [HE.out];rfl,rfl⟩
theorem slMaxL_any (b off n c:Nat) (zs:List Int) (w:World) (hn:0<n) (hz:n=zs.length) (hbig:n≤4000000) (hc:∀ j (h:j<zs.length),w.cell? ⟨b,off+j,none⟩=some (.int .i64 zs[j])) :
  Calls Tryd.prog 63 #[.slice (some ⟨b,off,none⟩) n c] w fun e w'=>e=.returned (.int .i64 (Lib.maxOf zs))∧w=w':=by
 have hc':∀ j,j<zs.length→w.cell? ⟨b,off+j,none⟩=some (.int .i64 (zs.getD j 0)):=fun j h=>by rw [hc j h];simp [List.getD,List.getElem?_eq_getElem h]
 have h0:w.cell? ⟨b,off,none⟩=some (.int .i64 (zs.getD 0 0)):=by simpa using hc' 0 (by omega)
 have HT:Hid (zs.take n=zs):=Lib.hid (by rw [hz,List.take_length])
 have HZ:=Lib.hid hz
 have hc':=Lib.hid hc'
 clear hc hz
 go_enter Tryd.func63,Tryd.ntmps63
 go_wp2
 go_loop [3,4] (fun m i=>∃ k:Nat,0<k∧k≤n∧i=.int .i64 k∧m=.int .i64 (Lib.maxOf (zs.take k))) (fun _ i=>match i with|.int _ q=>n - q.toNat|_=>0)
 case atStart=>exact⟨1,Nat.one_pos,hn,rfl,by rw [Lib.maxOf_one];simp [List.getD]⟩
 case round=>
  obtain⟨k,hk0,hk,rfl,rfl⟩:=hrel
  by_cases hlt:k<n
  ·have hcell:w.cell? ⟨b,off+k,none⟩=some (.int .i64 (zs.getD k 0)):=hc'.out k (by have:=HZ.out;omega)
   have HM:=Lib.hid (Lib.maxOf_step zs k hk0 (by have:=HZ.out;omega))
   generalize Lib.maxOf (zs.take k)=mk at HM ⊢
   go_wp2
   go_round
   case rel=>exact⟨k+1,Nat.succ_pos k,by omega,by simp,by rw [HM.out];simp [List.getD]⟩
   case measure=>simp;omega
  ·obtain rfl:k=n:=by omega
   rw [HT.out]
   go_wp2
   go_ret
   exact⟨rfl,rfl⟩
theorem slMinL_any (b off n c:Nat) (zs:List Int) (w:World) (hn:0<n) (hz:n=zs.length) (hbig:n≤4000000) (hc:∀ j (h:j<zs.length),w.cell? ⟨b,off+j,none⟩=some (.int .i64 zs[j])) :
  Calls Tryd.prog 62 #[.slice (some ⟨b,off,none⟩) n c] w fun e w'=>e=.returned (.int .i64 (Lib.minOf zs))∧w=w':=by
 have hc':∀ j,j<zs.length→w.cell? ⟨b,off+j,none⟩=some (.int .i64 (zs.getD j 0)):=fun j h=>by rw [hc j h];simp [List.getD,List.getElem?_eq_getElem h]
 have h0:w.cell? ⟨b,off,none⟩=some (.int .i64 (zs.getD 0 0)):=by simpa using hc' 0 (by omega)
 have HT:Hid (zs.take n=zs):=Lib.hid (by rw [hz,List.take_length])
 have HZ:=Lib.hid hz
 have hc':=Lib.hid hc'
 clear hc hz
 go_enter Tryd.func62,Tryd.ntmps62
 go_wp2
 go_loop [3,4] (fun m i=>∃ k:Nat,0<k∧k≤n∧i=.int .i64 k∧m=.int .i64 (Lib.minOf (zs.take k))) (fun _ i=>match i with|.int _ q=>n - q.toNat|_=>0)
 case atStart=>exact⟨1,Nat.one_pos,hn,rfl,by rw [Lib.minOf_one];simp [List.getD]⟩
 case round=>
  obtain⟨k,hk0,hk,rfl,rfl⟩:=hrel
  by_cases hlt:k<n
  ·have hcell:w.cell? ⟨b,off+k,none⟩=some (.int .i64 (zs.getD k 0)):=hc'.out k (by have:=HZ.out;omega)
   have HM:=Lib.hid (Lib.minOf_step zs k hk0 (by have:=HZ.out;omega))
   generalize Lib.minOf (zs.take k)=mk at HM ⊢
   go_wp2
   go_round
   case rel=>exact⟨k+1,Nat.succ_pos k,by omega,by simp,by rw [HM.out];simp [List.getD]⟩
   case measure=>simp;omega
  ·obtain rfl:k=n:=by omega
   rw [HT.out]
   go_wp2
   go_ret
   exact⟨rfl,rfl⟩
theorem inAL_any (most:Int) (A:Option Addr) (cap:Nat) (L:List Int) (w:World) (hn:L.length≤4000000) (hr:NRow w w.heap.size A L) :
  Calls Tryd.prog 46 #[.int .i64 most,.slice A L.length cap] w fun e w'=>e=.returned (.bool (inA most L))∧w=w':=by
 obtain⟨R,hR⟩:∃ R,R=inA most L:=⟨_,rfl⟩
 rw [← hR]
 by_cases h0:L=[]
 ·subst h0
  have HR:=Lib.hid hR
  clear hR hr hn
  go_enter Tryd.func46,Tryd.ntmps46
  go_wp2
  go_ret
  exact⟨by rw [HR.out];rfl,rfl⟩
 ·have hpos:0<L.length:=List.length_pos_iff.2 h0
  have HR:=Lib.hid (hR.trans (inA_minmax most h0).symm)
  obtain⟨b,off,rfl,_,hc⟩:=hr hpos
  obtain⟨n,hn'⟩:∃ n,n=L.length:=⟨_,rfl⟩
  have H1:=Lib.hid (slMinL_any b off n cap L w (by omega) hn' (by omega) hc)
  have H2:=Lib.hid (slMaxL_any b off n cap L w (by omega) hn' (by omega) hc)
  rw [← hn'] at hpos ⊢
  generalize Lib.minOf L=mn at H1 HR
  generalize Lib.maxOf L=mx at H2 HR
  clear hc hr hn hn' hR h0
  have hne:((n:Int) == 0)=false:=by simp;omega
  by_cases h1:0≤mn
  ·have HE:Hid (R=decide (mx≤most)):=Lib.hid (by rw [HR.out,decide_eq_true h1,Bool.true_and])
   clear HR
   go_enter Tryd.func46,Tryd.ntmps46
   go_wp2_with (first|(go_at_call 62;refine H1.out.mono ?_;rintro e w1 ⟨rfl,rfl⟩)|(go_at_call 63;refine H2.out.mono ?_;rintro e w2 ⟨rfl,rfl⟩))
   go_ret
   exact⟨by rw [HE.out];rfl,rfl⟩
  ·have HE:Hid (R=false):=Lib.hid (by rw [HR.out,decide_eq_false h1,Bool.false_and])
   clear HR
   go_enter Tryd.func46,Tryd.ntmps46
   go_wp2_with (first|(go_at_call 62;refine H1.out.mono ?_;rintro e w1 ⟨rfl,rfl⟩))
   go_ret
   exact⟨by rw [HE.out];rfl,rfl⟩
structure Bd where
 i:Int
 g:Int
 t:Int
 k:Int
deriving DecidableEq
def BdRow (w:World) (B:Nat) (A:Option Addr) (L:List Bd):Prop:=
 0<L.length→∃ b off,A=some ⟨b,off,none⟩∧b<B∧∀ i (h:i<L.length),
  w.cell? ⟨b,off+i * 4,none⟩=some (.int .i64 L[i].i)∧w.cell? ⟨b,off+i * 4+1,none⟩=some (.int .i64 L[i].g)∧w.cell? ⟨b,off+i * 4+2,none⟩=some (.int .i64 L[i].t)∧w.cell? ⟨b,off+i * 4+3,none⟩=some (.int .i64 L[i].k)
theorem BdRow.below {w w':World} {B C:Nat} {A:Option Addr} {L:List Bd} (h:BdRow w B A L) (hb:Below C w w') (hBC:B≤C):BdRow w' B A L:=by
 intro hl
 obtain⟨b,off,e,hlt,hc⟩:=h hl
 refine⟨b,off,e,hlt,fun i hi=>?_⟩
 obtain⟨h0,h1,h2,h3⟩:=hc i hi
 have m:∀ o v,w.cell? ⟨b,o,none⟩=some v→w'.cell? ⟨b,o,none⟩=some v:=fun o v h=>(hb.cell (p:=⟨b,o,none⟩) (by show b<C;omega)).trans h
 exact⟨m _ _ h0,m _ _ h1,m _ _ h2,m _ _ h3⟩
theorem BdRow.more {w:World} {B C:Nat} {A:Option Addr} {L:List Bd} (h:BdRow w B A L) (hBC:B≤C):BdRow w C A L:=by
 intro hl
 obtain⟨b,off,e,hlt,hc⟩:=h hl
 exact⟨b,off,e,by omega,hc⟩
def wrongB (x:Bd):Bool:=!(inA 99 [x.i]) || !(inA 1099511627776 [x.g,x.t,x.k])
end Go.Proofs.YtgnaaokhfpfglaaDoor
end
section
namespace Go.Proofs.YtgnaaokhfpfglaaDoor
open Go.RowKit Go.Shelf Go.Lib Go.Proofs.YtgnaaokhfpfglaaDoorW.PrintWords
def allG {α:Type} (p:α→α→Bool):List α→List α→Bool
 |x::r,y::q=>p x y && allG p r q
 |_,_=>true
theorem allG_step {α:Type} {p:α→α→Bool} {L M:List α} {i:Nat} (h:i<L.length) (h':i<M.length):allG p (L.drop i) (M.drop i)=(p L[i] M[i] && allG p (L.drop (i+1)) (M.drop (i+1))):=by
 rw [List.drop_eq_getElem_cons h,List.drop_eq_getElem_cons h']
 rfl
def SaysTk (x y:Tk) (b:Bool):Prop:=∀ (A5:Option Addr) (c5:Nat) (A6:Option Addr) (c6:Nat) (B5:Option Addr) (d5:Nat) (B6:Option Addr) (d6:Nat) (W:World),Kd.C (Kd.int .i64) W A5 x.ch.length x.ch→x.ch.length≤c5→Kd.C (Kd.int .i64) W A6 x.us.length x.us→x.us.length≤c6→Kd.C (Kd.int .i64) W B5 y.ch.length y.ch→y.ch.length≤d5→Kd.C (Kd.int .i64) W B6 y.us.length y.us→y.us.length≤d6 →
 Calls Tryd.prog 42 #[.agg #[.int .i64 x.id,.int .i64 x.c,.int .i64 x.d,.int .i64 x.t,.int .i64 x.p,.slice A5 x.ch.length c5,.slice A6 x.us.length c6],.agg #[.int .i64 y.id,.int .i64 y.c,.int .i64 y.d,.int .i64 y.t,.int .i64 y.p,.slice B5 y.ch.length d5,.slice B6 y.us.length d6]] W fun e w'=>e=.returned (.bool b)∧Below W.heap.size W w'
theorem eqFunc_any (p:Tk→Tk→Bool) (A1:Option Addr) (c1:Nat) (A2:Option Addr) (c2:Nat) (L M:List Tk) (w:World) (hn:L.length≤70000) (h1:Kd.C kTk w A1 L.length L) (h2:Kd.C kTk w A2 M.length M) (hp:L.length=M.length→∀ i (h:i<L.length) (h':i<M.length),SaysTk L[i] M[i] (p L[i] M[i])) :
  Calls Tryd.prog 41 #[.slice A1 L.length c1,.slice A2 M.length c2,.func (Fn.func 42) #[] #[]] w fun e w'=>e=.returned (.bool (decide (L.length=M.length) && allG p L M))∧Below w.heap.size w w':=by
 by_cases hlm:L.length=M.length
 rotate_left
 ·obtain⟨n,hn'⟩:∃ n,n=L.length:=⟨_,rfl⟩
  obtain⟨m,hm'⟩:∃ m,m=M.length:=⟨_,rfl⟩
  rw [decide_eq_false hlm,Bool.false_and]
  rw [← hn',← hm'] at hlm ⊢
  rw [← hn'] at hn
  have hnm':¬ (n:Int)=(m:Int):=by omega
  clear h1 h2 hn' hm' hp
  go_enter Tryd.func41,Tryd.ntmps41
  go_wp2
  go_ret
  exact⟨rfl,Below.refl _ _⟩
 obtain⟨R,hR⟩:∃ R,R=allG p L M:=⟨_,rfl⟩
 rw [← hR,decide_eq_true hlm,Bool.true_and]
 have HR:Hid (R=allG p (L.drop 0) (M.drop 0)):=Lib.hid hR
 have HP:=Lib.hid (hp hlm)
 obtain⟨n,hn'⟩:∃ n,n=L.length:=⟨_,rfl⟩
 have HN:=Lib.hid hn'
 have HM:=Lib.hid (hn'.trans hlm)
 have T1:=Lib.hid (fun hl=>tk_at h1 hl)
 have T2:=Lib.hid (fun hl=>tk_at h2 hl)
 rw [← hlm,← hn']
 rw [← hn'] at hn
 clear h1 h2 hn' hlm hR hp
 go_enter Tryd.func41,Tryd.ntmps41
 go_wp2
 go_loopw [17] (fun v17 wr=>∃ (i:Nat),v17=.int .i64 i∧i≤n∧Hid (R=allG p (L.drop i) (M.drop i))∧Below w.heap.size w wr) (fun v17 _=>n - (RowKit.intOf v17).toNat)
 case atStart=>exact⟨0,rfl,Nat.zero_le _,HR,Below.refl _ _⟩
 case round=>
  obtain⟨i,rfl,hi,hS,hwr⟩:=hrel
  by_cases hin:i<n
  ·have hil:i<L.length:=by rw [← HN.out];exact hin
   have hil':i<M.length:=by rw [← HM.out];exact hin
   obtain⟨bb,off,rfl,hbl,HAT⟩:=T1.out (by omega)
   obtain⟨bd,ofd,rfl,hbd,HAD⟩:=T2.out (by omega)
   obtain⟨A5,k5,A6,k6,e0,e1,e2,e3,e4,e5,e6,g5,g7,g6,g8⟩:=HAT i hil
   obtain⟨D5,l5,D6,l6,d0,d1,d2,d3,d4,d5,d6,j5,j7,j6,j8⟩:=HAD i hil'
   have HST:=Lib.hid (hS.out.trans (allG_step hil hil'))
   have HPX:=Lib.hid (HP.out i hil hil')
   generalize L[i]=x at e0 e1 e2 e3 e4 e5 e6 g5 g6 g7 g8 HST HPX
   generalize M[i]=y at d0 d1 d2 d3 d4 d5 d6 j5 j6 j7 j8 HST HPX
   clear HAT HAD hS HR
   have m:∀ j v,w.cell? ⟨bb,j,none⟩=some v→wr.cell? ⟨bb,j,none⟩=some v:=fun j v h=>(hwr.cell (p:=⟨bb,j,none⟩) hbl).trans h
   have f0:=m _ _ e0
   have f1:=m _ _ e1
   have f2:=m _ _ e2
   have f3:=m _ _ e3
   have f4:=m _ _ e4
   have f5:=m _ _ e5
   have f6:=m _ _ e6
   clear e0 e1 e2 e3 e4 e5 e6 m
   have m:∀ j v,w.cell? ⟨bd,j,none⟩=some v→wr.cell? ⟨bd,j,none⟩=some v:=fun j v h=>(hwr.cell (p:=⟨bd,j,none⟩) hbd).trans h
   have i0:=m _ _ d0
   have i1:=m _ _ d1
   have i2:=m _ _ d2
   have i3:=m _ _ d3
   have i4:=m _ _ d4
   have i5:=m _ _ d5
   have i6:=m _ _ d6
   clear d0 d1 d2 d3 d4 d5 d6 m
   have HCA:Hid (∀ W,Below w.heap.size w W→Calls Tryd.prog 42 #[.agg #[.int .i64 x.id,.int .i64 x.c,.int .i64 x.d,.int .i64 x.t,.int .i64 x.p,.slice A5 x.ch.length k5,.slice A6 x.us.length k6],.agg #[.int .i64 y.id,.int .i64 y.c,.int .i64 y.d,.int .i64 y.t,.int .i64 y.p,.slice D5 y.ch.length l5,.slice D6 y.us.length l6]] W fun e w'=>e=.returned (.bool (p x y))∧Below W.heap.size W w'):=Lib.hid (fun W hW=>HPX.out A5 k5 A6 k6 D5 l5 D6 l6 W (Kd.C_below g5 hW) g7 (Kd.C_below g6 hW) g8 (Kd.C_below j5 hW) j7 (Kd.C_below j6 hW) j8)
   clear HPX g5 g6 g7 g8 j5 j6 j7 j8
   generalize p x y=b at HST HCA
   obtain⟨x0,x1,x2,x3,x4,x5,x6⟩:=x
   obtain⟨y0,y1,y2,y3,y4,y5,y6⟩:=y
   simp only at f0 f1 f2 f3 f4 f5 f6 i0 i1 i2 i3 i4 i5 i6 HCA
   generalize x5.length=x5 at *
   generalize x6.length=x6 at *
   generalize y5.length=y5 at *
   generalize y6.length=y6 at *
   go_upto_region 6 with (fail)
   have hb1:=hwr.alloc hwr.size (.cells #[.int .i64 x0,.int .i64 x1,.int .i64 x2,.int .i64 x3,.int .i64 x4,.slice A5 x5 k5,.slice A6 x6 k6] 53)
   have hn1:=heap_alloc_new wr (.cells #[.int .i64 x0,.int .i64 x1,.int .i64 x2,.int .i64 x3,.int .i64 x4,.slice A5 x5 k5,.slice A6 x6 k6] 53)
   have m:∀ j v,wr.cell? ⟨bd,j,none⟩=some v→(wr.alloc (.cells #[.int .i64 x0,.int .i64 x1,.int .i64 x2,.int .i64 x3,.int .i64 x4,.slice A5 x5 k5,.slice A6 x6 k6] 53)).cell? ⟨bd,j,none⟩=some v:=fun j v h=>(((Below.refl wr.heap.size wr).alloc (Nat.le_refl _) (.cells #[.int .i64 x0,.int .i64 x1,.int .i64 x2,.int .i64 x3,.int .i64 x4,.slice A5 x5 k5,.slice A6 x6 k6] 53)).cell (p:=⟨bd,j,none⟩) (bLt wr _ h)).trans h
   have m0:=m _ _ i0
   have m1:=m _ _ i1
   have m2:=m _ _ i2
   have m3:=m _ _ i3
   have m4:=m _ _ i4
   have m5:=m _ _ i5
   have m6:=m _ _ i6
   generalize wr.alloc (.cells #[.int .i64 x0,.int .i64 x1,.int .i64 x2,.int .i64 x3,.int .i64 x4,.slice A5 x5 k5,.slice A6 x6 k6] 53)=W1 at hb1 hn1 m0 m1 m2 m3 m4 m5 m6 ⊢
   obtain⟨r1,hr1⟩:∃ z,wr.heap.size=z:=⟨_,rfl⟩
   rw [hr1] at hn1 ⊢
   have hl1:=lt_of_block hn1
   clear m f0 f1 f2 f3 f4 f5 f6 i0 i1 i2 i3 i4 i5 i6 hr1 hwr
   go_upto_region 7 with (fail)
   have hb2:=hb1.alloc hb1.size (.cells #[.int .i64 y0,.int .i64 y1,.int .i64 y2,.int .i64 y3,.int .i64 y4,.slice D5 y5 l5,.slice D6 y6 l6] 53)
   have hn2:=heap_alloc_new W1 (.cells #[.int .i64 y0,.int .i64 y1,.int .i64 y2,.int .i64 y3,.int .i64 y4,.slice D5 y5 l5,.slice D6 y6 l6] 53)
   have hn1':=(((Below.refl W1.heap.size W1).alloc (Nat.le_refl _) (.cells #[.int .i64 y0,.int .i64 y1,.int .i64 y2,.int .i64 y3,.int .i64 y4,.slice D5 y5 l5,.slice D6 y6 l6] 53)).block r1 hl1).trans hn1
   generalize W1.alloc (.cells #[.int .i64 y0,.int .i64 y1,.int .i64 y2,.int .i64 y3,.int .i64 y4,.slice D5 y5 l5,.slice D6 y6 l6] 53)=W2 at hb2 hn2 hn1' ⊢
   obtain⟨r2,hr2⟩:∃ z,W1.heap.size=z:=⟨_,rfl⟩
   rw [hr2] at hn2 ⊢
   have hne:¬ r1=r2:=by omega
   clear m0 m1 m2 m3 m4 m5 m6 hn1 hr2 hl1 hb1
   obtain⟨t0,t1,t2,t3,t4,t5,t6⟩:=qba hn1'
   obtain⟨s0,s1,s2,s3,s4,s5,s6⟩:=qba hn2
   have HB2:=Lib.hid hb2
   have HC2:=Lib.hid (HCA.out W2 hb2)
   clear hn1' hn2 hb2 HCA
   cases b with
   |true=>
    have HQ:Hid (R=allG p (L.drop (i+1)) (M.drop (i+1))):=Lib.hid (by rw [HST.out,Bool.true_and])
    go_wp2_with (go_at_call 42;refine HC2.out.mono ?_;rintro e w5 ⟨rfl,hb5⟩)
    go_roundw
    case rel=>exact⟨i+1,by simp,hin,HQ,HB2.out.trans (hb5.mono HB2.out.size)⟩
    case measure=>simp [RowKit.intOf];omega
   |false=>
    have HQ:Hid (R=false):=Lib.hid (by rw [HST.out,Bool.false_and])
    go_wp2_with (go_at_call 42;refine HC2.out.mono ?_;rintro e w5 ⟨rfl,hb5⟩)
    go_ret
    exact⟨by rw [HQ.out];rfl,HB2.out.trans (hb5.mono HB2.out.size)⟩
  ·obtain rfl:i=n:=by omega
   have HQ:Hid (R=true):=Lib.hid (by rw [hS.out,List.drop_eq_nil_of_le (by rw [← HN.out];exact Nat.le_refl _),List.drop_eq_nil_of_le (by rw [← HM.out];exact Nat.le_refl _)];rfl)
   clear T1 T2 HP hS HR
   go_wp2
   go_ret
   exact⟨by rw [HQ.out];rfl,hwr⟩
end Go.Proofs.YtgnaaokhfpfglaaDoor
end
section
namespace Go.Proofs.YtgnaaokhfpfglaaDoor
open Go.RowKit Go.Shelf Go.Lib
def idxB (p:Bd→Bool):Nat→List Bd→Int
 |_,[]=>-1
 |i,x::r=>if p x then (i:Int) else idxB p (i+1) r
theorem idxB_any (p:Bd→Bool):∀ (L:List Bd) (i:Nat),decide (0≤idxB p i L)=L.any p:=by
 intro L
 induction L with
 |nil=>intro i;rfl
 |cons x r ih=>
  intro i
  rw [idxB,List.any_cons]
  by_cases h:p x=true
  ·rw [if_pos h,h,Bool.true_or];exact decide_eq_true (by omega)
  ·rw [if_neg h,ih,Bool.not_eq_true _ |>.mp h,Bool.false_or]
theorem idxB_step {p:Bd→Bool} {L:List Bd} {i:Nat} (h:i<L.length):idxB p i (L.drop i)=if p L[i] then (i:Int) else idxB p (i+1) (L.drop (i+1)):=by
 rw [List.drop_eq_getElem_cons h]
 rfl
def SaysB (x:Bd) (b:Bool):Prop:=∀ W:World,Calls Tryd.prog 44 #[.agg #[.int .i64 x.i,.int .i64 x.g,.int .i64 x.t,.int .i64 x.k]] W fun e w'=>e=.returned (.bool b)∧Below W.heap.size W w'
theorem boundIndex_any (p:Bd→Bool) (A:Option Addr) (cap:Nat) (L:List Bd) (w:World) (hn:L.length≤4000000) (hr:BdRow w w.heap.size A L) (hp:∀ x ∈ L,SaysB x (p x)) :
  Calls Tryd.prog 67 #[.slice A L.length cap,.func (Fn.func 44) #[] #[]] w fun e w'=>e=.returned (.int .i64 (idxB p 0 L))∧Below w.heap.size w w':=by
 obtain⟨n,hn'⟩:∃ n,n=L.length:=⟨_,rfl⟩
 obtain⟨R,hR⟩:∃ R,R=idxB p 0 L:=⟨_,rfl⟩
 rw [← hn'] at hn
 rw [← hR,← hn']
 have HN:=Lib.hid hn'
 have HR:Hid (R=idxB p 0 (L.drop 0)):=Lib.hid hR
 have HP:=Lib.hid hp
 clear hn' hR hp
 go_enter Tryd.func67,Tryd.ntmps67
 go_wp2
 go_loopw [8] (fun v8 wr=>∃ (i:Nat),v8=.int .i64 i∧i≤n∧Hid (R=idxB p i (L.drop i))∧Below w.heap.size w wr) (fun v8 _=>n - (RowKit.intOf v8).toNat)
 case atStart=>exact⟨0,rfl,Nat.zero_le _,HR,Below.refl _ _⟩
 case round=>
  obtain⟨i,rfl,hi,hS,hwr⟩:=hrel
  by_cases hin:i<n
  ·have hil:i<L.length:=by rw [← HN.out];exact hin
   obtain⟨b1,o1,rfl,hbl,hc1⟩:=hr (by omega)
   obtain⟨e0,e1,e2,e3⟩:=hc1 i hil
   have m:∀ j v,w.cell? ⟨b1,j,none⟩=some v→wr.cell? ⟨b1,j,none⟩=some v:=fun j v h=>(hwr.cell (p:=⟨b1,j,none⟩) hbl).trans h
   have a0:=m _ _ e0
   have a1:=m _ _ e1
   have a2:=m _ _ e2
   have a3:=m _ _ e3
   have HST:=Lib.hid (hS.out.trans (idxB_step hil))
   have HPX:=Lib.hid (HP.out L[i] (List.getElem_mem hil))
   clear hc1 hS HR e0 e1 e2 e3 m
   generalize L[i]=x at a0 a1 a2 a3 HST HPX
   obtain⟨x0,x1,x2,x3⟩:=x
   have HW:Hid (∀ W:World,Calls Tryd.prog 44 #[.agg #[.int .i64 x0,.int .i64 x1,.int .i64 x2,.int .i64 x3]] W fun e w'=>e=.returned (.bool (p ⟨x0,x1,x2,x3⟩))∧Below W.heap.size W w'):=Lib.hid HPX.out
   clear HPX
   simp only at a0 a1 a2 a3
   generalize p ⟨x0,x1,x2,x3⟩=b at HST HW
   cases b with
   |true=>
    have HB:Hid (R=(i:Int)):=Lib.hid (by rw [HST.out,if_pos rfl])
    have HWR:=Lib.hid hwr
    clear HST hwr
    go_wp2_with (go_at_call 44;refine (HW.out _).mono ?_;rintro e w1 ⟨rfl,hb1⟩)
    go_ret
    exact⟨by rw [HB.out];rfl,HWR.out.trans (hb1.mono HWR.out.size)⟩
   |false=>
    have HB:Hid (R=idxB p (i+1) (L.drop (i+1))):=Lib.hid (by rw [HST.out,if_neg (by decide)])
    have HWR:=Lib.hid hwr
    clear HST hwr
    go_wp2_with (go_at_call 44;refine (HW.out _).mono ?_;rintro e w1 ⟨rfl,hb1⟩)
    go_roundw
    case rel=>exact⟨i+1,by simp,hin,HB,HWR.out.trans (hb1.mono HWR.out.size)⟩
    case measure=>simp [RowKit.intOf];omega
  ·obtain rfl:i=n:=by omega
   have HB:Hid (R = -1):=Lib.hid (by rw [hS.out,HN.out,List.drop_eq_nil_of_le (Nat.le_refl _)];rfl)
   clear hS HR HP
   go_wp2
   go_ret
   exact⟨by rw [HB.out];rfl,hwr⟩
theorem boundContains_any (p:Bd→Bool) (A:Option Addr) (cap:Nat) (L:List Bd) (w:World) (hn:L.length≤4000000) (hr:BdRow w w.heap.size A L) (hp:∀ x ∈ L,SaysB x (p x)) :
  Calls Tryd.prog 48 #[.slice A L.length cap,.func (Fn.func 44) #[] #[]] w fun e w'=>e=.returned (.bool (L.any p))∧Below w.heap.size w w':=by
 have H1:=Lib.hid (boundIndex_any p A cap L w hn hr hp)
 have HA:=Lib.hid (idxB_any p L 0)
 generalize idxB p 0 L=j at H1 HA
 generalize L.any p=q at HA ⊢
 clear hr hp
 go_enter Tryd.func48,Tryd.ntmps48
 go_wp2_with (go_at_call 67;refine H1.out.mono ?_;rintro e w1 ⟨rfl,hb1⟩)
 go_ret
 exact⟨by rw [← HA.out];rfl,hb1⟩
end Go.Proofs.YtgnaaokhfpfglaaDoor
end
section
namespace Go.Proofs.YtgnaaokhfpfglaaDoor.PCertTold
open Go.RowKit Go.Lib
def Tabs (w:World):Prop:=Go.Proofs.YtgnaaokhfpfglaaDoor.Tabs w∧True
theorem Tabs.below {w w':World} (h:Tabs w) (hb:Below w.heap.size w w'):Tabs w':=⟨Go.Proofs.YtgnaaokhfpfglaaDoor.Tabs.below h.1 hb,h.2⟩
end Go.Proofs.YtgnaaokhfpfglaaDoor.PCertTold
end
section
namespace Go.Proofs.YtgnaaokhfpfglaaDoor
open Go.RowKit
theorem no_dst_out {ops:Array Oper} {lo n:Nat} (h:(ops.toList.all fun o=>match o.dst with|some d=>decide (lo≤d) && decide (d<lo+n)|none=>true)=true) (d:Nat) (hd:d<lo∨lo+n≤d):∀ (j:Nat) (oj:Oper),ops[j]? = some oj→oj.dst≠some d:=by
 intro j oj hj he
 have hm:oj ∈ ops.toList:=by
  obtain⟨hl,rfl⟩:=Array.getElem?_eq_some_iff.1 hj
  exact Array.getElem_mem_toList hl
 have h1:=List.all_eq_true.1 h oj hm
 have h2:(decide (lo≤d) && decide (d<lo+n))=true:=by rw [he] at h1;exact h1
 rw [Bool.and_eq_true,decide_eq_true_eq,decide_eq_true_eq] at h2
 omega
theorem fold_get (t a:Array Value) (lo:Nat) (i:Nat):∀ m:Nat,((List.range m).foldl (fun acc k=>acc.setIfInBounds (lo+k) (a.getD (lo+k) undef)) t)[i]? = if lo≤i∧i<lo+m∧i<t.size then some (a.getD i undef) else t[i]?:=by
 intro m
 have hsz:∀ m:Nat,((List.range m).foldl (fun acc k=>acc.setIfInBounds (lo+k) (a.getD (lo+k) undef)) t).size=t.size:=by
  intro m
  induction m with
  |zero=>rfl
  |succ m ih=>rw [List.range_succ,List.foldl_append];simpa using ih
 induction m with
 |zero=>rw [if_neg (by omega)];rfl
 |succ m ih=>
  rw [List.range_succ,List.foldl_append,List.foldl_cons,List.foldl_nil,Array.getElem?_setIfInBounds,hsz,ih]
  by_cases h1:lo+m=i
  ·subst h1
   by_cases h2:lo+m<t.size
   ·rw [if_pos rfl,if_pos h2,if_pos (by omega)]
   ·rw [if_pos rfl,if_neg h2,if_neg (by omega)]
    exact (Array.getElem?_eq_none (by omega)).symm
  ·rw [if_neg h1]
   by_cases h2:lo≤i∧i<lo+m∧i<t.size
   ·rw [if_pos h2,if_pos (by omega)]
   ·rw [if_neg h2,if_neg (by omega)]
theorem tmps_out {t a:Array Value} {lo n:Nat} (hs:a.size=t.size) (h:∀ d,d<lo∨lo+n≤d→a[d]? = t[d]?):a=(List.range n).foldl (fun acc k=>acc.setIfInBounds (lo+k) (a.getD (lo+k) undef)) t:=by
 apply Array.ext_getElem?
 intro i
 rw [fold_get]
 by_cases h2:lo≤i∧i<lo+n∧i<t.size
 ·rw [if_pos h2,gDe,Array.getElem?_eq_getElem (by omega)]
  rfl
 ·rw [if_neg h2]
  by_cases h3:i<t.size
  ·exact h i (by omega)
  ·rw [Array.getElem?_eq_none (by omega),Array.getElem?_eq_none (by omega)]
end Go.Proofs.YtgnaaokhfpfglaaDoor
end
section
namespace Go.Proofs.YtgnaaokhfpfglaaDoor
open Go.RowKit Go.Shelf Go.Lib Go.Proofs.YtgnaaokhfpfglaaDoorW.PrintWords
def CpI (tb ub b:Nat) (us:List Value) (bs:Value) (w:World) (T:List UInt8) (W:World):Prop:=
 (W.cell? ⟨tb,7,none⟩=some bs∧∀ i v,us[i]? = some v→W.cell? ⟨ub,i,none⟩=some v)∧Below w.heap.size w W∧w.heap.size≤b∧tb<b∧ub<b∧b≤W.heap.size∧Lib.IsBuilder 65 5 b b (Lib.byteCells T) W
theorem CpI.below {tb ub b:Nat} {us:List Value} {bs:Value} {w W W':World} {T:List UInt8} (h:CpI tb ub b us bs w T W) (hb:Below W.heap.size W W'):CpI tb ub b us bs w T W':=by
 obtain⟨⟨h0,h1⟩,h3,h4,h5,h6,h7,h8⟩:=h
 have m:∀ p v,W.cell? p=some v→W'.cell? p=some v:=fun p v h=>(hb.cell (bLt W _ h)).trans h
 exact⟨⟨m _ _ h0,fun i v hi=>m _ _ (h1 i v hi)⟩,h3.trans (hb.mono h3.size),h4,h5,h6,Nat.le_trans h7 hb.size,isBuilder_below h8 hb⟩
theorem CpI.wrote {tb ub b:Nat} {us:List Value} {bs:Value} {w W W':World} {T:List UInt8} {s:ByteArray} (h:CpI tb ub b us bs w T W) (h2:Lib.BuilderAt 65 5 b b (.pointer (some ⟨b,0,none⟩)) (Lib.byteCells T++Lib.strCells s) W') (hb:Below b W W'):CpI tb ub b us bs w (T++s.data.toList) W':=by
 obtain⟨⟨h0,h1⟩,h3,h4,h5,h6,h7,_⟩:=h
 refine⟨⟨(hb.cell (p:=⟨tb,_,none⟩) h5).trans h0,fun i v hi=>(hb.cell (p:=⟨ub,_,none⟩) h6).trans (h1 i v hi)⟩,h3.trans (hb.mono h4),h4,h5,h6,Nat.le_trans h7 hb.size,?_⟩
 rw [byteCells_append,← strCells_bytes]
 exact .inr h2
theorem put_any {tb ub b:Nat} {us:List Value} {bs:Value} {w W:World} {T:List UInt8} (s:ByteArray) (h:CpI tb ub b us bs w T W) (hl:T.length+s.size+1≤140737488355328) :
  Calls Tryd.prog 27 #[.string s,.pointer (some ⟨b,0,none⟩)] W fun e w'=>e=.returned (.tuple #[])∧CpI tb ub b us bs w (T++(s.data.toList++[10])) w':=by
 have HW:=Lib.hid (writeString_any b b (Lib.byteCells T) (s++⟨#[10]⟩) W h.2.2.2.2.2.2 (by rw [byteCells_len];simp [ByteArray.size_append];show T.length+(s.size+1)≤_;omega) h.2.2.2.2.2.1)
 have hw:∀ w',Lib.BuilderAt 65 5 b b (.pointer (some ⟨b,0,none⟩)) (Lib.byteCells T++Lib.strCells (s++⟨#[10]⟩)) w'→Below b W w'→CpI tb ub b us bs w (T++(s.data.toList++[10])) w':=fun w' h1 h2=>by
  have:=h.wrote h1 h2
  simpa [ByteArray.data_append] using this
 have HC:=Lib.hid hw
 have kk:(9223372036854775807<s.size+1)=False:=eq_false (by omega)
 clear hw h
 go_enter Tryd.func27,Tryd.ntmps27
 go_wp2_with (go_at_call 28;refine HW.out.mono ?_;rintro e w7 ⟨rfl,h1,h2⟩)
 exact bodyPost_end (results_none rfl _ _ _) rfl ⟨rfl,HC.out _ h1 h2⟩
def bdW (x:Bd):ByteArray:=(((((⟨#[]⟩:ByteArray)++(⟨#[32]⟩++digB x.i))++(⟨#[32]⟩++digB x.g))++(⟨#[32]⟩++digB x.t))++(⟨#[32]⟩++digB x.k))
def crHead (P M:ByteArray):List UInt8:=[99,101,114,116,105,102,105,99,97,116,101,32]++P.data.toList++[32]++M.data.toList++[10]
def crTheta (l:List Int):List UInt8:=if l.length=0 then [] else [116,104,101,116,97,32]++(joinP l).data.toList++[10]
def crQ (l:List Int):List UInt8:=if l.length=0 then [] else [113,32]++(joinP l).data.toList++[10]
def crBound (x:Bd):List UInt8:=[98,111,117,110,100]++(bdW x).data.toList++[10]
def certT (P M:ByteArray) (th q:List Int) (bs:List Bd) (S:ByteArray):ByteArray:=⟨(crHead P M++crTheta th++crQ q++bs.flatMap crBound).toArray⟩++S
theorem eight_cells {W:World} {r:Nat} {t:TypeId} {a0 a1 a2 a3 a4 a5 a6 a7:Value} (hb:W.heap[r]? = some (.cells #[a0,a1,a2,a3,a4,a5,a6,a7] t (0,0))):W.cell? ⟨r,0,none⟩=some a0∧W.cell? ⟨r,1,none⟩=some a1∧W.cell? ⟨r,2,none⟩=some a2∧W.cell? ⟨r,3,none⟩=some a3∧W.cell? ⟨r,4,none⟩=some a4∧W.cell? ⟨r,5,none⟩=some a5∧W.cell? ⟨r,6,none⟩=some a6∧W.cell? ⟨r,7,none⟩=some a7:=by
 refine⟨?_,?_,?_,?_,?_,?_,?_,?_⟩<;>simp [World.cell?,hb]
theorem certPrint_yes (sets rel pol mode:Int) (A2:Option Addr) (n2 c2:Nat) (A5:Option Addr) (c5:Nat) (th:List Int) (A6:Option Addr) (c6:Nat) (q:List Int) (A7:Option Addr) (c7:Nat) (bs:List Bd) (w:World) (P M S:ByteArray)
  (hP:P.size≤100) (hM:M.size≤100) (hS:S.size≤10000000) (h5:th.length≤64∧∀ x ∈ th,-9223372036854775808≤x∧x≤9223372036854775807) (h6:q.length≤64∧∀ x ∈ q,-9223372036854775808≤x∧x≤9223372036854775807) (h7:bs.length≤64∧∀ x ∈ bs,(bdW x).size≤100)
  (HMay:∀ W,Below w.heap.size w W→Calls Tryd.prog 26 #[.agg #[.int .i64 sets,.int .i64 rel,.slice A2 n2 c2,.int .i64 pol,.int .i64 mode,.slice A5 th.length c5,.slice A6 q.length c6,.slice A7 bs.length c7]] W fun e w'=>e=.returned (.bool true)∧Below W.heap.size W w')
  (HPo:∀ W,Calls Tryd.prog 11 #[.int .i64 pol] W fun e w'=>e=.returned (.string P)∧Below W.heap.size W w')
  (HMo:∀ W,Calls Tryd.prog 13 #[.int .i64 mode] W fun e w'=>e=.returned (.string M)∧Below W.heap.size W w')
  (HLo:∀ W,Below w.heap.size w W→Calls Tryd.prog 30 #[.slice A5 th.length c5] W fun e w'=>(∃ A c,e=.returned (.slice A th.length c)∧NRow w' w'.heap.size A th)∧Below W.heap.size W w')
  (HWd:∀ x ∈ bs,∀ (r:Nat) (W:World),W.heap[r]? = some (.cells #[.int .i64 x.i,.int .i64 x.g,.int .i64 x.t,.int .i64 x.k] 2 (0,0))→Below w.heap.size w W→Calls Tryd.prog 31 #[.slice (some ⟨r,0,none⟩) 4 4] W fun e w'=>e=.returned (.string (bdW x))∧Below W.heap.size W w')
  (HPr:∀ W,Below w.heap.size w W→Calls Tryd.prog 33 #[.agg #[.int .i64 sets,.int .i64 rel,.slice A2 n2 c2]] W fun e w'=>e=.returned (.string S)∧Below W.heap.size W w')
  (hr6:NRow w w.heap.size A6 q) (hr7:BdRow w w.heap.size A7 bs)
  (htab:Lib.TabIs Tryd.prog w "internal/strconv.uint64pow10" .u64 Lib.pow10Tab) (hg:0<w.heap.size) :
  Calls Tryd.prog 15 #[.agg #[.int .i64 sets,.int .i64 rel,.slice A2 n2 c2,.int .i64 pol,.int .i64 mode,.slice A5 th.length c5,.slice A6 q.length c6,.slice A7 bs.length c7]] w fun e w'=>e=.returned (.string (certT P M th q bs S))∧Below w.heap.size w w':=by
 have hmf:∀ (fn:Fn) (first cap:Array Value) (w:World),(Instr.makeFunc fn first cap).run Tryd.prog w=.ok (.func fn first cap) w:=fun _ _ _ _=>rfl
 obtain⟨n5,hn5⟩:∃ z,th.length=z:=⟨_,rfl⟩
 obtain⟨n6,hn6⟩:∃ z,q.length=z:=⟨_,rfl⟩
 obtain⟨n7,hn7⟩:∃ z,bs.length=z:=⟨_,rfl⟩
 rw [hn5,hn6,hn7] at HMay ⊢
 rw [hn5] at HLo
 have HMay:=Lib.hid HMay
 have HPo:=Lib.hid HPo
 have HMo:=Lib.hid HMo
 have HLo:=Lib.hid HLo
 have HWd:=Lib.hid HWd
 have HPr:=Lib.hid HPr
 have H5:=Lib.hid h5
 have H6:=Lib.hid h6
 have H7:=Lib.hid h7
 have R6:=Lib.hid hr6
 have R7:=Lib.hid hr7
 have HTB:=Lib.hid (And.intro htab hg)
 have N5:=Lib.hid hn5
 have N6:=Lib.hid hn6
 have N7:=Lib.hid hn7
 have HSZ:=Lib.hid (And.intro hP (And.intro hM hS))
 have HT:Hid (∃ Z,Z=certT P M th q bs S):=Lib.hid ⟨_,rfl⟩
 obtain⟨Z,hZ⟩:=HT.out
 rw [← hZ]
 have HZ:=Lib.hid hZ
 have hb0:=(Below.refl w.heap.size w).alloc (Nat.le_refl _) (.cells #[.int .i64 sets,.int .i64 rel,.slice A2 n2 c2,.int .i64 pol,.int .i64 mode,.slice A5 n5 c5,.slice A6 n6 c6,.slice A7 n7 c7] 39)
 have hn0:=heap_alloc_new w (.cells #[.int .i64 sets,.int .i64 rel,.slice A2 n2 c2,.int .i64 pol,.int .i64 mode,.slice A5 n5 c5,.slice A6 n6 c6,.slice A7 n7 c7] 39)
 clear h5 h6 h7 hr6 hr7 htab hg hn5 hn6 hn7 hP hM hS HT hZ
 go_enter Tryd.func15,Tryd.ntmps15
 go_upto_region 1 with (fail)
 generalize w.alloc (.cells #[.int .i64 sets,.int .i64 rel,.slice A2 n2 c2,.int .i64 pol,.int .i64 mode,.slice A5 n5 c5,.slice A6 n6 c6,.slice A7 n7 c7] 39)=w0 at hb0 hn0 ⊢
 obtain⟨tb,htb⟩:∃ z,w.heap.size=z:=⟨_,rfl⟩
 rw [htb] at hn0 ⊢
 obtain⟨t0,t1,t2,t3,t4,t5,t6,t7⟩:=eight_cells hn0
 have HW:Hid (w.heap.size=tb):=Lib.hid htb
 have HB0:Hid (Below w.heap.size w w0):=Lib.hid hb0
 have HM0:=Lib.hid (HMay.out w0 HB0.out)
 clear hb0 hn0 htb HMay
 go_upto_region 3 with (go_at_call 26;refine HM0.out.mono ?_;rintro e w1 ⟨rfl,hb1⟩)
 have hl0:=cell_lt t0
 have m:∀ j v,w0.cell? ⟨tb,j,none⟩=some v→w1.cell? ⟨tb,j,none⟩=some v:=fun j v h=>(hb1.cell (p:=⟨tb,j,none⟩) hl0).trans h
 have s0:=m _ _ t0
 have s1:=m _ _ t1
 have s2:=m _ _ t2
 have s3:=m _ _ t3
 have s4:=m _ _ t4
 have s5:=m _ _ t5
 have s6:=m _ _ t6
 have s7:=m _ _ t7
 have HB1:=Lib.hid (HB0.out.trans (hb1.mono HB0.out.size))
 have HT1:Hid (tb<w1.heap.size):=Lib.hid (Nat.lt_of_lt_of_le hl0 hb1.size)
 clear m t0 t1 t2 t3 t4 t5 t6 t7 hb1 HM0 HB0 hl0
 go_upto_region 4 with (fail)
 have hb2:=(Below.refl w1.heap.size w1).alloc (Nat.le_refl _) (.cells #[.int .i64 sets,.int .i64 rel,.slice A2 n2 c2,.int .i64 pol,.int .i64 mode,.slice A5 n5 c5,.slice A6 n6 c6] 36)
 have hn2:=heap_alloc_new w1 (.cells #[.int .i64 sets,.int .i64 rel,.slice A2 n2 c2,.int .i64 pol,.int .i64 mode,.slice A5 n5 c5,.slice A6 n6 c6] 36)
 generalize w1.alloc (.cells #[.int .i64 sets,.int .i64 rel,.slice A2 n2 c2,.int .i64 pol,.int .i64 mode,.slice A5 n5 c5,.slice A6 n6 c6] 36)=w2 at hb2 hn2 ⊢
 obtain⟨ub,hub⟩:∃ z,w1.heap.size=z:=⟨_,rfl⟩
 rw [hub] at hn2 ⊢
 have r7:=(hb2.cell (p:=⟨tb,7,none⟩) HT1.out).trans s7
 obtain⟨r0,r1,r2,r3,r4,r5,r6⟩:=qba hn2
 have HB2:=Lib.hid (HB1.out.trans (hb2.mono HB1.out.size))
 have HT2:Hid (tb<ub):=Lib.hid (by rw [← hub];exact HT1.out)
 have HU2:Hid (ub<w2.heap.size):=Lib.hid (lt_of_block hn2)
 have HR2:Hid ((w2.cell? ⟨tb,7,none⟩=some (.slice A7 n7 c7)∧∀ i v,[.int .i64 sets,.int .i64 rel,.slice A2 n2 c2,.int .i64 pol,.int .i64 mode,.slice A5 n5 c5,.slice A6 n6 c6][i]? = some v→w2.cell? ⟨ub,i,none⟩=some v)):=Lib.hid ⟨r7,fun i v hi=>by
  have:i<7:=(List.getElem?_eq_some_iff.1 hi).1
  have h:i=0∨i=1∨i=2∨i=3∨i=4∨i=5∨i=6:=by omega
  rcases h with rfl|rfl|rfl|rfl|rfl|rfl|rfl<;>(cases hi;assumption)⟩
 clear s0 s1 s2 s3 s4 s5 s6 s7 r0 r1 r2 r3 r4 r5 r6 r7 hb2 hn2 hub HB1 HT1
 go_upto_region 5 with (fail)
 have hib:=fresh_isBuilder 65 5 w2
 have hb3:=(Below.refl w2.heap.size w2).alloc (Nat.le_refl _) (.cells #[.pointer none,.slice none 0 0] 65)
 generalize w2.alloc (.cells #[.pointer none,.slice none 0 0] 65)=w3 at hib hb3 ⊢
 obtain⟨b,hb⟩:∃ b,w2.heap.size=b:=⟨_,rfl⟩
 have HP3:CpI tb ub b [.int .i64 sets,.int .i64 rel,.slice A2 n2 c2,.int .i64 pol,.int .i64 mode,.slice A5 n5 c5,.slice A6 n6 c6] (.slice A7 n7 c7) w [] w3:=by
  refine⟨⟨(hb3.cell (p:=⟨tb,7,none⟩) (bLt _ _ HR2.out.1)).trans HR2.out.1,fun i v hi=>(hb3.cell (p:=⟨ub,i,none⟩) (bLt _ _ (HR2.out.2 i v hi))).trans (HR2.out.2 i v hi)⟩,HB2.out.trans (hb3.mono HB2.out.size),?_,?_,?_,?_,?_⟩
  ·rw [← hb];exact HB2.out.size
  ·rw [← hb];have:=HT2.out;have:=HU2.out;omega
  ·rw [← hb];exact HU2.out
  ·rw [← hb];exact hb3.size
  ·rw [hb] at hib;exact hib
 have HP3:=Lib.hid HP3
 rw [hb]
 clear hb hib hb3 HR2 HB2 HT2 HU2
 go_upto_region 6 with (fail)
 have C0:Hid (∀ (W:World) (T:List UInt8),CpI tb ub b [.int .i64 sets,.int .i64 rel,.slice A2 n2 c2,.int .i64 pol,.int .i64 mode,.slice A5 n5 c5,.slice A6 n6 c6] (.slice A7 n7 c7) w T W→Calls Tryd.prog 11 #[.int .i64 pol] W fun e w'=>e=.returned (.string P)∧CpI tb ub b [.int .i64 sets,.int .i64 rel,.slice A2 n2 c2,.int .i64 pol,.int .i64 mode,.slice A5 n5 c5,.slice A6 n6 c6] (.slice A7 n7 c7) w T w'):=Lib.hid (fun W T h=>(HPo.out W).mono (fun e w' h2=>⟨h2.1,h.below h2.2⟩))
 have C1:Hid (∀ (W:World) (T:List UInt8),CpI tb ub b [.int .i64 sets,.int .i64 rel,.slice A2 n2 c2,.int .i64 pol,.int .i64 mode,.slice A5 n5 c5,.slice A6 n6 c6] (.slice A7 n7 c7) w T W→Calls Tryd.prog 13 #[.int .i64 mode] W fun e w'=>e=.returned (.string M)∧CpI tb ub b [.int .i64 sets,.int .i64 rel,.slice A2 n2 c2,.int .i64 pol,.int .i64 mode,.slice A5 n5 c5,.slice A6 n6 c6] (.slice A7 n7 c7) w T w'):=Lib.hid (fun W T h=>(HMo.out W).mono (fun e w' h2=>⟨h2.1,h.below h2.2⟩))
 clear HPo HMo
 have z1:(⟨#[99,101,114,116,105,102,105,99,97,116,101,32]⟩:ByteArray).size=12:=rfl
 have z2:(⟨#[32]⟩:ByteArray).size=1:=rfl
 have zP:=HSZ.out.1
 have zM:=HSZ.out.2.1
 have hcr:(((⟨#[99,101,114,116,105,102,105,99,97,116,101,32]⟩:ByteArray)++P++⟨#[32]⟩)++M).data.toList++[10]=crHead P M:=by simp [crHead]
 have HCR:=Lib.hid hcr
 clear hcr
 go_cut [1,2,3,4,5] from 72 (fun v1 v2 v3 v4 v5 wx=>v1=.pointer (some ⟨tb,0,none⟩)∧v2=.string ⟨#[]⟩∧v3=.pointer (some ⟨ub,0,none⟩)∧v4=.pointer (some ⟨b,0,none⟩)∧v5=.func (Fn.func 27) #[] #[.pointer (some ⟨b,0,none⟩)]∧CpI tb ub b [.int .i64 sets,.int .i64 rel,.slice A2 n2 c2,.int .i64 pol,.int .i64 mode,.slice A5 n5 c5,.slice A6 n6 c6] (.slice A7 n7 c7) w (crHead P M) wx)
 case first=>
  refine wp_region_facts_k 10 (by kernel_rfl) (by kernel_rfl) (fun i v W=>match i with
    |0=>v=.func (Fn.func 27) #[] #[.pointer (some ⟨b,0,none⟩)]
    |1=>v=.pointer (some ⟨ub,3,none⟩)
    |2=>v=.int .i64 pol
    |3=>v=.string P
    |4=>v=.string ((⟨#[99,101,114,116,105,102,105,99,97,116,101,32]⟩:ByteArray)++P)
    |5=>v=.string (((⟨#[99,101,114,116,105,102,105,99,97,116,101,32]⟩:ByteArray)++P)++⟨#[32]⟩)
    |6=>v=.pointer (some ⟨ub,4,none⟩)
    |7=>v=.int .i64 mode
    |8=>v=.string M
    |9=>v=.string ((((⟨#[99,101,114,116,105,102,105,99,97,116,101,32]⟩:ByteArray)++P)++⟨#[32]⟩)++M)
    |10=>True
    |_=>True) (fun _ _=>True) (fun _ _ _ _ h _=>h) (fun bk W=>CpI tb ub b [.int .i64 sets,.int .i64 rel,.slice A2 n2 c2,.int .i64 pol,.int .i64 mode,.slice A5 n5 c5,.slice A6 n6 c6] (.slice A7 n7 c7) w (if bk=true then crHead P M else []) W) (HP3.out.below (Below.refl _ _).drew) (of_decide_eq_true (by rfl)) ?_ ?_
  ·intro i o a W bk ho hsz hfr hdep hG hbk
   have hi:i<11:=(Array.getElem?_eq_some_iff.1 ho).1
   have hin:i=0∨i=1∨i=2∨i=3∨i=4∨i=5∨i=6∨i=7∨i=8∨i=9∨i=10:=by omega
   rcases hin with rfl|rfl|rfl|rfl|rfl|rfl|rfl|rfl|rfl|rfl|rfl
   ·cases ho
    have g:a.tmps.getD 5 undef=.func (Fn.func 27) #[] #[.pointer (some ⟨b,0,none⟩)]:=by rw [gDe,hfr 5 (qau (by kernel_rfl))];rfl
    clear hfr hdep hsz
    generalize hK:(fun (a':Act) (w':World)=>_)=K
    go_simp
    rw [← hK]
    exact⟨_,rfl,rfl,trivial,by simpa using hG⟩
   ·cases ho
    have g:a.tmps.getD 3 undef=.pointer (some ⟨ub,0,none⟩):=by rw [gDe,hfr 3 (qau (by kernel_rfl))];rfl
    clear hfr hdep hsz
    generalize hK:(fun (a':Act) (w':World)=>_)=K
    go_simp
    rw [← hK]
    exact⟨_,rfl,rfl,trivial,by simpa using hG⟩
   ·cases ho
    obtain⟨_,q1,e1⟩:=hdep ⟨1,.data⟩ (by simp) rfl _ _ rfl rfl
    have g1:a.tmps.getD 15 undef=.pointer (some ⟨ub,3,none⟩):=by rw [gDe,q1,e1];rfl
    rw [e1] at q1
    clear e1
    have hc:W.cell? ⟨ub,3,none⟩=some (.int .i64 pol):=hG.1.2 3 _ rfl
    clear hfr hdep hsz
    generalize hK:(fun (a':Act) (w':World)=>_)=K
    go_simp
    rw [← hK]
    exact⟨_,rfl,rfl,trivial,by simpa using hG⟩
   ·cases ho
    obtain⟨_,q2,e2⟩:=hdep ⟨2,.data⟩ (by simp) rfl _ _ rfl rfl
    have g2:a.tmps.getD 16 undef=.int .i64 pol:=by rw [gDe,q2,e2];rfl
    rw [e2] at q2
    clear e2
    clear hfr hdep hsz
    generalize hK:(fun (a':Act) (w':World)=>_)=K
    go_simp
    refine (C0.out W _ hG).mono ?_
    rintro e W2 ⟨rfl,hG2⟩
    show K _ _
    rw [← hK]
    exact⟨_,rfl,rfl,trivial,by simpa using hG2⟩
   ·cases ho
    obtain⟨_,q3,e3⟩:=hdep ⟨3,.data⟩ (by simp) rfl _ _ rfl rfl
    have g3:a.tmps.getD 17 undef=.string P:=by rw [gDe,q3,e3];rfl
    rw [e3] at q3
    clear e3
    clear hfr hdep hsz
    generalize hK:(fun (a':Act) (w':World)=>_)=K
    go_simp
    rw [if_neg (by omega)]
    go_simp
    rw [← hK]
    exact⟨_,rfl,rfl,trivial,by simpa using hG⟩
   ·cases ho
    obtain⟨_,q4,e4⟩:=hdep ⟨4,.data⟩ (by simp) rfl _ _ rfl rfl
    have g4:a.tmps.getD 18 undef=.string ((⟨#[99,101,114,116,105,102,105,99,97,116,101,32]⟩:ByteArray)++P):=by rw [gDe,q4,e4];rfl
    rw [e4] at q4
    clear e4
    clear hfr hdep hsz
    generalize hK:(fun (a':Act) (w':World)=>_)=K
    go_simp
    rw [if_neg (by omega)]
    go_simp
    rw [← hK]
    exact⟨_,rfl,rfl,trivial,by simpa using hG⟩
   ·cases ho
    have g:a.tmps.getD 3 undef=.pointer (some ⟨ub,0,none⟩):=by rw [gDe,hfr 3 (qau (by kernel_rfl))];rfl
    clear hfr hdep hsz
    generalize hK:(fun (a':Act) (w':World)=>_)=K
    go_simp
    rw [← hK]
    exact⟨_,rfl,rfl,trivial,by simpa using hG⟩
   ·cases ho
    obtain⟨_,q6,e6⟩:=hdep ⟨6,.data⟩ (by simp) rfl _ _ rfl rfl
    have g6:a.tmps.getD 20 undef=.pointer (some ⟨ub,4,none⟩):=by rw [gDe,q6,e6];rfl
    rw [e6] at q6
    clear e6
    have hc:W.cell? ⟨ub,4,none⟩=some (.int .i64 mode):=hG.1.2 4 _ rfl
    clear hfr hdep hsz
    generalize hK:(fun (a':Act) (w':World)=>_)=K
    go_simp
    rw [← hK]
    exact⟨_,rfl,rfl,trivial,by simpa using hG⟩
   ·cases ho
    obtain⟨_,q7,e7⟩:=hdep ⟨7,.data⟩ (by simp) rfl _ _ rfl rfl
    have g7:a.tmps.getD 21 undef=.int .i64 mode:=by rw [gDe,q7,e7];rfl
    rw [e7] at q7
    clear e7
    clear hfr hdep hsz
    generalize hK:(fun (a':Act) (w':World)=>_)=K
    go_simp
    refine (C1.out W _ hG).mono ?_
    rintro e W2 ⟨rfl,hG2⟩
    show K _ _
    rw [← hK]
    exact⟨_,rfl,rfl,trivial,by simpa using hG2⟩
   ·cases ho
    obtain⟨_,q5,e5⟩:=hdep ⟨5,.data⟩ (by simp) rfl _ _ rfl rfl
    have g5:a.tmps.getD 19 undef=.string (((⟨#[99,101,114,116,105,102,105,99,97,116,101,32]⟩:ByteArray)++P)++⟨#[32]⟩):=by rw [gDe,q5,e5];rfl
    rw [e5] at q5
    clear e5
    obtain⟨_,q8,e8⟩:=hdep ⟨8,.data⟩ (by simp) rfl _ _ rfl rfl
    have g8:a.tmps.getD 22 undef=.string M:=by rw [gDe,q8,e8];rfl
    rw [e8] at q8
    clear e8
    clear hfr hdep hsz
    generalize hK:(fun (a':Act) (w':World)=>_)=K
    go_simp
    rw [if_neg (by omega)]
    go_simp
    rw [← hK]
    exact⟨_,rfl,rfl,trivial,by simpa using hG⟩
   ·cases ho
    obtain⟨_,q0,e0⟩:=hdep ⟨0,.data⟩ (by simp) rfl _ _ rfl rfl
    have g0:a.tmps.getD 14 undef=.func (Fn.func 27) #[] #[.pointer (some ⟨b,0,none⟩)]:=by rw [gDe,q0,e0];rfl
    rw [e0] at q0
    clear e0
    obtain⟨_,q9,e9⟩:=hdep ⟨9,.data⟩ (by simp) rfl _ _ rfl rfl
    have g9:a.tmps.getD 23 undef=.string ((((⟨#[99,101,114,116,105,102,105,99,97,116,101,32]⟩:ByteArray)++P)++⟨#[32]⟩)++M):=by rw [gDe,q9,e9];rfl
    rw [e9] at q9
    clear e9
    rw [hbk rfl] at hG ⊢
    simp only [Bool.false_eq_true,if_false] at hG
    have HWS:=Lib.hid (put_any ((((⟨#[99,101,114,116,105,102,105,99,97,116,101,32]⟩:ByteArray)++P)++⟨#[32]⟩)++M) hG (by simp only [ByteArray.size_append,List.length_nil];omega))
    rw [List.nil_append,HCR.out] at HWS
    clear hfr hdep hsz
    generalize hK:(fun (a':Act) (w':World)=>_)=K
    go_simp
    refine HWS.out.mono ?_
    rintro e W2 ⟨rfl,hG2⟩
    show K _ _
    rw [← hK]
    exact⟨_,rfl,trivial,trivial,by simpa using hG2⟩
  ·intro a W hd hsz hfr hall hG
   have ha:a = { tmps:=a.tmps,defers:=[] }:=by cases a;simp at hd;subst hd;rfl
   rw [ha,tmps_out (lo:=14) (n:=11) hsz (fun d hd=>hfr d (no_dst_out (lo:=14) (n:=11) (by kernel_rfl) d hd))]
   clear ha hd hsz hfr hall
   generalize a.tmps.getD (14+0) undef=y0
   generalize a.tmps.getD (14+1) undef=y1
   generalize a.tmps.getD (14+2) undef=y2
   generalize a.tmps.getD (14+3) undef=y3
   generalize a.tmps.getD (14+4) undef=y4
   generalize a.tmps.getD (14+5) undef=y5
   generalize a.tmps.getD (14+6) undef=y6
   generalize a.tmps.getD (14+7) undef=y7
   generalize a.tmps.getD (14+8) undef=y8
   generalize a.tmps.getD (14+9) undef=y9
   generalize a.tmps.getD (14+10) undef=y10
   go_wp2
   go_meet
   exact⟨rfl,rfl,rfl,rfl,rfl,hG⟩
 case rest=>
  obtain⟨rfl,rfl,rfl,rfl,rfl,hP4⟩:=hcut
  clear C0 C1 HP3 z1 z2 zP zM HCR
  have HP4:=Lib.hid hP4
  clear hP4
  have HWB:Hid (∀ T W,CpI tb ub b [.int .i64 sets,.int .i64 rel,.slice A2 n2 c2,.int .i64 pol,.int .i64 mode,.slice A5 n5 c5,.slice A6 n6 c6] (.slice A7 n7 c7) w T W→Below w.heap.size w W):=Lib.hid (fun T W h=>h.2.1)
  obtain⟨J5,hJ5⟩:∃ z,z=joinP th:=⟨_,rfl⟩
  obtain⟨J6,hJ6⟩:∃ z,z=joinP q:=⟨_,rfl⟩
  have zJ5:J5.size≤2000:=by
   have:=joinP_size (l:=th) (fun x hx=>H5.out.2 x hx)
   have:=H5.out.1
   rw [hJ5];omega
  have zJ6:J6.size≤2000:=by
   have:=joinP_size (l:=q) (fun x hx=>H6.out.2 x hx)
   have:=H6.out.1
   rw [hJ6];omega
  have HJ5:Hid (∀ (A:Option Addr) (c:Nat) (W:World),Below w.heap.size w W→NRow W W.heap.size A th→Calls Tryd.prog 29 #[.slice A n5 c] W fun e w'=>e=.returned (.string J5)∧Below W.heap.size W w'):=Lib.hid (fun A c W hW hr=>by
   have:=join_any A c th W H5.out.2 (by have:=H5.out.1;omega) hr (qaR HTB.out.1 hW HTB.out.2) (by have:=hW.size;have:=HTB.out.2;omega)
   rw [N5.out] at this
   rw [hJ5]
   exact this)
  have HJ6:Hid (∀ (W:World),Below w.heap.size w W→Calls Tryd.prog 29 #[.slice A6 n6 c6] W fun e w'=>e=.returned (.string J6)∧Below W.heap.size W w'):=Lib.hid (fun W hW=>by
   have:=join_any A6 c6 q W H6.out.2 (by have:=H6.out.1;omega) ((R6.out.below hW (Nat.le_refl _)).more hW.size) (qaR HTB.out.1 hW HTB.out.2) (by have:=hW.size;have:=HTB.out.2;omega)
   rw [N6.out] at this
   rw [hJ6]
   exact this)
  have hth:crTheta th=if n5=0 then [] else [116,104,101,116,97,32]++J5.data.toList++[10]:=by rw [hJ5,← N5.out];rfl
  have hqq:crQ q=if n6=0 then [] else [113,32]++J6.data.toList++[10]:=by rw [hJ6,← N6.out];rfl
  have hhd:(crHead P M).length≤300:=by
   have h1:=HSZ.out.1
   have h2:=HSZ.out.2.1
   have e1:=Lib.size_eq P
   have e2:=Lib.size_eq M
   simp [crHead];omega
  have n5b:n5≤64:=by rw [← N5.out];exact H5.out.1
  have n6b:n6≤64:=by rw [← N6.out];exact H6.out.1
  have n7b:n7≤64:=by rw [← N7.out];exact H7.out.1
  have hzz:certT P M th q bs S=⟨(crHead P M++crTheta th++crQ q++bs.flatMap crBound).toArray⟩++S:=rfl
  have HZZ:=Lib.hid (HZ.out.trans hzz)
  generalize crHead P M=H0 at hhd HP4 HZZ
  generalize crTheta th=H1 at hth HZZ
  generalize crQ q=H2 at hqq HZZ
  have zH1:H1.length≤2100:=by
   have e1:=Lib.size_eq J5
   rw [hth];split
   ·exact Nat.zero_le _
   ·simp;omega
  have zH2:H2.length≤2100:=by
   have e1:=Lib.size_eq J6
   rw [hqq];split
   ·exact Nat.zero_le _
   ·simp;omega
  have HH1:=Lib.hid hth
  have HH2:=Lib.hid hqq
  clear hzz hth hqq hJ5 hJ6 H5 H6 R6 HTB HZ hmf
  have u5:=HP4.out.1.2 5 _ rfl
  go_upto_if 28 with (fail)
  generalize hd5:decide (0<n5)=d5
  have HD5:=Lib.hid hd5
  clear hd5
  go_cut [1,2,3,4,5] from 72 (fun v1 v2 v3 v4 v5 wx=>v1=.pointer (some ⟨tb,0,none⟩)∧v2=.string ⟨#[]⟩∧v3=.pointer (some ⟨ub,0,none⟩)∧v4=.pointer (some ⟨b,0,none⟩)∧v5=.func (Fn.func 27) #[] #[.pointer (some ⟨b,0,none⟩)]∧CpI tb ub b [.int .i64 sets,.int .i64 rel,.slice A2 n2 c2,.int .i64 pol,.int .i64 mode,.slice A5 n5 c5,.slice A6 n6 c6] (.slice A7 n7 c7) w (H0++H1) wx)
  case first=>
   cases d5 with
   |false=>
    have hx:Hid (H1=[]):=Lib.hid (by rw [HH1.out,if_pos (by have:=of_decide_eq_false HD5.out;omega)])
    go_wp2
    go_meet
    exact⟨rfl,rfl,rfl,rfl,rfl,by rw [hx.out,List.append_nil];exact HP4.out⟩
   |true=>
    have hx:Hid (H1=[116,104,101,116,97,32]++J5.data.toList++[10]):=Lib.hid (by rw [HH1.out,if_neg (by have:=of_decide_eq_true HD5.out;omega)])
    have kk:(9223372036854775807<6+J5.size)=False:=eq_false (by omega)
    have zz:Hid (J5.size≤2000∧H0.length≤300):=Lib.hid ⟨zJ5,hhd⟩
    clear zJ5 zJ6 hhd zH1 zH2 n5b n6b n7b HH1 HH2
    go_wp2_with (first|(go_at_call 30;refine (HLo.out _ (HWB.out _ _ HP4.out)).mono ?_;rintro e w5 ⟨⟨A9,c9,rfl,hR9⟩,hb5⟩;have HP5:=Lib.hid (HP4.out.below hb5);have HJ:=Lib.hid (HJ5.out A9 c9 w5 (HWB.out _ _ HP5.out) hR9))|(go_at_call 29;refine HJ.out.mono ?_;rintro e w6 ⟨rfl,hb6⟩;have HP6:=Lib.hid (HP5.out.below hb6);have HWS:=Lib.hid (put_any ((⟨#[116,104,101,116,97,32]⟩:ByteArray)++J5) HP6.out (by have:=zz.out;rw [ByteArray.size_append];show _+(6+_)+1≤_;omega)))|(go_at_call 27;refine HWS.out.mono ?_;rintro e w7 ⟨rfl,hP7⟩))
    go_meet
    exact⟨rfl,rfl,rfl,rfl,rfl,by rw [hx.out];simpa [ByteArray.data_append,List.append_assoc] using hP7⟩
  case rest=>
  obtain⟨rfl,rfl,rfl,rfl,rfl,hP5⟩:=hcut
  clear HP4 u5 HJ5 HLo HH1 zJ5
  have HP5:=Lib.hid hP5
  clear hP5
  have u6:=HP5.out.1.2 6 _ rfl
  go_upto_if 39 with (fail)
  generalize hd6:decide (0<n6)=d6
  have HD6:=Lib.hid hd6
  clear hd6
  go_cut [1,2,3,4,5] from 72 (fun v1 v2 v3 v4 v5 wx=>v1=.pointer (some ⟨tb,0,none⟩)∧v2=.string ⟨#[]⟩∧v3=.pointer (some ⟨ub,0,none⟩)∧v4=.pointer (some ⟨b,0,none⟩)∧v5=.func (Fn.func 27) #[] #[.pointer (some ⟨b,0,none⟩)]∧CpI tb ub b [.int .i64 sets,.int .i64 rel,.slice A2 n2 c2,.int .i64 pol,.int .i64 mode,.slice A5 n5 c5,.slice A6 n6 c6] (.slice A7 n7 c7) w (H0++H1++H2) wx)
  case first=>
   cases d6 with
   |false=>
    have hx:Hid (H2=[]):=Lib.hid (by rw [HH2.out,if_pos (by have:=of_decide_eq_false HD6.out;omega)])
    go_wp2
    go_meet
    exact⟨rfl,rfl,rfl,rfl,rfl,by rw [hx.out,List.append_nil];exact HP5.out⟩
   |true=>
    have hx:Hid (H2=[113,32]++J6.data.toList++[10]):=Lib.hid (by rw [HH2.out,if_neg (by have:=of_decide_eq_true HD6.out;omega)])
    have kk:(9223372036854775807<2+J6.size)=False:=eq_false (by omega)
    have zz:Hid (J6.size≤2000∧H0.length≤300∧H1.length≤2100):=Lib.hid ⟨zJ6,hhd,zH1⟩
    clear zJ6 hhd zH1 zH2 n5b n6b n7b HH2
    go_wp2_with (first|(go_at_call 29;refine (HJ6.out _ (HWB.out _ _ HP5.out)).mono ?_;rintro e w6 ⟨rfl,hb6⟩;have HP6:=Lib.hid (HP5.out.below hb6);have HWS:=Lib.hid (put_any ((⟨#[113,32]⟩:ByteArray)++J6) HP6.out (by have:=zz.out;rw [ByteArray.size_append,List.length_append];show _+(2+_)+1≤_;omega)))|(go_at_call 27;refine HWS.out.mono ?_;rintro e w7 ⟨rfl,hP7⟩))
    go_meet
    exact⟨rfl,rfl,rfl,rfl,rfl,by rw [hx.out];simpa [ByteArray.data_append,List.append_assoc] using hP7⟩
  case rest=>
  obtain⟨rfl,rfl,rfl,rfl,rfl,hP6⟩:=hcut
  clear HP5 u6 HJ6 HH2 zJ6
  obtain⟨H3,hH3⟩:∃ z,z=H0++H1++H2:=⟨_,rfl⟩
  rw [← hH3] at hP6 HZZ
  have zH3:Hid (H3.length≤5000):=Lib.hid (by rw [hH3,List.length_append,List.length_append];omega)
  clear hH3 zH1 zH2 hhd n5b n6b
  have HP6:=Lib.hid hP6
  clear hP6
  have u7:=HP6.out.1.1
  have HSG:Hid (∀ i,i≤64→(H3++(bs.take i).flatMap crBound).length≤12000):=Lib.hid (fun i hi=>by
   have h1:∀ (l:List Bd),(∀ x ∈ l,(bdW x).size≤100)→(l.flatMap crBound).length≤106 * l.length:=by
    intro l
    induction l with
    |nil=>intro _;exact Nat.zero_le _
    |cons x r ih=>
     intro h
     have h2:=ih (fun y hy=>h y (List.mem_cons_of_mem _ hy))
     have h3:=h x List.mem_cons_self
     have h4:=Lib.size_eq (bdW x)
     simp only [List.flatMap_cons,List.length_append,List.length_cons,crBound,List.length_nil] at h2 ⊢
     omega
   have h2:=h1 (bs.take i) (fun x hx=>H7.out.2 x (List.mem_of_mem_take hx))
   have h3:(bs.take i).length≤64:=by rw [List.length_take];omega
   have h4:=zH3.out
   rw [List.length_append]
   omega)
  go_wp2
  go_loopw [49] (fun v49 wr=>∃ (i:Nat),v49=.int .i64 i∧i≤n7∧Hid (CpI tb ub b [.int .i64 sets,.int .i64 rel,.slice A2 n2 c2,.int .i64 pol,.int .i64 mode,.slice A5 n5 c5,.slice A6 n6 c6] (.slice A7 n7 c7) w (H3++(bs.take i).flatMap crBound) wr)) (fun v49 _=>n7 - (RowKit.intOf v49).toNat)
  case atStart=>exact⟨0,rfl,Nat.zero_le _,Lib.hid (by simpa using HP6.out)⟩
  case round=>
   obtain⟨i,rfl,hi,HP⟩:=hrel
   by_cases hil:i<n7
   ·have hil':i<bs.length:=by rw [N7.out];exact hil
    obtain⟨bb,off,rfl,hbl,HAT⟩:=R7.out (by rw [N7.out];omega)
    obtain⟨e0,e1,e2,e3⟩:=HAT i hil'
    have hwr:=HWB.out _ _ HP.out
    have m:∀ j v,w.cell? ⟨bb,j,none⟩=some v→wr.cell? ⟨bb,j,none⟩=some v:=fun j v h=>(hwr.cell (p:=⟨bb,j,none⟩) hbl).trans h
    have f0:=m _ _ e0
    have f1:=m _ _ e1
    have f2:=m _ _ e2
    have f3:=m _ _ e3
    have HGS:Hid (H3++(bs.take (i+1)).flatMap crBound=(H3++(bs.take i).flatMap crBound)++crBound bs[i]):=Lib.hid (by
     rw [List.take_add_one,List.getElem?_eq_getElem hil',List.flatMap_append,List.append_assoc]
     simp)
    have HTL:=Lib.hid (HSG.out i (by omega))
    have HWD:=Lib.hid (HWd.out bs[i] (List.getElem_mem _))
    have HWZ:=Lib.hid (H7.out.2 bs[i] (List.getElem_mem _))
    clear e0 e1 e2 e3 m HAT hwr HP6
    generalize H3++(bs.take i).flatMap crBound=T0 at HGS HTL HP
    generalize bs[i]=x at f0 f1 f2 f3 HGS HWD HWZ
    have HCB:Hid (crBound x=[98,111,117,110,100]++(bdW x).data.toList++[10]):=Lib.hid rfl
    generalize crBound x=CB at HGS HCB
    generalize bdW x=D at HWD HWZ HCB
    obtain⟨x0,x1,x2,x3⟩:=x
    simp only at f0 f1 f2 f3 HWD
    go_upto_region 14 with (fail)
    have hal:=(Below.refl wr.heap.size wr).alloc (Nat.le_refl _) (.cells #[.int .i64 x0,.int .i64 x1,.int .i64 x2,.int .i64 x3] 49)
    have hnw:=heap_alloc_new wr (.cells #[.int .i64 x0,.int .i64 x1,.int .i64 x2,.int .i64 x3] 49)
    have HP8:=Lib.hid (HP.out.below hal)
    generalize wr.alloc (.cells #[.int .i64 x0,.int .i64 x1,.int .i64 x2,.int .i64 x3] 49)=W3 at hal hnw HP8 ⊢
    obtain⟨xb,hxb⟩:∃ z,wr.heap.size=z:=⟨_,rfl⟩
    rw [hxb] at hnw ⊢
    have t0:=cell_of_row W3 xb 0 _ _ _ hnw
    have t1:=cell_of_row W3 xb 1 _ _ _ hnw
    have t2:=cell_of_row W3 xb 2 _ _ _ hnw
    have t3:=cell_of_row W3 xb 3 _ _ _ hnw
    simp at t0 t1 t2 t3
    have HWX:Hid (Calls Tryd.prog 31 #[.slice (some ⟨W3.heap.size,0,none⟩) 4 4] (W3.alloc (.cells #[.int .i64 x0,.int .i64 x1,.int .i64 x2,.int .i64 x3] 2)) fun e w'=>e=.returned (.string D)∧Below W3.heap.size W3 w'):=Lib.hid (by
     have ha:=(Below.refl W3.heap.size W3).alloc (Nat.le_refl _) (.cells #[.int .i64 x0,.int .i64 x1,.int .i64 x2,.int .i64 x3] 2)
     have hw3:=HWB.out _ _ HP8.out
     refine (HWD.out W3.heap.size _ (heap_alloc_new W3 (.cells #[.int .i64 x0,.int .i64 x1,.int .i64 x2,.int .i64 x3] 2)) (hw3.trans (ha.mono hw3.size))).mono ?_
     rintro e w' ⟨he,hb⟩
     exact⟨he,ha.trans (hb.mono ha.size)⟩)
    have kk:(9223372036854775807<5+D.size)=False:=eq_false (by have:=HWZ.out;omega)
    clear f0 f1 f2 f3 hal hnw hxb HWD HP
    go_wp2_with (first|(go_at_call 31;refine HWX.out.mono ?_;rintro e w6 ⟨rfl,hb6⟩;have HP9:=Lib.hid (HP8.out.below hb6);have HWS:=Lib.hid (put_any ((⟨#[98,111,117,110,100]⟩:ByteArray)++D) HP9.out (by have:=HTL.out;have:=HWZ.out;rw [ByteArray.size_append];show _+(5+_)+1≤_;omega)))|(go_at_call 27;refine HWS.out.mono ?_;rintro e w7 ⟨rfl,hP7⟩))
    have HP7:=Lib.hid hP7
    clear hP7
    go_roundw
    case rel=>exact⟨i+1,by simp,hil,Lib.hid (by rw [HGS.out,HCB.out];simpa [ByteArray.data_append,List.append_assoc] using HP7.out)⟩
    case measure=>simp [RowKit.intOf];omega
   ·obtain rfl:i=n7:=by omega
    have hbt:bs.take i=bs:=by rw [← N7.out,List.take_length]
    have hTL:=HSG.out i (by omega)
    rw [hbt] at HP hTL
    generalize H3++bs.flatMap crBound=T at HP HZZ hTL
    have HTS:Hid (¬ 9223372036854775807<(⟨T.toArray⟩:ByteArray).size+S.size):=Lib.hid (by
     have h1:(⟨T.toArray⟩:ByteArray).size=T.length:=by simp [ByteArray.size]
     have h2:=HSZ.out.2.2
     rw [h1];omega)
    have C3:Hid (∀ (W:World),CpI tb ub b [.int .i64 sets,.int .i64 rel,.slice A2 n2 c2,.int .i64 pol,.int .i64 mode,.slice A5 n5 c5,.slice A6 n6 c6] (.slice A7 i c7) w T W→Calls Tryd.prog 32 #[.pointer (some ⟨b,0,none⟩)] W fun e w'=>e=.returned (.string ⟨T.toArray⟩)∧(fun W:World=>(∀ i v,([.int .i64 sets,.int .i64 rel,.slice A2 n2 c2,.int .i64 pol,.int .i64 mode,.slice A5 n5 c5,.slice A6 n6 c6]:List Value)[i]? = some v→W.cell? ⟨ub,i,none⟩=some v)∧Below w.heap.size w W) w'):=Lib.hid (fun W h=>(Tryd.Builder_String_any b b T W h.2.2.2.2.2.2 h.2.2.2.2.2.1).mono (fun e w' h2=>⟨h2.1,fun i v hi=>(h2.2.cell (p:=⟨ub,i,none⟩) h.2.2.2.2.1).trans (h.1.2 i v hi),h.2.1.trans (h2.2.mono h.2.2.1)⟩))
    have C4:Hid (∀ (W:World),(fun W:World=>(∀ i v,([.int .i64 sets,.int .i64 rel,.slice A2 n2 c2,.int .i64 pol,.int .i64 mode,.slice A5 n5 c5,.slice A6 n6 c6]:List Value)[i]? = some v→W.cell? ⟨ub,i,none⟩=some v)∧Below w.heap.size w W) W→Calls Tryd.prog 33 #[.agg #[.int .i64 sets,.int .i64 rel,.slice A2 n2 c2]] W fun e w'=>e=.returned (.string S)∧(fun W:World=>(∀ i v,([.int .i64 sets,.int .i64 rel,.slice A2 n2 c2,.int .i64 pol,.int .i64 mode,.slice A5 n5 c5,.slice A6 n6 c6]:List Value)[i]? = some v→W.cell? ⟨ub,i,none⟩=some v)∧Below w.heap.size w W) w'∧Below W.heap.size W w'):=Lib.hid (fun W h=>(HPr.out W h.2).mono (fun e w' h2=>⟨h2.1,⟨fun i v hi=>(h2.2.cell (p:=⟨ub,i,none⟩) (bLt _ _ (h.1 i v hi))).trans (h.1 i v hi),h.2.trans (h2.2.mono h.2.size)⟩,h2.2⟩))
    generalize (⟨T.toArray⟩:ByteArray)=B at HZZ C3 HTS
    clear HSG HWd HLo hTL hbt R7 HPr H7 HSZ
    go_upto_region 16 with (fail)
    refine wp_region_facts_k 0 (by kernel_rfl) (by kernel_rfl) (fun i v W=>match i with
     |0=>v=.string B
     |1=>v=.pointer (some ⟨ub,0,none⟩)
     |2=>v=.agg #[.int .i64 sets,.int .i64 rel,.slice A2 n2 c2]
     |3=>v=.string S
     |4=>v=.string (B++S)
     |5=>v=.string (B++S)
     |_=>True) (fun _ _=>True) (fun _ _ _ _ h _=>h) (fun bk W=>(bk=false→CpI tb ub b [.int .i64 sets,.int .i64 rel,.slice A2 n2 c2,.int .i64 pol,.int .i64 mode,.slice A5 n5 c5,.slice A6 n6 c6] (.slice A7 i c7) w T W)∧(fun W:World=>(∀ i v,([.int .i64 sets,.int .i64 rel,.slice A2 n2 c2,.int .i64 pol,.int .i64 mode,.slice A5 n5 c5,.slice A6 n6 c6]:List Value)[i]? = some v→W.cell? ⟨ub,i,none⟩=some v)∧Below w.heap.size w W) W) (by have:=HP.out.below (Below.refl _ _).drew;exact⟨fun _=>this,this.1.2,this.2.1⟩) (of_decide_eq_true (by rfl)) ?_ ?_
    ·intro i o a W bk ho hsz hfr hdep hG hbk
     have hi:i<6:=(Array.getElem?_eq_some_iff.1 ho).1
     have hin:i=0∨i=1∨i=2∨i=3∨i=4∨i=5:=by omega
     rcases hin with rfl|rfl|rfl|rfl|rfl|rfl
     ·cases ho
      have g:a.tmps.getD 4 undef=.pointer (some ⟨b,0,none⟩):=by rw [gDe,hfr 4 (qau (by kernel_rfl))];rfl
      clear hfr hdep hsz
      generalize hK:(fun (a':Act) (w':World)=>_)=K
      go_simp
      refine (C3.out W (hG.1 (hbk rfl))).mono ?_
      rintro e W2 ⟨rfl,hG2⟩
      show K _ _
      rw [← hK]
      exact⟨_,rfl,rfl,trivial,fun h=>(by simp at h),hG2⟩
     ·cases ho
      have g:a.tmps.getD 3 undef=.pointer (some ⟨ub,0,none⟩):=by rw [gDe,hfr 3 (qau (by kernel_rfl))];rfl
      clear hfr hdep hsz
      generalize hK:(fun (a':Act) (w':World)=>_)=K
      go_simp
      rw [← hK]
      exact⟨_,rfl,rfl,trivial,by simpa using hG⟩
     ·cases ho
      obtain⟨_,q1,e1⟩:=hdep ⟨1,.data⟩ (by simp) rfl _ _ rfl rfl
      have g1:a.tmps.getD 68 undef=.pointer (some ⟨ub,0,none⟩):=by rw [gDe,q1,e1];rfl
      rw [e1] at q1
      clear e1
      have hc0:=hG.2.1 0 _ rfl
      have hc1:=hG.2.1 1 _ rfl
      have hc2:=hG.2.1 2 _ rfl
      clear hfr hdep hsz
      generalize hK:(fun (a':Act) (w':World)=>_)=K
      go_simp
      rw [← hK]
      exact⟨_,rfl,rfl,trivial,by simpa using hG⟩
     ·cases ho
      obtain⟨_,q2,e2⟩:=hdep ⟨2,.data⟩ (by simp) rfl _ _ rfl rfl
      have g2:a.tmps.getD 69 undef=.agg #[.int .i64 sets,.int .i64 rel,.slice A2 n2 c2]:=by rw [gDe,q2,e2];rfl
      rw [e2] at q2
      clear e2
      clear hfr hdep hsz
      generalize hK:(fun (a':Act) (w':World)=>_)=K
      go_simp
      refine (C4.out W hG.2).mono ?_
      rintro e W2 ⟨rfl,hG2,hG3⟩
      show K _ _
      rw [← hK]
      exact⟨_,rfl,rfl,trivial,fun h=>(hG.1 (by simpa using h)).below hG3,hG2⟩
     ·cases ho
      obtain⟨_,q0,e0⟩:=hdep ⟨0,.data⟩ (by simp) rfl _ _ rfl rfl
      have g0:a.tmps.getD 67 undef=.string B:=by rw [gDe,q0,e0];rfl
      rw [e0] at q0
      clear e0
      obtain⟨_,q3,e3⟩:=hdep ⟨3,.data⟩ (by simp) rfl _ _ rfl rfl
      have g3:a.tmps.getD 70 undef=.string S:=by rw [gDe,q3,e3];rfl
      rw [e3] at q3
      clear e3
      have hTS:=HTS.out
      clear hfr hdep hsz
      generalize hK:(fun (a':Act) (w':World)=>_)=K
      go_simp
      rw [← hK]
      exact⟨_,rfl,rfl,trivial,by simpa using hG⟩
     ·cases ho
      obtain⟨_,q4,e4⟩:=hdep ⟨4,.data⟩ (by simp) rfl _ _ rfl rfl
      have g4:a.tmps.getD 71 undef=.string (B++S):=by rw [gDe,q4,e4];rfl
      rw [e4] at q4
      clear e4
      clear hfr hdep hsz
      generalize hK:(fun (a':Act) (w':World)=>_)=K
      go_simp
      rw [← hK]
      exact⟨_,rfl,rfl,trivial,by simpa using hG⟩
    ·intro a W hd hsz hfr hall hG
     obtain⟨v,hv,hF⟩:=hall 5 _ 2 rfl rfl
     simp only at hF
     have g2:a.tmps.getD 2 undef=.string (B++S):=by rw [gDe,hv,hF];rfl
     have ha:a = { tmps:=a.tmps,defers:=[] }:=by cases a;simp at hd;subst hd;rfl
     rw [ha]
     clear ha hd hsz hfr hall hv hF
     generalize a.tmps=ts at g2 ⊢
     go_wp2
     exact bodyPost_ret (results_tmp rfl _ _ _) rfl ⟨by rw [g2,HZZ.out],hG.2.2⟩
theorem certPrint_no (sets rel pol mode:Int) (A2:Option Addr) (n2 c2:Nat) (A5:Option Addr) (n5 c5:Nat) (A6:Option Addr) (n6 c6:Nat) (A7:Option Addr) (n7 c7:Nat) (w:World)
  (HMay:∀ W,Below w.heap.size w W→Calls Tryd.prog 26 #[.agg #[.int .i64 sets,.int .i64 rel,.slice A2 n2 c2,.int .i64 pol,.int .i64 mode,.slice A5 n5 c5,.slice A6 n6 c6,.slice A7 n7 c7]] W fun e w'=>e=.returned (.bool false)∧Below W.heap.size W w') :
  Calls Tryd.prog 15 #[.agg #[.int .i64 sets,.int .i64 rel,.slice A2 n2 c2,.int .i64 pol,.int .i64 mode,.slice A5 n5 c5,.slice A6 n6 c6,.slice A7 n7 c7]] w fun e w'=>e=.returned (.string ⟨#[]⟩)∧Below w.heap.size w w':=by
 have hb0:=(Below.refl w.heap.size w).alloc (Nat.le_refl _) (.cells #[.int .i64 sets,.int .i64 rel,.slice A2 n2 c2,.int .i64 pol,.int .i64 mode,.slice A5 n5 c5,.slice A6 n6 c6,.slice A7 n7 c7] 39)
 have hn0:=heap_alloc_new w (.cells #[.int .i64 sets,.int .i64 rel,.slice A2 n2 c2,.int .i64 pol,.int .i64 mode,.slice A5 n5 c5,.slice A6 n6 c6,.slice A7 n7 c7] 39)
 have HMay:=Lib.hid HMay
 go_enter Tryd.func15,Tryd.ntmps15
 go_upto_region 1 with (fail)
 generalize w.alloc (.cells #[.int .i64 sets,.int .i64 rel,.slice A2 n2 c2,.int .i64 pol,.int .i64 mode,.slice A5 n5 c5,.slice A6 n6 c6,.slice A7 n7 c7] 39)=w0 at hb0 hn0 ⊢
 have HB0:Hid (Below w.heap.size w w0):=Lib.hid hb0
 obtain⟨tb,htb⟩:∃ z,w.heap.size=z:=⟨_,rfl⟩
 rw [htb] at hn0 ⊢
 obtain⟨t0,t1,t2,t3,t4,t5,t6,t7⟩:=eight_cells hn0
 have HM0:=Lib.hid (HMay.out w0 HB0.out)
 clear hb0 hn0 htb HMay
 go_wp2_with (go_at_call 26;refine HM0.out.mono ?_;rintro e w1 ⟨rfl,hb1⟩)
 go_ret
 exact⟨rfl,HB0.out.trans (hb1.mono HB0.out.size)⟩
end Go.Proofs.YtgnaaokhfpfglaaDoor
end
section
namespace Go.Proofs.YtgnaaokhfpfglaaDoor
open Go.RowKit Go.Shelf Go.Lib
def mayB (E:Int) (p m:Bool) (n5 n6 n7:Nat) (a5 a6 b7:Bool):Bool:=decide (E=0) && !p && !m && decide (n5≤64∧n6≤64∧n7≤64) && a5 && a6 && !b7
theorem keep4 {w W W':World} {ub tb:Nat} {v3 v4 v5 v6 v7:Value} (h:W.cell? ⟨ub,3,none⟩=some v3∧W.cell? ⟨ub,4,none⟩=some v4∧W.cell? ⟨ub,5,none⟩=some v5∧W.cell? ⟨ub,6,none⟩=some v6∧W.cell? ⟨tb,7,none⟩=some v7) (hw:Below w.heap.size w W) (hb:Below W.heap.size W W') :
  (W'.cell? ⟨ub,3,none⟩=some v3∧W'.cell? ⟨ub,4,none⟩=some v4∧W'.cell? ⟨ub,5,none⟩=some v5∧W'.cell? ⟨ub,6,none⟩=some v6∧W'.cell? ⟨tb,7,none⟩=some v7)∧Below w.heap.size w W':=by
 have m:∀ p v,W.cell? p=some v→W'.cell? p=some v:=fun p v h=>(hb.cell (bLt W _ h)).trans h
 exact⟨⟨m _ _ h.1,m _ _ h.2.1,m _ _ h.2.2.1,m _ _ h.2.2.2.1,m _ _ h.2.2.2.2⟩,hw.trans (hb.mono hw.size)⟩
theorem certMay_any (sets rel pol mode:Int) (A2:Option Addr) (n2 c2:Nat) (A5:Option Addr) (n5 c5:Nat) (A6:Option Addr) (n6 c6:Nat) (A7:Option Addr) (n7 c7:Nat) (w:World) (E:Int) (P M:ByteArray) (a5 a6 b7:Bool)
  (HCk:∀ W,Below w.heap.size w W→Calls Tryd.prog 47 #[.agg #[.int .i64 sets,.int .i64 rel,.slice A2 n2 c2]] W fun e w'=>e=.returned (.int .i64 E)∧Below W.heap.size W w')
  (HPo:∀ W,Calls Tryd.prog 11 #[.int .i64 pol] W fun e w'=>e=.returned (.string P)∧Below W.heap.size W w')
  (HMo:∀ W,Calls Tryd.prog 13 #[.int .i64 mode] W fun e w'=>e=.returned (.string M)∧Below W.heap.size W w')
  (H5:∀ W,Below w.heap.size w W→Calls Tryd.prog 45 #[.int .i64 99,.slice A5 n5 c5] W fun e w'=>e=.returned (.bool a5)∧Below W.heap.size W w')
  (H6:∀ W,Below w.heap.size w W→Calls Tryd.prog 46 #[.int .i64 1073741824,.slice A6 n6 c6] W fun e w'=>e=.returned (.bool a6)∧Below W.heap.size W w')
  (H7:∀ W,Below w.heap.size w W→Calls Tryd.prog 48 #[.slice A7 n7 c7,.func (Fn.func 44) #[] #[]] W fun e w'=>e=.returned (.bool b7)∧Below W.heap.size W w') :
  Calls Tryd.prog 26 #[.agg #[.int .i64 sets,.int .i64 rel,.slice A2 n2 c2,.int .i64 pol,.int .i64 mode,.slice A5 n5 c5,.slice A6 n6 c6,.slice A7 n7 c7]] w fun e w'=>e=.returned (.bool (mayB E P.toList.isEmpty M.toList.isEmpty n5 n6 n7 a5 a6 b7))∧Below w.heap.size w w':=by
 have HCk:=Lib.hid HCk
 have HPo:=Lib.hid HPo
 have HMo:=Lib.hid HMo
 have H5:=Lib.hid H5
 have H6:=Lib.hid H6
 have H7:=Lib.hid H7
 obtain⟨R,hR0⟩:∃ R,R=mayB E P.toList.isEmpty M.toList.isEmpty n5 n6 n7 a5 a6 b7:=⟨_,rfl⟩
 rw [← hR0]
 have hR:=Lib.hid hR0
 clear hR0
 have hb0:=(Below.refl w.heap.size w).alloc (Nat.le_refl _) (.cells #[.int .i64 sets,.int .i64 rel,.slice A2 n2 c2,.int .i64 pol,.int .i64 mode,.slice A5 n5 c5,.slice A6 n6 c6,.slice A7 n7 c7] 39)
 have hn0:=heap_alloc_new w (.cells #[.int .i64 sets,.int .i64 rel,.slice A2 n2 c2,.int .i64 pol,.int .i64 mode,.slice A5 n5 c5,.slice A6 n6 c6,.slice A7 n7 c7] 39)
 go_enter Tryd.func26,Tryd.ntmps26
 go_upto_region 1 with (fail)
 generalize w.alloc (.cells #[.int .i64 sets,.int .i64 rel,.slice A2 n2 c2,.int .i64 pol,.int .i64 mode,.slice A5 n5 c5,.slice A6 n6 c6,.slice A7 n7 c7] 39)=w0 at hb0 hn0 ⊢
 have HB0:Hid (Below w.heap.size w w0):=Lib.hid hb0
 obtain⟨tb,htb⟩:∃ z,w.heap.size=z:=⟨_,rfl⟩
 rw [htb] at hn0 ⊢
 obtain⟨t0,t1,t2,t3,t4,t5,t6,t7⟩:=eight_cells hn0
 have hT0:=cell_lt t0
 clear hb0 hn0 htb
 go_upto_region 2 with (fail)
 have hb2:=(Below.refl w0.heap.size w0).alloc (Nat.le_refl _) (.cells #[.int .i64 sets,.int .i64 rel,.slice A2 n2 c2,.int .i64 pol,.int .i64 mode,.slice A5 n5 c5,.slice A6 n6 c6] 36)
 have hn2:=heap_alloc_new w0 (.cells #[.int .i64 sets,.int .i64 rel,.slice A2 n2 c2,.int .i64 pol,.int .i64 mode,.slice A5 n5 c5,.slice A6 n6 c6] 36)
 generalize w0.alloc (.cells #[.int .i64 sets,.int .i64 rel,.slice A2 n2 c2,.int .i64 pol,.int .i64 mode,.slice A5 n5 c5,.slice A6 n6 c6] 36)=w2 at hb2 hn2 ⊢
 obtain⟨ub,hub⟩:∃ z,w0.heap.size=z:=⟨_,rfl⟩
 rw [hub] at hn2 ⊢
 have r7:=(hb2.cell (p:=⟨tb,7,none⟩) hT0).trans t7
 obtain⟨r0,r1,r2,r3,r4,r5,r6⟩:=qba hn2
 have HWB:=Lib.hid (HB0.out.trans (hb2.mono HB0.out.size))
 have HU:=Lib.hid (And.intro r3 (And.intro r4 (And.intro r5 (And.intro r6 r7))))
 clear t0 t1 t2 t3 t4 t5 t6 t7 hb2 hn2 hub HB0 hT0 r3 r4 r5 r6 r7
 by_cases hE:E=0
 rotate_left
 ·have hE1:(E != 0)=true:=by simpa using hE
  have HQ:Hid (R=false):=Lib.hid (by rw [hR.out];simp [mayB,hE])
  clear hR
  go_wp2_with (first|(go_at_call 47;refine (HCk.out _ HWB.out).mono ?_;rintro e w4 ⟨rfl,hb4⟩;have K4:=keep4 HU.out HWB.out hb4;have HW4:=Lib.hid K4.2;obtain⟨q3,q4,q5,q6,q7⟩:=K4.1))
  go_ret
  exact⟨by rw [HQ.out];rfl,HW4.out⟩
 subst hE
 cases hp:P.toList.isEmpty with
 |true=>
  have HQ:Hid (R=false):=Lib.hid (by rw [hR.out,hp];simp [mayB])
  clear hR
  go_wp2_with (first|(go_at_call 47;refine (HCk.out _ HWB.out).mono ?_;rintro e w4 ⟨rfl,hb4⟩;have K4:=keep4 HU.out HWB.out hb4;have HW4:=Lib.hid K4.2;obtain⟨q3,q4,q5,q6,q7⟩:=K4.1)|(go_at_call 11;refine (HPo.out _).mono ?_;rintro e w5 ⟨rfl,hb5⟩;have K5:=keep4 ⟨q3,q4,q5,q6,q7⟩ HW4.out hb5;have HW5:=Lib.hid K5.2;obtain⟨p3,p4,p5,p6,p7⟩:=K5.1))
  go_ret
  exact⟨by rw [HQ.out];rfl,HW5.out⟩
 |false=>
 cases hm:M.toList.isEmpty with
 |true=>
  have HQ:Hid (R=false):=Lib.hid (by rw [hR.out,hm];simp [mayB])
  clear hR
  go_wp2_with (first|(go_at_call 47;refine (HCk.out _ HWB.out).mono ?_;rintro e w4 ⟨rfl,hb4⟩;have K4:=keep4 HU.out HWB.out hb4;have HW4:=Lib.hid K4.2;obtain⟨q3,q4,q5,q6,q7⟩:=K4.1)|(go_at_call 11;refine (HPo.out _).mono ?_;rintro e w5 ⟨rfl,hb5⟩;have K5:=keep4 ⟨q3,q4,q5,q6,q7⟩ HW4.out hb5;have HW5:=Lib.hid K5.2;obtain⟨p3,p4,p5,p6,p7⟩:=K5.1)|(go_at_call 13;refine (HMo.out _).mono ?_;rintro e w6 ⟨rfl,hb6⟩;have K6:=keep4 ⟨p3,p4,p5,p6,p7⟩ HW5.out hb6;have HW6:=Lib.hid K6.2;obtain⟨o3,o4,o5,o6,o7⟩:=K6.1))
  go_ret
  exact⟨by rw [HQ.out];rfl,HW6.out⟩
 |false=>
 by_cases hl:n5≤64∧n6≤64∧n7≤64
 rotate_left
 ·have HQ:Hid (R=false):=Lib.hid (by rw [hR.out];simp [mayB,hl])
  clear hR
  go_wp2_with (first|(go_at_call 47;refine (HCk.out _ HWB.out).mono ?_;rintro e w4 ⟨rfl,hb4⟩;have K4:=keep4 HU.out HWB.out hb4;have HW4:=Lib.hid K4.2;obtain⟨q3,q4,q5,q6,q7⟩:=K4.1)|(go_at_call 11;refine (HPo.out _).mono ?_;rintro e w5 ⟨rfl,hb5⟩;have K5:=keep4 ⟨q3,q4,q5,q6,q7⟩ HW4.out hb5;have HW5:=Lib.hid K5.2;obtain⟨p3,p4,p5,p6,p7⟩:=K5.1)|(go_at_call 13;refine (HMo.out _).mono ?_;rintro e w6 ⟨rfl,hb6⟩;have K6:=keep4 ⟨p3,p4,p5,p6,p7⟩ HW5.out hb6;have HW6:=Lib.hid K6.2;obtain⟨o3,o4,o5,o6,o7⟩:=K6.1))
  all_goals (go_ret;exact⟨by first|(rw [HQ.out];rfl)|(simp [mayB,hl])|(rw [HQ.out];simp),HW6.out⟩)
 obtain⟨hl5,hl6,hl7⟩:=hl
 have HS:Hid (R=(a5 && a6 && !b7)):=Lib.hid (by rw [hR.out,hp,hm];simp [mayB,hl5,hl6,hl7])
 clear hR
 go_wp2_with (first|(go_at_call 47;refine (HCk.out _ HWB.out).mono ?_;rintro e w4 ⟨rfl,hb4⟩;have K4:=keep4 HU.out HWB.out hb4;have HW4:=Lib.hid K4.2;obtain⟨q3,q4,q5,q6,q7⟩:=K4.1)|(go_at_call 11;refine (HPo.out _).mono ?_;rintro e w5 ⟨rfl,hb5⟩;have K5:=keep4 ⟨q3,q4,q5,q6,q7⟩ HW4.out hb5;have HW5:=Lib.hid K5.2;obtain⟨p3,p4,p5,p6,p7⟩:=K5.1)|(go_at_call 13;refine (HMo.out _).mono ?_;rintro e w6 ⟨rfl,hb6⟩;have K6:=keep4 ⟨p3,p4,p5,p6,p7⟩ HW5.out hb6;have HW6:=Lib.hid K6.2;obtain⟨o3,o4,o5,o6,o7⟩:=K6.1)|(go_at_call 45;refine (H5.out _ HW6.out).mono ?_;rintro e w7 ⟨rfl,hb7⟩;have K7:=keep4 ⟨o3,o4,o5,o6,o7⟩ HW6.out hb7;have HW7:=Lib.hid K7.2;obtain⟨l3,l4,l5,l6,l7⟩:=K7.1)|(go_at_call 46;refine (H6.out _ HW7.out).mono ?_;rintro e w8 ⟨rfl,hb8⟩;have K8:=keep4 ⟨l3,l4,l5,l6,l7⟩ HW7.out hb8;have HW8:=Lib.hid K8.2;obtain⟨j3,j4,j5,j6,j7⟩:=K8.1)|(go_at_call 48;refine (H7.out _ HW8.out).mono ?_;rintro e w9 ⟨rfl,hb9⟩;have HW9:=Lib.hid (HW8.out.trans (hb9.mono HW8.out.size))))
 all_goals (go_ret;exact⟨by first|(rw [HS.out];simp;done)|(rw [HS.out];simp [*];done)|(rw [HS.out];simp_all;done),by first|exact HW9.out|exact HW8.out|exact HW7.out|exact HW6.out⟩)
end Go.Proofs.YtgnaaokhfpfglaaDoor
end
section
namespace Go.Proofs.YtgnaaokhfpfglaaDoorW.PrintWords
open Go.RowKit
section
variable {P:Program} {d:Nat} {xs ys:Array Value} {f:Field} {fs:List Field} {a b:Value} {r s:Bool} {w:World}
theorem eqf_last (hn:(f.name == "_")=false) (ha:(part f.type xs f.offset).run P w=.ok a w) (hb:(part f.type ys f.offset).run P w=.ok b w) (he:(Op.equalIn d f.type a b).run P w=.ok r w):(Op.eqFields d xs ys [f]).run P w=.ok r w:=by
 have hn':f.name≠ "_":=by simpa using hn
 simp only [Op.eqFields,if_pos hn',Sem.run_bind,ha,hb,he,Result.andThen_ok]
 cases r<;>simp
theorem eqf_cons (hn:(f.name == "_")=false) (ha:(part f.type xs f.offset).run P w=.ok a w) (hb:(part f.type ys f.offset).run P w=.ok b w) (he:(Op.equalIn d f.type a b).run P w=.ok r w) (hr:(Op.eqFields d xs ys fs).run P w=.ok s w):(Op.eqFields d xs ys (f::fs)).run P w=.ok (r && s) w:=by
 have hn':f.name≠ "_":=by simpa using hn
 rw [Op.eqFields]
 simp only [if_pos hn',Sem.run_bind,ha,hb,he,Result.andThen_ok]
 cases r
 ·simp
 ·simpa using hr
theorem eqA_of {t:TypeId} {fs:Array Field} (hu:P.underlying t=some (.struct fs)) (hp:P.stoodInHeld t=false) (h:(Op.eqFields d xs ys fs.toList).run P w=.ok r w):(Op.equalIn (d+1) t (.agg xs) (.agg ys)).run P w=.ok r w:=by
 have hf:P.fieldsOf t=fs:=by simp [Program.fieldsOf,hu]
 rw [run_equalIn_struct (P:=P) w d t xs ys (by rw [hf];exact hu) hp,hf]
 exact h
end
end Go.Proofs.YtgnaaokhfpfglaaDoorW.PrintWords
end
section
namespace Go.Proofs.YtgnaaokhfpfglaaDoorW.PrintWords
theorem Reps.one {α:Type} {R:α→List Value→Prop} {ps:List α} {cs:List Value} {p:α} {v:Value} (hp:R p [v]) (h:Reps R 1 ps cs):Reps R 1 (p::ps) (v::cs):=by
 refine⟨by simp [h.1],fun j q hq=>?_⟩
 cases j with
 |zero=>
  simp only [List.getElem?_cons_zero,Option.some.injEq] at hq
  subst hq
  simpa using hp
 |succ j=>
  simp only [List.getElem?_cons_succ] at hq
  have h1:=h.2 j q hq
  simpa [Nat.mul_one] using h1
theorem Reps.front {α:Type} {R:α→List Value→Prop} {size:Nat} {ps:List α} {cs c all:List Value} {p:α} (hp:R p c) (hc:c.length=size) (h:Reps R size ps cs) (ha:c++cs=all):Reps R size (p::ps) all:=by
 subst ha
 refine⟨by rw [List.length_append,hc,h.1,List.length_cons,Nat.succ_mul,Nat.add_comm],fun j q hq=>?_⟩
 cases j with
 |zero=>
  simp only [List.getElem?_cons_zero,Option.some.injEq] at hq
  subst hq
  rw [Nat.zero_mul,List.drop_zero,List.take_append_of_le_length (by omega),List.take_of_length_le (by omega)]
  exact hp
 |succ j=>
  simp only [List.getElem?_cons_succ] at hq
  have h1:=h.2 j q hq
  rw [Nat.succ_mul,List.drop_append,List.drop_of_length_le (by rw [hc];exact Nat.le_add_left _ _),List.nil_append,hc,Nat.add_sub_cancel]
  exact h1
theorem Reps.c2 {α:Type} {R:α→List Value→Prop} {ps:List α} {cs:List Value} {p:α} {va vb:Value} (hp:R p [va,vb]) (h:Reps R 2 ps cs):Reps R 2 (p::ps) (va::vb::cs):=Reps.front hp rfl h rfl
theorem Reps.c3 {α:Type} {R:α→List Value→Prop} {ps:List α} {cs:List Value} {p:α} {va vb vc:Value} (hp:R p [va,vb,vc]) (h:Reps R 3 ps cs):Reps R 3 (p::ps) (va::vb::vc::cs):=Reps.front hp rfl h rfl
theorem Reps.c4 {α:Type} {R:α→List Value→Prop} {ps:List α} {cs:List Value} {p:α} {va vb vc vd:Value} (hp:R p [va,vb,vc,vd]) (h:Reps R 4 ps cs):Reps R 4 (p::ps) (va::vb::vc::vd::cs):=Reps.front hp rfl h rfl
theorem Reps.c5 {α:Type} {R:α→List Value→Prop} {ps:List α} {cs:List Value} {p:α} {va vb vc vd ve:Value} (hp:R p [va,vb,vc,vd,ve]) (h:Reps R 5 ps cs):Reps R 5 (p::ps) (va::vb::vc::vd::ve::cs):=Reps.front hp rfl h rfl
theorem Reps.c6 {α:Type} {R:α→List Value→Prop} {ps:List α} {cs:List Value} {p:α} {va vb vc vd ve vf:Value} (hp:R p [va,vb,vc,vd,ve,vf]) (h:Reps R 6 ps cs):Reps R 6 (p::ps) (va::vb::vc::vd::ve::vf::cs):=Reps.front hp rfl h rfl
theorem Reps.c7 {α:Type} {R:α→List Value→Prop} {ps:List α} {cs:List Value} {p:α} {va vb vc vd ve vf vg:Value} (hp:R p [va,vb,vc,vd,ve,vf,vg]) (h:Reps R 7 ps cs):Reps R 7 (p::ps) (va::vb::vc::vd::ve::vf::vg::cs):=Reps.front hp rfl h rfl
theorem Reps.c8 {α:Type} {R:α→List Value→Prop} {ps:List α} {cs:List Value} {p:α} {va vb vc vd ve vf vg vh:Value} (hp:R p [va,vb,vc,vd,ve,vf,vg,vh]) (h:Reps R 8 ps cs):Reps R 8 (p::ps) (va::vb::vc::vd::ve::vf::vg::vh::cs):=Reps.front hp rfl h rfl
theorem Reps.c9 {α:Type} {R:α→List Value→Prop} {ps:List α} {cs:List Value} {p:α} {va vb vc vd ve vf vg vh vi:Value} (hp:R p [va,vb,vc,vd,ve,vf,vg,vh,vi]) (h:Reps R 9 ps cs):Reps R 9 (p::ps) (va::vb::vc::vd::ve::vf::vg::vh::vi::cs):=Reps.front hp rfl h rfl
theorem Reps.c10 {α:Type} {R:α→List Value→Prop} {ps:List α} {cs:List Value} {p:α} {va vb vc vd ve vf vg vh vi vj:Value} (hp:R p [va,vb,vc,vd,ve,vf,vg,vh,vi,vj]) (h:Reps R 10 ps cs):Reps R 10 (p::ps) (va::vb::vc::vd::ve::vf::vg::vh::vi::vj::cs):=Reps.front hp rfl h rfl
end Go.Proofs.YtgnaaokhfpfglaaDoorW.PrintWords
end
section
namespace Go.Proofs.YtgnaaokhfpfglaaDoorW.PrintWords
open Go.RowKit
section
variable {P:Program} {ops:Array Oper} {rest:List Oper} {o:Oper} {a:Act} {Q:Exit→Act→World→Prop} {W:World}
theorem qaI (hw:Region.wanted o (yielded ops a.tmps)=true) (h:wpList P ops Q ({ o with guard:=none }::rest) a W):wpList P ops Q (o::rest) a W:=by
 have h1:Region.wanted { o with guard:=none } (yielded ops a.tmps)=true:=rfl
 unfold wpList at h ⊢
 rw [if_pos h1] at h
 rw [if_pos hw]
 exact h
end
end Go.Proofs.YtgnaaokhfpfglaaDoorW.PrintWords
end
section
namespace Go.Proofs.YtgnaaokhfpfglaaDoor.PCertTold
open Go.RowKit Go.Proofs.YtgnaaokhfpfglaaDoorW.PrintWords Go.Proofs.YtgnaaokhfpfglaaDoorW.PrintLast Go.Proofs.YtgnaaokhfpfglaaDoorW.PrintMore
attribute [local go_sem] qaW qaU qa3 qa2 qaN qaM qaV qaT
set_option linter.unusedVariables false
set_option linter.unusedSimpArgs false
noncomputable section
def errW:Option Int→Value
 |none=>.nilIface
 |some c=>.iface 0 (.int .i64 c)
theorem qam:errW none=.nilIface:=rfl
theorem qal (c:Int):errW (some c)=.iface 0 (.int .i64 c):=rfl
theorem info2:(Tryd.prog.info? 2).map (fun i=>(i.zero,i.size,i.bytes))=some (some (.int .i64 0),1,8):=by kernel_rfl
theorem info3:(Tryd.prog.info? 3).map (fun i=>(i.zero,i.size,i.bytes))=some (some (.int .i64 0),1,8):=by kernel_rfl
theorem info49:(Tryd.prog.info? 49).map (fun i=>(i.zero,i.size,i.bytes))=some (some (.agg #[(.int .i64 0),(.int .i64 0),(.int .i64 0),(.int .i64 0)]),4,32):=by kernel_rfl
theorem info53:(Tryd.prog.info? 53).map (fun i=>(i.zero,i.size,i.bytes))=some (some (.agg #[(.int .i64 0),(.int .i64 0),(.int .i64 0),(.int .i64 0),(.int .i64 0),(.slice none 0 0),(.slice none 0 0)]),7,88):=by kernel_rfl
theorem info81:(Tryd.prog.info? 81).map (fun i=>(i.zero,i.size,i.bytes))=some (some (.agg #[(.int .i64 0),(.int .i64 0),(.int .i64 0),(.int .i64 0),(.int .i64 0),(.slice none 0 0)]),6,64):=by kernel_rfl
structure S53 where
 f0:Int
 f1:Int
 f2:Int
 f3:Int
 f4:Int
 f5:(List Int)
 f6:(List Int)
def z53:S53:=⟨(0:Int),(0:Int),(0:Int),(0:Int),(0:Int),([]:List Int),([]:List Int)⟩
def k53:Kd S53:=Kd.iso (Kd.pair (Kd.int .i64) (Kd.pair (Kd.int .i64) (Kd.pair (Kd.int .i64) (Kd.pair (Kd.int .i64) (Kd.pair (Kd.int .i64) (Kd.pair (Kd.slice 2 (Kd.int .i64)) (Kd.slice 3 (Kd.int .i64)))))))) (fun x:S53=>(x.f0,x.f1,x.f2,x.f3,x.f4,x.f5,x.f6))
theorem k53_open {w:World} {x:S53} {cs:List Value} (h:k53.K w x cs):∃ A5 c5 A6 c6,cs=[.int .i64 x.f0,.int .i64 x.f1,.int .i64 x.f2,.int .i64 x.f3,.int .i64 x.f4,.slice A5 x.f5.length c5,.slice A6 x.f6.length c6]∧x.f5.length≤c5∧(Kd.int .i64).C w A5 x.f5.length x.f5∧x.f6.length≤c6∧(Kd.int .i64).C w A6 x.f6.length x.f6:=by
 obtain⟨_,_,rfl,rfl,⟨_,_,rfl,rfl,⟨_,_,rfl,rfl,⟨_,_,rfl,rfl,⟨_,_,rfl,rfl,⟨_,_,rfl,⟨A5,c5,rfl,l5,g5⟩,⟨A6,c6,rfl,l6,g6⟩⟩⟩⟩⟩⟩⟩:=h
 exact⟨A5,c5,A6,c6,rfl,l5,g5,l6,g6⟩
theorem k53_mk (w:World) (x:S53) {A5:Option Addr} {c5:Nat} (l5:x.f5.length≤c5) (g5:(Kd.int .i64).C w A5 x.f5.length x.f5) {A6:Option Addr} {c6:Nat} (l6:x.f6.length≤c6) (g6:(Kd.int .i64).C w A6 x.f6.length x.f6):k53.K w x [.int .i64 x.f0,.int .i64 x.f1,.int .i64 x.f2,.int .i64 x.f3,.int .i64 x.f4,.slice A5 x.f5.length c5,.slice A6 x.f6.length c6]:=⟨[.int .i64 x.f0],[.int .i64 x.f1,.int .i64 x.f2,.int .i64 x.f3,.int .i64 x.f4,.slice A5 x.f5.length c5,.slice A6 x.f6.length c6],rfl,rfl,⟨[.int .i64 x.f1],[.int .i64 x.f2,.int .i64 x.f3,.int .i64 x.f4,.slice A5 x.f5.length c5,.slice A6 x.f6.length c6],rfl,rfl,⟨[.int .i64 x.f2],[.int .i64 x.f3,.int .i64 x.f4,.slice A5 x.f5.length c5,.slice A6 x.f6.length c6],rfl,rfl,⟨[.int .i64 x.f3],[.int .i64 x.f4,.slice A5 x.f5.length c5,.slice A6 x.f6.length c6],rfl,rfl,⟨[.int .i64 x.f4],[.slice A5 x.f5.length c5,.slice A6 x.f6.length c6],rfl,rfl,⟨[.slice A5 x.f5.length c5],[.slice A6 x.f6.length c6],rfl,⟨A5,c5,rfl,l5,g5⟩,⟨A6,c6,rfl,l6,g6⟩⟩⟩⟩⟩⟩⟩
theorem k53_mkM (w:World) (base:Nat) (ok:Nat→Prop) (x:S53) {v5:Value} (g5:(Kd.int .i64).R 2 w base ok v5 x.f5) {v6:Value} (g6:(Kd.int .i64).R 3 w base ok v6 x.f6):k53.M w base ok x [.int .i64 x.f0,.int .i64 x.f1,.int .i64 x.f2,.int .i64 x.f3,.int .i64 x.f4,v5,v6]:=⟨[.int .i64 x.f0],[.int .i64 x.f1,.int .i64 x.f2,.int .i64 x.f3,.int .i64 x.f4,v5,v6],rfl,rfl,⟨[.int .i64 x.f1],[.int .i64 x.f2,.int .i64 x.f3,.int .i64 x.f4,v5,v6],rfl,rfl,⟨[.int .i64 x.f2],[.int .i64 x.f3,.int .i64 x.f4,v5,v6],rfl,rfl,⟨[.int .i64 x.f3],[.int .i64 x.f4,v5,v6],rfl,rfl,⟨[.int .i64 x.f4],[v5,v6],rfl,rfl,⟨[v5],[v6],rfl,⟨v5,rfl,g5⟩,⟨v6,rfl,g6⟩⟩⟩⟩⟩⟩⟩
theorem qa8 {W:World} {ok:Nat→Prop} {x:S53} {cs:List Value} (h:Kd.FK k53 W ok x cs):∃ A5 c5 A6 c6,cs=[.int .i64 x.f0,.int .i64 x.f1,.int .i64 x.f2,.int .i64 x.f3,.int .i64 x.f4,.slice A5 x.f5.length c5,.slice A6 x.f6.length c6]∧x.f5.length≤c5∧Kd.F (Kd.int .i64) W ok A5 x.f5.length x.f5∧x.f6.length≤c6∧Kd.F (Kd.int .i64) W ok A6 x.f6.length x.f6:=by
 obtain⟨A5,c5,A6,c6,rfl,l5,_,l6,_⟩:=k53_open (Kd.FK_now h)
 exact⟨A5,c5,A6,c6,rfl,l5,(fun W' hW=>by obtain⟨A5_,c5_,A6_,c6_,he,l5_,g5_,l6_,g6_⟩:=k53_open (h W' hW);injection (Option.some.inj (show some (Value.slice A5 x.f5.length c5)=some (Value.slice A5_ x.f5.length c5_) from congrArg (fun l=>l[5]?) he)) with ha_ _ _;rw [ha_];exact g5_),l6,(fun W' hW=>by obtain⟨A5_,c5_,A6_,c6_,he,l5_,g5_,l6_,g6_⟩:=k53_open (h W' hW);injection (Option.some.inj (show some (Value.slice A6 x.f6.length c6)=some (Value.slice A6_ x.f6.length c6_) from congrArg (fun l=>l[6]?) he)) with ha_ _ _;rw [ha_];exact g6_)⟩
theorem k53_mkF (W:World) (ok:Nat→Prop) (x:S53) {A5:Option Addr} {c5:Nat} (l5:x.f5.length≤c5) (g5:Kd.F (Kd.int .i64) W ok A5 x.f5.length x.f5) {A6:Option Addr} {c6:Nat} (l6:x.f6.length≤c6) (g6:Kd.F (Kd.int .i64) W ok A6 x.f6.length x.f6):Kd.FK k53 W ok x [.int .i64 x.f0,.int .i64 x.f1,.int .i64 x.f2,.int .i64 x.f3,.int .i64 x.f4,.slice A5 x.f5.length c5,.slice A6 x.f6.length c6]:=fun W2 hW=>k53_mk W2 x l5 (g5 W2 hW) l6 (g6 W2 hW)
def qaj (xs:List S53) (i:Int):S53:=xs.getD i.toNat z53
theorem at_T53 {w:World} {A:Option Addr} {n:Nat} {xs:List S53} (h:Kd.C k53 w A n xs) (i:Int) (h0:0≤i) (h1:i<n):∃ ad A5 c5 A6 c6,A=some ad∧w.cell? (ad.add (i.toNat * 7))=some (.int .i64 (qaj xs i).f0)∧w.cell? ⟨(ad.add (i.toNat * 7)).block,(ad.add (i.toNat * 7)).off+1,none⟩=some (.int .i64 (qaj xs i).f1)∧w.cell? ⟨(ad.add (i.toNat * 7)).block,(ad.add (i.toNat * 7)).off+2,none⟩=some (.int .i64 (qaj xs i).f2)∧w.cell? ⟨(ad.add (i.toNat * 7)).block,(ad.add (i.toNat * 7)).off+3,none⟩=some (.int .i64 (qaj xs i).f3)∧w.cell? ⟨(ad.add (i.toNat * 7)).block,(ad.add (i.toNat * 7)).off+4,none⟩=some (.int .i64 (qaj xs i).f4)∧w.cell? ⟨(ad.add (i.toNat * 7)).block,(ad.add (i.toNat * 7)).off+5,none⟩=some (.slice A5 (qaj xs i).f5.length c5)∧w.cell? ⟨(ad.add (i.toNat * 7)).block,(ad.add (i.toNat * 7)).off+6,none⟩=some (.slice A6 (qaj xs i).f6.length c6)∧(qaj xs i).f5.length≤c5∧(Kd.int .i64).C w A5 (qaj xs i).f5.length (qaj xs i).f5∧(qaj xs i).f6.length≤c6∧(Kd.int .i64).C w A6 (qaj xs i).f6.length (qaj xs i).f6:=by
 obtain⟨ad,c,e,_,hK,hc0⟩:=Kd.C_get h z53 i h0 h1
 have hc:∀ j u,c[j]? = some u→w.cell? (ad.add (i.toNat * 7+j))=some u:=hc0
 obtain⟨A5,c5,A6,c6,rfl,l5,g5,l6,g6⟩:=k53_open hK
 exact⟨ad,A5,c5,A6,c6,e,hc 0 _ rfl,by rw [← qat _ _ 1 (by omega)];exact hc 1 _ rfl,by rw [← qat _ _ 2 (by omega)];exact hc 2 _ rfl,by rw [← qat _ _ 3 (by omega)];exact hc 3 _ rfl,by rw [← qat _ _ 4 (by omega)];exact hc 4 _ rfl,by rw [← qat _ _ 5 (by omega)];exact hc 5 _ rfl,by rw [← qat _ _ 6 (by omega)];exact hc 6 _ rfl,l5,g5,l6,g6⟩
structure S33 where
 f0:Int
 f1:Int
 f2:(List S53)
structure S49 where
 f0:Int
 f1:Int
 f2:Int
 f3:Int
def z49:S49:=⟨(0:Int),(0:Int),(0:Int),(0:Int)⟩
def k49:Kd S49:=Kd.iso (Kd.pair (Kd.int .i64) (Kd.pair (Kd.int .i64) (Kd.pair (Kd.int .i64) (Kd.int .i64)))) (fun x:S49=>(x.f0,x.f1,x.f2,x.f3))
theorem k49_open {w:World} {x:S49} {cs:List Value} (h:k49.K w x cs):cs=[.int .i64 x.f0,.int .i64 x.f1,.int .i64 x.f2,.int .i64 x.f3]:=by
 obtain⟨_,_,rfl,rfl,⟨_,_,rfl,rfl,⟨_,_,rfl,rfl,rfl⟩⟩⟩:=h
 exact rfl
theorem k49_mkM (w:World) (base:Nat) (ok:Nat→Prop) (x:S49):k49.M w base ok x [.int .i64 x.f0,.int .i64 x.f1,.int .i64 x.f2,.int .i64 x.f3]:=⟨[.int .i64 x.f0],[.int .i64 x.f1,.int .i64 x.f2,.int .i64 x.f3],rfl,rfl,⟨[.int .i64 x.f1],[.int .i64 x.f2,.int .i64 x.f3],rfl,rfl,⟨[.int .i64 x.f2],[.int .i64 x.f3],rfl,rfl,rfl⟩⟩⟩
def qaw (xs:List S49) (i:Int):S49:=xs.getD i.toNat z49
theorem at_T49 {w:World} {A:Option Addr} {n:Nat} {xs:List S49} (h:Kd.C k49 w A n xs) (i:Int) (h0:0≤i) (h1:i<n):∃ ad ,A=some ad∧w.cell? (ad.add (i.toNat * 4))=some (.int .i64 (qaw xs i).f0)∧w.cell? ⟨(ad.add (i.toNat * 4)).block,(ad.add (i.toNat * 4)).off+1,none⟩=some (.int .i64 (qaw xs i).f1)∧w.cell? ⟨(ad.add (i.toNat * 4)).block,(ad.add (i.toNat * 4)).off+2,none⟩=some (.int .i64 (qaw xs i).f2)∧w.cell? ⟨(ad.add (i.toNat * 4)).block,(ad.add (i.toNat * 4)).off+3,none⟩=some (.int .i64 (qaw xs i).f3):=by
 obtain⟨ad,c,e,_,hK,hc0⟩:=Kd.C_get h z49 i h0 h1
 have hc:∀ j u,c[j]? = some u→w.cell? (ad.add (i.toNat * 4+j))=some u:=hc0
 obtain rfl:=k49_open hK
 exact⟨ad,e,hc 0 _ rfl,by rw [← qat _ _ 1 (by omega)];exact hc 1 _ rfl,by rw [← qat _ _ 2 (by omega)];exact hc 2 _ rfl,by rw [← qat _ _ 3 (by omega)];exact hc 3 _ rfl⟩
structure S36 where
 f0:S33
 f1:Int
 f2:Int
 f3:(List Int)
 f4:(List Int)
structure S39 where
 f0:S36
 f1:(List S49)
structure S81 where
 f0:Int
 f1:Int
 f2:Int
 f3:Int
 f4:Int
 f5:(List Int)
def z81:S81:=⟨(0:Int),(0:Int),(0:Int),(0:Int),(0:Int),([]:List Int)⟩
def k81:Kd S81:=Kd.iso (Kd.pair (Kd.int .i64) (Kd.pair (Kd.int .i64) (Kd.pair (Kd.int .i64) (Kd.pair (Kd.int .i64) (Kd.pair (Kd.int .i64) (Kd.slice 3 (Kd.int .i64))))))) (fun x:S81=>(x.f0,x.f1,x.f2,x.f3,x.f4,x.f5))
theorem k81_open {w:World} {x:S81} {cs:List Value} (h:k81.K w x cs):∃ A5 c5,cs=[.int .i64 x.f0,.int .i64 x.f1,.int .i64 x.f2,.int .i64 x.f3,.int .i64 x.f4,.slice A5 x.f5.length c5]∧x.f5.length≤c5∧(Kd.int .i64).C w A5 x.f5.length x.f5:=by
 obtain⟨_,_,rfl,rfl,⟨_,_,rfl,rfl,⟨_,_,rfl,rfl,⟨_,_,rfl,rfl,⟨_,_,rfl,rfl,⟨A5,c5,rfl,l5,g5⟩⟩⟩⟩⟩⟩:=h
 exact⟨A5,c5,rfl,l5,g5⟩
theorem k81_mk (w:World) (x:S81) {A5:Option Addr} {c5:Nat} (l5:x.f5.length≤c5) (g5:(Kd.int .i64).C w A5 x.f5.length x.f5):k81.K w x [.int .i64 x.f0,.int .i64 x.f1,.int .i64 x.f2,.int .i64 x.f3,.int .i64 x.f4,.slice A5 x.f5.length c5]:=⟨[.int .i64 x.f0],[.int .i64 x.f1,.int .i64 x.f2,.int .i64 x.f3,.int .i64 x.f4,.slice A5 x.f5.length c5],rfl,rfl,⟨[.int .i64 x.f1],[.int .i64 x.f2,.int .i64 x.f3,.int .i64 x.f4,.slice A5 x.f5.length c5],rfl,rfl,⟨[.int .i64 x.f2],[.int .i64 x.f3,.int .i64 x.f4,.slice A5 x.f5.length c5],rfl,rfl,⟨[.int .i64 x.f3],[.int .i64 x.f4,.slice A5 x.f5.length c5],rfl,rfl,⟨[.int .i64 x.f4],[.slice A5 x.f5.length c5],rfl,rfl,⟨A5,c5,rfl,l5,g5⟩⟩⟩⟩⟩⟩
theorem k81_mkF (W:World) (ok:Nat→Prop) (x:S81) {A5:Option Addr} {c5:Nat} (l5:x.f5.length≤c5) (g5:Kd.F (Kd.int .i64) W ok A5 x.f5.length x.f5):Kd.FK k81 W ok x [.int .i64 x.f0,.int .i64 x.f1,.int .i64 x.f2,.int .i64 x.f3,.int .i64 x.f4,.slice A5 x.f5.length c5]:=fun W2 hW=>k81_mk W2 x l5 (g5 W2 hW)
def qaJ (xs:List S81) (i:Int):S81:=xs.getD i.toNat z81
theorem at_T81 {w:World} {A:Option Addr} {n:Nat} {xs:List S81} (h:Kd.C k81 w A n xs) (i:Int) (h0:0≤i) (h1:i<n):∃ ad A5 c5,A=some ad∧w.cell? (ad.add (i.toNat * 6))=some (.int .i64 (qaJ xs i).f0)∧w.cell? ⟨(ad.add (i.toNat * 6)).block,(ad.add (i.toNat * 6)).off+1,none⟩=some (.int .i64 (qaJ xs i).f1)∧w.cell? ⟨(ad.add (i.toNat * 6)).block,(ad.add (i.toNat * 6)).off+2,none⟩=some (.int .i64 (qaJ xs i).f2)∧w.cell? ⟨(ad.add (i.toNat * 6)).block,(ad.add (i.toNat * 6)).off+3,none⟩=some (.int .i64 (qaJ xs i).f3)∧w.cell? ⟨(ad.add (i.toNat * 6)).block,(ad.add (i.toNat * 6)).off+4,none⟩=some (.int .i64 (qaJ xs i).f4)∧w.cell? ⟨(ad.add (i.toNat * 6)).block,(ad.add (i.toNat * 6)).off+5,none⟩=some (.slice A5 (qaJ xs i).f5.length c5)∧(qaJ xs i).f5.length≤c5∧(Kd.int .i64).C w A5 (qaJ xs i).f5.length (qaJ xs i).f5:=by
 obtain⟨ad,c,e,_,hK,hc0⟩:=Kd.C_get h z81 i h0 h1
 have hc:∀ j u,c[j]? = some u→w.cell? (ad.add (i.toNat * 6+j))=some u:=hc0
 obtain⟨A5,c5,rfl,l5,g5⟩:=k81_open hK
 exact⟨ad,A5,c5,e,hc 0 _ rfl,by rw [← qat _ _ 1 (by omega)];exact hc 1 _ rfl,by rw [← qat _ _ 2 (by omega)];exact hc 2 _ rfl,by rw [← qat _ _ 3 (by omega)];exact hc 3 _ rfl,by rw [← qat _ _ 4 (by omega)];exact hc 4 _ rfl,by rw [← qat _ _ 5 (by omega)];exact hc 5 _ rfl,l5,g5⟩
structure S82 where
 f0:Int
 f1:Int
 f2:Int
 f3:Int
 f4:Int
 f5:(List Int)
def z82:S82:=⟨(0:Int),(0:Int),(0:Int),(0:Int),(0:Int),([]:List Int)⟩
def k82:Kd S82:=Kd.iso (Kd.pair (Kd.int .i64) (Kd.pair (Kd.int .i64) (Kd.pair (Kd.int .i64) (Kd.pair (Kd.int .i64) (Kd.pair (Kd.int .i64) (Kd.slice 3 (Kd.int .i64))))))) (fun x:S82=>(x.f0,x.f1,x.f2,x.f3,x.f4,x.f5))
theorem k82_heap:Kd.Heap k82:=Kd.heap_iso _ (Kd.heap_pair (Kd.heap_int .i64) (Kd.heap_pair (Kd.heap_int .i64) (Kd.heap_pair (Kd.heap_int .i64) (Kd.heap_pair (Kd.heap_int .i64) (Kd.heap_pair (Kd.heap_int .i64) (Kd.heap_slice 3 (Kd.heap_int .i64)))))))
theorem k82_open {w:World} {x:S82} {cs:List Value} (h:k82.K w x cs):∃ A5 c5,cs=[.int .i64 x.f0,.int .i64 x.f1,.int .i64 x.f2,.int .i64 x.f3,.int .i64 x.f4,.slice A5 x.f5.length c5]∧x.f5.length≤c5∧(Kd.int .i64).C w A5 x.f5.length x.f5:=by
 obtain⟨_,_,rfl,rfl,⟨_,_,rfl,rfl,⟨_,_,rfl,rfl,⟨_,_,rfl,rfl,⟨_,_,rfl,rfl,⟨A5,c5,rfl,l5,g5⟩⟩⟩⟩⟩⟩:=h
 exact⟨A5,c5,rfl,l5,g5⟩
theorem k82_openF {W:World} {ok:Nat→Prop} {x:S82} {cs:List Value} (h:Kd.FK k82 W ok x cs):∃ A5 c5,cs=[.int .i64 x.f0,.int .i64 x.f1,.int .i64 x.f2,.int .i64 x.f3,.int .i64 x.f4,.slice A5 x.f5.length c5]∧x.f5.length≤c5∧Kd.F (Kd.int .i64) W ok A5 x.f5.length x.f5:=by
 obtain⟨A5,c5,rfl,l5,_⟩:=k82_open (Kd.FK_now h)
 exact⟨A5,c5,rfl,l5,(fun W' hW=>by obtain⟨A5_,c5_,he,l5_,g5_⟩:=k82_open (h W' hW);injection (Option.some.inj (show some (Value.slice A5 x.f5.length c5)=some (Value.slice A5_ x.f5.length c5_) from congrArg (fun l=>l[5]?) he)) with ha_ _ _;rw [ha_];exact g5_)⟩
def qaF (xs:List S82) (i:Int):S82:=xs.getD i.toNat z82
theorem at_T82 {w:World} {A:Option Addr} {n:Nat} {xs:List S82} (h:Kd.C k82 w A n xs) (i:Int) (h0:0≤i) (h1:i<n):∃ ad A5 c5,A=some ad∧w.cell? (ad.add (i.toNat * 6))=some (.int .i64 (qaF xs i).f0)∧w.cell? ⟨(ad.add (i.toNat * 6)).block,(ad.add (i.toNat * 6)).off+1,none⟩=some (.int .i64 (qaF xs i).f1)∧w.cell? ⟨(ad.add (i.toNat * 6)).block,(ad.add (i.toNat * 6)).off+2,none⟩=some (.int .i64 (qaF xs i).f2)∧w.cell? ⟨(ad.add (i.toNat * 6)).block,(ad.add (i.toNat * 6)).off+3,none⟩=some (.int .i64 (qaF xs i).f3)∧w.cell? ⟨(ad.add (i.toNat * 6)).block,(ad.add (i.toNat * 6)).off+4,none⟩=some (.int .i64 (qaF xs i).f4)∧w.cell? ⟨(ad.add (i.toNat * 6)).block,(ad.add (i.toNat * 6)).off+5,none⟩=some (.slice A5 (qaF xs i).f5.length c5)∧(qaF xs i).f5.length≤c5∧(Kd.int .i64).C w A5 (qaF xs i).f5.length (qaF xs i).f5:=by
 obtain⟨ad,c,e,_,hK,hc0⟩:=Kd.C_get h z82 i h0 h1
 have hc:∀ j u,c[j]? = some u→w.cell? (ad.add (i.toNat * 6+j))=some u:=hc0
 obtain⟨A5,c5,rfl,l5,g5⟩:=k82_open hK
 exact⟨ad,A5,c5,e,hc 0 _ rfl,by rw [← qat _ _ 1 (by omega)];exact hc 1 _ rfl,by rw [← qat _ _ 2 (by omega)];exact hc 2 _ rfl,by rw [← qat _ _ 3 (by omega)];exact hc 3 _ rfl,by rw [← qat _ _ 4 (by omega)];exact hc 4 _ rfl,by rw [← qat _ _ 5 (by omega)];exact hc 5 _ rfl,l5,g5⟩
structure S56 where
 f0:Int
 f1:Int
 f2:Int
 f3:Int
def z56:S56:=⟨(0:Int),(0:Int),(0:Int),(0:Int)⟩
def k56:Kd S56:=Kd.iso (Kd.pair (Kd.int .i64) (Kd.pair (Kd.int .i64) (Kd.pair (Kd.int .i64) (Kd.int .i64)))) (fun x:S56=>(x.f0,x.f1,x.f2,x.f3))
theorem k56_open {w:World} {x:S56} {cs:List Value} (h:k56.K w x cs):cs=[.int .i64 x.f0,.int .i64 x.f1,.int .i64 x.f2,.int .i64 x.f3]:=by
 obtain⟨_,_,rfl,rfl,⟨_,_,rfl,rfl,⟨_,_,rfl,rfl,rfl⟩⟩⟩:=h
 exact rfl
def qaz (xs:List S56) (i:Int):S56:=xs.getD i.toNat z56
theorem at_T56 {w:World} {A:Option Addr} {n:Nat} {xs:List S56} (h:Kd.C k56 w A n xs) (i:Int) (h0:0≤i) (h1:i<n):∃ ad ,A=some ad∧w.cell? (ad.add (i.toNat * 4))=some (.int .i64 (qaz xs i).f0)∧w.cell? ⟨(ad.add (i.toNat * 4)).block,(ad.add (i.toNat * 4)).off+1,none⟩=some (.int .i64 (qaz xs i).f1)∧w.cell? ⟨(ad.add (i.toNat * 4)).block,(ad.add (i.toNat * 4)).off+2,none⟩=some (.int .i64 (qaz xs i).f2)∧w.cell? ⟨(ad.add (i.toNat * 4)).block,(ad.add (i.toNat * 4)).off+3,none⟩=some (.int .i64 (qaz xs i).f3):=by
 obtain⟨ad,c,e,_,hK,hc0⟩:=Kd.C_get h z56 i h0 h1
 have hc:∀ j u,c[j]? = some u→w.cell? (ad.add (i.toNat * 4+j))=some u:=hc0
 obtain rfl:=k56_open hK
 exact⟨ad,e,hc 0 _ rfl,by rw [← qat _ _ 1 (by omega)];exact hc 1 _ rfl,by rw [← qat _ _ 2 (by omega)];exact hc 2 _ rfl,by rw [← qat _ _ 3 (by omega)];exact hc 3 _ rfl⟩
structure S24 where
 f0:Int
 f1:Int
 f2:(List S82)
def k24:Kd S24:=Kd.iso (Kd.pair (Kd.int .i64) (Kd.pair (Kd.int .i64) (Kd.slice 82 k82))) (fun x:S24=>(x.f0,x.f1,x.f2))
theorem k24_open {w:World} {x:S24} {cs:List Value} (h:k24.K w x cs):∃ A2 c2,cs=[.int .i64 x.f0,.int .i64 x.f1,.slice A2 x.f2.length c2]∧x.f2.length≤c2∧k82.C w A2 x.f2.length x.f2:=by
 obtain⟨_,_,rfl,rfl,⟨_,_,rfl,rfl,⟨A2,c2,rfl,l2,g2⟩⟩⟩:=h
 exact⟨A2,c2,rfl,l2,g2⟩
structure S27 where
 f0:Int
 f1:Int
 f2:(List Int)
 f3:(List Int)
def k27:Kd S27:=Kd.iso (Kd.pair (Kd.int .i64) (Kd.pair (Kd.int .i64) (Kd.pair (Kd.slice 3 (Kd.int .i64)) (Kd.slice 3 (Kd.int .i64))))) (fun x:S27=>(x.f0,x.f1,x.f2,x.f3))
theorem k27_open {w:World} {x:S27} {cs:List Value} (h:k27.K w x cs):∃ A2 c2 A3 c3,cs=[.int .i64 x.f0,.int .i64 x.f1,.slice A2 x.f2.length c2,.slice A3 x.f3.length c3]∧x.f2.length≤c2∧(Kd.int .i64).C w A2 x.f2.length x.f2∧x.f3.length≤c3∧(Kd.int .i64).C w A3 x.f3.length x.f3:=by
 obtain⟨_,_,rfl,rfl,⟨_,_,rfl,rfl,⟨_,_,rfl,⟨A2,c2,rfl,l2,g2⟩,⟨A3,c3,rfl,l3,g3⟩⟩⟩⟩:=h
 exact⟨A2,c2,A3,c3,rfl,l2,g2,l3,g3⟩
structure S30 where
 f0:S24
 f1:S27
 f2:(List S56)
def k30:Kd S30:=Kd.iso (Kd.pair k24 (Kd.pair k27 (Kd.slice 56 k56))) (fun x:S30=>(x.f0,x.f1,x.f2))
theorem k30_open {w:World} {x:S30} {cs:List Value} (h:k30.K w x cs):∃ A2 c2 A5 c5 A6 c6 A7 c7,cs=[.int .i64 x.f0.f0,.int .i64 x.f0.f1,.slice A2 x.f0.f2.length c2,.int .i64 x.f1.f0,.int .i64 x.f1.f1,.slice A5 x.f1.f2.length c5,.slice A6 x.f1.f3.length c6,.slice A7 x.f2.length c7]∧x.f0.f2.length≤c2∧k82.C w A2 x.f0.f2.length x.f0.f2∧x.f1.f2.length≤c5∧(Kd.int .i64).C w A5 x.f1.f2.length x.f1.f2∧x.f1.f3.length≤c6∧(Kd.int .i64).C w A6 x.f1.f3.length x.f1.f3∧x.f2.length≤c7∧k56.C w A7 x.f2.length x.f2:=by
 obtain⟨_,_,rfl,s0,⟨_,_,rfl,s3,⟨A7,c7,rfl,l7,g7⟩⟩⟩:=h
 obtain⟨A2,c2,rfl,l2,g2⟩:=k24_open s0
 obtain⟨A5,c5,A6,c6,rfl,l5,g5,l6,g6⟩:=k27_open s3
 exact⟨A2,c2,A5,c5,A6,c6,A7,c7,rfl,l2,g2,l5,g5,l6,g6,l7,g7⟩
end
end Go.Proofs.YtgnaaokhfpfglaaDoor.PCertTold
end
section
namespace Go.Proofs.YtgnaaokhfpfglaaDoor.PCertTold
open Go.RowKit Go.Proofs.YtgnaaokhfpfglaaDoorW.PrintWords
set_option maxRecDepth 100000
def ok82 (x:S82):Prop:=(Lit.int .i64 x.f0).wf=true∧(Lit.int .i64 x.f1).wf=true∧(Lit.int .i64 x.f2).wf=true∧(Lit.int .i64 x.f3).wf=true∧(Lit.int .i64 x.f4).wf=true∧(x.f5.length≤maxLen∧∀ y ∈ x.f5,(Lit.int .i64 y).wf=true)
theorem opens82:Opens Tryd.prog 82 k82 ok82:=Opens.struct (fun x:S82=>(x.f0,x.f1,x.f2,x.f3,x.f4,x.f5)) (fun x=>(⟨x.1,x.2.1,x.2.2.1,x.2.2.2.1,x.2.2.2.2.1,x.2.2.2.2.2⟩:S82)) (fun _=>rfl) Tryd.underlying82 (by rfl) (OpensF.cons (Opens.int Tryd.underlying3) (by kernel_rfl) (n1:=1) (by kernel_rfl) (OpensF.cons (Opens.int Tryd.underlying3) (by kernel_rfl) (n1:=2) (by kernel_rfl) (OpensF.cons (Opens.int Tryd.underlying3) (by kernel_rfl) (n1:=3) (by kernel_rfl) (OpensF.cons (Opens.int Tryd.underlying3) (by kernel_rfl) (n1:=4) (by kernel_rfl) (OpensF.cons (Opens.int Tryd.underlying3) (by kernel_rfl) (n1:=5) (by kernel_rfl) (OpensF.last (Opens.slice 3 Tryd.underlying25 (Opens.int Tryd.underlying3) (by kernel_rfl) (0:Int)) (by kernel_rfl))))))) (by kernel_rfl)
def ok24 (x:S24):Prop:=(Lit.int .i64 x.f0).wf=true∧(Lit.int .i64 x.f1).wf=true∧(x.f2.length≤maxLen∧∀ y ∈ x.f2,ok82 y)
theorem opens24:Opens Tryd.prog 24 k24 ok24:=Opens.struct (fun x:S24=>(x.f0,x.f1,x.f2)) (fun x=>(⟨x.1,x.2.1,x.2.2⟩:S24)) (fun _=>rfl) Tryd.underlying24 (by rfl) (OpensF.cons (Opens.int Tryd.underlying3) (by kernel_rfl) (n1:=1) (by kernel_rfl) (OpensF.cons (Opens.int Tryd.underlying3) (by kernel_rfl) (n1:=2) (by kernel_rfl) (OpensF.last (Opens.slice 82 Tryd.underlying22 opens82 (by kernel_rfl) z82) (by kernel_rfl)))) (by kernel_rfl)
def ok27 (x:S27):Prop:=(Lit.int .i64 x.f0).wf=true∧(Lit.int .i64 x.f1).wf=true∧(x.f2.length≤maxLen∧∀ y ∈ x.f2,(Lit.int .i64 y).wf=true)∧(x.f3.length≤maxLen∧∀ y ∈ x.f3,(Lit.int .i64 y).wf=true)
theorem opens27:Opens Tryd.prog 27 k27 ok27:=Opens.struct (fun x:S27=>(x.f0,x.f1,x.f2,x.f3)) (fun x=>(⟨x.1,x.2.1,x.2.2.1,x.2.2.2⟩:S27)) (fun _=>rfl) Tryd.underlying27 (by rfl) (OpensF.cons (Opens.int Tryd.underlying3) (by kernel_rfl) (n1:=1) (by kernel_rfl) (OpensF.cons (Opens.int Tryd.underlying3) (by kernel_rfl) (n1:=2) (by kernel_rfl) (OpensF.cons (Opens.slice 3 Tryd.underlying25 (Opens.int Tryd.underlying3) (by kernel_rfl) (0:Int)) (by kernel_rfl) (n1:=3) (by kernel_rfl) (OpensF.last (Opens.slice 3 Tryd.underlying25 (Opens.int Tryd.underlying3) (by kernel_rfl) (0:Int)) (by kernel_rfl))))) (by kernel_rfl)
def ok56 (x:S56):Prop:=(Lit.int .i64 x.f0).wf=true∧(Lit.int .i64 x.f1).wf=true∧(Lit.int .i64 x.f2).wf=true∧(Lit.int .i64 x.f3).wf=true
theorem opens56:Opens Tryd.prog 56 k56 ok56:=Opens.array (fun x:S56=>(x.f0,x.f1,x.f2,x.f3)) (fun x=>(⟨x.1,x.2.1,x.2.2.1,x.2.2.2⟩:S56)) (fun _=>rfl) Tryd.underlying56 (by rfl) (OpensF.cons (Opens.int Tryd.underlying2) (by kernel_rfl) (n1:=1) (by kernel_rfl) (OpensF.cons (Opens.int Tryd.underlying2) (by kernel_rfl) (n1:=2) (by kernel_rfl) (OpensF.cons (Opens.int Tryd.underlying2) (by kernel_rfl) (n1:=3) (by kernel_rfl) (OpensF.last (Opens.int Tryd.underlying2) (by kernel_rfl))))) (by kernel_rfl)
def ok30 (x:S30):Prop:=ok24 x.f0∧ok27 x.f1∧(x.f2.length≤maxLen∧∀ y ∈ x.f2,ok56 y)
theorem opens30:Opens Tryd.prog 30 k30 ok30:=Opens.struct (fun x:S30=>(x.f0,x.f1,x.f2)) (fun x=>(⟨x.1,x.2.1,x.2.2⟩:S30)) (fun _=>rfl) Tryd.underlying30 (by rfl) (OpensF.cons opens24 (by kernel_rfl) (n1:=3) (by kernel_rfl) (OpensF.cons opens27 (by kernel_rfl) (n1:=7) (by kernel_rfl) (OpensF.last (Opens.slice 56 Tryd.underlying28 opens56 (by kernel_rfl) z56) (by kernel_rfl)))) (by kernel_rfl)
end Go.Proofs.YtgnaaokhfpfglaaDoor.PCertTold
end
section
namespace Go.Proofs.YtgnaaokhfpfglaaDoor.PCertTold
open Go.RowKit Go.Proofs.YtgnaaokhfpfglaaDoorW.PrintWords Go.Proofs.YtgnaaokhfpfglaaDoorW.PrintLast Go.Proofs.YtgnaaokhfpfglaaDoorW.PrintMore
attribute [local go_sem] qaW qaU qa3 qa2 qaN qaM qaV qaT
set_option linter.unusedVariables false
set_option linter.unusedSimpArgs false
noncomputable section
theorem eqA49 (d:Nat) (w:World) (x0 y0:Int) (x1 y1:Int) (x2 y2:Int) (x3 y3:Int) :
  (Op.equalIn (d+2) 49 (.agg #[.int .i64 x0,.int .i64 x1,.int .i64 x2,.int .i64 x3]) (.agg #[.int .i64 y0,.int .i64 y1,.int .i64 y2,.int .i64 y3])).run Tryd.prog w=.ok (x0 == y0 && (x1 == y1 && (x2 == y2 && (x3 == y3)))) w:=by
 refine eqA_of Tryd.underlying49 (by kernel_rfl) ?_
 refine eqf_cons (by rfl) (by go_simp;rfl) (by go_simp;rfl) (by go_simp) ?_
 refine eqf_cons (by rfl) (by go_simp;rfl) (by go_simp;rfl) (by go_simp) ?_
 refine eqf_cons (by rfl) (by go_simp;rfl) (by go_simp;rfl) (by go_simp) ?_
 exact eqf_last (by rfl) (by go_simp;rfl) (by go_simp;rfl) (by go_simp)
end
end Go.Proofs.YtgnaaokhfpfglaaDoor.PCertTold
end
section
namespace Go.Proofs.YtgnaaokhfpfglaaDoor.PCertTold
open Go.RowKit Go.Proofs.YtgnaaokhfpfglaaDoorW.PrintWords Go.Proofs.YtgnaaokhfpfglaaDoorW.PrintLast Go.Proofs.YtgnaaokhfpfglaaDoorW.PrintMore
attribute [local go_sem] qaW qaU qa3 qa2 qaN qaM qaV qaT
set_option linter.unusedVariables false
set_option linter.unusedSimpArgs false
noncomputable section
def cert_Policy.f (a0:Int):Option (ByteArray):=if a0=1 then (some (⟨#[101,100,102]⟩:ByteArray)) else (if a0=2 then (some (⟨#[102,112]⟩:ByteArray)) else (some (⟨#[]⟩:ByteArray)))
theorem cert_Policy.calls (a0:Int) (r:ByteArray) (w:World) (h:cert_Policy.f a0=some r) :
  Calls Tryd.prog 11 #[.int .i64 a0] w fun e w'=>e=.returned (.string r)∧qar w w':=by
 have H:(if a0=1 then (some (⟨#[101,100,102]⟩:ByteArray)) else (if a0=2 then (some (⟨#[102,112]⟩:ByteArray)) else (some (⟨#[]⟩:ByteArray))))=some r:=h
 clear h
 by_cases c2:a0=1
 ·rw [if_pos c2] at H
  have aa:(a0 == 1)=true:=beq_iff_eq.mpr c2
  have ab:(a0 != 1)=false:=bne_eq_false_iff_eq.mpr c2
  clear c2
  obtain rfl:=Option.some.inj H
  go_enter Tryd.func11,Tryd.ntmps11
  go_wp2
  go_ret
  exact⟨by first|rfl|(simp;done)|(simp [*];done),by repeat (first|exact qar.refl _|apply qar.step)⟩
 ·rw [if_neg c2] at H
  have aa:(a0 == 1)=false:=beq_eq_false_iff_ne.mpr c2
  have ab:(a0 != 1)=true:=bne_iff_ne.mpr c2
  by_cases c3:a0=2
  ·rw [if_pos c3] at H
   have ac:(a0 == 2)=true:=beq_iff_eq.mpr c3
   have ae:(a0 != 2)=false:=bne_eq_false_iff_eq.mpr c3
   clear c3
   obtain rfl:=Option.some.inj H
   go_enter Tryd.func11,Tryd.ntmps11
   go_wp2
   go_ret
   exact⟨by first|rfl|(simp;done)|(simp [*];done),by repeat (first|exact qar.refl _|apply qar.step)⟩
  ·rw [if_neg c3] at H
   have ac:(a0 == 2)=false:=beq_eq_false_iff_ne.mpr c3
   have ae:(a0 != 2)=true:=bne_iff_ne.mpr c3
   obtain rfl:=Option.some.inj H
   go_enter Tryd.func11,Tryd.ntmps11
   go_wp2
   go_ret
   exact⟨by first|rfl|(simp;done)|(simp [*];done),by repeat (first|exact qar.refl _|apply qar.step)⟩
def cert_Mode.f (a0:Int):Option (ByteArray):=if a0=1 then (some (⟨#[102,117,108,108]⟩:ByteArray)) else (if a0=2 then (some (⟨#[116,104,114,101,115,104,111,108,100,115]⟩:ByteArray)) else (if a0=3 then (some (⟨#[99,104,117,110,107,101,100]⟩:ByteArray)) else (if a0=4 then (some (⟨#[102,108,111,97,116,105,110,103]⟩:ByteArray)) else (some (⟨#[]⟩:ByteArray)))))
theorem cert_Mode.calls (a0:Int) (r:ByteArray) (w:World) (h:cert_Mode.f a0=some r) :
  Calls Tryd.prog 13 #[.int .i64 a0] w fun e w'=>e=.returned (.string r)∧qar w w':=by
 have H:(if a0=1 then (some (⟨#[102,117,108,108]⟩:ByteArray)) else (if a0=2 then (some (⟨#[116,104,114,101,115,104,111,108,100,115]⟩:ByteArray)) else (if a0=3 then (some (⟨#[99,104,117,110,107,101,100]⟩:ByteArray)) else (if a0=4 then (some (⟨#[102,108,111,97,116,105,110,103]⟩:ByteArray)) else (some (⟨#[]⟩:ByteArray))))))=some r:=h
 clear h
 by_cases c2:a0=1
 ·rw [if_pos c2] at H
  have aa:(a0 == 1)=true:=beq_iff_eq.mpr c2
  have ab:(a0 != 1)=false:=bne_eq_false_iff_eq.mpr c2
  clear c2
  obtain rfl:=Option.some.inj H
  go_enter Tryd.func13,Tryd.ntmps13
  go_wp2
  go_ret
  exact⟨by first|rfl|(simp;done)|(simp [*];done),by repeat (first|exact qar.refl _|apply qar.step)⟩
 ·rw [if_neg c2] at H
  have aa:(a0 == 1)=false:=beq_eq_false_iff_ne.mpr c2
  have ab:(a0 != 1)=true:=bne_iff_ne.mpr c2
  by_cases c3:a0=2
  ·rw [if_pos c3] at H
   have ac:(a0 == 2)=true:=beq_iff_eq.mpr c3
   have ae:(a0 != 2)=false:=bne_eq_false_iff_eq.mpr c3
   clear c3
   obtain rfl:=Option.some.inj H
   go_enter Tryd.func13,Tryd.ntmps13
   go_wp2
   go_ret
   exact⟨by first|rfl|(simp;done)|(simp [*];done),by repeat (first|exact qar.refl _|apply qar.step)⟩
  ·rw [if_neg c3] at H
   have ac:(a0 == 2)=false:=beq_eq_false_iff_ne.mpr c3
   have ae:(a0 != 2)=true:=bne_iff_ne.mpr c3
   by_cases c4:a0=3
   ·rw [if_pos c4] at H
    have af:(a0 == 3)=true:=beq_iff_eq.mpr c4
    have ag:(a0 != 3)=false:=bne_eq_false_iff_eq.mpr c4
    clear c4
    obtain rfl:=Option.some.inj H
    go_enter Tryd.func13,Tryd.ntmps13
    go_wp2
    go_ret
    exact⟨by first|rfl|(simp;done)|(simp [*];done),by repeat (first|exact qar.refl _|apply qar.step)⟩
   ·rw [if_neg c4] at H
    have af:(a0 == 3)=false:=beq_eq_false_iff_ne.mpr c4
    have ag:(a0 != 3)=true:=bne_iff_ne.mpr c4
    by_cases c5:a0=4
    ·rw [if_pos c5] at H
     have ah:(a0 == 4)=true:=beq_iff_eq.mpr c5
     have ai:(a0 != 4)=false:=bne_eq_false_iff_eq.mpr c5
     clear c5
     obtain rfl:=Option.some.inj H
     go_enter Tryd.func13,Tryd.ntmps13
     go_wp2
     go_ret
     exact⟨by first|rfl|(simp;done)|(simp [*];done),by repeat (first|exact qar.refl _|apply qar.step)⟩
    ·rw [if_neg c5] at H
     have ah:(a0 == 4)=false:=beq_eq_false_iff_ne.mpr c5
     have ai:(a0 != 4)=true:=bne_iff_ne.mpr c5
     obtain rfl:=Option.some.inj H
     go_enter Tryd.func13,Tryd.ntmps13
     go_wp2
     go_ret
     exact⟨by first|rfl|(simp;done)|(simp [*];done),by repeat (first|exact qar.refl _|apply qar.step)⟩
def cert_within_int.f (a0:Int) (l1:List Int):Option Bool:=if l1.length≤4000000 then some (inA a0 l1) else none
theorem cert_within_int.calls (a0:Int) (A1:Option Addr) (c1:Nat) (l1:List Int) (r:Bool) (w:World) (aa:Kd.C (Kd.int .i64) w A1 l1.length l1) (ab:l1.length≤c1) (h:cert_within_int.f a0 l1=some r) :
  Calls Tryd.prog 45 #[.int .i64 a0,.slice A1 l1.length c1] w fun e w'=>e=.returned (.bool r)∧Below w.heap.size w w':=by
 unfold cert_within_int.f at h
 split at h
 ·rename_i h1
  obtain rfl:=Option.some.inj h
  refine (inAI_any a0 A1 c1 l1 w h1 (nrow_of_C aa)).mono ?_
  rintro e w' ⟨he,rfl⟩
  exact⟨he,Below.refl _ _⟩
 ·cases h
def cert_within_int64.f (a0:Int) (l1:List Int):Option Bool:=if l1.length≤4000000 then some (inA a0 l1) else none
theorem cert_within_int64.calls (a0:Int) (A1:Option Addr) (c1:Nat) (l1:List Int) (r:Bool) (w:World) (aa:Kd.C (Kd.int .i64) w A1 l1.length l1) (ab:l1.length≤c1) (h:cert_within_int64.f a0 l1=some r) :
  Calls Tryd.prog 46 #[.int .i64 a0,.slice A1 l1.length c1] w fun e w'=>e=.returned (.bool r)∧Below w.heap.size w w':=by
 unfold cert_within_int64.f at h
 split at h
 ·rename_i h1
  obtain rfl:=Option.some.inj h
  refine (inAL_any a0 A1 c1 l1 w h1 (nrow_of_C aa)).mono ?_
  rintro e w' ⟨he,rfl⟩
  exact⟨he,Below.refl _ _⟩
 ·cases h
def tkOf (x:S53):Tk:=⟨x.f0,x.f1,x.f2,x.f3,x.f4,x.f5,x.f6⟩
theorem C_of_tk {w:World} {A:Option Addr} {L:List S53} (h:Kd.C k53 w A L.length L):Kd.C kTk w A (L.map tkOf).length (L.map tkOf):=by
 obtain⟨h1,h2,h3⟩:=h
 refine⟨rfl,by rw [List.length_map];exact h2,fun hl=>?_⟩
 rw [List.length_map] at hl
 obtain⟨ad,e,hc⟩:=h3 hl
 refine⟨ad,e,fun j p hj=>?_⟩
 rw [List.getElem?_map] at hj
 cases hx:L[j]? with
 |none=>rw [hx] at hj;cases hj
 |some x=>
  rw [hx] at hj
  obtain rfl:=Option.some.inj hj
  obtain⟨c,a1,a2,a3⟩:=hc j x hx
  exact⟨c,a1,a2,a3⟩
def chkOk (L:List S53):Bool:=decide (L.length≤70000) && L.all fun x=>decide (x.f5.length≤4000000) && decide (x.f6.length≤4000000) && decide (x.f1≤9223372036854775807)
def tasks_Check.f (ab ac:Int) (aa:List S53):Option Int:=if chkOk aa=true then some (checkE ab ac (aa.map tkOf)) else none
theorem tasks_Check.calls (ab:Int) (ac:Int) (A0_2:Option Addr) (c0_2:Nat) (aa:List S53) (r:Int) (w:World) (hr0_2:Kd.C k53 w A0_2 aa.length aa) (hc0_2:aa.length≤c0_2) (h:tasks_Check.f ab ac aa=some r) :
  Calls Tryd.prog 47 #[.agg #[.int .i64 ab,.int .i64 ac,.slice A0_2 aa.length c0_2]] w fun e w'=>e=.returned (.int .i64 r)∧Below w.heap.size w w':=by
 unfold tasks_Check.f at h
 split at h
 ·rename_i h1
  obtain rfl:=Option.some.inj h
  unfold chkOk at h1
  simp only [Bool.and_eq_true,decide_eq_true_eq] at h1
  have:=check_any ab ac A0_2 c0_2 (aa.map tkOf) w (by rw [List.length_map];omega) (fun x hx=>by
   obtain⟨y,hy,rfl⟩:=List.mem_map.1 hx
   have:=List.all_eq_true.1 h1.2 y hy
   simp only [Bool.and_eq_true,decide_eq_true_eq] at this
   exact⟨this.1.1,this.1.2,this.2⟩) (tkrow_of_C (C_of_tk hr0_2))
  rw [List.length_map] at this
  exact this
 ·cases h
def cert_may_1.f (aa:Int) (ab:Int) (ac:Int) (ae:Int):Option (Bool):=(cert_within_int.f 99 (([aa]:List Int))).bind fun af=>(if af=true then ((cert_within_int64.f 1099511627776 (([ab,ac,ae]:List Int))).bind fun ag=>(some (!ag))) else (some true))
theorem cert_may_1.calls (ac:Int) (ae:Int) (af:Int) (ag:Int) (r:Bool) (w:World) (h:cert_may_1.f ac ae af ag=some r) :
  Calls Tryd.prog 44 #[.agg #[.int .i64 ac,.int .i64 ae,.int .i64 af,.int .i64 ag]] w fun e w'=>e=.returned (.bool r)∧Below w.heap.size w w':=by
 have bx:=Tryd.underlying49
 have HB:=qaa.mk (Below.refl w.heap.size w)
 have H:((cert_within_int.f 99 (([ac]:List Int))).bind fun aq=>(if aq=true then ((cert_within_int64.f 1099511627776 (([ae,af,ag]:List Int))).bind fun ah=>(some (!ah))) else (some true)))=some r:=h
 clear h
 obtain⟨ar,ai⟩:∃ y_:List Int,y_=(([ac]:List Int)):=⟨_,rfl⟩
 replace H:((cert_within_int.f 99 ar).bind fun aq=>(if aq=true then ((cert_within_int64.f 1099511627776 (([ae,af,ag]:List Int))).bind fun ah=>(some (!ah))) else (some true)))=some r:=by first|(rw [ai];with_reducible exact H)|(have ay:=(Option.bind_some _ _).symm.trans H;rw [ai];with_reducible exact ay)|(have ay:=(Option.bind_some _ _).symm.trans H;with_reducible exact ay)|with_reducible exact H|(rw [ai];exact H)|exact H
 have ap:=qaa.mk ai
 clear ai
 replace H:=Option.bind_eq_some_iff.mp H
 obtain⟨aq,bt,H⟩:=H
 replace H:(if aq=true then ((cert_within_int64.f 1099511627776 (([ae,af,ag]:List Int))).bind fun ah=>(some (!ah))) else (some true))=some r:=H
 have A2:=qaa.mk bt
 clear bt
 by_cases c3:aq=true
 ·subst c3
  have H1:((cert_within_int64.f 1099511627776 (([ae,af,ag]:List Int))).bind fun ah=>(some (!ah)))=some r:=by rw [if_pos rfl] at H;exact H
  clear H
  have H:=H1
  clear H1
  obtain⟨az,aj⟩:∃ y_:List Int,y_=(([ae,af,ag]:List Int)):=⟨_,rfl⟩
  replace H:((cert_within_int64.f 1099511627776 az).bind fun ah=>(some (!ah)))=some r:=by first|(rw [aj];with_reducible exact H)|(have ay:=(Option.bind_some _ _).symm.trans H;rw [aj];with_reducible exact ay)|(have ay:=(Option.bind_some _ _).symm.trans H;with_reducible exact ay)|with_reducible exact H|(rw [aj];exact H)|exact H
  have ax:=qaa.mk aj
  clear aj
  replace H:=Option.bind_eq_some_iff.mp H
  obtain⟨ah,bv,H⟩:=H
  replace H:(some (!ah))=some r:=H
  have A4:=qaa.mk bv
  clear bv
  obtain rfl:=Option.some.inj H
  go_enter Tryd.func44,Tryd.ntmps44
  go_wp2_with (first|((with_reducible refine qap (N:=1) rfl ?_);(try (refine qaI (by rfl) ?_;dsimp only));refine qao ?hg (N:=1) ?hd (cs:=#[.int .i64 ac,.int .i64 ae,.int .i64 af,.int .i64 ag]) (t:=49) ?hr ?_;(case hd=>rfl);(case hg=>rfl);(case hr=>first|(go_simp;done)|(go_simp;rfl));intro ak hg w5 hbox hb;have aa:=qaa.mk (hbox);have aA:=qaa.mk ((by rw [hg];exact (qac sB):w.heap.size≤ak));have au:=qaa.mk ((by rw [hg];exact (qac sB):w.heap.size≤ak));replace HB:=qaa.mk (qai sB hb);clear hb hbox hg;obtain⟨aZ,a8,ba,be⟩:=sC4 (w:=w5) aa.out;obtain⟨bf,bg,bh,bi⟩:=sF4 aa.out)|((with_reducible refine qap (N:=5) rfl ?_);(try (refine qaI (by rfl) ?_;dsimp only));refine Kd.R_lit (Kd.int .i64) _ 3 ?hg (N:=5) ?hd (xs:=([ac]:List Int)) (inner:=[.int .i64 ac]) (ok:=fun _=>True) (okp:=fun _=>True) ?hr ?hp (fun _ hk=>hk) trivial (Below.refl _ _) (Nat.le_refl _) (by simp) ?_;(case hd=>rfl);(case hg=>rfl);(case hr=>first|(go_simp;done)|(go_simp;rfl));(case hp=>exact (Reps.one (show Kd.M (Kd.int .i64) _ _ _ ac [.int .i64 ac] from rfl) (Reps.none _ _)));intro bj w7 aC hb hg_ hnew_;clear hg_ hnew_;(first|rw [← ap.out] at aC|(simp only [Int.reduceToNat] at aC;rw [← ap.out] at aC));have ab:=qaa.mk (Kd.R_lower aC (qac sB));replace aa:=qaa.mk (sKb aa.out hb);replace HB:=qaa.mk (qai sB hb);clear hb aC;obtain⟨bz,bB,bC⟩:=Kd.R_slice ab.out;subst bC)|((with_reducible refine qaA (f:=45) rfl ?_);refine qa7 (some 6) rfl rfl Tryd.func45 (by kernel_rfl) rfl #[.int .i64 99,.slice bz ar.length bB] rfl (by (try simp only [List.map_toArray,List.map_cons,List.map_nil]);first|done|rfl|(simp only [List.length_drop,List.length_take];rfl)) ?_;(with_reducible refine (cert_within_int.calls 99 _ _ ar true _ ?al ?am A2.out).mono ?_);(case al=>repeat (first|exact (Kd.R_reads' ab.out).2.2|(with_reducible refine Kd.C_alloc ?_ _)|(with_reducible refine Kd.C_drewN ?_ _)|(with_reducible refine Kd.C_drew ?_)));(case am=>exact (Kd.R_reads' ab.out).2.1);rintro e bD ⟨rfl,hb⟩;refine⟨_,rfl,?_⟩;replace ab:=qaa.mk (Kd.R_below (sR ab.out) hb);replace aa:=qaa.mk (sKb aa.out hb);replace HB:=qaa.mk (qai sB hb);(try clear hb);(try clear bw);(try clear hk);(try clear hi);obtain⟨aD,aE,aG,aH⟩:=sC4 (w:=bD) aa.out;obtain⟨aI,aJ,aK,aM⟩:=sF4 aa.out)|((with_reducible refine qap (N:=15) rfl ?_);(try (refine qaI (by rfl) ?_;dsimp only));refine Kd.R_lit (Kd.int .i64) _ 2 ?hg (N:=15) ?hd (xs:=([ae,af,ag]:List Int)) (inner:=[.int .i64 ae,.int .i64 af,.int .i64 ag]) (ok:=fun _=>True) (okp:=fun _=>True) ?hr ?hp (fun _ hk=>hk) trivial (Below.refl _ _) (Nat.le_refl _) (by simp) ?_;(case hd=>rfl);(case hg=>rfl);(case hr=>first|(go_simp;done)|(go_simp;rfl));(case hp=>exact (Reps.one (show Kd.M (Kd.int .i64) _ _ _ ae [.int .i64 ae] from rfl) (Reps.one (show Kd.M (Kd.int .i64) _ _ _ af [.int .i64 af] from rfl) (Reps.one (show Kd.M (Kd.int .i64) _ _ _ ag [.int .i64 ag] from rfl) (Reps.none _ _)))));intro bE bI av hb hg_ hnew_;clear hg_ hnew_;(first|rw [← ax.out] at av|(simp only [Int.reduceToNat] at av;rw [← ax.out] at av));replace ab:=qaa.mk (Kd.R_below (sR ab.out) hb);have an:=qaa.mk (Kd.R_lower av (qac sB));replace aa:=qaa.mk (sKb aa.out hb);replace HB:=qaa.mk (qai sB hb);clear hb av;obtain⟨bF,bG,bm⟩:=Kd.R_slice an.out;subst bm)|(go_at_call 46;(with_reducible refine (cert_within_int64.calls 1099511627776 _ _ az ah _ ?al ?am A4.out).mono ?_);(case al=>repeat (first|exact (Kd.R_reads' an.out).2.2|(with_reducible refine Kd.C_alloc ?_ _)|(with_reducible refine Kd.C_drewN ?_ _)|(with_reducible refine Kd.C_drew ?_)));(case am=>exact (Kd.R_reads' an.out).2.1);rintro e bJ ⟨rfl,hb⟩;replace ab:=qaa.mk (Kd.R_below (sR ab.out) hb);replace an:=qaa.mk (Kd.R_below (sR an.out) hb);replace aa:=qaa.mk (sKb aa.out hb);replace HB:=qaa.mk (qai sB hb);(try clear hb);(try clear bw);(try clear hk);(try clear hi)))
  go_ret
  exact⟨by first|rfl|(simp [qam,qal]<;>rfl)|(simp [bneNil,bneNilU]<;>rfl)|(simp [*,qam,qal]<;>rfl),by repeat (first|(with_reducible first|exact HB.out|apply qah|apply qae|apply qag|refine qad ?_ au.out)|exact HB.out)⟩
 ·replace c3:=Bool.eq_false_iff.mpr c3
  subst c3
  have H1:(some true)=some r:=by rw [if_neg (show ¬ (false=true) by decide)] at H;exact H
  clear H
  have H:=H1
  clear H1
  obtain rfl:=Option.some.inj H
  go_enter Tryd.func44,Tryd.ntmps44
  go_wp2_with (first|((with_reducible refine qap (N:=1) rfl ?_);(try (refine qaI (by rfl) ?_;dsimp only));refine qao ?hg (N:=1) ?hd (cs:=#[.int .i64 ac,.int .i64 ae,.int .i64 af,.int .i64 ag]) (t:=49) ?hr ?_;(case hd=>rfl);(case hg=>rfl);(case hr=>first|(go_simp;done)|(go_simp;rfl));intro ak hg bH hbox hb;have aa:=qaa.mk (hbox);have aA:=qaa.mk ((by rw [hg];exact (qac sB):w.heap.size≤ak));have au:=qaa.mk ((by rw [hg];exact (qac sB):w.heap.size≤ak));replace HB:=qaa.mk (qai sB hb);clear hb hbox hg;obtain⟨aN,aQ,aT,aU⟩:=sC4 (w:=bH) aa.out;obtain⟨aV,aW,aX,aY⟩:=sF4 aa.out)|((with_reducible refine qap (N:=5) rfl ?_);(try (refine qaI (by rfl) ?_;dsimp only));refine Kd.R_lit (Kd.int .i64) _ 3 ?hg (N:=5) ?hd (xs:=([ac]:List Int)) (inner:=[.int .i64 ac]) (ok:=fun _=>True) (okp:=fun _=>True) ?hr ?hp (fun _ hk=>hk) trivial (Below.refl _ _) (Nat.le_refl _) (by simp) ?_;(case hd=>rfl);(case hg=>rfl);(case hr=>first|(go_simp;done)|(go_simp;rfl));(case hp=>exact (Reps.one (show Kd.M (Kd.int .i64) _ _ _ ac [.int .i64 ac] from rfl) (Reps.none _ _)));intro bj bK aw hb hg_ hnew_;clear hg_ hnew_;(first|rw [← ap.out] at aw|(simp only [Int.reduceToNat] at aw;rw [← ap.out] at aw));have ab:=qaa.mk (Kd.R_lower aw (qac sB));replace aa:=qaa.mk (sKb aa.out hb);replace HB:=qaa.mk (qai sB hb);clear hb aw;obtain⟨bn,bp,bq⟩:=Kd.R_slice ab.out;subst bq)|((with_reducible refine qaA (f:=45) rfl ?_);refine qa7 (some 6) rfl rfl Tryd.func45 (by kernel_rfl) rfl #[.int .i64 99,.slice bn ar.length bp] rfl (by (try simp only [List.map_toArray,List.map_cons,List.map_nil]);first|done|rfl|(simp only [List.length_drop,List.length_take];rfl)) ?_;(with_reducible refine (cert_within_int.calls 99 _ _ ar false _ ?al ?am A2.out).mono ?_);(case al=>repeat (first|exact (Kd.R_reads' ab.out).2.2|(with_reducible refine Kd.C_alloc ?_ _)|(with_reducible refine Kd.C_drewN ?_ _)|(with_reducible refine Kd.C_drew ?_)));(case am=>exact (Kd.R_reads' ab.out).2.1);rintro e bL ⟨rfl,hb⟩;refine⟨_,rfl,?_⟩;replace ab:=qaa.mk (Kd.R_below (sR ab.out) hb);replace aa:=qaa.mk (sKb aa.out hb);replace HB:=qaa.mk (qai sB hb);(try clear hb);(try clear bw);(try clear hk);(try clear hi)))
  go_ret
  exact⟨by first|rfl|(simp [qam,qal]<;>rfl)|(simp [bneNil,bneNilU]<;>rfl)|(simp [*,qam,qal]<;>rfl),by repeat (first|(with_reducible first|exact HB.out|apply qah|apply qae|apply qag|refine qad ?_ au.out)|exact HB.out)⟩
def bdOf (x:S49):Bd:=⟨x.f0,x.f1,x.f2,x.f3⟩
theorem k_bd {w:World} {x:S49} {c:List Value} (h:k49.K w x c):c=[.int .i64 (bdOf x).i,.int .i64 (bdOf x).g,.int .i64 (bdOf x).t,.int .i64 (bdOf x).k]:=k49_open h
theorem bdrow_of_C {w:World} {A:Option Addr} {l:List S49} (h:Kd.C k49 w A l.length l):BdRow w w.heap.size A (l.map bdOf):=by
 intro hl
 rw [List.length_map] at hl
 obtain⟨_,_,h⟩:=h
 obtain⟨ad,rfl,hc⟩:=h hl
 have hat:∀ j,j<l.length→∀ i u,((l.map bdOf)[j]?.map fun x=>[Value.int .i64 x.i,.int .i64 x.g,.int .i64 x.t,.int .i64 x.k]).bind (·[i]?)=some u→w.cell? (ad.add (j * 4+i))=some u:=by
  intro j hj i u hu
  obtain⟨c,_,hk,hcell⟩:=hc j _ (List.getElem?_eq_getElem hj)
  obtain rfl:=k_bd hk
  refine hcell i u ?_
  rw [List.getElem?_map,List.getElem?_eq_getElem hj] at hu
  exact hu
 have h00:=hat 0 hl 0 _ (by rw [List.getElem?_map,List.getElem?_eq_getElem hl];rfl)
 have hsp:=World.cell?_spot h00
 have hlt:=bLt w _ h00
 obtain⟨b,off,spot⟩:=ad
 have hs:spot=none:=by simpa [Addr.add] using hsp
 subst hs
 have hadd:∀ j,(⟨b,off,none⟩:Addr).add j=⟨b,off+j,none⟩:=fun j=>by unfold Addr.add;split<;>simp_all
 refine⟨b,off,rfl,by simpa [hadd] using hlt,fun i hi=>?_⟩
 have hi':i<l.length:=by simpa using hi
 have g0:=hat i hi' 0 _ (by rw [List.getElem?_map,List.getElem?_eq_getElem hi'];rfl)
 have g1:=hat i hi' 1 _ (by rw [List.getElem?_map,List.getElem?_eq_getElem hi'];rfl)
 have g2:=hat i hi' 2 _ (by rw [List.getElem?_map,List.getElem?_eq_getElem hi'];rfl)
 have g3:=hat i hi' 3 _ (by rw [List.getElem?_map,List.getElem?_eq_getElem hi'];rfl)
 rw [hadd] at g0 g1 g2 g3
 rw [List.getElem_map]
 exact⟨g0,by rw [Nat.add_assoc];exact g1,by rw [Nat.add_assoc];exact g2,by rw [Nat.add_assoc];exact g3⟩
theorem may_1_is (x:Bd):cert_may_1.f x.i x.g x.t x.k=some (wrongB x):=by
 unfold cert_may_1.f cert_within_int.f cert_within_int64.f wrongB
 rw [if_pos (by simp),if_pos (by simp)]
 cases inA 99 [x.i]<;>simp
def api_Bound_48.f (l0:List S49) (_:ByteArray):Option Bool:=if l0.length≤4000000 then some ((l0.map bdOf).any wrongB) else none
theorem api_Bound_48.calls (A0:Option Addr) (c0:Nat) (l0:List S49) (a1:ByteArray) (r:Bool) (w:World) (aa:Kd.C k49 w A0 l0.length l0) (ab:l0.length≤c0) (h:api_Bound_48.f l0 a1=some r) :
  Calls Tryd.prog 48 #[.slice A0 l0.length c0,.func (Fn.func 44) #[] #[]] w fun e w'=>e=.returned (.bool r)∧Below w.heap.size w w':=by
 unfold api_Bound_48.f at h
 split at h
 ·rename_i h1
  obtain rfl:=Option.some.inj h
  have:=boundContains_any wrongB A0 c0 (l0.map bdOf) w (by rw [List.length_map];exact h1) (bdrow_of_C aa) (fun x _ W=>cert_may_1.calls _ _ _ _ _ W (may_1_is x))
  rw [List.length_map] at this
  exact this
 ·cases h
def polP (p:Int):ByteArray:=if p=1 then ⟨#[101,100,102]⟩ else if p=2 then ⟨#[102,112]⟩ else ⟨#[]⟩
def modeP (m:Int):ByteArray:=if m=1 then ⟨#[102,117,108,108]⟩ else if m=2 then ⟨#[116,104,114,101,115,104,111,108,100,115]⟩ else if m=3 then ⟨#[99,104,117,110,107,101,100]⟩ else if m=4 then ⟨#[102,108,111,97,116,105,110,103]⟩ else ⟨#[]⟩
theorem pol_is (p:Int):cert_Policy.f p=some (polP p):=by
 unfold cert_Policy.f polP
 by_cases h1:p=1
 ·simp [h1]
 ·by_cases h2:p=2
  ·simp [h2]
  ·simp [h1,h2]
theorem mode_is (m:Int):cert_Mode.f m=some (modeP m):=by
 unfold cert_Mode.f modeP
 by_cases h1:m=1
 ·simp [h1]
 ·by_cases h2:m=2
  ·simp [h2]
  ·by_cases h3:m=3
   ·simp [h3]
   ·by_cases h4:m=4
    ·simp [h4]
    ·simp [h1,h2,h3,h4]
theorem polP_empty (p:Int):(polP p).toList=([]:List UInt8)↔¬ (1≤p∧p≤2):=by
 rw [Lib.toList_data]
 unfold polP
 split
 ·subst p;simp
 ·split
  ·subst p;simp
  ·simp;omega
theorem modeP_empty (m:Int):(modeP m).toList=([]:List UInt8)↔¬ (1≤m∧m≤4):=by
 rw [Lib.toList_data]
 unfold modeP
 split
 ·subst m;simp
 ·split
  ·subst m;simp
  ·split
   ·subst m;simp
   ·split
    ·subst m;simp
    ·simp;omega
theorem polP_size (p:Int):(polP p).size≤100:=by
 unfold polP
 split
 ·decide
 ·split<;>decide
theorem modeP_size (m:Int):(modeP m).size≤100:=by
 unfold modeP
 repeat' split
 all_goals decide
def mayV (s r:Int) (L:List Tk) (p m:Int) (th q:List Int) (bs:List Bd):Bool:=
 decide (checkE s r L=0) && decide (1≤p∧p≤2) && decide (1≤m∧m≤4) && decide (th.length≤64∧q.length≤64∧bs.length≤64) && inA 99 th && inA 1073741824 q && !(bs.any wrongB)
def crtOk (l2:List S53) (l5 l6:List Int) (l7:List S49):Bool:=chkOk l2 && decide (l5.length≤4000000∧l6.length≤4000000∧l7.length≤4000000)
theorem mayV_is (s r:Int) (L:List Tk) (p m:Int) (th q:List Int) (bs:List Bd):mayB (checkE s r L) (polP p).toList.isEmpty (modeP m).toList.isEmpty th.length q.length bs.length (inA 99 th) (inA 1073741824 q) (bs.any wrongB)=mayV s r L p m th q bs:=by
 have h1:(polP p).toList.isEmpty = !decide (1≤p∧p≤2):=by rw [Bool.eq_iff_iff,List.isEmpty_iff,polP_empty];simp;omega
 have h2:(modeP m).toList.isEmpty = !decide (1≤m∧m≤4):=by rw [Bool.eq_iff_iff,List.isEmpty_iff,modeP_empty];simp;omega
 unfold mayB mayV
 rw [h1,h2,Bool.not_not,Bool.not_not]
theorem drawn_below {w w':World} (h:qar w w'):Below w.heap.size w w':=by
 obtain⟨n,rfl⟩:=h
 exact below_drewN (Below.refl _ _) n
def cert_may.f (af ag:Int) (aa:List S53) (ah ai:Int) (ab ac:List Int) (ae:List S49):Option Bool:=if crtOk aa ab ac ae=true then some (mayV af ag (aa.map tkOf) ah ai ab ac (ae.map bdOf)) else none
theorem cert_may.calls (ah:Int) (ai:Int) (A0_2:Option Addr) (c0_2:Nat) (aa:List S53) (af:Int) (ag:Int) (A0_5:Option Addr) (c0_5:Nat) (ab:List Int) (A0_6:Option Addr) (c0_6:Nat) (ac:List Int) (A0_7:Option Addr) (c0_7:Nat) (ae:List S49) (r:Bool) (w:World) (hr0_2:Kd.C k53 w A0_2 aa.length aa) (hc0_2:aa.length≤c0_2) (hr0_5:Kd.C (Kd.int .i64) w A0_5 ab.length ab) (hc0_5:ab.length≤c0_5) (hr0_6:Kd.C (Kd.int .i64) w A0_6 ac.length ac) (hc0_6:ac.length≤c0_6) (hr0_7:Kd.C k49 w A0_7 ae.length ae) (hc0_7:ae.length≤c0_7) (h:cert_may.f ah ai aa af ag ab ac ae=some r) :
  Calls Tryd.prog 26 #[.agg #[.int .i64 ah,.int .i64 ai,.slice A0_2 aa.length c0_2,.int .i64 af,.int .i64 ag,.slice A0_5 ab.length c0_5,.slice A0_6 ac.length c0_6,.slice A0_7 ae.length c0_7]] w fun e w'=>e=.returned (.bool r)∧Below w.heap.size w w':=by
 unfold cert_may.f at h
 split at h
 ·rename_i h1
  obtain rfl:=Option.some.inj h
  unfold crtOk at h1
  simp only [Bool.and_eq_true,decide_eq_true_eq] at h1
  obtain⟨hk,h5,h6,h7⟩:=h1
  have:=certMay_any ah ai af ag A0_2 aa.length c0_2 A0_5 ab.length c0_5 A0_6 ac.length c0_6 A0_7 ae.length c0_7 w (checkE ah ai (aa.map tkOf)) (polP af) (modeP ag) (inA 99 ab) (inA 1073741824 ac) ((ae.map bdOf).any wrongB)
   (fun W hW=>tasks_Check.calls ah ai A0_2 c0_2 aa _ W (Kd.C_below hr0_2 hW) hc0_2 (by unfold tasks_Check.f;rw [if_pos hk]))
   (fun W=>(cert_Policy.calls af _ W (pol_is af)).mono (fun e w' h=>⟨h.1,drawn_below h.2⟩))
   (fun W=>(cert_Mode.calls ag _ W (mode_is ag)).mono (fun e w' h=>⟨h.1,drawn_below h.2⟩))
   (fun W hW=>cert_within_int.calls 99 A0_5 c0_5 ab _ W (Kd.C_below hr0_5 hW) hc0_5 (by unfold cert_within_int.f;rw [if_pos h5]))
   (fun W hW=>cert_within_int64.calls 1073741824 A0_6 c0_6 ac _ W (Kd.C_below hr0_6 hW) hc0_6 (by unfold cert_within_int64.f;rw [if_pos h6]))
   (fun W hW=>api_Bound_48.calls A0_7 c0_7 ae ⟨#[]⟩ _ W (Kd.C_below hr0_7 hW) hc0_7 (by unfold api_Bound_48.f;rw [if_pos h7]))
  rw [← mayV_is,List.length_map]
  exact this
 ·cases h
def lex_Digits.f (a0:Int):Option ByteArray:=if i64B a0=true then some ⟨(Lib.itoa a0).toArray⟩ else none
theorem lex_Digits.calls (a0:Int) (r:ByteArray) (w:World) (h:lex_Digits.f a0=some r) (hT:Tabs w) :
  Calls Tryd.prog 50 #[.int .i64 a0] w fun e w'=>e=.returned (.string r)∧Below w.heap.size w w':=by
 unfold lex_Digits.f at h
 split at h
 ·rename_i h1
  obtain rfl:=Option.some.inj h
  rw [i64B_iff] at h1
  exact qa5 a0 w h1.1 h1.2 hT.1.1.1
 ·cases h
def cert_long.l0:Nat→List Int→List Int→Int→Int→Option (List Int)
 |0,_,_,_,_=>none
 |k+1,x3,x6,x7,x8=>if x8<x7 then (if 0≤x8 then (if x8<(x6.length:Int) then (if x3.length<17592186044416 then (cert_long.l0 k (x3++[rd x6 x8]) x6 x7 (wrap64 (x8+1))) else (none)) else (none)) else (none)) else (some x3)
def cert_long.f (k:Nat) (l0:List Int):Option (List Int):=cert_long.l0 k ([]:List Int) l0 (l0.length:Int) 0
theorem cert_long.calls (k:Nat) (A0:Option Addr) (c0:Nat) (l0:List Int) (r:List Int) (w:World) (aq:Kd.C (Kd.int .i64) w A0 l0.length l0) (ar:l0.length≤c0) (h:cert_long.f k l0=some r) :
  Calls Tryd.prog 30 #[.slice A0 l0.length c0] w fun e w'=>∃ au:Value,e=.returned (au)∧Kd.R (Kd.int .i64) 2 w' w.heap.size (fun _=>True) au r∧Below w.heap.size w w':=by
 have ax:=qaa.mk aq
 have aC:=qaa.mk ar
 clear aq ar
 have HB:=qaa.mk (Below.refl w.heap.size w)
 have H:(cert_long.l0 k ([]:List Int) l0 (l0.length:Int) 0)=some r:=h
 clear h
 have H':=qaa.mk H
 clear H
 go_enter Tryd.func30,Tryd.ntmps30
 go_wp2
 go_loopg [3,8] k (fun kq v3 v8 w'=>∃ (ae:List Int) (aa:Int),v8=.int .i64 aa∧qaa (cert_long.l0 kq ae l0 (l0.length:Int) aa=some r)∧qaa (kq≤k)∧qaa (Kd.R (Kd.int .i64) 2 w' w.heap.size (fun _=>True) v3 ae)∧qaa (Below w.heap.size w w'))
 case atStart=>exact⟨(([]:List Int)),(0),(by first|rfl|(simp;done)|(simp [*];done)),H',⟨Nat.le_refl _⟩,⟨by first|exact Kd.R_nil _ _ _ _ _|exact Kd.N_nil _ _ _ _ _|exact Kd.V_nil _ _ _ _ _|exact Kd.Q_nil _ _ _ _ _|exact Kd.S_nil _ _ _ _ _⟩,⟨by repeat (first|(with_reducible first|exact HB.out|apply qah|apply qae|apply qag)|exact HB.out)⟩⟩
 case round=>
  clear H'
  obtain⟨ae,aa,rfl,HA,av,af,HB⟩:=hrel
  cases gk with
  |zero=>exact absurd HA.out (by simp [cert_long.l0])
  |succ k1=>
   have H:=HA.out
   clear HA
   simp only [cert_long.l0] at H
   by_cases c2:aa<(l0.length:Int)
   ·rw [if_pos c2] at H
    have al:decide (aa<(l0.length:Int))=true:=decide_eq_true c2
    clear c2
    by_cases c3:0≤aa
    ·rw [if_pos c3] at H
     have ay:decide (0≤aa)=true:=decide_eq_true c3
     clear c3
     by_cases c4:aa<(l0.length:Int)
     ·rw [if_pos c4] at H
      have az:decide (aa<(l0.length:Int))=true:=decide_eq_true c4
      clear c4
      by_cases c5:ae.length<17592186044416
      ·rw [if_pos c5] at H
       have am:=qaa.mk c5
       clear c5
       obtain⟨ai,ac⟩:∃ y_:List Int,y_=(ae++[rd l0 aa]):=⟨_,rfl⟩
       replace H:(cert_long.l0 k1 ai l0 (l0.length:Int) (wrap64 (aa+1)))=some r:=by first|(rw [ac];with_reducible exact H)|(have an:=(Option.bind_some _ _).symm.trans H;rw [ac];with_reducible exact an)|(have an:=(Option.bind_some _ _).symm.trans H;with_reducible exact an)|with_reducible exact H|(rw [ac];exact H)|exact H
       have aj:=qaa.mk ac
       clear ac
       have H':=qaa.mk H
       clear H
       have ag:0≤(aa:Int):=of_decide_eq_true sA
       have ah:aa<(l0.length:Int):=of_decide_eq_true sA
       obtain⟨aw,ap,ab⟩:=Kd.at_int ax.out aa ag ah
       cases ap
       replace ab:=(HB.out.cell (bLt w _ ab)).trans ab
       replace ag:=eq_true ag
       replace ah:=eq_true ah
       go_wp2_with (first|((with_reducible refine qaB (b:=.append) (xs:=#[.tmp 12,.tmp 14]) rfl ?_);at_builtin;refine Kd.R_append (Kd.int .i64) (w0:=w) w.heap.size rfl (.tmp 12) (.tmp 14) 34 2 (.int .i64 0) 8 rfl Tryd.underlying34 info2 rfl (by decide) (by omega) u3 ae (rd l0 aa) [.int .i64 (rd l0 aa)] (fun _=>True) (fun _=>False) rfl rfl ?aP (fun _ hk=>hk.elim) ?aF ?aO ?aB ?aS ?aL ?_;(case aP=>exact rfl);(case aB=>exact sB);(case aF=>exact (fun _ _=>trivial));(case aO=>exact (sR af.out));(case aS=>exact (qac sB));(case aL=>have:=am.out;omega);intro aA w6 ho hb hg hat;rw [← aj.out] at ho;replace HB:=qaa.mk (hb);have ak:=qaa.mk (ho);clear af ho hb hg hat))
       go_roundg k1
       case measure=>have:=av.out;omega
       case rel=>exact⟨(ai),(wrap64 (aa+1)),(by first|rfl|(simp;done)|(simp [*];done)),H',⟨by have:=av.out;omega⟩,⟨by refine sRm ?_;exact ak.out⟩,⟨by repeat (first|(with_reducible first|exact HB.out|apply qah|apply qae|apply qag)|exact HB.out)⟩⟩
      ·rw [if_neg c5] at H
       exact absurd H (by simp)
     ·rw [if_neg c4] at H
      exact absurd H (by simp)
    ·rw [if_neg c3] at H
     exact absurd H (by simp)
   ·rw [if_neg c2] at H
    have al:decide (aa<(l0.length:Int))=false:=decide_eq_false c2
    clear c2
    obtain rfl:=Option.some.inj H
    go_wp2
    go_ret
    exact⟨_,by first|rfl|(simp [qam,qal]<;>rfl)|(simp [bneNil,bneNilU]<;>rfl)|(simp [*,qam,qal]<;>rfl),by refine sRm ?_;exact af.out,by repeat (first|(with_reducible first|exact HB.out|apply qah|apply qae|apply qag)|exact HB.out)⟩
def cert_words.l0:Nat→ByteArray→List Int→Int→Int→Option (ByteArray)
 |0,_,_,_,_=>none
 |k+1,x3,x6,x7,x8=>if x8<x7 then (if 0≤x8 then (if x8<(x6.length:Int) then ((lex_Digits.f (rd x6 x8)).bind fun aa=>(if 1+aa.size≤9223372036854775807 then (if x3.size+((⟨#[32]⟩:ByteArray)++aa).size≤9223372036854775807 then (cert_words.l0 k (x3++((⟨#[32]⟩:ByteArray)++aa)) x6 x7 (wrap64 (x8+1))) else (none)) else (none))) else (none)) else (none)) else (some x3)
def cert_words.f (k:Nat) (l0:List Int):Option (ByteArray):=cert_words.l0 k (⟨#[]⟩:ByteArray) l0 (l0.length:Int) 0
theorem cert_words.calls (k:Nat) (A0:Option Addr) (c0:Nat) (l0:List Int) (r:ByteArray) (w:World) (aj:Kd.C (Kd.int .i64) w A0 l0.length l0) (ak:l0.length≤c0) (h:cert_words.f k l0=some r) (hT:Tabs w) :
  Calls Tryd.prog 31 #[.slice A0 l0.length c0] w fun e w'=>e=.returned (.string r)∧Below w.heap.size w w':=by
 have ap:=qaa.mk aj
 have aC:=qaa.mk ak
 clear aj ak
 have HB:=qaa.mk (Below.refl w.heap.size w)
 have H:(cert_words.l0 k (⟨#[]⟩:ByteArray) l0 (l0.length:Int) 0)=some r:=h
 clear h
 have HT:=qaa.mk hT
 clear hT
 have H':=qaa.mk H
 clear H
 go_enter Tryd.func31,Tryd.ntmps31
 go_wp2
 go_loopg [3,8] k (fun kq v3 v8 w'=>∃ (ac:ByteArray) (aa:Int),v3=.string ac∧v8=.int .i64 aa∧qaa (cert_words.l0 kq ac l0 (l0.length:Int) aa=some r)∧qaa (kq≤k)∧qaa (Below w.heap.size w w'))
 case atStart=>exact⟨((⟨#[]⟩:ByteArray)),(0),(by first|rfl|(simp;done)|(simp [*];done)),(by first|rfl|(simp;done)|(simp [*];done)),H',⟨Nat.le_refl _⟩,⟨by repeat (first|(with_reducible first|exact HB.out|apply qah|apply qae|apply qag)|exact HB.out)⟩⟩
 case round=>
  clear H'
  obtain⟨ac,aa,rfl,rfl,HA,al,HB⟩:=hrel
  cases gk with
  |zero=>exact absurd HA.out (by simp [cert_words.l0])
  |succ k1=>
   have H:=HA.out
   clear HA
   simp only [cert_words.l0] at H
   by_cases c2:aa<(l0.length:Int)
   ·rw [if_pos c2] at H
    have ah:decide (aa<(l0.length:Int))=true:=decide_eq_true c2
    clear c2
    by_cases c3:0≤aa
    ·rw [if_pos c3] at H
     have aq:decide (0≤aa)=true:=decide_eq_true c3
     clear c3
     by_cases c4:aa<(l0.length:Int)
     ·rw [if_pos c4] at H
      have ar:decide (aa<(l0.length:Int))=true:=decide_eq_true c4
      clear c4
      replace H:=Option.bind_eq_some_iff.mp H
      obtain⟨ab,am,H⟩:=H
      replace H:(if 1+ab.size≤9223372036854775807 then (if ac.size+((⟨#[32]⟩:ByteArray)++ab).size≤9223372036854775807 then (cert_words.l0 k1 (ac++((⟨#[32]⟩:ByteArray)++ab)) l0 (l0.length:Int) (wrap64 (aa+1))) else (none)) else (none))=some r:=H
      have A5:=qaa.mk am
      clear am
      by_cases c6:1+ab.size≤9223372036854775807
      ·rw [if_pos c6] at H
       have au:=eq_true c6
       have av:decide (1+ab.size≤9223372036854775807)=true:=decide_eq_true c6
       try have aw:(9223372036854775807<1+ab.size)=False:=eq_false (Nat.not_lt.2 c6)
       by_cases c7:ac.size+((⟨#[32]⟩:ByteArray)++ab).size≤9223372036854775807
       ·rw [if_pos c7] at H
        have ax:=eq_true c7
        have ay:decide (ac.size+((⟨#[32]⟩:ByteArray)++ab).size≤9223372036854775807)=true:=decide_eq_true c7
        try have az:(9223372036854775807<ac.size+((⟨#[32]⟩:ByteArray)++ab).size)=False:=eq_false (Nat.not_lt.2 c7)
        try have aA:(9223372036854775807<ac.size+1+ab.size)=False:=eq_false (Nat.not_lt.2 (by have e:=c7;simp only [ByteArray.size_append,show (⟨#[32]⟩:ByteArray).size=1 from rfl] at e;omega))
        have H':=qaa.mk H
        clear H
        have af:0≤(aa:Int):=of_decide_eq_true sA
        have ag:aa<(l0.length:Int):=of_decide_eq_true sA
        obtain⟨an,ai,ae⟩:=Kd.at_int ap.out aa af ag
        cases ai
        replace ae:=(HB.out.cell (bLt w _ ae)).trans ae
        replace af:=eq_true af
        replace ag:=eq_true ag
        go_wp2_with (first|((with_reducible refine qaA (f:=50) rfl ?_);refine qa7 (some 14) rfl rfl Tryd.func50 (by kernel_rfl) rfl #[.int .i64 (rd l0 aa)] rfl (by (try simp only [List.map_toArray,List.map_cons,List.map_nil]);first|done|rfl|(simp only [List.length_drop,List.length_take];rfl)) ?_;(with_reducible refine (lex_Digits.calls (rd l0 aa) ab _ A5.out (Tabs.below HT.out sB)).mono ?_);rintro e w8 ⟨rfl,hb⟩;refine⟨_,rfl,?_⟩;replace HB:=qaa.mk (qai sB hb);(try clear hb);(try clear aD);(try clear hk);(try clear hi)))
        go_roundg k1
        case measure=>have:=al.out;omega
        case rel=>exact⟨(ac++((⟨#[32]⟩:ByteArray)++ab)),(wrap64 (aa+1)),(by first|rfl|(simp;done)|(simp [*];done)),(by first|rfl|(simp;done)|(simp [*];done)),H',⟨by have:=al.out;omega⟩,⟨by repeat (first|(with_reducible first|exact HB.out|apply qah|apply qae|apply qag)|exact HB.out)⟩⟩
       ·rw [if_neg c7] at H
        exact absurd H (by simp)
      ·rw [if_neg c6] at H
       exact absurd H (by simp)
     ·rw [if_neg c4] at H
      exact absurd H (by simp)
    ·rw [if_neg c3] at H
     exact absurd H (by simp)
   ·rw [if_neg c2] at H
    have ah:decide (aa<(l0.length:Int))=false:=decide_eq_false c2
    clear c2
    obtain rfl:=Option.some.inj H
    go_wp2
    go_ret
    exact⟨by first|rfl|(simp [qam,qal]<;>rfl)|(simp [bneNil,bneNilU]<;>rfl)|(simp [*,qam,qal]<;>rfl),by repeat (first|(with_reducible first|exact HB.out|apply qah|apply qae|apply qag)|exact HB.out)⟩
def prnOk (L:List S53):Bool:=decide (L.length≤70000) && L.all fun x=>decide (x.f5.length≤4000000) && decide (x.f6.length≤4000000) && decide (x.f1≤9223372036854775807)
def parse_Print.f (ab ac:Int) (aa:List S53):Option ByteArray:=if prnOk aa=true then some (if checkE ab ac (aa.map tkOf)=0 then printT ab ac (aa.map tkOf) else ⟨#[]⟩) else none
theorem parse_Print.calls (ab:Int) (ac:Int) (A0_2:Option Addr) (c0_2:Nat) (aa:List S53) (r:ByteArray) (w:World) (hr0_2:Kd.C k53 w A0_2 aa.length aa) (hc0_2:aa.length≤c0_2) (h:parse_Print.f ab ac aa=some r) (hT:Tabs w) :
  Calls Tryd.prog 33 #[.agg #[.int .i64 ab,.int .i64 ac,.slice A0_2 aa.length c0_2]] w fun e w'=>e=.returned (.string r)∧Below w.heap.size w w':=by
 unfold parse_Print.f at h
 split at h
 ·rename_i h1
  obtain rfl:=Option.some.inj h
  unfold prnOk at h1
  simp only [Bool.and_eq_true,decide_eq_true_eq] at h1
  have:=print_any ab ac A0_2 c0_2 (aa.map tkOf) w (by rw [List.length_map];exact h1.1) (fun x hx=>by
   obtain⟨y,hy,rfl⟩:=List.mem_map.1 hx
   have:=List.all_eq_true.1 h1.2 y hy
   simp only [Bool.and_eq_true,decide_eq_true_eq] at this
   exact⟨this.1.1,this.1.2,this.2⟩) (tkrow_of_C (C_of_tk hr0_2)) hT.1.1.1 hT.1.1.2
  rw [List.length_map] at this
  exact this
 ·cases h
end
end Go.Proofs.YtgnaaokhfpfglaaDoor.PCertTold
end
