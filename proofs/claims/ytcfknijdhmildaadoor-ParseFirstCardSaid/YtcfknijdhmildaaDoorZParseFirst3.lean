/- Texts of this claim, one behind the other: PrnL, FactsK, RunW, PrnP, ParseQ, ParseR, WTab, WRepsOne, WInv, WGuard, PParseFirst0, Kopen, KParseFirst, PParseFirst1, PParseFirst2. -/
import Derived.Test.YtcfknijdhmildaaDoorZParseFirst2
import Derived.Test.YtcfknijdhmildaaDoorZParseFirst1
import Derived.Lib.Builder
import Derived.Lib.AppendStr
import Derived.Test.YtcfknijdhmildaaDoorProg
import Derived.Below
import Derived.Deep.Draws
import Derived.Deep.AppendLies
import Derived.Maps.AppendAt
import Derived.OwnWalk
import Derived.Laws.BytesArg
import Derived.Laws.MakeOwn
import Derived.Laws.OwnMore
import Derived.Deep.OwnRows
import Derived.Tactics
import Derived.Lib.ConvBytes
import Derived.Laws.Slices
import Derived.WalkKit
import Derived.KernelRfl
import Derived.RowKit3
import Derived.Deep.LoopGhost
import Derived.Deep.QuietTactic
import Derived.BigQuiet
import Derived.WideLaws
import Derived.Deep.DeepCutAuto
import Derived.Deep.CutBlock
import Derived.Deep.RegionHeld3
import Derived.Laws.Rows
import Derived.ArgAppend
import Derived.Laws.IdiomCopy
import Derived.OrdersHeld
import Derived.Laws.BitsLemmas
import Derived.RowKit
import Derived.Laws.StructEq
import Derived.Test.YtcfknijdhmildaaDoorRows
import Derived.ProofKit
import Derived.OpenShut
import Derived.ShutString
import Derived.ChangeOld
import Derived.Deep.Slices

set_option maxHeartbeats 8000000
set_option maxRecDepth 100000
set_option linter.unusedVariables false
set_option linter.unusedSimpArgs false
section
namespace Go.Proofs.YtcfknijdhmildaaDoor
open Go.RowKit Go.Shelf Go.Lib Go.Proofs.YtcfknijdhmildaaDoorW.PrintWords
theorem task_words (x:Tk):(lineP x)=⟨(Lib.join ((([⟨#[116,97,115,107]⟩,digB x.id,⟨#[99,61]⟩++digB x.c,⟨#[100,61]⟩++digB x.d,⟨#[116,61]⟩++digB x.t,⟨#[112,61]⟩++digB x.p]
  ++ ((if 0<x.ch.length then [(⟨#[99,104,117,110,107,115,61]⟩:ByteArray)++joinP x.ch] else [])++(if 0<x.us.length then [(⟨#[117,115,101,61]⟩:ByteArray)++joinP x.us] else []))):List ByteArray).map (·.data.toList)) [32]).toArray⟩:=by
 refine ByteArray.ext (Array.ext' ?_)
 unfold lineP lineC lineN
 by_cases h1:0<x.ch.length
 ·by_cases h2:0<x.us.length
  ·simp [h1,h2,Lib.join,List.intercalate,ByteArray.data_append]
  ·simp [h1,h2,Lib.join,List.intercalate,ByteArray.data_append]
 ·by_cases h2:0<x.us.length
  ·simp [h1,h2,Lib.join,List.intercalate,ByteArray.data_append]
  ·simp [h1,h2,Lib.join,List.intercalate,ByteArray.data_append]
theorem sjoin_own {w:World} {base:Nat} {v:Value} (S:List ByteArray) (R:ByteArray) (h:w.ownsRow base 9 1 v S.length (S.map Value.string)) (h0:0<S.length) (h9:S.length≤100) (hR:R=⟨(Lib.join (S.map (·.data.toList)) [32]).toArray⟩) (hs:R.size≤140737488355328) :
  Calls Tryd.prog 60 #[v,.string ⟨#[32]⟩] w fun e w'=>e=.returned (.string R)∧Below w.heap.size w w':=by
 rcases h.2 with ⟨_,h1⟩|⟨g,cap,cur,rfl,h1,h2,h3,h4,h5,h6⟩
 ·omega
 ·subst hR
  rw [Lib.size_eq] at hs
  refine Tryd.strings_Join g 0 cap S ⟨#[32]⟩ w (fun j x hx=>?_) (lt_of_block h2) (by omega) h3 (by simpa using hs)
  have hj:(S.map Value.string)[j]? = some (.string x):=by rw [List.getElem?_map,hx];rfl
  rw [← h6,List.getElem?_take] at hj
  split at hj
  ·rw [World.cell?,h2]
   simpa using hj
  ·cases hj
theorem fill_next {l:List Int} {n i:Nat} (hn:l.length=n) (hi:i<n):(l.take (i+1)).map (Value.int .i64)++List.replicate (n - (i+1)) (Value.int .i64 0)=((l.take i).map (Value.int .i64)++List.replicate (n - i) (Value.int .i64 0)).set i (Value.int .i64 (l[i]'(by omega))):=by
 have hil:i<l.length:=by omega
 have e:n - i=(n - (i+1))+1:=by omega
 have hl:((l.take i).map (Value.int .i64)).length=i:=by rw [List.length_map,List.length_take];omega
 rw [List.set_append_right _ _ (by omega),hl,Nat.sub_self,e,List.replicate_succ,List.set_cons_zero,List.take_succ_eq_append_getElem hil,List.map_append]
 simp
theorem row_snoc {w:World} {base:Nat} {e:TypeId} {v:Value} {S:List ByteArray} {n:Nat} (x:ByteArray) (hn:S.length=n) (h:w.ownsRow base e 1 v (n+1) (S.map Value.string++[.string x])):w.ownsRow base e 1 v (S++[x]).length ((S++[x]).map Value.string):=by
 rw [List.length_append,hn]
 simpa using h
def TkIn (tb:Nat) (x:Tk) (A5:Option Addr) (lc c5:Nat) (A6:Option Addr) (lu c6:Nat) (w W:World):Prop:=W.cell? ⟨tb,0,none⟩=some (.int .i64 x.id)∧W.cell? ⟨tb,1,none⟩=some (.int .i64 x.c)∧W.cell? ⟨tb,2,none⟩=some (.int .i64 x.d)∧W.cell? ⟨tb,3,none⟩=some (.int .i64 x.t)∧W.cell? ⟨tb,4,none⟩=some (.int .i64 x.p)∧W.cell? ⟨tb,5,none⟩=some (.slice A5 lc c5)∧W.cell? ⟨tb,6,none⟩=some (.slice A6 lu c6)∧Below tb w W
theorem TkIn.below {tb:Nat} {x:Tk} {A5:Option Addr} {lc c5:Nat} {A6:Option Addr} {lu c6:Nat} {w W W':World} (h:TkIn tb x A5 lc c5 A6 lu c6 w W) (hb:Below W.heap.size W W'):TkIn tb x A5 lc c5 A6 lu c6 w W':=held_below h hb
theorem TkIn.lt {tb:Nat} {x:Tk} {A5:Option Addr} {lc c5:Nat} {A6:Option Addr} {lu c6:Nat} {w W:World} (h:TkIn tb x A5 lc c5 A6 lu c6 w W):tb<W.heap.size:=qaK h.1
theorem TkIn.grown {tb:Nat} {x:Tk} {A5:Option Addr} {lc c5:Nat} {A6:Option Addr} {lu c6:Nat} {w W W':World} {row:Option Nat} (h:TkIn tb x A5 lc c5 A6 lu c6 w W) (hg:W.grownBy W' row) (hr:∀ k,row=some k→tb<k):TkIn tb x A5 lc c5 A6 lu c6 w W':=by
 have hl:=h.lt
 have hb:W'.heap[tb]? = W.heap[tb]?:=hg.block tb hl (fun e=>by have:=hr tb e.symm;omega)
 obtain⟨h0,h1,h2,h3,h4,h5,h6,hB⟩:=h
 have m:∀ i v,W.cell? ⟨tb,i,none⟩=some v→W'.cell? ⟨tb,i,none⟩=some v:=fun i v h=>(World.cell?_of_block hb).trans h
 exact⟨m _ _ h0,m _ _ h1,m _ _ h2,m _ _ h3,m _ _ h4,m _ _ h5,m _ _ h6,hB.grown hg (by omega) (fun k e=>by have:=hr k e;omega)⟩
theorem arr_lit70 (xs:Array Value) (h:xs.size=70):xs=List.toArray (xs.getD 0 undef::xs.getD 1 undef::xs.getD 2 undef::xs.getD 3 undef::xs.getD 4 undef::xs.getD 5 undef::xs.getD 6 undef::xs.getD 7 undef::xs.getD 8 undef::xs.getD 9 undef::xs.getD 10 undef::xs.getD 11 undef::xs.getD 12 undef::xs.getD 13 undef::xs.getD 14 undef::xs.getD 15 undef::xs.getD 16 undef::xs.getD 17 undef::xs.getD 18 undef::xs.getD 19 undef::xs.getD 20 undef::xs.getD 21 undef::xs.getD 22 undef::xs.getD 23 undef::xs.getD 24 undef::xs.getD 25 undef::xs.getD 26 undef::xs.getD 27 undef::xs.getD 28 undef::xs.getD 29 undef::xs.getD 30 undef::xs.getD 31 undef::xs.getD 32 undef::xs.getD 33 undef::xs.getD 34 undef::xs.getD 35 undef::xs.getD 36 undef::xs.getD 37 undef::xs.getD 38 undef::xs.getD 39 undef::xs.getD 40 undef::xs.getD 41 undef::xs.getD 42 undef::xs.getD 43 undef::xs.getD 44 undef::xs.getD 45 undef::xs.getD 46 undef::xs.getD 47 undef::xs.getD 48 undef::xs.getD 49 undef::xs.getD 50 undef::xs.getD 51 undef::xs.getD 52 undef::xs.getD 53 undef::xs.getD 54 undef::xs.getD 55 undef::xs.getD 56 undef::xs.getD 57 undef::xs.getD 58 undef::xs.getD 59 undef::xs.getD 60 undef::xs.getD 61 undef::xs.getD 62 undef::xs.getD 63 undef::xs.getD 64 undef::xs.getD 65 undef::xs.getD 66 undef::xs.getD 67 undef::xs.getD 68 undef::xs.getD 69 undef::[]):=arr_range xs 70 h
theorem line_any (x:Tk) (A5:Option Addr) (c5:Nat) (A6:Option Addr) (c6:Nat) (w:World) (h5:x.ch.length≤1000000) (h6:x.us.length≤1000000) (hc:x.c≤9223372036854775807) (hr5:NRow w w.heap.size A5 x.ch) (hr6:NRow w w.heap.size A6 x.us)
  (htab:Lib.TabIs Tryd.prog w "internal/strconv.uint64pow10" .u64 Lib.pow10Tab) (hg:0<w.heap.size) :
  Calls Tryd.prog 33 #[.agg #[.int .i64 x.id,.int .i64 x.c,.int .i64 x.d,.int .i64 x.t,.int .i64 x.p,.slice A5 x.ch.length c5,.slice A6 x.us.length c6]] w fun e w'=>
   e=.returned (.string (lineT x))∧Below w.heap.size w w':=by
 unfold lineT
 have hb0:=(Below.refl w.heap.size w).alloc (Nat.le_refl _) (.cells #[.int .i64 x.id,.int .i64 x.c,.int .i64 x.d,.int .i64 x.t,.int .i64 x.p,.slice A5 x.ch.length c5,.slice A6 x.us.length c6] 52)
 have hn0:=heap_alloc_new w (.cells #[.int .i64 x.id,.int .i64 x.c,.int .i64 x.d,.int .i64 x.t,.int .i64 x.p,.slice A5 x.ch.length c5,.slice A6 x.us.length c6] 52)
 have HRT1:=Lib.hid (right_task x.id x.c x.d x.t x.p A5 c5 x.ch A6 c6 x.us 256 (w.alloc (.cells #[.int .i64 x.id,.int .i64 x.c,.int .i64 x.d,.int .i64 x.t,.int .i64 x.p,.slice A5 x.ch.length c5,.slice A6 x.us.length c6] 52)) h5 h6 hc (hr5.below hb0 (Nat.le_refl _) |>.more hb0.size) (hr6.below hb0 (Nat.le_refl _) |>.more hb0.size))
 have HN5:=Lib.hid hr5
 have HN6:=Lib.hid hr6
 have HTB:=Lib.hid (And.intro htab hg)
 have HSM:=Lib.hid (fun h=>rightE_small (x:=x) (sets:=256) (by decide) h)
 have HLP:=Lib.hid (task_words x)
 have HLZ:Hid (rightE x.id x.c x.d x.t x.p x.ch x.us 256=0→(lineP x).size≤3100):=Lib.hid (fun h=>by have:=lineT_size x;unfold lineT at this;rwa [if_pos h] at this)
 generalize lineP x=LP at HLP HLZ ⊢
 obtain⟨lc,hlc⟩:∃ z,x.ch.length=z:=⟨_,rfl⟩
 obtain⟨lu,hlu⟩:∃ z,x.us.length=z:=⟨_,rfl⟩
 have HJ5:Hid (∀ (W:World),Below w.heap.size w W→(∀ y ∈ x.ch,-9223372036854775808≤y∧y≤9223372036854775807)→x.ch.length≤1000→NRow W W.heap.size A5 x.ch→Calls Tryd.prog 59 #[.slice A5 lc c5] W fun e w'=>e=.returned (.string (joinP x.ch))∧Below W.heap.size W w'):=Lib.hid (fun W hb hl hn hr=>hlc ▸ join_any A5 c5 x.ch W hl hn hr (qaP htab hb hg) (by have:=hb.size;omega))
 have HJ6:Hid (∀ (W:World) (A:Option Addr) (c:Nat),Below w.heap.size w W→(∀ y ∈ x.us,-9223372036854775808≤y∧y≤9223372036854775807)→x.us.length≤1000→NRow W W.heap.size A x.us→Calls Tryd.prog 59 #[.slice A lu c] W fun e w'=>e=.returned (.string (joinP x.us))∧Below W.heap.size W w'):=Lib.hid (fun W A c hb hl hn hr=>hlu ▸ join_any A c x.us W hl hn hr (qaP htab hb hg) (by have:=hb.size;omega))
 have j5:Hid ((∀ y ∈ x.ch,-9223372036854775808≤y∧y≤9223372036854775807)→(joinP x.ch).size≤x.ch.length * 22):=Lib.hid joinP_size
 have j6:Hid ((∀ y ∈ x.us,-9223372036854775808≤y∧y≤9223372036854775807)→(joinP x.us).size≤x.us.length * 22):=Lib.hid joinP_size
 generalize joinP x.ch=J5 at HJ5 j5 HLP
 generalize joinP x.us=J6 at HJ6 j6 HLP
 rw [hlc,hlu] at hb0 hn0 HRT1
 rw [hlc,hlu]
 rw [hlc,hlu] at HLP
 have HLL:=Lib.hid (And.intro hlc hlu)
 generalize hE:rightE x.id x.c x.d x.t x.p x.ch x.us 256=E at HRT1 HSM HLZ ⊢
 clear hE hlc hlu hr5 hr6 h5 h6 hc htab hg
 by_cases hE0:E=0
 rotate_left
 ·rw [if_neg hE0]
  have hEb:(E == 0)=false:=by simpa using hE0
  clear hE0
  go_enter Tryd.func33,Tryd.ntmps33
  go_upto_region 1 with (fail)
  generalize w.alloc (.cells #[.int .i64 x.id,.int .i64 x.c,.int .i64 x.d,.int .i64 x.t,.int .i64 x.p,.slice A5 lc c5,.slice A6 lu c6] 52)=w0 at hb0 hn0 HRT1 ⊢
  obtain⟨t0,t1,t2,t3,t4,t5,t6⟩:=seven_cells hn0
  have HB:=Lib.hid hb0
  clear hb0 hn0
  go_wp2_with (go_at_call 50;refine HRT1.out.mono ?_;rintro e w1 ⟨rfl,hb1⟩)
  go_ret
  exact⟨rfl,HB.out.trans (hb1.mono HB.out.size)⟩
 subst hE0
 rw [if_pos rfl]
 obtain⟨hid,hp,hcdt,hcl,hch,hul,hus⟩:=HSM.out rfl
 have d0:=qaJ x.id (by omega) (by omega)
 have d1:=qaJ x.c (by omega) (by omega)
 have d2:=qaJ x.d (by omega) (by omega)
 have d3:=qaJ x.t (by omega) (by omega)
 have d4:=qaJ x.p (by omega) (by omega)
 have sJ5:J5.size≤1408:=by have:=j5.out (fun y hy=>by have:=hch y hy;omega);omega
 have sJ6:J6.size≤1408:=by have:=j6.out (fun y hy=>by have:=hus y hy;omega);omega
 have sLP:Hid (LP.size≤3100):=Lib.hid (HLZ.out rfl)
 clear j5 j6 HLZ
 have HCH:=Lib.hid hch
 have HUS:=Lib.hid hus
 have D0:=Lib.hid (fun W h=>qaZ x.id W (by omega) (by omega) h)
 have D1:=Lib.hid (fun W h=>qaZ x.c W (by omega) (by omega) h)
 have D2:=Lib.hid (fun W h=>qaZ x.d W (by omega) (by omega) h)
 have D3:=Lib.hid (fun W h=>qaZ x.t W (by omega) (by omega) h)
 have D4:=Lib.hid (fun W h=>qaZ x.p W (by omega) (by omega) h)
 rw [show (⟨(itoa x.id).toArray⟩:ByteArray)=digB x.id from rfl] at D0
 rw [show (⟨(itoa x.c).toArray⟩:ByteArray)=digB x.c from rfl] at D1
 rw [show (⟨(itoa x.d).toArray⟩:ByteArray)=digB x.d from rfl] at D2
 rw [show (⟨(itoa x.t).toArray⟩:ByteArray)=digB x.t from rfl] at D3
 rw [show (⟨(itoa x.p).toArray⟩:ByteArray)=digB x.p from rfl] at D4
 generalize digB x.id=b0 at d0 D0 HLP
 generalize digB x.c=b1 at d1 D1 HLP
 generalize digB x.d=b2 at d2 D2 HLP
 generalize digB x.t=b3 at d3 D3 HLP
 generalize digB x.p=b4 at d4 D4 HLP
 clear hch hus hid hp hcdt HSM
 go_enter Tryd.func33,Tryd.ntmps33
 go_upto_region 1 with (fail)
 generalize w.alloc (.cells #[.int .i64 x.id,.int .i64 x.c,.int .i64 x.d,.int .i64 x.t,.int .i64 x.p,.slice A5 lc c5,.slice A6 lu c6] 52)=w0 at hb0 hn0 HRT1 ⊢
 obtain⟨tb,htb⟩:∃ z,w.heap.size=z:=⟨_,rfl⟩
 rw [htb] at hn0 ⊢
 obtain⟨t0,t1,t2,t3,t4,t5,t6⟩:=seven_cells hn0
 have HB:=Lib.hid (And.intro hb0 hn0)
 clear hb0 hn0
 go_upto_region 3 with (go_at_call 50;refine HRT1.out.mono ?_;rintro e w1 ⟨rfl,hb1⟩)
 have HS1:TkIn tb x A5 lc c5 A6 lu c6 w w1:=TkIn.below (W:=w0) ⟨t0,t1,t2,t3,t4,t5,t6,by rw [← htb];exact HB.out.1⟩ hb1
 have HW:Hid (w.heap.size=tb):=Lib.hid htb
 clear t0 t1 t2 t3 t4 t5 t6 hb1 HB HRT1
 have C0:Hid (∀ (W:World),TkIn tb x A5 lc c5 A6 lu c6 w W→Calls Tryd.prog 32 #[.int .i64 x.id] W fun e w'=>e=.returned (.string b0)∧(TkIn tb x A5 lc c5 A6 lu c6 w w'∧Below W.heap.size W w')):=Lib.hid (fun W h=>(D0.out W (qaP HTB.out.1 (by rw [HW.out];exact h.2.2.2.2.2.2.2) HTB.out.2)).mono fun e w' ⟨h1,h2⟩=>⟨h1,h.below h2,h2⟩)
 have C1:Hid (∀ (W:World),TkIn tb x A5 lc c5 A6 lu c6 w W→Calls Tryd.prog 32 #[.int .i64 x.c] W fun e w'=>e=.returned (.string b1)∧(TkIn tb x A5 lc c5 A6 lu c6 w w'∧Below W.heap.size W w')):=Lib.hid (fun W h=>(D1.out W (qaP HTB.out.1 (by rw [HW.out];exact h.2.2.2.2.2.2.2) HTB.out.2)).mono fun e w' ⟨h1,h2⟩=>⟨h1,h.below h2,h2⟩)
 have C2:Hid (∀ (W:World),TkIn tb x A5 lc c5 A6 lu c6 w W→Calls Tryd.prog 32 #[.int .i64 x.d] W fun e w'=>e=.returned (.string b2)∧(TkIn tb x A5 lc c5 A6 lu c6 w w'∧Below W.heap.size W w')):=Lib.hid (fun W h=>(D2.out W (qaP HTB.out.1 (by rw [HW.out];exact h.2.2.2.2.2.2.2) HTB.out.2)).mono fun e w' ⟨h1,h2⟩=>⟨h1,h.below h2,h2⟩)
 have C3:Hid (∀ (W:World),TkIn tb x A5 lc c5 A6 lu c6 w W→Calls Tryd.prog 32 #[.int .i64 x.t] W fun e w'=>e=.returned (.string b3)∧(TkIn tb x A5 lc c5 A6 lu c6 w w'∧Below W.heap.size W w')):=Lib.hid (fun W h=>(D3.out W (qaP HTB.out.1 (by rw [HW.out];exact h.2.2.2.2.2.2.2) HTB.out.2)).mono fun e w' ⟨h1,h2⟩=>⟨h1,h.below h2,h2⟩)
 have C4:Hid (∀ (W:World),TkIn tb x A5 lc c5 A6 lu c6 w W→Calls Tryd.prog 32 #[.int .i64 x.p] W fun e w'=>e=.returned (.string b4)∧(TkIn tb x A5 lc c5 A6 lu c6 w w'∧Below W.heap.size W w')):=Lib.hid (fun W h=>(D4.out W (qaP HTB.out.1 (by rw [HW.out];exact h.2.2.2.2.2.2.2) HTB.out.2)).mono fun e w' ⟨h1,h2⟩=>⟨h1,h.below h2,h2⟩)
 clear D0 D1 D2 D3 D4
 obtain⟨n0,hn0⟩:∃ z,w1.heap.size=z:=⟨_,rfl⟩
 have HTN:Hid (tb<n0):=Lib.hid (by rw [← hn0];exact HS1.lt)
 have HS1d:TkIn tb x A5 lc c5 A6 lu c6 w w1.drew∧n0≤w1.drew.heap.size:=⟨HS1.below (Below.refl _ _).drew,by rw [← hn0];exact Nat.le_refl _⟩
 have z1:(⟨#[99,61]⟩:ByteArray).size=2:=rfl
 have z2:(⟨#[100,61]⟩:ByteArray).size=2:=rfl
 have z3:(⟨#[116,61]⟩:ByteArray).size=2:=rfl
 have z4:(⟨#[112,61]⟩:ByteArray).size=2:=rfl
 have z5:(⟨#[99,104,117,110,107,115,61]⟩:ByteArray).size=7:=rfl
 have z6:(⟨#[117,115,101,61]⟩:ByteArray).size=4:=rfl
 go_cut [1,2,3] from 70 (fun v1 v2 v3 wx=>v1=.pointer (some ⟨tb,0,none⟩)∧v2=.string ⟨#[]⟩∧TkIn tb x A5 lc c5 A6 lu c6 w wx∧n0≤wx.heap.size∧wx.ownsRow n0 9 1 v3 6 [.string ⟨#[116,97,115,107]⟩,.string b0,.string ((⟨#[99,61]⟩:ByteArray)++b1),.string ((⟨#[100,61]⟩:ByteArray)++b2),.string ((⟨#[116,61]⟩:ByteArray)++b3),.string ((⟨#[112,61]⟩:ByteArray)++b4)])
 case first=>
  refine wp_region_facts (by kernel_rfl) (by kernel_rfl) (fun i v W=>match i with
    |0=>v=.pointer (some ⟨tb,0,none⟩)
    |1=>v=.int .i64 x.id
    |2=>v=.string b0
    |3=>v=.pointer (some ⟨tb,1,none⟩)
    |4=>v=.int .i64 x.c
    |5=>v=.string b1
    |6=>v=.string ((⟨#[99,61]⟩:ByteArray)++b1)
    |7=>v=.pointer (some ⟨tb,2,none⟩)
    |8=>v=.int .i64 x.d
    |9=>v=.string b2
    |10=>v=.string ((⟨#[100,61]⟩:ByteArray)++b2)
    |11=>v=.pointer (some ⟨tb,3,none⟩)
    |12=>v=.int .i64 x.t
    |13=>v=.string b3
    |14=>v=.string ((⟨#[116,61]⟩:ByteArray)++b3)
    |15=>v=.pointer (some ⟨tb,4,none⟩)
    |16=>v=.int .i64 x.p
    |17=>v=.string b4
    |18=>v=.string ((⟨#[112,61]⟩:ByteArray)++b4)
    |19=>W.ownsRow n0 9 1 v 6 [.string ⟨#[116,97,115,107]⟩,.string b0,.string ((⟨#[99,61]⟩:ByteArray)++b1),.string ((⟨#[100,61]⟩:ByteArray)++b2),.string ((⟨#[116,61]⟩:ByteArray)++b3),.string ((⟨#[112,61]⟩:ByteArray)++b4)]
    |20=>W.ownsRow n0 9 1 v 6 [.string ⟨#[116,97,115,107]⟩,.string b0,.string ((⟨#[99,61]⟩:ByteArray)++b1),.string ((⟨#[100,61]⟩:ByteArray)++b2),.string ((⟨#[116,61]⟩:ByteArray)++b3),.string ((⟨#[112,61]⟩:ByteArray)++b4)]
    |_=>True) (fun W W'=>Below W.heap.size W W') (fun i v W W' h hk=>?_) (fun W=>TkIn tb x A5 lc c5 A6 lu c6 w W∧n0≤W.heap.size) HS1d ?_ ?_
  ·match i with
   |19=>exact qaF h hk (Nat.le_refl _)
   |20=>exact qaF h hk (Nat.le_refl _)
   |0|1|2|3|4|5|6|7|8|9|10|11|12|13|14|15|16|17|18=>exact h
   |_+21=>exact h
  ·intro i o a W ho hsz hfr hdep hG
   have hi:i<21:=(Array.getElem?_eq_some_iff.1 ho).1
   have hin:i=0∨i=1∨i=2∨i=3∨i=4∨i=5∨i=6∨i=7∨i=8∨i=9∨i=10∨i=11∨i=12∨i=13∨i=14∨i=15∨i=16∨i=17∨i=18∨i=19∨i=20:=by omega
   rcases hin with rfl|rfl|rfl|rfl|rfl|rfl|rfl|rfl|rfl|rfl|rfl|rfl|rfl|rfl|rfl|rfl|rfl|rfl|rfl|rfl|rfl
   ·cases ho
    have g:a.tmps.getD 1 undef=.pointer (some ⟨tb,0,none⟩):=by rw [gDe,hfr 1 (qar (by kernel_rfl))];rfl
    clear hfr hdep hsz
    generalize hK:(fun (a':Act) (w':World)=>_)=K
    go_simp
    rw [← hK]
    exact⟨_,rfl,rfl,Below.refl _ _,hG⟩
   ·cases ho
    obtain⟨_,q0,e0⟩:=hdep ⟨0,.data⟩ (by simp) rfl _ _ rfl rfl
    have g0:a.tmps.getD 10 undef=.pointer (some ⟨tb,0,none⟩):=by rw [gDe,q0,e0];rfl
    rw [e0] at q0
    clear e0
    have hc:W.cell? ⟨tb,0,none⟩=some (.int .i64 x.id):=hG.1.1
    clear hfr hdep hsz
    generalize hK:(fun (a':Act) (w':World)=>_)=K
    go_simp
    rw [← hK]
    exact⟨_,rfl,rfl,Below.refl _ _,hG⟩
   ·cases ho
    obtain⟨_,q1,e1⟩:=hdep ⟨1,.data⟩ (by simp) rfl _ _ rfl rfl
    have g1:a.tmps.getD 11 undef=.int .i64 x.id:=by rw [gDe,q1,e1];rfl
    rw [e1] at q1
    clear e1
    clear hfr hdep hsz
    generalize hK:(fun (a':Act) (w':World)=>_)=K
    go_simp
    refine (C0.out W hG.1).mono ?_
    rintro e W2 ⟨rfl,hb,hb2⟩
    show K _ _
    rw [← hK]
    exact⟨_,rfl,rfl,hb2,hb,Nat.le_trans hG.2 hb2.size⟩
   ·cases ho
    have g:a.tmps.getD 1 undef=.pointer (some ⟨tb,0,none⟩):=by rw [gDe,hfr 1 (qar (by kernel_rfl))];rfl
    clear hfr hdep hsz
    generalize hK:(fun (a':Act) (w':World)=>_)=K
    go_simp
    rw [← hK]
    exact⟨_,rfl,rfl,Below.refl _ _,hG⟩
   ·cases ho
    obtain⟨_,q3,e3⟩:=hdep ⟨3,.data⟩ (by simp) rfl _ _ rfl rfl
    have g3:a.tmps.getD 13 undef=.pointer (some ⟨tb,1,none⟩):=by rw [gDe,q3,e3];rfl
    rw [e3] at q3
    clear e3
    have hc:W.cell? ⟨tb,1,none⟩=some (.int .i64 x.c):=hG.1.2.1
    clear hfr hdep hsz
    generalize hK:(fun (a':Act) (w':World)=>_)=K
    go_simp
    rw [← hK]
    exact⟨_,rfl,rfl,Below.refl _ _,hG⟩
   ·cases ho
    obtain⟨_,q4,e4⟩:=hdep ⟨4,.data⟩ (by simp) rfl _ _ rfl rfl
    have g4:a.tmps.getD 14 undef=.int .i64 x.c:=by rw [gDe,q4,e4];rfl
    rw [e4] at q4
    clear e4
    clear hfr hdep hsz
    generalize hK:(fun (a':Act) (w':World)=>_)=K
    go_simp
    refine (C1.out W hG.1).mono ?_
    rintro e W2 ⟨rfl,hb,hb2⟩
    show K _ _
    rw [← hK]
    exact⟨_,rfl,rfl,hb2,hb,Nat.le_trans hG.2 hb2.size⟩
   ·cases ho
    obtain⟨_,q5,e5⟩:=hdep ⟨5,.data⟩ (by simp) rfl _ _ rfl rfl
    have g5:a.tmps.getD 15 undef=.string b1:=by rw [gDe,q5,e5];rfl
    rw [e5] at q5
    clear e5
    clear hfr hdep hsz
    generalize hK:(fun (a':Act) (w':World)=>_)=K
    go_simp
    rw [if_neg (by omega)]
    go_simp
    rw [← hK]
    exact⟨_,rfl,rfl,Below.refl _ _,hG⟩
   ·cases ho
    have g:a.tmps.getD 1 undef=.pointer (some ⟨tb,0,none⟩):=by rw [gDe,hfr 1 (qar (by kernel_rfl))];rfl
    clear hfr hdep hsz
    generalize hK:(fun (a':Act) (w':World)=>_)=K
    go_simp
    rw [← hK]
    exact⟨_,rfl,rfl,Below.refl _ _,hG⟩
   ·cases ho
    obtain⟨_,q7,e7⟩:=hdep ⟨7,.data⟩ (by simp) rfl _ _ rfl rfl
    have g7:a.tmps.getD 17 undef=.pointer (some ⟨tb,2,none⟩):=by rw [gDe,q7,e7];rfl
    rw [e7] at q7
    clear e7
    have hc:W.cell? ⟨tb,2,none⟩=some (.int .i64 x.d):=hG.1.2.2.1
    clear hfr hdep hsz
    generalize hK:(fun (a':Act) (w':World)=>_)=K
    go_simp
    rw [← hK]
    exact⟨_,rfl,rfl,Below.refl _ _,hG⟩
   ·cases ho
    obtain⟨_,q8,e8⟩:=hdep ⟨8,.data⟩ (by simp) rfl _ _ rfl rfl
    have g8:a.tmps.getD 18 undef=.int .i64 x.d:=by rw [gDe,q8,e8];rfl
    rw [e8] at q8
    clear e8
    clear hfr hdep hsz
    generalize hK:(fun (a':Act) (w':World)=>_)=K
    go_simp
    refine (C2.out W hG.1).mono ?_
    rintro e W2 ⟨rfl,hb,hb2⟩
    show K _ _
    rw [← hK]
    exact⟨_,rfl,rfl,hb2,hb,Nat.le_trans hG.2 hb2.size⟩
   ·cases ho
    obtain⟨_,q9,e9⟩:=hdep ⟨9,.data⟩ (by simp) rfl _ _ rfl rfl
    have g9:a.tmps.getD 19 undef=.string b2:=by rw [gDe,q9,e9];rfl
    rw [e9] at q9
    clear e9
    clear hfr hdep hsz
    generalize hK:(fun (a':Act) (w':World)=>_)=K
    go_simp
    rw [if_neg (by omega)]
    go_simp
    rw [← hK]
    exact⟨_,rfl,rfl,Below.refl _ _,hG⟩
   ·cases ho
    have g:a.tmps.getD 1 undef=.pointer (some ⟨tb,0,none⟩):=by rw [gDe,hfr 1 (qar (by kernel_rfl))];rfl
    clear hfr hdep hsz
    generalize hK:(fun (a':Act) (w':World)=>_)=K
    go_simp
    rw [← hK]
    exact⟨_,rfl,rfl,Below.refl _ _,hG⟩
   ·cases ho
    obtain⟨_,q11,e11⟩:=hdep ⟨11,.data⟩ (by simp) rfl _ _ rfl rfl
    have g11:a.tmps.getD 21 undef=.pointer (some ⟨tb,3,none⟩):=by rw [gDe,q11,e11];rfl
    rw [e11] at q11
    clear e11
    have hc:W.cell? ⟨tb,3,none⟩=some (.int .i64 x.t):=hG.1.2.2.2.1
    clear hfr hdep hsz
    generalize hK:(fun (a':Act) (w':World)=>_)=K
    go_simp
    rw [← hK]
    exact⟨_,rfl,rfl,Below.refl _ _,hG⟩
   ·cases ho
    obtain⟨_,q12,e12⟩:=hdep ⟨12,.data⟩ (by simp) rfl _ _ rfl rfl
    have g12:a.tmps.getD 22 undef=.int .i64 x.t:=by rw [gDe,q12,e12];rfl
    rw [e12] at q12
    clear e12
    clear hfr hdep hsz
    generalize hK:(fun (a':Act) (w':World)=>_)=K
    go_simp
    refine (C3.out W hG.1).mono ?_
    rintro e W2 ⟨rfl,hb,hb2⟩
    show K _ _
    rw [← hK]
    exact⟨_,rfl,rfl,hb2,hb,Nat.le_trans hG.2 hb2.size⟩
   ·cases ho
    obtain⟨_,q13,e13⟩:=hdep ⟨13,.data⟩ (by simp) rfl _ _ rfl rfl
    have g13:a.tmps.getD 23 undef=.string b3:=by rw [gDe,q13,e13];rfl
    rw [e13] at q13
    clear e13
    clear hfr hdep hsz
    generalize hK:(fun (a':Act) (w':World)=>_)=K
    go_simp
    rw [if_neg (by omega)]
    go_simp
    rw [← hK]
    exact⟨_,rfl,rfl,Below.refl _ _,hG⟩
   ·cases ho
    have g:a.tmps.getD 1 undef=.pointer (some ⟨tb,0,none⟩):=by rw [gDe,hfr 1 (qar (by kernel_rfl))];rfl
    clear hfr hdep hsz
    generalize hK:(fun (a':Act) (w':World)=>_)=K
    go_simp
    rw [← hK]
    exact⟨_,rfl,rfl,Below.refl _ _,hG⟩
   ·cases ho
    obtain⟨_,q15,e15⟩:=hdep ⟨15,.data⟩ (by simp) rfl _ _ rfl rfl
    have g15:a.tmps.getD 25 undef=.pointer (some ⟨tb,4,none⟩):=by rw [gDe,q15,e15];rfl
    rw [e15] at q15
    clear e15
    have hc:W.cell? ⟨tb,4,none⟩=some (.int .i64 x.p):=hG.1.2.2.2.2.1
    clear hfr hdep hsz
    generalize hK:(fun (a':Act) (w':World)=>_)=K
    go_simp
    rw [← hK]
    exact⟨_,rfl,rfl,Below.refl _ _,hG⟩
   ·cases ho
    obtain⟨_,q16,e16⟩:=hdep ⟨16,.data⟩ (by simp) rfl _ _ rfl rfl
    have g16:a.tmps.getD 26 undef=.int .i64 x.p:=by rw [gDe,q16,e16];rfl
    rw [e16] at q16
    clear e16
    clear hfr hdep hsz
    generalize hK:(fun (a':Act) (w':World)=>_)=K
    go_simp
    refine (C4.out W hG.1).mono ?_
    rintro e W2 ⟨rfl,hb,hb2⟩
    show K _ _
    rw [← hK]
    exact⟨_,rfl,rfl,hb2,hb,Nat.le_trans hG.2 hb2.size⟩
   ·cases ho
    obtain⟨_,q17,e17⟩:=hdep ⟨17,.data⟩ (by simp) rfl _ _ rfl rfl
    have g17:a.tmps.getD 27 undef=.string b4:=by rw [gDe,q17,e17];rfl
    rw [e17] at q17
    clear e17
    clear hfr hdep hsz
    generalize hK:(fun (a':Act) (w':World)=>_)=K
    go_simp
    rw [if_neg (by omega)]
    go_simp
    rw [← hK]
    exact⟨_,rfl,rfl,Below.refl _ _,hG⟩
   ·cases ho
    obtain⟨_,q2,e2⟩:=hdep ⟨2,.data⟩ (by simp) rfl _ _ rfl rfl
    have g2:a.tmps.getD 12 undef=.string b0:=by rw [gDe,q2,e2];rfl
    rw [e2] at q2
    clear e2
    obtain⟨_,q6,e6⟩:=hdep ⟨6,.data⟩ (by simp) rfl _ _ rfl rfl
    have g6:a.tmps.getD 16 undef=.string ((⟨#[99,61]⟩:ByteArray)++b1):=by rw [gDe,q6,e6];rfl
    rw [e6] at q6
    clear e6
    obtain⟨_,q10,e10⟩:=hdep ⟨10,.data⟩ (by simp) rfl _ _ rfl rfl
    have g10:a.tmps.getD 20 undef=.string ((⟨#[100,61]⟩:ByteArray)++b2):=by rw [gDe,q10,e10];rfl
    rw [e10] at q10
    clear e10
    obtain⟨_,q14,e14⟩:=hdep ⟨14,.data⟩ (by simp) rfl _ _ rfl rfl
    have g14:a.tmps.getD 24 undef=.string ((⟨#[116,61]⟩:ByteArray)++b3):=by rw [gDe,q14,e14];rfl
    rw [e14] at q14
    clear e14
    obtain⟨_,q18,e18⟩:=hdep ⟨18,.data⟩ (by simp) rfl _ _ rfl rfl
    have g18:a.tmps.getD 28 undef=.string ((⟨#[112,61]⟩:ByteArray)++b4):=by rw [gDe,q18,e18];rfl
    rw [e18] at q18
    clear e18
    clear hfr hdep hsz
    generalize hK:(fun (a':Act) (w':World)=>_)=K
    have hal:=(Below.refl W.heap.size W).alloc (Nat.le_refl _) (.cells #[.string ⟨#[116,97,115,107]⟩,.string b0,.string ((⟨#[99,61]⟩:ByteArray)++b1),.string ((⟨#[100,61]⟩:ByteArray)++b2),.string ((⟨#[116,61]⟩:ByteArray)++b3),.string ((⟨#[112,61]⟩:ByteArray)++b4)] 9)
    have hro:=World.ownsRow_lit (base:=n0) (e:=9) (size:=1) W #[.string ⟨#[116,97,115,107]⟩,.string b0,.string ((⟨#[99,61]⟩:ByteArray)++b1),.string ((⟨#[100,61]⟩:ByteArray)++b2),.string ((⟨#[116,61]⟩:ByteArray)++b3),.string ((⟨#[112,61]⟩:ByteArray)++b4)] 6 hG.2 (by unfold maxLen;omega) rfl
    go_simp
    rw [← hK]
    exact⟨_,rfl,hro,hal,hG.1.below hal,Nat.le_trans hG.2 hal.size⟩
   ·cases ho
    obtain⟨v9,q19,e19⟩:=hdep ⟨19,.data⟩ (by simp) rfl _ _ rfl rfl
    have g19:a.tmps.getD 29 undef=v9:=by rw [gDe,q19];rfl
    clear hfr hdep hsz
    generalize hK:(fun (a':Act) (w':World)=>_)=K
    go_simp
    rw [← hK]
    exact⟨_,rfl,e19,Below.refl _ _,hG⟩
  ·intro a W hd hsz hfr hall hG
   obtain⟨v3,q3,e3⟩:=hall 20 _ 3 rfl rfl
   have f0:=hfr 0 (qar (by kernel_rfl))
   have f1:=hfr 1 (qar (by kernel_rfl))
   have f2:=hfr 2 (qar (by kernel_rfl))
   have f4:=hfr 4 (qar (by kernel_rfl))
   have f5:=hfr 5 (qar (by kernel_rfl))
   have f6:=hfr 6 (qar (by kernel_rfl))
   have f7:=hfr 7 (qar (by kernel_rfl))
   have f8:=hfr 8 (qar (by kernel_rfl))
   have f9:=hfr 9 (qar (by kernel_rfl))
   have f30:=hfr 30 (qar (by kernel_rfl))
   have f31:=hfr 31 (qar (by kernel_rfl))
   have f32:=hfr 32 (qar (by kernel_rfl))
   have f33:=hfr 33 (qar (by kernel_rfl))
   have f34:=hfr 34 (qar (by kernel_rfl))
   have f35:=hfr 35 (qar (by kernel_rfl))
   have f36:=hfr 36 (qar (by kernel_rfl))
   have f37:=hfr 37 (qar (by kernel_rfl))
   have f38:=hfr 38 (qar (by kernel_rfl))
   have f39:=hfr 39 (qar (by kernel_rfl))
   have f40:=hfr 40 (qar (by kernel_rfl))
   have f41:=hfr 41 (qar (by kernel_rfl))
   have f42:=hfr 42 (qar (by kernel_rfl))
   have f43:=hfr 43 (qar (by kernel_rfl))
   have f44:=hfr 44 (qar (by kernel_rfl))
   have f45:=hfr 45 (qar (by kernel_rfl))
   have f46:=hfr 46 (qar (by kernel_rfl))
   have f47:=hfr 47 (qar (by kernel_rfl))
   have f48:=hfr 48 (qar (by kernel_rfl))
   have f49:=hfr 49 (qar (by kernel_rfl))
   have f50:=hfr 50 (qar (by kernel_rfl))
   have f51:=hfr 51 (qar (by kernel_rfl))
   have f52:=hfr 52 (qar (by kernel_rfl))
   have f53:=hfr 53 (qar (by kernel_rfl))
   have f54:=hfr 54 (qar (by kernel_rfl))
   have f55:=hfr 55 (qar (by kernel_rfl))
   have f56:=hfr 56 (qar (by kernel_rfl))
   have f57:=hfr 57 (qar (by kernel_rfl))
   have f58:=hfr 58 (qar (by kernel_rfl))
   have f59:=hfr 59 (qar (by kernel_rfl))
   have f60:=hfr 60 (qar (by kernel_rfl))
   have f61:=hfr 61 (qar (by kernel_rfl))
   have f62:=hfr 62 (qar (by kernel_rfl))
   have f63:=hfr 63 (qar (by kernel_rfl))
   have f64:=hfr 64 (qar (by kernel_rfl))
   have f65:=hfr 65 (qar (by kernel_rfl))
   have f66:=hfr 66 (qar (by kernel_rfl))
   have f67:=hfr 67 (qar (by kernel_rfl))
   have f68:=hfr 68 (qar (by kernel_rfl))
   have f69:=hfr 69 (qar (by kernel_rfl))
   clear hfr hall
   have ha:a = { tmps:=a.tmps,defers:=[] }:=by cases a;simp at hd;subst hd;rfl
   rw [ha,arr_lit70 a.tmps hsz]
   rw [show a.tmps.getD 0 undef=.agg #[.int .i64 x.id,.int .i64 x.c,.int .i64 x.d,.int .i64 x.t,.int .i64 x.p,.slice A5 lc c5,.slice A6 lu c6] from by rw [gDe,f0];rfl]
   rw [show a.tmps.getD 1 undef=.pointer (some ⟨tb,0,none⟩) from by rw [gDe,f1];rfl]
   rw [show a.tmps.getD 2 undef=.string ⟨#[]⟩ from by rw [gDe,f2];rfl]
   rw [show a.tmps.getD 4 undef=undef from by rw [gDe,f4];rfl]
   rw [show a.tmps.getD 5 undef=undef from by rw [gDe,f5];rfl]
   rw [show a.tmps.getD 6 undef=undef from by rw [gDe,f6];rfl]
   rw [show a.tmps.getD 7 undef=.agg #[.int .i64 x.id,.int .i64 x.c,.int .i64 x.d,.int .i64 x.t,.int .i64 x.p,.slice A5 lc c5,.slice A6 lu c6] from by rw [gDe,f7];rfl]
   rw [show a.tmps.getD 8 undef=.int .i64 0 from by rw [gDe,f8];rfl]
   rw [show a.tmps.getD 9 undef=.bool false from by rw [gDe,f9];rfl]
   rw [show a.tmps.getD 30 undef=undef from by rw [gDe,f30];rfl]
   rw [show a.tmps.getD 31 undef=undef from by rw [gDe,f31];rfl]
   rw [show a.tmps.getD 32 undef=undef from by rw [gDe,f32];rfl]
   rw [show a.tmps.getD 33 undef=undef from by rw [gDe,f33];rfl]
   rw [show a.tmps.getD 34 undef=undef from by rw [gDe,f34];rfl]
   rw [show a.tmps.getD 35 undef=undef from by rw [gDe,f35];rfl]
   rw [show a.tmps.getD 36 undef=undef from by rw [gDe,f36];rfl]
   rw [show a.tmps.getD 37 undef=undef from by rw [gDe,f37];rfl]
   rw [show a.tmps.getD 38 undef=undef from by rw [gDe,f38];rfl]
   rw [show a.tmps.getD 39 undef=undef from by rw [gDe,f39];rfl]
   rw [show a.tmps.getD 40 undef=undef from by rw [gDe,f40];rfl]
   rw [show a.tmps.getD 41 undef=undef from by rw [gDe,f41];rfl]
   rw [show a.tmps.getD 42 undef=undef from by rw [gDe,f42];rfl]
   rw [show a.tmps.getD 43 undef=undef from by rw [gDe,f43];rfl]
   rw [show a.tmps.getD 44 undef=undef from by rw [gDe,f44];rfl]
   rw [show a.tmps.getD 45 undef=undef from by rw [gDe,f45];rfl]
   rw [show a.tmps.getD 46 undef=undef from by rw [gDe,f46];rfl]
   rw [show a.tmps.getD 47 undef=undef from by rw [gDe,f47];rfl]
   rw [show a.tmps.getD 48 undef=undef from by rw [gDe,f48];rfl]
   rw [show a.tmps.getD 49 undef=undef from by rw [gDe,f49];rfl]
   rw [show a.tmps.getD 50 undef=undef from by rw [gDe,f50];rfl]
   rw [show a.tmps.getD 51 undef=undef from by rw [gDe,f51];rfl]
   rw [show a.tmps.getD 52 undef=undef from by rw [gDe,f52];rfl]
   rw [show a.tmps.getD 53 undef=undef from by rw [gDe,f53];rfl]
   rw [show a.tmps.getD 54 undef=undef from by rw [gDe,f54];rfl]
   rw [show a.tmps.getD 55 undef=undef from by rw [gDe,f55];rfl]
   rw [show a.tmps.getD 56 undef=undef from by rw [gDe,f56];rfl]
   rw [show a.tmps.getD 57 undef=undef from by rw [gDe,f57];rfl]
   rw [show a.tmps.getD 58 undef=undef from by rw [gDe,f58];rfl]
   rw [show a.tmps.getD 59 undef=undef from by rw [gDe,f59];rfl]
   rw [show a.tmps.getD 60 undef=undef from by rw [gDe,f60];rfl]
   rw [show a.tmps.getD 61 undef=undef from by rw [gDe,f61];rfl]
   rw [show a.tmps.getD 62 undef=undef from by rw [gDe,f62];rfl]
   rw [show a.tmps.getD 63 undef=undef from by rw [gDe,f63];rfl]
   rw [show a.tmps.getD 64 undef=undef from by rw [gDe,f64];rfl]
   rw [show a.tmps.getD 65 undef=undef from by rw [gDe,f65];rfl]
   rw [show a.tmps.getD 66 undef=undef from by rw [gDe,f66];rfl]
   rw [show a.tmps.getD 67 undef=undef from by rw [gDe,f67];rfl]
   rw [show a.tmps.getD 68 undef=undef from by rw [gDe,f68];rfl]
   rw [show a.tmps.getD 69 undef=undef from by rw [gDe,f69];rfl]
   rw [show a.tmps.getD 3 undef=v3 from by rw [gDe,q3];rfl]
   clear ha hd hsz q3 f0 f1 f2 f4 f5 f6 f7 f8 f9 f30 f31 f32 f33 f34 f35 f36 f37 f38 f39 f40 f41 f42 f43 f44 f45 f46 f47 f48 f49 f50 f51 f52 f53 f54 f55 f56 f57 f58 f59 f60 f61 f62 f63 f64 f65 f66 f67 f68 f69
   go_wp2
   go_meet
   exact⟨rfl,rfl,hG.1,hG.2,e3⟩
 case rest=>
  obtain⟨rfl,rfl,hS3,hn3,hR3⟩:=hcut
  clear C0 C1 C2 C3 C4 HS1 HS1d d0 d1 d2 d3 d4 z1 z2 z3 z4
  obtain⟨S3,hS3e⟩:∃ S,S=[⟨#[116,97,115,107]⟩,b0,(⟨#[99,61]⟩:ByteArray)++b1,(⟨#[100,61]⟩:ByteArray)++b2,(⟨#[116,61]⟩:ByteArray)++b3,(⟨#[112,61]⟩:ByteArray)++b4]:=⟨_,rfl⟩
  have HR3:Hid (wc.ownsRow n0 9 1 u3 6 (S3.map Value.string)):=Lib.hid (by rw [hS3e];exact hR3)
  have HL3:Hid (S3.length=6):=Lib.hid (by rw [hS3e];rfl)
  rw [← hS3e] at HLP
  clear hS3e hR3
  obtain⟨i0,hi0,hz0,hz1,hz2⟩:=info_parts infoS
  have HU3:=Lib.hid (And.intro hS3 hn3)
  obtain⟨t0,t1,t2,t3,t4,t5,t6,HB⟩:=hS3
  go_upto_if 33 with (fail)
  generalize hbc:decide (0<lc)=bc
  have HBC:=Lib.hid hbc
  clear hbc t0 t1 t2 t3 t4 t6
  go_cut [3] from 70 (fun v3 wx=>∃ S:List ByteArray,S=S3++(if 0<lc then [(⟨#[99,104,117,110,107,115,61]⟩:ByteArray)++J5] else [])∧6≤S.length∧S.length≤7∧wx.ownsRow n0 9 1 v3 S.length (S.map Value.string)∧n0≤wx.heap.size∧TkIn tb x A5 lc c5 A6 lu c6 w wx)
  case first=>
   cases bc with
   |true=>
    have hlc:=of_decide_eq_true HBC.out
    have HJ:=Lib.hid (HJ5.out wc (by rw [HW.out];exact HB) (fun y hy=>by have:=HCH.out y hy;omega) (by omega) ((HN5.out.below HB (by have:=HW.out;omega)).more (by have:=HB.size;have:=HW.out;omega)))
    go_wp2_with (first|(go_at_call 59;refine HJ.out.mono ?_;rintro e w5 ⟨rfl,hb5⟩)|(at_builtin;refine wpList_append_own _ rfl _ _ 120 rfl n0 9 i0 _ 1 16 Tryd.underlying120 hi0 hz0 hz1 hz2 rfl (by decide) _ _ _ rfl ((qaF HR3.out hb5 (Nat.le_refl _)).alloc _) ⟨w5.heap.size,0,none⟩ 1 1 [.string (⟨#[99,104,117,110,107,115,61]⟩++J5)] rfl rfl (cell_one_new _ _ _) (by simp [Value.oneCell']) (by unfold maxLen;omega) (by omega) (by have:=hb5.size;simp;omega) ?_;intro v' w6 hown' hgrow _))
    go_meet
    refine⟨_,rfl,by rw [List.length_append,HL3.out];omega,by rw [List.length_append,HL3.out,if_pos hlc];simp,?_,?_,?_⟩
    ·rw [if_pos hlc]
     exact row_snoc _ HL3.out hown'
    ·have q1:=hgrow.size
     have q2:=hb5.size
     rw [qax] at q1
     have:=HU3.out.2
     omega
    ·refine TkIn.grown ((HU3.out.1.below hb5).below ((Below.refl _ _).alloc (Nat.le_refl _) _)) hgrow (fun k e=>?_)
     have:=(((qaF HR3.out hb5 (Nat.le_refl _))).lt k e).1
     have:=HTN.out
     omega
   |false=>
    have hlc:=of_decide_eq_false HBC.out
    go_wp2
    go_meet
    exact⟨S3,by rw [if_neg hlc];simp,by rw [HL3.out];omega,by rw [HL3.out];omega,by rw [HL3.out];exact HR3.out,HU3.out.2,HU3.out.1⟩
  case rest=>
   obtain⟨S4,hS4,hl6,hl4,hR4,hn4,hT4⟩:=hcut
   have HLP4:Hid (LP=⟨(Lib.join ((S4++(if 0<lu then [(⟨#[117,115,101,61]⟩:ByteArray)++J6] else [])).map (·.data.toList)) [32]).toArray⟩):=Lib.hid (by rw [HLP.out,hS4,List.append_assoc])
   have HU4:=Lib.hid (And.intro hT4 hn4)
   have HR4:=Lib.hid hR4
   clear HLP hS4 HR3 HL3 HU3 HBC HJ5 HCH sJ5 HN5 hR4 hn3 hn4 HB
   obtain⟨k4,hk4⟩:∃ z,S4.length=z:=⟨_,rfl⟩
   have HK4:=Lib.hid hk4
   rw [hk4] at hl6 hl4
   clear hk4
   obtain⟨t0,t1,t2,t3,t4,t5,t6,HB⟩:=hT4
   clear t0 t1 t2 t3 t4 t5
   go_upto_if 44 with (fail)
   generalize hbu:decide (0<lu)=bu
   have HBU:=Lib.hid hbu
   clear hbu
   go_cut [3] from 70 (fun v3 wx=>∃ S:List ByteArray,S=S4++(if 0<lu then [(⟨#[117,115,101,61]⟩:ByteArray)++J6] else [])∧6≤S.length∧S.length≤8∧wx.ownsRow n0 9 1 v3 S.length (S.map Value.string)∧n0≤wx.heap.size∧Below tb w wx)
   case first=>
    cases bu with
    |false=>
     have hlu:=of_decide_eq_false HBU.out
     go_wp2
     go_meet
     exact⟨S4,by rw [if_neg hlu];simp,by rw [HK4.out];omega,by rw [HK4.out];omega,HR4.out,HU4.out.2,HU4.out.1.2.2.2.2.2.2.2⟩
    |true=>
     have hlu:=of_decide_eq_true HBU.out
     have hlu64:lu≤64:=by have:=HLL.out.2;omega
     obtain⟨b6,o6,rfl,hb6,hc6⟩:=((HN6.out.below HB (by have:=HW.out;omega)).more (C:=wc.heap.size) (by have:=HB.size;have:=HW.out;omega)) (by have:=HLL.out.2;omega)
     have HC6:=Lib.hid hc6
     clear hc6
     obtain⟨i1,hi1,hy0,hy1,hy2⟩:=info_parts infoL
     obtain⟨n1,hn1⟩:∃ n,n=wc.heap.size:=⟨_,rfl⟩
     have HN1:=Lib.hid hn1
     go_upto_region 8 with (at_make;refine wpList_make_full _ rfl _ _ 49 rfl n1 2 i1 _ 1 Tryd.underlying49 hi1 hy0 hy1 _ _ _ _ lu rfl rfl rfl rfl (by rw [hy2];omega) (by unfold maxLen;omega) (Nat.le_of_eq hn1) ?_;intro w5 hown5 hg5)
     rw [← hn1] at hown5 ⊢
     have hb5:Below n1 wc w5:=⟨hg5.os,hg5.tape,hg5.output,hg5.size,fun k hk=>hg5.block k (by rw [← hn1];exact hk) (by simp)⟩
     have hro5:w5.ownsRow n1 2 1 (.slice (some ⟨n1,0,none⟩) lu lu) lu ((x.us.take 0).map (Value.int .i64)++List.replicate (lu - 0) (.int .i64 0)):=by
      rw [Nat.mul_one] at hown5
      have e1:(Value.int .i64 0).cells = #[Value.int .i64 0]:=rfl
      rw [e1,toList_madeCells_one] at hown5
      simpa using hown5
     have HT6:=Lib.hid t6
     have ht6:=(hb5.cell (p:=⟨tb,6,none⟩) (by rw [hn1];exact qaK t6)).trans t6
     clear hown5 hg5 t6 hn1
     go_wp2
     go_loopw [52] (fun v52 wr=>∃ (i:Nat),v52=.int .i64 i∧i≤lu∧wr.ownsRow n1 2 1 (.slice (some ⟨n1,0,none⟩) lu lu) lu ((x.us.take i).map (Value.int .i64)++List.replicate (lu - i) (.int .i64 0))∧Below n1 wc wr) (fun v52 _=>lu - (RowKit.intOf v52).toNat)
     case atStart=>exact⟨0,rfl,Nat.zero_le _,hro5,hb5⟩
     case round=>
      obtain⟨i,rfl,hi,hrow,hbw⟩:=hrel
      by_cases hil:i<lu
      ·have hix:i<x.us.length:=by have:=HLL.out.2;omega
       have hcell:=(hbw.cell (p:=⟨b6,o6+i,none⟩) (by rw [HN1.out];exact hb6)).trans (HC6.out i hix)
       have HST:=Lib.hid (hrow.stored i (.int .i64 x.us[i]))
       have hca:=hrow.cellAt i (by omega)
       have hfa:=hrow.frozenAt i
       have HX:=Lib.hid (fill_next (l:=x.us) (n:=lu) HLL.out.2 hil)
       have HBW:=Lib.hid hbw
       have hza:∃ z,wr.cell? ⟨n1,i,none⟩=some z:=by
        rw [hca]
        exact⟨_,List.getElem?_eq_getElem (by have:=hrow.1;omega)⟩
       obtain⟨z,hza⟩:=hza
       clear hca hrow hbw
       generalize x.us[i]=y at hcell HST HX
       go_wp2
       go_roundw
       case rel=>exact⟨i+1,by simp,hil,by rw [HX.out];exact HST.out.1,HBW.out.setCell (p:=⟨n1,i,none⟩) (Nat.le_refl _) _⟩
       case measure=>simp [RowKit.intOf];omega
      ·have hie:Hid (i=lu):=Lib.hid (by omega)
       have hnr:NRow wr wr.heap.size (some ⟨n1,0,none⟩) x.us:=fun _=>⟨n1,0,rfl,(hrow.lt n1 rfl).2,fun j hj=>by
        have hj':j<lu:=by have:=HLL.out.2;omega
        rw [Nat.zero_add,hrow.cellAt j (by omega),hie.out,← HLL.out.2,List.take_length,List.getElem?_append_left (by rw [List.length_map];exact hj),List.getElem?_map,List.getElem?_eq_getElem hj]
        rfl⟩
       have hbt:Below tb w wr:=HB.trans (hbw.mono (by have:=HU4.out.1.lt;have:=HN1.out;omega))
       have HJ:=Lib.hid (HJ6.out wr (some ⟨n1,0,none⟩) lu (by rw [HW.out];exact hbt) (fun y hy=>by have:=HUS.out y hy;omega) (by have:=HLL.out.2;omega) hnr)
       have HR9:=Lib.hid (qaF HR4.out hbw (by rw [HN1.out];exact Nat.le_refl _))
       have HBT:=Lib.hid hbt
       have hwn:n0≤wr.heap.size:=by have:=hbw.size;have:=HU4.out.2;omega
       clear hnr hrow hbt hbw
       go_wp2_with (first|(go_at_call 59;refine HJ.out.mono ?_;rintro e w5 ⟨rfl,hb5⟩)|(at_builtin;refine wpList_append_own _ rfl _ _ 120 rfl n0 9 i0 _ 1 16 Tryd.underlying120 hi0 hz0 hz1 hz2 rfl (by decide) _ _ _ rfl ((qaF HR9.out hb5 (Nat.le_refl _)).alloc _) ⟨w5.heap.size,0,none⟩ 1 1 [.string (⟨#[117,115,101,61]⟩++J6)] rfl rfl (cell_one_new _ _ _) (by simp [Value.oneCell']) (by unfold maxLen;have:=HK4.out;omega) (by have:=HK4.out;omega) (by have:=hb5.size;simp;omega) ?_;intro v' w6 hown' hgrow _))
       go_meet
       have q1:=hgrow.size
       have q2:=hb5.size
       rw [qax] at q1
       refine⟨_,rfl,by rw [List.length_append,HK4.out];omega,by rw [List.length_append,HK4.out,if_pos hlu];simp;omega,?_,by omega,?_⟩
       ·rw [if_pos hlu]
        rw [HK4.out] at hown'
        exact row_snoc _ HK4.out hown'
       ·refine (((HBT.out.trans (hb5.mono (by have:=HTN.out;omega))).alloc (by have:=HTN.out;omega) _).grown hgrow (by rw [qax];have:=HTN.out;omega) (fun k e=>?_))
        have:=((qaF HR9.out hb5 (Nat.le_refl _)).lt k e).1
        have:=HTN.out
        omega
   case rest=>
    obtain⟨S5,hS5,hl5,hl8,hR5,hn5,HB5⟩:=hcut
    have HJ:=Lib.hid (sjoin_own S5 LP hR5 (by omega) (by omega) (by rw [hS5];exact HLP4.out) (by have:=sLP.out;omega))
    go_wp2_with (go_at_call 60;refine HJ.out.mono ?_;rintro e w9 ⟨rfl,hb9⟩)
    go_ret
    exact⟨rfl,by rw [HW.out];exact HB5.trans (hb9.mono (by have:=HTN.out;omega))⟩
end Go.Proofs.YtcfknijdhmildaaDoor
end
section
namespace Go.Proofs.YtcfknijdhmildaaDoor
open Go.RowKit
theorem wp_region_facts_k (k0:Nat) {P:Program} {ops:Array Oper} {Q:Exit→Act→World→Prop} {id:Nat} {a0:Act} {w0:World} (hm:P.follows .mixedOrders=true) (ht:tidyB a0.tmps.size ops=true)
  (F:Nat→Value→World→Prop) (Kp:World→World→Prop) (hF:∀ i v w w',F i v w→Kp w w'→F i v w') (G:Bool→World→Prop) (hG:G false w0.drew) (hk0:k0<ops.size)
  (hstep:∀ (i:Nat) (o:Oper) (a:Act) (w:World) (bk:Bool),ops[i]? = some o→a.tmps.size=a0.tmps.size→(∀ d,(∀ (j:Nat) oj,ops[j]? = some oj→oj.dst≠some d)→a.tmps[d]? = a0.tmps[d]?) →
   (∀ e ∈ o.after,Region.binds .any e=true→∀ oe d,ops[e.on]? = some oe→oe.dst=some d→∃ v,a.tmps[d]? = some v∧F e.on v w)→G bk w→(i=k0→bk=false) →
   o.wp P a w (fun a' w'=>∃ v,a' = a.put o.dst v∧F i v w'∧Kp w w'∧G (bk || decide (i=k0)) w') Q)
  (hend:∀ (a:Act) (w:World),a.defers=a0.defers→a.tmps.size=a0.tmps.size→(∀ d,(∀ (j:Nat) oj,ops[j]? = some oj→oj.dst≠some d)→a.tmps[d]? = a0.tmps[d]?) →
   (∀ (i:Nat) o d,ops[i]? = some o→o.dst=some d→∃ v,a.tmps[d]? = some v∧F i v w)→G true w→Q .normal a w) :
  (Code.region id ops true).wp P Q a0 w0:=by
 refine wp_region_any hm ?_
 refine any_inv (fun i o ho=>(tidy_at ht ho).2.1) (fun listed a w=>a.defers=a0.defers∧a.tmps.size=a0.tmps.size∧(∀ d,(∀ (j:Nat) oj,ops[j]? = some oj→oj.dst≠some d)→a.tmps[d]? = a0.tmps[d]?) ∧
  (∀ (i:Nat) o d,ops[i]? = some o→o.dst=some d→listed.getD i false=true→∃ v,a.tmps[d]? = some v∧F i v w)∧G (listed.getD k0 false) w) ?_ ?_ _ _ _ _ (by simp) ?_ ⟨rfl,rfl,fun _ _=>rfl,?_,by rw [show (Array.replicate ops.size false).getD k0 false=false from by simp [gDe,Array.getElem?_replicate];split<;>rfl];exact hG⟩
 ·rintro i o listed a w ho hsz hl hd ⟨i1,i2,i3,i4,i5⟩
  obtain⟨g1,g2,g3⟩:=tidy_at ht ho
  have hil:i<listed.size:=by rw [hsz];exact (Array.getElem?_eq_some_iff.1 ho).1
  have hw:Region.wanted o (yielded ops a.tmps)=true:=by simp [Region.wanted,g1]
  unfold wpOp
  rw [ho]
  simp only [hw,if_true]
  refine .inl (Oper.wp_mono ?_ (hstep i o a w (listed.getD k0 false) ho i2 i3 (fun e he hb oe d hoe hde=>i4 e.on oe d hoe hde (hd e he hb)) i5 (fun e=>by subst e;rw [gDe,Array.getElem?_eq_getElem hil] at hl ⊢;exact hl)))
  rintro a' w' ⟨v,rfl,k1,k2,k3⟩
  have hgk:(listed.setIfInBounds i true).getD k0 false=(listed.getD k0 false || decide (i=k0)):=by
   by_cases e:i=k0
   ·subst e
    simp [gDe,hil]
   ·simp [gDe,e]
  rw [← hgk] at k3
  cases hdst:o.dst with
  |none=>
   refine⟨i1,i2,i3,fun j oj d hoj hdj hlj=>?_,k3⟩
   have hji:j≠i:=fun e=>by subst e;rw [ho] at hoj;cases hoj;rw [hdst] at hdj;cases hdj
   obtain⟨u,u1,u2⟩:=i4 j oj d hoj hdj (by simpa [gDe,Array.getElem?_setIfInBounds,Ne.symm hji] using hlj)
   exact⟨u,u1,hF _ _ _ _ u2 k2⟩
  |some d0=>
   have hd0:=(g3 d0 hdst).1
   have hput:(a.put (some d0) v).tmps=a.tmps.setIfInBounds d0 v:=rfl
   refine⟨i1,by rw [hput];simp [i2],fun d hn=>?_,fun j oj d hoj hdj hlj=>?_,k3⟩
   ·rw [hput,Array.getElem?_setIfInBounds]
    have:d0≠d:=fun e=>hn i o ho (by rw [hdst,e])
    rw [if_neg this]
    exact i3 d hn
   ·rw [hput,Array.getElem?_setIfInBounds]
    by_cases hji:j=i
    ·subst hji
     rw [ho] at hoj
     cases hoj
     rw [hdst] at hdj
     cases hdj
     rw [if_pos rfl,if_pos (by rw [i2];exact hd0)]
     exact⟨v,rfl,k1⟩
    ·have hdd:d0≠d:=fun e=>hji (tidy_one ht hoj ho hdj (by rw [hdst,e]))
     rw [if_neg hdd]
     obtain⟨u,u1,u2⟩:=i4 j oj d hoj hdj (by simpa [gDe,Array.getElem?_setIfInBounds,Ne.symm hji] using hlj)
     exact⟨u,u1,hF _ _ _ _ u2 k2⟩
 ·rintro listed a w hall ⟨i1,i2,i3,i4,i5⟩
  exact hend a w i1 i2 i3 (fun i o d ho hd=>i4 i o d ho hd (hall i (Array.getElem?_eq_some_iff.1 ho).1)) (by rw [hall k0 hk0] at i5;exact i5)
 ·exact Nat.le_trans List.countP_le_length (by simp)
 ·intro i o d _ _ h
  exfalso
  rw [gDe,Array.getElem?_replicate] at h
  split at h<;>simp at h
end Go.Proofs.YtcfknijdhmildaaDoor
end
section
namespace Go.Proofs.YtcfknijdhmildaaDoor
open Go.RowKit Go.Shelf Go.Lib
theorem infoBuilder:(Tryd.prog.info? 82).map (·.size)=some 2:=by kernel_rfl
theorem liesBuilder:liesAt Tryd.prog Tryd.prog.depth 82 (2 / Tryd.prog.cellsOf 82) 0 82 1=true:=by kernel_rfl
theorem infoU8:(Tryd.prog.info? 5).map (fun i=>(i.zero,i.size,i.bytes))=some (some (.int .u8 0),1,1):=by kernel_rfl
theorem copyCheck_used (b:Nat) (w:World) (h0:w.cell? ⟨b,0,none⟩=some (.pointer (some ⟨b,0,none⟩))) :
  Calls Tryd.prog 57 #[.pointer (some ⟨b,0,none⟩)] w fun e w'=>e=.returned (.tuple #[])∧w' = w:=by
 obtain⟨j,hj,_⟩:=Option.map_eq_some_iff.1 infoBuilder
 go_enter Tryd.func57,Tryd.ntmps57
 go_wp2
 rw [Lib.run_neq_ptr_same w _ Tryd.underlying80 hj]
 go_wp2
 go_end0
 exact⟨rfl,rfl⟩
theorem copyCheck_fresh (b:Nat) (w:World) (h0:w.cell? ⟨b,0,none⟩=some (.pointer none)) (hsh:w.shape? b=some (82,2)) (hfz:w.frozen? ⟨b,0,none⟩=false) :
  Calls Tryd.prog 57 #[.pointer (some ⟨b,0,none⟩)] w fun e w'=>e=.returned (.tuple #[])∧w' = w.setCell ⟨b,0,none⟩ (.pointer (some ⟨b,0,none⟩)):=by
 obtain⟨j,hj,hjs⟩:=Option.map_eq_some_iff.1 infoBuilder
 go_enter Tryd.func57,Tryd.ntmps57
 go_wp2
 rw [Lib.run_to_unsafe w ⟨b,0,none⟩ Tryd.underlying80 Tryd.underlying140 hj (by rw [hjs];decide) hsh (Nat.zero_lt_succ 1)]
 simp only [Result.andThen]
 rw [Oper.upon_value]
 go_wp2
 rw [run_callFunc_extern Tryd.func75 (by kernel_rfl) (by kernel_rfl) (by kernel_rfl) (e:=Extern.AbiNoEscape.same) (by kernel_rfl)]
 rw [Lib.run_noEscape]
 simp only [Result.andThen]
 rw [Oper.upon_value]
 go_wp2
 rw [Lib.run_from_unsafe w ⟨b,0,none⟩ Tryd.underlying140 Tryd.underlying80 hj hsh liesBuilder]
 simp only [Result.andThen]
 rw [Oper.upon_value]
 go_wp2
 go_end0
 exact⟨rfl,rfl⟩
theorem copyCheck_any (B b:Nat) (bs:List Value) (w:World) (h:Lib.IsBuilder 82 5 B b bs w) :
  Calls Tryd.prog 57 #[.pointer (some ⟨b,0,none⟩)] w fun e w'=>e=.returned (.tuple #[])∧(Lib.BuilderAt 82 5 B b (.pointer (some ⟨b,0,none⟩)) bs w'∧Below B w w'):=by
 rcases h with h|h
 ·refine (copyCheck_fresh b w h.cell0 h.shape h.frozen0).mono ?_
  rintro e w' ⟨rfl,rfl⟩
  exact⟨rfl,h.used _,(Below.refl B w).setCell (p:=⟨b,0,none⟩) h.1 _⟩
 ·refine (copyCheck_used b w h.cell0).mono ?_
  rintro e w' ⟨rfl,rfl⟩
  exact⟨rfl,h,Below.refl B _⟩
theorem writeString_any (B b:Nat) (bs:List Value) (s:ByteArray) (w:World) (h:Lib.IsBuilder 82 5 B b bs w) (hlen:bs.length+s.size≤140737488355328) (hBw:B≤w.heap.size) :
  Calls Tryd.prog 31 #[.pointer (some ⟨b,0,none⟩),.string s] w fun e w'=>e=.returned (.tuple #[.int .i64 s.size,.nilIface])∧(Lib.BuilderAt 82 5 B b (.pointer (some ⟨b,0,none⟩)) (bs++Lib.strCells s) w'∧Below B w w'):=by
 obtain⟨i0,hi,hz0,hz1,hz2⟩:=info_parts infoU8
 go_enter Tryd.func31,Tryd.ntmps31
 go_wp2_with (go_at_call 57;refine (copyCheck_any B b bs _ h).mono ?_)
 rintro e w1 ⟨rfl,h1,hb1⟩
 obtain⟨hB,v,hbk,hown,hne⟩:=h1
 have c0:w1.cell? ⟨b,0,none⟩=some (.pointer (some ⟨b,0,none⟩)):=by rw [Lib.cell_of_heap hbk];rfl
 have c1:w1.cell? ⟨b,1,none⟩=some v:=by rw [Lib.cell_of_heap hbk];rfl
 go_wp2_with (at_builtin;refine Lib.wpList_append_own_string _ rfl _ _ 34 9 rfl B 5 i0 Tryd.underlying34 Tryd.underlying9 hi hz0 hz1 hz2 _ _ _ rfl hown s rfl ?c3 ?c4 ?c5 ?_)
 case c3=>unfold maxLen;omega
 case c4=>omega
 case c5=>have:=hb1.size;omega
 intro v' w2 hown' hgrow _
 have hlt:b<w1.heap.size:=lt_of_block hbk
 have hb2:w2.heap[b]? = some (.cells #[.pointer (some ⟨b,0,none⟩),v] 82 (0,0)):=by
  rw [hgrow.block b hlt (fun e=>hne e.symm)]
  exact hbk
 have d0:w2.cell? ⟨b,0,none⟩=some (.pointer (some ⟨b,0,none⟩)):=by rw [Lib.cell_of_heap hb2];rfl
 have d1:w2.cell? ⟨b,1,none⟩=some v:=by rw [Lib.cell_of_heap hb2];rfl
 have f1:w2.frozen? ⟨b,1,none⟩=false:=Lib.frozen_of_heap hb2 1
 obtain⟨ao,n',cap,rfl⟩:∃ ao n' cap,v' = .slice ao n' cap:=by
  rcases hown'.2 with ⟨hv,_⟩|⟨g,cap,cur,hv,_⟩
  ·exact⟨_,_,_,hv⟩
  ·exact⟨_,_,_,hv⟩
 go_wp2
 go_ret2
 refine⟨rfl,?_,?_⟩
 ·exact Lib.BuilderAt.put (T:=82) (e:=5) hB hb2 (bs':=bs++Lib.strCells s) (by simpa [Lib.strCells_length] using hown') (by decide)
 ·exact ((hb1.grown hgrow (by have:=hb1.size;omega) (fun k hk=>(hown.lt k hk).1)).setCell (p:=⟨b,1,none⟩) hB _)
end Go.Proofs.YtcfknijdhmildaaDoor
end
section
namespace Go.Proofs.YtcfknijdhmildaaDoor
open Go.RowKit Go.Shelf Go.Lib Go.Proofs.YtcfknijdhmildaaDoorW.PrintWords
theorem strCells_bytes (s:ByteArray):Lib.strCells s=Lib.byteCells s.data.toList:=rfl
theorem byteCells_append (l m:List UInt8):Lib.byteCells (l++m)=Lib.byteCells l++Lib.byteCells m:=by simp [Lib.byteCells]
theorem byteCells_len (l:List UInt8):(Lib.byteCells l).length=l.length:=by simp [Lib.byteCells]
theorem isBuilder_below {T e:TypeId} {B b:Nat} {bs:List Value} {w w':World} (h:Lib.IsBuilder T e B b bs w) (hb:Below w.heap.size w w'):Lib.IsBuilder T e B b bs w':=by
 have key:∀ p,Lib.BuilderAt T e B b p bs w→Lib.BuilderAt T e B b p bs w':=fun p hp=>by
  obtain⟨h1,v,h2,h3,h4⟩:=hp
  exact⟨h1,v,(hb.block b (lt_of_block h2)).trans h2,qaF h3 hb (Nat.le_refl _),h4⟩
 exact h.imp (key _) (key _)
def PrI (tb b:Nat) (sets rel:Int) (A:Option Addr) (n cap:Nat) (w:World) (T:List UInt8) (W:World):Prop:=
 (W.cell? ⟨tb,0,none⟩=some (.int .i64 sets)∧W.cell? ⟨tb,1,none⟩=some (.int .i64 rel)∧W.cell? ⟨tb,2,none⟩=some (.slice A n cap))∧Below tb w W∧tb<b∧b≤W.heap.size∧Lib.IsBuilder 82 5 b b (Lib.byteCells T) W
theorem PrI.below {tb b:Nat} {sets rel:Int} {A:Option Addr} {n cap:Nat} {w W W':World} {T:List UInt8} (h:PrI tb b sets rel A n cap w T W) (hb:Below W.heap.size W W'):PrI tb b sets rel A n cap w T W':=by
 obtain⟨⟨h0,h1,h2⟩,h3,h4,h5,h6⟩:=h
 have m:∀ p v,W.cell? p=some v→W'.cell? p=some v:=fun p v h=>(hb.cell (bLt W _ h)).trans h
 exact⟨⟨m _ _ h0,m _ _ h1,m _ _ h2⟩,h3.trans (hb.mono (by omega)),h4,Nat.le_trans h5 hb.size,isBuilder_below h6 hb⟩
theorem PrI.wrote {tb b:Nat} {sets rel:Int} {A:Option Addr} {n cap:Nat} {w W W':World} {T:List UInt8} {s:ByteArray} (h:PrI tb b sets rel A n cap w T W) (h2:Lib.BuilderAt 82 5 b b (.pointer (some ⟨b,0,none⟩)) (Lib.byteCells T++Lib.strCells s) W') (hb:Below b W W'):PrI tb b sets rel A n cap w (T++s.data.toList) W':=by
 obtain⟨⟨h0,h1,h3⟩,h4,h5,h6,_⟩:=h
 refine⟨⟨(hb.cell (p:=⟨tb,_,none⟩) h5).trans h0,(hb.cell (p:=⟨tb,_,none⟩) h5).trans h1,(hb.cell (p:=⟨tb,_,none⟩) h5).trans h3⟩,h4.trans (hb.mono (by omega)),h5,Nat.le_trans h6 hb.size,?_⟩
 rw [byteCells_append,← strCells_bytes]
 exact .inr h2
theorem write_pr {tb b:Nat} {sets rel:Int} {A:Option Addr} {n cap:Nat} {w W:World} {T:List UInt8} (s:ByteArray) (h:PrI tb b sets rel A n cap w T W) (hl:T.length+s.size≤140737488355328) :
  Calls Tryd.prog 31 #[.pointer (some ⟨b,0,none⟩),.string s] W fun e w'=>e=.returned (.tuple #[.int .i64 s.size,.nilIface])∧PrI tb b sets rel A n cap w (T++s.data.toList) w':=by
 refine (writeString_any b b (Lib.byteCells T) s W h.2.2.2.2 (by rw [byteCells_len];exact hl) h.2.2.2.1).mono ?_
 rintro e w' ⟨rfl,h1,h2⟩
 exact⟨rfl,h.wrote h1 h2⟩
theorem arr_lit33 (xs:Array Value) (h:xs.size=33):xs=List.toArray (xs.getD 0 undef::xs.getD 1 undef::xs.getD 2 undef::xs.getD 3 undef::xs.getD 4 undef::xs.getD 5 undef::xs.getD 6 undef::xs.getD 7 undef::xs.getD 8 undef::xs.getD 9 undef::xs.getD 10 undef::xs.getD 11 undef::xs.getD 12 undef::xs.getD 13 undef::xs.getD 14 undef::xs.getD 15 undef::xs.getD 16 undef::xs.getD 17 undef::xs.getD 18 undef::xs.getD 19 undef::xs.getD 20 undef::xs.getD 21 undef::xs.getD 22 undef::xs.getD 23 undef::xs.getD 24 undef::xs.getD 25 undef::xs.getD 26 undef::xs.getD 27 undef::xs.getD 28 undef::xs.getD 29 undef::xs.getD 30 undef::xs.getD 31 undef::xs.getD 32 undef::[]):=arr_range xs 33 h
theorem print_any (sets rel:Int) (A:Option Addr) (cap:Nat) (L:List Tk) (w:World) (hL:L.length≤70000) (hb:∀ x ∈ L,x.ch.length≤1000000∧x.us.length≤1000000∧x.c≤9223372036854775807) (hr:TkRow w w.heap.size A L)
  (htab:Lib.TabIs Tryd.prog w "internal/strconv.uint64pow10" .u64 Lib.pow10Tab) (hg:0<w.heap.size) :
  Calls Tryd.prog 15 #[.agg #[.int .i64 sets,.int .i64 rel,.slice A L.length cap]] w fun e w'=>e=.returned (.string (if checkE sets rel L=0 then printT sets rel L else ⟨#[]⟩))∧Below w.heap.size w w':=by
 have hb0:=(Below.refl w.heap.size w).alloc (Nat.le_refl _) (.cells #[.int .i64 sets,.int .i64 rel,.slice A L.length cap] 32)
 have hn0:=heap_alloc_new w (.cells #[.int .i64 sets,.int .i64 rel,.slice A L.length cap] 32)
 have hz0:=qax w (.cells #[.int .i64 sets,.int .i64 rel,.slice A L.length cap] 32)
 have HCK:=Lib.hid (check_any sets rel A cap L (w.alloc (.cells #[.int .i64 sets,.int .i64 rel,.slice A L.length cap] 32)) (by omega) hb ((hr.below hb0 (Nat.le_refl _)).more hb0.size))
 have HB2:=Lib.hid hb
 have HR:=Lib.hid hr
 have HTB:=Lib.hid (And.intro htab hg)
 obtain⟨n,hn⟩:∃ z,L.length=z:=⟨_,rfl⟩
 have HSM:=Lib.hid (fun h=>checkE_small (sets:=sets) (rel:=rel) (L:=L) h)
 rw [hn] at hn0 hb0 hz0 HCK
 rw [hn]
 have HN:=Lib.hid hn
 have HPG:Hid (printT sets rel L=goT (headT sets rel) (L.take n)):=Lib.hid (by rw [← hn,List.take_length];rfl)
 have HHD:Hid (headT sets rel=((((⟨#[99,97,99,104,101,32]⟩:ByteArray)++digB sets)++⟨#[32]⟩)++digB rel)++⟨#[10]⟩):=Lib.hid rfl
 generalize printT sets rel L=P at HPG ⊢
 generalize hE:checkE sets rel L=E at HCK HSM ⊢
 clear hE hr hb htab hg hL hn
 by_cases hE0:E=0
 rotate_left
 ·rw [if_neg hE0]
  have hEb:(E == 0)=false:=by simpa using hE0
  clear hE0
  go_enter Tryd.func15,Tryd.ntmps15
  go_upto_region 1 with (fail)
  generalize w.alloc (.cells #[.int .i64 sets,.int .i64 rel,.slice A n cap] 32)=w0 at hb0 hn0 hz0 HCK ⊢
  obtain⟨t0,t1,t2,_⟩:=three_cells hn0
  have HB:=Lib.hid hb0
  clear hb0 hn0 hz0
  go_wp2_with (go_at_call 25;refine HCK.out.mono ?_;rintro e w1 ⟨rfl,hb1⟩)
  go_ret
  exact⟨rfl,HB.out.trans (hb1.mono HB.out.size)⟩
 subst hE0
 rw [if_pos rfl]
 obtain⟨hs,hre,hn1,hn2⟩:=HSM.out rfl
 have HNL:=Lib.hid (And.intro hn1 hn2)
 have dS:=qaJ sets (by omega) (by omega)
 have dR:=qaJ rel (by omega) (by omega)
 have hhs:=headT_size sets rel hs hre
 have HSIG:=Lib.hid (And.intro (And.intro (show -9223372036854775808≤sets by omega) (show sets≤9223372036854775807 by omega)) (And.intro (show -9223372036854775808≤rel by omega) (show rel≤9223372036854775807 by omega)))
 clear hs hre hn1 hn2 HSM
 have D0:=Lib.hid (fun W h=>qaZ sets W HSIG.out.1.1 HSIG.out.1.2 h)
 have D1:=Lib.hid (fun W h=>qaZ rel W HSIG.out.2.1 HSIG.out.2.2 h)
 rw [show (⟨(itoa sets).toArray⟩:ByteArray)=digB sets from rfl] at D0
 rw [show (⟨(itoa rel).toArray⟩:ByteArray)=digB rel from rfl] at D1
 generalize headT sets rel=HD at HHD HPG hhs
 generalize digB sets=bs at dS D0 HHD
 generalize digB rel=br at dR D1 HHD
 go_enter Tryd.func15,Tryd.ntmps15
 go_upto_region 1 with (fail)
 generalize w.alloc (.cells #[.int .i64 sets,.int .i64 rel,.slice A n cap] 32)=w0 at hb0 hn0 hz0 HCK ⊢
 obtain⟨tb,htb⟩:∃ z,w.heap.size=z:=⟨_,rfl⟩
 rw [htb] at hn0 hz0 ⊢
 obtain⟨t0,t1,t2,_⟩:=three_cells hn0
 have HB:Hid (Below tb w w0):=Lib.hid (by rw [← htb];exact hb0)
 have HZ:=Lib.hid hz0
 have HW:Hid (w.heap.size=tb):=Lib.hid htb
 clear hb0 hn0 hz0
 go_upto_region 3 with (go_at_call 25;refine HCK.out.mono ?_;rintro e w1 ⟨rfl,hb1⟩)
 have hl0:=qaK t0
 have hq0:=(hb1.cell (p:=⟨tb,0,none⟩) hl0).trans t0
 have hq1:=(hb1.cell (p:=⟨tb,1,none⟩) hl0).trans t1
 have hq2:=(hb1.cell (p:=⟨tb,2,none⟩) hl0).trans t2
 have HB1:Hid (Below tb w w1):=Lib.hid (HB.out.trans (hb1.mono (Nat.le_of_lt hl0)))
 have HT1:Hid (tb<w1.heap.size):=Lib.hid (Nat.lt_of_lt_of_le hl0 hb1.size)
 clear t0 t1 t2 hb1 HB HCK HZ hl0
 go_upto_region 4 with (fail)
 have hib:=fresh_isBuilder 82 5 w1
 have hb2:=(Below.refl w1.heap.size w1).alloc (Nat.le_refl _) (.cells #[.pointer none,.slice none 0 0] 82)
 generalize w1.alloc (.cells #[.pointer none,.slice none 0 0] 82)=w2 at hib hb2 ⊢
 obtain⟨b,hb⟩:∃ b,w1.heap.size=b:=⟨_,rfl⟩
 have HP2:PrI tb b sets rel A n cap w [] w2:=⟨⟨(hb2.cell (p:=⟨tb,0,none⟩) HT1.out).trans hq0,(hb2.cell (p:=⟨tb,1,none⟩) HT1.out).trans hq1,(hb2.cell (p:=⟨tb,2,none⟩) HT1.out).trans hq2⟩,HB1.out.trans (hb2.mono (Nat.le_of_lt HT1.out)),by rw [← hb];exact HT1.out,by rw [← hb];exact hb2.size,by rw [← hb];exact hib⟩
 rw [hb]
 clear hb hib hb2 hq0 hq1 hq2 HB1 HT1
 have C0:Hid (∀ (W:World) (T:List UInt8),PrI tb b sets rel A n cap w T W→Calls Tryd.prog 32 #[.int .i64 sets] W fun e w'=>e=.returned (.string bs)∧PrI tb b sets rel A n cap w T w'):=Lib.hid (fun W T h=>(D0.out W (qaP HTB.out.1 (by rw [HW.out];exact h.2.1) HTB.out.2)).mono fun e w' ⟨h1,h2⟩=>⟨h1,h.below h2⟩)
 have C1:Hid (∀ (W:World) (T:List UInt8),PrI tb b sets rel A n cap w T W→Calls Tryd.prog 32 #[.int .i64 rel] W fun e w'=>e=.returned (.string br)∧PrI tb b sets rel A n cap w T w'):=Lib.hid (fun W T h=>(D1.out W (qaP HTB.out.1 (by rw [HW.out];exact h.2.1) HTB.out.2)).mono fun e w' ⟨h1,h2⟩=>⟨h1,h.below h2⟩)
 clear D0 D1
 have z1:(⟨#[99,97,99,104,101,32]⟩:ByteArray).size=6:=rfl
 have z2:(⟨#[32]⟩:ByteArray).size=1:=rfl
 have z3:(⟨#[10]⟩:ByteArray).size=1:=rfl
 go_cut [1,2,3] from 33 (fun v1 v2 v3 wx=>v1=.pointer (some ⟨tb,0,none⟩)∧v2=.string ⟨#[]⟩∧v3=.pointer (some ⟨b,0,none⟩)∧PrI tb b sets rel A n cap w HD.data.toList wx)
 case first=>
  refine wp_region_facts_k 10 (by kernel_rfl) (by kernel_rfl) (fun i v W=>match i with
    |0=>v=.pointer (some ⟨tb,0,none⟩)
    |1=>v=.int .i64 sets
    |2=>v=.string bs
    |3=>v=.string ((⟨#[99,97,99,104,101,32]⟩:ByteArray)++bs)
    |4=>v=.string (((⟨#[99,97,99,104,101,32]⟩:ByteArray)++bs)++⟨#[32]⟩)
    |5=>v=.pointer (some ⟨tb,1,none⟩)
    |6=>v=.int .i64 rel
    |7=>v=.string br
    |8=>v=.string ((((⟨#[99,97,99,104,101,32]⟩:ByteArray)++bs)++⟨#[32]⟩)++br)
    |9=>v=.string (((((⟨#[99,97,99,104,101,32]⟩:ByteArray)++bs)++⟨#[32]⟩)++br)++⟨#[10]⟩)
    |10=>True
    |_=>True) (fun _ _=>True) (fun _ _ _ _ h _=>h) (fun bk W=>PrI tb b sets rel A n cap w (if bk=true then HD.data.toList else []) W) (HP2.below (Below.refl _ _).drew) (of_decide_eq_true (by rfl)) ?_ ?_
  ·intro i o a W bk ho hsz hfr hdep hG hbk
   have hi:i<11:=(Array.getElem?_eq_some_iff.1 ho).1
   have hin:i=0∨i=1∨i=2∨i=3∨i=4∨i=5∨i=6∨i=7∨i=8∨i=9∨i=10:=by omega
   rcases hin with rfl|rfl|rfl|rfl|rfl|rfl|rfl|rfl|rfl|rfl|rfl
   ·cases ho
    have g:a.tmps.getD 1 undef=.pointer (some ⟨tb,0,none⟩):=by rw [gDe,hfr 1 (qar (by kernel_rfl))];rfl
    clear hfr hdep hsz
    generalize hK:(fun (a':Act) (w':World)=>_)=K
    go_simp
    rw [← hK]
    exact⟨_,rfl,rfl,trivial,by simpa using hG⟩
   ·cases ho
    obtain⟨_,q0,e0⟩:=hdep ⟨0,.data⟩ (by simp) rfl _ _ rfl rfl
    have g0:a.tmps.getD 9 undef=.pointer (some ⟨tb,0,none⟩):=by rw [gDe,q0,e0];rfl
    rw [e0] at q0
    clear e0
    have hc:W.cell? ⟨tb,0,none⟩=some (.int .i64 sets):=hG.1.1
    clear hfr hdep hsz
    generalize hK:(fun (a':Act) (w':World)=>_)=K
    go_simp
    rw [← hK]
    exact⟨_,rfl,rfl,trivial,by simpa using hG⟩
   ·cases ho
    obtain⟨_,q1,e1⟩:=hdep ⟨1,.data⟩ (by simp) rfl _ _ rfl rfl
    have g1:a.tmps.getD 10 undef=.int .i64 sets:=by rw [gDe,q1,e1];rfl
    rw [e1] at q1
    clear e1
    clear hfr hdep hsz
    generalize hK:(fun (a':Act) (w':World)=>_)=K
    go_simp
    refine (C0.out W _ hG).mono ?_
    rintro e W2 ⟨rfl,hG2⟩
    show K _ _
    rw [← hK]
    exact⟨_,rfl,rfl,trivial,by simpa using hG2⟩
   ·cases ho
    obtain⟨_,q2,e2⟩:=hdep ⟨2,.data⟩ (by simp) rfl _ _ rfl rfl
    have g2:a.tmps.getD 11 undef=.string bs:=by rw [gDe,q2,e2];rfl
    rw [e2] at q2
    clear e2
    clear hfr hdep hsz
    generalize hK:(fun (a':Act) (w':World)=>_)=K
    go_simp
    rw [if_neg (by omega)]
    go_simp
    rw [← hK]
    exact⟨_,rfl,rfl,trivial,by simpa using hG⟩
   ·cases ho
    obtain⟨_,q3,e3⟩:=hdep ⟨3,.data⟩ (by simp) rfl _ _ rfl rfl
    have g3:a.tmps.getD 12 undef=.string ((⟨#[99,97,99,104,101,32]⟩:ByteArray)++bs):=by rw [gDe,q3,e3];rfl
    rw [e3] at q3
    clear e3
    clear hfr hdep hsz
    generalize hK:(fun (a':Act) (w':World)=>_)=K
    go_simp
    rw [if_neg (by omega)]
    go_simp
    rw [← hK]
    exact⟨_,rfl,rfl,trivial,by simpa using hG⟩
   ·cases ho
    have g:a.tmps.getD 1 undef=.pointer (some ⟨tb,0,none⟩):=by rw [gDe,hfr 1 (qar (by kernel_rfl))];rfl
    clear hfr hdep hsz
    generalize hK:(fun (a':Act) (w':World)=>_)=K
    go_simp
    rw [← hK]
    exact⟨_,rfl,rfl,trivial,by simpa using hG⟩
   ·cases ho
    obtain⟨_,q5,e5⟩:=hdep ⟨5,.data⟩ (by simp) rfl _ _ rfl rfl
    have g5:a.tmps.getD 14 undef=.pointer (some ⟨tb,1,none⟩):=by rw [gDe,q5,e5];rfl
    rw [e5] at q5
    clear e5
    have hc:W.cell? ⟨tb,1,none⟩=some (.int .i64 rel):=hG.1.2.1
    clear hfr hdep hsz
    generalize hK:(fun (a':Act) (w':World)=>_)=K
    go_simp
    rw [← hK]
    exact⟨_,rfl,rfl,trivial,by simpa using hG⟩
   ·cases ho
    obtain⟨_,q6,e6⟩:=hdep ⟨6,.data⟩ (by simp) rfl _ _ rfl rfl
    have g6:a.tmps.getD 15 undef=.int .i64 rel:=by rw [gDe,q6,e6];rfl
    rw [e6] at q6
    clear e6
    clear hfr hdep hsz
    generalize hK:(fun (a':Act) (w':World)=>_)=K
    go_simp
    refine (C1.out W _ hG).mono ?_
    rintro e W2 ⟨rfl,hG2⟩
    show K _ _
    rw [← hK]
    exact⟨_,rfl,rfl,trivial,by simpa using hG2⟩
   ·cases ho
    obtain⟨_,q4,e4⟩:=hdep ⟨4,.data⟩ (by simp) rfl _ _ rfl rfl
    have g4:a.tmps.getD 13 undef=.string (((⟨#[99,97,99,104,101,32]⟩:ByteArray)++bs)++⟨#[32]⟩):=by rw [gDe,q4,e4];rfl
    rw [e4] at q4
    clear e4
    obtain⟨_,q7,e7⟩:=hdep ⟨7,.data⟩ (by simp) rfl _ _ rfl rfl
    have g7:a.tmps.getD 16 undef=.string br:=by rw [gDe,q7,e7];rfl
    rw [e7] at q7
    clear e7
    clear hfr hdep hsz
    generalize hK:(fun (a':Act) (w':World)=>_)=K
    go_simp
    rw [if_neg (by omega)]
    go_simp
    rw [← hK]
    exact⟨_,rfl,rfl,trivial,by simpa using hG⟩
   ·cases ho
    obtain⟨_,q8,e8⟩:=hdep ⟨8,.data⟩ (by simp) rfl _ _ rfl rfl
    have g8:a.tmps.getD 17 undef=.string ((((⟨#[99,97,99,104,101,32]⟩:ByteArray)++bs)++⟨#[32]⟩)++br):=by rw [gDe,q8,e8];rfl
    rw [e8] at q8
    clear e8
    clear hfr hdep hsz
    generalize hK:(fun (a':Act) (w':World)=>_)=K
    go_simp
    rw [if_neg (by omega)]
    go_simp
    rw [← hK]
    exact⟨_,rfl,rfl,trivial,by simpa using hG⟩
   ·cases ho
    obtain⟨_,q9,e9⟩:=hdep ⟨9,.data⟩ (by simp) rfl _ _ rfl rfl
    have g9:a.tmps.getD 18 undef=.string (((((⟨#[99,97,99,104,101,32]⟩:ByteArray)++bs)++⟨#[32]⟩)++br)++⟨#[10]⟩):=by rw [gDe,q9,e9];rfl
    rw [e9] at q9
    clear e9
    have g:a.tmps.getD 3 undef=.pointer (some ⟨b,0,none⟩):=by rw [gDe,hfr 3 (qar (by kernel_rfl))];rfl
    rw [hbk rfl] at hG ⊢
    simp only [Bool.false_eq_true,if_false] at hG
    have HWS:=Lib.hid (write_pr (((((⟨#[99,97,99,104,101,32]⟩:ByteArray)++bs)++⟨#[32]⟩)++br)++⟨#[10]⟩) hG (by rw [← HHD.out,List.length_nil];omega))
    rw [List.nil_append,← HHD.out] at HWS
    rw [← HHD.out] at g9
    clear hfr hdep hsz
    generalize hK:(fun (a':Act) (w':World)=>_)=K
    go_simp
    refine HWS.out.mono ?_
    rintro e W2 ⟨rfl,hG2⟩
    show K _ _
    rw [← hK]
    exact⟨_,rfl,trivial,trivial,by simpa using hG2⟩
  ·intro a W hd hsz hfr hall hG
   have f0:=hfr 0 (qar (by kernel_rfl))
   have f1:=hfr 1 (qar (by kernel_rfl))
   have f2:=hfr 2 (qar (by kernel_rfl))
   have f3:=hfr 3 (qar (by kernel_rfl))
   have f4:=hfr 4 (qar (by kernel_rfl))
   have f5:=hfr 5 (qar (by kernel_rfl))
   have f6:=hfr 6 (qar (by kernel_rfl))
   have f7:=hfr 7 (qar (by kernel_rfl))
   have f8:=hfr 8 (qar (by kernel_rfl))
   have f20:=hfr 20 (qar (by kernel_rfl))
   have f21:=hfr 21 (qar (by kernel_rfl))
   have f22:=hfr 22 (qar (by kernel_rfl))
   have f23:=hfr 23 (qar (by kernel_rfl))
   have f24:=hfr 24 (qar (by kernel_rfl))
   have f25:=hfr 25 (qar (by kernel_rfl))
   have f26:=hfr 26 (qar (by kernel_rfl))
   have f27:=hfr 27 (qar (by kernel_rfl))
   have f28:=hfr 28 (qar (by kernel_rfl))
   have f29:=hfr 29 (qar (by kernel_rfl))
   have f30:=hfr 30 (qar (by kernel_rfl))
   have f31:=hfr 31 (qar (by kernel_rfl))
   have f32:=hfr 32 (qar (by kernel_rfl))
   clear hfr hall
   have ha:a = { tmps:=a.tmps,defers:=[] }:=by cases a;simp at hd;subst hd;rfl
   rw [ha,arr_lit33 a.tmps hsz]
   rw [show a.tmps.getD 0 undef=.agg #[.int .i64 sets,.int .i64 rel,.slice A n cap] from by rw [gDe,f0];rfl]
   rw [show a.tmps.getD 1 undef=.pointer (some ⟨tb,0,none⟩) from by rw [gDe,f1];rfl]
   rw [show a.tmps.getD 2 undef=.string ⟨#[]⟩ from by rw [gDe,f2];rfl]
   rw [show a.tmps.getD 3 undef=.pointer (some ⟨b,0,none⟩) from by rw [gDe,f3];rfl]
   rw [show a.tmps.getD 4 undef=undef from by rw [gDe,f4];rfl]
   rw [show a.tmps.getD 5 undef=undef from by rw [gDe,f5];rfl]
   rw [show a.tmps.getD 6 undef=.agg #[.int .i64 sets,.int .i64 rel,.slice A n cap] from by rw [gDe,f6];rfl]
   rw [show a.tmps.getD 7 undef=.int .i64 0 from by rw [gDe,f7];rfl]
   rw [show a.tmps.getD 8 undef=.bool false from by rw [gDe,f8];rfl]
   rw [show a.tmps.getD 20 undef=undef from by rw [gDe,f20];rfl]
   rw [show a.tmps.getD 21 undef=undef from by rw [gDe,f21];rfl]
   rw [show a.tmps.getD 22 undef=undef from by rw [gDe,f22];rfl]
   rw [show a.tmps.getD 23 undef=undef from by rw [gDe,f23];rfl]
   rw [show a.tmps.getD 24 undef=undef from by rw [gDe,f24];rfl]
   rw [show a.tmps.getD 25 undef=undef from by rw [gDe,f25];rfl]
   rw [show a.tmps.getD 26 undef=undef from by rw [gDe,f26];rfl]
   rw [show a.tmps.getD 27 undef=undef from by rw [gDe,f27];rfl]
   rw [show a.tmps.getD 28 undef=undef from by rw [gDe,f28];rfl]
   rw [show a.tmps.getD 29 undef=undef from by rw [gDe,f29];rfl]
   rw [show a.tmps.getD 30 undef=undef from by rw [gDe,f30];rfl]
   rw [show a.tmps.getD 31 undef=undef from by rw [gDe,f31];rfl]
   rw [show a.tmps.getD 32 undef=undef from by rw [gDe,f32];rfl]
   clear ha hd hsz f0 f1 f2 f3 f4 f5 f6 f7 f8 f20 f21 f22 f23 f24 f25 f26 f27 f28 f29 f30 f31 f32
   go_wp2
   go_meet
   exact⟨rfl,rfl,rfl,hG⟩
 case rest=>
  obtain⟨rfl,rfl,rfl,hP3⟩:=hcut
  clear C0 C1 HP2 z1 z2 dS dR HHD HSIG
  have t2:=hP3.1.2.2
  have HP3:=Lib.hid hP3
  clear hP3
  go_wp2
  go_loopw [23] (fun v23 wr=>∃ (i:Nat),v23=.int .i64 i∧i≤n∧PrI tb b sets rel A n cap w (goT HD (L.take i)).data.toList wr) (fun v23 _=>n - (RowKit.intOf v23).toNat)
  case atStart=>exact⟨0,rfl,Nat.zero_le _,HP3.out⟩
  case round=>
   obtain⟨i,rfl,hi,hP⟩:=hrel
   have HP:=Lib.hid hP
   have HSZ:=goT_size (L.take i) HD
   have hti:(L.take i).length≤64:=by have:=HN.out;have:=HNL.out;simp;omega
   have hsz:Hid ((goT HD (L.take i)).data.toList.length≤210000):=Lib.hid (by rw [← Lib.size_eq];omega)
   have hn64:n≤64:=by have:=HNL.out.2;have:=HN.out;omega
   clear HSZ hti hP
   by_cases hil:i<n
   ·have hil':i<L.length:=by have:=HN.out;omega
    have HGS:=Lib.hid (goT_succ hil' HD)
    have hwr:Below w.heap.size w wr:=by rw [HW.out];exact HP.out.2.1
    obtain⟨bb,off,rfl,hbl,HAT⟩:=HR.out (by omega)
    obtain⟨e0,e1,e2,e3,e4,A5,c5,A6,c6,e5,e6,g5,g6⟩:=HAT i hil'
    have m:∀ j v,w.cell? ⟨bb,j,none⟩=some v→wr.cell? ⟨bb,j,none⟩=some v:=fun j v h=>(hwr.cell (p:=⟨bb,j,none⟩) hbl).trans h
    have f0:=m _ _ e0
    have f1:=m _ _ e1
    have f2:=m _ _ e2
    have f3:=m _ _ e3
    have f4:=m _ _ e4
    have f5:=m _ _ e5
    have f6:=m _ _ e6
    clear e0 e1 e2 e3 e4 e5 e6 m HAT
    obtain⟨x,hx⟩:∃ x,x=L[i]:=⟨_,rfl⟩
    have hbx:=HB2.out x (by rw [hx];exact List.getElem_mem _)
    rw [← hx] at f0 f1 f2 f3 f4 f5 f6 g5 g6 HGS
    have HLN:Hid (∀ W,Below w.heap.size w W→Calls Tryd.prog 33 #[.agg #[.int .i64 x.id,.int .i64 x.c,.int .i64 x.d,.int .i64 x.t,.int .i64 x.p,.slice A5 x.ch.length c5,.slice A6 x.us.length c6]] W fun e w'=>e=.returned (.string (lineT x))∧Below W.heap.size W w'):=Lib.hid (fun W hW=>line_any x A5 c5 A6 c6 W hbx.1 hbx.2.1 hbx.2.2 ((g5.below hW (Nat.le_refl _)).more hW.size) ((g6.below hW (Nat.le_refl _)).more hW.size) (qaP HTB.out.1 hW HTB.out.2) (by have:=hW.size;have:=HTB.out.2;omega))
    have hlt:=lineT_size x
    generalize lineT x=T at HLN HGS hlt
    have HTL:Hid (T.size≤3100):=Lib.hid hlt
    clear hx hbx g5 g6 hwr hlt
    generalize x.ch.length=l5 at f5 HLN
    generalize x.us.length=l6 at f6 HLN
    go_upto_region 8 with (fail)
    have hal:=(Below.refl wr.heap.size wr).alloc (Nat.le_refl _) (.cells #[.int .i64 x.id,.int .i64 x.c,.int .i64 x.d,.int .i64 x.t,.int .i64 x.p,.slice A5 l5 c5,.slice A6 l6 c6] 52)
    have hnw:=heap_alloc_new wr (.cells #[.int .i64 x.id,.int .i64 x.c,.int .i64 x.d,.int .i64 x.t,.int .i64 x.p,.slice A5 l5 c5,.slice A6 l6 c6] 52)
    have HP8:=Lib.hid (HP.out.below hal)
    generalize wr.alloc (.cells #[.int .i64 x.id,.int .i64 x.c,.int .i64 x.d,.int .i64 x.t,.int .i64 x.p,.slice A5 l5 c5,.slice A6 l6 c6] 52)=W3 at hal hnw HP8 ⊢
    obtain⟨xb,hxb⟩:∃ z,wr.heap.size=z:=⟨_,rfl⟩
    rw [hxb] at hnw ⊢
    obtain⟨t0,t1,t2',t3,t4,t5,t6⟩:=seven_cells hnw
    have HLN3:=Lib.hid (HLN.out W3 (by rw [HW.out];exact HP8.out.2.1))
    clear f0 f1 f2 f3 f4 f5 f6 hal hnw hxb HLN HP
    have kk0:(9223372036854775807<T.size+1)=False:=eq_false (by have:=HTL.out;omega)
    go_wp2_with (first|(go_at_call 33;refine HLN3.out.mono ?_;rintro e w5 ⟨rfl,hb5⟩;have HP9:=Lib.hid (HP8.out.below hb5);have HWS:=Lib.hid (write_pr (T++⟨#[10]⟩) HP9.out (by have z9:(⟨#[10]⟩:ByteArray).size=1:=rfl;have:=HTL.out;have:=hsz.out;simp only [ByteArray.size_append];omega)))|(go_at_call 31;refine HWS.out.mono ?_;rintro e w7 ⟨rfl,hP7⟩))
    have HP7:=Lib.hid hP7
    clear hP7
    go_roundw
    case rel=>exact⟨i+1,by simp,hil,by rw [HGS.out];simpa [ByteArray.data_append,List.append_assoc] using HP7.out⟩
    case measure=>simp [RowKit.intOf];omega
   ·have hie:Hid (i=n):=Lib.hid (by omega)
    have HTT:Hid (goT HD (L.take i)=P):=Lib.hid (by rw [hie.out,HPG.out])
    have hPP:=HP.out
    rw [HTT.out] at hPP
    have HST:=Lib.hid (Tryd.Builder_String_any b b P.data.toList wr hPP.2.2.2.2 hPP.2.2.2.1)
    have HBB:=Lib.hid (And.intro hPP.2.1 hPP.2.2.1)
    clear hPP
    go_wp2_with (go_at_call 34;refine HST.out.mono ?_;rintro e w4 ⟨rfl,hb4⟩)
    go_ret
    exact⟨rfl,by rw [HW.out];exact HBB.out.1.trans (hb4.mono (Nat.le_of_lt HBB.out.2))⟩
theorem digB_data (n:Int):(digB n).data.toList=itoa n:=by simp [digB]
theorem numP_dig {n most:Int} (h0:0≤n) (h:n≤most):numP (digB n) most=(n,true):=by
 have h1:=itoa_num n h0 most
 unfold numP
 rw [digB_data,if_pos (h1.2.2 h),h1.1]
 rw [Int.toNat_of_nonneg h0]
def nameW (name v:ByteArray):ByteArray:=(name++⟨#[61]⟩)++v
theorem nameW_data (name v:ByteArray):(nameW name v).data.toList=name.data.toList++61::v.data.toList:=by
 simp [nameW,ByteArray.data_append]
theorem indexByte_at {l:List UInt8} {k:Nat} (h:l[k]? = some 61) (hk:∀ (j:Nat),j<k→l[j]?≠some 61):Lib.indexByte l 61=(k:Int):=by
 rcases Int.lt_or_le (Lib.indexByte l 61) 0 with h1|h1
 ·have h2:=Lib.indexByte_ge l 61
  exact absurd h (Lib.indexByte_none (by omega) k)
 ·obtain⟨h2,h3⟩:=Lib.indexByte_some (o:=(Lib.indexByte l 61).toNat) (l:=l) (c:=61) (by omega)
  have:¬ (Lib.indexByte l 61).toNat<k:=fun h4=>hk _ h4 h2
  have:¬ k<(Lib.indexByte l 61).toNat:=fun h4=>h3 _ h4 h
  omega
theorem pairV_named (name v:ByteArray) (h:(61:UInt8) ∉ name.data.toList):pairV (nameW name v)=(name,v,true):=by
 have hi:Lib.indexByte (nameW name v).data.toList 61=(name.data.toList.length:Int):=by
  rw [nameW_data]
  refine indexByte_at (by simp) (fun j hj e=>?_)
  rw [List.getElem?_append_left hj] at e
  exact h (List.mem_of_getElem? e)
 have e1:(name.data.toList++61::v.data.toList).take name.data.toList.length=name.data.toList:=List.take_left
 have e2:(name.data.toList++61::v.data.toList).drop (name.data.toList.length+1)=v.data.toList:=by
  rw [show name.data.toList++61::v.data.toList=(name.data.toList++[61])++v.data.toList by simp]
  exact List.drop_left' (by simp)
 unfold pairV
 rw [hi,if_pos (by omega),nameW_data,Int.toNat_natCast,e1,e2]
theorem qaT {name:ByteArray} {n most:Int} (hn:(61:UInt8) ∉ name.data.toList) (h0:0≤n) (h:n≤most):namedP (nameW name (digB n)) name most=(n,true):=by
 unfold namedP
 rw [pairV_named _ _ hn]
 simp only
 rw [numP_dig h0 h]
 simp
theorem qaU {name v nm:ByteArray} (hn:(61:UInt8) ∉ name.data.toList):isNamed (nameW name v) nm=decide (name=nm):=by
 unfold isNamed
 rw [pairV_named _ _ hn]
 simp
theorem isNamed_empty (nm:ByteArray):isNamed ByteArray.empty nm=false:=by
 unfold isNamed
 rw [pairV_empty]
 rfl
theorem numsP_join {l:List Int} {most:Int} (hl:l≠[]) (h:∀ y ∈ l,0≤y∧y≤most):numsP (joinP l) most=(l,true):=by
 cases l with
 |nil=>exact absurd rfl hl
 |cons x r=>
  have hc:commas (joinP (x::r))=digs (x::r):=split_join x r (fun y hy=>(h y hy).1) _ rfl
  have ha:AllNum (digs (x::r)) most:=by
   intro i z hz
   unfold digs at hz
   rw [List.getElem?_map] at hz
   cases hy:(x::r)[i]? with
   |none=>rw [hy] at hz;cases hz
   |some y=>
    rw [hy] at hz
    obtain rfl:=Option.some.inj hz
    have hm:=h y (List.mem_of_getElem? hy)
    simpa using (itoa_num y hm.1 most).2.2 hm.2
  have hn:∀ M:List Int,(∀ y ∈ M,0≤y)→numsOf (digs M)=M:=by
   intro M
   induction M with
   |nil=>intro _;rfl
   |cons y M ih=>
    intro hM
    have h1:=itoa_num y (hM y List.mem_cons_self) 0
    have h2:=ih (fun z hz=>hM z (List.mem_cons_of_mem _ hz))
    unfold numsOf digs at h2 ⊢
    rw [List.map_cons,List.map_cons,h2]
    simp only [h1.1]
    rw [Int.toNat_of_nonneg (hM y List.mem_cons_self)]
  unfold numsP
  rw [hc,if_pos ha,hn _ (fun y hy=>(h y hy).1)]
theorem rowP_join {name:ByteArray} {l:List Int} {most:Int} (hn:(61:UInt8) ∉ name.data.toList) (hl:l≠[]) (h:∀ y ∈ l,0≤y∧y≤most):rowP (nameW name (joinP l)) name most=(l,true):=by
 unfold rowP
 rw [qaU hn,decide_eq_true rfl,if_pos rfl,pairV_named _ _ hn]
 exact numsP_join hl h
theorem rowP_other {name nm v:ByteArray} {most:Int} (hn:(61:UInt8) ∉ name.data.toList) (h:name≠nm):rowP (nameW name v) nm most=([],true):=by
 unfold rowP
 rw [qaU hn,decide_eq_false h,if_neg (by decide)]
theorem rowP_empty (nm:ByteArray) (most:Int):rowP ByteArray.empty nm most=([],true):=by
 unfold rowP
 rw [isNamed_empty,if_neg (by decide)]
def taskW (x:Tk):List ByteArray:=
 [⟨#[116,97,115,107]⟩,digB x.id,nameW ⟨#[99]⟩ (digB x.c),nameW ⟨#[100]⟩ (digB x.d),nameW ⟨#[116]⟩ (digB x.t),nameW ⟨#[112]⟩ (digB x.p)]
  ++ ((if 0<x.ch.length then [nameW ⟨#[99,104,117,110,107,115]⟩ (joinP x.ch)] else [])++(if 0<x.us.length then [nameW ⟨#[117,115,101]⟩ (joinP x.us)] else []))
theorem qaH (L:List Wd) (k:Nat):nextP L k=((L.map (·.t))[k]?).getD ByteArray.empty:=by
 unfold nextP
 rw [List.getElem?_map]
 cases L[k]?<;>rfl
theorem taskG_words {L:List Wd} {x:Tk} (h:L.map (·.t)=taskW x) (hx:(1≤x.id∧x.id≤99)∧(1≤x.p∧x.p≤99)∧(1≤x.c∧x.c≤x.d∧x.d≤x.t∧x.t≤1073741824)∧(∀ y ∈ x.ch,1≤y∧y≤1073741824)∧(∀ y ∈ x.us,0≤y∧y<256)):taskG L=.ok x:=by
 obtain⟨h1,h2,h3,h4,h5⟩:=hx
 have hl:L.length=(taskW x).length:=by rw [← h,List.length_map]
 have n0:nextP L 0=⟨#[116,97,115,107]⟩:=by rw [qaH,h];rfl
 have n1:nextP L 1=digB x.id:=by rw [qaH,h];rfl
 have n2:nextP L 2=nameW ⟨#[99]⟩ (digB x.c):=by rw [qaH,h];rfl
 have n3:nextP L 3=nameW ⟨#[100]⟩ (digB x.d):=by rw [qaH,h];rfl
 have n4:nextP L 4=nameW ⟨#[116]⟩ (digB x.t):=by rw [qaH,h];rfl
 have n5:nextP L 5=nameW ⟨#[112]⟩ (digB x.p):=by rw [qaH,h];rfl
 have g1:=numP_dig (n:=x.id) (most:=99) (by omega) (by omega)
 have g2:=qaT (name:=⟨#[99]⟩) (n:=x.c) (most:=1073741824) (by decide) (by omega) (by omega)
 have g3:=qaT (name:=⟨#[100]⟩) (n:=x.d) (most:=1073741824) (by decide) (by omega) (by omega)
 have g4:=qaT (name:=⟨#[116]⟩) (n:=x.t) (most:=1073741824) (by decide) (by omega) (by omega)
 have g5:=qaT (name:=⟨#[112]⟩) (n:=x.p) (most:=99) (by decide) (by omega) (by omega)
 have key:∀ k7,rowP (nextP L 6) ⟨#[99,104,117,110,107,115]⟩ 1073741824=(x.ch,true)→rowK (nextP L 6) ⟨#[99,104,117,110,107,115]⟩ 6=k7→rowP (nextP L k7) ⟨#[117,115,101]⟩ 255=(x.us,true)→rowK (nextP L k7) ⟨#[117,115,101]⟩ k7=L.length→taskG L=.ok x:=by
  intro k7 e1 e2 e3 e4
  unfold taskG
  rw [n0,n1,n2,n3,n4,n5,g1,g2,g3,g4,g5,e1,e2,e3,e4]
  simp only [if_true]
 have c61:(61:UInt8) ∉ (⟨#[99,104,117,110,107,115]⟩:ByteArray).data.toList:=by decide
 have u61:(61:UInt8) ∉ (⟨#[117,115,101]⟩:ByteArray).data.toList:=by decide
 have hne:(⟨#[117,115,101]⟩:ByteArray)≠⟨#[99,104,117,110,107,115]⟩:=by decide
 by_cases hc:0<x.ch.length
 ·have hcn:x.ch≠[]:=by intro e;rw [e] at hc;exact absurd hc (by decide)
  have n6:nextP L 6=nameW ⟨#[99,104,117,110,107,115]⟩ (joinP x.ch):=by rw [qaH,h];unfold taskW;rw [if_pos hc];rfl
  have k6:rowK (nextP L 6) ⟨#[99,104,117,110,107,115]⟩ 6=7:=by
   unfold rowK;rw [n6,qaU c61,decide_eq_true rfl,if_pos rfl]
  by_cases hu:0<x.us.length
  ·have hun:x.us≠[]:=by intro e;rw [e] at hu;exact absurd hu (by decide)
   have n7:nextP L 7=nameW ⟨#[117,115,101]⟩ (joinP x.us):=by rw [qaH,h];unfold taskW;rw [if_pos hc,if_pos hu];rfl
   have hl8:L.length=8:=by rw [hl];unfold taskW;rw [if_pos hc,if_pos hu];rfl
   refine key 7 (by rw [n6];exact rowP_join c61 hcn (fun y hy=>by have:=h4 y hy;omega)) k6 (by rw [n7];exact rowP_join u61 hun (fun y hy=>by have:=h5 y hy;omega)) ?_
   unfold rowK;rw [n7,qaU u61,decide_eq_true rfl,if_pos rfl,hl8]
  ·have hun:x.us=[]:=by cases hx:x.us with
    |nil=>rfl
    |cons a r=>rw [hx] at hu;exact absurd (by simp) hu
   have n7:nextP L 7=ByteArray.empty:=by rw [qaH,h];unfold taskW;rw [if_pos hc,if_neg hu];rfl
   have hl8:L.length=7:=by rw [hl];unfold taskW;rw [if_pos hc,if_neg hu];rfl
   refine key 7 (by rw [n6];exact rowP_join c61 hcn (fun y hy=>by have:=h4 y hy;omega)) k6 (by rw [n7,rowP_empty,hun]) ?_
   unfold rowK;rw [n7,isNamed_empty,if_neg (by decide),hl8]
 ·have hcn:x.ch=[]:=by cases hx:x.ch with
   |nil=>rfl
   |cons a r=>rw [hx] at hc;exact absurd (by simp) hc
  by_cases hu:0<x.us.length
  ·have hun:x.us≠[]:=by intro e;rw [e] at hu;exact absurd hu (by decide)
   have n6:nextP L 6=nameW ⟨#[117,115,101]⟩ (joinP x.us):=by rw [qaH,h];unfold taskW;rw [if_neg hc,if_pos hu];rfl
   have hl8:L.length=7:=by rw [hl];unfold taskW;rw [if_neg hc,if_pos hu];rfl
   refine key 6 (by rw [n6,rowP_other u61 hne,hcn]) (by unfold rowK;rw [n6,qaU u61,decide_eq_false hne,if_neg (by decide)]) (by rw [n6];exact rowP_join u61 hun (fun y hy=>by have:=h5 y hy;omega)) ?_
   unfold rowK;rw [n6,qaU u61,decide_eq_true rfl,if_pos rfl,hl8]
  ·have hun:x.us=[]:=by cases hx:x.us with
    |nil=>rfl
    |cons a r=>rw [hx] at hu;exact absurd (by simp) hu
   have n6:nextP L 6=ByteArray.empty:=by rw [qaH,h];unfold taskW;rw [if_neg hc,if_neg hu];rfl
   have hl8:L.length=6:=by rw [hl];unfold taskW;rw [if_neg hc,if_neg hu];rfl
   refine key 6 (by rw [n6,rowP_empty,hcn]) (by unfold rowK;rw [n6,isNamed_empty,if_neg (by decide)]) (by rw [n6,rowP_empty,hun]) ?_
   unfold rowK;rw [n6,isNamed_empty,if_neg (by decide),hl8]
theorem headG_words {L:List Wd} {sets rel:Int} (h:L.map (·.t)=[⟨#[99,97,99,104,101]⟩,digB sets,digB rel]) (hs:0≤sets∧sets≤256) (hr:0≤rel∧rel≤1000):headG L=.ok (sets,rel):=by
 have hl:3=L.length:=by rw [← List.length_map (f:=(·.t)),h];rfl
 have n0:nextP L 0=⟨#[99,97,99,104,101]⟩:=by rw [qaH,h];rfl
 have n1:nextP L 1=digB sets:=by rw [qaH,h];rfl
 have n2:nextP L 2=digB rel:=by rw [qaH,h];rfl
 unfold headG
 rw [n0,n1,n2,numP_dig hs.1 hs.2,numP_dig hr.1 hr.2]
 simp only [if_true]
 rw [if_pos hl]
def text1:ByteArray:=⟨#[99,97,99,104,101,32,52,32,49,10,116,97,115,107,32,49,32,99,61,50,32,100,61,53,32,116,61,53]⟩
def text2:ByteArray:=⟨#[99,97,99,104,101,32,52,32,49,10,116,97,115,107,32,49,32,99,61,50,32,100,61,53,32,116,61,53,32,112,61,51,32,117,115,101,61,48,44,49]⟩
def head1:List Wd:=[⟨0,1,⟨#[99,97,99,104,101]⟩⟩,⟨6,1,⟨#[52]⟩⟩,⟨8,1,⟨#[49]⟩⟩]
def line1:List Wd:=[⟨10,2,⟨#[116,97,115,107]⟩⟩,⟨15,2,⟨#[49]⟩⟩,⟨17,2,⟨#[99,61,50]⟩⟩,⟨21,2,⟨#[100,61,53]⟩⟩,⟨25,2,⟨#[116,61,53]⟩⟩]
def line2:List Wd:=line1++[⟨29,2,⟨#[112,61,51]⟩⟩,⟨33,2,⟨#[117,115,101,61,48,44,49]⟩⟩]
theorem lns1:lns (textW text1)=[head1,line1]:=by kernel_rfl
theorem lns2:lns (textW text2)=[head1,line2]:=by kernel_rfl
theorem head1_says:headG head1=.ok (4,1):=headG_words (by kernel_rfl) (by decide) (by decide)
theorem line2_says:taskG line2=.ok ⟨1,2,5,5,3,[],[0,1]⟩:=taskG_words (by kernel_rfl) (by decide)
theorem line1_says:taskG line1=.error 28:=by
 have n0:nextP line1 0=⟨#[116,97,115,107]⟩:=by rfl
 have n1:nextP line1 1=digB 1:=by kernel_rfl
 have n2:nextP line1 2=nameW ⟨#[99]⟩ (digB 2):=by kernel_rfl
 have n3:nextP line1 3=nameW ⟨#[100]⟩ (digB 5):=by kernel_rfl
 have n4:nextP line1 4=nameW ⟨#[116]⟩ (digB 5):=by kernel_rfl
 have n5:nextP line1 5=ByteArray.empty:=by rfl
 have g5:(namedP ByteArray.empty ⟨#[112]⟩ 99).2=false:=by unfold namedP;rw [pairV_empty];rfl
 unfold taskG
 rw [n0,n1,n2,n3,n4,n5,numP_dig (by decide) (by decide),qaT (by decide) (by decide) (by decide),qaT (by decide) (by decide) (by decide),qaT (by decide) (by decide) (by decide),g5]
 simp only [if_true]
 rw [if_neg (by decide)]
 have:wrongP line1 5=28:=by kernel_rfl
 rw [this]
theorem text1_says:parseP text1=(0,0,[],28,10):=by
 unfold parseP
 rw [lns1]
 simp only
 rw [head1_says]
 simp only
 unfold goP
 rw [line1_says]
theorem text2_says:parseP text2=(4,1,[⟨1,2,5,5,3,[],[0,1]⟩],40,0):=by
 unfold parseP
 rw [lns2]
 simp only
 rw [head1_says]
 simp only
 unfold goP
 rw [line2_says]
 simp only
 rw [if_pos (by decide)]
 unfold goP
 rw [if_neg (by decide)]
 rfl
theorem awake_any (m:Int) (w:World) (hm:w.cell? ⟨1,0,none⟩=some (.int .i64 m)) :
  Calls Tryd.prog 8 #[] w fun e w'=>e=.returned (.bool true)∧Below w.heap.size w w':=by
 have H1:Hid (Calls Tryd.prog 12 #[.string text1] w fun e w'=>(∃ A c,e=.returned (.tuple #[.agg #[.int .i64 0,.int .i64 0,.slice A 0 c],.int .i64 28,.int .i64 10]))∧Below w.heap.size w w'):=Lib.hid ((parse_any text1 (by decide) m w hm).mono (by
  intro e w' h
  rw [text1_says] at h
  obtain⟨⟨v,rfl,hR⟩,hb⟩:=h
  obtain⟨A,c,rfl,_,_⟩:=Kd.R_reads hR
  exact⟨⟨A,c,rfl⟩,hb⟩))
 have H2:Hid (∀ W:World,W.cell? ⟨1,0,none⟩=some (.int .i64 m)→Calls Tryd.prog 12 #[.string text2] W fun e w'=>(∃ b off c,e=.returned (.tuple #[.agg #[.int .i64 4,.int .i64 1,.slice (some ⟨b,off,none⟩) 1 c],.int .i64 40,.int .i64 0])∧w'.cell? ⟨b,off+4,none⟩=some (.int .i64 3))∧Below W.heap.size W w'):=Lib.hid (fun W hW=>(parse_any text2 (by decide) m W hW).mono (by
  intro e w' h
  rw [text2_says] at h
  obtain⟨⟨v,rfl,hR⟩,hb⟩:=h
  obtain⟨A,c,rfl,_,hC⟩:=Kd.R_reads hR
  obtain⟨b,off,rfl,_,hat⟩:=tk_at hC (by decide)
  obtain⟨_,_,_,_,_,_,_,_,h4,_⟩:=hat 0 (by decide)
  exact⟨⟨b,off,c,rfl,by simpa using h4⟩,hb⟩))
 have HM:=Lib.hid hm
 have hlt:=qaK hm
 go_enter Tryd.func8,Tryd.ntmps8
 go_upto_region 2 with (go_at_call 12;refine H1.out.mono ?_;rintro e w1 ⟨⟨A,c,rfl⟩,hb1⟩)
 have hb2:=hb1.alloc hb1.size (.cells #[.int .i64 0,.int .i64 0,.slice A 0 c] 32)
 generalize w1.alloc (.cells #[.int .i64 0,.int .i64 0,.slice A 0 c] 32)=w2 at hb2 ⊢
 have hm2:w2.cell? ⟨1,0,none⟩=some (.int .i64 m):=(hb2.cell (p:=⟨1,0,none⟩) hlt).trans HM.out
 have H3:=Lib.hid (H2.out w2 hm2)
 have HB2:=Lib.hid hb2
 clear hb1 hb2 hm2 hm
 go_upto_region 3 with (go_at_call 12;refine H3.out.mono ?_;rintro e w3 ⟨⟨b,off,c3,rfl,hp⟩,hb3⟩)
 have hb4:=(Below.refl w3.heap.size w3).alloc (Nat.le_refl _) (.cells #[.int .i64 4,.int .i64 1,.slice (some ⟨b,off,none⟩) 1 c3] 32)
 have hn4:=heap_alloc_new w3 (.cells #[.int .i64 4,.int .i64 1,.slice (some ⟨b,off,none⟩) 1 c3] 32)
 generalize w3.alloc (.cells #[.int .i64 4,.int .i64 1,.slice (some ⟨b,off,none⟩) 1 c3] 32)=w4 at hb4 hn4 ⊢
 obtain⟨_,_,t2,_⟩:=three_cells hn4
 have hp4:w4.cell? ⟨b,off+4,none⟩=some (.int .i64 3):=(hb4.cell (p:=⟨b,off+4,none⟩) (qaK hp)).trans hp
 have HB4:Hid (Below w.heap.size w w4):=Lib.hid (HB2.out.trans ((hb3.trans (hb4.mono hb3.size)).mono HB2.out.size))
 clear hb3 hb4 hn4 hp H3
 go_wp2
 go_ret
 exact⟨rfl,HB4.out⟩
end Go.Proofs.YtcfknijdhmildaaDoor
end
section
namespace Go.Proofs.YtcfknijdhmildaaDoorW.PrintLast
open Go.Proofs.YtcfknijdhmildaaDoorW.PrintWords (qah)
def needsOf (md:Region.Mode) (o:Oper):List Nat:=(o.after.toList.filter (fun e=>Region.binds md e)).map (fun e=>e.on)
def clashOf (md:Region.Mode) (ops:Array Oper) (i:Nat) (oi:Oper):List Nat:=(List.range ops.size).filter fun j=>!(j == i) && match ops[j]? with
 |some oj=>!(oj.after.any (fun e=>Region.binds md e && e.on == i) || oi.apart ops oj)
 |none=>false
def rtab (md:Region.Mode) (ops:Array Oper):Bool × List (List Nat × List Nat):=(Region.noSelect ops,(List.range ops.size).map fun i=>match ops[i]? with
 |some o=>(needsOf md o,clashOf md ops i o)
 |none=>([],[]))
def readyAt (T:List (List Nat × List Nat)) (l:List Bool) (i:Nat):Bool:=!l.getD i true && match T[i]? with
 |some r=>r.1.all (fun j=>l.getD j false)
 |none=>false
def readyT (T:List (List Nat × List Nat)) (l:List Bool):List Nat:=(List.range T.length).filter (readyAt T l)
def freeT (T:List (List Nat × List Nat)) (l:List Bool) (i:Nat):Bool:=match T[i]? with
 |some r=>r.2.all (fun j=>l.getD j true)
 |none=>false
def closedT (T:List (List Nat × List Nat)) (l:List Bool):Bool:=(List.range T.length).all fun j=>!l.getD j false || match T[j]? with
 |some r=>r.1.all (fun k=>l.getD k false)
 |none=>true
def reachT (T:List (List Nat × List Nat)) (i:Nat):Nat→Nat→Bool
 |0,_=>false
 |fuel+1,d=>match T[d]? with
  |some r=>r.1.any fun j=>j == i || reachT T i fuel j
  |none=>false
def lastT (T:List (List Nat × List Nat)) (l:List Bool) (ds:List Nat) (i:Nat):Bool:=ds.all fun d=>l.getD d true || reachT T i T.length d
section
variable {md:Region.Mode} {ops:Array Oper} {T:Bool × List (List Nat × List Nat)} {l l' li lj lk:Array Bool} {ds:List Nat} {i j k:Nat}
theorem gd (l:Array Bool) (j:Nat) (b:Bool):l.getD j b=l.toList.getD j b:=by simp [Array.getD_eq_getD_getElem?,List.getD_eq_getElem?_getD]
theorem needs_all (o:Oper) (p:Nat→Bool):o.after.all (fun e=>!Region.binds md e || p e.on)=(needsOf md o).all p:=by
 unfold needsOf
 rw [← Array.all_toList]
 induction o.after.toList with
 |nil=>rfl
 |cons e r ih=>
  rw [List.all_cons,ih,List.filter_cons]
  cases h:Region.binds md e<;>simp
theorem needs_any (o:Oper) (p:Nat→Bool):o.after.any (fun e=>Region.binds md e && p e.on)=(needsOf md o).any p:=by
 unfold needsOf
 rw [← Array.any_toList]
 induction o.after.toList with
 |nil=>rfl
 |cons e r ih=>
  rw [List.any_cons,ih,List.filter_cons]
  cases h:Region.binds md e<;>simp
theorem rtab_length:(rtab md ops).2.length=ops.size:=by simp [rtab]
theorem rtab_some {o:Oper} (h:ops[i]? = some o):(rtab md ops).2[i]? = some (needsOf md o,clashOf md ops i o):=by
 have hi:=(Array.getElem?_eq_some_iff.1 h).1
 unfold rtab
 rw [List.getElem?_map,List.getElem?_range hi,Option.map_some,h]
theorem rtab_none (h:ops[i]? = none):(rtab md ops).2[i]? = none:=by
 have hi:ops.size≤i:=Array.getElem?_eq_none_iff.1 h
 exact List.getElem?_eq_none (by rw [rtab_length];exact hi)
theorem readyAt_eq:readyAt (rtab md ops).2 l.toList i=(!l.getD i true && ((ops[i]?).map (·.after.all fun e=>!Region.binds md e || l.getD e.on false)).getD false):=by
 unfold readyAt
 rw [gd]
 cases h:ops[i]? with
 |none=>rw [rtab_none h];rfl
 |some o=>
  rw [rtab_some h]
  simp only [Option.map_some,Option.getD_some]
  rw [← needs_all]
  simp only [gd]
theorem ready_eq:Region.ready md ops l=readyT (rtab md ops).2 l.toList:=by
 unfold Region.ready readyT
 rw [rtab_length]
 refine List.filter_congr (fun i _=>?_)
 rw [readyAt_eq]
theorem free_eq:Region.free md ops l i=freeT (rtab md ops).2 l.toList i:=by
 unfold Region.free freeT
 cases h:ops[i]? with
 |none=>rw [rtab_none h]
 |some oi=>
  rw [rtab_some h]
  simp only [clashOf]
  rw [List.all_filter]
  congr 1
  funext j
  rw [gd]
  cases hj:ops[j]? with
  |none=>cases (j == i)<;>cases (l.toList.getD j true)<;>simp
  |some oj=>
   cases (j == i)<;>cases (l.toList.getD j true)<;>cases (oj.after.any (fun e=>Region.binds md e && e.on == i) || oi.apart ops oj)<;>simp_all
theorem closed_eq:Region.closedB md ops l=closedT (rtab md ops).2 l.toList:=by
 unfold Region.closedB closedT
 rw [rtab_length]
 congr 1
 funext j
 rw [gd]
 cases h:ops[j]? with
 |none=>rw [rtab_none h]
 |some o=>
  rw [rtab_some h]
  simp only
  rw [← needs_all]
  simp only [gd]
theorem reach_eq:∀ (fuel d:Nat),Region.reachB md ops i fuel d=reachT (rtab md ops).2 i fuel d
 |0,_=>rfl
 |fuel+1,d=>by
  unfold Region.reachB reachT
  cases h:ops[d]? with
  |none=>rw [rtab_none h]
  |some o=>
   rw [rtab_some h]
   simp only
   rw [← needs_any]
   congr 1
   funext e
   rw [reach_eq fuel]
theorem last_eq:Region.lastB md ops l ds i=lastT (rtab md ops).2 l.toList ds i:=by
 unfold Region.lastB lastT
 rw [rtab_length]
 congr 1
 funext d
 rw [gd,reach_eq]
theorem readyAt_mem (h:readyAt T.2 l.toList i=true) (hT:rtab md ops=T):(Region.ready md ops l).contains i=true:=by
 subst hT
 rw [ready_eq]
 unfold readyT
 rw [List.contains_iff_mem,List.mem_filter,List.mem_range]
 refine⟨?_,h⟩
 unfold readyAt at h
 rw [Bool.and_eq_true] at h
 cases hq:(rtab md ops).2[i]? with
 |none=>rw [hq] at h;simp at h
 |some r=>exact (List.getElem?_eq_some_iff.1 hq).1
theorem set_of (h:(l.toList.set i true == l'.toList)=true):(l.setIfInBounds i true == l')=true:=by
 rw [beq_iff_eq] at h ⊢
 apply Array.ext'
 rw [Array.toList_setIfInBounds]
 exact h
def anyT (T:Bool × List (List Nat × List Nat)) (l l':List Bool) (i:Nat):Bool:=T.1 && freeT T.2 l i && readyAt T.2 l i && (l.set i true == l')
theorem qaQ (hT:rtab md ops=T) (h:anyT T l.toList l'.toList i=true):anyB md ops l l' i=true:=by
 simp only [anyT,Bool.and_eq_true] at h
 obtain⟨⟨⟨h1,h2⟩,h3⟩,h4⟩:=h
 have h5:=readyAt_mem h3 hT
 have h6:=set_of h4
 subst hT
 simp only [anyB,Bool.and_eq_true]
 exact⟨⟨⟨h1,by rw [free_eq];exact h2⟩,h5⟩,h6⟩
def takeT (T:Bool × List (List Nat × List Nat)) (ds:List Nat) (l l':List Bool) (i:Nat):Bool:=T.1 && freeT T.2 l i && readyAt T.2 l i && closedT T.2 l && lastT T.2 l ds i && (l.set i true == l')
theorem take_of (hT:rtab md ops=T) (h:takeT T ds l.toList l'.toList i=true):takeB md ops ds l l' i=true:=by
 simp only [takeT,Bool.and_eq_true] at h
 obtain⟨⟨⟨⟨⟨h1,h2⟩,h3⟩,h4⟩,h5⟩,h6⟩:=h
 have h7:=readyAt_mem h3 hT
 have h8:=set_of h6
 subst hT
 simp only [takeB,Bool.and_eq_true]
 exact⟨⟨⟨⟨⟨h1,by rw [free_eq];exact h2⟩,h7⟩,by rw [closed_eq];exact h4⟩,by rw [last_eq];exact h5⟩,h8⟩
theorem one_of (hT:rtab md ops=T) (h:(readyT T.2 l.toList == [i] && l.toList.set i true == l'.toList)=true):readyB md ops l l' i=true:=by
 simp only [Bool.and_eq_true] at h
 obtain⟨h1,h2⟩:=h
 subst hT
 simp only [readyB,Bool.and_eq_true]
 exact⟨by rw [ready_eq];exact h1,set_of h2⟩
theorem two_of (hT:rtab md ops=T) (h:(readyT T.2 l.toList == [i,j] && l.toList.set i true == li.toList && l.toList.set j true == lj.toList)=true):(Region.ready md ops l == [i,j] && l.setIfInBounds i true == li && l.setIfInBounds j true == lj)=true:=by
 simp only [Bool.and_eq_true] at h ⊢
 obtain⟨⟨h1,h2⟩,h3⟩:=h
 subst hT
 exact⟨⟨by rw [ready_eq];exact h1,set_of h2⟩,set_of h3⟩
theorem done_of (hT:rtab md ops=T) (h:(readyT T.2 l.toList == [])=true):(Region.ready md ops l == [])=true:=by
 subst hT
 rw [ready_eq]
 exact h
def upM (B:List Nat) (d:Nat):List Nat→Nat
 |[]=>0
 |n::r=>(2 ^ n ||| (if n<d then B.getD n 0 else 0)) ||| upM B d r
def waitsOk (T:List (List Nat × List Nat)) (B:List Nat):Bool:=(List.range T.length).all fun d=>match T[d]? with
 |some r=>(B.getD d 0 ||| upM B d r.1) == upM B d r.1
 |none=>false
theorem upM_bit {B:List Nat} {d i:Nat}:∀ {ns:List Nat},(upM B d ns).testBit i=true→∃ n ∈ ns,n=i∨(n<d∧(B.getD n 0).testBit i=true)
 |[],h=>by simp [upM] at h
 |n::r,h=>by
  unfold upM at h
  rw [Nat.testBit_or,Nat.testBit_or,Bool.or_eq_true,Bool.or_eq_true] at h
  rcases h with (h|h)|h
  ·rw [Nat.testBit_two_pow] at h
   exact⟨n,List.mem_cons_self,.inl (by simpa using h)⟩
  ·by_cases hn:n<d
   ·rw [if_pos hn] at h
    exact⟨n,List.mem_cons_self,.inr ⟨hn,h⟩⟩
   ·rw [if_neg hn] at h
    simp at h
  ·obtain⟨m,hm,h2⟩:=upM_bit h
   exact⟨m,List.mem_cons_of_mem _ hm,h2⟩
theorem reach_bit {T:List (List Nat × List Nat)} {B:List Nat} (hB:waitsOk T B=true):∀ (fuel d:Nat),d<fuel→d<T.length→(B.getD d 0).testBit i=true→reachT T i fuel d=true
 |0,d,h,_,_=>by omega
 |fuel+1,d,h,hd,hb=>by
  have h1:=List.all_eq_true.1 hB d (List.mem_range.2 hd)
  cases hr:T[d]? with
  |none=>rw [hr] at h1;simp at h1
  |some r=>
   rw [hr] at h1
   simp only [beq_iff_eq] at h1
   have h2:(upM B d r.1).testBit i=true:=by rw [← h1,Nat.testBit_or,hb,Bool.true_or]
   obtain⟨n,hn,h3⟩:=upM_bit h2
   unfold reachT
   rw [hr]
   simp only
   rw [List.any_eq_true]
   refine⟨n,hn,?_⟩
   rcases h3 with rfl|⟨h4,h5⟩
   ·simp
   ·rw [reach_bit hB fuel n (by omega) (by omega) h5,Bool.or_true]
def lastW (T:List (List Nat × List Nat)) (B:List Nat) (l:List Bool) (ds:List Nat) (i:Nat):Bool:=ds.all fun d=>l.getD d true || (decide (d<T.length) && (B.getD d 0).testBit i)
def takeW (T:Bool × List (List Nat × List Nat)) (B:List Nat) (ds:List Nat) (l l':List Bool) (i:Nat):Bool:=T.1 && freeT T.2 l i && readyAt T.2 l i && closedT T.2 l && lastW T.2 B l ds i && (l.set i true == l')
theorem qaY {B:List Nat} (hT:rtab md ops=T) (hB:waitsOk T.2 B=true) (h:takeW T B ds l.toList l'.toList i=true):takeB md ops ds l l' i=true:=by
 refine take_of hT ?_
 simp only [takeW,takeT,Bool.and_eq_true] at h ⊢
 obtain⟨⟨⟨⟨⟨h1,h2⟩,h3⟩,h4⟩,h5⟩,h6⟩:=h
 refine⟨⟨⟨⟨⟨h1,h2⟩,h3⟩,h4⟩,?_⟩,h6⟩
 unfold lastW at h5
 unfold lastT
 rw [List.all_eq_true] at h5 ⊢
 intro d hd
 have h7:=h5 d hd
 rw [Bool.or_eq_true,Bool.and_eq_true,decide_eq_true_eq] at h7
 rcases h7 with h7|⟨h8,h9⟩
 ·rw [h7,Bool.true_or]
 ·rw [reach_bit hB _ d h8 h8 h9,Bool.or_true]
theorem with_tabW {P:Program} {Q:Exit→Act→World→Prop} {S:World→Prop} {n:Nat} {a:Act} {w:World} {B:List Nat} (hT:rtab md ops=T) (hB:waitsOk T.2 B=true) (h:qah (rtab md ops=T)→qah (waitsOk T.2 B=true)→qas P md ops Q S ds n l a w):qas P md ops Q S ds n l a w:=h ⟨hT⟩ ⟨hB⟩
end
def opsIn:Code→Nat→Option (Array Oper)
 |.region id ops _,k=>if id == k then some ops else none
 |.seq a b,k=>match opsIn a k with
  |some o=>some o
  |none=>opsIn b k
 |.cond _ a b,k=>match opsIn a k with
  |some o=>some o
  |none=>opsIn b k
 |.block _ c,k=>opsIn c k
 |.loop c,k=>opsIn c k
 |.scope c,k=>opsIn c k
 |.rangeFunc _ _ a b,k=>match opsIn a k with
  |some o=>some o
  |none=>opsIn b k
 |_,_=>none
def opsOf (f:Func) (k:Nat):Array Oper:=((f.body.bind fun c=>opsIn c k)).getD #[]
end Go.Proofs.YtcfknijdhmildaaDoorW.PrintLast
end
section
namespace Go.Proofs.YtcfknijdhmildaaDoorW.PrintWords
theorem Reps.front {α:Type} {R:α→List Value→Prop} {size:Nat} {ps:List α} {cs c all:List Value} {p:α} (hp:R p c) (hc:c.length=size) (h:Reps R size ps cs) (ha:c++cs=all):Reps R size (p::ps) all:=by
 subst ha
 refine⟨by rw [List.length_append,hc,h.1,List.length_cons,Nat.succ_mul,Nat.add_comm],fun j q hq=>?_⟩
 cases j with
 |zero=>
  simp only [List.getElem?_cons_zero,Option.some.injEq] at hq
  subst hq
  rw [Nat.zero_mul,List.drop_zero,List.take_append_of_le_length (by omega),List.take_of_length_le (by omega)]
  exact hp
 |succ j=>
  simp only [List.getElem?_cons_succ] at hq
  have h1:=h.2 j q hq
  rw [Nat.succ_mul,List.drop_append,List.drop_of_length_le (by rw [hc];exact Nat.le_add_left _ _),List.nil_append,hc,Nat.add_sub_cancel]
  exact h1
theorem Reps.c2 {α:Type} {R:α→List Value→Prop} {ps:List α} {cs:List Value} {p:α} {va vb:Value} (hp:R p [va,vb]) (h:Reps R 2 ps cs):Reps R 2 (p::ps) (va::vb::cs):=Reps.front hp rfl h rfl
theorem Reps.c3 {α:Type} {R:α→List Value→Prop} {ps:List α} {cs:List Value} {p:α} {va vb vc:Value} (hp:R p [va,vb,vc]) (h:Reps R 3 ps cs):Reps R 3 (p::ps) (va::vb::vc::cs):=Reps.front hp rfl h rfl
theorem Reps.c4 {α:Type} {R:α→List Value→Prop} {ps:List α} {cs:List Value} {p:α} {va vb vc vd:Value} (hp:R p [va,vb,vc,vd]) (h:Reps R 4 ps cs):Reps R 4 (p::ps) (va::vb::vc::vd::cs):=Reps.front hp rfl h rfl
theorem Reps.c5 {α:Type} {R:α→List Value→Prop} {ps:List α} {cs:List Value} {p:α} {va vb vc vd ve:Value} (hp:R p [va,vb,vc,vd,ve]) (h:Reps R 5 ps cs):Reps R 5 (p::ps) (va::vb::vc::vd::ve::cs):=Reps.front hp rfl h rfl
theorem Reps.c6 {α:Type} {R:α→List Value→Prop} {ps:List α} {cs:List Value} {p:α} {va vb vc vd ve vf:Value} (hp:R p [va,vb,vc,vd,ve,vf]) (h:Reps R 6 ps cs):Reps R 6 (p::ps) (va::vb::vc::vd::ve::vf::cs):=Reps.front hp rfl h rfl
theorem Reps.c7 {α:Type} {R:α→List Value→Prop} {ps:List α} {cs:List Value} {p:α} {va vb vc vd ve vf vg:Value} (hp:R p [va,vb,vc,vd,ve,vf,vg]) (h:Reps R 7 ps cs):Reps R 7 (p::ps) (va::vb::vc::vd::ve::vf::vg::cs):=Reps.front hp rfl h rfl
theorem Reps.c8 {α:Type} {R:α→List Value→Prop} {ps:List α} {cs:List Value} {p:α} {va vb vc vd ve vf vg vh:Value} (hp:R p [va,vb,vc,vd,ve,vf,vg,vh]) (h:Reps R 8 ps cs):Reps R 8 (p::ps) (va::vb::vc::vd::ve::vf::vg::vh::cs):=Reps.front hp rfl h rfl
theorem Reps.c9 {α:Type} {R:α→List Value→Prop} {ps:List α} {cs:List Value} {p:α} {va vb vc vd ve vf vg vh vi:Value} (hp:R p [va,vb,vc,vd,ve,vf,vg,vh,vi]) (h:Reps R 9 ps cs):Reps R 9 (p::ps) (va::vb::vc::vd::ve::vf::vg::vh::vi::cs):=Reps.front hp rfl h rfl
theorem Reps.c10 {α:Type} {R:α→List Value→Prop} {ps:List α} {cs:List Value} {p:α} {va vb vc vd ve vf vg vh vi vj:Value} (hp:R p [va,vb,vc,vd,ve,vf,vg,vh,vi,vj]) (h:Reps R 10 ps cs):Reps R 10 (p::ps) (va::vb::vc::vd::ve::vf::vg::vh::vi::vj::cs):=Reps.front hp rfl h rfl
end Go.Proofs.YtcfknijdhmildaaDoorW.PrintWords
end
section
namespace Go.Proofs.YtcfknijdhmildaaDoorW.PrintLast
def up (b:Nat→Bool) (i:Nat):Nat→Bool:=fun j=>if j=i then true else b j
section
variable {P:Program} {ops:Array Oper} {Q:Exit→Act→World→Prop} {md:Region.Mode} {T:Bool × List (List Nat × List Nat)} {B:List Nat} {O:List Nat} {b:Nat→Bool} {i j n:Nat}
end
end Go.Proofs.YtcfknijdhmildaaDoorW.PrintLast
end
section
namespace Go.Proofs.YtcfknijdhmildaaDoorW.PrintWords
open Go.RowKit
section
variable {P:Program} {ops:Array Oper} {rest:List Oper} {o:Oper} {a:Act} {Q:Exit→Act→World→Prop} {W:World}
theorem gate_guard (hw:Region.wanted o (yielded ops a.tmps)=true) (h:wpList P ops Q ({ o with guard:=none }::rest) a W):wpList P ops Q (o::rest) a W:=by
 have h1:Region.wanted { o with guard:=none } (yielded ops a.tmps)=true:=rfl
 unfold wpList at h ⊢
 rw [if_pos h1] at h
 rw [if_pos hw]
 exact h
end
end Go.Proofs.YtcfknijdhmildaaDoorW.PrintWords
end
section
namespace Go.Proofs.YtcfknijdhmildaaDoor.PParseFirst
open Go.RowKit Go.Proofs.YtcfknijdhmildaaDoorW.PrintWords Go.Proofs.YtcfknijdhmildaaDoorW.PrintLast Go.Proofs.YtcfknijdhmildaaDoorW.PrintMore
attribute [local go_sem] max2_int min2_int max_two min_two max_three min_three max_four min_four
set_option linter.unusedVariables false
set_option linter.unusedSimpArgs false
noncomputable section
def errW:Option Int→Value
 |none=>.nilIface
 |some c=>.iface 0 (.int .i64 c)
theorem qaA:errW none=.nilIface:=rfl
theorem qaz (c:Int):errW (some c)=.iface 0 (.int .i64 c):=rfl
theorem info2:(Tryd.prog.info? 2).map (fun i=>(i.zero,i.size,i.bytes))=some (some (.int .i64 0),1,8):=by kernel_rfl
theorem info3:(Tryd.prog.info? 3).map (fun i=>(i.zero,i.size,i.bytes))=some (some (.int .i64 0),1,8):=by kernel_rfl
theorem info52:(Tryd.prog.info? 52).map (fun i=>(i.zero,i.size,i.bytes))=some (some (.agg #[(.int .i64 0),(.int .i64 0),(.int .i64 0),(.int .i64 0),(.int .i64 0),(.slice none 0 0),(.slice none 0 0)]),7,88):=by kernel_rfl
theorem info59:(Tryd.prog.info? 59).map (fun i=>(i.zero,i.size,i.bytes))=some (some (.agg #[(.int .i64 0),(.int .i64 0),(.int .i64 0),(.int .i64 0),(.int .i64 0),(.slice none 0 0)]),6,64):=by kernel_rfl
structure S52 where
 f0:Int
 f1:Int
 f2:Int
 f3:Int
 f4:Int
 f5:(List Int)
 f6:(List Int)
def k52:Kd S52:=Kd.iso (Kd.pair (Kd.int .i64) (Kd.pair (Kd.int .i64) (Kd.pair (Kd.int .i64) (Kd.pair (Kd.int .i64) (Kd.pair (Kd.int .i64) (Kd.pair (Kd.slice 2 (Kd.int .i64)) (Kd.slice 3 (Kd.int .i64)))))))) (fun x:S52=>(x.f0,x.f1,x.f2,x.f3,x.f4,x.f5,x.f6))
theorem k52_mkM (w:World) (base:Nat) (ok:Nat→Prop) (x:S52) {v5:Value} (g5:(Kd.int .i64).R 2 w base ok v5 x.f5) {v6:Value} (g6:(Kd.int .i64).R 3 w base ok v6 x.f6):k52.M w base ok x [.int .i64 x.f0,.int .i64 x.f1,.int .i64 x.f2,.int .i64 x.f3,.int .i64 x.f4,v5,v6]:=⟨[.int .i64 x.f0],[.int .i64 x.f1,.int .i64 x.f2,.int .i64 x.f3,.int .i64 x.f4,v5,v6],rfl,rfl,⟨[.int .i64 x.f1],[.int .i64 x.f2,.int .i64 x.f3,.int .i64 x.f4,v5,v6],rfl,rfl,⟨[.int .i64 x.f2],[.int .i64 x.f3,.int .i64 x.f4,v5,v6],rfl,rfl,⟨[.int .i64 x.f3],[.int .i64 x.f4,v5,v6],rfl,rfl,⟨[.int .i64 x.f4],[v5,v6],rfl,rfl,⟨[v5],[v6],rfl,⟨v5,rfl,g5⟩,⟨v6,rfl,g6⟩⟩⟩⟩⟩⟩⟩
structure S32 where
 f0:Int
 f1:Int
 f2:(List S52)
structure S59 where
 f0:Int
 f1:Int
 f2:Int
 f3:Int
 f4:Int
 f5:(List Int)
def z59:S59:=⟨(0:Int),(0:Int),(0:Int),(0:Int),(0:Int),([]:List Int)⟩
def k59:Kd S59:=Kd.iso (Kd.pair (Kd.int .i64) (Kd.pair (Kd.int .i64) (Kd.pair (Kd.int .i64) (Kd.pair (Kd.int .i64) (Kd.pair (Kd.int .i64) (Kd.slice 3 (Kd.int .i64))))))) (fun x:S59=>(x.f0,x.f1,x.f2,x.f3,x.f4,x.f5))
theorem k59_open {w:World} {x:S59} {cs:List Value} (h:k59.K w x cs):∃ A5 c5,cs=[.int .i64 x.f0,.int .i64 x.f1,.int .i64 x.f2,.int .i64 x.f3,.int .i64 x.f4,.slice A5 x.f5.length c5]∧x.f5.length≤c5∧(Kd.int .i64).C w A5 x.f5.length x.f5:=by
 obtain⟨_,_,rfl,rfl,⟨_,_,rfl,rfl,⟨_,_,rfl,rfl,⟨_,_,rfl,rfl,⟨_,_,rfl,rfl,⟨A5,c5,rfl,l5,g5⟩⟩⟩⟩⟩⟩:=h
 exact⟨A5,c5,rfl,l5,g5⟩
theorem k59_mk (w:World) (x:S59) {A5:Option Addr} {c5:Nat} (l5:x.f5.length≤c5) (g5:(Kd.int .i64).C w A5 x.f5.length x.f5):k59.K w x [.int .i64 x.f0,.int .i64 x.f1,.int .i64 x.f2,.int .i64 x.f3,.int .i64 x.f4,.slice A5 x.f5.length c5]:=⟨[.int .i64 x.f0],[.int .i64 x.f1,.int .i64 x.f2,.int .i64 x.f3,.int .i64 x.f4,.slice A5 x.f5.length c5],rfl,rfl,⟨[.int .i64 x.f1],[.int .i64 x.f2,.int .i64 x.f3,.int .i64 x.f4,.slice A5 x.f5.length c5],rfl,rfl,⟨[.int .i64 x.f2],[.int .i64 x.f3,.int .i64 x.f4,.slice A5 x.f5.length c5],rfl,rfl,⟨[.int .i64 x.f3],[.int .i64 x.f4,.slice A5 x.f5.length c5],rfl,rfl,⟨[.int .i64 x.f4],[.slice A5 x.f5.length c5],rfl,rfl,⟨A5,c5,rfl,l5,g5⟩⟩⟩⟩⟩⟩
theorem k59_mkF (W:World) (ok:Nat→Prop) (x:S59) {A5:Option Addr} {c5:Nat} (l5:x.f5.length≤c5) (g5:Kd.F (Kd.int .i64) W ok A5 x.f5.length x.f5):Kd.FK k59 W ok x [.int .i64 x.f0,.int .i64 x.f1,.int .i64 x.f2,.int .i64 x.f3,.int .i64 x.f4,.slice A5 x.f5.length c5]:=fun W2 hW=>k59_mk W2 x l5 (g5 W2 hW)
def qay (xs:List S59) (i:Int):S59:=xs.getD i.toNat z59
theorem at_T59 {w:World} {A:Option Addr} {n:Nat} {xs:List S59} (h:Kd.C k59 w A n xs) (i:Int) (h0:0≤i) (h1:i<n):∃ ad A5 c5,A=some ad∧w.cell? (ad.add (i.toNat * 6))=some (.int .i64 (qay xs i).f0)∧w.cell? ⟨(ad.add (i.toNat * 6)).block,(ad.add (i.toNat * 6)).off+1,none⟩=some (.int .i64 (qay xs i).f1)∧w.cell? ⟨(ad.add (i.toNat * 6)).block,(ad.add (i.toNat * 6)).off+2,none⟩=some (.int .i64 (qay xs i).f2)∧w.cell? ⟨(ad.add (i.toNat * 6)).block,(ad.add (i.toNat * 6)).off+3,none⟩=some (.int .i64 (qay xs i).f3)∧w.cell? ⟨(ad.add (i.toNat * 6)).block,(ad.add (i.toNat * 6)).off+4,none⟩=some (.int .i64 (qay xs i).f4)∧w.cell? ⟨(ad.add (i.toNat * 6)).block,(ad.add (i.toNat * 6)).off+5,none⟩=some (.slice A5 (qay xs i).f5.length c5)∧(qay xs i).f5.length≤c5∧(Kd.int .i64).C w A5 (qay xs i).f5.length (qay xs i).f5:=by
 obtain⟨ad,c,e,_,hK,hc0⟩:=Kd.C_get h z59 i h0 h1
 have hc:∀ j u,c[j]? = some u→w.cell? (ad.add (i.toNat * 6+j))=some u:=hc0
 obtain⟨A5,c5,rfl,l5,g5⟩:=k59_open hK
 exact⟨ad,A5,c5,e,hc 0 _ rfl,by rw [← qaR _ _ 1 (by omega)];exact hc 1 _ rfl,by rw [← qaR _ _ 2 (by omega)];exact hc 2 _ rfl,by rw [← qaR _ _ 3 (by omega)];exact hc 3 _ rfl,by rw [← qaR _ _ 4 (by omega)];exact hc 4 _ rfl,by rw [← qaR _ _ 5 (by omega)];exact hc 5 _ rfl,l5,g5⟩
structure S60 where
 f0:Int
 f1:Int
 f2:Int
 f3:Int
 f4:Int
 f5:(List Int)
def z60:S60:=⟨(0:Int),(0:Int),(0:Int),(0:Int),(0:Int),([]:List Int)⟩
def k60:Kd S60:=Kd.iso (Kd.pair (Kd.int .i64) (Kd.pair (Kd.int .i64) (Kd.pair (Kd.int .i64) (Kd.pair (Kd.int .i64) (Kd.pair (Kd.int .i64) (Kd.slice 3 (Kd.int .i64))))))) (fun x:S60=>(x.f0,x.f1,x.f2,x.f3,x.f4,x.f5))
theorem k60_heap:Kd.Heap k60:=Kd.heap_iso _ (Kd.heap_pair (Kd.heap_int .i64) (Kd.heap_pair (Kd.heap_int .i64) (Kd.heap_pair (Kd.heap_int .i64) (Kd.heap_pair (Kd.heap_int .i64) (Kd.heap_pair (Kd.heap_int .i64) (Kd.heap_slice 3 (Kd.heap_int .i64)))))))
theorem k60_open {w:World} {x:S60} {cs:List Value} (h:k60.K w x cs):∃ A5 c5,cs=[.int .i64 x.f0,.int .i64 x.f1,.int .i64 x.f2,.int .i64 x.f3,.int .i64 x.f4,.slice A5 x.f5.length c5]∧x.f5.length≤c5∧(Kd.int .i64).C w A5 x.f5.length x.f5:=by
 obtain⟨_,_,rfl,rfl,⟨_,_,rfl,rfl,⟨_,_,rfl,rfl,⟨_,_,rfl,rfl,⟨_,_,rfl,rfl,⟨A5,c5,rfl,l5,g5⟩⟩⟩⟩⟩⟩:=h
 exact⟨A5,c5,rfl,l5,g5⟩
theorem k60_openF {W:World} {ok:Nat→Prop} {x:S60} {cs:List Value} (h:Kd.FK k60 W ok x cs):∃ A5 c5,cs=[.int .i64 x.f0,.int .i64 x.f1,.int .i64 x.f2,.int .i64 x.f3,.int .i64 x.f4,.slice A5 x.f5.length c5]∧x.f5.length≤c5∧Kd.F (Kd.int .i64) W ok A5 x.f5.length x.f5:=by
 obtain⟨A5,c5,rfl,l5,_⟩:=k60_open (Kd.FK_now h)
 exact⟨A5,c5,rfl,l5,(fun W' hW=>by obtain⟨A5_,c5_,he,l5_,g5_⟩:=k60_open (h W' hW);injection (Option.some.inj (show some (Value.slice A5 x.f5.length c5)=some (Value.slice A5_ x.f5.length c5_) from congrArg (fun l=>l[5]?) he)) with ha_ _ _;rw [ha_];exact g5_)⟩
def qav (xs:List S60) (i:Int):S60:=xs.getD i.toNat z60
theorem at_T60 {w:World} {A:Option Addr} {n:Nat} {xs:List S60} (h:Kd.C k60 w A n xs) (i:Int) (h0:0≤i) (h1:i<n):∃ ad A5 c5,A=some ad∧w.cell? (ad.add (i.toNat * 6))=some (.int .i64 (qav xs i).f0)∧w.cell? ⟨(ad.add (i.toNat * 6)).block,(ad.add (i.toNat * 6)).off+1,none⟩=some (.int .i64 (qav xs i).f1)∧w.cell? ⟨(ad.add (i.toNat * 6)).block,(ad.add (i.toNat * 6)).off+2,none⟩=some (.int .i64 (qav xs i).f2)∧w.cell? ⟨(ad.add (i.toNat * 6)).block,(ad.add (i.toNat * 6)).off+3,none⟩=some (.int .i64 (qav xs i).f3)∧w.cell? ⟨(ad.add (i.toNat * 6)).block,(ad.add (i.toNat * 6)).off+4,none⟩=some (.int .i64 (qav xs i).f4)∧w.cell? ⟨(ad.add (i.toNat * 6)).block,(ad.add (i.toNat * 6)).off+5,none⟩=some (.slice A5 (qav xs i).f5.length c5)∧(qav xs i).f5.length≤c5∧(Kd.int .i64).C w A5 (qav xs i).f5.length (qav xs i).f5:=by
 obtain⟨ad,c,e,_,hK,hc0⟩:=Kd.C_get h z60 i h0 h1
 have hc:∀ j u,c[j]? = some u→w.cell? (ad.add (i.toNat * 6+j))=some u:=hc0
 obtain⟨A5,c5,rfl,l5,g5⟩:=k60_open hK
 exact⟨ad,A5,c5,e,hc 0 _ rfl,by rw [← qaR _ _ 1 (by omega)];exact hc 1 _ rfl,by rw [← qaR _ _ 2 (by omega)];exact hc 2 _ rfl,by rw [← qaR _ _ 3 (by omega)];exact hc 3 _ rfl,by rw [← qaR _ _ 4 (by omega)];exact hc 4 _ rfl,by rw [← qaR _ _ 5 (by omega)];exact hc 5 _ rfl,l5,g5⟩
structure S24 where
 f0:Int
 f1:Int
 f2:(List S60)
def k24:Kd S24:=Kd.iso (Kd.pair (Kd.int .i64) (Kd.pair (Kd.int .i64) (Kd.slice 60 k60))) (fun x:S24=>(x.f0,x.f1,x.f2))
theorem k24_open {w:World} {x:S24} {cs:List Value} (h:k24.K w x cs):∃ A2 c2,cs=[.int .i64 x.f0,.int .i64 x.f1,.slice A2 x.f2.length c2]∧x.f2.length≤c2∧k60.C w A2 x.f2.length x.f2:=by
 obtain⟨_,_,rfl,rfl,⟨_,_,rfl,rfl,⟨A2,c2,rfl,l2,g2⟩⟩⟩:=h
 exact⟨A2,c2,rfl,l2,g2⟩
end
end Go.Proofs.YtcfknijdhmildaaDoor.PParseFirst
end
section
namespace Go.Proofs.YtcfknijdhmildaaDoor
open Go.ChangeShapes Go.WideShapes Go.ChangeAt Go.RowKit Go.Deep Go.Proofs.YtcfknijdhmildaaDoorW.PrintWords
def Opens {α:Type} (P:Program) (t:TypeId) (d:Kd α) (ok:α→Prop):Prop:=
 ∀ {H:Type} {enc:TypeId × Value→H} {w:World} {base:Nat} {held:Bool} {fuel:Nat} {cs:List Value} {y:DataW H × List MemPlace},
  DataW.trod enc P w base (fun _=>true) held fuel t cs=some y→∃ x,d.K w x cs∧ok x
def OpensF {α:Type} (P:Program) (n0:Nat) (fs:List (TypeId × Nat)) (d:Kd α) (ok:α→Prop):Prop:=
 ∀ {H:Type} {enc:TypeId × Value→H} {w:World} {base:Nat} {held:Bool} {fuel:Nat} {cs:List Value},
  (∀ f ∈ fs,∃ y:DataW H × List MemPlace,DataW.trod enc P w base (fun _=>true) held fuel f.1 ((cs.drop f.2).take (P.cellsOf f.1))=some y)→cs.length=n0+d.sz→∃ x,d.K w x (cs.drop n0)∧ok x
section
variable {α β:Type} {P:Program} {t:TypeId} {d:Kd α} {d':Kd β} {ok:α→Prop} {ok':β→Prop} {n0:Nat}
theorem Opens.int {k:IntKind} (ht:P.underlying t=some (.int k)):Opens P t (Kd.int k) (fun x=>(Lit.int k x).wf=true):=by
 intro H enc w base held fuel cs y h
 obtain⟨n,rfl,_,hw⟩:=DataW.trod_int ht h
 exact⟨n,rfl,hw⟩
theorem Opens.bool (ht:P.underlying t=some .bool):Opens P t Kd.bool (fun _=>True):=by
 intro H enc w base held fuel cs y h
 obtain⟨n,rfl,_⟩:=DataW.trod_bool ht h
 exact⟨n,rfl,trivial⟩
theorem Opens.string (ht:P.underlying t=some .string):Opens P t Kd.string (fun s=>s.size≤maxLen):=by
 intro H enc w base held fuel cs y h
 obtain⟨n,rfl,_,hl⟩:=DataW.trod_string ht h
 exact⟨n,rfl,hl⟩
theorem Opens.slice {e:TypeId} (e':TypeId) (ht:P.underlying t=some (.slice e)) (he:Opens P e d ok) (hc:P.cellsOf e=d.sz) (z:α):Opens P t (Kd.slice e' d) (fun l=>l.length≤maxLen∧∀ x ∈ l,ok x):=by
 intro H enc w base held fuel cs y h
 rcases open_slice ht h with ⟨rfl,_⟩|⟨a,len,cap,m,n,D,Pl,rfl,_,hl,hm,hmm,_,hx⟩
 ·exact⟨[],⟨none,0,rfl,Nat.le_refl _,Kd.C_nil d w⟩,Nat.zero_le _,fun x hx=>by cases hx⟩
 ·simp only [if_true] at hmm
  subst hmm
  have hk:∀ k,k<m→∃ g:α,ok g∧∃ c,d.K w g c∧∀ i u,c[i]? = some u→w.cell? (a.add (k * d.sz+i))=some u:=by
   intro k hk
   obtain⟨cs',hcs,ht'⟩:=hx k hk
   obtain⟨g,hg,hok⟩:=he ht'
   refine⟨g,hok,cs',hg,fun i u hu=>?_⟩
   obtain⟨_,_,hat⟩:=World.cells?_some hcs
   have hil:i<P.cellsOf e:=by
    have:=(List.getElem?_eq_some_iff.1 hu).1
    rw [d.K_len hg] at this
    omega
   have:=hat i hil
   rw [hu] at this
   rw [← this,hc]
   congr 1
   unfold Addr.add
   by_cases h1:k * d.sz=0<;>by_cases h2:i=0<;>simp [h1,h2,Nat.add_assoc]
  haveI:Inhabited α:=⟨z⟩
  obtain⟨f,hf⟩:=choose_lt (α:=α) (n:=m) (p:=fun k g=>ok g∧∃ c,d.K w g c∧∀ i u,c[i]? = some u→w.cell? (a.add (k * d.sz+i))=some u) hk
  have hm':len≤9223372036854775807:=by unfold maxLen at hm;omega
  refine⟨(List.range len).map f,⟨some a,m,by simp,by simpa using hl,⟨rfl,by simpa using hm',fun _=>⟨a,rfl,fun j p hj=>?_⟩⟩⟩,by simp;omega,fun x hx=>?_⟩
  ·have hj1:j<len:=by have:=(List.getElem?_eq_some_iff.1 hj).1;simpa using this
   rw [List.getElem?_map,List.getElem?_range hj1] at hj
   simp at hj
   subst hj
   obtain⟨_,c,hK,hcell⟩:=hf j (by omega)
   exact⟨c,d.K_len hK,hK,hcell⟩
  ·obtain⟨k,hk,rfl⟩:=List.mem_map.1 hx
   exact (hf k (by have:=List.mem_range.1 hk;omega)).1
theorem OpensF.last (h:Opens P t d ok) (hc:P.cellsOf t=d.sz):OpensF P n0 [(t,n0)] d ok:=by
 intro H enc w base held fuel cs hf hl
 obtain⟨y,hy⟩:=hf (t,n0) List.mem_cons_self
 rw [List.take_of_length_le (by rw [List.length_drop,hc];omega)] at hy
 exact h hy
theorem OpensF.cons {fs:List (TypeId × Nat)} (h:Opens P t d ok) (hc:P.cellsOf t=d.sz) {n1:Nat} (hn:n0+d.sz=n1) (hr:OpensF P n1 fs d' ok'):OpensF P n0 ((t,n0)::fs) (Kd.pair d d') (fun x=>ok x.1∧ok' x.2):=by
 subst hn
 intro H enc w base held fuel cs hf hl
 obtain⟨y,hy⟩:=hf (t,n0) List.mem_cons_self
 obtain⟨x,hx,hox⟩:=h hy
 obtain⟨x',hx',hox'⟩:=hr (fun f hm=>hf f (List.mem_cons_of_mem _ hm)) (by rw [hl];show n0+(d.sz+d'.sz)=_;omega)
 refine⟨(x,x'),⟨(cs.drop n0).take (P.cellsOf t),cs.drop (n0+d.sz),?_,hx,hx'⟩,hox,hox'⟩
 rw [hc,← List.drop_drop,List.take_append_drop]
theorem Opens.struct {fs:Array Field} {l:List (TypeId × Nat)} (f:β→α) (g:α→β) (hg:∀ x,f (g x)=x) (ht:P.underlying t=some (.struct fs)) (hfs:fs.toList.map (fun f=>(f.type,f.offset))=l) (hf:OpensF P 0 l d ok) (hc:P.cellsOf t=d.sz):Opens P t (Kd.iso d f) (fun b=>ok (f b)):=by
 subst hfs
 intro H enc w base held fuel cs y h
 obtain⟨xs,n,_,_,hl,hlen,hx⟩:=DataW.trod_struct ht h
 obtain⟨x,hk,ho⟩:=hf (cs:=cs) (fun q hq=>by
  obtain⟨fd,hfd,rfl⟩:=List.mem_map.1 hq
  obtain⟨i,hi,he⟩:=List.getElem_of_mem hfd
  have hi':i<fs.size:=by simpa using hi
  have hge:fs[i]? = some fd:=by rw [Array.getElem?_eq_getElem hi',← he];simp
  exact⟨xs[i]'(by omega),(hx i fd hge).trans (List.getElem?_eq_getElem (by omega))⟩) (by rw [hl,hc,Nat.zero_add])
 rw [List.drop_zero] at hk
 exact⟨g x,by show d.K w (f (g x)) cs;rw [hg];exact hk,by show ok (f (g x));rw [hg];exact ho⟩
theorem Opens.array {e:TypeId} {m:Nat} {l:List (TypeId × Nat)} (f:β→α) (g:α→β) (hg:∀ x,f (g x)=x) (ht:P.underlying t=some (.array m e)) (hfs:(List.range m).map (fun i=>(e,i * P.cellsOf e))=l) (hf:OpensF P 0 l d ok) (hc:P.cellsOf t=d.sz):Opens P t (Kd.iso d f) (fun b=>ok (f b)):=by
 subst hfs
 intro H enc w base held fuel cs y h
 obtain⟨xs,n,_,_,hl,hlen,hx⟩:=DataW.trod_array ht h
 obtain⟨x,hk,ho⟩:=hf (cs:=cs) (fun q hq=>by
  obtain⟨i,hi,rfl⟩:=List.mem_map.1 hq
  have hi':=List.mem_range.1 hi
  exact⟨xs[i]'(by omega),(hx i hi').trans (List.getElem?_eq_getElem (by omega))⟩) (by rw [hl,hc,Nat.zero_add])
 rw [List.drop_zero] at hk
 exact⟨g x,by show d.K w (f (g x)) cs;rw [hg];exact hk,by show ok (f (g x));rw [hg];exact ho⟩
end
end Go.Proofs.YtcfknijdhmildaaDoor
end
section
namespace Go.Proofs.YtcfknijdhmildaaDoor.PParseFirst
open Go.RowKit Go.Proofs.YtcfknijdhmildaaDoorW.PrintWords
set_option maxRecDepth 100000
def ok60 (x:S60):Prop:=(Lit.int .i64 x.f0).wf=true∧(Lit.int .i64 x.f1).wf=true∧(Lit.int .i64 x.f2).wf=true∧(Lit.int .i64 x.f3).wf=true∧(Lit.int .i64 x.f4).wf=true∧(x.f5.length≤maxLen∧∀ y ∈ x.f5,(Lit.int .i64 y).wf=true)
theorem opens60:Opens Tryd.prog 60 k60 ok60:=Opens.struct (fun x:S60=>(x.f0,x.f1,x.f2,x.f3,x.f4,x.f5)) (fun x=>(⟨x.1,x.2.1,x.2.2.1,x.2.2.2.1,x.2.2.2.2.1,x.2.2.2.2.2⟩:S60)) (fun _=>rfl) Tryd.underlying60 (by rfl) (OpensF.cons (Opens.int Tryd.underlying3) (by kernel_rfl) (n1:=1) (by kernel_rfl) (OpensF.cons (Opens.int Tryd.underlying3) (by kernel_rfl) (n1:=2) (by kernel_rfl) (OpensF.cons (Opens.int Tryd.underlying3) (by kernel_rfl) (n1:=3) (by kernel_rfl) (OpensF.cons (Opens.int Tryd.underlying3) (by kernel_rfl) (n1:=4) (by kernel_rfl) (OpensF.cons (Opens.int Tryd.underlying3) (by kernel_rfl) (n1:=5) (by kernel_rfl) (OpensF.last (Opens.slice 3 Tryd.underlying50 (Opens.int Tryd.underlying3) (by kernel_rfl) (0:Int)) (by kernel_rfl))))))) (by kernel_rfl)
def ok24 (x:S24):Prop:=(Lit.int .i64 x.f0).wf=true∧(Lit.int .i64 x.f1).wf=true∧(x.f2.length≤maxLen∧∀ y ∈ x.f2,ok60 y)
theorem opens24:Opens Tryd.prog 24 k24 ok24:=Opens.struct (fun x:S24=>(x.f0,x.f1,x.f2)) (fun x=>(⟨x.1,x.2.1,x.2.2⟩:S24)) (fun _=>rfl) Tryd.underlying24 (by rfl) (OpensF.cons (Opens.int Tryd.underlying3) (by kernel_rfl) (n1:=1) (by kernel_rfl) (OpensF.cons (Opens.int Tryd.underlying3) (by kernel_rfl) (n1:=2) (by kernel_rfl) (OpensF.last (Opens.slice 60 Tryd.underlying22 opens60 (by kernel_rfl) z60) (by kernel_rfl)))) (by kernel_rfl)
end Go.Proofs.YtcfknijdhmildaaDoor.PParseFirst
end
section
namespace Go.Proofs.YtcfknijdhmildaaDoor.PParseFirst
open Go.RowKit Go.Proofs.YtcfknijdhmildaaDoorW.PrintWords Go.Proofs.YtcfknijdhmildaaDoorW.PrintLast Go.Proofs.YtcfknijdhmildaaDoorW.PrintMore
attribute [local go_sem] max2_int min2_int max_two min_two max_three min_three max_four min_four
set_option linter.unusedVariables false
set_option linter.unusedSimpArgs false
noncomputable section
def tkTo (x:Tk):S52:=⟨x.id,x.c,x.d,x.t,x.p,x.ch,x.us⟩
theorem S_tk {w:World} {base:Nat} {ok:Nat→Prop} {v:Value} {L:List Tk} (h:Kd.S kTk 52 w base ok v L):Kd.S k52 52 w base ok v (L.map tkTo):=by
 obtain⟨f,h0,inner,ho,hr⟩:=h
 refine⟨f,h0,inner,by rw [List.length_zipIdx,List.length_map];rw [List.length_zipIdx] at ho;exact ho,?_,fun j p hj=>?_⟩
 ·have:=hr.1
  rw [List.length_zipIdx] at this ⊢
  rw [List.length_map]
  exact this
 ·rw [List.getElem?_zipIdx,List.getElem?_map] at hj
  cases hx:L[j]? with
  |none=>rw [hx] at hj;cases hj
  |some x=>
   rw [hx] at hj
   obtain rfl:=Option.some.inj hj
   have:=hr.2 j (x,0+j) (by rw [List.getElem?_zipIdx,hx];rfl)
   exact this
def parse_Parse.f (a0:ByteArray):Option (Int × Int × List S52 × Int × Int):=if a0.size≤65536 then some ((parseP a0).1,(parseP a0).2.1,(parseP a0).2.2.1.map tkTo,(parseP a0).2.2.2.1,(parseP a0).2.2.2.2) else none
theorem parse_Parse.calls (a0:ByteArray) (r1 r2:Int) (r3:List S52) (r4 r5:Int) (w:World) (h:parse_Parse.f a0=some (r1,r2,r3,r4,r5)) (hT:Tabs w) :
  Calls Tryd.prog 12 #[.string a0] w fun e w'=>∃ v2_:Value,e=.returned (.tuple #[.agg #[.int .i64 r1,.int .i64 r2,v2_],.int .i64 r4,.int .i64 r5])∧Kd.S k52 52 w' w.heap.size (fun _=>True) v2_ r3∧Below w.heap.size w w':=by
 unfold parse_Parse.f at h
 by_cases h1:a0.size≤65536
 ·rw [if_pos h1] at h
  have h:=Option.some.inj h
  obtain⟨_,m,hm⟩:=hT
  injection h with e1 h
  injection h with e2 h
  injection h with e3 h
  injection h with e4 e5
  subst e1 e2 e3 e4 e5
  refine (parse_anyS a0 h1 m w hm).mono ?_
  rintro e w' ⟨⟨v,rfl,ho⟩,hb⟩
  exact⟨v,rfl,S_tk ho,hb⟩
 ·rw [if_neg h1] at h;cases h
def ostinatolaw07_awake.f:Option Bool:=some true
theorem ostinatolaw07_awake.calls (r:Bool) (w:World) (h:ostinatolaw07_awake.f=some r) (hT:Tabs w) :
  Calls Tryd.prog 8 #[] w fun e w'=>e=.returned (.bool r)∧Below w.heap.size w w':=by
 obtain rfl:=Option.some.inj h
 obtain⟨_,m,hm⟩:=hT
 exact awake_any m w hm
def ostinatolaw07_short.f (a0:ByteArray) (a1:Int):Option (ByteArray):=if (a0.size:Int) > a1 then (if 0≤a1 then (if a1≤(a0.size:Int) then (some (a0.extract 0 (a1:Int).toNat)) else (none)) else (none)) else (some a0)
theorem ostinatolaw07_short.calls (a0:ByteArray) (a1:Int) (r:ByteArray) (w:World) (h:ostinatolaw07_short.f a0 a1=some r) :
  Calls Tryd.prog 9 #[.string a0,.int .i64 a1] w fun e w'=>e=.returned (.string r)∧Drawn0 w w':=by
 have H:(if (a0.size:Int) > a1 then (if 0≤a1 then (if a1≤(a0.size:Int) then (some (a0.extract 0 (a1:Int).toNat)) else (none)) else (none)) else (some a0))=some r:=h
 clear h
 by_cases c3:(a0.size:Int) > a1
 ·rw [if_pos c3] at H
  have c3b0:decide (a1<(a0.size:Int))=true:=decide_eq_true c3
  clear c3
  by_cases c4:0≤a1
  ·rw [if_pos c4] at H
   have c4b0:=eq_true c4
   have c4b1:decide (0≤a1)=true:=decide_eq_true c4
   clear c4
   by_cases c5:a1≤(a0.size:Int)
   ·rw [if_pos c5] at H
    have c5b0:=eq_true c5
    have c5b1:decide (a1≤(a0.size:Int))=true:=decide_eq_true c5
    clear c5
    obtain rfl:=Option.some.inj H
    go_enter Tryd.func9,Tryd.ntmps9
    go_wp2
    go_ret
    exact⟨by first|rfl|(simp;done)|(simp [*];done),by repeat (first|exact Drawn0.refl _|apply Drawn0.step)⟩
   ·rw [if_neg c5] at H
    exact absurd H (by simp)
  ·rw [if_neg c4] at H
   exact absurd H (by simp)
 ·rw [if_neg c3] at H
  have c3b0:decide (a1<(a0.size:Int))=false:=decide_eq_false c3
  clear c3
  obtain rfl:=Option.some.inj H
  go_enter Tryd.func9,Tryd.ntmps9
  go_wp2
  go_ret
  exact⟨by first|rfl|(simp;done)|(simp [*];done),by repeat (first|exact Drawn0.refl _|apply Drawn0.step)⟩
def ostinatoref05_rest.f (a0:Int) (a1:Int):Option (Int):=if a1=0 then (none) else (some (Int.tmod (wrap64 ((Int.tmod a0 a1)+a1)) a1))
theorem ostinatoref05_rest.calls (a0:Int) (a1:Int) (r:Int) (w:World) (h:ostinatoref05_rest.f a0 a1=some r) :
  Calls Tryd.prog 38 #[.int .i64 a0,.int .i64 a1] w fun e w'=>e=.returned (.int .i64 r)∧Drawn0 w w':=by
 have H:(if a1=0 then (none) else (some (Int.tmod (wrap64 ((Int.tmod a0 a1)+a1)) a1)))=some r:=h
 clear h
 by_cases c3:a1=0
 ·rw [if_pos c3] at H
  exact absurd H (by simp)
 ·rw [if_neg c3] at H
  have c3b0:(a1 == 0)=false:=beq_eq_false_iff_ne.mpr c3
  have c3b1:(a1 != 0)=true:=bne_iff_ne.mpr c3
  obtain rfl:=Option.some.inj H
  go_enter Tryd.func38,Tryd.ntmps38
  go_wp2
  go_ret
  exact⟨by first|rfl|(simp;done)|(simp [*];done),by repeat (first|exact Drawn0.refl _|apply Drawn0.step)⟩
end
end Go.Proofs.YtcfknijdhmildaaDoor.PParseFirst
end
section
namespace Go.Proofs.YtcfknijdhmildaaDoor.PParseFirst
open Go.RowKit Go.Proofs.YtcfknijdhmildaaDoorW.PrintWords Go.Proofs.YtcfknijdhmildaaDoorW.PrintLast Go.Proofs.YtcfknijdhmildaaDoorW.PrintMore
attribute [local go_sem] max2_int min2_int max_two min_two max_three min_three max_four min_four
set_option linter.unusedVariables false
set_option linter.unusedSimpArgs false
noncomputable section
mutual
def ostinatoref05_Num_task.l0:Nat→Int→Int→Int→Int→Int→Int→Int→Int→Int→List Int→Int→Int→Int→Int→Int→List Int→Option (Int × Int × Int × Int × Int × List Int × List Int)
 |0,_,_,_,_,_,_,_,_,_,_,_,_,_,_,_,_=>none
 |k+1,x2,x10,x12,x13,x102000,x102001,x102002,x102003,x102004,x102005,x109000,x109001,x109002,x109003,x109004,x109005=>if x13<x10 then (if 0≤(IntKind.u64.wrap (x13)) then (if (Go.bits .and .i64 (shr .i64 x102004 (IntKind.u64.wrap (x13))) 1)=1 then (if x109005.length<17592186044416 then (ostinatoref05_Num_task.l0 k x2 x10 x13 (wrap64 (x13+1)) x102000 x102001 x102002 x102003 x102004 x102005 x109000 x109001 x109002 x109003 x109004 (x109005++[wrap64 (x13 - x12)])) else (none)) else (ostinatoref05_Num_task.l0 k x2 x10 x12 (wrap64 (x13+1)) x102000 x102001 x102002 x102003 x102004 x102005 x109000 x109001 x109002 x109003 x109004 x109005)) else (none)) else (if x12 > 0 then (if x109005.length<17592186044416 then (ostinatoref05_Num_task.j1 k x2 x102000 x102001 x102002 x102003 x102004 x102005 x109000 x109001 x109002 x109003 x109004 (x109005++[wrap64 (x10 - x12)])) else (none)) else (ostinatoref05_Num_task.j1 k x2 x102000 x102001 x102002 x102003 x102004 x102005 x109000 x109001 x109002 x109003 x109004 x109005))
def ostinatoref05_Num_task.j1:Nat→Int→Int→Int→Int→Int→Int→List Int→Int→Int→Int→Int→Int→List Int→Option (Int × Int × Int × Int × Int × List Int × List Int)
 |0,_,_,_,_,_,_,_,_,_,_,_,_,_=>none
 |k+1,x2,x102000,x102001,x102002,x102003,x102004,x102005,x109000,x109001,x109002,x109003,x109004,x109005=>ostinatoref05_Num_task.l1 k x2 0 x102000 x102001 x102002 x102003 x102004 x102005 x109000 x109001 x109002 x109003 x109004 x109005 ([]:List Int)
def ostinatoref05_Num_task.l1:Nat→Int→Int→Int→Int→Int→Int→Int→List Int→Int→Int→Int→Int→Int→List Int→List Int→Option (Int × Int × Int × Int × Int × List Int × List Int)
 |0,_,_,_,_,_,_,_,_,_,_,_,_,_,_,_=>none
 |k+1,x2,x14,x102000,x102001,x102002,x102003,x102004,x102005,x109000,x109001,x109002,x109003,x109004,x109005,x109006=>if x14<(x102005.length:Int) then (if x14<5 then (if 0≤x14 then ((ostinatoref05_rest.f (rd x102005 x14) x2).bind fun t116=>(if x109006.length<17592186044416 then (ostinatoref05_Num_task.l1 k x2 (wrap64 (x14+1)) x102000 x102001 x102002 x102003 x102004 x102005 x109000 x109001 x109002 x109003 x109004 x109005 (x109006++[t116])) else (none))) else (none)) else (some (x109000,x109001,x109002,x109003,x109004,x109005,x109006))) else (some (x109000,x109001,x109002,x109003,x109004,x109005,x109006))
end
def ostinatoref05_Num_task.f (k:Nat) (a0_0:Int) (a0_1:Int) (a0_2:Int) (a0_3:Int) (a0_4:Int) (l0_5:List Int) (a1:Int) (a2:Int):Option (Int × Int × Int × Int × Int × List Int × List Int):=if 0≤(Go.bits .and .i64 a0_2 7) then (if (Go.bits .and .i64 a0_2 7)<8 then ((ostinatoref05_rest.f a0_1 (rd [4,5,6,8,10,12,20,24] (Go.bits .and .i64 a0_2 7))).bind fun t105=>((ostinatoref05_rest.f a0_0 (wrap64 (1+t105))).bind fun t106=>((ostinatoref05_rest.f a0_3 9).bind fun t107=>(ostinatoref05_Num_task.l0 k a2 (wrap64 (1+t106)) 0 1 a0_0 a0_1 a0_2 a0_3 a0_4 l0_5 (wrap64 (a1+1)) (wrap64 (1+t106)) (wrap64 (1+t105)) (rd [4,5,6,8,10,12,20,24] (Go.bits .and .i64 a0_2 7)) (wrap64 ((wrap64 (10 * (wrap64 (1+t107))))+a1)) ([]:List Int))))) else (none)) else (none)
def ostinatoref05_Num_task.T18:Bool × List (List Nat × List Nat):=(true,[([],[]),([0],[0]),([],[]),([2],[2]),([],[]),([3,4],[3,4]),([5],[5]),([],[]),([6,7],[6,7]),([8],[8]),([1,9,8],[1,9]),([0,1,2,3,4,5,6,7,8,9,10],[]),([11,10,10,0,1,2,3,4,5,6,7,8,9,10],[10,11])])
def ostinatoref05_Num_task.B18:List Nat:=[0,1,0,4,0,28,60,0,252,508,1023,2047,4095]
theorem ostinatoref05_Num_task.tab18:rtab .any (opsOf Tryd.f39 18)=ostinatoref05_Num_task.T18:=by kernel_rfl
theorem ostinatoref05_Num_task.bits18:waitsOk ostinatoref05_Num_task.T18.2 ostinatoref05_Num_task.B18=true:=by kernel_rfl
theorem ostinatoref05_Num_task.calls (k:Nat) (a0_0:Int) (a0_1:Int) (a0_2:Int) (a0_3:Int) (a0_4:Int) (A0_5:Option Addr) (c0_5:Nat) (l0_5:List Int) (a1:Int) (a2:Int) (r1:Int) (r2:Int) (r3:Int) (r4:Int) (r5:Int) (r6:List Int) (r7:List Int) (w:World) (hr0_5:Kd.C (Kd.int .i64) w A0_5 l0_5.length l0_5) (hc0_5:l0_5.length≤c0_5) (h:ostinatoref05_Num_task.f k a0_0 a0_1 a0_2 a0_3 a0_4 l0_5 a1 a2=some (r1,r2,r3,r4,r5,r6,r7)) :
  Calls Tryd.prog 39 #[.agg #[.int .i64 a0_0,.int .i64 a0_1,.int .i64 a0_2,.int .i64 a0_3,.int .i64 a0_4,.slice A0_5 l0_5.length c0_5],.int .i64 a1,.int .i64 a2] w fun e w'=>∃ v5_ v6_:Value,e=.returned (.agg #[.int .i64 r1,.int .i64 r2,.int .i64 r3,.int .i64 r4,.int .i64 r5,v5_,v6_])∧Kd.R (Kd.int .i64) 2 w' w.heap.size (fun _=>True) v5_ r6∧Kd.R (Kd.int .i64) 3 w' w.heap.size (fun _=>True) v6_ r7∧Below w.heap.size w w':=by
 have hu59:=Tryd.underlying59
 have hu52:=Tryd.underlying52
 have hu123:=Tryd.underlying123
 have HR0_5:=qah.mk hr0_5
 have HC0_5:=qah.mk hc0_5
 clear hr0_5 hc0_5
 have HB:=qah.mk (Below.refl w.heap.size w)
 have H:(if 0≤(Go.bits .and .i64 a0_2 7) then (if (Go.bits .and .i64 a0_2 7)<8 then ((ostinatoref05_rest.f a0_1 (rd [4,5,6,8,10,12,20,24] (Go.bits .and .i64 a0_2 7))).bind fun t105=>((ostinatoref05_rest.f a0_0 (wrap64 (1+t105))).bind fun t106=>((ostinatoref05_rest.f a0_3 9).bind fun t107=>(ostinatoref05_Num_task.l0 k a2 (wrap64 (1+t106)) 0 1 a0_0 a0_1 a0_2 a0_3 a0_4 l0_5 (wrap64 (a1+1)) (wrap64 (1+t106)) (wrap64 (1+t105)) (rd [4,5,6,8,10,12,20,24] (Go.bits .and .i64 a0_2 7)) (wrap64 ((wrap64 (10 * (wrap64 (1+t107))))+a1)) ([]:List Int))))) else (none)) else (none))=some (r1,r2,r3,r4,r5,r6,r7):=h
 clear h
 by_cases c4:0≤(Go.bits .and .i64 a0_2 7)
 ·rw [if_pos c4] at H
  have c4b0:decide (0≤(Go.bits .and .i64 a0_2 7))=true:=decide_eq_true c4
  clear c4
  by_cases c5:(Go.bits .and .i64 a0_2 7)<8
  ·rw [if_pos c5] at H
   have c5b0:decide ((Go.bits .and .i64 a0_2 7)<8)=true:=decide_eq_true c5
   clear c5
   replace H:=Option.bind_eq_some_iff.mp H
   obtain⟨t105,A60,H⟩:=H
   replace H:((ostinatoref05_rest.f a0_0 (wrap64 (1+t105))).bind fun t106=>((ostinatoref05_rest.f a0_3 9).bind fun t107=>(ostinatoref05_Num_task.l0 k a2 (wrap64 (1+t106)) 0 1 a0_0 a0_1 a0_2 a0_3 a0_4 l0_5 (wrap64 (a1+1)) (wrap64 (1+t106)) (wrap64 (1+t105)) (rd [4,5,6,8,10,12,20,24] (Go.bits .and .i64 a0_2 7)) (wrap64 ((wrap64 (10 * (wrap64 (1+t107))))+a1)) ([]:List Int))))=some (r1,r2,r3,r4,r5,r6,r7):=H
   have A6:=qah.mk A60
   clear A60
   replace H:=Option.bind_eq_some_iff.mp H
   obtain⟨t106,A70,H⟩:=H
   replace H:((ostinatoref05_rest.f a0_3 9).bind fun t107=>(ostinatoref05_Num_task.l0 k a2 (wrap64 (1+t106)) 0 1 a0_0 a0_1 a0_2 a0_3 a0_4 l0_5 (wrap64 (a1+1)) (wrap64 (1+t106)) (wrap64 (1+t105)) (rd [4,5,6,8,10,12,20,24] (Go.bits .and .i64 a0_2 7)) (wrap64 ((wrap64 (10 * (wrap64 (1+t107))))+a1)) ([]:List Int)))=some (r1,r2,r3,r4,r5,r6,r7):=H
   have A7:=qah.mk A70
   clear A70
   replace H:=Option.bind_eq_some_iff.mp H
   obtain⟨t107,A80,H⟩:=H
   replace H:(ostinatoref05_Num_task.l0 k a2 (wrap64 (1+t106)) 0 1 a0_0 a0_1 a0_2 a0_3 a0_4 l0_5 (wrap64 (a1+1)) (wrap64 (1+t106)) (wrap64 (1+t105)) (rd [4,5,6,8,10,12,20,24] (Go.bits .and .i64 a0_2 7)) (wrap64 ((wrap64 (10 * (wrap64 (1+t107))))+a1)) ([]:List Int))=some (r1,r2,r3,r4,r5,r6,r7):=H
   have A8:=qah.mk A80
   clear A80
   have H':=qah.mk H
   clear H
   go_enter Tryd.func39,Tryd.ntmps39
   go_wp2_with (first|((with_reducible refine qaM (N:=3) rfl ?_);refine qaL ?hg (N:=3) ?hd (cs:=#[.int .i64 a0_0,.int .i64 a0_1,.int .i64 a0_2,.int .i64 a0_3,.int .i64 a0_4,.slice A0_5 l0_5.length c0_5]) (t:=59) ?hr ?_;(case hd=>rfl);(case hg=>rfl);(case hr=>first|(go_simp;done)|(go_simp;rfl));intro gb101 hg w9 hbox hb;have n0_:=qah.mk (qat (by repeat (first|(with_reducible first|exact HB.out|apply qai|apply qag|apply qaj)|exact HB.out)) hb);have n1_:=qah.mk (hbox);have n2_:=qah.mk ((by rw [hg];exact (qam (by repeat (first|(with_reducible first|exact HB.out|apply qai|apply qag|apply qaj)|exact HB.out))):w.heap.size≤gb101));have n3_:=qah.mk ((by rw [hg];exact (qam (by repeat (first|(with_reducible first|exact HB.out|apply qai|apply qag|apply qaj)|exact HB.out))):w.heap.size≤gb101));clear HB;have HB:=n0_;have BK101:=n1_;have GW101:=n2_;have GE101:=n3_;clear n0_ n1_ n2_ n3_;clear hb hbox hg)|((with_reducible refine qaM (N:=6) rfl ?_);refine qaL ?hg (N:=6) ?hd (cs:=#[.int .i64 0,.int .i64 0,.int .i64 0,.int .i64 0,.int .i64 0,.slice none 0 0,.slice none 0 0]) (t:=52) ?hr ?_;(case hd=>rfl);(case hg=>rfl);(case hr=>first|(go_simp;done)|(go_simp;rfl));intro gb102 hg w10 hbox hb;have n0_:=qah.mk (qap (g:=gb101) (o:=.cells #[.int .i64 a0_0,.int .i64 a0_1,.int .i64 a0_2,.int .i64 a0_3,.int .i64 a0_4,.slice A0_5 l0_5.length c0_5] 59 (0,0)) (by (with_reducible repeat (first|refine qab ?_ _|refine qac ?_|refine qaa ?_ _));exact BK101.out) hb);have n1_:=qah.mk (qat (by repeat (first|(with_reducible first|exact HB.out|apply qai|apply qag|apply qaj|refine qaf ?_ GE101.out)|exact HB.out)) hb);have n2_:=qah.mk (hbox);have n3_:=qah.mk ((by rw [hg];exact (qam (by repeat (first|(with_reducible first|exact HB.out|apply qai|apply qag|apply qaj|refine qaf ?_ GE101.out)|exact HB.out))):w.heap.size≤gb102));have n4_:=qah.mk ((by rw [hg];exact (qam (by repeat (first|(with_reducible first|exact HB.out|apply qai|apply qag|apply qaj|refine qaf ?_ GE101.out)|exact HB.out))):w.heap.size≤gb102));have n5_:=qah.mk ((by rw [hg];exact Nat.ne_of_lt (qaw (g:=gb101) (o:=.cells #[.int .i64 a0_0,.int .i64 a0_1,.int .i64 a0_2,.int .i64 a0_3,.int .i64 a0_4,.slice A0_5 l0_5.length c0_5] 59 (0,0)) (by (with_reducible repeat (first|refine qab ?_ _|refine qac ?_|refine qaa ?_ _));exact BK101.out)):gb101≠gb102));have n6_:=qah.mk ((by rw [hg];exact Nat.ne_of_gt (qaw (g:=gb101) (o:=.cells #[.int .i64 a0_0,.int .i64 a0_1,.int .i64 a0_2,.int .i64 a0_3,.int .i64 a0_4,.slice A0_5 l0_5.length c0_5] 59 (0,0)) (by (with_reducible repeat (first|refine qab ?_ _|refine qac ?_|refine qaa ?_ _));exact BK101.out)):gb102≠gb101));clear BK101;clear HB;have BK101:=n0_;have HB:=n1_;have BK102:=n2_;have GW102:=n3_;have GE102:=n4_;have NB101_102:=n5_;have NB102_101:=n6_;clear n0_ n1_ n2_ n3_ n4_ n5_ n6_;clear hb hbox hg)|((with_reducible refine qaM (N:=7) rfl ?_);refine qaL ?hg (N:=7) ?hd (cs:=#[.int .i64 0,.int .i64 0,.int .i64 0,.int .i64 0,.int .i64 0,.int .i64 0,.int .i64 0,.int .i64 0]) (t:=123) ?hr ?_;(case hd=>rfl);(case hg=>rfl);(case hr=>first|(go_simp;done)|(go_simp;rfl));intro gb103 hg w11 hbox hb;have n0_:=qah.mk (qap (g:=gb101) (o:=.cells #[.int .i64 a0_0,.int .i64 a0_1,.int .i64 a0_2,.int .i64 a0_3,.int .i64 a0_4,.slice A0_5 l0_5.length c0_5] 59 (0,0)) (by (with_reducible repeat (first|refine qab ?_ _|refine qac ?_|refine qaa ?_ _));exact BK101.out) hb);have n1_:=qah.mk (qap (g:=gb102) (o:=.cells #[.int .i64 0,.int .i64 0,.int .i64 0,.int .i64 0,.int .i64 0,.slice none 0 0,.slice none 0 0] 52 (0,0)) (by (with_reducible repeat (first|refine qab ?_ _|refine qac ?_|refine qaa ?_ _));exact BK102.out) hb);have n2_:=qah.mk (qat (by repeat (first|(with_reducible first|exact HB.out|apply qai|apply qag|apply qaj|refine qaf ?_ GE101.out|refine qaf ?_ GE102.out)|exact HB.out)) hb);have n3_:=qah.mk (hbox);have n4_:=qah.mk ((by rw [hg];exact (qam (by repeat (first|(with_reducible first|exact HB.out|apply qai|apply qag|apply qaj|refine qaf ?_ GE101.out|refine qaf ?_ GE102.out)|exact HB.out))):w.heap.size≤gb103));have n5_:=qah.mk ((by rw [hg];exact (qam (by repeat (first|(with_reducible first|exact HB.out|apply qai|apply qag|apply qaj|refine qaf ?_ GE101.out|refine qaf ?_ GE102.out)|exact HB.out))):w.heap.size≤gb103));have n6_:=qah.mk ((by rw [hg];exact Nat.ne_of_lt (qaw (g:=gb101) (o:=.cells #[.int .i64 a0_0,.int .i64 a0_1,.int .i64 a0_2,.int .i64 a0_3,.int .i64 a0_4,.slice A0_5 l0_5.length c0_5] 59 (0,0)) (by (with_reducible repeat (first|refine qab ?_ _|refine qac ?_|refine qaa ?_ _));exact BK101.out)):gb101≠gb103));have n7_:=qah.mk ((by rw [hg];exact Nat.ne_of_gt (qaw (g:=gb101) (o:=.cells #[.int .i64 a0_0,.int .i64 a0_1,.int .i64 a0_2,.int .i64 a0_3,.int .i64 a0_4,.slice A0_5 l0_5.length c0_5] 59 (0,0)) (by (with_reducible repeat (first|refine qab ?_ _|refine qac ?_|refine qaa ?_ _));exact BK101.out)):gb103≠gb101));have n8_:=qah.mk ((by rw [hg];exact Nat.ne_of_lt (qaw (g:=gb102) (o:=.cells #[.int .i64 0,.int .i64 0,.int .i64 0,.int .i64 0,.int .i64 0,.slice none 0 0,.slice none 0 0] 52 (0,0)) (by (with_reducible repeat (first|refine qab ?_ _|refine qac ?_|refine qaa ?_ _));exact BK102.out)):gb102≠gb103));have n9_:=qah.mk ((by rw [hg];exact Nat.ne_of_gt (qaw (g:=gb102) (o:=.cells #[.int .i64 0,.int .i64 0,.int .i64 0,.int .i64 0,.int .i64 0,.slice none 0 0,.slice none 0 0] 52 (0,0)) (by (with_reducible repeat (first|refine qab ?_ _|refine qac ?_|refine qaa ?_ _));exact BK102.out)):gb103≠gb102));clear BK101;clear BK102;clear HB;have BK101:=n0_;have BK102:=n1_;have HB:=n2_;have BK103:=n3_;have GW103:=n4_;have GE103:=n5_;have NB101_103:=n6_;have NB103_101:=n7_;have NB102_103:=n8_;have NB103_102:=n9_;clear n0_ n1_ n2_ n3_ n4_ n5_ n6_ n7_ n8_ n9_;clear hb hbox hg;have hnb12:=NB103_101.out;have hnc12:=NB101_103.out;have hnb13:=NB103_102.out;have hnc13:=NB102_103.out;have hcz14_0:w11.cell? ⟨gb103,0,none⟩=some (.int .i64 0):=(qad BK103.out 0).trans rfl;have hcz14_1:w11.cell? ⟨gb103,1,none⟩=some (.int .i64 0):=(qad BK103.out 1).trans rfl;have hcz14_2:w11.cell? ⟨gb103,2,none⟩=some (.int .i64 0):=(qad BK103.out 2).trans rfl;have hcz14_3:w11.cell? ⟨gb103,3,none⟩=some (.int .i64 0):=(qad BK103.out 3).trans rfl;have hcz14_4:w11.cell? ⟨gb103,4,none⟩=some (.int .i64 0):=(qad BK103.out 4).trans rfl;have hcz14_5:w11.cell? ⟨gb103,5,none⟩=some (.int .i64 0):=(qad BK103.out 5).trans rfl;have hcz14_6:w11.cell? ⟨gb103,6,none⟩=some (.int .i64 0):=(qad BK103.out 6).trans rfl;have hcz14_7:w11.cell? ⟨gb103,7,none⟩=some (.int .i64 0):=(qad BK103.out 7).trans rfl;have hfz14_0:=qae BK103.out 0;have hfz14_1:=qae BK103.out 1;have hfz14_2:=qae BK103.out 2;have hfz14_3:=qae BK103.out 3;have hfz14_4:=qae BK103.out 4;have hfz14_5:=qae BK103.out 5;have hfz14_6:=qae BK103.out 6;have hfz14_7:=qae BK103.out 7)|((with_reducible refine gate_store (t:=123) (p:=7) rfl ?_);refine store_event (t:=123) (p:=7) (v:=?vo_w15) (w1:=((((((((w11.setCell ⟨gb103,0,none⟩ (.int .i64 4)).setCell ⟨gb103,1,none⟩ (.int .i64 5)).setCell ⟨gb103,2,none⟩ (.int .i64 6)).setCell ⟨gb103,3,none⟩ (.int .i64 8)).setCell ⟨gb103,4,none⟩ (.int .i64 10)).setCell ⟨gb103,5,none⟩ (.int .i64 12)).setCell ⟨gb103,6,none⟩ (.int .i64 20)).setCell ⟨gb103,7,none⟩ (.int .i64 24))) ?hg ?ho ?hn ?hr ?_;(case ho=>rfl);(case hg=>rfl);(case hn=>rfl);(case hr=>first|(go_simp;done)|(go_simp;rfl));intro w15 hw;have n0_:qah (w15.heap[gb101]? = some (.cells #[.int .i64 a0_0,.int .i64 a0_1,.int .i64 a0_2,.int .i64 a0_3,.int .i64 a0_4,.slice A0_5 l0_5.length c0_5] 59 (0,0))):=⟨(by rw [hw];exact (by (with_reducible repeat (first|refine qab ?_ _|refine qac ?_|refine qaa ?_ _));refine qan ?_ NB101_103.out _;(with_reducible repeat (first|refine qab ?_ _|refine qac ?_|refine qaa ?_ _));refine qan ?_ NB101_103.out _;(with_reducible repeat (first|refine qab ?_ _|refine qac ?_|refine qaa ?_ _));refine qan ?_ NB101_103.out _;(with_reducible repeat (first|refine qab ?_ _|refine qac ?_|refine qaa ?_ _));refine qan ?_ NB101_103.out _;(with_reducible repeat (first|refine qab ?_ _|refine qac ?_|refine qaa ?_ _));refine qan ?_ NB101_103.out _;(with_reducible repeat (first|refine qab ?_ _|refine qac ?_|refine qaa ?_ _));refine qan ?_ NB101_103.out _;(with_reducible repeat (first|refine qab ?_ _|refine qac ?_|refine qaa ?_ _));refine qan ?_ NB101_103.out _;(with_reducible repeat (first|refine qab ?_ _|refine qac ?_|refine qaa ?_ _));refine qan ?_ NB101_103.out _;(with_reducible repeat (first|refine qab ?_ _|refine qac ?_|refine qaa ?_ _));exact BK101.out))⟩;have n1_:qah (w15.heap[gb102]? = some (.cells #[.int .i64 0,.int .i64 0,.int .i64 0,.int .i64 0,.int .i64 0,.slice none 0 0,.slice none 0 0] 52 (0,0))):=⟨(by rw [hw];exact (by (with_reducible repeat (first|refine qab ?_ _|refine qac ?_|refine qaa ?_ _));refine qan ?_ NB102_103.out _;(with_reducible repeat (first|refine qab ?_ _|refine qac ?_|refine qaa ?_ _));refine qan ?_ NB102_103.out _;(with_reducible repeat (first|refine qab ?_ _|refine qac ?_|refine qaa ?_ _));refine qan ?_ NB102_103.out _;(with_reducible repeat (first|refine qab ?_ _|refine qac ?_|refine qaa ?_ _));refine qan ?_ NB102_103.out _;(with_reducible repeat (first|refine qab ?_ _|refine qac ?_|refine qaa ?_ _));refine qan ?_ NB102_103.out _;(with_reducible repeat (first|refine qab ?_ _|refine qac ?_|refine qaa ?_ _));refine qan ?_ NB102_103.out _;(with_reducible repeat (first|refine qab ?_ _|refine qac ?_|refine qaa ?_ _));refine qan ?_ NB102_103.out _;(with_reducible repeat (first|refine qab ?_ _|refine qac ?_|refine qaa ?_ _));refine qan ?_ NB102_103.out _;(with_reducible repeat (first|refine qab ?_ _|refine qac ?_|refine qaa ?_ _));exact BK102.out))⟩;have n2_:qah (w15.heap[gb103]? = some (.cells #[.int .i64 4,.int .i64 5,.int .i64 6,.int .i64 8,.int .i64 10,.int .i64 12,.int .i64 20,.int .i64 24] 123 (0,0))):=⟨(by rw [hw];exact (by (with_reducible repeat (first|refine qab ?_ _|refine qac ?_|refine qaa ?_ _));refine qao (cs:=#[.int .i64 4,.int .i64 5,.int .i64 6,.int .i64 8,.int .i64 10,.int .i64 12,.int .i64 20,.int .i64 0]) ?_ 7 _ rfl;(with_reducible repeat (first|refine qab ?_ _|refine qac ?_|refine qaa ?_ _));refine qao (cs:=#[.int .i64 4,.int .i64 5,.int .i64 6,.int .i64 8,.int .i64 10,.int .i64 12,.int .i64 0,.int .i64 0]) ?_ 6 _ rfl;(with_reducible repeat (first|refine qab ?_ _|refine qac ?_|refine qaa ?_ _));refine qao (cs:=#[.int .i64 4,.int .i64 5,.int .i64 6,.int .i64 8,.int .i64 10,.int .i64 0,.int .i64 0,.int .i64 0]) ?_ 5 _ rfl;(with_reducible repeat (first|refine qab ?_ _|refine qac ?_|refine qaa ?_ _));refine qao (cs:=#[.int .i64 4,.int .i64 5,.int .i64 6,.int .i64 8,.int .i64 0,.int .i64 0,.int .i64 0,.int .i64 0]) ?_ 4 _ rfl;(with_reducible repeat (first|refine qab ?_ _|refine qac ?_|refine qaa ?_ _));refine qao (cs:=#[.int .i64 4,.int .i64 5,.int .i64 6,.int .i64 0,.int .i64 0,.int .i64 0,.int .i64 0,.int .i64 0]) ?_ 3 _ rfl;(with_reducible repeat (first|refine qab ?_ _|refine qac ?_|refine qaa ?_ _));refine qao (cs:=#[.int .i64 4,.int .i64 5,.int .i64 0,.int .i64 0,.int .i64 0,.int .i64 0,.int .i64 0,.int .i64 0]) ?_ 2 _ rfl;(with_reducible repeat (first|refine qab ?_ _|refine qac ?_|refine qaa ?_ _));refine qao (cs:=#[.int .i64 4,.int .i64 0,.int .i64 0,.int .i64 0,.int .i64 0,.int .i64 0,.int .i64 0,.int .i64 0]) ?_ 1 _ rfl;(with_reducible repeat (first|refine qab ?_ _|refine qac ?_|refine qaa ?_ _));refine qao (cs:=#[.int .i64 0,.int .i64 0,.int .i64 0,.int .i64 0,.int .i64 0,.int .i64 0,.int .i64 0,.int .i64 0]) ?_ 0 _ rfl;(with_reducible repeat (first|refine qab ?_ _|refine qac ?_|refine qaa ?_ _));exact BK103.out))⟩;have n3_:qah (Below w.heap.size w w15):=⟨(by rw [hw];exact (by repeat (first|(with_reducible first|exact HB.out|apply qai|apply qag|apply qaj|refine qaf ?_ GE101.out|refine qaf ?_ GE102.out|refine qaf ?_ GE103.out)|exact HB.out)))⟩;clear hw;clear BK101;clear BK102;clear BK103;clear HB;have BK101:=n0_;have BK102:=n1_;have BK103:=n2_;have HB:=n3_;clear n0_ n1_ n2_ n3_;have hnb16:=NB101_102.out;have hnc16:=NB102_101.out;have hcz17_0:w15.cell? ⟨gb101,0,none⟩=some (.int .i64 a0_0):=(qad BK101.out 0).trans rfl;have hcz17_1:w15.cell? ⟨gb101,1,none⟩=some (.int .i64 a0_1):=(qad BK101.out 1).trans rfl;have hcz17_2:w15.cell? ⟨gb101,2,none⟩=some (.int .i64 a0_2):=(qad BK101.out 2).trans rfl;have hcz17_3:w15.cell? ⟨gb101,3,none⟩=some (.int .i64 a0_3):=(qad BK101.out 3).trans rfl;have hcz17_4:w15.cell? ⟨gb101,4,none⟩=some (.int .i64 a0_4):=(qad BK101.out 4).trans rfl;have hcz17_5:w15.cell? ⟨gb101,5,none⟩=some (.slice A0_5 l0_5.length c0_5):=(qad BK101.out 5).trans rfl;have hfz17_0:=qae BK101.out 0;have hfz17_1:=qae BK101.out 1;have hfz17_2:=qae BK101.out 2;have hfz17_3:=qae BK101.out 3;have hfz17_4:=qae BK101.out 4;have hfz17_5:=qae BK101.out 5;have hcz18_0:w15.cell? ⟨gb103,0,none⟩=some (.int .i64 4):=(qad BK103.out 0).trans rfl;have hcz18_1:w15.cell? ⟨gb103,1,none⟩=some (.int .i64 5):=(qad BK103.out 1).trans rfl;have hcz18_2:w15.cell? ⟨gb103,2,none⟩=some (.int .i64 6):=(qad BK103.out 2).trans rfl;have hcz18_3:w15.cell? ⟨gb103,3,none⟩=some (.int .i64 8):=(qad BK103.out 3).trans rfl;have hcz18_4:w15.cell? ⟨gb103,4,none⟩=some (.int .i64 10):=(qad BK103.out 4).trans rfl;have hcz18_5:w15.cell? ⟨gb103,5,none⟩=some (.int .i64 12):=(qad BK103.out 5).trans rfl;have hcz18_6:w15.cell? ⟨gb103,6,none⟩=some (.int .i64 20):=(qad BK103.out 6).trans rfl;have hcz18_7:w15.cell? ⟨gb103,7,none⟩=some (.int .i64 24):=(qad BK103.out 7).trans rfl;have hfz18_0:=qae BK103.out 0;have hfz18_1:=qae BK103.out 1;have hfz18_2:=qae BK103.out 2;have hfz18_3:=qae BK103.out 3;have hfz18_4:=qae BK103.out 4;have hfz18_5:=qae BK103.out 5;have hfz18_6:=qae BK103.out 6;have hfz18_7:=qae BK103.out 7;have p104:0≤(Go.bits .and .i64 a0_2 7:Int):=of_decide_eq_true (by first|(with_reducible assumption)|assumption);have q104:(Go.bits .and .i64 a0_2 7)<(8:Int):=of_decide_eq_true (by first|(with_reducible assumption)|assumption);have hx104:w15.cell? ⟨gb103,(Go.bits .and .i64 a0_2 7).toNat,none⟩=some (.int .i64 (rd [4,5,6,8,10,12,20,24] (Go.bits .and .i64 a0_2 7))):=arrRead (xs:=[4,5,6,8,10,12,20,24]) BK103.out (Go.bits .and .i64 a0_2 7) p104 q104;replace p104:=eq_true p104;replace q104:=eq_true q104)|((with_reducible refine qaI (f:=38) rfl ?_);refine goesL_ (some 24) rfl rfl Tryd.func38 (by kernel_rfl) rfl #[.int .i64 a0_1,.int .i64 (rd [4,5,6,8,10,12,20,24] (Go.bits .and .i64 a0_2 7))] rfl (by (try simp only [List.map_toArray,List.map_cons,List.map_nil]);first|done|rfl|(simp only [List.length_drop,List.length_take];rfl)) ?_;(with_reducible refine (ostinatoref05_rest.calls a0_1 (rd [4,5,6,8,10,12,20,24] (Go.bits .and .i64 a0_2 7)) t105 _ A6.out).mono ?_);rintro e w' ⟨rfl,⟨nd,rfl⟩⟩;refine⟨_,rfl,?_⟩;(try (rw [drewN_self w15];generalize hq_:World.drewN w15 _=w15;have n0_:qah (w15.heap[gb101]? = some (.cells #[.int .i64 a0_0,.int .i64 a0_1,.int .i64 a0_2,.int .i64 a0_3,.int .i64 a0_4,.slice A0_5 l0_5.length c0_5] 59 (0,0))):=⟨by rw [← hq_];exact (by (with_reducible repeat (first|refine qab ?_ _|refine qac ?_|refine qaa ?_ _));exact BK101.out)⟩;have n1_:qah (w15.heap[gb102]? = some (.cells #[.int .i64 0,.int .i64 0,.int .i64 0,.int .i64 0,.int .i64 0,.slice none 0 0,.slice none 0 0] 52 (0,0))):=⟨by rw [← hq_];exact (by (with_reducible repeat (first|refine qab ?_ _|refine qac ?_|refine qaa ?_ _));exact BK102.out)⟩;have n2_:qah (w15.heap[gb103]? = some (.cells #[.int .i64 4,.int .i64 5,.int .i64 6,.int .i64 8,.int .i64 10,.int .i64 12,.int .i64 20,.int .i64 24] 123 (0,0))):=⟨by rw [← hq_];exact (by (with_reducible repeat (first|refine qab ?_ _|refine qac ?_|refine qaa ?_ _));exact BK103.out)⟩;have n3_:qah (Below w.heap.size w w15):=⟨by rw [← hq_];exact (by repeat (first|(with_reducible first|exact HB.out|apply qai|apply qag|apply qaj|refine qaf ?_ GE101.out|refine qaf ?_ GE102.out|refine qaf ?_ GE103.out)|exact HB.out))⟩;clear BK101 BK102 BK103 HB hq_;have BK101:=n0_;have BK102:=n1_;have BK103:=n2_;have HB:=n3_;clear n0_ n1_ n2_ n3_));have hcz19_0:w15.cell? ⟨gb101,0,none⟩=some (.int .i64 a0_0):=(qad BK101.out 0).trans rfl;have hcz19_1:w15.cell? ⟨gb101,1,none⟩=some (.int .i64 a0_1):=(qad BK101.out 1).trans rfl;have hcz19_2:w15.cell? ⟨gb101,2,none⟩=some (.int .i64 a0_2):=(qad BK101.out 2).trans rfl;have hcz19_3:w15.cell? ⟨gb101,3,none⟩=some (.int .i64 a0_3):=(qad BK101.out 3).trans rfl;have hcz19_4:w15.cell? ⟨gb101,4,none⟩=some (.int .i64 a0_4):=(qad BK101.out 4).trans rfl;have hcz19_5:w15.cell? ⟨gb101,5,none⟩=some (.slice A0_5 l0_5.length c0_5):=(qad BK101.out 5).trans rfl;have hfz19_0:=qae BK101.out 0;have hfz19_1:=qae BK101.out 1;have hfz19_2:=qae BK101.out 2;have hfz19_3:=qae BK101.out 3;have hfz19_4:=qae BK101.out 4;have hfz19_5:=qae BK101.out 5)|((with_reducible refine qaI (f:=38) rfl ?_);refine goesL_ (some 29) rfl rfl Tryd.func38 (by kernel_rfl) rfl #[.int .i64 a0_0,.int .i64 (wrap64 (1+t105))] rfl (by (try simp only [List.map_toArray,List.map_cons,List.map_nil]);first|done|rfl|(simp only [List.length_drop,List.length_take];rfl)) ?_;(with_reducible refine (ostinatoref05_rest.calls a0_0 (wrap64 (1+t105)) t106 _ A7.out).mono ?_);rintro e w' ⟨rfl,⟨nd,rfl⟩⟩;refine⟨_,rfl,?_⟩;(try (rw [drewN_self w15];generalize hq_:World.drewN w15 _=w15;have n0_:qah (w15.heap[gb101]? = some (.cells #[.int .i64 a0_0,.int .i64 a0_1,.int .i64 a0_2,.int .i64 a0_3,.int .i64 a0_4,.slice A0_5 l0_5.length c0_5] 59 (0,0))):=⟨by rw [← hq_];exact (by (with_reducible repeat (first|refine qab ?_ _|refine qac ?_|refine qaa ?_ _));exact BK101.out)⟩;have n1_:qah (w15.heap[gb102]? = some (.cells #[.int .i64 0,.int .i64 0,.int .i64 0,.int .i64 0,.int .i64 0,.slice none 0 0,.slice none 0 0] 52 (0,0))):=⟨by rw [← hq_];exact (by (with_reducible repeat (first|refine qab ?_ _|refine qac ?_|refine qaa ?_ _));exact BK102.out)⟩;have n2_:qah (w15.heap[gb103]? = some (.cells #[.int .i64 4,.int .i64 5,.int .i64 6,.int .i64 8,.int .i64 10,.int .i64 12,.int .i64 20,.int .i64 24] 123 (0,0))):=⟨by rw [← hq_];exact (by (with_reducible repeat (first|refine qab ?_ _|refine qac ?_|refine qaa ?_ _));exact BK103.out)⟩;have n3_:qah (Below w.heap.size w w15):=⟨by rw [← hq_];exact (by repeat (first|(with_reducible first|exact HB.out|apply qai|apply qag|apply qaj|refine qaf ?_ GE101.out|refine qaf ?_ GE102.out|refine qaf ?_ GE103.out)|exact HB.out))⟩;clear BK101 BK102 BK103 HB hq_;have BK101:=n0_;have BK102:=n1_;have BK103:=n2_;have HB:=n3_;clear n0_ n1_ n2_ n3_));have hcz20_0:w15.cell? ⟨gb101,0,none⟩=some (.int .i64 a0_0):=(qad BK101.out 0).trans rfl;have hcz20_1:w15.cell? ⟨gb101,1,none⟩=some (.int .i64 a0_1):=(qad BK101.out 1).trans rfl;have hcz20_2:w15.cell? ⟨gb101,2,none⟩=some (.int .i64 a0_2):=(qad BK101.out 2).trans rfl;have hcz20_3:w15.cell? ⟨gb101,3,none⟩=some (.int .i64 a0_3):=(qad BK101.out 3).trans rfl;have hcz20_4:w15.cell? ⟨gb101,4,none⟩=some (.int .i64 a0_4):=(qad BK101.out 4).trans rfl;have hcz20_5:w15.cell? ⟨gb101,5,none⟩=some (.slice A0_5 l0_5.length c0_5):=(qad BK101.out 5).trans rfl;have hfz20_0:=qae BK101.out 0;have hfz20_1:=qae BK101.out 1;have hfz20_2:=qae BK101.out 2;have hfz20_3:=qae BK101.out 3;have hfz20_4:=qae BK101.out 4;have hfz20_5:=qae BK101.out 5)|((with_reducible refine qaI (f:=38) rfl ?_);refine goesL_ (some 38) rfl rfl Tryd.func38 (by kernel_rfl) rfl #[.int .i64 a0_3,.int .i64 9] rfl (by (try simp only [List.map_toArray,List.map_cons,List.map_nil]);first|done|rfl|(simp only [List.length_drop,List.length_take];rfl)) ?_;(with_reducible refine (ostinatoref05_rest.calls a0_3 9 t107 _ A8.out).mono ?_);rintro e w' ⟨rfl,⟨nd,rfl⟩⟩;refine⟨_,rfl,?_⟩;(try (rw [drewN_self w15];generalize hq_:World.drewN w15 _=w15;have n0_:qah (w15.heap[gb101]? = some (.cells #[.int .i64 a0_0,.int .i64 a0_1,.int .i64 a0_2,.int .i64 a0_3,.int .i64 a0_4,.slice A0_5 l0_5.length c0_5] 59 (0,0))):=⟨by rw [← hq_];exact (by (with_reducible repeat (first|refine qab ?_ _|refine qac ?_|refine qaa ?_ _));exact BK101.out)⟩;have n1_:qah (w15.heap[gb102]? = some (.cells #[.int .i64 0,.int .i64 0,.int .i64 0,.int .i64 0,.int .i64 0,.slice none 0 0,.slice none 0 0] 52 (0,0))):=⟨by rw [← hq_];exact (by (with_reducible repeat (first|refine qab ?_ _|refine qac ?_|refine qaa ?_ _));exact BK102.out)⟩;have n2_:qah (w15.heap[gb103]? = some (.cells #[.int .i64 4,.int .i64 5,.int .i64 6,.int .i64 8,.int .i64 10,.int .i64 12,.int .i64 20,.int .i64 24] 123 (0,0))):=⟨by rw [← hq_];exact (by (with_reducible repeat (first|refine qab ?_ _|refine qac ?_|refine qaa ?_ _));exact BK103.out)⟩;have n3_:qah (Below w.heap.size w w15):=⟨by rw [← hq_];exact (by repeat (first|(with_reducible first|exact HB.out|apply qai|apply qag|apply qaj|refine qaf ?_ GE101.out|refine qaf ?_ GE102.out|refine qaf ?_ GE103.out)|exact HB.out))⟩;clear BK101 BK102 BK103 HB hq_;have BK101:=n0_;have BK102:=n1_;have BK103:=n2_;have HB:=n3_;clear n0_ n1_ n2_ n3_)))|((with_reducible refine qaM (N:=11) rfl ?_);refine qaL ?hg (N:=11) ?hd (cs:=#[.int .i64 0,.int .i64 0,.int .i64 0,.int .i64 0,.int .i64 0,.slice none 0 0,.slice none 0 0]) (t:=52) ?hr ?_;(case hd=>rfl);(case hg=>rfl);(case hr=>first|(go_simp;done)|(go_simp;rfl));intro gb108 hg w21 hbox hb;have n0_:=qah.mk (qap (g:=gb101) (o:=.cells #[.int .i64 a0_0,.int .i64 a0_1,.int .i64 a0_2,.int .i64 a0_3,.int .i64 a0_4,.slice A0_5 l0_5.length c0_5] 59 (0,0)) (by (with_reducible repeat (first|refine qab ?_ _|refine qac ?_|refine qaa ?_ _));exact BK101.out) hb);have n1_:=qah.mk (qap (g:=gb102) (o:=.cells #[.int .i64 0,.int .i64 0,.int .i64 0,.int .i64 0,.int .i64 0,.slice none 0 0,.slice none 0 0] 52 (0,0)) (by (with_reducible repeat (first|refine qab ?_ _|refine qac ?_|refine qaa ?_ _));exact BK102.out) hb);have n2_:=qah.mk (qap (g:=gb103) (o:=.cells #[.int .i64 4,.int .i64 5,.int .i64 6,.int .i64 8,.int .i64 10,.int .i64 12,.int .i64 20,.int .i64 24] 123 (0,0)) (by (with_reducible repeat (first|refine qab ?_ _|refine qac ?_|refine qaa ?_ _));exact BK103.out) hb);have n3_:=qah.mk (qat (by repeat (first|(with_reducible first|exact HB.out|apply qai|apply qag|apply qaj|refine qaf ?_ GE101.out|refine qaf ?_ GE102.out|refine qaf ?_ GE103.out)|exact HB.out)) hb);have n4_:=qah.mk (hbox);have n5_:=qah.mk ((by rw [hg];exact (qam (by repeat (first|(with_reducible first|exact HB.out|apply qai|apply qag|apply qaj|refine qaf ?_ GE101.out|refine qaf ?_ GE102.out|refine qaf ?_ GE103.out)|exact HB.out))):w.heap.size≤gb108));have n6_:=qah.mk ((by rw [hg];exact (qam (by repeat (first|(with_reducible first|exact HB.out|apply qai|apply qag|apply qaj|refine qaf ?_ GE101.out|refine qaf ?_ GE102.out|refine qaf ?_ GE103.out)|exact HB.out))):w.heap.size≤gb108));have n7_:=qah.mk ((by rw [hg];exact Nat.ne_of_lt (qaw (g:=gb101) (o:=.cells #[.int .i64 a0_0,.int .i64 a0_1,.int .i64 a0_2,.int .i64 a0_3,.int .i64 a0_4,.slice A0_5 l0_5.length c0_5] 59 (0,0)) (by (with_reducible repeat (first|refine qab ?_ _|refine qac ?_|refine qaa ?_ _));exact BK101.out)):gb101≠gb108));have n8_:=qah.mk ((by rw [hg];exact Nat.ne_of_gt (qaw (g:=gb101) (o:=.cells #[.int .i64 a0_0,.int .i64 a0_1,.int .i64 a0_2,.int .i64 a0_3,.int .i64 a0_4,.slice A0_5 l0_5.length c0_5] 59 (0,0)) (by (with_reducible repeat (first|refine qab ?_ _|refine qac ?_|refine qaa ?_ _));exact BK101.out)):gb108≠gb101));have n9_:=qah.mk ((by rw [hg];exact Nat.ne_of_lt (qaw (g:=gb102) (o:=.cells #[.int .i64 0,.int .i64 0,.int .i64 0,.int .i64 0,.int .i64 0,.slice none 0 0,.slice none 0 0] 52 (0,0)) (by (with_reducible repeat (first|refine qab ?_ _|refine qac ?_|refine qaa ?_ _));exact BK102.out)):gb102≠gb108));have n10_:=qah.mk ((by rw [hg];exact Nat.ne_of_gt (qaw (g:=gb102) (o:=.cells #[.int .i64 0,.int .i64 0,.int .i64 0,.int .i64 0,.int .i64 0,.slice none 0 0,.slice none 0 0] 52 (0,0)) (by (with_reducible repeat (first|refine qab ?_ _|refine qac ?_|refine qaa ?_ _));exact BK102.out)):gb108≠gb102));have n11_:=qah.mk ((by rw [hg];exact Nat.ne_of_lt (qaw (g:=gb103) (o:=.cells #[.int .i64 4,.int .i64 5,.int .i64 6,.int .i64 8,.int .i64 10,.int .i64 12,.int .i64 20,.int .i64 24] 123 (0,0)) (by (with_reducible repeat (first|refine qab ?_ _|refine qac ?_|refine qaa ?_ _));exact BK103.out)):gb103≠gb108));have n12_:=qah.mk ((by rw [hg];exact Nat.ne_of_gt (qaw (g:=gb103) (o:=.cells #[.int .i64 4,.int .i64 5,.int .i64 6,.int .i64 8,.int .i64 10,.int .i64 12,.int .i64 20,.int .i64 24] 123 (0,0)) (by (with_reducible repeat (first|refine qab ?_ _|refine qac ?_|refine qaa ?_ _));exact BK103.out)):gb108≠gb103));clear BK101;clear BK102;clear BK103;clear HB;have BK101:=n0_;have BK102:=n1_;have BK103:=n2_;have HB:=n3_;have BK108:=n4_;have GW108:=n5_;have GE108:=n6_;have NB101_108:=n7_;have NB108_101:=n8_;have NB102_108:=n9_;have NB108_102:=n10_;have NB103_108:=n11_;have NB108_103:=n12_;clear n0_ n1_ n2_ n3_ n4_ n5_ n6_ n7_ n8_ n9_ n10_ n11_ n12_;clear hb hbox hg;have hnb22:=NB108_101.out;have hnc22:=NB101_108.out;have hnb23:=NB108_102.out;have hnc23:=NB102_108.out;have hnb24:=NB108_103.out;have hnc24:=NB103_108.out;have hcz25_0:w21.cell? ⟨gb108,0,none⟩=some (.int .i64 0):=(qad BK108.out 0).trans rfl;have hcz25_1:w21.cell? ⟨gb108,1,none⟩=some (.int .i64 0):=(qad BK108.out 1).trans rfl;have hcz25_2:w21.cell? ⟨gb108,2,none⟩=some (.int .i64 0):=(qad BK108.out 2).trans rfl;have hcz25_3:w21.cell? ⟨gb108,3,none⟩=some (.int .i64 0):=(qad BK108.out 3).trans rfl;have hcz25_4:w21.cell? ⟨gb108,4,none⟩=some (.int .i64 0):=(qad BK108.out 4).trans rfl;have hcz25_5:w21.cell? ⟨gb108,5,none⟩=some (.slice none 0 0):=(qad BK108.out 5).trans rfl;have hcz25_6:w21.cell? ⟨gb108,6,none⟩=some (.slice none 0 0):=(qad BK108.out 6).trans rfl;have hfz25_0:=qae BK108.out 0;have hfz25_1:=qae BK108.out 1;have hfz25_2:=qae BK108.out 2;have hfz25_3:=qae BK108.out 3;have hfz25_4:=qae BK108.out 4;have hfz25_5:=qae BK108.out 5;have hfz25_6:=qae BK108.out 6))
   go_loopg [12,13] k (fun kq v12 v13 w'=>∃ (x12_1:Int) (x13_1:Int) (x109005_1:List Int) (u109005:Value),v12=.int .i64 x12_1∧v13=.int .i64 x13_1∧qah (ostinatoref05_Num_task.l0 kq a2 (wrap64 (1+t106)) x12_1 x13_1 a0_0 a0_1 a0_2 a0_3 a0_4 l0_5 (wrap64 (a1+1)) (wrap64 (1+t106)) (wrap64 (1+t105)) (rd [4,5,6,8,10,12,20,24] (Go.bits .and .i64 a0_2 7)) (wrap64 ((wrap64 (10 * (wrap64 (1+t107))))+a1)) x109005_1=some (r1,r2,r3,r4,r5,r6,r7))∧qah (kq≤k)∧qah (Kd.R (Kd.int .i64) 2 w' w.heap.size (fun _=>True) u109005 x109005_1)∧qah (w'.heap[gb101]? = some (.cells #[.int .i64 a0_0,.int .i64 a0_1,.int .i64 a0_2,.int .i64 a0_3,.int .i64 a0_4,(.slice A0_5 l0_5.length c0_5)] 59 (0,0)))∧qah (w'.heap[gb102]? = some (.cells #[.int .i64 0,.int .i64 0,.int .i64 0,.int .i64 0,.int .i64 0,(.slice none 0 0),(.slice none 0 0)] 52 (0,0)))∧qah (w'.heap[gb103]? = some (.cells #[.int .i64 4,.int .i64 5,.int .i64 6,.int .i64 8,.int .i64 10,.int .i64 12,.int .i64 20,.int .i64 24] 123 (0,0)))∧qah (w'.heap[gb108]? = some (.cells #[.int .i64 (wrap64 (a1+1)),.int .i64 (wrap64 (1+t106)),.int .i64 (wrap64 (1+t105)),.int .i64 (rd [4,5,6,8,10,12,20,24] (Go.bits .and .i64 a0_2 7)),.int .i64 (wrap64 ((wrap64 (10 * (wrap64 (1+t107))))+a1)),u109005,(.slice none 0 0)] 52 (0,0)))∧qah (Below w.heap.size w w'))
   case atStart=>exact⟨(0),(1),(([]:List Int)),(.slice none 0 0),(by first|rfl|(simp;done)|(simp [*];done)),(by first|rfl|(simp;done)|(simp [*];done)),H',⟨Nat.le_refl _⟩,⟨by first|exact Kd.R_nil _ _ _ _ _|exact Kd.N_nil _ _ _ _ _|exact Kd.V_nil _ _ _ _ _|exact Kd.Q_nil _ _ _ _ _|exact Kd.S_nil _ _ _ _ _⟩,⟨by (with_reducible repeat (first|refine qab ?_ _|refine qac ?_|refine qaa ?_ _));refine qan ?_ NB101_108.out _;(with_reducible repeat (first|refine qab ?_ _|refine qac ?_|refine qaa ?_ _));refine qan ?_ NB101_108.out _;(with_reducible repeat (first|refine qab ?_ _|refine qac ?_|refine qaa ?_ _));refine qan ?_ NB101_108.out _;(with_reducible repeat (first|refine qab ?_ _|refine qac ?_|refine qaa ?_ _));refine qan ?_ NB101_108.out _;(with_reducible repeat (first|refine qab ?_ _|refine qac ?_|refine qaa ?_ _));refine qan ?_ NB101_108.out _;(with_reducible repeat (first|refine qab ?_ _|refine qac ?_|refine qaa ?_ _));refine qan ?_ NB101_108.out _;(with_reducible repeat (first|refine qab ?_ _|refine qac ?_|refine qaa ?_ _));refine qan ?_ NB101_108.out _;(with_reducible repeat (first|refine qab ?_ _|refine qac ?_|refine qaa ?_ _));exact BK101.out⟩,⟨by (with_reducible repeat (first|refine qab ?_ _|refine qac ?_|refine qaa ?_ _));refine qan ?_ NB102_108.out _;(with_reducible repeat (first|refine qab ?_ _|refine qac ?_|refine qaa ?_ _));refine qan ?_ NB102_108.out _;(with_reducible repeat (first|refine qab ?_ _|refine qac ?_|refine qaa ?_ _));refine qan ?_ NB102_108.out _;(with_reducible repeat (first|refine qab ?_ _|refine qac ?_|refine qaa ?_ _));refine qan ?_ NB102_108.out _;(with_reducible repeat (first|refine qab ?_ _|refine qac ?_|refine qaa ?_ _));refine qan ?_ NB102_108.out _;(with_reducible repeat (first|refine qab ?_ _|refine qac ?_|refine qaa ?_ _));refine qan ?_ NB102_108.out _;(with_reducible repeat (first|refine qab ?_ _|refine qac ?_|refine qaa ?_ _));refine qan ?_ NB102_108.out _;(with_reducible repeat (first|refine qab ?_ _|refine qac ?_|refine qaa ?_ _));exact BK102.out⟩,⟨by (with_reducible repeat (first|refine qab ?_ _|refine qac ?_|refine qaa ?_ _));refine qan ?_ NB103_108.out _;(with_reducible repeat (first|refine qab ?_ _|refine qac ?_|refine qaa ?_ _));refine qan ?_ NB103_108.out _;(with_reducible repeat (first|refine qab ?_ _|refine qac ?_|refine qaa ?_ _));refine qan ?_ NB103_108.out _;(with_reducible repeat (first|refine qab ?_ _|refine qac ?_|refine qaa ?_ _));refine qan ?_ NB103_108.out _;(with_reducible repeat (first|refine qab ?_ _|refine qac ?_|refine qaa ?_ _));refine qan ?_ NB103_108.out _;(with_reducible repeat (first|refine qab ?_ _|refine qac ?_|refine qaa ?_ _));refine qan ?_ NB103_108.out _;(with_reducible repeat (first|refine qab ?_ _|refine qac ?_|refine qaa ?_ _));refine qan ?_ NB103_108.out _;(with_reducible repeat (first|refine qab ?_ _|refine qac ?_|refine qaa ?_ _));exact BK103.out⟩,⟨by (with_reducible repeat (first|refine qab ?_ _|refine qac ?_|refine qaa ?_ _));refine qao (cs:=#[.int .i64 (wrap64 (a1+1)),.int .i64 (wrap64 (1+t106)),.int .i64 (wrap64 (1+t105)),.int .i64 (rd [4,5,6,8,10,12,20,24] (Go.bits .and .i64 a0_2 7)),.int .i64 (wrap64 ((wrap64 (10 * (wrap64 (1+t107))))+a1)),.slice none 0 0,.slice none 0 0]) ?_ 6 _ rfl;(with_reducible repeat (first|refine qab ?_ _|refine qac ?_|refine qaa ?_ _));refine qao (cs:=#[.int .i64 (wrap64 (a1+1)),.int .i64 (wrap64 (1+t106)),.int .i64 (wrap64 (1+t105)),.int .i64 (rd [4,5,6,8,10,12,20,24] (Go.bits .and .i64 a0_2 7)),.int .i64 (wrap64 ((wrap64 (10 * (wrap64 (1+t107))))+a1)),.slice none 0 0,.slice none 0 0]) ?_ 5 _ rfl;(with_reducible repeat (first|refine qab ?_ _|refine qac ?_|refine qaa ?_ _));refine qao (cs:=#[.int .i64 (wrap64 (a1+1)),.int .i64 (wrap64 (1+t106)),.int .i64 (wrap64 (1+t105)),.int .i64 (rd [4,5,6,8,10,12,20,24] (Go.bits .and .i64 a0_2 7)),.int .i64 0,.slice none 0 0,.slice none 0 0]) ?_ 4 _ rfl;(with_reducible repeat (first|refine qab ?_ _|refine qac ?_|refine qaa ?_ _));refine qao (cs:=#[.int .i64 (wrap64 (a1+1)),.int .i64 (wrap64 (1+t106)),.int .i64 (wrap64 (1+t105)),.int .i64 0,.int .i64 0,.slice none 0 0,.slice none 0 0]) ?_ 3 _ rfl;(with_reducible repeat (first|refine qab ?_ _|refine qac ?_|refine qaa ?_ _));refine qao (cs:=#[.int .i64 (wrap64 (a1+1)),.int .i64 (wrap64 (1+t106)),.int .i64 0,.int .i64 0,.int .i64 0,.slice none 0 0,.slice none 0 0]) ?_ 2 _ rfl;(with_reducible repeat (first|refine qab ?_ _|refine qac ?_|refine qaa ?_ _));refine qao (cs:=#[.int .i64 (wrap64 (a1+1)),.int .i64 0,.int .i64 0,.int .i64 0,.int .i64 0,.slice none 0 0,.slice none 0 0]) ?_ 1 _ rfl;(with_reducible repeat (first|refine qab ?_ _|refine qac ?_|refine qaa ?_ _));refine qao (cs:=#[.int .i64 0,.int .i64 0,.int .i64 0,.int .i64 0,.int .i64 0,.slice none 0 0,.slice none 0 0]) ?_ 0 _ rfl;(with_reducible repeat (first|refine qab ?_ _|refine qac ?_|refine qaa ?_ _));exact BK108.out⟩,⟨by repeat (first|(with_reducible first|exact HB.out|apply qai|apply qag|apply qaj|refine qaf ?_ GE101.out|refine qaf ?_ GE102.out|refine qaf ?_ GE103.out|refine qaf ?_ GE108.out)|exact HB.out)⟩⟩
   case round=>
    clear H'
    try clear c1
    try clear p1
    try clear q1
    try clear hx1
    try clear c2
    try clear p2
    try clear c3
    try clear c4
    try clear c4b0
    try clear c5
    try clear c5b0
    try clear p6
    try clear p10
    try clear q10
    try clear hx10
    try clear c12
    try clear c13
    try clear c16
    try clear c22
    try clear c23
    try clear c24
    try clear hcz14_0
    try clear hcz14_1
    try clear hcz14_2
    try clear hcz14_3
    try clear hcz14_4
    try clear hcz14_5
    try clear hcz14_6
    try clear hcz14_7
    try clear hcz17_0
    try clear hcz17_1
    try clear hcz17_2
    try clear hcz17_3
    try clear hcz17_4
    try clear hcz17_5
    try clear hcz18_0
    try clear hcz18_1
    try clear hcz18_2
    try clear hcz18_3
    try clear hcz18_4
    try clear hcz18_5
    try clear hcz18_6
    try clear hcz18_7
    try clear hcz19_0
    try clear hcz19_1
    try clear hcz19_2
    try clear hcz19_3
    try clear hcz19_4
    try clear hcz19_5
    try clear hcz20_0
    try clear hcz20_1
    try clear hcz20_2
    try clear hcz20_3
    try clear hcz20_4
    try clear hcz20_5
    try clear hcz25_0
    try clear hcz25_1
    try clear hcz25_2
    try clear hcz25_3
    try clear hcz25_4
    try clear hcz25_5
    try clear hcz25_6
    try clear hfz14_0
    try clear hfz14_1
    try clear hfz14_2
    try clear hfz14_3
    try clear hfz14_4
    try clear hfz14_5
    try clear hfz14_6
    try clear hfz14_7
    try clear hfz17_0
    try clear hfz17_1
    try clear hfz17_2
    try clear hfz17_3
    try clear hfz17_4
    try clear hfz17_5
    try clear hfz18_0
    try clear hfz18_1
    try clear hfz18_2
    try clear hfz18_3
    try clear hfz18_4
    try clear hfz18_5
    try clear hfz18_6
    try clear hfz18_7
    try clear hfz19_0
    try clear hfz19_1
    try clear hfz19_2
    try clear hfz19_3
    try clear hfz19_4
    try clear hfz19_5
    try clear hfz20_0
    try clear hfz20_1
    try clear hfz20_2
    try clear hfz20_3
    try clear hfz20_4
    try clear hfz20_5
    try clear hfz25_0
    try clear hfz25_1
    try clear hfz25_2
    try clear hfz25_3
    try clear hfz25_4
    try clear hfz25_5
    try clear hfz25_6
    try clear p104
    try clear q104
    obtain⟨x12_1,x13_1,x109005_1,u109005,rfl,rfl,HA,HK1,HO_109005,BK101,BK102,BK103,BK108,HB⟩:=hrel
    cases gk with
    |zero=>exact absurd HA.out (by simp [ostinatoref05_Num_task.l0])
    |succ k1=>
     have H:=HA.out
     clear HA
     simp only [ostinatoref05_Num_task.l0] at H
     by_cases c26:x13_1<(wrap64 (1+t106))
     ·rw [if_pos c26] at H
      have c26b0:decide (x13_1<(wrap64 (1+t106)))=true:=decide_eq_true c26
      clear c26
      obtain⟨ji27,hji27⟩:∃ j_:Int,(IntKind.u64.wrap (x13_1))=j_:=⟨_,rfl⟩
      replace H:(if 0≤(ji27) then (if (Go.bits .and .i64 (shr .i64 a0_4 (ji27)) 1)=1 then (if x109005_1.length<17592186044416 then (ostinatoref05_Num_task.l0 k1 a2 (wrap64 (1+t106)) x13_1 (wrap64 (x13_1+1)) a0_0 a0_1 a0_2 a0_3 a0_4 l0_5 (wrap64 (a1+1)) (wrap64 (1+t106)) (wrap64 (1+t105)) (rd [4,5,6,8,10,12,20,24] (Go.bits .and .i64 a0_2 7)) (wrap64 ((wrap64 (10 * (wrap64 (1+t107))))+a1)) (x109005_1++[wrap64 (x13_1 - x12_1)])) else (none)) else (ostinatoref05_Num_task.l0 k1 a2 (wrap64 (1+t106)) x12_1 (wrap64 (x13_1+1)) a0_0 a0_1 a0_2 a0_3 a0_4 l0_5 (wrap64 (a1+1)) (wrap64 (1+t106)) (wrap64 (1+t105)) (rd [4,5,6,8,10,12,20,24] (Go.bits .and .i64 a0_2 7)) (wrap64 ((wrap64 (10 * (wrap64 (1+t107))))+a1)) x109005_1)) else (none))=some (r1,r2,r3,r4,r5,r6,r7):=by first|(rw [hji27] at H;exact H)|(simp only [hji27] at H ⊢;exact H)
      by_cases c28:0≤(ji27)
      ·rw [if_pos c28] at H
       have c28b0:=eq_true c28
       have c28b1:decide (0≤(ji27))=true:=decide_eq_true c28
       clear c28
       obtain⟨ji29,hji29⟩:∃ j_:Int,(shr .i64 a0_4 (ji27))=j_:=⟨_,rfl⟩
       replace H:(if (Go.bits .and .i64 (ji29) 1)=1 then (if x109005_1.length<17592186044416 then (ostinatoref05_Num_task.l0 k1 a2 (wrap64 (1+t106)) x13_1 (wrap64 (x13_1+1)) a0_0 a0_1 a0_2 a0_3 a0_4 l0_5 (wrap64 (a1+1)) (wrap64 (1+t106)) (wrap64 (1+t105)) (rd [4,5,6,8,10,12,20,24] (Go.bits .and .i64 a0_2 7)) (wrap64 ((wrap64 (10 * (wrap64 (1+t107))))+a1)) (x109005_1++[wrap64 (x13_1 - x12_1)])) else (none)) else (ostinatoref05_Num_task.l0 k1 a2 (wrap64 (1+t106)) x12_1 (wrap64 (x13_1+1)) a0_0 a0_1 a0_2 a0_3 a0_4 l0_5 (wrap64 (a1+1)) (wrap64 (1+t106)) (wrap64 (1+t105)) (rd [4,5,6,8,10,12,20,24] (Go.bits .and .i64 a0_2 7)) (wrap64 ((wrap64 (10 * (wrap64 (1+t107))))+a1)) x109005_1))=some (r1,r2,r3,r4,r5,r6,r7):=by first|(rw [hji29] at H;exact H)|(simp only [hji29] at H ⊢;exact H)
       have hji29_:(a0_4 / 2 ^ min (ji27).toNat 64)=ji29:=hji29
       have hji29z:(ji27)≤64→(a0_4 / 2 ^ (ji27).toNat)=ji29:=shr_small hji29
       by_cases c30:(Go.bits .and .i64 (ji29) 1)=1
       ·rw [if_pos c30] at H
        have c30b0:((Go.bits .and .i64 (ji29) 1) == 1)=true:=beq_iff_eq.mpr c30
        have c30b1:((Go.bits .and .i64 (ji29) 1) != 1)=false:=bne_eq_false_iff_eq.mpr c30
        clear c30
        by_cases c31:x109005_1.length<17592186044416
        ·rw [if_pos c31] at H
         have LMc31:=qah.mk c31
         clear c31
         obtain⟨y109,hy109⟩:∃ y_:List Int,y_=(x109005_1++[wrap64 (x13_1 - x12_1)]):=⟨_,rfl⟩
         replace H:(ostinatoref05_Num_task.l0 k1 a2 (wrap64 (1+t106)) x13_1 (wrap64 (x13_1+1)) a0_0 a0_1 a0_2 a0_3 a0_4 l0_5 (wrap64 (a1+1)) (wrap64 (1+t106)) (wrap64 (1+t105)) (rd [4,5,6,8,10,12,20,24] (Go.bits .and .i64 a0_2 7)) (wrap64 ((wrap64 (10 * (wrap64 (1+t107))))+a1)) y109)=some (r1,r2,r3,r4,r5,r6,r7):=by first|(rw [hy109];with_reducible exact H)|(have H2_:=(Option.bind_some _ _).symm.trans H;rw [hy109];with_reducible exact H2_)|(have H2_:=(Option.bind_some _ _).symm.trans H;with_reducible exact H2_)|with_reducible exact H|(rw [hy109];exact H)|exact H
         have Ny109:=qah.mk hy109
         clear hy109
         have H':=qah.mk H
         clear H
         have hnb32:=NB101_102.out
         have hnc32:=NB102_101.out
         have hnb33:=NB101_103.out
         have hnc33:=NB103_101.out
         have hnb34:=NB101_108.out
         have hnc34:=NB108_101.out
         have hcz35_0:wr.cell? ⟨gb101,0,none⟩=some (.int .i64 a0_0):=(qad BK101.out 0).trans rfl
         have hcz35_1:wr.cell? ⟨gb101,1,none⟩=some (.int .i64 a0_1):=(qad BK101.out 1).trans rfl
         have hcz35_2:wr.cell? ⟨gb101,2,none⟩=some (.int .i64 a0_2):=(qad BK101.out 2).trans rfl
         have hcz35_3:wr.cell? ⟨gb101,3,none⟩=some (.int .i64 a0_3):=(qad BK101.out 3).trans rfl
         have hcz35_4:wr.cell? ⟨gb101,4,none⟩=some (.int .i64 a0_4):=(qad BK101.out 4).trans rfl
         have hcz35_5:wr.cell? ⟨gb101,5,none⟩=some (.slice A0_5 l0_5.length c0_5):=(qad BK101.out 5).trans rfl
         have hfz35_0:=qae BK101.out 0
         have hfz35_1:=qae BK101.out 1
         have hfz35_2:=qae BK101.out 2
         have hfz35_3:=qae BK101.out 3
         have hfz35_4:=qae BK101.out 4
         have hfz35_5:=qae BK101.out 5
         have hnb36:=NB108_102.out
         have hnc36:=NB102_108.out
         have hnb37:=NB108_103.out
         have hnc37:=NB103_108.out
         have hcz38_0:wr.cell? ⟨gb108,0,none⟩=some (.int .i64 (wrap64 (a1+1))):=(qad BK108.out 0).trans rfl
         have hcz38_1:wr.cell? ⟨gb108,1,none⟩=some (.int .i64 (wrap64 (1+t106))):=(qad BK108.out 1).trans rfl
         have hcz38_2:wr.cell? ⟨gb108,2,none⟩=some (.int .i64 (wrap64 (1+t105))):=(qad BK108.out 2).trans rfl
         have hcz38_3:wr.cell? ⟨gb108,3,none⟩=some (.int .i64 (rd [4,5,6,8,10,12,20,24] (Go.bits .and .i64 a0_2 7))):=(qad BK108.out 3).trans rfl
         have hcz38_4:wr.cell? ⟨gb108,4,none⟩=some (.int .i64 (wrap64 ((wrap64 (10 * (wrap64 (1+t107))))+a1))):=(qad BK108.out 4).trans rfl
         have hcz38_5:wr.cell? ⟨gb108,5,none⟩=some (u109005):=(qad BK108.out 5).trans rfl
         have hcz38_6:wr.cell? ⟨gb108,6,none⟩=some (.slice none 0 0):=(qad BK108.out 6).trans rfl
         have hfz38_0:=qae BK108.out 0
         have hfz38_1:=qae BK108.out 1
         have hfz38_2:=qae BK108.out 2
         have hfz38_3:=qae BK108.out 3
         have hfz38_4:=qae BK108.out 4
         have hfz38_5:=qae BK108.out 5
         have hfz38_6:=qae BK108.out 6
         go_wp2_with (first|((with_reducible refine gate_builtin (b:=.append) (xs:=#[.tmp 57,.tmp 61]) rfl ?_);at_builtin;refine Kd.R_append (Kd.int .i64) (w0:=w) w.heap.size rfl (.tmp 57) (.tmp 61) 49 2 (.int .i64 0) 8 rfl Tryd.underlying49 info2 rfl (by decide) (by omega) u109005 x109005_1 (wrap64 (x13_1 - x12_1)) [.int .i64 (wrap64 (x13_1 - x12_1))] (fun _=>True) (fun _=>False) rfl rfl ?aP (fun _ hk=>hk.elim) ?aF ?aO ?aB ?aS ?aL ?_;(case aP=>exact rfl);(case aB=>exact (by repeat (first|(with_reducible first|exact HB.out|apply qai|apply qag|apply qaj|refine qaf ?_ GE101.out|refine qaf ?_ GE102.out|refine qaf ?_ GE103.out|refine qaf ?_ GE108.out)|exact HB.out)));(case aF=>exact (fun _ _=>trivial));(case aO=>exact (by (with_reducible repeat (first|apply Kd.R_alloc|apply Kd.R_drewN|apply Kd.R_drew));exact HO_109005.out));(case aS=>exact (qam (by repeat (first|(with_reducible first|exact HB.out|apply qai|apply qag|apply qaj|refine qaf ?_ GE101.out|refine qaf ?_ GE102.out|refine qaf ?_ GE103.out|refine qaf ?_ GE108.out)|exact HB.out))));(case aL=>have:=LMc31.out;omega);intro v110 w39 ho hb hg hat;rw [← Ny109.out] at ho;have n0_:=qah.mk (qaB (g:=gb101) (o:=.cells #[.int .i64 a0_0,.int .i64 a0_1,.int .i64 a0_2,.int .i64 a0_3,.int .i64 a0_4,.slice A0_5 l0_5.length c0_5] 59 (0,0)) (by (with_reducible repeat (first|refine qab ?_ _|refine qac ?_|refine qaa ?_ _));exact BK101.out) hg (Kd.R_ne HO_109005.out BK101.out (by decide)));have n1_:=qah.mk (qaB (g:=gb102) (o:=.cells #[.int .i64 0,.int .i64 0,.int .i64 0,.int .i64 0,.int .i64 0,.slice none 0 0,.slice none 0 0] 52 (0,0)) (by (with_reducible repeat (first|refine qab ?_ _|refine qac ?_|refine qaa ?_ _));exact BK102.out) hg (Kd.R_ne HO_109005.out BK102.out (by decide)));have n2_:=qah.mk (qaB (g:=gb103) (o:=.cells #[.int .i64 4,.int .i64 5,.int .i64 6,.int .i64 8,.int .i64 10,.int .i64 12,.int .i64 20,.int .i64 24] 123 (0,0)) (by (with_reducible repeat (first|refine qab ?_ _|refine qac ?_|refine qaa ?_ _));exact BK103.out) hg (Kd.R_ne HO_109005.out BK103.out (by decide)));have n3_:=qah.mk (qaB (g:=gb108) (o:=.cells #[.int .i64 (wrap64 (a1+1)),.int .i64 (wrap64 (1+t106)),.int .i64 (wrap64 (1+t105)),.int .i64 (rd [4,5,6,8,10,12,20,24] (Go.bits .and .i64 a0_2 7)),.int .i64 (wrap64 ((wrap64 (10 * (wrap64 (1+t107))))+a1)),u109005,.slice none 0 0] 52 (0,0)) (by (with_reducible repeat (first|refine qab ?_ _|refine qac ?_|refine qaa ?_ _));exact BK108.out) hg (Kd.R_ne HO_109005.out BK108.out (by decide)));have n4_:=qah.mk (hb);have n5_:=qah.mk (ho);clear BK101;clear BK102;clear BK103;clear BK108;clear HB;clear HO_109005;have BK101:=n0_;have BK102:=n1_;have BK103:=n2_;have BK108:=n3_;have HB:=n4_;have HO111:=n5_;clear n0_ n1_ n2_ n3_ n4_ n5_;clear ho hb hg hat;obtain⟨Ao40,co40,eo40⟩:=Kd.R_slice HO111.out;subst eo40;have hcz41_0:w39.cell? ⟨gb108,0,none⟩=some (.int .i64 (wrap64 (a1+1))):=(qad BK108.out 0).trans rfl;have hcz41_1:w39.cell? ⟨gb108,1,none⟩=some (.int .i64 (wrap64 (1+t106))):=(qad BK108.out 1).trans rfl;have hcz41_2:w39.cell? ⟨gb108,2,none⟩=some (.int .i64 (wrap64 (1+t105))):=(qad BK108.out 2).trans rfl;have hcz41_3:w39.cell? ⟨gb108,3,none⟩=some (.int .i64 (rd [4,5,6,8,10,12,20,24] (Go.bits .and .i64 a0_2 7))):=(qad BK108.out 3).trans rfl;have hcz41_4:w39.cell? ⟨gb108,4,none⟩=some (.int .i64 (wrap64 ((wrap64 (10 * (wrap64 (1+t107))))+a1))):=(qad BK108.out 4).trans rfl;have hcz41_5:w39.cell? ⟨gb108,5,none⟩=some (u109005):=(qad BK108.out 5).trans rfl;have hcz41_6:w39.cell? ⟨gb108,6,none⟩=some (.slice none 0 0):=(qad BK108.out 6).trans rfl;have hfz41_0:=qae BK108.out 0;have hfz41_1:=qae BK108.out 1;have hfz41_2:=qae BK108.out 2;have hfz41_3:=qae BK108.out 3;have hfz41_4:=qae BK108.out 4;have hfz41_5:=qae BK108.out 5;have hfz41_6:=qae BK108.out 6))
         go_roundg k1
         case measure=>have:=HK1.out;omega
         case rel=>exact⟨(x13_1),(wrap64 (x13_1+1)),(y109),(.slice Ao40 y109.length co40),(by first|rfl|(simp;done)|(simp [*];done)),(by first|rfl|(simp;done)|(simp [*];done)),H',⟨by have:=HK1.out;omega⟩,⟨by (with_reducible repeat (first|apply Kd.R_alloc|apply Kd.R_drewN|apply Kd.R_drew));exact Kd.R_mono (Kd.R_far (p:=⟨gb108,5,none⟩) (Kd.R_types HO111.out BK108.out (by decide)) (fun _ hk=>hk.2) (.slice Ao40 y109.length co40)) (fun _ hk=>trivial)⟩,⟨by (with_reducible repeat (first|refine qab ?_ _|refine qac ?_|refine qaa ?_ _));refine qan ?_ NB101_108.out _;(with_reducible repeat (first|refine qab ?_ _|refine qac ?_|refine qaa ?_ _));exact BK101.out⟩,⟨by (with_reducible repeat (first|refine qab ?_ _|refine qac ?_|refine qaa ?_ _));refine qan ?_ NB102_108.out _;(with_reducible repeat (first|refine qab ?_ _|refine qac ?_|refine qaa ?_ _));exact BK102.out⟩,⟨by (with_reducible repeat (first|refine qab ?_ _|refine qac ?_|refine qaa ?_ _));refine qan ?_ NB103_108.out _;(with_reducible repeat (first|refine qab ?_ _|refine qac ?_|refine qaa ?_ _));exact BK103.out⟩,⟨by (with_reducible repeat (first|refine qab ?_ _|refine qac ?_|refine qaa ?_ _));refine qao (cs:=#[.int .i64 (wrap64 (a1+1)),.int .i64 (wrap64 (1+t106)),.int .i64 (wrap64 (1+t105)),.int .i64 (rd [4,5,6,8,10,12,20,24] (Go.bits .and .i64 a0_2 7)),.int .i64 (wrap64 ((wrap64 (10 * (wrap64 (1+t107))))+a1)),u109005,.slice none 0 0]) ?_ 5 _ rfl;(with_reducible repeat (first|refine qab ?_ _|refine qac ?_|refine qaa ?_ _));exact BK108.out⟩,⟨by repeat (first|(with_reducible first|exact HB.out|apply qai|apply qag|apply qaj|refine qaf ?_ GE101.out|refine qaf ?_ GE102.out|refine qaf ?_ GE103.out|refine qaf ?_ GE108.out)|exact HB.out)⟩⟩
        ·rw [if_neg c31] at H
         exact absurd H (by simp)
       ·rw [if_neg c30] at H
        have c30b0:((Go.bits .and .i64 (ji29) 1) == 1)=false:=beq_eq_false_iff_ne.mpr c30
        have c30b1:((Go.bits .and .i64 (ji29) 1) != 1)=true:=bne_iff_ne.mpr c30
        have H':=qah.mk H
        clear H
        have hnb42:=NB101_102.out
        have hnc42:=NB102_101.out
        have hnb43:=NB101_103.out
        have hnc43:=NB103_101.out
        have hnb44:=NB101_108.out
        have hnc44:=NB108_101.out
        have hcz45_0:wr.cell? ⟨gb101,0,none⟩=some (.int .i64 a0_0):=(qad BK101.out 0).trans rfl
        have hcz45_1:wr.cell? ⟨gb101,1,none⟩=some (.int .i64 a0_1):=(qad BK101.out 1).trans rfl
        have hcz45_2:wr.cell? ⟨gb101,2,none⟩=some (.int .i64 a0_2):=(qad BK101.out 2).trans rfl
        have hcz45_3:wr.cell? ⟨gb101,3,none⟩=some (.int .i64 a0_3):=(qad BK101.out 3).trans rfl
        have hcz45_4:wr.cell? ⟨gb101,4,none⟩=some (.int .i64 a0_4):=(qad BK101.out 4).trans rfl
        have hcz45_5:wr.cell? ⟨gb101,5,none⟩=some (.slice A0_5 l0_5.length c0_5):=(qad BK101.out 5).trans rfl
        have hfz45_0:=qae BK101.out 0
        have hfz45_1:=qae BK101.out 1
        have hfz45_2:=qae BK101.out 2
        have hfz45_3:=qae BK101.out 3
        have hfz45_4:=qae BK101.out 4
        have hfz45_5:=qae BK101.out 5
        go_wp2
        go_roundg k1
        case measure=>have:=HK1.out;omega
        case rel=>exact⟨(x12_1),(wrap64 (x13_1+1)),(x109005_1),(u109005),(by first|rfl|(simp;done)|(simp [*];done)),(by first|rfl|(simp;done)|(simp [*];done)),H',⟨by have:=HK1.out;omega⟩,⟨by (with_reducible repeat (first|apply Kd.R_alloc|apply Kd.R_drewN|apply Kd.R_drew));exact HO_109005.out⟩,⟨by (with_reducible repeat (first|refine qab ?_ _|refine qac ?_|refine qaa ?_ _));exact BK101.out⟩,⟨by (with_reducible repeat (first|refine qab ?_ _|refine qac ?_|refine qaa ?_ _));exact BK102.out⟩,⟨by (with_reducible repeat (first|refine qab ?_ _|refine qac ?_|refine qaa ?_ _));exact BK103.out⟩,⟨by (with_reducible repeat (first|refine qab ?_ _|refine qac ?_|refine qaa ?_ _));exact BK108.out⟩,⟨by repeat (first|(with_reducible first|exact HB.out|apply qai|apply qag|apply qaj|refine qaf ?_ GE101.out|refine qaf ?_ GE102.out|refine qaf ?_ GE103.out|refine qaf ?_ GE108.out)|exact HB.out)⟩⟩
      ·rw [if_neg c28] at H
       exact absurd H (by simp)
     ·rw [if_neg c26] at H
      have c26b0:decide (x13_1<(wrap64 (1+t106)))=false:=decide_eq_false c26
      clear c26
      have HC46:=qah.mk H
      clear H
      go_upto_if 66 with (fail)
      go_cut [] (fun wc=>∃ (kq:Nat) (x109005_45:List Int) (u109005:Value),qah (ostinatoref05_Num_task.j1 kq a2 a0_0 a0_1 a0_2 a0_3 a0_4 l0_5 (wrap64 (a1+1)) (wrap64 (1+t106)) (wrap64 (1+t105)) (rd [4,5,6,8,10,12,20,24] (Go.bits .and .i64 a0_2 7)) (wrap64 ((wrap64 (10 * (wrap64 (1+t107))))+a1)) x109005_45=some (r1,r2,r3,r4,r5,r6,r7))∧qah (kq≤k1)∧qah (Kd.R (Kd.int .i64) 2 wc w.heap.size (fun _=>True) u109005 x109005_45)∧qah (wc.heap[gb101]? = some (.cells #[.int .i64 a0_0,.int .i64 a0_1,.int .i64 a0_2,.int .i64 a0_3,.int .i64 a0_4,(.slice A0_5 l0_5.length c0_5)] 59 (0,0)))∧qah (wc.heap[gb102]? = some (.cells #[.int .i64 0,.int .i64 0,.int .i64 0,.int .i64 0,.int .i64 0,(.slice none 0 0),(.slice none 0 0)] 52 (0,0)))∧qah (wc.heap[gb103]? = some (.cells #[.int .i64 4,.int .i64 5,.int .i64 6,.int .i64 8,.int .i64 10,.int .i64 12,.int .i64 20,.int .i64 24] 123 (0,0)))∧qah (wc.heap[gb108]? = some (.cells #[.int .i64 (wrap64 (a1+1)),.int .i64 (wrap64 (1+t106)),.int .i64 (wrap64 (1+t105)),.int .i64 (rd [4,5,6,8,10,12,20,24] (Go.bits .and .i64 a0_2 7)),.int .i64 (wrap64 ((wrap64 (10 * (wrap64 (1+t107))))+a1)),u109005,(.slice none 0 0)] 52 (0,0)))∧qah (Below w.heap.size w wc))
      case first=>
       have H:=HC46.out
       clear HC46
       by_cases c47:x12_1 > 0
       ·rw [if_pos c47] at H
        have c47b0:decide (0<x12_1)=true:=decide_eq_true c47
        clear c47
        (first|rw [c47b0]|(simp only [qaC,qaD];rw [c47b0])|skip)
        by_cases c48:x109005_1.length<17592186044416
        ·rw [if_pos c48] at H
         have LMc48:=qah.mk c48
         clear c48
         obtain⟨y112,hy112⟩:∃ y_:List Int,y_=(x109005_1++[wrap64 ((wrap64 (1+t106)) - x12_1)]):=⟨_,rfl⟩
         replace H:(ostinatoref05_Num_task.j1 k1 a2 a0_0 a0_1 a0_2 a0_3 a0_4 l0_5 (wrap64 (a1+1)) (wrap64 (1+t106)) (wrap64 (1+t105)) (rd [4,5,6,8,10,12,20,24] (Go.bits .and .i64 a0_2 7)) (wrap64 ((wrap64 (10 * (wrap64 (1+t107))))+a1)) y112)=some (r1,r2,r3,r4,r5,r6,r7):=by first|(rw [hy112];with_reducible exact H)|(have H2_:=(Option.bind_some _ _).symm.trans H;rw [hy112];with_reducible exact H2_)|(have H2_:=(Option.bind_some _ _).symm.trans H;with_reducible exact H2_)|with_reducible exact H|(rw [hy112];exact H)|exact H
         have Ny112:=qah.mk hy112
         clear hy112
         have H':=qah.mk H
         clear H
         have hnb49:=NB108_101.out
         have hnc49:=NB101_108.out
         have hnb50:=NB108_102.out
         have hnc50:=NB102_108.out
         have hnb51:=NB108_103.out
         have hnc51:=NB103_108.out
         have hcz52_0:wr.cell? ⟨gb108,0,none⟩=some (.int .i64 (wrap64 (a1+1))):=(qad BK108.out 0).trans rfl
         have hcz52_1:wr.cell? ⟨gb108,1,none⟩=some (.int .i64 (wrap64 (1+t106))):=(qad BK108.out 1).trans rfl
         have hcz52_2:wr.cell? ⟨gb108,2,none⟩=some (.int .i64 (wrap64 (1+t105))):=(qad BK108.out 2).trans rfl
         have hcz52_3:wr.cell? ⟨gb108,3,none⟩=some (.int .i64 (rd [4,5,6,8,10,12,20,24] (Go.bits .and .i64 a0_2 7))):=(qad BK108.out 3).trans rfl
         have hcz52_4:wr.cell? ⟨gb108,4,none⟩=some (.int .i64 (wrap64 ((wrap64 (10 * (wrap64 (1+t107))))+a1))):=(qad BK108.out 4).trans rfl
         have hcz52_5:wr.cell? ⟨gb108,5,none⟩=some (u109005):=(qad BK108.out 5).trans rfl
         have hcz52_6:wr.cell? ⟨gb108,6,none⟩=some (.slice none 0 0):=(qad BK108.out 6).trans rfl
         have hfz52_0:=qae BK108.out 0
         have hfz52_1:=qae BK108.out 1
         have hfz52_2:=qae BK108.out 2
         have hfz52_3:=qae BK108.out 3
         have hfz52_4:=qae BK108.out 4
         have hfz52_5:=qae BK108.out 5
         have hfz52_6:=qae BK108.out 6
         go_wp2_with (first|((with_reducible refine gate_builtin (b:=.append) (xs:=#[.tmp 68,.tmp 72]) rfl ?_);at_builtin;refine Kd.R_append (Kd.int .i64) (w0:=w) w.heap.size rfl (.tmp 68) (.tmp 72) 49 2 (.int .i64 0) 8 rfl Tryd.underlying49 info2 rfl (by decide) (by omega) u109005 x109005_1 (wrap64 ((wrap64 (1+t106)) - x12_1)) [.int .i64 (wrap64 ((wrap64 (1+t106)) - x12_1))] (fun _=>True) (fun _=>False) rfl rfl ?aP (fun _ hk=>hk.elim) ?aF ?aO ?aB ?aS ?aL ?_;(case aP=>exact rfl);(case aB=>exact (by repeat (first|(with_reducible first|exact HB.out|apply qai|apply qag|apply qaj|refine qaf ?_ GE101.out|refine qaf ?_ GE102.out|refine qaf ?_ GE103.out|refine qaf ?_ GE108.out)|exact HB.out)));(case aF=>exact (fun _ _=>trivial));(case aO=>exact (by (with_reducible repeat (first|apply Kd.R_alloc|apply Kd.R_drewN|apply Kd.R_drew));exact HO_109005.out));(case aS=>exact (qam (by repeat (first|(with_reducible first|exact HB.out|apply qai|apply qag|apply qaj|refine qaf ?_ GE101.out|refine qaf ?_ GE102.out|refine qaf ?_ GE103.out|refine qaf ?_ GE108.out)|exact HB.out))));(case aL=>have:=LMc48.out;omega);intro v113 w53 ho hb hg hat;rw [← Ny112.out] at ho;have n0_:=qah.mk (qaB (g:=gb101) (o:=.cells #[.int .i64 a0_0,.int .i64 a0_1,.int .i64 a0_2,.int .i64 a0_3,.int .i64 a0_4,.slice A0_5 l0_5.length c0_5] 59 (0,0)) (by (with_reducible repeat (first|refine qab ?_ _|refine qac ?_|refine qaa ?_ _));exact BK101.out) hg (Kd.R_ne HO_109005.out BK101.out (by decide)));have n1_:=qah.mk (qaB (g:=gb102) (o:=.cells #[.int .i64 0,.int .i64 0,.int .i64 0,.int .i64 0,.int .i64 0,.slice none 0 0,.slice none 0 0] 52 (0,0)) (by (with_reducible repeat (first|refine qab ?_ _|refine qac ?_|refine qaa ?_ _));exact BK102.out) hg (Kd.R_ne HO_109005.out BK102.out (by decide)));have n2_:=qah.mk (qaB (g:=gb103) (o:=.cells #[.int .i64 4,.int .i64 5,.int .i64 6,.int .i64 8,.int .i64 10,.int .i64 12,.int .i64 20,.int .i64 24] 123 (0,0)) (by (with_reducible repeat (first|refine qab ?_ _|refine qac ?_|refine qaa ?_ _));exact BK103.out) hg (Kd.R_ne HO_109005.out BK103.out (by decide)));have n3_:=qah.mk (qaB (g:=gb108) (o:=.cells #[.int .i64 (wrap64 (a1+1)),.int .i64 (wrap64 (1+t106)),.int .i64 (wrap64 (1+t105)),.int .i64 (rd [4,5,6,8,10,12,20,24] (Go.bits .and .i64 a0_2 7)),.int .i64 (wrap64 ((wrap64 (10 * (wrap64 (1+t107))))+a1)),u109005,.slice none 0 0] 52 (0,0)) (by (with_reducible repeat (first|refine qab ?_ _|refine qac ?_|refine qaa ?_ _));exact BK108.out) hg (Kd.R_ne HO_109005.out BK108.out (by decide)));have n4_:=qah.mk (hb);have n5_:=qah.mk (ho);clear BK101;clear BK102;clear BK103;clear BK108;clear HB;clear HO_109005;have BK101:=n0_;have BK102:=n1_;have BK103:=n2_;have BK108:=n3_;have HB:=n4_;have HO114:=n5_;clear n0_ n1_ n2_ n3_ n4_ n5_;clear ho hb hg hat;obtain⟨Ao54,co54,eo54⟩:=Kd.R_slice HO114.out;subst eo54;have hcz55_0:w53.cell? ⟨gb108,0,none⟩=some (.int .i64 (wrap64 (a1+1))):=(qad BK108.out 0).trans rfl;have hcz55_1:w53.cell? ⟨gb108,1,none⟩=some (.int .i64 (wrap64 (1+t106))):=(qad BK108.out 1).trans rfl;have hcz55_2:w53.cell? ⟨gb108,2,none⟩=some (.int .i64 (wrap64 (1+t105))):=(qad BK108.out 2).trans rfl;have hcz55_3:w53.cell? ⟨gb108,3,none⟩=some (.int .i64 (rd [4,5,6,8,10,12,20,24] (Go.bits .and .i64 a0_2 7))):=(qad BK108.out 3).trans rfl;have hcz55_4:w53.cell? ⟨gb108,4,none⟩=some (.int .i64 (wrap64 ((wrap64 (10 * (wrap64 (1+t107))))+a1))):=(qad BK108.out 4).trans rfl;have hcz55_5:w53.cell? ⟨gb108,5,none⟩=some (u109005):=(qad BK108.out 5).trans rfl;have hcz55_6:w53.cell? ⟨gb108,6,none⟩=some (.slice none 0 0):=(qad BK108.out 6).trans rfl;have hfz55_0:=qae BK108.out 0;have hfz55_1:=qae BK108.out 1;have hfz55_2:=qae BK108.out 2;have hfz55_3:=qae BK108.out 3;have hfz55_4:=qae BK108.out 4;have hfz55_5:=qae BK108.out 5;have hfz55_6:=qae BK108.out 6))
         go_meet
         case rel=>exact⟨_,(y112),(.slice Ao54 y112.length co54),H',⟨by have:=HK1.out;first|omega|exact Nat.le_refl _⟩,⟨by (with_reducible repeat (first|apply Kd.R_alloc|apply Kd.R_drewN|apply Kd.R_drew));exact Kd.R_mono (Kd.R_far (p:=⟨gb108,5,none⟩) (Kd.R_types HO114.out BK108.out (by decide)) (fun _ hk=>hk.2) (.slice Ao54 y112.length co54)) (fun _ hk=>trivial)⟩,⟨by (with_reducible repeat (first|refine qab ?_ _|refine qac ?_|refine qaa ?_ _));refine qan ?_ NB101_108.out _;(with_reducible repeat (first|refine qab ?_ _|refine qac ?_|refine qaa ?_ _));exact BK101.out⟩,⟨by (with_reducible repeat (first|refine qab ?_ _|refine qac ?_|refine qaa ?_ _));refine qan ?_ NB102_108.out _;(with_reducible repeat (first|refine qab ?_ _|refine qac ?_|refine qaa ?_ _));exact BK102.out⟩,⟨by (with_reducible repeat (first|refine qab ?_ _|refine qac ?_|refine qaa ?_ _));refine qan ?_ NB103_108.out _;(with_reducible repeat (first|refine qab ?_ _|refine qac ?_|refine qaa ?_ _));exact BK103.out⟩,⟨by (with_reducible repeat (first|refine qab ?_ _|refine qac ?_|refine qaa ?_ _));refine qao (cs:=#[.int .i64 (wrap64 (a1+1)),.int .i64 (wrap64 (1+t106)),.int .i64 (wrap64 (1+t105)),.int .i64 (rd [4,5,6,8,10,12,20,24] (Go.bits .and .i64 a0_2 7)),.int .i64 (wrap64 ((wrap64 (10 * (wrap64 (1+t107))))+a1)),u109005,.slice none 0 0]) ?_ 5 _ rfl;(with_reducible repeat (first|refine qab ?_ _|refine qac ?_|refine qaa ?_ _));exact BK108.out⟩,⟨by repeat (first|(with_reducible first|exact HB.out|apply qai|apply qag|apply qaj|refine qaf ?_ GE101.out|refine qaf ?_ GE102.out|refine qaf ?_ GE103.out|refine qaf ?_ GE108.out)|exact HB.out)⟩⟩
        ·rw [if_neg c48] at H
         exact absurd H (by simp)
       ·rw [if_neg c47] at H
        have c47b0:decide (0<x12_1)=false:=decide_eq_false c47
        clear c47
        (first|rw [c47b0]|(simp only [qaC,qaD];rw [c47b0])|skip)
        have H':=qah.mk H
        clear H
        go_wp2
        go_meet
        case rel=>exact⟨_,(x109005_1),(u109005),H',⟨by have:=HK1.out;first|omega|exact Nat.le_refl _⟩,⟨by (with_reducible repeat (first|apply Kd.R_alloc|apply Kd.R_drewN|apply Kd.R_drew));exact HO_109005.out⟩,⟨by (with_reducible repeat (first|refine qab ?_ _|refine qac ?_|refine qaa ?_ _));exact BK101.out⟩,⟨by (with_reducible repeat (first|refine qab ?_ _|refine qac ?_|refine qaa ?_ _));exact BK102.out⟩,⟨by (with_reducible repeat (first|refine qab ?_ _|refine qac ?_|refine qaa ?_ _));exact BK103.out⟩,⟨by (with_reducible repeat (first|refine qab ?_ _|refine qac ?_|refine qaa ?_ _));exact BK108.out⟩,⟨by repeat (first|(with_reducible first|exact HB.out|apply qai|apply qag|apply qaj|refine qaf ?_ GE101.out|refine qaf ?_ GE102.out|refine qaf ?_ GE103.out|refine qaf ?_ GE108.out)|exact HB.out)⟩⟩
      case rest=>
       clear HC46
       try clear c1
       try clear p1
       try clear q1
       try clear hx1
       try clear c2
       try clear p2
       try clear c3
       try clear c4
       try clear c4b0
       try clear c5
       try clear c5b0
       try clear p6
       try clear p10
       try clear q10
       try clear hx10
       try clear c12
       try clear c13
       try clear c16
       try clear c22
       try clear c23
       try clear c24
       try clear c26
       try clear c26b0
       try clear c28
       try clear c28b0
       try clear c28b1
       try clear c30
       try clear c30b0
       try clear c30b1
       try clear c31
       try clear c32
       try clear c33
       try clear c34
       try clear c36
       try clear c37
       try clear c38
       try clear c39
       try clear c42
       try clear c43
       try clear c44
       try clear c47
       try clear c47b0
       try clear c48
       try clear c49
       try clear c50
       try clear c51
       try clear hcz14_0
       try clear hcz14_1
       try clear hcz14_2
       try clear hcz14_3
       try clear hcz14_4
       try clear hcz14_5
       try clear hcz14_6
       try clear hcz14_7
       try clear hcz17_0
       try clear hcz17_1
       try clear hcz17_2
       try clear hcz17_3
       try clear hcz17_4
       try clear hcz17_5
       try clear hcz18_0
       try clear hcz18_1
       try clear hcz18_2
       try clear hcz18_3
       try clear hcz18_4
       try clear hcz18_5
       try clear hcz18_6
       try clear hcz18_7
       try clear hcz19_0
       try clear hcz19_1
       try clear hcz19_2
       try clear hcz19_3
       try clear hcz19_4
       try clear hcz19_5
       try clear hcz20_0
       try clear hcz20_1
       try clear hcz20_2
       try clear hcz20_3
       try clear hcz20_4
       try clear hcz20_5
       try clear hcz25_0
       try clear hcz25_1
       try clear hcz25_2
       try clear hcz25_3
       try clear hcz25_4
       try clear hcz25_5
       try clear hcz25_6
       try clear hcz35_0
       try clear hcz35_1
       try clear hcz35_2
       try clear hcz35_3
       try clear hcz35_4
       try clear hcz35_5
       try clear hcz38_0
       try clear hcz38_1
       try clear hcz38_2
       try clear hcz38_3
       try clear hcz38_4
       try clear hcz38_5
       try clear hcz38_6
       try clear hcz41_0
       try clear hcz41_1
       try clear hcz41_2
       try clear hcz41_3
       try clear hcz41_4
       try clear hcz41_5
       try clear hcz41_6
       try clear hcz45_0
       try clear hcz45_1
       try clear hcz45_2
       try clear hcz45_3
       try clear hcz45_4
       try clear hcz45_5
       try clear hcz52_0
       try clear hcz52_1
       try clear hcz52_2
       try clear hcz52_3
       try clear hcz52_4
       try clear hcz52_5
       try clear hcz52_6
       try clear hcz55_0
       try clear hcz55_1
       try clear hcz55_2
       try clear hcz55_3
       try clear hcz55_4
       try clear hcz55_5
       try clear hcz55_6
       try clear hfz14_0
       try clear hfz14_1
       try clear hfz14_2
       try clear hfz14_3
       try clear hfz14_4
       try clear hfz14_5
       try clear hfz14_6
       try clear hfz14_7
       try clear hfz17_0
       try clear hfz17_1
       try clear hfz17_2
       try clear hfz17_3
       try clear hfz17_4
       try clear hfz17_5
       try clear hfz18_0
       try clear hfz18_1
       try clear hfz18_2
       try clear hfz18_3
       try clear hfz18_4
       try clear hfz18_5
       try clear hfz18_6
       try clear hfz18_7
       try clear hfz19_0
       try clear hfz19_1
       try clear hfz19_2
       try clear hfz19_3
       try clear hfz19_4
       try clear hfz19_5
       try clear hfz20_0
       try clear hfz20_1
       try clear hfz20_2
       try clear hfz20_3
       try clear hfz20_4
       try clear hfz20_5
       try clear hfz25_0
       try clear hfz25_1
       try clear hfz25_2
       try clear hfz25_3
       try clear hfz25_4
       try clear hfz25_5
       try clear hfz25_6
       try clear hfz35_0
       try clear hfz35_1
       try clear hfz35_2
       try clear hfz35_3
       try clear hfz35_4
       try clear hfz35_5
       try clear hfz38_0
       try clear hfz38_1
       try clear hfz38_2
       try clear hfz38_3
       try clear hfz38_4
       try clear hfz38_5
       try clear hfz38_6
       try clear hfz41_0
       try clear hfz41_1
       try clear hfz41_2
       try clear hfz41_3
       try clear hfz41_4
       try clear hfz41_5
       try clear hfz41_6
       try clear hfz45_0
       try clear hfz45_1
       try clear hfz45_2
       try clear hfz45_3
       try clear hfz45_4
       try clear hfz45_5
       try clear hfz52_0
       try clear hfz52_1
       try clear hfz52_2
       try clear hfz52_3
       try clear hfz52_4
       try clear hfz52_5
       try clear hfz52_6
       try clear hfz55_0
       try clear hfz55_1
       try clear hfz55_2
       try clear hfz55_3
       try clear hfz55_4
       try clear hfz55_5
       try clear hfz55_6
       try clear p1
       try clear p10
       try clear p104
       try clear p2
       try clear p6
       try clear q1
       try clear q10
       try clear q104
       obtain⟨kq,x109005_45,u109005,HA,HJ45,HO_109005,BK101,BK102,BK103,BK108,HB⟩:=hcut
       cases kq with
       |zero=>exact absurd HA.out (by simp [ostinatoref05_Num_task.j1])
       |succ kj45=>
        have H:=HA.out
        clear HA
        simp only [ostinatoref05_Num_task.j1] at H
        have H':=qah.mk H
        clear H
        go_wp2
        go_loopg [14] kj45 (fun kq v14 w'=>∃ (x14_3:Int) (x109006_3:List Int) (u109006:Value),v14=.int .i64 x14_3∧qah (ostinatoref05_Num_task.l1 kq a2 x14_3 a0_0 a0_1 a0_2 a0_3 a0_4 l0_5 (wrap64 (a1+1)) (wrap64 (1+t106)) (wrap64 (1+t105)) (rd [4,5,6,8,10,12,20,24] (Go.bits .and .i64 a0_2 7)) (wrap64 ((wrap64 (10 * (wrap64 (1+t107))))+a1)) x109005_45 x109006_3=some (r1,r2,r3,r4,r5,r6,r7))∧qah (kq≤kj45)∧qah (Kd.R (Kd.int .i64) 2 w' w.heap.size (fun _=>True) u109005 x109005_45)∧qah (Kd.R (Kd.int .i64) 3 w' w.heap.size (fun _=>True) u109006 x109006_3)∧qah (w'.heap[gb101]? = some (.cells #[.int .i64 a0_0,.int .i64 a0_1,.int .i64 a0_2,.int .i64 a0_3,.int .i64 a0_4,(.slice A0_5 l0_5.length c0_5)] 59 (0,0)))∧qah (w'.heap[gb102]? = some (.cells #[.int .i64 0,.int .i64 0,.int .i64 0,.int .i64 0,.int .i64 0,(.slice none 0 0),(.slice none 0 0)] 52 (0,0)))∧qah (w'.heap[gb103]? = some (.cells #[.int .i64 4,.int .i64 5,.int .i64 6,.int .i64 8,.int .i64 10,.int .i64 12,.int .i64 20,.int .i64 24] 123 (0,0)))∧qah (w'.heap[gb108]? = some (.cells #[.int .i64 (wrap64 (a1+1)),.int .i64 (wrap64 (1+t106)),.int .i64 (wrap64 (1+t105)),.int .i64 (rd [4,5,6,8,10,12,20,24] (Go.bits .and .i64 a0_2 7)),.int .i64 (wrap64 ((wrap64 (10 * (wrap64 (1+t107))))+a1)),u109005,u109006] 52 (0,0)))∧qah (Below w.heap.size w w'))
        case atStart=>exact⟨(0),(([]:List Int)),(.slice none 0 0),(by first|rfl|(simp;done)|(simp [*];done)),H',⟨Nat.le_refl _⟩,⟨by (with_reducible repeat (first|apply Kd.R_alloc|apply Kd.R_drewN|apply Kd.R_drew));exact HO_109005.out⟩,⟨by first|exact Kd.R_nil _ _ _ _ _|exact Kd.N_nil _ _ _ _ _|exact Kd.V_nil _ _ _ _ _|exact Kd.Q_nil _ _ _ _ _|exact Kd.S_nil _ _ _ _ _⟩,⟨by (with_reducible repeat (first|refine qab ?_ _|refine qac ?_|refine qaa ?_ _));exact BK101.out⟩,⟨by (with_reducible repeat (first|refine qab ?_ _|refine qac ?_|refine qaa ?_ _));exact BK102.out⟩,⟨by (with_reducible repeat (first|refine qab ?_ _|refine qac ?_|refine qaa ?_ _));exact BK103.out⟩,⟨by (with_reducible repeat (first|refine qab ?_ _|refine qac ?_|refine qaa ?_ _));exact BK108.out⟩,⟨by repeat (first|(with_reducible first|exact HB.out|apply qai|apply qag|apply qaj|refine qaf ?_ GE101.out|refine qaf ?_ GE102.out|refine qaf ?_ GE103.out|refine qaf ?_ GE108.out)|exact HB.out)⟩⟩
        case round=>
         clear H'
         try clear c1
         try clear p1
         try clear q1
         try clear hx1
         try clear c2
         try clear p2
         try clear c3
         try clear c4
         try clear c4b0
         try clear c5
         try clear c5b0
         try clear p6
         try clear p10
         try clear q10
         try clear hx10
         try clear c12
         try clear c13
         try clear c16
         try clear c22
         try clear c23
         try clear c24
         try clear c26
         try clear c26b0
         try clear c28
         try clear c28b0
         try clear c28b1
         try clear c30
         try clear c30b0
         try clear c30b1
         try clear c31
         try clear c32
         try clear c33
         try clear c34
         try clear c36
         try clear c37
         try clear c38
         try clear c39
         try clear c42
         try clear c43
         try clear c44
         try clear c47
         try clear c47b0
         try clear c48
         try clear c49
         try clear c50
         try clear c51
         try clear hcz14_0
         try clear hcz14_1
         try clear hcz14_2
         try clear hcz14_3
         try clear hcz14_4
         try clear hcz14_5
         try clear hcz14_6
         try clear hcz14_7
         try clear hcz17_0
         try clear hcz17_1
         try clear hcz17_2
         try clear hcz17_3
         try clear hcz17_4
         try clear hcz17_5
         try clear hcz18_0
         try clear hcz18_1
         try clear hcz18_2
         try clear hcz18_3
         try clear hcz18_4
         try clear hcz18_5
         try clear hcz18_6
         try clear hcz18_7
         try clear hcz19_0
         try clear hcz19_1
         try clear hcz19_2
         try clear hcz19_3
         try clear hcz19_4
         try clear hcz19_5
         try clear hcz20_0
         try clear hcz20_1
         try clear hcz20_2
         try clear hcz20_3
         try clear hcz20_4
         try clear hcz20_5
         try clear hcz25_0
         try clear hcz25_1
         try clear hcz25_2
         try clear hcz25_3
         try clear hcz25_4
         try clear hcz25_5
         try clear hcz25_6
         try clear hcz35_0
         try clear hcz35_1
         try clear hcz35_2
         try clear hcz35_3
         try clear hcz35_4
         try clear hcz35_5
         try clear hcz38_0
         try clear hcz38_1
         try clear hcz38_2
         try clear hcz38_3
         try clear hcz38_4
         try clear hcz38_5
         try clear hcz38_6
         try clear hcz41_0
         try clear hcz41_1
         try clear hcz41_2
         try clear hcz41_3
         try clear hcz41_4
         try clear hcz41_5
         try clear hcz41_6
         try clear hcz45_0
         try clear hcz45_1
         try clear hcz45_2
         try clear hcz45_3
         try clear hcz45_4
         try clear hcz45_5
         try clear hcz52_0
         try clear hcz52_1
         try clear hcz52_2
         try clear hcz52_3
         try clear hcz52_4
         try clear hcz52_5
         try clear hcz52_6
         try clear hcz55_0
         try clear hcz55_1
         try clear hcz55_2
         try clear hcz55_3
         try clear hcz55_4
         try clear hcz55_5
         try clear hcz55_6
         try clear hfz14_0
         try clear hfz14_1
         try clear hfz14_2
         try clear hfz14_3
         try clear hfz14_4
         try clear hfz14_5
         try clear hfz14_6
         try clear hfz14_7
         try clear hfz17_0
         try clear hfz17_1
         try clear hfz17_2
         try clear hfz17_3
         try clear hfz17_4
         try clear hfz17_5
         try clear hfz18_0
         try clear hfz18_1
         try clear hfz18_2
         try clear hfz18_3
         try clear hfz18_4
         try clear hfz18_5
         try clear hfz18_6
         try clear hfz18_7
         try clear hfz19_0
         try clear hfz19_1
         try clear hfz19_2
         try clear hfz19_3
         try clear hfz19_4
         try clear hfz19_5
         try clear hfz20_0
         try clear hfz20_1
         try clear hfz20_2
         try clear hfz20_3
         try clear hfz20_4
         try clear hfz20_5
         try clear hfz25_0
         try clear hfz25_1
         try clear hfz25_2
         try clear hfz25_3
         try clear hfz25_4
         try clear hfz25_5
         try clear hfz25_6
         try clear hfz35_0
         try clear hfz35_1
         try clear hfz35_2
         try clear hfz35_3
         try clear hfz35_4
         try clear hfz35_5
         try clear hfz38_0
         try clear hfz38_1
         try clear hfz38_2
         try clear hfz38_3
         try clear hfz38_4
         try clear hfz38_5
         try clear hfz38_6
         try clear hfz41_0
         try clear hfz41_1
         try clear hfz41_2
         try clear hfz41_3
         try clear hfz41_4
         try clear hfz41_5
         try clear hfz41_6
         try clear hfz45_0
         try clear hfz45_1
         try clear hfz45_2
         try clear hfz45_3
         try clear hfz45_4
         try clear hfz45_5
         try clear hfz52_0
         try clear hfz52_1
         try clear hfz52_2
         try clear hfz52_3
         try clear hfz52_4
         try clear hfz52_5
         try clear hfz52_6
         try clear hfz55_0
         try clear hfz55_1
         try clear hfz55_2
         try clear hfz55_3
         try clear hfz55_4
         try clear hfz55_5
         try clear hfz55_6
         try clear p1
         try clear p10
         try clear p104
         try clear p2
         try clear p6
         try clear q1
         try clear q10
         try clear q104
         obtain⟨x14_3,x109006_3,u109006,rfl,HA,HK3,HO_109005,HO_109006,BK101,BK102,BK103,BK108,HB⟩:=hrel
         cases gk with
         |zero=>exact absurd HA.out (by simp [ostinatoref05_Num_task.l1])
         |succ k3=>
          have H:=HA.out
          clear HA
          simp only [ostinatoref05_Num_task.l1] at H
          by_cases c56:x14_3<(l0_5.length:Int)
          ·rw [if_pos c56] at H
           have c56b0:decide (x14_3<(l0_5.length:Int))=true:=decide_eq_true c56
           clear c56
           by_cases c57:x14_3<5
           ·rw [if_pos c57] at H
            have c57b0:decide (x14_3<5)=true:=decide_eq_true c57
            clear c57
            by_cases c58:0≤x14_3
            ·rw [if_pos c58] at H
             have c58b0:decide (0≤x14_3)=true:=decide_eq_true c58
             clear c58
             replace H:=Option.bind_eq_some_iff.mp H
             obtain⟨t116,A590,H⟩:=H
             replace H:(if x109006_3.length<17592186044416 then (ostinatoref05_Num_task.l1 k3 a2 (wrap64 (x14_3+1)) a0_0 a0_1 a0_2 a0_3 a0_4 l0_5 (wrap64 (a1+1)) (wrap64 (1+t106)) (wrap64 (1+t105)) (rd [4,5,6,8,10,12,20,24] (Go.bits .and .i64 a0_2 7)) (wrap64 ((wrap64 (10 * (wrap64 (1+t107))))+a1)) x109005_45 (x109006_3++[t116])) else (none))=some (r1,r2,r3,r4,r5,r6,r7):=H
             have A59:=qah.mk A590
             clear A590
             by_cases c60:x109006_3.length<17592186044416
             ·rw [if_pos c60] at H
              have LMc60:=qah.mk c60
              clear c60
              obtain⟨y117,hy117⟩:∃ y_:List Int,y_=(x109006_3++[t116]):=⟨_,rfl⟩
              replace H:(ostinatoref05_Num_task.l1 k3 a2 (wrap64 (x14_3+1)) a0_0 a0_1 a0_2 a0_3 a0_4 l0_5 (wrap64 (a1+1)) (wrap64 (1+t106)) (wrap64 (1+t105)) (rd [4,5,6,8,10,12,20,24] (Go.bits .and .i64 a0_2 7)) (wrap64 ((wrap64 (10 * (wrap64 (1+t107))))+a1)) x109005_45 y117)=some (r1,r2,r3,r4,r5,r6,r7):=by first|(rw [hy117];with_reducible exact H)|(have H2_:=(Option.bind_some _ _).symm.trans H;rw [hy117];with_reducible exact H2_)|(have H2_:=(Option.bind_some _ _).symm.trans H;with_reducible exact H2_)|with_reducible exact H|(rw [hy117];exact H)|exact H
              have Ny117:=qah.mk hy117
              clear hy117
              have H':=qah.mk H
              clear H
              have hnb61:=NB101_102.out
              have hnc61:=NB102_101.out
              have hnb62:=NB101_103.out
              have hnc62:=NB103_101.out
              have hnb63:=NB101_108.out
              have hnc63:=NB108_101.out
              have hcz64_0:wr.cell? ⟨gb101,0,none⟩=some (.int .i64 a0_0):=(qad BK101.out 0).trans rfl
              have hcz64_1:wr.cell? ⟨gb101,1,none⟩=some (.int .i64 a0_1):=(qad BK101.out 1).trans rfl
              have hcz64_2:wr.cell? ⟨gb101,2,none⟩=some (.int .i64 a0_2):=(qad BK101.out 2).trans rfl
              have hcz64_3:wr.cell? ⟨gb101,3,none⟩=some (.int .i64 a0_3):=(qad BK101.out 3).trans rfl
              have hcz64_4:wr.cell? ⟨gb101,4,none⟩=some (.int .i64 a0_4):=(qad BK101.out 4).trans rfl
              have hcz64_5:wr.cell? ⟨gb101,5,none⟩=some (.slice A0_5 l0_5.length c0_5):=(qad BK101.out 5).trans rfl
              have hfz64_0:=qae BK101.out 0
              have hfz64_1:=qae BK101.out 1
              have hfz64_2:=qae BK101.out 2
              have hfz64_3:=qae BK101.out 3
              have hfz64_4:=qae BK101.out 4
              have hfz64_5:=qae BK101.out 5
              try go_wp2
              have n0_:=qah.mk (Kd.R_drew HO_109005.out)
              have n1_:=qah.mk (Kd.R_drew HO_109006.out)
              have n2_:=qah.mk (qac BK101.out)
              have n3_:=qah.mk (qac BK102.out)
              have n4_:=qah.mk (qac BK103.out)
              have n5_:=qah.mk (qac BK108.out)
              have n6_:=qah.mk (qaj HB.out)
              clear HO_109005
              clear HO_109006
              clear BK101
              clear BK102
              clear BK103
              clear BK108
              clear HB
              have HO_109005:=n0_
              have HO_109006:=n1_
              have BK101:=n2_
              have BK102:=n3_
              have BK103:=n4_
              have BK108:=n5_
              have HB:=n6_
              clear n0_ n1_ n2_ n3_ n4_ n5_ n6_
              have p115:0≤(x14_3:Int):=of_decide_eq_true (by first|(with_reducible assumption)|assumption)
              have q115:x14_3<(l0_5.length:Int):=of_decide_eq_true (by first|(with_reducible assumption)|assumption)
              obtain⟨ad115,e115,hx115_0⟩:=Kd.at_int HR0_5.out x14_3 p115 q115
              have hw115_0:=hx115_0
              cases e115
              replace hx115_0:=(HB.out.cell (bLt w _ hx115_0)).trans hx115_0
              replace p115:=eq_true p115
              replace q115:=eq_true q115
              refine start_ (n:=13) (S:=fun w'=>w'.cell? ⟨gb108,0,none⟩=some (.int .i64 (wrap64 (a1+1)))∧w'.cell? ⟨gb108,1,none⟩=some (.int .i64 (wrap64 (1+t106)))∧w'.cell? ⟨gb108,2,none⟩=some (.int .i64 (wrap64 (1+t105)))∧w'.cell? ⟨gb108,3,none⟩=some (.int .i64 (rd [4,5,6,8,10,12,20,24] (Go.bits .and .i64 a0_2 7)))∧w'.cell? ⟨gb108,4,none⟩=some (.int .i64 (wrap64 ((wrap64 (10 * (wrap64 (1+t107))))+a1)))∧w'.cell? ⟨gb108,5,none⟩=some (u109005)∧w'.cell? ⟨gb108,6,none⟩=some (u109006)∧w'.cell? ⟨gb101,0,none⟩=some (.int .i64 a0_0)∧w'.cell? ⟨gb101,1,none⟩=some (.int .i64 a0_1)∧w'.cell? ⟨gb101,2,none⟩=some (.int .i64 a0_2)∧w'.cell? ⟨gb101,3,none⟩=some (.int .i64 a0_3)∧w'.cell? ⟨gb101,4,none⟩=some (.int .i64 a0_4)∧w'.cell? ⟨gb101,5,none⟩=some (.slice (some ad115) l0_5.length c0_5)∧w'.cell? (ad115.add (x14_3).toNat)=some (.int .i64 (rd l0_5 x14_3))) (ds:=[12]) #[false,false,false,false,false,false,false,false,false,false,false,false,false] (by kernel_rfl) rfl rfl ⟨(qad BK108.out 0).trans rfl,(qad BK108.out 1).trans rfl,(qad BK108.out 2).trans rfl,(qad BK108.out 3).trans rfl,(qad BK108.out 4).trans rfl,(qad BK108.out 5).trans rfl,(qad BK108.out 6).trans rfl,(qad BK101.out 0).trans rfl,(qad BK101.out 1).trans rfl,(qad BK101.out 2).trans rfl,(qad BK101.out 3).trans rfl,(qad BK101.out 4).trans rfl,(qad BK101.out 5).trans rfl,((HB.out.cell (bLt w _ hw115_0)).trans hw115_0)⟩ (fun hHeld=>?_);refine with_tabW ostinatoref05_Num_task.tab18 ostinatoref05_Num_task.bits18 (fun HT_ HW_=>?_)
              generalize wr.drew=w65 at HO_109005 HO_109006 BK101 BK102 BK103 BK108 HB hx115_0 hHeld ⊢
              refine pure_ (i:=0) (N:=some 86) (v:=?_) (a':=?_) #[true,false,false,false,false,false,false,false,false,false,false,false,false] rfl rfl (qaQ HT_.out (by kernel_rfl)) (fun _ _ _ h=>h) (Or.inl ⟨by rfl,?_⟩) ?_ ?_
              rotate_left
              ·intro w'
               go_simp
               with_reducible rfl
              rotate_left
              ·simp only [Act.put,List.setIfInBounds_toArray,List.set_cons_zero,List.set_cons_succ,qaC,qaD]
               rfl
              refine pure_ (i:=2) (N:=some 88) (v:=?_) (a':=?_) #[true,false,true,false,false,false,false,false,false,false,false,false,false] rfl rfl (qaQ HT_.out (by kernel_rfl)) (fun _ _ _ h=>h) (Or.inl ⟨by rfl,?_⟩) ?_ ?_
              rotate_left
              ·intro w'
               go_simp
               with_reducible rfl
              rotate_left
              ·simp only [Act.put,List.setIfInBounds_toArray,List.set_cons_zero,List.set_cons_succ,qaC,qaD]
               rfl
              refine pure_ (i:=4) (N:=some 90) (v:=?_) (a':=?_) #[true,false,true,false,true,false,false,false,false,false,false,false,false] rfl rfl (qaQ HT_.out (by kernel_rfl)) (fun _ _ _ h=>h) (Or.inl ⟨by rfl,?_⟩) ?_ ?_
              rotate_left
              ·intro w'
               go_simp
               with_reducible rfl
              rotate_left
              ·simp only [Act.put,List.setIfInBounds_toArray,List.set_cons_zero,List.set_cons_succ,qaC,qaD]
               rfl
              refine pure_ (i:=7) (N:=some 93) (v:=?_) (a':=?_) #[true,false,true,false,true,false,false,true,false,false,false,false,false] rfl rfl (qaQ HT_.out (by kernel_rfl)) (fun _ _ _ h=>h) (Or.inl ⟨by rfl,?_⟩) ?_ ?_
              rotate_left
              ·intro w'
               go_simp
               with_reducible rfl
              rotate_left
              ·simp only [Act.put,List.setIfInBounds_toArray,List.set_cons_zero,List.set_cons_succ,qaC,qaD]
               rfl
              refine take_ (i:=1) (N:=some 87) (v:=?_) (a':=?_) #[true,true,true,false,true,false,false,true,false,false,false,false,false] rfl rfl (qaY HT_.out HW_.out (by kernel_rfl)) (fun _ _ _ h=>h) (Or.inl ⟨by rfl,?_⟩) hHeld ?_ ?_
              rotate_left
              ·rintro w' ⟨s0,s1,s2,s3,s4,s5,s6,s7,s8,s9,s10,s11,s12,s13⟩
               go_simp
               with_reducible rfl
              rotate_left
              ·simp only [Act.put,List.setIfInBounds_toArray,List.set_cons_zero,List.set_cons_succ,qaC,qaD]
               rfl
              refine take_ (i:=3) (N:=some 89) (v:=?_) (a':=?_) #[true,true,true,true,true,false,false,true,false,false,false,false,false] rfl rfl (qaY HT_.out HW_.out (by kernel_rfl)) (fun _ _ _ h=>h) (Or.inl ⟨by rfl,?_⟩) hHeld ?_ ?_
              rotate_left
              ·rintro w' ⟨s0,s1,s2,s3,s4,s5,s6,s7,s8,s9,s10,s11,s12,s13⟩
               go_simp
               with_reducible rfl
              rotate_left
              ·simp only [Act.put,List.setIfInBounds_toArray,List.set_cons_zero,List.set_cons_succ,qaC,qaD]
               rfl
              refine pure_ (i:=5) (N:=some 91) (v:=?_) (a':=?_) #[true,true,true,true,true,true,false,true,false,false,false,false,false] rfl rfl (qaQ HT_.out (by kernel_rfl)) (fun _ _ _ h=>h) (Or.inl ⟨by rfl,?_⟩) ?_ ?_
              rotate_left
              ·intro w'
               go_simp
               with_reducible rfl
              rotate_left
              ·simp only [Act.put,List.setIfInBounds_toArray,List.set_cons_zero,List.set_cons_succ,qaC,qaD]
               rfl
              refine take_ (i:=6) (N:=some 92) (v:=?_) (a':=?_) #[true,true,true,true,true,true,true,true,false,false,false,false,false] rfl rfl (qaY HT_.out HW_.out (by kernel_rfl)) (fun _ _ _ h=>h) (Or.inl ⟨by rfl,?_⟩) hHeld ?_ ?_
              rotate_left
              ·rintro w' ⟨s0,s1,s2,s3,s4,s5,s6,s7,s8,s9,s10,s11,s12,s13⟩
               go_simp
               with_reducible rfl
              rotate_left
              ·simp only [Act.put,List.setIfInBounds_toArray,List.set_cons_zero,List.set_cons_succ,qaC,qaD]
               rfl
              refine one_ (i:=8) (N:=some 94) #[true,true,true,true,true,true,true,true,true,false,false,false,false] rfl rfl (one_of HT_.out (by kernel_rfl)) (by decide) (fun K hK=>?_)
              refine goes_ Tryd.func38 (by kernel_rfl) rfl #[.int .i64 (rd l0_5 x14_3),.int .i64 a2] (by rfl) rfl rfl (by (try simp only [List.map_toArray,List.map_cons,List.map_nil]);first|done|rfl|(simp only [List.length_drop,List.length_take];rfl)) ?_
              with_reducible refine (ostinatoref05_rest.calls (rd l0_5 x14_3) a2 t116 _ A59.out).mono ?_
              rintro e w' ⟨rfl,⟨nd,rfl⟩⟩
              refine⟨_,rfl,?_⟩
              refine hK.out _ _ ⟨(qad BK108.out 0).trans rfl,(qad BK108.out 1).trans rfl,(qad BK108.out 2).trans rfl,(qad BK108.out 3).trans rfl,(qad BK108.out 4).trans rfl,(qad BK108.out 5).trans rfl,(qad BK108.out 6).trans rfl,(qad BK101.out 0).trans rfl,(qad BK101.out 1).trans rfl,(qad BK101.out 2).trans rfl,(qad BK101.out 3).trans rfl,(qad BK101.out 4).trans rfl,(qad BK101.out 5).trans rfl,((HB.out.cell (bLt w _ hw115_0)).trans hw115_0)⟩ (fun hHeld=>?_)
              clear hK K
              refine norm_ (a':=?_) ?_ ?_
              rotate_left
              ·show Act.put _ (some 94) _=_
               simp only [Act.put,List.setIfInBounds_toArray,List.set_cons_zero,List.set_cons_succ,qaC,qaD]
               rfl
              refine one_ (i:=9) (N:=some 95) #[true,true,true,true,true,true,true,true,true,true,false,false,false] rfl rfl (one_of HT_.out (by kernel_rfl)) (by decide) (fun K hK=>?_)
              refine value_ (w1:=?_) (v:=?_) (by rfl) rfl ?_ ?_
              rotate_left 2
              ·go_simp
               constructor
               ·rfl
               ·rfl
              refine hK.out _ _ ⟨(qad (qaa BK108.out _) 0).trans rfl,(qad (qaa BK108.out _) 1).trans rfl,(qad (qaa BK108.out _) 2).trans rfl,(qad (qaa BK108.out _) 3).trans rfl,(qad (qaa BK108.out _) 4).trans rfl,(qad (qaa BK108.out _) 5).trans rfl,(qad (qaa BK108.out _) 6).trans rfl,(qad (qaa BK101.out _) 0).trans rfl,(qad (qaa BK101.out _) 1).trans rfl,(qad (qaa BK101.out _) 2).trans rfl,(qad (qaa BK101.out _) 3).trans rfl,(qad (qaa BK101.out _) 4).trans rfl,(qad (qaa BK101.out _) 5).trans rfl,(World.cell?_alloc_lt _ _ _ (bLt _ _ (((HB.out.cell (bLt w _ hw115_0)).trans hw115_0)))).trans (((HB.out.cell (bLt w _ hw115_0)).trans hw115_0))⟩ (fun hHeld=>?_)
              clear hK K
              refine norm_ (a':=?_) ?_ ?_
              rotate_left
              ·show Act.put _ (some 95) _=_
               simp only [Act.put,List.setIfInBounds_toArray,List.set_cons_zero,List.set_cons_succ,qaC,qaD]
               rfl
              refine one_ (i:=10) (N:=some 96) #[true,true,true,true,true,true,true,true,true,true,true,false,false] rfl rfl (one_of HT_.out (by kernel_rfl)) (by decide) (fun K hK=>?_)
              refine Kd.R_append_step (Kd.int .i64) (w0:=w) w.heap.size (by rfl) (.tmp 87) (.tmp 95) 50 3 (.int .i64 0) 8 rfl Tryd.underlying50 info3 rfl (by decide) (by omega) u109006 x109006_3 t116 [.int .i64 t116] (fun _=>True) (fun _=>False) rfl rfl ?aP (fun _ hk=>hk.elim) ?aF ?aO ?aB ?aS ?aL ?_
              (case aP=>exact rfl)
              (case aB=>exact (by repeat (first|(with_reducible first|exact HB.out|apply qai|apply qag|apply qaj|refine qaf ?_ GE101.out|refine qaf ?_ GE102.out|refine qaf ?_ GE103.out|refine qaf ?_ GE108.out)|exact HB.out)))
              (case aF=>exact (fun _ _=>trivial))
              (case aO=>exact (by (with_reducible repeat (first|apply Kd.R_alloc|apply Kd.R_drewN|apply Kd.R_drew));exact HO_109006.out))
              (case aS=>exact (qam (by repeat (first|(with_reducible first|exact HB.out|apply qai|apply qag|apply qaj|refine qaf ?_ GE101.out|refine qaf ?_ GE102.out|refine qaf ?_ GE103.out|refine qaf ?_ GE108.out)|exact HB.out))))
              (case aL=>have:=LMc60.out;omega)
              intro v118 w66 ho hb hg hat
              rw [← Ny117.out] at ho
              have n0_:=qah.mk (Kd.R_over' (by (with_reducible repeat (first|apply Kd.R_alloc|apply Kd.R_drewN|apply Kd.R_drew));exact HO_109005.out) (Kd.R_typed (by (with_reducible repeat (first|apply Kd.R_alloc|apply Kd.R_drewN|apply Kd.R_drew));exact HO_109006.out)) (by decide) hg)
              have n1_:=qah.mk (qaB (g:=gb101) (o:=.cells #[.int .i64 a0_0,.int .i64 a0_1,.int .i64 a0_2,.int .i64 a0_3,.int .i64 a0_4,.slice (some ad115) l0_5.length c0_5] 59 (0,0)) (by (with_reducible repeat (first|refine qab ?_ _|refine qac ?_|refine qaa ?_ _));exact BK101.out) hg (Kd.R_ne HO_109006.out BK101.out (by decide)))
              have n2_:=qah.mk (qaB (g:=gb102) (o:=.cells #[.int .i64 0,.int .i64 0,.int .i64 0,.int .i64 0,.int .i64 0,.slice none 0 0,.slice none 0 0] 52 (0,0)) (by (with_reducible repeat (first|refine qab ?_ _|refine qac ?_|refine qaa ?_ _));exact BK102.out) hg (Kd.R_ne HO_109006.out BK102.out (by decide)))
              have n3_:=qah.mk (qaB (g:=gb103) (o:=.cells #[.int .i64 4,.int .i64 5,.int .i64 6,.int .i64 8,.int .i64 10,.int .i64 12,.int .i64 20,.int .i64 24] 123 (0,0)) (by (with_reducible repeat (first|refine qab ?_ _|refine qac ?_|refine qaa ?_ _));exact BK103.out) hg (Kd.R_ne HO_109006.out BK103.out (by decide)))
              have n4_:=qah.mk (qaB (g:=gb108) (o:=.cells #[.int .i64 (wrap64 (a1+1)),.int .i64 (wrap64 (1+t106)),.int .i64 (wrap64 (1+t105)),.int .i64 (rd [4,5,6,8,10,12,20,24] (Go.bits .and .i64 a0_2 7)),.int .i64 (wrap64 ((wrap64 (10 * (wrap64 (1+t107))))+a1)),u109005,u109006] 52 (0,0)) (by (with_reducible repeat (first|refine qab ?_ _|refine qac ?_|refine qaa ?_ _));exact BK108.out) hg (Kd.R_ne HO_109006.out BK108.out (by decide)))
              have n5_:=qah.mk (hb)
              have n6_:=qah.mk (ho)
              clear HO_109005
              clear BK101
              clear BK102
              clear BK103
              clear BK108
              clear HB
              clear HO_109006
              have HO_109005:=n0_
              have BK101:=n1_
              have BK102:=n2_
              have BK103:=n3_
              have BK108:=n4_
              have HB:=n5_
              have HO119:=n6_
              clear n0_ n1_ n2_ n3_ n4_ n5_ n6_
              clear ho hb hg hat
              obtain⟨Ao67,co67,eo67⟩:=Kd.R_slice HO119.out
              (first|subst eo67|(injection eo67 with f1_ f2_ f3_;have f4_:=f1_.symm;have f5_:=f3_.symm;clear f1_ f2_ f3_;subst f4_;subst f5_))
              refine hK.out _ _ ⟨(qad BK108.out 0).trans rfl,(qad BK108.out 1).trans rfl,(qad BK108.out 2).trans rfl,(qad BK108.out 3).trans rfl,(qad BK108.out 4).trans rfl,(qad BK108.out 5).trans rfl,(qad BK108.out 6).trans rfl,(qad BK101.out 0).trans rfl,(qad BK101.out 1).trans rfl,(qad BK101.out 2).trans rfl,(qad BK101.out 3).trans rfl,(qad BK101.out 4).trans rfl,(qad BK101.out 5).trans rfl,((HB.out.cell (bLt w _ hw115_0)).trans hw115_0)⟩ (fun hHeld=>?_)
              clear hK K
              refine norm_ (a':=?_) ?_ ?_
              rotate_left
              ·show Act.put _ (some 96) _=_
               simp only [Act.put,List.setIfInBounds_toArray,List.set_cons_zero,List.set_cons_succ,qaC,qaD]
               rfl
              refine pure_ (i:=11) (N:=some 97) (v:=?_) (a':=?_) #[true,true,true,true,true,true,true,true,true,true,true,true,false] rfl rfl (qaQ HT_.out (by kernel_rfl)) (fun _ _ _ h=>h) (Or.inl ⟨by rfl,?_⟩) ?_ ?_
              rotate_left
              ·intro w'
               go_simp
               with_reducible rfl
              rotate_left
              ·simp only [Act.put,List.setIfInBounds_toArray,List.set_cons_zero,List.set_cons_succ,qaC,qaD]
               rfl
              refine last_ (i:=12) (N:=none) #[true,true,true,true,true,true,true,true,true,true,true,true,true] rfl rfl (one_of HT_.out (by kernel_rfl)) (by decide) (fun K hK=>?_)
              have hs68:w66.cell? ⟨gb108,6,none⟩=some (u109006):=(qad BK108.out 6).trans rfl
              have hfs68:=qae BK108.out 6
              have hns68_0:=NB101_108.out
              have hns68_1:=NB102_108.out
              have hns68_2:=NB103_108.out
              have hms68_0:=NB108_101.out
              have hms68_1:=NB108_102.out
              have hms68_2:=NB108_103.out
              refine skip_ (w1:=?_) (by rfl) rfl ?_ ?_
              rotate_left
              ·go_simp
               rfl
              refine hK.out _ _ ?_
              clear hK K
              refine done_ (done_of HT_.out (by kernel_rfl)) ?_
              try go_wp2
              go_roundg k3
              case measure=>have:=HK1.out;have:=HJ45.out;have:=HK3.out;omega
              case rel=>exact⟨(wrap64 (x14_3+1)),(y117),(.slice Ao67 y117.length co67),(by first|rfl|(simp;done)|(simp [*];done)),H',⟨by have:=HK1.out;have:=HJ45.out;have:=HK3.out;omega⟩,⟨by (with_reducible repeat (first|apply Kd.R_alloc|apply Kd.R_drewN|apply Kd.R_drew));exact Kd.R_mono (Kd.R_far (p:=⟨gb108,6,none⟩) (Kd.R_types HO_109005.out BK108.out (by decide)) (fun _ hk=>hk.2) (.slice Ao67 y117.length co67)) (fun _ hk=>trivial)⟩,⟨by (with_reducible repeat (first|apply Kd.R_alloc|apply Kd.R_drewN|apply Kd.R_drew));exact Kd.R_mono (Kd.R_far (p:=⟨gb108,6,none⟩) (Kd.R_types HO119.out BK108.out (by decide)) (fun _ hk=>hk.2) (.slice Ao67 y117.length co67)) (fun _ hk=>trivial)⟩,⟨by (with_reducible repeat (first|refine qab ?_ _|refine qac ?_|refine qaa ?_ _));refine qan ?_ NB101_108.out _;(with_reducible repeat (first|refine qab ?_ _|refine qac ?_|refine qaa ?_ _));exact BK101.out⟩,⟨by (with_reducible repeat (first|refine qab ?_ _|refine qac ?_|refine qaa ?_ _));refine qan ?_ NB102_108.out _;(with_reducible repeat (first|refine qab ?_ _|refine qac ?_|refine qaa ?_ _));exact BK102.out⟩,⟨by (with_reducible repeat (first|refine qab ?_ _|refine qac ?_|refine qaa ?_ _));refine qan ?_ NB103_108.out _;(with_reducible repeat (first|refine qab ?_ _|refine qac ?_|refine qaa ?_ _));exact BK103.out⟩,⟨by (with_reducible repeat (first|refine qab ?_ _|refine qac ?_|refine qaa ?_ _));refine qao (cs:=#[.int .i64 (wrap64 (a1+1)),.int .i64 (wrap64 (1+t106)),.int .i64 (wrap64 (1+t105)),.int .i64 (rd [4,5,6,8,10,12,20,24] (Go.bits .and .i64 a0_2 7)),.int .i64 (wrap64 ((wrap64 (10 * (wrap64 (1+t107))))+a1)),u109005,u109006]) ?_ 6 _ rfl;(with_reducible repeat (first|refine qab ?_ _|refine qac ?_|refine qaa ?_ _));exact BK108.out⟩,⟨by repeat (first|(with_reducible first|exact HB.out|apply qai|apply qag|apply qaj|refine qaf ?_ GE101.out|refine qaf ?_ GE102.out|refine qaf ?_ GE103.out|refine qaf ?_ GE108.out)|exact HB.out)⟩⟩
             ·rw [if_neg c60] at H
              exact absurd H (by simp)
            ·rw [if_neg c58] at H
             exact absurd H (by simp)
           ·rw [if_neg c57] at H
            have c57b0:decide (x14_3<5)=false:=decide_eq_false c57
            clear c57
            simp only [Option.some.injEq,Prod.mk.injEq] at H
            obtain⟨rfl,rfl,rfl,rfl,rfl,rfl,rfl⟩:=H
            have hnb69:=NB101_102.out
            have hnc69:=NB102_101.out
            have hnb70:=NB101_103.out
            have hnc70:=NB103_101.out
            have hnb71:=NB101_108.out
            have hnc71:=NB108_101.out
            have hcz72_0:wr.cell? ⟨gb101,0,none⟩=some (.int .i64 a0_0):=(qad BK101.out 0).trans rfl
            have hcz72_1:wr.cell? ⟨gb101,1,none⟩=some (.int .i64 a0_1):=(qad BK101.out 1).trans rfl
            have hcz72_2:wr.cell? ⟨gb101,2,none⟩=some (.int .i64 a0_2):=(qad BK101.out 2).trans rfl
            have hcz72_3:wr.cell? ⟨gb101,3,none⟩=some (.int .i64 a0_3):=(qad BK101.out 3).trans rfl
            have hcz72_4:wr.cell? ⟨gb101,4,none⟩=some (.int .i64 a0_4):=(qad BK101.out 4).trans rfl
            have hcz72_5:wr.cell? ⟨gb101,5,none⟩=some (.slice A0_5 l0_5.length c0_5):=(qad BK101.out 5).trans rfl
            have hfz72_0:=qae BK101.out 0
            have hfz72_1:=qae BK101.out 1
            have hfz72_2:=qae BK101.out 2
            have hfz72_3:=qae BK101.out 3
            have hfz72_4:=qae BK101.out 4
            have hfz72_5:=qae BK101.out 5
            have hnb73:=NB108_102.out
            have hnc73:=NB102_108.out
            have hnb74:=NB108_103.out
            have hnc74:=NB103_108.out
            have hcz75_0:wr.cell? ⟨gb108,0,none⟩=some (.int .i64 (wrap64 (a1+1))):=(qad BK108.out 0).trans rfl
            have hcz75_1:wr.cell? ⟨gb108,1,none⟩=some (.int .i64 (wrap64 (1+t106))):=(qad BK108.out 1).trans rfl
            have hcz75_2:wr.cell? ⟨gb108,2,none⟩=some (.int .i64 (wrap64 (1+t105))):=(qad BK108.out 2).trans rfl
            have hcz75_3:wr.cell? ⟨gb108,3,none⟩=some (.int .i64 (rd [4,5,6,8,10,12,20,24] (Go.bits .and .i64 a0_2 7))):=(qad BK108.out 3).trans rfl
            have hcz75_4:wr.cell? ⟨gb108,4,none⟩=some (.int .i64 (wrap64 ((wrap64 (10 * (wrap64 (1+t107))))+a1))):=(qad BK108.out 4).trans rfl
            have hcz75_5:wr.cell? ⟨gb108,5,none⟩=some (u109005):=(qad BK108.out 5).trans rfl
            have hcz75_6:wr.cell? ⟨gb108,6,none⟩=some (u109006):=(qad BK108.out 6).trans rfl
            have hfz75_0:=qae BK108.out 0
            have hfz75_1:=qae BK108.out 1
            have hfz75_2:=qae BK108.out 2
            have hfz75_3:=qae BK108.out 3
            have hfz75_4:=qae BK108.out 4
            have hfz75_5:=qae BK108.out 5
            have hfz75_6:=qae BK108.out 6
            have hnb76:=NB102_103.out
            have hnc76:=NB103_102.out
            have hcz77_0:wr.cell? ⟨gb102,0,none⟩=some (.int .i64 0):=(qad BK102.out 0).trans rfl
            have hcz77_1:wr.cell? ⟨gb102,1,none⟩=some (.int .i64 0):=(qad BK102.out 1).trans rfl
            have hcz77_2:wr.cell? ⟨gb102,2,none⟩=some (.int .i64 0):=(qad BK102.out 2).trans rfl
            have hcz77_3:wr.cell? ⟨gb102,3,none⟩=some (.int .i64 0):=(qad BK102.out 3).trans rfl
            have hcz77_4:wr.cell? ⟨gb102,4,none⟩=some (.int .i64 0):=(qad BK102.out 4).trans rfl
            have hcz77_5:wr.cell? ⟨gb102,5,none⟩=some (.slice none 0 0):=(qad BK102.out 5).trans rfl
            have hcz77_6:wr.cell? ⟨gb102,6,none⟩=some (.slice none 0 0):=(qad BK102.out 6).trans rfl
            have hfz77_0:=qae BK102.out 0
            have hfz77_1:=qae BK102.out 1
            have hfz77_2:=qae BK102.out 2
            have hfz77_3:=qae BK102.out 3
            have hfz77_4:=qae BK102.out 4
            have hfz77_5:=qae BK102.out 5
            have hfz77_6:=qae BK102.out 6
            obtain⟨Ao78,co78,eo78⟩:=Kd.R_slice HO_109005.out
            subst eo78
            obtain⟨Ao79,co79,eo79⟩:=Kd.R_slice HO_109006.out
            subst eo79
            go_wp2
            refine bodyPost_ret (results_cell_row rfl _ _ gb102 52 #[.int .i64 (wrap64 (a1+1)),.int .i64 (wrap64 (1+t106)),.int .i64 (wrap64 (1+t105)),.int .i64 (rd [4,5,6,8,10,12,20,24] (Go.bits .and .i64 a0_2 7)),.int .i64 (wrap64 ((wrap64 (10 * (wrap64 (1+t107))))+a1)),.slice Ao78 x109005_45.length co78,.slice Ao79 x109006_3.length co79] (0,0) _ rfl (by (with_reducible repeat (first|refine qab ?_ _|refine qac ?_|refine qaa ?_ _));refine qao (cs:=#[.int .i64 (wrap64 (a1+1)),.int .i64 (wrap64 (1+t106)),.int .i64 (wrap64 (1+t105)),.int .i64 (rd [4,5,6,8,10,12,20,24] (Go.bits .and .i64 a0_2 7)),.int .i64 (wrap64 ((wrap64 (10 * (wrap64 (1+t107))))+a1)),.slice Ao78 x109005_45.length co78,.slice none 0 0]) ?_ 6 _ rfl;(with_reducible repeat (first|refine qab ?_ _|refine qac ?_|refine qaa ?_ _));refine qao (cs:=#[.int .i64 (wrap64 (a1+1)),.int .i64 (wrap64 (1+t106)),.int .i64 (wrap64 (1+t105)),.int .i64 (rd [4,5,6,8,10,12,20,24] (Go.bits .and .i64 a0_2 7)),.int .i64 (wrap64 ((wrap64 (10 * (wrap64 (1+t107))))+a1)),.slice none 0 0,.slice none 0 0]) ?_ 5 _ rfl;(with_reducible repeat (first|refine qab ?_ _|refine qac ?_|refine qaa ?_ _));refine qao (cs:=#[.int .i64 (wrap64 (a1+1)),.int .i64 (wrap64 (1+t106)),.int .i64 (wrap64 (1+t105)),.int .i64 (rd [4,5,6,8,10,12,20,24] (Go.bits .and .i64 a0_2 7)),.int .i64 0,.slice none 0 0,.slice none 0 0]) ?_ 4 _ rfl;(with_reducible repeat (first|refine qab ?_ _|refine qac ?_|refine qaa ?_ _));refine qao (cs:=#[.int .i64 (wrap64 (a1+1)),.int .i64 (wrap64 (1+t106)),.int .i64 (wrap64 (1+t105)),.int .i64 0,.int .i64 0,.slice none 0 0,.slice none 0 0]) ?_ 3 _ rfl;(with_reducible repeat (first|refine qab ?_ _|refine qac ?_|refine qaa ?_ _));refine qao (cs:=#[.int .i64 (wrap64 (a1+1)),.int .i64 (wrap64 (1+t106)),.int .i64 0,.int .i64 0,.int .i64 0,.slice none 0 0,.slice none 0 0]) ?_ 2 _ rfl;(with_reducible repeat (first|refine qab ?_ _|refine qac ?_|refine qaa ?_ _));refine qao (cs:=#[.int .i64 (wrap64 (a1+1)),.int .i64 0,.int .i64 0,.int .i64 0,.int .i64 0,.slice none 0 0,.slice none 0 0]) ?_ 1 _ rfl;(with_reducible repeat (first|refine qab ?_ _|refine qac ?_|refine qaa ?_ _));refine qao (cs:=#[.int .i64 0,.int .i64 0,.int .i64 0,.int .i64 0,.int .i64 0,.slice none 0 0,.slice none 0 0]) ?_ 0 _ rfl;(with_reducible repeat (first|refine qab ?_ _|refine qac ?_|refine qaa ?_ _));exact BK102.out) Tryd.underlying52 rfl (by kernel_rfl)) rfl ?_
            exact⟨_,_,by first|rfl|(simp [qaA,qaz]<;>rfl)|(simp [bneNil,bneNilU]<;>rfl)|(simp [*,qaA,qaz]<;>rfl),by (with_reducible repeat (first|apply Kd.R_alloc|apply Kd.R_drewN|apply Kd.R_drew));exact Kd.R_mono (Kd.R_far (p:=⟨gb102,6,none⟩) (Kd.R_far (p:=⟨gb102,5,none⟩) (Kd.R_far (p:=⟨gb102,4,none⟩) (Kd.R_far (p:=⟨gb102,3,none⟩) (Kd.R_far (p:=⟨gb102,2,none⟩) (Kd.R_far (p:=⟨gb102,1,none⟩) (Kd.R_far (p:=⟨gb102,0,none⟩) (Kd.R_types HO_109005.out BK102.out (by decide)) (fun _ hk=>hk.2) (.int .i64 (wrap64 (a1+1)))) (fun _ hk=>hk.2) (.int .i64 (wrap64 (1+t106)))) (fun _ hk=>hk.2) (.int .i64 (wrap64 (1+t105)))) (fun _ hk=>hk.2) (.int .i64 (rd [4,5,6,8,10,12,20,24] (Go.bits .and .i64 a0_2 7)))) (fun _ hk=>hk.2) (.int .i64 (wrap64 ((wrap64 (10 * (wrap64 (1+t107))))+a1)))) (fun _ hk=>hk.2) (.slice Ao78 x109005_45.length co78)) (fun _ hk=>hk.2) (.slice Ao79 x109006_3.length co79)) (fun _ hk=>trivial),by (with_reducible repeat (first|apply Kd.R_alloc|apply Kd.R_drewN|apply Kd.R_drew));exact Kd.R_mono (Kd.R_far (p:=⟨gb102,6,none⟩) (Kd.R_far (p:=⟨gb102,5,none⟩) (Kd.R_far (p:=⟨gb102,4,none⟩) (Kd.R_far (p:=⟨gb102,3,none⟩) (Kd.R_far (p:=⟨gb102,2,none⟩) (Kd.R_far (p:=⟨gb102,1,none⟩) (Kd.R_far (p:=⟨gb102,0,none⟩) (Kd.R_types HO_109006.out BK102.out (by decide)) (fun _ hk=>hk.2) (.int .i64 (wrap64 (a1+1)))) (fun _ hk=>hk.2) (.int .i64 (wrap64 (1+t106)))) (fun _ hk=>hk.2) (.int .i64 (wrap64 (1+t105)))) (fun _ hk=>hk.2) (.int .i64 (rd [4,5,6,8,10,12,20,24] (Go.bits .and .i64 a0_2 7)))) (fun _ hk=>hk.2) (.int .i64 (wrap64 ((wrap64 (10 * (wrap64 (1+t107))))+a1)))) (fun _ hk=>hk.2) (.slice Ao78 x109005_45.length co78)) (fun _ hk=>hk.2) (.slice Ao79 x109006_3.length co79)) (fun _ hk=>trivial),by repeat (first|(with_reducible first|exact HB.out|apply qai|apply qag|apply qaj|refine qaf ?_ GE101.out|refine qaf ?_ GE102.out|refine qaf ?_ GE103.out|refine qaf ?_ GE108.out)|exact HB.out)⟩
          ·rw [if_neg c56] at H
           have c56b0:decide (x14_3<(l0_5.length:Int))=false:=decide_eq_false c56
           clear c56
           simp only [Option.some.injEq,Prod.mk.injEq] at H
           obtain⟨rfl,rfl,rfl,rfl,rfl,rfl,rfl⟩:=H
           have hnb80:=NB101_102.out
           have hnc80:=NB102_101.out
           have hnb81:=NB101_103.out
           have hnc81:=NB103_101.out
           have hnb82:=NB101_108.out
           have hnc82:=NB108_101.out
           have hcz83_0:wr.cell? ⟨gb101,0,none⟩=some (.int .i64 a0_0):=(qad BK101.out 0).trans rfl
           have hcz83_1:wr.cell? ⟨gb101,1,none⟩=some (.int .i64 a0_1):=(qad BK101.out 1).trans rfl
           have hcz83_2:wr.cell? ⟨gb101,2,none⟩=some (.int .i64 a0_2):=(qad BK101.out 2).trans rfl
           have hcz83_3:wr.cell? ⟨gb101,3,none⟩=some (.int .i64 a0_3):=(qad BK101.out 3).trans rfl
           have hcz83_4:wr.cell? ⟨gb101,4,none⟩=some (.int .i64 a0_4):=(qad BK101.out 4).trans rfl
           have hcz83_5:wr.cell? ⟨gb101,5,none⟩=some (.slice A0_5 l0_5.length c0_5):=(qad BK101.out 5).trans rfl
           have hfz83_0:=qae BK101.out 0
           have hfz83_1:=qae BK101.out 1
           have hfz83_2:=qae BK101.out 2
           have hfz83_3:=qae BK101.out 3
           have hfz83_4:=qae BK101.out 4
           have hfz83_5:=qae BK101.out 5
           have hnb84:=NB108_102.out
           have hnc84:=NB102_108.out
           have hnb85:=NB108_103.out
           have hnc85:=NB103_108.out
           have hcz86_0:wr.cell? ⟨gb108,0,none⟩=some (.int .i64 (wrap64 (a1+1))):=(qad BK108.out 0).trans rfl
           have hcz86_1:wr.cell? ⟨gb108,1,none⟩=some (.int .i64 (wrap64 (1+t106))):=(qad BK108.out 1).trans rfl
           have hcz86_2:wr.cell? ⟨gb108,2,none⟩=some (.int .i64 (wrap64 (1+t105))):=(qad BK108.out 2).trans rfl
           have hcz86_3:wr.cell? ⟨gb108,3,none⟩=some (.int .i64 (rd [4,5,6,8,10,12,20,24] (Go.bits .and .i64 a0_2 7))):=(qad BK108.out 3).trans rfl
           have hcz86_4:wr.cell? ⟨gb108,4,none⟩=some (.int .i64 (wrap64 ((wrap64 (10 * (wrap64 (1+t107))))+a1))):=(qad BK108.out 4).trans rfl
           have hcz86_5:wr.cell? ⟨gb108,5,none⟩=some (u109005):=(qad BK108.out 5).trans rfl
           have hcz86_6:wr.cell? ⟨gb108,6,none⟩=some (u109006):=(qad BK108.out 6).trans rfl
           have hfz86_0:=qae BK108.out 0
           have hfz86_1:=qae BK108.out 1
           have hfz86_2:=qae BK108.out 2
           have hfz86_3:=qae BK108.out 3
           have hfz86_4:=qae BK108.out 4
           have hfz86_5:=qae BK108.out 5
           have hfz86_6:=qae BK108.out 6
           have hnb87:=NB102_103.out
           have hnc87:=NB103_102.out
           have hcz88_0:wr.cell? ⟨gb102,0,none⟩=some (.int .i64 0):=(qad BK102.out 0).trans rfl
           have hcz88_1:wr.cell? ⟨gb102,1,none⟩=some (.int .i64 0):=(qad BK102.out 1).trans rfl
           have hcz88_2:wr.cell? ⟨gb102,2,none⟩=some (.int .i64 0):=(qad BK102.out 2).trans rfl
           have hcz88_3:wr.cell? ⟨gb102,3,none⟩=some (.int .i64 0):=(qad BK102.out 3).trans rfl
           have hcz88_4:wr.cell? ⟨gb102,4,none⟩=some (.int .i64 0):=(qad BK102.out 4).trans rfl
           have hcz88_5:wr.cell? ⟨gb102,5,none⟩=some (.slice none 0 0):=(qad BK102.out 5).trans rfl
           have hcz88_6:wr.cell? ⟨gb102,6,none⟩=some (.slice none 0 0):=(qad BK102.out 6).trans rfl
           have hfz88_0:=qae BK102.out 0
           have hfz88_1:=qae BK102.out 1
           have hfz88_2:=qae BK102.out 2
           have hfz88_3:=qae BK102.out 3
           have hfz88_4:=qae BK102.out 4
           have hfz88_5:=qae BK102.out 5
           have hfz88_6:=qae BK102.out 6
           obtain⟨Ao89,co89,eo89⟩:=Kd.R_slice HO_109005.out
           subst eo89
           obtain⟨Ao90,co90,eo90⟩:=Kd.R_slice HO_109006.out
           subst eo90
           go_wp2
           refine bodyPost_ret (results_cell_row rfl _ _ gb102 52 #[.int .i64 (wrap64 (a1+1)),.int .i64 (wrap64 (1+t106)),.int .i64 (wrap64 (1+t105)),.int .i64 (rd [4,5,6,8,10,12,20,24] (Go.bits .and .i64 a0_2 7)),.int .i64 (wrap64 ((wrap64 (10 * (wrap64 (1+t107))))+a1)),.slice Ao89 x109005_45.length co89,.slice Ao90 x109006_3.length co90] (0,0) _ rfl (by (with_reducible repeat (first|refine qab ?_ _|refine qac ?_|refine qaa ?_ _));refine qao (cs:=#[.int .i64 (wrap64 (a1+1)),.int .i64 (wrap64 (1+t106)),.int .i64 (wrap64 (1+t105)),.int .i64 (rd [4,5,6,8,10,12,20,24] (Go.bits .and .i64 a0_2 7)),.int .i64 (wrap64 ((wrap64 (10 * (wrap64 (1+t107))))+a1)),.slice Ao89 x109005_45.length co89,.slice none 0 0]) ?_ 6 _ rfl;(with_reducible repeat (first|refine qab ?_ _|refine qac ?_|refine qaa ?_ _));refine qao (cs:=#[.int .i64 (wrap64 (a1+1)),.int .i64 (wrap64 (1+t106)),.int .i64 (wrap64 (1+t105)),.int .i64 (rd [4,5,6,8,10,12,20,24] (Go.bits .and .i64 a0_2 7)),.int .i64 (wrap64 ((wrap64 (10 * (wrap64 (1+t107))))+a1)),.slice none 0 0,.slice none 0 0]) ?_ 5 _ rfl;(with_reducible repeat (first|refine qab ?_ _|refine qac ?_|refine qaa ?_ _));refine qao (cs:=#[.int .i64 (wrap64 (a1+1)),.int .i64 (wrap64 (1+t106)),.int .i64 (wrap64 (1+t105)),.int .i64 (rd [4,5,6,8,10,12,20,24] (Go.bits .and .i64 a0_2 7)),.int .i64 0,.slice none 0 0,.slice none 0 0]) ?_ 4 _ rfl;(with_reducible repeat (first|refine qab ?_ _|refine qac ?_|refine qaa ?_ _));refine qao (cs:=#[.int .i64 (wrap64 (a1+1)),.int .i64 (wrap64 (1+t106)),.int .i64 (wrap64 (1+t105)),.int .i64 0,.int .i64 0,.slice none 0 0,.slice none 0 0]) ?_ 3 _ rfl;(with_reducible repeat (first|refine qab ?_ _|refine qac ?_|refine qaa ?_ _));refine qao (cs:=#[.int .i64 (wrap64 (a1+1)),.int .i64 (wrap64 (1+t106)),.int .i64 0,.int .i64 0,.int .i64 0,.slice none 0 0,.slice none 0 0]) ?_ 2 _ rfl;(with_reducible repeat (first|refine qab ?_ _|refine qac ?_|refine qaa ?_ _));refine qao (cs:=#[.int .i64 (wrap64 (a1+1)),.int .i64 0,.int .i64 0,.int .i64 0,.int .i64 0,.slice none 0 0,.slice none 0 0]) ?_ 1 _ rfl;(with_reducible repeat (first|refine qab ?_ _|refine qac ?_|refine qaa ?_ _));refine qao (cs:=#[.int .i64 0,.int .i64 0,.int .i64 0,.int .i64 0,.int .i64 0,.slice none 0 0,.slice none 0 0]) ?_ 0 _ rfl;(with_reducible repeat (first|refine qab ?_ _|refine qac ?_|refine qaa ?_ _));exact BK102.out) Tryd.underlying52 rfl (by kernel_rfl)) rfl ?_
           exact⟨_,_,by first|rfl|(simp [qaA,qaz]<;>rfl)|(simp [bneNil,bneNilU]<;>rfl)|(simp [*,qaA,qaz]<;>rfl),by (with_reducible repeat (first|apply Kd.R_alloc|apply Kd.R_drewN|apply Kd.R_drew));exact Kd.R_mono (Kd.R_far (p:=⟨gb102,6,none⟩) (Kd.R_far (p:=⟨gb102,5,none⟩) (Kd.R_far (p:=⟨gb102,4,none⟩) (Kd.R_far (p:=⟨gb102,3,none⟩) (Kd.R_far (p:=⟨gb102,2,none⟩) (Kd.R_far (p:=⟨gb102,1,none⟩) (Kd.R_far (p:=⟨gb102,0,none⟩) (Kd.R_types HO_109005.out BK102.out (by decide)) (fun _ hk=>hk.2) (.int .i64 (wrap64 (a1+1)))) (fun _ hk=>hk.2) (.int .i64 (wrap64 (1+t106)))) (fun _ hk=>hk.2) (.int .i64 (wrap64 (1+t105)))) (fun _ hk=>hk.2) (.int .i64 (rd [4,5,6,8,10,12,20,24] (Go.bits .and .i64 a0_2 7)))) (fun _ hk=>hk.2) (.int .i64 (wrap64 ((wrap64 (10 * (wrap64 (1+t107))))+a1)))) (fun _ hk=>hk.2) (.slice Ao89 x109005_45.length co89)) (fun _ hk=>hk.2) (.slice Ao90 x109006_3.length co90)) (fun _ hk=>trivial),by (with_reducible repeat (first|apply Kd.R_alloc|apply Kd.R_drewN|apply Kd.R_drew));exact Kd.R_mono (Kd.R_far (p:=⟨gb102,6,none⟩) (Kd.R_far (p:=⟨gb102,5,none⟩) (Kd.R_far (p:=⟨gb102,4,none⟩) (Kd.R_far (p:=⟨gb102,3,none⟩) (Kd.R_far (p:=⟨gb102,2,none⟩) (Kd.R_far (p:=⟨gb102,1,none⟩) (Kd.R_far (p:=⟨gb102,0,none⟩) (Kd.R_types HO_109006.out BK102.out (by decide)) (fun _ hk=>hk.2) (.int .i64 (wrap64 (a1+1)))) (fun _ hk=>hk.2) (.int .i64 (wrap64 (1+t106)))) (fun _ hk=>hk.2) (.int .i64 (wrap64 (1+t105)))) (fun _ hk=>hk.2) (.int .i64 (rd [4,5,6,8,10,12,20,24] (Go.bits .and .i64 a0_2 7)))) (fun _ hk=>hk.2) (.int .i64 (wrap64 ((wrap64 (10 * (wrap64 (1+t107))))+a1)))) (fun _ hk=>hk.2) (.slice Ao89 x109005_45.length co89)) (fun _ hk=>hk.2) (.slice Ao90 x109006_3.length co90)) (fun _ hk=>trivial),by repeat (first|(with_reducible first|exact HB.out|apply qai|apply qag|apply qaj|refine qaf ?_ GE101.out|refine qaf ?_ GE102.out|refine qaf ?_ GE103.out|refine qaf ?_ GE108.out)|exact HB.out)⟩
  ·rw [if_neg c5] at H
   exact absurd H (by simp)
 ·rw [if_neg c4] at H
  exact absurd H (by simp)
end
end Go.Proofs.YtcfknijdhmildaaDoor.PParseFirst
end
