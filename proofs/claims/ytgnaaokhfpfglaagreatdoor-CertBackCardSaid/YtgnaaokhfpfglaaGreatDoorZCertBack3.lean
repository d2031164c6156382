/- Texts of this claim, one behind the other: ParseO, ParseP, PrnL, FactsK, RunW, PrnP, CrtA, CrtE, CrtB, TabsCertBack, FactsT, CrtP, CrtM, Num, HeadA, HeadB, HeadC, HeadD, HeadE, HeadF, HeadG, HeadH, HeadI, HeadJ, HeadK, ParseQ, PrnA, PrnB, Blk. -/
import Derived.Test.YtgnaaokhfpfglaaGreatDoorZCertBack2
import Derived.Test.YtgnaaokhfpfglaaGreatDoorZCertBack1
import Derived.Lib.Builder
import Derived.Lib.AppendStr
import Derived.Deep.MidRow
import Derived.Laws.AppendOwn
import Derived.OwnWalk

set_option maxHeartbeats 8000000
set_option maxRecDepth 100000
set_option linter.unusedVariables false
set_option linter.unusedSimpArgs false
section
namespace Go.Proofs.YtgnaaokhfpfglaaGreatDoor
open Go.RowKit Go.Shelf Go.Lib Go.Proofs.YtgnaaokhfpfglaaGreatDoorW.PrintWords
def digB (n:Int):ByteArray:=⟨(itoa n).toArray⟩
def lineN (x:Tk):ByteArray:=(((((((((⟨#[116,97,115,107,32]⟩:ByteArray)++digB x.id)++⟨#[32,99,61]⟩)++digB x.c)++⟨#[32,100,61]⟩)++digB x.d)++⟨#[32,116,61]⟩)++digB x.t)++⟨#[32,112,61]⟩)++digB x.p
def lineC (x:Tk):ByteArray:=if 0<x.ch.length then (lineN x++⟨#[32,99,104,117,110,107,115,61]⟩)++joinP x.ch else lineN x
def lineP (x:Tk):ByteArray:=if 0<x.us.length then (lineC x++⟨#[32,117,115,101,61]⟩)++joinP x.us else lineC x
theorem qaD (n:Int) (h0 : -9223372036854775808<=n) (h1:n<=9223372036854775807):(digB n).size<=21:=by
 rw [Lib.size_eq];exact itoa_len n h0 h1
theorem lens_le (l:List (List UInt8)) (n:Nat) (h:∀ y ∈ l,y.length<=n):lens l<=l.length * n:=by
 induction l with
 |nil=>simp [lens]
 |cons x r ih=>
  have hx:=h x List.mem_cons_self;have hr:=ih (fun y hy=>h y (List.mem_cons_of_mem _ hy));have e:lens (x::r)=x.length+lens r:=by simp [lens]
  rw [e,List.length_cons,Nat.succ_mul];omega
theorem join_size (l:List (List UInt8)) (n:Nat) (h:∀ y ∈ l,y.length<=n):(Lib.join l [44]).length<=l.length * (n+1):=by
 cases l with
 |nil=>simp [join_nil]
 |cons x r=>
  have:=lens_le (x::r) n h;rw [join_length,Nat.mul_succ];simp only [List.length_cons,List.length_nil] at this ⊢;omega
theorem joinP_size {l:List Int} (hl:∀ y ∈ l,-9223372036854775808<=y/\y<=9223372036854775807):(joinP l).size<=l.length * 22:=by
 unfold joinP;rw [Lib.size_eq];have:=join_size (l.map itoa) 21 (fun y hy=>by
  obtain⟨z,hz,rfl⟩:=List.mem_map.1 hy
  exact itoa_len z (hl z hz).1 (hl z hz).2)
 simpa using this
theorem qbi {W:World} {r:Nat} {t:TypeId} {a0 a1 a2 a3 a4 a5 a6:Value} (hb:W.heap[r]? = some (.cells #[a0,a1,a2,a3,a4,a5,a6] t (0,0))):W.cell? ⟨r,0,none⟩=some a0/\W.cell? ⟨r,1,none⟩=some a1/\W.cell? ⟨r,2,none⟩=some a2/\W.cell? ⟨r,3,none⟩=some a3/\W.cell? ⟨r,4,none⟩=some a4/\W.cell? ⟨r,5,none⟩=some a5/\W.cell? ⟨r,6,none⟩=some a6:=by
 refine⟨?_,?_,?_,?_,?_,?_,?_⟩<;>simp [World.cell?,hb]
theorem held_below {w W w':World} {tb:Nat} {v0 v1 v2 v3 v4 v5 v6:Value} (h:W.cell? ⟨tb,0,none⟩=some v0/\W.cell? ⟨tb,1,none⟩=some v1/\W.cell? ⟨tb,2,none⟩=some v2/\W.cell? ⟨tb,3,none⟩=some v3/\W.cell? ⟨tb,4,none⟩=some v4/\W.cell? ⟨tb,5,none⟩=some v5/\W.cell? ⟨tb,6,none⟩=some v6/\Below tb w W) (hb:Below W.heap.size W w') :
  w'.cell? ⟨tb,0,none⟩=some v0/\w'.cell? ⟨tb,1,none⟩=some v1/\w'.cell? ⟨tb,2,none⟩=some v2/\w'.cell? ⟨tb,3,none⟩=some v3/\w'.cell? ⟨tb,4,none⟩=some v4/\w'.cell? ⟨tb,5,none⟩=some v5/\w'.cell? ⟨tb,6,none⟩=some v6/\Below tb w w':=by
 obtain⟨h0,h1,h2,h3,h4,h5,h6,h7⟩:=h;have hl:=qaM h0;have m:∀ i v,W.cell? ⟨tb,i,none⟩=some v->w'.cell? ⟨tb,i,none⟩=some v:=fun i v h=>(hb.cell (p:=⟨tb,i,none⟩) hl).trans h
 exact⟨m _ _ h0,m _ _ h1,m _ _ h2,m _ _ h3,m _ _ h4,m _ _ h5,m _ _ h6,h7.trans (hb.mono (Nat.le_of_lt hl))⟩
theorem arr_range (xs:Array Value) (n:Nat) (h:xs.size=n):xs=((List.range n).map (fun k=>xs.getD k undef)).toArray:=by
 refine Array.ext (by simp [h]) (fun i h1 h2=>?_);simp [gDe,h1]
theorem rightE_small {x:Tk} {sets:Int} (hs:sets<=256) (h:rightE x.id x.c x.d x.t x.p x.ch x.us sets=0):(1<=x.id/\x.id<=99)/\(1<=x.p/\x.p<=99)/\(1<=x.c/\x.c<=x.d/\x.d<=x.t/\x.t<=1073741824)/\x.ch.length<=64/\(∀ y ∈ x.ch,1<=y/\y<=1073741824)/\x.us.length<=64/\(∀ y ∈ x.us,0<=y/\y<256):=by
 unfold rightE at h;split at h
 .rename_i h1;split at h
  .rename_i h2;split at h
   .rename_i h3;split at h
    .rename_i h4;unfold inB at h1 h2;simp only [decide_eq_true_eq] at h1 h2;have hch:∀ (l:List Int) (left z:Int),chunkL left l=some z->0<=left->(∀ y ∈ l,1<=y/\y<=left):=by
      intro l
      induction l with
      |nil=>intro _ _ _ _ y hy;cases hy
      |cons a r ih=>
       intro left z hz h0 y hy;rw [chunkL] at hz;split at hz
       .rename_i ha;rcases List.mem_cons.1 hy with rfl|hy
        .exact ha
        .have:=ih (left - a) z hz (by omega) y hy;omega
       .cases hz
     unfold chunksB at h3;cases hz:chunkL x.c x.ch with
     |none=>rw [hz] at h3;cases h3
     |some z=>
      rw [hz] at h3;have h3':(decide (x.ch.length=0) || (decide (x.ch.length<=64) && decide (z=0)))=true:=h3;simp at h3';have hc:=hch x.ch x.c z hz (by omega);refine⟨h1.1,h1.2,⟨h2.1.1,h2.1.2,h2.2.1.2,h2.2.2⟩,?_,fun y hy=>⟨(hc y hy).1,by have:=(hc y hy).2;omega⟩,h4.1,fun y hy=>?_⟩
      .rcases h3' with h|h
       .rw [h];simp
       .omega
      .have:=List.any_eq_false.1 h4.2 y hy;unfold farB at this;simp at this;omega
    .omega
   .omega
  .omega
 .omega
noncomputable def lineT (x:Tk):ByteArray:=if rightE x.id x.c x.d x.t x.p x.ch x.us 256=0 then lineP x else ⟨#[]⟩
def headT (sets rel:Int):ByteArray:=((((⟨#[99,97,99,104,101,32]⟩:ByteArray)++digB sets)++⟨#[32]⟩)++digB rel)++⟨#[10]⟩
noncomputable def goT:ByteArray->List Tk->ByteArray
 |h,[]=>h
 |h,x::r=>goT ((h++lineT x)++⟨#[10]⟩) r
noncomputable def printT (sets rel:Int) (L:List Tk):ByteArray:=goT (headT sets rel) L
theorem goT_append (L M:List Tk):∀ h,goT h (L++M)=goT (goT h L) M:=by
 induction L with
 |nil=>intro h;rfl
 |cons x r ih=>intro h;exact ih _
theorem goT_succ {L:List Tk} {i:Nat} (hi:i<L.length) (h:ByteArray):goT h (L.take (i+1))=(goT h (L.take i)++lineT L[i])++⟨#[10]⟩:=by
 rw [List.take_add_one,List.getElem?_eq_getElem hi,goT_append];rfl
theorem lineT_size (x:Tk):(lineT x).size<=3100:=by
 unfold lineT;split
 .rename_i h;obtain⟨h1,h2,h3,h4,h5,h6,h7⟩:=rightE_small (sets:=256) (by decide) h;have d0:=qaD x.id (by omega) (by omega);have d1:=qaD x.c (by omega) (by omega);have d2:=qaD x.d (by omega) (by omega);have d3:=qaD x.t (by omega) (by omega);have d4:=qaD x.p (by omega) (by omega);have j5:=joinP_size (l:=x.ch) (fun y hy=>by have:=h5 y hy;omega);have j6:=joinP_size (l:=x.us) (fun y hy=>by have:=h7 y hy;omega);have z0:(⟨#[116,97,115,107,32]⟩:ByteArray).size=5:=rfl;have z1:(⟨#[32,99,61]⟩:ByteArray).size=3:=rfl;have z2:(⟨#[32,100,61]⟩:ByteArray).size=3:=rfl;have z3:(⟨#[32,116,61]⟩:ByteArray).size=3:=rfl;have z4:(⟨#[32,112,61]⟩:ByteArray).size=3:=rfl;have z5:(⟨#[32,99,104,117,110,107,115,61]⟩:ByteArray).size=8:=rfl;have z6:(⟨#[32,117,115,101,61]⟩:ByteArray).size=5:=rfl;have hN:(lineN x).size<=122:=by unfold lineN;simp only [ByteArray.size_append];omega
  have hC:(lineC x).size<=1600:=by
   unfold lineC;split
   .simp only [ByteArray.size_append];omega
   .omega
  unfold lineP;split
  .simp only [ByteArray.size_append];omega
  .omega
 .exact Nat.zero_le _
theorem goT_size (L:List Tk):∀ h,(goT h L).size<=h.size+L.length * 3101:=by
 induction L with
 |nil=>intro h;exact Nat.le_add_right _ _
 |cons x r ih=>
  intro h;have h1:=ih ((h++lineT x)++⟨#[10]⟩);have h2:=lineT_size x;have z:(⟨#[10]⟩:ByteArray).size=1:=rfl;simp only [ByteArray.size_append,List.length_cons,goT] at h1 ⊢;rw [Nat.succ_mul];omega
theorem headT_size (sets rel:Int) (h0:0<=sets/\sets<=256) (h1:0<=rel/\rel<=1000):(headT sets rel).size<=50:=by
 have d0:=qaD sets (by omega) (by omega);have d1:=qaD rel (by omega) (by omega);have z0:(⟨#[99,97,99,104,101,32]⟩:ByteArray).size=6:=rfl;have z1:(⟨#[32]⟩:ByteArray).size=1:=rfl;have z2:(⟨#[10]⟩:ByteArray).size=1:=rfl;unfold headT;simp only [ByteArray.size_append];omega
theorem tk_at {w:World} {A:Option Addr} {l:List Tk} (h:Kd.C kTk w A l.length l) (hl:0<l.length):∃ b off,A=some ⟨b,off,none⟩/\b<w.heap.size/\∀ j (hj:j<l.length),∃ A5 c5 A6 c6,
  w.cell? ⟨b,off+j * 7,none⟩=some (.int .i64 l[j].id)/\w.cell? ⟨b,off+j * 7+1,none⟩=some (.int .i64 l[j].c)/\w.cell? ⟨b,off+j * 7+2,none⟩=some (.int .i64 l[j].d)/\w.cell? ⟨b,off+j * 7+3,none⟩=some (.int .i64 l[j].t)/\w.cell? ⟨b,off+j * 7+4,none⟩=some (.int .i64 l[j].p) /\
   w.cell? ⟨b,off+j * 7+5,none⟩=some (.slice A5 l[j].ch.length c5)/\w.cell? ⟨b,off+j * 7+6,none⟩=some (.slice A6 l[j].us.length c6)/\Kd.C (Kd.int .i64) w A5 l[j].ch.length l[j].ch/\l[j].ch.length<=c5/\Kd.C (Kd.int .i64) w A6 l[j].us.length l[j].us/\l[j].us.length<=c6:=by
 obtain⟨_,_,h⟩:=h;obtain⟨ad,rfl,hc⟩:=h hl;have hat:∀ j (hj:j<l.length),∃ A5 c5 A6 c6,(∀ i u,[Value.int .i64 l[j].id,.int .i64 l[j].c,.int .i64 l[j].d,.int .i64 l[j].t,.int .i64 l[j].p,.slice A5 l[j].ch.length c5,.slice A6 l[j].us.length c6][i]? = some u->w.cell? (ad.add (j * 7+i))=some u)/\l[j].ch.length<=c5/\Kd.C (Kd.int .i64) w A5 l[j].ch.length l[j].ch/\l[j].us.length<=c6/\Kd.C (Kd.int .i64) w A6 l[j].us.length l[j].us:=by
  intro j hj;obtain⟨c,_,hk,hcell⟩:=hc j _ (List.getElem?_eq_getElem hj);obtain⟨A5,c5,A6,c6,rfl,g1,g5,g2,g6⟩:=kTk_open hk;exact⟨A5,c5,A6,c6,hcell,g1,g5,g2,g6⟩
 obtain⟨_,_,_,_,h00,_⟩:=hat 0 hl;have h00:=h00 0 _ rfl;have hsp:=World.cell?_spot h00;have hlt:=bLt w _ h00;obtain⟨b,off,spot⟩:=ad;have hs:spot=none:=by simpa [Addr.add] using hsp
 subst hs;have hadd:∀ j,(⟨b,off,none⟩:Addr).add j=⟨b,off+j,none⟩:=fun j=>by unfold Addr.add;split<;>simp_all
 refine⟨b,off,rfl,by simpa [hadd] using hlt,fun i hi=>?_⟩;obtain⟨A5,c5,A6,c6,g,e5,g5,e6,g6⟩:=hat i hi;have g0:=g 0 _ rfl;have g1:=g 1 _ rfl;have g2:=g 2 _ rfl;have g3:=g 3 _ rfl;have g4:=g 4 _ rfl;have q5:=g 5 _ rfl;have q6:=g 6 _ rfl;rw [hadd] at g0 g1 g2 g3 g4 q5 q6;exact⟨A5,c5,A6,c6,g0,by rw [Nat.add_assoc];exact g1,by rw [Nat.add_assoc];exact g2,by rw [Nat.add_assoc];exact g3,by rw [Nat.add_assoc];exact g4,by rw [Nat.add_assoc];exact q5,by rw [Nat.add_assoc];exact q6,g5,e5,g6,e6⟩
theorem checkE_small {sets rel:Int} {L:List Tk} (h:checkE sets rel L=0):(0<=sets/\sets<=256)/\(0<=rel/\rel<=1000)/\0<L.length/\L.length<=64:=by
 unfold checkE at h;split at h
 .rename_i h1;split at h
  .rename_i h2;unfold inB at h1;simp only [decide_eq_true_eq] at h1;exact⟨h1.1,h1.2.1,by omega,h2⟩
  .cases h
 .cases h
theorem task_words (x:Tk):(lineP x)=⟨(Lib.join ((([⟨#[116,97,115,107]⟩,digB x.id,⟨#[99,61]⟩++digB x.c,⟨#[100,61]⟩++digB x.d,⟨#[116,61]⟩++digB x.t,⟨#[112,61]⟩++digB x.p]
  ++ ((if 0<x.ch.length then [(⟨#[99,104,117,110,107,115,61]⟩:ByteArray)++joinP x.ch] else [])++(if 0<x.us.length then [(⟨#[117,115,101,61]⟩:ByteArray)++joinP x.us] else []))):List ByteArray).map (·.data.toList)) [32]).toArray⟩:=by
 refine ByteArray.ext (Array.ext' ?_);unfold lineP lineC lineN;by_cases h1:0<x.ch.length
 .by_cases h2:0<x.us.length
  .simp [h1,h2,Lib.join,List.intercalate,ByteArray.data_append]
  .simp [h1,h2,Lib.join,List.intercalate,ByteArray.data_append]
 .by_cases h2:0<x.us.length
  .simp [h1,h2,Lib.join,List.intercalate,ByteArray.data_append]
  .simp [h1,h2,Lib.join,List.intercalate,ByteArray.data_append]
theorem sjoin_own {w:World} {base:Nat} {v:Value} (S:List ByteArray) (R:ByteArray) (h:w.ownsRow base 9 1 v S.length (S.map Value.string)) (h0:0<S.length) (h9:S.length<=100) (hR:R=⟨(Lib.join (S.map (·.data.toList)) [32]).toArray⟩) (hs:R.size<=140737488355328) :
  Calls Tryz.prog 74 #[v,.string ⟨#[32]⟩] w fun e w'=>e=.returned (.string R)/\Below w.heap.size w w':=by
 rcases h.2 with ⟨_,h1⟩|⟨g,cap,cur,rfl,h1,h2,h3,h4,h5,h6⟩
 .omega
 .subst hR;rw [Lib.size_eq] at hs;refine Tryz.strings_Join g 0 cap S ⟨#[32]⟩ w (fun j x hx=>?_) (lt_of_block h2) (by omega) h3 (by simpa using hs);have hj:(S.map Value.string)[j]? = some (.string x):=by rw [List.getElem?_map,hx];rfl
  rw [<- h6,List.getElem?_take] at hj;split at hj
  .rw [World.cell?,h2]
   simpa using hj
  .cases hj
theorem fill_next {l:List Int} {n i:Nat} (hn:l.length=n) (hi:i<n):(l.take (i+1)).map (Value.int .i64)++List.replicate (n - (i+1)) (Value.int .i64 0)=((l.take i).map (Value.int .i64)++List.replicate (n - i) (Value.int .i64 0)).set i (Value.int .i64 (l[i]'(by omega))):=by
 have hil:i<l.length:=by omega
 have e:n - i=(n - (i+1))+1:=by omega
 have hl:((l.take i).map (Value.int .i64)).length=i:=by rw [List.length_map,List.length_take];omega
 rw [List.set_append_right _ _ (by omega),hl,Nat.sub_self,e,List.replicate_succ,List.set_cons_zero,List.take_succ_eq_append_getElem hil,List.map_append];simp
theorem row_snoc {w:World} {base:Nat} {e:TypeId} {v:Value} {S:List ByteArray} {n:Nat} (x:ByteArray) (hn:S.length=n) (h:w.ownsRow base e 1 v (n+1) (S.map Value.string++[.string x])):w.ownsRow base e 1 v (S++[x]).length ((S++[x]).map Value.string):=by
 rw [List.length_append,hn]
 simpa using h
def TkIn (tb:Nat) (x:Tk) (A5:Option Addr) (lc c5:Nat) (A6:Option Addr) (lu c6:Nat) (w W:World):Prop:=W.cell? ⟨tb,0,none⟩=some (.int .i64 x.id)/\W.cell? ⟨tb,1,none⟩=some (.int .i64 x.c)/\W.cell? ⟨tb,2,none⟩=some (.int .i64 x.d)/\W.cell? ⟨tb,3,none⟩=some (.int .i64 x.t)/\W.cell? ⟨tb,4,none⟩=some (.int .i64 x.p)/\W.cell? ⟨tb,5,none⟩=some (.slice A5 lc c5)/\W.cell? ⟨tb,6,none⟩=some (.slice A6 lu c6)/\Below tb w W
theorem TkIn.below {tb:Nat} {x:Tk} {A5:Option Addr} {lc c5:Nat} {A6:Option Addr} {lu c6:Nat} {w W W':World} (h:TkIn tb x A5 lc c5 A6 lu c6 w W) (hb:Below W.heap.size W W'):TkIn tb x A5 lc c5 A6 lu c6 w W':=held_below h hb
theorem TkIn.lt {tb:Nat} {x:Tk} {A5:Option Addr} {lc c5:Nat} {A6:Option Addr} {lu c6:Nat} {w W:World} (h:TkIn tb x A5 lc c5 A6 lu c6 w W):tb<W.heap.size:=qaM h.1
theorem TkIn.grown {tb:Nat} {x:Tk} {A5:Option Addr} {lc c5:Nat} {A6:Option Addr} {lu c6:Nat} {w W W':World} {row:Option Nat} (h:TkIn tb x A5 lc c5 A6 lu c6 w W) (hg:W.grownBy W' row) (hr:∀ k,row=some k->tb<k):TkIn tb x A5 lc c5 A6 lu c6 w W':=by
 have hl:=h.lt;have hb:W'.heap[tb]? = W.heap[tb]?:=hg.block tb hl (fun e=>by have:=hr tb e.symm;omega);obtain⟨h0,h1,h2,h3,h4,h5,h6,hB⟩:=h;have m:∀ i v,W.cell? ⟨tb,i,none⟩=some v->W'.cell? ⟨tb,i,none⟩=some v:=fun i v h=>(World.cell?_of_block hb).trans h
 exact⟨m _ _ h0,m _ _ h1,m _ _ h2,m _ _ h3,m _ _ h4,m _ _ h5,m _ _ h6,hB.grown hg (by omega) (fun k e=>by have:=hr k e;omega)⟩
theorem arr_lit70 (xs:Array Value) (h:xs.size=70):xs=List.toArray (xs.getD 0 undef::xs.getD 1 undef::xs.getD 2 undef::xs.getD 3 undef::xs.getD 4 undef::xs.getD 5 undef::xs.getD 6 undef::xs.getD 7 undef::xs.getD 8 undef::xs.getD 9 undef::xs.getD 10 undef::xs.getD 11 undef::xs.getD 12 undef::xs.getD 13 undef::xs.getD 14 undef::xs.getD 15 undef::xs.getD 16 undef::xs.getD 17 undef::xs.getD 18 undef::xs.getD 19 undef::xs.getD 20 undef::xs.getD 21 undef::xs.getD 22 undef::xs.getD 23 undef::xs.getD 24 undef::xs.getD 25 undef::xs.getD 26 undef::xs.getD 27 undef::xs.getD 28 undef::xs.getD 29 undef::xs.getD 30 undef::xs.getD 31 undef::xs.getD 32 undef::xs.getD 33 undef::xs.getD 34 undef::xs.getD 35 undef::xs.getD 36 undef::xs.getD 37 undef::xs.getD 38 undef::xs.getD 39 undef::xs.getD 40 undef::xs.getD 41 undef::xs.getD 42 undef::xs.getD 43 undef::xs.getD 44 undef::xs.getD 45 undef::xs.getD 46 undef::xs.getD 47 undef::xs.getD 48 undef::xs.getD 49 undef::xs.getD 50 undef::xs.getD 51 undef::xs.getD 52 undef::xs.getD 53 undef::xs.getD 54 undef::xs.getD 55 undef::xs.getD 56 undef::xs.getD 57 undef::xs.getD 58 undef::xs.getD 59 undef::xs.getD 60 undef::xs.getD 61 undef::xs.getD 62 undef::xs.getD 63 undef::xs.getD 64 undef::xs.getD 65 undef::xs.getD 66 undef::xs.getD 67 undef::xs.getD 68 undef::xs.getD 69 undef::[]):=arr_range xs 70 h
theorem line_any (x:Tk) (A5:Option Addr) (c5:Nat) (A6:Option Addr) (c6:Nat) (w:World) (h5:x.ch.length<=4000000) (h6:x.us.length<=4000000) (hc:x.c<=9223372036854775807) (hr5:NRow w w.heap.size A5 x.ch) (hr6:NRow w w.heap.size A6 x.us)
  (htab:Lib.TabIs Tryz.prog w "internal/strconv.uint64pow10" .u64 Lib.pow10Tab) (hg:1<w.heap.size) :
  Calls Tryz.prog 75 #[.agg #[.int .i64 x.id,.int .i64 x.c,.int .i64 x.d,.int .i64 x.t,.int .i64 x.p,.slice A5 x.ch.length c5,.slice A6 x.us.length c6]] w fun e w'=>
   e=.returned (.string (lineT x))/\Below w.heap.size w w':=by
 unfold lineT;have hb0:=(bR9 w.heap.size w).alloc (nR9 _) (.cells #[.int .i64 x.id,.int .i64 x.c,.int .i64 x.d,.int .i64 x.t,.int .i64 x.p,.slice A5 x.ch.length c5,.slice A6 x.us.length c6] 58);have hn0:=heap_alloc_new w (.cells #[.int .i64 x.id,.int .i64 x.c,.int .i64 x.d,.int .i64 x.t,.int .i64 x.p,.slice A5 x.ch.length c5,.slice A6 x.us.length c6] 58);have HRT1:=hI9 (right_task x.id x.c x.d x.t x.p A5 c5 x.ch A6 c6 x.us 256 (w.alloc (.cells #[.int .i64 x.id,.int .i64 x.c,.int .i64 x.d,.int .i64 x.t,.int .i64 x.p,.slice A5 x.ch.length c5,.slice A6 x.us.length c6] 58)) h5 h6 hc (hr5.below hb0 (nR9 _) |>.more hb0.size) (hr6.below hb0 (nR9 _) |>.more hb0.size));have HN5:=hI9 hr5;have HN6:=hI9 hr6;have HTB:=hI9 (And.intro htab hg);have HSM:=hI9 (fun h=>rightE_small (x:=x) (sets:=256) (by decide) h);have HLP:=hI9 (task_words x);have HLZ:Hid (rightE x.id x.c x.d x.t x.p x.ch x.us 256=0->(lineP x).size<=3100):=hI9 (fun h=>by have:=lineT_size x;unfold lineT at this;rwa [if_pos h] at this);generalize lineP x=LP at HLP HLZ ⊢;obtain⟨lc,hlc⟩:∃ z,x.ch.length=z:=⟨_,rfl⟩;obtain⟨lu,hlu⟩:∃ z,x.us.length=z:=⟨_,rfl⟩;have HJ5:Hid (∀ (W:World),Below w.heap.size w W->(∀ y ∈ x.ch,-9223372036854775808<=y/\y<=9223372036854775807)->x.ch.length<=1000->NRow W W.heap.size A5 x.ch->Calls Tryz.prog 39 #[.slice A5 lc c5] W fun e w'=>e=.returned (.string (joinP x.ch))/\Below W.heap.size W w'):=hI9 (fun W hb hl hn hr=>hlc ▸ join_any A5 c5 x.ch W hl hn hr (qaR htab hb hg) (by have:=hb.size;omega));have HJ6:Hid (∀ (W:World) (A:Option Addr) (c:Nat),Below w.heap.size w W->(∀ y ∈ x.us,-9223372036854775808<=y/\y<=9223372036854775807)->x.us.length<=1000->NRow W W.heap.size A x.us->Calls Tryz.prog 39 #[.slice A lu c] W fun e w'=>e=.returned (.string (joinP x.us))/\Below W.heap.size W w'):=hI9 (fun W A c hb hl hn hr=>hlu ▸ join_any A c x.us W hl hn hr (qaR htab hb hg) (by have:=hb.size;omega));have j5:Hid ((∀ y ∈ x.ch,-9223372036854775808<=y/\y<=9223372036854775807)->(joinP x.ch).size<=x.ch.length * 22):=hI9 joinP_size;have j6:Hid ((∀ y ∈ x.us,-9223372036854775808<=y/\y<=9223372036854775807)->(joinP x.us).size<=x.us.length * 22):=hI9 joinP_size;generalize joinP x.ch=J5 at HJ5 j5 HLP;generalize joinP x.us=J6 at HJ6 j6 HLP;rw [hlc,hlu] at hb0 hn0 HRT1;rw [hlc,hlu];rw [hlc,hlu] at HLP;have HLL:=hI9 (And.intro hlc hlu);generalize hE:rightE x.id x.c x.d x.t x.p x.ch x.us 256=E at HRT1 HSM HLZ ⊢;clear hE hlc hlu hr5 hr6 h5 h6 hc htab hg;by_cases hE0:E=0;rotate_left
 .rw [if_neg hE0];have hEb:(E == 0)=false:=by simpa using hE0
  clear hE0;go_enter Tryz.func75,Tryz.ntmps75;go_upto_region 1 with (fail)
  generalize w.alloc (.cells #[.int .i64 x.id,.int .i64 x.c,.int .i64 x.d,.int .i64 x.t,.int .i64 x.p,.slice A5 lc c5,.slice A6 lu c6] 58)=w0 at hb0 hn0 HRT1 ⊢;obtain⟨t0,t1,t2,t3,t4,t5,t6⟩:=qbi hn0;have HB:=hI9 hb0;clear hb0 hn0;go_wp2_with (go_at_call 98;refine HRT1.out.mono ?_;rintro e w1 ⟨rfl,hb1⟩)
  go_ret;exact⟨rfl,HB.out.trans (hb1.mono HB.out.size)⟩
 subst hE0;rw [if_pos rfl];obtain⟨hid,hp,hcdt,hcl,hch,hul,hus⟩:=HSM.out rfl;have d0:=qaD x.id (by omega) (by omega);have d1:=qaD x.c (by omega) (by omega);have d2:=qaD x.d (by omega) (by omega);have d3:=qaD x.t (by omega) (by omega);have d4:=qaD x.p (by omega) (by omega);have sJ5:J5.size<=1408:=by have:=j5.out (fun y hy=>by have:=hch y hy;omega);omega
 have sJ6:J6.size<=1408:=by have:=j6.out (fun y hy=>by have:=hus y hy;omega);omega
 have sLP:Hid (LP.size<=3100):=hI9 (HLZ.out rfl);clear j5 j6 HLZ;have HCH:=hI9 hch;have HUS:=hI9 hus;have D0:=hI9 (fun W h=>qbc x.id W (by omega) (by omega) h);have D1:=hI9 (fun W h=>qbc x.c W (by omega) (by omega) h);have D2:=hI9 (fun W h=>qbc x.d W (by omega) (by omega) h);have D3:=hI9 (fun W h=>qbc x.t W (by omega) (by omega) h);have D4:=hI9 (fun W h=>qbc x.p W (by omega) (by omega) h);rw [show (⟨(itoa x.id).toArray⟩:ByteArray)=digB x.id from rfl] at D0;rw [show (⟨(itoa x.c).toArray⟩:ByteArray)=digB x.c from rfl] at D1;rw [show (⟨(itoa x.d).toArray⟩:ByteArray)=digB x.d from rfl] at D2;rw [show (⟨(itoa x.t).toArray⟩:ByteArray)=digB x.t from rfl] at D3;rw [show (⟨(itoa x.p).toArray⟩:ByteArray)=digB x.p from rfl] at D4;generalize digB x.id=b0 at d0 D0 HLP;generalize digB x.c=b1 at d1 D1 HLP;generalize digB x.d=b2 at d2 D2 HLP;generalize digB x.t=b3 at d3 D3 HLP;generalize digB x.p=b4 at d4 D4 HLP;clear hch hus hid hp hcdt HSM;go_enter Tryz.func75,Tryz.ntmps75;go_upto_region 1 with (fail)
 generalize w.alloc (.cells #[.int .i64 x.id,.int .i64 x.c,.int .i64 x.d,.int .i64 x.t,.int .i64 x.p,.slice A5 lc c5,.slice A6 lu c6] 58)=w0 at hb0 hn0 HRT1 ⊢;obtain⟨tb,htb⟩:∃ z,w.heap.size=z:=⟨_,rfl⟩;rw [htb] at hn0 ⊢;obtain⟨t0,t1,t2,t3,t4,t5,t6⟩:=qbi hn0;have HB:=hI9 (And.intro hb0 hn0);clear hb0 hn0;go_upto_region 3 with (go_at_call 98;refine HRT1.out.mono ?_;rintro e w1 ⟨rfl,hb1⟩)
 have HS1:TkIn tb x A5 lc c5 A6 lu c6 w w1:=TkIn.below (W:=w0) ⟨t0,t1,t2,t3,t4,t5,t6,by rw [<- htb];exact HB.out.1⟩ hb1;have HW:Hid (w.heap.size=tb):=hI9 htb;clear t0 t1 t2 t3 t4 t5 t6 hb1 HB HRT1;have C0:Hid (∀ (W:World),TkIn tb x A5 lc c5 A6 lu c6 w W->Calls Tryz.prog 73 #[.int .i64 x.id] W fun e w'=>e=.returned (.string b0)/\(TkIn tb x A5 lc c5 A6 lu c6 w w'/\Below W.heap.size W w')):=hI9 (fun W h=>(D0.out W (qaR HTB.out.1 (by rw [HW.out];exact h.2.2.2.2.2.2.2) HTB.out.2)).mono fun e w' ⟨h1,h2⟩=>⟨h1,h.below h2,h2⟩);have C1:Hid (∀ (W:World),TkIn tb x A5 lc c5 A6 lu c6 w W->Calls Tryz.prog 73 #[.int .i64 x.c] W fun e w'=>e=.returned (.string b1)/\(TkIn tb x A5 lc c5 A6 lu c6 w w'/\Below W.heap.size W w')):=hI9 (fun W h=>(D1.out W (qaR HTB.out.1 (by rw [HW.out];exact h.2.2.2.2.2.2.2) HTB.out.2)).mono fun e w' ⟨h1,h2⟩=>⟨h1,h.below h2,h2⟩);have C2:Hid (∀ (W:World),TkIn tb x A5 lc c5 A6 lu c6 w W->Calls Tryz.prog 73 #[.int .i64 x.d] W fun e w'=>e=.returned (.string b2)/\(TkIn tb x A5 lc c5 A6 lu c6 w w'/\Below W.heap.size W w')):=hI9 (fun W h=>(D2.out W (qaR HTB.out.1 (by rw [HW.out];exact h.2.2.2.2.2.2.2) HTB.out.2)).mono fun e w' ⟨h1,h2⟩=>⟨h1,h.below h2,h2⟩);have C3:Hid (∀ (W:World),TkIn tb x A5 lc c5 A6 lu c6 w W->Calls Tryz.prog 73 #[.int .i64 x.t] W fun e w'=>e=.returned (.string b3)/\(TkIn tb x A5 lc c5 A6 lu c6 w w'/\Below W.heap.size W w')):=hI9 (fun W h=>(D3.out W (qaR HTB.out.1 (by rw [HW.out];exact h.2.2.2.2.2.2.2) HTB.out.2)).mono fun e w' ⟨h1,h2⟩=>⟨h1,h.below h2,h2⟩);have C4:Hid (∀ (W:World),TkIn tb x A5 lc c5 A6 lu c6 w W->Calls Tryz.prog 73 #[.int .i64 x.p] W fun e w'=>e=.returned (.string b4)/\(TkIn tb x A5 lc c5 A6 lu c6 w w'/\Below W.heap.size W w')):=hI9 (fun W h=>(D4.out W (qaR HTB.out.1 (by rw [HW.out];exact h.2.2.2.2.2.2.2) HTB.out.2)).mono fun e w' ⟨h1,h2⟩=>⟨h1,h.below h2,h2⟩);clear D0 D1 D2 D3 D4;obtain⟨n0,hn0⟩:∃ z,w1.heap.size=z:=⟨_,rfl⟩;have HTN:Hid (tb<n0):=hI9 (by rw [<- hn0];exact HS1.lt);have HS1d:TkIn tb x A5 lc c5 A6 lu c6 w w1.drew/\n0<=w1.drew.heap.size:=⟨HS1.below (bR9 _ _).drew,by rw [<- hn0];exact nR9 _⟩;have z1:(⟨#[99,61]⟩:ByteArray).size=2:=rfl;have z2:(⟨#[100,61]⟩:ByteArray).size=2:=rfl;have z3:(⟨#[116,61]⟩:ByteArray).size=2:=rfl;have z4:(⟨#[112,61]⟩:ByteArray).size=2:=rfl;have z5:(⟨#[99,104,117,110,107,115,61]⟩:ByteArray).size=7:=rfl;have z6:(⟨#[117,115,101,61]⟩:ByteArray).size=4:=rfl;go_cut [1,2,3] from 70 (fun v1 v2 v3 wx=>v1=.pointer (some ⟨tb,0,none⟩)/\v2=.string ⟨#[]⟩/\TkIn tb x A5 lc c5 A6 lu c6 w wx/\n0<=wx.heap.size/\wx.ownsRow n0 9 1 v3 6 [.string ⟨#[116,97,115,107]⟩,.string b0,.string ((⟨#[99,61]⟩:ByteArray)++b1),.string ((⟨#[100,61]⟩:ByteArray)++b2),.string ((⟨#[116,61]⟩:ByteArray)++b3),.string ((⟨#[112,61]⟩:ByteArray)++b4)])
 case first=>
  refine wp_region_facts (by kernel_rfl) (by kernel_rfl) (fun i v W=>match i with
    |0=>v=.pointer (some ⟨tb,0,none⟩)
    |1=>v=.int .i64 x.id
    |2=>v=.string b0
    |3=>v=.pointer (some ⟨tb,1,none⟩)
    |4=>v=.int .i64 x.c
    |5=>v=.string b1
    |6=>v=.string ((⟨#[99,61]⟩:ByteArray)++b1)
    |7=>v=.pointer (some ⟨tb,2,none⟩)
    |8=>v=.int .i64 x.d
    |9=>v=.string b2
    |10=>v=.string ((⟨#[100,61]⟩:ByteArray)++b2)
    |11=>v=.pointer (some ⟨tb,3,none⟩)
    |12=>v=.int .i64 x.t
    |13=>v=.string b3
    |14=>v=.string ((⟨#[116,61]⟩:ByteArray)++b3)
    |15=>v=.pointer (some ⟨tb,4,none⟩)
    |16=>v=.int .i64 x.p
    |17=>v=.string b4
    |18=>v=.string ((⟨#[112,61]⟩:ByteArray)++b4)
    |19=>W.ownsRow n0 9 1 v 6 [.string ⟨#[116,97,115,107]⟩,.string b0,.string ((⟨#[99,61]⟩:ByteArray)++b1),.string ((⟨#[100,61]⟩:ByteArray)++b2),.string ((⟨#[116,61]⟩:ByteArray)++b3),.string ((⟨#[112,61]⟩:ByteArray)++b4)]
    |20=>W.ownsRow n0 9 1 v 6 [.string ⟨#[116,97,115,107]⟩,.string b0,.string ((⟨#[99,61]⟩:ByteArray)++b1),.string ((⟨#[100,61]⟩:ByteArray)++b2),.string ((⟨#[116,61]⟩:ByteArray)++b3),.string ((⟨#[112,61]⟩:ByteArray)++b4)]
    |_=>True) (fun W W'=>Below W.heap.size W W') (fun i v W W' h hk=>?_) (fun W=>TkIn tb x A5 lc c5 A6 lu c6 w W/\n0<=W.heap.size) HS1d ?_ ?_
  .match i with
   |19=>exact qaO h hk (nR9 _)
   |20=>exact qaO h hk (nR9 _)
   |0|1|2|3|4|5|6|7|8|9|10|11|12|13|14|15|16|17|18=>exact h
   |_+21=>exact h
  .intro i o a W ho hsz hfr hdep hG;have hi:i<21:=(Array.getElem?_eq_some_iff.1 ho).1;have hin:i=0\/i=1\/i=2\/i=3\/i=4\/i=5\/i=6\/i=7\/i=8\/i=9\/i=10\/i=11\/i=12\/i=13\/i=14\/i=15\/i=16\/i=17\/i=18\/i=19\/i=20:=by omega
   rcases hin with rfl|rfl|rfl|rfl|rfl|rfl|rfl|rfl|rfl|rfl|rfl|rfl|rfl|rfl|rfl|rfl|rfl|rfl|rfl|rfl|rfl
   .cases ho;have g:a.tmps.getD 1 undef=.pointer (some ⟨tb,0,none⟩):=by rw [gDe,hfr 1 (qaw (by kernel_rfl))];rfl
    clear hfr hdep hsz;generalize hK:(fun (a':Act) (w':World)=>_)=K;go_simp;rw [<- hK];exact⟨_,rfl,rfl,bR9 _ _,hG⟩
   .cases ho;obtain⟨_,q0,e0⟩:=hdep ⟨0,.data⟩ (by simp) rfl _ _ rfl rfl;have g0:a.tmps.getD 10 undef=.pointer (some ⟨tb,0,none⟩):=by rw [gDe,q0,e0];rfl
    rw [e0] at q0;clear e0;have hc:W.cell? ⟨tb,0,none⟩=some (.int .i64 x.id):=hG.1.1;clear hfr hdep hsz;generalize hK:(fun (a':Act) (w':World)=>_)=K;go_simp;rw [<- hK];exact⟨_,rfl,rfl,bR9 _ _,hG⟩
   .cases ho;obtain⟨_,q1,e1⟩:=hdep ⟨1,.data⟩ (by simp) rfl _ _ rfl rfl;have g1:a.tmps.getD 11 undef=.int .i64 x.id:=by rw [gDe,q1,e1];rfl
    rw [e1] at q1;clear e1;clear hfr hdep hsz;generalize hK:(fun (a':Act) (w':World)=>_)=K;go_simp;refine (C0.out W hG.1).mono ?_;rintro e W2 ⟨rfl,hb,hb2⟩;show K _ _;rw [<- hK];exact⟨_,rfl,rfl,hb2,hb,Nat.le_trans hG.2 hb2.size⟩
   .cases ho;have g:a.tmps.getD 1 undef=.pointer (some ⟨tb,0,none⟩):=by rw [gDe,hfr 1 (qaw (by kernel_rfl))];rfl
    clear hfr hdep hsz;generalize hK:(fun (a':Act) (w':World)=>_)=K;go_simp;rw [<- hK];exact⟨_,rfl,rfl,bR9 _ _,hG⟩
   .cases ho;obtain⟨_,q3,e3⟩:=hdep ⟨3,.data⟩ (by simp) rfl _ _ rfl rfl;have g3:a.tmps.getD 13 undef=.pointer (some ⟨tb,1,none⟩):=by rw [gDe,q3,e3];rfl
    rw [e3] at q3;clear e3;have hc:W.cell? ⟨tb,1,none⟩=some (.int .i64 x.c):=hG.1.2.1;clear hfr hdep hsz;generalize hK:(fun (a':Act) (w':World)=>_)=K;go_simp;rw [<- hK];exact⟨_,rfl,rfl,bR9 _ _,hG⟩
   .cases ho;obtain⟨_,q4,e4⟩:=hdep ⟨4,.data⟩ (by simp) rfl _ _ rfl rfl;have g4:a.tmps.getD 14 undef=.int .i64 x.c:=by rw [gDe,q4,e4];rfl
    rw [e4] at q4;clear e4;clear hfr hdep hsz;generalize hK:(fun (a':Act) (w':World)=>_)=K;go_simp;refine (C1.out W hG.1).mono ?_;rintro e W2 ⟨rfl,hb,hb2⟩;show K _ _;rw [<- hK];exact⟨_,rfl,rfl,hb2,hb,Nat.le_trans hG.2 hb2.size⟩
   .cases ho;obtain⟨_,q5,e5⟩:=hdep ⟨5,.data⟩ (by simp) rfl _ _ rfl rfl;have g5:a.tmps.getD 15 undef=.string b1:=by rw [gDe,q5,e5];rfl
    rw [e5] at q5;clear e5;clear hfr hdep hsz;generalize hK:(fun (a':Act) (w':World)=>_)=K;go_simp;rw [if_neg (by omega)];go_simp;rw [<- hK];exact⟨_,rfl,rfl,bR9 _ _,hG⟩
   .cases ho;have g:a.tmps.getD 1 undef=.pointer (some ⟨tb,0,none⟩):=by rw [gDe,hfr 1 (qaw (by kernel_rfl))];rfl
    clear hfr hdep hsz;generalize hK:(fun (a':Act) (w':World)=>_)=K;go_simp;rw [<- hK];exact⟨_,rfl,rfl,bR9 _ _,hG⟩
   .cases ho;obtain⟨_,q7,e7⟩:=hdep ⟨7,.data⟩ (by simp) rfl _ _ rfl rfl;have g7:a.tmps.getD 17 undef=.pointer (some ⟨tb,2,none⟩):=by rw [gDe,q7,e7];rfl
    rw [e7] at q7;clear e7;have hc:W.cell? ⟨tb,2,none⟩=some (.int .i64 x.d):=hG.1.2.2.1;clear hfr hdep hsz;generalize hK:(fun (a':Act) (w':World)=>_)=K;go_simp;rw [<- hK];exact⟨_,rfl,rfl,bR9 _ _,hG⟩
   .cases ho;obtain⟨_,q8,e8⟩:=hdep ⟨8,.data⟩ (by simp) rfl _ _ rfl rfl;have g8:a.tmps.getD 18 undef=.int .i64 x.d:=by rw [gDe,q8,e8];rfl
    rw [e8] at q8;clear e8;clear hfr hdep hsz;generalize hK:(fun (a':Act) (w':World)=>_)=K;go_simp;refine (C2.out W hG.1).mono ?_;rintro e W2 ⟨rfl,hb,hb2⟩;show K _ _;rw [<- hK];exact⟨_,rfl,rfl,hb2,hb,Nat.le_trans hG.2 hb2.size⟩
   .cases ho;obtain⟨_,q9,e9⟩:=hdep ⟨9,.data⟩ (by simp) rfl _ _ rfl rfl;have g9:a.tmps.getD 19 undef=.string b2:=by rw [gDe,q9,e9];rfl
    rw [e9] at q9;clear e9;clear hfr hdep hsz;generalize hK:(fun (a':Act) (w':World)=>_)=K;go_simp;rw [if_neg (by omega)];go_simp;rw [<- hK];exact⟨_,rfl,rfl,bR9 _ _,hG⟩
   .cases ho;have g:a.tmps.getD 1 undef=.pointer (some ⟨tb,0,none⟩):=by rw [gDe,hfr 1 (qaw (by kernel_rfl))];rfl
    clear hfr hdep hsz;generalize hK:(fun (a':Act) (w':World)=>_)=K;go_simp;rw [<- hK];exact⟨_,rfl,rfl,bR9 _ _,hG⟩
   .cases ho;obtain⟨_,q11,e11⟩:=hdep ⟨11,.data⟩ (by simp) rfl _ _ rfl rfl;have g11:a.tmps.getD 21 undef=.pointer (some ⟨tb,3,none⟩):=by rw [gDe,q11,e11];rfl
    rw [e11] at q11;clear e11;have hc:W.cell? ⟨tb,3,none⟩=some (.int .i64 x.t):=hG.1.2.2.2.1;clear hfr hdep hsz;generalize hK:(fun (a':Act) (w':World)=>_)=K;go_simp;rw [<- hK];exact⟨_,rfl,rfl,bR9 _ _,hG⟩
   .cases ho;obtain⟨_,q12,e12⟩:=hdep ⟨12,.data⟩ (by simp) rfl _ _ rfl rfl;have g12:a.tmps.getD 22 undef=.int .i64 x.t:=by rw [gDe,q12,e12];rfl
    rw [e12] at q12;clear e12;clear hfr hdep hsz;generalize hK:(fun (a':Act) (w':World)=>_)=K;go_simp;refine (C3.out W hG.1).mono ?_;rintro e W2 ⟨rfl,hb,hb2⟩;show K _ _;rw [<- hK];exact⟨_,rfl,rfl,hb2,hb,Nat.le_trans hG.2 hb2.size⟩
   .cases ho;obtain⟨_,q13,e13⟩:=hdep ⟨13,.data⟩ (by simp) rfl _ _ rfl rfl;have g13:a.tmps.getD 23 undef=.string b3:=by rw [gDe,q13,e13];rfl
    rw [e13] at q13;clear e13;clear hfr hdep hsz;generalize hK:(fun (a':Act) (w':World)=>_)=K;go_simp;rw [if_neg (by omega)];go_simp;rw [<- hK];exact⟨_,rfl,rfl,bR9 _ _,hG⟩
   .cases ho;have g:a.tmps.getD 1 undef=.pointer (some ⟨tb,0,none⟩):=by rw [gDe,hfr 1 (qaw (by kernel_rfl))];rfl
    clear hfr hdep hsz;generalize hK:(fun (a':Act) (w':World)=>_)=K;go_simp;rw [<- hK];exact⟨_,rfl,rfl,bR9 _ _,hG⟩
   .cases ho;obtain⟨_,q15,e15⟩:=hdep ⟨15,.data⟩ (by simp) rfl _ _ rfl rfl;have g15:a.tmps.getD 25 undef=.pointer (some ⟨tb,4,none⟩):=by rw [gDe,q15,e15];rfl
    rw [e15] at q15;clear e15;have hc:W.cell? ⟨tb,4,none⟩=some (.int .i64 x.p):=hG.1.2.2.2.2.1;clear hfr hdep hsz;generalize hK:(fun (a':Act) (w':World)=>_)=K;go_simp;rw [<- hK];exact⟨_,rfl,rfl,bR9 _ _,hG⟩
   .cases ho;obtain⟨_,q16,e16⟩:=hdep ⟨16,.data⟩ (by simp) rfl _ _ rfl rfl;have g16:a.tmps.getD 26 undef=.int .i64 x.p:=by rw [gDe,q16,e16];rfl
    rw [e16] at q16;clear e16;clear hfr hdep hsz;generalize hK:(fun (a':Act) (w':World)=>_)=K;go_simp;refine (C4.out W hG.1).mono ?_;rintro e W2 ⟨rfl,hb,hb2⟩;show K _ _;rw [<- hK];exact⟨_,rfl,rfl,hb2,hb,Nat.le_trans hG.2 hb2.size⟩
   .cases ho;obtain⟨_,q17,e17⟩:=hdep ⟨17,.data⟩ (by simp) rfl _ _ rfl rfl;have g17:a.tmps.getD 27 undef=.string b4:=by rw [gDe,q17,e17];rfl
    rw [e17] at q17;clear e17;clear hfr hdep hsz;generalize hK:(fun (a':Act) (w':World)=>_)=K;go_simp;rw [if_neg (by omega)];go_simp;rw [<- hK];exact⟨_,rfl,rfl,bR9 _ _,hG⟩
   .cases ho;obtain⟨_,q2,e2⟩:=hdep ⟨2,.data⟩ (by simp) rfl _ _ rfl rfl;have g2:a.tmps.getD 12 undef=.string b0:=by rw [gDe,q2,e2];rfl
    rw [e2] at q2;clear e2;obtain⟨_,q6,e6⟩:=hdep ⟨6,.data⟩ (by simp) rfl _ _ rfl rfl;have g6:a.tmps.getD 16 undef=.string ((⟨#[99,61]⟩:ByteArray)++b1):=by rw [gDe,q6,e6];rfl
    rw [e6] at q6;clear e6;obtain⟨_,q10,e10⟩:=hdep ⟨10,.data⟩ (by simp) rfl _ _ rfl rfl;have g10:a.tmps.getD 20 undef=.string ((⟨#[100,61]⟩:ByteArray)++b2):=by rw [gDe,q10,e10];rfl
    rw [e10] at q10;clear e10;obtain⟨_,q14,e14⟩:=hdep ⟨14,.data⟩ (by simp) rfl _ _ rfl rfl;have g14:a.tmps.getD 24 undef=.string ((⟨#[116,61]⟩:ByteArray)++b3):=by rw [gDe,q14,e14];rfl
    rw [e14] at q14;clear e14;obtain⟨_,q18,e18⟩:=hdep ⟨18,.data⟩ (by simp) rfl _ _ rfl rfl;have g18:a.tmps.getD 28 undef=.string ((⟨#[112,61]⟩:ByteArray)++b4):=by rw [gDe,q18,e18];rfl
    rw [e18] at q18;clear e18;clear hfr hdep hsz;generalize hK:(fun (a':Act) (w':World)=>_)=K;have hal:=(bR9 W.heap.size W).alloc (nR9 _) (.cells #[.string ⟨#[116,97,115,107]⟩,.string b0,.string ((⟨#[99,61]⟩:ByteArray)++b1),.string ((⟨#[100,61]⟩:ByteArray)++b2),.string ((⟨#[116,61]⟩:ByteArray)++b3),.string ((⟨#[112,61]⟩:ByteArray)++b4)] 9);have hro:=World.ownsRow_lit (base:=n0) (e:=9) (size:=1) W #[.string ⟨#[116,97,115,107]⟩,.string b0,.string ((⟨#[99,61]⟩:ByteArray)++b1),.string ((⟨#[100,61]⟩:ByteArray)++b2),.string ((⟨#[116,61]⟩:ByteArray)++b3),.string ((⟨#[112,61]⟩:ByteArray)++b4)] 6 hG.2 (by unfold maxLen;omega) rfl;go_simp;rw [<- hK];exact⟨_,rfl,hro,hal,hG.1.below hal,Nat.le_trans hG.2 hal.size⟩
   .cases ho;obtain⟨v9,q19,e19⟩:=hdep ⟨19,.data⟩ (by simp) rfl _ _ rfl rfl;have g19:a.tmps.getD 29 undef=v9:=by rw [gDe,q19];rfl
    clear hfr hdep hsz;generalize hK:(fun (a':Act) (w':World)=>_)=K;go_simp;rw [<- hK];exact⟨_,rfl,e19,bR9 _ _,hG⟩
  .intro a W hd hsz hfr hall hG;obtain⟨v3,q3,e3⟩:=hall 20 _ 3 rfl rfl;have f0:=hfr 0 (qaw (by kernel_rfl));have f1:=hfr 1 (qaw (by kernel_rfl));have f2:=hfr 2 (qaw (by kernel_rfl));have f4:=hfr 4 (qaw (by kernel_rfl));have f5:=hfr 5 (qaw (by kernel_rfl));have f6:=hfr 6 (qaw (by kernel_rfl));have f7:=hfr 7 (qaw (by kernel_rfl));have f8:=hfr 8 (qaw (by kernel_rfl));have f9:=hfr 9 (qaw (by kernel_rfl));have f30:=hfr 30 (qaw (by kernel_rfl));have f31:=hfr 31 (qaw (by kernel_rfl));have f32:=hfr 32 (qaw (by kernel_rfl));have f33:=hfr 33 (qaw (by kernel_rfl));have f34:=hfr 34 (qaw (by kernel_rfl));have f35:=hfr 35 (qaw (by kernel_rfl));have f36:=hfr 36 (qaw (by kernel_rfl));have f37:=hfr 37 (qaw (by kernel_rfl));have f38:=hfr 38 (qaw (by kernel_rfl));have f39:=hfr 39 (qaw (by kernel_rfl));have f40:=hfr 40 (qaw (by kernel_rfl));have f41:=hfr 41 (qaw (by kernel_rfl));have f42:=hfr 42 (qaw (by kernel_rfl));have f43:=hfr 43 (qaw (by kernel_rfl));have f44:=hfr 44 (qaw (by kernel_rfl));have f45:=hfr 45 (qaw (by kernel_rfl));have f46:=hfr 46 (qaw (by kernel_rfl));have f47:=hfr 47 (qaw (by kernel_rfl));have f48:=hfr 48 (qaw (by kernel_rfl));have f49:=hfr 49 (qaw (by kernel_rfl));have f50:=hfr 50 (qaw (by kernel_rfl));have f51:=hfr 51 (qaw (by kernel_rfl));have f52:=hfr 52 (qaw (by kernel_rfl));have f53:=hfr 53 (qaw (by kernel_rfl));have f54:=hfr 54 (qaw (by kernel_rfl));have f55:=hfr 55 (qaw (by kernel_rfl));have f56:=hfr 56 (qaw (by kernel_rfl));have f57:=hfr 57 (qaw (by kernel_rfl));have f58:=hfr 58 (qaw (by kernel_rfl));have f59:=hfr 59 (qaw (by kernel_rfl));have f60:=hfr 60 (qaw (by kernel_rfl));have f61:=hfr 61 (qaw (by kernel_rfl));have f62:=hfr 62 (qaw (by kernel_rfl));have f63:=hfr 63 (qaw (by kernel_rfl));have f64:=hfr 64 (qaw (by kernel_rfl));have f65:=hfr 65 (qaw (by kernel_rfl));have f66:=hfr 66 (qaw (by kernel_rfl));have f67:=hfr 67 (qaw (by kernel_rfl));have f68:=hfr 68 (qaw (by kernel_rfl));have f69:=hfr 69 (qaw (by kernel_rfl));clear hfr hall;have ha:a = { tmps:=a.tmps,defers:=[] }:=by cases a;simp at hd;subst hd;rfl
   rw [ha,arr_lit70 a.tmps hsz];rw [show a.tmps.getD 0 undef=.agg #[.int .i64 x.id,.int .i64 x.c,.int .i64 x.d,.int .i64 x.t,.int .i64 x.p,.slice A5 lc c5,.slice A6 lu c6] from by rw [gDe,f0];rfl];rw [show a.tmps.getD 1 undef=.pointer (some ⟨tb,0,none⟩) from by rw [gDe,f1];rfl];rw [show a.tmps.getD 2 undef=.string ⟨#[]⟩ from by rw [gDe,f2];rfl];rw [show a.tmps.getD 4 undef=undef from by rw [gDe,f4];rfl];rw [show a.tmps.getD 5 undef=undef from by rw [gDe,f5];rfl];rw [show a.tmps.getD 6 undef=undef from by rw [gDe,f6];rfl];rw [show a.tmps.getD 7 undef=.agg #[.int .i64 x.id,.int .i64 x.c,.int .i64 x.d,.int .i64 x.t,.int .i64 x.p,.slice A5 lc c5,.slice A6 lu c6] from by rw [gDe,f7];rfl];rw [show a.tmps.getD 8 undef=.int .i64 0 from by rw [gDe,f8];rfl];rw [show a.tmps.getD 9 undef=.bool false from by rw [gDe,f9];rfl];rw [show a.tmps.getD 30 undef=undef from by rw [gDe,f30];rfl];rw [show a.tmps.getD 31 undef=undef from by rw [gDe,f31];rfl];rw [show a.tmps.getD 32 undef=undef from by rw [gDe,f32];rfl];rw [show a.tmps.getD 33 undef=undef from by rw [gDe,f33];rfl];rw [show a.tmps.getD 34 undef=undef from by rw [gDe,f34];rfl];rw [show a.tmps.getD 35 undef=undef from by rw [gDe,f35];rfl];rw [show a.tmps.getD 36 undef=undef from by rw [gDe,f36];rfl];rw [show a.tmps.getD 37 undef=undef from by rw [gDe,f37];rfl];rw [show a.tmps.getD 38 undef=undef from by rw [gDe,f38];rfl];rw [show a.tmps.getD 39 undef=undef from by rw [gDe,f39];rfl];rw [show a.tmps.getD 40 undef=undef from by rw [gDe,f40];rfl];rw [show a.tmps.getD 41 undef=undef from by rw [gDe,f41];rfl];rw [show a.tmps.getD 42 undef=undef from by rw [gDe,f42];rfl];rw [show a.tmps.getD 43 undef=undef from by rw [gDe,f43];rfl];rw [show a.tmps.getD 44 undef=undef from by rw [gDe,f44];rfl];rw [show a.tmps.getD 45 undef=undef from by rw [gDe,f45];rfl];rw [show a.tmps.getD 46 undef=undef from by rw [gDe,f46];rfl];rw [show a.tmps.getD 47 undef=undef from by rw [gDe,f47];rfl];rw [show a.tmps.getD 48 undef=undef from by rw [gDe,f48];rfl];rw [show a.tmps.getD 49 undef=undef from by rw [gDe,f49];rfl];rw [show a.tmps.getD 50 undef=undef from by rw [gDe,f50];rfl];rw [show a.tmps.getD 51 undef=undef from by rw [gDe,f51];rfl];rw [show a.tmps.getD 52 undef=undef from by rw [gDe,f52];rfl];rw [show a.tmps.getD 53 undef=undef from by rw [gDe,f53];rfl];rw [show a.tmps.getD 54 undef=undef from by rw [gDe,f54];rfl];rw [show a.tmps.getD 55 undef=undef from by rw [gDe,f55];rfl];rw [show a.tmps.getD 56 undef=undef from by rw [gDe,f56];rfl];rw [show a.tmps.getD 57 undef=undef from by rw [gDe,f57];rfl];rw [show a.tmps.getD 58 undef=undef from by rw [gDe,f58];rfl];rw [show a.tmps.getD 59 undef=undef from by rw [gDe,f59];rfl];rw [show a.tmps.getD 60 undef=undef from by rw [gDe,f60];rfl];rw [show a.tmps.getD 61 undef=undef from by rw [gDe,f61];rfl];rw [show a.tmps.getD 62 undef=undef from by rw [gDe,f62];rfl];rw [show a.tmps.getD 63 undef=undef from by rw [gDe,f63];rfl];rw [show a.tmps.getD 64 undef=undef from by rw [gDe,f64];rfl];rw [show a.tmps.getD 65 undef=undef from by rw [gDe,f65];rfl];rw [show a.tmps.getD 66 undef=undef from by rw [gDe,f66];rfl];rw [show a.tmps.getD 67 undef=undef from by rw [gDe,f67];rfl];rw [show a.tmps.getD 68 undef=undef from by rw [gDe,f68];rfl];rw [show a.tmps.getD 69 undef=undef from by rw [gDe,f69];rfl];rw [show a.tmps.getD 3 undef=v3 from by rw [gDe,q3];rfl];clear ha hd hsz q3 f0 f1 f2 f4 f5 f6 f7 f8 f9 f30 f31 f32 f33 f34 f35 f36 f37 f38 f39 f40 f41 f42 f43 f44 f45 f46 f47 f48 f49 f50 f51 f52 f53 f54 f55 f56 f57 f58 f59 f60 f61 f62 f63 f64 f65 f66 f67 f68 f69;go_wp2;go_meet
   exact⟨rfl,rfl,hG.1,hG.2,e3⟩
 case rest=>
  obtain⟨rfl,rfl,hS3,hn3,hR3⟩:=hcut;clear C0 C1 C2 C3 C4 HS1 HS1d d0 d1 d2 d3 d4 z1 z2 z3 z4;obtain⟨S3,hS3e⟩:∃ S,S=[⟨#[116,97,115,107]⟩,b0,(⟨#[99,61]⟩:ByteArray)++b1,(⟨#[100,61]⟩:ByteArray)++b2,(⟨#[116,61]⟩:ByteArray)++b3,(⟨#[112,61]⟩:ByteArray)++b4]:=⟨_,rfl⟩;have HR3:Hid (wc.ownsRow n0 9 1 u3 6 (S3.map Value.string)):=hI9 (by rw [hS3e];exact hR3);have HL3:Hid (S3.length=6):=hI9 (by rw [hS3e];rfl);rw [<- hS3e] at HLP;clear hS3e hR3;obtain⟨i0,hi0,hz0,hz1,hz2⟩:=info_parts infoS;have HU3:=hI9 (And.intro hS3 hn3);obtain⟨t0,t1,t2,t3,t4,t5,t6,HB⟩:=hS3;go_upto_if 33 with (fail)
  generalize hbc:decide (0<lc)=bc;have HBC:=hI9 hbc;clear hbc t0 t1 t2 t3 t4 t6;go_cut [3] from 70 (fun v3 wx=>∃ S:List ByteArray,S=S3++(if 0<lc then [(⟨#[99,104,117,110,107,115,61]⟩:ByteArray)++J5] else [])/\6<=S.length/\S.length<=7/\wx.ownsRow n0 9 1 v3 S.length (S.map Value.string)/\n0<=wx.heap.size/\TkIn tb x A5 lc c5 A6 lu c6 w wx)
  case first=>
   cases bc with
   |true=>
    have hlc:=oD9 HBC.out;have HJ:=hI9 (HJ5.out wc (by rw [HW.out];exact HB) (fun y hy=>by have:=HCH.out y hy;omega) (by omega) ((HN5.out.below HB (by have:=HW.out;omega)).more (by have:=HB.size;have:=HW.out;omega)));go_wp2_with (first|(go_at_call 39;refine HJ.out.mono ?_;rintro e w5 ⟨rfl,hb5⟩)|(at_builtin;refine wpList_append_own _ rfl _ _ 103 rfl n0 9 i0 _ 1 16 Tryz.underlying103 hi0 hz0 hz1 hz2 rfl (by decide) _ _ _ rfl ((qaO HR3.out hb5 (nR9 _)).alloc _) ⟨w5.heap.size,0,none⟩ 1 1 [.string (⟨#[99,104,117,110,107,115,61]⟩++J5)] rfl rfl (cell_one_new _ _ _) (by simp [Value.oneCell']) (by unfold maxLen;omega) (by omega) (by have:=hb5.size;simp;omega) ?_;intro v' w6 hown' hgrow _))
    go_meet
    refine⟨_,rfl,by rw [List.length_append,HL3.out];omega,by rw [List.length_append,HL3.out,if_pos hlc];simp,?_,?_,?_⟩
    .rw [if_pos hlc];exact row_snoc _ HL3.out hown'
    .have q1:=hgrow.size;have q2:=hb5.size;rw [qaF] at q1;have:=HU3.out.2;omega
    .refine TkIn.grown ((HU3.out.1.below hb5).below ((bR9 _ _).alloc (nR9 _) _)) hgrow (fun k e=>?_);have:=(((qaO HR3.out hb5 (nR9 _))).lt k e).1;have:=HTN.out;omega
   |false=>
    have hlc:=of_decide_eq_false HBC.out;go_wp2;go_meet
    exact⟨S3,by rw [if_neg hlc];simp,by rw [HL3.out];omega,by rw [HL3.out];omega,by rw [HL3.out];exact HR3.out,HU3.out.2,HU3.out.1⟩
  case rest=>
   obtain⟨S4,hS4,hl6,hl4,hR4,hn4,hT4⟩:=hcut;have HLP4:Hid (LP=⟨(Lib.join ((S4++(if 0<lu then [(⟨#[117,115,101,61]⟩:ByteArray)++J6] else [])).map (·.data.toList)) [32]).toArray⟩):=hI9 (by rw [HLP.out,hS4,List.append_assoc]);have HU4:=hI9 (And.intro hT4 hn4);have HR4:=hI9 hR4;clear HLP hS4 HR3 HL3 HU3 HBC HJ5 HCH sJ5 HN5 hR4 hn3 hn4 HB;obtain⟨k4,hk4⟩:∃ z,S4.length=z:=⟨_,rfl⟩;have HK4:=hI9 hk4;rw [hk4] at hl6 hl4;clear hk4;obtain⟨t0,t1,t2,t3,t4,t5,t6,HB⟩:=hT4;clear t0 t1 t2 t3 t4 t5;go_upto_if 44 with (fail)
   generalize hbu:decide (0<lu)=bu;have HBU:=hI9 hbu;clear hbu;go_cut [3] from 70 (fun v3 wx=>∃ S:List ByteArray,S=S4++(if 0<lu then [(⟨#[117,115,101,61]⟩:ByteArray)++J6] else [])/\6<=S.length/\S.length<=8/\wx.ownsRow n0 9 1 v3 S.length (S.map Value.string)/\n0<=wx.heap.size/\Below tb w wx)
   case first=>
    cases bu with
    |false=>
     have hlu:=of_decide_eq_false HBU.out;go_wp2;go_meet
     exact⟨S4,by rw [if_neg hlu];simp,by rw [HK4.out];omega,by rw [HK4.out];omega,HR4.out,HU4.out.2,HU4.out.1.2.2.2.2.2.2.2⟩
    |true=>
     have hlu:=oD9 HBU.out;have hlu64:lu<=64:=by have:=HLL.out.2;omega
     obtain⟨b6,o6,rfl,hb6,hc6⟩:=((HN6.out.below HB (by have:=HW.out;omega)).more (C:=wc.heap.size) (by have:=HB.size;have:=HW.out;omega)) (by have:=HLL.out.2;omega);have HC6:=hI9 hc6;clear hc6;obtain⟨i1,hi1,hy0,hy1,hy2⟩:=info_parts infoL;obtain⟨n1,hn1⟩:∃ n,n=wc.heap.size:=⟨_,rfl⟩;have HN1:=hI9 hn1;go_upto_region 8 with (at_make;refine wpList_make_full _ rfl _ _ 38 rfl n1 2 i1 _ 1 Tryz.underlying38 hi1 hy0 hy1 _ _ _ _ lu rfl rfl rfl rfl (by rw [hy2];omega) (by unfold maxLen;omega) (Nat.le_of_eq hn1) ?_;intro w5 hown5 hg5)
     rw [<- hn1] at hown5 ⊢;have hb5:Below n1 wc w5:=⟨hg5.os,hg5.tape,hg5.output,hg5.size,fun k hk=>hg5.block k (by rw [<- hn1];exact hk) (by simp)⟩;have hro5:w5.ownsRow n1 2 1 (.slice (some ⟨n1,0,none⟩) lu lu) lu ((x.us.take 0).map (Value.int .i64)++List.replicate (lu - 0) (.int .i64 0)):=by
      rw [Nat.mul_one] at hown5;have e1:(Value.int .i64 0).cells = #[Value.int .i64 0]:=rfl;rw [e1,toList_madeCells_one] at hown5
      simpa using hown5
     have HT6:=hI9 t6;have ht6:=(hb5.cell (p:=⟨tb,6,none⟩) (by rw [hn1];exact qaM t6)).trans t6;clear hown5 hg5 t6 hn1;go_wp2;go_loopw [52] (fun v52 wr=>∃ (i:Nat),v52=.int .i64 i/\i<=lu/\wr.ownsRow n1 2 1 (.slice (some ⟨n1,0,none⟩) lu lu) lu ((x.us.take i).map (Value.int .i64)++List.replicate (lu - i) (.int .i64 0))/\Below n1 wc wr) (fun v52 _=>lu - (RowKit.intOf v52).toNat)
     case atStart=>exact⟨0,rfl,Nat.zero_le _,hro5,hb5⟩
     case round=>
      obtain⟨i,rfl,hi,hrow,hbw⟩:=hrel;by_cases hil:i<lu
      .have hix:i<x.us.length:=by have:=HLL.out.2;omega
       have hcell:=(hbw.cell (p:=⟨b6,o6+i,none⟩) (by rw [HN1.out];exact hb6)).trans (HC6.out i hix);have HST:=hI9 (hrow.stored i (.int .i64 x.us[i]));have hca:=hrow.cellAt i (by omega);have hfa:=hrow.frozenAt i;have HX:=hI9 (fill_next (l:=x.us) (n:=lu) HLL.out.2 hil);have HBW:=hI9 hbw;have hza:∃ z,wr.cell? ⟨n1,i,none⟩=some z:=by
        rw [hca];exact⟨_,List.getElem?_eq_getElem (by have:=hrow.1;omega)⟩
       obtain⟨z,hza⟩:=hza;clear hca hrow hbw;generalize x.us[i]=y at hcell HST HX;go_wp2;go_roundw
       case rel=>exact⟨i+1,by simp,hil,by rw [HX.out];exact HST.out.1,HBW.out.setCell (p:=⟨n1,i,none⟩) (nR9 _) _⟩
       case measure=>simp [RowKit.intOf];omega
      .have hie:Hid (i=lu):=hI9 (by omega);have hnr:NRow wr wr.heap.size (some ⟨n1,0,none⟩) x.us:=fun _=>⟨n1,0,rfl,(hrow.lt n1 rfl).2,fun j hj=>by
        have hj':j<lu:=by have:=HLL.out.2;omega
        rw [Nat.zero_add,hrow.cellAt j (by omega),hie.out,<- HLL.out.2,List.take_length,List.getElem?_append_left (by rw [List.length_map];exact hj),List.getElem?_map,List.getElem?_eq_getElem hj]
        rfl⟩
       have hbt:Below tb w wr:=HB.trans (hbw.mono (by have:=HU4.out.1.lt;have:=HN1.out;omega));have HJ:=hI9 (HJ6.out wr (some ⟨n1,0,none⟩) lu (by rw [HW.out];exact hbt) (fun y hy=>by have:=HUS.out y hy;omega) (by have:=HLL.out.2;omega) hnr);have HR9:=hI9 (qaO HR4.out hbw (by rw [HN1.out];exact nR9 _));have HBT:=hI9 hbt;have hwn:n0<=wr.heap.size:=by have:=hbw.size;have:=HU4.out.2;omega
       clear hnr hrow hbt hbw;go_wp2_with (first|(go_at_call 39;refine HJ.out.mono ?_;rintro e w5 ⟨rfl,hb5⟩)|(at_builtin;refine wpList_append_own _ rfl _ _ 103 rfl n0 9 i0 _ 1 16 Tryz.underlying103 hi0 hz0 hz1 hz2 rfl (by decide) _ _ _ rfl ((qaO HR9.out hb5 (nR9 _)).alloc _) ⟨w5.heap.size,0,none⟩ 1 1 [.string (⟨#[117,115,101,61]⟩++J6)] rfl rfl (cell_one_new _ _ _) (by simp [Value.oneCell']) (by unfold maxLen;have:=HK4.out;omega) (by have:=HK4.out;omega) (by have:=hb5.size;simp;omega) ?_;intro v' w6 hown' hgrow _))
       go_meet
       have q1:=hgrow.size;have q2:=hb5.size;rw [qaF] at q1;refine⟨_,rfl,by rw [List.length_append,HK4.out];omega,by rw [List.length_append,HK4.out,if_pos hlu];simp;omega,?_,by omega,?_⟩
       .rw [if_pos hlu];rw [HK4.out] at hown';exact row_snoc _ HK4.out hown'
       .refine (((HBT.out.trans (hb5.mono (by have:=HTN.out;omega))).alloc (by have:=HTN.out;omega) _).grown hgrow (by rw [qaF];have:=HTN.out;omega) (fun k e=>?_));have:=((qaO HR9.out hb5 (nR9 _)).lt k e).1;have:=HTN.out;omega
   case rest=>
    obtain⟨S5,hS5,hl5,hl8,hR5,hn5,HB5⟩:=hcut;have HJ:=hI9 (sjoin_own S5 LP hR5 (by omega) (by omega) (by rw [hS5];exact HLP4.out) (by have:=sLP.out;omega));go_wp2_with (go_at_call 74;refine HJ.out.mono ?_;rintro e w9 ⟨rfl,hb9⟩)
    go_ret;exact⟨rfl,by rw [HW.out];exact HB5.trans (hb9.mono (by have:=HTN.out;omega))⟩
end Go.Proofs.YtgnaaokhfpfglaaGreatDoor
end
section
namespace Go.Proofs.YtgnaaokhfpfglaaGreatDoor
open Go.RowKit
theorem wp_region_facts_k (k0:Nat) {P:Program} {ops:Array Oper} {Q:Exit->Act->World->Prop} {id:Nat} {a0:Act} {w0:World} (hm:P.follows .mixedOrders=true) (ht:tidyB a0.tmps.size ops=true)
  (F:Nat->Value->World->Prop) (Kp:World->World->Prop) (hF:∀ i v w w',F i v w->Kp w w'->F i v w') (G:Bool->World->Prop) (hG:G false w0.drew) (hk0:k0<ops.size)
  (hstep:∀ (i:Nat) (o:Oper) (a:Act) (w:World) (bk:Bool),ops[i]? = some o->a.tmps.size=a0.tmps.size->(∀ d,(∀ (j:Nat) oj,ops[j]? = some oj->oj.dst≠some d)->a.tmps[d]? = a0.tmps[d]?) ->
   (∀ e ∈ o.after,Region.binds .any e=true->∀ oe d,ops[e.on]? = some oe->oe.dst=some d->∃ v,a.tmps[d]? = some v/\F e.on v w)->G bk w->(i=k0->bk=false) ->
   o.wp P a w (fun a' w'=>∃ v,a' = a.put o.dst v/\F i v w'/\Kp w w'/\G (bk || decide (i=k0)) w') Q)
  (hend:∀ (a:Act) (w:World),a.defers=a0.defers->a.tmps.size=a0.tmps.size->(∀ d,(∀ (j:Nat) oj,ops[j]? = some oj->oj.dst≠some d)->a.tmps[d]? = a0.tmps[d]?) ->
   (∀ (i:Nat) o d,ops[i]? = some o->o.dst=some d->∃ v,a.tmps[d]? = some v/\F i v w)->G true w->Q .normal a w) :
  (Code.region id ops true).wp P Q a0 w0:=by
 refine wp_region_any hm ?_;refine any_inv (fun i o ho=>(tidy_at ht ho).2.1) (fun listed a w=>a.defers=a0.defers/\a.tmps.size=a0.tmps.size/\(∀ d,(∀ (j:Nat) oj,ops[j]? = some oj->oj.dst≠some d)->a.tmps[d]? = a0.tmps[d]?) /\
  (∀ (i:Nat) o d,ops[i]? = some o->o.dst=some d->listed.getD i false=true->∃ v,a.tmps[d]? = some v/\F i v w)/\G (listed.getD k0 false) w) ?_ ?_ _ _ _ _ (by simp) ?_ ⟨rfl,rfl,fun _ _=>rfl,?_,by rw [show (Array.replicate ops.size false).getD k0 false=false from by simp [gDe,Array.getElem?_replicate];split<;>rfl];exact hG⟩
 .rintro i o listed a w ho hsz hl hd ⟨i1,i2,i3,i4,i5⟩;obtain⟨g1,g2,g3⟩:=tidy_at ht ho;have hil:i<listed.size:=by rw [hsz];exact (Array.getElem?_eq_some_iff.1 ho).1
  have hw:Region.wanted o (yielded ops a.tmps)=true:=by simp [Region.wanted,g1]
  unfold wpOp;rw [ho];simp only [hw,if_true];refine .inl (Oper.wp_mono ?_ (hstep i o a w (listed.getD k0 false) ho i2 i3 (fun e he hb oe d hoe hde=>i4 e.on oe d hoe hde (hd e he hb)) i5 (fun e=>by subst e;rw [gDe,Array.getElem?_eq_getElem hil] at hl ⊢;exact hl)));rintro a' w' ⟨v,rfl,k1,k2,k3⟩;have hgk:(listed.setIfInBounds i true).getD k0 false=(listed.getD k0 false || decide (i=k0)):=by
   by_cases e:i=k0
   .subst e;simp [gDe,hil]
   .simp [gDe,e]
  rw [<- hgk] at k3;cases hdst:o.dst with
  |none=>
   refine⟨i1,i2,i3,fun j oj d hoj hdj hlj=>?_,k3⟩;have hji:j≠i:=fun e=>by subst e;rw [ho] at hoj;cases hoj;rw [hdst] at hdj;cases hdj
   obtain⟨u,u1,u2⟩:=i4 j oj d hoj hdj (by simpa [gDe,Array.getElem?_setIfInBounds,Ne.symm hji] using hlj);exact⟨u,u1,hF _ _ _ _ u2 k2⟩
  |some d0=>
   have hd0:=(g3 d0 hdst).1;have hput:(a.put (some d0) v).tmps=a.tmps.setIfInBounds d0 v:=rfl;refine⟨i1,by rw [hput];simp [i2],fun d hn=>?_,fun j oj d hoj hdj hlj=>?_,k3⟩
   .rw [hput,Array.getElem?_setIfInBounds];have:d0≠d:=fun e=>hn i o ho (by rw [hdst,e])
    rw [if_neg this];exact i3 d hn
   .rw [hput,Array.getElem?_setIfInBounds];by_cases hji:j=i
    .subst hji;rw [ho] at hoj;cases hoj;rw [hdst] at hdj;cases hdj;rw [if_pos rfl,if_pos (by rw [i2];exact hd0)];exact⟨v,rfl,k1⟩
    .have hdd:d0≠d:=fun e=>hji (tidy_one ht hoj ho hdj (by rw [hdst,e]))
     rw [if_neg hdd];obtain⟨u,u1,u2⟩:=i4 j oj d hoj hdj (by simpa [gDe,Array.getElem?_setIfInBounds,Ne.symm hji] using hlj);exact⟨u,u1,hF _ _ _ _ u2 k2⟩
 .rintro listed a w hall ⟨i1,i2,i3,i4,i5⟩;exact hend a w i1 i2 i3 (fun i o d ho hd=>i4 i o d ho hd (hall i (Array.getElem?_eq_some_iff.1 ho).1)) (by rw [hall k0 hk0] at i5;exact i5)
 .exact Nat.le_trans List.countP_le_length (by simp)
 .intro i o d _ _ h;exfalso;rw [gDe,Array.getElem?_replicate] at h;split at h<;>simp at h
end Go.Proofs.YtgnaaokhfpfglaaGreatDoor
end
section
namespace Go.Proofs.YtgnaaokhfpfglaaGreatDoor
open Go.RowKit Go.Shelf Go.Lib
theorem infoBuilder:(Tryz.prog.info? 93).map (·.size)=some 2:=by kernel_rfl
theorem liesBuilder:liesAt Tryz.prog Tryz.prog.depth 93 (2 / Tryz.prog.cellsOf 93) 0 93 1=true:=by kernel_rfl
theorem infoU8:(Tryz.prog.info? 5).map (fun i=>(i.zero,i.size,i.bytes))=some (some (.int .u8 0),1,1):=by kernel_rfl
theorem copyCheck_used (b:Nat) (w:World) (h0:w.cell? ⟨b,0,none⟩=some (.pointer (some ⟨b,0,none⟩))) :
  Calls Tryz.prog 72 #[.pointer (some ⟨b,0,none⟩)] w fun e w'=>e=.returned (.tuple #[])/\w' = w:=by
 obtain⟨j,hj,_⟩:=Option.map_eq_some_iff.1 infoBuilder;go_enter Tryz.func72,Tryz.ntmps72;go_wp2;rw [Lib.run_neq_ptr_same w _ Tryz.underlying91 hj];go_wp2;go_end0
 exact⟨rfl,rfl⟩
theorem copyCheck_fresh (b:Nat) (w:World) (h0:w.cell? ⟨b,0,none⟩=some (.pointer none)) (hsh:w.shape? b=some (93,2)) (hfz:w.frozen? ⟨b,0,none⟩=false) :
  Calls Tryz.prog 72 #[.pointer (some ⟨b,0,none⟩)] w fun e w'=>e=.returned (.tuple #[])/\w' = w.setCell ⟨b,0,none⟩ (.pointer (some ⟨b,0,none⟩)):=by
 obtain⟨j,hj,hjs⟩:=Option.map_eq_some_iff.1 infoBuilder;go_enter Tryz.func72,Tryz.ntmps72;go_wp2;rw [Lib.run_to_unsafe w ⟨b,0,none⟩ Tryz.underlying91 Tryz.underlying174 hj (by rw [hjs];decide) hsh (Nat.zero_lt_succ 1)];simp only [Result.andThen];rw [Oper.upon_value];go_wp2;rw [run_callFunc_extern Tryz.func108 (by kernel_rfl) (by kernel_rfl) (by kernel_rfl) (e:=Extern.AbiNoEscape.same) (by kernel_rfl)];rw [Lib.run_noEscape];simp only [Result.andThen];rw [Oper.upon_value];go_wp2;rw [Lib.run_from_unsafe w ⟨b,0,none⟩ Tryz.underlying174 Tryz.underlying91 hj hsh liesBuilder];simp only [Result.andThen];rw [Oper.upon_value];go_wp2;go_end0
 exact⟨rfl,rfl⟩
theorem copyCheck_any (B b:Nat) (bs:List Value) (w:World) (h:Lib.IsBuilder 93 5 B b bs w) :
  Calls Tryz.prog 72 #[.pointer (some ⟨b,0,none⟩)] w fun e w'=>e=.returned (.tuple #[])/\(Lib.BuilderAt 93 5 B b (.pointer (some ⟨b,0,none⟩)) bs w'/\Below B w w'):=by
 rcases h with h|h
 .refine (copyCheck_fresh b w h.cell0 h.shape h.frozen0).mono ?_;rintro e w' ⟨rfl,rfl⟩;exact⟨rfl,h.used _,(bR9 B w).setCell (p:=⟨b,0,none⟩) h.1 _⟩
 .refine (copyCheck_used b w h.cell0).mono ?_;rintro e w' ⟨rfl,rfl⟩;exact⟨rfl,h,bR9 B _⟩
theorem writeString_any (B b:Nat) (bs:List Value) (s:ByteArray) (w:World) (h:Lib.IsBuilder 93 5 B b bs w) (hlen:bs.length+s.size<=140737488355328) (hBw:B<=w.heap.size) :
  Calls Tryz.prog 36 #[.pointer (some ⟨b,0,none⟩),.string s] w fun e w'=>e=.returned (.tuple #[.int .i64 s.size,.nilIface])/\(Lib.BuilderAt 93 5 B b (.pointer (some ⟨b,0,none⟩)) (bs++Lib.strCells s) w'/\Below B w w'):=by
 obtain⟨i0,hi,hz0,hz1,hz2⟩:=info_parts infoU8;go_enter Tryz.func36,Tryz.ntmps36;go_wp2_with (go_at_call 72;refine (copyCheck_any B b bs _ h).mono ?_)
 rintro e w1 ⟨rfl,h1,hb1⟩;obtain⟨hB,v,hbk,hown,hne⟩:=h1;have c0:w1.cell? ⟨b,0,none⟩=some (.pointer (some ⟨b,0,none⟩)):=by rw [Lib.cell_of_heap hbk];rfl
 have c1:w1.cell? ⟨b,1,none⟩=some v:=by rw [Lib.cell_of_heap hbk];rfl
 go_wp2_with (at_builtin;refine Lib.wpList_append_own_string _ rfl _ _ 45 9 rfl B 5 i0 Tryz.underlying45 Tryz.underlying9 hi hz0 hz1 hz2 _ _ _ rfl hown s rfl ?c3 ?c4 ?c5 ?_)
 case c3=>unfold maxLen;omega
 case c4=>omega
 case c5=>have:=hb1.size;omega
 intro v' w2 hown' hgrow _;have hlt:b<w1.heap.size:=lt_of_block hbk;have hb2:w2.heap[b]? = some (.cells #[.pointer (some ⟨b,0,none⟩),v] 93 (0,0)):=by
  rw [hgrow.block b hlt (fun e=>hne e.symm)];exact hbk
 have d0:w2.cell? ⟨b,0,none⟩=some (.pointer (some ⟨b,0,none⟩)):=by rw [Lib.cell_of_heap hb2];rfl
 have d1:w2.cell? ⟨b,1,none⟩=some v:=by rw [Lib.cell_of_heap hb2];rfl
 have f1:w2.frozen? ⟨b,1,none⟩=false:=Lib.frozen_of_heap hb2 1;obtain⟨ao,n',cap,rfl⟩:∃ ao n' cap,v' = .slice ao n' cap:=by
  rcases hown'.2 with ⟨hv,_⟩|⟨g,cap,cur,hv,_⟩
  .exact⟨_,_,_,hv⟩
  .exact⟨_,_,_,hv⟩
 go_wp2;go_ret2;refine⟨rfl,?_,?_⟩
 .exact Lib.BuilderAt.put (T:=93) (e:=5) hB hb2 (bs':=bs++Lib.strCells s) (by simpa [Lib.strCells_length] using hown') (by decide)
 .exact ((hb1.grown hgrow (by have:=hb1.size;omega) (fun k hk=>(hown.lt k hk).1)).setCell (p:=⟨b,1,none⟩) hB _)
end Go.Proofs.YtgnaaokhfpfglaaGreatDoor
end
section
namespace Go.Proofs.YtgnaaokhfpfglaaGreatDoor
open Go.RowKit Go.Shelf Go.Lib Go.Proofs.YtgnaaokhfpfglaaGreatDoorW.PrintWords
theorem strCells_bytes (s:ByteArray):Lib.strCells s=Lib.byteCells s.data.toList:=rfl
theorem byteCells_append (l m:List UInt8):Lib.byteCells (l++m)=Lib.byteCells l++Lib.byteCells m:=by simp [Lib.byteCells]
theorem byteCells_len (l:List UInt8):(Lib.byteCells l).length=l.length:=by simp [Lib.byteCells]
theorem isBuilder_below {T e:TypeId} {B b:Nat} {bs:List Value} {w w':World} (h:Lib.IsBuilder T e B b bs w) (hb:Below w.heap.size w w'):Lib.IsBuilder T e B b bs w':=by
 have key:∀ p,Lib.BuilderAt T e B b p bs w->Lib.BuilderAt T e B b p bs w':=fun p hp=>by
  obtain⟨h1,v,h2,h3,h4⟩:=hp;exact⟨h1,v,(hb.block b (lt_of_block h2)).trans h2,qaO h3 hb (nR9 _),h4⟩
 exact h.imp (key _) (key _)
def PrI (tb b:Nat) (sets rel:Int) (A:Option Addr) (n cap:Nat) (w:World) (T:List UInt8) (W:World):Prop:=
 (W.cell? ⟨tb,0,none⟩=some (.int .i64 sets)/\W.cell? ⟨tb,1,none⟩=some (.int .i64 rel)/\W.cell? ⟨tb,2,none⟩=some (.slice A n cap))/\Below tb w W/\tb<b/\b<=W.heap.size/\Lib.IsBuilder 93 5 b b (Lib.byteCells T) W
theorem PrI.below {tb b:Nat} {sets rel:Int} {A:Option Addr} {n cap:Nat} {w W W':World} {T:List UInt8} (h:PrI tb b sets rel A n cap w T W) (hb:Below W.heap.size W W'):PrI tb b sets rel A n cap w T W':=by
 obtain⟨⟨h0,h1,h2⟩,h3,h4,h5,h6⟩:=h;have m:∀ p v,W.cell? p=some v->W'.cell? p=some v:=fun p v h=>(hb.cell (bLt W _ h)).trans h
 exact⟨⟨m _ _ h0,m _ _ h1,m _ _ h2⟩,h3.trans (hb.mono (by omega)),h4,Nat.le_trans h5 hb.size,isBuilder_below h6 hb⟩
theorem PrI.wrote {tb b:Nat} {sets rel:Int} {A:Option Addr} {n cap:Nat} {w W W':World} {T:List UInt8} {s:ByteArray} (h:PrI tb b sets rel A n cap w T W) (h2:Lib.BuilderAt 93 5 b b (.pointer (some ⟨b,0,none⟩)) (Lib.byteCells T++Lib.strCells s) W') (hb:Below b W W'):PrI tb b sets rel A n cap w (T++s.data.toList) W':=by
 obtain⟨⟨h0,h1,h3⟩,h4,h5,h6,_⟩:=h;refine⟨⟨(hb.cell (p:=⟨tb,_,none⟩) h5).trans h0,(hb.cell (p:=⟨tb,_,none⟩) h5).trans h1,(hb.cell (p:=⟨tb,_,none⟩) h5).trans h3⟩,h4.trans (hb.mono (by omega)),h5,Nat.le_trans h6 hb.size,?_⟩;rw [byteCells_append,<- strCells_bytes];exact .inr h2
theorem write_pr {tb b:Nat} {sets rel:Int} {A:Option Addr} {n cap:Nat} {w W:World} {T:List UInt8} (s:ByteArray) (h:PrI tb b sets rel A n cap w T W) (hl:T.length+s.size<=140737488355328) :
  Calls Tryz.prog 36 #[.pointer (some ⟨b,0,none⟩),.string s] W fun e w'=>e=.returned (.tuple #[.int .i64 s.size,.nilIface])/\PrI tb b sets rel A n cap w (T++s.data.toList) w':=by
 refine (writeString_any b b (Lib.byteCells T) s W h.2.2.2.2 (by rw [byteCells_len];exact hl) h.2.2.2.1).mono ?_;rintro e w' ⟨rfl,h1,h2⟩;exact⟨rfl,h.wrote h1 h2⟩
theorem arr_lit33 (xs:Array Value) (h:xs.size=33):xs=List.toArray (xs.getD 0 undef::xs.getD 1 undef::xs.getD 2 undef::xs.getD 3 undef::xs.getD 4 undef::xs.getD 5 undef::xs.getD 6 undef::xs.getD 7 undef::xs.getD 8 undef::xs.getD 9 undef::xs.getD 10 undef::xs.getD 11 undef::xs.getD 12 undef::xs.getD 13 undef::xs.getD 14 undef::xs.getD 15 undef::xs.getD 16 undef::xs.getD 17 undef::xs.getD 18 undef::xs.getD 19 undef::xs.getD 20 undef::xs.getD 21 undef::xs.getD 22 undef::xs.getD 23 undef::xs.getD 24 undef::xs.getD 25 undef::xs.getD 26 undef::xs.getD 27 undef::xs.getD 28 undef::xs.getD 29 undef::xs.getD 30 undef::xs.getD 31 undef::xs.getD 32 undef::[]):=arr_range xs 33 h
theorem print_any (sets rel:Int) (A:Option Addr) (cap:Nat) (L:List Tk) (w:World) (hL:L.length<=70000) (hb:∀ x ∈ L,x.ch.length<=4000000/\x.us.length<=4000000/\x.c<=9223372036854775807) (hr:TkRow w w.heap.size A L)
  (htab:Lib.TabIs Tryz.prog w "internal/strconv.uint64pow10" .u64 Lib.pow10Tab) (hg:1<w.heap.size) :
  Calls Tryz.prog 43 #[.agg #[.int .i64 sets,.int .i64 rel,.slice A L.length cap]] w fun e w'=>e=.returned (.string (if checkE sets rel L=0 then printT sets rel L else ⟨#[]⟩))/\Below w.heap.size w w':=by
 have hb0:=(bR9 w.heap.size w).alloc (nR9 _) (.cells #[.int .i64 sets,.int .i64 rel,.slice A L.length cap] 37);have hn0:=heap_alloc_new w (.cells #[.int .i64 sets,.int .i64 rel,.slice A L.length cap] 37);have hz0:=qaF w (.cells #[.int .i64 sets,.int .i64 rel,.slice A L.length cap] 37);have HCK:=hI9 (check_any sets rel A cap L (w.alloc (.cells #[.int .i64 sets,.int .i64 rel,.slice A L.length cap] 37)) (by omega) hb ((hr.below hb0 (nR9 _)).more hb0.size));have HB2:=hI9 hb;have HR:=hI9 hr;have HTB:=hI9 (And.intro htab hg);obtain⟨n,hn⟩:∃ z,L.length=z:=⟨_,rfl⟩;have HSM:=hI9 (fun h=>checkE_small (sets:=sets) (rel:=rel) (L:=L) h);rw [hn] at hn0 hb0 hz0 HCK;rw [hn];have HN:=hI9 hn;have HPG:Hid (printT sets rel L=goT (headT sets rel) (L.take n)):=hI9 (by rw [<- hn,List.take_length];rfl);have HHD:Hid (headT sets rel=((((⟨#[99,97,99,104,101,32]⟩:ByteArray)++digB sets)++⟨#[32]⟩)++digB rel)++⟨#[10]⟩):=hI9 rfl;generalize printT sets rel L=P at HPG ⊢;generalize hE:checkE sets rel L=E at HCK HSM ⊢;clear hE hr hb htab hg hL hn;by_cases hE0:E=0;rotate_left
 .rw [if_neg hE0];have hEb:(E == 0)=false:=by simpa using hE0
  clear hE0;go_enter Tryz.func43,Tryz.ntmps43;go_upto_region 1 with (fail)
  generalize w.alloc (.cells #[.int .i64 sets,.int .i64 rel,.slice A n cap] 37)=w0 at hb0 hn0 hz0 HCK ⊢;obtain⟨t0,t1,t2,_⟩:=three_cells hn0;have HB:=hI9 hb0;clear hb0 hn0 hz0;go_wp2_with (go_at_call 61;refine HCK.out.mono ?_;rintro e w1 ⟨rfl,hb1⟩)
  go_ret;exact⟨rfl,HB.out.trans (hb1.mono HB.out.size)⟩
 subst hE0;rw [if_pos rfl];obtain⟨hs,hre,hn1,hn2⟩:=HSM.out rfl;have HNL:=hI9 (And.intro hn1 hn2);have dS:=qaD sets (by omega) (by omega);have dR:=qaD rel (by omega) (by omega);have hhs:=headT_size sets rel hs hre;have HSIG:=hI9 (And.intro (And.intro (show -9223372036854775808<=sets by omega) (show sets<=9223372036854775807 by omega)) (And.intro (show -9223372036854775808<=rel by omega) (show rel<=9223372036854775807 by omega)));clear hs hre hn1 hn2 HSM;have D0:=hI9 (fun W h=>qbc sets W HSIG.out.1.1 HSIG.out.1.2 h);have D1:=hI9 (fun W h=>qbc rel W HSIG.out.2.1 HSIG.out.2.2 h);rw [show (⟨(itoa sets).toArray⟩:ByteArray)=digB sets from rfl] at D0;rw [show (⟨(itoa rel).toArray⟩:ByteArray)=digB rel from rfl] at D1;generalize headT sets rel=HD at HHD HPG hhs;generalize digB sets=bs at dS D0 HHD;generalize digB rel=br at dR D1 HHD;go_enter Tryz.func43,Tryz.ntmps43;go_upto_region 1 with (fail)
 generalize w.alloc (.cells #[.int .i64 sets,.int .i64 rel,.slice A n cap] 37)=w0 at hb0 hn0 hz0 HCK ⊢;obtain⟨tb,htb⟩:∃ z,w.heap.size=z:=⟨_,rfl⟩;rw [htb] at hn0 hz0 ⊢;obtain⟨t0,t1,t2,_⟩:=three_cells hn0;have HB:Hid (Below tb w w0):=hI9 (by rw [<- htb];exact hb0);have HZ:=hI9 hz0;have HW:Hid (w.heap.size=tb):=hI9 htb;clear hb0 hn0 hz0;go_upto_region 3 with (go_at_call 61;refine HCK.out.mono ?_;rintro e w1 ⟨rfl,hb1⟩)
 have hl0:=qaM t0;have hq0:=(hb1.cell (p:=⟨tb,0,none⟩) hl0).trans t0;have hq1:=(hb1.cell (p:=⟨tb,1,none⟩) hl0).trans t1;have hq2:=(hb1.cell (p:=⟨tb,2,none⟩) hl0).trans t2;have HB1:Hid (Below tb w w1):=hI9 (HB.out.trans (hb1.mono (Nat.le_of_lt hl0)));have HT1:Hid (tb<w1.heap.size):=hI9 (Nat.lt_of_lt_of_le hl0 hb1.size);clear t0 t1 t2 hb1 HB HCK HZ hl0;go_upto_region 4 with (fail)
 have hib:=fresh_isBuilder 93 5 w1;have hb2:=(bR9 w1.heap.size w1).alloc (nR9 _) (.cells #[.pointer none,.slice none 0 0] 93);generalize w1.alloc (.cells #[.pointer none,.slice none 0 0] 93)=w2 at hib hb2 ⊢;obtain⟨b,hb⟩:∃ b,w1.heap.size=b:=⟨_,rfl⟩;have HP2:PrI tb b sets rel A n cap w [] w2:=⟨⟨(hb2.cell (p:=⟨tb,0,none⟩) HT1.out).trans hq0,(hb2.cell (p:=⟨tb,1,none⟩) HT1.out).trans hq1,(hb2.cell (p:=⟨tb,2,none⟩) HT1.out).trans hq2⟩,HB1.out.trans (hb2.mono (Nat.le_of_lt HT1.out)),by rw [<- hb];exact HT1.out,by rw [<- hb];exact hb2.size,by rw [<- hb];exact hib⟩;rw [hb];clear hb hib hb2 hq0 hq1 hq2 HB1 HT1;have C0:Hid (∀ (W:World) (T:List UInt8),PrI tb b sets rel A n cap w T W->Calls Tryz.prog 73 #[.int .i64 sets] W fun e w'=>e=.returned (.string bs)/\PrI tb b sets rel A n cap w T w'):=hI9 (fun W T h=>(D0.out W (qaR HTB.out.1 (by rw [HW.out];exact h.2.1) HTB.out.2)).mono fun e w' ⟨h1,h2⟩=>⟨h1,h.below h2⟩);have C1:Hid (∀ (W:World) (T:List UInt8),PrI tb b sets rel A n cap w T W->Calls Tryz.prog 73 #[.int .i64 rel] W fun e w'=>e=.returned (.string br)/\PrI tb b sets rel A n cap w T w'):=hI9 (fun W T h=>(D1.out W (qaR HTB.out.1 (by rw [HW.out];exact h.2.1) HTB.out.2)).mono fun e w' ⟨h1,h2⟩=>⟨h1,h.below h2⟩);clear D0 D1;have z1:(⟨#[99,97,99,104,101,32]⟩:ByteArray).size=6:=rfl;have z2:(⟨#[32]⟩:ByteArray).size=1:=rfl;have z3:(⟨#[10]⟩:ByteArray).size=1:=rfl;go_cut [1,2,3] from 33 (fun v1 v2 v3 wx=>v1=.pointer (some ⟨tb,0,none⟩)/\v2=.string ⟨#[]⟩/\v3=.pointer (some ⟨b,0,none⟩)/\PrI tb b sets rel A n cap w HD.data.toList wx)
 case first=>
  refine wp_region_facts_k 10 (by kernel_rfl) (by kernel_rfl) (fun i v W=>match i with
    |0=>v=.pointer (some ⟨tb,0,none⟩)
    |1=>v=.int .i64 sets
    |2=>v=.string bs
    |3=>v=.string ((⟨#[99,97,99,104,101,32]⟩:ByteArray)++bs)
    |4=>v=.string (((⟨#[99,97,99,104,101,32]⟩:ByteArray)++bs)++⟨#[32]⟩)
    |5=>v=.pointer (some ⟨tb,1,none⟩)
    |6=>v=.int .i64 rel
    |7=>v=.string br
    |8=>v=.string ((((⟨#[99,97,99,104,101,32]⟩:ByteArray)++bs)++⟨#[32]⟩)++br)
    |9=>v=.string (((((⟨#[99,97,99,104,101,32]⟩:ByteArray)++bs)++⟨#[32]⟩)++br)++⟨#[10]⟩)
    |10=>True
    |_=>True) (fun _ _=>True) (fun _ _ _ _ h _=>h) (fun bk W=>PrI tb b sets rel A n cap w (if bk=true then HD.data.toList else []) W) (HP2.below (bR9 _ _).drew) (oD9 (by rfl)) ?_ ?_
  .intro i o a W bk ho hsz hfr hdep hG hbk;have hi:i<11:=(Array.getElem?_eq_some_iff.1 ho).1;have hin:i=0\/i=1\/i=2\/i=3\/i=4\/i=5\/i=6\/i=7\/i=8\/i=9\/i=10:=by omega
   rcases hin with rfl|rfl|rfl|rfl|rfl|rfl|rfl|rfl|rfl|rfl|rfl
   .cases ho;have g:a.tmps.getD 1 undef=.pointer (some ⟨tb,0,none⟩):=by rw [gDe,hfr 1 (qaw (by kernel_rfl))];rfl
    clear hfr hdep hsz;generalize hK:(fun (a':Act) (w':World)=>_)=K;go_simp;rw [<- hK];exact⟨_,rfl,rfl,trivial,by simpa using hG⟩
   .cases ho;obtain⟨_,q0,e0⟩:=hdep ⟨0,.data⟩ (by simp) rfl _ _ rfl rfl;have g0:a.tmps.getD 9 undef=.pointer (some ⟨tb,0,none⟩):=by rw [gDe,q0,e0];rfl
    rw [e0] at q0;clear e0;have hc:W.cell? ⟨tb,0,none⟩=some (.int .i64 sets):=hG.1.1;clear hfr hdep hsz;generalize hK:(fun (a':Act) (w':World)=>_)=K;go_simp;rw [<- hK];exact⟨_,rfl,rfl,trivial,by simpa using hG⟩
   .cases ho;obtain⟨_,q1,e1⟩:=hdep ⟨1,.data⟩ (by simp) rfl _ _ rfl rfl;have g1:a.tmps.getD 10 undef=.int .i64 sets:=by rw [gDe,q1,e1];rfl
    rw [e1] at q1;clear e1;clear hfr hdep hsz;generalize hK:(fun (a':Act) (w':World)=>_)=K;go_simp;refine (C0.out W _ hG).mono ?_;rintro e W2 ⟨rfl,hG2⟩;show K _ _;rw [<- hK];exact⟨_,rfl,rfl,trivial,by simpa using hG2⟩
   .cases ho;obtain⟨_,q2,e2⟩:=hdep ⟨2,.data⟩ (by simp) rfl _ _ rfl rfl;have g2:a.tmps.getD 11 undef=.string bs:=by rw [gDe,q2,e2];rfl
    rw [e2] at q2;clear e2;clear hfr hdep hsz;generalize hK:(fun (a':Act) (w':World)=>_)=K;go_simp;rw [if_neg (by omega)];go_simp;rw [<- hK];exact⟨_,rfl,rfl,trivial,by simpa using hG⟩
   .cases ho;obtain⟨_,q3,e3⟩:=hdep ⟨3,.data⟩ (by simp) rfl _ _ rfl rfl;have g3:a.tmps.getD 12 undef=.string ((⟨#[99,97,99,104,101,32]⟩:ByteArray)++bs):=by rw [gDe,q3,e3];rfl
    rw [e3] at q3;clear e3;clear hfr hdep hsz;generalize hK:(fun (a':Act) (w':World)=>_)=K;go_simp;rw [if_neg (by omega)];go_simp;rw [<- hK];exact⟨_,rfl,rfl,trivial,by simpa using hG⟩
   .cases ho;have g:a.tmps.getD 1 undef=.pointer (some ⟨tb,0,none⟩):=by rw [gDe,hfr 1 (qaw (by kernel_rfl))];rfl
    clear hfr hdep hsz;generalize hK:(fun (a':Act) (w':World)=>_)=K;go_simp;rw [<- hK];exact⟨_,rfl,rfl,trivial,by simpa using hG⟩
   .cases ho;obtain⟨_,q5,e5⟩:=hdep ⟨5,.data⟩ (by simp) rfl _ _ rfl rfl;have g5:a.tmps.getD 14 undef=.pointer (some ⟨tb,1,none⟩):=by rw [gDe,q5,e5];rfl
    rw [e5] at q5;clear e5;have hc:W.cell? ⟨tb,1,none⟩=some (.int .i64 rel):=hG.1.2.1;clear hfr hdep hsz;generalize hK:(fun (a':Act) (w':World)=>_)=K;go_simp;rw [<- hK];exact⟨_,rfl,rfl,trivial,by simpa using hG⟩
   .cases ho;obtain⟨_,q6,e6⟩:=hdep ⟨6,.data⟩ (by simp) rfl _ _ rfl rfl;have g6:a.tmps.getD 15 undef=.int .i64 rel:=by rw [gDe,q6,e6];rfl
    rw [e6] at q6;clear e6;clear hfr hdep hsz;generalize hK:(fun (a':Act) (w':World)=>_)=K;go_simp;refine (C1.out W _ hG).mono ?_;rintro e W2 ⟨rfl,hG2⟩;show K _ _;rw [<- hK];exact⟨_,rfl,rfl,trivial,by simpa using hG2⟩
   .cases ho;obtain⟨_,q4,e4⟩:=hdep ⟨4,.data⟩ (by simp) rfl _ _ rfl rfl;have g4:a.tmps.getD 13 undef=.string (((⟨#[99,97,99,104,101,32]⟩:ByteArray)++bs)++⟨#[32]⟩):=by rw [gDe,q4,e4];rfl
    rw [e4] at q4;clear e4;obtain⟨_,q7,e7⟩:=hdep ⟨7,.data⟩ (by simp) rfl _ _ rfl rfl;have g7:a.tmps.getD 16 undef=.string br:=by rw [gDe,q7,e7];rfl
    rw [e7] at q7;clear e7;clear hfr hdep hsz;generalize hK:(fun (a':Act) (w':World)=>_)=K;go_simp;rw [if_neg (by omega)];go_simp;rw [<- hK];exact⟨_,rfl,rfl,trivial,by simpa using hG⟩
   .cases ho;obtain⟨_,q8,e8⟩:=hdep ⟨8,.data⟩ (by simp) rfl _ _ rfl rfl;have g8:a.tmps.getD 17 undef=.string ((((⟨#[99,97,99,104,101,32]⟩:ByteArray)++bs)++⟨#[32]⟩)++br):=by rw [gDe,q8,e8];rfl
    rw [e8] at q8;clear e8;clear hfr hdep hsz;generalize hK:(fun (a':Act) (w':World)=>_)=K;go_simp;rw [if_neg (by omega)];go_simp;rw [<- hK];exact⟨_,rfl,rfl,trivial,by simpa using hG⟩
   .cases ho;obtain⟨_,q9,e9⟩:=hdep ⟨9,.data⟩ (by simp) rfl _ _ rfl rfl;have g9:a.tmps.getD 18 undef=.string (((((⟨#[99,97,99,104,101,32]⟩:ByteArray)++bs)++⟨#[32]⟩)++br)++⟨#[10]⟩):=by rw [gDe,q9,e9];rfl
    rw [e9] at q9;clear e9;have g:a.tmps.getD 3 undef=.pointer (some ⟨b,0,none⟩):=by rw [gDe,hfr 3 (qaw (by kernel_rfl))];rfl
    rw [hbk rfl] at hG ⊢;simp only [Bool.false_eq_true,if_false] at hG;have HWS:=hI9 (write_pr (((((⟨#[99,97,99,104,101,32]⟩:ByteArray)++bs)++⟨#[32]⟩)++br)++⟨#[10]⟩) hG (by rw [<- HHD.out,List.length_nil];omega));rw [List.nil_append,<- HHD.out] at HWS;rw [<- HHD.out] at g9;clear hfr hdep hsz;generalize hK:(fun (a':Act) (w':World)=>_)=K;go_simp;refine HWS.out.mono ?_;rintro e W2 ⟨rfl,hG2⟩;show K _ _;rw [<- hK];exact⟨_,rfl,trivial,trivial,by simpa using hG2⟩
  .intro a W hd hsz hfr hall hG;have f0:=hfr 0 (qaw (by kernel_rfl));have f1:=hfr 1 (qaw (by kernel_rfl));have f2:=hfr 2 (qaw (by kernel_rfl));have f3:=hfr 3 (qaw (by kernel_rfl));have f4:=hfr 4 (qaw (by kernel_rfl));have f5:=hfr 5 (qaw (by kernel_rfl));have f6:=hfr 6 (qaw (by kernel_rfl));have f7:=hfr 7 (qaw (by kernel_rfl));have f8:=hfr 8 (qaw (by kernel_rfl));have f20:=hfr 20 (qaw (by kernel_rfl));have f21:=hfr 21 (qaw (by kernel_rfl));have f22:=hfr 22 (qaw (by kernel_rfl));have f23:=hfr 23 (qaw (by kernel_rfl));have f24:=hfr 24 (qaw (by kernel_rfl));have f25:=hfr 25 (qaw (by kernel_rfl));have f26:=hfr 26 (qaw (by kernel_rfl));have f27:=hfr 27 (qaw (by kernel_rfl));have f28:=hfr 28 (qaw (by kernel_rfl));have f29:=hfr 29 (qaw (by kernel_rfl));have f30:=hfr 30 (qaw (by kernel_rfl));have f31:=hfr 31 (qaw (by kernel_rfl));have f32:=hfr 32 (qaw (by kernel_rfl));clear hfr hall;have ha:a = { tmps:=a.tmps,defers:=[] }:=by cases a;simp at hd;subst hd;rfl
   rw [ha,arr_lit33 a.tmps hsz];rw [show a.tmps.getD 0 undef=.agg #[.int .i64 sets,.int .i64 rel,.slice A n cap] from by rw [gDe,f0];rfl];rw [show a.tmps.getD 1 undef=.pointer (some ⟨tb,0,none⟩) from by rw [gDe,f1];rfl];rw [show a.tmps.getD 2 undef=.string ⟨#[]⟩ from by rw [gDe,f2];rfl];rw [show a.tmps.getD 3 undef=.pointer (some ⟨b,0,none⟩) from by rw [gDe,f3];rfl];rw [show a.tmps.getD 4 undef=undef from by rw [gDe,f4];rfl];rw [show a.tmps.getD 5 undef=undef from by rw [gDe,f5];rfl];rw [show a.tmps.getD 6 undef=.agg #[.int .i64 sets,.int .i64 rel,.slice A n cap] from by rw [gDe,f6];rfl];rw [show a.tmps.getD 7 undef=.int .i64 0 from by rw [gDe,f7];rfl];rw [show a.tmps.getD 8 undef=.bool false from by rw [gDe,f8];rfl];rw [show a.tmps.getD 20 undef=undef from by rw [gDe,f20];rfl];rw [show a.tmps.getD 21 undef=undef from by rw [gDe,f21];rfl];rw [show a.tmps.getD 22 undef=undef from by rw [gDe,f22];rfl];rw [show a.tmps.getD 23 undef=undef from by rw [gDe,f23];rfl];rw [show a.tmps.getD 24 undef=undef from by rw [gDe,f24];rfl];rw [show a.tmps.getD 25 undef=undef from by rw [gDe,f25];rfl];rw [show a.tmps.getD 26 undef=undef from by rw [gDe,f26];rfl];rw [show a.tmps.getD 27 undef=undef from by rw [gDe,f27];rfl];rw [show a.tmps.getD 28 undef=undef from by rw [gDe,f28];rfl];rw [show a.tmps.getD 29 undef=undef from by rw [gDe,f29];rfl];rw [show a.tmps.getD 30 undef=undef from by rw [gDe,f30];rfl];rw [show a.tmps.getD 31 undef=undef from by rw [gDe,f31];rfl];rw [show a.tmps.getD 32 undef=undef from by rw [gDe,f32];rfl];clear ha hd hsz f0 f1 f2 f3 f4 f5 f6 f7 f8 f20 f21 f22 f23 f24 f25 f26 f27 f28 f29 f30 f31 f32;go_wp2;go_meet
   exact⟨rfl,rfl,rfl,hG⟩
 case rest=>
  obtain⟨rfl,rfl,rfl,hP3⟩:=hcut;clear C0 C1 HP2 z1 z2 dS dR HHD HSIG;have t2:=hP3.1.2.2;have HP3:=hI9 hP3;clear hP3;go_wp2;go_loopw [23] (fun v23 wr=>∃ (i:Nat),v23=.int .i64 i/\i<=n/\PrI tb b sets rel A n cap w (goT HD (L.take i)).data.toList wr) (fun v23 _=>n - (RowKit.intOf v23).toNat)
  case atStart=>exact⟨0,rfl,Nat.zero_le _,HP3.out⟩
  case round=>
   obtain⟨i,rfl,hi,hP⟩:=hrel;have HP:=hI9 hP;have HSZ:=goT_size (L.take i) HD;have hti:(L.take i).length<=64:=by have:=HN.out;have:=HNL.out;simp;omega
   have hsz:Hid ((goT HD (L.take i)).data.toList.length<=210000):=hI9 (by rw [<- Lib.size_eq];omega);have hn64:n<=64:=by have:=HNL.out.2;have:=HN.out;omega
   clear HSZ hti hP;by_cases hil:i<n
   .have hil':i<L.length:=by have:=HN.out;omega
    have HGS:=hI9 (goT_succ hil' HD);have hwr:Below w.heap.size w wr:=by rw [HW.out];exact HP.out.2.1
    obtain⟨bb,off,rfl,hbl,HAT⟩:=HR.out (by omega);obtain⟨e0,e1,e2,e3,e4,A5,c5,A6,c6,e5,e6,g5,g6⟩:=HAT i hil';have m:∀ j v,w.cell? ⟨bb,j,none⟩=some v->wr.cell? ⟨bb,j,none⟩=some v:=fun j v h=>(hwr.cell (p:=⟨bb,j,none⟩) hbl).trans h
    have f0:=m _ _ e0;have f1:=m _ _ e1;have f2:=m _ _ e2;have f3:=m _ _ e3;have f4:=m _ _ e4;have f5:=m _ _ e5;have f6:=m _ _ e6;clear e0 e1 e2 e3 e4 e5 e6 m HAT;obtain⟨x,hx⟩:∃ x,x=L[i]:=⟨_,rfl⟩;have hbx:=HB2.out x (by rw [hx];exact List.getElem_mem _);rw [<- hx] at f0 f1 f2 f3 f4 f5 f6 g5 g6 HGS;have HLN:Hid (∀ W,Below w.heap.size w W->Calls Tryz.prog 75 #[.agg #[.int .i64 x.id,.int .i64 x.c,.int .i64 x.d,.int .i64 x.t,.int .i64 x.p,.slice A5 x.ch.length c5,.slice A6 x.us.length c6]] W fun e w'=>e=.returned (.string (lineT x))/\Below W.heap.size W w'):=hI9 (fun W hW=>line_any x A5 c5 A6 c6 W hbx.1 hbx.2.1 hbx.2.2 ((g5.below hW (nR9 _)).more hW.size) ((g6.below hW (nR9 _)).more hW.size) (qaR HTB.out.1 hW HTB.out.2) (by have:=hW.size;have:=HTB.out.2;omega));have hlt:=lineT_size x;generalize lineT x=T at HLN HGS hlt;have HTL:Hid (T.size<=3100):=hI9 hlt;clear hx hbx g5 g6 hwr hlt;generalize x.ch.length=l5 at f5 HLN;generalize x.us.length=l6 at f6 HLN;go_upto_region 8 with (fail)
    have hal:=(bR9 wr.heap.size wr).alloc (nR9 _) (.cells #[.int .i64 x.id,.int .i64 x.c,.int .i64 x.d,.int .i64 x.t,.int .i64 x.p,.slice A5 l5 c5,.slice A6 l6 c6] 58);have hnw:=heap_alloc_new wr (.cells #[.int .i64 x.id,.int .i64 x.c,.int .i64 x.d,.int .i64 x.t,.int .i64 x.p,.slice A5 l5 c5,.slice A6 l6 c6] 58);have HP8:=hI9 (HP.out.below hal);generalize wr.alloc (.cells #[.int .i64 x.id,.int .i64 x.c,.int .i64 x.d,.int .i64 x.t,.int .i64 x.p,.slice A5 l5 c5,.slice A6 l6 c6] 58)=W3 at hal hnw HP8 ⊢;obtain⟨xb,hxb⟩:∃ z,wr.heap.size=z:=⟨_,rfl⟩;rw [hxb] at hnw ⊢;obtain⟨t0,t1,t2',t3,t4,t5,t6⟩:=qbi hnw;have HLN3:=hI9 (HLN.out W3 (by rw [HW.out];exact HP8.out.2.1));clear f0 f1 f2 f3 f4 f5 f6 hal hnw hxb HLN HP;have kk0:(9223372036854775807<T.size+1)=False:=eq_false (by have:=HTL.out;omega);go_wp2_with (first|(go_at_call 75;refine HLN3.out.mono ?_;rintro e w5 ⟨rfl,hb5⟩;have HP9:=hI9 (HP8.out.below hb5);have HWS:=hI9 (write_pr (T++⟨#[10]⟩) HP9.out (by have z9:(⟨#[10]⟩:ByteArray).size=1:=rfl;have:=HTL.out;have:=hsz.out;simp only [ByteArray.size_append];omega)))|(go_at_call 36;refine HWS.out.mono ?_;rintro e w7 ⟨rfl,hP7⟩))
    have HP7:=hI9 hP7;clear hP7;go_roundw
    case rel=>exact⟨i+1,by simp,hil,by rw [HGS.out];simpa [ByteArray.data_append,List.append_assoc] using HP7.out⟩
    case measure=>simp [RowKit.intOf];omega
   .have hie:Hid (i=n):=hI9 (by omega);have HTT:Hid (goT HD (L.take i)=P):=hI9 (by rw [hie.out,HPG.out]);have hPP:=HP.out;rw [HTT.out] at hPP;have HST:=hI9 (Tryz.Builder_String_any b b P.data.toList wr hPP.2.2.2.2 hPP.2.2.2.1);have HBB:=hI9 (And.intro hPP.2.1 hPP.2.2.1);clear hPP;go_wp2_with (go_at_call 42;refine HST.out.mono ?_;rintro e w4 ⟨rfl,hb4⟩)
    go_ret;exact⟨rfl,by rw [HW.out];exact HBB.out.1.trans (hb4.mono (Nat.le_of_lt HBB.out.2))⟩
end Go.Proofs.YtgnaaokhfpfglaaGreatDoor
end
section
namespace Go.Proofs.YtgnaaokhfpfglaaGreatDoor
open Go.RowKit Go.Shelf Go.Lib
theorem le_foldl_min (z:Int):∀ (l:List Int) (a:Int),z<=l.foldl min a↔z<=a/\∀ x ∈ l,z<=x:=by
 intro l
 induction l with
 |nil=>intro a;simp
 |cons y r ih=>intro a;rw [List.foldl_cons,ih,Int.le_min];simp [and_assoc]
theorem foldl_max_le (z:Int):∀ (l:List Int) (a:Int),l.foldl max a<=z↔a<=z/\∀ x ∈ l,x<=z:=by
 intro l
 induction l with
 |nil=>intro a;simp
 |cons y r ih=>intro a;rw [List.foldl_cons,ih,Int.max_le];simp [and_assoc]
def inA (most:Int) (l:List Int):Bool:=l.all fun x=>decide (0<=x/\x<=most)
theorem inA_minmax (most:Int) {l:List Int} (h:l≠[]):(decide (0<=Lib.minOf l) && decide (Lib.maxOf l<=most))=inA most l:=by
 cases l with
 |nil=>exact absurd rfl h
 |cons y r=>
  rw [Bool.eq_iff_iff];simp only [inA,Lib.minOf,Lib.maxOf,List.headD_cons,Bool.and_eq_true,decide_eq_true_eq,le_foldl_min,foldl_max_le,List.all_eq_true];constructor
  .rintro ⟨⟨h1,h2⟩,h3,h4⟩ x hx;exact⟨h2 x hx,h4 x hx⟩
  .intro h;have h0:=h y List.mem_cons_self;exact⟨⟨h0.1,fun x hx=>(h x hx).1⟩,h0.2,fun x hx=>(h x hx).2⟩
theorem slMaxI_any (b off n c:Nat) (zs:List Int) (w:World) (hn:0<n) (hz:n=zs.length) (hbig:n<=4000000) (hc:∀ j (h:j<zs.length),w.cell? ⟨b,off+j,none⟩=some (.int .i64 zs[j])) :
  Calls Tryz.prog 104 #[.slice (some ⟨b,off,none⟩) n c] w fun e w'=>e=.returned (.int .i64 (Lib.maxOf zs))/\w=w':=by
 have hc':∀ j,j<zs.length->w.cell? ⟨b,off+j,none⟩=some (.int .i64 (zs.getD j 0)):=fun j h=>by rw [hc j h];simp [List.getD,List.getElem?_eq_getElem h]
 have h0:w.cell? ⟨b,off,none⟩=some (.int .i64 (zs.getD 0 0)):=by simpa using hc' 0 (by omega)
 have HT:Hid (zs.take n=zs):=hI9 (by rw [hz,List.take_length]);have HZ:=hI9 hz;have hc':=hI9 hc';clear hc hz;go_enter Tryz.func104,Tryz.ntmps104;go_wp2;go_loop [3,4] (fun m i=>∃ k:Nat,0<k/\k<=n/\i=.int .i64 k/\m=.int .i64 (Lib.maxOf (zs.take k))) (fun _ i=>match i with|.int _ q=>n - q.toNat|_=>0)
 case atStart=>exact⟨1,Nat.one_pos,hn,rfl,by rw [Lib.maxOf_one];simp [List.getD]⟩
 case round=>
  obtain⟨k,hk0,hk,rfl,rfl⟩:=hrel;by_cases hlt:k<n
  .have hcell:w.cell? ⟨b,off+k,none⟩=some (.int .i64 (zs.getD k 0)):=hc'.out k (by have:=HZ.out;omega);have HM:=hI9 (Lib.maxOf_step zs k hk0 (by have:=HZ.out;omega));generalize Lib.maxOf (zs.take k)=mk at HM ⊢;go_wp2;go_round
   case rel=>exact⟨k+1,Nat.succ_pos k,by omega,by simp,by rw [HM.out];simp [List.getD]⟩
   case measure=>simp;omega
  .obtain rfl:k=n:=by omega
   rw [HT.out];go_wp2;go_ret;exact⟨rfl,rfl⟩
theorem slMinI_any (b off n c:Nat) (zs:List Int) (w:World) (hn:0<n) (hz:n=zs.length) (hbig:n<=4000000) (hc:∀ j (h:j<zs.length),w.cell? ⟨b,off+j,none⟩=some (.int .i64 zs[j])) :
  Calls Tryz.prog 103 #[.slice (some ⟨b,off,none⟩) n c] w fun e w'=>e=.returned (.int .i64 (Lib.minOf zs))/\w=w':=by
 have hc':∀ j,j<zs.length->w.cell? ⟨b,off+j,none⟩=some (.int .i64 (zs.getD j 0)):=fun j h=>by rw [hc j h];simp [List.getD,List.getElem?_eq_getElem h]
 have h0:w.cell? ⟨b,off,none⟩=some (.int .i64 (zs.getD 0 0)):=by simpa using hc' 0 (by omega)
 have HT:Hid (zs.take n=zs):=hI9 (by rw [hz,List.take_length]);have HZ:=hI9 hz;have hc':=hI9 hc';clear hc hz;go_enter Tryz.func103,Tryz.ntmps103;go_wp2;go_loop [3,4] (fun m i=>∃ k:Nat,0<k/\k<=n/\i=.int .i64 k/\m=.int .i64 (Lib.minOf (zs.take k))) (fun _ i=>match i with|.int _ q=>n - q.toNat|_=>0)
 case atStart=>exact⟨1,Nat.one_pos,hn,rfl,by rw [Lib.minOf_one];simp [List.getD]⟩
 case round=>
  obtain⟨k,hk0,hk,rfl,rfl⟩:=hrel;by_cases hlt:k<n
  .have hcell:w.cell? ⟨b,off+k,none⟩=some (.int .i64 (zs.getD k 0)):=hc'.out k (by have:=HZ.out;omega);have HM:=hI9 (Lib.minOf_step zs k hk0 (by have:=HZ.out;omega));generalize Lib.minOf (zs.take k)=mk at HM ⊢;go_wp2;go_round
   case rel=>exact⟨k+1,Nat.succ_pos k,by omega,by simp,by rw [HM.out];simp [List.getD]⟩
   case measure=>simp;omega
  .obtain rfl:k=n:=by omega
   rw [HT.out];go_wp2;go_ret;exact⟨rfl,rfl⟩
theorem inAI_any (most:Int) (A:Option Addr) (cap:Nat) (L:List Int) (w:World) (hn:L.length<=4000000) (hr:NRow w w.heap.size A L) :
  Calls Tryz.prog 69 #[.int .i64 most,.slice A L.length cap] w fun e w'=>e=.returned (.bool (inA most L))/\w=w':=by
 obtain⟨R,hR⟩:∃ R,R=inA most L:=⟨_,rfl⟩;rw [<- hR];by_cases h0:L=[]
 .subst h0;have HR:=hI9 hR;clear hR hr hn;go_enter Tryz.func69,Tryz.ntmps69;go_wp2;go_ret;exact⟨by rw [HR.out];rfl,rfl⟩
 .have hpos:0<L.length:=List.length_pos_iff.2 h0;have HR:=hI9 (hR.trans (inA_minmax most h0).symm);obtain⟨b,off,rfl,_,hc⟩:=hr hpos;obtain⟨n,hn'⟩:∃ n,n=L.length:=⟨_,rfl⟩;have H1:=hI9 (slMinI_any b off n cap L w (by omega) hn' (by omega) hc);have H2:=hI9 (slMaxI_any b off n cap L w (by omega) hn' (by omega) hc);rw [<- hn'] at hpos ⊢;generalize Lib.minOf L=mn at H1 HR;generalize Lib.maxOf L=mx at H2 HR;clear hc hr hn hn' hR h0;have hne:((n:Int) == 0)=false:=by simp;omega
  by_cases h1:0<=mn
  .have HE:Hid (R=decide (mx<=most)):=hI9 (by rw [HR.out,decide_eq_true h1,Bool.true_and]);clear HR;go_enter Tryz.func69,Tryz.ntmps69;go_wp2_with (first|(go_at_call 103;refine H1.out.mono ?_;rintro e w1 ⟨rfl,rfl⟩)|(go_at_call 104;refine H2.out.mono ?_;rintro e w2 ⟨rfl,rfl⟩))
   go_ret;exact⟨by rw [HE.out];rfl,rfl⟩
  .have HE:Hid (R=false):=hI9 (by rw [HR.out,decide_eq_false h1,Bool.false_and]);clear HR;go_enter Tryz.func69,Tryz.ntmps69;go_wp2_with (first|(go_at_call 103;refine H1.out.mono ?_;rintro e w1 ⟨rfl,rfl⟩))
   go_ret;exact⟨by rw [HE.out];rfl,rfl⟩
theorem slMaxL_any (b off n c:Nat) (zs:List Int) (w:World) (hn:0<n) (hz:n=zs.length) (hbig:n<=4000000) (hc:∀ j (h:j<zs.length),w.cell? ⟨b,off+j,none⟩=some (.int .i64 zs[j])) :
  Calls Tryz.prog 106 #[.slice (some ⟨b,off,none⟩) n c] w fun e w'=>e=.returned (.int .i64 (Lib.maxOf zs))/\w=w':=by
 have hc':∀ j,j<zs.length->w.cell? ⟨b,off+j,none⟩=some (.int .i64 (zs.getD j 0)):=fun j h=>by rw [hc j h];simp [List.getD,List.getElem?_eq_getElem h]
 have h0:w.cell? ⟨b,off,none⟩=some (.int .i64 (zs.getD 0 0)):=by simpa using hc' 0 (by omega)
 have HT:Hid (zs.take n=zs):=hI9 (by rw [hz,List.take_length]);have HZ:=hI9 hz;have hc':=hI9 hc';clear hc hz;go_enter Tryz.func106,Tryz.ntmps106;go_wp2;go_loop [3,4] (fun m i=>∃ k:Nat,0<k/\k<=n/\i=.int .i64 k/\m=.int .i64 (Lib.maxOf (zs.take k))) (fun _ i=>match i with|.int _ q=>n - q.toNat|_=>0)
 case atStart=>exact⟨1,Nat.one_pos,hn,rfl,by rw [Lib.maxOf_one];simp [List.getD]⟩
 case round=>
  obtain⟨k,hk0,hk,rfl,rfl⟩:=hrel;by_cases hlt:k<n
  .have hcell:w.cell? ⟨b,off+k,none⟩=some (.int .i64 (zs.getD k 0)):=hc'.out k (by have:=HZ.out;omega);have HM:=hI9 (Lib.maxOf_step zs k hk0 (by have:=HZ.out;omega));generalize Lib.maxOf (zs.take k)=mk at HM ⊢;go_wp2;go_round
   case rel=>exact⟨k+1,Nat.succ_pos k,by omega,by simp,by rw [HM.out];simp [List.getD]⟩
   case measure=>simp;omega
  .obtain rfl:k=n:=by omega
   rw [HT.out];go_wp2;go_ret;exact⟨rfl,rfl⟩
theorem slMinL_any (b off n c:Nat) (zs:List Int) (w:World) (hn:0<n) (hz:n=zs.length) (hbig:n<=4000000) (hc:∀ j (h:j<zs.length),w.cell? ⟨b,off+j,none⟩=some (.int .i64 zs[j])) :
  Calls Tryz.prog 105 #[.slice (some ⟨b,off,none⟩) n c] w fun e w'=>e=.returned (.int .i64 (Lib.minOf zs))/\w=w':=by
 have hc':∀ j,j<zs.length->w.cell? ⟨b,off+j,none⟩=some (.int .i64 (zs.getD j 0)):=fun j h=>by rw [hc j h];simp [List.getD,List.getElem?_eq_getElem h]
 have h0:w.cell? ⟨b,off,none⟩=some (.int .i64 (zs.getD 0 0)):=by simpa using hc' 0 (by omega)
 have HT:Hid (zs.take n=zs):=hI9 (by rw [hz,List.take_length]);have HZ:=hI9 hz;have hc':=hI9 hc';clear hc hz;go_enter Tryz.func105,Tryz.ntmps105;go_wp2;go_loop [3,4] (fun m i=>∃ k:Nat,0<k/\k<=n/\i=.int .i64 k/\m=.int .i64 (Lib.minOf (zs.take k))) (fun _ i=>match i with|.int _ q=>n - q.toNat|_=>0)
 case atStart=>exact⟨1,Nat.one_pos,hn,rfl,by rw [Lib.minOf_one];simp [List.getD]⟩
 case round=>
  obtain⟨k,hk0,hk,rfl,rfl⟩:=hrel;by_cases hlt:k<n
  .have hcell:w.cell? ⟨b,off+k,none⟩=some (.int .i64 (zs.getD k 0)):=hc'.out k (by have:=HZ.out;omega);have HM:=hI9 (Lib.minOf_step zs k hk0 (by have:=HZ.out;omega));generalize Lib.minOf (zs.take k)=mk at HM ⊢;go_wp2;go_round
   case rel=>exact⟨k+1,Nat.succ_pos k,by omega,by simp,by rw [HM.out];simp [List.getD]⟩
   case measure=>simp;omega
  .obtain rfl:k=n:=by omega
   rw [HT.out];go_wp2;go_ret;exact⟨rfl,rfl⟩
theorem inAL_any (most:Int) (A:Option Addr) (cap:Nat) (L:List Int) (w:World) (hn:L.length<=4000000) (hr:NRow w w.heap.size A L) :
  Calls Tryz.prog 70 #[.int .i64 most,.slice A L.length cap] w fun e w'=>e=.returned (.bool (inA most L))/\w=w':=by
 obtain⟨R,hR⟩:∃ R,R=inA most L:=⟨_,rfl⟩;rw [<- hR];by_cases h0:L=[]
 .subst h0;have HR:=hI9 hR;clear hR hr hn;go_enter Tryz.func70,Tryz.ntmps70;go_wp2;go_ret;exact⟨by rw [HR.out];rfl,rfl⟩
 .have hpos:0<L.length:=List.length_pos_iff.2 h0;have HR:=hI9 (hR.trans (inA_minmax most h0).symm);obtain⟨b,off,rfl,_,hc⟩:=hr hpos;obtain⟨n,hn'⟩:∃ n,n=L.length:=⟨_,rfl⟩;have H1:=hI9 (slMinL_any b off n cap L w (by omega) hn' (by omega) hc);have H2:=hI9 (slMaxL_any b off n cap L w (by omega) hn' (by omega) hc);rw [<- hn'] at hpos ⊢;generalize Lib.minOf L=mn at H1 HR;generalize Lib.maxOf L=mx at H2 HR;clear hc hr hn hn' hR h0;have hne:((n:Int) == 0)=false:=by simp;omega
  by_cases h1:0<=mn
  .have HE:Hid (R=decide (mx<=most)):=hI9 (by rw [HR.out,decide_eq_true h1,Bool.true_and]);clear HR;go_enter Tryz.func70,Tryz.ntmps70;go_wp2_with (first|(go_at_call 105;refine H1.out.mono ?_;rintro e w1 ⟨rfl,rfl⟩)|(go_at_call 106;refine H2.out.mono ?_;rintro e w2 ⟨rfl,rfl⟩))
   go_ret;exact⟨by rw [HE.out];rfl,rfl⟩
  .have HE:Hid (R=false):=hI9 (by rw [HR.out,decide_eq_false h1,Bool.false_and]);clear HR;go_enter Tryz.func70,Tryz.ntmps70;go_wp2_with (first|(go_at_call 105;refine H1.out.mono ?_;rintro e w1 ⟨rfl,rfl⟩))
   go_ret;exact⟨by rw [HE.out];rfl,rfl⟩
structure Bd where
 i:Int
 g:Int
 t:Int
 k:Int
deriving DecidableEq
def BdRow (w:World) (B:Nat) (A:Option Addr) (L:List Bd):Prop:=
 0<L.length->∃ b off,A=some ⟨b,off,none⟩/\b<B/\∀ i (h:i<L.length),
  w.cell? ⟨b,off+i * 4,none⟩=some (.int .i64 L[i].i)/\w.cell? ⟨b,off+i * 4+1,none⟩=some (.int .i64 L[i].g)/\w.cell? ⟨b,off+i * 4+2,none⟩=some (.int .i64 L[i].t)/\w.cell? ⟨b,off+i * 4+3,none⟩=some (.int .i64 L[i].k)
theorem BdRow.below {w w':World} {B C:Nat} {A:Option Addr} {L:List Bd} (h:BdRow w B A L) (hb:Below C w w') (hBC:B<=C):BdRow w' B A L:=by
 intro hl;obtain⟨b,off,e,hlt,hc⟩:=h hl;refine⟨b,off,e,hlt,fun i hi=>?_⟩;obtain⟨h0,h1,h2,h3⟩:=hc i hi;have m:∀ o v,w.cell? ⟨b,o,none⟩=some v->w'.cell? ⟨b,o,none⟩=some v:=fun o v h=>(hb.cell (p:=⟨b,o,none⟩) (by show b<C;omega)).trans h
 exact⟨m _ _ h0,m _ _ h1,m _ _ h2,m _ _ h3⟩
theorem BdRow.more {w:World} {B C:Nat} {A:Option Addr} {L:List Bd} (h:BdRow w B A L) (hBC:B<=C):BdRow w C A L:=by
 intro hl;obtain⟨b,off,e,hlt,hc⟩:=h hl;exact⟨b,off,e,by omega,hc⟩
def wrongB (x:Bd):Bool:=!(inA 99 [x.i]) || !(inA 1099511627776 [x.g,x.t,x.k])
end Go.Proofs.YtgnaaokhfpfglaaGreatDoor
end
section
namespace Go.Proofs.YtgnaaokhfpfglaaGreatDoor
open Go.RowKit Go.Shelf Go.Lib Go.Proofs.YtgnaaokhfpfglaaGreatDoorW.PrintWords
def allG {α:Type} (p:α->α->Bool):List α->List α->Bool
 |x::r,y::q=>p x y && allG p r q
 |_,_=>true
theorem allG_step {α:Type} {p:α->α->Bool} {L M:List α} {i:Nat} (h:i<L.length) (h':i<M.length):allG p (L.drop i) (M.drop i)=(p L[i] M[i] && allG p (L.drop (i+1)) (M.drop (i+1))):=by
 rw [List.drop_eq_getElem_cons h,List.drop_eq_getElem_cons h'];rfl
def SaysTk (x y:Tk) (b:Bool):Prop:=∀ (A5:Option Addr) (c5:Nat) (A6:Option Addr) (c6:Nat) (B5:Option Addr) (d5:Nat) (B6:Option Addr) (d6:Nat) (W:World),Kd.C (Kd.int .i64) W A5 x.ch.length x.ch->x.ch.length<=c5->Kd.C (Kd.int .i64) W A6 x.us.length x.us->x.us.length<=c6->Kd.C (Kd.int .i64) W B5 y.ch.length y.ch->y.ch.length<=d5->Kd.C (Kd.int .i64) W B6 y.us.length y.us->y.us.length<=d6 ->
 Calls Tryz.prog 77 #[.agg #[.int .i64 x.id,.int .i64 x.c,.int .i64 x.d,.int .i64 x.t,.int .i64 x.p,.slice A5 x.ch.length c5,.slice A6 x.us.length c6],.agg #[.int .i64 y.id,.int .i64 y.c,.int .i64 y.d,.int .i64 y.t,.int .i64 y.p,.slice B5 y.ch.length d5,.slice B6 y.us.length d6]] W fun e w'=>e=.returned (.bool b)/\Below W.heap.size W w'
theorem eqFunc_any (p:Tk->Tk->Bool) (A1:Option Addr) (c1:Nat) (A2:Option Addr) (c2:Nat) (L M:List Tk) (w:World) (hn:L.length<=70000) (h1:Kd.C kTk w A1 L.length L) (h2:Kd.C kTk w A2 M.length M) (hp:L.length=M.length->∀ i (h:i<L.length) (h':i<M.length),SaysTk L[i] M[i] (p L[i] M[i])) :
  Calls Tryz.prog 76 #[.slice A1 L.length c1,.slice A2 M.length c2,.func (Fn.func 77) #[] #[]] w fun e w'=>e=.returned (.bool (decide (L.length=M.length) && allG p L M))/\Below w.heap.size w w':=by
 by_cases hlm:L.length=M.length;rotate_left
 .obtain⟨n,hn'⟩:∃ n,n=L.length:=⟨_,rfl⟩;obtain⟨m,hm'⟩:∃ m,m=M.length:=⟨_,rfl⟩;rw [decide_eq_false hlm,Bool.false_and];rw [<- hn',<- hm'] at hlm ⊢;rw [<- hn'] at hn;have hnm':¬ (n:Int)=(m:Int):=by omega
  clear h1 h2 hn' hm' hp;go_enter Tryz.func76,Tryz.ntmps76;go_wp2;go_ret;exact⟨rfl,bR9 _ _⟩
 obtain⟨R,hR⟩:∃ R,R=allG p L M:=⟨_,rfl⟩;rw [<- hR,decide_eq_true hlm,Bool.true_and];have HR:Hid (R=allG p (L.drop 0) (M.drop 0)):=hI9 hR;have HP:=hI9 (hp hlm);obtain⟨n,hn'⟩:∃ n,n=L.length:=⟨_,rfl⟩;have HN:=hI9 hn';have HM:=hI9 (hn'.trans hlm);have T1:=hI9 (fun hl=>tk_at h1 hl);have T2:=hI9 (fun hl=>tk_at h2 hl);rw [<- hlm,<- hn'];rw [<- hn'] at hn;clear h1 h2 hn' hlm hR hp;go_enter Tryz.func76,Tryz.ntmps76;go_wp2;go_loopw [17] (fun v17 wr=>∃ (i:Nat),v17=.int .i64 i/\i<=n/\Hid (R=allG p (L.drop i) (M.drop i))/\Below w.heap.size w wr) (fun v17 _=>n - (RowKit.intOf v17).toNat)
 case atStart=>exact⟨0,rfl,Nat.zero_le _,HR,bR9 _ _⟩
 case round=>
  obtain⟨i,rfl,hi,hS,hwr⟩:=hrel;by_cases hin:i<n
  .have hil:i<L.length:=by rw [<- HN.out];exact hin
   have hil':i<M.length:=by rw [<- HM.out];exact hin
   obtain⟨bb,off,rfl,hbl,HAT⟩:=T1.out (by omega);obtain⟨bd,ofd,rfl,hbd,HAD⟩:=T2.out (by omega);obtain⟨A5,k5,A6,k6,e0,e1,e2,e3,e4,e5,e6,g5,g7,g6,g8⟩:=HAT i hil;obtain⟨D5,l5,D6,l6,d0,d1,d2,d3,d4,d5,d6,j5,j7,j6,j8⟩:=HAD i hil';have HST:=hI9 (hS.out.trans (allG_step hil hil'));have HPX:=hI9 (HP.out i hil hil');generalize L[i]=x at e0 e1 e2 e3 e4 e5 e6 g5 g6 g7 g8 HST HPX;generalize M[i]=y at d0 d1 d2 d3 d4 d5 d6 j5 j6 j7 j8 HST HPX;clear HAT HAD hS HR;have m:∀ j v,w.cell? ⟨bb,j,none⟩=some v->wr.cell? ⟨bb,j,none⟩=some v:=fun j v h=>(hwr.cell (p:=⟨bb,j,none⟩) hbl).trans h
   have f0:=m _ _ e0;have f1:=m _ _ e1;have f2:=m _ _ e2;have f3:=m _ _ e3;have f4:=m _ _ e4;have f5:=m _ _ e5;have f6:=m _ _ e6;clear e0 e1 e2 e3 e4 e5 e6 m;have m:∀ j v,w.cell? ⟨bd,j,none⟩=some v->wr.cell? ⟨bd,j,none⟩=some v:=fun j v h=>(hwr.cell (p:=⟨bd,j,none⟩) hbd).trans h
   have i0:=m _ _ d0;have i1:=m _ _ d1;have i2:=m _ _ d2;have i3:=m _ _ d3;have i4:=m _ _ d4;have i5:=m _ _ d5;have i6:=m _ _ d6;clear d0 d1 d2 d3 d4 d5 d6 m;have HCA:Hid (∀ W,Below w.heap.size w W->Calls Tryz.prog 77 #[.agg #[.int .i64 x.id,.int .i64 x.c,.int .i64 x.d,.int .i64 x.t,.int .i64 x.p,.slice A5 x.ch.length k5,.slice A6 x.us.length k6],.agg #[.int .i64 y.id,.int .i64 y.c,.int .i64 y.d,.int .i64 y.t,.int .i64 y.p,.slice D5 y.ch.length l5,.slice D6 y.us.length l6]] W fun e w'=>e=.returned (.bool (p x y))/\Below W.heap.size W w'):=hI9 (fun W hW=>HPX.out A5 k5 A6 k6 D5 l5 D6 l6 W (Kd.C_below g5 hW) g7 (Kd.C_below g6 hW) g8 (Kd.C_below j5 hW) j7 (Kd.C_below j6 hW) j8);clear HPX g5 g6 g7 g8 j5 j6 j7 j8;generalize p x y=b at HST HCA;obtain⟨x0,x1,x2,x3,x4,x5,x6⟩:=x;obtain⟨y0,y1,y2,y3,y4,y5,y6⟩:=y;simp only at f0 f1 f2 f3 f4 f5 f6 i0 i1 i2 i3 i4 i5 i6 HCA;generalize x5.length=x5 at *
   generalize x6.length=x6 at *
   generalize y5.length=y5 at *
   generalize y6.length=y6 at *
   go_upto_region 6 with (fail)
   have hb1:=hwr.alloc hwr.size (.cells #[.int .i64 x0,.int .i64 x1,.int .i64 x2,.int .i64 x3,.int .i64 x4,.slice A5 x5 k5,.slice A6 x6 k6] 58);have hn1:=heap_alloc_new wr (.cells #[.int .i64 x0,.int .i64 x1,.int .i64 x2,.int .i64 x3,.int .i64 x4,.slice A5 x5 k5,.slice A6 x6 k6] 58);have m:∀ j v,wr.cell? ⟨bd,j,none⟩=some v->(wr.alloc (.cells #[.int .i64 x0,.int .i64 x1,.int .i64 x2,.int .i64 x3,.int .i64 x4,.slice A5 x5 k5,.slice A6 x6 k6] 58)).cell? ⟨bd,j,none⟩=some v:=fun j v h=>(((bR9 wr.heap.size wr).alloc (nR9 _) (.cells #[.int .i64 x0,.int .i64 x1,.int .i64 x2,.int .i64 x3,.int .i64 x4,.slice A5 x5 k5,.slice A6 x6 k6] 58)).cell (p:=⟨bd,j,none⟩) (bLt wr _ h)).trans h
   have m0:=m _ _ i0;have m1:=m _ _ i1;have m2:=m _ _ i2;have m3:=m _ _ i3;have m4:=m _ _ i4;have m5:=m _ _ i5;have m6:=m _ _ i6;generalize wr.alloc (.cells #[.int .i64 x0,.int .i64 x1,.int .i64 x2,.int .i64 x3,.int .i64 x4,.slice A5 x5 k5,.slice A6 x6 k6] 58)=W1 at hb1 hn1 m0 m1 m2 m3 m4 m5 m6 ⊢;obtain⟨r1,hr1⟩:∃ z,wr.heap.size=z:=⟨_,rfl⟩;rw [hr1] at hn1 ⊢;have hl1:=lt_of_block hn1;clear m f0 f1 f2 f3 f4 f5 f6 i0 i1 i2 i3 i4 i5 i6 hr1 hwr;go_upto_region 7 with (fail)
   have hb2:=hb1.alloc hb1.size (.cells #[.int .i64 y0,.int .i64 y1,.int .i64 y2,.int .i64 y3,.int .i64 y4,.slice D5 y5 l5,.slice D6 y6 l6] 58);have hn2:=heap_alloc_new W1 (.cells #[.int .i64 y0,.int .i64 y1,.int .i64 y2,.int .i64 y3,.int .i64 y4,.slice D5 y5 l5,.slice D6 y6 l6] 58);have hn1':=(((bR9 W1.heap.size W1).alloc (nR9 _) (.cells #[.int .i64 y0,.int .i64 y1,.int .i64 y2,.int .i64 y3,.int .i64 y4,.slice D5 y5 l5,.slice D6 y6 l6] 58)).block r1 hl1).trans hn1;generalize W1.alloc (.cells #[.int .i64 y0,.int .i64 y1,.int .i64 y2,.int .i64 y3,.int .i64 y4,.slice D5 y5 l5,.slice D6 y6 l6] 58)=W2 at hb2 hn2 hn1' ⊢;obtain⟨r2,hr2⟩:∃ z,W1.heap.size=z:=⟨_,rfl⟩;rw [hr2] at hn2 ⊢;have hne:¬ r1=r2:=by omega
   clear m0 m1 m2 m3 m4 m5 m6 hn1 hr2 hl1 hb1;obtain⟨t0,t1,t2,t3,t4,t5,t6⟩:=qbi hn1';obtain⟨s0,s1,s2,s3,s4,s5,s6⟩:=qbi hn2;have HB2:=hI9 hb2;have HC2:=hI9 (HCA.out W2 hb2);clear hn1' hn2 hb2 HCA;cases b with
   |true=>
    have HQ:Hid (R=allG p (L.drop (i+1)) (M.drop (i+1))):=hI9 (by rw [HST.out,Bool.true_and]);go_wp2_with (go_at_call 77;refine HC2.out.mono ?_;rintro e w5 ⟨rfl,hb5⟩)
    go_roundw
    case rel=>exact⟨i+1,by simp,hin,HQ,HB2.out.trans (hb5.mono HB2.out.size)⟩
    case measure=>simp [RowKit.intOf];omega
   |false=>
    have HQ:Hid (R=false):=hI9 (by rw [HST.out,Bool.false_and]);go_wp2_with (go_at_call 77;refine HC2.out.mono ?_;rintro e w5 ⟨rfl,hb5⟩)
    go_ret;exact⟨by rw [HQ.out];rfl,HB2.out.trans (hb5.mono HB2.out.size)⟩
  .obtain rfl:i=n:=by omega
   have HQ:Hid (R=true):=hI9 (by rw [hS.out,List.drop_eq_nil_of_le (by rw [<- HN.out];exact nR9 _),List.drop_eq_nil_of_le (by rw [<- HM.out];exact nR9 _)];rfl);clear T1 T2 HP hS HR;go_wp2;go_ret;exact⟨by rw [HQ.out];rfl,hwr⟩
end Go.Proofs.YtgnaaokhfpfglaaGreatDoor
end
section
namespace Go.Proofs.YtgnaaokhfpfglaaGreatDoor
open Go.RowKit Go.Shelf Go.Lib
def idxB (p:Bd->Bool):Nat->List Bd->Int
 |_,[]=>-1
 |i,x::r=>if p x then (i:Int) else idxB p (i+1) r
theorem idxB_any (p:Bd->Bool):∀ (L:List Bd) (i:Nat),decide (0<=idxB p i L)=L.any p:=by
 intro L
 induction L with
 |nil=>intro i;rfl
 |cons x r ih=>
  intro i;rw [idxB,List.any_cons];by_cases h:p x=true
  .rw [if_pos h,h,Bool.true_or];exact decide_eq_true (by omega)
  .rw [if_neg h,ih,Bool.not_eq_true _ |>.mp h,Bool.false_or]
theorem idxB_step {p:Bd->Bool} {L:List Bd} {i:Nat} (h:i<L.length):idxB p i (L.drop i)=if p L[i] then (i:Int) else idxB p (i+1) (L.drop (i+1)):=by
 rw [List.drop_eq_getElem_cons h];rfl
def SaysB (x:Bd) (b:Bool):Prop:=∀ W:World,Calls Tryz.prog 68 #[.agg #[.int .i64 x.i,.int .i64 x.g,.int .i64 x.t,.int .i64 x.k]] W fun e w'=>e=.returned (.bool b)/\Below W.heap.size W w'
theorem boundIndex_any (p:Bd->Bool) (A:Option Addr) (cap:Nat) (L:List Bd) (w:World) (hn:L.length<=4000000) (hr:BdRow w w.heap.size A L) (hp:∀ x ∈ L,SaysB x (p x)) :
  Calls Tryz.prog 107 #[.slice A L.length cap,.func (Fn.func 68) #[] #[]] w fun e w'=>e=.returned (.int .i64 (idxB p 0 L))/\Below w.heap.size w w':=by
 obtain⟨n,hn'⟩:∃ n,n=L.length:=⟨_,rfl⟩;obtain⟨R,hR⟩:∃ R,R=idxB p 0 L:=⟨_,rfl⟩;rw [<- hn'] at hn;rw [<- hR,<- hn'];have HN:=hI9 hn';have HR:Hid (R=idxB p 0 (L.drop 0)):=hI9 hR;have HP:=hI9 hp;clear hn' hR hp;go_enter Tryz.func107,Tryz.ntmps107;go_wp2;go_loopw [8] (fun v8 wr=>∃ (i:Nat),v8=.int .i64 i/\i<=n/\Hid (R=idxB p i (L.drop i))/\Below w.heap.size w wr) (fun v8 _=>n - (RowKit.intOf v8).toNat)
 case atStart=>exact⟨0,rfl,Nat.zero_le _,HR,bR9 _ _⟩
 case round=>
  obtain⟨i,rfl,hi,hS,hwr⟩:=hrel;by_cases hin:i<n
  .have hil:i<L.length:=by rw [<- HN.out];exact hin
   obtain⟨b1,o1,rfl,hbl,hc1⟩:=hr (by omega);obtain⟨e0,e1,e2,e3⟩:=hc1 i hil;have m:∀ j v,w.cell? ⟨b1,j,none⟩=some v->wr.cell? ⟨b1,j,none⟩=some v:=fun j v h=>(hwr.cell (p:=⟨b1,j,none⟩) hbl).trans h
   have a0:=m _ _ e0;have a1:=m _ _ e1;have a2:=m _ _ e2;have a3:=m _ _ e3;have HST:=hI9 (hS.out.trans (idxB_step hil));have HPX:=hI9 (HP.out L[i] (List.getElem_mem hil));clear hc1 hS HR e0 e1 e2 e3 m;generalize L[i]=x at a0 a1 a2 a3 HST HPX;obtain⟨x0,x1,x2,x3⟩:=x;have HW:Hid (∀ W:World,Calls Tryz.prog 68 #[.agg #[.int .i64 x0,.int .i64 x1,.int .i64 x2,.int .i64 x3]] W fun e w'=>e=.returned (.bool (p ⟨x0,x1,x2,x3⟩))/\Below W.heap.size W w'):=hI9 HPX.out;clear HPX;simp only at a0 a1 a2 a3;generalize p ⟨x0,x1,x2,x3⟩=b at HST HW;cases b with
   |true=>
    have HB:Hid (R=(i:Int)):=hI9 (by rw [HST.out,if_pos rfl]);have HWR:=hI9 hwr;clear HST hwr;go_wp2_with (go_at_call 68;refine (HW.out _).mono ?_;rintro e w1 ⟨rfl,hb1⟩)
    go_ret;exact⟨by rw [HB.out];rfl,HWR.out.trans (hb1.mono HWR.out.size)⟩
   |false=>
    have HB:Hid (R=idxB p (i+1) (L.drop (i+1))):=hI9 (by rw [HST.out,if_neg (by decide)]);have HWR:=hI9 hwr;clear HST hwr;go_wp2_with (go_at_call 68;refine (HW.out _).mono ?_;rintro e w1 ⟨rfl,hb1⟩)
    go_roundw
    case rel=>exact⟨i+1,by simp,hin,HB,HWR.out.trans (hb1.mono HWR.out.size)⟩
    case measure=>simp [RowKit.intOf];omega
  .obtain rfl:i=n:=by omega
   have HB:Hid (R = -1):=hI9 (by rw [hS.out,HN.out,List.drop_eq_nil_of_le (nR9 _)];rfl);clear hS HR HP;go_wp2;go_ret;exact⟨by rw [HB.out];rfl,hwr⟩
theorem boundContains_any (p:Bd->Bool) (A:Option Addr) (cap:Nat) (L:List Bd) (w:World) (hn:L.length<=4000000) (hr:BdRow w w.heap.size A L) (hp:∀ x ∈ L,SaysB x (p x)) :
  Calls Tryz.prog 71 #[.slice A L.length cap,.func (Fn.func 68) #[] #[]] w fun e w'=>e=.returned (.bool (L.any p))/\Below w.heap.size w w':=by
 have H1:=hI9 (boundIndex_any p A cap L w hn hr hp);have HA:=hI9 (idxB_any p L 0);generalize idxB p 0 L=j at H1 HA;generalize L.any p=q at HA ⊢;clear hr hp;go_enter Tryz.func71,Tryz.ntmps71;go_wp2_with (go_at_call 107;refine H1.out.mono ?_;rintro e w1 ⟨rfl,hb1⟩)
 go_ret;exact⟨by rw [<- HA.out];rfl,hb1⟩
end Go.Proofs.YtgnaaokhfpfglaaGreatDoor
end
section
namespace Go.Proofs.YtgnaaokhfpfglaaGreatDoor.PCertBack
open Go.RowKit Go.Lib
def Tabs (w:World):Prop:=Go.Proofs.YtgnaaokhfpfglaaGreatDoor.Tabs w/\True
theorem Tabs.below {w w':World} (h:Tabs w) (hb:Below w.heap.size w w'):Tabs w':=⟨Go.Proofs.YtgnaaokhfpfglaaGreatDoor.Tabs.below h.1 hb,h.2⟩
end Go.Proofs.YtgnaaokhfpfglaaGreatDoor.PCertBack
end
section
namespace Go.Proofs.YtgnaaokhfpfglaaGreatDoor
open Go.RowKit
theorem no_dst_out {ops:Array Oper} {lo n:Nat} (h:(ops.toList.all fun o=>match o.dst with|some d=>decide (lo<=d) && decide (d<lo+n)|none=>true)=true) (d:Nat) (hd:d<lo\/lo+n<=d):∀ (j:Nat) (oj:Oper),ops[j]? = some oj->oj.dst≠some d:=by
 intro j oj hj he;have hm:oj ∈ ops.toList:=by
  obtain⟨hl,rfl⟩:=Array.getElem?_eq_some_iff.1 hj;exact Array.getElem_mem_toList hl
 have h1:=List.all_eq_true.1 h oj hm;have h2:(decide (lo<=d) && decide (d<lo+n))=true:=by rw [he] at h1;exact h1
 rw [Bool.and_eq_true,decide_eq_true_eq,decide_eq_true_eq] at h2;omega
theorem fold_get (t a:Array Value) (lo:Nat) (i:Nat):∀ m:Nat,((List.range m).foldl (fun acc k=>acc.setIfInBounds (lo+k) (a.getD (lo+k) undef)) t)[i]? = if lo<=i/\i<lo+m/\i<t.size then some (a.getD i undef) else t[i]?:=by
 intro m;have hsz:∀ m:Nat,((List.range m).foldl (fun acc k=>acc.setIfInBounds (lo+k) (a.getD (lo+k) undef)) t).size=t.size:=by
  intro m
  induction m with
  |zero=>rfl
  |succ m ih=>rw [List.range_succ,List.foldl_append];simpa using ih
 induction m with
 |zero=>rw [if_neg (by omega)];rfl
 |succ m ih=>
  rw [List.range_succ,List.foldl_append,List.foldl_cons,List.foldl_nil,Array.getElem?_setIfInBounds,hsz,ih];by_cases h1:lo+m=i
  .subst h1;by_cases h2:lo+m<t.size
   .rw [if_pos rfl,if_pos h2,if_pos (by omega)]
   .rw [if_pos rfl,if_neg h2,if_neg (by omega)];exact (Array.getElem?_eq_none (by omega)).symm
  .rw [if_neg h1];by_cases h2:lo<=i/\i<lo+m/\i<t.size
   .rw [if_pos h2,if_pos (by omega)]
   .rw [if_neg h2,if_neg (by omega)]
theorem tmps_out {t a:Array Value} {lo n:Nat} (hs:a.size=t.size) (h:∀ d,d<lo\/lo+n<=d->a[d]? = t[d]?):a=(List.range n).foldl (fun acc k=>acc.setIfInBounds (lo+k) (a.getD (lo+k) undef)) t:=by
 apply Array.ext_getElem?;intro i;rw [fold_get];by_cases h2:lo<=i/\i<lo+n/\i<t.size
 .rw [if_pos h2,gDe,Array.getElem?_eq_getElem (by omega)];rfl
 .rw [if_neg h2];by_cases h3:i<t.size
  .exact h i (by omega)
  .rw [Array.getElem?_eq_none (by omega),Array.getElem?_eq_none (by omega)]
end Go.Proofs.YtgnaaokhfpfglaaGreatDoor
end
section
namespace Go.Proofs.YtgnaaokhfpfglaaGreatDoor
open Go.RowKit Go.Shelf Go.Lib Go.Proofs.YtgnaaokhfpfglaaGreatDoorW.PrintWords
def CpI (tb ub b:Nat) (us:List Value) (bs:Value) (w:World) (T:List UInt8) (W:World):Prop:=
 (W.cell? ⟨tb,7,none⟩=some bs/\∀ i v,us[i]? = some v->W.cell? ⟨ub,i,none⟩=some v)/\Below w.heap.size w W/\w.heap.size<=b/\tb<b/\ub<b/\b<=W.heap.size/\Lib.IsBuilder 93 5 b b (Lib.byteCells T) W
theorem CpI.below {tb ub b:Nat} {us:List Value} {bs:Value} {w W W':World} {T:List UInt8} (h:CpI tb ub b us bs w T W) (hb:Below W.heap.size W W'):CpI tb ub b us bs w T W':=by
 obtain⟨⟨h0,h1⟩,h3,h4,h5,h6,h7,h8⟩:=h;have m:∀ p v,W.cell? p=some v->W'.cell? p=some v:=fun p v h=>(hb.cell (bLt W _ h)).trans h
 exact⟨⟨m _ _ h0,fun i v hi=>m _ _ (h1 i v hi)⟩,h3.trans (hb.mono h3.size),h4,h5,h6,Nat.le_trans h7 hb.size,isBuilder_below h8 hb⟩
theorem CpI.wrote {tb ub b:Nat} {us:List Value} {bs:Value} {w W W':World} {T:List UInt8} {s:ByteArray} (h:CpI tb ub b us bs w T W) (h2:Lib.BuilderAt 93 5 b b (.pointer (some ⟨b,0,none⟩)) (Lib.byteCells T++Lib.strCells s) W') (hb:Below b W W'):CpI tb ub b us bs w (T++s.data.toList) W':=by
 obtain⟨⟨h0,h1⟩,h3,h4,h5,h6,h7,_⟩:=h;refine⟨⟨(hb.cell (p:=⟨tb,_,none⟩) h5).trans h0,fun i v hi=>(hb.cell (p:=⟨ub,_,none⟩) h6).trans (h1 i v hi)⟩,h3.trans (hb.mono h4),h4,h5,h6,Nat.le_trans h7 hb.size,?_⟩;rw [byteCells_append,<- strCells_bytes];exact .inr h2
theorem put_any {tb ub b:Nat} {us:List Value} {bs:Value} {w W:World} {T:List UInt8} (s:ByteArray) (h:CpI tb ub b us bs w T W) (hl:T.length+s.size+1<=140737488355328) :
  Calls Tryz.prog 35 #[.string s,.pointer (some ⟨b,0,none⟩)] W fun e w'=>e=.returned (.tuple #[])/\CpI tb ub b us bs w (T++(s.data.toList++[10])) w':=by
 have HW:=hI9 (writeString_any b b (Lib.byteCells T) (s++⟨#[10]⟩) W h.2.2.2.2.2.2 (by rw [byteCells_len];simp [ByteArray.size_append];show T.length+(s.size+1)<=_;omega) h.2.2.2.2.2.1);have hw:∀ w',Lib.BuilderAt 93 5 b b (.pointer (some ⟨b,0,none⟩)) (Lib.byteCells T++Lib.strCells (s++⟨#[10]⟩)) w'->Below b W w'->CpI tb ub b us bs w (T++(s.data.toList++[10])) w':=fun w' h1 h2=>by
  have:=h.wrote h1 h2
  simpa [ByteArray.data_append] using this
 have HC:=hI9 hw;have kk:(9223372036854775807<s.size+1)=False:=eq_false (by omega);clear hw h;go_enter Tryz.func35,Tryz.ntmps35;go_wp2_with (go_at_call 36;refine HW.out.mono ?_;rintro e w7 ⟨rfl,h1,h2⟩)
 exact bodyPost_end (results_none rfl _ _ _) rfl ⟨rfl,HC.out _ h1 h2⟩
def bdW (x:Bd):ByteArray:=(((((⟨#[]⟩:ByteArray)++(⟨#[32]⟩++digB x.i))++(⟨#[32]⟩++digB x.g))++(⟨#[32]⟩++digB x.t))++(⟨#[32]⟩++digB x.k))
def crHead (P M:ByteArray):List UInt8:=[99,101,114,116,105,102,105,99,97,116,101,32]++P.data.toList++[32]++M.data.toList++[10]
def crTheta (l:List Int):List UInt8:=if l.length=0 then [] else [116,104,101,116,97,32]++(joinP l).data.toList++[10]
def crQ (l:List Int):List UInt8:=if l.length=0 then [] else [113,32]++(joinP l).data.toList++[10]
def crBound (x:Bd):List UInt8:=[98,111,117,110,100]++(bdW x).data.toList++[10]
def certT (P M:ByteArray) (th q:List Int) (bs:List Bd) (S:ByteArray):ByteArray:=⟨(crHead P M++crTheta th++crQ q++bs.flatMap crBound).toArray⟩++S
theorem eight_cells {W:World} {r:Nat} {t:TypeId} {a0 a1 a2 a3 a4 a5 a6 a7:Value} (hb:W.heap[r]? = some (.cells #[a0,a1,a2,a3,a4,a5,a6,a7] t (0,0))):W.cell? ⟨r,0,none⟩=some a0/\W.cell? ⟨r,1,none⟩=some a1/\W.cell? ⟨r,2,none⟩=some a2/\W.cell? ⟨r,3,none⟩=some a3/\W.cell? ⟨r,4,none⟩=some a4/\W.cell? ⟨r,5,none⟩=some a5/\W.cell? ⟨r,6,none⟩=some a6/\W.cell? ⟨r,7,none⟩=some a7:=by
 refine⟨?_,?_,?_,?_,?_,?_,?_,?_⟩<;>simp [World.cell?,hb]
theorem certPrint_yes (sets rel pol mode:Int) (A2:Option Addr) (n2 c2:Nat) (A5:Option Addr) (c5:Nat) (th:List Int) (A6:Option Addr) (c6:Nat) (q:List Int) (A7:Option Addr) (c7:Nat) (bs:List Bd) (w:World) (P M S:ByteArray)
  (hP:P.size<=100) (hM:M.size<=100) (hS:S.size<=10000000) (h5:th.length<=64/\∀ x ∈ th,-9223372036854775808<=x/\x<=9223372036854775807) (h6:q.length<=64/\∀ x ∈ q,-9223372036854775808<=x/\x<=9223372036854775807) (h7:bs.length<=64/\∀ x ∈ bs,(bdW x).size<=100)
  (HMay:∀ W,Below w.heap.size w W->Calls Tryz.prog 34 #[.agg #[.int .i64 sets,.int .i64 rel,.slice A2 n2 c2,.int .i64 pol,.int .i64 mode,.slice A5 th.length c5,.slice A6 q.length c6,.slice A7 bs.length c7]] W fun e w'=>e=.returned (.bool true)/\Below W.heap.size W w')
  (HPo:∀ W,Calls Tryz.prog 37 #[.int .i64 pol] W fun e w'=>e=.returned (.string P)/\Below W.heap.size W w')
  (HMo:∀ W,Calls Tryz.prog 38 #[.int .i64 mode] W fun e w'=>e=.returned (.string M)/\Below W.heap.size W w')
  (HLo:∀ W,Below w.heap.size w W->Calls Tryz.prog 40 #[.slice A5 th.length c5] W fun e w'=>(∃ A c,e=.returned (.slice A th.length c)/\NRow w' w'.heap.size A th)/\Below W.heap.size W w')
  (HWd:∀ x ∈ bs,∀ (r:Nat) (W:World),W.heap[r]? = some (.cells #[.int .i64 x.i,.int .i64 x.g,.int .i64 x.t,.int .i64 x.k] 2 (0,0))->Below w.heap.size w W->Calls Tryz.prog 41 #[.slice (some ⟨r,0,none⟩) 4 4] W fun e w'=>e=.returned (.string (bdW x))/\Below W.heap.size W w')
  (HPr:∀ W,Below w.heap.size w W->Calls Tryz.prog 43 #[.agg #[.int .i64 sets,.int .i64 rel,.slice A2 n2 c2]] W fun e w'=>e=.returned (.string S)/\Below W.heap.size W w')
  (hr6:NRow w w.heap.size A6 q) (hr7:BdRow w w.heap.size A7 bs)
  (htab:Lib.TabIs Tryz.prog w "internal/strconv.uint64pow10" .u64 Lib.pow10Tab) (hg:1<w.heap.size) :
  Calls Tryz.prog 13 #[.agg #[.int .i64 sets,.int .i64 rel,.slice A2 n2 c2,.int .i64 pol,.int .i64 mode,.slice A5 th.length c5,.slice A6 q.length c6,.slice A7 bs.length c7]] w fun e w'=>e=.returned (.string (certT P M th q bs S))/\Below w.heap.size w w':=by
 have hmf:∀ (fn:Fn) (first cap:Array Value) (w:World),(Instr.makeFunc fn first cap).run Tryz.prog w=.ok (.func fn first cap) w:=fun _ _ _ _=>rfl
 obtain⟨n5,hn5⟩:∃ z,th.length=z:=⟨_,rfl⟩;obtain⟨n6,hn6⟩:∃ z,q.length=z:=⟨_,rfl⟩;obtain⟨n7,hn7⟩:∃ z,bs.length=z:=⟨_,rfl⟩;rw [hn5,hn6,hn7] at HMay ⊢;rw [hn5] at HLo;have HMay:=hI9 HMay;have HPo:=hI9 HPo;have HMo:=hI9 HMo;have HLo:=hI9 HLo;have HWd:=hI9 HWd;have HPr:=hI9 HPr;have H5:=hI9 h5;have H6:=hI9 h6;have H7:=hI9 h7;have R6:=hI9 hr6;have R7:=hI9 hr7;have HTB:=hI9 (And.intro htab hg);have N5:=hI9 hn5;have N6:=hI9 hn6;have N7:=hI9 hn7;have HSZ:=hI9 (And.intro hP (And.intro hM hS));have HT:Hid (∃ Z,Z=certT P M th q bs S):=hI9 ⟨_,rfl⟩;obtain⟨Z,hZ⟩:=HT.out;rw [<- hZ];have HZ:=hI9 hZ;have hb0:=(bR9 w.heap.size w).alloc (nR9 _) (.cells #[.int .i64 sets,.int .i64 rel,.slice A2 n2 c2,.int .i64 pol,.int .i64 mode,.slice A5 n5 c5,.slice A6 n6 c6,.slice A7 n7 c7] 43);have hn0:=heap_alloc_new w (.cells #[.int .i64 sets,.int .i64 rel,.slice A2 n2 c2,.int .i64 pol,.int .i64 mode,.slice A5 n5 c5,.slice A6 n6 c6,.slice A7 n7 c7] 43);clear h5 h6 h7 hr6 hr7 htab hg hn5 hn6 hn7 hP hM hS HT hZ;go_enter Tryz.func13,Tryz.ntmps13;go_upto_region 1 with (fail)
 generalize w.alloc (.cells #[.int .i64 sets,.int .i64 rel,.slice A2 n2 c2,.int .i64 pol,.int .i64 mode,.slice A5 n5 c5,.slice A6 n6 c6,.slice A7 n7 c7] 43)=w0 at hb0 hn0 ⊢;obtain⟨tb,htb⟩:∃ z,w.heap.size=z:=⟨_,rfl⟩;rw [htb] at hn0 ⊢;obtain⟨t0,t1,t2,t3,t4,t5,t6,t7⟩:=eight_cells hn0;have HW:Hid (w.heap.size=tb):=hI9 htb;have HB0:Hid (Below w.heap.size w w0):=hI9 hb0;have HM0:=hI9 (HMay.out w0 HB0.out);clear hb0 hn0 htb HMay;go_upto_region 3 with (go_at_call 34;refine HM0.out.mono ?_;rintro e w1 ⟨rfl,hb1⟩)
 have hl0:=qaM t0;have m:∀ j v,w0.cell? ⟨tb,j,none⟩=some v->w1.cell? ⟨tb,j,none⟩=some v:=fun j v h=>(hb1.cell (p:=⟨tb,j,none⟩) hl0).trans h
 have s0:=m _ _ t0;have s1:=m _ _ t1;have s2:=m _ _ t2;have s3:=m _ _ t3;have s4:=m _ _ t4;have s5:=m _ _ t5;have s6:=m _ _ t6;have s7:=m _ _ t7;have HB1:=hI9 (HB0.out.trans (hb1.mono HB0.out.size));have HT1:Hid (tb<w1.heap.size):=hI9 (Nat.lt_of_lt_of_le hl0 hb1.size);clear m t0 t1 t2 t3 t4 t5 t6 t7 hb1 HM0 HB0 hl0;go_upto_region 4 with (fail)
 have hb2:=(bR9 w1.heap.size w1).alloc (nR9 _) (.cells #[.int .i64 sets,.int .i64 rel,.slice A2 n2 c2,.int .i64 pol,.int .i64 mode,.slice A5 n5 c5,.slice A6 n6 c6] 40);have hn2:=heap_alloc_new w1 (.cells #[.int .i64 sets,.int .i64 rel,.slice A2 n2 c2,.int .i64 pol,.int .i64 mode,.slice A5 n5 c5,.slice A6 n6 c6] 40);generalize w1.alloc (.cells #[.int .i64 sets,.int .i64 rel,.slice A2 n2 c2,.int .i64 pol,.int .i64 mode,.slice A5 n5 c5,.slice A6 n6 c6] 40)=w2 at hb2 hn2 ⊢;obtain⟨ub,hub⟩:∃ z,w1.heap.size=z:=⟨_,rfl⟩;rw [hub] at hn2 ⊢;have r7:=(hb2.cell (p:=⟨tb,7,none⟩) HT1.out).trans s7;obtain⟨r0,r1,r2,r3,r4,r5,r6⟩:=qbi hn2;have HB2:=hI9 (HB1.out.trans (hb2.mono HB1.out.size));have HT2:Hid (tb<ub):=hI9 (by rw [<- hub];exact HT1.out);have HU2:Hid (ub<w2.heap.size):=hI9 (lt_of_block hn2);have HR2:Hid ((w2.cell? ⟨tb,7,none⟩=some (.slice A7 n7 c7)/\∀ i v,[.int .i64 sets,.int .i64 rel,.slice A2 n2 c2,.int .i64 pol,.int .i64 mode,.slice A5 n5 c5,.slice A6 n6 c6][i]? = some v->w2.cell? ⟨ub,i,none⟩=some v)):=hI9 ⟨r7,fun i v hi=>by
  have:i<7:=(List.getElem?_eq_some_iff.1 hi).1;have h:i=0\/i=1\/i=2\/i=3\/i=4\/i=5\/i=6:=by omega
  rcases h with rfl|rfl|rfl|rfl|rfl|rfl|rfl<;>(cases hi;assumption)⟩
 clear s0 s1 s2 s3 s4 s5 s6 s7 r0 r1 r2 r3 r4 r5 r6 r7 hb2 hn2 hub HB1 HT1;go_upto_region 5 with (fail)
 have hib:=fresh_isBuilder 93 5 w2;have hb3:=(bR9 w2.heap.size w2).alloc (nR9 _) (.cells #[.pointer none,.slice none 0 0] 93);generalize w2.alloc (.cells #[.pointer none,.slice none 0 0] 93)=w3 at hib hb3 ⊢;obtain⟨b,hb⟩:∃ b,w2.heap.size=b:=⟨_,rfl⟩;have HP3:CpI tb ub b [.int .i64 sets,.int .i64 rel,.slice A2 n2 c2,.int .i64 pol,.int .i64 mode,.slice A5 n5 c5,.slice A6 n6 c6] (.slice A7 n7 c7) w [] w3:=by
  refine⟨⟨(hb3.cell (p:=⟨tb,7,none⟩) (bLt _ _ HR2.out.1)).trans HR2.out.1,fun i v hi=>(hb3.cell (p:=⟨ub,i,none⟩) (bLt _ _ (HR2.out.2 i v hi))).trans (HR2.out.2 i v hi)⟩,HB2.out.trans (hb3.mono HB2.out.size),?_,?_,?_,?_,?_⟩
  .rw [<- hb];exact HB2.out.size
  .rw [<- hb];have:=HT2.out;have:=HU2.out;omega
  .rw [<- hb];exact HU2.out
  .rw [<- hb];exact hb3.size
  .rw [hb] at hib;exact hib
 have HP3:=hI9 HP3;rw [hb];clear hb hib hb3 HR2 HB2 HT2 HU2;go_upto_region 6 with (fail)
 have C0:Hid (∀ (W:World) (T:List UInt8),CpI tb ub b [.int .i64 sets,.int .i64 rel,.slice A2 n2 c2,.int .i64 pol,.int .i64 mode,.slice A5 n5 c5,.slice A6 n6 c6] (.slice A7 n7 c7) w T W->Calls Tryz.prog 37 #[.int .i64 pol] W fun e w'=>e=.returned (.string P)/\CpI tb ub b [.int .i64 sets,.int .i64 rel,.slice A2 n2 c2,.int .i64 pol,.int .i64 mode,.slice A5 n5 c5,.slice A6 n6 c6] (.slice A7 n7 c7) w T w'):=hI9 (fun W T h=>(HPo.out W).mono (fun e w' h2=>⟨h2.1,h.below h2.2⟩));have C1:Hid (∀ (W:World) (T:List UInt8),CpI tb ub b [.int .i64 sets,.int .i64 rel,.slice A2 n2 c2,.int .i64 pol,.int .i64 mode,.slice A5 n5 c5,.slice A6 n6 c6] (.slice A7 n7 c7) w T W->Calls Tryz.prog 38 #[.int .i64 mode] W fun e w'=>e=.returned (.string M)/\CpI tb ub b [.int .i64 sets,.int .i64 rel,.slice A2 n2 c2,.int .i64 pol,.int .i64 mode,.slice A5 n5 c5,.slice A6 n6 c6] (.slice A7 n7 c7) w T w'):=hI9 (fun W T h=>(HMo.out W).mono (fun e w' h2=>⟨h2.1,h.below h2.2⟩));clear HPo HMo;have z1:(⟨#[99,101,114,116,105,102,105,99,97,116,101,32]⟩:ByteArray).size=12:=rfl;have z2:(⟨#[32]⟩:ByteArray).size=1:=rfl;have zP:=HSZ.out.1;have zM:=HSZ.out.2.1;have hcr:(((⟨#[99,101,114,116,105,102,105,99,97,116,101,32]⟩:ByteArray)++P++⟨#[32]⟩)++M).data.toList++[10]=crHead P M:=by simp [crHead]
 have HCR:=hI9 hcr;clear hcr;go_cut [1,2,3,4,5] from 72 (fun v1 v2 v3 v4 v5 wx=>v1=.pointer (some ⟨tb,0,none⟩)/\v2=.string ⟨#[]⟩/\v3=.pointer (some ⟨ub,0,none⟩)/\v4=.pointer (some ⟨b,0,none⟩)/\v5=.func (Fn.func 35) #[] #[.pointer (some ⟨b,0,none⟩)]/\CpI tb ub b [.int .i64 sets,.int .i64 rel,.slice A2 n2 c2,.int .i64 pol,.int .i64 mode,.slice A5 n5 c5,.slice A6 n6 c6] (.slice A7 n7 c7) w (crHead P M) wx)
 case first=>
  refine wp_region_facts_k 10 (by kernel_rfl) (by kernel_rfl) (fun i v W=>match i with
    |0=>v=.func (Fn.func 35) #[] #[.pointer (some ⟨b,0,none⟩)]
    |1=>v=.pointer (some ⟨ub,3,none⟩)
    |2=>v=.int .i64 pol
    |3=>v=.string P
    |4=>v=.string ((⟨#[99,101,114,116,105,102,105,99,97,116,101,32]⟩:ByteArray)++P)
    |5=>v=.string (((⟨#[99,101,114,116,105,102,105,99,97,116,101,32]⟩:ByteArray)++P)++⟨#[32]⟩)
    |6=>v=.pointer (some ⟨ub,4,none⟩)
    |7=>v=.int .i64 mode
    |8=>v=.string M
    |9=>v=.string ((((⟨#[99,101,114,116,105,102,105,99,97,116,101,32]⟩:ByteArray)++P)++⟨#[32]⟩)++M)
    |10=>True
    |_=>True) (fun _ _=>True) (fun _ _ _ _ h _=>h) (fun bk W=>CpI tb ub b [.int .i64 sets,.int .i64 rel,.slice A2 n2 c2,.int .i64 pol,.int .i64 mode,.slice A5 n5 c5,.slice A6 n6 c6] (.slice A7 n7 c7) w (if bk=true then crHead P M else []) W) (HP3.out.below (bR9 _ _).drew) (oD9 (by rfl)) ?_ ?_
  .intro i o a W bk ho hsz hfr hdep hG hbk;have hi:i<11:=(Array.getElem?_eq_some_iff.1 ho).1;have hin:i=0\/i=1\/i=2\/i=3\/i=4\/i=5\/i=6\/i=7\/i=8\/i=9\/i=10:=by omega
   rcases hin with rfl|rfl|rfl|rfl|rfl|rfl|rfl|rfl|rfl|rfl|rfl
   .cases ho;have g:a.tmps.getD 5 undef=.func (Fn.func 35) #[] #[.pointer (some ⟨b,0,none⟩)]:=by rw [gDe,hfr 5 (qaw (by kernel_rfl))];rfl
    clear hfr hdep hsz;generalize hK:(fun (a':Act) (w':World)=>_)=K;go_simp;rw [<- hK];exact⟨_,rfl,rfl,trivial,by simpa using hG⟩
   .cases ho;have g:a.tmps.getD 3 undef=.pointer (some ⟨ub,0,none⟩):=by rw [gDe,hfr 3 (qaw (by kernel_rfl))];rfl
    clear hfr hdep hsz;generalize hK:(fun (a':Act) (w':World)=>_)=K;go_simp;rw [<- hK];exact⟨_,rfl,rfl,trivial,by simpa using hG⟩
   .cases ho;obtain⟨_,q1,e1⟩:=hdep ⟨1,.data⟩ (by simp) rfl _ _ rfl rfl;have g1:a.tmps.getD 15 undef=.pointer (some ⟨ub,3,none⟩):=by rw [gDe,q1,e1];rfl
    rw [e1] at q1;clear e1;have hc:W.cell? ⟨ub,3,none⟩=some (.int .i64 pol):=hG.1.2 3 _ rfl;clear hfr hdep hsz;generalize hK:(fun (a':Act) (w':World)=>_)=K;go_simp;rw [<- hK];exact⟨_,rfl,rfl,trivial,by simpa using hG⟩
   .cases ho;obtain⟨_,q2,e2⟩:=hdep ⟨2,.data⟩ (by simp) rfl _ _ rfl rfl;have g2:a.tmps.getD 16 undef=.int .i64 pol:=by rw [gDe,q2,e2];rfl
    rw [e2] at q2;clear e2;clear hfr hdep hsz;generalize hK:(fun (a':Act) (w':World)=>_)=K;go_simp;refine (C0.out W _ hG).mono ?_;rintro e W2 ⟨rfl,hG2⟩;show K _ _;rw [<- hK];exact⟨_,rfl,rfl,trivial,by simpa using hG2⟩
   .cases ho;obtain⟨_,q3,e3⟩:=hdep ⟨3,.data⟩ (by simp) rfl _ _ rfl rfl;have g3:a.tmps.getD 17 undef=.string P:=by rw [gDe,q3,e3];rfl
    rw [e3] at q3;clear e3;clear hfr hdep hsz;generalize hK:(fun (a':Act) (w':World)=>_)=K;go_simp;rw [if_neg (by omega)];go_simp;rw [<- hK];exact⟨_,rfl,rfl,trivial,by simpa using hG⟩
   .cases ho;obtain⟨_,q4,e4⟩:=hdep ⟨4,.data⟩ (by simp) rfl _ _ rfl rfl;have g4:a.tmps.getD 18 undef=.string ((⟨#[99,101,114,116,105,102,105,99,97,116,101,32]⟩:ByteArray)++P):=by rw [gDe,q4,e4];rfl
    rw [e4] at q4;clear e4;clear hfr hdep hsz;generalize hK:(fun (a':Act) (w':World)=>_)=K;go_simp;rw [if_neg (by omega)];go_simp;rw [<- hK];exact⟨_,rfl,rfl,trivial,by simpa using hG⟩
   .cases ho;have g:a.tmps.getD 3 undef=.pointer (some ⟨ub,0,none⟩):=by rw [gDe,hfr 3 (qaw (by kernel_rfl))];rfl
    clear hfr hdep hsz;generalize hK:(fun (a':Act) (w':World)=>_)=K;go_simp;rw [<- hK];exact⟨_,rfl,rfl,trivial,by simpa using hG⟩
   .cases ho;obtain⟨_,q6,e6⟩:=hdep ⟨6,.data⟩ (by simp) rfl _ _ rfl rfl;have g6:a.tmps.getD 20 undef=.pointer (some ⟨ub,4,none⟩):=by rw [gDe,q6,e6];rfl
    rw [e6] at q6;clear e6;have hc:W.cell? ⟨ub,4,none⟩=some (.int .i64 mode):=hG.1.2 4 _ rfl;clear hfr hdep hsz;generalize hK:(fun (a':Act) (w':World)=>_)=K;go_simp;rw [<- hK];exact⟨_,rfl,rfl,trivial,by simpa using hG⟩
   .cases ho;obtain⟨_,q7,e7⟩:=hdep ⟨7,.data⟩ (by simp) rfl _ _ rfl rfl;have g7:a.tmps.getD 21 undef=.int .i64 mode:=by rw [gDe,q7,e7];rfl
    rw [e7] at q7;clear e7;clear hfr hdep hsz;generalize hK:(fun (a':Act) (w':World)=>_)=K;go_simp;refine (C1.out W _ hG).mono ?_;rintro e W2 ⟨rfl,hG2⟩;show K _ _;rw [<- hK];exact⟨_,rfl,rfl,trivial,by simpa using hG2⟩
   .cases ho;obtain⟨_,q5,e5⟩:=hdep ⟨5,.data⟩ (by simp) rfl _ _ rfl rfl;have g5:a.tmps.getD 19 undef=.string (((⟨#[99,101,114,116,105,102,105,99,97,116,101,32]⟩:ByteArray)++P)++⟨#[32]⟩):=by rw [gDe,q5,e5];rfl
    rw [e5] at q5;clear e5;obtain⟨_,q8,e8⟩:=hdep ⟨8,.data⟩ (by simp) rfl _ _ rfl rfl;have g8:a.tmps.getD 22 undef=.string M:=by rw [gDe,q8,e8];rfl
    rw [e8] at q8;clear e8;clear hfr hdep hsz;generalize hK:(fun (a':Act) (w':World)=>_)=K;go_simp;rw [if_neg (by omega)];go_simp;rw [<- hK];exact⟨_,rfl,rfl,trivial,by simpa using hG⟩
   .cases ho;obtain⟨_,q0,e0⟩:=hdep ⟨0,.data⟩ (by simp) rfl _ _ rfl rfl;have g0:a.tmps.getD 14 undef=.func (Fn.func 35) #[] #[.pointer (some ⟨b,0,none⟩)]:=by rw [gDe,q0,e0];rfl
    rw [e0] at q0;clear e0;obtain⟨_,q9,e9⟩:=hdep ⟨9,.data⟩ (by simp) rfl _ _ rfl rfl;have g9:a.tmps.getD 23 undef=.string ((((⟨#[99,101,114,116,105,102,105,99,97,116,101,32]⟩:ByteArray)++P)++⟨#[32]⟩)++M):=by rw [gDe,q9,e9];rfl
    rw [e9] at q9;clear e9;rw [hbk rfl] at hG ⊢;simp only [Bool.false_eq_true,if_false] at hG;have HWS:=hI9 (put_any ((((⟨#[99,101,114,116,105,102,105,99,97,116,101,32]⟩:ByteArray)++P)++⟨#[32]⟩)++M) hG (by simp only [ByteArray.size_append,List.length_nil];omega));rw [List.nil_append,HCR.out] at HWS;clear hfr hdep hsz;generalize hK:(fun (a':Act) (w':World)=>_)=K;go_simp;refine HWS.out.mono ?_;rintro e W2 ⟨rfl,hG2⟩;show K _ _;rw [<- hK];exact⟨_,rfl,trivial,trivial,by simpa using hG2⟩
  .intro a W hd hsz hfr hall hG;have ha:a = { tmps:=a.tmps,defers:=[] }:=by cases a;simp at hd;subst hd;rfl
   rw [ha,tmps_out (lo:=14) (n:=11) hsz (fun d hd=>hfr d (no_dst_out (lo:=14) (n:=11) (by kernel_rfl) d hd))];clear ha hd hsz hfr hall;generalize a.tmps.getD (14+0) undef=y0;generalize a.tmps.getD (14+1) undef=y1;generalize a.tmps.getD (14+2) undef=y2;generalize a.tmps.getD (14+3) undef=y3;generalize a.tmps.getD (14+4) undef=y4;generalize a.tmps.getD (14+5) undef=y5;generalize a.tmps.getD (14+6) undef=y6;generalize a.tmps.getD (14+7) undef=y7;generalize a.tmps.getD (14+8) undef=y8;generalize a.tmps.getD (14+9) undef=y9;generalize a.tmps.getD (14+10) undef=y10;go_wp2;go_meet
   exact⟨rfl,rfl,rfl,rfl,rfl,hG⟩
 case rest=>
  obtain⟨rfl,rfl,rfl,rfl,rfl,hP4⟩:=hcut;clear C0 C1 HP3 z1 z2 zP zM HCR;have HP4:=hI9 hP4;clear hP4;have HWB:Hid (∀ T W,CpI tb ub b [.int .i64 sets,.int .i64 rel,.slice A2 n2 c2,.int .i64 pol,.int .i64 mode,.slice A5 n5 c5,.slice A6 n6 c6] (.slice A7 n7 c7) w T W->Below w.heap.size w W):=hI9 (fun T W h=>h.2.1);obtain⟨J5,hJ5⟩:∃ z,z=joinP th:=⟨_,rfl⟩;obtain⟨J6,hJ6⟩:∃ z,z=joinP q:=⟨_,rfl⟩;have zJ5:J5.size<=2000:=by
   have:=joinP_size (l:=th) (fun x hx=>H5.out.2 x hx);have:=H5.out.1;rw [hJ5];omega
  have zJ6:J6.size<=2000:=by
   have:=joinP_size (l:=q) (fun x hx=>H6.out.2 x hx);have:=H6.out.1;rw [hJ6];omega
  have HJ5:Hid (∀ (A:Option Addr) (c:Nat) (W:World),Below w.heap.size w W->NRow W W.heap.size A th->Calls Tryz.prog 39 #[.slice A n5 c] W fun e w'=>e=.returned (.string J5)/\Below W.heap.size W w'):=hI9 (fun A c W hW hr=>by
   have:=join_any A c th W H5.out.2 (by have:=H5.out.1;omega) hr (qaR HTB.out.1 hW HTB.out.2) (by have:=hW.size;have:=HTB.out.2;omega);rw [N5.out] at this;rw [hJ5]
   exact this)
  have HJ6:Hid (∀ (W:World),Below w.heap.size w W->Calls Tryz.prog 39 #[.slice A6 n6 c6] W fun e w'=>e=.returned (.string J6)/\Below W.heap.size W w'):=hI9 (fun W hW=>by
   have:=join_any A6 c6 q W H6.out.2 (by have:=H6.out.1;omega) ((R6.out.below hW (nR9 _)).more hW.size) (qaR HTB.out.1 hW HTB.out.2) (by have:=hW.size;have:=HTB.out.2;omega);rw [N6.out] at this;rw [hJ6]
   exact this)
  have hth:crTheta th=if n5=0 then [] else [116,104,101,116,97,32]++J5.data.toList++[10]:=by rw [hJ5,<- N5.out];rfl
  have hqq:crQ q=if n6=0 then [] else [113,32]++J6.data.toList++[10]:=by rw [hJ6,<- N6.out];rfl
  have hhd:(crHead P M).length<=300:=by
   have h1:=HSZ.out.1;have h2:=HSZ.out.2.1;have e1:=Lib.size_eq P;have e2:=Lib.size_eq M;simp [crHead];omega
  have n5b:n5<=64:=by rw [<- N5.out];exact H5.out.1
  have n6b:n6<=64:=by rw [<- N6.out];exact H6.out.1
  have n7b:n7<=64:=by rw [<- N7.out];exact H7.out.1
  have hzz:certT P M th q bs S=⟨(crHead P M++crTheta th++crQ q++bs.flatMap crBound).toArray⟩++S:=rfl;have HZZ:=hI9 (HZ.out.trans hzz);generalize crHead P M=H0 at hhd HP4 HZZ;generalize crTheta th=H1 at hth HZZ;generalize crQ q=H2 at hqq HZZ;have zH1:H1.length<=2100:=by
   have e1:=Lib.size_eq J5;rw [hth];split
   .exact Nat.zero_le _
   .simp;omega
  have zH2:H2.length<=2100:=by
   have e1:=Lib.size_eq J6;rw [hqq];split
   .exact Nat.zero_le _
   .simp;omega
  have HH1:=hI9 hth;have HH2:=hI9 hqq;clear hzz hth hqq hJ5 hJ6 H5 H6 R6 HTB HZ hmf;have u5:=HP4.out.1.2 5 _ rfl;go_upto_if 28 with (fail)
  generalize hd5:decide (0<n5)=d5;have HD5:=hI9 hd5;clear hd5;go_cut [1,2,3,4,5] from 72 (fun v1 v2 v3 v4 v5 wx=>v1=.pointer (some ⟨tb,0,none⟩)/\v2=.string ⟨#[]⟩/\v3=.pointer (some ⟨ub,0,none⟩)/\v4=.pointer (some ⟨b,0,none⟩)/\v5=.func (Fn.func 35) #[] #[.pointer (some ⟨b,0,none⟩)]/\CpI tb ub b [.int .i64 sets,.int .i64 rel,.slice A2 n2 c2,.int .i64 pol,.int .i64 mode,.slice A5 n5 c5,.slice A6 n6 c6] (.slice A7 n7 c7) w (H0++H1) wx)
  case first=>
   cases d5 with
   |false=>
    have hx:Hid (H1=[]):=hI9 (by rw [HH1.out,if_pos (by have:=of_decide_eq_false HD5.out;omega)]);go_wp2;go_meet
    exact⟨rfl,rfl,rfl,rfl,rfl,by rw [hx.out,List.append_nil];exact HP4.out⟩
   |true=>
    have hx:Hid (H1=[116,104,101,116,97,32]++J5.data.toList++[10]):=hI9 (by rw [HH1.out,if_neg (by have:=oD9 HD5.out;omega)]);have kk:(9223372036854775807<6+J5.size)=False:=eq_false (by omega);have zz:Hid (J5.size<=2000/\H0.length<=300):=hI9 ⟨zJ5,hhd⟩;clear zJ5 zJ6 hhd zH1 zH2 n5b n6b n7b HH1 HH2;go_wp2_with (first|(go_at_call 40;refine (HLo.out _ (HWB.out _ _ HP4.out)).mono ?_;rintro e w5 ⟨⟨A9,c9,rfl,hR9⟩,hb5⟩;have HP5:=hI9 (HP4.out.below hb5);have HJ:=hI9 (HJ5.out A9 c9 w5 (HWB.out _ _ HP5.out) hR9))|(go_at_call 39;refine HJ.out.mono ?_;rintro e w6 ⟨rfl,hb6⟩;have HP6:=hI9 (HP5.out.below hb6);have HWS:=hI9 (put_any ((⟨#[116,104,101,116,97,32]⟩:ByteArray)++J5) HP6.out (by have:=zz.out;rw [ByteArray.size_append];show _+(6+_)+1<=_;omega)))|(go_at_call 35;refine HWS.out.mono ?_;rintro e w7 ⟨rfl,hP7⟩))
    go_meet
    exact⟨rfl,rfl,rfl,rfl,rfl,by rw [hx.out];simpa [ByteArray.data_append,List.append_assoc] using hP7⟩
  case rest=>
  obtain⟨rfl,rfl,rfl,rfl,rfl,hP5⟩:=hcut;clear HP4 u5 HJ5 HLo HH1 zJ5;have HP5:=hI9 hP5;clear hP5;have u6:=HP5.out.1.2 6 _ rfl;go_upto_if 39 with (fail)
  generalize hd6:decide (0<n6)=d6;have HD6:=hI9 hd6;clear hd6;go_cut [1,2,3,4,5] from 72 (fun v1 v2 v3 v4 v5 wx=>v1=.pointer (some ⟨tb,0,none⟩)/\v2=.string ⟨#[]⟩/\v3=.pointer (some ⟨ub,0,none⟩)/\v4=.pointer (some ⟨b,0,none⟩)/\v5=.func (Fn.func 35) #[] #[.pointer (some ⟨b,0,none⟩)]/\CpI tb ub b [.int .i64 sets,.int .i64 rel,.slice A2 n2 c2,.int .i64 pol,.int .i64 mode,.slice A5 n5 c5,.slice A6 n6 c6] (.slice A7 n7 c7) w (H0++H1++H2) wx)
  case first=>
   cases d6 with
   |false=>
    have hx:Hid (H2=[]):=hI9 (by rw [HH2.out,if_pos (by have:=of_decide_eq_false HD6.out;omega)]);go_wp2;go_meet
    exact⟨rfl,rfl,rfl,rfl,rfl,by rw [hx.out,List.append_nil];exact HP5.out⟩
   |true=>
    have hx:Hid (H2=[113,32]++J6.data.toList++[10]):=hI9 (by rw [HH2.out,if_neg (by have:=oD9 HD6.out;omega)]);have kk:(9223372036854775807<2+J6.size)=False:=eq_false (by omega);have zz:Hid (J6.size<=2000/\H0.length<=300/\H1.length<=2100):=hI9 ⟨zJ6,hhd,zH1⟩;clear zJ6 hhd zH1 zH2 n5b n6b n7b HH2;go_wp2_with (first|(go_at_call 39;refine (HJ6.out _ (HWB.out _ _ HP5.out)).mono ?_;rintro e w6 ⟨rfl,hb6⟩;have HP6:=hI9 (HP5.out.below hb6);have HWS:=hI9 (put_any ((⟨#[113,32]⟩:ByteArray)++J6) HP6.out (by have:=zz.out;rw [ByteArray.size_append,List.length_append];show _+(2+_)+1<=_;omega)))|(go_at_call 35;refine HWS.out.mono ?_;rintro e w7 ⟨rfl,hP7⟩))
    go_meet
    exact⟨rfl,rfl,rfl,rfl,rfl,by rw [hx.out];simpa [ByteArray.data_append,List.append_assoc] using hP7⟩
  case rest=>
  obtain⟨rfl,rfl,rfl,rfl,rfl,hP6⟩:=hcut;clear HP5 u6 HJ6 HH2 zJ6;obtain⟨H3,hH3⟩:∃ z,z=H0++H1++H2:=⟨_,rfl⟩;rw [<- hH3] at hP6 HZZ;have zH3:Hid (H3.length<=5000):=hI9 (by rw [hH3,List.length_append,List.length_append];omega);clear hH3 zH1 zH2 hhd n5b n6b;have HP6:=hI9 hP6;clear hP6;have u7:=HP6.out.1.1;have HSG:Hid (∀ i,i<=64->(H3++(bs.take i).flatMap crBound).length<=12000):=hI9 (fun i hi=>by
   have h1:∀ (l:List Bd),(∀ x ∈ l,(bdW x).size<=100)->(l.flatMap crBound).length<=106 * l.length:=by
    intro l
    induction l with
    |nil=>intro _;exact Nat.zero_le _
    |cons x r ih=>
     intro h;have h2:=ih (fun y hy=>h y (List.mem_cons_of_mem _ hy));have h3:=h x List.mem_cons_self;have h4:=Lib.size_eq (bdW x);simp only [List.flatMap_cons,List.length_append,List.length_cons,crBound,List.length_nil] at h2 ⊢;omega
   have h2:=h1 (bs.take i) (fun x hx=>H7.out.2 x (List.mem_of_mem_take hx));have h3:(bs.take i).length<=64:=by rw [List.length_take];omega
   have h4:=zH3.out;rw [List.length_append]
   omega)
  go_wp2;go_loopw [49] (fun v49 wr=>∃ (i:Nat),v49=.int .i64 i/\i<=n7/\Hid (CpI tb ub b [.int .i64 sets,.int .i64 rel,.slice A2 n2 c2,.int .i64 pol,.int .i64 mode,.slice A5 n5 c5,.slice A6 n6 c6] (.slice A7 n7 c7) w (H3++(bs.take i).flatMap crBound) wr)) (fun v49 _=>n7 - (RowKit.intOf v49).toNat)
  case atStart=>exact⟨0,rfl,Nat.zero_le _,hI9 (by simpa using HP6.out)⟩
  case round=>
   obtain⟨i,rfl,hi,HP⟩:=hrel;by_cases hil:i<n7
   .have hil':i<bs.length:=by rw [N7.out];exact hil
    obtain⟨bb,off,rfl,hbl,HAT⟩:=R7.out (by rw [N7.out];omega);obtain⟨e0,e1,e2,e3⟩:=HAT i hil';have hwr:=HWB.out _ _ HP.out;have m:∀ j v,w.cell? ⟨bb,j,none⟩=some v->wr.cell? ⟨bb,j,none⟩=some v:=fun j v h=>(hwr.cell (p:=⟨bb,j,none⟩) hbl).trans h
    have f0:=m _ _ e0;have f1:=m _ _ e1;have f2:=m _ _ e2;have f3:=m _ _ e3;have HGS:Hid (H3++(bs.take (i+1)).flatMap crBound=(H3++(bs.take i).flatMap crBound)++crBound bs[i]):=hI9 (by
     rw [List.take_add_one,List.getElem?_eq_getElem hil',List.flatMap_append,List.append_assoc]
     simp)
    have HTL:=hI9 (HSG.out i (by omega));have HWD:=hI9 (HWd.out bs[i] (List.getElem_mem _));have HWZ:=hI9 (H7.out.2 bs[i] (List.getElem_mem _));clear e0 e1 e2 e3 m HAT hwr HP6;generalize H3++(bs.take i).flatMap crBound=T0 at HGS HTL HP;generalize bs[i]=x at f0 f1 f2 f3 HGS HWD HWZ;have HCB:Hid (crBound x=[98,111,117,110,100]++(bdW x).data.toList++[10]):=hI9 rfl;generalize crBound x=CB at HGS HCB;generalize bdW x=D at HWD HWZ HCB;obtain⟨x0,x1,x2,x3⟩:=x;simp only at f0 f1 f2 f3 HWD;go_upto_region 14 with (fail)
    have hal:=(bR9 wr.heap.size wr).alloc (nR9 _) (.cells #[.int .i64 x0,.int .i64 x1,.int .i64 x2,.int .i64 x3] 60);have hnw:=heap_alloc_new wr (.cells #[.int .i64 x0,.int .i64 x1,.int .i64 x2,.int .i64 x3] 60);have HP8:=hI9 (HP.out.below hal);generalize wr.alloc (.cells #[.int .i64 x0,.int .i64 x1,.int .i64 x2,.int .i64 x3] 60)=W3 at hal hnw HP8 ⊢;obtain⟨xb,hxb⟩:∃ z,wr.heap.size=z:=⟨_,rfl⟩;rw [hxb] at hnw ⊢;have t0:=cell_of_row W3 xb 0 _ _ _ hnw;have t1:=cell_of_row W3 xb 1 _ _ _ hnw;have t2:=cell_of_row W3 xb 2 _ _ _ hnw;have t3:=cell_of_row W3 xb 3 _ _ _ hnw;simp at t0 t1 t2 t3;have HWX:Hid (Calls Tryz.prog 41 #[.slice (some ⟨W3.heap.size,0,none⟩) 4 4] (W3.alloc (.cells #[.int .i64 x0,.int .i64 x1,.int .i64 x2,.int .i64 x3] 2)) fun e w'=>e=.returned (.string D)/\Below W3.heap.size W3 w'):=hI9 (by
     have ha:=(bR9 W3.heap.size W3).alloc (nR9 _) (.cells #[.int .i64 x0,.int .i64 x1,.int .i64 x2,.int .i64 x3] 2);have hw3:=HWB.out _ _ HP8.out;refine (HWD.out W3.heap.size _ (heap_alloc_new W3 (.cells #[.int .i64 x0,.int .i64 x1,.int .i64 x2,.int .i64 x3] 2)) (hw3.trans (ha.mono hw3.size))).mono ?_;rintro e w' ⟨he,hb⟩
     exact⟨he,ha.trans (hb.mono ha.size)⟩)
    have kk:(9223372036854775807<5+D.size)=False:=eq_false (by have:=HWZ.out;omega);clear f0 f1 f2 f3 hal hnw hxb HWD HP;go_wp2_with (first|(go_at_call 41;refine HWX.out.mono ?_;rintro e w6 ⟨rfl,hb6⟩;have HP9:=hI9 (HP8.out.below hb6);have HWS:=hI9 (put_any ((⟨#[98,111,117,110,100]⟩:ByteArray)++D) HP9.out (by have:=HTL.out;have:=HWZ.out;rw [ByteArray.size_append];show _+(5+_)+1<=_;omega)))|(go_at_call 35;refine HWS.out.mono ?_;rintro e w7 ⟨rfl,hP7⟩))
    have HP7:=hI9 hP7;clear hP7;go_roundw
    case rel=>exact⟨i+1,by simp,hil,hI9 (by rw [HGS.out,HCB.out];simpa [ByteArray.data_append,List.append_assoc] using HP7.out)⟩
    case measure=>simp [RowKit.intOf];omega
   .obtain rfl:i=n7:=by omega
    have hbt:bs.take i=bs:=by rw [<- N7.out,List.take_length]
    have hTL:=HSG.out i (by omega);rw [hbt] at HP hTL;generalize H3++bs.flatMap crBound=T at HP HZZ hTL;have HTS:Hid (¬ 9223372036854775807<(⟨T.toArray⟩:ByteArray).size+S.size):=hI9 (by
     have h1:(⟨T.toArray⟩:ByteArray).size=T.length:=by simp [ByteArray.size]
     have h2:=HSZ.out.2.2
     rw [h1];omega)
    have C3:Hid (∀ (W:World),CpI tb ub b [.int .i64 sets,.int .i64 rel,.slice A2 n2 c2,.int .i64 pol,.int .i64 mode,.slice A5 n5 c5,.slice A6 n6 c6] (.slice A7 i c7) w T W->Calls Tryz.prog 42 #[.pointer (some ⟨b,0,none⟩)] W fun e w'=>e=.returned (.string ⟨T.toArray⟩)/\(fun W:World=>(∀ i v,([.int .i64 sets,.int .i64 rel,.slice A2 n2 c2,.int .i64 pol,.int .i64 mode,.slice A5 n5 c5,.slice A6 n6 c6]:List Value)[i]? = some v->W.cell? ⟨ub,i,none⟩=some v)/\Below w.heap.size w W) w'):=hI9 (fun W h=>(Tryz.Builder_String_any b b T W h.2.2.2.2.2.2 h.2.2.2.2.2.1).mono (fun e w' h2=>⟨h2.1,fun i v hi=>(h2.2.cell (p:=⟨ub,i,none⟩) h.2.2.2.2.1).trans (h.1.2 i v hi),h.2.1.trans (h2.2.mono h.2.2.1)⟩));have C4:Hid (∀ (W:World),(fun W:World=>(∀ i v,([.int .i64 sets,.int .i64 rel,.slice A2 n2 c2,.int .i64 pol,.int .i64 mode,.slice A5 n5 c5,.slice A6 n6 c6]:List Value)[i]? = some v->W.cell? ⟨ub,i,none⟩=some v)/\Below w.heap.size w W) W->Calls Tryz.prog 43 #[.agg #[.int .i64 sets,.int .i64 rel,.slice A2 n2 c2]] W fun e w'=>e=.returned (.string S)/\(fun W:World=>(∀ i v,([.int .i64 sets,.int .i64 rel,.slice A2 n2 c2,.int .i64 pol,.int .i64 mode,.slice A5 n5 c5,.slice A6 n6 c6]:List Value)[i]? = some v->W.cell? ⟨ub,i,none⟩=some v)/\Below w.heap.size w W) w'/\Below W.heap.size W w'):=hI9 (fun W h=>(HPr.out W h.2).mono (fun e w' h2=>⟨h2.1,⟨fun i v hi=>(h2.2.cell (p:=⟨ub,i,none⟩) (bLt _ _ (h.1 i v hi))).trans (h.1 i v hi),h.2.trans (h2.2.mono h.2.size)⟩,h2.2⟩));generalize (⟨T.toArray⟩:ByteArray)=B at HZZ C3 HTS;clear HSG HWd HLo hTL hbt R7 HPr H7 HSZ;go_upto_region 16 with (fail)
    refine wp_region_facts_k 0 (by kernel_rfl) (by kernel_rfl) (fun i v W=>match i with
     |0=>v=.string B
     |1=>v=.pointer (some ⟨ub,0,none⟩)
     |2=>v=.agg #[.int .i64 sets,.int .i64 rel,.slice A2 n2 c2]
     |3=>v=.string S
     |4=>v=.string (B++S)
     |5=>v=.string (B++S)
     |_=>True) (fun _ _=>True) (fun _ _ _ _ h _=>h) (fun bk W=>(bk=false->CpI tb ub b [.int .i64 sets,.int .i64 rel,.slice A2 n2 c2,.int .i64 pol,.int .i64 mode,.slice A5 n5 c5,.slice A6 n6 c6] (.slice A7 i c7) w T W)/\(fun W:World=>(∀ i v,([.int .i64 sets,.int .i64 rel,.slice A2 n2 c2,.int .i64 pol,.int .i64 mode,.slice A5 n5 c5,.slice A6 n6 c6]:List Value)[i]? = some v->W.cell? ⟨ub,i,none⟩=some v)/\Below w.heap.size w W) W) (by have:=HP.out.below (bR9 _ _).drew;exact⟨fun _=>this,this.1.2,this.2.1⟩) (oD9 (by rfl)) ?_ ?_
    .intro i o a W bk ho hsz hfr hdep hG hbk;have hi:i<6:=(Array.getElem?_eq_some_iff.1 ho).1;have hin:i=0\/i=1\/i=2\/i=3\/i=4\/i=5:=by omega
     rcases hin with rfl|rfl|rfl|rfl|rfl|rfl
     .cases ho;have g:a.tmps.getD 4 undef=.pointer (some ⟨b,0,none⟩):=by rw [gDe,hfr 4 (qaw (by kernel_rfl))];rfl
      clear hfr hdep hsz;generalize hK:(fun (a':Act) (w':World)=>_)=K;go_simp;refine (C3.out W (hG.1 (hbk rfl))).mono ?_;rintro e W2 ⟨rfl,hG2⟩;show K _ _;rw [<- hK];exact⟨_,rfl,rfl,trivial,fun h=>(by simp at h),hG2⟩
     .cases ho;have g:a.tmps.getD 3 undef=.pointer (some ⟨ub,0,none⟩):=by rw [gDe,hfr 3 (qaw (by kernel_rfl))];rfl
      clear hfr hdep hsz;generalize hK:(fun (a':Act) (w':World)=>_)=K;go_simp;rw [<- hK];exact⟨_,rfl,rfl,trivial,by simpa using hG⟩
     .cases ho;obtain⟨_,q1,e1⟩:=hdep ⟨1,.data⟩ (by simp) rfl _ _ rfl rfl;have g1:a.tmps.getD 68 undef=.pointer (some ⟨ub,0,none⟩):=by rw [gDe,q1,e1];rfl
      rw [e1] at q1;clear e1;have hc0:=hG.2.1 0 _ rfl;have hc1:=hG.2.1 1 _ rfl;have hc2:=hG.2.1 2 _ rfl;clear hfr hdep hsz;generalize hK:(fun (a':Act) (w':World)=>_)=K;go_simp;rw [<- hK];exact⟨_,rfl,rfl,trivial,by simpa using hG⟩
     .cases ho;obtain⟨_,q2,e2⟩:=hdep ⟨2,.data⟩ (by simp) rfl _ _ rfl rfl;have g2:a.tmps.getD 69 undef=.agg #[.int .i64 sets,.int .i64 rel,.slice A2 n2 c2]:=by rw [gDe,q2,e2];rfl
      rw [e2] at q2;clear e2;clear hfr hdep hsz;generalize hK:(fun (a':Act) (w':World)=>_)=K;go_simp;refine (C4.out W hG.2).mono ?_;rintro e W2 ⟨rfl,hG2,hG3⟩;show K _ _;rw [<- hK];exact⟨_,rfl,rfl,trivial,fun h=>(hG.1 (by simpa using h)).below hG3,hG2⟩
     .cases ho;obtain⟨_,q0,e0⟩:=hdep ⟨0,.data⟩ (by simp) rfl _ _ rfl rfl;have g0:a.tmps.getD 67 undef=.string B:=by rw [gDe,q0,e0];rfl
      rw [e0] at q0;clear e0;obtain⟨_,q3,e3⟩:=hdep ⟨3,.data⟩ (by simp) rfl _ _ rfl rfl;have g3:a.tmps.getD 70 undef=.string S:=by rw [gDe,q3,e3];rfl
      rw [e3] at q3;clear e3;have hTS:=HTS.out;clear hfr hdep hsz;generalize hK:(fun (a':Act) (w':World)=>_)=K;go_simp;rw [<- hK];exact⟨_,rfl,rfl,trivial,by simpa using hG⟩
     .cases ho;obtain⟨_,q4,e4⟩:=hdep ⟨4,.data⟩ (by simp) rfl _ _ rfl rfl;have g4:a.tmps.getD 71 undef=.string (B++S):=by rw [gDe,q4,e4];rfl
      rw [e4] at q4;clear e4;clear hfr hdep hsz;generalize hK:(fun (a':Act) (w':World)=>_)=K;go_simp;rw [<- hK];exact⟨_,rfl,rfl,trivial,by simpa using hG⟩
    .intro a W hd hsz hfr hall hG;obtain⟨v,hv,hF⟩:=hall 5 _ 2 rfl rfl;simp only at hF;have g2:a.tmps.getD 2 undef=.string (B++S):=by rw [gDe,hv,hF];rfl
     have ha:a = { tmps:=a.tmps,defers:=[] }:=by cases a;simp at hd;subst hd;rfl
     rw [ha];clear ha hd hsz hfr hall hv hF;generalize a.tmps=ts at g2 ⊢;go_wp2;exact bodyPost_ret (results_tmp rfl _ _ _) rfl ⟨by rw [g2,HZZ.out],hG.2.2⟩
theorem certPrint_no (sets rel pol mode:Int) (A2:Option Addr) (n2 c2:Nat) (A5:Option Addr) (n5 c5:Nat) (A6:Option Addr) (n6 c6:Nat) (A7:Option Addr) (n7 c7:Nat) (w:World)
  (HMay:∀ W,Below w.heap.size w W->Calls Tryz.prog 34 #[.agg #[.int .i64 sets,.int .i64 rel,.slice A2 n2 c2,.int .i64 pol,.int .i64 mode,.slice A5 n5 c5,.slice A6 n6 c6,.slice A7 n7 c7]] W fun e w'=>e=.returned (.bool false)/\Below W.heap.size W w') :
  Calls Tryz.prog 13 #[.agg #[.int .i64 sets,.int .i64 rel,.slice A2 n2 c2,.int .i64 pol,.int .i64 mode,.slice A5 n5 c5,.slice A6 n6 c6,.slice A7 n7 c7]] w fun e w'=>e=.returned (.string ⟨#[]⟩)/\Below w.heap.size w w':=by
 have hb0:=(bR9 w.heap.size w).alloc (nR9 _) (.cells #[.int .i64 sets,.int .i64 rel,.slice A2 n2 c2,.int .i64 pol,.int .i64 mode,.slice A5 n5 c5,.slice A6 n6 c6,.slice A7 n7 c7] 43);have hn0:=heap_alloc_new w (.cells #[.int .i64 sets,.int .i64 rel,.slice A2 n2 c2,.int .i64 pol,.int .i64 mode,.slice A5 n5 c5,.slice A6 n6 c6,.slice A7 n7 c7] 43);have HMay:=hI9 HMay;go_enter Tryz.func13,Tryz.ntmps13;go_upto_region 1 with (fail)
 generalize w.alloc (.cells #[.int .i64 sets,.int .i64 rel,.slice A2 n2 c2,.int .i64 pol,.int .i64 mode,.slice A5 n5 c5,.slice A6 n6 c6,.slice A7 n7 c7] 43)=w0 at hb0 hn0 ⊢;have HB0:Hid (Below w.heap.size w w0):=hI9 hb0;obtain⟨tb,htb⟩:∃ z,w.heap.size=z:=⟨_,rfl⟩;rw [htb] at hn0 ⊢;obtain⟨t0,t1,t2,t3,t4,t5,t6,t7⟩:=eight_cells hn0;have HM0:=hI9 (HMay.out w0 HB0.out);clear hb0 hn0 htb HMay;go_wp2_with (go_at_call 34;refine HM0.out.mono ?_;rintro e w1 ⟨rfl,hb1⟩)
 go_ret;exact⟨rfl,HB0.out.trans (hb1.mono HB0.out.size)⟩
end Go.Proofs.YtgnaaokhfpfglaaGreatDoor
end
section
namespace Go.Proofs.YtgnaaokhfpfglaaGreatDoor
open Go.RowKit Go.Shelf Go.Lib
def mayB (E:Int) (p m:Bool) (n5 n6 n7:Nat) (a5 a6 b7:Bool):Bool:=decide (E=0) && !p && !m && decide (n5<=64/\n6<=64/\n7<=64) && a5 && a6 && !b7
theorem keep4 {w W W':World} {ub tb:Nat} {v3 v4 v5 v6 v7:Value} (h:W.cell? ⟨ub,3,none⟩=some v3/\W.cell? ⟨ub,4,none⟩=some v4/\W.cell? ⟨ub,5,none⟩=some v5/\W.cell? ⟨ub,6,none⟩=some v6/\W.cell? ⟨tb,7,none⟩=some v7) (hw:Below w.heap.size w W) (hb:Below W.heap.size W W') :
  (W'.cell? ⟨ub,3,none⟩=some v3/\W'.cell? ⟨ub,4,none⟩=some v4/\W'.cell? ⟨ub,5,none⟩=some v5/\W'.cell? ⟨ub,6,none⟩=some v6/\W'.cell? ⟨tb,7,none⟩=some v7)/\Below w.heap.size w W':=by
 have m:∀ p v,W.cell? p=some v->W'.cell? p=some v:=fun p v h=>(hb.cell (bLt W _ h)).trans h
 exact⟨⟨m _ _ h.1,m _ _ h.2.1,m _ _ h.2.2.1,m _ _ h.2.2.2.1,m _ _ h.2.2.2.2⟩,hw.trans (hb.mono hw.size)⟩
theorem certMay_any (sets rel pol mode:Int) (A2:Option Addr) (n2 c2:Nat) (A5:Option Addr) (n5 c5:Nat) (A6:Option Addr) (n6 c6:Nat) (A7:Option Addr) (n7 c7:Nat) (w:World) (E:Int) (P M:ByteArray) (a5 a6 b7:Bool)
  (HCk:∀ W,Below w.heap.size w W->Calls Tryz.prog 61 #[.agg #[.int .i64 sets,.int .i64 rel,.slice A2 n2 c2]] W fun e w'=>e=.returned (.int .i64 E)/\Below W.heap.size W w')
  (HPo:∀ W,Calls Tryz.prog 37 #[.int .i64 pol] W fun e w'=>e=.returned (.string P)/\Below W.heap.size W w')
  (HMo:∀ W,Calls Tryz.prog 38 #[.int .i64 mode] W fun e w'=>e=.returned (.string M)/\Below W.heap.size W w')
  (H5:∀ W,Below w.heap.size w W->Calls Tryz.prog 69 #[.int .i64 99,.slice A5 n5 c5] W fun e w'=>e=.returned (.bool a5)/\Below W.heap.size W w')
  (H6:∀ W,Below w.heap.size w W->Calls Tryz.prog 70 #[.int .i64 1073741824,.slice A6 n6 c6] W fun e w'=>e=.returned (.bool a6)/\Below W.heap.size W w')
  (H7:∀ W,Below w.heap.size w W->Calls Tryz.prog 71 #[.slice A7 n7 c7,.func (Fn.func 68) #[] #[]] W fun e w'=>e=.returned (.bool b7)/\Below W.heap.size W w') :
  Calls Tryz.prog 34 #[.agg #[.int .i64 sets,.int .i64 rel,.slice A2 n2 c2,.int .i64 pol,.int .i64 mode,.slice A5 n5 c5,.slice A6 n6 c6,.slice A7 n7 c7]] w fun e w'=>e=.returned (.bool (mayB E P.toList.isEmpty M.toList.isEmpty n5 n6 n7 a5 a6 b7))/\Below w.heap.size w w':=by
 have HCk:=hI9 HCk;have HPo:=hI9 HPo;have HMo:=hI9 HMo;have H5:=hI9 H5;have H6:=hI9 H6;have H7:=hI9 H7;obtain⟨R,hR0⟩:∃ R,R=mayB E P.toList.isEmpty M.toList.isEmpty n5 n6 n7 a5 a6 b7:=⟨_,rfl⟩;rw [<- hR0];have hR:=hI9 hR0;clear hR0;have hb0:=(bR9 w.heap.size w).alloc (nR9 _) (.cells #[.int .i64 sets,.int .i64 rel,.slice A2 n2 c2,.int .i64 pol,.int .i64 mode,.slice A5 n5 c5,.slice A6 n6 c6,.slice A7 n7 c7] 43);have hn0:=heap_alloc_new w (.cells #[.int .i64 sets,.int .i64 rel,.slice A2 n2 c2,.int .i64 pol,.int .i64 mode,.slice A5 n5 c5,.slice A6 n6 c6,.slice A7 n7 c7] 43);go_enter Tryz.func34,Tryz.ntmps34;go_upto_region 1 with (fail)
 generalize w.alloc (.cells #[.int .i64 sets,.int .i64 rel,.slice A2 n2 c2,.int .i64 pol,.int .i64 mode,.slice A5 n5 c5,.slice A6 n6 c6,.slice A7 n7 c7] 43)=w0 at hb0 hn0 ⊢;have HB0:Hid (Below w.heap.size w w0):=hI9 hb0;obtain⟨tb,htb⟩:∃ z,w.heap.size=z:=⟨_,rfl⟩;rw [htb] at hn0 ⊢;obtain⟨t0,t1,t2,t3,t4,t5,t6,t7⟩:=eight_cells hn0;have hT0:=qaM t0;clear hb0 hn0 htb;go_upto_region 2 with (fail)
 have hb2:=(bR9 w0.heap.size w0).alloc (nR9 _) (.cells #[.int .i64 sets,.int .i64 rel,.slice A2 n2 c2,.int .i64 pol,.int .i64 mode,.slice A5 n5 c5,.slice A6 n6 c6] 40);have hn2:=heap_alloc_new w0 (.cells #[.int .i64 sets,.int .i64 rel,.slice A2 n2 c2,.int .i64 pol,.int .i64 mode,.slice A5 n5 c5,.slice A6 n6 c6] 40);generalize w0.alloc (.cells #[.int .i64 sets,.int .i64 rel,.slice A2 n2 c2,.int .i64 pol,.int .i64 mode,.slice A5 n5 c5,.slice A6 n6 c6] 40)=w2 at hb2 hn2 ⊢;obtain⟨ub,hub⟩:∃ z,w0.heap.size=z:=⟨_,rfl⟩;rw [hub] at hn2 ⊢;have r7:=(hb2.cell (p:=⟨tb,7,none⟩) hT0).trans t7;obtain⟨r0,r1,r2,r3,r4,r5,r6⟩:=qbi hn2;have HWB:=hI9 (HB0.out.trans (hb2.mono HB0.out.size));have HU:=hI9 (And.intro r3 (And.intro r4 (And.intro r5 (And.intro r6 r7))));clear t0 t1 t2 t3 t4 t5 t6 t7 hb2 hn2 hub HB0 hT0 r3 r4 r5 r6 r7;by_cases hE:E=0;rotate_left
 .have hE1:(E != 0)=true:=by simpa using hE
  have HQ:Hid (R=false):=hI9 (by rw [hR.out];simp [mayB,hE]);clear hR;go_wp2_with (first|(go_at_call 61;refine (HCk.out _ HWB.out).mono ?_;rintro e w4 ⟨rfl,hb4⟩;have K4:=keep4 HU.out HWB.out hb4;have HW4:=hI9 K4.2;obtain⟨q3,q4,q5,q6,q7⟩:=K4.1))
  go_ret;exact⟨by rw [HQ.out];rfl,HW4.out⟩
 subst hE;cases hp:P.toList.isEmpty with
 |true=>
  have HQ:Hid (R=false):=hI9 (by rw [hR.out,hp];simp [mayB]);clear hR;go_wp2_with (first|(go_at_call 61;refine (HCk.out _ HWB.out).mono ?_;rintro e w4 ⟨rfl,hb4⟩;have K4:=keep4 HU.out HWB.out hb4;have HW4:=hI9 K4.2;obtain⟨q3,q4,q5,q6,q7⟩:=K4.1)|(go_at_call 37;refine (HPo.out _).mono ?_;rintro e w5 ⟨rfl,hb5⟩;have K5:=keep4 ⟨q3,q4,q5,q6,q7⟩ HW4.out hb5;have HW5:=hI9 K5.2;obtain⟨p3,p4,p5,p6,p7⟩:=K5.1))
  go_ret;exact⟨by rw [HQ.out];rfl,HW5.out⟩
 |false=>
 cases hm:M.toList.isEmpty with
 |true=>
  have HQ:Hid (R=false):=hI9 (by rw [hR.out,hm];simp [mayB]);clear hR;go_wp2_with (first|(go_at_call 61;refine (HCk.out _ HWB.out).mono ?_;rintro e w4 ⟨rfl,hb4⟩;have K4:=keep4 HU.out HWB.out hb4;have HW4:=hI9 K4.2;obtain⟨q3,q4,q5,q6,q7⟩:=K4.1)|(go_at_call 37;refine (HPo.out _).mono ?_;rintro e w5 ⟨rfl,hb5⟩;have K5:=keep4 ⟨q3,q4,q5,q6,q7⟩ HW4.out hb5;have HW5:=hI9 K5.2;obtain⟨p3,p4,p5,p6,p7⟩:=K5.1)|(go_at_call 38;refine (HMo.out _).mono ?_;rintro e w6 ⟨rfl,hb6⟩;have K6:=keep4 ⟨p3,p4,p5,p6,p7⟩ HW5.out hb6;have HW6:=hI9 K6.2;obtain⟨o3,o4,o5,o6,o7⟩:=K6.1))
  go_ret;exact⟨by rw [HQ.out];rfl,HW6.out⟩
 |false=>
 by_cases hl:n5<=64/\n6<=64/\n7<=64;rotate_left
 .have HQ:Hid (R=false):=hI9 (by rw [hR.out];simp [mayB,hl]);clear hR;go_wp2_with (first|(go_at_call 61;refine (HCk.out _ HWB.out).mono ?_;rintro e w4 ⟨rfl,hb4⟩;have K4:=keep4 HU.out HWB.out hb4;have HW4:=hI9 K4.2;obtain⟨q3,q4,q5,q6,q7⟩:=K4.1)|(go_at_call 37;refine (HPo.out _).mono ?_;rintro e w5 ⟨rfl,hb5⟩;have K5:=keep4 ⟨q3,q4,q5,q6,q7⟩ HW4.out hb5;have HW5:=hI9 K5.2;obtain⟨p3,p4,p5,p6,p7⟩:=K5.1)|(go_at_call 38;refine (HMo.out _).mono ?_;rintro e w6 ⟨rfl,hb6⟩;have K6:=keep4 ⟨p3,p4,p5,p6,p7⟩ HW5.out hb6;have HW6:=hI9 K6.2;obtain⟨o3,o4,o5,o6,o7⟩:=K6.1))
  all_goals (go_ret;exact⟨by first|(rw [HQ.out];rfl)|(simp [mayB,hl])|(rw [HQ.out];simp),HW6.out⟩)
 obtain⟨hl5,hl6,hl7⟩:=hl;have HS:Hid (R=(a5 && a6 && !b7)):=hI9 (by rw [hR.out,hp,hm];simp [mayB,hl5,hl6,hl7]);clear hR;go_wp2_with (first|(go_at_call 61;refine (HCk.out _ HWB.out).mono ?_;rintro e w4 ⟨rfl,hb4⟩;have K4:=keep4 HU.out HWB.out hb4;have HW4:=hI9 K4.2;obtain⟨q3,q4,q5,q6,q7⟩:=K4.1)|(go_at_call 37;refine (HPo.out _).mono ?_;rintro e w5 ⟨rfl,hb5⟩;have K5:=keep4 ⟨q3,q4,q5,q6,q7⟩ HW4.out hb5;have HW5:=hI9 K5.2;obtain⟨p3,p4,p5,p6,p7⟩:=K5.1)|(go_at_call 38;refine (HMo.out _).mono ?_;rintro e w6 ⟨rfl,hb6⟩;have K6:=keep4 ⟨p3,p4,p5,p6,p7⟩ HW5.out hb6;have HW6:=hI9 K6.2;obtain⟨o3,o4,o5,o6,o7⟩:=K6.1)|(go_at_call 69;refine (H5.out _ HW6.out).mono ?_;rintro e w7 ⟨rfl,hb7⟩;have K7:=keep4 ⟨o3,o4,o5,o6,o7⟩ HW6.out hb7;have HW7:=hI9 K7.2;obtain⟨l3,l4,l5,l6,l7⟩:=K7.1)|(go_at_call 70;refine (H6.out _ HW7.out).mono ?_;rintro e w8 ⟨rfl,hb8⟩;have K8:=keep4 ⟨l3,l4,l5,l6,l7⟩ HW7.out hb8;have HW8:=hI9 K8.2;obtain⟨j3,j4,j5,j6,j7⟩:=K8.1)|(go_at_call 71;refine (H7.out _ HW8.out).mono ?_;rintro e w9 ⟨rfl,hb9⟩;have HW9:=hI9 (HW8.out.trans (hb9.mono HW8.out.size))))
 all_goals (go_ret;exact⟨by first|(rw [HS.out];simp;done)|(rw [HS.out];simp [*];done)|(rw [HS.out];simp_all;done),by first|exact HW9.out|exact HW8.out|exact HW7.out|exact HW6.out⟩)
def findN (F:Int->ByteArray) (s:ByteArray):Nat->Int->Int
 |0,_=>0
 |d+1,n=>if F n=s then n else findN F s d (n+1)
theorem bytes_same {a b:ByteArray}:(a.toList == b.toList)=true↔a=b:=by
 rw [beq_iff_eq,Lib.toList_data,Lib.toList_data];exact⟨fun h=>ByteArray.ext (Array.toList_inj.1 h),fun h=>by rw [h]⟩
theorem numberPolicy_any (F:Int->ByteArray) (s:ByteArray) (most:Nat) (hm:most<=100) (w:World) (hF:∀ n W,Calls Tryz.prog 37 #[.int .i64 n] W fun e w'=>e=.returned (.string (F n))/\Below W.heap.size W w') :
  Calls Tryz.prog 86 #[.string s,.int .i64 (most:Int),.func (Fn.func 37) #[] #[]] w fun e w'=>e=.returned (.int .i64 (findN F s most 1))/\Below w.heap.size w w':=by
 obtain⟨R,hR⟩:∃ R,R=findN F s most 1:=⟨_,rfl⟩;rw [<- hR];have HR:Hid (R=findN F s (most - 0) ((0+1:Nat):Int)):=hI9 hR;have HP:=hI9 hF;clear hR hF;go_enter Tryz.func86,Tryz.ntmps86;go_wp2;go_loopw [7] (fun v7 wr=>∃ (i:Nat),v7=.int .i64 ((i+1:Nat):Int)/\i<=most/\Hid (R=findN F s (most - i) ((i+1:Nat):Int))/\Below w.heap.size w wr) (fun v7 _=>most+1 - (RowKit.intOf v7).toNat)
 case atStart=>exact⟨0,rfl,Nat.zero_le _,HR,bR9 _ _⟩
 case round=>
  obtain⟨i,rfl,hi,hS,hwr⟩:=hrel;by_cases hin:i<most
  .have HW:=hI9 (HP.out ((i+1:Nat):Int));have HST:Hid (R=if F ((i+1:Nat):Int)=s then ((i+1:Nat):Int) else findN F s (most - (i+1)) ((i+1+1:Nat):Int)):=hI9 (by rw [hS.out,show most - i=(most - (i+1))+1 by omega,findN];rfl);have c1:decide (((i+1:Nat):Int)<=(most:Int))=true:=decide_eq_true (by omega);have c2:decide ((i:Int)+1<=(most:Int))=true:=decide_eq_true (by omega);have w1:IntKind.i64.wrap ((i:Int)+1+1)=((i+1+1:Nat):Int):=by rw [IntKind.wrap_i64];omega
   have w2:IntKind.i64.wrap (((i+1:Nat):Int)+1)=((i+1+1:Nat):Int):=by rw [IntKind.wrap_i64];omega
   have HWR:=hI9 hwr;clear hS HR HP hwr;generalize F ((i+1:Nat):Int)=x at HW HST;cases hb:(x.toList == s.toList) with
   |true=>
    have HB:Hid (R=((i+1:Nat):Int)):=hI9 (by rw [HST.out,if_pos (bytes_same.1 hb)]);clear HST;go_wp2_with (go_at_call 37;refine (HW.out _).mono ?_;rintro e w5 ⟨rfl,hb1⟩)
    go_ret;exact⟨by rw [HB.out];rfl,HWR.out.trans (hb1.mono HWR.out.size)⟩
   |false=>
    have HB:Hid (R=findN F s (most - (i+1)) ((i+1+1:Nat):Int)):=hI9 (by rw [HST.out,if_neg (fun h=>by rw [bytes_same.2 h] at hb;cases hb)]);clear HST;go_wp2_with (go_at_call 37;refine (HW.out _).mono ?_;rintro e w5 ⟨rfl,hb1⟩)
    go_roundw
    case rel=>exact⟨i+1,by simp,hin,HB,HWR.out.trans (hb1.mono HWR.out.size)⟩
    case measure=>simp [RowKit.intOf];omega
  .obtain rfl:i=most:=by omega
   have HB:Hid (R=0):=hI9 (by rw [hS.out,Nat.sub_self];rfl);have c1:decide (((i+1:Nat):Int)<=(i:Int))=false:=decide_eq_false (by omega);have c2:decide ((i:Int)+1<=(i:Int))=false:=decide_eq_false (by omega);clear hS HR HP;go_wp2;go_ret;exact⟨by rw [HB.out];rfl,hwr⟩
theorem numberMode_any (F:Int->ByteArray) (s:ByteArray) (most:Nat) (hm:most<=100) (w:World) (hF:∀ n W,Calls Tryz.prog 38 #[.int .i64 n] W fun e w'=>e=.returned (.string (F n))/\Below W.heap.size W w') :
  Calls Tryz.prog 86 #[.string s,.int .i64 (most:Int),.func (Fn.func 38) #[] #[]] w fun e w'=>e=.returned (.int .i64 (findN F s most 1))/\Below w.heap.size w w':=by
 obtain⟨R,hR⟩:∃ R,R=findN F s most 1:=⟨_,rfl⟩;rw [<- hR];have HR:Hid (R=findN F s (most - 0) ((0+1:Nat):Int)):=hI9 hR;have HP:=hI9 hF;clear hR hF;go_enter Tryz.func86,Tryz.ntmps86;go_wp2;go_loopw [7] (fun v7 wr=>∃ (i:Nat),v7=.int .i64 ((i+1:Nat):Int)/\i<=most/\Hid (R=findN F s (most - i) ((i+1:Nat):Int))/\Below w.heap.size w wr) (fun v7 _=>most+1 - (RowKit.intOf v7).toNat)
 case atStart=>exact⟨0,rfl,Nat.zero_le _,HR,bR9 _ _⟩
 case round=>
  obtain⟨i,rfl,hi,hS,hwr⟩:=hrel;by_cases hin:i<most
  .have HW:=hI9 (HP.out ((i+1:Nat):Int));have HST:Hid (R=if F ((i+1:Nat):Int)=s then ((i+1:Nat):Int) else findN F s (most - (i+1)) ((i+1+1:Nat):Int)):=hI9 (by rw [hS.out,show most - i=(most - (i+1))+1 by omega,findN];rfl);have c1:decide (((i+1:Nat):Int)<=(most:Int))=true:=decide_eq_true (by omega);have c2:decide ((i:Int)+1<=(most:Int))=true:=decide_eq_true (by omega);have w1:IntKind.i64.wrap ((i:Int)+1+1)=((i+1+1:Nat):Int):=by rw [IntKind.wrap_i64];omega
   have w2:IntKind.i64.wrap (((i+1:Nat):Int)+1)=((i+1+1:Nat):Int):=by rw [IntKind.wrap_i64];omega
   have HWR:=hI9 hwr;clear hS HR HP hwr;generalize F ((i+1:Nat):Int)=x at HW HST;cases hb:(x.toList == s.toList) with
   |true=>
    have HB:Hid (R=((i+1:Nat):Int)):=hI9 (by rw [HST.out,if_pos (bytes_same.1 hb)]);clear HST;go_wp2_with (go_at_call 38;refine (HW.out _).mono ?_;rintro e w5 ⟨rfl,hb1⟩)
    go_ret;exact⟨by rw [HB.out];rfl,HWR.out.trans (hb1.mono HWR.out.size)⟩
   |false=>
    have HB:Hid (R=findN F s (most - (i+1)) ((i+1+1:Nat):Int)):=hI9 (by rw [HST.out,if_neg (fun h=>by rw [bytes_same.2 h] at hb;cases hb)]);clear HST;go_wp2_with (go_at_call 38;refine (HW.out _).mono ?_;rintro e w5 ⟨rfl,hb1⟩)
    go_roundw
    case rel=>exact⟨i+1,by simp,hin,HB,HWR.out.trans (hb1.mono HWR.out.size)⟩
    case measure=>simp [RowKit.intOf];omega
  .obtain rfl:i=most:=by omega
   have HB:Hid (R=0):=hI9 (by rw [hS.out,Nat.sub_self];rfl);have c1:decide (((i+1:Nat):Int)<=(i:Int))=false:=decide_eq_false (by omega);have c2:decide ((i:Int)+1<=(i:Int))=false:=decide_eq_false (by omega);clear hS HR HP;go_wp2;go_ret;exact⟨by rw [HB.out];rfl,hwr⟩
def HdAt (w:World) (g:Nat) (p m:Int) (tv qv bv:Value) (st:Int):Prop:=
 w.heap[g]? = some (.cells #[.int .i64 0,.int .i64 0,.slice none 0 0,.int .i64 p,.int .i64 m,tv,qv,bv,.int .i64 st] 73 (0,0))
def WOff (g:Nat) (A:Option Addr):Prop:=∀ b o,A=some ⟨b,o,none⟩->b≠g
theorem HdAt.lt {w:World} {g:Nat} {p m:Int} {tv qv bv:Value} {st:Int} (h:HdAt w g p m tv qv bv st):g<w.heap.size:=lt_of_block h
theorem HdAt.cells {w:World} {g:Nat} {p m:Int} {tv qv bv:Value} {st:Int} (h:HdAt w g p m tv qv bv st) :
  w.cell? ⟨g,3,none⟩=some (.int .i64 p)/\w.cell? ⟨g,4,none⟩=some (.int .i64 m)/\w.cell? ⟨g,5,none⟩=some tv/\w.cell? ⟨g,6,none⟩=some qv/\w.cell? ⟨g,7,none⟩=some bv/\w.cell? ⟨g,8,none⟩=some (.int .i64 st):=
 ⟨by simpa using cell_of_row w g 3 _ _ _ h,by simpa using cell_of_row w g 4 _ _ _ h,by simpa using cell_of_row w g 5 _ _ _ h,by simpa using cell_of_row w g 6 _ _ _ h,by simpa using cell_of_row w g 7 _ _ _ h,by simpa using cell_of_row w g 8 _ _ _ h⟩
theorem HdAt.frozen {w:World} {g:Nat} {p m:Int} {tv qv bv:Value} {st:Int} (h:HdAt w g p m tv qv bv st) (i:Nat):w.frozen? ⟨g,i,none⟩=false:=by
 have h':=h;unfold HdAt at h';simp [World.frozen?,h']
theorem HdAt.below {w w':World} {g:Nat} {p m:Int} {tv qv bv:Value} {st:Int} (h:HdAt w g p m tv qv bv st) (hb:Below w.heap.size w w'):HdAt w' g p m tv qv bv st:=(hb.block g h.lt).trans h
theorem HdAt.setP {w:World} {g:Nat} {p m:Int} {tv qv bv:Value} {st:Int} (h:HdAt w g p m tv qv bv st) (x:Int):HdAt (w.setCell ⟨g,3,none⟩ (.int .i64 x)) g x m tv qv bv st:=by
 have:=blkSet h 3 (.int .i64 x)
 simpa [HdAt] using this
theorem HdAt.setM {w:World} {g:Nat} {p m:Int} {tv qv bv:Value} {st:Int} (h:HdAt w g p m tv qv bv st) (x:Int):HdAt (w.setCell ⟨g,4,none⟩ (.int .i64 x)) g p x tv qv bv st:=by
 have:=blkSet h 4 (.int .i64 x)
 simpa [HdAt] using this
theorem HdAt.setS {w:World} {g:Nat} {p m:Int} {tv qv bv:Value} {st:Int} (h:HdAt w g p m tv qv bv st) (x:Int):HdAt (w.setCell ⟨g,8,none⟩ (.int .i64 x)) g p m tv qv bv x:=by
 have:=blkSet h 8 (.int .i64 x)
 simpa [HdAt] using this
theorem HdAt.setT {w:World} {g:Nat} {p m:Int} {tv qv bv:Value} {st:Int} (h:HdAt w g p m tv qv bv st) (x:Value):HdAt (w.setCell ⟨g,5,none⟩ x) g p m x qv bv st:=by
 have:=blkSet h 5 x
 simpa [HdAt] using this
theorem HdAt.setQ {w:World} {g:Nat} {p m:Int} {tv qv bv:Value} {st:Int} (h:HdAt w g p m tv qv bv st) (x:Value):HdAt (w.setCell ⟨g,6,none⟩ x) g p m tv x bv st:=by
 have:=blkSet h 6 x
 simpa [HdAt] using this
theorem HdAt.setB {w:World} {g:Nat} {p m:Int} {tv qv bv:Value} {st:Int} (h:HdAt w g p m tv qv bv st) (x:Value):HdAt (w.setCell ⟨g,7,none⟩ x) g p m tv qv x st:=by
 have:=blkSet h 7 x
 simpa [HdAt] using this
theorem grown_set (w:World) (g i:Nat) (v:Value):w.grownBy (w.setCell ⟨g,i,none⟩ v) (some g):=by
 refine⟨rfl,rfl,rfl,?_,fun k _ hk=>?_⟩
 .simp [World.setCell]
 .exact Below.heap_setCell w ⟨g,i,none⟩ v k (fun h=>hk (by rw [h]))
theorem qa0 {w w':World} {g b i:Nat} {v:Value} (h:w.cell? ⟨b,i,none⟩=some v) (hb:b<w.heap.size) (hne:b≠g) (hg:w.grownBy w' (some g)):w'.cell? ⟨b,i,none⟩=some v:=
 (World.cell?_of_block (hg.block b hb (fun e=>hne (Option.some.inj e)))).trans h
theorem WRow.off {w w':World} {g:Nat} {A:Option Addr} {L:List Wd} (h:WRow w w.heap.size A L) (ho:WOff g A) (hg:w.grownBy w' (some g)):WRow w' w'.heap.size A L:=by
 intro hl;obtain⟨b,o,rfl,hb,hc⟩:=h hl;have hbg:=ho b o rfl;refine⟨b,o,rfl,Nat.lt_of_lt_of_le hb hg.size,fun i hi=>?_⟩;obtain⟨x0,x1,x2⟩:=hc i hi;have m:∀ o v,w.cell? ⟨b,o,none⟩=some v->w'.cell? ⟨b,o,none⟩=some v:=fun o v h=>
  (World.cell?_of_block (hg.block b hb (fun e=>hbg (Option.some.inj e)))).trans h
 exact⟨m _ _ x0,m _ _ x1,m _ _ x2⟩
theorem begin_yes (F G:Int->ByteArray) (g cap:Nat) (p m:Int) (tv qv bv:Value) (A:Option Addr) (x0 x1 x2:Wd) (w:World) (hH:HdAt w g p m tv qv bv 0) (hW:WRow w w.heap.size A [x0,x1,x2]) (ho:WOff g A)
  (hN1:∀ (s:ByteArray) (W:World),Calls Tryz.prog 86 #[.string s,.int .i64 2,.func (Fn.func 37) #[] #[]] W fun e w'=>e=.returned (.int .i64 (findN F s 2 1))/\Below W.heap.size W w')
  (hN2:∀ (s:ByteArray) (W:World),Calls Tryz.prog 86 #[.string s,.int .i64 4,.func (Fn.func 38) #[] #[]] W fun e w'=>e=.returned (.int .i64 (findN G s 4 1))/\Below W.heap.size W w') :
  Calls Tryz.prog 54 #[.pointer (some ⟨g,0,none⟩),.slice A 3 cap] w fun e w'=>e=.returned (.bool (decide (0<min (findN F x1.t 2 1) (findN G x2.t 4 1))))/\HdAt w' g (findN F x1.t 2 1) (findN G x2.t 4 1) tv qv bv 1/\w.grownBy w' (some g):=by
 obtain⟨b,o,rfl,hlt,hc⟩:=hW (by simp);have hbg:b≠g:=ho b o rfl;obtain⟨x10,x11,x12⟩:=hc 1 (by simp);obtain⟨x20,x21,x22⟩:=hc 2 (by simp);simp only [List.getElem_cons_succ,List.getElem_cons_zero] at x10 x11 x12 x20 x21 x22;have HN1:=hI9 (hN1 x1.t);have HN2:=hI9 (hN2 x2.t);generalize findN F x1.t 2 1=P at HN1 ⊢;generalize findN G x2.t 4 1=M at HN2 ⊢;obtain⟨c3,c4,c5,c6,c7,c8⟩:=hH.cells;have HH:=hI9 hH;clear hc hN1 hN2 hH hW ho;go_enter Tryz.func54,Tryz.ntmps54;go_upto_region 4 with (go_at_call 86;refine (HN1.out _).mono ?_;rintro e w5 ⟨rfl,hb1⟩;have H1:=HH.out.below hb1;have z1:=H1.frozen 3;obtain⟨d3,d4,d5,d6,d7,d8⟩:=H1.cells;have y22:=(hb1.cell (p:=⟨b,_,none⟩) hlt).trans x22)
 all_goals
  have H2:=H1.setP P;have g2:=qak (qah hb1 (some g)) (grown_set w5 g 3 (.int .i64 P));have y2:=qa0 x22 hlt hbg g2;have l2:b<(w5.setCell ⟨g,3,none⟩ (.int .i64 P)).heap.size:=Nat.lt_of_lt_of_le hlt g2.size;clear H1 hb1 z1 d3 d4 d5 d6 d7 d8 y22 x10 x11 x12 x20 x21 x22 c3 c4 c5 c6 c7 c8;generalize w5.setCell ⟨g,3,none⟩ (.int .i64 P)=W2 at H2 g2 y2 l2 ⊢;clear w5;go_upto_region 5 with (go_at_call 86;refine (HN2.out _).mono ?_;rintro e w6 ⟨rfl,hb3⟩;have H3:=H2.below hb3;have z3:=H3.frozen 4;obtain⟨_,d4,_,_,_,_⟩:=H3.cells)
 all_goals
  have H4:=H3.setM M;have g4:=qak g2 (qak (qah hb3 (some g)) (grown_set w6 g 4 (.int .i64 M)));clear H2 H3 hb3 z3 d4 g2 y2 l2;generalize w6.setCell ⟨g,4,none⟩ (.int .i64 M)=W4 at H4 g4 ⊢;have z5:=H4.frozen 8;obtain⟨_,_,_,_,_,d8⟩:=H4.cells;go_upto_region 6 with (fail)
 all_goals
  have H5:=H4.setS 1;have g5:=qak g4 (grown_set W4 g 8 (.int .i64 1));clear H4 g4 z5 d8;generalize W4.setCell ⟨g,8,none⟩ (.int .i64 1)=W5 at H5 g5 ⊢;obtain⟨d3,d4,_,_,_,_⟩:=H5.cells;clear HN1 HN2;obtain⟨q,hq⟩:∃ q,decide (0<min P M)=q:=⟨_,rfl⟩;have hq':decide (min P M > 0)=q:=hq;go_quiet (fail)
  go_wp2;go_ret;exact⟨by rw [hq];rfl,H5,qak g5 (qah (qaP (bR9 _ _) _) (some g))⟩
theorem begin_no (g cap n:Nat) (p m st:Int) (tv qv bv:Value) (A:Option Addr) (w:World) (_:n<=4000000) (hH:HdAt w g p m tv qv bv st) (h:¬ (st=0/\n=3)) :
  Calls Tryz.prog 54 #[.pointer (some ⟨g,0,none⟩),.slice A n cap] w fun e w'=>e=.returned (.bool false)/\Below w.heap.size w w':=by
 obtain⟨_,_,_,_,_,c8⟩:=hH.cells;by_cases h0:st=0
 .subst h0;have h3:(((n:Nat):Int) != 3)=true:=by simp;omega
  clear h hH;go_enter Tryz.func54,Tryz.ntmps54;go_wp2;go_ret;exact⟨rfl,bR9 _ _⟩
 .have h3:(st != 0)=true:=by simpa using h0
  clear h hH;go_enter Tryz.func54,Tryz.ntmps54;go_wp2;go_ret;exact⟨rfl,bR9 _ _⟩
end Go.Proofs.YtgnaaokhfpfglaaGreatDoor
end
section
namespace Go.Proofs.YtgnaaokhfpfglaaGreatDoor
open Go.RowKit Go.Shelf Go.Lib Go.Proofs.YtgnaaokhfpfglaaGreatDoorW.PrintWords
theorem row_no (g cap n:Nat) (p m st behind now most:Int) (tv qv bv:Value) (A:Option Addr) (w:World) (_:n<=4000000) (hH:HdAt w g p m tv qv bv st) (h:¬ (1<=st/\st<=behind/\n=2)) :
  Calls Tryz.prog 55 #[.pointer (some ⟨g,0,none⟩),.slice A n cap,.int .i64 behind,.int .i64 now,.int .i64 most] w fun e w'=>e=.returned (.tuple #[.slice none 0 0,.bool false])/\Below w.heap.size w w':=by
 obtain⟨_,_,_,_,_,c8⟩:=hH.cells;by_cases h0:1<=st;rotate_left
 .have h3:decide (st<1)=true:=decide_eq_true (by omega);clear h hH;go_enter Tryz.func55,Tryz.ntmps55;go_wp2;go_ret2;exact⟨rfl,bR9 _ _⟩
 have h3:decide (st<1)=false:=decide_eq_false (by omega);by_cases h1:st<=behind;rotate_left
 .have h4:decide (st > behind)=true:=decide_eq_true (by omega);have h4':decide (behind<st)=true:=decide_eq_true (by omega);clear h hH h0 h1;go_enter Tryz.func55,Tryz.ntmps55;go_wp2;go_ret2;exact⟨rfl,bR9 _ _⟩
 have h4:decide (st > behind)=false:=decide_eq_false (by omega);have h4':decide (behind<st)=false:=decide_eq_false (by omega);have h5:(((n:Nat):Int) != 2)=true:=by simp;omega
 clear h hH h0 h1;go_enter Tryz.func55,Tryz.ntmps55;go_wp2;go_ret2;exact⟨rfl,bR9 _ _⟩
theorem row_yes (g cap:Nat) (p m st behind now most:Int) (tv qv bv:Value) (A:Option Addr) (x0 x1:Wd) (w:World) (hH:HdAt w g p m tv qv bv st) (hW:WRow w w.heap.size A [x0,x1]) (ho:WOff g A)
  (h1:1<=st) (h2:st<=behind) (l:List Int) (ok:Bool) (hl:l.length<=4000000)
  (hN:∀ W:World,w.heap.size<=W.heap.size->w.grownBy W (some g)->Calls Tryz.prog 87 #[.string x1.t,.int .i64 most] W fun e w'=>∃ v0_:Value,e=.returned (.tuple #[v0_,.bool ok])/\Kd.R (Kd.int .i64) 2 w' W.heap.size (fun _=>True) v0_ l/\Below W.heap.size W w') :
  Calls Tryz.prog 55 #[.pointer (some ⟨g,0,none⟩),.slice A 2 cap,.int .i64 behind,.int .i64 now,.int .i64 most] w fun e w'=>∃ v:Value,e=.returned (.tuple #[v,.bool (ok && decide (l.length<=64))])/\Kd.R (Kd.int .i64) 2 w' w.heap.size (fun _=>True) v l/\HdAt w' g p m tv qv bv now/\w.grownBy w' (some g):=by
 obtain⟨b,o,rfl,hlt,hc⟩:=hW (by simp);have hbg:b≠g:=ho b o rfl;obtain⟨x10,x11,x12⟩:=hc 1 (by simp);simp only [List.getElem_cons_succ,List.getElem_cons_zero] at x10 x11 x12;obtain⟨_,_,_,_,_,c8⟩:=hH.cells;have z8:=hH.frozen 8;have HN:=hI9 hN;have HH:=hI9 hH;have h3:decide (st<1)=false:=decide_eq_false (by omega);have h4:decide (st > behind)=false:=decide_eq_false (by omega);have h4':decide (behind<st)=false:=decide_eq_false (by omega);clear hc hN hH hW ho;go_enter Tryz.func55,Tryz.ntmps55;go_upto_region 4 with (fail)
 all_goals
  have H2:=HH.out.setS now;have g2:=grown_set w g 8 (.int .i64 now);have y2:=qa0 x12 hlt hbg g2;clear x10 x11 x12 c8 z8;generalize w.setCell ⟨g,8,none⟩ (.int .i64 now)=W2 at H2 g2 y2 ⊢;go_upto_region 5 with (go_at_call 87;refine (HN.out _ g2.size g2).mono ?_;rintro e w6 ⟨v,rfl,hR,hb3⟩;obtain⟨A5,c5,rfl,hl5,hC5⟩:=Kd.R_reads hR)
 all_goals
  have H3:=H2.below hb3;have g3:=qak g2 (qah hb3 (some g));have HR5:=hI9 (Kd.R_lower hR g2.size);clear hR hC5 H2 hb3 g2 y2 HN HH;obtain⟨q,hq⟩:∃ q,decide ((l.length:Int)<=64)=q:=⟨_,rfl⟩;have hq':decide (l.length<=64)=q:=by rw [<- hq];simp;omega
  cases ok with
  |true=>
   go_wp2;go_ret2;exact⟨_,by rw [hq',Bool.true_and];rfl,HR5.out,H3,g3⟩
  |false=>
   go_wp2;go_ret2;exact⟨_,rfl,HR5.out,H3,g3⟩
theorem bound_early (g cap n:Nat) (p m st:Int) (tv qv bv:Value) (A:Option Addr) (w:World) (_:n<=4000000) (hH:HdAt w g p m tv qv bv st) (h:¬ (1<=st/\n=5)) :
  Calls Tryz.prog 56 #[.pointer (some ⟨g,0,none⟩),.slice A n cap] w fun e w'=>e=.returned (.bool false)/\Below w.heap.size w w':=by
 obtain⟨_,_,_,_,_,c8⟩:=hH.cells;by_cases h0:1<=st;rotate_left
 .have h3:decide (st<1)=true:=decide_eq_true (by omega);clear h hH;go_enter Tryz.func56,Tryz.ntmps56;go_wp2;go_ret;exact⟨rfl,bR9 _ _⟩
 have h3:decide (st<1)=false:=decide_eq_false (by omega);have h5:(((n:Nat):Int) != 5)=true:=by simp;omega
 clear h hH h0;go_enter Tryz.func56,Tryz.ntmps56;go_wp2;go_ret;exact⟨rfl,bR9 _ _⟩
def gdB (K:Nat->Int) (O:Nat->Bool) (j:Nat):Bool:=O j && (decide (j≠0) || decide (K j<=99))
def arB (K:Nat->Int) (i:Nat):Array Value:=#[.int .i64 (if 0<i then K 0 else 0),.int .i64 (if 1<i then K 1 else 0),.int .i64 (if 2<i then K 2 else 0),.int .i64 (if 3<i then K 3 else 0)]
theorem arB_set (K:Nat->Int) (i:Nat) (h:i<4):(arB K i).setIfInBounds i (.int .i64 (K i))=arB K (i+1):=by
 have:i=0\/i=1\/i=2\/i=3:=by omega
 rcases this with rfl|rfl|rfl|rfl<;>simp [arB]
theorem arB_at (K:Nat->Int) (i:Nat) (h:i<4):∃ v,(arB K i)[i]? = some v:=⟨_,Array.getElem?_eq_getElem (by simp [arB];omega)⟩
theorem grown_new {w w1:World} {g nb i:Nat} {v:Value} (h:w.grownBy w1 (some g)) (hn:w.heap.size<=nb):w.grownBy (w1.setCell ⟨nb,i,none⟩ v) (some g):=by
 refine⟨h.os,h.tape,h.output,?_,fun k hk hne=>?_⟩
 .simpa [World.setCell] using h.size
 .exact (Below.heap_setCell w1 ⟨nb,i,none⟩ v k (by show k≠nb;omega)).trans (h.block k hk hne)
theorem HdAt.far {w:World} {g nb i:Nat} {p m:Int} {tv qv bv v:Value} {st:Int} (h:HdAt w g p m tv qv bv st) (hn:g≠nb):HdAt (w.setCell ⟨nb,i,none⟩ v) g p m tv qv bv st:=
 (Below.heap_setCell w ⟨nb,i,none⟩ v g hn).trans h
theorem bound_no (K:Nat->Int) (O:Nat->Bool) (g cap:Nat) (p m st:Int) (tv qv bv:Value) (A:Option Addr) (x0:Wd) (X:Nat->Wd) (w:World) (hst:1<=st) (hcap:5<=cap) (hH:HdAt w g p m tv qv bv st) (hW:WRow w w.heap.size A [x0,X 0,X 1,X 2,X 3]) (ho:WOff g A)
  (hN:∀ (j:Nat) (W:World),Calls Tryz.prog 88 #[.string (X j).t,.int .i64 1099511627776] W fun e w'=>e=.returned (.tuple #[.int .i64 (K j),.bool (O j)])/\Below W.heap.size W w')
  (hbad:∃ j,j<4/\gdB K O j=false) :
  Calls Tryz.prog 56 #[.pointer (some ⟨g,0,none⟩),.slice A 5 cap] w fun e w'=>e=.returned (.bool false)/\HdAt w' g p m tv qv bv 4/\w.grownBy w' (some g):=by
 obtain⟨b,o,rfl,hlt,hc⟩:=hW (by simp);have hbg:b≠g:=ho b o rfl;have hX:∀ i,i<4->w.cell? ⟨b,o+3+i * 3,none⟩=some (.int .i64 (X i).p)/\w.cell? ⟨b,o+3+i * 3+1,none⟩=some (.int .i64 (X i).q)/\w.cell? ⟨b,o+3+i * 3+2,none⟩=some (.string (X i).t):=fun i hi=>by
  have:=hc (i+1) (by simp;omega);rw [show o+3+i * 3=o+(i+1) * 3 by omega];have e:i=0\/i=1\/i=2\/i=3:=by omega
  rcases e with rfl|rfl|rfl|rfl<;>exact this
 obtain⟨_,_,_,_,_,c8⟩:=hH.cells;have z8:=hH.frozen 8;have HN:=hI9 hN;have HH:=hI9 hH;have HX:=hI9 hX;have HB:=hI9 hbad;have h3:decide (st<1)=false:=decide_eq_false (by omega);clear hc hN hH hW ho hX hbad;go_enter Tryz.func56,Tryz.ntmps56;go_upto_region 4 with (fail)
 all_goals
  have H2:=HH.out.setS 4;have g2:=grown_set w g 8 (.int .i64 4);clear c8 z8;generalize w.setCell ⟨g,8,none⟩ (.int .i64 4)=W2 at H2 g2 ⊢;go_upto_region 5 with (fail)
 all_goals
  have H3:=H2.below ((bR9 W2.heap.size W2).alloc (nR9 _) (.cells #[.int .i64 0,.int .i64 0,.int .i64 0,.int .i64 0] 69 (0,0)));have g3:=qak g2 (qah ((bR9 W2.heap.size W2).alloc (nR9 _) (.cells #[.int .i64 0,.int .i64 0,.int .i64 0,.int .i64 0] 69 (0,0))) (some g));have hA:(W2.alloc (.cells #[.int .i64 0,.int .i64 0,.int .i64 0,.int .i64 0] 69 (0,0))).heap[W2.heap.size]? = some (.cells (arB K 0) 69 (0,0)):=by
   rw [show arB K 0 = #[.int .i64 0,.int .i64 0,.int .i64 0,.int .i64 0] from rfl];exact blk_new W2 _
  have hnb:w.heap.size<=W2.heap.size:=g2.size;have hgn:g≠W2.heap.size:=by have:=H2.lt;omega
  generalize W2.alloc (.cells #[.int .i64 0,.int .i64 0,.int .i64 0,.int .i64 0] 69 (0,0))=W3 at H3 g3 hA ⊢;generalize W2.heap.size=nb at hA hnb hgn ⊢;clear H2 g2 HH;go_wp2;go_loopw [26] (fun v26 wr=>∃ (i:Nat),v26=.int .i64 i/\i<=4/\HdAt wr g p m tv qv bv 4/\wr.heap[nb]? = some (.cells (arB K i) 69 (0,0))/\w.grownBy wr (some g)/\∀ j,j<i->gdB K O j=true) (fun v26 _=>4 - (RowKit.intOf v26).toNat)
  case atStart=>exact⟨0,rfl,Nat.zero_le _,H3,hA,g3,fun j hj=>absurd hj (Nat.not_lt_zero _)⟩
  case round=>
   obtain⟨i,rfl,hi,HL,hAL,hgL,hall⟩:=hrel;by_cases hin:i<4;rotate_left
   .obtain⟨j,hj,hb⟩:=HB.out;rw [hall j (by omega)] at hb;cases hb
   obtain⟨x0_,x1_,x2_⟩:=HX.out i hin;have y0:=qa0 x0_ hlt hbg hgL;have y1:=qa0 x1_ hlt hbg hgL;have y2:=qa0 x2_ hlt hbg hgL;have HNI:=hI9 (HN.out i);have HALL:=hI9 hall;clear x0_ x1_ x2_ H3 hA g3 hall;have c27:decide ((i:Int)<4)=true:=decide_eq_true (by omega);generalize X i=x at y0 y1 y2 HNI;go_upto_region 8 with (fail)
   have hbx:=(bR9 wr.heap.size wr).alloc (nR9 _) (.cells #[.int .i64 x.p,.int .i64 x.q,.string x.t] 78 (0,0));have HL5:=HL.below hbx;have hA5:=(hbx.block nb (lt_of_block hAL)).trans hAL;have g5:=qak hgL (qah hbx (some g));have t2:(wr.alloc (.cells #[.int .i64 x.p,.int .i64 x.q,.string x.t] 78 (0,0))).cell? ⟨wr.heap.size,2,none⟩=some (.string x.t):=qac (blk_new wr _) 2;generalize wr.alloc (.cells #[.int .i64 x.p,.int .i64 x.q,.string x.t] 78 (0,0))=W5 at HL5 hA5 g5 t2 ⊢;generalize wr.heap.size=xb at t2 ⊢;clear HL hAL hgL hbx y0 y1 y2;have hz0:∀ q:Bool,decide (i=0)=q->((i:Int) == 0)=q:=fun q hq=>by rw [<- hq,Bool.eq_iff_iff];simp
   cases hg:gdB K O i with
   |false=>
    have HO:Hid (O i=false\/(O i=true/\i=0/\99<K i)):=hI9 (by
     unfold gdB at hg;cases hO:O i with
     |false=>exact .inl rfl
     |true=>rw [hO] at hg;simp at hg;exact .inr ⟨rfl,hg.1,by omega⟩)
    clear hg HALL;generalize hki:K i=k at HNI HO;generalize O i=q at HNI HO;clear hki;rcases HO.out with rfl|⟨rfl,hi0,hk⟩
    .go_wp2_with (go_at_call 88;refine (HNI.out _).mono ?_;rintro e w6 ⟨rfl,hb6⟩)
     go_ret;exact⟨rfl,HL5.below hb6,qak g5 (qah hb6 (some g))⟩
    .have e0:=hz0 true (decide_eq_true hi0);have e1:decide (k > 99)=true:=decide_eq_true hk;have e2:decide (99<k)=true:=decide_eq_true hk;go_wp2_with (go_at_call 88;refine (HNI.out _).mono ?_;rintro e w6 ⟨rfl,hb6⟩)
     go_ret;exact⟨rfl,HL5.below hb6,qak g5 (qah hb6 (some g))⟩
   |true=>
    have HO:Hid (O i=true/\(i≠0\/¬ 99<K i)):=hI9 (by
     unfold gdB at hg;cases hO:O i with
     |false=>rw [hO] at hg;cases hg
     |true=>rw [hO] at hg;simp at hg;exact⟨rfl,by omega⟩)
    have HG:Hid (∀ j,j<i+1->gdB K O j=true):=hI9 (fun j hj=>by
     by_cases h:j=i
     .rw [h];exact hg
     .exact HALL.out j (by omega))
    have HAS:=hI9 (arB_set K i hin);clear hg HALL;generalize hki:K i=k at HNI HO HAS;generalize O i=q at HNI HO;clear hki;obtain⟨v0,hv0⟩:=arB_at K i hin;have HV:=hI9 hv0;clear hv0;have hstep:∃ w6:World,True:=⟨W5,trivial⟩;have c0:(0:Int)<=(i:Int):=by omega
    have c4:(i:Int)<4:=by omega
    have wi:IntKind.i64.wrap ((i:Int)+1)=((i+1:Nat):Int):=by rw [IntKind.wrap_i64];omega
    have key:∀ e1:Bool,decide (k > 99)=e1->decide (99<k)=e1:=fun e1 h=>h
    obtain⟨rfl,hor⟩:=HO.out;have hgo:∃ q0:Bool,((i:Int) == 0)=q0/\(q0=true->decide (k > 99)=false):=by
     by_cases h0:i=0
     .exact⟨true,hz0 true (decide_eq_true h0),fun _=>decide_eq_false (by omega)⟩
     .exact⟨false,hz0 false (decide_eq_false h0),fun h=>by cases h⟩
    obtain⟨q0,e0,e1⟩:=hgo;cases q0 with
    |true=>
     have e2:=e1 rfl;have e3:decide (99<k)=false:=e2;clear e1 key hor hz0 hstep;obtain rfl:i=0:=by simpa using e0
     go_upto_region 12 with (go_at_call 88;refine (HNI.out _).mono ?_;rintro e w6 ⟨rfl,hb6⟩;have hA6:=(hb6.block nb (lt_of_block hA5)).trans hA5;have n6:=(qac hA6 0).trans HV.out;have f6:=qam hA6 0)
     have HL7:=(HL5.below hb6).far (nb:=nb) (i:=0) (v:=.int .i64 k) hgn;have g7:=grown_new (nb:=nb) (i:=0) (v:=.int .i64 k) (qak g5 (qah hb6 (some g))) hnb;have hA7:=blkSet hA6 0 (.int .i64 k);rw [HAS.out] at hA7;generalize w6.setCell ⟨nb,0,none⟩ (.int .i64 k)=W7 at HL7 g7 hA7 ⊢;go_wp2;go_roundw
     case rel=>exact⟨0+1,by simp,hin,HL7,hA7,g7,HG.out⟩
     case measure=>simp [RowKit.intOf]
    |false=>
     clear e1 key hor hz0 hstep;go_upto_region 12 with (go_at_call 88;refine (HNI.out _).mono ?_;rintro e w6 ⟨rfl,hb6⟩;have hA6:=(hb6.block nb (lt_of_block hA5)).trans hA5;have n6:=(qac hA6 i).trans HV.out;have f6:=qam hA6 i)
     have HL7:=(HL5.below hb6).far (nb:=nb) (i:=i) (v:=.int .i64 k) hgn;have g7:=grown_new (nb:=nb) (i:=i) (v:=.int .i64 k) (qak g5 (qah hb6 (some g))) hnb;have hA7:=blkSet hA6 i (.int .i64 k);rw [HAS.out] at hA7;generalize w6.setCell ⟨nb,i,none⟩ (.int .i64 k)=W7 at HL7 g7 hA7 ⊢;go_wp2;go_roundw
     case rel=>exact⟨i+1,by simp,hin,HL7,hA7,g7,HG.out⟩
     case measure=>simp [RowKit.intOf];omega
theorem infoBd:(Tryz.prog.info? 60).map (fun i=>(i.zero,i.size,i.bytes))=some (some (.agg #[.int .i64 0,.int .i64 0,.int .i64 0,.int .i64 0]),4,32):=by kernel_rfl
theorem four_new (w:World) (a b c d:Value) (t:TypeId):∀ (i:Nat) u,[a,b,c,d][i]? = some u->(w.alloc (.cells #[a,b,c,d] t)).cell? ((⟨w.heap.size,0,none⟩:Addr).add i)=some u:=by
 intro i u hu;have h:=blk_new w (.cells #[a,b,c,d] t);have:=qac h i;have e:(⟨w.heap.size,0,none⟩:Addr).add i=⟨w.heap.size,i,none⟩:=by simp [Addr.add];exact fun h=>h.symm
 rw [e,this]
 simpa using hu
theorem bound_yes (K:Nat->Int) (O:Nat->Bool) (g cap:Nat) (p m st:Int) (tv qv bv:Value) (A:Option Addr) (x0:Wd) (X:Nat->Wd) (n:Nat) (cs:List Value) (w0 w:World) (hst:1<=st) (hcap:5<=cap) (hn:n<=4000000) (hg0:w0.grownBy w (some g)) (hgl:g<w0.heap.size) (hO:w.ownsRow w0.heap.size 60 4 bv n cs) (hH:HdAt w g p m tv qv bv st) (hW:WRow w w.heap.size A [x0,X 0,X 1,X 2,X 3]) (ho:WOff g A)
  (hN:∀ (j:Nat) (W:World),Calls Tryz.prog 88 #[.string (X j).t,.int .i64 1099511627776] W fun e w'=>e=.returned (.tuple #[.int .i64 (K j),.bool (O j)])/\Below W.heap.size W w')
  (hgood:∀ j,j<4->gdB K O j=true) :
  Calls Tryz.prog 56 #[.pointer (some ⟨g,0,none⟩),.slice A 5 cap] w fun e w'=>∃ bv',e=.returned (.bool (decide (n+1<=64)))/\HdAt w' g p m tv qv bv' 4/\w'.ownsRow w0.heap.size 60 4 bv' (n+1) (cs++[.int .i64 (K 0),.int .i64 (K 1),.int .i64 (K 2),.int .i64 (K 3)])/\w0.grownBy w' (some g)/\∀ k,k<w.heap.size->k≠g->some k≠bv.ownBlock->w'.heap[k]? = w.heap[k]?:=by
 obtain⟨b,o,rfl,hlt,hc⟩:=hW (by simp);have hbg:b≠g:=ho b o rfl;have hX:∀ i,i<4->w.cell? ⟨b,o+3+i * 3,none⟩=some (.int .i64 (X i).p)/\w.cell? ⟨b,o+3+i * 3+1,none⟩=some (.int .i64 (X i).q)/\w.cell? ⟨b,o+3+i * 3+2,none⟩=some (.string (X i).t):=fun i hi=>by
  have:=hc (i+1) (by simp;omega);rw [show o+3+i * 3=o+(i+1) * 3 by omega];have e:i=0\/i=1\/i=2\/i=3:=by omega
  rcases e with rfl|rfl|rfl|rfl<;>exact this
 obtain⟨_,_,_,_,_,c8⟩:=hH.cells;have z8:=hH.frozen 8;have HN:=hI9 hN;have HH:=hI9 hH;have HX:=hI9 hX;have HB:=hI9 hgood;have HO:=hI9 hO;have HG0:=hI9 hg0;have h3:decide (st<1)=false:=decide_eq_false (by omega);clear hc hN hH hW ho hX hgood hO hg0;go_enter Tryz.func56,Tryz.ntmps56;go_upto_region 4 with (fail)
 all_goals
  have H2:=HH.out.setS 4;have g2:=grown_set w g 8 (.int .i64 4);clear c8 z8;generalize w.setCell ⟨g,8,none⟩ (.int .i64 4)=W2 at H2 g2 ⊢;go_upto_region 5 with (fail)
 all_goals
  have H3:=H2.below ((bR9 W2.heap.size W2).alloc (nR9 _) (.cells #[.int .i64 0,.int .i64 0,.int .i64 0,.int .i64 0] 69 (0,0)));have g3:=qak g2 (qah ((bR9 W2.heap.size W2).alloc (nR9 _) (.cells #[.int .i64 0,.int .i64 0,.int .i64 0,.int .i64 0] 69 (0,0))) (some g));have hA:(W2.alloc (.cells #[.int .i64 0,.int .i64 0,.int .i64 0,.int .i64 0] 69 (0,0))).heap[W2.heap.size]? = some (.cells (arB K 0) 69 (0,0)):=by
   rw [show arB K 0 = #[.int .i64 0,.int .i64 0,.int .i64 0,.int .i64 0] from rfl];exact blk_new W2 _
  have hnb:w.heap.size<=W2.heap.size:=g2.size;have hgn:g≠W2.heap.size:=by have:=H2.lt;omega
  generalize W2.alloc (.cells #[.int .i64 0,.int .i64 0,.int .i64 0,.int .i64 0] 69 (0,0))=W3 at H3 g3 hA ⊢;generalize W2.heap.size=nb at hA hnb hgn ⊢;clear H2 g2 HH;go_wp2;go_loopw [26] (fun v26 wr=>∃ (i:Nat),v26=.int .i64 i/\i<=4/\HdAt wr g p m tv qv bv 4/\wr.heap[nb]? = some (.cells (arB K i) 69 (0,0))/\w.grownBy wr (some g)/\∀ j,j<i->gdB K O j=true) (fun v26 _=>4 - (RowKit.intOf v26).toNat)
  case atStart=>exact⟨0,rfl,Nat.zero_le _,H3,hA,g3,fun j hj=>absurd hj (Nat.not_lt_zero _)⟩
  case round=>
   obtain⟨i,rfl,hi,HL,hAL,hgL,hall⟩:=hrel;by_cases hin:i<4;rotate_left
   .obtain rfl:i=4:=by omega
    clear HB HN HX hall H3 hA g3;have eA:arB K 4 = #[.int .i64 (K 0),.int .i64 (K 1),.int .i64 (K 2),.int .i64 (K 3)]:=rfl;rw [eA] at hAL;obtain⟨k0,hk0⟩:∃ z,K 0=z:=⟨_,rfl⟩;have HK0:=hI9 hk0;rw [hk0] at hAL;clear hk0;obtain⟨k1,hk1⟩:∃ z,K 1=z:=⟨_,rfl⟩;have HK1:=hI9 hk1;rw [hk1] at hAL;clear hk1;obtain⟨k2,hk2⟩:∃ z,K 2=z:=⟨_,rfl⟩;have HK2:=hI9 hk2;rw [hk2] at hAL;clear hk2;obtain⟨k3,hk3⟩:∃ z,K 3=z:=⟨_,rfl⟩;have HK3:=hI9 hk3;rw [hk3] at hAL;clear hk3;clear eA;obtain⟨i0,hi0,hz0,hz1,hz2⟩:=info_parts infoBd;obtain⟨_,_,_,_,f7,_⟩:=HL.cells;have hlw:=HL.lt;have hnbl:=lt_of_block hAL;have hrow1:wr.drew.ownsRow w0.heap.size 60 4 bv n cs:=own_move HO.out (fun k e=>hgL.block k (HO.out.lt k e).2 (fun e2=>by have:=(HO.out.lt k e).1;have:=Option.some.inj e2;omega));have HROW:=hI9 hrow1;clear hrow1;have hbase:w0.heap.size<=wr.heap.size:=Nat.le_trans HG0.out.size hgL.size;have hS0:wr.drew.cell? ⟨nb,0,none⟩=some (.int .i64 k0)/\wr.drew.cell? ⟨nb,1,none⟩=some (.int .i64 k1)/\wr.drew.cell? ⟨nb,2,none⟩=some (.int .i64 k2)/\wr.drew.cell? ⟨nb,3,none⟩=some (.int .i64 k3):=⟨qac hAL 0,qac hAL 1,qac hAL 2,qac hAL 3⟩;obtain⟨AL,hALd⟩:∃ AL,AL=wr.drew.alloc (.cells #[.int .i64 k0,.int .i64 k1,.int .i64 k2,.int .i64 k3] 60):=⟨_,rfl⟩;have hbA:Below wr.heap.size wr AL:=by rw [hALd];exact (bR9 wr.heap.size wr).drew.alloc (nR9 _) _
    have hA2:=(hbA.block nb hnbl).trans hAL;have hS1:AL.cell? ⟨nb,0,none⟩=some (.int .i64 k0)/\AL.cell? ⟨nb,1,none⟩=some (.int .i64 k1)/\AL.cell? ⟨nb,2,none⟩=some (.int .i64 k2)/\AL.cell? ⟨nb,3,none⟩=some (.int .i64 k3):=⟨qac hA2 0,qac hA2 1,qac hA2 2,qac hA2 3⟩;have HHA:=HL.below hbA;obtain⟨_,_,_,_,f7A,_⟩:=HHA.cells;have hsz:wr.heap.size<AL.heap.size:=by rw [hALd];simp [World.alloc]
    have hLA:∀ k,k<w.heap.size->k≠g->AL.heap[k]? = w.heap[k]?:=fun k hk hne=>(hbA.block k (Nat.lt_of_lt_of_le hk hgL.size)).trans (hgL.block k hk (fun e=>hne (Option.some.inj e)))
    have hGA:w0.grownBy AL (some g):=qak (qak HG0.out hgL) (qah hbA (some g));have hwl:=hgL.size;have HREST:=hI9 (And.intro HHA (And.intro hLA hGA));have HALD:=hI9 hALd;rw [hALd] at hS1 f7A;clear hALd hA2 hAL hLA hGA hgL;go_upto_region 13 with (fail)
    refine wp_region_held_drew (S:=fun W'=>W'.cell? ⟨nb,0,none⟩=some (.int .i64 k0)/\W'.cell? ⟨nb,1,none⟩=some (.int .i64 k1)/\W'.cell? ⟨nb,2,none⟩=some (.int .i64 k2)/\W'.cell? ⟨nb,3,none⟩=some (.int .i64 k3)) (by kernel_rfl) hS0 (fun _=>?_)
    (refine wpAnyH_take (i:=0) (v:=?_) rfl (by kernel_rfl) (by kernel_rfl) (by kernel_rfl) (fun _ _ _ h=>h) (Or.inl ⟨by rfl,fun W' hS=>?_⟩) hS0 ?_;rotate_left;· (obtain⟨s0,s1,s2,s3⟩:=hS;go_simp;try with_reducible rfl))
    (refine wpAnyH_take (i:=1) (v:=?_) rfl (by kernel_rfl) (by kernel_rfl) (by kernel_rfl) (fun _ _ _ h=>h) (Or.inl ⟨by rfl,fun W' hS=>?_⟩) hS0 ?_;rotate_left;· (obtain⟨s0,s1,s2,s3⟩:=hS;go_simp;try with_reducible rfl))
    (refine wpAnyH_take (i:=2) (v:=?_) rfl (by kernel_rfl) (by kernel_rfl) (by kernel_rfl) (fun _ _ _ h=>h) (Or.inl ⟨by rfl,fun W' hS=>?_⟩) hS0 ?_;rotate_left;· (obtain⟨s0,s1,s2,s3⟩:=hS;go_simp;try with_reducible rfl))
    (refine wpAnyH_take (i:=3) (v:=?_) rfl (by kernel_rfl) (by kernel_rfl) (by kernel_rfl) (fun _ _ _ h=>h) (Or.inl ⟨by rfl,fun W' hS=>?_⟩) hS0 ?_;rotate_left;· (obtain⟨s0,s1,s2,s3⟩:=hS;go_simp;try with_reducible rfl))
    (refine wpAnyH_take (i:=4) (v:=?_) rfl (by kernel_rfl) (by kernel_rfl) (by kernel_rfl) (fun _ _ _ h=>h) (Or.inl ⟨by rfl,fun W' hS=>?_⟩) hS0 ?_;rotate_left;· (obtain⟨s0,s1,s2,s3⟩:=hS;go_simp;try with_reducible rfl))
    (refine wpAnyH_take (i:=6) (v:=?_) rfl (by kernel_rfl) (by kernel_rfl) (by kernel_rfl) (fun _ _ _ h=>h) (Or.inl ⟨by rfl,fun W' hS=>?_⟩) hS0 ?_;rotate_left;· (obtain⟨s0,s1,s2,s3⟩:=hS;go_simp;try with_reducible rfl))
    (refine wpAnyH_take (i:=7) (v:=?_) rfl (by kernel_rfl) (by kernel_rfl) (by kernel_rfl) (fun _ _ _ h=>h) (Or.inl ⟨by rfl,fun W' hS=>?_⟩) hS0 ?_;rotate_left;· (obtain⟨s0,s1,s2,s3⟩:=hS;go_simp;try with_reducible rfl))
    (refine wpAnyH_take (i:=8) (v:=?_) rfl (by kernel_rfl) (by kernel_rfl) (by kernel_rfl) (fun _ _ _ h=>h) (Or.inl ⟨by rfl,fun W' hS=>?_⟩) hS0 ?_;rotate_left;· (obtain⟨s0,s1,s2,s3⟩:=hS;go_simp;try with_reducible rfl))
    (refine wpAnyH_take (i:=9) (v:=?_) rfl (by kernel_rfl) (by kernel_rfl) (by kernel_rfl) (fun _ _ _ h=>h) (Or.inl ⟨by rfl,fun W' hS=>?_⟩) hS0 ?_;rotate_left;· (obtain⟨s0,s1,s2,s3⟩:=hS;go_simp;try with_reducible rfl))
    (refine wpAnyH_take (i:=10) (v:=?_) rfl (by kernel_rfl) (by kernel_rfl) (by kernel_rfl) (fun _ _ _ h=>h) (Or.inl ⟨by rfl,fun W' hS=>?_⟩) hS0 ?_;rotate_left;· (obtain⟨s0,s1,s2,s3⟩:=hS;go_simp;try with_reducible rfl))
    (refine wpAnyH_take (i:=11) (v:=?_) rfl (by kernel_rfl) (by kernel_rfl) (by kernel_rfl) (fun _ _ _ h=>h) (Or.inl ⟨by rfl,fun W' hS=>?_⟩) hS0 ?_;rotate_left;· (obtain⟨s0,s1,s2,s3⟩:=hS;go_simp;try with_reducible rfl))
    (refine wpAnyH_take (i:=12) (v:=?_) rfl (by kernel_rfl) (by kernel_rfl) (by kernel_rfl) (fun _ _ _ h=>h) (Or.inl ⟨by rfl,fun W' hS=>?_⟩) hS0 ?_;rotate_left;· (obtain⟨s0,s1,s2,s3⟩:=hS;go_simp;try with_reducible rfl))
    (refine wpAnyH_take (i:=13) (v:=?_) rfl (by kernel_rfl) (by kernel_rfl) (by kernel_rfl) (fun _ _ _ h=>h) (Or.inl ⟨by rfl,fun W' hS=>?_⟩) hS0 ?_;rotate_left;· (obtain⟨s0,s1,s2,s3⟩:=hS;go_simp;try with_reducible rfl))
    (refine wpAnyH_take (i:=14) (v:=?_) rfl (by kernel_rfl) (by kernel_rfl) (by kernel_rfl) (fun _ _ _ h=>h) (Or.inl ⟨by rfl,fun W' hS=>?_⟩) hS0 ?_;rotate_left;· (obtain⟨s0,s1,s2,s3⟩:=hS;go_simp;try with_reducible rfl))
    refine wpAnyH_ready (rs:=[5,15]) (by kernel_rfl) (by simp) ?_;refine AllReadyH.cons rfl (fun K9 hK9=>?_) (AllReadyH.cons rfl (fun K9 hK9=>?_) AllReadyH.nil);go_simp;refine hK9.out _ _ hS0 (fun _=>?_);clear hK9 K9;refine wpAnyH_ready (rs:=[15]) (by kernel_rfl) (by simp) ?_;refine AllReadyH.cons rfl (fun K9 hK9=>?_) AllReadyH.nil;go_simp;refine hK9.out _ _ hS1 (fun _=>?_);clear hK9 K9;rotate_left;go_simp;refine hK9.out _ _ hS1 (fun _=>?_);clear hK9 K9;refine wpAnyH_ready (rs:=[5]) (by kernel_rfl) (by simp) ?_;refine AllReadyH.cons rfl (fun K9 hK9=>?_) AllReadyH.nil;go_simp;refine hK9.out _ _ hS1 (fun _=>?_);clear hK9 K9
    all_goals
     refine wpAnyH_ready (rs:=[16]) (by kernel_rfl) (by simp) ?_;refine AllReadyH.cons rfl (fun K9 hK9=>?_) AllReadyH.nil;refine step_append_lies _ (by rfl) (.tmp 56) (.tmp 66) 41 (by rfl) w0.heap.size 60 i0 _ 4 32 Tryz.underlying41 hi0 hz0 hz1 hz2 rfl (by decide) bv n cs (by rfl) ((HROW.out).alloc _) ⟨wr.heap.size,0,none⟩ 1 1 [.int .i64 k0,.int .i64 k1,.int .i64 k2,.int .i64 k3] (by rfl) rfl (four_new wr.drew _ _ _ _ _) (by simp [Value.oneCell']) (by decide) (by unfold maxLen;omega) (by omega) (by simp;omega) _ rfl ?_;intro g' cap' w3 hown' hgrow _ _;replace hgrow:AL.grownBy w3 bv.ownBlock:=by rw [HALD.out];exact hgrow
     rw [<- HALD.out] at hS1;have hneg:some g≠bv.ownBlock:=fun e=>by have:=(HROW.out.lt g e.symm).1;omega
     have hnen:some nb≠bv.ownBlock:=fun e=>by have:=(HO.out.lt nb e.symm).2;omega
     have H9:HdAt w3 g p m tv qv bv 4:=(hgrow.block g HREST.out.1.lt hneg).trans HREST.out.1;have hfar:∀ j,w3.cell? ⟨nb,j,none⟩=AL.cell? ⟨nb,j,none⟩:=fun j=>World.cell?_of_block (hgrow.block nb (by omega) hnen)
     have hS3:w3.cell? ⟨nb,0,none⟩=some (.int .i64 k0)/\w3.cell? ⟨nb,1,none⟩=some (.int .i64 k1)/\w3.cell? ⟨nb,2,none⟩=some (.int .i64 k2)/\w3.cell? ⟨nb,3,none⟩=some (.int .i64 k3):=⟨(hfar 0).trans hS1.1,(hfar 1).trans hS1.2.1,(hfar 2).trans hS1.2.2.1,(hfar 3).trans hS1.2.2.2⟩;have y7:=H9.cells.2.2.2.2.1;have yz:=H9.frozen 7;have HOWN:=hI9 hown';have HGR:=hI9 hgrow;have HH9:=hI9 H9;clear hown' hgrow hfar H9 hS1;refine hK9.out _ _ hS3 (fun _=>?_);clear hK9 K9
     (refine wpAnyH_take (i:=17) (v:=?_) rfl (by kernel_rfl) (by kernel_rfl) (by kernel_rfl) (fun _ _ _ h=>h) (Or.inl ⟨by rfl,fun W' hS=>?_⟩) hS3 ?_;rotate_left;· (obtain⟨s0,s1,s2,s3⟩:=hS;go_simp;try with_reducible rfl))
     (refine wpAnyH_take (i:=18) (v:=?_) rfl (by kernel_rfl) (by kernel_rfl) (by kernel_rfl) (fun _ _ _ h=>h) (Or.inl ⟨by rfl,fun W' hS=>?_⟩) hS3 ?_;rotate_left;· (obtain⟨s0,s1,s2,s3⟩:=hS;go_simp;try with_reducible rfl))
     (refine wpAnyH_take (i:=19) (v:=?_) rfl (by kernel_rfl) (by kernel_rfl) (by kernel_rfl) (fun _ _ _ h=>h) (Or.inl ⟨by rfl,fun W' hS=>?_⟩) hS3 ?_;rotate_left;· (obtain⟨s0,s1,s2,s3⟩:=hS;go_simp;try with_reducible rfl))
     refine wpAnyH_ready (rs:=[20]) (by kernel_rfl) (by simp) ?_;refine AllReadyH.cons rfl (fun K9 hK9=>?_) AllReadyH.nil;go_simp;have hset:∀ j,(w3.setCell ⟨g,7,none⟩ (.slice (some ⟨g',0,none⟩) (n+1) cap')).cell? ⟨nb,j,none⟩=w3.cell? ⟨nb,j,none⟩:=fun j=>World.cell?_of_block (Below.heap_setCell w3 ⟨g,7,none⟩ _ nb (fun e=>hgn e.symm))
     refine hK9.out _ _ ⟨(hset 0).trans hS3.1,(hset 1).trans hS3.2.1,(hset 2).trans hS3.2.2.1,(hset 3).trans hS3.2.2.2⟩ (fun _=>?_);clear hK9 K9 hset;refine wpAnyH_done (by kernel_rfl) ?_ _;have HF:=HH9.out.setB (.slice (some ⟨g',0,none⟩) (n+1) cap');have OF:=ownsRow_far HOWN.out hgl 7 (.slice (some ⟨g',0,none⟩) (n+1) cap');have GF:=grown_put HREST.out.2.2 HGR.out (fun k e=>(HROW.out.lt k e).1) 7 (.slice (some ⟨g',0,none⟩) (n+1) cap');have KF:∀ k,k<w.heap.size->k≠g->some k≠bv.ownBlock->(w3.setCell ⟨g,7,none⟩ (.slice (some ⟨g',0,none⟩) (n+1) cap')).heap[k]? = w.heap[k]?:=fun k hk hne hkb=>(Below.heap_setCell w3 ⟨g,7,none⟩ _ k hne).trans ((HGR.out.block k (by omega) hkb).trans (HREST.out.2.1 k hk hne))
     generalize w3.setCell ⟨g,7,none⟩ (.slice (some ⟨g',0,none⟩) (n+1) cap')=W9 at HF OF GF KF ⊢;have y9:=HF.cells.2.2.2.2.1;clear HROW HREST HOWN HGR HH9 HALD HO HG0 y7 yz hS3 hS0 f7 f7A HL HHA;obtain⟨q,hq⟩:∃ q,decide ((n:Int)+1<=64)=q:=⟨_,rfl⟩;have hq':decide (n+1<=64)=q:=by rw [<- hq,Bool.eq_iff_iff];simp;omega
     go_wp2;go_ret;refine⟨_,by rw [hq'];rfl,HF,?_,GF,KF⟩;rw [HK0.out,HK1.out,HK2.out,HK3.out];exact OF
   obtain⟨x0_,x1_,x2_⟩:=HX.out i hin;have y0:=qa0 x0_ hlt hbg hgL;have y1:=qa0 x1_ hlt hbg hgL;have y2:=qa0 x2_ hlt hbg hgL;have HNI:=hI9 (HN.out i);have HALL:=hI9 hall;clear x0_ x1_ x2_ H3 hA g3 hall;have c27:decide ((i:Int)<4)=true:=decide_eq_true (by omega);generalize X i=x at y0 y1 y2 HNI;go_upto_region 8 with (fail)
   have hbx:=(bR9 wr.heap.size wr).alloc (nR9 _) (.cells #[.int .i64 x.p,.int .i64 x.q,.string x.t] 78 (0,0));have HL5:=HL.below hbx;have hA5:=(hbx.block nb (lt_of_block hAL)).trans hAL;have g5:=qak hgL (qah hbx (some g));have t2:(wr.alloc (.cells #[.int .i64 x.p,.int .i64 x.q,.string x.t] 78 (0,0))).cell? ⟨wr.heap.size,2,none⟩=some (.string x.t):=qac (blk_new wr _) 2;generalize wr.alloc (.cells #[.int .i64 x.p,.int .i64 x.q,.string x.t] 78 (0,0))=W5 at HL5 hA5 g5 t2 ⊢;generalize wr.heap.size=xb at t2 ⊢;clear HL hAL hgL hbx y0 y1 y2;have hz0:∀ q:Bool,decide (i=0)=q->((i:Int) == 0)=q:=fun q hq=>by rw [<- hq,Bool.eq_iff_iff];simp
   cases hg:gdB K O i with
   |false=>
    rw [HB.out i hin] at hg;cases hg
   |true=>
    have HOK:Hid (O i=true/\(i≠0\/¬ 99<K i)):=hI9 (by
     unfold gdB at hg;cases hO:O i with
     |false=>rw [hO] at hg;cases hg
     |true=>rw [hO] at hg;simp at hg;exact⟨rfl,by omega⟩)
    have HG:Hid (∀ j,j<i+1->gdB K O j=true):=hI9 (fun j hj=>by
     by_cases h:j=i
     .rw [h];exact hg
     .exact HALL.out j (by omega))
    have HAS:=hI9 (arB_set K i hin);clear hg HALL;generalize hki:K i=k at HNI HOK HAS;generalize O i=q at HNI HOK;clear hki;obtain⟨v0,hv0⟩:=arB_at K i hin;have HV:=hI9 hv0;clear hv0;have hstep:∃ w6:World,True:=⟨W5,trivial⟩;have c0:(0:Int)<=(i:Int):=by omega
    have c4:(i:Int)<4:=by omega
    have wi:IntKind.i64.wrap ((i:Int)+1)=((i+1:Nat):Int):=by rw [IntKind.wrap_i64];omega
    have key:∀ e1:Bool,decide (k > 99)=e1->decide (99<k)=e1:=fun e1 h=>h
    obtain⟨rfl,hor⟩:=HOK.out;have hgo:∃ q0:Bool,((i:Int) == 0)=q0/\(q0=true->decide (k > 99)=false):=by
     by_cases h0:i=0
     .exact⟨true,hz0 true (decide_eq_true h0),fun _=>decide_eq_false (by omega)⟩
     .exact⟨false,hz0 false (decide_eq_false h0),fun h=>by cases h⟩
    obtain⟨q0,e0,e1⟩:=hgo;cases q0 with
    |true=>
     have e2:=e1 rfl;have e3:decide (99<k)=false:=e2;clear e1 key hor hz0 hstep;obtain rfl:i=0:=by simpa using e0
     go_upto_region 12 with (go_at_call 88;refine (HNI.out _).mono ?_;rintro e w6 ⟨rfl,hb6⟩;have hA6:=(hb6.block nb (lt_of_block hA5)).trans hA5;have n6:=(qac hA6 0).trans HV.out;have f6:=qam hA6 0)
     have HL7:=(HL5.below hb6).far (nb:=nb) (i:=0) (v:=.int .i64 k) hgn;have g7:=grown_new (nb:=nb) (i:=0) (v:=.int .i64 k) (qak g5 (qah hb6 (some g))) hnb;have hA7:=blkSet hA6 0 (.int .i64 k);rw [HAS.out] at hA7;generalize w6.setCell ⟨nb,0,none⟩ (.int .i64 k)=W7 at HL7 g7 hA7 ⊢;go_wp2;go_roundw
     case rel=>exact⟨0+1,by simp,hin,HL7,hA7,g7,HG.out⟩
     case measure=>simp [RowKit.intOf]
    |false=>
     clear e1 key hor hz0 hstep;go_upto_region 12 with (go_at_call 88;refine (HNI.out _).mono ?_;rintro e w6 ⟨rfl,hb6⟩;have hA6:=(hb6.block nb (lt_of_block hA5)).trans hA5;have n6:=(qac hA6 i).trans HV.out;have f6:=qam hA6 i)
     have HL7:=(HL5.below hb6).far (nb:=nb) (i:=i) (v:=.int .i64 k) hgn;have g7:=grown_new (nb:=nb) (i:=i) (v:=.int .i64 k) (qak g5 (qah hb6 (some g))) hnb;have hA7:=blkSet hA6 i (.int .i64 k);rw [HAS.out] at hA7;generalize w6.setCell ⟨nb,i,none⟩ (.int .i64 k)=W7 at HL7 g7 hA7 ⊢;go_wp2;go_roundw
     case rel=>exact⟨i+1,by simp,hin,HL7,hA7,g7,HG.out⟩
     case measure=>simp [RowKit.intOf];omega
def cCert:ByteArray:=⟨#[99,101,114,116,105,102,105,99,97,116,101]⟩
def cTheta:ByteArray:=⟨#[116,104,101,116,97]⟩
def cQ:ByteArray:=⟨#[113]⟩
def cBound:ByteArray:=⟨#[98,111,117,110,100]⟩
theorem cCert_list:cCert.toList=[99,101,114,116,105,102,105,99,97,116,101]:=by rw [Lib.toList_data];rfl
theorem cTheta_list:cTheta.toList=[116,104,101,116,97]:=by rw [Lib.toList_data];rfl
theorem cQ_list:cQ.toList=[113]:=by rw [Lib.toList_data];rfl
theorem cBound_list:cBound.toList=[98,111,117,110,100]:=by rw [Lib.toList_data];rfl
theorem line_cert (R:Bool->World->Prop) (g cap n:Nat) (b o:Nat) (w:World) (hn:0<n) (hn2:n<=4000000) (hx:w.cell? ⟨b,o+2,none⟩=some (.string cCert))
  (hB:Calls Tryz.prog 54 #[.pointer (some ⟨g,0,none⟩),.slice (some ⟨b,o,none⟩) n cap] w fun e w'=>∃ q,e=.returned (.bool q)/\R q w') :
  Calls Tryz.prog 26 #[.pointer (some ⟨g,0,none⟩),.slice (some ⟨b,o,none⟩) n cap] w fun e w'=>∃ q,e=.returned (.bool q)/\R q w':=by
 have HB:=hI9 hB;have hz:(0:Int)<(n:Int):=by omega
 unfold cCert at hx;clear hB;go_enter Tryz.func26,Tryz.ntmps26;go_wp2_with (go_at_call 54;refine HB.out.mono ?_;rintro e w5 ⟨q,rfl,hR⟩)
 go_ret;exact⟨q,rfl,hR⟩
theorem line_bound (R:Bool->World->Prop) (g cap n:Nat) (b o:Nat) (w:World) (hn:0<n) (hn2:n<=4000000) (hx:w.cell? ⟨b,o+2,none⟩=some (.string cBound))
  (hB:Calls Tryz.prog 56 #[.pointer (some ⟨g,0,none⟩),.slice (some ⟨b,o,none⟩) n cap] w fun e w'=>∃ q,e=.returned (.bool q)/\R q w') :
  Calls Tryz.prog 26 #[.pointer (some ⟨g,0,none⟩),.slice (some ⟨b,o,none⟩) n cap] w fun e w'=>∃ q,e=.returned (.bool q)/\R q w':=by
 have HB:=hI9 hB;have hz:(0:Int)<(n:Int):=by omega
 unfold cBound at hx;clear hB;go_enter Tryz.func26,Tryz.ntmps26;go_wp2_with (go_at_call 56;refine HB.out.mono ?_;rintro e w5 ⟨q,rfl,hR⟩)
 go_ret;exact⟨q,rfl,hR⟩
theorem line_else (g cap n:Nat) (b o:Nat) (t:ByteArray) (w:World) (hn:0<n) (hn2:n<=4000000) (hx:w.cell? ⟨b,o+2,none⟩=some (.string t)) (h1:t≠cCert) (h2:t≠cTheta) (h3:t≠cQ) (h4:t≠cBound) :
  Calls Tryz.prog 26 #[.pointer (some ⟨g,0,none⟩),.slice (some ⟨b,o,none⟩) n cap] w fun e w'=>e=.returned (.bool false)/\Below w.heap.size w w':=by
 have hz:(0:Int)<(n:Int):=by omega
 have e1:=bytes_ne h1;have e2:=bytes_ne h2;have e3:=bytes_ne h3;have e4:=bytes_ne h4;rw [cCert_list] at e1;rw [cTheta_list] at e2;rw [cQ_list] at e3;rw [cBound_list] at e4;clear h1 h2 h3 h4;go_enter Tryz.func26,Tryz.ntmps26;go_wp2;go_ret;exact⟨rfl,bR9 _ _⟩
theorem line_q (R:Value->Bool->World->Prop) (g cap n:Nat) (b o:Nat) (p m st:Int) (tv qv bv:Value) (w:World) (hn:0<n) (hn2:n<=4000000) (hx:w.cell? ⟨b,o+2,none⟩=some (.string cQ))
  (hB:Calls Tryz.prog 55 #[.pointer (some ⟨g,0,none⟩),.slice (some ⟨b,o,none⟩) n cap,.int .i64 2,.int .i64 3,.int .i64 1073741824] w fun e w'=>∃ A5 n5 c5 ok,e=.returned (.tuple #[.slice A5 n5 c5,.bool ok])/\HdAt w' g p m tv qv bv st/\R (.slice A5 n5 c5) ok w') :
  Calls Tryz.prog 26 #[.pointer (some ⟨g,0,none⟩),.slice (some ⟨b,o,none⟩) n cap] w fun e w'=>∃ v ok w5,e=.returned (.bool ok)/\HdAt w5 g p m tv qv bv st/\R v ok w5/\w' = w5.setCell ⟨g,6,none⟩ v:=by
 have HB:=hI9 hB;have hz:(0:Int)<(n:Int):=by omega
 unfold cQ at hx;clear hB;go_enter Tryz.func26,Tryz.ntmps26;go_upto_region 15 with (go_at_call 55;refine HB.out.mono ?_;rintro e w5 ⟨A5,n5,c5,ok,rfl,hH,hR⟩;have y6:=hH.cells.2.2.2.1;have z6:=hH.frozen 6)
 all_goals
  have HR:=hI9 hR;have HH:=hI9 hH;clear hR hH y6 z6;go_wp2;go_ret;exact⟨_,ok,w5,rfl,HH.out,HR.out,rfl⟩
theorem line_theta (R:World->Prop) (g cap n B:Nat) (b o:Nat) (p m st:Int) (qv bv:Value) (l:List Int) (ok:Bool) (w:World) (hn:0<n) (hn2:n<=4000000) (hl:l.length<=4000000) (hgB:g<B) (hx:w.cell? ⟨b,o+2,none⟩=some (.string cTheta))
  (hB:Calls Tryz.prog 55 #[.pointer (some ⟨g,0,none⟩),.slice (some ⟨b,o,none⟩) n cap,.int .i64 1,.int .i64 2,.int .i64 99] w fun e w'=>∃ v,e=.returned (.tuple #[v,.bool ok])/\Kd.R (Kd.int .i64) 2 w' B (fun _=>True) v l/\HdAt w' g p m (.slice none 0 0) qv bv st/\R w') :
  Calls Tryz.prog 26 #[.pointer (some ⟨g,0,none⟩),.slice (some ⟨b,o,none⟩) n cap] w fun e w'=>∃ w5 u,e=.returned (.bool ok)/\R w5/\HdAt w' g p m u qv bv st/\w'.ownsRow w5.heap.size 3 1 u l.length (l.map (Value.int .i64))/\w5.grownBy w' (some g):=by
 have HB:=hI9 hB;have hz:(0:Int)<(n:Int):=by omega
 unfold cTheta at hx;clear hB;go_enter Tryz.func26,Tryz.ntmps26;go_upto_region 6 with (go_at_call 55;refine HB.out.mono ?_;rintro e w5 ⟨v,rfl,hK,hH,hR⟩;obtain⟨A5,c5,rfl,hl5,hC5⟩:=Kd.R_reads hK)
 all_goals
  have HR:=hI9 hR;have HKB:=hI9 (Kd.R_base hK);have HNR:=hI9 (nrow_of_C hC5);have H5:=hH;have hgw:=hH.lt;clear hR hH hK hC5 HB hx;obtain⟨i0,hi0,hz0,hz1,hz2⟩:=info_parts infoI;obtain⟨k,hk⟩:∃ z,l.length=z:=⟨_,rfl⟩;have HKK:=hI9 hk;rw [hk] at hl hl5 ⊢;clear hk;go_wp2;go_loopw [30] (fun v30 wr=>∃ (i:Nat) (u:Value),v30=.int .i64 i/\i<=k/\HdAt wr g p m u qv bv st/\Hid (wr.ownsRow w5.heap.size 3 1 u i ((l.take i).map (Value.int .i64)))/\w5.grownBy wr (some g)) (fun v30 _=>k - (RowKit.intOf v30).toNat)
  case atStart=>exact⟨0,.slice none 0 0,rfl,Nat.zero_le _,H5,hI9 (by simpa using World.ownsRow_nil _ _ _ _),World.grownBy.refl _ _⟩
  case round=>
   obtain⟨i,u,rfl,hi,HL,HO,hG⟩:=hrel;by_cases hin:i<k
   .have hil:i<l.length:=by rw [HKK.out];exact hin
    obtain⟨gA,oA',rfl,hg9,hcA⟩:=HNR.out (by rw [HKK.out];omega);have hgt:gA≠g:=by have:=HKB.out gA rfl;omega
    have a0:=qa0 (hcA i hil) hg9 hgt hG;have HTK:Hid (l.take (i+1)=l.take i++[l[i]]):=hI9 (by rw [List.take_add_one,List.getElem?_eq_getElem hil];rfl);generalize l[i]=x at a0 HTK;clear hcA;have c30:decide ((i:Int)<(k:Int))=true:=decide_eq_true (by omega);have f5:=HL.cells.2.2.1;have hlw:=HL.lt;have hgl:=H5.lt;have hsz:w5.heap.size<=wr.heap.size:=hG.size;have hrow1:wr.ownsRow w5.heap.size 3 1 u i ((l.take i).map (Value.int .i64)):=HO.out;have HROW:=hI9 hrow1;clear hrow1;have hgw:gA<wr.heap.size:=by omega
    obtain⟨AL,hALd⟩:∃ AL,AL=wr.alloc (.cells #[.int .i64 x] 3):=⟨_,rfl⟩;have hbA:Below wr.heap.size wr AL:=by rw [hALd];exact (bR9 wr.heap.size wr).alloc (nR9 _) _
    have hS1:AL.cell? ⟨gA,oA' + i,none⟩=some (.int .i64 x):=(hbA.cell (p:=⟨gA,_,none⟩) hgw).trans a0;have HHA:=HL.below hbA;have f5A:=HHA.cells.2.2.1;have hsz2:wr.heap.size<AL.heap.size:=by rw [hALd];exact lt_of_block (blk_new wr _)
    have HREST:=hI9 (And.intro HHA (qak hG (qah hbA (some g))));have HALD:=hI9 hALd;rw [hALd] at f5A;clear hALd HO hG hS1;go_upto_region 10 with (at_builtin;refine wpList_append_own _ rfl _ _ 25 rfl w5.heap.size 3 i0 _ 1 8 Tryz.underlying25 hi0 hz0 hz1 hz2 rfl (by decide) u i ((l.take i).map (Value.int .i64)) rfl (HROW.out.alloc _) ⟨wr.heap.size,0,none⟩ 1 1 [.int .i64 x] rfl rfl (cell_one_new wr _ _) (by simp [Value.oneCell']) (by unfold maxLen;omega) (by omega) (by simp<;>omega) ?_;intro v' w3 hown' hgrow _;obtain⟨g',cap',rfl⟩:=ownsRow_succ hown';replace hgrow:AL.grownBy w3 u.ownBlock:=(by rw [HALD.out];exact hgrow);have hneg:some g≠u.ownBlock:=(fun e=>by have:=(HROW.out.lt g e.symm).1;omega);have H9:HdAt w3 g p m u qv bv st:=(hgrow.block g HREST.out.1.lt hneg).trans HREST.out.1;have y5:=H9.cells.2.2.1;have yz:=H9.frozen 5)
    all_goals
     have HOWN:=hI9 hown';have HGR:=hI9 hgrow;have HH9:=hI9 H9;clear hown' hgrow H9;have HF:=HH9.out.setT (.slice (some ⟨g',0,none⟩) (i+1) cap');have OF:=ownsRow_far HOWN.out hgl 5 (.slice (some ⟨g',0,none⟩) (i+1) cap');rw [show (l.take i).map (Value.int .i64)++[Value.int .i64 x]=(l.take (i+1)).map (Value.int .i64) by rw [HTK.out,List.map_append];rfl] at OF;have GF:=grown_put HREST.out.2 HGR.out (fun k e=>(HROW.out.lt k e).1) 5 (.slice (some ⟨g',0,none⟩) (i+1) cap');generalize w3.setCell ⟨g,5,none⟩ (.slice (some ⟨g',0,none⟩) (i+1) cap')=W9 at HF OF GF ⊢;clear y5 yz f5 f5A HL HHA;go_wp2;go_roundw
     case rel=>exact⟨i+1,_,by simp,hin,HF,hI9 OF,GF⟩
     case measure=>simp [RowKit.intOf];omega
   .obtain rfl:i=k:=by omega
    have HF:=hI9 HO.out;go_wp2;go_ret;rw [List.take_of_length_le (by rw [HKK.out];exact nR9 _)] at HF;exact⟨w5,u,rfl,HR.out,HL,by rw [HKK.out];exact HF.out,hG⟩
structure HdS where
 p:Int
 m:Int
 th:List Int
 q:List Int
 bs:List Bd
 st:Int
def bdCells (x:Bd):List Value:=[.int .i64 x.i,.int .i64 x.g,.int .i64 x.t,.int .i64 x.k]
def HD (w0:World) (g:Nat) (S:HdS) (W:World):Prop:=
 ∃ tv qv bv,HdAt W g S.p S.m tv qv bv S.st/\W.ownsRow w0.heap.size 3 1 tv S.th.length (S.th.map (Value.int .i64))/\Kd.R (Kd.int .i64) 2 W w0.heap.size (fun _=>True) qv S.q/\W.ownsRow w0.heap.size 60 4 bv S.bs.length (S.bs.flatMap bdCells)/\w0.grownBy W (some g)/\(S.st<=1->S.th=[]/\tv=.slice none 0 0)/\S.bs.length<=64
theorem R_off {W W':World} {e:TypeId} {g B:Nat} {v:Value} {l:List Int} (h:Kd.R (Kd.int .i64) e W B (fun _=>True) v l) (hb:g<B) (hm:∀ k,k<W.heap.size->k≠g->W'.heap[k]? = W.heap[k]?):Kd.R (Kd.int .i64) e W' B (fun _=>True) v l:=
 Kd.R_mono (Kd.R_step (Kd.R_bound h) (fun k hk hlt=>hm k hlt (by have:=hk.2.1;omega))) (fun _ _=>trivial)
theorem own_off {W W':World} {e:TypeId} {size n g B:Nat} {v:Value} {xs:List Value} (h:W.ownsRow B e size v n xs) (hb:g<B) (hm:∀ k,k<W.heap.size->k≠g->W'.heap[k]? = W.heap[k]?):W'.ownsRow B e size v n xs:=
 own_move h (fun k hk=>hm k (h.lt k hk).2 (by have:=(h.lt k hk).1;omega))
theorem grown_off {W W':World} {g:Nat} (h:W.grownBy W' (some g)):∀ k,k<W.heap.size->k≠g->W'.heap[k]? = W.heap[k]?:=fun k hk hne=>h.block k hk (fun e=>hne (Option.some.inj e))
noncomputable def bdP (x1 x2 x3 x4:ByteArray):Option Bd:=
 if (numP x1 1099511627776).2=true/\(numP x1 1099511627776).1<=99/\(numP x2 1099511627776).2=true/\(numP x3 1099511627776).2=true/\(numP x4 1099511627776).2=true
 then some ⟨(numP x1 1099511627776).1,(numP x2 1099511627776).1,(numP x3 1099511627776).1,(numP x4 1099511627776).1⟩ else none
noncomputable def lineS (F G:Int->ByteArray) (S:HdS) (L:List Wd):Option HdS:=
 match L with
 |[]=>none
 |x0::r=>
  if x0.t=cCert then (match r with
   |[x1,x2]=>if S.st=0/\0<min (findN F x1.t 2 1) (findN G x2.t 4 1) then some { S with p:=findN F x1.t 2 1,m:=findN G x2.t 4 1,st:=1 } else none
   |_=>none)
  else if x0.t=cTheta then (match r with
   |[x1]=>if 1<=S.st/\S.st<=1/\(numsP x1.t 99).2=true/\(numsP x1.t 99).1.length<=64 then some { S with th:=(numsP x1.t 99).1,st:=2 } else none
   |_=>none)
  else if x0.t=cQ then (match r with
   |[x1]=>if 1<=S.st/\S.st<=2/\(numsP x1.t 1073741824).2=true/\(numsP x1.t 1073741824).1.length<=64 then some { S with q:=(numsP x1.t 1073741824).1,st:=3 } else none
   |_=>none)
  else if x0.t=cBound then (match r with
   |[x1,x2,x3,x4]=>if 1<=S.st/\S.bs.length+1<=64 then (match bdP x1.t x2.t x3.t x4.t with
    |some b=>some { S with bs:=S.bs++[b],st:=4 }
    |none=>none) else none
   |_=>none)
  else none
def LineEnd (w0:World) (g:Nat) (o:Option HdS) (e:Ending) (w':World):Prop:=match o with
 |some S=>e=.returned (.bool true)/\HD w0 g S w'
 |none=>e=.returned (.bool false)/\w0.grownBy w' (some g)
theorem numsP_len (s:ByteArray) (most:Int):(numsP s most).1.length<=s.size+1:=by
 unfold numsP;split
 .have:=commas_len s;simp [numsOf];exact this
 .simp
theorem len_one {α:Type} {r:List α} (h:r.length=1):∃ x,r=[x]:=by
 cases r with
 |nil=>cases h
 |cons x r=>
  cases r with
  |nil=>exact⟨x,rfl⟩
  |cons y r=>simp at h
theorem len_two {α:Type} {r:List α} (h:r.length=2):∃ x y,r=[x,y]:=by
 cases r with
 |nil=>cases h
 |cons x r=>
  obtain⟨y,rfl⟩:=len_one (r:=r) (by simpa using h);exact⟨x,y,rfl⟩
theorem len_four {α:Type} {r:List α} (h:r.length=4):∃ x y z u,r=[x,y,z,u]:=by
 cases r with
 |nil=>cases h
 |cons x r=>
  cases r with
  |nil=>cases h
  |cons y r=>
   obtain⟨z,u,rfl⟩:=len_two (r:=r) (by simpa using h);exact⟨x,y,z,u,rfl⟩
theorem begin_S (F G:Int->ByteArray) (w0 W:World) (g cap:Nat) (A:Option Addr) (S:HdS) (L:List Wd) (hL:L.length<=4000000) (hS:HD w0 g S W) (hgl:g<w0.heap.size) (hW:WRow w0 w0.heap.size A L) (ho:WOff g A) (hne:L≠[]) (h0:(L.head hne).t=cCert)
  (hN1:∀ (s:ByteArray) (W:World),Calls Tryz.prog 86 #[.string s,.int .i64 2,.func (Fn.func 37) #[] #[]] W fun e w'=>e=.returned (.int .i64 (findN F s 2 1))/\Below W.heap.size W w')
  (hN2:∀ (s:ByteArray) (W:World),Calls Tryz.prog 86 #[.string s,.int .i64 4,.func (Fn.func 38) #[] #[]] W fun e w'=>e=.returned (.int .i64 (findN G s 4 1))/\Below W.heap.size W w') :
  Calls Tryz.prog 26 #[.pointer (some ⟨g,0,none⟩),.slice A L.length cap] W fun e w'=>LineEnd w0 g (lineS F G S L) e w':=by
 obtain⟨tv,qv,bv,hH,hT,hQ,hB,hG,hst,hbl⟩:=hS;have hW1:=hW.off ho hG;have hlen:0<L.length:=List.length_pos_iff.2 hne;obtain⟨b,o,rfl,hlt,hc⟩:=hW1 hlen;obtain⟨x0,r,rfl⟩:∃ x0 r,L=x0::r:=by
  cases L with
  |nil=>exact absurd rfl hne
  |cons x r=>exact⟨x,r,rfl⟩
 have hx:=(hc 0 hlen).2.2;simp only [List.getElem_cons_zero] at hx;simp only [List.head_cons] at h0;rw [h0] at hx;have hline:=line_cert (fun q w'=>LineEnd w0 g (lineS F G S (x0::r)) (.returned (.bool q)) w') g cap (x0::r).length b o W hlen hL (by simpa using hx);have hfin:∀ {P:Ending->World->Prop},Calls Tryz.prog 54 #[.pointer (some ⟨g,0,none⟩),.slice (some ⟨b,o,none⟩) (x0::r).length cap] W P->(∀ e w',P e w'->∃ q,e=.returned (.bool q)/\LineEnd w0 g (lineS F G S (x0::r)) (.returned (.bool q)) w')->Calls Tryz.prog 26 #[.pointer (some ⟨g,0,none⟩),.slice (some ⟨b,o,none⟩) (x0::r).length cap] W fun e w'=>LineEnd w0 g (lineS F G S (x0::r)) e w':=fun hP hi=>
  (hline (hP.mono hi)).mono (fun e w' ⟨q,he,h⟩=>by rw [he];exact h)
 by_cases h3:S.st=0/\(x0::r).length=3
 .obtain⟨h30,h3l⟩:=h3;obtain⟨x1,x2,rfl⟩:=len_two (r:=r) (by simpa using h3l);rw [h30] at hH;refine hfin (begin_yes F G g cap S.p S.m tv qv bv (some ⟨b,o,none⟩) x0 x1 x2 W hH (hW.off ho hG) ho hN1 hN2) ?_;rintro e w' ⟨rfl,hH',hg'⟩;refine⟨_,rfl,?_⟩;have hm:=grown_off hg';have hG':=qak hG hg';unfold lineS;simp only [h0,if_true];by_cases hp:0<min (findN F x1.t 2 1) (findN G x2.t 4 1)
  .rw [if_pos ⟨h30,hp⟩,decide_eq_true hp];have hst0:=hst (by omega);exact⟨rfl,tv,qv,bv,hH',own_off hT hgl hm,R_off hQ hgl hm,own_off hB hgl hm,hG',fun _=>hst0,hbl⟩
  .rw [if_neg (fun h=>hp h.2),decide_eq_false hp];exact⟨rfl,hG'⟩
 .refine hfin (begin_no g cap (x0::r).length S.p S.m S.st tv qv bv (some ⟨b,o,none⟩) W hL hH h3) ?_;rintro e w' ⟨rfl,hb⟩;refine⟨_,rfl,?_⟩;have hG':=qak hG (qah hb (some g));have hno:lineS F G S (x0::r)=none:=by
   unfold lineS;dsimp only;rw [if_pos h0];split
   .rename_i x1 x2;rw [if_neg (fun h=>h3 ⟨h.1,rfl⟩)]
   .rfl
  rw [hno];exact⟨rfl,hG'⟩
theorem line_theta_no (R:World->Prop) (g cap n:Nat) (b o:Nat) (w:World) (hn:0<n) (hn2:n<=4000000) (hx:w.cell? ⟨b,o+2,none⟩=some (.string cTheta))
  (hB:Calls Tryz.prog 55 #[.pointer (some ⟨g,0,none⟩),.slice (some ⟨b,o,none⟩) n cap,.int .i64 1,.int .i64 2,.int .i64 99] w fun e w'=>e=.returned (.tuple #[.slice none 0 0,.bool false])/\R w') :
  Calls Tryz.prog 26 #[.pointer (some ⟨g,0,none⟩),.slice (some ⟨b,o,none⟩) n cap] w fun e w'=>e=.returned (.bool false)/\R w':=by
 have HB:=hI9 hB;have hz:(0:Int)<(n:Int):=by omega
 unfold cTheta at hx;clear hB;go_enter Tryz.func26,Tryz.ntmps26;go_upto_region 6 with (go_at_call 55;refine HB.out.mono ?_;rintro e w5 ⟨rfl,hR⟩)
 all_goals
  have HR:=hI9 hR;clear hR HB hx;go_wp2;go_loopw [30] (fun v30 wr=>v30=.int .i64 0/\Hid (R wr)) (fun _ _=>0)
  case atStart=>exact⟨rfl,HR⟩
  case round=>
   obtain⟨rfl,HR2⟩:=hrel;go_wp2;go_ret;exact⟨rfl,HR2.out⟩
theorem theta_S (F G:Int->ByteArray) (w0 W:World) (g cap:Nat) (A:Option Addr) (S:HdS) (L:List Wd) (m:Int) (hL:L.length<=4000000) (hs:∀ x ∈ L,x.t.size<=2097152) (hS:HD w0 g S W) (hgl:g<w0.heap.size) (hW:WRow w0 w0.heap.size A L) (ho:WOff g A) (hne:L≠[]) (h0:(L.head hne).t=cTheta)
  (hM:w0.cell? ⟨0,0,none⟩=some (.int .i64 m)) (hgm:0≠g) :
  Calls Tryz.prog 26 #[.pointer (some ⟨g,0,none⟩),.slice A L.length cap] W fun e w'=>LineEnd w0 g (lineS F G S L) e w':=by
 obtain⟨tv,qv,bv,hH,hT,hQ,hB,hG,hst,hbl⟩:=hS;have hW1:=hW.off ho hG;have hlen:0<L.length:=List.length_pos_iff.2 hne;obtain⟨b,o,rfl,hlt,hc⟩:=hW1 hlen;obtain⟨x0,r,rfl⟩:∃ x0 r,L=x0::r:=by
  cases L with
  |nil=>exact absurd rfl hne
  |cons x r=>exact⟨x,r,rfl⟩
 have hx:=(hc 0 hlen).2.2;simp only [List.getElem_cons_zero] at hx;simp only [List.head_cons] at h0;rw [h0] at hx;have hx':W.cell? ⟨b,o+2,none⟩=some (.string cTheta):=by simpa using hx
 have n1:¬ x0.t=cCert:=by rw [h0];decide
 have hmW:=qa0 hM (qaM hM) hgm hG;by_cases h3:1<=S.st/\S.st<=1/\(x0::r).length=2
 .obtain⟨h31,h32,h3l⟩:=h3;obtain⟨x1,rfl⟩:=len_one (r:=r) (by simpa using h3l);obtain⟨hth,htv⟩:=hst h32;subst htv;have hs1:=hs x1 (by simp);have hl:=numsP_len x1.t 99;have hrow:=row_yes g cap S.p S.m S.st 1 2 99 (.slice none 0 0) qv bv (some ⟨b,o,none⟩) x0 x1 W hH (hW.off ho hG) ho h31 h32 (numsP x1.t 99).1 (numsP x1.t 99).2 (by omega) (fun V _ hV=>numbers_P x1.t hs1 99 m V (by decide) (by decide) (qa0 hmW (qaM hmW) hgm hV));refine (line_theta (fun w5=>W.grownBy w5 (some g)) g cap 2 W.heap.size b o S.p S.m 2 qv bv (numsP x1.t 99).1 ((numsP x1.t 99).2 && decide ((numsP x1.t 99).1.length<=64)) W (by decide) (by decide) (by omega) hH.lt hx' (hrow.mono fun e w' ⟨v,he,hR,hH',hg'⟩=>⟨v,he,hR,hH',hg'⟩)).mono ?_;rintro e w' ⟨w5,u,rfl,hg5,hH',hO',hg'⟩;have hgg:=qak hg5 hg';have hm:=grown_off hgg;have hG':=qak hG hgg;unfold lineS;dsimp only;rw [if_neg n1,if_pos h0];by_cases hp:(numsP x1.t 99).2=true/\(numsP x1.t 99).1.length<=64
  .rw [if_pos ⟨h31,h32,hp⟩,hp.1,decide_eq_true hp.2];exact⟨rfl,u,qv,bv,hH',ownsRow_base hO' (Nat.le_trans hG.size hg5.size),R_off hQ hgl hm,own_off hB hgl hm,hG',fun h=>absurd h (by show ¬ (2:Int)<=1;decide),hbl⟩
  .rw [if_neg (fun h=>hp h.2.2),show ((numsP x1.t 99).2 && decide ((numsP x1.t 99).1.length<=64))=false by
    rw [Bool.eq_false_iff];intro h;rw [Bool.and_eq_true,decide_eq_true_eq] at h
    exact hp h]
   exact⟨rfl,hG'⟩
 .refine (line_theta_no (fun w'=>W.grownBy w' (some g)) g cap (x0::r).length b o W hlen hL hx' ((row_no g cap (x0::r).length S.p S.m S.st 1 2 99 tv qv bv (some ⟨b,o,none⟩) W hL hH (fun h=>h3 h)).mono fun e w' ⟨he,hb⟩=>⟨he,qah hb (some g)⟩)).mono ?_;rintro e w' ⟨rfl,hg'⟩;have hno:lineS F G S (x0::r)=none:=by
   unfold lineS;dsimp only;rw [if_neg n1,if_pos h0];split
   .rw [if_neg (fun h=>h3 ⟨h.1,h.2.1,rfl⟩)]
   .rfl
  rw [hno];exact⟨rfl,qak hG hg'⟩
theorem q_S (F G:Int->ByteArray) (w0 W:World) (g cap:Nat) (A:Option Addr) (S:HdS) (L:List Wd) (m:Int) (hL:L.length<=4000000) (hs:∀ x ∈ L,x.t.size<=2097152) (hS:HD w0 g S W) (hgl:g<w0.heap.size) (hW:WRow w0 w0.heap.size A L) (ho:WOff g A) (hne:L≠[]) (h0:(L.head hne).t=cQ)
  (hM:w0.cell? ⟨0,0,none⟩=some (.int .i64 m)) (hgm:0≠g) :
  Calls Tryz.prog 26 #[.pointer (some ⟨g,0,none⟩),.slice A L.length cap] W fun e w'=>LineEnd w0 g (lineS F G S L) e w':=by
 obtain⟨tv,qv,bv,hH,hT,hQ,hB,hG,hst,hbl⟩:=hS;have hW1:=hW.off ho hG;have hlen:0<L.length:=List.length_pos_iff.2 hne;obtain⟨b,o,rfl,hlt,hc⟩:=hW1 hlen;obtain⟨x0,r,rfl⟩:∃ x0 r,L=x0::r:=by
  cases L with
  |nil=>exact absurd rfl hne
  |cons x r=>exact⟨x,r,rfl⟩
 have hx:=(hc 0 hlen).2.2;simp only [List.getElem_cons_zero] at hx;simp only [List.head_cons] at h0;rw [h0] at hx;have hx':W.cell? ⟨b,o+2,none⟩=some (.string cQ):=by simpa using hx
 have n1:¬ x0.t=cCert:=by rw [h0];decide
 have n2:¬ x0.t=cTheta:=by rw [h0];decide
 have hmW:=qa0 hM (qaM hM) hgm hG;by_cases h3:1<=S.st/\S.st<=2/\(x0::r).length=2
 .obtain⟨h31,h32,h3l⟩:=h3;obtain⟨x1,rfl⟩:=len_one (r:=r) (by simpa using h3l);have hs1:=hs x1 (by simp);have hl:=numsP_len x1.t 1073741824;have hrow:=row_yes g cap S.p S.m S.st 2 3 1073741824 tv qv bv (some ⟨b,o,none⟩) x0 x1 W hH (hW.off ho hG) ho h31 h32 (numsP x1.t 1073741824).1 (numsP x1.t 1073741824).2 (by omega) (fun V _ hV=>numbers_P x1.t hs1 1073741824 m V (by decide) (by decide) (qa0 hmW (qaM hmW) hgm hV));refine (line_q (fun v ok w5=>ok=((numsP x1.t 1073741824).2 && decide ((numsP x1.t 1073741824).1.length<=64))/\Kd.R (Kd.int .i64) 2 w5 W.heap.size (fun _=>True) v (numsP x1.t 1073741824).1/\W.grownBy w5 (some g)) g cap 2 b o S.p S.m 3 tv qv bv W (by decide) (by decide) hx' (hrow.mono fun e w' ⟨v,he,hR,hH',hg'⟩=>by
   obtain⟨A5,c5,rfl,hl5,hC5⟩:=Kd.R_reads hR
   exact⟨A5,_,c5,_,he,hH',rfl,hR,hg'⟩)).mono ?_
  rintro e w' ⟨v,ok,w5,rfl,hH5,⟨rfl,hR5,hg5⟩,rfl⟩;have hset:=grown_set w5 g 6 v;have hgg:=qak hg5 hset;have hm:=grown_off hgg;have hG':=qak hG hgg;have hRv:=R_off (Kd.R_lower hR5 hG.size) hgl (grown_off hset);unfold lineS;dsimp only;rw [if_neg n1,if_neg n2,if_pos h0];by_cases hp:(numsP x1.t 1073741824).2=true/\(numsP x1.t 1073741824).1.length<=64
  .rw [if_pos ⟨h31,h32,hp⟩,hp.1,decide_eq_true hp.2];exact⟨rfl,tv,v,bv,hH5.setQ v,own_off hT hgl hm,hRv,own_off hB hgl hm,hG',fun h=>absurd h (by show ¬ (3:Int)<=1;decide),hbl⟩
  .rw [if_neg (fun h=>hp h.2.2),show ((numsP x1.t 1073741824).2 && decide ((numsP x1.t 1073741824).1.length<=64))=false by
    rw [Bool.eq_false_iff];intro h;rw [Bool.and_eq_true,decide_eq_true_eq] at h
    exact hp h]
   exact⟨rfl,hG'⟩
 .refine (line_q (fun v ok w5=>ok=false/\W.grownBy w5 (some g)) g cap (x0::r).length b o S.p S.m S.st tv qv bv W hlen hL hx' ((row_no g cap (x0::r).length S.p S.m S.st 2 3 1073741824 tv qv bv (some ⟨b,o,none⟩) W hL hH (fun h=>h3 h)).mono fun e w' ⟨he,hb⟩=>⟨none,0,0,false,he,hH.below hb,rfl,qah hb (some g)⟩)).mono ?_;rintro e w' ⟨v,ok,w5,rfl,hH5,⟨rfl,hg5⟩,rfl⟩;have hno:lineS F G S (x0::r)=none:=by
   unfold lineS;dsimp only;rw [if_neg n1,if_neg n2,if_pos h0];split
   .rw [if_neg (fun h=>h3 ⟨h.1,h.2.1,rfl⟩)]
   .rfl
  rw [hno];exact⟨rfl,qak hG (qak hg5 (grown_set w5 g 6 v))⟩
def wdX (x1 x2 x3 x4:Wd):Nat->Wd
 |0=>x1
 |1=>x2
 |2=>x3
 |_=>x4
theorem bdP_yes {x1 x2 x3 x4:Wd} (h:∀ j,j<4->gdB (fun j=>(numP (wdX x1 x2 x3 x4 j).t 1099511627776).1) (fun j=>(numP (wdX x1 x2 x3 x4 j).t 1099511627776).2) j=true) :
  bdP x1.t x2.t x3.t x4.t=some ⟨(numP x1.t 1099511627776).1,(numP x2.t 1099511627776).1,(numP x3.t 1099511627776).1,(numP x4.t 1099511627776).1⟩:=by
 have h0:=h 0 (by decide);have h1:=h 1 (by decide);have h2:=h 2 (by decide);have h3:=h 3 (by decide);simp [gdB,wdX] at h0 h1 h2 h3;unfold bdP;rw [if_pos ⟨h0.1,h0.2,h1,h2,h3⟩]
theorem bdP_no {x1 x2 x3 x4:Wd} (h:∃ j,j<4/\gdB (fun j=>(numP (wdX x1 x2 x3 x4 j).t 1099511627776).1) (fun j=>(numP (wdX x1 x2 x3 x4 j).t 1099511627776).2) j=false) :
  bdP x1.t x2.t x3.t x4.t=none:=by
 unfold bdP;rw [if_neg];rintro ⟨a,b,c,d,e⟩;obtain⟨j,hj,hb⟩:=h;have hj':j=0\/j=1\/j=2\/j=3:=by omega
 rcases hj' with rfl|rfl|rfl|rfl<;>simp [gdB,wdX,a,b,c,d,e] at hb
theorem bound_S (F G:Int->ByteArray) (w0 W:World) (g cap:Nat) (A:Option Addr) (S:HdS) (L:List Wd) (hL:L.length<=4000000) (hcap:L.length<=cap) (hS:HD w0 g S W) (hgl:g<w0.heap.size) (hW:WRow w0 w0.heap.size A L) (ho:WOff g A) (hne:L≠[]) (h0:(L.head hne).t=cBound) :
  Calls Tryz.prog 26 #[.pointer (some ⟨g,0,none⟩),.slice A L.length cap] W fun e w'=>LineEnd w0 g (lineS F G S L) e w':=by
 obtain⟨tv,qv,bv,hH,hT,hQ,hB,hG,hst,hbl⟩:=hS;have hW1:=hW.off ho hG;have hlen:0<L.length:=List.length_pos_iff.2 hne;obtain⟨b,o,rfl,hlt,hc⟩:=hW1 hlen;obtain⟨x0,r,rfl⟩:∃ x0 r,L=x0::r:=by
  cases L with
  |nil=>exact absurd rfl hne
  |cons x r=>exact⟨x,r,rfl⟩
 have hx:=(hc 0 hlen).2.2;simp only [List.getElem_cons_zero] at hx;simp only [List.head_cons] at h0;rw [h0] at hx;have n1:¬ x0.t=cCert:=by rw [h0];decide
 have n2:¬ x0.t=cTheta:=by rw [h0];decide
 have n3:¬ x0.t=cQ:=by rw [h0];decide
 have hline:=line_bound (fun q w'=>LineEnd w0 g (lineS F G S (x0::r)) (.returned (.bool q)) w') g cap (x0::r).length b o W hlen hL (by simpa using hx);have hfin:∀ {P:Ending->World->Prop},Calls Tryz.prog 56 #[.pointer (some ⟨g,0,none⟩),.slice (some ⟨b,o,none⟩) (x0::r).length cap] W P->(∀ e w',P e w'->∃ q,e=.returned (.bool q)/\LineEnd w0 g (lineS F G S (x0::r)) (.returned (.bool q)) w')->Calls Tryz.prog 26 #[.pointer (some ⟨g,0,none⟩),.slice (some ⟨b,o,none⟩) (x0::r).length cap] W fun e w'=>LineEnd w0 g (lineS F G S (x0::r)) e w':=fun hP hi=>
  (hline (hP.mono hi)).mono (fun e w' ⟨q,he,h⟩=>by rw [he];exact h)
 by_cases h3:1<=S.st/\(x0::r).length=5
 .obtain⟨h31,h3l⟩:=h3;obtain⟨x1,x2,x3,x4,rfl⟩:=len_four (r:=r) (by simpa using h3l);have hnum:∀ (j:Nat) (V:World),Calls Tryz.prog 88 #[.string (wdX x1 x2 x3 x4 j).t,.int .i64 1099511627776] V fun e w'=>e=.returned (.tuple #[.int .i64 ((fun j=>(numP (wdX x1 x2 x3 x4 j).t 1099511627776).1) j),.bool ((fun j=>(numP (wdX x1 x2 x3 x4 j).t 1099511627776).2) j)])/\Below V.heap.size V w':=fun j V=>number_P (wdX x1 x2 x3 x4 j).t 1099511627776 V (by decide) (by decide)
  by_cases hgood:∀ j,j<4->gdB (fun j=>(numP (wdX x1 x2 x3 x4 j).t 1099511627776).1) (fun j=>(numP (wdX x1 x2 x3 x4 j).t 1099511627776).2) j=true
  .refine hfin (bound_yes (fun j=>(numP (wdX x1 x2 x3 x4 j).t 1099511627776).1) (fun j=>(numP (wdX x1 x2 x3 x4 j).t 1099511627776).2) g cap S.p S.m S.st tv qv bv (some ⟨b,o,none⟩) x0 (wdX x1 x2 x3 x4) S.bs.length (S.bs.flatMap bdCells) w0 W h31 hcap (by omega) hG hgl hB hH (hW.off ho hG) ho hnum hgood) ?_;rintro e w' ⟨bv',rfl,hH',hO',hG',hm⟩;refine⟨_,rfl,?_⟩;have hmT:w'.ownsRow w0.heap.size 3 1 tv S.th.length (S.th.map (Value.int .i64)):=own_move hT (fun k hk=>hm k (hT.lt k hk).2 (by have:=(hT.lt k hk).1;omega) (fun e=>by
    obtain⟨c1,h1⟩:=own_typed hT k hk;obtain⟨c2,h2⟩:=own_typed hB k e.symm;rw [h1] at h2
    simp at h2))
   have hmQ:Kd.R (Kd.int .i64) 2 w' w0.heap.size (fun _=>True) qv S.q:=Kd.R_mono (Kd.R_step (Kd.R_bound hQ) (fun k hk hlt=>hm k hlt (by have:=hk.2.1;omega) (fun e=>by
    obtain⟨_,_,_,q,hq,c1,h1⟩:=hk;obtain⟨c2,h2⟩:=own_typed hB k e.symm;rw [h1] at h2;have hq':q=2:=by simpa [Kd.int,Kd.scalar] using hq
    subst hq'
    simp at h2))) (fun _ _=>trivial)
   unfold lineS;dsimp only;rw [if_neg n1,if_neg n2,if_neg n3,if_pos h0];rw [bdP_yes hgood];by_cases hn:S.bs.length+1<=64
   .rw [if_pos ⟨h31,hn⟩,decide_eq_true hn];exact⟨rfl,tv,qv,bv',hH',hmT,hmQ,by rw [List.length_append,List.flatMap_append];exact hO',hG',fun h=>absurd h (by show ¬ (4:Int)<=1;decide),by rw [List.length_append];exact hn⟩
   .rw [if_neg (fun h=>hn h.2),decide_eq_false hn];exact⟨rfl,hG'⟩
  .have hbad:∃ j,j<4/\gdB (fun j=>(numP (wdX x1 x2 x3 x4 j).t 1099511627776).1) (fun j=>(numP (wdX x1 x2 x3 x4 j).t 1099511627776).2) j=false:=by
    apply Classical.byContradiction;intro hno;refine hgood (fun j hj=>?_);rw [<- Bool.not_eq_false];exact fun hf=>hno ⟨j,hj,hf⟩
   refine hfin (bound_no (fun j=>(numP (wdX x1 x2 x3 x4 j).t 1099511627776).1) (fun j=>(numP (wdX x1 x2 x3 x4 j).t 1099511627776).2) g cap S.p S.m S.st tv qv bv (some ⟨b,o,none⟩) x0 (wdX x1 x2 x3 x4) W h31 hcap hH (hW.off ho hG) ho hnum hbad) ?_;rintro e w' ⟨rfl,hH',hg'⟩;refine⟨_,rfl,?_⟩;have hno:lineS F G S [x0,x1,x2,x3,x4]=none:=by
    unfold lineS;dsimp only;rw [if_neg n1,if_neg n2,if_neg n3,if_pos h0];rw [bdP_no hbad];split<;>rfl
   rw [hno];exact⟨rfl,qak hG hg'⟩
 .refine hfin (bound_early g cap (x0::r).length S.p S.m S.st tv qv bv (some ⟨b,o,none⟩) W hL hH h3) ?_;rintro e w' ⟨rfl,hb⟩;refine⟨_,rfl,?_⟩;have hno:lineS F G S (x0::r)=none:=by
   unfold lineS;dsimp only;rw [if_neg n1,if_neg n2,if_neg n3,if_pos h0];split
   .rw [if_neg (fun h=>h3 ⟨h.1,rfl⟩)]
   .rfl
  rw [hno];exact⟨rfl,qak hG (qah hb (some g))⟩
theorem line_S (F G:Int->ByteArray) (w0 W:World) (g cap:Nat) (A:Option Addr) (S:HdS) (L:List Wd) (m:Int) (hL:L.length<=4000000) (hcap:L.length<=cap) (hs:∀ x ∈ L,x.t.size<=2097152) (hS:HD w0 g S W) (hgl:g<w0.heap.size) (hW:WRow w0 w0.heap.size A L) (ho:WOff g A) (hne:L≠[])
  (hM:w0.cell? ⟨0,0,none⟩=some (.int .i64 m)) (hgm:0≠g)
  (hN1:∀ (s:ByteArray) (W:World),Calls Tryz.prog 86 #[.string s,.int .i64 2,.func (Fn.func 37) #[] #[]] W fun e w'=>e=.returned (.int .i64 (findN F s 2 1))/\Below W.heap.size W w')
  (hN2:∀ (s:ByteArray) (W:World),Calls Tryz.prog 86 #[.string s,.int .i64 4,.func (Fn.func 38) #[] #[]] W fun e w'=>e=.returned (.int .i64 (findN G s 4 1))/\Below W.heap.size W w') :
  Calls Tryz.prog 26 #[.pointer (some ⟨g,0,none⟩),.slice A L.length cap] W fun e w'=>LineEnd w0 g (lineS F G S L) e w':=by
 by_cases h1:(L.head hne).t=cCert
 .exact begin_S F G w0 W g cap A S L hL hS hgl hW ho hne h1 hN1 hN2
 by_cases h2:(L.head hne).t=cTheta
 .exact theta_S F G w0 W g cap A S L m hL hs hS hgl hW ho hne h2 hM hgm
 by_cases h3:(L.head hne).t=cQ
 .exact q_S F G w0 W g cap A S L m hL hs hS hgl hW ho hne h3 hM hgm
 by_cases h4:(L.head hne).t=cBound
 .exact bound_S F G w0 W g cap A S L hL hcap hS hgl hW ho hne h4
 obtain⟨tv,qv,bv,hH,hT,hQ,hB,hG,hst,hbl⟩:=hS;have hlen:0<L.length:=List.length_pos_iff.2 hne;obtain⟨b,o,rfl,hlt,hc⟩:=(hW.off ho hG) hlen;obtain⟨x0,r,rfl⟩:∃ x0 r,L=x0::r:=by
  cases L with
  |nil=>exact absurd rfl hne
  |cons x r=>exact⟨x,r,rfl⟩
 have hx:=(hc 0 hlen).2.2;simp only [List.getElem_cons_zero] at hx;simp only [List.head_cons] at h1 h2 h3 h4;refine (line_else g cap (x0::r).length b o x0.t W hlen hL (by simpa using hx) h1 h2 h3 h4).mono ?_;rintro e w' ⟨rfl,hb⟩;have hno:lineS F G S (x0::r)=none:=by
  unfold lineS;dsimp only;rw [if_neg h1,if_neg h2,if_neg h3,if_neg h4]
 rw [hno];exact⟨rfl,qak hG (qah hb (some g))⟩
theorem base_of_slice {w:World} {base:Nat} {e:TypeId} {size n len c:Nat} {A:Option Addr} {xs:List Value} (h:w.ownsRow base e size (.slice A len c) n xs):∀ b o,A=some ⟨b,o,none⟩->base<=b:=by
 rintro b o rfl;exact own_base h b (by simp [Value.ownBlock])
def LRowC (w:World) (B0 B:Nat) (A:Option Addr) (L:List (List Wd)):Prop:=
 0<L.length->∃ b off,A=some ⟨b,off,none⟩/\B0<=b/\b<B/\∀ i (h:i<L.length),∃ Ai ci,w.cell? ⟨b,off+i,none⟩=some (.slice Ai L[i].length ci)/\WRow w B Ai L[i]/\L[i].length<=ci/\∀ b' o',Ai=some ⟨b',o',none⟩->B0<=b'
theorem lrowC_own {n0:Nat} {eo ei:TypeId} {l:List Wd} {vo:Value} {w:World} (h:LS n0 eo ei l vo w):∃ A cap,vo=.slice A (lns l).length cap/\LRowC w n0 w.heap.size A (lns l):=by
 rcases h with ⟨rfl,rfl⟩|⟨G,g,y,V,v,hs,h1,h2,h3,h4,hms⟩
 .exact⟨none,0,rfl,fun h=>by simp [lns] at h⟩
 .obtain⟨bo,cap,rfl,hb,hlt,_,_⟩:=hms.at;have hlen:V.length+1=(lns l).length:=by rw [h1,List.length_append,hms.len];rfl
  refine⟨_,cap,by rw [<- hlen],fun _=>⟨bo,0,rfl,hb,hlt,fun i hi=>?_⟩⟩;have hget:(lns l)[i]? = some (lns l)[i]:=List.getElem?_eq_getElem hi;generalize (lns l)[i]=L at hget ⊢;rw [h1] at hget;have hiV:i<V.length+1:=by rw [hlen];exact hi
  have hcell:=hms.out.cellAt i (by omega);rw [Nat.zero_add,hcell];rcases Nat.lt_or_ge i V.length with hi2|hi2
  .rw [List.getElem?_append_left (by rw [<- hms.len];exact hi2)] at hget;rw [List.getElem?_append_left hi2,List.getElem?_eq_getElem hi2];have hdo:=(hms.done i _ _ (List.getElem?_eq_getElem hi2) hget).1;obtain⟨Ai,ci,e1,e3,e4,e2⟩:=wrow_own hdo;rw [e1] at hdo;exact⟨Ai,ci,by rw [e1],e2,e3,base_of_slice hdo⟩
  .obtain rfl:i=V.length:=by omega
   rw [List.getElem?_append_right (by rw [hms.len];exact nR9 _),hms.len] at hget;rw [List.getElem?_append_right (nR9 _)];simp only [Nat.sub_self,List.getElem?_cons_zero,Option.some.injEq] at hget ⊢;subst hget;have hcu:=hms.cur;obtain⟨Ai,ci,e1,e3,e4,e2⟩:=wrow_own hcu;rw [e1] at hcu;exact⟨Ai,ci,e1,e2,e3,fun b o h=>Nat.le_trans hms.low (base_of_slice hcu b o h)⟩
theorem lexLinesC_any (s:ByteArray) (hs:s.size<=65536) (m:Int) (w:World) (hm:w.cell? ⟨0,0,none⟩=some (.int .i64 m)) :
  Calls Tryz.prog 25 #[.string s] w fun e w'=>(∃ A cap,e=.returned (.slice A (lns (textW s)).length cap)/\LRowC w' w.heap.size w'.heap.size A (lns (textW s)))/\Below w.heap.size w w':=
 (callsIn_wide.1 (lines_in s hs m w hm)).mono fun e w' ⟨v,he,hls,hb⟩=>by
  obtain⟨A,cap,rfl,hr⟩:=lrowC_own hls;exact⟨⟨A,cap,he,hr⟩,hb⟩
def cCache:ByteArray:=⟨#[99,97,99,104,101]⟩
inductive HdEnd
 |wrong (at_:Int)
 |none
 |found (at_:Int) (S:HdS)
noncomputable def headGo (F G:Int->ByteArray) (S:HdS):List (List Wd)->HdEnd
 |[]=>.none
 |L::r=>match L with
  |[]=>.none
  |x::q=>if x.t=cCache/\0<S.st then .found x.p S else match lineS F G S (x::q) with
   |none=>.wrong x.p
   |some S'=>headGo F G S' r
theorem digB_data (n:Int):(digB n).data.toList=itoa n:=by simp [digB]
theorem numP_dig {n most:Int} (h0:0<=n) (h:n<=most):numP (digB n) most=(n,true):=by
 have h1:=itoa_num n h0 most;unfold numP;rw [digB_data,if_pos (h1.2.2 h),h1.1];rw [Int.toNat_of_nonneg h0]
def nameW (name v:ByteArray):ByteArray:=(name++⟨#[61]⟩)++v
theorem nameW_data (name v:ByteArray):(nameW name v).data.toList=name.data.toList++61::v.data.toList:=by
 simp [nameW,ByteArray.data_append]
theorem indexByte_at {l:List UInt8} {k:Nat} (h:l[k]? = some 61) (hk:∀ (j:Nat),j<k->l[j]?≠some 61):Lib.indexByte l 61=(k:Int):=by
 rcases Int.lt_or_le (Lib.indexByte l 61) 0 with h1|h1
 .have h2:=Lib.indexByte_ge l 61;exact absurd h (Lib.indexByte_none (by omega) k)
 .obtain⟨h2,h3⟩:=Lib.indexByte_some (o:=(Lib.indexByte l 61).toNat) (l:=l) (c:=61) (by omega);have:¬ (Lib.indexByte l 61).toNat<k:=fun h4=>hk _ h4 h2
  have:¬ k<(Lib.indexByte l 61).toNat:=fun h4=>h3 _ h4 h
  omega
theorem pairV_named (name v:ByteArray) (h:(61:UInt8) ∉ name.data.toList):pairV (nameW name v)=(name,v,true):=by
 have hi:Lib.indexByte (nameW name v).data.toList 61=(name.data.toList.length:Int):=by
  rw [nameW_data];refine indexByte_at (by simp) (fun j hj e=>?_);rw [List.getElem?_append_left hj] at e;exact h (List.mem_of_getElem? e)
 have e1:(name.data.toList++61::v.data.toList).take name.data.toList.length=name.data.toList:=List.take_left;have e2:(name.data.toList++61::v.data.toList).drop (name.data.toList.length+1)=v.data.toList:=by
  rw [show name.data.toList++61::v.data.toList=(name.data.toList++[61])++v.data.toList by simp];exact List.drop_left' (by simp)
 unfold pairV;rw [hi,if_pos (by omega),nameW_data,Int.toNat_natCast,e1,e2]
theorem namedP_dig {name:ByteArray} {n most:Int} (hn:(61:UInt8) ∉ name.data.toList) (h0:0<=n) (h:n<=most):namedP (nameW name (digB n)) name most=(n,true):=by
 unfold namedP;rw [pairV_named _ _ hn];simp only;rw [numP_dig h0 h];simp
theorem qa9 {name v nm:ByteArray} (hn:(61:UInt8) ∉ name.data.toList):isNamed (nameW name v) nm=decide (name=nm):=by
 unfold isNamed;rw [pairV_named _ _ hn];simp
theorem isNamed_empty (nm:ByteArray):isNamed ByteArray.empty nm=false:=by
 unfold isNamed;rw [pairV_empty];rfl
theorem numsP_join {l:List Int} {most:Int} (hl:l≠[]) (h:∀ y ∈ l,0<=y/\y<=most):numsP (joinP l) most=(l,true):=by
 cases l with
 |nil=>exact absurd rfl hl
 |cons x r=>
  have hc:commas (joinP (x::r))=digs (x::r):=split_join x r (fun y hy=>(h y hy).1) _ rfl;have ha:AllNum (digs (x::r)) most:=by
   intro i z hz;unfold digs at hz;rw [List.getElem?_map] at hz;cases hy:(x::r)[i]? with
   |none=>rw [hy] at hz;cases hz
   |some y=>
    rw [hy] at hz;obtain rfl:=Option.some.inj hz;have hm:=h y (List.mem_of_getElem? hy)
    simpa using (itoa_num y hm.1 most).2.2 hm.2
  have hn:∀ M:List Int,(∀ y ∈ M,0<=y)->numsOf (digs M)=M:=by
   intro M
   induction M with
   |nil=>intro _;rfl
   |cons y M ih=>
    intro hM;have h1:=itoa_num y (hM y List.mem_cons_self) 0;have h2:=ih (fun z hz=>hM z (List.mem_cons_of_mem _ hz));unfold numsOf digs at h2 ⊢;rw [List.map_cons,List.map_cons,h2];simp only [h1.1];rw [Int.toNat_of_nonneg (hM y List.mem_cons_self)]
  unfold numsP;rw [hc,if_pos ha,hn _ (fun y hy=>(h y hy).1)]
theorem rowP_join {name:ByteArray} {l:List Int} {most:Int} (hn:(61:UInt8) ∉ name.data.toList) (hl:l≠[]) (h:∀ y ∈ l,0<=y/\y<=most):rowP (nameW name (joinP l)) name most=(l,true):=by
 unfold rowP;rw [qa9 hn,decide_eq_true rfl,if_pos rfl,pairV_named _ _ hn];exact numsP_join hl h
theorem rowP_other {name nm v:ByteArray} {most:Int} (hn:(61:UInt8) ∉ name.data.toList) (h:name≠nm):rowP (nameW name v) nm most=([],true):=by
 unfold rowP;rw [qa9 hn,decide_eq_false h,if_neg (by decide)]
theorem rowP_empty (nm:ByteArray) (most:Int):rowP ByteArray.empty nm most=([],true):=by
 unfold rowP;rw [isNamed_empty,if_neg (by decide)]
def taskW (x:Tk):List ByteArray:=
 [⟨#[116,97,115,107]⟩,digB x.id,nameW ⟨#[99]⟩ (digB x.c),nameW ⟨#[100]⟩ (digB x.d),nameW ⟨#[116]⟩ (digB x.t),nameW ⟨#[112]⟩ (digB x.p)]
  ++ ((if 0<x.ch.length then [nameW ⟨#[99,104,117,110,107,115]⟩ (joinP x.ch)] else [])++(if 0<x.us.length then [nameW ⟨#[117,115,101]⟩ (joinP x.us)] else []))
theorem qaS (L:List Wd) (k:Nat):nextP L k=((L.map (·.t))[k]?).getD ByteArray.empty:=by
 unfold nextP;rw [List.getElem?_map];cases L[k]?<;>rfl
theorem taskG_words {L:List Wd} {x:Tk} (h:L.map (·.t)=taskW x) (hx:(1<=x.id/\x.id<=99)/\(1<=x.p/\x.p<=99)/\(1<=x.c/\x.c<=x.d/\x.d<=x.t/\x.t<=1073741824)/\(∀ y ∈ x.ch,1<=y/\y<=1073741824)/\(∀ y ∈ x.us,0<=y/\y<256)):taskG L=.ok x:=by
 obtain⟨h1,h2,h3,h4,h5⟩:=hx;have hl:L.length=(taskW x).length:=by rw [<- h,List.length_map]
 have n0:nextP L 0=⟨#[116,97,115,107]⟩:=by rw [qaS,h];rfl
 have n1:nextP L 1=digB x.id:=by rw [qaS,h];rfl
 have n2:nextP L 2=nameW ⟨#[99]⟩ (digB x.c):=by rw [qaS,h];rfl
 have n3:nextP L 3=nameW ⟨#[100]⟩ (digB x.d):=by rw [qaS,h];rfl
 have n4:nextP L 4=nameW ⟨#[116]⟩ (digB x.t):=by rw [qaS,h];rfl
 have n5:nextP L 5=nameW ⟨#[112]⟩ (digB x.p):=by rw [qaS,h];rfl
 have g1:=numP_dig (n:=x.id) (most:=99) (by omega) (by omega);have g2:=namedP_dig (name:=⟨#[99]⟩) (n:=x.c) (most:=1073741824) (by decide) (by omega) (by omega);have g3:=namedP_dig (name:=⟨#[100]⟩) (n:=x.d) (most:=1073741824) (by decide) (by omega) (by omega);have g4:=namedP_dig (name:=⟨#[116]⟩) (n:=x.t) (most:=1073741824) (by decide) (by omega) (by omega);have g5:=namedP_dig (name:=⟨#[112]⟩) (n:=x.p) (most:=99) (by decide) (by omega) (by omega);have key:∀ k7,rowP (nextP L 6) ⟨#[99,104,117,110,107,115]⟩ 1073741824=(x.ch,true)->rowK (nextP L 6) ⟨#[99,104,117,110,107,115]⟩ 6=k7->rowP (nextP L k7) ⟨#[117,115,101]⟩ 255=(x.us,true)->rowK (nextP L k7) ⟨#[117,115,101]⟩ k7=L.length->taskG L=.ok x:=by
  intro k7 e1 e2 e3 e4;unfold taskG;rw [n0,n1,n2,n3,n4,n5,g1,g2,g3,g4,g5,e1,e2,e3,e4];simp only [if_true]
 have c61:(61:UInt8) ∉ (⟨#[99,104,117,110,107,115]⟩:ByteArray).data.toList:=by decide
 have u61:(61:UInt8) ∉ (⟨#[117,115,101]⟩:ByteArray).data.toList:=by decide
 have hne:(⟨#[117,115,101]⟩:ByteArray)≠⟨#[99,104,117,110,107,115]⟩:=by decide
 by_cases hc:0<x.ch.length
 .have hcn:x.ch≠[]:=by intro e;rw [e] at hc;exact absurd hc (by decide)
  have n6:nextP L 6=nameW ⟨#[99,104,117,110,107,115]⟩ (joinP x.ch):=by rw [qaS,h];unfold taskW;rw [if_pos hc];rfl
  have k6:rowK (nextP L 6) ⟨#[99,104,117,110,107,115]⟩ 6=7:=by
   unfold rowK;rw [n6,qa9 c61,decide_eq_true rfl,if_pos rfl]
  by_cases hu:0<x.us.length
  .have hun:x.us≠[]:=by intro e;rw [e] at hu;exact absurd hu (by decide)
   have n7:nextP L 7=nameW ⟨#[117,115,101]⟩ (joinP x.us):=by rw [qaS,h];unfold taskW;rw [if_pos hc,if_pos hu];rfl
   have hl8:L.length=8:=by rw [hl];unfold taskW;rw [if_pos hc,if_pos hu];rfl
   refine key 7 (by rw [n6];exact rowP_join c61 hcn (fun y hy=>by have:=h4 y hy;omega)) k6 (by rw [n7];exact rowP_join u61 hun (fun y hy=>by have:=h5 y hy;omega)) ?_;unfold rowK;rw [n7,qa9 u61,decide_eq_true rfl,if_pos rfl,hl8]
  .have hun:x.us=[]:=by cases hx:x.us with
    |nil=>rfl
    |cons a r=>rw [hx] at hu;exact absurd (by simp) hu
   have n7:nextP L 7=ByteArray.empty:=by rw [qaS,h];unfold taskW;rw [if_pos hc,if_neg hu];rfl
   have hl8:L.length=7:=by rw [hl];unfold taskW;rw [if_pos hc,if_neg hu];rfl
   refine key 7 (by rw [n6];exact rowP_join c61 hcn (fun y hy=>by have:=h4 y hy;omega)) k6 (by rw [n7,rowP_empty,hun]) ?_;unfold rowK;rw [n7,isNamed_empty,if_neg (by decide),hl8]
 .have hcn:x.ch=[]:=by cases hx:x.ch with
   |nil=>rfl
   |cons a r=>rw [hx] at hc;exact absurd (by simp) hc
  by_cases hu:0<x.us.length
  .have hun:x.us≠[]:=by intro e;rw [e] at hu;exact absurd hu (by decide)
   have n6:nextP L 6=nameW ⟨#[117,115,101]⟩ (joinP x.us):=by rw [qaS,h];unfold taskW;rw [if_neg hc,if_pos hu];rfl
   have hl8:L.length=7:=by rw [hl];unfold taskW;rw [if_neg hc,if_pos hu];rfl
   refine key 6 (by rw [n6,rowP_other u61 hne,hcn]) (by unfold rowK;rw [n6,qa9 u61,decide_eq_false hne,if_neg (by decide)]) (by rw [n6];exact rowP_join u61 hun (fun y hy=>by have:=h5 y hy;omega)) ?_;unfold rowK;rw [n6,qa9 u61,decide_eq_true rfl,if_pos rfl,hl8]
  .have hun:x.us=[]:=by cases hx:x.us with
    |nil=>rfl
    |cons a r=>rw [hx] at hu;exact absurd (by simp) hu
   have n6:nextP L 6=ByteArray.empty:=by rw [qaS,h];unfold taskW;rw [if_neg hc,if_neg hu];rfl
   have hl8:L.length=6:=by rw [hl];unfold taskW;rw [if_neg hc,if_neg hu];rfl
   refine key 6 (by rw [n6,rowP_empty,hcn]) (by unfold rowK;rw [n6,isNamed_empty,if_neg (by decide)]) (by rw [n6,rowP_empty,hun]) ?_;unfold rowK;rw [n6,isNamed_empty,if_neg (by decide),hl8]
theorem headG_words {L:List Wd} {sets rel:Int} (h:L.map (·.t)=[⟨#[99,97,99,104,101]⟩,digB sets,digB rel]) (hs:0<=sets/\sets<=256) (hr:0<=rel/\rel<=1000):headG L=.ok (sets,rel):=by
 have hl:3=L.length:=by rw [<- List.length_map (f:=(·.t)),h];rfl
 have n0:nextP L 0=⟨#[99,97,99,104,101]⟩:=by rw [qaS,h];rfl
 have n1:nextP L 1=digB sets:=by rw [qaS,h];rfl
 have n2:nextP L 2=digB rel:=by rw [qaS,h];rfl
 unfold headG;rw [n0,n1,n2,numP_dig hs.1 hs.2,numP_dig hr.1 hr.2];simp only [if_true];rw [if_pos hl]
theorem lnStep_app (A B:List (List Wd)) (x:Wd) (h:B≠[]):lnStep (A++B) x=A++lnStep B x:=by
 obtain⟨B',g,rfl⟩:∃ B' g,B=B'++[g]:=⟨B.dropLast,B.getLast h,(List.dropLast_concat_getLast h).symm⟩;unfold lnStep;rw [<- List.append_assoc];simp only [List.getLast?_concat,List.dropLast_concat];split<;>simp
theorem lns_app (X:List Wd):∀ (n:Nat) (Y:List Wd),Y.length=n->(∀ x ∈ X,∀ y ∈ Y,x.q≠y.q)->lns (X++Y)=lns X++lns Y:=by
 intro n
 induction n with
 |zero=>intro Y h _;rw [List.eq_nil_of_length_eq_zero h];simp [lns]
 |succ n ih=>
  intro Y0 hn h;rcases List.eq_nil_or_concat Y0 with rfl|⟨Y,y,rfl⟩
  .simp [lns]
  .rw [List.concat_eq_append] at hn h ⊢;have hn':Y.length=n:=by simpa using hn
   have h1:=ih Y hn' (fun x hx z hz=>h x hx z (List.mem_append_left _ hz));by_cases hY:Y=[]
   .subst hY;have h2:=lns_other (l:=X) (x:=y) (fun x hx=>h x hx y (by simp));rw [List.nil_append,h2];rfl
   .obtain⟨G,g,z,h2,_⟩:=lns_last Y hY;rw [<- List.append_assoc,lns_snoc,h1,lns_snoc];exact lnStep_app _ _ _ (by rw [h2];simp)
theorem lns_single (q:Int):∀ (n:Nat) (X:List Wd),X.length=n+1->(∀ x ∈ X,x.q=q)->lns X=[X]:=by
 intro n
 induction n with
 |zero=>
  intro X h _
  match X,h with
  |[x],_=>rfl
 |succ n ih=>
  intro X0 hn h;rcases List.eq_nil_or_concat X0 with rfl|⟨X,y,rfl⟩
  .simp at hn
  .rw [List.concat_eq_append] at hn h ⊢;have hn':X.length=n+1:=by simpa using hn
   have h1:=ih X hn' (fun x hx=>h x (List.mem_append_left _ hx));have hne:X≠[]:=by intro e;subst e;simp at hn'
   obtain⟨G,g,z,h2,h3⟩:=lns_last X hne;have h4:=lns_same h2 (x:=y) (by rw [h z (List.mem_append_left _ (List.mem_of_getLast? h3)),h y (by simp)]);rw [h1] at h2;have h5:G=[]/\X=g++[z]:=by
    cases G with
    |nil=>exact⟨rfl,by simpa using h2⟩
    |cons a G=>simp at h2
   rw [h4,h5.1,<- h5.2];rfl
def lnsB (q i:Nat) (s:List UInt8):List (List Wd):=lns (scan q false none i s)
def tx (l:List Wd):List ByteArray:=l.map (·.t)
def wds (b:List UInt8):List ByteArray:=tx (scan 0 false none 0 b)
theorem tx_scan (q i:Nat) (b:List UInt8):tx (scan q false none i b)=wds b:=by
 have h:=scan_shift i q b 0 false none 0;simp only [moved,Nat.zero_add] at h;unfold wds tx;rw [h,List.map_map];rfl
theorem scan_nil_iff (q i:Nat) (b:List UInt8):scan q false none i b=[]↔wds b=[]:=by
 rw [<- tx_scan q i b];unfold tx;rw [List.map_eq_nil_iff]
theorem lnsB_last (q i:Nat) (b:List UInt8) (h:(10:UInt8) ∉ b):lnsB q i b=if wds b=[] then [] else [scan q false none i b]:=by
 by_cases hb:wds b=[]
 .rw [if_pos hb];unfold lnsB;rw [(scan_nil_iff q i b).2 hb];rfl
 .rw [if_neg hb];refine lns_single q ((scan q false none i b).length - 1) _ ?_ (scan_line b q false none i h);have:scan q false none i b≠[]:=fun e=>hb ((scan_nil_iff q i b).1 e)
  have:=List.length_pos_iff.2 this;omega
theorem lnsB_line (q i:Nat) (b r:List UInt8) (h:(10:UInt8) ∉ b) :
  lnsB q i (b++10::r)=(if wds b=[] then [] else [scan q false none i b])++lnsB (q+1) (i+b.length+1) r:=by
 rw [<- lnsB_last q i b h];unfold lnsB;rw [scan_app,List.count_eq_zero.2 h];refine lns_app _ _ _ rfl (fun x hx y hy=>?_);have h1:=scan_line b q false none i h x hx;have h2:=(scan_bd r (q+1+0) false none (i+b.length+1) (fun _ _ e=>by cases e) y hy).2.1;omega
def linesB (Bs:List (List UInt8)):List UInt8:=Bs.flatMap (·++[10])
theorem linesB_cons (b:List UInt8) (Bs:List (List UInt8)) (r:List UInt8):linesB (b::Bs)++r=b++10::(linesB Bs++r):=by simp [linesB]
theorem linesB_len (b:List UInt8) (Bs:List (List UInt8)):(linesB (b::Bs)).length=b.length+1+(linesB Bs).length:=by simp [linesB];omega
theorem lnsB_lines:∀ (Bs:List (List UInt8)),(∀ b ∈ Bs,(10:UInt8) ∉ b)->∀ (q i:Nat) (r:List UInt8),
  ∃ G,lnsB q i (linesB Bs++r)=G++lnsB (q+Bs.length) (i+(linesB Bs).length) r/\G.map tx=(Bs.map wds).filter (fun w=>!w.isEmpty):=by
 intro Bs
 induction Bs with
 |nil=>intro _ q i r;exact⟨[],rfl,rfl⟩
 |cons b Bs ih=>
  intro h q i r;obtain⟨G,h1,h2⟩:=ih (fun c hc=>h c (List.mem_cons_of_mem _ hc)) (q+1) (i+b.length+1) r;have e1:q+1+Bs.length=q+(b::Bs).length:=by simp;omega
  have e2:i+b.length+1+(linesB Bs).length=i+(linesB (b::Bs)).length:=by rw [linesB_len];omega
  rw [e1,e2] at h1;rw [linesB_cons,lnsB_line q i b _ (h b List.mem_cons_self),h1];by_cases hb:wds b=[]
  .refine⟨G,by rw [if_pos hb];rfl,?_⟩;rw [h2,List.map_cons,List.filter_cons_of_neg (by simp [hb])]
  .refine⟨scan q false none i b::G,by rw [if_neg hb];simp,?_⟩;rw [List.map_cons,List.map_cons,tx_scan,List.filter_cons_of_pos (by simpa using hb),h2]
theorem lns_text (s:ByteArray):lns (textW s)=lnsB 1 0 s.data.toList:=by rw [textW_scan];rfl
def Pw (w:List UInt8):Prop:=∀ c ∈ w,c≠10/\c≠35/\ws c=false
theorem scan_in (q:Nat) (r:List UInt8):∀ (w:List UInt8),Pw w->∀ (p:Nat) (t:List UInt8) (i:Nat),scan q false (some (p,t)) i (w++r)=scan q false (some (p,t++w)) (i+w.length) r:=by
 intro w
 induction w with
 |nil=>intro _ p t i;simp
 |cons c w ih=>
  intro h p t i;obtain⟨h1,h2,h3⟩:=h c List.mem_cons_self;have e:=ih (fun d hd=>h d (List.mem_cons_of_mem _ hd)) p (t++[c]) (i+1);simp only [List.cons_append,scan];rw [if_neg h1,if_neg (by simp [h2]),if_neg (by simp [h3])];simp only [grow];rw [e,List.append_assoc];simp only [List.singleton_append,List.length_cons];rw [show i+1+w.length=i+(w.length+1) by omega]
theorem scan_word (q i:Nat) (w r:List UInt8) (hw:Pw w) (hn:w≠[]):scan q false none i (w++r)=scan q false (some (i,w)) (i+w.length) r:=by
 cases w with
 |nil=>exact absurd rfl hn
 |cons c w=>
  obtain⟨h1,h2,h3⟩:=hw c List.mem_cons_self;simp only [List.cons_append,scan];rw [if_neg h1,if_neg (by simp [h2]),if_neg (by simp [h3])];simp only [grow];rw [scan_in q r w (fun d hd=>hw d (List.mem_cons_of_mem _ hd)),List.singleton_append];simp only [List.length_cons];rw [show i+1+w.length=i+(w.length+1) by omega]
theorem scan_blanks (q:Nat) (r:List UInt8):∀ (s:List UInt8),(∀ c ∈ s,ws c=true)->∀ (i:Nat),scan q false none i (s++r)=scan q false none (i+s.length) r:=by
 intro s
 induction s with
 |nil=>intro _ i;rfl
 |cons c s ih=>
  intro h i;have h1:=h c List.mem_cons_self;have c10:c≠10:=by rintro rfl;revert h1;decide
  have c35:c≠35:=by rintro rfl;revert h1;decide
  simp only [List.cons_append,scan];rw [if_neg c10,if_neg (by simp [c35]),if_pos h1,ih (fun d hd=>h d (List.mem_cons_of_mem _ hd))];simp only [emit,List.nil_append,List.length_cons];rw [show i+1+s.length=i+(s.length+1) by omega]
theorem scan_sep (q p i:Nat) (t s r:List UInt8) (hs:∀ c ∈ s,ws c=true) (hn:s≠[]):scan q false (some (p,t)) i (s++r)=⟨p,q,⟨t.toArray⟩⟩::scan q false none (i+s.length) r:=by
 cases s with
 |nil=>exact absurd rfl hn
 |cons c s=>
  have h1:=hs c List.mem_cons_self;have c10:c≠10:=by rintro rfl;revert h1;decide
  have c35:c≠35:=by rintro rfl;revert h1;decide
  simp only [List.cons_append,scan];rw [if_neg c10,if_neg (by simp [c35]),if_pos h1,scan_blanks q r s (fun d hd=>hs d (List.mem_cons_of_mem _ hd))];simp only [emit,List.cons_append,List.nil_append,List.length_cons];rw [show i+1+s.length=i+(s.length+1) by omega]
def Tail (r:List UInt8):Prop:=∀ q p t i,scan q false (some (p,t)) i r=[⟨p,q,⟨t.toArray⟩⟩]
theorem tail_nil:Tail []:=fun _ _ _ _=>rfl
theorem tx_words (s:List UInt8) (hs:∀ c ∈ s,ws c=true) (hn:s≠[]) (r:List UInt8) (hr:Tail r):∀ (W:List (List UInt8)),W≠[]->(∀ w ∈ W,w≠[]/\Pw w)->∀ q i,tx (scan q false none i (Lib.join W s++r))=W.map (fun w=>⟨w.toArray⟩):=by
 intro W
 induction W with
 |nil=>intro h;exact absurd rfl h
 |cons w W ih=>
  intro _ h q i;obtain⟨h1,h2⟩:=h w List.mem_cons_self;cases W with
  |nil=>
   rw [Lib.join_one,scan_word q i w r h2 h1,hr];rfl
  |cons v W=>
   have e:Lib.join (w::v::W) s++r=w++(s++(Lib.join (v::W) s++r)):=by simp [Lib.join,List.intercalate,List.append_assoc]
   rw [e,scan_word q i w _ h2 h1,scan_sep q i _ w s _ hs hn];have:=ih (by simp) (fun x hx=>h x (List.mem_cons_of_mem _ hx)) q (i+w.length+s.length);unfold tx at this ⊢;rw [List.map_cons,this];rfl
theorem wds_join (s:List UInt8) (hs:∀ c ∈ s,ws c=true) (hn:s≠[]) (r:List UInt8) (hr:Tail r) (W:List ByteArray) (hW:W≠[]) (h:∀ w ∈ W,w.data.toList≠[]/\Pw w.data.toList):wds (Lib.join (W.map (·.data.toList)) s++r)=W:=by
 have h1:=tx_words s hs hn r hr (W.map (·.data.toList)) (by simpa using hW) (fun w hw=>by
  obtain⟨v,hv,rfl⟩:=List.mem_map.1 hw
  exact h v hv) 0 0
 unfold wds;rw [h1,List.map_map]
 conv=>rhs;rw [<- List.map_id W]
 refine List.map_congr_left (fun w _=>?_);rfl
theorem itoa_pw (n:Int) (h:0<=n):itoa n≠[]/\∀ c ∈ itoa n,isD c:=by
 have e:itoa n=decDigits n.toNat:=by unfold itoa;rw [if_neg (by omega)]
 rw [e];exact⟨(dec_num _).2.2.1,(dec_num _).2.1⟩
theorem isD_pw {c:UInt8} (h:isD c):c≠10/\c≠35/\ws c=false:=by
 unfold isD at h;refine⟨?_,?_,?_⟩
 .rintro rfl;revert h;decide
 .rintro rfl;revert h;decide
 .by_cases h2:ws c=true
  .unfold ws at h2;simp at h2;rcases h2 with rfl|rfl
   .revert h;decide
   .revert h;decide
  .simpa using h2
theorem digB_pw {n:Int} (h:0<=n):(digB n).data.toList≠[]/\Pw (digB n).data.toList:=by
 rw [digB_data];exact⟨(itoa_pw n h).1,fun c hc=>isD_pw ((itoa_pw n h).2 c hc)⟩
theorem nameW_pw {name v:ByteArray} (hn:Pw name.data.toList) (hv:Pw v.data.toList):(nameW name v).data.toList≠[]/\Pw (nameW name v).data.toList:=by
 rw [nameW_data];refine⟨by simp,fun c hc=>?_⟩;rcases List.mem_append.1 hc with hc|hc
 .exact hn c hc
 .rcases List.mem_cons.1 hc with rfl|hc
  .decide
  .exact hv c hc
theorem joinP_pw {l:List Int} (h:∀ y ∈ l,0<=y):Pw (joinP l).data.toList:=by
 have key:∀ (L:List (List UInt8)),(∀ x ∈ L,Pw x)->Pw (Lib.join L [44]):=by
  intro L
  induction L with
  |nil=>intro _ c hc;simp [Lib.join] at hc
  |cons x L ih=>
   intro hL c hc;cases L with
   |nil=>rw [Lib.join_one] at hc;exact hL x List.mem_cons_self c hc
   |cons y L=>
    have e:Lib.join (x::y::L) [44]=x++44::Lib.join (y::L) [44]:=by simp [Lib.join,List.intercalate]
    rw [e] at hc;rcases List.mem_append.1 hc with hc|hc
    .exact hL x List.mem_cons_self c hc
    .rcases List.mem_cons.1 hc with rfl|hc
     .decide
     .exact ih (fun z hz=>hL z (List.mem_cons_of_mem _ hz)) c hc
 have e:(joinP l).data.toList=Lib.join (l.map itoa) [44]:=by simp [joinP]
 rw [e];refine key _ (fun x hx=>?_);obtain⟨n,hn,rfl⟩:=List.mem_map.1 hx;exact fun c hc=>isD_pw ((itoa_pw n (h n hn)).2 c hc)
def Sml (x:Tk):Prop:=(1<=x.id/\x.id<=99)/\(1<=x.p/\x.p<=99)/\(1<=x.c/\x.c<=x.d/\x.d<=x.t/\x.t<=1073741824)/\(∀ y ∈ x.ch,1<=y/\y<=1073741824)/\(∀ y ∈ x.us,0<=y/\y<256)
theorem Sml.of {x:Tk} {sets:Int} (hs:sets<=256) (h:rightE x.id x.c x.d x.t x.p x.ch x.us sets=0):Sml x:=by
 obtain⟨h1,h2,h3,_,h5,_,h7⟩:=rightE_small hs h;exact⟨h1,h2,h3,h5,h7⟩
theorem taskW_pw {x:Tk} (h:Sml x):∀ w ∈ taskW x,w.data.toList≠[]/\Pw w.data.toList:=by
 obtain⟨h1,h2,h3,h4,h5⟩:=h;have n0:Pw (⟨#[116,97,115,107]⟩:ByteArray).data.toList:=by unfold Pw;decide
 have n1:Pw (⟨#[99]⟩:ByteArray).data.toList:=by unfold Pw;decide
 have n2:Pw (⟨#[100]⟩:ByteArray).data.toList:=by unfold Pw;decide
 have n3:Pw (⟨#[116]⟩:ByteArray).data.toList:=by unfold Pw;decide
 have n4:Pw (⟨#[112]⟩:ByteArray).data.toList:=by unfold Pw;decide
 have n5:Pw (⟨#[99,104,117,110,107,115]⟩:ByteArray).data.toList:=by unfold Pw;decide
 have n6:Pw (⟨#[117,115,101]⟩:ByteArray).data.toList:=by unfold Pw;decide
 have d0:=digB_pw (n:=x.id) (by omega);have d1:=digB_pw (n:=x.c) (by omega);have d2:=digB_pw (n:=x.d) (by omega);have d3:=digB_pw (n:=x.t) (by omega);have d4:=digB_pw (n:=x.p) (by omega);have j5:=joinP_pw (l:=x.ch) (fun y hy=>by have:=h4 y hy;omega);have j6:=joinP_pw (l:=x.us) (fun y hy=>by have:=h5 y hy;omega);intro w hw;unfold taskW at hw;rcases List.mem_append.1 hw with hw|hw
 .simp only [List.mem_cons,List.not_mem_nil,or_false] at hw;rcases hw with rfl|rfl|rfl|rfl|rfl|rfl
  .exact⟨by decide,n0⟩
  .exact d0
  .exact nameW_pw n1 d1.2
  .exact nameW_pw n2 d2.2
  .exact nameW_pw n3 d3.2
  .exact nameW_pw n4 d4.2
 .rcases List.mem_append.1 hw with hw|hw
  .split at hw
   .simp only [List.mem_cons,List.not_mem_nil,or_false] at hw;rw [hw];exact nameW_pw n5 j5
   .cases hw
  .split at hw
   .simp only [List.mem_cons,List.not_mem_nil,or_false] at hw;rw [hw];exact nameW_pw n6 j6
   .cases hw
theorem taskW_ne (x:Tk):taskW x≠[]:=by unfold taskW;simp
theorem lineP_join (x:Tk):(lineP x).data.toList=Lib.join ((taskW x).map (·.data.toList)) [32]:=by
 unfold lineP lineC lineN taskW;by_cases h1:0<x.ch.length
 .by_cases h2:0<x.us.length
  .simp [h1,h2,nameW,Lib.join,List.intercalate,ByteArray.data_append]
  .simp [h1,h2,nameW,Lib.join,List.intercalate,ByteArray.data_append]
 .by_cases h2:0<x.us.length
  .simp [h1,h2,nameW,Lib.join,List.intercalate,ByteArray.data_append]
  .simp [h1,h2,nameW,Lib.join,List.intercalate,ByteArray.data_append]
def headW (sets rel:Int):List ByteArray:=[⟨#[99,97,99,104,101]⟩,digB sets,digB rel]
def headL (sets rel:Int):List UInt8:=Lib.join ((headW sets rel).map (·.data.toList)) [32]
theorem headT_lines (sets rel:Int):(headT sets rel).data.toList=headL sets rel++[10]:=by
 simp [headT,headL,headW,Lib.join,List.intercalate,ByteArray.data_append]
theorem headW_pw {sets rel:Int} (h1:0<=sets) (h2:0<=rel):∀ w ∈ headW sets rel,w.data.toList≠[]/\Pw w.data.toList:=by
 intro w hw;unfold headW at hw;simp only [List.mem_cons,List.not_mem_nil,or_false] at hw;rcases hw with rfl|rfl|rfl
 .exact⟨by decide,by unfold Pw;decide⟩
 .exact digB_pw h1
 .exact digB_pw h2
theorem join_no10 (s:List UInt8) (hs:(10:UInt8) ∉ s):∀ (W:List (List UInt8)),(∀ w ∈ W,Pw w)->(10:UInt8) ∉ Lib.join W s:=by
 intro W
 induction W with
 |nil=>intro _ hc;simp [Lib.join] at hc
 |cons x L ih=>
  intro hL hc;cases L with
  |nil=>rw [Lib.join_one] at hc;exact (hL x List.mem_cons_self 10 hc).1 rfl
  |cons y L=>
   have e:Lib.join (x::y::L) s=x++(s++Lib.join (y::L) s):=by simp [Lib.join,List.intercalate]
   rw [e] at hc;rcases List.mem_append.1 hc with hc|hc
   .exact (hL x List.mem_cons_self 10 hc).1 rfl
   .rcases List.mem_append.1 hc with hc|hc
    .exact hs hc
    .exact ih (fun z hz=>hL z (List.mem_cons_of_mem _ hz)) hc
def prnL (sets rel:Int) (L:List Tk):List (List UInt8):=headL sets rel::L.map (fun x=>(lineP x).data.toList)
theorem goT_lines:∀ (L:List Tk),(∀ x ∈ L,lineT x=lineP x)->∀ h,(goT h L).data.toList=h.data.toList++linesB (L.map (fun x=>(lineP x).data.toList)):=by
 intro L
 induction L with
 |nil=>intro _ h;simp [goT,linesB]
 |cons x L ih=>
  intro hL h;rw [goT,ih (fun y hy=>hL y (List.mem_cons_of_mem _ hy)),hL x List.mem_cons_self];simp [linesB,ByteArray.data_append]
theorem rightE_more {x:Tk} {sets:Int} (hs:sets<=256) (h:rightE x.id x.c x.d x.t x.p x.ch x.us sets=0):lineT x=lineP x:=by
 unfold lineT;rw [if_pos];unfold rightE at h ⊢;split at h
 .rename_i h1;split at h
  .rename_i h2;split at h
   .rename_i h3;split at h
    .rename_i h4;have h5:x.us.any (farB 256)=false:=by
      refine List.any_eq_false.2 (fun y hy=>?_);have:=List.any_eq_false.1 h4.2 y hy;unfold farB at this ⊢;simp at this ⊢;omega
     rw [if_pos h1,if_pos h2,if_pos h3,if_pos ⟨h4.1,h5⟩]
    .cases h
   .cases h
  .cases h
 .cases h
theorem checkGo_all {sets:Int}:∀ (L:List Tk) (last:Int) (met:List Int),checkGo sets last met L=0->∀ x ∈ L,rightE x.id x.c x.d x.t x.p x.ch x.us sets=0:=by
 intro L
 induction L with
 |nil=>intro _ _ _ x hx;cases hx
 |cons y L ih=>
  intro last met h x hx;rw [checkGo] at h;split at h
  .rename_i h1;split at h
   .cases h
   .split at h
    .cases h
    .rcases List.mem_cons.1 hx with rfl|hx
     .exact h1
     .exact ih _ _ h x hx
  .rename_i h1;exact absurd h h1
theorem checkGo_take {sets:Int}:∀ (L M:List Tk) (last:Int) (met:List Int),checkGo sets last met (L++M)=0->checkGo sets last met L=0:=by
 intro L
 induction L with
 |nil=>intro _ _ _ _;rfl
 |cons y L ih=>
  intro M last met h;rw [List.cons_append,checkGo] at h;rw [checkGo];split at h
  .rename_i h1;split at h
   .cases h
   .rename_i h2;split at h
    .cases h
    .rename_i h3;rw [if_pos h1,if_neg h2,if_neg h3];exact ih M _ _ h
  .rename_i h1;exact absurd h h1
theorem checkE_says {sets rel:Int} {L:List Tk} (h:checkE sets rel L=0):(0<=sets/\sets<=256)/\(0<=rel/\rel<=1000)/\L≠[]/\(∀ x ∈ L,Sml x/\lineT x=lineP x)/\∀ M N,L=M++N->M≠[]->checkE sets rel M=0:=by
 have hs:=checkE_small h;obtain⟨s1,s2,s3,s4⟩:=hs;unfold checkE at h;split at h
 .rename_i h1;refine⟨s1,s2,by intro e;rw [e] at s3;exact absurd s3 (by decide),fun x hx=>?_,fun M N e hM=>?_⟩
  .have hx:=checkGo_all L _ _ h x hx;exact⟨Sml.of s1.2 hx,rightE_more s1.2 hx⟩
  .subst e;unfold checkE;rw [List.length_append] at s4;have hl:=List.length_pos_iff.2 hM;rw [if_pos ⟨h1.1,h1.2.1,by omega⟩,if_pos (by omega)];exact checkGo_take M N _ _ h
 .cases h
theorem printT_lines {sets rel:Int} {L:List Tk} (h:checkE sets rel L=0):(printT sets rel L).data.toList=linesB (prnL sets rel L):=by
 obtain⟨_,_,_,h4,_⟩:=checkE_says h;unfold printT;rw [goT_lines L (fun x hx=>(h4 x hx).2),headT_lines];simp [prnL,linesB]
def prnW (sets rel:Int) (L:List Tk):List (List ByteArray):=headW sets rel::L.map taskW
theorem goP_good {sets rel size:Int}:∀ (L:List Tk) (G:List (List Wd)) (acc:List Tk) (rest:List (List Wd)),G.map tx=L.map taskW->(∀ x ∈ L,Sml x)->(∀ M N,L=M++N->M≠[]->checkE sets rel (acc++M)=0)->goP sets rel size acc (G++rest)=goP sets rel size (acc++L) rest:=by
 intro L
 induction L with
 |nil=>
  intro G acc rest h _ _;rw [List.map_eq_nil_iff.1 h];simp
 |cons x L ih=>
  intro G acc rest h hS hC;cases G with
  |nil=>cases h
  |cons g G=>
   simp only [List.map_cons,List.cons.injEq] at h;have hg:taskG g=.ok x:=taskG_words h.1 (hS x List.mem_cons_self);have hc:=hC [x] L rfl (by simp);rw [List.cons_append,goP,hg];simp only;rw [if_pos hc,ih G (acc++[x]) rest h.2 (fun y hy=>hS y (List.mem_cons_of_mem _ hy)) (fun M N e hM=>by
    rw [List.append_assoc]
    exact hC (x::M) N (by rw [e];rfl) (by simp))]
   simp
theorem parse_lines {sets rel size:Int} {L:List Tk} (h:checkE sets rel L=0) {G rest:List (List Wd)} (hG:G.map tx=prnW sets rel L) {s:ByteArray} (hs:lns (textW s)=G++rest) (hz:(s.size:Int)=size):parseP s=goP sets rel size L rest:=by
 obtain⟨h1,h2,h3,h4,h5⟩:=checkE_says h;unfold prnW at hG;cases G with
 |nil=>cases hG
 |cons g G=>
  simp only [List.map_cons,List.cons.injEq] at hG;have hh:headG g=.ok (sets,rel):=headG_words hG.1 h1 h2;unfold parseP;rw [hs,List.cons_append];simp only;rw [hh];simp only;rw [hz];have:=goP_good (sets:=sets) (rel:=rel) (size:=size) L G [] rest hG.2 (fun x hx=>(h4 x hx).1) (fun M N e hM=>by rw [List.nil_append];exact h5 M N e hM);rw [this,List.nil_append]
theorem goP_end {sets rel size:Int} {L:List Tk} (h:L≠[]):goP sets rel size L []=(sets,rel,L,size,0):=by
 unfold goP;rw [if_neg];intro e;exact h (List.eq_nil_of_length_eq_zero e)
theorem prnL_wds {sets rel:Int} {L:List Tk} (h:checkE sets rel L=0):(∀ b ∈ prnL sets rel L,(10:UInt8) ∉ b)/\(prnL sets rel L).map wds=prnW sets rel L/\((prnL sets rel L).map wds).filter (fun w=>!w.isEmpty)=prnW sets rel L:=by
 obtain⟨h1,h2,h3,h4,h5⟩:=checkE_says h;have e32:∀ c ∈ ([32]:List UInt8),ws c=true:=by decide
 have hh:=headW_pw h1.1 h2.1;have kh:wds (headL sets rel)=headW sets rel:=by
  have:=wds_join [32] e32 (by simp) [] tail_nil (headW sets rel) (by simp [headW]) hh
  rwa [List.append_nil] at this
 have kt:∀ x ∈ L,wds (lineP x).data.toList=taskW x:=fun x hx=>by
  have:=wds_join [32] e32 (by simp) [] tail_nil (taskW x) (taskW_ne x) (taskW_pw (h4 x hx).1)
  rwa [List.append_nil,<- lineP_join] at this
 have km:(prnL sets rel L).map wds=prnW sets rel L:=by
  unfold prnL prnW;rw [List.map_cons,kh,List.map_map]
  congr 1
  exact List.map_congr_left (fun x hx=>kt x hx)
 refine⟨fun b hb=>?_,km,?_⟩
 .unfold prnL at hb;rcases List.mem_cons.1 hb with rfl|hb
  .refine join_no10 [32] (by decide) _ (fun w hw=>?_);obtain⟨v,hv,rfl⟩:=List.mem_map.1 hw;exact (hh v hv).2
  .obtain⟨x,hx,rfl⟩:=List.mem_map.1 hb;rw [lineP_join];refine join_no10 [32] (by decide) _ (fun w hw=>?_);obtain⟨v,hv,rfl⟩:=List.mem_map.1 hw;exact (taskW_pw (h4 x hx).1 v hv).2
 .rw [km];refine List.filter_eq_self.2 (fun w hw=>?_);unfold prnW at hw;rcases List.mem_cons.1 hw with rfl|hw
  .rfl
  .obtain⟨x,hx,rfl⟩:=List.mem_map.1 hw;have:=taskW_ne x;cases ht:taskW x with
   |nil=>exact absurd ht this
   |cons a l=>rfl
theorem emit_end {q i:Nat} {cur:Option (Nat × List UInt8)} (h:∀ p t,cur=some (p,t)->p+t.length=i):∀ x ∈ emit q cur,0<=x.p/\x.p+(x.t.size:Int)<=(i:Int):=by
 intro x hx;cases cur with
 |none=>simp [emit] at hx
 |some c=>
  obtain⟨p,t⟩:=c;have h1:=h p t rfl;simp [emit] at hx;subst hx;refine⟨by simp,?_⟩;show (p:Int)+(t.toArray.size:Int)<=(i:Int);rw [List.size_toArray];omega
theorem scan_end:∀ (l:List UInt8) (q:Nat) (off:Bool) (cur:Option (Nat × List UInt8)) (i:Nat),(∀ p t,cur=some (p,t)->p+t.length=i)->∀ x ∈ scan q off cur i l,0<=x.p/\x.p+(x.t.size:Int)<=((i+l.length:Nat):Int):=by
 intro l
 induction l with
 |nil=>intro q off cur i h x hx;exact emit_end h x hx
 |cons c l ih=>
  intro q off cur i h x hx;have hem:x ∈ emit q cur->0<=x.p/\x.p+(x.t.size:Int)<=((i+(c::l).length:Nat):Int):=fun he=>by
   have:=emit_end h x he;simp only [List.length_cons];omega
  have hn:∀ (p:Nat) (t:List UInt8),(none:Option (Nat × List UInt8))=some (p,t)->p+t.length=i+1:=fun _ _ e=>by cases e
  have hl:i+1+l.length=i+(c::l).length:=by simp;omega
  simp only [scan] at hx;split at hx
  .rcases List.mem_append.1 hx with hx|hx
   .exact hem hx
   .rw [<- hl];exact ih _ _ _ _ hn x hx
  .split at hx
   .rcases List.mem_append.1 hx with hx|hx
    .exact hem hx
    .rw [<- hl];exact ih _ _ _ _ hn x hx
   .split at hx
    .rcases List.mem_append.1 hx with hx|hx
     .exact hem hx
     .rw [<- hl];exact ih _ _ _ _ hn x hx
    .rw [<- hl];refine ih _ _ _ _ (fun p t e=>?_) x hx;cases cur with
     |none=>simp [grow] at e;rw [<- e.1,<- e.2];simp
     |some d=>
      obtain⟨p',t'⟩:=d;have:=h p' t' rfl;simp [grow] at e;rw [<- e.1,<- e.2];simp;omega
theorem text_end (s:ByteArray):∀ x ∈ textW s,0<=x.p/\x.p+(x.t.size:Int)<=(s.size:Int):=by
 intro x hx;rw [textW_scan] at hx;have:=scan_end s.data.toList 1 false none 0 (fun _ _ h=>by cases h) x hx;rw [Nat.zero_add,<- Lib.size_eq] at this;exact this
theorem wrongP_at {g:List Wd} {n:Int} (h:∀ x ∈ g,0<=x.p/\x.p+(x.t.size:Int)<=n) (hn:0<=n/\n<=9223372036854775807) (k:Nat):0<=wrongP g k/\wrongP g k<=n:=by
 unfold wrongP;cases hx:g[k]? with
 |some x=>
  have:=h x (List.mem_of_getElem? hx);simp only;omega
 |none=>
  simp only;unfold endP;cases hy:g.getLast? with
  |none=>exact⟨Int.le_refl _,hn.1⟩
  |some y=>
   have:=h y (List.mem_of_getLast? hy);simp only;rw [qaJ (by omega) (by omega)];omega
theorem taskG_wrong {g:List Wd} {p:Int} (h:taskG g=.error p):∃ k,p=wrongP g k:=by
 unfold taskG at h
 repeat' split at h
 all_goals first|(injection h with h;exact⟨_,h.symm⟩)|cases h
theorem headG_wrong {g:List Wd} {p:Int} (h:headG g=.error p):∃ k,p=wrongP g k:=by
 unfold headG at h
 repeat' split at h
 all_goals first|(injection h with h;exact⟨_,h.symm⟩)|cases h
theorem goP_says {sets rel size:Int} (h0:0<=size/\size<=9223372036854775807):∀ (r:List (List Wd)) (acc:List Tk),(∀ g ∈ r,∀ x ∈ g,0<=x.p/\x.p+(x.t.size:Int)<=size)->(acc=[]\/checkE sets rel acc=0) ->
  (∃ L,goP sets rel size acc r=(sets,rel,L,size,0)/\L≠[]/\checkE sets rel L=0/\L.length=acc.length+r.length)\/∃ at_ e,goP sets rel size acc r=(0,0,[],at_,e)/\e≠0/\0<=at_/\at_<=size:=by
 intro r
 induction r with
 |nil=>
  intro acc _ ha;unfold goP;by_cases hl:acc.length=0
  .rw [if_pos hl];exact .inr ⟨size,1,rfl,by decide,h0.1,Int.le_refl _⟩
  .rw [if_neg hl];rcases ha with rfl|ha
   .exact absurd rfl hl
   .exact .inl ⟨acc,rfl,fun e=>hl (by rw [e];rfl),ha,rfl⟩
 |cons g r ih=>
  intro acc hb ha;have hg:=hb g List.mem_cons_self;unfold goP;cases ht:taskG g with
  |error p=>
   obtain⟨k,rfl⟩:=taskG_wrong ht;have:=wrongP_at hg h0 k;exact .inr ⟨_,10,rfl,by decide,this.1,this.2⟩
  |ok x=>
   simp only;by_cases hc:checkE sets rel (acc++[x])=0
   .rw [if_pos hc];rcases ih (acc++[x]) (fun y hy=>hb y (List.mem_cons_of_mem _ hy)) (.inr hc) with ⟨L,h1,h2,h3,h4⟩|h1
    .exact .inl ⟨L,h1,h2,h3,by rw [h4];simp;omega⟩
    .exact .inr h1
   .rw [if_neg hc];refine .inr ⟨_,_,rfl,hc,?_⟩;cases g with
    |nil=>exact⟨Int.le_refl _,h0.1⟩
    |cons y g=>
     have:=hg y List.mem_cons_self;show 0<=y.p/\y.p<=size;omega
theorem parseP_says (s:ByteArray) (hs:s.size<=65536) :
  (∃ sets rel L g G,parseP s=(sets,rel,L,(s.size:Int),0)/\L≠[]/\checkE sets rel L=0/\lns (textW s)=g::G/\headG g=.ok (sets,rel)/\L.length=G.length) \/
  ∃ at_ e,parseP s=(0,0,[],at_,e)/\e≠0/\0<=at_/\at_<=(s.size:Int):=by
 have hb:∀ g ∈ lns (textW s),∀ x ∈ g,0<=x.p/\x.p+(x.t.size:Int)<=(s.size:Int):=fun g hg x hx=>text_end s x (lns_mem _ g hg x hx)
 have h0:(0:Int)<=(s.size:Int)/\(s.size:Int)<=9223372036854775807:=by omega
 unfold parseP;cases hl:lns (textW s) with
 |nil=>exact .inr ⟨_,_,rfl,by decide,h0.1,Int.le_refl _⟩
 |cons g G=>
  rw [hl] at hb;simp only;cases hh:headG g with
  |error p=>
   obtain⟨k,rfl⟩:=headG_wrong hh;have:=wrongP_at (hb g List.mem_cons_self) h0 k;exact .inr ⟨_,_,rfl,by decide,this.1,this.2⟩
  |ok x=>
   simp only;rcases goP_says (sets:=x.1) (rel:=x.2) h0 G [] (fun y hy=>hb y (List.mem_cons_of_mem _ hy)) (.inl rfl) with ⟨L,h1,h2,h3,h4⟩|⟨a,e,h1,h2,h3⟩
   .exact .inl ⟨x.1,x.2,L,g,G,h1,h2,h3,rfl,hh,by rw [h4];simp⟩
   .exact .inr ⟨a,e,h1,h2,h3⟩
end Go.Proofs.YtgnaaokhfpfglaaGreatDoor
end
section
namespace Go.Proofs.YtgnaaokhfpfglaaGreatDoor
section
variable {P:Program} {ops:Array Oper} {rest:List Oper} {op:Oper} {a:Act} {w:World} {Q:Exit->Act->World->Prop}
theorem wpList_build_run (hgd:op.guard=none) (t:TypeId) (parts:Array (Nat × Operand)) (ho:op.op=.build t parts) (v:Value) (hr:(Instr.build t (parts.map fun (i,x)=>(i,a.eval x))).run P w=.ok v w)
  (h:wpList P ops Q rest (a.put op.dst v) w):wpList P ops Q (op::rest) a w:=
 wpList_plain hgd fun _ hK=>by
  unfold Oper.wp execOp;simp only [ho,Sem.run_bind,hr,Result.andThen_ok];exact hK _ _ h
theorem qa4 (hgd:op.guard=none) (t:TypeId) (ho:op.op=.build t #[]) (v:Value) (hr:(Instr.build t #[]).run P w=.ok v w)
  (h:wpList P ops Q rest (a.put op.dst v) w):wpList P ops Q (op::rest) a w:=
 wpList_build_run hgd t #[] ho v (by rw [Array.map_empty];exact hr) h
theorem setRow_block {r:Nat} {old cs:Array Value} {t:TypeId} {fr:Nat × Nat} (h:w.heap[r]? = some (.cells old t fr)):(w.setRow r cs).heap[r]? = some (.cells cs t fr):=by
 simp [World.setRow,Array.getElem?_modify,h]
theorem setRow_grown (w:World) (r:Nat) (cs:Array Value):w.grownBy (w.setRow r cs) (some r):=
 ⟨rfl,rfl,rfl,by simp,fun k _ hk=>by
  have hne:¬ r=k:=fun e=>hk (by rw [e])
  simp [World.setRow,Array.getElem?_modify,hne]⟩
theorem qaY (hgd:op.guard=none) (ty:TypeId) (x y:Operand) (ho:op.op=.store ty x y)
  (r:Nat) (cs:Array Value) (hx:a.eval x=.pointer (some ⟨r,0,none⟩)) (hy:a.eval y=.agg cs)
  (t:TypeId) (old:Array Value) (hg:w.heap[r]? = some (.cells old t (0,0))) (hi:(P.info? ty).map (·.size)=some cs.size)
  (hold:old.size=cs.size) (h1:cs.all (·.oneCell')=true)
  (h:∀ w',w'.heap[r]? = some (.cells cs t (0,0))->w.grownBy w' (some r)->wpList P ops Q rest (a.put op.dst undef) w'):wpList P ops Q (op::rest) a w:=
 wpList_store_row hgd ty x y ho r cs hx hy t old hg hi hold h1 (h _ (setRow_block hg) (setRow_grown _ _ _))
end
end Go.Proofs.YtgnaaokhfpfglaaGreatDoor
end
