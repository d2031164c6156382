/- Texts of this claim, one behind the other: WWords, WLast, WApart, WFoot, WKept, WShare, WN, WNEv, WMore, WTab, Sqz, WOwn, Evs, Kopen, Words, Shelf, LexN, LexP, LexCa, LexDa, LexS, LexPa, LexM, LexO, Append, LexQa, LexJa, LexCv, Tabs, LexJ, GLex, ParseB, ParseC, TasksA, TasksB, MapM, TasksC, ParseG, LexK, LexNp, ParseI, ParseK, Facts, ParseO, ParseP. -/
import Derived.Below
import Derived.Deep.Draws
import Derived.Deep.AppendLies
import Derived.Maps.AppendAt
import Derived.OwnWalk
import Derived.Laws.BytesArg
import Derived.Laws.MakeOwn
import Derived.Laws.OwnMore
import Derived.Deep.OwnRows
import Derived.Tactics
import Derived.Lib.ConvBytes
import Derived.Laws.Slices
import Derived.WalkKit
import Derived.KernelRfl
import Derived.RowKit3
import Derived.Deep.LoopGhost
import Derived.Deep.QuietTactic
import Derived.BigQuiet
import Derived.WideLaws
import Derived.Deep.DeepCutAuto
import Derived.Deep.CutBlock
import Derived.Deep.RegionHeld3
import Derived.Laws.Rows
import Derived.Lib.AppendStr
import Derived.ArgAppend
import Derived.Laws.IdiomCopy
import Derived.RowKit
import Derived.OrdersHeld
import Derived.Laws.BitsLemmas
import Derived.Laws.Bits64
import Derived.Test.YtgnaaokhfpfglaaDoorRows
import Derived.ProofKit
import Derived.OpenShut
import Derived.ShutString
import Derived.ChangeOld
import Derived.Deep.Slices
import Derived.WalkSpells
import Derived.WalkLawsBesides
import Derived.Lib.Hide
import Derived.OneCell
import Derived.Shelf.Strings.Trim
import Derived.Shelf.Small.Utf8
import Derived.Shelf.Small.Strs
import Derived.Shelf.Utf8.RuneCount
import Derived.Shelf.Strings.Search1
import Derived.Shelf.Strings.Search2
import Derived.Shelf.Strings.Search3
import Derived.Shelf.Strings.Cut
import Derived.Shelf.Strings.Count
import Derived.Shelf.Strings.Shaped
import Derived.Shelf.Strings.Split
import Derived.Shelf.Strings.SplitShaped
import Derived.Shelf.Unicode.Decode
import Derived.Shelf.Strings.Runes
import Derived.Shelf.Strings.RuneCount
import Derived.Shelf.Strings.IndexAny
import Derived.Shelf.Strings.AsciiSet
import Derived.Shelf.Strings.IndexAnyAll
import Derived.Shelf.Strings.Explode
import Derived.Shelf.Unicode.DecodeSlow
import Derived.Shelf.Unicode.DecodeAny
import Derived.Shelf.Strings.SlTrimAscii
import Derived.Shelf.Strings.Builder1
import Derived.Shelf.Strings.Builder2
import Derived.Shelf.Strings.OnBuilder
import Derived.Shelf.Strings.BuilderF
import Derived.Shelf.Strings.BuilderK
import Derived.Shelf.Strings.Builder2Cap
import Derived.Shelf.Strconv.Itoa0
import Derived.Shelf.Strconv.Itoa1
import Derived.Shelf.LaysM
import Derived.Shelf.Strconv.Itoa2
import Derived.Shelf.Strconv.Itoa3
import Derived.Shelf.Strconv.Itoa4
import Derived.Shelf.Strings.BuilderCap
import Derived.Shelf.Slices.Turned
import Derived.Shelf.Slices.Equal
import Derived.Shelf.Slices.Empties2
import Derived.Test.YtgnaaokhfpfglaaDoorProg
import Derived.Lib.SpaceUEq
import Derived.Lib.OthersKept
import Derived.Lib.TrimU
import Derived.Lib.TrimUEq
import Derived.Lib.MapLaws
import Derived.Lib.QuoteLoop
import Derived.RangeFuncNested
import Derived.RangeFuncBound
import Derived.RangeFuncCalls
import Derived.RangeFuncLeaves
import Derived.RangeFuncBox
import Derived.Shelf.Abstract
import Derived.Shelf.RegionOpen
import Derived.OwnWalkIn
import Derived.TacticsInMore
import Derived.LoopNIn
import Derived.LoopIn
import Derived.Sort.CutIn
import Derived.Lib.AppendIntMem
import Derived.Lib.ItoaNum
import Derived.Laws.AppendOwnNone
import Derived.WalkSmall
import Derived.Laws.IdiomStrings
import Derived.OrdersIn
import Derived.Deep.RegionHeld
import Derived.Maps.Own
import Derived.MapKept
import Derived.WideKeyRuns
import Derived.Laws.AppendOwn
import Derived.Maps.OwnOps
import Derived.ChangeMaps5
import Derived.Defers
import Derived.Recover
import Derived.Orders
namespace Go.Proofs.YtgnaaokhfpfglaaDoor
theorem gDe {α:Type} {xs:Array α} {i:Nat} {d:α}:xs.getD i d=xs[i]?.getD d:=Array.getD_eq_getD_getElem?
theorem bLt (w:World) (a:Addr) {v:Value} (h:w.cell? a=some v):a.block<w.heap.size:=World.block_lt_of_cell? w a h
end Go.Proofs.YtgnaaokhfpfglaaDoor

set_option maxHeartbeats 8000000
set_option maxRecDepth 100000
set_option linter.unusedVariables false
set_option linter.unusedSimpArgs false
section
set_option linter.unusedVariables false
set_option linter.unusedSimpArgs false
namespace Go.Proofs.YtgnaaokhfpfglaaDoorW.PrintWords
open Go.RowKit
structure qaa (p:Prop):Prop where mk::(out:p)
structure qar (w w':World):Prop where mk::(out:∃ n,w' = w.drewN n)
theorem qar.refl (w:World):qar w w:=⟨⟨0,rfl⟩⟩
theorem qar.step {w w':World} (h:qar w w') (n:Nat):qar w (w'.drewN n):=by
 obtain⟨m,rfl⟩:=h
 exact⟨⟨m+n,World.drewN_drewN ..⟩⟩
theorem qar.grown {w w':World} (h:qar w w'):Grown w w':=by
 obtain⟨n,rfl⟩:=h
 induction n with
 |zero=>exact Grown.refl _
 |succ n ih=>rw [← World.drew_drewN];exact Grown.drew ih
theorem qar.below {w w':World} (h:qar w w'):Below w.heap.size w w':=by
 obtain⟨n,rfl⟩:=h
 induction n with
 |zero=>exact Below.refl _ _
 |succ n ih=>rw [← World.drew_drewN];exact ih.drew
def rd (xs:List Int) (i:Int):Int:=xs.getD i.toNat 0
theorem qah {w W:World} (h:Below w.heap.size w W) (o:Obj):Below w.heap.size w (W.alloc o):=h.alloc h.size o
theorem below_drew {B:Nat} {w W:World} (h:Below B w W):Below B w W.drew:=⟨h.os,h.tape,h.output,h.size,h.block⟩
theorem qae {B:Nat} {w W:World} (h:Below B w W) (n:Nat):Below B w (W.drewN n):=⟨h.os,h.tape,h.output,h.size,h.block⟩
theorem below_then {B:Nat} {w w1 w2:World} (h:Below B w w1) (hB:B≤w1.heap.size) (k:Below w1.heap.size w1 w2):Below B w w2:=
 h.trans ⟨k.os,k.tape,k.output,k.size,fun i hi=>k.block i (Nat.lt_of_lt_of_le hi hB)⟩
theorem grown_of_below {w w1:World} (h:Below w.heap.size w w1) (row:Option Nat):w.grownBy w1 row:=⟨h.os,h.tape,h.output,h.size,fun i hi _=>h.block i hi⟩
theorem pw_cell_below {w w1:World} (h:Below w.heap.size w w1) {a:Addr} {v:Value} (hc:w.cell? a=some v):w1.cell? a=some v:=(h.cell (World.block_lt_of_cell? w a hc)).trans hc
theorem add_plain (g j:Nat):(⟨g,0,none⟩:Addr).add j=⟨g,j,none⟩:=by unfold Addr.add;split<;>simp_all
def qa6 (w:World) (k:IntKind) (A:Option Addr) (n:Nat) (xs:List Int):Prop:=
 xs.length=n∧n≤9223372036854775807∧(0<n→∃ ad,A=some ad∧∀ j,j<n→w.cell? (ad.add j)=some (.int k (xs.getD j 0)))
theorem qa6.at_ {w:World} {k:IntKind} {A:Option Addr} {n:Nat} {xs:List Int} (h:qa6 w k A n xs) (i:Int) (h0:0≤i) (h1:i<n):∃ ad,A=some ad∧w.cell? (ad.add i.toNat)=some (.int k (rd xs i)):=by
 obtain⟨ad,e,hc⟩:=h.2.2 (by omega)
 exact⟨ad,e,hc _ (by omega)⟩
theorem qa6.below {w w1:World} {k:IntKind} {A:Option Addr} {n:Nat} {xs:List Int} (h:qa6 w k A n xs) (hb:Below w.heap.size w w1):qa6 w1 k A n xs:=
 ⟨h.1,h.2.1,fun hn=>by
  obtain⟨ad,e,hc⟩:=h.2.2 hn
  exact⟨ad,e,fun j hj=>pw_cell_below hb (hc j hj)⟩⟩
theorem own_nil (W:World) (base:Nat) (e:TypeId) (size:Nat):W.ownsRow base e size (.slice none 0 0) 0 []:=⟨by simp,.inl ⟨rfl,rfl⟩⟩
theorem own_base {w:World} {base:Nat} {e:TypeId} {size n:Nat} {v:Value} {xs:List Value} (h:w.ownsRow base e size v n xs) (k:Nat) (hk:v.ownBlock=some k):base≤k:=by
 rcases h.2 with ⟨rfl,_⟩|⟨g,cap,cur,rfl,hb,_⟩
 ·simp [Value.ownBlock] at hk
 ·have:g=k:=by simpa [Value.ownBlock] using hk
  omega
theorem own_lt {w:World} {base:Nat} {e:TypeId} {size n:Nat} {v:Value} {xs:List Value} (h:w.ownsRow base e size v n xs) (k:Nat) (hk:v.ownBlock=some k):k<w.heap.size:=by
 rcases h.2 with ⟨rfl,_⟩|⟨g,cap,cur,rfl,hb,hh,_⟩
 ·simp [Value.ownBlock] at hk
 ·have:g=k:=by simpa [Value.ownBlock] using hk
  subst this
  exact (Array.getElem?_eq_some_iff.1 hh).1
theorem pw_own_below {w w1:World} {base:Nat} {e:TypeId} {size n:Nat} {v:Value} {xs:List Value} (h:w.ownsRow base e size v n xs) (hb:Below w.heap.size w w1):w1.ownsRow base e size v n xs:=
 h.kept (grown_of_below hb none) (by cases v.ownBlock<;>simp)
section
variable {P:Program} {ops:Array Oper} {rest:List Oper} {o:Oper} {a:Act} {Q:Exit→Act→World→Prop}
end
section
variable {P:Program}
end
section
variable {P:Program} {ops:Array Oper} {rest:List Oper} {o:Oper} {a:Act} {Q:Exit→Act→World→Prop}
end
theorem qa6.take_ {w:World} {k:IntKind} {A:Option Addr} {n:Nat} {xs:List Int} (h:qa6 w k A n xs) (i:Nat) (hi:i≤n):qa6 w k A i (xs.take i):=by
 refine⟨by rw [List.length_take,h.1];omega,by have:=h.2.1;omega,fun hp=>?_⟩
 obtain⟨ad,e,hc⟩:=h.2.2 (by omega)
 refine⟨ad,e,fun j hj=>?_⟩
 rw [hc j (by omega)]
 simp [List.getD_eq_getElem?_getD,hj]
def LeO {α:Type} (a b:Option α):Prop:=∀ r,a=some r→b=some r
theorem LeO.refl {α:Type} (a:Option α):LeO a a:=fun _ h=>h
theorem LeO.none {α:Type} (b:Option α):LeO Option.none b:=fun _ h=>by cases h
theorem LeO.trans {α:Type} {a b c:Option α} (h:LeO a b) (k:LeO b c):LeO a c:=fun r hr=>k r (h r hr)
theorem LeO.bind {α β:Type} {a a':Option α} {f f':α→Option β} (h:LeO a a') (k:∀ x,LeO (f x) (f' x)):LeO (a.bind f) (a'.bind f'):=by
 intro r hr
 obtain⟨x,hx,hf⟩:=Option.bind_eq_some_iff.1 hr
 exact Option.bind_eq_some_iff.2 ⟨x,h x hx,k x r hf⟩
theorem LeO.map {α β:Type} {a a':Option α} (f:α→β) (h:LeO a a'):LeO (a.map f) (a'.map f):=by
 intro r hr
 obtain⟨x,hx,hf⟩:=Option.map_eq_some_iff.1 hr
 exact Option.map_eq_some_iff.2 ⟨x,h x hx,hf⟩
def Reps {α:Type} (R:α→List Value→Prop) (size:Nat) (ps:List α) (cs:List Value):Prop:=
 cs.length=ps.length * size∧∀ j p,ps[j]? = some p→R p ((cs.drop (j * size)).take size)
theorem Reps.none {α:Type} (R:α→List Value→Prop) (size:Nat):Reps R size [] []:=⟨by simp,fun j p h=>by simp at h⟩
theorem Reps.snoc {α:Type} {R:α→List Value→Prop} {size:Nat} {ps:List α} {cs c:List Value} {p:α} (h:Reps R size ps cs) (hp:R p c) (hc:c.length=size):Reps R size (ps++[p]) (cs++c):=by
 refine⟨by rw [List.length_append,h.1,hc,List.length_append,List.length_singleton,Nat.add_mul,Nat.one_mul],fun j q hq=>?_⟩
 rcases Nat.lt_or_ge j ps.length with hj|hj
 ·rw [List.getElem?_append_left hj] at hq
  have h1:j * size+size≤cs.length:=by rw [h.1,← Nat.succ_mul];exact Nat.mul_le_mul_right _ hj
  have h2:=h.2 j q hq
  rw [List.drop_append_of_le_length (by omega),List.take_append_of_le_length (by rw [List.length_drop];omega)]
  exact h2
 ·have hj':j=ps.length:=by
   have:=(List.getElem?_eq_some_iff.1 hq).1
   rw [List.length_append,List.length_singleton] at this
   omega
  subst hj'
  have hq':p=q:=by simpa using hq
  subst hq'
  rw [← h.1,List.drop_left,← hc,List.take_length]
  exact hp
theorem Reps.imp_ {α:Type} {R R':α→List Value→Prop} {size:Nat} {ps:List α} {cs:List Value} (h:Reps R size ps cs) (hR:∀ p c,R p c→R' p c):Reps R' size ps cs:=⟨h.1,fun j p hj=>hR _ _ (h.2 j p hj)⟩
def qaQ {α:Type} (R:α→List Value→Prop) (size:Nat) (w:World) (A:Option Addr) (n:Nat) (ps:List α):Prop:=
 ps.length=n∧n≤9223372036854775807∧(0<n→∃ ad,A=some ad∧∀ j p,ps[j]? = some p→∃ c,c.length=size∧R p c∧∀ i u,c[i]? = some u→w.cell? (ad.add (j * size+i))=some u)
theorem qaQ.get_ {α:Type} {R:α→List Value→Prop} {size:Nat} {w:World} {A:Option Addr} {n:Nat} {ps:List α} (h:qaQ R size w A n ps) (d:α) (i:Int) (h0:0≤i) (h1:i<n) :
  ∃ ad c,A=some ad∧c.length=size∧R (ps.getD i.toNat d) c∧∀ j u,c[j]? = some u→w.cell? (ad.add (i.toNat * size+j))=some u:=by
 obtain⟨ad,e,hc⟩:=h.2.2 (by omega)
 have hl:i.toNat<ps.length:=by have:=h.1;omega
 obtain⟨c,hs,hr,hcell⟩:=hc i.toNat _ (List.getElem?_eq_getElem hl)
 refine⟨ad,c,e,hs,?_,hcell⟩
 rw [List.getD_eq_getElem?_getD,List.getElem?_eq_getElem hl]
 exact hr
theorem qaQ.imp_ {α:Type} {R R':α→List Value→Prop} {size:Nat} {w w1:World} {A:Option Addr} {n:Nat} {ps:List α} (h:qaQ R size w A n ps) (hb:Below w.heap.size w w1) (hR:∀ p c,R p c→R' p c):qaQ R' size w1 A n ps:=
 ⟨h.1,h.2.1,fun hn=>by
  obtain⟨ad,e,hc⟩:=h.2.2 hn
  refine⟨ad,e,fun j p hj=>?_⟩
  obtain⟨c,hs,hr,hcell⟩:=hc j p hj
  exact⟨c,hs,hR _ _ hr,fun i u hu=>pw_cell_below hb (hcell i u hu)⟩⟩
theorem own_reads_row {α:Type} {R:α→List Value→Prop} {w:World} {base n size:Nat} {e:TypeId} {v:Value} {ps:List α} {cs:List Value} (h:w.ownsRow base e size v n cs) (hR:Reps R size ps cs) (hn:ps.length=n) :
  ∃ A c,v=.slice A n c∧qaQ R size w A n ps:=by
 rcases Nat.eq_zero_or_pos n with h0|h0
 ·rcases h.2 with ⟨rfl,rfl⟩|⟨g,cap,cur,rfl,_⟩
  ·exact⟨none,0,rfl,hn,by omega,fun hp=>absurd hp (by omega)⟩
  ·exact⟨_,cap,rfl,hn,by omega,fun hp=>absurd hp (by omega)⟩
 ·obtain⟨g,cap,rfl,_,_⟩:=h.form h0
  have hm:n≤9223372036854775807:=by
   rcases h.2 with ⟨_,h1⟩|⟨g',cap',cur,he,_,_,h1,h2,_⟩
   ·omega
   ·simp only [maxLen] at h2
    omega
  refine⟨_,cap,rfl,hn,hm,fun _=>⟨_,rfl,fun j p hj=>⟨(cs.drop (j * size)).take size,?_,hR.2 j p hj,fun i u hu=>?_⟩⟩⟩
  ·have hjl:=(List.getElem?_eq_some_iff.1 hj).1
   have h1:j * size+size≤cs.length:=by rw [hR.1,← Nat.succ_mul];exact Nat.mul_le_mul_right _ hjl
   rw [List.length_take,List.length_drop]
   omega
  ·refine h.cells (g:=g) rfl _ u ?_
   rw [List.getElem?_take] at hu
   split at hu
   ·rw [List.getElem?_drop] at hu
    exact hu
   ·cases hu
theorem qat (ad:Addr) (m j:Nat) (hj:0<j):ad.add (m+j)=⟨(ad.add m).block,(ad.add m).off+j,none⟩:=by
 unfold Addr.add
 by_cases hm:m=0
 ·subst hm
  simp [Nat.ne_of_gt hj]
 ·simp [hm,Nat.add_assoc]
section
variable {P:Program} {ops:Array Oper} {rest:List Oper} {o:Oper} {a:Act} {Q:Exit→Act→World→Prop}
theorem print_append_cells {w0 W:World} (base:Nat) (hgd:o.guard=none) (s x:Operand) (t e:TypeId) (z:Value) (size bytes:Nat)
  (ho:o.op=.call { callee:=.builtin .append,args:=#[s,x],argTypes:=#[t,t] })
  (ht:P.underlying t=some (.slice e)) (hinfo:(P.info? e).map (fun i=>(i.zero,i.size,i.bytes))=some (some z,size,bytes)) (hz:z.cells.size=size) (hs0:0<size) (hb0:0<bytes)
  (v:Value) (n:Nat) (xs ys:List Value) (hs:a.eval s=v) (hx:a.eval x=.slice (some ⟨W.heap.size,0,none⟩) 1 1) (hys:ys.length=size) (h1:∀ u ∈ ys,u.oneCell' = true)
  (HO:W.ownsRow base e size v n xs) (HB:Below base w0 W) (hbase:base≤W.heap.size) (hl:(n+1) * bytes≤140737488355328)
  (h:∀ v1 w1,w1.ownsRow base e size v1 (n+1) (xs++ys)→Below base w0 w1→W.grownBy w1 v.ownBlock→(v1.ownBlock=v.ownBlock∨∃ b,v1.ownBlock=some b∧W.heap.size≤b)→wpList P ops Q rest (a.put o.dst v1) w1) :
  wpList P ops Q (o::rest) a (W.alloc (.cells ys.toArray e)):=by
 obtain⟨i0,hi,hzz⟩:=Option.map_eq_some_iff.1 hinfo
 simp only [Prod.mk.injEq] at hzz
 obtain⟨hz0,hz1,hz2⟩:=hzz
 have hlen:n+1≤140737488355328:=Nat.le_trans (Nat.le_mul_of_pos_right _ hb0) hl
 refine wpList_append_own_at (W.alloc (.cells ys.toArray e)) hgd s x t ho base e i0 z size bytes ht hi hz0 hz1 hz2 hz hs0 v n xs hs (HO.alloc _) ⟨W.heap.size,0,none⟩ 1 1 ys hx (by rw [hys];simp)
  (by simpa using World.news_of_block (cs:=ys.toArray) (t:=e) (fr:=(0,0)) (heap_alloc_new W (.cells ys.toArray e))) h1 (by simp only [maxLen];omega) hl (by simp;omega) ?_
 intro v1 w1 hown hg _ hat
 refine h v1 w1 hown ((HB.alloc hbase _).grown hg (by simp;omega) (own_base HO)) (World.grownBy.trans (World.grownBy_alloc W _ _) hg) ?_
 rcases hat with hat|hat
 ·exact .inl hat
 ·exact .inr ⟨_,hat,by simp⟩
end
theorem own_ne {w:World} {base:Nat} {e t:TypeId} {size n g:Nat} {v:Value} {xs:List Value} {cs:Array Value} (h:w.ownsRow base e size v n xs) (hg:w.heap[g]? = some (.cells cs t (0,0))) (hne:e≠t):some g≠v.ownBlock:=by
 rcases h.2 with ⟨rfl,_⟩|⟨g',cap,cur,rfl,_,hh,_⟩
 ·simp [Value.ownBlock]
 ·intro he
  have:g=g':=by simpa [Value.ownBlock] using he
  subst this
  rw [hg] at hh
  injection hh with hh
  injection hh with _ ht
  exact hne ht.symm
theorem blk_set {w:World} {g:Nat} {t:TypeId} {cs:Array Value} (h:w.heap[g]? = some (.cells cs t (0,0))) (i:Nat) (u:Value):(w.setCell ⟨g,i,none⟩ u).heap[g]? = some (.cells (cs.setIfInBounds i u) t (0,0)):=by
 simp [World.setCell,Array.getElem?_modify,h]
theorem qaf {w:World} {g:Nat} {t:TypeId} {cs:Array Value} (h:w.heap[g]? = some (.cells cs t (0,0))) {p:Addr} (hp:g≠p.block) (u:Value):(w.setCell p u).heap[g]? = some (.cells cs t (0,0)):=(Below.heap_setCell w p u g hp).trans h
theorem blk_lt {w:World} {g:Nat} {o:Obj} (h:w.heap[g]? = some o):g<w.heap.size:=(Array.getElem?_eq_some_iff.1 h).1
theorem qab {w:World} {g:Nat} {t:TypeId} {cs:Array Value} (h:w.heap[g]? = some (.cells cs t (0,0))) (i:Nat):w.cell? ⟨g,i,none⟩=cs[i]?:=cell_of_row w g i cs t (0,0) h
theorem qan {w:World} {g:Nat} {t:TypeId} {cs:Array Value} (h:w.heap[g]? = some (.cells cs t (0,0))) (i:Nat):w.frozen? ⟨g,i,none⟩=false:=by simp [World.frozen?,h]
theorem qaY {w w1:World} {g:Nat} {o:Obj} {row:Option Nat} (h:w.heap[g]? = some o) (hg:w.grownBy w1 row) (hne:some g≠row):w1.heap[g]? = some o:=(hg.block g (blk_lt h) hne).trans h
def KeepBut (w w':World) (g:Nat) (row:Option Nat):Prop:=w.heap.size≤w'.heap.size∧∀ i,i<w.heap.size→i≠g→some i≠row→w'.heap[i]? = w.heap[i]?
theorem KeepBut.refl (w:World) (g:Nat) (row:Option Nat):KeepBut w w g row:=⟨Nat.le_refl _,fun _ _ _ _=>rfl⟩
theorem KeepBut.of_below {w w1:World} (h:Below w.heap.size w w1) (g:Nat) (row:Option Nat):KeepBut w w1 g row:=⟨h.size,fun i hi _ _=>h.block i hi⟩
theorem KeepBut.trans {w w1 w2:World} {g:Nat} {row row1:Option Nat} (h:KeepBut w w1 g row) (k:KeepBut w1 w2 g row1) (hr:row1=row∨∃ b,row1=some b∧w.heap.size≤b):KeepBut w w2 g row:=
 ⟨Nat.le_trans h.1 k.1,fun i hi hg hn=>by
  refine (k.2 i (Nat.lt_of_lt_of_le hi h.1) hg ?_).trans (h.2 i hi hg hn)
  rcases hr with rfl|⟨b,rfl,hb⟩
  ·exact hn
  ·intro e
   injection e with e
   omega⟩
theorem KeepBut.blk {w w1:World} {g g':Nat} {row:Option Nat} {o:Obj} (h:KeepBut w w1 g row) (hb:w.heap[g']? = some o) (hg:g'≠g) (hr:some g'≠row):w1.heap[g']? = some o:=(h.2 g' (blk_lt hb) hg hr).trans hb
theorem KeepBut.own {w w1:World} {g:Nat} {row:Option Nat} {base:Nat} {e:TypeId} {size n:Nat} {v:Value} {xs:List Value} (h:KeepBut w w1 g row) (ho:w.ownsRow base e size v n xs) (hg:v.ownBlock≠some g) (hr:v.ownBlock=none∨v.ownBlock≠row):w1.ownsRow base e size v n xs:=by
 obtain⟨h1,h2⟩:=ho
 refine⟨h1,?_⟩
 rcases h2 with h2|⟨b,cap,cur,rfl,hb,hh,r⟩
 ·exact .inl h2
 ·refine .inr ⟨b,cap,cur,rfl,hb,h.blk hh ?_ ?_,r⟩
  ·intro e
   exact hg (by rw [← e];rfl)
  ·rcases hr with hr|hr
   ·simp [Value.ownBlock] at hr
   ·exact hr
def Ev {α:Type} (g:Nat→Option α) (r:α):Prop:=∃ K,∀ k,K≤k→g k=some r
theorem Ev.now {α:Type} (r:α):Ev (fun _=>some r) r:=⟨0,fun _ _=>rfl⟩
theorem Ev.rounds {α:Type} {g:Nat→Option α} {r:α} (h:Ev g r):∃ k,g k=some r:=by
 obtain⟨K,h⟩:=h
 exact⟨K,h K (Nat.le_refl _)⟩
theorem Ev.bind {α β:Type} {g:Nat→Option α} {f:Nat→α→Option β} {a:α} {r:β} (h:Ev g a) (k:Ev (fun n=>f n a) r):Ev (fun n=>(g n).bind (f n)) r:=by
 obtain⟨K,h⟩:=h
 obtain⟨K',k⟩:=k
 refine⟨max K K',fun n hn=>?_⟩
 have h1:=h n (by omega)
 have h2:=k n (by omega)
 simp only [h1,Option.bind_some]
 exact h2
theorem Ev.step {α:Type} {g f:Nat→Option α} {r:α} (h:∀ k,g (k+1)=f k) (k:Ev f r):Ev g r:=by
 obtain⟨K,k⟩:=k
 refine⟨K+1,fun n hn=>?_⟩
 obtain⟨m,rfl⟩:∃ m,n=m+1:=⟨n - 1,by omega⟩
 rw [h]
 exact k m (by omega)
theorem Ev.congr {α:Type} {g f:Nat→Option α} {r:α} (h:∀ k,g k=f k) (k:Ev f r):Ev g r:=by
 obtain⟨K,k⟩:=k
 exact⟨K,fun n hn=>(h n).trans (k n hn)⟩
section
variable {P:Program} {ops:Array Oper} {o:Oper} {a:Act} {Q:Exit→Act→World→Prop} {K:Act→World→Prop}
theorem step_append_cells {w0 W:World} (base:Nat) (hw:Region.wanted o (yielded ops a.tmps)=true) (s x:Operand) (t e:TypeId) (z:Value) (size bytes:Nat)
  (ho:o.op=.call { callee:=.builtin .append,args:=#[s,x],argTypes:=#[t,t] })
  (ht:P.underlying t=some (.slice e)) (hinfo:(P.info? e).map (fun i=>(i.zero,i.size,i.bytes))=some (some z,size,bytes)) (hz:z.cells.size=size) (hs0:0<size) (hb0:0<bytes)
  (v:Value) (n:Nat) (xs ys:List Value) (hs:a.eval s=v) (hx:a.eval x=.slice (some ⟨W.heap.size,0,none⟩) 1 1) (hys:ys.length=size) (h1:∀ u ∈ ys,u.oneCell' = true)
  (HO:W.ownsRow base e size v n xs) (HB:Below base w0 W) (hbase:base≤W.heap.size) (hl:(n+1) * bytes≤140737488355328)
  (h:∀ v1 w1,w1.ownsRow base e size v1 (n+1) (xs++ys)→Below base w0 w1→W.grownBy w1 v.ownBlock→(v1.ownBlock=v.ownBlock∨∃ b,v1.ownBlock=some b∧W.heap.size≤b)→K (a.put o.dst v1) w1) :
  if Region.wanted o (yielded ops a.tmps)=true then Oper.wp P o a (W.alloc (.cells ys.toArray e)) K Q else K (a.put o.dst undef) (W.alloc (.cells ys.toArray e)):=by
 obtain⟨i0,hi,hzz⟩:=Option.map_eq_some_iff.1 hinfo
 simp only [Prod.mk.injEq] at hzz
 obtain⟨hz0,hz1,hz2⟩:=hzz
 have hlen:n+1≤140737488355328:=Nat.le_trans (Nat.le_mul_of_pos_right _ hb0) hl
 rw [if_pos hw]
 obtain⟨v1,w1,hr,hown,hg,_,hat⟩:=run_append_own_at (P:=P) (W.alloc (.cells ys.toArray e)) base t o.type e i0 z size bytes ht hi hz0 hz1 hz2 hz hs0 v n xs (HO.alloc _) ⟨W.heap.size,0,none⟩ 1 1 ys (by rw [hys];simp)
  (by simpa using World.news_of_block (cs:=ys.toArray) (t:=e) (fr:=(0,0)) (heap_alloc_new W (.cells ys.toArray e))) h1 (by simp only [maxLen];omega) hl (by simp;omega)
 unfold Oper.wp execOp
 simp only [ho,resolve,invoke,builtin,Sem.run_bind,Sem.run_pure,Result.andThen_ok,List.map_toArray,List.map_cons,List.map_nil,hs,hx,hr]
 refine h v1 w1 hown ((HB.alloc hbase _).grown hg (by simp;omega) (own_base HO)) (World.grownBy.trans (World.grownBy_alloc W _ _) hg) ?_
 rcases hat with hat|hat
 ·exact .inl hat
 ·exact .inr ⟨_,hat,by simp⟩
end
theorem own_weaken {w:World} {base base':Nat} {e:TypeId} {size n:Nat} {v:Value} {xs:List Value} (h:w.ownsRow base e size v n xs) (hb:base'≤base):w.ownsRow base' e size v n xs:=by
 obtain⟨h1,h2⟩:=h
 refine⟨h1,?_⟩
 rcases h2 with h2|⟨g,cap,cur,rfl,hg,r⟩
 ·exact .inl h2
 ·exact .inr ⟨g,cap,cur,rfl,Nat.le_trans hb hg,r⟩
section
variable {α:Type} {enc:α→Value} {d:α}
def encs (enc:α→Value) (xs:List α):List Value:=xs.map enc
def rdOf (d:α) (xs:List α) (i:Int):α:=xs.getD i.toNat d
theorem encs_length (xs:List α):(encs enc xs).length=xs.length:=by simp [encs]
theorem encs_get (xs:List α) (j:Nat) (h:j<xs.length):(encs enc xs)[j]? = some (enc (xs.getD j d)):=by
 simp [encs,List.getElem?_eq_getElem h,List.getD_eq_getElem?_getD]
def ReadsOf (enc:α→Value) (d:α) (w:World) (A:Option Addr) (n:Nat) (xs:List α):Prop:=
 xs.length=n∧n≤9223372036854775807∧(0<n→∃ ad,A=some ad∧∀ j,j<n→w.cell? (ad.add j)=some (enc (xs.getD j d)))
theorem ReadsOf.at_ {w:World} {A:Option Addr} {n:Nat} {xs:List α} (h:ReadsOf enc d w A n xs) (i:Int) (h0:0≤i) (h1:i<n):∃ ad,A=some ad∧w.cell? (ad.add i.toNat)=some (enc (rdOf d xs i)):=by
 obtain⟨ad,e,hc⟩:=h.2.2 (by omega)
 exact⟨ad,e,hc _ (by omega)⟩
theorem ReadsOf.below {w w1:World} {A:Option Addr} {n:Nat} {xs:List α} (h:ReadsOf enc d w A n xs) (hb:Below w.heap.size w w1):ReadsOf enc d w1 A n xs:=
 ⟨h.1,h.2.1,fun hn=>by
  obtain⟨ad,e,hc⟩:=h.2.2 hn
  exact⟨ad,e,fun j hj=>pw_cell_below hb (hc j hj)⟩⟩
theorem ReadsOf.take_ {w:World} {A:Option Addr} {n:Nat} {xs:List α} (h:ReadsOf enc d w A n xs) (i:Nat) (hi:i≤n):ReadsOf enc d w A i (xs.take i):=by
 refine⟨by rw [List.length_take,h.1];omega,by have:=h.2.1;omega,fun hp=>?_⟩
 obtain⟨ad,e,hc⟩:=h.2.2 (by omega)
 refine⟨ad,e,fun j hj=>?_⟩
 rw [hc j (by omega)]
 simp [List.getD_eq_getElem?_getD,hj]
theorem own_at_of {W:World} {base g n cap:Nat} {e:TypeId} {xs:List α} (h:W.ownsRow base e 1 (.slice (some ⟨g,0,none⟩) n cap) n (encs enc xs)) (i:Int) (h0:0≤i) (h1:i<n) :
  W.cell? ⟨g,i.toNat,none⟩=some (enc (rdOf d xs i))∧W.frozen? ⟨g,i.toNat,none⟩=false:=by
 have hl:xs.length=n:=by have:=h.1;simp [encs] at this;exact this
 constructor
 ·have hc:=h.cells (g:=g) rfl i.toNat _ (encs_get (d:=d) xs i.toNat (by omega))
  rwa [add_plain] at hc
 ·rcases h.2 with ⟨h',_⟩|⟨g',cap',cur,h',_,hh,_⟩
  ·cases h'
  ·have:g=g':=by injection h' with h';injection h' with h';injection h' with h'
   subst this
   simp [World.frozen?,hh]
theorem own_store_of {W:World} {base g n cap:Nat} {e:TypeId} {xs:List α} (h:W.ownsRow base e 1 (.slice (some ⟨g,0,none⟩) n cap) n (encs enc xs)) (i:Int) (x:α) :
  (W.setCell ⟨g,i.toNat,none⟩ (enc x)).ownsRow base e 1 (.slice (some ⟨g,0,none⟩) n cap) n (encs enc (xs.set i.toNat x))∧W.grownBy (W.setCell ⟨g,i.toNat,none⟩ (enc x)) (some g):=by
 have hs:=h.stored i.toNat (enc x)
 have he:(encs enc xs).set i.toNat (enc x)=encs enc (xs.set i.toNat x):=by simp [encs,List.map_set]
 rwa [he] at hs
end
section
variable {α:Type} {P:Program} {ops:Array Oper} {rest:List Oper} {o:Oper} {a:Act} {Q:Exit→Act→World→Prop}
end
theorem qas {w:World} {g:Nat} {o:Obj} (h:w.heap[g]? = some o) (o':Obj):(w.alloc o').heap[g]? = some o:=(Below.heap_alloc w o' g (blk_lt h)).trans h
theorem qax {w:World} {g:Nat} {o:Obj} (h:w.heap[g]? = some o):w.drew.heap[g]? = some o:=h
theorem blk_drewN {w:World} {g:Nat} {o:Obj} (h:w.heap[g]? = some o) (n:Nat):(w.drewN n).heap[g]? = some o:=h
theorem qa9 {w w1:World} {g:Nat} {o:Obj} (h:w.heap[g]? = some o) (hb:Below w.heap.size w w1):w1.heap[g]? = some o:=(hb.block g (blk_lt h)).trans h
theorem blk_new (w:World) (o:Obj):(w.alloc o).heap[w.heap.size]? = some o:=heap_alloc_new w o
section
variable {P:Program}
end
theorem own_le {w:World} {base n m c size:Nat} {e:TypeId} {A:Option Addr} {xs:List Value} (h:w.ownsRow base e size (.slice A m c) n xs):m≤c:=by
 rcases h.2 with ⟨he,_⟩|⟨g,cap,cur,he,_,_,hnc,_⟩
 ·injection he with _ h2 h3
  omega
 ·injection he with _ h2 h3
  omega
def OwnRow {α:Type} (R:α→List Value→Prop) (e:TypeId) (size:Nat) (w:World) (base:Nat) (v:Value) (ps:List α):Prop:=
 ∃ inner,w.ownsRow base e size v ps.length inner∧Reps R size ps inner
section
variable {α:Type} {R R':α→List Value→Prop} {e:TypeId} {size:Nat} {w w1:World} {base:Nat} {v:Value} {ps:List α}
theorem OwnRow.none_ (R:α→List Value→Prop) (e:TypeId) (size:Nat) (w:World) (base:Nat):OwnRow R e size w base (.slice none 0 0) []:=⟨[],own_nil _ _ _ _,Reps.none _ _⟩
theorem OwnRow.imp_ (h:OwnRow R e size w base v ps) (hR:∀ p c,R p c→R' p c):OwnRow R' e size w base v ps:=by
 obtain⟨inner,ho,hr⟩:=h
 exact⟨inner,ho,hr.imp_ hR⟩
theorem OwnRow.below (h:OwnRow R e size w base v ps) (hb:Below w.heap.size w w1):OwnRow R e size w1 base v ps:=by
 obtain⟨inner,ho,hr⟩:=h
 exact⟨inner,pw_own_below ho hb,hr⟩
theorem OwnRow.reads (h:OwnRow R e size w base v ps):∃ A c,v=.slice A ps.length c∧ps.length≤c∧qaQ R size w A ps.length ps:=by
 obtain⟨inner,ho,hr⟩:=h
 obtain⟨A,c,rfl,hrow⟩:=own_reads_row ho hr rfl
 exact⟨A,c,rfl,own_le ho,hrow⟩
theorem OwnRow.ne_block (h:OwnRow R e size w base v ps) {g:Nat} {t:TypeId} {cells:Array Value} (hb:w.heap[g]? = some (.cells cells t (0,0))) (ht:e≠t):some g≠v.ownBlock:=by
 obtain⟨inner,ho,hr⟩:=h
 exact own_ne ho hb ht
theorem OwnRow.lit (W:World) (base:Nat) {inner:List Value} (hr:Reps R size ps inner) (hb:base≤W.heap.size) (hm:ps.length≤9223372036854775807) :
  OwnRow R e size (W.alloc (.cells inner.toArray e)) base (.slice (some ⟨W.heap.size,0,none⟩) ps.length ps.length) ps:=by
 have h:=World.ownsRow_lit (base:=base) (e:=e) (size:=size) W inner.toArray ps.length hb (by simpa [maxLen] using hm) (by simpa using hr.1)
 exact⟨inner,by simpa using h,hr⟩
end
section
variable {P:Program} {ops:Array Oper} {rest:List Oper} {o:Oper} {a:Act} {Q:Exit→Act→World→Prop} {α:Type} {R:α→List Value→Prop}
theorem OwnRow.append {w0 W:World} (base:Nat) (hgd:o.guard=none) (s x:Operand) (t e:TypeId) (z:Value) (size bytes:Nat)
  (ho:o.op=.call { callee:=.builtin .append,args:=#[s,x],argTypes:=#[t,t] })
  (ht:P.underlying t=some (.slice e)) (hinfo:(P.info? e).map (fun i=>(i.zero,i.size,i.bytes))=some (some z,size,bytes)) (hz:z.cells.size=size) (hs0:0<size) (hb0:0<bytes)
  (v:Value) (ps:List α) (p:α) (cs:List Value) (hs:a.eval s=v) (hx:a.eval x=.slice (some ⟨W.heap.size,0,none⟩) 1 1) (hp:R p cs) (hcs:cs.length=size) (h1:∀ u ∈ cs,u.oneCell' = true)
  (HO:OwnRow R e size W base v ps) (HB:Below base w0 W) (hbase:base≤W.heap.size) (hl:(ps.length+1) * bytes≤140737488355328)
  (h:∀ v1 w1,OwnRow R e size w1 base v1 (ps++[p])→Below base w0 w1→W.grownBy w1 v.ownBlock→(v1.ownBlock=v.ownBlock∨∃ b,v1.ownBlock=some b∧W.heap.size≤b)→wpList P ops Q rest (a.put o.dst v1) w1) :
  wpList P ops Q (o::rest) a (W.alloc (.cells cs.toArray e)):=by
 obtain⟨inner,hown,hr⟩:=HO
 refine print_append_cells base hgd s x t e z size bytes ho ht hinfo hz hs0 hb0 v ps.length inner cs hs hx hcs h1 hown HB hbase hl ?_
 intro v1 w1 hown1 hb1 hg1 hat1
 exact h v1 w1 ⟨inner++cs,by rw [List.length_append,List.length_singleton];exact hown1,hr.snoc hp hcs⟩ hb1 hg1 hat1
end
section
variable {P:Program} {ops:Array Oper} {o:Oper} {a:Act} {Q:Exit→Act→World→Prop} {K:Act→World→Prop} {α:Type} {R:α→List Value→Prop}
end
theorem qaQ.inner_ {α:Type} {R:α→List Value→Prop} {size:Nat} {w:World} {ad:Addr} {n:Nat} {ps:List α} (h:qaQ R size w (some ad) n ps) :
  ∃ inner,Reps R size ps inner∧∀ j u,inner[j]? = some u→w.cell? (ad.add j)=some u:=by
 have key:∀ m,m≤ps.length→∃ inner,Reps R size (ps.take m) inner∧∀ j u,inner[j]? = some u→w.cell? (ad.add j)=some u:=by
  intro m
  induction m with
  |zero=>exact fun _=>⟨[],Reps.none _ _,fun j u hu=>by simp at hu⟩
  |succ m ih=>
   intro hm
   obtain⟨inner,hr,hc⟩:=ih (by omega)
   obtain⟨ad',he,hcell⟩:=h.2.2 (by have:=h.1;omega)
   injection he with he
   subst he
   obtain⟨c,hcl,hp,hcc⟩:=hcell m _ (List.getElem?_eq_getElem (show m<ps.length by omega))
   refine⟨inner++c,?_,fun j u hu=>?_⟩
   ·rw [List.take_succ_eq_append_getElem (show m<ps.length by omega)]
    exact hr.snoc hp hcl
   ·have hil:inner.length=m * size:=by rw [hr.1,List.length_take,Nat.min_eq_left (by omega)]
    rcases Nat.lt_or_ge j inner.length with hj|hj
    ·rw [List.getElem?_append_left hj] at hu
     exact hc j u hu
    ·rw [List.getElem?_append_right hj] at hu
     have:=hcc (j - inner.length) u hu
     rwa [hil,Nat.add_sub_cancel' (by omega)] at this
 obtain⟨inner,hr,hc⟩:=key ps.length (Nat.le_refl _)
 rw [List.take_length] at hr
 exact⟨inner,hr,hc⟩
section
variable {α:Type} {P:Program}
theorem ReadsOf.len_ {enc:α→Value} {d:α} {w:World} {A:Option Addr} {n:Nat} {xs:List α} (h:ReadsOf enc d w A n xs):ReadsOf enc d w A xs.length xs:=by rw [h.1];exact h
end
section
variable {P:Program} {ops:Array Oper} {rest:List Oper} {o:Oper} {a:Act} {Q:Exit→Act→World→Prop}
end
structure Kd (α:Type) where
 sz:Nat
 E:List Nat
 K:World→α→List Value→Prop
 M:World→Nat→(Nat→Prop)→α→List Value→Prop
 K_len:∀ {w x cs},K w x cs→cs.length=sz
 K_one:∀ {w x cs},K w x cs→∀ u ∈ cs,u.oneCell' = true
 K_below:∀ {w w1:World} {x cs},Below w.heap.size w w1→K w x cs→K w1 x cs
 K_of_M:∀ {w base ok x cs},M w base ok x cs→K w x cs
 M_mono:∀ {w base ok ok' x cs},(∀ k,ok k→ok' k)→M w base ok x cs→M w base ok' x cs
 M_bound:∀ {w:World} {base ok x cs},M w base ok x cs→M w base (fun k=>ok k∧base≤k∧k<w.heap.size∧∃ q,q ∈ E∧∃ cells,w.heap[k]? = some (.cells cells q (0,0))) x cs
 M_move:∀ {w w1:World} {base ok x cs},(∀ k,ok k→w1.heap[k]? = w.heap[k]?)→M w base ok x cs→M w1 base ok x cs
 M_lower:∀ {w base base' ok x cs},base'≤base→M w base ok x cs→M w base' ok x cs
theorem own_move {w w1:World} {base:Nat} {e:TypeId} {size n:Nat} {v:Value} {xs:List Value} (h:w.ownsRow base e size v n xs) (hm:∀ k,v.ownBlock=some k→w1.heap[k]? = w.heap[k]?):w1.ownsRow base e size v n xs:=by
 obtain⟨h1,h2⟩:=h
 refine⟨h1,?_⟩
 rcases h2 with h2|⟨g,cap,cur,rfl,hg,hh,r⟩
 ·exact .inl h2
 ·exact .inr ⟨g,cap,cur,rfl,hg,(hm g (by simp [Value.ownBlock])).trans hh,r⟩
theorem own_typed {w:World} {base:Nat} {e:TypeId} {size n:Nat} {v:Value} {xs:List Value} (h:w.ownsRow base e size v n xs) (k:Nat) (hk:v.ownBlock=some k):∃ cells,w.heap[k]? = some (.cells cells e (0,0)):=by
 rcases h.2 with ⟨rfl,_⟩|⟨g,cap,cur,rfl,hg,hh,r⟩
 ·simp [Value.ownBlock] at hk
 ·have:g=k:=by simpa [Value.ownBlock] using hk
  subst this
  exact⟨cur,hh⟩
namespace Kd
def C {α:Type} (d:Kd α) (w:World) (A:Option Addr) (n:Nat) (xs:List α):Prop:=qaQ (d.K w) d.sz w A n xs
def R {α:Type} (d:Kd α) (e:Nat) (w:World) (base:Nat) (ok:Nat→Prop) (v:Value) (xs:List α):Prop:=
 (∀ k,v.ownBlock=some k→ok k)∧OwnRow (d.M w base (fun k=>ok k∧some k≠v.ownBlock)) e d.sz w base v xs
section
variable {α:Type} {d:Kd α} {e:Nat} {w w1:World} {base:Nat} {ok ok':Nat→Prop} {v:Value} {xs:List α}
theorem C_below {A:Option Addr} {n:Nat} (h:d.C w A n xs) (hb:Below w.heap.size w w1):d.C w1 A n xs:=qaQ.imp_ h hb (fun _ _ hp=>d.K_below hb hp)
theorem R_nil (d:Kd α) (e:Nat) (w:World) (base:Nat) (ok:Nat→Prop):d.R e w base ok (.slice none 0 0) []:=⟨fun k hk=>by simp [Value.ownBlock] at hk,OwnRow.none_ _ _ _ _ _⟩
theorem R_mono (h:d.R e w base ok v xs) (hok:∀ k,ok k→ok' k):d.R e w base ok' v xs:=⟨fun k hk=>hok k (h.1 k hk),h.2.imp_ (fun _ _ hp=>d.M_mono (fun k hk=>⟨hok k hk.1,hk.2⟩) hp)⟩
theorem R_bound (h:d.R e w base ok v xs):d.R e w base (fun k=>ok k∧base≤k∧k<w.heap.size∧∃ q,q ∈ e::d.E∧∃ cells,w.heap[k]? = some (.cells cells q (0,0))) v xs:=by
 obtain⟨h0,inner,ho,hr⟩:=h
 refine⟨fun k hk=>?_,inner,ho,hr.imp_ (fun _ _ hp=>d.M_mono (fun k hk=>?_) (d.M_bound hp))⟩
 ·obtain⟨cells,hc⟩:=own_typed ho k hk
  exact⟨h0 k hk,own_base ho k hk,own_lt ho k hk,e,List.mem_cons_self,cells,hc⟩
 ·obtain⟨⟨h1,h2⟩,h3,h4,q,hq,hc⟩:=hk
  exact⟨⟨h1,h3,h4,q,List.mem_cons_of_mem _ hq,hc⟩,h2⟩
theorem R_move (h:d.R e w base ok v xs) (hm:∀ k,ok k→w1.heap[k]? = w.heap[k]?):d.R e w1 base ok v xs:=by
 obtain⟨h0,inner,ho,hr⟩:=h
 exact⟨h0,inner,own_move ho (fun k hk=>hm k (h0 k hk)),hr.imp_ (fun _ _ hp=>d.M_move (fun k hk=>hm k hk.1) hp)⟩
theorem R_lower {base':Nat} (h:d.R e w base ok v xs) (hb:base'≤base):d.R e w base' ok v xs:=by
 obtain⟨h0,inner,ho,hr⟩:=h
 exact⟨h0,inner,own_weaken ho hb,hr.imp_ (fun _ _ hp=>d.M_lower hb hp)⟩
theorem R_step (h:d.R e w base ok v xs) (hm:∀ k,ok k→k<w.heap.size→w1.heap[k]? = w.heap[k]?):d.R e w1 base ok v xs:=
 R_mono (R_move (R_bound h) (fun k hk=>hm k hk.1 hk.2.2.1)) (fun _ hk=>hk.1)
theorem M_step {x:α} {cs:List Value} (h:d.M w base ok x cs) (hm:∀ k,ok k→k<w.heap.size→w1.heap[k]? = w.heap[k]?):d.M w1 base ok x cs:=
 d.M_mono (fun _ hk=>hk.1) (d.M_move (fun k hk=>hm k hk.1 hk.2.2.1) (d.M_bound h))
theorem R_below (h:d.R e w base ok v xs) (hb:Below w.heap.size w w1):d.R e w1 base ok v xs:=R_step h (fun k _ hk=>hb.block k hk)
theorem M_below {x:α} {cs:List Value} (h:d.M w base ok x cs) (hb:Below w.heap.size w w1):d.M w1 base ok x cs:=M_step h (fun k _ hk=>hb.block k hk)
theorem R_far (h:d.R e w base ok v xs) {p:Addr} (hok:∀ k,ok k→k≠p.block) (u:Value):d.R e (w.setCell p u) base ok v xs:=R_step h (fun k ho _=>Below.heap_setCell w p u k (hok k ho))
theorem R_types (h:d.R e w base ok v xs) {g t:Nat} {cells:Array Value} (hb:w.heap[g]? = some (.cells cells t (0,0))) (ht:∀ q,q ∈ e::d.E→q≠t):d.R e w base (fun k=>ok k∧k≠g) v xs:=
 R_mono (R_bound h) (fun k hk=>⟨hk.1,by
  obtain⟨_,_,_,q,hq,cells',hc⟩:=hk
  rintro rfl
  rw [hc] at hb
  injection hb with hb
  injection hb with _ hb
  exact ht q hq hb⟩)
theorem R_reads (h:d.R e w base ok v xs):∃ A c,v=.slice A xs.length c∧xs.length≤c∧d.C w A xs.length xs:=by
 obtain⟨A,c,he,hl,hr⟩:=OwnRow.reads h.2
 exact⟨A,c,he,hl,hr.imp_ (Below.refl _ _) (fun _ _ hp=>d.K_of_M hp)⟩
theorem R_slice (h:d.R e w base ok v xs):∃ A c,v=.slice A xs.length c:=by
 obtain⟨A,c,he,_⟩:=R_reads h
 exact⟨A,c,he⟩
theorem R_own (h:d.R e w base ok v xs):∃ inner,w.ownsRow base e d.sz v xs.length inner:=by
 obtain⟨_,inner,ho,_⟩:=h
 exact⟨inner,ho⟩
theorem R_ne (h:d.R e w base ok v xs) {g t:Nat} {cells:Array Value} (hb:w.heap[g]? = some (.cells cells t (0,0))) (ht:e≠t):some g≠v.ownBlock:=OwnRow.ne_block h.2 hb ht
end
def scalar {α:Type} (enc:α→Value) (h1:∀ x,(enc x).oneCell' = true):Kd α where
 sz:=1
 E:=[]
 K:=fun _ x cs=>cs=[enc x]
 M:=fun _ _ _ x cs=>cs=[enc x]
 K_len:=fun h=>by rw [h];rfl
 K_one:=fun h u hu=>by
  rw [h] at hu
  rw [List.mem_singleton.1 hu]
  exact h1 _
 K_below:=fun _ h=>h
 K_of_M:=fun h=>h
 M_mono:=fun _ h=>h
 M_bound:=fun h=>h
 M_move:=fun _ h=>h
 M_lower:=fun _ h=>h
def int (k:IntKind):Kd Int:=scalar (Value.int k) (fun _=>rfl)
def bool:Kd Bool:=scalar Value.bool (fun _=>rfl)
def string:Kd ByteArray:=scalar Value.string (fun _=>rfl)
def slice {α:Type} (e:Nat) (d:Kd α):Kd (List α) where
 sz:=1
 E:=e::d.E
 K:=fun w xs cs=>∃ A c,cs=[.slice A xs.length c]∧xs.length≤c∧d.C w A xs.length xs
 M:=fun w base ok xs cs=>∃ v,cs=[v]∧d.R e w base ok v xs
 K_len:=by
  rintro w x cs ⟨A,c,rfl,_⟩
  rfl
 K_one:=by
  rintro w x cs ⟨A,c,rfl,_⟩ u hu
  rw [List.mem_singleton.1 hu]
  rfl
 K_below:=by
  rintro w w1 x cs hb ⟨A,c,rfl,hl,hr⟩
  exact⟨A,c,rfl,hl,C_below hr hb⟩
 K_of_M:=by
  rintro w base ok x cs ⟨v,rfl,h⟩
  obtain⟨A,c,rfl,hl,hr⟩:=R_reads h
  exact⟨A,c,rfl,hl,hr⟩
 M_mono:=by
  rintro w base ok ok' x cs hok ⟨v,rfl,h⟩
  exact⟨v,rfl,R_mono h hok⟩
 M_bound:=by
  rintro w base ok x cs ⟨v,rfl,h⟩
  exact⟨v,rfl,R_bound h⟩
 M_move:=by
  rintro w w1 base ok x cs hm ⟨v,rfl,h⟩
  exact⟨v,rfl,R_move h hm⟩
 M_lower:=by
  rintro w base base' ok x cs hb ⟨v,rfl,h⟩
  exact⟨v,rfl,R_lower h hb⟩
def pair {α β:Type} (a:Kd α) (b:Kd β):Kd (α × β) where
 sz:=a.sz+b.sz
 E:=a.E++b.E
 K:=fun w x cs=>∃ c0 c1,cs=c0++c1∧a.K w x.1 c0∧b.K w x.2 c1
 M:=fun w base ok x cs=>∃ c0 c1,cs=c0++c1∧a.M w base ok x.1 c0∧b.M w base ok x.2 c1
 K_len:=by
  rintro w x cs ⟨c0,c1,rfl,h0,h1⟩
  rw [List.length_append,a.K_len h0,b.K_len h1]
 K_one:=by
  rintro w x cs ⟨c0,c1,rfl,h0,h1⟩ u hu
  rcases List.mem_append.1 hu with hu|hu
  ·exact a.K_one h0 u hu
  ·exact b.K_one h1 u hu
 K_below:=by
  rintro w w1 x cs hb ⟨c0,c1,rfl,h0,h1⟩
  exact⟨c0,c1,rfl,a.K_below hb h0,b.K_below hb h1⟩
 K_of_M:=by
  rintro w base ok x cs ⟨c0,c1,rfl,h0,h1⟩
  exact⟨c0,c1,rfl,a.K_of_M h0,b.K_of_M h1⟩
 M_mono:=by
  rintro w base ok ok' x cs hok ⟨c0,c1,rfl,h0,h1⟩
  exact⟨c0,c1,rfl,a.M_mono hok h0,b.M_mono hok h1⟩
 M_bound:=by
  rintro w base ok x cs ⟨c0,c1,rfl,h0,h1⟩
  refine⟨c0,c1,rfl,a.M_mono ?_ (a.M_bound h0),b.M_mono ?_ (b.M_bound h1)⟩
  ·rintro k ⟨h2,h3,h4,q,hq,hc⟩
   exact⟨h2,h3,h4,q,List.mem_append_left _ hq,hc⟩
  ·rintro k ⟨h2,h3,h4,q,hq,hc⟩
   exact⟨h2,h3,h4,q,List.mem_append_right _ hq,hc⟩
 M_move:=by
  rintro w w1 base ok x cs hm ⟨c0,c1,rfl,h0,h1⟩
  exact⟨c0,c1,rfl,a.M_move hm h0,b.M_move hm h1⟩
 M_lower:=by
  rintro w base base' ok x cs hb ⟨c0,c1,rfl,h0,h1⟩
  exact⟨c0,c1,rfl,a.M_lower hb h0,b.M_lower hb h1⟩
def iso {α β:Type} (d:Kd α) (f:β→α):Kd β where
 sz:=d.sz
 E:=d.E
 K:=fun w x cs=>d.K w (f x) cs
 M:=fun w base ok x cs=>d.M w base ok (f x) cs
 K_len:=d.K_len
 K_one:=d.K_one
 K_below:=d.K_below
 K_of_M:=d.K_of_M
 M_mono:=d.M_mono
 M_bound:=d.M_bound
 M_move:=d.M_move
 M_lower:=d.M_lower
def bot {α:Type} (sz:Nat) (E:List Nat):Kd α where
 sz:=sz
 E:=E
 K:=fun _ _ _=>False
 M:=fun _ _ _ _ _=>False
 K_len:=fun h=>h.elim
 K_one:=fun h=>h.elim
 K_below:=fun _ h=>h
 K_of_M:=fun h=>h
 M_mono:=fun _ h=>h
 M_bound:=fun h=>h
 M_move:=fun _ h=>h
 M_lower:=fun _ h=>h
def upto {α:Type} (F:Kd α→Kd α) (sz:Nat) (E:List Nat):Nat→Kd α
 |0=>bot sz E
 |n+1=>F (upto F sz E n)
theorem C_get {α:Type} {d:Kd α} {w:World} {A:Option Addr} {n:Nat} {xs:List α} (h:d.C w A n xs) (z:α) (i:Int) (h0:0≤i) (h1:i<n) :
  ∃ ad c,A=some ad∧c.length=d.sz∧d.K w (xs.getD i.toNat z) c∧∀ j u,c[j]? = some u→w.cell? (ad.add (i.toNat * d.sz+j))=some u:=qaQ.get_ h z i h0 h1
theorem R_appended {α:Type} {d:Kd α} {e base:Nat} {ok okp:Nat→Prop} {W w1:World} {v v1:Value} {xs:List α} {p:α} {inner cs:List Value} (h0:∀ k,v.ownBlock=some k→ok k) (hr:Reps (d.M W base (fun k=>ok k∧some k≠v.ownBlock)) d.sz xs inner) (hp:d.M W base okp p cs) (hokp:∀ k,okp k→ok k∧some k≠v.ownBlock) (hfresh:∀ k,W.heap.size≤k→ok k)
  (hown:w1.ownsRow base e d.sz v1 (xs.length+1) (inner++cs)) (hg:W.grownBy w1 v.ownBlock) (hat:v1.ownBlock=v.ownBlock∨∃ b,v1.ownBlock=some b∧W.heap.size≤b):d.R e w1 base ok v1 (xs++[p]):=by
 have hne:∀ k,some k≠v.ownBlock→k<W.heap.size→some k≠v1.ownBlock:=by
  intro k hk hlt
  rcases hat with hat|⟨b,hb,hle⟩
  ·rw [hat];exact hk
  ·rw [hb]
   intro he
   injection he with he
   omega
 have step:∀ {q:α} {c:List Value} {o:Nat→Prop},d.M W base o q c→(∀ k,o k→ok k∧some k≠v.ownBlock)→d.M w1 base (fun k=>ok k∧some k≠v1.ownBlock) q c:=by
  intro q c o hq ho
  have h1:=d.M_move (w1:=w1) (fun k hk=>hg.block k hk.2.2.1 (ho k hk.1).2) (d.M_bound hq)
  exact d.M_mono (fun k hk=>⟨(ho k hk.1).1,hne k (ho k hk.1).2 hk.2.2.1⟩) h1
 refine⟨fun k hk=>?_,inner++cs,by rw [List.length_append,List.length_singleton];exact hown,?_⟩
 ·rcases hat with hat|⟨b,hb,hle⟩
  ·exact h0 k (hat ▸ hk)
  ·rw [hb] at hk
   injection hk with hk
   exact hfresh k (by omega)
 ·exact (hr.imp_ (fun _ _ hq=>step hq (fun _ hk=>hk))).snoc (step hp hokp) (d.K_len (d.K_of_M hp))
section
variable {P:Program} {ops:Array Oper} {rest:List Oper} {o:Oper} {a:Act} {Q:Exit→Act→World→Prop} {α:Type}
theorem R_append (d:Kd α) {w0 W:World} (base:Nat) (hgd:o.guard=none) (s x:Operand) (t e:TypeId) (z:Value) (bytes:Nat)
  (ho:o.op=.call { callee:=.builtin .append,args:=#[s,x],argTypes:=#[t,t] })
  (ht:P.underlying t=some (.slice e)) (hinfo:(P.info? e).map (fun i=>(i.zero,i.size,i.bytes))=some (some z,d.sz,bytes)) (hz:z.cells.size=d.sz) (hs0:0<d.sz) (hb0:0<bytes)
  (v:Value) (xs:List α) (p:α) (cs:List Value) (ok okp:Nat→Prop) (hs:a.eval s=v) (hx:a.eval x=.slice (some ⟨W.heap.size,0,none⟩) 1 1) (hp:d.M W base okp p cs) (hokp:∀ k,okp k→ok k∧some k≠v.ownBlock) (hfresh:∀ k,W.heap.size≤k→ok k)
  (HO:d.R e W base ok v xs) (HB:Below base w0 W) (hbase:base≤W.heap.size) (hl:(xs.length+1) * bytes≤140737488355328)
  (h:∀ v1 w1,d.R e w1 base ok v1 (xs++[p])→Below base w0 w1→W.grownBy w1 v.ownBlock→(v1.ownBlock=v.ownBlock∨∃ b,v1.ownBlock=some b∧W.heap.size≤b)→wpList P ops Q rest (a.put o.dst v1) w1) :
  wpList P ops Q (o::rest) a (W.alloc (.cells cs.toArray e)):=by
 obtain⟨h0,inner,hown,hr⟩:=HO
 refine print_append_cells base hgd s x t e z d.sz bytes ho ht hinfo hz hs0 hb0 v xs.length inner cs hs hx (d.K_len (d.K_of_M hp)) (d.K_one (d.K_of_M hp)) hown HB hbase hl ?_
 intro v1 w1 hown1 hb1 hg1 hat1
 exact h v1 w1 (R_appended h0 hr hp hokp hfresh hown1 hg1 hat1) hb1 hg1 hat1
end
section
variable {P:Program} {ops:Array Oper} {o:Oper} {a:Act} {Q:Exit→Act→World→Prop} {Kc:Act→World→Prop} {α:Type}
theorem R_append_step (d:Kd α) {w0 W:World} (base:Nat) (hw:Region.wanted o (yielded ops a.tmps)=true) (s x:Operand) (t e:TypeId) (z:Value) (bytes:Nat)
  (ho:o.op=.call { callee:=.builtin .append,args:=#[s,x],argTypes:=#[t,t] })
  (ht:P.underlying t=some (.slice e)) (hinfo:(P.info? e).map (fun i=>(i.zero,i.size,i.bytes))=some (some z,d.sz,bytes)) (hz:z.cells.size=d.sz) (hs0:0<d.sz) (hb0:0<bytes)
  (v:Value) (xs:List α) (p:α) (cs:List Value) (ok okp:Nat→Prop) (hs:a.eval s=v) (hx:a.eval x=.slice (some ⟨W.heap.size,0,none⟩) 1 1) (hp:d.M W base okp p cs) (hokp:∀ k,okp k→ok k∧some k≠v.ownBlock) (hfresh:∀ k,W.heap.size≤k→ok k)
  (HO:d.R e W base ok v xs) (HB:Below base w0 W) (hbase:base≤W.heap.size) (hl:(xs.length+1) * bytes≤140737488355328)
  (h:∀ v1 w1,d.R e w1 base ok v1 (xs++[p])→Below base w0 w1→W.grownBy w1 v.ownBlock→(v1.ownBlock=v.ownBlock∨∃ b,v1.ownBlock=some b∧W.heap.size≤b)→Kc (a.put o.dst v1) w1) :
  if Region.wanted o (yielded ops a.tmps)=true then Oper.wp P o a (W.alloc (.cells cs.toArray e)) Kc Q else Kc (a.put o.dst undef) (W.alloc (.cells cs.toArray e)):=by
 obtain⟨h0,inner,hown,hr⟩:=HO
 refine step_append_cells base hw s x t e z d.sz bytes ho ht hinfo hz hs0 hb0 v xs.length inner cs hs hx (d.K_len (d.K_of_M hp)) (d.K_one (d.K_of_M hp)) hown HB hbase hl ?_
 intro v1 w1 hown1 hb1 hg1 hat1
 exact h v1 w1 (R_appended h0 hr hp hokp hfresh hown1 hg1 hat1) hb1 hg1 hat1
end
theorem reps_scalar {α:Type} {enc:α→Value} (xs:List α):Reps (fun (x:α) (cs:List Value)=>cs=[enc x]) 1 xs (encs enc xs):=by
 refine⟨by simp [encs],fun j p hj=>?_⟩
 obtain⟨hl,hp⟩:=List.getElem?_eq_some_iff.1 hj
 have hl':j<(encs enc xs).length:=by rw [encs_length];exact hl
 rw [Nat.mul_one,List.drop_eq_getElem_cons hl']
 simp [encs,hp]
theorem R_of_own {α:Type} {enc:α→Value} {h1:∀ x,(enc x).oneCell' = true} {e:Nat} {w:World} {base:Nat} {ok:Nat→Prop} {v:Value} {xs:List α} (ho:w.ownsRow base e 1 v xs.length (encs enc xs)) (hok:∀ k,v.ownBlock=some k→ok k):(scalar enc h1).R e w base ok v xs:=⟨hok,encs enc xs,ho,reps_scalar xs⟩
theorem own_of_R {α:Type} {enc:α→Value} {h1:∀ x,(enc x).oneCell' = true} {e:Nat} {w:World} {base:Nat} {ok:Nat→Prop} {v:Value} {xs:List α} (h:(scalar enc h1).R e w base ok v xs):w.ownsRow base e 1 v xs.length (encs enc xs):=by
 obtain⟨_,inner,ho,hr⟩:=h
 have:inner=encs enc xs:=by
  apply List.ext_getElem?
  intro j
  rcases Nat.lt_or_ge j xs.length with hj|hj
  ·have h2:=hr.2 j _ (List.getElem?_eq_getElem hj)
   have hl:j<inner.length:=by have:=hr.1;simp [scalar] at this;omega
   have h3:(inner.drop (j * 1)).take 1=[enc xs[j]]:=h2
   rw [Nat.mul_one,List.drop_eq_getElem_cons hl] at h3
   have h4:inner[j]=enc xs[j]:=by
    have h5:=congrArg List.head? h3
    rw [List.take_succ_cons] at h5
    exact Option.some.inj h5
   rw [List.getElem?_eq_getElem hl,h4]
   simp [encs,List.getElem?_eq_getElem hj]
  ·have h3:inner.length=xs.length:=by have:=hr.1;simp [scalar] at this;omega
   rw [List.getElem?_eq_none (by omega),List.getElem?_eq_none (by rw [encs_length];omega)]
 rw [← this]
 exact ho
theorem reads_of_C {α:Type} {enc:α→Value} {d:α} {h1:∀ x,(enc x).oneCell' = true} {w:World} {A:Option Addr} {n:Nat} {xs:List α} (h:(scalar enc h1).C w A n xs):ReadsOf enc d w A n xs:=by
 refine⟨h.1,h.2.1,fun hn=>?_⟩
 obtain⟨ad,e,hc⟩:=h.2.2 hn
 refine⟨ad,e,fun j hj=>?_⟩
 have hl:j<xs.length:=by have:=h.1;omega
 obtain⟨c,_,hK,hcell⟩:=hc j _ (List.getElem?_eq_getElem hl)
 have hK':c=[enc xs[j]]:=hK
 subst hK'
 have:=hcell 0 _ rfl
 simpa [scalar,List.getD_eq_getElem?_getD,List.getElem?_eq_getElem hl] using this
end Kd
namespace Kd
structure Mono {α β:Type} (F:Kd α→Kd β):Prop where
 sz:∀ d d':Kd α,d.sz=d'.sz→(F d).sz=(F d').sz
 K:∀ d d':Kd α,d.sz=d'.sz→(∀ w x cs,d.K w x cs→d'.K w x cs)→∀ w x cs,(F d).K w x cs→(F d').K w x cs
 M:∀ d d':Kd α,d.sz=d'.sz→(∀ w base ok x cs,d.M w base ok x cs→d'.M w base ok x cs)→∀ w base ok x cs,(F d).M w base ok x cs→(F d').M w base ok x cs
section
variable {α:Type} {F:Kd α→Kd α} {sz:Nat} {E:List Nat} {hs:∀ n,(upto F sz E n).sz=sz} {hE:∀ n q,q ∈ (upto F sz E n).E→q ∈ E}
end
end Kd
namespace Kd
theorem R_after {α:Type} {d:Kd α} {e base:Nat} {ok:Nat→Prop} {W w1:World} {u v v1:Value} {xs:List α} (h:d.R e W base (fun k=>ok k∧some k≠v.ownBlock) u xs) (hg:W.grownBy w1 v.ownBlock) (hat:v1.ownBlock=v.ownBlock∨∃ b,v1.ownBlock=some b∧W.heap.size≤b):d.R e w1 base (fun k=>ok k∧some k≠v1.ownBlock) u xs:=by
 refine R_mono (R_move (R_bound h) (fun k hk=>hg.block k hk.2.2.1 hk.1.2)) (fun k hk=>⟨hk.1.1,?_⟩)
 rcases hat with hat|⟨b,hb,hle⟩
 ·rw [hat];exact hk.1.2
 ·rw [hb]
  intro he
  injection he with he
  have:=hk.2.2.1
  omega
end Kd
namespace Kd
section
variable {α β:Type} {d:Kd α} {d':Kd β} {e e':Nat} {w w1 W:World} {base b b':Nat} {ok ok' okv oku:Nat→Prop} {v u:Value} {xs:List α} {ys:List β}
theorem R_alloc (h:d.R e w base ok v xs) (o:Obj):d.R e (w.alloc o) base ok v xs:=R_below h (qah (Below.refl _ _) o)
theorem R_drew (h:d.R e w base ok v xs):d.R e w.drew base ok v xs:=R_below h (below_drew (Below.refl _ _))
theorem R_drewN (h:d.R e w base ok v xs) (m:Nat):d.R e (w.drewN m) base ok v xs:=R_below h (qae (Below.refl _ _) m)
theorem C_alloc {A:Option Addr} {n:Nat} (h:d.C w A n xs) (o:Obj):d.C (w.alloc o) A n xs:=C_below h (qah (Below.refl _ _) o)
theorem C_drew {A:Option Addr} {n:Nat} (h:d.C w A n xs):d.C w.drew A n xs:=C_below h (below_drew (Below.refl _ _))
theorem C_drewN {A:Option Addr} {n:Nat} (h:d.C w A n xs) (m:Nat):d.C (w.drewN m) A n xs:=C_below h (qae (Below.refl _ _) m)
theorem C_nil (d:Kd α) (w:World):d.C w none ([]:List α).length []:=⟨rfl,by simp,fun h=>absurd h (Nat.lt_irrefl 0)⟩
theorem R_reads' {A:Option Addr} {n c:Nat} (h:d.R e w base ok (.slice A n c) xs):n=xs.length∧n≤c∧d.C w A xs.length xs:=by
 obtain⟨A',c',he,hl,hr⟩:=R_reads h
 injection he with h1 h2 h3
 subst h1
 exact⟨h2,by omega,hr⟩
theorem R_lt (h:d.R e w base ok v xs):∀ k,v.ownBlock=some k→k<w.heap.size:=by
 obtain⟨inner,ho⟩:=R_own h
 exact own_lt ho
theorem R_base (h:d.R e w base ok v xs):∀ k,v.ownBlock=some k→base≤k:=by
 obtain⟨inner,ho⟩:=R_own h
 exact own_base ho
theorem R_form (h:d.R e w base ok v xs) (hp:0<xs.length):∃ g cap,v=.slice (some ⟨g,0,none⟩) xs.length cap∧base≤g∧g<w.heap.size∧∃ cells,w.heap[g]? = some (.cells cells e (0,0)):=by
 obtain⟨inner,ho⟩:=R_own h
 obtain⟨g,cap,he,hb,hl⟩:=ho.form hp
 obtain⟨cells,hc⟩:=own_typed ho g (by rw [he];simp [Value.ownBlock])
 exact⟨g,cap,he,hb,hl,cells,hc⟩
end
section
variable {w W:World} {A:Option Addr} {n:Nat}
theorem at_int {k:IntKind} {xs:List Int} (h:(Kd.int k).C w A n xs) (i:Int) (h0:0≤i) (h1:i<n):∃ ad,A=some ad∧w.cell? (ad.add i.toNat)=some (.int k (rd xs i)):=
 ReadsOf.at_ (reads_of_C (enc:=Value.int k) (d:=(0:Int)) (h1:=fun _=>rfl) h) i h0 h1
variable {α:Type} {enc:α→Value} {h1:∀ x,(enc x).oneCell' = true} {e base g cap:Nat} {ok:Nat→Prop} {xs:List α}
theorem R_cell (d:α) (h:(scalar enc h1).R e W base ok (.slice (some ⟨g,0,none⟩) xs.length cap) xs) (i:Int) (h0:0≤i) (hi:i<xs.length):W.cell? ⟨g,i.toNat,none⟩=some (enc (rdOf d xs i))∧W.frozen? ⟨g,i.toNat,none⟩=false:=own_at_of (own_of_R h) i h0 hi
theorem R_put (h:(scalar enc h1).R e W base ok (.slice (some ⟨g,0,none⟩) xs.length cap) xs) (i:Int) (x:α):(scalar enc h1).R e (W.setCell ⟨g,i.toNat,none⟩ (enc x)) base ok (.slice (some ⟨g,0,none⟩) xs.length cap) (xs.set i.toNat x)∧W.grownBy (W.setCell ⟨g,i.toNat,none⟩ (enc x)) (some g):=by
 obtain⟨ho,hg⟩:=own_store_of (own_of_R h) i x
 exact⟨R_of_own (by rw [List.length_set];exact ho) h.1,hg⟩
end
section
variable {P:Program} {ops:Array Oper} {rest:List Oper} {o:Oper} {a:Act} {Q:Exit→Act→World→Prop}
theorem event_run {W w1:World} {v:Value} (hgd:o.guard=none) (hrun:(execOp a.eval o).run P W=.ok (.value v) w1) (h:wpList P ops Q rest (a.put o.dst v) w1):wpList P ops Q (o::rest) a W:=by
 refine wpList_plain hgd fun K hK=>?_
 unfold Oper.wp
 rw [hrun]
 exact hK _ _ h
variable {α:Type}
theorem R_lit (d:Kd α) {w0 W:World} (base e:Nat) (hgd:o.guard=none) {N:Tmp} (_hd:o.dst=some N) {xs:List α} {inner:List Value} {ok okp:Nat→Prop}
  (hrun:(execOp a.eval o).run P W=.ok (.value (.slice (some ⟨W.heap.size,0,none⟩) xs.length xs.length)) (W.alloc (.cells inner.toArray e)))
  (hrep:Reps (d.M W base okp) d.sz xs inner) (hok:∀ k,okp k→ok k) (hfresh:ok W.heap.size) (HB:Below base w0 W) (hbase:base≤W.heap.size) (hm:xs.length≤9223372036854775807)
  (h:∀ v1 w1,d.R e w1 base ok v1 xs→Below base w0 w1→W.grownBy w1 none→(∃ b,v1.ownBlock=some b∧W.heap.size≤b)→wpList P ops Q rest (a.put o.dst v1) w1):wpList P ops Q (o::rest) a W:=by
 refine event_run hgd hrun (h _ _ ⟨fun k hk=>?_,inner,?_,?_⟩ (HB.alloc hbase _) (World.grownBy_alloc W _ none) ⟨W.heap.size,by simp [Value.ownBlock],Nat.le_refl _⟩)
 ·have:W.heap.size=k:=by simpa [Value.ownBlock] using hk
  subst this
  exact hfresh
 ·have h2:=World.ownsRow_lit (base:=base) (e:=e) (size:=d.sz) W inner.toArray xs.length hbase (by simpa [maxLen] using hm) (by simpa using hrep.1)
  simpa using h2
 ·refine hrep.imp_ (fun p c hp=>d.M_mono (fun k hk=>⟨hok k hk.1,fun he=>?_⟩) (M_below (d.M_bound hp) (qah (Below.refl _ _) _)))
  have h3:k=W.heap.size:=by simpa [Value.ownBlock] using he
  have:=hk.2.2.1
  omega
end
end Kd
section
variable {P:Program}
theorem cut_to (t e:TypeId) (kh:IntKind) {i:TypeInfo} (ht:P.underlying t=some (.slice e)) (hi:P.info? e=some i) (A:Option Addr) (n c:Nat) (j:Int) (h0:0≤j) (hm:j≤n) (hc:n≤c) :
  ∀ W:World,(Instr.slice t (.slice A n c) none (some (.int kh j)) none).run P W=.ok (.slice A j.toNat c) W:=by
 intro W
 have hel:P.elem t=e:=by simp [Program.elem,ht]
 have hu:P.underlying t=some (.slice (P.elem t)):=by rw [hel];exact ht
 have ha:(A.map fun x=>x.add 0)=A:=by cases A<;>simp [Addr.add]
 rw [run_slice_h W t A n c hu kh j h0 (by omega),hel]
 simp [sizeOf,typeInfo,hi,sliced,Result.andThen,ha]
theorem cut_from (t e:TypeId) (kl:IntKind) {i:TypeInfo} (ht:P.underlying t=some (.slice e)) (hi:P.info? e=some i) (size:Nat) (hsz:i.size=size) (A:Option Addr) (n c:Nat) (j:Int) (h0:0≤j) (hm:j≤n) :
  ∀ W:World,(Instr.slice t (.slice A n c) (some (.int kl j)) none none).run P W=.ok (.slice (if c=j.toNat then A else A.map (·.add (j.toNat * size))) (n - j.toNat) (c - j.toNat)) W:=by
 intro W
 have hel:P.elem t=e:=by simp [Program.elem,ht]
 have hu:P.underlying t=some (.slice (P.elem t)):=by rw [hel];exact ht
 rw [run_slice_l W t A n c hu kl j h0 hm,hel]
 simp [sizeOf,typeInfo,hi,hsz,sliced,Result.andThen]
end
def QRow (w:World) (base:Nat) (e:TypeId) (size:Nat) (v:Value) (n:Nat) (xs:List Value):Prop:=
 xs.length=n * size ∧
 ((n=0∧∃ A,v=.slice A 0 0∧∀ a,A=some a→base≤a.block∧∃ cur,w.heap[a.block]? = some (.cells cur e (0,0))) ∨
  ∃ g off cap cur,v=.slice (some ⟨g,off * size,none⟩) n cap∧base≤g∧w.heap[g]? = some (.cells cur e (0,0))∧n≤cap∧off+cap≤maxLen∧cur.size=(off+cap) * size∧(cur.toList.drop (off * size)).take (n * size)=xs)
section
variable {w w1:World} {base n size:Nat} {e:TypeId} {v:Value} {xs:List Value}
theorem q_of_own (h:w.ownsRow base e size v n xs):QRow w base e size v n xs:=by
 obtain⟨h1,h2⟩:=h
 refine⟨h1,?_⟩
 rcases h2 with ⟨rfl,h0⟩|⟨g,cap,cur,rfl,hb,hh,hnc,hcm,hcs,ht⟩
 ·exact .inl ⟨h0,none,rfl,fun a ha=>by cases ha⟩
 ·exact .inr ⟨g,0,cap,cur,by rw [Nat.zero_mul],hb,hh,hnc,by rw [Nat.zero_add];exact hcm,by rw [Nat.zero_add];exact hcs,by rw [Nat.zero_mul,List.drop_zero];exact ht⟩
theorem add_at (g o j:Nat):(⟨g,o,none⟩:Addr).add j=⟨g,o+j,none⟩:=by unfold Addr.add;split<;>simp_all
end
section
variable {P:Program}
end
namespace Kd
def Q {α:Type} (d:Kd α) (e:Nat) (w:World) (base:Nat) (ok:Nat→Prop) (v:Value) (xs:List α):Prop:=
 (∀ k,v.ownBlock=some k→ok k)∧∃ inner,QRow w base e d.sz v xs.length inner∧Reps (d.M w base (fun k=>ok k∧some k≠v.ownBlock)) d.sz xs inner
section
variable {α:Type} {d:Kd α} {e:Nat} {w w1 W:World} {base:Nat} {ok ok':Nat→Prop} {v:Value} {xs:List α}
theorem Q_of_R (h:d.R e w base ok v xs):d.Q e w base ok v xs:=by
 obtain⟨h0,inner,ho,hr⟩:=h
 exact⟨h0,inner,q_of_own ho,hr⟩
theorem Q_nil (d:Kd α) (e:Nat) (w:World) (base:Nat) (ok:Nat→Prop):d.Q e w base ok (.slice none 0 0) []:=Q_of_R (R_nil d e w base ok)
end
section
variable {P:Program} {ops:Array Oper} {rest:List Oper} {o:Oper} {a:Act} {Q':Exit→Act→World→Prop} {Kc:Act→World→Prop} {α:Type}
end
end Kd
namespace Kd
section
variable {α:Type} {d:Kd α} {e e':Nat} {w w1 W:World} {base:Nat} {ok:Nat→Prop} {u v:Value} {xs:List α}
theorem R_typed (h:d.R e w base ok v xs):∀ k,v.ownBlock=some k→∃ cells,w.heap[k]? = some (.cells cells e (0,0)):=by
 obtain⟨inner,ho⟩:=R_own h
 exact fun k hk=>own_typed ho k hk
theorem R_over' (h:d.R e W base ok u xs) (hty:∀ k,v.ownBlock=some k→∃ cells,W.heap[k]? = some (.cells cells e' (0,0))) (ht:∀ q,q ∈ e::d.E→q≠e') (hg:W.grownBy w1 v.ownBlock):d.R e w1 base ok u xs:=by
 refine R_mono (R_move (R_bound h) (fun k hk=>hg.block k hk.2.2.1 (fun he=>?_))) (fun _ hk=>hk.1)
 obtain⟨_,_,_,q,hq,cells,hc⟩:=hk
 obtain⟨cells',hc'⟩:=hty k he.symm
 rw [hc] at hc'
 injection hc' with hc'
 injection hc' with _ hc'
 exact ht q hq hc'
theorem R_apart' (h:d.R e W base ok u xs) (hty:∀ k,v.ownBlock=some k→∃ cells,W.heap[k]? = some (.cells cells e' (0,0))) (ht:∀ q,q ∈ e::d.E→q≠e'):d.R e W base (fun k=>ok k∧some k≠v.ownBlock) u xs:=by
 refine R_mono (R_bound h) (fun k hk=>⟨hk.1,fun he=>?_⟩)
 obtain⟨_,_,_,q,hq,cells,hc⟩:=hk
 obtain⟨cells',hc'⟩:=hty k he.symm
 rw [hc] at hc'
 injection hc' with hc'
 injection hc' with _ hc'
 exact ht q hq hc'
theorem R_elder' (hu:d.R e W base ok u xs) (hbase:∀ k,v.ownBlock=some k→W.heap.size≤k) (hb:Below W.heap.size W w1):d.R e w1 base (fun k=>ok k∧some k≠v.ownBlock) u xs:=
 R_mono (R_move (R_bound hu) (fun k hk=>hb.block k hk.2.2.1)) (fun k hk=>⟨hk.1,fun he=>by have:=hbase k he.symm;have:=hk.2.2.1;omega⟩)
theorem R_new' (h:d.R e w1 W.heap.size ok v xs) (hlt:∀ k,u.ownBlock=some k→k<W.heap.size):d.R e w1 W.heap.size (fun k=>ok k∧some k≠u.ownBlock) v xs:=
 R_mono (R_bound h) (fun k hk=>⟨hk.1,fun he=>by have:=hlt k he.symm;have:=hk.2.1;omega⟩)
theorem fresh' (hlt:∀ k,u.ownBlock=some k→k<W.heap.size):∀ k,W.heap.size≤k→some k≠u.ownBlock:=fun k hk he=>by have:=hlt k he.symm;omega
end
end Kd
namespace Kd
section
variable {α:Type} {d:Kd α} {e base g n cap:Nat} {ok okp:Nat→Prop} {W:World} {xs:List α}
theorem R_elem (h:d.R e W base ok (.slice (some ⟨g,0,none⟩) n cap) xs) (z:α) (i:Int) (h0:0≤i) (h1:i<n) :
  ∃ c,c.length=d.sz∧d.M W base (fun k=>ok k∧k≠g) (xs.getD i.toNat z) c∧(∀ j u,c[j]? = some u→W.cell? ⟨g,i.toNat * d.sz+j,none⟩=some u)∧∀ j,W.frozen? ⟨g,i.toNat * d.sz+j,none⟩=false:=by
 obtain⟨hn,hnc,hC⟩:=R_reads' h
 obtain⟨_,inner,ho,hr⟩:=h
 have hil:i.toNat<xs.length:=by omega
 have hseg:i.toNat * d.sz+d.sz≤inner.length:=by rw [hr.1,← Nat.succ_mul];exact Nat.mul_le_mul_right _ hil
 have hM:=hr.2 i.toNat _ (List.getElem?_eq_getElem hil)
 refine⟨(inner.drop (i.toNat * d.sz)).take d.sz,by rw [List.length_take,List.length_drop];omega,?_,fun j u hu=>?_,fun j=>?_⟩
 ·rw [List.getD_eq_getElem?_getD,List.getElem?_eq_getElem hil]
  exact d.M_mono (fun k hk=>⟨hk.1,fun he=>hk.2 (by rw [he];simp [Value.ownBlock])⟩) hM
 ·rw [List.getElem?_take] at hu
  split at hu
  ·rw [List.getElem?_drop] at hu
   have:=ho.cells (g:=g) (by simp [Value.ownBlock]) _ u hu
   rwa [add_plain] at this
  ·cases hu
 ·obtain⟨cells,hc⟩:=own_typed ho g (by simp [Value.ownBlock])
  exact qan hc _
end
end Kd
namespace Kd
section
variable {α:Type} {F:Kd α→Kd α} {sz:Nat} {E:List Nat} {hs:∀ n,(upto F sz E n).sz=sz} {hE:∀ n q,q ∈ (upto F sz E n).E→q ∈ E}
end
end Kd
namespace Kd
theorem reps_append {α:Type} {R:α→List Value→Prop} {size:Nat} {ps qs:List α} {cs ds:List Value} (h:Reps R size ps cs) (h':Reps R size qs ds):Reps R size (ps++qs) (cs++ds):=by
 refine⟨by rw [List.length_append,List.length_append,h.1,h'.1,Nat.add_mul],fun j p hj=>?_⟩
 rcases Nat.lt_or_ge j ps.length with hlt|hge
 ·rw [List.getElem?_append_left hlt] at hj
  have hle:j * size+size≤cs.length:=by rw [h.1,← Nat.succ_mul];exact Nat.mul_le_mul_right _ hlt
  rw [List.drop_append_of_le_length (by omega),List.take_append_of_le_length (by rw [List.length_drop];omega)]
  exact h.2 j p hj
 ·rw [List.getElem?_append_right hge] at hj
  have h2:=h'.2 (j - ps.length) p hj
  have hle:ps.length * size≤j * size:=Nat.mul_le_mul_right _ hge
  rw [List.drop_append,List.drop_eq_nil_of_le (by rw [h.1];exact hle),List.nil_append,h.1,← Nat.sub_mul]
  exact h2
section
variable {P:Program} {ops:Array Oper} {rest:List Oper} {o:Oper} {a:Act} {Q:Exit→Act→World→Prop} {α:Type}
theorem R_append_rows (d:Kd α) {Rr:α→List Value→Prop} {w0 W:World} (base:Nat) (hgd:o.guard=none) (s x:Operand) (t e:TypeId) (z:Value) (bytes:Nat)
  (ho:o.op=.call { callee:=.builtin .append,args:=#[s,x],argTypes:=#[t,t] })
  (ht:P.underlying t=some (.slice e)) (hinfo:(P.info? e).map (fun i=>(i.zero,i.size,i.bytes))=some (some z,d.sz,bytes)) (hz:z.cells.size=d.sz) (hs0:0<d.sz) (hb0:0<bytes)
  (v:Value) (xs ys:List α) (A:Option Addr) (m c:Nat) (ok okp:Nat→Prop) (hs:a.eval s=v) (hx:a.eval x=.slice A m c)
  (HO:d.R e W base ok v xs) (HR:qaQ Rr d.sz W A m ys) (hKM:∀ x cs,Rr x cs→d.M W base okp x cs) (hokp:∀ k,okp k→ok k∧some k≠v.ownBlock) (hfresh:∀ k,W.heap.size≤k→ok k)
  (HB:Below base w0 W) (hbase:base≤W.heap.size) (hl:(xs.length+m) * bytes≤140737488355328)
  (h:∀ v1 w1,d.R e w1 base ok v1 (xs++ys)→Below base w0 w1→W.grownBy w1 v.ownBlock→(v1.ownBlock=v.ownBlock∨∃ b,v1.ownBlock=some b∧W.heap.size≤b)→wpList P ops Q rest (a.put o.dst v1) w1) :
  wpList P ops Q (o::rest) a W:=by
 obtain⟨i0,hi,hzz⟩:=Option.map_eq_some_iff.1 hinfo
 simp only [Prod.mk.injEq] at hzz
 obtain⟨hz0,hz1,hz2⟩:=hzz
 have hm:ys.length=m:=HR.1
 have hlen:xs.length+m≤140737488355328:=Nat.le_trans (Nat.le_mul_of_pos_right _ hb0) hl
 obtain⟨hok,inner,hown,hr⟩:=HO
 have hrun:∃ v1 w1,(Builtin.append_ #[t,t] o.type #[v,.slice A m c]).run P W=.ok v1 w1∧d.R e w1 base ok v1 (xs++ys)∧W.grownBy w1 v.ownBlock∧(v1.ownBlock=v.ownBlock∨∃ b,v1.ownBlock=some b∧W.heap.size≤b):=by
  rcases A with _|ad
  ·have h0:m=0:=by
    rcases Nat.eq_zero_or_pos m with h0|h0
    ·exact h0
    ·obtain⟨ad,h,_⟩:=HR.2.2 h0
     cases h
   subst h0
   obtain rfl:ys=[]:=List.eq_nil_of_length_eq_zero hm
   refine⟨v,W,?_,by rw [List.append_nil];exact⟨hok,inner,hown,hr⟩,World.grownBy.refl W _,.inl rfl⟩
   rcases hown.2 with ⟨rfl,hn⟩|⟨g,cap,cur,rfl,_,_,hnc,_⟩
   ·simp [Builtin.append_,run_underlying ht,sizeOf,typeInfo,hi,Builtin.lenOf,Builtin.firstCells]
   ·simp [Builtin.append_,run_underlying ht,sizeOf,typeInfo,hi,Builtin.lenOf,Builtin.firstCells,hnc,storeCells]
  ·obtain⟨news,hnr,hnc⟩:=qaQ.inner_ HR
   have hnM:Reps (d.M W base okp) d.sz ys news:=hnr.imp_ (fun p c hp=>hKM p c hp)
   have hone:∀ u ∈ news,u.oneCell' = true:=by
    intro u hu
    obtain⟨q,hq,rfl⟩:=List.mem_iff_getElem.1 hu
    have hql:q / d.sz<ys.length:=by
     rw [Nat.div_lt_iff_lt_mul hs0]
     rw [← hnM.1]
     exact hq
    have hc:=hnM.2 (q / d.sz) _ (List.getElem?_eq_getElem hql)
    refine d.K_one (d.K_of_M hc) _ ?_
    rw [List.mem_iff_getElem?]
    refine⟨q % d.sz,?_⟩
    rw [List.getElem?_take,if_pos (Nat.mod_lt _ hs0),List.getElem?_drop,Nat.mul_comm,Nat.div_add_mod,List.getElem?_eq_getElem hq]
   obtain⟨v1,w1,hrun,h2,hg,_,hat⟩:=run_append_own_at (P:=P) W base t o.type e i0 z d.sz bytes ht hi hz0 hz1 hz2 hz hs0 v xs.length inner hown ad m c news (by rw [hnM.1,hm]) hnc hone (by simp only [maxLen];omega) hl hbase
   have hat':v1.ownBlock=v.ownBlock∨∃ b,v1.ownBlock=some b∧W.heap.size≤b:=by
    rcases hat with hat|hat
    ·exact .inl hat
    ·exact .inr ⟨_,hat,Nat.le_refl _⟩
   have hne:∀ k,some k≠v.ownBlock→k<W.heap.size→some k≠v1.ownBlock:=by
    intro k hk hlt
    rcases hat' with hat|⟨b,hb,hle⟩
    ·rw [hat];exact hk
    ·rw [hb]
     intro he
     injection he with he
     omega
   have step:∀ {q:α} {c:List Value} {o:Nat→Prop},d.M W base o q c→(∀ k,o k→ok k∧some k≠v.ownBlock)→d.M w1 base (fun k=>ok k∧some k≠v1.ownBlock) q c:=by
    intro q c o hq ho
    have h1:=d.M_move (w1:=w1) (fun k hk=>hg.block k hk.2.2.1 (ho k hk.1).2) (d.M_bound hq)
    exact d.M_mono (fun k hk=>⟨(ho k hk.1).1,hne k (ho k hk.1).2 hk.2.2.1⟩) h1
   refine⟨v1,w1,hrun,⟨fun k hk=>?_,inner++news,by rw [List.length_append,hm];exact h2,reps_append (hr.imp_ (fun _ _ hq=>step hq (fun _ hk=>hk))) (hnM.imp_ (fun _ _ hq=>step hq hokp))⟩,hg,hat'⟩
   rcases hat' with hat|⟨b,hb,hle⟩
   ·exact hok k (hat ▸ hk)
   ·rw [hb] at hk
    injection hk with hk
    exact hfresh k (by omega)
 obtain⟨v1,w1,hr1,h1,hg,hat⟩:=hrun
 refine wpList_plain hgd fun K hK=>?_
 unfold Oper.wp execOp
 simp only [ho,resolve,invoke,builtin,Sem.run_bind,Sem.run_pure,Result.andThen_ok,List.map_toArray,List.map_cons,List.map_nil,hs,hx,hr1]
 exact hK _ _ (h v1 w1 h1 (HB.grown hg hbase (own_base hown)) hg hat)
end
end Kd
namespace Kd
section
variable {P:Program} {ops:Array Oper} {rest:List Oper} {o:Oper} {a:Act} {Q:Exit→Act→World→Prop} {α:Type}
end
end Kd
theorem add_add (a:Addr) (i j:Nat):(a.add i).add j=a.add (i+j):=by
 unfold Addr.add
 by_cases h1:i=0<;>by_cases h2:j=0<;>simp [h1,h2,Nat.add_assoc]
namespace Kd
section
variable {α:Type} {k:Kd α} {w:World} {A:Option Addr} {xs:List α} {m c:Nat}
theorem C_take (h:k.C w A xs.length xs) (hm:m≤xs.length):k.C w A (xs.take m).length (xs.take m):=by
 have hl:(xs.take m).length=m:=by rw [List.length_take];omega
 refine⟨rfl,by rw [hl];have:=h.2.1;omega,fun hp=>?_⟩
 obtain⟨ad,e,hc⟩:=h.2.2 (by omega)
 refine⟨ad,e,fun j p hj=>hc j p ?_⟩
 rw [List.getElem?_take] at hj
 split at hj
 ·exact hj
 ·cases hj
theorem C_drop (h:k.C w A xs.length xs) (hm:m≤xs.length) (hc:xs.length≤c):k.C w (if c=m then A else A.map (·.add (m * k.sz))) (xs.drop m).length (xs.drop m):=by
 have hl:(xs.drop m).length=xs.length - m:=List.length_drop
 refine⟨rfl,by rw [hl];have:=h.2.1;omega,fun hp=>?_⟩
 rw [hl] at hp
 obtain⟨ad,rfl,hcell⟩:=h.2.2 (by omega)
 rw [if_neg (by omega)]
 refine⟨ad.add (m * k.sz),rfl,fun j p hj=>?_⟩
 rw [List.getElem?_drop] at hj
 obtain⟨cs,h1,h2,h3⟩:=hcell (m+j) p hj
 refine⟨cs,h1,h2,fun i u hu=>?_⟩
 rw [add_add,show m * k.sz+(j * k.sz+i)=(m+j) * k.sz+i by rw [Nat.add_mul];omega]
 exact h3 i u hu
end
end Kd
section
variable {P:Program}
end
theorem qac {w W:World} (h:Below w.heap.size w W):w.heap.size≤W.heap.size:=h.size
theorem qai {w W w2:World} (h:Below w.heap.size w W) (k:Below W.heap.size W w2):Below w.heap.size w w2:=below_then h h.size k
theorem qa6.nil (W:World) (k:IntKind):qa6 W k none ([]:List Int).length []:=⟨rfl,by simp,fun h=>absurd h (Nat.lt_irrefl 0)⟩
theorem qa6.drewN {W:World} {k:IntKind} {A:Option Addr} {n:Nat} {xs:List Int} (h:qa6 W k A n xs) (m:Nat):qa6 (W.drewN m) k A n xs:=h
theorem qad {w W:World} {g j:Nat} {v:Value} (h:Below w.heap.size w W) (hg:w.heap.size≤g):Below w.heap.size w (W.setCell ⟨g,j,none⟩ v):=h.setCell hg _
theorem add_block (a:Addr) (i:Nat):(a.add i).block=a.block:=by unfold Addr.add;split<;>rfl
theorem ReadsOf.nil {α:Type} (enc:α→Value) (d:α) (W:World):ReadsOf enc d W none ([]:List α).length []:=⟨rfl,by simp,fun h=>absurd h (Nat.lt_irrefl 0)⟩
theorem ReadsOf.drewN {α:Type} {enc:α→Value} {d:α} {W:World} {A:Option Addr} {n:Nat} {xs:List α} (h:ReadsOf enc d W A n xs) (m:Nat):ReadsOf enc d (W.drewN m) A n xs:=h
theorem qaq {W:World} {p a:Addr} (h:a.block≠p.block) (u:Value):(W.setCell p u).cell? a=W.cell? a:=by
 have:=Below.heap_setCell W p u a.block h
 simp [World.cell?,this]
theorem qak {w:World} {g:Nat} {t:TypeId} {cs cs':Array Value} (h:w.heap[g]? = some (.cells cs t (0,0))) (i:Nat) (u:Value) (e:cs.setIfInBounds i u=cs'):(w.setCell ⟨g,i,none⟩ u).heap[g]? = some (.cells cs' t (0,0)):=e ▸ blk_set h i u
theorem qag {base:Nat} {w W:World} (h:Below base w W):Below base w W.drew:=h.drew
namespace Kd
section
variable {α β:Type} {d:Kd α} {d':Kd β} {e e' base base' n:Nat} {ok ok':Nat→Prop} {w W w1 W1:World} {v u:Value} {xs:List α} {ys:List β} {A:Option Addr} {c:Nat}
end
section
variable {α:Type} {enc:α→Value} {h1:∀ x,(enc x).oneCell' = true} {w W:World} {A:Option Addr} {n g:Nat} {xs:List α}
end
end Kd
namespace Kd
section
variable {α:Type} {d:Kd α} {e base g:Nat} {ok:Nat→Prop} {w w1:World} {v:Value} {xs:List α} {o:Obj}
theorem freshB (hb:w.heap[g]? = some o):∀ k,w.heap.size≤k→k≠g:=fun k hk=>by have:=blk_lt hb;omega
end
end Kd
section
variable {P:Program} {ops:Array Oper} {rest:List Oper} {o:Oper} {a:Act} {Q:Exit→Act→World→Prop}
theorem qao {W:World} (hgd:o.guard=none) {N:Tmp} (_hd:o.dst=some N) {cs:Array Value} {t:TypeId}
  (hrun:(execOp a.eval o).run P W=.ok (.value (.pointer (some ⟨W.heap.size,0,none⟩))) (W.alloc (.cells cs t (0,0))))
  (h:∀ g,g=W.heap.size→∀ w1,w1.heap[g]? = some (.cells cs t (0,0))→Below W.heap.size W w1→wpList P ops Q rest (a.put o.dst (.pointer (some ⟨g,0,none⟩))) w1):wpList P ops Q (o::rest) a W:=
 Kd.event_run hgd hrun (h _ rfl _ (blk_new W _) (qah (Below.refl _ _) _))
end
namespace Kd
section
variable {α:Type} {enc:α→Value} {h1:∀ x,(enc x).oneCell' = true} {e base g n cap:Nat} {ok:Nat→Prop} {W:World} {xs:List α}
theorem R_celln (d:α) (h:(scalar enc h1).R e W base ok (.slice (some ⟨g,0,none⟩) n cap) xs) (i:Int) (h0:0≤i) (hi:i<n):W.cell? ⟨g,i.toNat,none⟩=some (enc (rdOf d xs i))∧W.frozen? ⟨g,i.toNat,none⟩=false:=by
 obtain⟨rfl,_⟩:=R_reads' h
 exact R_cell d h i h0 hi
theorem R_putn (h:(scalar enc h1).R e W base ok (.slice (some ⟨g,0,none⟩) n cap) xs) (i:Int) (x:α):(scalar enc h1).R e (W.setCell ⟨g,i.toNat,none⟩ (enc x)) base ok (.slice (some ⟨g,0,none⟩) n cap) (xs.set i.toNat x):=by
 obtain⟨rfl,_⟩:=R_reads' h
 exact (R_put h i x).1
end
end Kd
section
variable {P:Program} {ops:Array Oper} {rest:List Oper} {o:Oper} {a:Act} {Q:Exit→Act→World→Prop}
theorem store_event {W w1:World} (hgd:o.guard=none) {t:TypeId} {p:Tmp} {v:Operand} (_ho:o.op=.store t (.tmp p) v) (hN:o.dst=none)
  (hrun:(execOp a.eval o).run P W=.ok .skip w1) (h:∀ w',w' = w1→wpList P ops Q rest a w'):wpList P ops Q (o::rest) a W:=by
 refine wpList_plain hgd fun K hK=>?_
 unfold Oper.wp
 rw [hrun]
 show K (a.put o.dst undef) w1
 rw [hN]
 exact hK _ _ (h _ rfl)
end
namespace Kd
section
variable {α:Type} {enc:α→Value} {h1:∀ x,(enc x).oneCell' = true} {e base g n cap:Nat} {ok:Nat→Prop} {W:World} {xs:List α}
end
end Kd
section
variable {P:Program} {ops:Array Oper} {rest:List Oper} {o:Oper} {a:Act} {Q:Exit→Act→World→Prop} {W:World}
theorem qap {N:Tmp} (_hN:o.dst=some N) (h:wpList P ops Q (o::rest) a W):wpList P ops Q (o::rest) a W:=h
theorem gate_store {t:TypeId} {p:Tmp} {v:Operand} (_ho:o.op=.store t (.tmp p) v) (h:wpList P ops Q (o::rest) a W):wpList P ops Q (o::rest) a W:=h
end
section
variable {P:Program} {ops:Array Oper} {o:Oper} {a:Act} {Q:Exit→Act→World→Prop} {Kc:Act→World→Prop}
theorem event_step {W w1:World} {v:Value} (hw:Region.wanted o (yielded ops a.tmps)=true) (hrun:(execOp a.eval o).run P W=.ok (.value v) w1) (h:Kc (a.put o.dst v) w1):if Region.wanted o (yielded ops a.tmps)=true then Oper.wp P o a W Kc Q else Kc (a.put o.dst undef) W:=by
 rw [if_pos hw]
 unfold Oper.wp
 rw [hrun]
 exact h
theorem box_step {W:World} (hw:Region.wanted o (yielded ops a.tmps)=true) {N:Tmp} (_hd:o.dst=some N) {cs:Array Value} {t:TypeId}
  (hrun:(execOp a.eval o).run P W=.ok (.value (.pointer (some ⟨W.heap.size,0,none⟩))) (W.alloc (.cells cs t (0,0))))
  (h:∀ g,g=W.heap.size→∀ w1,w1.heap[g]? = some (.cells cs t (0,0))→Below W.heap.size W w1→Kc (a.put o.dst (.pointer (some ⟨g,0,none⟩))) w1):if Region.wanted o (yielded ops a.tmps)=true then Oper.wp P o a W Kc Q else Kc (a.put o.dst undef) W:=
 event_step hw hrun (h _ rfl _ (blk_new W _) (qah (Below.refl _ _) _))
namespace Kd
variable {α:Type}
end Kd
end
inductive Vals (P:Program) (tmps:Array Value) (w:World):List ResultVar→List Value→Prop where
 |nil:Vals P tmps w [] []
 |tmp {u:Tmp} {rs:List ResultVar} {vs:List Value} (h:Vals P tmps w rs vs):Vals P tmps w (.tmp u::rs) (tmps.getD u undef::vs)
 |cell {p:Tmp} {ty:TypeId} {rs:List ResultVar} {vs:List Value} (g:Nat) (t:TypeId) (cs:Array Value) (fr:Nat × Nat) (d:TypeDesc)
   (hp:tmps.getD p undef=.pointer (some ⟨g,0,none⟩)) (hg:w.heap[g]? = some (.cells cs t fr))
   (hu:P.underlying ty=some d) (hd:(match d with|.struct _|.array _ _=>true|_=>false)=true) (hi:(P.info? ty).map (·.size)=some cs.size)
   (h:Vals P tmps w rs vs):Vals P tmps w (.cell p ty::rs) (.agg cs::vs)
section
variable {P:Program} {tmps:Array Value} {w:World}
end
namespace Kd
section
variable {P:Program} {α:Type}
end
section
variable {P:Program} {ops:Array Oper} {rest:List Oper} {o:Oper} {a:Act} {Q:Exit→Act→World→Prop} {Kc:Act→World→Prop} {α:Type}
end
end Kd
end Go.Proofs.YtgnaaokhfpfglaaDoorW.PrintWords
end
section
namespace Go.Proofs.YtgnaaokhfpfglaaDoorW.PrintLast
section
variable {P:Program} {ops:Array Oper} {Q:Exit→Act→World→Prop} {md:Region.Mode} {S:World→Prop} {ds:List Nat}
def Region.reachB (md:Region.Mode) (ops:Array Oper) (i:Nat):Nat→Nat→Bool
 |0,_=>false
 |fuel+1,d=>match ops[d]? with
  |some o=>o.after.any fun e=>Region.binds md e && (e.on == i || Region.reachB md ops i fuel e.on)
  |none=>false
def Region.closedB (md:Region.Mode) (ops:Array Oper) (listed:Array Bool):Bool:=
 (List.range ops.size).all fun j=>!listed.getD j false || match ops[j]? with
  |some o=>o.after.all fun e=>!Region.binds md e || listed.getD e.on false
  |none=>true
def Region.lastB (md:Region.Mode) (ops:Array Oper) (listed:Array Bool) (ds:List Nat) (i:Nat):Bool:=
 ds.all fun d=>listed.getD d true || Region.reachB md ops i ops.size d
def qa4 (md:Region.Mode) (ops:Array Oper) (listed:Array Bool):Prop:=
 ∀ j oj,ops[j]? = some oj→listed.getD j false=true→∀ e ∈ oj.after,Region.binds md e=true→listed.getD e.on false=true
theorem Region.closedB_spec {listed:Array Bool} (h:Region.closedB md ops listed=true):qa4 md ops listed:=by
 intro j oj hj hl e he hb
 have hlt:j<ops.size:=(Array.getElem?_eq_some_iff.1 hj).1
 have h1:=List.all_eq_true.1 h j (List.mem_range.2 hlt)
 simp only [hl,hj,Bool.not_true,Bool.false_or] at h1
 have h2:=Array.all_eq_true_iff_forall_mem.1 h1 e he
 simpa [hb] using h2
theorem qa4.set {listed:Array Bool} {i:Nat} (h:qa4 md ops listed) (hi:i ∈ Region.ready md ops listed):qa4 md ops (listed.setIfInBounds i true):=by
 obtain⟨_,oi,hoi,hall⟩:=mem_ready.1 hi
 intro j oj hj hl e he hb
 by_cases hij:i=j
 ·subst hij
  have:oj=oi:=Option.some.inj (hj.symm.trans hoi)
  subst this
  exact getD_set_true (hall e he hb)
 ·rw [getD_set_ne false hij] at hl
  exact getD_set_true (h j oj hj hl e he hb)
theorem Region.reach_listed {listed:Array Bool} {i:Nat} (hc:qa4 md ops listed):∀ (fuel d:Nat),Region.reachB md ops i fuel d=true→listed.getD d false=true→listed.getD i false=true
 |0,_,h,_=>by simp [Region.reachB] at h
 |fuel+1,d,h,hl=>by
  unfold Region.reachB at h
  cases ho:ops[d]? with
  |none=>rw [ho] at h;simp at h
  |some o=>
   rw [ho] at h
   obtain⟨e,he,h1⟩:=Array.any_eq_true'.1 h
   simp only [Bool.and_eq_true,Bool.or_eq_true,beq_iff_eq] at h1
   have hle:=hc d o ho hl e he h1.1
   rcases h1.2 with h2|h2
   ·rw [← h2];exact hle
   ·exact Region.reach_listed hc fuel e.on h2 hle
theorem Region.reach_not_ready {listed:Array Bool} {i d fuel:Nat} (hc:qa4 md ops listed) (hr:Region.reachB md ops i fuel d=true) (hun:listed.getD i true=false):d ∉ Region.ready md ops listed:=by
 intro hd
 obtain⟨_,o,ho,hall⟩:=mem_ready.1 hd
 have hi:listed.getD i false=true:=by
  cases fuel with
  |zero=>simp [Region.reachB] at hr
  |succ n=>
   unfold Region.reachB at hr
   rw [ho] at hr
   obtain⟨e,he,h1⟩:=Array.any_eq_true'.1 hr
   simp only [Bool.and_eq_true,Bool.or_eq_true,beq_iff_eq] at h1
   have hle:=hall e he h1.1
   rcases h1.2 with h2|h2
   ·rw [← h2];exact hle
   ·exact Region.reach_listed hc n e.on h2 hle
 rcases Nat.lt_or_ge i listed.size with h'|h'
 ·simp [h'] at hun hi
  rw [hun] at hi
  cases hi
 ·simp [Array.getElem?_eq_none h'] at hun
def qav (P:Program) (md:Region.Mode) (ops:Array Oper) (Q:Exit→Act→World→Prop) (S:World→Prop) (ds:List Nat):Nat→Array Bool→Act→World→Prop
 |0,listed,a,w=>Region.ready md ops listed=[]∧Q .normal a w
 |fuel+1,listed,a,w=>
  (Region.ready md ops listed=[]→Q .normal a w) ∧
  ∀ i ∈ Region.ready md ops listed,wpOp P ops Q i (fun a' w'=>(i ∉ ds→S w→S w')∧qav P md ops Q S ds fuel (listed.setIfInBounds i true) a' w') a w
theorem wpAny_of_last:∀ (fuel:Nat) (listed:Array Bool) (a:Act) (w:World),qav P md ops Q S ds fuel listed a w→wpAny P md ops Q fuel listed a w
 |0,_,_,_,h=>h
 |fuel+1,_,_,_,h=>⟨h.1,fun i hi=>wpOp_mono (fun a' w' h'=>wpAny_of_last fuel _ a' w' h'.2) (h.2 i hi)⟩
theorem wpAnyLast_first {i:Nat} {oi:Oper} {v:Value} (hi:ops[i]? = some oi) (hsel:∀ (j:Nat) (o:Oper) cs b,ops[j]? = some o→o.op≠.select cs b)
  (hQ:∀ c a w,Q (.panic c) (a.put oi.dst v) w→Q (.panic c) a w) (n:Nat) :
  ∀ (fuel:Nat) (listed:Array Bool) (a:Act) (w:World),
   (∀ j oj,ops[j]? = some oj→j≠i→listed.getD j true=false→(∀ e ∈ oj.after,Region.binds md e=true→e.on≠i)→oi.apart ops oj=true) →
   qa4 md ops listed→(∀ d ∈ ds,listed.getD d true=false→Region.reachB md ops i n d=true) →
   i ∈ Region.ready md ops listed→YieldsIf P ops S oi v a→S w →
   qav P md ops Q S ds fuel (listed.setIfInBounds i true) (a.put oi.dst v) w→qav P md ops Q S ds (fuel+1) listed a w:=by
 intro fuel
 induction fuel with
 |zero=>
  intro listed a w _ _ _ hr hy hS H
  refine⟨fun h=>(by rw [h] at hr;cases hr),fun j hj=>?_⟩
  by_cases hji:j=i
  ·subst hji;exact hy.wpOp hi hS ⟨fun _ h=>h,H⟩
  ·have:=ready_mono hj hji
   rw [H.1] at this
   cases this
 |succ fuel ih=>
  intro listed a w hfree hc hd hr hy hS H
  refine⟨fun h=>(by rw [h] at hr;cases hr),fun j hj=>?_⟩
  by_cases hji:j=i
  ·subst hji;exact hy.wpOp hi hS ⟨fun _ h=>h,H⟩
  ·have h1:=H.2 j (ready_mono hj hji)
   obtain⟨hjun,oj,hoj,hall⟩:=mem_ready.1 hj
   have hiun:=(mem_ready.1 hr).1
   have hnot:∀ e ∈ oj.after,Region.binds md e=true→e.on≠i:=fun e he hb heq=>by
    have h1:=hall e he hb
    rw [heq] at h1
    rcases Nat.lt_or_ge i listed.size with h'|h'
    ·simp [h'] at hiun h1;rw [hiun] at h1;cases h1
    ·simp [Array.getElem?_eq_none h'] at h1
   have hjd:j ∉ ds:=fun hm=>Region.reach_not_ready hc (hd j hm hjun) hiun hj
   have h2:=wpOp_putIf hoj (hfree j oj hoj hji hjun hnot) (fun cs b=>hsel i oi cs b hi) (fun cs b=>hsel j oj cs b hoj) hQ hy h1
   have hfree':∀ k ok,ops[k]? = some ok→k≠i→(listed.setIfInBounds j true).getD k true=false →
     (∀ e ∈ ok.after,Region.binds md e=true→e.on≠i)→oi.apart ops ok=true:=fun k ok hk hki hun hno=>by
    refine hfree k ok hk hki ?_ hno
    by_cases hjk:j=k
    ·subst hjk;exact hjun
    ·rw [getD_set_ne true hjk] at hun;exact hun
   have hd':∀ d ∈ ds,(listed.setIfInBounds j true).getD d true=false→Region.reachB md ops i n d=true:=fun d hm hun=>by
    refine hd d hm ?_
    by_cases hjk:j=d
    ·subst hjk;exact hjun
    ·rw [getD_set_ne true hjk] at hun;exact hun
   refine wpOp_mono (fun a' w' h3=>⟨h3.2.1,ih (listed.setIfInBounds j true) a' w' hfree' (hc.set hj) hd' (ready_mono hr (Ne.symm hji)) h3.1 (h3.2.1 hjd hS) ?_⟩) h2
   rw [Array.setIfInBounds_comm _ _ hji]
   exact h3.2.2
theorem wpAnyLast_any {i:Nat} {oi:Oper} {v:Value} (hi:ops[i]? = some oi) (hsel:∀ (j:Nat) (o:Oper) cs b,ops[j]? = some o→o.op≠.select cs b)
  (hQ:∀ c a w,Q (.panic c) (a.put oi.dst v) w→Q (.panic c) a w) :
  ∀ (fuel:Nat) (listed:Array Bool) (a:Act) (w:World),
   (∀ j oj,ops[j]? = some oj→j≠i→listed.getD j true=false→(∀ e ∈ oj.after,Region.binds md e=true→e.on≠i)→oi.apart ops oj=true) →
   i ∈ Region.ready md ops listed→Yields P ops oi v a →
   qav P md ops Q S ds fuel (listed.setIfInBounds i true) (a.put oi.dst v) w→qav P md ops Q S ds (fuel+1) listed a w:=by
 intro fuel
 induction fuel with
 |zero=>
  intro listed a w _ hr hy H
  refine⟨fun h=>(by rw [h] at hr;cases hr),fun j hj=>?_⟩
  by_cases hji:j=i
  ·subst hji;exact (hy.yieldsIf (S:=fun _=>True)).wpOp hi trivial ⟨fun _ h=>h,H⟩
  ·have:=ready_mono hj hji
   rw [H.1] at this
   cases this
 |succ fuel ih=>
  intro listed a w hfree hr hy H
  refine⟨fun h=>(by rw [h] at hr;cases hr),fun j hj=>?_⟩
  by_cases hji:j=i
  ·subst hji;exact (hy.yieldsIf (S:=fun _=>True)).wpOp hi trivial ⟨fun _ h=>h,H⟩
  ·have h1:=H.2 j (ready_mono hj hji)
   obtain⟨hjun,oj,hoj,hall⟩:=mem_ready.1 hj
   have hiun:=(mem_ready.1 hr).1
   have hnot:∀ e ∈ oj.after,Region.binds md e=true→e.on≠i:=fun e he hb heq=>by
    have h1:=hall e he hb
    rw [heq] at h1
    rcases Nat.lt_or_ge i listed.size with h'|h'
    ·simp [h'] at hiun h1;rw [hiun] at h1;cases h1
    ·simp [Array.getElem?_eq_none h'] at h1
   have h2:=wpOp_put hoj (hfree j oj hoj hji hjun hnot) (fun cs b=>hsel i oi cs b hi) (fun cs b=>hsel j oj cs b hoj) hQ hy h1
   have hfree':∀ k ok,ops[k]? = some ok→k≠i→(listed.setIfInBounds j true).getD k true=false →
     (∀ e ∈ ok.after,Region.binds md e=true→e.on≠i)→oi.apart ops ok=true:=fun k ok hk hki hun hno=>by
    refine hfree k ok hk hki ?_ hno
    by_cases hjk:j=k
    ·subst hjk;exact hjun
    ·rw [getD_set_ne true hjk] at hun;exact hun
   refine wpOp_mono (fun a' w' h3=>⟨h3.2.1,ih (listed.setIfInBounds j true) a' w' hfree' (ready_mono hr (Ne.symm hji)) h3.1 ?_⟩) h2
   rw [Array.setIfInBounds_comm _ _ hji]
   exact h3.2.2
theorem wpAnyLast_take {i:Nat} {oi:Oper} {v:Value} {fuel:Nat} {listed:Array Bool} {a:Act} {w:World} (hi:ops[i]? = some oi)
  (hs:Region.noSelect ops=true) (hf:Region.free md ops listed i=true) (hr:(Region.ready md ops listed).contains i=true)
  (hc:Region.closedB md ops listed=true) (hl:Region.lastB md ops listed ds i=true)
  (hQ:∀ c a w,Q (.panic c) (a.put oi.dst v) w→Q (.panic c) a w) (hy:YieldsIf P ops S oi v a) (hS:S w)
  (h:qav P md ops Q S ds fuel (listed.setIfInBounds i true) (a.put oi.dst v) w):qav P md ops Q S ds (fuel+1) listed a w:=
 wpAnyLast_first hi (Region.noSelect_spec hs) hQ ops.size fuel listed a w (Region.free_spec hi hf) (Region.closedB_spec hc)
  (fun d hm hun=>by have:=List.all_eq_true.1 hl d hm;rw [hun] at this;simpa using this) (by simpa using hr) hy hS h
theorem wpAnyLast_all {rs:List Nat} {fuel:Nat} {listed:Array Bool} {a:Act} {w:World} (hr:Region.ready md ops listed=rs) (hne:rs≠[])
  (h:∀ i ∈ rs,wpOp P ops Q i (fun a' w'=>(i ∉ ds→S w→S w')∧qav P md ops Q S ds fuel (listed.setIfInBounds i true) a' w') a w):qav P md ops Q S ds (fuel+1) listed a w:=
 ⟨fun h0=>absurd (hr ▸ h0) hne,hr ▸ h⟩
theorem wpAnyLast_done {listed:Array Bool} {a:Act} {w:World} (hr:Region.ready md ops listed=[]) (h:Q .normal a w) :
  ∀ fuel,qav P md ops Q S ds fuel listed a w
 |0=>⟨hr,h⟩
 |_+1=>⟨fun _=>h,by rw [hr];simp⟩
theorem wp_region_last {id:Nat} {a:Act} {w:World} (hm:P.follows .mixedOrders=true)
  (h:qav P .any ops Q S ds ops.size (Array.replicate ops.size false) a { w with drawn:=w.drawn+1 }):(Code.region id ops true).wp P Q a w:=
 wp_region_any hm (wpAny_of_last _ _ _ _ h)
end
section
variable {P:Program} {ops:Array Oper} {Q:Exit→Act→World→Prop} {md:Region.Mode} {S:World→Prop} {ds:List Nat}
def qaP (P:Program) (md:Region.Mode) (ops:Array Oper) (Q:Exit→Act→World→Prop) (S:World→Prop) (ds:List Nat) (fuel:Nat) (listed:Array Bool) (a:Act) (w:World) (rs:List Nat):Prop:=
 ∀ i ∈ rs,wpOp P ops Q i (fun a' w'=>(i ∉ ds→S w→S w')∧qav P md ops Q S ds fuel (listed.setIfInBounds i true) a' w') a w
theorem qaP.nil {fuel:Nat} {listed:Array Bool} {a:Act} {w:World}:qaP P md ops Q S ds fuel listed a w []:=fun _ h=>by cases h
theorem qaP.cons {fuel:Nat} {listed:Array Bool} {a:Act} {w:World} {i:Nat} {o:Oper} {rs:List Nat} (ho:ops[i]? = some o) (hd:i ∉ ds)
  (h:∀ K':Act→World→Prop,Shut (∀ a w,S w→(S w→qav P md ops Q S ds fuel (listed.setIfInBounds i true) a w)→K' a w)→if Region.wanted o (yielded ops a.tmps)=true then Oper.wp P o a w K' Q else K' (a.put o.dst undef) w)
  (hs:qaP P md ops Q S ds fuel listed a w rs):qaP P md ops Q S ds fuel listed a w (i::rs):=fun j hj=>by
 rcases List.mem_cons.1 hj with rfl|hj
 ·exact wpOp_step ho (fun K' hK=>h K' (fun a w hS hW=>hK a w ⟨fun _ _=>hS,hW hS⟩))
 ·exact hs j hj
theorem qaP.cons_last {fuel:Nat} {listed:Array Bool} {a:Act} {w:World} {i:Nat} {o:Oper} {rs:List Nat} (ho:ops[i]? = some o) (hd:i ∈ ds)
  (h:∀ K':Act→World→Prop,Shut (∀ a w,qav P md ops Q S ds fuel (listed.setIfInBounds i true) a w→K' a w)→if Region.wanted o (yielded ops a.tmps)=true then Oper.wp P o a w K' Q else K' (a.put o.dst undef) w)
  (hs:qaP P md ops Q S ds fuel listed a w rs):qaP P md ops Q S ds fuel listed a w (i::rs):=fun j hj=>by
 rcases List.mem_cons.1 hj with rfl|hj
 ·exact wpOp_step ho (fun K' hK=>h K' (fun a w hW=>hK a w ⟨fun hn=>absurd hd hn,hW⟩))
 ·exact hs j hj
theorem wpAnyLast_ready {rs:List Nat} {fuel:Nat} {listed:Array Bool} {a:Act} {w:World} (hr:Region.ready md ops listed=rs) (hne:rs≠[])
  (h:qaP P md ops Q S ds fuel listed a w rs):qav P md ops Q S ds (fuel+1) listed a w:=wpAnyLast_all hr hne h
theorem start_ {id n:Nat} {a:Act} {w:World} (l:Array Bool) (hm:P.follows .mixedOrders=true) (hn:ops.size=n) (hl:Array.replicate n false=l) (hS:S w.drew)
  (h:S w.drew→qav P .any ops Q S ds n l a w.drew):(Code.region id ops true).wp P Q a w:=by
 subst hn
 subst hl
 exact wp_region_last hm (h hS)
def takeB (md:Region.Mode) (ops:Array Oper) (ds:List Nat) (l l':Array Bool) (i:Nat):Bool:=
 Region.noSelect ops && Region.free md ops l i && (Region.ready md ops l).contains i && Region.closedB md ops l && Region.lastB md ops l ds i && (l.setIfInBounds i true == l')
theorem qaZ {i:Nat} {N:Option Tmp} {oi:Oper} {v:Value} {fuel:Nat} {l:Array Bool} {a:Act} {w:World} (l':Array Bool) (hi:ops[i]? = some oi) (hN:oi.dst=N) (hc:takeB md ops ds l l' i=true)
  (hQ:∀ c a w,Q (.panic c) (a.put oi.dst v) w→Q (.panic c) a w) (hy:YieldsIf P ops S oi v a) (hS:S w) {a':Act} (ha:a.put N v=a')
  (h:qav P md ops Q S ds fuel l' a' w):qav P md ops Q S ds (fuel+1) l a w:=by
 subst ha
 subst hN
 simp only [takeB,Bool.and_eq_true,beq_iff_eq] at hc
 obtain⟨⟨⟨⟨⟨h1,h2⟩,h3⟩,h4⟩,h5⟩,h6⟩:=hc
 subst h6
 exact wpAnyLast_take hi h1 h2 h3 h4 h5 hQ hy hS h
def anyB (md:Region.Mode) (ops:Array Oper) (l l':Array Bool) (i:Nat):Bool:=
 Region.noSelect ops && Region.free md ops l i && (Region.ready md ops l).contains i && (l.setIfInBounds i true == l')
theorem pure_ {i:Nat} {N:Option Tmp} {oi:Oper} {v:Value} {fuel:Nat} {l:Array Bool} {a:Act} {w:World} (l':Array Bool) (hi:ops[i]? = some oi) (hN:oi.dst=N) (hc:anyB md ops l l' i=true)
  (hQ:∀ c a w,Q (.panic c) (a.put oi.dst v) w→Q (.panic c) a w) (hy:Yields P ops oi v a) {a':Act} (ha:a.put N v=a')
  (h:qav P md ops Q S ds fuel l' a' w):qav P md ops Q S ds (fuel+1) l a w:=by
 subst ha
 subst hN
 simp only [anyB,Bool.and_eq_true,beq_iff_eq] at hc
 obtain⟨⟨⟨h1,h2⟩,h3⟩,h6⟩:=hc
 subst h6
 exact wpAnyLast_any hi (Region.noSelect_spec h1) hQ fuel l a w (Region.free_spec hi h2) (by simpa using h3) hy h
def readyB (md:Region.Mode) (ops:Array Oper) (l l':Array Bool) (i:Nat):Bool:=(Region.ready md ops l == [i]) && (l.setIfInBounds i true == l')
theorem one_ {i:Nat} {N:Option Tmp} {oi:Oper} {fuel:Nat} {l:Array Bool} {a:Act} {w:World} (l':Array Bool) (hi:ops[i]? = some oi) (hN:oi.dst=N) (hc:readyB md ops l l' i=true) (hd:i ∉ ds)
  (h:∀ K:Act→World→Prop,Shut (∀ a' w',S w'→(S w'→qav P md ops Q S ds fuel l' a' w')→K a' w')→if Region.wanted oi (yielded ops a.tmps)=true then Oper.wp P oi a w K Q else K (a.put N undef) w) :
  qav P md ops Q S ds (fuel+1) l a w:=by
 subst hN
 simp only [readyB,Bool.and_eq_true,beq_iff_eq] at hc
 obtain⟨h1,h2⟩:=hc
 subst h2
 exact wpAnyLast_ready h1 (by simp) (qaP.cons hi hd (fun K hK=>h K hK) qaP.nil)
theorem last_ {i:Nat} {N:Option Tmp} {oi:Oper} {fuel:Nat} {l:Array Bool} {a:Act} {w:World} (l':Array Bool) (hi:ops[i]? = some oi) (hN:oi.dst=N) (hc:readyB md ops l l' i=true) (hd:i ∈ ds)
  (h:∀ K:Act→World→Prop,Shut (∀ a' w',qav P md ops Q S ds fuel l' a' w'→K a' w')→if Region.wanted oi (yielded ops a.tmps)=true then Oper.wp P oi a w K Q else K (a.put N undef) w) :
  qav P md ops Q S ds (fuel+1) l a w:=by
 subst hN
 simp only [readyB,Bool.and_eq_true,beq_iff_eq] at hc
 obtain⟨h1,h2⟩:=hc
 subst h2
 exact wpAnyLast_ready h1 (by simp) (qaP.cons_last hi hd (fun K hK=>h K hK) qaP.nil)
theorem done_ {l:Array Bool} {a:Act} {w:World} {n:Nat} (hr:(Region.ready md ops l == [])=true) (h:Q .normal a w):qav P md ops Q S ds n l a w:=wpAnyLast_done (by simpa using hr) h n
theorem two_ {i j:Nat} {Ni Nj:Option Tmp} {oi oj:Oper} {fuel:Nat} {l:Array Bool} {a:Act} {w:World} (li lj:Array Bool) (hi:ops[i]? = some oi) (hj:ops[j]? = some oj) (hNi:oi.dst=Ni) (hNj:oj.dst=Nj)
  (hc:(Region.ready md ops l == [i,j] && l.setIfInBounds i true == li && l.setIfInBounds j true == lj)=true) (hdi:i ∉ ds) (hdj:j ∉ ds)
  (h1:∀ K:Act→World→Prop,Shut (∀ a' w',S w'→(S w'→qav P md ops Q S ds fuel li a' w')→K a' w')→if Region.wanted oi (yielded ops a.tmps)=true then Oper.wp P oi a w K Q else K (a.put Ni undef) w)
  (h2:∀ K:Act→World→Prop,Shut (∀ a' w',S w'→(S w'→qav P md ops Q S ds fuel lj a' w')→K a' w')→if Region.wanted oj (yielded ops a.tmps)=true then Oper.wp P oj a w K Q else K (a.put Nj undef) w) :
  qav P md ops Q S ds (fuel+1) l a w:=by
 subst hNi
 subst hNj
 simp only [Bool.and_eq_true,beq_iff_eq] at hc
 obtain⟨⟨h3,h4⟩,h5⟩:=hc
 subst h4
 subst h5
 exact wpAnyLast_ready h3 (by simp) (qaP.cons hi hdi (fun K hK=>h1 K hK) (qaP.cons hj hdj (fun K hK=>h2 K hK) qaP.nil))
def putAll:Act→List (Tmp × Value)→Act
 |a,[]=>a
 |a,(n,v)::r=>putAll (a.put (some n) v) r
theorem join_ {σ:Type} {fuel:Nat} {l:Array Bool} {a:Act} {w:World} (fuel':Nat) (l':Array Bool) (ns:σ→List (Tmp × Value)) (F:σ→World→Prop)
  (hcont:∀ s w',F s w'→qav P md ops Q S ds fuel' l' (putAll a (ns s)) w')
  (h:(∀ s w',F s w'→qav P md ops Q S ds fuel' l' (putAll a (ns s)) w')→qav P md ops Q S ds fuel l a w):qav P md ops Q S ds fuel l a w:=h hcont
theorem qa0 {fuel:Nat} {l:Array Bool} {a a':Act} {w:World} (ha:a=a') (h:qav P md ops Q S ds fuel l a' w):qav P md ops Q S ds fuel l a w:=by
 subst ha
 exact h
theorem call_ {oi:Oper} {N:Option Tmp} {a:Act} {w:World} {K:Act→World→Prop} (f:FuncId) (args:Array Value) (hw:Region.wanted oi (yielded ops a.tmps)=true) (hN:oi.dst=N) (hrun:(execOp a.eval oi).run P w=.ok (.enter f args) w)
  (h:Calls P f args w fun e w'=>∃ v,e=.returned v∧K (a.put N v) w'):if Region.wanted oi (yielded ops a.tmps)=true then Oper.wp P oi a w K Q else K (a.put N undef) w:=by
 rw [if_pos hw]
 subst hN
 unfold Oper.wp
 rw [hrun,Oper.upon_enter]
 refine h.mono fun e w'' hh=>?_
 obtain⟨v,rfl,hk⟩:=hh
 exact hk
theorem enters_ {f:FuncId} {fn:Func} (hf:P.funcs[f]? = some fn) (hname:(fn.name == "runtime.NumGoroutine")=false) (hb:fn.body.isSome=true) (args:Array Value) (w:World):(callFunc f args).run P w=.ok (.enter f args) w:=by
 have h1:fn.name≠ "runtime.NumGoroutine":=by simpa using hname
 obtain⟨c,hc⟩:=Option.isSome_iff_exists.1 hb
 simp [callFunc,hf,h1,hc]
theorem goes_ {oi:Oper} {N:Option Tmp} {a:Act} {w:World} {K:Act→World→Prop} {f:FuncId} {fn:Func} {as_:Array Operand} {ts:Array TypeId} (hf:P.funcs[f]? = some fn) (hname:(fn.name == "runtime.NumGoroutine")=false) (hb:fn.body.isSome=true) (args:Array Value)
  (hw:Region.wanted oi (yielded ops a.tmps)=true) (hN:oi.dst=N) (hop:oi.op=.call { callee:=.value (.func f),args:=as_,argTypes:=ts }) (hargs:as_.map a.eval=args)
  (h:Calls P f args w fun e w'=>∃ v,e=.returned v∧K (a.put N v) w'):if Region.wanted oi (yielded ops a.tmps)=true then Oper.wp P oi a w K Q else K (a.put N undef) w:=by
 refine call_ f args hw hN ?_ h
 have he:=enters_ hf hname hb args w
 unfold execOp
 simp [hop,resolve,Deferred.ofValue,invoke,Act.eval,hargs,he]
theorem qa7 {rest:List Oper} {oi:Oper} {a:Act} {w:World} (N:Option Tmp) (hd:oi.dst=N) (hg:oi.guard=none) {f:FuncId} {fn:Func} {as_:Array Operand} {ts:Array TypeId} (hf:P.funcs[f]? = some fn) (hname:(fn.name == "runtime.NumGoroutine")=false) (hb:fn.body.isSome=true) (args:Array Value)
  (hop:oi.op=.call { callee:=.value (.func f),args:=as_,argTypes:=ts }) (hargs:as_.map a.eval=args)
  (h:Calls P f args w fun e w'=>∃ v,e=.returned v∧wpList P ops Q rest (a.put N v) w'):wpList P ops Q (oi::rest) a w:=by
 refine wpList_plain hg fun K hK=>?_
 have he:=enters_ hf hname hb args w
 have hrun:(execOp a.eval oi).run P w=.ok (.enter f args) w:=by
  unfold execOp
  simp [hop,resolve,Deferred.ofValue,invoke,Act.eval,hargs,he]
 unfold Oper.wp
 rw [hrun,Oper.upon_enter]
 refine h.mono fun e w'' hh=>?_
 obtain⟨v,rfl,hk⟩:=hh
 subst hd
 exact hK _ _ hk
theorem value_ {oi:Oper} {N:Option Tmp} {a:Act} {w w1:World} {v:Value} {K:Act→World→Prop} (hw:Region.wanted oi (yielded ops a.tmps)=true) (hN:oi.dst=N) (hrun:(execOp a.eval oi).run P w=.ok (.value v) w1)
  (h:K (a.put N v) w1):if Region.wanted oi (yielded ops a.tmps)=true then Oper.wp P oi a w K Q else K (a.put N undef) w:=by
 rw [if_pos hw]
 subst hN
 unfold Oper.wp
 rw [hrun]
 exact h
theorem skip_ {oi:Oper} {a:Act} {w w1:World} {K:Act→World→Prop} (hw:Region.wanted oi (yielded ops a.tmps)=true) (hN:oi.dst=none) (hrun:(execOp a.eval oi).run P w=.ok .skip w1)
  (h:K a w1):if Region.wanted oi (yielded ops a.tmps)=true then Oper.wp P oi a w K Q else K (a.put none undef) w:=by
 rw [if_pos hw]
 unfold Oper.wp
 rw [hrun]
 show K (a.put oi.dst undef) w1
 rw [hN]
 exact h
theorem qaC (n:Int):IntKind.i64.wrap n=Go.RowKit.wrap64 n:=by unfold Go.RowKit.wrap64;exact IntKind.wrap_i64 n
theorem qaE (n:Int):IntKind.i32.wrap n=Go.RowKit.wrap32 n:=by unfold Go.RowKit.wrap32;exact IntKind.wrap_i32 n
end
end Go.Proofs.YtgnaaokhfpfglaaDoorW.PrintLast
end
section
namespace Go.Proofs.YtgnaaokhfpfglaaDoorW.PrintWords
open Go.RowKit
namespace Kd
def tag {α:Type} (f:Nat→Nat) (d:Kd α):Kd (α × Nat) where
 sz:=d.sz
 E:=d.E
 K:=fun w x cs=>d.K w x.1 cs
 M:=fun w base ok x cs=>d.M w base (fun k=>ok k∧f k=x.2) x.1 cs
 K_len:=fun h=>d.K_len h
 K_one:=fun h=>d.K_one h
 K_below:=fun hb h=>d.K_below hb h
 K_of_M:=fun h=>d.K_of_M h
 M_mono:=fun hok h=>d.M_mono (fun k hk=>⟨hok k hk.1,hk.2⟩) h
 M_bound:=fun h=>d.M_mono (fun _ hk=>⟨⟨hk.1.1,hk.2⟩,hk.1.2⟩) (d.M_bound h)
 M_move:=fun hm h=>d.M_move (fun k hk=>hm k hk.1) h
 M_lower:=fun hb h=>d.M_lower hb h
def bare {α:Type} (d:Kd α):Kd α where
 sz:=d.sz
 E:=d.E
 K:=d.K
 M:=fun w base _ x cs=>d.M w base (fun _=>False) x cs
 K_len:=fun h=>d.K_len h
 K_one:=fun h=>d.K_one h
 K_below:=fun hb h=>d.K_below hb h
 K_of_M:=fun h=>d.K_of_M h
 M_mono:=fun _ h=>h
 M_bound:=fun h=>h
 M_move:=fun _ h=>d.M_move (fun _ hk=>hk.elim) h
 M_lower:=fun hb h=>d.M_lower hb h
def raw (sz:Nat):Kd (List Value) where
 sz:=sz
 E:=[]
 K:=fun _ x cs=>cs=x∧cs.length=sz∧∀ u ∈ cs,u.oneCell' = true
 M:=fun _ _ _ x cs=>cs=x∧cs.length=sz∧∀ u ∈ cs,u.oneCell' = true
 K_len:=fun h=>h.2.1
 K_one:=fun h=>h.2.2
 K_below:=fun _ h=>h
 K_of_M:=fun h=>h
 M_mono:=fun _ h=>h
 M_bound:=fun h=>h
 M_move:=fun _ h=>h
 M_lower:=fun _ h=>h
def S {α:Type} (d:Kd α) (e:Nat) (w:World) (base:Nat) (ok:Nat→Prop) (v:Value) (xs:List α):Prop:=∃ f,(tag f d).R e w base ok v xs.zipIdx
section
variable {α β:Type} {d:Kd α} {d':Kd β} {e e':Nat} {w w1 W:World} {base b:Nat} {ok ok' okv oku:Nat→Prop} {u v:Value} {xs:List α} {ys:List β}
theorem zip_at {xs:List α} {j:Nat} {p:α} (h:xs[j]? = some p):xs.zipIdx[j]? = some (p,j):=by rw [List.getElem?_zipIdx,h,Nat.zero_add];rfl
theorem S_R (h:S d e w base ok v xs):d.R e w base ok v xs:=by
 obtain⟨f,h0,inner,ho,hr⟩:=h
 rw [List.length_zipIdx] at ho
 exact⟨h0,inner,ho,by have:=hr.1;rw [List.length_zipIdx] at this;exact this,fun j p hj=>d.M_mono (fun _ hk=>hk.1) (hr.2 j (p,j) (zip_at hj))⟩
theorem R_head {ad:Addr} {n cap:Nat} (h:d.R e w base ok (.slice (some ad) n cap) xs):∃ g,ad=⟨g,0,none⟩:=by
 obtain⟨_,inner,ho,hr⟩:=h
 rcases ho.2 with ⟨hv,_⟩|⟨g,cap',cur,hv,_⟩
 ·cases hv
 ·injection hv with ha _ _
  injection ha with ha
  exact⟨g,ha⟩
theorem R_tight (hE:d.E=[]) (h:d.R e w base ok v xs):d.R e w base (fun k=>some k=v.ownBlock) v xs:=by
 obtain⟨h0,inner,ho,hr⟩:=h
 refine⟨fun k hk=>hk.symm,inner,ho,hr.imp_ (fun p c hp=>d.M_mono (fun k hk=>?_) (d.M_bound hp))⟩
 obtain⟨_,_,_,q,hq,_⟩:=hk
 rw [hE] at hq
 cases hq
theorem S_nil (d:Kd α) (e:Nat) (w:World) (base:Nat) (ok:Nat→Prop):S d e w base ok (.slice none 0 0) []:=⟨fun _=>0,R_nil _ _ _ _ _⟩
theorem S_mono (h:S d e w base ok v xs) (hok:∀ k,ok k→ok' k):S d e w base ok' v xs:=by
 obtain⟨f,h⟩:=h
 exact⟨f,R_mono h hok⟩
theorem S_bound (h:S d e w base ok v xs):S d e w base (fun k=>ok k∧base≤k∧k<w.heap.size∧∃ q,q ∈ e::d.E∧∃ cells,w.heap[k]? = some (.cells cells q (0,0))) v xs:=by
 obtain⟨f,h⟩:=h
 exact⟨f,R_bound h⟩
theorem S_move (h:S d e w base ok v xs) (hm:∀ k,ok k→w1.heap[k]? = w.heap[k]?):S d e w1 base ok v xs:=by
 obtain⟨f,h⟩:=h
 exact⟨f,R_move h hm⟩
theorem S_lower {base':Nat} (h:S d e w base ok v xs) (hb:base'≤base):S d e w base' ok v xs:=by
 obtain⟨f,h⟩:=h
 exact⟨f,R_lower h hb⟩
theorem S_step (h:S d e w base ok v xs) (hm:∀ k,ok k→k<w.heap.size→w1.heap[k]? = w.heap[k]?):S d e w1 base ok v xs:=
 S_mono (S_move (S_bound h) (fun k hk=>hm k hk.1 hk.2.2.1)) (fun _ hk=>hk.1)
theorem S_below (h:S d e w base ok v xs) (hb:Below w.heap.size w w1):S d e w1 base ok v xs:=S_step h (fun k _ hk=>hb.block k hk)
theorem S_alloc (h:S d e w base ok v xs) (o:Obj):S d e (w.alloc o) base ok v xs:=S_below h (qah (Below.refl _ _) o)
theorem S_drew (h:S d e w base ok v xs):S d e w.drew base ok v xs:=S_below h (below_drew (Below.refl _ _))
theorem S_drewN (h:S d e w base ok v xs) (m:Nat):S d e (w.drewN m) base ok v xs:=S_below h (qae (Below.refl _ _) m)
theorem S_far (h:S d e w base ok v xs) {p:Addr} (hok:∀ k,ok k→k≠p.block) (u:Value):S d e (w.setCell p u) base ok v xs:=S_step h (fun k ho _=>Below.heap_setCell w p u k (hok k ho))
theorem S_types (h:S d e w base ok v xs) {g t:Nat} {cells:Array Value} (hb:w.heap[g]? = some (.cells cells t (0,0))) (ht:∀ q,q ∈ e::d.E→q≠t):S d e w base (fun k=>ok k∧k≠g) v xs:=by
 obtain⟨f,h⟩:=h
 exact⟨f,R_types h hb ht⟩
theorem S_typed (h:S d e w base ok v xs):∀ k,v.ownBlock=some k→∃ cells,w.heap[k]? = some (.cells cells e (0,0)):=R_typed (S_R h)
theorem S_lt (h:S d e w base ok v xs):∀ k,v.ownBlock=some k→k<w.heap.size:=R_lt (S_R h)
theorem S_base (h:S d e w base ok v xs):∀ k,v.ownBlock=some k→base≤k:=R_base (S_R h)
theorem S_elder' (h:S d e W base ok u xs) (hbase:∀ k,v.ownBlock=some k→W.heap.size≤k) (hb:Below W.heap.size W w1):S d e w1 base (fun k=>ok k∧some k≠v.ownBlock) u xs:=by
 obtain⟨f,h⟩:=h
 exact⟨f,R_elder' h hbase hb⟩
theorem S_new' (h:S d e w1 W.heap.size ok v xs) (hlt:∀ k,u.ownBlock=some k→k<W.heap.size):S d e w1 W.heap.size (fun k=>ok k∧some k≠u.ownBlock) v xs:=by
 obtain⟨f,h⟩:=h
 exact⟨f,R_new' h hlt⟩
theorem S_old (h:S d e W base ok u xs) (hb:Below W.heap.size W w1):S d e w1 base (fun k=>ok k∧k<W.heap.size) u xs:=
 S_mono (S_below (S_bound h) hb) (fun _ hk=>⟨hk.1,hk.2.2.1⟩)
theorem S_bare (h:(bare d).R e w base ok v xs):S d e w base ok v xs:=by
 obtain⟨h0,inner,ho,hr⟩:=h
 refine⟨fun _=>0,h0,inner,by rw [List.length_zipIdx];exact ho,by rw [List.length_zipIdx];exact hr.1,fun j p hj=>?_⟩
 rw [List.getElem?_zipIdx,Nat.zero_add] at hj
 obtain⟨x,hx,rfl⟩:=Option.map_eq_some_iff.1 hj
 exact d.M_mono (fun _ hk=>hk.elim) (hr.2 j x hx)
theorem R_tag {f f':Nat→Nat} {zs:List (α × Nat)} (h:(tag f d).R e w base ok v zs) (hf:∀ k,ok k→k<w.heap.size→f' k=f k):(tag f' d).R e w base ok v zs:=by
 obtain⟨h0,inner,ho,hr⟩:=R_bound h
 exact⟨fun k hk=>(h0 k hk).1,inner,ho,hr.1,fun j p hj=>d.M_mono (fun k hk=>⟨⟨hk.1.1.1,hk.1.2⟩,(hf k hk.1.1.1 hk.1.1.2.2.1).trans hk.2⟩) (hr.2 j p hj)⟩
end
section
variable {α β:Type} {d:Kd α} {d':Kd β} {e e' g:Nat} {w w1 W:World} {base b:Nat} {ok ok' okv oku:Nat→Prop} {u v:Value} {xs:List α} {ys:List β}
theorem S_ne (h:S d e w base ok v xs) {t:Nat} {cells:Array Value} (hb:w.heap[g]? = some (.cells cells t (0,0))) (ht:e≠t):some g≠v.ownBlock:=R_ne (S_R h) hb ht
theorem S_slice (h:S d e w base ok v xs):∃ A c,v=.slice A xs.length c:=R_slice (S_R h)
theorem S_reads' {A:Option Addr} {n c:Nat} (h:S d e w base ok (.slice A n c) xs):n=xs.length∧n≤c∧d.C w A xs.length xs:=R_reads' (S_R h)
theorem S_told {N:Nat} (h:S d e w1 base (fun k=>ok k∧k<N) u xs) (hbase:∀ k,v.ownBlock=some k→N≤k):S d e w1 base (fun k=>(ok k∧some k≠v.ownBlock)∧k<N) u xs:=
 S_mono h (fun k hk=>⟨⟨hk.1,fun e=>Nat.lt_irrefl _ (Nat.lt_of_lt_of_le hk.2 (hbase k e.symm))⟩,hk.2⟩)
theorem zip_snoc (xs:List α) (p:α):(xs++[p]).zipIdx=xs.zipIdx++[(p,xs.length)]:=by rw [List.zipIdx_append];simp
end
section
open Classical in
theorem S_tag {α:Type} {d:Kd α} {e base:Nat} {okv:Nat→Prop} {w:World} {v:Value} {xs:List α} (h:S d e w base okv v xs) (m:Nat) (okp:Nat→Prop) (hap:∀ k,okp k→¬ okv k):∃ f,(∀ k,okp k→f k=m)∧(tag f d).R e w base okv v xs.zipIdx:=by
 obtain⟨f,h⟩:=h
 exact⟨fun k=>if okp k then m else f k,fun k hk=>if_pos hk,R_tag h (fun k hk _=>if_neg (fun h2=>hap k h2 hk))⟩
variable {P:Program} {ops:Array Oper} {rest:List Oper} {o:Oper} {a:Act} {Q:Exit→Act→World→Prop} {Kc:Act→World→Prop} {α:Type}
theorem S_append_step (d:Kd α) {w0 W:World} (base:Nat) (hw:Region.wanted o (yielded ops a.tmps)=true) (s x:Operand) (t e:TypeId) (z:Value) (bytes:Nat)
  (ho:o.op=.call { callee:=.builtin .append,args:=#[s,x],argTypes:=#[t,t] })
  (ht:P.underlying t=some (.slice e)) (hinfo:(P.info? e).map (fun i=>(i.zero,i.size,i.bytes))=some (some z,d.sz,bytes)) (hz:z.cells.size=d.sz) (hs0:0<d.sz) (hb0:0<bytes)
  (v:Value) (xs:List α) (p:α) (cs:List Value) (ok okp:Nat→Prop) (hs:a.eval s=v) (hx:a.eval x=.slice (some ⟨W.heap.size,0,none⟩) 1 1) (hp:d.M W base okp p cs) (hokp:∀ k,okp k→ok k∧some k≠v.ownBlock) (hfresh:∀ k,W.heap.size≤k→ok k)
  (HO:S d e W base (fun k=>ok k∧¬ okp k) v xs) (HB:Below base w0 W) (hbase:base≤W.heap.size) (hl:(xs.length+1) * bytes≤140737488355328)
  (h:∀ v1 w1,S d e w1 base ok v1 (xs++[p])→Below base w0 w1→W.grownBy w1 v.ownBlock→(v1.ownBlock=v.ownBlock∨∃ b,v1.ownBlock=some b∧W.heap.size≤b)→Kc (a.put o.dst v1) w1) :
  if Region.wanted o (yielded ops a.tmps)=true then Oper.wp P o a (W.alloc (.cells cs.toArray e)) Kc Q else Kc (a.put o.dst undef) (W.alloc (.cells cs.toArray e)):=by
 obtain⟨f,hf,hR⟩:=S_tag HO xs.length okp (fun _ hk h2=>h2.2 hk)
 refine R_append_step (tag f d) base hw s x t e z bytes ho ht hinfo hz hs0 hb0 v xs.zipIdx (p,xs.length) cs ok okp hs hx (d.M_mono (fun k hk=>⟨hk,hf k hk⟩) hp) hokp hfresh (R_mono hR (fun _ hk=>hk.1)) HB hbase (by rw [List.length_zipIdx];exact hl) ?_
 intro v1 w1 hr
 rw [← zip_snoc] at hr
 exact h v1 w1 ⟨f,hr⟩
theorem S_lit (d:Kd α) {w0 W:World} (base e:Nat) (hgd:o.guard=none) {N:Tmp} (_hd:o.dst=some N) {xs:List α} {inner:List Value} {ok okp:Nat→Prop}
  (hrun:(execOp a.eval o).run P W=.ok (.value (.slice (some ⟨W.heap.size,0,none⟩) xs.length xs.length)) (W.alloc (.cells inner.toArray e)))
  (hrep:Reps (d.M W base (fun _=>False)) d.sz xs inner) (_hok:∀ k,okp k→ok k) (hfresh:ok W.heap.size) (HB:Below base w0 W) (hbase:base≤W.heap.size) (hm:xs.length≤9223372036854775807)
  (h:∀ v1 w1,S d e w1 base ok v1 xs→Below base w0 w1→W.grownBy w1 none→(∃ b,v1.ownBlock=some b∧W.heap.size≤b)→wpList P ops Q rest (a.put o.dst v1) w1):wpList P ops Q (o::rest) a W:=
 R_lit (bare d) base e hgd _hd (ok:=ok) (okp:=ok) hrun hrep (fun _ hk=>hk) hfresh HB hbase hm (fun v1 w1 hr=>h v1 w1 (S_bare hr))
end
def gap {α:Type} (f:Nat→Nat) (d:Kd α) (i:Nat) (c:List Value):Kd (α × Nat) where
 sz:=d.sz
 E:=d.E
 K:=fun w x cs=>(x.2=i→cs=c∧cs.length=d.sz∧∀ u ∈ cs,u.oneCell' = true)∧(x.2≠i→d.K w x.1 cs)
 M:=fun w base ok x cs=>(x.2=i→cs=c∧cs.length=d.sz∧∀ u ∈ cs,u.oneCell' = true)∧(x.2≠i→d.M w base (fun k=>ok k∧f k=x.2) x.1 cs)
 K_len:=fun {w x cs} h=>by
  by_cases hx:x.2=i
  ·exact (h.1 hx).2.1
  ·exact d.K_len (h.2 hx)
 K_one:=fun {w x cs} h=>by
  by_cases hx:x.2=i
  ·exact (h.1 hx).2.2
  ·exact d.K_one (h.2 hx)
 K_below:=fun hb h=>⟨h.1,fun hx=>d.K_below hb (h.2 hx)⟩
 K_of_M:=fun h=>⟨h.1,fun hx=>d.K_of_M (h.2 hx)⟩
 M_mono:=fun hok h=>⟨h.1,fun hx=>d.M_mono (fun k hk=>⟨hok k hk.1,hk.2⟩) (h.2 hx)⟩
 M_bound:=fun h=>⟨h.1,fun hx=>d.M_mono (fun _ hk=>⟨⟨hk.1.1,hk.2⟩,hk.1.2⟩) (d.M_bound (h.2 hx))⟩
 M_move:=fun hm h=>⟨h.1,fun hx=>d.M_move (fun k hk=>hm k hk.1) (h.2 hx)⟩
 M_lower:=fun hb h=>⟨h.1,fun hx=>d.M_lower hb (h.2 hx)⟩
def H {α:Type} (d:Kd α) (e:Nat) (w:World) (base:Nat) (ok:Nat→Prop) (v:Value) (xs:List α) (i:Int) (oki:Nat→Prop) (c:List Value):Prop:=
 (∀ k,oki k→ok k)∧∃ f,(gap f d i.toNat c).R e w base (fun k=>ok k∧¬ oki k) v xs.zipIdx
section
variable {α β:Type} {d:Kd α} {e e' g n cap:Nat} {w w1 W:World} {base:Nat} {ok ok' oki okp:Nat→Prop} {u v:Value} {xs:List α} {i:Int} {c:List Value}
end
section
variable {P:Program} {ops:Array Oper} {rest:List Oper} {o:Oper} {a:Act} {Q:Exit→Act→World→Prop} {α:Type}
end
end Kd
end Go.Proofs.YtgnaaokhfpfglaaDoorW.PrintWords
end
section
namespace Go.Proofs.YtgnaaokhfpfglaaDoorW.PrintWords
open Go.RowKit
namespace Kd
structure Heap {α:Type} (d:Kd α):Prop where
 K:∀ {w w1:World} {x:α} {cs:List Value},(∀ k,k<w.heap.size→w1.heap[k]? = w.heap[k]?)→d.K w x cs→d.K w1 x cs
theorem cell_heap {w w1:World} (hb:∀ k,k<w.heap.size→w1.heap[k]? = w.heap[k]?) {a:Addr} {v:Value} (h:w.cell? a=some v):w1.cell? a=some v:=by
 have:=hb a.block (World.block_lt_of_cell? w a h)
 simpa [World.cell?,this] using h
theorem Heap.C {α:Type} {d:Kd α} (hd:Heap d) {w w1:World} {A:Option Addr} {n:Nat} {xs:List α} (hb:∀ k,k<w.heap.size→w1.heap[k]? = w.heap[k]?) (h:d.C w A n xs):d.C w1 A n xs:=
 ⟨h.1,h.2.1,fun hn=>by
  obtain⟨ad,e,hc⟩:=h.2.2 hn
  refine⟨ad,e,fun j p hj=>?_⟩
  obtain⟨c,hs,hr,hcell⟩:=hc j p hj
  exact⟨c,hs,hd.K hb hr,fun i u hu=>cell_heap hb (hcell i u hu)⟩⟩
theorem heap_int (k:IntKind):Heap (Kd.int k):=⟨fun _ h=>h⟩
theorem heap_slice {α:Type} {d:Kd α} (e:Nat) (hd:Heap d):Heap (slice e d):=⟨by
 rintro w w1 x cs hb ⟨A,c,rfl,hl,hr⟩
 exact⟨A,c,rfl,hl,hd.C hb hr⟩⟩
theorem heap_pair {α β:Type} {a:Kd α} {b:Kd β} (ha:Heap a) (hb':Heap b):Heap (pair a b):=⟨by
 rintro w w1 x cs hb ⟨c0,c1,rfl,h0,h1⟩
 exact⟨c0,c1,rfl,ha.K hb h0,hb'.K hb h1⟩⟩
theorem heap_iso {α β:Type} {d:Kd α} (f:β→α) (hd:Heap d):Heap (iso d f):=⟨fun hb h=>hd.K hb h⟩
section
variable {α:Type} {d:Kd α} {e base g n c:Nat} {ok:Nat→Prop} {w w0 W:World} {A:Option Addr} {xs:List α}
end
end Kd
end Go.Proofs.YtgnaaokhfpfglaaDoorW.PrintWords
end
section
namespace Go.Proofs.YtgnaaokhfpfglaaDoorW.PrintWords
open Go.RowKit
def Kept (w W:World) (S:Nat→Prop):Prop:=w.heap.size≤W.heap.size∧∀ i,i<w.heap.size→¬ S i→W.heap[i]? = w.heap[i]?
section
variable {w W W2:World} {S S2 S':Nat→Prop}
theorem Kept.refl (w:World) (S:Nat→Prop):Kept w w S:=⟨Nat.le_refl _,fun _ _ _=>rfl⟩
theorem Kept.of_below (h:Below w.heap.size w W) (S:Nat→Prop):Kept w W S:=⟨h.size,fun i hi _=>h.block i hi⟩
theorem Kept.then_ (h:Kept w W S) (k:Kept W W2 S2) (hs:∀ k,S2 k→S k∨w.heap.size≤k):Kept w W2 S:=
 ⟨Nat.le_trans h.1 k.1,fun i hi hn=>(k.2 i (Nat.lt_of_lt_of_le hi h.1) (fun h2=>(hs i h2).elim hn (fun h3=>by omega))).trans (h.2 i hi hn)⟩
theorem Kept.below (h:Kept w W S) (hb:Below W.heap.size W W2):Kept w W2 S:=h.then_ (Kept.of_below hb (fun _=>False)) (fun _ hk=>hk.elim)
theorem Kept.alloc (h:Kept w W S) (o:Obj):Kept w (W.alloc o) S:=h.below (qah (Below.refl _ _) o)
theorem Kept.drew (h:Kept w W S):Kept w W.drew S:=h
theorem Kept.drewN (h:Kept w W S) (m:Nat):Kept w (W.drewN m) S:=h
theorem Kept.setCell (h:Kept w W S) {p:Addr} (hp:S p.block∨w.heap.size≤p.block) (u:Value):Kept w (W.setCell p u) S:=
 h.then_ (S2:=fun k=>k=p.block) ⟨by simp [World.setCell],fun i _ hn=>Below.heap_setCell W p u i hn⟩ (fun k hk=>by rw [hk];exact hp)
end
namespace Kd
section
variable {α:Type} {d:Kd α} {e base n c:Nat} {ok oki S S2:Nat→Prop} {w w0 W W1 W2:World} {v:Value} {A:Option Addr} {xs:List α} {i:Int} {cs:List Value}
end
end Kd
end Go.Proofs.YtgnaaokhfpfglaaDoorW.PrintWords
end
section
namespace Go.Proofs.YtgnaaokhfpfglaaDoorW.PrintWords
open Go.RowKit
def Foot (P:World→Prop) (W:World) (ok:Nat→Prop):Prop:=∀ W':World,(∀ k,ok k→k<W.heap.size→W'.heap[k]? = W.heap[k]?)→P W'
theorem heap_lt {W W1:World} {k:Nat} (h:W1.heap[k]? = W.heap[k]?) (hlt:k<W.heap.size):k<W1.heap.size:=by
 rw [Array.getElem?_eq_getElem hlt] at h
 exact (Array.getElem?_eq_some_iff.1 h).1
namespace Foot
variable {P Q:World→Prop} {W W1:World} {ok ok':Nat→Prop}
theorem now (h:Foot P W ok):P W:=h W (fun _ _ _=>rfl)
theorem mono (h:Foot P W ok) (hok:∀ k,ok k→ok' k):Foot P W ok':=fun W' hW=>h W' (fun k hk hlt=>hW k (hok k hk) hlt)
theorem bound (h:Foot P W ok):Foot P W (fun k=>ok k∧k<W.heap.size):=fun W' hW=>h W' (fun k hk hlt=>hW k ⟨hk,hlt⟩ hlt)
theorem step (h:Foot P W ok) (hm:∀ k,ok k→k<W.heap.size→W1.heap[k]? = W.heap[k]?):Foot P W1 ok:=fun W' hW=>h W' (fun k hk hlt=>(hW k hk (heap_lt (hm k hk hlt) hlt)).trans (hm k hk hlt))
theorem imp (h:Foot P W ok) (hi:∀ W',P W'→Q W'):Foot Q W ok:=fun W' hW=>hi W' (h W' hW)
theorem old (h:Foot P W ok) (hb:Below W.heap.size W W1):Foot P W1 (fun k=>ok k∧k<W.heap.size):=(h.bound).step (fun k _ hlt=>hb.block k hlt)
end Foot
namespace Kd
def F {α:Type} (d:Kd α) (W:World) (ok:Nat→Prop) (A:Option Addr) (n:Nat) (xs:List α):Prop:=Foot (fun W=>d.C W A n xs) W ok
def FK {α:Type} (d:Kd α) (W:World) (ok:Nat→Prop) (x:α) (c:List Value):Prop:=Foot (fun W=>d.K W x c) W ok
section
variable {α β:Type} {d:Kd α} {e base n n' cc g N:Nat} {ok ok' okp S:Nat→Prop} {w w0 w1 W W1:World} {A A':Option Addr} {u v v1:Value} {xs:List α} {xs':List β} {d':Kd β} {x:α} {c:List Value}
theorem F_now (h:F d W ok A n xs):d.C W A n xs:=Foot.now h
theorem F_mono (h:F d W ok A n xs) (hok:∀ k,ok k→ok' k):F d W ok' A n xs:=Foot.mono h hok
theorem F_bound (h:F d W ok A n xs):F d W (fun k=>ok k∧k<W.heap.size) A n xs:=Foot.bound h
theorem F_step (h:F d W ok A n xs) (hm:∀ k,ok k→k<W.heap.size→W1.heap[k]? = W.heap[k]?):F d W1 ok A n xs:=Foot.step h hm
theorem F_imp (h:F d W ok A n xs) (hi:∀ W',d.C W' A n xs→d'.C W' A' n' xs'):F d' W ok A' n' xs':=Foot.imp h hi
theorem F_below (h:F d W ok A n xs) (hb:Below W.heap.size W W1):F d W1 ok A n xs:=F_step h (fun k _ hlt=>hb.block k hlt)
theorem F_alloc (h:F d W ok A n xs) (o:Obj):F d (W.alloc o) ok A n xs:=F_below h (qah (Below.refl _ _) o)
theorem F_drew (h:F d W ok A n xs):F d W.drew ok A n xs:=F_below h (below_drew (Below.refl _ _))
theorem F_drewN (h:F d W ok A n xs) (m:Nat):F d (W.drewN m) ok A n xs:=F_below h (qae (Below.refl _ _) m)
theorem F_far (h:F d W ok A n xs) {p:Addr} (hok:∀ k,ok k→k≠p.block) (u:Value):F d (W.setCell p u) ok A n xs:=F_step h (fun k hk _=>Below.heap_setCell W p u k (hok k hk))
theorem F_nil (d:Kd α) (W:World) (ok:Nat→Prop):F d W ok none ([]:List α).length []:=fun W' _=>C_nil d W'
theorem F_elder' (h:F d W ok A n xs) (hbase:∀ k,v.ownBlock=some k→W.heap.size≤k) (hb:Below W.heap.size W W1):F d W1 (fun k=>ok k∧some k≠v.ownBlock) A n xs:=
 F_mono (Foot.old h hb) (fun k hk=>⟨hk.1,fun he=>by have:=hbase k he.symm;have:=hk.2;omega⟩)
theorem F_elderB (h:F d W ok A n xs) (a:Nat) (ha:W.heap.size≤a):F d W (fun k=>ok k∧k≠a) A n xs:=F_mono (F_bound h) (fun k hk=>⟨hk.1,by have:=hk.2;omega⟩)
theorem F_after (h:F d W (fun k=>ok k∧some k≠v.ownBlock) A n xs) (hg:W.grownBy W1 v.ownBlock) (hat:v1.ownBlock=v.ownBlock∨∃ b,v1.ownBlock=some b∧W.heap.size≤b):F d W1 (fun k=>ok k∧some k≠v1.ownBlock) A n xs:=by
 refine F_mono (Foot.step (F_bound h) (fun k hk hlt=>hg.block k hlt hk.1.2)) (fun k hk=>⟨hk.1.1,?_⟩)
 rcases hat with hat|⟨b,hb,hle⟩
 ·rw [hat];exact hk.1.2
 ·rw [hb]
  intro he
  injection he with he
  have:=hk.2
  omega
theorem F_old (h:F d W ok A n xs) (hb:Below W.heap.size W W1):F d W1 (fun k=>ok k∧k<W.heap.size) A n xs:=Foot.old h hb
theorem F_told (h:F d W1 (fun k=>ok k∧k<N) A n xs) (hbase:∀ k,v.ownBlock=some k→N≤k):F d W1 (fun k=>(ok k∧some k≠v.ownBlock)∧k<N) A n xs:=
 F_mono h (fun k hk=>⟨⟨hk.1,fun he=>Nat.lt_irrefl _ (Nat.lt_of_lt_of_le hk.2 (hbase k he.symm))⟩,hk.2⟩)
theorem C_F (hd:Heap d) (h:d.C w A n xs):F d w (fun k=>k<w.heap.size) A n xs:=fun _ hW=>hd.C (fun k hlt=>hW k hlt hlt) h
theorem FK_now (h:FK d W ok x c):d.K W x c:=Foot.now h
theorem FK_mono (h:FK d W ok x c) (hok:∀ k,ok k→ok' k):FK d W ok' x c:=Foot.mono h hok
theorem FK_bound (h:FK d W ok x c):FK d W (fun k=>ok k∧k<W.heap.size) x c:=Foot.bound h
theorem FK_step (h:FK d W ok x c) (hm:∀ k,ok k→k<W.heap.size→W1.heap[k]? = W.heap[k]?):FK d W1 ok x c:=Foot.step h hm
theorem FK_of_M (h:d.M W base ok x c):FK d W ok x c:=fun _ hW=>d.K_of_M (M_step h hW)
theorem emptied (W:World) (g:Nat):∃ W':World,(∀ k,k≠g→W'.heap[k]? = W.heap[k]?)∧∀ a:Addr,a.block=g→W'.cell? a=none:=by
 refine⟨{ W with heap:=W.heap.setIfInBounds g (.cells #[] 0) },fun k hk=>by simp [Ne.symm hk],fun a ha=>?_⟩
 subst ha
 by_cases hlt:a.block<W.heap.size
 ·simp [World.cell?,hlt]
 ·simp [World.cell?,hlt]
end
end Kd
end Go.Proofs.YtgnaaokhfpfglaaDoorW.PrintWords
end
section
namespace Go.Proofs.YtgnaaokhfpfglaaDoorW.PrintWords
open Go.RowKit
namespace Kd
def chunks (sz:Nat) (n:Nat) (inner:List Value):List (List Value):=(List.range n).map fun j=>(inner.drop (j * sz)).take sz
theorem qaK (sz n:Nat) (inner:List Value):(chunks sz n inner).length=n:=by simp [chunks]
theorem chunks_at {sz n:Nat} {inner:List Value} {j:Nat} (hj:j<n):(chunks sz n inner)[j]? = some ((inner.drop (j * sz)).take sz):=by simp [chunks,hj]
theorem chunks_get {sz n:Nat} {inner:List Value} {j:Nat} {c:List Value} (h:(chunks sz n inner)[j]? = some c):c=(inner.drop (j * sz)).take sz:=by
 have hj:j<n:=by have:=(List.getElem?_eq_some_iff.1 h).1;rwa [qaK] at this
 rw [chunks_at hj] at h
 injection h with h
 exact h.symm
theorem reps_raw {α:Type} {Rr:α→List Value→Prop} {sz:Nat} {xs:List α} {inner:List Value} (h:Reps Rr sz xs inner) (hR:∀ x c,Rr x c→c.length=sz∧∀ u ∈ c,u.oneCell' = true):Reps (fun x cs=>cs=x∧cs.length=sz∧∀ u ∈ cs,u.oneCell' = true) sz (chunks sz xs.length inner) inner:=by
 refine⟨by rw [qaK];exact h.1,fun j p hj=>?_⟩
 have hjl:j<xs.length:=by have:=(List.getElem?_eq_some_iff.1 hj).1;rwa [qaK] at this
 have hp:=chunks_get hj
 exact⟨hp.symm,hR _ _ (h.2 j _ (List.getElem?_eq_getElem hjl))⟩
section
variable {α:Type} {d:Kd α} {e base n cc g:Nat} {ok ok' okp S:Nat→Prop} {w w1 W W1:World} {A:Option Addr} {u v v1:Value} {xs:List α} {x:α} {c:List Value}
theorem F_get (h:F d W ok A n xs) (z:α) (i:Int) (h0:0≤i) (h1:i<n) :
  ∃ ad c,A=some ad∧c.length=d.sz∧FK d W ok (xs.getD i.toNat z) c∧(∀ j u,c[j]? = some u→W.cell? (ad.add (i.toNat * d.sz+j))=some u)∧(0<d.sz→ok ad.block):=by
 obtain⟨ad,c,rfl,hcl,hK,hcc⟩:=C_get (F_now h) z i h0 h1
 have hin:0<d.sz→ok ad.block:=by
  intro hs
  by_cases hk:ok ad.block
  ·exact hk
  ·obtain⟨W',h2,h3⟩:=emptied W ad.block
   obtain⟨ad',c',he,hcl',_,hcc'⟩:=C_get (h W' (fun k hk' _=>h2 k (fun e=>hk (e ▸ hk')))) z i h0 h1
   injection he with he
   subst he
   have h4:=hcc' 0 _ (List.getElem?_eq_getElem (by omega))
   rw [h3 _ (add_block _ _)] at h4
   cases h4
 refine⟨ad,c,rfl,hcl,fun W' hW=>?_,hcc,hin⟩
 obtain⟨ad',c',he,hcl',hK',hcc'⟩:=C_get (h W' hW) z i h0 h1
 injection he with he
 subst he
 have hc:c=c':=by
  apply List.ext_getElem?
  intro j
  by_cases hj:j<d.sz
  ·have hb:W'.heap[ad.block]? = W.heap[ad.block]?:=by
    have h5:=hcc j _ (List.getElem?_eq_getElem (by omega))
    have h6:=World.block_lt_of_cell? W _ h5
    rw [add_block] at h6
    exact hW _ (hin (by omega)) h6
   have h5:=hcc j _ (List.getElem?_eq_getElem (by omega))
   have h6:=hcc' j _ (List.getElem?_eq_getElem (by omega))
   have h7:W'.cell? (ad.add (i.toNat * d.sz+j))=W.cell? (ad.add (i.toNat * d.sz+j)):=by simp [World.cell?,add_block,hb]
   rw [h7,h5] at h6
   rw [List.getElem?_eq_getElem (by omega),List.getElem?_eq_getElem (by omega)]
   exact h6
  ·rw [List.getElem?_eq_none (by omega),List.getElem?_eq_none (by omega)]
 rw [hc]
 exact hK'
theorem F_rows (h:F d W ok A n xs):qaQ (fun x c=>FK d W ok x c) d.sz W A n xs:=by
 obtain⟨hl,hm,hn⟩:=F_now h
 refine⟨hl,hm,fun hp=>?_⟩
 obtain⟨ad,rfl,_⟩:=hn hp
 refine⟨ad,rfl,fun j p hj=>?_⟩
 obtain⟨hjl,hjp⟩:=List.getElem?_eq_some_iff.1 hj
 obtain⟨ad',c,he,hcl,hK,hcc,_⟩:=F_get h p (j:Int) (by omega) (by omega)
 injection he with he
 subst he
 simp only [Int.toNat_natCast] at hK hcc
 rw [List.getD_eq_getElem?_getD,hj] at hK
 exact⟨c,hcl,hK,hcc⟩
def N {α:Type} (d:Kd α) (e:Nat) (w:World) (base:Nat) (ok:Nat→Prop) (v:Value) (xs:List α):Prop:=
 (∀ k,v.ownBlock=some k→ok k)∧∃ rows:List (List Value),rows.length=xs.length∧(raw d.sz).R e w base (fun k=>some k=v.ownBlock) v rows∧∀ (j:Nat) (x:α) (c:List Value),xs[j]? = some x→rows[j]? = some c→FK d w (fun k=>ok k∧some k≠v.ownBlock) x c
theorem raw_tight {sz:Nat} {rows:List (List Value)} (h:(raw sz).R e w base ok v rows):(raw sz).R e w base (fun k=>some k=v.ownBlock) v rows:=R_tight rfl h
theorem raw_any {sz:Nat} {rows:List (List Value)} (h:(raw sz).R e w base ok v rows):(raw sz).R e w base (fun _=>True) v rows:=R_mono h (fun _ _=>trivial)
theorem R_N (h:d.R e w base ok v xs):N d e w base ok v xs:=by
 obtain⟨h0,inner,ho,hr⟩:=h
 refine⟨h0,chunks d.sz xs.length inner,qaK _ _ _,⟨fun k hk=>hk.symm,inner,by rw [qaK];exact ho,reps_raw hr (fun x c hp=>⟨d.K_len (d.K_of_M hp),d.K_one (d.K_of_M hp)⟩)⟩,fun j x c hx hc=>?_⟩
 rw [chunks_get hc]
 exact FK_of_M (hr.2 j x hx)
theorem S_N (h:Kd.S d e w base ok v xs):N d e w base ok v xs:=R_N (S_R h)
theorem N_nil (d:Kd α) (e:Nat) (w:World) (base:Nat) (ok:Nat→Prop):N d e w base ok (.slice none 0 0) []:=R_N (R_nil _ _ _ _ _)
theorem N_mono (h:N d e w base ok v xs) (hok:∀ k,ok k→ok' k):N d e w base ok' v xs:=by
 obtain⟨h0,rows,hl,hR,hf⟩:=h
 exact⟨fun k hk=>hok k (h0 k hk),rows,hl,hR,fun j x c hx hc=>FK_mono (hf j x c hx hc) (fun k hk=>⟨hok k hk.1,hk.2⟩)⟩
theorem N_lt (h:N d e w base ok v xs):∀ k,v.ownBlock=some k→k<w.heap.size:=by
 obtain⟨_,rows,_,hR,_⟩:=h
 exact R_lt hR
theorem N_base (h:N d e w base ok v xs):∀ k,v.ownBlock=some k→base≤k:=by
 obtain⟨_,rows,_,hR,_⟩:=h
 exact R_base hR
theorem N_ne (h:N d e w base ok v xs) {t:Nat} {cells:Array Value} (hb:w.heap[g]? = some (.cells cells t (0,0))) (ht:e≠t):some g≠v.ownBlock:=by
 obtain⟨_,rows,_,hR,_⟩:=h
 exact R_ne hR hb ht
theorem N_bound (h:N d e w base ok v xs):N d e w base (fun k=>ok k∧k<w.heap.size) v xs:=by
 have hlt:=N_lt h
 obtain⟨h0,rows,hl,hR,hf⟩:=h
 exact⟨fun k hk=>⟨h0 k hk,hlt k hk⟩,rows,hl,hR,fun j x c hx hc=>FK_mono (FK_bound (hf j x c hx hc)) (fun k hk=>⟨⟨hk.1.1,hk.2⟩,hk.1.2⟩)⟩
theorem N_lower {base':Nat} (h:N d e w base ok v xs) (hb:base'≤base):N d e w base' ok v xs:=by
 obtain⟨h0,rows,hl,hR,hf⟩:=h
 exact⟨h0,rows,hl,R_lower hR hb,hf⟩
theorem N_step (h:N d e w base ok v xs) (hm:∀ k,ok k→k<w.heap.size→w1.heap[k]? = w.heap[k]?):N d e w1 base ok v xs:=by
 obtain⟨h0,rows,hl,hR,hf⟩:=h
 exact⟨h0,rows,hl,R_step hR (fun k hk hlt=>hm k (h0 k hk.symm) hlt),fun j x c hx hc=>FK_step (hf j x c hx hc) (fun k hk hlt=>hm k hk.1 hlt)⟩
theorem N_below (h:N d e w base ok v xs) (hb:Below w.heap.size w w1):N d e w1 base ok v xs:=N_step h (fun k _ hk=>hb.block k hk)
theorem N_alloc (h:N d e w base ok v xs) (o:Obj):N d e (w.alloc o) base ok v xs:=N_below h (qah (Below.refl _ _) o)
theorem N_drew (h:N d e w base ok v xs):N d e w.drew base ok v xs:=N_below h (below_drew (Below.refl _ _))
theorem N_drewN (h:N d e w base ok v xs) (m:Nat):N d e (w.drewN m) base ok v xs:=N_below h (qae (Below.refl _ _) m)
theorem N_far (h:N d e w base ok v xs) {p:Addr} (hok:∀ k,ok k→k≠p.block) (u:Value):N d e (w.setCell p u) base ok v xs:=N_step h (fun k ho _=>Below.heap_setCell w p u k (hok k ho))
theorem N_elder' (h:N d e W base ok v xs) (hbase:∀ k,u.ownBlock=some k→W.heap.size≤k) (hb:Below W.heap.size W w1):N d e w1 base (fun k=>ok k∧some k≠u.ownBlock) v xs:=
 N_mono (N_below (N_bound h) hb) (fun k hk=>⟨hk.1,fun he=>by have:=hbase k he.symm;have:=hk.2;omega⟩)
theorem N_elderB (h:N d e w base ok v xs) (a:Nat) (ha:w.heap.size≤a):N d e w base (fun k=>ok k∧k≠a) v xs:=N_mono (N_bound h) (fun k hk=>⟨hk.1,by have:=hk.2;omega⟩)
theorem N_after (h:N d e W base (fun k=>ok k∧some k≠u.ownBlock) v xs) {u1:Value} (hg:W.grownBy w1 u.ownBlock) (hat:u1.ownBlock=u.ownBlock∨∃ b,u1.ownBlock=some b∧W.heap.size≤b):N d e w1 base (fun k=>ok k∧some k≠u1.ownBlock) v xs:=by
 refine N_mono (N_step (N_bound h) (fun k hk hlt=>hg.block k hlt hk.1.2)) (fun k hk=>⟨hk.1.1,?_⟩)
 rcases hat with hat|⟨b,hb,hle⟩
 ·rw [hat];exact hk.1.2
 ·rw [hb]
  intro he
  injection he with he
  have:=hk.2
  omega
theorem N_old (h:N d e W base ok v xs) (hb:Below W.heap.size W w1):N d e w1 base (fun k=>ok k∧k<W.heap.size) v xs:=N_below (N_bound h) hb
theorem N_told {b:Nat} (h:N d e w1 base (fun k=>ok k∧k<b) v xs) (hbase:∀ k,u.ownBlock=some k→b≤k):N d e w1 base (fun k=>(ok k∧some k≠u.ownBlock)∧k<b) v xs:=
 N_mono h (fun k hk=>⟨⟨hk.1,fun e=>Nat.lt_irrefl _ (Nat.lt_of_lt_of_le hk.2 (hbase k e.symm))⟩,hk.2⟩)
theorem N_slice (h:N d e w base ok v xs):∃ A c,v=.slice A xs.length c:=by
 obtain⟨_,rows,hl,hR,_⟩:=h
 obtain⟨A,c,he⟩:=R_slice hR
 exact⟨A,c,by rw [he,hl]⟩
theorem N_reads' {n c:Nat} (h:N d e w base ok (.slice A n c) xs):n=xs.length∧n≤c∧d.C w A xs.length xs:=by
 obtain⟨_,rows,hl,hR,hf⟩:=h
 obtain⟨hn,hc,hC⟩:=R_reads' hR
 refine⟨by omega,hc,?_⟩
 rw [hl] at hC
 refine⟨rfl,hC.2.1,fun hp=>?_⟩
 obtain⟨ad,he,hcell⟩:=hC.2.2 hp
 refine⟨ad,he,fun j p hj=>?_⟩
 have hjl:j<rows.length:=by have:=(List.getElem?_eq_some_iff.1 hj).1;omega
 obtain⟨c',hcl,hK,hcc⟩:=hcell j _ (List.getElem?_eq_getElem hjl)
 have hk:=FK_now (hf j p _ hj (List.getElem?_eq_getElem hjl))
 refine⟨c',hcl,?_,hcc⟩
 rw [show c' = rows[j] from hK.1]
 exact hk
theorem N_F {n:Nat} (h:N d e w base ok (.slice A n cc) xs):F d w ok A n xs:=fun W' hW=>by
 have h2:=N_reads' (N_step h hW)
 rw [h2.1]
 exact h2.2.2
theorem N_elem {n cap:Nat} (h:N d e W base ok (.slice (some ⟨g,0,none⟩) n cap) xs) (z:α) (i:Int) (h0:0≤i) (h1:i<n) :
  ∃ c,c.length=d.sz∧FK d W (fun k=>ok k∧k≠g) (xs.getD i.toNat z) c∧(∀ j u,c[j]? = some u→W.cell? ⟨g,i.toNat * d.sz+j,none⟩=some u)∧∀ j,W.frozen? ⟨g,i.toNat * d.sz+j,none⟩=false:=by
 obtain⟨_,rows,hl,hR,hf⟩:=h
 have hn:=(R_reads' hR).1
 obtain⟨c,hcl,hM,hcc,hfr⟩:=R_elem hR [] i h0 h1
 have hil:i.toNat<rows.length:=by omega
 have hil':i.toNat<xs.length:=by omega
 have hc:c=rows[i.toNat]:=by
  have h2:=hM.1
  rwa [List.getD_eq_getElem?_getD,List.getElem?_eq_getElem hil] at h2
 refine⟨c,hcl,?_,hcc,hfr⟩
 rw [List.getD_eq_getElem?_getD,List.getElem?_eq_getElem hil']
 exact FK_mono (hf _ _ _ (List.getElem?_eq_getElem hil') (by rw [hc];exact List.getElem?_eq_getElem hil)) (fun k hk=>⟨hk.1,fun he=>hk.2 (by rw [he];simp [Value.ownBlock])⟩)
theorem N_get {ad:Addr} {n cap:Nat} (h:N d e W base ok (.slice (some ad) n cap) xs) (z:α) (i:Int) (h0:0≤i) (h1:i<n) :
  ∃ c,c.length=d.sz∧FK d W (fun k=>ok k∧some k≠(Value.slice (some ad) n cap).ownBlock) (xs.getD i.toNat z) c∧∀ j u,c[j]? = some u→W.cell? (ad.add (i.toNat * d.sz+j))=some u:=by
 obtain⟨g,rfl⟩:∃ g,ad=⟨g,0,none⟩:=by
  obtain⟨_,rows,_,hR,_⟩:=h
  exact R_head hR
 obtain⟨c,hcl,hM,hcc,_⟩:=N_elem h z i h0 h1
 refine⟨c,hcl,FK_mono hM (fun k hk=>⟨hk.1,fun he=>hk.2 (by simpa [Value.ownBlock] using he)⟩),fun j u hu=>?_⟩
 rw [add_at,Nat.zero_add]
 exact hcc j u hu
end
end Kd
end Go.Proofs.YtgnaaokhfpfglaaDoorW.PrintWords
end
section
namespace Go.Proofs.YtgnaaokhfpfglaaDoorW.PrintWords
open Go.RowKit
namespace Kd
section
variable {α:Type} {d:Kd α} {e base n cap g:Nat} {ok ok' okp:Nat→Prop} {w w1 W:World} {v v1:Value} {xs ys:List α}
theorem N_appended {rows news:List (List Value)} (h0:∀ k,v.ownBlock=some k→ok k) (hl:rows.length=xs.length) (hf:∀ (j:Nat) (x:α) (c:List Value),xs[j]? = some x→rows[j]? = some c→FK d W (fun k=>ok k∧some k≠v.ownBlock) x c)
  (hl2:news.length=ys.length) (hf2:∀ (j:Nat) (x:α) (c:List Value),ys[j]? = some x→news[j]? = some c→FK d W okp x c) (hokp:∀ k,okp k→ok k∧some k≠v.ownBlock) (hfresh:∀ k,W.heap.size≤k→ok k)
  (hR:(raw d.sz).R e w1 base (fun _=>True) v1 (rows++news)) (hg:W.grownBy w1 v.ownBlock) (hat:v1.ownBlock=v.ownBlock∨∃ b,v1.ownBlock=some b∧W.heap.size≤b):N d e w1 base ok v1 (xs++ys):=by
 have hne:∀ k,some k≠v.ownBlock→k<W.heap.size→some k≠v1.ownBlock:=by
  intro k hk hlt
  rcases hat with hat|⟨b,hb,hle⟩
  ·rw [hat];exact hk
  ·rw [hb]
   intro he
   injection he with he
   omega
 have step:∀ {x:α} {c:List Value} {o:Nat→Prop},FK d W o x c→(∀ k,o k→ok k∧some k≠v.ownBlock)→FK d w1 (fun k=>ok k∧some k≠v1.ownBlock) x c:=by
  intro x c o hq ho
  exact FK_mono (FK_step (FK_bound hq) (fun k hk hlt=>hg.block k hlt (ho k hk.1).2)) (fun k hk=>⟨(ho k hk.1).1,hne k (ho k hk.1).2 hk.2⟩)
 refine⟨fun k hk=>?_,rows++news,by rw [List.length_append,List.length_append,hl,hl2],raw_tight hR,fun j x c hx hc=>?_⟩
 ·rcases hat with hat|⟨b,hb,hle⟩
  ·exact h0 k (hat ▸ hk)
  ·rw [hb] at hk
   injection hk with hk
   exact hfresh k (by omega)
 ·rcases Nat.lt_or_ge j xs.length with hlt|hge
  ·rw [List.getElem?_append_left hlt] at hx
   rw [List.getElem?_append_left (by omega)] at hc
   exact step (hf j x c hx hc) (fun _ hk=>hk)
  ·rw [List.getElem?_append_right hge] at hx
   rw [List.getElem?_append_right (by omega),hl] at hc
   exact step (hf2 _ x c hx hc) hokp
theorem FK_raw {x:α} {c:List Value} (h:FK d W ok x c):c=c∧c.length=d.sz∧∀ u ∈ c,u.oneCell' = true:=⟨rfl,d.K_len (FK_now h),d.K_one (FK_now h)⟩
theorem N_made {rows:List (List Value)} (hR:(raw d.sz).R e w1 base (fun k=>k=W.heap.size) v1 rows) (hg:W.grownBy w1 none) (hat:∃ b,v1.ownBlock=some b∧W.heap.size≤b) (hl:rows.length=xs.length) (hf:∀ (j:Nat) (x:α) (c:List Value),xs[j]? = some x→rows[j]? = some c→FK d W okp x c)
  (hok:∀ k,okp k→ok k) (hfresh:ok W.heap.size):N d e w1 base ok v1 xs:=by
 obtain⟨b,hb,hle⟩:=hat
 refine⟨fun k hk=>by rw [hR.1 k hk];exact hfresh,rows,hl,raw_tight hR,fun j x c hx hc=>?_⟩
 refine FK_mono (FK_step (FK_bound (hf j x c hx hc)) (fun k hk hlt=>hg.block k hlt (by simp))) (fun k hk=>⟨hok k hk.1,fun he=>?_⟩)
 rw [hb] at he
 injection he with he
 have:=hk.2
 omega
theorem reads_raw {Rr:α→List Value→Prop} {sz m:Nat} {A:Option Addr} (h:qaQ Rr sz W A m ys) (hR:∀ x c,Rr x c→c.length=sz∧∀ u ∈ c,u.oneCell' = true) :
  ∃ news:List (List Value),news.length=ys.length∧qaQ (fun x cs=>cs=x∧cs.length=sz∧∀ u ∈ cs,u.oneCell' = true) sz W A m news∧∀ (j:Nat) (x:α) (c:List Value),ys[j]? = some x→news[j]? = some c→Rr x c:=by
 rcases Nat.eq_zero_or_pos m with h0|hp
 ·have hy:ys=[]:=List.eq_nil_of_length_eq_zero (h.1.trans h0)
  subst hy
  exact⟨[],rfl,⟨h0 ▸ rfl,h.2.1,fun hp=>by omega⟩,fun j x c hx=>by simp at hx⟩
 ·obtain⟨ad,rfl,_⟩:=h.2.2 hp
  obtain⟨inner,hr,hc⟩:=qaQ.inner_ h
  refine⟨chunks sz ys.length inner,qaK _ _ _,⟨by rw [qaK];exact h.1,h.2.1,fun _=>⟨ad,rfl,fun j p hj=>?_⟩⟩,fun j x c hx hcc=>?_⟩
  ·have hjl:j<ys.length:=by have:=(List.getElem?_eq_some_iff.1 hj).1;rwa [qaK] at this
   have hpe:=chunks_get hj
   have hq:=hR _ _ (hr.2 j _ (List.getElem?_eq_getElem hjl))
   rw [← hpe] at hq
   refine⟨p,hq.1,⟨rfl,hq⟩,fun i u hu=>?_⟩
   have hu2:inner[j * sz+i]? = some u:=by
    rw [hpe,List.getElem?_take] at hu
    split at hu
    ·rw [List.getElem?_drop] at hu
     exact hu
    ·cases hu
   exact hc _ u hu2
  ·rw [chunks_get hcc]
   exact hr.2 j x hx
end
section
variable {P:Program} {ops:Array Oper} {rest:List Oper} {o:Oper} {a:Act} {Q:Exit→Act→World→Prop} {Kc:Act→World→Prop} {α:Type}
theorem N_append (d:Kd α) {w0 W:World} (base:Nat) (hgd:o.guard=none) (s x:Operand) (t e:TypeId) (z:Value) (bytes:Nat)
  (ho:o.op=.call { callee:=.builtin .append,args:=#[s,x],argTypes:=#[t,t] })
  (ht:P.underlying t=some (.slice e)) (hinfo:(P.info? e).map (fun i=>(i.zero,i.size,i.bytes))=some (some z,d.sz,bytes)) (hz:z.cells.size=d.sz) (hs0:0<d.sz) (hb0:0<bytes)
  (v:Value) (xs:List α) (p:α) (cs:List Value) (ok okp:Nat→Prop) (hs:a.eval s=v) (hx:a.eval x=.slice (some ⟨W.heap.size,0,none⟩) 1 1) (hp:FK d W okp p cs) (hokp:∀ k,okp k→ok k∧some k≠v.ownBlock) (hfresh:∀ k,W.heap.size≤k→ok k)
  (HO:N d e W base ok v xs) (HB:Below base w0 W) (hbase:base≤W.heap.size) (hl:(xs.length+1) * bytes≤140737488355328)
  (h:∀ v1 w1,N d e w1 base ok v1 (xs++[p])→Below base w0 w1→W.grownBy w1 v.ownBlock→(v1.ownBlock=v.ownBlock∨∃ b,v1.ownBlock=some b∧W.heap.size≤b)→wpList P ops Q rest (a.put o.dst v1) w1) :
  wpList P ops Q (o::rest) a (W.alloc (.cells cs.toArray e)):=by
 obtain⟨h0,rows,hlr,hR,hf⟩:=HO
 refine R_append (raw d.sz) base hgd s x t e z bytes ho ht hinfo hz hs0 hb0 v rows cs cs (fun _=>True) (fun _=>False) hs hx (FK_raw hp) (fun _ hk=>hk.elim) (fun _ _=>trivial) (raw_any hR) HB hbase (by rw [hlr];exact hl) ?_
 intro v1 w1 hr hb hg hat
 exact h v1 w1 (N_appended h0 hlr hf (ys:=[p]) (news:=[cs]) rfl (fun j y c hy hc=>by
  rcases j with _|j
  ·simp only [List.getElem?_cons_zero,Option.some.injEq] at hy hc
   rw [← hy,← hc];exact hp
  ·simp at hy) hokp hfresh hr hg hat) hb hg hat
theorem N_append_step (d:Kd α) {w0 W:World} (base:Nat) (hw:Region.wanted o (yielded ops a.tmps)=true) (s x:Operand) (t e:TypeId) (z:Value) (bytes:Nat)
  (ho:o.op=.call { callee:=.builtin .append,args:=#[s,x],argTypes:=#[t,t] })
  (ht:P.underlying t=some (.slice e)) (hinfo:(P.info? e).map (fun i=>(i.zero,i.size,i.bytes))=some (some z,d.sz,bytes)) (hz:z.cells.size=d.sz) (hs0:0<d.sz) (hb0:0<bytes)
  (v:Value) (xs:List α) (p:α) (cs:List Value) (ok okp:Nat→Prop) (hs:a.eval s=v) (hx:a.eval x=.slice (some ⟨W.heap.size,0,none⟩) 1 1) (hp:FK d W okp p cs) (hokp:∀ k,okp k→ok k∧some k≠v.ownBlock) (hfresh:∀ k,W.heap.size≤k→ok k)
  (HO:N d e W base ok v xs) (HB:Below base w0 W) (hbase:base≤W.heap.size) (hl:(xs.length+1) * bytes≤140737488355328)
  (h:∀ v1 w1,N d e w1 base ok v1 (xs++[p])→Below base w0 w1→W.grownBy w1 v.ownBlock→(v1.ownBlock=v.ownBlock∨∃ b,v1.ownBlock=some b∧W.heap.size≤b)→Kc (a.put o.dst v1) w1) :
  if Region.wanted o (yielded ops a.tmps)=true then Oper.wp P o a (W.alloc (.cells cs.toArray e)) Kc Q else Kc (a.put o.dst undef) (W.alloc (.cells cs.toArray e)):=by
 obtain⟨h0,rows,hlr,hR,hf⟩:=HO
 refine R_append_step (raw d.sz) base hw s x t e z bytes ho ht hinfo hz hs0 hb0 v rows cs cs (fun _=>True) (fun _=>False) hs hx (FK_raw hp) (fun _ hk=>hk.elim) (fun _ _=>trivial) (raw_any hR) HB hbase (by rw [hlr];exact hl) ?_
 intro v1 w1 hr hb hg hat
 exact h v1 w1 (N_appended h0 hlr hf (ys:=[p]) (news:=[cs]) rfl (fun j y c hy hc=>by
  rcases j with _|j
  ·simp only [List.getElem?_cons_zero,Option.some.injEq] at hy hc
   rw [← hy,← hc];exact hp
  ·simp at hy) hokp hfresh hr hg hat) hb hg hat
theorem N_append_rows (d:Kd α) {w0 W:World} (base:Nat) (hgd:o.guard=none) (s x:Operand) (t e:TypeId) (z:Value) (bytes:Nat)
  (ho:o.op=.call { callee:=.builtin .append,args:=#[s,x],argTypes:=#[t,t] })
  (ht:P.underlying t=some (.slice e)) (hinfo:(P.info? e).map (fun i=>(i.zero,i.size,i.bytes))=some (some z,d.sz,bytes)) (hz:z.cells.size=d.sz) (hs0:0<d.sz) (hb0:0<bytes)
  (v:Value) (xs ys:List α) (A:Option Addr) (m c:Nat) (ok okp:Nat→Prop) (hs:a.eval s=v) (hx:a.eval x=.slice A m c)
  (HO:N d e W base ok v xs) (HR:F d W okp A m ys) (hokp:∀ k,okp k→ok k∧some k≠v.ownBlock) (hfresh:∀ k,W.heap.size≤k→ok k)
  (HB:Below base w0 W) (hbase:base≤W.heap.size) (hl:(xs.length+m) * bytes≤140737488355328)
  (h:∀ v1 w1,N d e w1 base ok v1 (xs++ys)→Below base w0 w1→W.grownBy w1 v.ownBlock→(v1.ownBlock=v.ownBlock∨∃ b,v1.ownBlock=some b∧W.heap.size≤b)→wpList P ops Q rest (a.put o.dst v1) w1) :
  wpList P ops Q (o::rest) a W:=by
 obtain⟨h0,rows,hlr,hR,hf⟩:=HO
 obtain⟨news,hnl,hnr,hnf⟩:=reads_raw (F_rows HR) (fun y c hk=>⟨d.K_len (FK_now hk),d.K_one (FK_now hk)⟩)
 refine R_append_rows (raw d.sz) base hgd s x t e z bytes ho ht hinfo hz hs0 hb0 v rows news A m c (fun _=>True) (fun _=>False) hs hx (raw_any hR) hnr (fun _ _ hk=>hk) (fun _ hk=>hk.elim) (fun _ _=>trivial) HB hbase (by rw [hlr];exact hl) ?_
 intro v1 w1 hr hb hg hat
 exact h v1 w1 (N_appended h0 hlr hf hnl hnf hokp hfresh hr hg hat) hb hg hat
theorem N_lit (d:Kd α) {w0 W:World} (base e:Nat) (hgd:o.guard=none) {N':Tmp} (_hd:o.dst=some N') {xs:List α} {inner:List Value} {ok okp:Nat→Prop}
  (hrun:(execOp a.eval o).run P W=.ok (.value (.slice (some ⟨W.heap.size,0,none⟩) xs.length xs.length)) (W.alloc (.cells inner.toArray e)))
  (hrep:Reps (FK d W okp) d.sz xs inner) (hok:∀ k,okp k→ok k) (hfresh:ok W.heap.size) (HB:Below base w0 W) (hbase:base≤W.heap.size) (hm:xs.length≤9223372036854775807)
  (h:∀ v1 w1,N d e w1 base ok v1 xs→Below base w0 w1→W.grownBy w1 none→(∃ b,v1.ownBlock=some b∧W.heap.size≤b)→wpList P ops Q rest (a.put o.dst v1) w1) :
  wpList P ops Q (o::rest) a W:=by
 refine R_lit (raw d.sz) base e hgd _hd (xs:=chunks d.sz xs.length inner) (inner:=inner) (ok:=fun k=>k=W.heap.size) (okp:=fun _=>False) (by rw [qaK];exact hrun) (reps_raw hrep (fun y c hk=>⟨d.K_len (FK_now hk),d.K_one (FK_now hk)⟩)) (fun _ hk=>hk.elim) rfl HB hbase (by rw [qaK];exact hm) ?_
 intro v1 w1 hr hb hg hat
 exact h v1 w1 (N_made hr hg hat (qaK _ _ _) (fun j y c hy hc=>by rw [chunks_get hc];exact hrep.2 j y hy) hok hfresh) hb hg hat
end
end Kd
end Go.Proofs.YtgnaaokhfpfglaaDoorW.PrintWords
end
section
namespace Go.Proofs.YtgnaaokhfpfglaaDoorW.PrintMore
open Go.RowKit Go.Proofs.YtgnaaokhfpfglaaDoorW.PrintWords
namespace Kd
open Go.Proofs.YtgnaaokhfpfglaaDoorW.PrintWords.Kd
end Kd
namespace Kd
open Go.Proofs.YtgnaaokhfpfglaaDoorW.PrintWords.Kd
section
variable {α:Type} {d:Kd α} {e base g N:Nat} {ok:Nat→Prop} {W w1:World} {u v:Value} {xs:List α}
end
end Kd
theorem qaW (k k':IntKind) (x y:Int):Builtin.max2 (.int k x) (.int k' y)=pure (.int k (if x<y then y else x)):=by simp only [Builtin.max2,gt_iff_lt]
theorem qaU (k k':IntKind) (x y:Int):Builtin.min2 (.int k x) (.int k' y)=pure (.int k (if y<x then y else x)):=by simp only [Builtin.min2]
theorem qa3 (ats:Array TypeId) (ty:TypeId) (a b:Value):Builtin.max_ ats ty #[a,b]=(Builtin.max2 a b >>= fun s=>pure s):=by simp only [Builtin.max_,List.foldlM_cons,List.foldlM_nil]
theorem qa2 (ats:Array TypeId) (ty:TypeId) (a b:Value):Builtin.min_ ats ty #[a,b]=(Builtin.min2 a b >>= fun s=>pure s):=by simp only [Builtin.min_,List.foldlM_cons,List.foldlM_nil]
theorem qaN (ats:Array TypeId) (ty:TypeId) (a b c:Value):Builtin.max_ ats ty #[a,b,c]=(Builtin.max2 a b >>= fun s=>Builtin.max2 s c >>= fun s=>pure s):=by simp only [Builtin.max_,List.foldlM_cons,List.foldlM_nil]
theorem qaM (ats:Array TypeId) (ty:TypeId) (a b c:Value):Builtin.min_ ats ty #[a,b,c]=(Builtin.min2 a b >>= fun s=>Builtin.min2 s c >>= fun s=>pure s):=by simp only [Builtin.min_,List.foldlM_cons,List.foldlM_nil]
theorem qaV (ats:Array TypeId) (ty:TypeId) (a b c d:Value):Builtin.max_ ats ty #[a,b,c,d]=(Builtin.max2 a b >>= fun s=>Builtin.max2 s c >>= fun s=>Builtin.max2 s d >>= fun s=>pure s):=by simp only [Builtin.max_,List.foldlM_cons,List.foldlM_nil]
theorem qaT (ats:Array TypeId) (ty:TypeId) (a b c d:Value):Builtin.min_ ats ty #[a,b,c,d]=(Builtin.min2 a b >>= fun s=>Builtin.min2 s c >>= fun s=>Builtin.min2 s d >>= fun s=>pure s):=by simp only [Builtin.min_,List.foldlM_cons,List.foldlM_nil]
end Go.Proofs.YtgnaaokhfpfglaaDoorW.PrintMore
namespace Go.Proofs.YtgnaaokhfpfglaaDoorW.PrintWords
open Go.RowKit
section
variable {P:Program} {ops:Array Oper} {rest:List Oper} {o:Oper} {a:Act} {Q:Exit→Act→World→Prop} {W:World}
theorem qaA {f:FuncId} {as_:Array Operand} {ts:Array TypeId} (_ho:o.op=.call { callee:=.value (.func f),args:=as_,argTypes:=ts }) (h:wpList P ops Q (o::rest) a W):wpList P ops Q (o::rest) a W:=h
theorem qaB {b:Builtin} {xs:Array Operand} {ts:Array TypeId} (_ho:o.op=.call { callee:=.builtin b,args:=xs,argTypes:=ts }) (h:wpList P ops Q (o::rest) a W):wpList P ops Q (o::rest) a W:=h
end
def mx (a b:Int):Int:=if a<b then b else a
def mn (a b:Int):Int:=if b<a then b else a
def shr (k:IntKind) (x y:Int):Int:=x / 2 ^ min y.toNat k.bits
theorem shr_small {k:IntKind} {x y j:Int} (h:shr k x y=j) (hy:y≤k.bits):x / 2 ^ y.toNat=j:=by rw [← h];unfold shr;rw [Nat.min_eq_left (by omega)]
theorem drewN_self (w:World) (n:Nat):w.drewN n=w.drewN n:=rfl
namespace Kd
section
variable {α:Type} {d:Kd α} {e base:Nat} {ok:Nat→Prop} {W w1:World} {v:Value} {xs:List α}
end
section
variable {α:Type} {d:Kd α} {e base g n cap:Nat} {ok oki okp:Nat→Prop} {W:World} {xs:List α} {i:Int} {c:List Value}
end
section
variable {α:Type} {d:Kd α} {e base b b' g N:Nat} {ok ok1:Nat→Prop} {W W2 w1:World} {u v:Value} {xs ys:List α} {S:Nat→Prop}
end
end Kd
end Go.Proofs.YtgnaaokhfpfglaaDoorW.PrintWords
namespace Go.Proofs.YtgnaaokhfpfglaaDoorW.PrintWords
open Go.RowKit
namespace Kd
def V {α:Type} (d:Kd α) (_e:Nat) (W:World) (_base:Nat) (ok:Nat→Prop) (v:Value) (xs:List α):Prop:=∃ A c,v=.slice A xs.length c∧xs.length≤c∧F d W ok A xs.length xs
section
variable {α β:Type} {d:Kd α} {e base base' n m c g N' lo hi:Nat} {ok ok' S:Nat→Prop} {w W w1:World} {A:Option Addr} {ad:Addr} {u v v1:Value} {xs:List α}
theorem V_map (h:V d e W base ok v xs) (hF:∀ A,F d W ok A xs.length xs→F d w1 ok' A xs.length xs):V d e w1 base' ok' v xs:=by
 obtain⟨A,c,hv,hl,hf⟩:=h
 exact⟨A,c,hv,hl,hF A hf⟩
theorem V_mk (hl:xs.length≤c) (hf:F d W ok A xs.length xs):V d e W base ok (.slice A xs.length c) xs:=⟨A,c,rfl,hl,hf⟩
theorem V_slice (h:V d e W base ok v xs):∃ A c,v=.slice A xs.length c:=by
 obtain⟨A,c,hv,_⟩:=h
 exact⟨A,c,hv⟩
theorem V_at (h:V d e W base ok (.slice A n c) xs):n=xs.length∧n≤c∧F d W ok A xs.length xs:=by
 obtain⟨A',c',hv,hl,hf⟩:=h
 injection hv with ha hn hc
 subst ha;subst hc
 exact⟨hn,by rw [hn];exact hl,hf⟩
theorem V_reads' (h:V d e W base ok (.slice A n c) xs):n=xs.length∧n≤c∧d.C W A xs.length xs:=⟨(V_at h).1,(V_at h).2.1,F_now (V_at h).2.2⟩
theorem V_F (h:V d e W base ok (.slice A n c) xs):F d W ok A n xs:=by
 obtain⟨hn,_,hf⟩:=V_at h
 rw [hn]
 exact hf
theorem V_nil (d:Kd α) (e:Nat) (W:World) (base:Nat) (ok:Nat→Prop):V d e W base ok (.slice none 0 0) []:=⟨none,0,rfl,Nat.le_refl _,F_nil d W ok⟩
theorem N_V (h:N d e W base ok v xs):V d e W base' ok v xs:=by
 obtain⟨A,c,rfl⟩:=N_slice h
 exact⟨A,c,rfl,(N_reads' h).2.1,N_F h⟩
theorem V_mono (h:V d e W base ok v xs) (hok:∀ k,ok k→ok' k):V d e W base ok' v xs:=V_map h (fun _ hf=>F_mono hf hok)
theorem V_lower (h:V d e W base ok v xs) (_:base'≤base):V d e W base' ok v xs:=h
theorem V_below (h:V d e W base ok v xs) (hb:Below W.heap.size W w1):V d e w1 base ok v xs:=V_map h (fun _ hf=>F_below hf hb)
theorem V_alloc (h:V d e W base ok v xs) (o:Obj):V d e (W.alloc o) base ok v xs:=V_map h (fun _ hf=>F_alloc hf o)
theorem V_drew (h:V d e W base ok v xs):V d e W.drew base ok v xs:=V_map h (fun _ hf=>F_drew hf)
theorem V_drewN (h:V d e W base ok v xs) (m:Nat):V d e (W.drewN m) base ok v xs:=V_map h (fun _ hf=>F_drewN hf m)
theorem V_far (h:V d e W base ok v xs) {p:Addr} (hok:∀ k,ok k→k≠p.block) (u:Value):V d e (W.setCell p u) base ok v xs:=V_map h (fun _ hf=>F_far hf hok u)
theorem V_after (h:V d e W base (fun k=>ok k∧some k≠u.ownBlock) v xs) (hg:W.grownBy w1 u.ownBlock) (hat:v1.ownBlock=u.ownBlock∨∃ b,v1.ownBlock=some b∧W.heap.size≤b):V d e w1 base (fun k=>ok k∧some k≠v1.ownBlock) v xs:=V_map h (fun _ hf=>F_after hf hg hat)
theorem V_afterv (h:V d e W base (fun k=>ok k∧some k≠v.ownBlock) u xs) (hg:W.grownBy w1 v.ownBlock) (hat:v1.ownBlock=v.ownBlock∨∃ b,v1.ownBlock=some b∧W.heap.size≤b):V d e w1 base (fun k=>ok k∧some k≠v1.ownBlock) u xs:=V_after h hg hat
theorem N_afterv (h:N d e W base (fun k=>ok k∧some k≠v.ownBlock) u xs) (hg:W.grownBy w1 v.ownBlock) (hat:v1.ownBlock=v.ownBlock∨∃ b,v1.ownBlock=some b∧W.heap.size≤b):N d e w1 base (fun k=>ok k∧some k≠v1.ownBlock) u xs:=N_after h hg hat
theorem V_elder' (h:V d e W base ok v xs) (hbase:∀ k,u.ownBlock=some k→W.heap.size≤k) (hb:Below W.heap.size W w1):V d e w1 base (fun k=>ok k∧some k≠u.ownBlock) v xs:=V_map h (fun _ hf=>F_elder' hf hbase hb)
theorem V_elderB (h:V d e W base ok v xs) (a:Nat) (ha:W.heap.size≤a):V d e W base (fun k=>ok k∧k≠a) v xs:=V_map h (fun _ hf=>F_elderB hf a ha)
theorem V_old (h:V d e W base ok v xs) (hb:Below W.heap.size W w1):V d e w1 base (fun k=>ok k∧k<W.heap.size) v xs:=V_map h (fun _ hf=>F_old hf hb)
theorem V_told (h:V d e w1 base (fun k=>ok k∧k<N') v xs) (hbase:∀ k,u.ownBlock=some k→N'≤k):V d e w1 base (fun k=>(ok k∧some k≠u.ownBlock)∧k<N') v xs:=V_map h (fun _ hf=>F_told hf hbase)
theorem V_get (h:V d e W base ok (.slice (some ad) n c) xs) (z:α) (i:Int) (h0:0≤i) (h1:i<n) :
  ∃ cs,cs.length=d.sz∧FK d W ok (xs.getD i.toNat z) cs∧∀ j u,cs[j]? = some u→W.cell? (ad.add (i.toNat * d.sz+j))=some u:=by
 obtain⟨ad',cs,he,hcl,hK,hcc,_⟩:=F_get (V_F h) z i h0 h1
 injection he with he
 subst he
 exact⟨cs,hcl,hK,hcc⟩
theorem F_take (h:F d W ok A xs.length xs) (hm:m≤xs.length):F d W ok A (xs.take m).length (xs.take m):=F_imp h (fun _ hC=>C_take hC hm)
theorem F_cut (h:F d W ok A xs.length xs) (hm:m≤xs.length) (hc:xs.length≤c):F d W ok (if c=m then A else A.map (·.add (m * d.sz))) (xs.drop m).length (xs.drop m):=F_imp h (fun _ hC=>C_drop hC hm hc)
theorem R_newM {M:Nat→Prop} (h:d.R e w1 W.heap.size ok v xs) (hle:w.heap.size≤W.heap.size) (hM:∀ k,w.heap.size≤k→M k):d.R e w1 W.heap.size (fun k=>M k∧ok k) v xs:=R_mono (R_bound h) (fun k hk=>⟨hM k (Nat.le_trans hle hk.2.1),hk.1⟩)
end
end Kd
end Go.Proofs.YtgnaaokhfpfglaaDoorW.PrintWords
end
section
namespace Go.Proofs.YtgnaaokhfpfglaaDoorW.PrintLast
open Go.Proofs.YtgnaaokhfpfglaaDoorW.PrintWords (qaa)
def needsOf (md:Region.Mode) (o:Oper):List Nat:=(o.after.toList.filter (fun e=>Region.binds md e)).map (fun e=>e.on)
def clashOf (md:Region.Mode) (ops:Array Oper) (i:Nat) (oi:Oper):List Nat:=(List.range ops.size).filter fun j=>!(j == i) && match ops[j]? with
 |some oj=>!(oj.after.any (fun e=>Region.binds md e && e.on == i) || oi.apart ops oj)
 |none=>false
def rtab (md:Region.Mode) (ops:Array Oper):Bool × List (List Nat × List Nat):=(Region.noSelect ops,(List.range ops.size).map fun i=>match ops[i]? with
 |some o=>(needsOf md o,clashOf md ops i o)
 |none=>([],[]))
def readyAt (T:List (List Nat × List Nat)) (l:List Bool) (i:Nat):Bool:=!l.getD i true && match T[i]? with
 |some r=>r.1.all (fun j=>l.getD j false)
 |none=>false
def readyT (T:List (List Nat × List Nat)) (l:List Bool):List Nat:=(List.range T.length).filter (readyAt T l)
def freeT (T:List (List Nat × List Nat)) (l:List Bool) (i:Nat):Bool:=match T[i]? with
 |some r=>r.2.all (fun j=>l.getD j true)
 |none=>false
def closedT (T:List (List Nat × List Nat)) (l:List Bool):Bool:=(List.range T.length).all fun j=>!l.getD j false || match T[j]? with
 |some r=>r.1.all (fun k=>l.getD k false)
 |none=>true
def reachT (T:List (List Nat × List Nat)) (i:Nat):Nat→Nat→Bool
 |0,_=>false
 |fuel+1,d=>match T[d]? with
  |some r=>r.1.any fun j=>j == i || reachT T i fuel j
  |none=>false
def lastT (T:List (List Nat × List Nat)) (l:List Bool) (ds:List Nat) (i:Nat):Bool:=ds.all fun d=>l.getD d true || reachT T i T.length d
section
variable {md:Region.Mode} {ops:Array Oper} {T:Bool × List (List Nat × List Nat)} {l l' li lj lk:Array Bool} {ds:List Nat} {i j k:Nat}
theorem gd (l:Array Bool) (j:Nat) (b:Bool):l.getD j b=l.toList.getD j b:=by simp [Array.getD_eq_getD_getElem?,List.getD_eq_getElem?_getD]
theorem needs_all (o:Oper) (p:Nat→Bool):o.after.all (fun e=>!Region.binds md e || p e.on)=(needsOf md o).all p:=by
 unfold needsOf
 rw [← Array.all_toList]
 induction o.after.toList with
 |nil=>rfl
 |cons e r ih=>
  rw [List.all_cons,ih,List.filter_cons]
  cases h:Region.binds md e<;>simp
theorem needs_any (o:Oper) (p:Nat→Bool):o.after.any (fun e=>Region.binds md e && p e.on)=(needsOf md o).any p:=by
 unfold needsOf
 rw [← Array.any_toList]
 induction o.after.toList with
 |nil=>rfl
 |cons e r ih=>
  rw [List.any_cons,ih,List.filter_cons]
  cases h:Region.binds md e<;>simp
theorem rtab_length:(rtab md ops).2.length=ops.size:=by simp [rtab]
theorem rtab_some {o:Oper} (h:ops[i]? = some o):(rtab md ops).2[i]? = some (needsOf md o,clashOf md ops i o):=by
 have hi:=(Array.getElem?_eq_some_iff.1 h).1
 unfold rtab
 rw [List.getElem?_map,List.getElem?_range hi,Option.map_some,h]
theorem rtab_none (h:ops[i]? = none):(rtab md ops).2[i]? = none:=by
 have hi:ops.size≤i:=Array.getElem?_eq_none_iff.1 h
 exact List.getElem?_eq_none (by rw [rtab_length];exact hi)
theorem readyAt_eq:readyAt (rtab md ops).2 l.toList i=(!l.getD i true && ((ops[i]?).map (·.after.all fun e=>!Region.binds md e || l.getD e.on false)).getD false):=by
 unfold readyAt
 rw [gd]
 cases h:ops[i]? with
 |none=>rw [rtab_none h];rfl
 |some o=>
  rw [rtab_some h]
  simp only [Option.map_some,Option.getD_some]
  rw [← needs_all]
  simp only [gd]
theorem ready_eq:Region.ready md ops l=readyT (rtab md ops).2 l.toList:=by
 unfold Region.ready readyT
 rw [rtab_length]
 refine List.filter_congr (fun i _=>?_)
 rw [readyAt_eq]
theorem free_eq:Region.free md ops l i=freeT (rtab md ops).2 l.toList i:=by
 unfold Region.free freeT
 cases h:ops[i]? with
 |none=>rw [rtab_none h]
 |some oi=>
  rw [rtab_some h]
  simp only [clashOf]
  rw [List.all_filter]
  congr 1
  funext j
  rw [gd]
  cases hj:ops[j]? with
  |none=>cases (j == i)<;>cases (l.toList.getD j true)<;>simp
  |some oj=>
   cases (j == i)<;>cases (l.toList.getD j true)<;>cases (oj.after.any (fun e=>Region.binds md e && e.on == i) || oi.apart ops oj)<;>simp_all
theorem closed_eq:Region.closedB md ops l=closedT (rtab md ops).2 l.toList:=by
 unfold Region.closedB closedT
 rw [rtab_length]
 congr 1
 funext j
 rw [gd]
 cases h:ops[j]? with
 |none=>rw [rtab_none h]
 |some o=>
  rw [rtab_some h]
  simp only
  rw [← needs_all]
  simp only [gd]
theorem reach_eq:∀ (fuel d:Nat),Region.reachB md ops i fuel d=reachT (rtab md ops).2 i fuel d
 |0,_=>rfl
 |fuel+1,d=>by
  unfold Region.reachB reachT
  cases h:ops[d]? with
  |none=>rw [rtab_none h]
  |some o=>
   rw [rtab_some h]
   simp only
   rw [← needs_any]
   congr 1
   funext e
   rw [reach_eq fuel]
theorem last_eq:Region.lastB md ops l ds i=lastT (rtab md ops).2 l.toList ds i:=by
 unfold Region.lastB lastT
 rw [rtab_length]
 congr 1
 funext d
 rw [gd,reach_eq]
theorem readyAt_mem (h:readyAt T.2 l.toList i=true) (hT:rtab md ops=T):(Region.ready md ops l).contains i=true:=by
 subst hT
 rw [ready_eq]
 unfold readyT
 rw [List.contains_iff_mem,List.mem_filter,List.mem_range]
 refine⟨?_,h⟩
 unfold readyAt at h
 rw [Bool.and_eq_true] at h
 cases hq:(rtab md ops).2[i]? with
 |none=>rw [hq] at h;simp at h
 |some r=>exact (List.getElem?_eq_some_iff.1 hq).1
theorem set_of (h:(l.toList.set i true == l'.toList)=true):(l.setIfInBounds i true == l')=true:=by
 rw [beq_iff_eq] at h ⊢
 apply Array.ext'
 rw [Array.toList_setIfInBounds]
 exact h
def anyT (T:Bool × List (List Nat × List Nat)) (l l':List Bool) (i:Nat):Bool:=T.1 && freeT T.2 l i && readyAt T.2 l i && (l.set i true == l')
theorem any_of (hT:rtab md ops=T) (h:anyT T l.toList l'.toList i=true):anyB md ops l l' i=true:=by
 simp only [anyT,Bool.and_eq_true] at h
 obtain⟨⟨⟨h1,h2⟩,h3⟩,h4⟩:=h
 have h5:=readyAt_mem h3 hT
 have h6:=set_of h4
 subst hT
 simp only [anyB,Bool.and_eq_true]
 exact⟨⟨⟨h1,by rw [free_eq];exact h2⟩,h5⟩,h6⟩
def takeT (T:Bool × List (List Nat × List Nat)) (ds:List Nat) (l l':List Bool) (i:Nat):Bool:=T.1 && freeT T.2 l i && readyAt T.2 l i && closedT T.2 l && lastT T.2 l ds i && (l.set i true == l')
theorem take_of (hT:rtab md ops=T) (h:takeT T ds l.toList l'.toList i=true):takeB md ops ds l l' i=true:=by
 simp only [takeT,Bool.and_eq_true] at h
 obtain⟨⟨⟨⟨⟨h1,h2⟩,h3⟩,h4⟩,h5⟩,h6⟩:=h
 have h7:=readyAt_mem h3 hT
 have h8:=set_of h6
 subst hT
 simp only [takeB,Bool.and_eq_true]
 exact⟨⟨⟨⟨⟨h1,by rw [free_eq];exact h2⟩,h7⟩,by rw [closed_eq];exact h4⟩,by rw [last_eq];exact h5⟩,h8⟩
theorem qaO (hT:rtab md ops=T) (h:(readyT T.2 l.toList == [i] && l.toList.set i true == l'.toList)=true):readyB md ops l l' i=true:=by
 simp only [Bool.and_eq_true] at h
 obtain⟨h1,h2⟩:=h
 subst hT
 simp only [readyB,Bool.and_eq_true]
 exact⟨by rw [ready_eq];exact h1,set_of h2⟩
theorem two_of (hT:rtab md ops=T) (h:(readyT T.2 l.toList == [i,j] && l.toList.set i true == li.toList && l.toList.set j true == lj.toList)=true):(Region.ready md ops l == [i,j] && l.setIfInBounds i true == li && l.setIfInBounds j true == lj)=true:=by
 simp only [Bool.and_eq_true] at h ⊢
 obtain⟨⟨h1,h2⟩,h3⟩:=h
 subst hT
 exact⟨⟨by rw [ready_eq];exact h1,set_of h2⟩,set_of h3⟩
theorem done_of (hT:rtab md ops=T) (h:(readyT T.2 l.toList == [])=true):(Region.ready md ops l == [])=true:=by
 subst hT
 rw [ready_eq]
 exact h
def upM (B:List Nat) (d:Nat):List Nat→Nat
 |[]=>0
 |n::r=>(2 ^ n ||| (if n<d then B.getD n 0 else 0)) ||| upM B d r
def waitsOk (T:List (List Nat × List Nat)) (B:List Nat):Bool:=(List.range T.length).all fun d=>match T[d]? with
 |some r=>(B.getD d 0 ||| upM B d r.1) == upM B d r.1
 |none=>false
theorem upM_bit {B:List Nat} {d i:Nat}:∀ {ns:List Nat},(upM B d ns).testBit i=true→∃ n ∈ ns,n=i∨(n<d∧(B.getD n 0).testBit i=true)
 |[],h=>by simp [upM] at h
 |n::r,h=>by
  unfold upM at h
  rw [Nat.testBit_or,Nat.testBit_or,Bool.or_eq_true,Bool.or_eq_true] at h
  rcases h with (h|h)|h
  ·rw [Nat.testBit_two_pow] at h
   exact⟨n,List.mem_cons_self,.inl (by simpa using h)⟩
  ·by_cases hn:n<d
   ·rw [if_pos hn] at h
    exact⟨n,List.mem_cons_self,.inr ⟨hn,h⟩⟩
   ·rw [if_neg hn] at h
    simp at h
  ·obtain⟨m,hm,h2⟩:=upM_bit h
   exact⟨m,List.mem_cons_of_mem _ hm,h2⟩
theorem reach_bit {T:List (List Nat × List Nat)} {B:List Nat} (hB:waitsOk T B=true):∀ (fuel d:Nat),d<fuel→d<T.length→(B.getD d 0).testBit i=true→reachT T i fuel d=true
 |0,d,h,_,_=>by omega
 |fuel+1,d,h,hd,hb=>by
  have h1:=List.all_eq_true.1 hB d (List.mem_range.2 hd)
  cases hr:T[d]? with
  |none=>rw [hr] at h1;simp at h1
  |some r=>
   rw [hr] at h1
   simp only [beq_iff_eq] at h1
   have h2:(upM B d r.1).testBit i=true:=by rw [← h1,Nat.testBit_or,hb,Bool.true_or]
   obtain⟨n,hn,h3⟩:=upM_bit h2
   unfold reachT
   rw [hr]
   simp only
   rw [List.any_eq_true]
   refine⟨n,hn,?_⟩
   rcases h3 with rfl|⟨h4,h5⟩
   ·simp
   ·rw [reach_bit hB fuel n (by omega) (by omega) h5,Bool.or_true]
def lastW (T:List (List Nat × List Nat)) (B:List Nat) (l:List Bool) (ds:List Nat) (i:Nat):Bool:=ds.all fun d=>l.getD d true || (decide (d<T.length) && (B.getD d 0).testBit i)
def takeW (T:Bool × List (List Nat × List Nat)) (B:List Nat) (ds:List Nat) (l l':List Bool) (i:Nat):Bool:=T.1 && freeT T.2 l i && readyAt T.2 l i && closedT T.2 l && lastW T.2 B l ds i && (l.set i true == l')
theorem qay {B:List Nat} (hT:rtab md ops=T) (hB:waitsOk T.2 B=true) (h:takeW T B ds l.toList l'.toList i=true):takeB md ops ds l l' i=true:=by
 refine take_of hT ?_
 simp only [takeW,takeT,Bool.and_eq_true] at h ⊢
 obtain⟨⟨⟨⟨⟨h1,h2⟩,h3⟩,h4⟩,h5⟩,h6⟩:=h
 refine⟨⟨⟨⟨⟨h1,h2⟩,h3⟩,h4⟩,?_⟩,h6⟩
 unfold lastW at h5
 unfold lastT
 rw [List.all_eq_true] at h5 ⊢
 intro d hd
 have h7:=h5 d hd
 rw [Bool.or_eq_true,Bool.and_eq_true,decide_eq_true_eq] at h7
 rcases h7 with h7|⟨h8,h9⟩
 ·rw [h7,Bool.true_or]
 ·rw [reach_bit hB _ d h8 h8 h9,Bool.or_true]
theorem qaX {P:Program} {Q:Exit→Act→World→Prop} {S:World→Prop} {n:Nat} {a:Act} {w:World} {B:List Nat} (hT:rtab md ops=T) (hB:waitsOk T.2 B=true) (h:qaa (rtab md ops=T)→qaa (waitsOk T.2 B=true)→qav P md ops Q S ds n l a w):qav P md ops Q S ds n l a w:=h ⟨hT⟩ ⟨hB⟩
end
def opsIn:Code→Nat→Option (Array Oper)
 |.region id ops _,k=>if id == k then some ops else none
 |.seq a b,k=>match opsIn a k with
  |some o=>some o
  |none=>opsIn b k
 |.cond _ a b,k=>match opsIn a k with
  |some o=>some o
  |none=>opsIn b k
 |.block _ c,k=>opsIn c k
 |.loop c,k=>opsIn c k
 |.scope c,k=>opsIn c k
 |.rangeFunc _ _ a b,k=>match opsIn a k with
  |some o=>some o
  |none=>opsIn b k
 |_,_=>none
def opsOf (f:Func) (k:Nat):Array Oper:=((f.body.bind fun c=>opsIn c k)).getD #[]
end Go.Proofs.YtgnaaokhfpfglaaDoorW.PrintLast
end
section
namespace Go.Proofs.YtgnaaokhfpfglaaDoorW.PrintWords
open Go.RowKit
set_option linter.unusedVariables false
theorem sB {p:Prop} (h:p:=by repeat (first|(with_reducible first|exact HB.out|apply qah|apply qae|apply qag|refine qad ?_ (qaa.out (by assumption)))|exact HB.out)):p:=h
theorem sK {p q:Prop} (h:q) (c:q→p:=by intro h_;(with_reducible repeat (first|refine blk_drewN ?_ _|refine qax ?_|refine qas ?_ _));exact h_):p:=c h
theorem sR {p q:Prop} (h:q) (c:q→p:=by intro h_;(with_reducible repeat (first|apply Kd.R_alloc|apply Kd.R_drewN|apply Kd.R_drew));exact h_):p:=c h
theorem sV {p q:Prop} (h:q) (c:q→p:=by intro h_;(with_reducible repeat (first|apply Kd.V_alloc|apply Kd.V_drewN|apply Kd.V_drew));exact h_):p:=c h
theorem sN {p q:Prop} (h:q) (c:q→p:=by intro h_;(with_reducible repeat (first|apply Kd.N_alloc|apply Kd.N_drewN|apply Kd.N_drew));exact h_):p:=c h
theorem sM {p q:Prop} (h:q) (c:q→p:=by intro h_;(with_reducible repeat (first|refine blk_drewN ?_ _|refine qax ?_|refine qas ?_ _));exact h_):p:=c h
theorem sRm {p q:Prop} (h:q) (c:q→p:=by intro h_;(with_reducible repeat (first|apply Kd.R_alloc|apply Kd.R_drewN|apply Kd.R_drew));exact h_):p:=c h
theorem sVm {p q:Prop} (h:q) (c:q→p:=by intro h_;(with_reducible repeat (first|apply Kd.V_alloc|apply Kd.V_drewN|apply Kd.V_drew));exact h_):p:=c h
theorem sNm {p q:Prop} (h:q) (c:q→p:=by intro h_;(with_reducible repeat (first|apply Kd.N_alloc|apply Kd.N_drewN|apply Kd.N_drew));exact h_):p:=c h
theorem sKb {g:Nat} {o:Obj} {W0 W w2:World} (h:W0.heap[g]? = some o) (hb:Below W.heap.size W w2) (c:W0.heap[g]? = some o→W.heap[g]? = some o:=by intro h_;(with_reducible repeat (first|refine blk_drewN ?_ _|refine qax ?_|refine qas ?_ _));exact h_):w2.heap[g]? = some o:=qa9 (c h) hb
theorem sKg {g:Nat} {o:Obj} {W0 W w2:World} {row:Option Nat} (h:W0.heap[g]? = some o) (hg:W.grownBy w2 row) (hne:some g≠row) (c:W0.heap[g]? = some o→W.heap[g]? = some o:=by intro h_;(with_reducible repeat (first|refine blk_drewN ?_ _|refine qax ?_|refine qas ?_ _));exact h_):w2.heap[g]? = some o:=qaY (c h) hg hne
theorem sLt {g:Nat} {o:Obj} {W0 W:World} (h:W0.heap[g]? = some o) (c:W0.heap[g]? = some o→W.heap[g]? = some o:=by intro h_;(with_reducible repeat (first|refine blk_drewN ?_ _|refine qax ?_|refine qas ?_ _));exact h_):g<W.heap.size:=blk_lt (c h)
theorem sF3 {w:World} {g:Nat} {t:TypeId} {cs:Array Value} (h:w.heap[g]? = some (.cells cs t (0,0))):w.frozen? ⟨g,0,none⟩=false∧w.frozen? ⟨g,1,none⟩=false∧w.frozen? ⟨g,2,none⟩=false:=⟨qan h 0,qan h 1,qan h 2⟩
theorem sC3 {w:World} {g:Nat} {t:TypeId} {a0 a1 a2:Value} (h:w.heap[g]? = some (.cells #[a0,a1,a2] t (0,0))):w.cell? ⟨g,0,none⟩=some a0∧w.cell? ⟨g,1,none⟩=some a1∧w.cell? ⟨g,2,none⟩=some a2:=⟨(qab h 0).trans rfl,(qab h 1).trans rfl,(qab h 2).trans rfl⟩
theorem sF4 {w:World} {g:Nat} {t:TypeId} {cs:Array Value} (h:w.heap[g]? = some (.cells cs t (0,0))):w.frozen? ⟨g,0,none⟩=false∧w.frozen? ⟨g,1,none⟩=false∧w.frozen? ⟨g,2,none⟩=false∧w.frozen? ⟨g,3,none⟩=false:=⟨qan h 0,qan h 1,qan h 2,qan h 3⟩
theorem sC4 {w:World} {g:Nat} {t:TypeId} {a0 a1 a2 a3:Value} (h:w.heap[g]? = some (.cells #[a0,a1,a2,a3] t (0,0))):w.cell? ⟨g,0,none⟩=some a0∧w.cell? ⟨g,1,none⟩=some a1∧w.cell? ⟨g,2,none⟩=some a2∧w.cell? ⟨g,3,none⟩=some a3:=⟨(qab h 0).trans rfl,(qab h 1).trans rfl,(qab h 2).trans rfl,(qab h 3).trans rfl⟩
theorem sF6 {w:World} {g:Nat} {t:TypeId} {cs:Array Value} (h:w.heap[g]? = some (.cells cs t (0,0))):w.frozen? ⟨g,0,none⟩=false∧w.frozen? ⟨g,1,none⟩=false∧w.frozen? ⟨g,2,none⟩=false∧w.frozen? ⟨g,3,none⟩=false∧w.frozen? ⟨g,4,none⟩=false∧w.frozen? ⟨g,5,none⟩=false:=⟨qan h 0,qan h 1,qan h 2,qan h 3,qan h 4,qan h 5⟩
theorem sC6 {w:World} {g:Nat} {t:TypeId} {a0 a1 a2 a3 a4 a5:Value} (h:w.heap[g]? = some (.cells #[a0,a1,a2,a3,a4,a5] t (0,0))):w.cell? ⟨g,0,none⟩=some a0∧w.cell? ⟨g,1,none⟩=some a1∧w.cell? ⟨g,2,none⟩=some a2∧w.cell? ⟨g,3,none⟩=some a3∧w.cell? ⟨g,4,none⟩=some a4∧w.cell? ⟨g,5,none⟩=some a5:=⟨(qab h 0).trans rfl,(qab h 1).trans rfl,(qab h 2).trans rfl,(qab h 3).trans rfl,(qab h 4).trans rfl,(qab h 5).trans rfl⟩
theorem sF7 {w:World} {g:Nat} {t:TypeId} {cs:Array Value} (h:w.heap[g]? = some (.cells cs t (0,0))):w.frozen? ⟨g,0,none⟩=false∧w.frozen? ⟨g,1,none⟩=false∧w.frozen? ⟨g,2,none⟩=false∧w.frozen? ⟨g,3,none⟩=false∧w.frozen? ⟨g,4,none⟩=false∧w.frozen? ⟨g,5,none⟩=false∧w.frozen? ⟨g,6,none⟩=false:=⟨qan h 0,qan h 1,qan h 2,qan h 3,qan h 4,qan h 5,qan h 6⟩
theorem sC7 {w:World} {g:Nat} {t:TypeId} {a0 a1 a2 a3 a4 a5 a6:Value} (h:w.heap[g]? = some (.cells #[a0,a1,a2,a3,a4,a5,a6] t (0,0))):w.cell? ⟨g,0,none⟩=some a0∧w.cell? ⟨g,1,none⟩=some a1∧w.cell? ⟨g,2,none⟩=some a2∧w.cell? ⟨g,3,none⟩=some a3∧w.cell? ⟨g,4,none⟩=some a4∧w.cell? ⟨g,5,none⟩=some a5∧w.cell? ⟨g,6,none⟩=some a6:=⟨(qab h 0).trans rfl,(qab h 1).trans rfl,(qab h 2).trans rfl,(qab h 3).trans rfl,(qab h 4).trans rfl,(qab h 5).trans rfl,(qab h 6).trans rfl⟩
theorem sF8 {w:World} {g:Nat} {t:TypeId} {cs:Array Value} (h:w.heap[g]? = some (.cells cs t (0,0))):w.frozen? ⟨g,0,none⟩=false∧w.frozen? ⟨g,1,none⟩=false∧w.frozen? ⟨g,2,none⟩=false∧w.frozen? ⟨g,3,none⟩=false∧w.frozen? ⟨g,4,none⟩=false∧w.frozen? ⟨g,5,none⟩=false∧w.frozen? ⟨g,6,none⟩=false∧w.frozen? ⟨g,7,none⟩=false:=⟨qan h 0,qan h 1,qan h 2,qan h 3,qan h 4,qan h 5,qan h 6,qan h 7⟩
theorem sC8 {w:World} {g:Nat} {t:TypeId} {a0 a1 a2 a3 a4 a5 a6 a7:Value} (h:w.heap[g]? = some (.cells #[a0,a1,a2,a3,a4,a5,a6,a7] t (0,0))):w.cell? ⟨g,0,none⟩=some a0∧w.cell? ⟨g,1,none⟩=some a1∧w.cell? ⟨g,2,none⟩=some a2∧w.cell? ⟨g,3,none⟩=some a3∧w.cell? ⟨g,4,none⟩=some a4∧w.cell? ⟨g,5,none⟩=some a5∧w.cell? ⟨g,6,none⟩=some a6∧w.cell? ⟨g,7,none⟩=some a7:=⟨(qab h 0).trans rfl,(qab h 1).trans rfl,(qab h 2).trans rfl,(qab h 3).trans rfl,(qab h 4).trans rfl,(qab h 5).trans rfl,(qab h 6).trans rfl,(qab h 7).trans rfl⟩
theorem sA {p:Prop} (h:p:=by first|(with_reducible assumption)|assumption):p:=h
section
open Go.Proofs.YtgnaaokhfpfglaaDoorW.PrintLast Go.Proofs.YtgnaaokhfpfglaaDoorW.PrintMore
variable {P:Program} {ops:Array Oper} {Q:Exit→Act→World→Prop} {md:Region.Mode} {S:World→Prop} {ds:List Nat}
theorem sP (i:Nat) (N:Option Tmp) {oi:Oper} {v:Value} {fuel:Nat} {l:Array Bool} {a:Act} {w:World} {l':Array Bool} {a':Act} (hi:ops[i]? = some oi) (hN:oi.dst=N)
  (h:qav P md ops Q S ds fuel l' a' w)
  (hl:l.setIfInBounds i true=l':=by (simp only [List.setIfInBounds_toArray,List.set_cons_zero,List.set_cons_succ];rfl))
  (hc:anyB md ops l l' i=true:=by exact any_of HT_.out (by kernel_rfl))
  (hQ:∀ c a w,Q (.panic c) (a.put oi.dst v) w→Q (.panic c) a w:=by exact fun _ _ _ h=>h)
  (h1:Region.wanted oi (yielded ops a.tmps)=true:=by rfl) (hy:∀ w,(execOp a.eval oi).run P w=.ok (.value v) w:=by (intro w';go_simp;with_reducible rfl))
  (ha:a.put N v=a':=by (simp only [Act.put,List.setIfInBounds_toArray,List.set_cons_zero,List.set_cons_succ,qaC,qaE];rfl)):qav P md ops Q S ds (fuel+1) l a w:=
 pure_ l' hi hN hc hQ (Or.inl ⟨h1,hy⟩) ha h
end
end Go.Proofs.YtgnaaokhfpfglaaDoorW.PrintWords
end
section
namespace Go.Proofs.YtgnaaokhfpfglaaDoorW.PrintWords
open Go.RowKit
theorem arrRead {w:World} {g:Nat} {t:TypeId} {k:IntKind} {xs:List Int} (h:w.heap[g]? = some (.cells (xs.map (Value.int k)).toArray t (0,0))) (j:Int) (h0:0≤j) {n:Int} (h1:j<n) (hn:n=(xs.length:Int):=by rfl):w.cell? ⟨g,j.toNat,none⟩=some (.int k (rd xs j)):=by
 subst hn
 have hl:j.toNat<xs.length:=by omega
 rw [qab h]
 simp [rd,List.getElem?_eq_getElem hl,List.getD_eq_getElem?_getD]
def i64B (x:Int):Bool:=decide (-9223372036854775808≤x) && decide (x≤9223372036854775807)
theorem i64B_iff {x:Int}:i64B x=true↔-9223372036854775808≤x∧x≤9223372036854775807:=by simp [i64B]
theorem bneNil {α:Type} [BEq α] (l:List α):(l != []) = !l.isEmpty:=by cases l<;>rfl
theorem bneNilU (l:List UInt8):(l == [])=l.isEmpty:=by cases l<;>rfl
end Go.Proofs.YtgnaaokhfpfglaaDoorW.PrintWords
end
section
namespace Go.Proofs.YtgnaaokhfpfglaaDoorW.PrintWords
open Go.RowKit
section
variable {α β:Type} {c:Prop} [Decidable c] {A B:Nat→Option α} {r:α}
theorem Ev.ifp (h:c) (k:Ev A r):Ev (fun n=>if c then A n else B n) r:=Ev.congr (fun _=>if_pos h) k
theorem Ev.ifn (h:¬ c) (k:Ev B r):Ev (fun n=>if c then A n else B n) r:=Ev.congr (fun _=>if_neg h) k
theorem Ev.bindS {o:Option β} {f:Nat→β→Option α} {a:β} (h:o=some a) (k:Ev (fun n=>f n a) r):Ev (fun n=>o.bind (f n)) r:=Ev.congr (fun _=>by rw [h];rfl) k
theorem Ev.ite_ {a b:Nat→Option α} (h1:c→Ev a r) (h2:¬ c→Ev b r):Ev (fun n=>if c then a n else b n) r:=by
 by_cases h:c
 ·exact Ev.ifp h (h1 h)
 ·exact Ev.ifn h (h2 h)
end
theorem qaH {x:Int} (h0 : -9223372036854775808≤x) (h1:x≤9223372036854775807):wrap64 x=x:=by unfold wrap64;omega
theorem qaD (g:Nat) (h:g≤9223372036854775806):wrap64 ((g:Int)+1)=((g+1:Nat):Int):=by rw [qaH (by omega) (by omega)];rfl
theorem u64_nonneg (x:Int):0≤IntKind.u64.wrap x:=by rw [IntKind.wrap_u64];omega
theorem and_maskP (n:Int) (k:Nat) (hk:k≤62):bits .and .i64 n (((2 ^ k - 1:Nat)):Int)=n % ((2 ^ k:Nat):Int):=by
 have hp:(2:Nat) ^ k≤2 ^ 62:=Nat.pow_le_pow_right (by decide) hk
 have hpos:0<(2:Nat) ^ k:=Nat.pow_pos (by decide)
 have hm:(BitVec.ofInt 64 (((2 ^ k - 1:Nat)):Int)).toNat=2 ^ k - 1:=by
  rw [BitVec.ofInt_natCast,BitVec.toNat_ofNat];exact Nat.mod_eq_of_lt (by omega)
 have hdvd:(2 ^ k:Nat) ∣ 2 ^ 64:=Nat.pow_dvd_pow 2 (by omega)
 have key:(BitVec.ofInt 64 n &&& BitVec.ofInt 64 (((2 ^ k - 1:Nat)):Int)).toNat=(n % ((2 ^ 64:Nat):Int)).toNat % 2 ^ k:=by
  rw [BitVec.toNat_and,BitVec.toNat_ofInt,hm,Nat.and_two_pow_sub_one_eq_mod]
 show IntKind.i64.wrap ((BitVec.ofInt 64 n &&& BitVec.ofInt 64 (((2 ^ k - 1:Nat)):Int)).toNat:Nat)=_
 rw [key,IntKind.wrap_i64]
 have hlt:(n % ((2 ^ 64:Nat):Int)).toNat % 2 ^ k<2 ^ k:=Nat.mod_lt _ hpos
 have h64:0≤n % ((2 ^ 64:Nat):Int):=Int.emod_nonneg _ (by decide)
 have hz:(((n % ((2 ^ 64:Nat):Int)).toNat % 2 ^ k:Nat):Int)=n % ((2 ^ k:Nat):Int):=by
  rw [Int.natCast_emod,Int.toNat_of_nonneg h64,Int.emod_emod_of_dvd _ (Int.natCast_dvd_natCast.2 hdvd)]
 rw [← hz]
 omega
theorem andP7 (n:Int):bits .and .i64 n 7=n % 8:=and_maskP n 3 (by decide)
theorem andP15 (n:Int):bits .and .i64 n 15=n % 16:=and_maskP n 4 (by decide)
theorem andP3 (n:Int):bits .and .i64 n 3=n % 4:=and_maskP n 2 (by decide)
theorem andP1 (n:Int):bits .and .i64 n 1=n % 2:=and_maskP n 1 (by decide)
theorem and7_rng (n:Int):0≤bits .and .i64 n 7∧bits .and .i64 n 7<8:=by rw [andP7];omega
theorem and15_rng (n:Int):0≤bits .and .i64 n 15∧bits .and .i64 n 15<16:=by rw [andP15];omega
theorem and3_rng (n:Int):0≤bits .and .i64 n 3∧bits .and .i64 n 3<4:=by rw [andP3];omega
theorem rest_valP (n b:Int) (h0:0<b):(n.tmod b+b).tmod b=n % b:=by
 rcases Int.le_total 0 n with hn|hn
 ·rw [Int.tmod_eq_emod_of_nonneg hn,Int.tmod_eq_emod_of_nonneg (by have:=Int.emod_nonneg n (by omega:b≠0);omega)]
  simp
 ·have h1:n.tmod b = -((-n) % b):=by
   have:=Int.neg_tmod n b
   rw [← Int.tmod_eq_emod_of_nonneg (by omega:0≤-n),Int.neg_tmod]
   simp
  have h2:=Int.emod_nonneg (-n) (by omega:b≠0)
  have h3:=Int.emod_lt_of_pos (-n) h0
  rw [h1,Int.tmod_eq_emod_of_nonneg (by omega)]
  have h4 : -((-n) % b)+b=n+b * ((-n) / b+1):=by
   have:=Int.mul_ediv_add_emod (-n) b
   rw [Int.mul_add]
   omega
  rw [h4,Int.add_mul_emod_self_left]
theorem rest_wrapP (n b:Int) (h0:0<b) (h1:b≤1000000):Int.tmod (wrap64 (Int.tmod n b+b)) b=n % b:=by
 have hl : -b<n.tmod b:=by
  rcases Int.le_total 0 n with hn|hn
  ·have:=Int.tmod_nonneg b hn;omega
  ·have:=Int.neg_tmod n b;have h5:=Int.tmod_lt_of_pos (-n) h0;rw [Int.neg_tmod] at h5;omega
 have hr:n.tmod b<b:=Int.tmod_lt_of_pos n h0
 rw [qaH (by omega) (by omega),rest_valP n b h0]
theorem qaL (xs:List Int) (i:Nat) (h:i<xs.length):rd xs (i:Int)=xs[i]:=by simp [rd,List.getD_eq_getElem?_getD,List.getElem?_eq_getElem h]
end Go.Proofs.YtgnaaokhfpfglaaDoorW.PrintWords
end
section
namespace Go.Proofs.YtgnaaokhfpfglaaDoor
open Go.ChangeShapes Go.WideShapes Go.ChangeAt Go.RowKit Go.Deep Go.Proofs.YtgnaaokhfpfglaaDoorW.PrintWords
def Opens {α:Type} (P:Program) (t:TypeId) (d:Kd α) (ok:α→Prop):Prop:=
 ∀ {H:Type} {enc:TypeId × Value→H} {w:World} {base:Nat} {held:Bool} {fuel:Nat} {cs:List Value} {y:DataW H × List MemPlace},
  DataW.trod enc P w base (fun _=>true) held fuel t cs=some y→∃ x,d.K w x cs∧ok x
def OpensF {α:Type} (P:Program) (n0:Nat) (fs:List (TypeId × Nat)) (d:Kd α) (ok:α→Prop):Prop:=
 ∀ {H:Type} {enc:TypeId × Value→H} {w:World} {base:Nat} {held:Bool} {fuel:Nat} {cs:List Value},
  (∀ f ∈ fs,∃ y:DataW H × List MemPlace,DataW.trod enc P w base (fun _=>true) held fuel f.1 ((cs.drop f.2).take (P.cellsOf f.1))=some y)→cs.length=n0+d.sz→∃ x,d.K w x (cs.drop n0)∧ok x
section
variable {α β:Type} {P:Program} {t:TypeId} {d:Kd α} {d':Kd β} {ok:α→Prop} {ok':β→Prop} {n0:Nat}
theorem Opens.int {k:IntKind} (ht:P.underlying t=some (.int k)):Opens P t (Kd.int k) (fun x=>(Lit.int k x).wf=true):=by
 intro H enc w base held fuel cs y h
 obtain⟨n,rfl,_,hw⟩:=DataW.trod_int ht h
 exact⟨n,rfl,hw⟩
theorem Opens.bool (ht:P.underlying t=some .bool):Opens P t Kd.bool (fun _=>True):=by
 intro H enc w base held fuel cs y h
 obtain⟨n,rfl,_⟩:=DataW.trod_bool ht h
 exact⟨n,rfl,trivial⟩
theorem Opens.string (ht:P.underlying t=some .string):Opens P t Kd.string (fun s=>s.size≤maxLen):=by
 intro H enc w base held fuel cs y h
 obtain⟨n,rfl,_,hl⟩:=DataW.trod_string ht h
 exact⟨n,rfl,hl⟩
theorem Opens.slice {e:TypeId} (e':TypeId) (ht:P.underlying t=some (.slice e)) (he:Opens P e d ok) (hc:P.cellsOf e=d.sz) (z:α):Opens P t (Kd.slice e' d) (fun l=>l.length≤maxLen∧∀ x ∈ l,ok x):=by
 intro H enc w base held fuel cs y h
 rcases open_slice ht h with ⟨rfl,_⟩|⟨a,len,cap,m,n,D,Pl,rfl,_,hl,hm,hmm,_,hx⟩
 ·exact⟨[],⟨none,0,rfl,Nat.le_refl _,Kd.C_nil d w⟩,Nat.zero_le _,fun x hx=>by cases hx⟩
 ·simp only [if_true] at hmm
  subst hmm
  have hk:∀ k,k<m→∃ g:α,ok g∧∃ c,d.K w g c∧∀ i u,c[i]? = some u→w.cell? (a.add (k * d.sz+i))=some u:=by
   intro k hk
   obtain⟨cs',hcs,ht'⟩:=hx k hk
   obtain⟨g,hg,hok⟩:=he ht'
   refine⟨g,hok,cs',hg,fun i u hu=>?_⟩
   obtain⟨_,_,hat⟩:=World.cells?_some hcs
   have hil:i<P.cellsOf e:=by
    have:=(List.getElem?_eq_some_iff.1 hu).1
    rw [d.K_len hg] at this
    omega
   have:=hat i hil
   rw [hu] at this
   rw [← this,hc]
   congr 1
   unfold Addr.add
   by_cases h1:k * d.sz=0<;>by_cases h2:i=0<;>simp [h1,h2,Nat.add_assoc]
  haveI:Inhabited α:=⟨z⟩
  obtain⟨f,hf⟩:=choose_lt (α:=α) (n:=m) (p:=fun k g=>ok g∧∃ c,d.K w g c∧∀ i u,c[i]? = some u→w.cell? (a.add (k * d.sz+i))=some u) hk
  have hm':len≤9223372036854775807:=by unfold maxLen at hm;omega
  refine⟨(List.range len).map f,⟨some a,m,by simp,by simpa using hl,⟨rfl,by simpa using hm',fun _=>⟨a,rfl,fun j p hj=>?_⟩⟩⟩,by simp;omega,fun x hx=>?_⟩
  ·have hj1:j<len:=by have:=(List.getElem?_eq_some_iff.1 hj).1;simpa using this
   rw [List.getElem?_map,List.getElem?_range hj1] at hj
   simp at hj
   subst hj
   obtain⟨_,c,hK,hcell⟩:=hf j (by omega)
   exact⟨c,d.K_len hK,hK,hcell⟩
  ·obtain⟨k,hk,rfl⟩:=List.mem_map.1 hx
   exact (hf k (by have:=List.mem_range.1 hk;omega)).1
theorem OpensF.last (h:Opens P t d ok) (hc:P.cellsOf t=d.sz):OpensF P n0 [(t,n0)] d ok:=by
 intro H enc w base held fuel cs hf hl
 obtain⟨y,hy⟩:=hf (t,n0) List.mem_cons_self
 rw [List.take_of_length_le (by rw [List.length_drop,hc];omega)] at hy
 exact h hy
theorem OpensF.cons {fs:List (TypeId × Nat)} (h:Opens P t d ok) (hc:P.cellsOf t=d.sz) {n1:Nat} (hn:n0+d.sz=n1) (hr:OpensF P n1 fs d' ok'):OpensF P n0 ((t,n0)::fs) (Kd.pair d d') (fun x=>ok x.1∧ok' x.2):=by
 subst hn
 intro H enc w base held fuel cs hf hl
 obtain⟨y,hy⟩:=hf (t,n0) List.mem_cons_self
 obtain⟨x,hx,hox⟩:=h hy
 obtain⟨x',hx',hox'⟩:=hr (fun f hm=>hf f (List.mem_cons_of_mem _ hm)) (by rw [hl];show n0+(d.sz+d'.sz)=_;omega)
 refine⟨(x,x'),⟨(cs.drop n0).take (P.cellsOf t),cs.drop (n0+d.sz),?_,hx,hx'⟩,hox,hox'⟩
 rw [hc,← List.drop_drop,List.take_append_drop]
theorem Opens.struct {fs:Array Field} {l:List (TypeId × Nat)} (f:β→α) (g:α→β) (hg:∀ x,f (g x)=x) (ht:P.underlying t=some (.struct fs)) (hfs:fs.toList.map (fun f=>(f.type,f.offset))=l) (hf:OpensF P 0 l d ok) (hc:P.cellsOf t=d.sz):Opens P t (Kd.iso d f) (fun b=>ok (f b)):=by
 subst hfs
 intro H enc w base held fuel cs y h
 obtain⟨xs,n,_,_,hl,hlen,hx⟩:=DataW.trod_struct ht h
 obtain⟨x,hk,ho⟩:=hf (cs:=cs) (fun q hq=>by
  obtain⟨fd,hfd,rfl⟩:=List.mem_map.1 hq
  obtain⟨i,hi,he⟩:=List.getElem_of_mem hfd
  have hi':i<fs.size:=by simpa using hi
  have hge:fs[i]? = some fd:=by rw [Array.getElem?_eq_getElem hi',← he];simp
  exact⟨xs[i]'(by omega),(hx i fd hge).trans (List.getElem?_eq_getElem (by omega))⟩) (by rw [hl,hc,Nat.zero_add])
 rw [List.drop_zero] at hk
 exact⟨g x,by show d.K w (f (g x)) cs;rw [hg];exact hk,by show ok (f (g x));rw [hg];exact ho⟩
theorem Opens.array {e:TypeId} {m:Nat} {l:List (TypeId × Nat)} (f:β→α) (g:α→β) (hg:∀ x,f (g x)=x) (ht:P.underlying t=some (.array m e)) (hfs:(List.range m).map (fun i=>(e,i * P.cellsOf e))=l) (hf:OpensF P 0 l d ok) (hc:P.cellsOf t=d.sz):Opens P t (Kd.iso d f) (fun b=>ok (f b)):=by
 subst hfs
 intro H enc w base held fuel cs y h
 obtain⟨xs,n,_,_,hl,hlen,hx⟩:=DataW.trod_array ht h
 obtain⟨x,hk,ho⟩:=hf (cs:=cs) (fun q hq=>by
  obtain⟨i,hi,rfl⟩:=List.mem_map.1 hq
  have hi':=List.mem_range.1 hi
  exact⟨xs[i]'(by omega),(hx i hi').trans (List.getElem?_eq_getElem (by omega))⟩) (by rw [hl,hc,Nat.zero_add])
 rw [List.drop_zero] at hk
 exact⟨g x,by show d.K w (f (g x)) cs;rw [hg];exact hk,by show ok (f (g x));rw [hg];exact ho⟩
end
end Go.Proofs.YtgnaaokhfpfglaaDoor
end
section
namespace Go.Proofs.YtgnaaokhfpfglaaDoor
open Go.RowKit
def At (w:World) (b:Nat) (v:Value) (t:TypeId):Prop:=w.heap[b]? = some (.cells #[v] t (0,0))
section
variable {w w':World} {b:Nat} {v:Value} {t:TypeId}
theorem At.cell (h:At w b v t):w.cell? ⟨b,0,none⟩=some v:=cell_of_one h
theorem At.free (h:At w b v t):w.frozen? ⟨b,0,none⟩=false:=free_of_one h
theorem At.lt (h:At w b v t):b<w.heap.size:=lt_of_block h
theorem At.alloc (h:At w b v t) (o:Obj):At (w.alloc o) b v t:=(Below.heap_alloc w o b h.lt).trans h
theorem At.set (h:At w b v t) (u:Value):At (w.setCell ⟨b,0,none⟩ u) b u t:=one_setCell h
theorem At.below {B:Nat} (h:At w b v t) (hb:Below B w w') (hB:b<B):At w' b v t:=(hb.block b hB).trans h
theorem At.drew (h:At w b v t):At w.drew b v t:=h
theorem At.drewN (h:At w b v t) (n:Nat):At (w.drewN n) b v t:=h
theorem At.grown {row:Option Nat} (h:At w b v t) (hg:w.grownBy w' row) (hr:some b≠row):At w' b v t:=(hg.block b h.lt hr).trans h
end
theorem below_drewN {B:Nat} {a w:World} (h:Below B a w) (n:Nat):Below B a (w.drewN n):=⟨h.os,h.tape,h.output,h.size,h.block⟩
end Go.Proofs.YtgnaaokhfpfglaaDoor
end
section
namespace Go.Proofs
open Go.Shelf
def Tryd.lays169_ren:Go.Shelf.Ren:=⟨fun|169=>32|n=>n,fun|70=>62|9=>9|0=>0|72=>65|37=>63|127=>94|3=>3|5=>5|n=>n,fun|n=>n⟩
theorem Tryd.lays169:Go.Proofs.Lays.n169 Tryd.prog Tryd.lays169_ren:={
 mixed:=by kernel_rfl
 f169:=Tryd.func32.trans (congrArg some (by kernel_rfl))
 t0:=Tryd.underlying0
 a0:=Tryd.isAgg0
 z0:=Tryd.sizeOf0
 v0:=Tryd.zeroValue0
 t3:=Tryd.underlying3
 a3:=Tryd.isAgg3
 z3:=Tryd.sizeOf3
 v3:=Tryd.zeroValue3
 t9:=Tryd.underlying9
 a9:=Tryd.isAgg9
 z9:=Tryd.sizeOf9
 v9:=Tryd.zeroValue9
 t37:=Tryd.underlying63
 a37:=Tryd.isAgg63
 z37:=Tryd.sizeOf63
 v37:=Tryd.zeroValue63
 t70:=Tryd.underlying62
 a70:=Tryd.isAgg62
 z70:=Tryd.sizeOf62
 v70:=Tryd.zeroValue62
 t72:=Tryd.underlying65
 a72:=Tryd.isAgg65
 z72:=Tryd.sizeOf65
 v72:=Tryd.zeroValue65
 t127:=Tryd.underlying94
 a127:=Tryd.isAgg94
 z127:=Tryd.sizeOf94
 v127:=Tryd.zeroValue94 }
theorem Tryd.Builder_Extra_169:Builder.Extra Tryd.prog Tryd.lays169_ren:={
 sizeBuilder:=by kernel_rfl
 liesBuilder:=by kernel_rfl
 t5:=Tryd.underlying5
 a5:=Tryd.isAgg5
 z5:=Tryd.sizeOf5
 v5:=Tryd.zeroValue5
 infoByte:=by kernel_rfl
 cellsByte:=by kernel_rfl
 sizeByte:=by kernel_rfl
 neB5:=by decide }
open Go.RowKit in
theorem Tryd.Builder_String_any (B b:Nat) (l:List UInt8) (w:World) (h:Lib.IsBuilder 65 5 B b (Lib.byteCells l) w) (hBw:B≤w.heap.size) :
  Calls Tryd.prog 32 #[.pointer (some ⟨b,0,none⟩)] w fun e w'=>e=.returned (.string ⟨l.toArray⟩)∧Below B w w':=Any.Builder_String_any Tryd.lays169 Tryd.Builder_Extra_169 B b l w h hBw
def Tryd.lays156_ren:Go.Shelf.Ren:=⟨fun|156=>51|165=>70|166=>28|169=>32|240=>49|241=>76|276=>68|277=>82|n=>n,fun|31=>61|9=>9|3=>3|4=>4|0=>0|20=>20|72=>65|76=>68|70=>62|37=>63|75=>67|127=>94|164=>108|5=>5|80=>74|n=>n,fun|n=>n⟩
theorem Tryd.lays156:Go.Proofs.Lays.n156 Tryd.prog Tryd.lays156_ren:={
 mixed:=by kernel_rfl
 f156:=Tryd.func51.trans (congrArg some (by kernel_rfl))
 f165:=Tryd.func70.trans (congrArg some (by kernel_rfl))
 f166:=Tryd.func28.trans (congrArg some (by kernel_rfl))
 f169:=Tryd.func32.trans (congrArg some (by kernel_rfl))
 f240:=Tryd.func49.trans (congrArg some (by kernel_rfl))
 f241:=Tryd.func76.trans (congrArg some (by kernel_rfl))
 f276:=Tryd.func68.trans (congrArg some (by kernel_rfl))
 f277:=Tryd.func82.trans (congrArg some (by kernel_rfl))
 t0:=Tryd.underlying0
 a0:=Tryd.isAgg0
 z0:=Tryd.sizeOf0
 v0:=Tryd.zeroValue0
 t3:=Tryd.underlying3
 a3:=Tryd.isAgg3
 z3:=Tryd.sizeOf3
 v3:=Tryd.zeroValue3
 t4:=Tryd.underlying4
 a4:=Tryd.isAgg4
 z4:=Tryd.sizeOf4
 v4:=Tryd.zeroValue4
 t9:=Tryd.underlying9
 a9:=Tryd.isAgg9
 z9:=Tryd.sizeOf9
 v9:=Tryd.zeroValue9
 t20:=Tryd.underlying20
 a20:=Tryd.isAgg20
 z20:=Tryd.sizeOf20
 v20:=Tryd.zeroValue20
 t31:=Tryd.underlying61
 a31:=Tryd.isAgg61
 z31:=Tryd.sizeOf61
 v31:=Tryd.zeroValue61
 t37:=Tryd.underlying63
 a37:=Tryd.isAgg63
 z37:=Tryd.sizeOf63
 v37:=Tryd.zeroValue63
 t70:=Tryd.underlying62
 a70:=Tryd.isAgg62
 z70:=Tryd.sizeOf62
 v70:=Tryd.zeroValue62
 t72:=Tryd.underlying65
 a72:=Tryd.isAgg65
 z72:=Tryd.sizeOf65
 v72:=Tryd.zeroValue65
 t75:=Tryd.underlying67
 a75:=Tryd.isAgg67
 z75:=Tryd.sizeOf67
 v75:=Tryd.zeroValue67
 t76:=Tryd.underlying68
 a76:=Tryd.isAgg68
 z76:=Tryd.sizeOf68
 v76:=Tryd.zeroValue68
 t127:=Tryd.underlying94
 a127:=Tryd.isAgg94
 z127:=Tryd.sizeOf94
 v127:=Tryd.zeroValue94
 t164:=Tryd.underlying108
 a164:=Tryd.isAgg108
 z164:=Tryd.sizeOf108
 v164:=Tryd.zeroValue108 }
theorem Tryd.Builder_Extra_156:Builder.Extra Tryd.prog Tryd.lays156_ren:={
 sizeBuilder:=by kernel_rfl
 liesBuilder:=by kernel_rfl
 t5:=Tryd.underlying5
 a5:=Tryd.isAgg5
 z5:=Tryd.sizeOf5
 v5:=Tryd.zeroValue5
 infoByte:=by kernel_rfl
 cellsByte:=by kernel_rfl
 sizeByte:=by kernel_rfl
 neB5:=by decide }
open Go.RowKit in
theorem Tryd.strings_Join (bk o c:Nat) (xs:List ByteArray) (sep:ByteArray) (w:World) (hcells:∀ (j:Nat) x,xs[j]? = some x→w.cell? ⟨bk,o+j,none⟩=some (.string x)) (hbk:bk<w.heap.size) (hN:xs.length≤140737488355328) (hcap:xs.length≤c) (hlen:(Lib.join (xs.map (·.data.toList)) sep.data.toList).length≤140737488355328) :
  Calls Tryd.prog 51 #[.slice (some ⟨bk,o,none⟩) xs.length c,.string sep] w fun e w'=>e=.returned (.string ⟨(Lib.join (xs.map (·.data.toList)) sep.data.toList).toArray⟩)∧Below w.heap.size w w':=Any.strings_Join Tryd.lays156 Tryd.Builder_Extra_156 bk o c xs sep w hcells hbk hN hcap hlen
def Tryd.laysM173_ren:Go.Shelf.Ren:=⟨fun|173=>69|246=>75|283=>78|284=>79|285=>80|286=>81|129=>84|317=>83|318=>85|319=>86|320=>87|337=>88|338=>89|n=>n,fun|2=>2|3=>3|9=>9|4=>4|171=>118|0=>0|53=>100|37=>63|5=>5|173=>121|212=>126|51=>127|20=>20|213=>128|46=>113|232=>131|233=>132|n=>n,fun|17=>0|18=>2|19=>3|n=>n⟩
theorem Tryd.laysM173:Go.Proofs.LaysM.n173 Tryd.prog Tryd.laysM173_ren:={
 mixed:=by kernel_rfl
 f129:=Tryd.func84.trans (congrArg some (by kernel_rfl))
 f173:=Tryd.func69.trans (congrArg some (by kernel_rfl))
 f246:=Tryd.func75.trans (congrArg some (by kernel_rfl))
 f283:=Tryd.func78.trans (congrArg some (by kernel_rfl))
 f284:=Tryd.func79.trans (congrArg some (by kernel_rfl))
 f285:=Tryd.func80.trans (congrArg some (by kernel_rfl))
 f286:=Tryd.func81.trans (congrArg some (by kernel_rfl))
 f317:=Tryd.func83.trans (congrArg some (by kernel_rfl))
 f318:=Tryd.func85.trans (congrArg some (by kernel_rfl))
 f319:=Tryd.func86.trans (congrArg some (by kernel_rfl))
 f320:=Tryd.func87.trans (congrArg some (by kernel_rfl))
 f337:=Tryd.func88.trans (congrArg some (by kernel_rfl))
 f338:=Tryd.func89.trans (congrArg some (by kernel_rfl))
 t0:=Tryd.underlying0
 a0:=Tryd.isAgg0
 z0:=Tryd.sizeOf0
 v0:=Tryd.zeroValue0
 t2:=Tryd.underlying2
 a2:=Tryd.isAgg2
 z2:=Tryd.sizeOf2
 v2:=Tryd.zeroValue2
 t3:=Tryd.underlying3
 a3:=Tryd.isAgg3
 z3:=Tryd.sizeOf3
 v3:=Tryd.zeroValue3
 t4:=Tryd.underlying4
 a4:=Tryd.isAgg4
 z4:=Tryd.sizeOf4
 v4:=Tryd.zeroValue4
 t5:=Tryd.underlying5
 a5:=Tryd.isAgg5
 z5:=Tryd.sizeOf5
 v5:=Tryd.zeroValue5
 t9:=Tryd.underlying9
 a9:=Tryd.isAgg9
 z9:=Tryd.sizeOf9
 v9:=Tryd.zeroValue9
 t20:=Tryd.underlying20
 a20:=Tryd.isAgg20
 z20:=Tryd.sizeOf20
 v20:=Tryd.zeroValue20
 t37:=Tryd.underlying63
 a37:=Tryd.isAgg63
 z37:=Tryd.sizeOf63
 v37:=Tryd.zeroValue63
 t46:=Tryd.underlying113
 a46:=Tryd.isAgg113
 z46:=Tryd.sizeOf113
 v46:=Tryd.zeroValue113
 t51:=Tryd.underlying127
 a51:=Tryd.isAgg127
 z51:=Tryd.sizeOf127
 v51:=Tryd.zeroValue127
 t53:=Tryd.underlying100
 a53:=Tryd.isAgg100
 z53:=Tryd.sizeOf100
 v53:=Tryd.zeroValue100
 t171:=Tryd.underlying118
 a171:=Tryd.isAgg118
 z171:=Tryd.sizeOf118
 v171:=Tryd.zeroValue118
 t173:=Tryd.underlying121
 a173:=Tryd.isAgg121
 z173:=Tryd.sizeOf121
 v173:=Tryd.zeroValue121
 t212:=Tryd.underlying126
 a212:=Tryd.isAgg126
 z212:=Tryd.sizeOf126
 v212:=Tryd.zeroValue126
 t213:=Tryd.underlying128
 a213:=Tryd.isAgg128
 z213:=Tryd.sizeOf128
 t232:=Tryd.underlying131
 a232:=Tryd.isAgg131
 z232:=Tryd.sizeOf131
 v232:=Tryd.zeroValue131
 t233:=Tryd.underlying132
 a233:=Tryd.isAgg132
 z233:=Tryd.sizeOf132
 v233:=Tryd.zeroValue132
 g17:=by kernel_rfl
 g18:=by kernel_rfl
 g19:=by kernel_rfl
 i0:=by kernel_rfl
 i2:=by kernel_rfl
 i3:=by kernel_rfl
 i4:=by kernel_rfl
 i5:=by kernel_rfl
 i9:=by kernel_rfl
 i20:=by kernel_rfl
 i37:=by kernel_rfl
 i46:=by kernel_rfl
 i51:=by kernel_rfl
 i53:=by kernel_rfl
 i171:=by kernel_rfl
 i173:=by kernel_rfl
 i212:=by kernel_rfl
 i232:=by kernel_rfl
 i233:=by kernel_rfl
 m17:=by kernel_rfl
 m18:=by kernel_rfl
 m19:=by kernel_rfl }
open Go.RowKit Go.Sort Go.Lib in
theorem Tryd.strconv_FormatInt_10 (n:Int) (h0 : -9223372036854775808≤n) (h1:n≤9223372036854775807) (w:World) (htab:Lib.TabIs Tryd.prog w "internal/strconv.uint64pow10" .u64 Lib.pow10Tab) :
  Calls Tryd.prog 69 #[.int .i64 n,.int .i64 10] w fun e w'=>e=.returned (.string ⟨(Lib.itoa n).toArray⟩)∧∃ k os,w' = grow (w.drewN k) os:=Any.strconv_FormatInt_10 Tryd.laysM173 n h0 h1 w htab
end Go.Proofs
end
section
namespace Go.Proofs.YtgnaaokhfpfglaaDoor
open Go.RowKit Go.Shelf Go.Lib
def isD (c:UInt8):Prop:=48≤c.toNat∧c.toNat≤57
def numF (n:Nat) (c:UInt8):Nat:=n * 10+(c.toNat - 48)
def numV (l:List UInt8):Nat:=l.foldl numF 0
def NumOk (l:List UInt8) (most:Int):Prop:=(l≠[]∧(l.length=1∨l[0]?≠some 48))∧(∀ (i:Nat) c,l[i]? = some c→isD c)∧(numV l:Int)≤most
structure Wd where
 p:Int
 q:Int
 t:ByteArray
def Wd.enc (x:Wd):Value:=.agg #[.int .i64 x.p,.int .i64 x.q,.string x.t]
end Go.Proofs.YtgnaaokhfpfglaaDoor
end
section
namespace Go.Proofs.YtgnaaokhfpfglaaDoor
open Go.RowKit Go.Shelf Go.Lib
attribute [local go_sem] Oper.semAt_some
def Wd.cells (x:Wd):List Value:=[.int .i64 x.p,.int .i64 x.q,.string x.t]
theorem cell_lt {w:World} {p:Addr} {v:Value} (h:w.cell? p=some v):p.block<w.heap.size:=by
 obtain⟨o,ho,_⟩:=not_walk_of_cell h
 exact (Array.getElem?_eq_some_iff.1 ho).1
end Go.Proofs.YtgnaaokhfpfglaaDoor
end
section
namespace Go.Proofs.YtgnaaokhfpfglaaDoor
open Go.RowKit Go.Shelf Go.Lib
def WRow (w:World) (B:Nat) (A:Option Addr) (L:List Wd):Prop:=
 0<L.length→∃ b off,A=some ⟨b,off,none⟩∧b<B∧∀ i (h:i<L.length),
  w.cell? ⟨b,off+i * 3,none⟩=some (.int .i64 L[i].p)∧w.cell? ⟨b,off+i * 3+1,none⟩=some (.int .i64 L[i].q)∧w.cell? ⟨b,off+i * 3+2,none⟩=some (.string L[i].t)
theorem WRow.below {w w':World} {B C:Nat} {A:Option Addr} {L:List Wd} (h:WRow w B A L) (hb:Below C w w') (hBC:B≤C):WRow w' B A L:=by
 intro hl
 obtain⟨b,off,e,hlt,hc⟩:=h hl
 refine⟨b,off,e,hlt,fun i hi=>?_⟩
 obtain⟨h0,h1,h2⟩:=hc i hi
 exact⟨(hb.cell (p:=⟨b,_,none⟩) (by show b<C;omega)).trans h0,(hb.cell (p:=⟨b,_,none⟩) (by show b<C;omega)).trans h1,(hb.cell (p:=⟨b,_,none⟩) (by show b<C;omega)).trans h2⟩
theorem WRow.more {w:World} {B C:Nat} {A:Option Addr} {L:List Wd} (h:WRow w B A L) (hBC:B≤C):WRow w C A L:=by
 intro hl
 obtain⟨b,off,e,hlt,hc⟩:=h hl
 exact⟨b,off,e,by omega,hc⟩
def grow (i:Nat) (c:UInt8):Option (Nat × List UInt8)→Option (Nat × List UInt8)
 |none=>some (i,[c])
 |some (p,t)=>some (p,t++[c])
theorem WRow.left {w:World} {B:Nat} {A:Option Addr} {L M:List Wd} (h:WRow w B A (L++M)):WRow w B A L:=by
 intro hl
 obtain⟨b,off,e,hlt,hc⟩:=h (by rw [List.length_append];omega)
 refine⟨b,off,e,hlt,fun i hi=>?_⟩
 have:=hc i (by rw [List.length_append];omega)
 simpa [List.getElem_append_left hi] using this
theorem qa5 (n:Int) (w:World) (h0 : -9223372036854775808≤n) (h1:n≤9223372036854775807) (htab:Lib.TabIs Tryd.prog w "internal/strconv.uint64pow10" .u64 Lib.pow10Tab) :
  Calls Tryd.prog 50 #[.int .i64 n] w fun e w'=>e=.returned (.string ⟨(Lib.itoa n).toArray⟩)∧Below w.heap.size w w':=by
 have hd:=Lib.hid (Tryd.strconv_FormatInt_10 n h0 h1 w htab)
 go_enter Tryd.func50,Tryd.ntmps50
 go_wp2_with (go_at_call 69;refine hd.out.mono ?_;rintro e w' ⟨rfl,k,os,rfl⟩)
 go_ret
 exact⟨rfl,Lib.below_grow _ w (Nat.le_refl _) k os⟩
theorem dig_nat {d:Nat} (h:d<10):(UInt8.ofNat (48+d)).toNat=48+d:=by
 rw [UInt8.toNat_ofNat']
 omega
theorem dec_num:∀ u:Nat,numV (decDigits u)=u∧(∀ c ∈ decDigits u,isD c)∧decDigits u≠[]∧(u<10→(decDigits u).length=1)∧(u≠0→(decDigits u)[0]?≠some 48):=by
 intro u
 induction u using Nat.strongRecOn with
 |ind u ih=>
  by_cases h:u<10
  ·rw [decDigits_one h]
   refine⟨?_,?_,by simp,fun _=>rfl,?_⟩
   ·simp [numV,numF]
    have:=dig_nat h
    simp at this
    omega
   ·intro c hc
    simp at hc
    subst hc
    have:=dig_nat h
    simp at this
    unfold isD
    simp
    omega
   ·intro h0 he
    have h1:UInt8.ofNat (48+u)=48:=by simpa using he
    have h2:=dig_nat h
    rw [h1] at h2
    have:(48:UInt8).toNat=48:=rfl
    omega
  ·have e:decDigits u=decDigits (u / 10)++[UInt8.ofNat (48+u % 10)]:=by rw [decDigits,dif_neg h]
   obtain⟨i1,i2,i3,_,i5⟩:=ih (u / 10) (by omega)
   have hd:=dig_nat (d:=u % 10) (by omega)
   rw [e]
   refine⟨?_,?_,by simp,fun h2=>absurd h2 h,?_⟩
   ·unfold numV at i1 ⊢
    rw [List.foldl_append,i1]
    simp only [List.foldl_cons,List.foldl_nil,numF]
    rw [hd]
    omega
   ·intro c hc
    rcases List.mem_append.1 hc with hc|hc
    ·exact i2 c hc
    ·simp only [List.mem_singleton] at hc
     subst hc
     unfold isD
     rw [hd]
     omega
   ·intro _
    have hl:0<(decDigits (u / 10)).length:=by
     cases hx:decDigits (u / 10) with
     |nil=>exact absurd hx i3
     |cons a b=>simp
    rw [List.getElem?_append_left hl]
    exact i5 (by omega)
theorem itoa_num (n:Int) (h:0≤n) (most:Int):numV (itoa n)=n.toNat∧(NumOk (itoa n) most↔n≤most):=by
 have e:itoa n=decDigits n.toNat:=by unfold itoa;rw [if_neg (by omega)]
 obtain⟨h1,h2,h3,h4,h5⟩:=dec_num n.toNat
 rw [e]
 refine⟨h1,fun hn=>?_,fun hn=>⟨⟨h3,?_⟩,?_,?_⟩⟩
 ·have:=hn.2.2
  rw [h1] at this
  omega
 ·by_cases h0:n.toNat=0
  ·exact .inl (h4 (by omega))
  ·exact .inr (h5 h0)
 ·intro i c hc
  exact h2 c (List.mem_of_getElem? hc)
 ·rw [h1];omega
end Go.Proofs.YtgnaaokhfpfglaaDoor
end
section
namespace Go.Proofs.YtgnaaokhfpfglaaDoor
open Go.RowKit
def Has (w:World) (x:Nat) (o:Obj):Prop:=w.heap[x]? = some o
section
variable {w w':World} {x:Nat} {o:Obj}
theorem Has.lt (h:Has w x o):x<w.heap.size:=lt_of_block h
theorem Has.alloc (h:Has w x o) (u:Obj):Has (w.alloc u) x o:=(Below.heap_alloc w u x h.lt).trans h
theorem Has.drew (h:Has w x o):Has w.drew x o:=h
theorem Has.below {B:Nat} (h:Has w x o) (hb:Below B w w') (hx:x<B):Has w' x o:=(hb.block x hx).trans h
theorem Has.grown {row:Option Nat} (h:Has w x o) (hg:w.grownBy w' row) (hr:some x≠row):Has w' x o:=(hg.block x h.lt hr).trans h
end
theorem qaS {w w':World} {base B:Nat} {e:TypeId} {size:Nat} {v:Value} {n:Nat} {xs:List Value} (h:w.ownsRow base e size v n xs) (hb:Below B w w') (hB:w.heap.size≤B):w'.ownsRow base e size v n xs:=by
 obtain⟨h1,h2⟩:=h
 refine⟨h1,?_⟩
 rcases h2 with h2|⟨g,cap,cur,hv,hg,hh,r⟩
 ·exact .inl h2
 ·exact .inr ⟨g,cap,cur,hv,hg,(hb.block g (Nat.lt_of_lt_of_le (lt_of_block hh) hB)).trans hh,r⟩
end Go.Proofs.YtgnaaokhfpfglaaDoor
end
section
namespace Go.Proofs.YtgnaaokhfpfglaaDoor
open Go.RowKit Go.Shelf Go.Lib
def NRow (w:World) (B:Nat) (A:Option Addr) (L:List Int):Prop:=
 0<L.length→∃ b off,A=some ⟨b,off,none⟩∧b<B∧∀ i (h:i<L.length),w.cell? ⟨b,off+i,none⟩=some (.int .i64 L[i])
theorem NRow.below {w w':World} {B C:Nat} {A:Option Addr} {L:List Int} (h:NRow w B A L) (hb:Below C w w') (hBC:B≤C):NRow w' B A L:=by
 intro hl
 obtain⟨b,off,e,hlt,hc⟩:=h hl
 exact⟨b,off,e,hlt,fun i hi=>(hb.cell (p:=⟨b,_,none⟩) (by show b<C;omega)).trans (hc i hi)⟩
theorem NRow.more {w:World} {B C:Nat} {A:Option Addr} {L:List Int} (h:NRow w B A L) (hBC:B≤C):NRow w C A L:=by
 intro hl
 obtain⟨b,off,e,hlt,hc⟩:=h hl
 exact⟨b,off,e,by omega,hc⟩
theorem infoL:(Tryd.prog.info? 2).map (fun i=>(i.zero,i.size,i.bytes))=some (some (.int .i64 0),1,8):=by kernel_rfl
theorem nDig_le:∀ (k u:Nat),u<10 ^ (k+1)→nDigits u≤k+1:=by
 intro k
 induction k with
 |zero=>intro u h;rw [nDigits,dif_pos (by simpa using h)];exact Nat.le_refl 1
 |succ k ih=>
  intro u h
  by_cases h10:u<10
  ·rw [nDigits,dif_pos h10];omega
  ·rw [nDigits,dif_neg h10]
   have:=ih (u / 10) (by rw [Nat.pow_succ] at h;omega)
   omega
theorem itoa_len (n:Int) (h0 : -9223372036854775808≤n) (h1:n≤9223372036854775807):(itoa n).length≤21:=by
 have key:∀ u:Nat,u<10 ^ 20→(decDigits u).length≤20:=fun u hu=>by rw [decDigits_length];exact nDig_le 19 u hu
 unfold itoa
 split
 ·have:=key n.natAbs (by omega)
  simp only [List.length_cons]
  omega
 ·have:=key n.toNat (by omega)
  omega
theorem tail_len (sep:List UInt8):∀ (L:List (List UInt8)),(∀ x ∈ L,x.length≤21)→(Lib.joinTail sep L).length≤L.length * (21+sep.length):=by
 intro L
 induction L with
 |nil=>intro _;simp [Lib.joinTail]
 |cons x L ih=>
  intro h
  have h1:=ih (fun y hy=>h y (List.mem_cons_of_mem _ hy))
  have h2:=h x List.mem_cons_self
  have e:Lib.joinTail sep (x::L)=(sep++x)++Lib.joinTail sep L:=by simp [Lib.joinTail]
  rw [e,List.length_append,List.length_append,List.length_cons,Nat.add_mul]
  omega
theorem join_len (sep:List UInt8) (L:List (List UInt8)) (h:∀ x ∈ L,x.length≤21):(Lib.join L sep).length≤21+L.length * (21+sep.length):=by
 cases L with
 |nil=>simp [Lib.join_nil]
 |cons x r=>
  rw [Lib.join_cons,List.length_append]
  have h1:=tail_len sep r (fun y hy=>h y (List.mem_cons_of_mem _ hy))
  have h2:=h x List.mem_cons_self
  rw [List.length_cons,Nat.add_mul]
  omega
theorem qaR {B:Nat} {w w':World} (h:Lib.TabIs Tryd.prog w "internal/strconv.uint64pow10" .u64 Lib.pow10Tab) (hb:Below B w w') (hB:0<B):Lib.TabIs Tryd.prog w' "internal/strconv.uint64pow10" .u64 Lib.pow10Tab:=
 var?_below hb (by kernel_rfl) hB h
theorem infoS:(Tryd.prog.info? 9).map (fun i=>(i.zero,i.size,i.bytes))=some (some (.string ByteArray.empty),1,16):=by kernel_rfl
def digs (L:List Int):List ByteArray:=L.map fun n=>⟨(itoa n).toArray⟩
theorem digs_data (L:List Int):(digs L).map (·.data.toList)=L.map itoa:=by
 unfold digs
 rw [List.map_map]
 rfl
theorem full_block {w:World} {base B n c:Nat} {e:TypeId} {size:Nat} {xs:Array Value} (h:w.ownsRow base e size (.slice (some ⟨B,0,none⟩) n c) n xs.toList) (hx:xs.size=c * size):w.heap[B]? = some (.cells xs e (0,0)):=by
 rcases h.2 with ⟨h1,_⟩|⟨g,cap,cur,h1,_,hg,_,_,hs,ht⟩
 ·cases h1
 ·cases h1
  have hl:=h.1
  rw [hg]
  have:cur=xs:=by
   apply Array.toList_inj.1
   rw [← ht,List.take_of_length_le]
   simp only [Array.length_toList] at hl ⊢
   omega
  rw [this]
theorem str_cell {w:World} {B n i:Nat} {D:List ByteArray} (h:w.heap[B]? = some (.cells (Lib.cellsOf D n) 9 (0,0))) (hD:D.length=i) (hi:i<n) :
  w.cell? ⟨B,i,none⟩=some (.string ByteArray.empty)∧w.frozen? ⟨B,i,none⟩=false:=by
 have h1:=Lib.cellsOf_next (done:=D) (N:=n) (by omega)
 rw [hD] at h1
 exact⟨by simp [World.cell?,h,h1],by simp [World.frozen?,h]⟩
theorem str_set {w:World} {B n i:Nat} {D:List ByteArray} (h:w.heap[B]? = some (.cells (Lib.cellsOf D n) 9 (0,0))) (hD:D.length=i) (hi:i<n) (x:ByteArray) :
  (w.setCell ⟨B,i,none⟩ (.string x)).heap[B]? = some (.cells (Lib.cellsOf (D++[x]) n) 9 (0,0)):=by
 obtain⟨hlt,hk⟩:=Array.getElem?_eq_some_iff.1 h
 have h2:=Lib.cellsOf_set (done:=D) (N:=n) (by omega) x
 rw [hD] at h2
 rw [← h2]
 show (w.heap.modify B _)[B]? = _
 rw [Array.getElem?_eq_getElem (by rw [Array.size_modify];exact hlt),Array.getElem_modify_self,hk]
 rfl
theorem take_digs {L:List Int} {i:Nat} (h:i<L.length):digs (L.take (i+1))=digs (L.take i)++[⟨(itoa L[i]).toArray⟩]:=by
 unfold digs
 rw [List.take_succ_eq_append_getElem h,List.map_append]
 rfl
theorem ch1 {w a:World} (h:Below w.drew.heap.size w.drew a):Below w.heap.size w a:=((Below.refl w.heap.size w).drew).trans h
end Go.Proofs.YtgnaaokhfpfglaaDoor
end
section
namespace Go.Proofs.YtgnaaokhfpfglaaDoor
open Go.RowKit Go.Lib
def Tabs (w:World):Prop:=(Lib.TabIs Tryd.prog w "internal/strconv.uint64pow10" .u64 Lib.pow10Tab∧0<w.heap.size)∧∃ m,w.cell? ⟨1,0,none⟩=some (.int .i64 m)
theorem Tabs.below {w w':World} (h:Tabs w) (hb:Below w.heap.size w w'):Tabs w':=by
 obtain⟨⟨h1,h2⟩,m,h3⟩:=h
 exact⟨⟨qaR h1 hb h2,Nat.lt_of_lt_of_le h2 hb.size⟩,m,(hb.cell (p:=⟨1,0,none⟩) (bLt _ _ h3)).trans h3⟩
end Go.Proofs.YtgnaaokhfpfglaaDoor
end
section
namespace Go.Proofs.YtgnaaokhfpfglaaDoor
open Go.RowKit Go.Shelf Go.Lib
theorem join_any (A:Option Addr) (cap:Nat) (L:List Int) (w:World) (hL:∀ x ∈ L,-9223372036854775808≤x∧x≤9223372036854775807) (hn:L.length≤1000) (hr:NRow w w.heap.size A L)
  (htab:Lib.TabIs Tryd.prog w "internal/strconv.uint64pow10" .u64 Lib.pow10Tab) (hg:0<w.heap.size) :
  Calls Tryd.prog 29 #[.slice A L.length cap] w fun e w'=>e=.returned (.string ⟨(Lib.join (L.map itoa) [44]).toArray⟩)∧Below w.heap.size w w':=by
 obtain⟨i0,hi0,hz0,hz1,hz2⟩:=info_parts infoS
 obtain⟨n,hn'⟩:∃ n,n=L.length:=⟨_,rfl⟩
 rw [← hn'] at hn ⊢
 have HN:=Lib.hid hn'
 clear hn'
 go_enter Tryd.func29,Tryd.ntmps29
 go_wp2_with (at_make;refine wpList_make_full _ rfl _ _ 61 rfl w.heap.size 9 i0 _ 1 Tryd.underlying61 hi0 hz0 hz1 _ _ _ _ n rfl rfl rfl rfl (by rw [hz2];omega) (by unfold maxLen;omega) (Nat.le_refl _) ?_;intro w1 hown1 hg1)
 have hb1:Below w.heap.size w w1:=⟨hg1.os,hg1.tape,hg1.output,hg1.size,fun k hk=>hg1.block k hk (by simp)⟩
 obtain⟨B,hB⟩:∃ B,w.heap.size=B:=⟨_,rfl⟩
 have hblk0:w1.heap[B]? = some (.cells (Lib.cellsOf [] n) 9 (0,0)):=by
  rw [Lib.cellsOf_nil,← hB]
  have h9:w1.ownsRow w.heap.size 9 1 (.slice (some ⟨w.heap.size,0,none⟩) n n) n (madeCells #[.string ByteArray.empty] n).toList:=by
   rw [Nat.mul_one] at hown1
   exact hown1
  exact full_block h9 (by simp [madeCells])
 rw [hB] at hb1 hr hg ⊢
 go_loopw [11] (fun v11 wr=>∃ i:Nat,v11=.int .i64 i∧i≤n∧wr.heap[B]? = some (.cells (Lib.cellsOf (digs (L.take i)) n) 9 (0,0))∧Below B w wr) (fun v11 _=>n - (RowKit.intOf v11).toNat)
 case atStart=>exact⟨0,rfl,Nat.zero_le _,hblk0,hb1⟩
 case round=>
  obtain⟨i,rfl,hi,hblk,hbw⟩:=hrel
  by_cases hin:i<n
  ·have hil:i<L.length:=by rw [← HN.out];exact hin
   obtain⟨b1,o1,rfl,hlt1,hc1⟩:=hr (by omega)
   have a0:=(hbw.cell (p:=⟨b1,_,none⟩) hlt1).trans (hc1 i hil)
   obtain⟨x1,x2⟩:=hL L[i] (List.getElem_mem hil)
   have HT:=Lib.hid (take_digs hil)
   have hlt:=lt_of_block hblk
   generalize hxx:L[i]=x at *
   clear hc1 hxx
   have hlen:(digs (L.take i)).length=i:=by unfold digs;rw [List.length_map,List.length_take];omega
   have hd:=Lib.hid (qa5 x wr x1 x2 (qaR htab hbw hg))
   go_upto_region 6 with (go_at_call 50;refine hd.out.mono ?_;rintro e w2 ⟨rfl,hb2⟩;have hblk2:=(hb2.block B hlt).trans hblk;obtain⟨hc2,hf2⟩:=str_cell hblk2 hlen hin)
   have hblk3:=str_set hblk2 hlen hin ⟨(itoa x).toArray⟩
   rw [← HT.out] at hblk3
   have hbw3:Below B w (w2.setCell ⟨B,i,none⟩ (.string ⟨(itoa x).toArray⟩)):=(hbw.trans (hb2.mono (Nat.le_of_lt hlt))).setCell (p:=⟨B,i,none⟩) (Nat.le_refl _) _
   go_wp2
   go_roundw
   case rel=>exact⟨i+1,by simp,hin,hblk3,hbw3⟩
   case measure=>simp [RowKit.intOf];omega
  ·obtain rfl:i=n:=by omega
   rw [HN.out,List.take_length] at hblk
   have hlen2:(digs L).length=L.length:=by unfold digs;rw [List.length_map]
   have hfull:Lib.cellsOf (digs L) L.length=((digs L).map Value.string).toArray:=by unfold Lib.cellsOf;rw [hlen2];simp
   rw [hfull] at hblk
   have hcells:∀ (j:Nat) x,(digs L)[j]? = some x→wr.cell? ⟨B,0+j,none⟩=some (.string x):=fun j x hx=>by simp [World.cell?,hblk,hx]
   have hj:=Tryd.strings_Join B 0 L.length (digs L) ⟨#[44]⟩ wr hcells (lt_of_block hblk) (by rw [hlen2,← HN.out];omega) (by omega) (by
    rw [digs_data]
    have h1:=join_len [44] (L.map itoa) (fun y hy=>by
     obtain⟨z,hz,rfl⟩:=List.mem_map.1 hy
     exact itoa_len z (hL z hz).1 (hL z hz).2)
    rw [List.length_map,← HN.out] at h1
    have h2:(ByteArray.mk #[44]).data.toList=[44]:=rfl
    rw [h2]
    simp at h1
    omega)
   rw [digs_data,hlen2,← HN.out] at hj
   have hj':=Lib.hid hj
   have hltB:=lt_of_block hblk
   clear hj hcells hblk hfull hlen2
   go_wp2_with (go_at_call 51;refine hj'.out.mono ?_;rintro e w9 ⟨rfl,hb9⟩)
   go_ret
   exact⟨rfl,by rw [hB];exact hbw.trans (hb9.mono (Nat.le_of_lt hltB))⟩
end Go.Proofs.YtgnaaokhfpfglaaDoor
end
section
namespace Go.Proofs.YtgnaaokhfpfglaaDoor
open Go.RowKit Go.Shelf Go.Lib Go.Proofs.YtgnaaokhfpfglaaDoorW.PrintWords
theorem nrow_of_C {w:World} {A:Option Addr} {l:List Int} (h:Kd.C (Kd.int .i64) w A l.length l):NRow w w.heap.size A l:=by
 intro hl
 obtain⟨_,_,h⟩:=h
 obtain⟨ad,rfl,hc⟩:=h hl
 have hat:∀ j (hj:j<l.length),w.cell? (ad.add j)=some (.int .i64 l[j]):=by
  intro j hj
  obtain⟨c,_,hk,hcell⟩:=hc j _ (List.getElem?_eq_getElem hj)
  obtain rfl:c=[.int .i64 l[j]]:=hk
  have:=hcell 0 _ rfl
  rwa [show (Kd.int .i64).sz=1 from rfl,Nat.mul_one,Nat.add_zero] at this
 have h00:=hat 0 hl
 have hsp:=World.cell?_spot h00
 have hlt:=bLt w _ h00
 obtain⟨b,off,spot⟩:=ad
 have hs:spot=none:=by simpa [Addr.add] using hsp
 subst hs
 have hadd:∀ j,(⟨b,off,none⟩:Addr).add j=⟨b,off+j,none⟩:=fun j=>by unfold Addr.add;split<;>simp_all
 refine⟨b,off,rfl,by simpa [hadd] using hlt,fun i hi=>?_⟩
 have:=hat i hi
 rwa [hadd] at this
section
open Classical
end
def joinP (l:List Int):ByteArray:=⟨(Lib.join (l.map itoa) [44]).toArray⟩
end Go.Proofs.YtgnaaokhfpfglaaDoor
end
section
namespace Go.Proofs.YtgnaaokhfpfglaaDoor
open Go.RowKit Go.Shelf Go.Lib Go.Proofs.YtgnaaokhfpfglaaDoorW.PrintWords
theorem grown_of_below {w w':World} (h:Below w.heap.size w w') (row:Option Nat):w.grownBy w' row:=⟨h.os,h.tape,h.output,h.size,fun k hk _=>h.block k hk⟩
def OwnI (w:World) (base:Nat) (e:TypeId) (A:Option Addr) (c:Nat) (l:List Int):Prop:=w.ownsRow base e 1 (.slice A l.length c) l.length (l.map (Value.int .i64))
theorem OwnI.nil (w:World) (base:Nat) (e:TypeId):OwnI w base e none 0 []:=World.ownsRow_nil _ _ _ _
theorem OwnI.grown {w w':World} {base:Nat} {e:TypeId} {A:Option Addr} {c:Nat} {l:List Int} (h:OwnI w base e A c l) {b:Nat} (hg:w.grownBy w' (some b)) (hb:b<base):OwnI w' base e A c l:=
 own_move h (fun k hk=>hg.block k (h.lt k hk).2 (fun e=>by injection e with e;have:=(h.lt k hk).1;omega))
theorem OwnI.below {w w':World} {base:Nat} {e:TypeId} {A:Option Addr} {c:Nat} {l:List Int} (h:OwnI w base e A c l) (hb:Below w.heap.size w w'):OwnI w' base e A c l:=
 own_move h (fun k hk=>hb.block k (h.lt k hk).2)
theorem NRow.grown {w w':World} {A:Option Addr} {L:List Int} {b:Nat} (h:NRow w w.heap.size A L) (hg:w.grownBy w' (some b)) (hb:∀ p,A=some p→p.block≠b):NRow w' w'.heap.size A L:=by
 intro hl
 obtain⟨g,off,rfl,hlt,hc⟩:=h hl
 exact⟨g,off,rfl,Nat.lt_of_lt_of_le hlt hg.size,fun i hi=>(World.cell?_of_block (hg.block g hlt (fun e=>hb _ rfl (by injection e)))).trans (hc i hi)⟩
end Go.Proofs.YtgnaaokhfpfglaaDoor
end
section
namespace Go.Proofs.YtgnaaokhfpfglaaDoor
open Go.RowKit Go.Shelf Go.Lib
def inB (n a b:Int):Bool:=decide (a≤n∧n≤b)
theorem withinI_any (n a b:Int) (w:World):Calls Tryd.prog 64 #[.int .i64 n,.int .i64 a,.int .i64 b] w fun e w'=>e=.returned (.bool (inB n a b))∧w=w':=by
 unfold inB
 go_enter Tryd.func64,Tryd.ntmps64
 by_cases h1:a≤n
 ·go_wp2
  go_ret
  exact⟨by simp [h1],rfl⟩
 ·go_wp2
  go_ret
  exact⟨by simp;omega,rfl⟩
theorem withinL_any (n a b:Int) (w:World):Calls Tryd.prog 65 #[.int .i64 n,.int .i64 a,.int .i64 b] w fun e w'=>e=.returned (.bool (inB n a b))∧w=w':=by
 unfold inB
 go_enter Tryd.func65,Tryd.ntmps65
 by_cases h1:a≤n
 ·go_wp2
  go_ret
  exact⟨by simp [h1],rfl⟩
 ·go_wp2
  go_ret
  exact⟨by simp;omega,rfl⟩
def chunkL (left:Int):List Int→Option Int
 |[]=>some left
 |n::r=>if 1≤n∧n≤left then chunkL (left - n) r else none
def chunkFin (L:List Int):Option Int→Bool
 |none=>false
 |some left=>decide (L.length=0) || (decide (L.length≤64) && decide (left=0))
def chunksB (c:Int) (L:List Int):Bool:=chunkFin L (chunkL c L)
theorem chunkL_step {L:List Int} {i:Nat} (h:i<L.length) (left:Int):chunkL left (L.drop i)=if 1≤L[i]∧L[i]≤left then chunkL (left - L[i]) (L.drop (i+1)) else none:=by
 rw [List.drop_eq_getElem_cons h]
 rfl
theorem chunks_any (A:Option Addr) (cap:Nat) (L:List Int) (c:Int) (w:World) (hn:L.length≤4000000) (hc:c≤9223372036854775807) (hr:NRow w w.heap.size A L) :
  Calls Tryd.prog 73 #[.slice A L.length cap,.int .i64 c] w fun e w'=>e=.returned (.bool (chunksB c L))∧w=w':=by
 obtain⟨n,hn'⟩:∃ n,n=L.length:=⟨_,rfl⟩
 obtain⟨R,hR⟩:∃ R,R=chunksB c L:=⟨_,rfl⟩
 rw [← hn'] at hn
 rw [← hR,← hn']
 have HN:=Lib.hid hn'
 have HR:Hid (R=chunkFin L (chunkL c (L.drop 0))):=Lib.hid hR
 clear hn' hR
 go_enter Tryd.func73,Tryd.ntmps73
 go_wp2
 go_loop [5,11] (fun v5 v11=>∃ (i:Nat) (left:Int),v5=.int .i64 left∧v11=.int .i64 i∧i≤n∧left≤9223372036854775807∧Hid (R=chunkFin L (chunkL left (L.drop i)))) (fun _ v11=>n - (RowKit.intOf v11).toNat)
 case atStart=>exact⟨0,c,rfl,rfl,Nat.zero_le _,hc,HR⟩
 case round=>
  obtain⟨i,left,rfl,rfl,hi,hl,hS⟩:=hrel
  by_cases hin:i<n
  ·have hil:i<L.length:=by rw [← HN.out];exact hin
   obtain⟨b1,o1,rfl,_,hc1⟩:=hr (by omega)
   have a0:=hc1 i hil
   have HST:=Lib.hid (hS.out.trans (congrArg _ (chunkL_step hil left)))
   clear hc1 hS
   generalize L[i]=x at a0 HST
   by_cases hx:1≤x∧x≤left
   ·have HB:Hid (R=chunkFin L (chunkL (left - x) (L.drop (i+1)))):=Lib.hid (by rw [HST.out,if_pos hx])
    have hib:inB x 1 left=true:=decide_eq_true hx
    have HW:=fun W=>withinL_any x 1 left W
    rw [hib] at HW
    have HW':=Lib.hid HW
    obtain⟨hx1,hx2⟩:=hx
    clear HW hib HST
    go_wp2_with (go_at_call 65;refine (HW'.out _).mono ?_;rintro e w1 ⟨rfl,rfl⟩)
    go_round
    case rel=>exact⟨i+1,left - x,rfl,by simp,hin,by omega,HB⟩
    case measure=>simp [RowKit.intOf];omega
   ·have HB:Hid (R=false):=Lib.hid (by rw [HST.out,if_neg hx];rfl)
    have hib:inB x 1 left=false:=decide_eq_false hx
    have HW:=fun W=>withinL_any x 1 left W
    rw [hib] at HW
    have HW':=Lib.hid HW
    clear HW hib HST
    go_wp2_with (go_at_call 65;refine (HW'.out _).mono ?_;rintro e w1 ⟨rfl,rfl⟩)
    go_ret
    exact⟨by rw [HB.out];rfl,rfl⟩
  ·obtain rfl:i=n:=by omega
   have HB:Hid (R=(decide (i=0) || (decide (i≤64) && decide (left=0)))):=Lib.hid (by rw [hS.out,HN.out,List.drop_eq_nil_of_le (Nat.le_refl _)];rfl)
   by_cases h0:i=0
   ·have HE:Hid (R=true):=Lib.hid (by rw [HB.out,h0];rfl)
    subst h0
    go_wp2
    go_ret
    exact⟨by rw [HE.out];rfl,rfl⟩
   ·have h0':((i:Int) == 0)=false:=by simpa using h0
    by_cases h64:i≤64
    ·have HE:Hid (R=decide (left=0)):=Lib.hid (by rw [HB.out,decide_eq_false h0,decide_eq_true h64];rfl)
     have hlz:0<i:=by omega
     go_wp2
     go_ret
     exact⟨by rw [HE.out];congr 1,rfl⟩
    ·have HE:Hid (R=false):=Lib.hid (by rw [HB.out,decide_eq_false h0,decide_eq_false h64];rfl)
     have hlz:0<i:=by omega
     go_wp2
     go_ret
     exact⟨by rw [HE.out];rfl,rfl⟩
def idxV (p:Int→Bool):Nat→List Int→Int
 |_,[]=>-1
 |i,x::r=>if p x then (i:Int) else idxV p (i+1) r
theorem idxV_any (p:Int→Bool):∀ (L:List Int) (i:Nat),decide (0≤idxV p i L)=L.any p:=by
 intro L
 induction L with
 |nil=>intro i;rfl
 |cons x r ih=>
  intro i
  rw [idxV,List.any_cons]
  by_cases h:p x=true
  ·rw [if_pos h,h,Bool.true_or];exact decide_eq_true (by omega)
  ·rw [if_neg h,ih,Bool.not_eq_true _ |>.mp h,Bool.false_or]
theorem idxV_step {p:Int→Bool} {L:List Int} {i:Nat} (h:i<L.length):idxV p i (L.drop i)=if p L[i] then (i:Int) else idxV p (i+1) (L.drop (i+1)):=by
 rw [List.drop_eq_getElem_cons h]
 rfl
def farB (sets x:Int):Bool:=decide (x<0∨sets≤x)
theorem far_any (x sets:Int) (p:Addr) (w:World) (hc:w.cell? p=some (.int .i64 sets)) :
  Calls Tryd.prog 72 #[.int .i64 x,.pointer (some p)] w fun e w'=>e=.returned (.bool (farB sets x))∧w=w':=by
 unfold farB
 go_enter Tryd.func72,Tryd.ntmps72
 by_cases h1:x<0
 ·go_wp2
  go_ret
  exact⟨by simp [h1],rfl⟩
 ·go_wp2
  go_ret
  exact⟨by simp;omega,rfl⟩
theorem farIndex_any (A:Option Addr) (cap:Nat) (L:List Int) (sets:Int) (p:Addr) (w:World) (hn:L.length≤4000000) (hc:w.cell? p=some (.int .i64 sets)) (hr:NRow w w.heap.size A L) :
  Calls Tryd.prog 77 #[.slice A L.length cap,.func (Fn.func 72) #[] #[.pointer (some p)]] w fun e w'=>e=.returned (.int .i64 (idxV (farB sets) 0 L))∧w=w':=by
 obtain⟨n,hn'⟩:∃ n,n=L.length:=⟨_,rfl⟩
 obtain⟨R,hR⟩:∃ R,R=idxV (farB sets) 0 L:=⟨_,rfl⟩
 rw [← hn'] at hn
 rw [← hR,← hn']
 have HN:=Lib.hid hn'
 have HR:Hid (R=idxV (farB sets) 0 (L.drop 0)):=Lib.hid hR
 have HC:=Lib.hid hc
 clear hn' hR hc
 go_enter Tryd.func77,Tryd.ntmps77
 go_wp2
 go_loop [8] (fun v8=>∃ (i:Nat),v8=.int .i64 i∧i≤n∧Hid (R=idxV (farB sets) i (L.drop i))) (fun v8=>n - (RowKit.intOf v8).toNat)
 case atStart=>exact⟨0,rfl,Nat.zero_le _,HR⟩
 case round=>
  obtain⟨i,rfl,hi,hS⟩:=hrel
  by_cases hin:i<n
  ·have hil:i<L.length:=by rw [← HN.out];exact hin
   obtain⟨b1,o1,rfl,_,hc1⟩:=hr (by omega)
   have a0:=hc1 i hil
   have HST:=Lib.hid (hS.out.trans (idxV_step hil))
   clear hc1 hS
   generalize L[i]=x at a0 HST
   have HW:=far_any x sets p w HC.out
   cases hf:farB sets x with
   |true=>
    have HB:Hid (R=(i:Int)):=Lib.hid (by rw [HST.out,if_pos hf])
    rw [hf] at HW
    have HW':=Lib.hid HW
    clear HW HST hf
    go_wp2_with (go_at_call 72;refine HW'.out.mono ?_;rintro e w1 ⟨rfl,rfl⟩)
    go_ret
    exact⟨by rw [HB.out];rfl,rfl⟩
   |false=>
    have HB:Hid (R=idxV (farB sets) (i+1) (L.drop (i+1))):=Lib.hid (by rw [HST.out,if_neg (by rw [hf];decide)])
    rw [hf] at HW
    have HW':=Lib.hid HW
    clear HW HST hf
    go_wp2_with (go_at_call 72;refine HW'.out.mono ?_;rintro e w1 ⟨rfl,rfl⟩)
    go_round
    case rel=>exact⟨i+1,by simp,hin,HB⟩
    case measure=>simp [RowKit.intOf];omega
  ·obtain rfl:i=n:=by omega
   have HB:Hid (R = -1):=Lib.hid (by rw [hS.out,HN.out,List.drop_eq_nil_of_le (Nat.le_refl _)];rfl)
   go_wp2
   go_ret
   exact⟨by rw [HB.out];rfl,rfl⟩
theorem farContains_any (A:Option Addr) (cap:Nat) (L:List Int) (sets:Int) (p:Addr) (w:World) (hn:L.length≤4000000) (hc:w.cell? p=some (.int .i64 sets)) (hr:NRow w w.heap.size A L) :
  Calls Tryd.prog 74 #[.slice A L.length cap,.func (Fn.func 72) #[] #[.pointer (some p)]] w fun e w'=>e=.returned (.bool (L.any (farB sets)))∧w=w':=by
 have H1:=Lib.hid (farIndex_any A cap L sets p w hn hc hr)
 have HA:=Lib.hid (idxV_any (farB sets) L 0)
 generalize idxV (farB sets) 0 L=j at H1 HA
 generalize L.any (farB sets)=q at HA ⊢
 clear hc hr
 go_enter Tryd.func74,Tryd.ntmps74
 go_wp2_with (go_at_call 77;refine H1.out.mono ?_;rintro e w1 ⟨rfl,rfl⟩)
 go_ret
 exact⟨by rw [← HA.out];rfl,rfl⟩
def rightE (id c d t p:Int) (ch us:List Int) (sets:Int):Int:=
 if inB id 1 99=true∧inB p 1 99=true then
  if inB c 1 d=true∧inB d 1 t=true∧t≤1073741824 then
   if chunksB c ch=true then (if us.length≤64∧us.any (farB sets)=false then 0 else 12) else 13
  else 10
 else 1
theorem right_task (id c d t p:Int) (A5:Option Addr) (c5:Nat) (ch:List Int) (A6:Option Addr) (c6:Nat) (us:List Int) (sets:Int) (w:World) (hn5:ch.length≤4000000) (hn6:us.length≤4000000) (hc:c≤9223372036854775807) (hr5:NRow w w.heap.size A5 ch) (hr6:NRow w w.heap.size A6 us) :
  Calls Tryd.prog 66 #[.agg #[.int .i64 id,.int .i64 c,.int .i64 d,.int .i64 t,.int .i64 p,.slice A5 ch.length c5,.slice A6 us.length c6],.int .i64 sets] w fun e w'=>e=.returned (.int .i64 (rightE id c d t p ch us sets))∧Below w.heap.size w w':=by
 have hmf:∀ (fn:Fn) (first cap:Array Value) (w:World),(Instr.makeFunc fn first cap).run Tryd.prog w=.ok (.func fn first cap) w:=fun _ _ _ _=>rfl
 obtain⟨R,hR⟩:∃ R,R=rightE id c d t p ch us sets:=⟨_,rfl⟩
 rw [← hR]
 unfold rightE at hR
 have hb0:=(Below.refl w.heap.size w).alloc (Nat.le_refl _) (.cells #[.int .i64 id,.int .i64 c,.int .i64 d,.int .i64 t,.int .i64 p,.slice A5 ch.length c5,.slice A6 us.length c6] 53)
 have hz0:(w.alloc (.cells #[.int .i64 id,.int .i64 c,.int .i64 d,.int .i64 t,.int .i64 p,.slice A5 ch.length c5,.slice A6 us.length c6] 53)).heap.size=w.heap.size+1:=by simp
 have hn0:=heap_alloc_new w (.cells #[.int .i64 id,.int .i64 c,.int .i64 d,.int .i64 t,.int .i64 p,.slice A5 ch.length c5,.slice A6 us.length c6] 53)
 have H5:=Lib.hid (hr5.below hb0 (Nat.le_refl _))
 have H6:=Lib.hid (hr6.below hb0 (Nat.le_refl _))
 go_enter Tryd.func66,Tryd.ntmps66
 go_upto_region 1 with (fail)
 generalize w.alloc (.cells #[.int .i64 id,.int .i64 c,.int .i64 d,.int .i64 t,.int .i64 p,.slice A5 ch.length c5,.slice A6 us.length c6] 53)=w0 at hb0 hz0 hn0 H5 H6 ⊢
 have hb1:=hb0.alloc hb0.size (.cells #[.int .i64 sets] 3)
 have hn1:=(Below.heap_alloc w0 (.cells #[.int .i64 sets] 3) _ (lt_of_block hn0)).trans hn0
 have hn2:=heap_alloc_new w0 (.cells #[.int .i64 sets] 3)
 have G5:=Lib.hid (((H5.out.more (C:=w0.heap.size) (by omega)).below (w':=w0.alloc (.cells #[.int .i64 sets] 3)) ((Below.refl w0.heap.size w0).alloc (Nat.le_refl _) _) (Nat.le_refl _)).more (C:=(w0.alloc (.cells #[.int .i64 sets] 3)).heap.size) (by simp))
 have G6:=Lib.hid (((H6.out.more (C:=w0.heap.size) (by omega)).below (w':=w0.alloc (.cells #[.int .i64 sets] 3)) ((Below.refl w0.heap.size w0).alloc (Nat.le_refl _) _) (Nat.le_refl _)).more (C:=(w0.alloc (.cells #[.int .i64 sets] 3)).heap.size) (by simp))
 rw [hz0] at hn2
 (try simp only [hz0])
 generalize w0.alloc (.cells #[.int .i64 sets] 3)=w1 at hb1 hn1 hn2 G5 G6 ⊢
 have q0:=cell_of_row w1 w.heap.size 0 _ _ _ hn1
 have q1:=cell_of_row w1 w.heap.size 1 _ _ _ hn1
 have q2:=cell_of_row w1 w.heap.size 2 _ _ _ hn1
 have q3:=cell_of_row w1 w.heap.size 3 _ _ _ hn1
 have q4:=cell_of_row w1 w.heap.size 4 _ _ _ hn1
 have q5:=cell_of_row w1 w.heap.size 5 _ _ _ hn1
 have q6:=cell_of_row w1 w.heap.size 6 _ _ _ hn1
 have q7:=cell_of_row w1 (w.heap.size+1) 0 _ _ _ hn2
 simp at q0 q1 q2 q3 q4 q5 q6 q7
 have HC:=Lib.hid (farContains_any A6 c6 us sets ⟨w.heap.size+1,0,none⟩ w1 hn6 q7 G6.out)
 have HK:=Lib.hid (chunks_any A5 c5 ch c w1 hn5 hc G5.out)
 have HB:=Lib.hid hb1
 clear hb0 hz0 hn0 H5 H6 hb1 hn1 hn2 G5 G6 q7 hr5 hr6
 have W1:=Lib.hid (withinI_any id 1 99 w1)
 have W2:=Lib.hid (withinI_any p 1 99 w1)
 have W3:=Lib.hid (withinL_any c 1 d w1)
 have W4:=Lib.hid (withinL_any d 1 t w1)
 have l6:us.length≤9223372036854775807:=by omega
 generalize inB id 1 99=b1 at W1 hR
 generalize inB p 1 99=b2 at W2 hR
 generalize inB c 1 d=b3 at W3 hR
 generalize inB d 1 t=b4 at W4 hR
 generalize chunksB c ch=b5 at HK hR
 generalize us.any (farB sets)=b6 at HC hR
 generalize us.length=n6 at *
 generalize ch.length=n5 at *
 have HR:=Lib.hid hR
 clear hR
 cases b1 with
 |false=>
  have HE:Hid (R=1):=Lib.hid (by rw [HR.out];simp)
  clear HR
  go_wp2_with (first|(go_at_call 64;with_reducible refine W1.out.mono ?_;rintro e w2 ⟨rfl,rfl⟩))
  go_ret
  exact⟨by rw [HE.out];rfl,HB.out⟩
 |true=>
 cases b2 with
 |false=>
  have HE:Hid (R=1):=Lib.hid (by rw [HR.out];simp)
  clear HR
  go_wp2_with (first|(go_at_call 64;with_reducible refine W1.out.mono ?_;rintro e w2 ⟨rfl,rfl⟩)|(go_at_call 64;with_reducible refine W2.out.mono ?_;rintro e w2 ⟨rfl,rfl⟩))
  go_ret
  exact⟨by rw [HE.out];rfl,HB.out⟩
 |true=>
 cases b3 with
 |false=>
  have HE:Hid (R=10):=Lib.hid (by rw [HR.out];simp)
  clear HR
  go_wp2_with (first|(go_at_call 64;with_reducible refine W1.out.mono ?_;rintro e w2 ⟨rfl,rfl⟩)|(go_at_call 64;with_reducible refine W2.out.mono ?_;rintro e w2 ⟨rfl,rfl⟩)|(go_at_call 65;with_reducible refine W3.out.mono ?_;rintro e w2 ⟨rfl,rfl⟩))
  go_ret
  exact⟨by rw [HE.out];rfl,HB.out⟩
 |true=>
 cases b4 with
 |false=>
  have HE:Hid (R=10):=Lib.hid (by rw [HR.out];simp)
  clear HR
  go_wp2_with (first|(go_at_call 64;with_reducible refine W1.out.mono ?_;rintro e w2 ⟨rfl,rfl⟩)|(go_at_call 64;with_reducible refine W2.out.mono ?_;rintro e w2 ⟨rfl,rfl⟩)|(go_at_call 65;with_reducible refine W3.out.mono ?_;rintro e w2 ⟨rfl,rfl⟩)|(go_at_call 65;with_reducible refine W4.out.mono ?_;rintro e w2 ⟨rfl,rfl⟩))
  go_ret
  exact⟨by rw [HE.out];rfl,HB.out⟩
 |true=>
 by_cases ht:t≤1073741824
 rotate_left
 ·skip
  have HE:Hid (R=10):=Lib.hid (by rw [HR.out];simp [ht])
  clear HR
  go_wp2_with (first|(go_at_call 64;with_reducible refine W1.out.mono ?_;rintro e w2 ⟨rfl,rfl⟩)|(go_at_call 64;with_reducible refine W2.out.mono ?_;rintro e w2 ⟨rfl,rfl⟩)|(go_at_call 65;with_reducible refine W3.out.mono ?_;rintro e w2 ⟨rfl,rfl⟩)|(go_at_call 65;with_reducible refine W4.out.mono ?_;rintro e w2 ⟨rfl,rfl⟩))
  go_ret
  exact⟨by rw [HE.out];rfl,HB.out⟩
 cases b5 with
 |false=>
  have HE:Hid (R=13):=Lib.hid (by rw [HR.out];simp [ht])
  clear HR
  go_wp2_with (first|(go_at_call 64;with_reducible refine W1.out.mono ?_;rintro e w2 ⟨rfl,rfl⟩)|(go_at_call 64;with_reducible refine W2.out.mono ?_;rintro e w2 ⟨rfl,rfl⟩)|(go_at_call 65;with_reducible refine W3.out.mono ?_;rintro e w2 ⟨rfl,rfl⟩)|(go_at_call 65;with_reducible refine W4.out.mono ?_;rintro e w2 ⟨rfl,rfl⟩)|(go_at_call 73;with_reducible refine HK.out.mono ?_;rintro e w2 ⟨rfl,rfl⟩))
  go_ret
  exact⟨by rw [HE.out];rfl,HB.out⟩
 |true=>
 by_cases h6:n6≤64
 rotate_left
 ·have h6':¬ n6≤64:=h6
  have HE:Hid (R=12):=Lib.hid (by rw [HR.out];simp;omega)
  clear HR
  go_wp2_with (first|(go_at_call 64;with_reducible refine W1.out.mono ?_;rintro e w2 ⟨rfl,rfl⟩)|(go_at_call 64;with_reducible refine W2.out.mono ?_;rintro e w2 ⟨rfl,rfl⟩)|(go_at_call 65;with_reducible refine W3.out.mono ?_;rintro e w2 ⟨rfl,rfl⟩)|(go_at_call 65;with_reducible refine W4.out.mono ?_;rintro e w2 ⟨rfl,rfl⟩)|(go_at_call 73;with_reducible refine HK.out.mono ?_;rintro e w2 ⟨rfl,rfl⟩))
  go_ret
  exact⟨by rw [HE.out];rfl,HB.out⟩
 cases b6 with
 |true=>
  have HE:Hid (R=12):=Lib.hid (by rw [HR.out];simp [ht])
  clear HR
  go_wp2_with (first|(go_at_call 64;with_reducible refine W1.out.mono ?_;rintro e w2 ⟨rfl,rfl⟩)|(go_at_call 64;with_reducible refine W2.out.mono ?_;rintro e w2 ⟨rfl,rfl⟩)|(go_at_call 65;with_reducible refine W3.out.mono ?_;rintro e w2 ⟨rfl,rfl⟩)|(go_at_call 65;with_reducible refine W4.out.mono ?_;rintro e w2 ⟨rfl,rfl⟩)|(go_at_call 73;with_reducible refine HK.out.mono ?_;rintro e w2 ⟨rfl,rfl⟩)|(go_at_call 74;with_reducible refine HC.out.mono ?_;rintro e w2 ⟨rfl,rfl⟩))
  go_ret
  exact⟨by rw [HE.out];rfl,HB.out⟩
 |false=>
  have HE:Hid (R=0):=Lib.hid (by rw [HR.out];simp [ht,h6])
  clear HR
  go_wp2_with (first|(go_at_call 64;with_reducible refine W1.out.mono ?_;rintro e w2 ⟨rfl,rfl⟩)|(go_at_call 64;with_reducible refine W2.out.mono ?_;rintro e w2 ⟨rfl,rfl⟩)|(go_at_call 65;with_reducible refine W3.out.mono ?_;rintro e w2 ⟨rfl,rfl⟩)|(go_at_call 65;with_reducible refine W4.out.mono ?_;rintro e w2 ⟨rfl,rfl⟩)|(go_at_call 73;with_reducible refine HK.out.mono ?_;rintro e w2 ⟨rfl,rfl⟩)|(go_at_call 74;with_reducible refine HC.out.mono ?_;rintro e w2 ⟨rfl,rfl⟩))
  go_ret
  exact⟨by rw [HE.out];rfl,HB.out⟩
end Go.Proofs.YtgnaaokhfpfglaaDoor
end
section
namespace Go.Proofs.YtgnaaokhfpfglaaDoor
open Go.RowKit Go.ChangeMaps
structure KeyE (P:Program) (k:TypeId) {α:Type} [DecidableEq α] (enc:α→Value):Prop where
 inj:∀ a b,enc a=enc b→a=b
 ok:∀ (em:Bool) (a:α) (w:World),(Instr.checkKey em 10000 k (enc a)).run P w=.ok () w
 same:∀ a,Instr.sameBits 10000 (enc a) (enc a)=true
 find:∀ (a:α) (L:List (α × Value × Nat)) (w:World),(Instr.findKey k (enc a) (L.map fun p=>⟨enc p.1,p.2.1,p.2.2⟩)).run P w =
  .ok ((L.findIdx? (fun p=>decide (p.1=a))).bind fun i=>L[i]?.map fun p=>(i,p.2.1)) w
section
variable {α:Type} [DecidableEq α]
def getM (a:α):List (α × Value)→Option Value
 |[]=>none
 |p::r=>if p.1=a then some p.2 else getM a r
def putM (a:α) (v:Value):List (α × Value)→List (α × Value)
 |[]=>[(a,v)]
 |p::r=>if p.1=a then (a,v)::r else p::putM a v r
def delM (a:α):List (α × Value)→List (α × Value)
 |[]=>[]
 |p::r=>if p.1=a then r else p::delM a r
end
section
variable {α:Type}
def MapAt (enc:α→Value) (w:World) (b:Nat) (L:List (α × Value)):Prop:=
 ∃ (M:List (α × Value × Nat)) (clock:Nat),w.heap[b]? = some (.map (M.map fun p=>(⟨enc p.1,p.2.1,p.2.2⟩:MapEntry)).toArray clock)∧M.map (fun p=>(p.1,p.2.1))=L
variable {P:Program} {k t e:TypeId} {enc:α→Value} {w w':World} {b:Nat} {L:List (α × Value)}
theorem MapAt.lt (h:MapAt enc w b L):b<w.heap.size:=by
 obtain⟨M,c,h,_⟩:=h
 exact (Array.getElem?_eq_some_iff.1 h).1
theorem MapAt.alloc (h:MapAt enc w b L) (o:Obj):MapAt enc (w.alloc o) b L:=by
 have hl:=h.lt
 obtain⟨M,c,h,e⟩:=h
 exact⟨M,c,(Below.heap_alloc w o b hl).trans h,e⟩
theorem MapAt.drew (h:MapAt enc w b L):MapAt enc w.drew b L:=h
theorem MapAt.drewN (h:MapAt enc w b L) (n:Nat):MapAt enc (w.drewN n) b L:=h
theorem MapAt.stay (h:MapAt enc w b L) (hs:w'.heap[b]? = w.heap[b]?):MapAt enc w' b L:=by
 obtain⟨M,c,h,e⟩:=h
 exact⟨M,c,hs.trans h,e⟩
theorem MapAt.below {B:Nat} (h:MapAt enc w b L) (hb:Below B w w') (hB:b<B):MapAt enc w' b L:=h.stay (hb.block b hB)
theorem MapAt.grown {row:Option Nat} (h:MapAt enc w b L) (hg:w.grownBy w' row) (hr:some b≠row):MapAt enc w' b L:=h.stay (hg.block b h.lt hr)
theorem MapAt.setCell (h:MapAt enc w b L) {a:Addr} (ha:b≠a.block) (u:Value):MapAt enc (w.setCell a u) b L:=h.stay (Below.heap_setCell w a u b ha)
theorem MapAt.made (w:World) (enc:α→Value):MapAt enc (w.alloc (.map #[] 0)) w.heap.size ([]:List (α × Value)):=⟨[],0,heap_alloc_new w _,rfl⟩
theorem modify_map {β:Type} {f:α→β} {g:β→β} {h:α→α} (e:∀ x,g (f x)=f (h x)):∀ (M:List α) (i:Nat),(M.map f).modify i g=(M.modify i h).map f:=by
 intro M
 induction M with
 |nil=>intro i;cases i<;>rfl
 |cons x r ih=>
  intro i
  cases i with
  |zero=>simp [e]
  |succ i=>simp [ih]
theorem MapAt.len (h:MapAt enc w b L) (ht:P.underlying t=some (.map k e)) (ty:TypeId):(Builtin.len_ #[t] ty #[.map (some b)]).run P w=.ok (.int .i64 L.length) w:=by
 obtain⟨M,cl,hb,rfl⟩:=h
 simp [Builtin.len_,run_underlying ht,MapKept.run_getObj_map hb,Result.andThen,goInt]
end
section
variable {α:Type} [DecidableEq α] {P:Program} {k t e:TypeId} {enc:α→Value} {w w':World} {b:Nat} {L:List (α × Value)}
theorem find_getM (a:α):∀ M:List (α × Value × Nat),(M.findIdx? (fun p=>decide (p.1=a))).bind (fun i=>M[i]?.map fun p=>p.2.1)=getM a (M.map fun p=>(p.1,p.2.1)):=by
 intro M
 induction M with
 |nil=>rfl
 |cons p r ih=>
  rw [List.findIdx?_cons,List.map_cons,getM]
  by_cases h:p.1=a
  ·simp [h]
  ·rw [if_neg h,← ih]
   simp only [h,decide_false,Bool.false_eq_true,if_false]
   cases r.findIdx? (fun p=>decide (p.1=a))<;>simp
theorem find_none (a:α) (M:List (α × Value × Nat)) (h:M.findIdx? (fun p=>decide (p.1=a))=none) (v:Value):putM a v (M.map fun p=>(p.1,p.2.1))=(M.map fun p=>(p.1,p.2.1))++[(a,v)]∧delM a (M.map fun p=>(p.1,p.2.1))=M.map fun p=>(p.1,p.2.1):=by
 induction M with
 |nil=>exact⟨rfl,rfl⟩
 |cons p r ih=>
  rw [List.findIdx?_cons] at h
  by_cases hp:p.1=a
  ·simp [hp] at h
  ·simp only [hp,decide_false,Bool.false_eq_true,if_false,Option.map_eq_none_iff] at h
   obtain⟨h1,h2⟩:=ih h
   rw [List.map_cons,putM,delM,if_neg hp,if_neg hp,h1,h2]
   exact⟨rfl,rfl⟩
theorem find_some (a:α):∀ (M:List (α × Value × Nat)) (i:Nat),M.findIdx? (fun p=>decide (p.1=a))=some i→∃ p,M[i]? = some p∧p.1=a∧i<M.length ∧
  (∀ v,putM a v (M.map fun p=>(p.1,p.2.1))=(M.modify i (fun q=>(a,v,q.2.2))).map fun p=>(p.1,p.2.1))∧delM a (M.map fun p=>(p.1,p.2.1))=(M.eraseIdx i).map fun p=>(p.1,p.2.1):=by
 intro M
 induction M with
 |nil=>intro i h;cases h
 |cons p r ih=>
  intro i h
  rw [List.findIdx?_cons] at h
  by_cases hp:p.1=a
  ·simp only [hp,decide_true,if_true,Option.some.injEq] at h
   subst h
   refine⟨p,rfl,hp,by simp,fun v=>?_,?_⟩
   ·rw [List.map_cons,putM,if_pos hp];rfl
   ·rw [List.map_cons,delM,if_pos hp];rfl
  ·simp only [hp,decide_false,Bool.false_eq_true,if_false,Option.map_eq_some_iff] at h
   obtain⟨j,hj,rfl⟩:=h
   obtain⟨q,h1,h2,h3,h4,h5⟩:=ih j hj
   refine⟨q,by simpa using h1,h2,by simp;omega,fun v=>?_,?_⟩
   ·rw [List.map_cons,putM,if_neg hp,h4 v];rfl
   ·rw [List.map_cons,delM,if_neg hp,h5];rfl
theorem MapAt.look (h:MapAt enc w b L) (K:KeyE P k enc) (ht:P.underlying t=some (.map k e)) {z:Value} (hz:(zeroValue e).run P w=.ok z w) (a:α) (c:Bool) :
  (Instr.lookup t (.map (some b)) (enc a) c).run P w=.ok (if c then .tuple #[(getM a L).getD z,.bool (getM a L).isSome] else (getM a L).getD z) w:=by
 obtain⟨M,cl,hb,rfl⟩:=h
 rw [← find_getM]
 have hf:=K.find a M w
 cases hi:M.findIdx? (fun p=>decide (p.1=a)) with
 |none=>
  rw [hi] at hf
  cases c<;>simp [Instr.lookup,run_underlying ht,MapKept.run_getObj_map hb,K.ok,hf,hz,Result.andThen]
 |some i=>
  obtain⟨p,h1,h2,h3,_⟩:=find_some a M i hi
  rw [hi] at hf
  simp only [Option.bind_some,h1,Option.map_some] at hf ⊢
  cases c<;>simp [Instr.lookup,run_underlying ht,MapKept.run_getObj_map hb,K.ok,hf,Result.andThen]
theorem MapAt.put (h:MapAt enc w b L) (K:KeyE P k enc) (ht:P.underlying t=some (.map k e)) (a:α) (v:Value) :
  ∃ w',(Instr.mapUpdate t (.map (some b)) (enc a) v).run P w=.ok () w'∧MapAt enc w' b (putM a v L)∧w.grownBy w' (some b):=by
 obtain⟨M,cl,hb,rfl⟩:=h
 have hf:=K.find a M w
 have hgr:∀ o:Obj,w.grownBy (setBlock w b o) (some b):=fun o=>⟨rfl,rfl,rfl,by simp [setBlock],fun i _ hi=>heap_setBlock_other hb _ (fun e=>hi (by rw [e]))⟩
 cases hi:M.findIdx? (fun p=>decide (p.1=a)) with
 |none=>
  rw [hi] at hf
  refine⟨setBlock w b (.map ((M++[(a,v,cl)]).map fun p=>(⟨enc p.1,p.2.1,p.2.2⟩:MapEntry)).toArray (cl+1)),?_,⟨_,_,heap_setBlock_same hb _,?_⟩,hgr _⟩
  ·simp [Instr.mapUpdate,run_underlying ht,MapKept.run_getObj_map hb,K.ok,hf,MapKept.run_setObj_map _ hb,Result.andThen,setBlock]
  ·rw [(find_none a M hi v).1];simp
 |some i=>
  obtain⟨p,h1,h2,h3,h4,_⟩:=find_some a M i hi
  rw [hi] at hf
  simp only [Option.bind_some,h1,Option.map_some] at hf
  refine⟨setBlock w b (.map ((M.modify i (fun q=>(a,v,q.2.2))).map fun p=>(⟨enc p.1,p.2.1,p.2.2⟩:MapEntry)).toArray cl),?_,⟨_,_,heap_setBlock_same hb _,(h4 v).symm⟩,hgr _⟩
  simp [Instr.mapUpdate,run_underlying ht,MapKept.run_getObj_map hb,K.ok,hf,Instr.keyThatStays,h1,h2,K.same,MapKept.run_setObj_map _ hb,Result.andThen,setBlock]
  rw [modify_map (f:=fun p:α × Value × Nat=>(⟨enc p.1,p.2.1,p.2.2⟩:MapEntry)) (g:=fun e=>⟨enc a,v,e.born⟩) (h:=fun q=>(a,v,q.2.2)) (fun x=>rfl)]
theorem find_now {d:TypeDesc} {enc:α→Value} (hs:∀ a b,Instr.sameNow d (enc a) (enc b)=some (decide (b=a))) (a:α):∀ (M:List (α × Value × Nat)) (j:Nat),
  Instr.findNow d (enc a) (M.map fun p=>⟨enc p.1,p.2.1,p.2.2⟩) j=some ((M.findIdx? (fun p=>decide (p.1=a))).bind fun i=>M[i]?.map fun p=>(i+j,p.2.1)):=by
 intro M
 induction M with
 |nil=>intro j;rfl
 |cons p r ih=>
  intro j
  rw [List.map_cons,Instr.findNow,hs,List.findIdx?_cons]
  by_cases hp:p.1=a
  ·simp [hp]
  ·simp only [hp,decide_false,Bool.false_eq_true,if_false]
   rw [ih]
   cases r.findIdx? (fun p=>decide (p.1=a)) with
   |none=>rfl
   |some i=>simp [Nat.add_assoc,Nat.add_comm 1 j]
theorem keyE_int {q:IntKind} (hk:P.underlying k=some (.int q)):KeyE P k (Value.int q) where
 inj:=fun a b h=>by injection h
 ok:=fun em a w=>MapKept.run_checkKey hk (by simp [MapKept.IsKey]) em 9999
 same:=fun a=>by simp [Instr.sameBits]
 find:=fun a L w=>by
  have h:=find_now (d:=.int q) (enc:=Value.int q) (fun a b=>by
   simp only [Instr.sameNow,if_true,Option.some.injEq]
   by_cases h:a=b
   ·subst h;simp
   ·rw [beq_false_of_ne h,decide_eq_false (Ne.symm h)]) a L 0
  rw [MapKept.run_findKey hk h]
  simp
section
variable {ops:Array Oper} {rest:List Oper} {o:Oper} {a:Act} {Q:Exit→Act→World→Prop}
theorem step_putM {K':Act→World→Prop} {E:Prop} (hgd:o.guard=none) (m x v:Operand) (t k e:TypeId) (ho:o.op=Op.mapUpdate t m x v) (K:KeyE P k enc) (ht:P.underlying t=some (.map k e)) (b:Nat) (L:List (α × Value)) (key:α) (val:Value)
  (hm:a.eval m=.map (some b)) (hx:a.eval x=enc key) (hv:a.eval v=val) (h0:MapAt enc w b L)
  (h:∀ w',MapAt enc w' b (putM key val L)→w.grownBy w' (some b)→K' (a.put o.dst undef) w'):if Region.wanted o (yielded ops a.tmps)=true then Oper.wp P o a w K' Q else E:=by
 have hw:Region.wanted o (yielded ops a.tmps)=true:=by simp [Region.wanted,hgd]
 rw [if_pos hw]
 obtain⟨w',hrun,r1,r2⟩:=h0.put K ht key val
 unfold Oper.wp
 simp [execOp,ho,hm,hx,hv,hrun,Result.andThen]
 exact h w' r1 r2
theorem wpList_lookM (hgd:o.guard=none) (m x:Operand) (t k e:TypeId) (c:Bool) (ho:o.op=Op.lookup t m x c) (K:KeyE P k enc) (ht:P.underlying t=some (.map k e)) {z:Value} (hz:(zeroValue e).run P w=.ok z w) (b:Nat) (L:List (α × Value)) (key:α) (r:Value)
  (hm:a.eval m=.map (some b)) (hx:a.eval x=enc key) (h0:MapAt enc w b L) (hr:(if c then .tuple #[(getM key L).getD z,.bool (getM key L).isSome] else (getM key L).getD z)=r)
  (h:wpList P ops Q rest (a.put o.dst r) w):wpList P ops Q (o::rest) a w:=by
 refine wpList_plain hgd fun K' hK'=>?_
 have hrun:=h0.look K ht hz key c
 rw [hr] at hrun
 unfold Oper.wp
 simp [execOp,ho,hm,hx,hrun,Result.andThen]
 exact hK' _ _ h
end
end
end Go.Proofs.YtgnaaokhfpfglaaDoor
end
section
namespace Go.Proofs.YtgnaaokhfpfglaaDoor
open Go.RowKit Go.Shelf Go.Lib
structure Tk where
 id:Int
 c:Int
 d:Int
 t:Int
 p:Int
 ch:List Int
 us:List Int
def TkRow (w:World) (B:Nat) (A:Option Addr) (L:List Tk):Prop:=
 0<L.length→∃ b off,A=some ⟨b,off,none⟩∧b<B∧∀ i (h:i<L.length),
  w.cell? ⟨b,off+i * 7,none⟩=some (.int .i64 L[i].id)∧w.cell? ⟨b,off+i * 7+1,none⟩=some (.int .i64 L[i].c)∧w.cell? ⟨b,off+i * 7+2,none⟩=some (.int .i64 L[i].d)∧w.cell? ⟨b,off+i * 7+3,none⟩=some (.int .i64 L[i].t)∧w.cell? ⟨b,off+i * 7+4,none⟩=some (.int .i64 L[i].p) ∧
  ∃ A5 c5 A6 c6,w.cell? ⟨b,off+i * 7+5,none⟩=some (.slice A5 L[i].ch.length c5)∧w.cell? ⟨b,off+i * 7+6,none⟩=some (.slice A6 L[i].us.length c6)∧NRow w B A5 L[i].ch∧NRow w B A6 L[i].us
theorem TkRow.below {w w':World} {B C:Nat} {A:Option Addr} {L:List Tk} (h:TkRow w B A L) (hb:Below C w w') (hBC:B≤C):TkRow w' B A L:=by
 intro hl
 obtain⟨b,off,e,hlt,hc⟩:=h hl
 refine⟨b,off,e,hlt,fun i hi=>?_⟩
 obtain⟨h0,h1,h2,h3,h4,A5,c5,A6,c6,h5,h6,h7,h8⟩:=hc i hi
 have m:∀ o v,w.cell? ⟨b,o,none⟩=some v→w'.cell? ⟨b,o,none⟩=some v:=fun o v h=>(hb.cell (p:=⟨b,o,none⟩) (by show b<C;omega)).trans h
 exact⟨m _ _ h0,m _ _ h1,m _ _ h2,m _ _ h3,m _ _ h4,A5,c5,A6,c6,m _ _ h5,m _ _ h6,h7.below hb hBC,h8.below hb hBC⟩
theorem TkRow.more {w:World} {B C:Nat} {A:Option Addr} {L:List Tk} (h:TkRow w B A L) (hBC:B≤C):TkRow w C A L:=by
 intro hl
 obtain⟨b,off,e,hlt,hc⟩:=h hl
 refine⟨b,off,e,by omega,fun i hi=>?_⟩
 obtain⟨h0,h1,h2,h3,h4,A5,c5,A6,c6,h5,h6,h7,h8⟩:=hc i hi
 exact⟨h0,h1,h2,h3,h4,A5,c5,A6,c6,h5,h6,h7.more hBC,h8.more hBC⟩
def checkGo (sets:Int):Int→List Int→List Tk→Int
 |_,_,[]=>0
 |last,met,x::r=>
  if rightE x.id x.c x.d x.t x.p x.ch x.us sets=0 then (if x.id≤last then 10 else if x.p ∈ met then 14 else checkGo sets x.id (met++[x.p]) r)
  else rightE x.id x.c x.d x.t x.p x.ch x.us sets
def checkE (sets reload:Int) (L:List Tk):Int:=
 if inB sets 0 256=true∧inB reload 0 1000=true∧L.length≠0 then (if L.length≤64 then checkGo sets 0 [] L else 15) else 1
theorem checkGo_step {sets last:Int} {met:List Int} {L:List Tk} {i:Nat} (h:i<L.length):checkGo sets last met (L.drop i) =
  if rightE L[i].id L[i].c L[i].d L[i].t L[i].p L[i].ch L[i].us sets=0 then (if L[i].id≤last then 10 else if L[i].p ∈ met then 14 else checkGo sets L[i].id (met++[L[i].p]) (L.drop (i+1)))
  else rightE L[i].id L[i].c L[i].d L[i].t L[i].p L[i].ch L[i].us sets:=by
 rw [List.drop_eq_getElem_cons h]
 rfl
def metM (met:List Int):List (Int × Value):=met.map fun q=>(q,.bool true)
theorem getM_met (a:Int):∀ met:List Int,(getM a (metM met)).getD (.bool false)=.bool (decide (a ∈ met)):=by
 intro met
 induction met with
 |nil=>rfl
 |cons x r ih=>
  unfold metM at ih ⊢
  rw [List.map_cons,getM]
  by_cases h:x=a
  ·subst h;simp
  ·rw [if_neg h,ih]
   congr 1
   rw [Bool.eq_iff_iff]
   simp [Ne.symm h]
theorem putM_met (a:Int):∀ met:List Int,a ∉ met→putM a (.bool true) (metM met)=metM (met++[a]):=by
 intro met
 induction met with
 |nil=>intro _;rfl
 |cons x r ih=>
  intro h
  have h1:x≠a:=fun e=>h (by rw [e];exact List.mem_cons_self)
  have h2:a ∉ r:=fun e=>h (List.mem_cons_of_mem _ e)
  unfold metM at ih ⊢
  rw [List.map_cons,putM,if_neg h1,ih h2]
  rfl
theorem check_any (sets reload:Int) (A:Option Addr) (cap:Nat) (L:List Tk) (w:World) (hn:L.length≤1000000) (hin:∀ x ∈ L,x.ch.length≤4000000∧x.us.length≤4000000∧x.c≤9223372036854775807) (hr:TkRow w w.heap.size A L) :
  Calls Tryd.prog 47 #[.agg #[.int .i64 sets,.int .i64 reload,.slice A L.length cap]] w fun e w'=>e=.returned (.int .i64 (checkE sets reload L))∧Below w.heap.size w w':=by
 have hmm:=@run_makeMap Tryd.prog
 obtain⟨n,hn'⟩:∃ n,n=L.length:=⟨_,rfl⟩
 obtain⟨R,hR⟩:∃ R,R=checkE sets reload L:=⟨_,rfl⟩
 rw [← hn'] at hn
 rw [← hR,← hn']
 unfold checkE at hR
 rw [← hn'] at hR
 have HN:=Lib.hid hn'
 have HIN:=Lib.hid hin
 clear hn' hin
 have hb0:=(Below.refl w.heap.size w).alloc (Nat.le_refl _) (.cells #[.int .i64 sets,.int .i64 reload,.slice A n cap] 33)
 have hz0:(w.alloc (.cells #[.int .i64 sets,.int .i64 reload,.slice A n cap] 33)).heap.size=w.heap.size+1:=by simp
 have hn0:=heap_alloc_new w (.cells #[.int .i64 sets,.int .i64 reload,.slice A n cap] 33)
 have H5:=Lib.hid (hr.below hb0 (Nat.le_refl _))
 go_enter Tryd.func47,Tryd.ntmps47
 go_wp2
 go_step3
 go_upto_region 1 with (fail)
 generalize w.alloc (.cells #[.int .i64 sets,.int .i64 reload,.slice A n cap] 33)=w0 at hb0 hz0 hn0 H5 ⊢
 have q0:=cell_of_row w0 w.heap.size 0 _ _ _ hn0
 have q1:=cell_of_row w0 w.heap.size 1 _ _ _ hn0
 have q2:=cell_of_row w0 w.heap.size 2 _ _ _ hn0
 simp at q0 q1 q2
 have HB:=Lib.hid hb0
 have HR:=Lib.hid hR
 clear hR hb0
 have W1:=Lib.hid (withinI_any sets 0 256 w0)
 have W2:=Lib.hid (withinL_any reload 0 1000 w0)
 generalize inB sets 0 256=b1 at W1 HR
 generalize inB reload 0 1000=b2 at W2 HR
 cases b1 with
 |false=>
  have HE:Hid (R=1):=Lib.hid (by rw [HR.out];simp)
  go_wp2_with (first|(go_at_call 64;with_reducible refine W1.out.mono ?_;rintro e w2 ⟨rfl,rfl⟩))
  (repeat rw [Exit.noGoto_ret])
  go_ret
  exact⟨by rw [HE.out];rfl,HB.out⟩
 |true=>
 cases b2 with
 |false=>
  have HE:Hid (R=1):=Lib.hid (by rw [HR.out];simp)
  go_wp2_with (first|(go_at_call 64;with_reducible refine W1.out.mono ?_;rintro e w2 ⟨rfl,rfl⟩)|(go_at_call 65;with_reducible refine W2.out.mono ?_;rintro e w2 ⟨rfl,rfl⟩))
  (repeat rw [Exit.noGoto_ret])
  go_ret
  exact⟨by rw [HE.out];rfl,HB.out⟩
 |true=>
 by_cases h0:n=0
 ·have HE:Hid (R=1):=Lib.hid (by rw [HR.out];simp [h0])
  subst h0
  go_wp2_with (first|(go_at_call 64;with_reducible refine W1.out.mono ?_;rintro e w2 ⟨rfl,rfl⟩)|(go_at_call 65;with_reducible refine W2.out.mono ?_;rintro e w2 ⟨rfl,rfl⟩))
  (repeat rw [Exit.noGoto_ret])
  go_ret
  exact⟨by rw [HE.out];rfl,HB.out⟩
 have hpos:0<n:=by omega
 have hne:((n:Int) == 0)=false:=by simpa using h0
 by_cases h64:n≤64
 rotate_left
 ·have HE:Hid (R=15):=Lib.hid (by rw [HR.out];simp [h0,h64])
  go_wp2_with (first|(go_at_call 64;with_reducible refine W1.out.mono ?_;rintro e w2 ⟨rfl,rfl⟩)|(go_at_call 65;with_reducible refine W2.out.mono ?_;rintro e w2 ⟨rfl,rfl⟩))
  (repeat rw [Exit.noGoto_ret])
  go_ret
  exact⟨by rw [HE.out];rfl,HB.out⟩
 have HS0:Hid (R=checkGo sets 0 [] (L.drop 0)):=Lib.hid (by rw [HR.out];simp [h0,h64])
 clear HR
 go_wp2_with (first|(go_at_call 64;with_reducible refine W1.out.mono ?_;rintro e w2 ⟨rfl,rfl⟩)|(go_at_call 65;with_reducible refine W2.out.mono ?_;rintro e w2 ⟨rfl,rfl⟩))
 go_step3
 go_wp2
 have hm0:=MapAt.made w0 (Value.int .i64)
 have hb1:=(Below.refl w0.heap.size w0).alloc (Nat.le_refl _) (.map #[] 0)
 have hz1:(w0.alloc (.map #[] 0)).heap.size=w0.heap.size+1:=by simp
 generalize w0.alloc (.map #[] 0)=w1 at hm0 hb1 hz1 ⊢
 obtain⟨mb,hmb⟩:∃ b,w.heap.size+1=b:=⟨_,rfl⟩
 rw [hz0,hmb] at hm0 hb1 hz1
 rw [hmb] at hz0 ⊢
 have hlm:w.heap.size<mb:=by omega
 have hl1:mb<w1.heap.size:=by omega
 clear hz1 hn0 W1 W2 hr hmm
 go_loopw [3,4,34] (fun v3 v4 v34 wr=>∃ (i:Nat) (last:Int) (met:List Int),v3=.int .i64 0∧v4=.int .i64 last∧v34=.int .i64 i∧i≤n∧Hid (R=checkGo sets last met (L.drop i))∧MapAt (Value.int .i64) wr mb (metM met)∧Below mb w0 wr) (fun _ _ v34 _=>n - (RowKit.intOf v34).toNat)
 case atStart=>exact⟨0,0,[],rfl,rfl,rfl,Nat.zero_le _,HS0,hm0,hb1⟩
 case round=>
  obtain⟨i,last,met,rfl,rfl,rfl,hi,hS,hmap,hbr⟩:=hrel
  by_cases hin:i<n
  ·have hil:i<L.length:=by rw [← HN.out];exact hin
   obtain⟨bA,oA,rfl,hltA,hcA⟩:=H5.out (by rw [← HN.out];exact hpos)
   obtain⟨f0,f1,f2,f3,f4,A5,c5,A6,c6,f5,f6,r5,r6⟩:=hcA i hil
   have hlen:=HIN.out L[i] (List.getElem_mem hil)
   have HST:=hS.out.trans (checkGo_step hil)
   generalize L[i]=x at f0 f1 f2 f3 f4 f5 f6 r5 r6 hlen HST
   clear hcA hS
   have m:∀ o v,w0.cell? ⟨bA,o,none⟩=some v→wr.cell? ⟨bA,o,none⟩=some v:=fun o v h=>(hbr.cell (p:=⟨bA,o,none⟩) (by show bA<mb;omega)).trans h
   have e0:=m _ _ f0
   have e1:=m _ _ f1
   have e2:=m _ _ f2
   have e3:=m _ _ f3
   have e4:=m _ _ f4
   have e5:=m _ _ f5
   have e6:=m _ _ f6
   clear m f0 f1 f2 f3 f4 f5 f6
   have hBw:mb≤wr.heap.size:=by have:=hmap.lt;omega
   have s5:=Lib.hid (r5.below hbr (by omega))
   have s6:=Lib.hid (r6.below hbr (by omega))
   clear r5 r6
   obtain⟨xid,xc,xd,xt,xp,xch,xus⟩:=x
   simp only at e0 e1 e2 e3 e4 e5 e6 s5 s6 hlen HST
   have hbt:=hbr.alloc hBw (.cells #[.int .i64 xid,.int .i64 xc,.int .i64 xd,.int .i64 xt,.int .i64 xp,.slice A5 xch.length c5,.slice A6 xus.length c6] 53)
   have hmt:=hmap.alloc (.cells #[.int .i64 xid,.int .i64 xc,.int .i64 xd,.int .i64 xt,.int .i64 xp,.slice A5 xch.length c5,.slice A6 xus.length c6] 53)
   have t5:=s5.out.below ((Below.refl mb wr).alloc hBw (.cells #[.int .i64 xid,.int .i64 xc,.int .i64 xd,.int .i64 xt,.int .i64 xp,.slice A5 xch.length c5,.slice A6 xus.length c6] 53)) (by omega)
   have t6:=s6.out.below ((Below.refl mb wr).alloc hBw (.cells #[.int .i64 xid,.int .i64 xc,.int .i64 xd,.int .i64 xt,.int .i64 xp,.slice A5 xch.length c5,.slice A6 xus.length c6] 53)) (by omega)
   have hnt:=heap_alloc_new wr (.cells #[.int .i64 xid,.int .i64 xc,.int .i64 xd,.int .i64 xt,.int .i64 xp,.slice A5 xch.length c5,.slice A6 xus.length c6] 53)
   have hzt:(wr.alloc (.cells #[.int .i64 xid,.int .i64 xc,.int .i64 xd,.int .i64 xt,.int .i64 xp,.slice A5 xch.length c5,.slice A6 xus.length c6] 53)).heap.size=wr.heap.size+1:=by simp
   go_upto_region 10 with (fail)
   generalize wr.alloc (.cells #[.int .i64 xid,.int .i64 xc,.int .i64 xd,.int .i64 xt,.int .i64 xp,.slice A5 xch.length c5,.slice A6 xus.length c6] 53)=W at hbt hmt t5 t6 hnt hzt ⊢
   obtain⟨tb,htb⟩:∃ b,wr.heap.size=b:=⟨_,rfl⟩
   have hlmt:mb<tb:=by rw [← htb];exact hmap.lt
   rw [htb] at hnt hzt ⊢
   clear e0 e1 e2 e3 e4 e5 e6 s5 s6 hmap
   have y0:=cell_of_row W tb 0 _ _ _ hnt
   have y1:=cell_of_row W tb 1 _ _ _ hnt
   have y2:=cell_of_row W tb 2 _ _ _ hnt
   have y3:=cell_of_row W tb 3 _ _ _ hnt
   have y4:=cell_of_row W tb 4 _ _ _ hnt
   have y5:=cell_of_row W tb 5 _ _ _ hnt
   have y6:=cell_of_row W tb 6 _ _ _ hnt
   simp at y0 y1 y2 y3 y4 y5 y6
   have q0':=(hbt.cell (p:=⟨w.heap.size,0,none⟩) (by show w.heap.size<mb;omega)).trans q0
   have W3:=Lib.hid (right_task xid xc xd xt xp A5 c5 xch A6 c6 xus sets W hlen.1 hlen.2.1 hlen.2.2 (t5.more (by omega)) (t6.more (by omega)))
   have HST':=Lib.hid HST
   clear HST hlen t5 t6
   obtain⟨ee,hee⟩:∃ z,rightE xid xc xd xt xp xch xus sets=z:=⟨_,rfl⟩
   rw [hee] at W3 HST'
   have HHM:=Lib.hid hmt
   have HHB:=Lib.hid hbt
   clear hee hmt hbt hbr
   by_cases hez:ee=0
   rotate_left
   ·have HE:Hid (R=ee):=Lib.hid (by rw [HST'.out,if_neg hez])
    have hne':(ee != 0)=true:=by simpa using hez
    go_wp2_with (first|(go_at_call 66;with_reducible refine W3.out.mono ?_;rintro e w2 ⟨rfl,hb2⟩))
    go_wp2
    (repeat rw [Exit.noGoto_ret])
    go_wp2
    go_ret
    exact⟨by rw [HE.out];rfl,HB.out.trans ((HHB.out.trans (hb2.mono (by omega))).mono (by omega))⟩
   ·subst hez
    have hST2:Hid (R=if xid≤last then 10 else if xp ∈ met then 14 else checkGo sets xid (met++[xp]) (L.drop (i+1))):=Lib.hid (by rw [HST'.out,if_pos rfl])
    by_cases hle:xid≤last
    ·have HE:Hid (R=10):=Lib.hid (by rw [hST2.out,if_pos hle])
     go_wp2_with (first|(go_at_call 66;with_reducible refine W3.out.mono ?_;rintro e w2 ⟨rfl,hb2⟩;have z0:=(hb2.cell (p:=⟨tb,0,none⟩) (by show tb<W.heap.size;omega)).trans y0))
     go_wp2
     (repeat rw [Exit.noGoto_ret])
     go_wp2
     go_ret
     exact⟨by rw [HE.out];rfl,HB.out.trans ((HHB.out.trans (hb2.mono (by omega))).mono (by omega))⟩
    ·by_cases hpm:xp ∈ met
     ·have HE:Hid (R=14):=Lib.hid (by rw [hST2.out,if_neg hle,if_pos hpm])
      have HG:(getM xp (metM met)).getD (.bool false)=.bool true:=by rw [getM_met];simp [hpm]
      go_wp2_with (first|(go_at_call 66;with_reducible refine W3.out.mono ?_;rintro e w2 ⟨rfl,hb2⟩;have z0:=(hb2.cell (p:=⟨tb,0,none⟩) (by show tb<W.heap.size;omega)).trans y0;have z4:=(hb2.cell (p:=⟨tb,4,none⟩) (by show tb<W.heap.size;omega)).trans y4;have HM2:=HHM.out.below hb2 (by omega))|(at_lookup;go_loud (refine wpList_lookM (by rfl) _ _ 105 3 4 false (by rfl) (keyE_int (by rfl)) (by rfl) (z:=.bool false) (by rfl) mb _ xp _ (by rfl) (by rfl) HM2 ((if_neg (by decide)).trans HG) ?_)))
      go_wp2
      (repeat rw [Exit.noGoto_ret])
      go_wp2
      go_ret
      exact⟨by rw [HE.out];rfl,HB.out.trans ((HHB.out.trans (hb2.mono (by omega))).mono (by omega))⟩
     ·have HE:Hid (R=checkGo sets xid (met++[xp]) (L.drop (i+1))):=Lib.hid (by rw [hST2.out,if_neg hle,if_neg hpm])
      have HG:(getM xp (metM met)).getD (.bool false)=.bool false:=by rw [getM_met];simp [hpm]
      have HPM:=Lib.hid (putM_met xp met hpm)
      go_upto_region 17 with (first|(go_at_call 66;with_reducible refine W3.out.mono ?_;rintro e w2 ⟨rfl,hb2⟩;have z0:=(hb2.cell (p:=⟨tb,0,none⟩) (by show tb<W.heap.size;omega)).trans y0;have z4:=(hb2.cell (p:=⟨tb,4,none⟩) (by show tb<W.heap.size;omega)).trans y4;have HM2:=HHM.out.below hb2 (by omega))|(at_lookup;go_loud (refine wpList_lookM (by rfl) _ _ 105 3 4 false (by rfl) (keyE_int (by rfl)) (by rfl) (z:=.bool false) (by rfl) mb _ xp _ (by rfl) (by rfl) HM2 ((if_neg (by decide)).trans HG) ?_)))
      have hbw:=HHB.out.trans (hb2.mono (by omega))
      have hS0:w2.drew.cell? ⟨tb,4,none⟩=some (.int .i64 xp)∧w2.drew.cell? ⟨tb,0,none⟩=some (.int .i64 xid):=⟨z4,z0⟩
      refine wp_region_held_drew (S:=fun W'=>W'.cell? ⟨tb,4,none⟩=some (.int .i64 xp)∧W'.cell? ⟨tb,0,none⟩=some (.int .i64 xid)) (by kernel_rfl) hS0 (fun _=>?_)
      refine wpAnyH_take (i:=0) (v:=?_) rfl (by kernel_rfl) (by kernel_rfl) (by kernel_rfl) (fun _ _ _ h=>h) (Or.inl ⟨by rfl,fun W' hS=>?_⟩) hS0 ?_
      rotate_left
      ·obtain⟨s0,s1⟩:=hS
       go_simp
       try with_reducible rfl
      refine wpAnyH_take (i:=1) (v:=?_) rfl (by kernel_rfl) (by kernel_rfl) (by kernel_rfl) (fun _ _ _ h=>h) (Or.inl ⟨by rfl,fun W' hS=>?_⟩) hS0 ?_
      rotate_left
      ·obtain⟨s0,s1⟩:=hS
       go_simp
       try with_reducible rfl
      refine wpAnyH_take (i:=2) (v:=?_) rfl (by kernel_rfl) (by kernel_rfl) (by kernel_rfl) (fun _ _ _ h=>h) (Or.inl ⟨by rfl,fun W' hS=>?_⟩) hS0 ?_
      rotate_left
      ·obtain⟨s0,s1⟩:=hS
       go_simp
       try with_reducible rfl
      refine wpAnyH_take (i:=3) (v:=?_) rfl (by kernel_rfl) (by kernel_rfl) (by kernel_rfl) (fun _ _ _ h=>h) (Or.inl ⟨by rfl,fun W' hS=>?_⟩) hS0 ?_
      rotate_left
      ·obtain⟨s0,s1⟩:=hS
       go_simp
       try with_reducible rfl
      refine wpAnyH_take (i:=4) (v:=?_) rfl (by kernel_rfl) (by kernel_rfl) (by kernel_rfl) (fun _ _ _ h=>h) (Or.inl ⟨by rfl,fun W' hS=>?_⟩) hS0 ?_
      rotate_left
      ·obtain⟨s0,s1⟩:=hS
       go_simp
       try with_reducible rfl
      refine wpAnyH_ready (rs:=[5]) (by kernel_rfl) (by simp) ?_
      refine AllReadyH.cons rfl (fun K9 hK9=>?_) AllReadyH.nil
      refine step_putM (by rfl) _ _ _ 105 3 4 (by rfl) (keyE_int (by rfl)) (by rfl) mb (metM met) xp (.bool true) (by rfl) (by rfl) (by rfl) (HM2.drew) ?_
      intro w3 hm3 hg3
      rw [HPM.out] at hm3
      have hsz2:W.heap.size≤w2.drew.heap.size:=hb2.size
      have hS3:w3.cell? ⟨tb,4,none⟩=some (.int .i64 xp)∧w3.cell? ⟨tb,0,none⟩=some (.int .i64 xid):=
       ⟨(hg3.cell_far ⟨tb,4,none⟩ (by show tb<w2.drew.heap.size;omega) (fun e=>by injection e with e;exact absurd (show tb=mb from e) (by omega))).trans hS0.1,(hg3.cell_far ⟨tb,0,none⟩ (by show tb<w2.drew.heap.size;omega) (fun e=>by injection e with e;exact absurd (show tb=mb from e) (by omega))).trans hS0.2⟩
      have hB3:Below mb w0 w3:=hbw.drew.trans ((Below.refl mb w2.drew).grown hg3 (by omega) (fun k e=>by injection e with e;omega))
      refine hK9.out _ _ hS3 (fun _=>?_)
      clear hK9 K9
      refine wpAnyH_take (i:=6) (v:=?_) rfl (by kernel_rfl) (by kernel_rfl) (by kernel_rfl) (fun _ _ _ h=>h) (Or.inl ⟨by rfl,fun W' hS=>?_⟩) hS3 ?_
      rotate_left
      ·obtain⟨s0,s1⟩:=hS
       go_simp
       try with_reducible rfl
      refine wpAnyH_done (by kernel_rfl) ?_ _
      go_wp2
      go_roundw
      case rel=>exact⟨i+1,xid,met++[xp],rfl,rfl,by simp,hin,HE,hm3,hB3⟩
      case measure=>simp [RowKit.intOf]<;>omega
  ·obtain rfl:i=n:=by omega
   have HE:Hid (R=0):=Lib.hid (by rw [hS.out,HN.out,List.drop_eq_nil_of_le (Nat.le_refl _)];rfl)
   go_wp2
   (repeat rw [Exit.noGoto_ret])
   go_wp2
   go_ret
   exact⟨by rw [HE.out];rfl,HB.out.trans (hbr.mono (by omega))⟩
end Go.Proofs.YtgnaaokhfpfglaaDoor
end
section
namespace Go.Proofs.YtgnaaokhfpfglaaDoor
open Go.RowKit Go.Shelf Go.Lib Go.Proofs.YtgnaaokhfpfglaaDoorW.PrintWords
theorem heap_alloc_size (w:World) (o:Obj):(w.alloc o).heap.size=w.heap.size+1:=by simp
end Go.Proofs.YtgnaaokhfpfglaaDoor
end
section
namespace Go.Proofs.YtgnaaokhfpfglaaDoor
open Go.RowKit Go.Shelf Go.Lib
theorem own_notcell {W W':World} {base:Nat} {e:TypeId} {size n:Nat} {v:Value} {xs:List Value} {row:Option Nat} (h:W.ownsRow base e size v n xs) (hg:W.grownBy W' row)
  (hr:∀ r,row=some r→∃ o:Obj,W.heap[r]? = some o∧o.isCells=false):W'.ownsRow base e size v n xs:=by
 refine h.kept hg ?_
 rcases h.2 with ⟨rfl,_⟩|⟨g,cap,cur,rfl,_,hgb,_⟩
 ·exact .inl rfl
 ·refine .inr fun e'=>?_
  obtain⟨o,ho,hc⟩:=hr g (by simpa [Value.ownBlock] using e'.symm)
  rw [hgb] at ho;cases ho;cases hc
theorem ownOtherM {W W':World} {base base':Nat} {e e':TypeId} {size size' n n':Nat} {v v':Value} {xs xs':List Value} (h:W.ownsRow base e size v n xs) (h':W.ownsRow base' e' size' v' n' xs') (hee:e≠e')
  (hg:W.grownBy W' v'.ownBlock):W'.ownsRow base e size v n xs:=by
 refine h.kept hg ?_
 rcases h.2 with ⟨rfl,_⟩|⟨g,cap,cur,rfl,_,hgb,_⟩
 ·exact .inl rfl
 ·refine .inr fun e1=>?_
  rcases h'.2 with ⟨rfl,_⟩|⟨g',cap',cur',rfl,_,hgb',_⟩
  ·cases e1
  ·have:g=g':=by simpa [Value.ownBlock] using e1
   subst this
   rw [hgb] at hgb'
   cases hgb'
   exact hee rfl
structure MS (n0:Nat) (eo ei:TypeId) (G:List (List Wd)) (g:List Wd) (V:List Value) (v:Value) (hs:Nat) (vo:Value) (W:World):Prop where
 out:W.ownsRow n0 eo 1 vo (V.length+1) (V++[v])
 len:V.length=G.length
 low:n0≤hs
 high:hs≤W.heap.size
 done:∀ (j:Nat) x y,V[j]? = some x→G[j]? = some y→W.ownsRow n0 ei 3 x y.length (y.flatMap Wd.cells)∧∀ b,x.ownBlock=some b→b<hs
 cur:W.ownsRow hs ei 3 v g.length (g.flatMap Wd.cells)
section
variable {n0:Nat} {eo ei:TypeId} {G:List (List Wd)} {g:List Wd} {V:List Value} {v:Value} {hs:Nat} {vo:Value} {W W':World}
theorem MS.kept {row:Option Nat} (h:MS n0 eo ei G g V v hs vo W) (hg:W.grownBy W' row) (hr:∀ r,row=some r→∃ o:Obj,W.heap[r]? = some o∧o.isCells=false):MS n0 eo ei G g V v hs vo W' where
 out:=own_notcell h.out hg hr
 len:=h.len
 low:=h.low
 high:=Nat.le_trans h.high hg.size
 done:=fun j x y hx hy=>⟨own_notcell (h.done j x y hx hy).1 hg hr,(h.done j x y hx hy).2⟩
 cur:=own_notcell h.cur hg hr
theorem MS.alloc (h:MS n0 eo ei G g V v hs vo W) (o:Obj):MS n0 eo ei G g V v hs vo (W.alloc o):=
 h.kept (World.grownBy_alloc W o none) (fun r e=>by cases e)
theorem MS.drew (h:MS n0 eo ei G g V v hs vo W):MS n0 eo ei G g V v hs vo W.drew where
 out:=h.out
 len:=h.len
 low:=h.low
 high:=h.high
 done:=h.done
 cur:=h.cur
theorem MS.set (h:MS n0 eo ei G g V v hs vo W) {B:Nat} {t:TypeId} {u:Value} (hb:Boxed W B t u) (hto:t≠eo) (hti:t≠ei) (u':Value):MS n0 eo ei G g V v hs vo (W.setCell ⟨B,0,none⟩ u') where
 out:=h.out.kept (grownBy_setCell' W B u') (.inr (hb.not_row hto h.out).symm)
 len:=h.len
 low:=h.low
 high:=Nat.le_trans h.high (grownBy_setCell' W B u').size
 done:=fun j x y hx hy=>⟨(h.done j x y hx hy).1.kept (grownBy_setCell' W B u') (.inr (hb.not_row hti (h.done j x y hx hy).1).symm),(h.done j x y hx hy).2⟩
 cur:=h.cur.kept (grownBy_setCell' W B u') (.inr (hb.not_row hti h.cur).symm)
theorem MS.at (h:MS n0 eo ei G g V v hs vo W):∃ bo cap,vo=.slice (some ⟨bo,0,none⟩) (V.length+1) cap∧n0≤bo∧bo<W.heap.size∧W.cell? ⟨bo,V.length,none⟩=some v∧W.frozen? ⟨bo,V.length,none⟩=false:=by
 obtain⟨bo,cap,rfl,hb,hlt⟩:=h.out.form (by omega)
 refine⟨bo,cap,rfl,hb,hlt,?_,h.out.frozenAt _⟩
 rw [h.out.cellAt V.length (by omega)]
 simp
theorem MS.val (h:MS n0 eo ei G g V v hs vo W):∃ A c,v=.slice A g.length c:=by
 rcases h.cur.2 with ⟨rfl,h0⟩|⟨g',cap,cur,rfl,_⟩
 ·exact⟨_,_,by rw [h0]⟩
 ·exact⟨_,_,rfl⟩
theorem MS.add {w1:World} {v':Value} {x:Wd} {bo cap:Nat} (h:MS n0 eo ei G g V v hs (.slice (some ⟨bo,0,none⟩) (V.length+1) cap) W) (hee:eo≠ei) {tmp:Obj} (hg:(W.alloc tmp).grownBy w1 v.ownBlock)
  (ho:w1.ownsRow hs ei 3 v' (g.length+1) (g.flatMap Wd.cells++Wd.cells x)):MS n0 eo ei G (g++[x]) V v' hs (.slice (some ⟨bo,0,none⟩) (V.length+1) cap) (w1.setCell ⟨bo,V.length,none⟩ v'):=by
 have h1:=ownOtherM (h.out.alloc tmp) (h.cur.alloc tmp) hee hg
 obtain⟨h2,h3⟩:=h1.stored V.length v'
 have hlow:=h.low
 have hhigh:=h.high
 have hsz:W.heap.size≤w1.heap.size:=by have h3:=hg.size;simp at h3;omega
 have hob:(Value.slice (some ⟨bo,0,none⟩) (V.length+1) cap).ownBlock=some bo:=rfl
 refine⟨?_,h.len,h.low,by have:=h3.size;omega,fun j y z hy hz=>?_,?_⟩
 ·simpa using h2
 ·obtain⟨h4,h5⟩:=h.done j y z hy hz
  refine⟨?_,h5⟩
  have h6:w1.ownsRow n0 ei 3 y z.length (z.flatMap Wd.cells):=by
   refine (h4.alloc tmp).kept hg ?_
   cases hyb:y.ownBlock with
   |none=>exact .inl rfl
   |some b=>
    refine .inr fun e=>?_
    have:=h5 b hyb
    have:=(h.cur.lt b e.symm).1
    omega
  exact ownOtherM h6 h1 hee.symm (by rw [hob];exact h3)
 ·have h7:w1.ownsRow hs ei 3 v' (g++[x]).length ((g++[x]).flatMap Wd.cells):=by simpa [List.flatMap_append] using ho
  exact ownOtherM h7 h1 hee.symm (by rw [hob];exact h3)
end
def lnStep (acc:List (List Wd)) (x:Wd):List (List Wd):=
 match acc.getLast? with
 |none=>[[x]]
 |some g=>if g.getLast?.map Wd.q=some x.q then acc.dropLast++[g++[x]] else acc++[[x]]
def lns (l:List Wd):List (List Wd):=l.foldl lnStep []
def LS (n0:Nat) (eo ei:TypeId) (pre:List Wd) (vo:Value) (W:World):Prop:=
 (pre=[]∧vo=.slice none 0 0)∨∃ G g y V v hs,lns pre=G++[g++[y]]∧pre.getLast? = some y∧G.length+1≤pre.length∧g.length+1≤pre.length∧MS n0 eo ei G (g++[y]) V v hs vo W
theorem LS.kept {n0:Nat} {eo ei:TypeId} {pre:List Wd} {vo:Value} {W W':World} {row:Option Nat} (h:LS n0 eo ei pre vo W) (hg:W.grownBy W' row) (hr:∀ r,row=some r→∃ o:Obj,W.heap[r]? = some o∧o.isCells=false):LS n0 eo ei pre vo W':=by
 rcases h with h|⟨G,g,y,V,v,hs,h1,h2,h3,h4,h5⟩
 ·exact .inl h
 ·exact .inr ⟨G,g,y,V,v,hs,h1,h2,h3,h4,h5.kept hg hr⟩
end Go.Proofs.YtgnaaokhfpfglaaDoor
end
section
namespace Go.Proofs.YtgnaaokhfpfglaaDoor
open Go.RowKit Go.Shelf Go.Lib
def LRow (w:World) (B:Nat) (A:Option Addr) (L:List (List Wd)):Prop:=
 0<L.length→∃ b off,A=some ⟨b,off,none⟩∧b<B∧∀ i (h:i<L.length),∃ Ai ci,w.cell? ⟨b,off+i,none⟩=some (.slice Ai L[i].length ci)∧WRow w B Ai L[i]
theorem LRow.below {w w':World} {B C:Nat} {A:Option Addr} {L:List (List Wd)} (h:LRow w B A L) (hb:Below C w w') (hBC:B≤C):LRow w' B A L:=by
 intro hl
 obtain⟨b,off,e,hlt,hc⟩:=h hl
 refine⟨b,off,e,hlt,fun i hi=>?_⟩
 obtain⟨Ai,ci,h1,h2⟩:=hc i hi
 exact⟨Ai,ci,(hb.cell (p:=⟨b,_,none⟩) (by show b<C;omega)).trans h1,h2.below hb hBC⟩
theorem LRow.more {w:World} {B C:Nat} {A:Option Addr} {L:List (List Wd)} (h:LRow w B A L) (hBC:B≤C):LRow w C A L:=by
 intro hl
 obtain⟨b,off,e,hlt,hc⟩:=h hl
 refine⟨b,off,e,by omega,fun i hi=>?_⟩
 obtain⟨Ai,ci,h1,h2⟩:=hc i hi
 exact⟨Ai,ci,h1,h2.more hBC⟩
end Go.Proofs.YtgnaaokhfpfglaaDoor
end
section
namespace Go.Proofs.YtgnaaokhfpfglaaDoor
open Go.RowKit Go.Shelf Go.Lib Go.Proofs.YtgnaaokhfpfglaaDoorW.PrintWords
def kTk:Kd Tk:=Kd.iso (Kd.pair (Kd.int .i64) (Kd.pair (Kd.int .i64) (Kd.pair (Kd.int .i64) (Kd.pair (Kd.int .i64) (Kd.pair (Kd.int .i64) (Kd.pair (Kd.slice 2 (Kd.int .i64)) (Kd.slice 3 (Kd.int .i64)))))))) (fun x:Tk=>(x.id,x.c,x.d,x.t,x.p,x.ch,x.us))
theorem kTk_open {w:World} {x:Tk} {cs:List Value} (h:kTk.K w x cs):∃ A5 c5 A6 c6,cs=[.int .i64 x.id,.int .i64 x.c,.int .i64 x.d,.int .i64 x.t,.int .i64 x.p,.slice A5 x.ch.length c5,.slice A6 x.us.length c6]∧x.ch.length≤c5∧(Kd.int .i64).C w A5 x.ch.length x.ch∧x.us.length≤c6∧(Kd.int .i64).C w A6 x.us.length x.us:=by
 obtain⟨_,_,rfl,rfl,⟨_,_,rfl,rfl,⟨_,_,rfl,rfl,⟨_,_,rfl,rfl,⟨_,_,rfl,rfl,⟨_,_,rfl,⟨A5,c5,rfl,l5,g5⟩,⟨A6,c6,rfl,l6,g6⟩⟩⟩⟩⟩⟩⟩:=h
 exact⟨A5,c5,A6,c6,rfl,l5,g5,l6,g6⟩
theorem tkrow_of_C {w:World} {A:Option Addr} {l:List Tk} (h:Kd.C kTk w A l.length l):TkRow w w.heap.size A l:=by
 intro hl
 obtain⟨_,_,h⟩:=h
 obtain⟨ad,rfl,hc⟩:=h hl
 have hat:∀ j (hj:j<l.length),∃ A5 c5 A6 c6,(∀ i u,[Value.int .i64 l[j].id,.int .i64 l[j].c,.int .i64 l[j].d,.int .i64 l[j].t,.int .i64 l[j].p,.slice A5 l[j].ch.length c5,.slice A6 l[j].us.length c6][i]? = some u→w.cell? (ad.add (j * 7+i))=some u)∧NRow w w.heap.size A5 l[j].ch∧NRow w w.heap.size A6 l[j].us:=by
  intro j hj
  obtain⟨c,_,hk,hcell⟩:=hc j _ (List.getElem?_eq_getElem hj)
  obtain⟨A5,c5,A6,c6,rfl,_,g5,_,g6⟩:=kTk_open hk
  exact⟨A5,c5,A6,c6,hcell,nrow_of_C g5,nrow_of_C g6⟩
 obtain⟨_,_,_,_,h00,_⟩:=hat 0 hl
 have h00:=h00 0 _ rfl
 have hsp:=World.cell?_spot h00
 have hlt:=bLt w _ h00
 obtain⟨b,off,spot⟩:=ad
 have hs:spot=none:=by simpa [Addr.add] using hsp
 subst hs
 have hadd:∀ j,(⟨b,off,none⟩:Addr).add j=⟨b,off+j,none⟩:=fun j=>by unfold Addr.add;split<;>simp_all
 refine⟨b,off,rfl,by simpa [hadd] using hlt,fun i hi=>?_⟩
 obtain⟨A5,c5,A6,c6,g,g5,g6⟩:=hat i hi
 have g0:=g 0 _ rfl
 have g1:=g 1 _ rfl
 have g2:=g 2 _ rfl
 have g3:=g 3 _ rfl
 have g4:=g 4 _ rfl
 have q5:=g 5 _ rfl
 have q6:=g 6 _ rfl
 rw [hadd] at g0 g1 g2 g3 g4 q5 q6
 exact⟨g0,by rw [Nat.add_assoc];exact g1,by rw [Nat.add_assoc];exact g2,by rw [Nat.add_assoc];exact g3,by rw [Nat.add_assoc];exact g4,A5,c5,A6,c6,by rw [Nat.add_assoc];exact q5,by rw [Nat.add_assoc];exact q6,g5,g6⟩
theorem three_cells {W:World} {r:Nat} {t:TypeId} {a0 a1 a2:Value} (hb:W.heap[r]? = some (.cells #[a0,a1,a2] t (0,0))):W.cell? ⟨r,0,none⟩=some a0∧W.cell? ⟨r,1,none⟩=some a1∧W.cell? ⟨r,2,none⟩=some a2∧(∀ i,W.frozen? ⟨r,i,none⟩=false):=by
 refine⟨?_,?_,?_,fun i=>by simp [World.frozen?,hb]⟩<;>simp [World.cell?,hb]
end Go.Proofs.YtgnaaokhfpfglaaDoor
end
section
namespace Go.Proofs.YtgnaaokhfpfglaaDoor
open Go.RowKit
theorem countP_lt {p q:Nat→Bool}:∀ {l:List Nat} {i:Nat},i ∈ l→p i=true→q i=false→(∀ j,q j=true→p j=true)→l.countP q<l.countP p:=by
 intro l
 induction l with
 |nil=>intro i h;cases h
 |cons a l ih=>
  intro i hi hp hq hqp
  rw [List.countP_cons,List.countP_cons]
  have hle:∀ m:List Nat,m.countP q≤m.countP p:=fun m=>List.countP_mono_left (fun x _ h=>hqp x h)
  rcases List.mem_cons.1 hi with rfl|hi
  ·have:=hle l
   simp [hp,hq]
   omega
  ·have:=ih hi hp hq hqp
   by_cases ha:q a=true
   ·simp [ha,hqp a ha];omega
   ·simp [ha];omega
def unl (n:Nat) (listed:Array Bool):Nat:=(List.range n).countP fun j=>!listed.getD j true
theorem unl_set {n i:Nat} {listed:Array Bool} (hi:i<n) (h:listed.getD i true=false):unl n (listed.setIfInBounds i true)<unl n listed:=by
 have hsz:i<listed.size:=by
  rcases Nat.lt_or_ge i listed.size with h1|h1
  ·exact h1
  ·rw [gDe,Array.getElem?_eq_none h1] at h;cases h
 unfold unl
 refine countP_lt (i:=i) (List.mem_range.2 hi) (by simp [h]) ?_ ?_
 ·simp [gDe,hsz]
 ·intro j hj
  by_cases e:i=j
  ·subst e
   simp [gDe,hsz] at hj
  ·simpa [gDe,Array.getElem?_setIfInBounds,e] using hj
section
variable {P:Program} {md:Region.Mode} {ops:Array Oper} {Q:Exit→Act→World→Prop}
theorem ready_mem {listed:Array Bool} {i:Nat} (h:i ∈ Region.ready md ops listed):∃ o,ops[i]? = some o∧listed.getD i true=false∧∀ e ∈ o.after,Region.binds md e=true→listed.getD e.on false=true:=by
 unfold Region.ready at h
 rw [List.mem_filter,List.mem_range] at h
 obtain⟨hi,h⟩:=h
 rw [Array.getElem?_eq_getElem hi] at h
 simp only [Option.map_some,Option.getD_some,Bool.and_eq_true] at h
 refine⟨ops[i],Array.getElem?_eq_getElem hi,by simpa using h.1,fun e he hb=>?_⟩
 have:=(Array.all_eq_true_iff_forall_mem.1 h.2) e he
 simpa [hb] using this
theorem none_ready (hac:∀ (i:Nat) o,ops[i]? = some o→∀ e ∈ o.after,e.on<i) {listed:Array Bool} (hs:listed.size=ops.size) (h:Region.ready md ops listed=[]):∀ i,i<ops.size→listed.getD i false=true:=by
 intro i
 induction i using Nat.strongRecOn with
 |ind i ih=>
  intro hi
  by_cases hl:listed.getD i false=true
  ·exact hl
  ·exfalso
   have hm:i ∈ Region.ready md ops listed:=by
    unfold Region.ready
    rw [List.mem_filter,List.mem_range]
    refine⟨hi,?_⟩
    have hli:i<listed.size:=by omega
    have hf:listed[i]=false:=by
     rw [gDe,Array.getElem?_eq_getElem hli] at hl
     simpa using hl
    rw [Array.getElem?_eq_getElem hi]
    simp only [Option.map_some,Option.getD_some,Bool.and_eq_true]
    refine⟨by rw [gDe,Array.getElem?_eq_getElem hli];simp [hf],?_⟩
    rw [Array.all_eq_true_iff_forall_mem]
    intro e he
    have h1:=hac i ops[i] (Array.getElem?_eq_getElem hi) e he
    rw [ih e.on h1 (by omega)]
    simp
   rw [h] at hm
   cases hm
theorem any_inv (hac:∀ (i:Nat) o,ops[i]? = some o→∀ e ∈ o.after,e.on<i) (I:Array Bool→Act→World→Prop)
  (hstep:∀ i o listed a w,ops[i]? = some o→listed.size=ops.size→listed.getD i true=false→(∀ e ∈ o.after,Region.binds md e=true→listed.getD e.on false=true)→I listed a w→wpOp P ops Q i (I (listed.setIfInBounds i true)) a w)
  (hend:∀ listed a w,(∀ i,i<ops.size→listed.getD i false=true)→I listed a w→Q .normal a w) :
  ∀ (fuel:Nat) (listed:Array Bool) (a:Act) (w:World),listed.size=ops.size→unl ops.size listed≤fuel→I listed a w→wpAny P md ops Q fuel listed a w:=by
 intro fuel
 induction fuel with
 |zero=>
  intro listed a w hs hf hI
  have hr:Region.ready md ops listed=[]:=by
   cases hr:Region.ready md ops listed with
   |nil=>rfl
   |cons i r=>
    exfalso
    obtain⟨o,ho,hl,_⟩:=ready_mem (i:=i) (md:=md) (ops:=ops) (listed:=listed) (by rw [hr];exact List.mem_cons_self)
    have:=unl_set (n:=ops.size) (Array.getElem?_eq_some_iff.1 ho).1 hl
    omega
  exact⟨hr,hend listed a w (none_ready hac hs hr) hI⟩
 |succ fuel ih=>
  intro listed a w hs hf hI
  refine⟨fun hr=>hend listed a w (none_ready hac hs hr) hI,fun i hi=>?_⟩
  obtain⟨o,ho,hl,hd⟩:=ready_mem hi
  refine wpOp_mono (fun a' w' h'=>?_) (hstep i o listed a w ho hs hl hd hI)
  have:=unl_set (n:=ops.size) (Array.getElem?_eq_some_iff.1 ho).1 hl
  exact ih _ a' w' (by simp [hs]) (by omega) h'
end
def tidyB (N:Nat) (ops:Array Oper):Bool:=
 (List.range ops.size).all fun i=>match ops[i]? with
  |none=>true
  |some o=>o.guard.isNone && o.after.all (fun e=>decide (e.on<i)) && (match o.dst with
   |none=>true
   |some d=>decide (d<N) && (List.range i).all fun j=>match ops[j]? with
    |none=>true
    |some oj=>oj.dst != some d)
theorem tidy_at {N:Nat} {ops:Array Oper} (h:tidyB N ops=true) {i:Nat} {o:Oper} (ho:ops[i]? = some o) :
  o.guard=none∧(∀ e ∈ o.after,e.on<i)∧∀ d,o.dst=some d→d<N∧∀ (j:Nat) oj,j<i→ops[j]? = some oj→oj.dst≠some d:=by
 have hi:=(Array.getElem?_eq_some_iff.1 ho).1
 have h1:=List.all_eq_true.1 h i (List.mem_range.2 hi)
 rw [ho] at h1
 simp only [Bool.and_eq_true] at h1
 obtain⟨⟨h2,h3⟩,h4⟩:=h1
 refine⟨by simpa using h2,fun e he=>by simpa using (Array.all_eq_true_iff_forall_mem.1 h3) e he,fun d hd=>?_⟩
 rw [hd] at h4
 simp only [Bool.and_eq_true] at h4
 refine⟨by simpa using h4.1,fun j oj hj hoj e=>?_⟩
 have h5:=List.all_eq_true.1 h4.2 j (List.mem_range.2 hj)
 rw [hoj] at h5
 simp [e] at h5
theorem tidy_one {N:Nat} {ops:Array Oper} (h:tidyB N ops=true) {i j d:Nat} {o oj:Oper} (ho:ops[i]? = some o) (hoj:ops[j]? = some oj) (hd:o.dst=some d) (hdj:oj.dst=some d):i=j:=by
 rcases Nat.lt_trichotomy i j with h1|h1|h1
 ·exact absurd hd (((tidy_at h hoj).2.2 d hdj).2 i o h1 ho)
 ·exact h1
 ·exact absurd hdj (((tidy_at h ho).2.2 d hd).2 j oj h1 hoj)
theorem qau {ops:Array Oper} {d:Nat} (h:(ops.all fun o=>o.dst != some d)=true):∀ (j:Nat) oj,ops[j]? = some oj→oj.dst≠some d:=by
 intro j oj hj e
 obtain⟨hi,rfl⟩:=Array.getElem?_eq_some_iff.1 hj
 have:=(Array.all_eq_true.1 h) j hi
 rw [e] at this
 simp at this
theorem wp_region_facts {P:Program} {ops:Array Oper} {Q:Exit→Act→World→Prop} {id:Nat} {a0:Act} {w0:World} (hm:P.follows .mixedOrders=true) (ht:tidyB a0.tmps.size ops=true)
  (F:Nat→Value→World→Prop) (Kp:World→World→Prop) (hF:∀ i v w w',F i v w→Kp w w'→F i v w') (G:World→Prop) (hG:G w0.drew)
  (hstep:∀ (i:Nat) (o:Oper) (a:Act) (w:World),ops[i]? = some o→a.tmps.size=a0.tmps.size→(∀ d,(∀ (j:Nat) oj,ops[j]? = some oj→oj.dst≠some d)→a.tmps[d]? = a0.tmps[d]?) →
   (∀ e ∈ o.after,Region.binds .any e=true→∀ oe d,ops[e.on]? = some oe→oe.dst=some d→∃ v,a.tmps[d]? = some v∧F e.on v w)→G w →
   o.wp P a w (fun a' w'=>∃ v,a' = a.put o.dst v∧F i v w'∧Kp w w'∧G w') Q)
  (hend:∀ (a:Act) (w:World),a.defers=a0.defers→a.tmps.size=a0.tmps.size→(∀ d,(∀ (j:Nat) oj,ops[j]? = some oj→oj.dst≠some d)→a.tmps[d]? = a0.tmps[d]?) →
   (∀ (i:Nat) o d,ops[i]? = some o→o.dst=some d→∃ v,a.tmps[d]? = some v∧F i v w)→G w→Q .normal a w) :
  (Code.region id ops true).wp P Q a0 w0:=by
 refine wp_region_any hm ?_
 refine any_inv (fun i o ho=>(tidy_at ht ho).2.1) (fun listed a w=>a.defers=a0.defers∧a.tmps.size=a0.tmps.size∧(∀ d,(∀ (j:Nat) oj,ops[j]? = some oj→oj.dst≠some d)→a.tmps[d]? = a0.tmps[d]?) ∧
  (∀ (i:Nat) o d,ops[i]? = some o→o.dst=some d→listed.getD i false=true→∃ v,a.tmps[d]? = some v∧F i v w)∧G w) ?_ ?_ _ _ _ _ (by simp) ?_ ⟨rfl,rfl,fun _ _=>rfl,?_,hG⟩
 ·rintro i o listed a w ho hsz hl hd ⟨i1,i2,i3,i4,i5⟩
  obtain⟨g1,g2,g3⟩:=tidy_at ht ho
  have hil:i<listed.size:=by rw [hsz];exact (Array.getElem?_eq_some_iff.1 ho).1
  have hw:Region.wanted o (yielded ops a.tmps)=true:=by simp [Region.wanted,g1]
  unfold wpOp
  rw [ho]
  simp only [hw,if_true]
  refine .inl (Oper.wp_mono ?_ (hstep i o a w ho i2 i3 (fun e he hb oe d hoe hde=>i4 e.on oe d hoe hde (hd e he hb)) i5))
  rintro a' w' ⟨v,rfl,k1,k2,k3⟩
  cases hdst:o.dst with
  |none=>
   refine⟨i1,i2,i3,fun j oj d hoj hdj hlj=>?_,k3⟩
   have hji:j≠i:=fun e=>by subst e;rw [ho] at hoj;cases hoj;rw [hdst] at hdj;cases hdj
   obtain⟨u,u1,u2⟩:=i4 j oj d hoj hdj (by simpa [gDe,Array.getElem?_setIfInBounds,Ne.symm hji] using hlj)
   exact⟨u,u1,hF _ _ _ _ u2 k2⟩
  |some d0=>
   have hd0:=(g3 d0 hdst).1
   have hput:(a.put (some d0) v).tmps=a.tmps.setIfInBounds d0 v:=rfl
   refine⟨i1,by rw [hput];simp [i2],fun d hn=>?_,fun j oj d hoj hdj hlj=>?_,k3⟩
   ·rw [hput,Array.getElem?_setIfInBounds]
    have:d0≠d:=fun e=>hn i o ho (by rw [hdst,e])
    rw [if_neg this]
    exact i3 d hn
   ·rw [hput,Array.getElem?_setIfInBounds]
    by_cases hji:j=i
    ·subst hji
     rw [ho] at hoj
     cases hoj
     rw [hdst] at hdj
     cases hdj
     rw [if_pos rfl,if_pos (by rw [i2];exact hd0)]
     exact⟨v,rfl,k1⟩
    ·have hdd:d0≠d:=fun e=>hji (tidy_one ht hoj ho hdj (by rw [hdst,e]))
     rw [if_neg hdd]
     obtain⟨u,u1,u2⟩:=i4 j oj d hoj hdj (by simpa [gDe,Array.getElem?_setIfInBounds,Ne.symm hji] using hlj)
     exact⟨u,u1,hF _ _ _ _ u2 k2⟩
 ·rintro listed a w hall ⟨i1,i2,i3,i4,i5⟩
  exact hend a w i1 i2 i3 (fun i o d ho hd=>i4 i o d ho hd (hall i (Array.getElem?_eq_some_iff.1 ho).1)) i5
 ·exact Nat.le_trans List.countP_le_length (by simp)
 ·intro i o d _ _ h
  exfalso
  rw [gDe,Array.getElem?_replicate] at h
  split at h<;>simp at h
end Go.Proofs.YtgnaaokhfpfglaaDoor
end
section
namespace Go.Proofs.YtgnaaokhfpfglaaDoor
open Go.RowKit Go.Shelf Go.Lib Go.Proofs.YtgnaaokhfpfglaaDoorW.PrintWords
def digB (n:Int):ByteArray:=⟨(itoa n).toArray⟩
def lineN (x:Tk):ByteArray:=(((((((((⟨#[116,97,115,107,32]⟩:ByteArray)++digB x.id)++⟨#[32,99,61]⟩)++digB x.c)++⟨#[32,100,61]⟩)++digB x.d)++⟨#[32,116,61]⟩)++digB x.t)++⟨#[32,112,61]⟩)++digB x.p
def lineC (x:Tk):ByteArray:=if 0<x.ch.length then (lineN x++⟨#[32,99,104,117,110,107,115,61]⟩)++joinP x.ch else lineN x
def lineP (x:Tk):ByteArray:=if 0<x.us.length then (lineC x++⟨#[32,117,115,101,61]⟩)++joinP x.us else lineC x
theorem qaG (n:Int) (h0 : -9223372036854775808≤n) (h1:n≤9223372036854775807):(digB n).size≤21:=by
 rw [Lib.size_eq]
 exact itoa_len n h0 h1
theorem lens_le (l:List (List UInt8)) (n:Nat) (h:∀ y ∈ l,y.length≤n):lens l≤l.length * n:=by
 induction l with
 |nil=>simp [lens]
 |cons x r ih=>
  have hx:=h x List.mem_cons_self
  have hr:=ih (fun y hy=>h y (List.mem_cons_of_mem _ hy))
  have e:lens (x::r)=x.length+lens r:=by simp [lens]
  rw [e,List.length_cons,Nat.succ_mul]
  omega
theorem join_size (l:List (List UInt8)) (n:Nat) (h:∀ y ∈ l,y.length≤n):(Lib.join l [44]).length≤l.length * (n+1):=by
 cases l with
 |nil=>simp [join_nil]
 |cons x r=>
  have:=lens_le (x::r) n h
  rw [join_length,Nat.mul_succ]
  simp only [List.length_cons,List.length_nil] at this ⊢
  omega
theorem joinP_size {l:List Int} (hl:∀ y ∈ l,-9223372036854775808≤y∧y≤9223372036854775807):(joinP l).size≤l.length * 22:=by
 unfold joinP
 rw [Lib.size_eq]
 have:=join_size (l.map itoa) 21 (fun y hy=>by
  obtain⟨z,hz,rfl⟩:=List.mem_map.1 hy
  exact itoa_len z (hl z hz).1 (hl z hz).2)
 simpa using this
theorem qba {W:World} {r:Nat} {t:TypeId} {a0 a1 a2 a3 a4 a5 a6:Value} (hb:W.heap[r]? = some (.cells #[a0,a1,a2,a3,a4,a5,a6] t (0,0))):W.cell? ⟨r,0,none⟩=some a0∧W.cell? ⟨r,1,none⟩=some a1∧W.cell? ⟨r,2,none⟩=some a2∧W.cell? ⟨r,3,none⟩=some a3∧W.cell? ⟨r,4,none⟩=some a4∧W.cell? ⟨r,5,none⟩=some a5∧W.cell? ⟨r,6,none⟩=some a6:=by
 refine⟨?_,?_,?_,?_,?_,?_,?_⟩<;>simp [World.cell?,hb]
theorem held_below {w W w':World} {tb:Nat} {v0 v1 v2 v3 v4 v5 v6:Value} (h:W.cell? ⟨tb,0,none⟩=some v0∧W.cell? ⟨tb,1,none⟩=some v1∧W.cell? ⟨tb,2,none⟩=some v2∧W.cell? ⟨tb,3,none⟩=some v3∧W.cell? ⟨tb,4,none⟩=some v4∧W.cell? ⟨tb,5,none⟩=some v5∧W.cell? ⟨tb,6,none⟩=some v6∧Below tb w W) (hb:Below W.heap.size W w') :
  w'.cell? ⟨tb,0,none⟩=some v0∧w'.cell? ⟨tb,1,none⟩=some v1∧w'.cell? ⟨tb,2,none⟩=some v2∧w'.cell? ⟨tb,3,none⟩=some v3∧w'.cell? ⟨tb,4,none⟩=some v4∧w'.cell? ⟨tb,5,none⟩=some v5∧w'.cell? ⟨tb,6,none⟩=some v6∧Below tb w w':=by
 obtain⟨h0,h1,h2,h3,h4,h5,h6,h7⟩:=h
 have hl:=cell_lt h0
 have m:∀ i v,W.cell? ⟨tb,i,none⟩=some v→w'.cell? ⟨tb,i,none⟩=some v:=fun i v h=>(hb.cell (p:=⟨tb,i,none⟩) hl).trans h
 exact⟨m _ _ h0,m _ _ h1,m _ _ h2,m _ _ h3,m _ _ h4,m _ _ h5,m _ _ h6,h7.trans (hb.mono (Nat.le_of_lt hl))⟩
theorem arr_range (xs:Array Value) (n:Nat) (h:xs.size=n):xs=((List.range n).map (fun k=>xs.getD k undef)).toArray:=by
 refine Array.ext (by simp [h]) (fun i h1 h2=>?_)
 simp [gDe,h1]
theorem rightE_small {x:Tk} {sets:Int} (hs:sets≤256) (h:rightE x.id x.c x.d x.t x.p x.ch x.us sets=0):(1≤x.id∧x.id≤99)∧(1≤x.p∧x.p≤99)∧(1≤x.c∧x.c≤x.d∧x.d≤x.t∧x.t≤1073741824)∧x.ch.length≤64∧(∀ y ∈ x.ch,1≤y∧y≤1073741824)∧x.us.length≤64∧(∀ y ∈ x.us,0≤y∧y<256):=by
 unfold rightE at h
 split at h
 ·rename_i h1
  split at h
  ·rename_i h2
   split at h
   ·rename_i h3
    split at h
    ·rename_i h4
     unfold inB at h1 h2
     simp only [decide_eq_true_eq] at h1 h2
     have hch:∀ (l:List Int) (left z:Int),chunkL left l=some z→0≤left→(∀ y ∈ l,1≤y∧y≤left):=by
      intro l
      induction l with
      |nil=>intro _ _ _ _ y hy;cases hy
      |cons a r ih=>
       intro left z hz h0 y hy
       rw [chunkL] at hz
       split at hz
       ·rename_i ha
        rcases List.mem_cons.1 hy with rfl|hy
        ·exact ha
        ·have:=ih (left - a) z hz (by omega) y hy
         omega
       ·cases hz
     unfold chunksB at h3
     cases hz:chunkL x.c x.ch with
     |none=>rw [hz] at h3;cases h3
     |some z=>
      rw [hz] at h3
      have h3':(decide (x.ch.length=0) || (decide (x.ch.length≤64) && decide (z=0)))=true:=h3
      simp at h3'
      have hc:=hch x.ch x.c z hz (by omega)
      refine⟨h1.1,h1.2,⟨h2.1.1,h2.1.2,h2.2.1.2,h2.2.2⟩,?_,fun y hy=>⟨(hc y hy).1,by have:=(hc y hy).2;omega⟩,h4.1,fun y hy=>?_⟩
      ·rcases h3' with h|h
       ·rw [h];simp
       ·omega
      ·have:=List.any_eq_false.1 h4.2 y hy
       unfold farB at this
       simp at this
       omega
    ·omega
   ·omega
  ·omega
 ·omega
noncomputable def lineT (x:Tk):ByteArray:=if rightE x.id x.c x.d x.t x.p x.ch x.us 256=0 then lineP x else ⟨#[]⟩
def headT (sets rel:Int):ByteArray:=((((⟨#[99,97,99,104,101,32]⟩:ByteArray)++digB sets)++⟨#[32]⟩)++digB rel)++⟨#[10]⟩
noncomputable def goT:ByteArray→List Tk→ByteArray
 |h,[]=>h
 |h,x::r=>goT ((h++lineT x)++⟨#[10]⟩) r
noncomputable def printT (sets rel:Int) (L:List Tk):ByteArray:=goT (headT sets rel) L
theorem goT_append (L M:List Tk):∀ h,goT h (L++M)=goT (goT h L) M:=by
 induction L with
 |nil=>intro h;rfl
 |cons x r ih=>intro h;exact ih _
theorem goT_succ {L:List Tk} {i:Nat} (hi:i<L.length) (h:ByteArray):goT h (L.take (i+1))=(goT h (L.take i)++lineT L[i])++⟨#[10]⟩:=by
 rw [List.take_add_one,List.getElem?_eq_getElem hi,goT_append]
 rfl
theorem lineT_size (x:Tk):(lineT x).size≤3100:=by
 unfold lineT
 split
 ·rename_i h
  obtain⟨h1,h2,h3,h4,h5,h6,h7⟩:=rightE_small (sets:=256) (by decide) h
  have d0:=qaG x.id (by omega) (by omega)
  have d1:=qaG x.c (by omega) (by omega)
  have d2:=qaG x.d (by omega) (by omega)
  have d3:=qaG x.t (by omega) (by omega)
  have d4:=qaG x.p (by omega) (by omega)
  have j5:=joinP_size (l:=x.ch) (fun y hy=>by have:=h5 y hy;omega)
  have j6:=joinP_size (l:=x.us) (fun y hy=>by have:=h7 y hy;omega)
  have z0:(⟨#[116,97,115,107,32]⟩:ByteArray).size=5:=rfl
  have z1:(⟨#[32,99,61]⟩:ByteArray).size=3:=rfl
  have z2:(⟨#[32,100,61]⟩:ByteArray).size=3:=rfl
  have z3:(⟨#[32,116,61]⟩:ByteArray).size=3:=rfl
  have z4:(⟨#[32,112,61]⟩:ByteArray).size=3:=rfl
  have z5:(⟨#[32,99,104,117,110,107,115,61]⟩:ByteArray).size=8:=rfl
  have z6:(⟨#[32,117,115,101,61]⟩:ByteArray).size=5:=rfl
  have hN:(lineN x).size≤122:=by unfold lineN;simp only [ByteArray.size_append];omega
  have hC:(lineC x).size≤1600:=by
   unfold lineC
   split
   ·simp only [ByteArray.size_append];omega
   ·omega
  unfold lineP
  split
  ·simp only [ByteArray.size_append];omega
  ·omega
 ·exact Nat.zero_le _
theorem goT_size (L:List Tk):∀ h,(goT h L).size≤h.size+L.length * 3101:=by
 induction L with
 |nil=>intro h;exact Nat.le_add_right _ _
 |cons x r ih=>
  intro h
  have h1:=ih ((h++lineT x)++⟨#[10]⟩)
  have h2:=lineT_size x
  have z:(⟨#[10]⟩:ByteArray).size=1:=rfl
  simp only [ByteArray.size_append,List.length_cons,goT] at h1 ⊢
  rw [Nat.succ_mul]
  omega
theorem headT_size (sets rel:Int) (h0:0≤sets∧sets≤256) (h1:0≤rel∧rel≤1000):(headT sets rel).size≤50:=by
 have d0:=qaG sets (by omega) (by omega)
 have d1:=qaG rel (by omega) (by omega)
 have z0:(⟨#[99,97,99,104,101,32]⟩:ByteArray).size=6:=rfl
 have z1:(⟨#[32]⟩:ByteArray).size=1:=rfl
 have z2:(⟨#[10]⟩:ByteArray).size=1:=rfl
 unfold headT
 simp only [ByteArray.size_append]
 omega
theorem tk_at {w:World} {A:Option Addr} {l:List Tk} (h:Kd.C kTk w A l.length l) (hl:0<l.length):∃ b off,A=some ⟨b,off,none⟩∧b<w.heap.size∧∀ j (hj:j<l.length),∃ A5 c5 A6 c6,
  w.cell? ⟨b,off+j * 7,none⟩=some (.int .i64 l[j].id)∧w.cell? ⟨b,off+j * 7+1,none⟩=some (.int .i64 l[j].c)∧w.cell? ⟨b,off+j * 7+2,none⟩=some (.int .i64 l[j].d)∧w.cell? ⟨b,off+j * 7+3,none⟩=some (.int .i64 l[j].t)∧w.cell? ⟨b,off+j * 7+4,none⟩=some (.int .i64 l[j].p) ∧
   w.cell? ⟨b,off+j * 7+5,none⟩=some (.slice A5 l[j].ch.length c5)∧w.cell? ⟨b,off+j * 7+6,none⟩=some (.slice A6 l[j].us.length c6)∧Kd.C (Kd.int .i64) w A5 l[j].ch.length l[j].ch∧l[j].ch.length≤c5∧Kd.C (Kd.int .i64) w A6 l[j].us.length l[j].us∧l[j].us.length≤c6:=by
 obtain⟨_,_,h⟩:=h
 obtain⟨ad,rfl,hc⟩:=h hl
 have hat:∀ j (hj:j<l.length),∃ A5 c5 A6 c6,(∀ i u,[Value.int .i64 l[j].id,.int .i64 l[j].c,.int .i64 l[j].d,.int .i64 l[j].t,.int .i64 l[j].p,.slice A5 l[j].ch.length c5,.slice A6 l[j].us.length c6][i]? = some u→w.cell? (ad.add (j * 7+i))=some u)∧l[j].ch.length≤c5∧Kd.C (Kd.int .i64) w A5 l[j].ch.length l[j].ch∧l[j].us.length≤c6∧Kd.C (Kd.int .i64) w A6 l[j].us.length l[j].us:=by
  intro j hj
  obtain⟨c,_,hk,hcell⟩:=hc j _ (List.getElem?_eq_getElem hj)
  obtain⟨A5,c5,A6,c6,rfl,g1,g5,g2,g6⟩:=kTk_open hk
  exact⟨A5,c5,A6,c6,hcell,g1,g5,g2,g6⟩
 obtain⟨_,_,_,_,h00,_⟩:=hat 0 hl
 have h00:=h00 0 _ rfl
 have hsp:=World.cell?_spot h00
 have hlt:=bLt w _ h00
 obtain⟨b,off,spot⟩:=ad
 have hs:spot=none:=by simpa [Addr.add] using hsp
 subst hs
 have hadd:∀ j,(⟨b,off,none⟩:Addr).add j=⟨b,off+j,none⟩:=fun j=>by unfold Addr.add;split<;>simp_all
 refine⟨b,off,rfl,by simpa [hadd] using hlt,fun i hi=>?_⟩
 obtain⟨A5,c5,A6,c6,g,e5,g5,e6,g6⟩:=hat i hi
 have g0:=g 0 _ rfl
 have g1:=g 1 _ rfl
 have g2:=g 2 _ rfl
 have g3:=g 3 _ rfl
 have g4:=g 4 _ rfl
 have q5:=g 5 _ rfl
 have q6:=g 6 _ rfl
 rw [hadd] at g0 g1 g2 g3 g4 q5 q6
 exact⟨A5,c5,A6,c6,g0,by rw [Nat.add_assoc];exact g1,by rw [Nat.add_assoc];exact g2,by rw [Nat.add_assoc];exact g3,by rw [Nat.add_assoc];exact g4,by rw [Nat.add_assoc];exact q5,by rw [Nat.add_assoc];exact q6,g5,e5,g6,e6⟩
theorem checkE_small {sets rel:Int} {L:List Tk} (h:checkE sets rel L=0):(0≤sets∧sets≤256)∧(0≤rel∧rel≤1000)∧0<L.length∧L.length≤64:=by
 unfold checkE at h
 split at h
 ·rename_i h1
  split at h
  ·rename_i h2
   unfold inB at h1
   simp only [decide_eq_true_eq] at h1
   exact⟨h1.1,h1.2.1,by omega,h2⟩
  ·cases h
 ·cases h
end Go.Proofs.YtgnaaokhfpfglaaDoor
end
