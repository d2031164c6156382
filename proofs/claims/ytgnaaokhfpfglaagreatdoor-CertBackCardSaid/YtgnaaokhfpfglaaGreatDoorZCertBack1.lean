/- Texts of this claim, one behind the other: WWords, WLast, WApart, WFoot, WKept, WShare, WN, WNEv, WMore, WTab, Sqz, WOwn, Evs, Kopen, Words, Shelf, LexA, LexN, LexP, LexB, LexCa, LexDa, LexS, LexPa, LexM, LexO, Append, LexQa, LexJa, LexCv, LexV, HeldIn. -/
import Derived.Below
import Derived.Deep.Draws
import Derived.Deep.AppendLies
import Derived.Maps.AppendAt
import Derived.OwnWalk
import Derived.Laws.BytesArg
import Derived.Laws.MakeOwn
import Derived.Laws.OwnMore
import Derived.Deep.OwnRows
import Derived.Tactics
import Derived.Lib.ConvBytes
import Derived.Laws.Slices
import Derived.WalkKit
import Derived.KernelRfl
import Derived.RowKit3
import Derived.Deep.LoopGhost
import Derived.Deep.QuietTactic
import Derived.BigQuiet
import Derived.WideLaws
import Derived.Deep.DeepCutAuto
import Derived.Deep.CutBlock
import Derived.Deep.RegionHeld3
import Derived.Laws.Rows
import Derived.Lib.AppendStr
import Derived.ArgAppend
import Derived.Laws.IdiomCopy
import Derived.RowKit
import Derived.OrdersHeld
import Derived.Laws.BitsLemmas
import Derived.Laws.Bits64
import Derived.Test.YtgnaaokhfpfglaaGreatDoorRows
import Derived.ProofKit
import Derived.OpenShut
import Derived.ShutString
import Derived.ChangeOld
import Derived.Deep.Slices
import Derived.WalkSpells
import Derived.WalkLawsBesides
import Derived.Lib.Hide
import Derived.OneCell
import Derived.Shelf.Strings.SlTrimAscii
import Derived.Shelf.Strings.Builder1
import Derived.Shelf.Strings.Builder2
import Derived.Shelf.Strings.OnBuilder
import Derived.Shelf.Strings.Trim
import Derived.Shelf.Small.Utf8
import Derived.Shelf.Small.Strs
import Derived.Shelf.Strings.BuilderF
import Derived.Shelf.Strings.BuilderK
import Derived.Shelf.Utf8.RuneCount
import Derived.Shelf.Strings.Builder2Cap
import Derived.Shelf.Strconv.Itoa0
import Derived.Shelf.Strconv.Itoa1
import Derived.Shelf.LaysM
import Derived.Shelf.Strconv.Itoa2
import Derived.Shelf.Strconv.Itoa3
import Derived.Shelf.Strconv.Itoa4
import Derived.Shelf.Strings.Search1
import Derived.Shelf.Strings.Search2
import Derived.Shelf.Strings.Search3
import Derived.Shelf.Strings.Cut
import Derived.Shelf.Strings.Count
import Derived.Shelf.Strings.Shaped
import Derived.Shelf.Strings.Split
import Derived.Shelf.Strings.SplitShaped
import Derived.Shelf.Unicode.Decode
import Derived.Shelf.Strings.Runes
import Derived.Shelf.Strings.RuneCount
import Derived.Shelf.Strings.IndexAny
import Derived.Shelf.Strings.AsciiSet
import Derived.Shelf.Strings.IndexAnyAll
import Derived.Shelf.Strings.Explode
import Derived.Shelf.Unicode.DecodeSlow
import Derived.Shelf.Unicode.DecodeAny
import Derived.Shelf.Strings.BuilderCap
import Derived.Shelf.Slices.Turned
import Derived.Shelf.Slices.Equal
import Derived.Shelf.Slices.Empties2
import Derived.Test.YtgnaaokhfpfglaaGreatDoorProg
import Derived.Lib.SpaceUEq
import Derived.Lib.OthersKept
import Derived.Lib.TrimU
import Derived.Lib.TrimUEq
import Derived.Lib.MapLaws
import Derived.Lib.QuoteLoop
import Derived.RangeFuncNested
import Derived.RangeFuncBound
import Derived.RangeFuncCalls
import Derived.RangeFuncLeaves
import Derived.RangeFuncBox
import Derived.Shelf.Abstract
import Derived.Shelf.RegionOpen
import Derived.OwnWalkIn
import Derived.TacticsInMore
import Derived.LoopNIn
import Derived.LoopIn
import Derived.Sort.CutIn
import Derived.Lib.AppendIntMem
import Derived.Lib.ItoaNum
import Derived.Laws.AppendOwnNone
import Derived.WalkSmall
import Derived.Laws.IdiomStrings
import Derived.OrdersIn
namespace Go.Proofs.YtgnaaokhfpfglaaGreatDoor
theorem gDe {α:Type} {xs:Array α} {i:Nat} {d:α}:xs.getD i d=xs[i]?.getD d:=Array.getD_eq_getD_getElem?
theorem bLt (w:World) (a:Addr) {v:Value} (h:w.cell? a=some v):a.block<w.heap.size:=World.block_lt_of_cell? w a h
theorem hI9 {p:Prop} (h:p):RowKit.Hid p:=Lib.hid h
theorem nR9 (n:Nat):n<=n:=Nat.le_refl n
theorem bR9 (B:Nat) (w:World):RowKit.Below B w w:=RowKit.Below.refl B w
theorem oD9 {p:Prop} [Decidable p] (h:decide p=true):p:=of_decide_eq_true h
end Go.Proofs.YtgnaaokhfpfglaaGreatDoor

set_option maxHeartbeats 8000000
set_option maxRecDepth 100000
set_option linter.unusedVariables false
set_option linter.unusedSimpArgs false
section
set_option linter.unusedVariables false
set_option linter.unusedSimpArgs false
namespace Go.Proofs.YtgnaaokhfpfglaaGreatDoorW.PrintWords
open Go.RowKit
structure qaa (p:Prop):Prop where mk::(out:p)
structure qaz (w w':World):Prop where mk::(out:∃ n,w' = w.drewN n)
theorem qaz.refl (w:World):qaz w w:=⟨⟨0,rfl⟩⟩
theorem qaz.step {w w':World} (h:qaz w w') (n:Nat):qaz w (w'.drewN n):=by
 obtain⟨m,rfl⟩:=h;exact⟨⟨m+n,World.drewN_drewN ..⟩⟩
theorem qaz.grown {w w':World} (h:qaz w w'):Grown w w':=by
 obtain⟨n,rfl⟩:=h
 induction n with
 |zero=>exact Grown.refl _
 |succ n ih=>rw [<- World.drew_drewN];exact Grown.drew ih
theorem qaz.below {w w':World} (h:qaz w w'):Below w.heap.size w w':=by
 obtain⟨n,rfl⟩:=h
 induction n with
 |zero=>exact Below.refl _ _
 |succ n ih=>rw [<- World.drew_drewN];exact ih.drew
def rd (xs:List Int) (i:Int):Int:=xs.getD i.toNat 0
theorem qaj {w W:World} (h:Below w.heap.size w W) (o:Obj):Below w.heap.size w (W.alloc o):=h.alloc h.size o
theorem below_drew {B:Nat} {w W:World} (h:Below B w W):Below B w W.drew:=⟨h.os,h.tape,h.output,h.size,h.block⟩
theorem qaf {B:Nat} {w W:World} (h:Below B w W) (n:Nat):Below B w (W.drewN n):=⟨h.os,h.tape,h.output,h.size,h.block⟩
theorem below_then {B:Nat} {w w1 w2:World} (h:Below B w w1) (hB:B<=w1.heap.size) (k:Below w1.heap.size w1 w2):Below B w w2:=
 h.trans ⟨k.os,k.tape,k.output,k.size,fun i hi=>k.block i (Nat.lt_of_lt_of_le hi hB)⟩
theorem qah {w w1:World} (h:Below w.heap.size w w1) (row:Option Nat):w.grownBy w1 row:=⟨h.os,h.tape,h.output,h.size,fun i hi _=>h.block i hi⟩
theorem pw_cell_below {w w1:World} (h:Below w.heap.size w w1) {a:Addr} {v:Value} (hc:w.cell? a=some v):w1.cell? a=some v:=(h.cell (World.block_lt_of_cell? w a hc)).trans hc
theorem add_plain (g j:Nat):(⟨g,0,none⟩:Addr).add j=⟨g,j,none⟩:=by unfold Addr.add;split<;>simp_all
def qbd (w:World) (k:IntKind) (A:Option Addr) (n:Nat) (xs:List Int):Prop:=
 xs.length=n/\n<=9223372036854775807/\(0<n->∃ ad,A=some ad/\∀ j,j<n->w.cell? (ad.add j)=some (.int k (xs.getD j 0)))
theorem qbd.at_ {w:World} {k:IntKind} {A:Option Addr} {n:Nat} {xs:List Int} (h:qbd w k A n xs) (i:Int) (h0:0<=i) (h1:i<n):∃ ad,A=some ad/\w.cell? (ad.add i.toNat)=some (.int k (rd xs i)):=by
 obtain⟨ad,e,hc⟩:=h.2.2 (by omega);exact⟨ad,e,hc _ (by omega)⟩
theorem qbd.below {w w1:World} {k:IntKind} {A:Option Addr} {n:Nat} {xs:List Int} (h:qbd w k A n xs) (hb:Below w.heap.size w w1):qbd w1 k A n xs:=
 ⟨h.1,h.2.1,fun hn=>by
  obtain⟨ad,e,hc⟩:=h.2.2 hn
  exact⟨ad,e,fun j hj=>pw_cell_below hb (hc j hj)⟩⟩
theorem own_nil (W:World) (base:Nat) (e:TypeId) (size:Nat):W.ownsRow base e size (.slice none 0 0) 0 []:=⟨by simp,.inl ⟨rfl,rfl⟩⟩
theorem own_base {w:World} {base:Nat} {e:TypeId} {size n:Nat} {v:Value} {xs:List Value} (h:w.ownsRow base e size v n xs) (k:Nat) (hk:v.ownBlock=some k):base<=k:=by
 rcases h.2 with ⟨rfl,_⟩|⟨g,cap,cur,rfl,hb,_⟩
 .simp [Value.ownBlock] at hk
 .have:g=k:=by simpa [Value.ownBlock] using hk
  omega
theorem own_lt {w:World} {base:Nat} {e:TypeId} {size n:Nat} {v:Value} {xs:List Value} (h:w.ownsRow base e size v n xs) (k:Nat) (hk:v.ownBlock=some k):k<w.heap.size:=by
 rcases h.2 with ⟨rfl,_⟩|⟨g,cap,cur,rfl,hb,hh,_⟩
 .simp [Value.ownBlock] at hk
 .have:g=k:=by simpa [Value.ownBlock] using hk
  subst this;exact (Array.getElem?_eq_some_iff.1 hh).1
theorem pw_own_below {w w1:World} {base:Nat} {e:TypeId} {size n:Nat} {v:Value} {xs:List Value} (h:w.ownsRow base e size v n xs) (hb:Below w.heap.size w w1):w1.ownsRow base e size v n xs:=
 h.kept (qah hb none) (by cases v.ownBlock<;>simp)
theorem own_other {w w1:World} {base:Nat} {e:TypeId} {size n:Nat} {v:Value} {xs:List Value} (h:w.ownsRow base e size v n xs) {row:Option Nat} (hg:w.grownBy w1 row) (hne:v.ownBlock=none\/v.ownBlock≠row):w1.ownsRow base e size v n xs:=h.kept hg hne
theorem own_slice {w:World} {base n:Nat} {e:TypeId} {size:Nat} {v:Value} {xs:List Value} (h:w.ownsRow base e size v n xs):∃ A c,v=.slice A n c:=by
 rcases h.2 with ⟨rfl,rfl⟩|⟨g,cap,cur,rfl,_⟩
 .exact⟨none,0,rfl⟩
 .exact⟨_,cap,rfl⟩
section
variable {P:Program} {ops:Array Oper} {rest:List Oper} {o:Oper} {a:Act} {Q:Exit->Act->World->Prop}
end
section
variable {P:Program}
end
section
variable {P:Program} {ops:Array Oper} {rest:List Oper} {o:Oper} {a:Act} {Q:Exit->Act->World->Prop}
end
theorem qbd.take_ {w:World} {k:IntKind} {A:Option Addr} {n:Nat} {xs:List Int} (h:qbd w k A n xs) (i:Nat) (hi:i<=n):qbd w k A i (xs.take i):=by
 refine⟨by rw [List.length_take,h.1];omega,by have:=h.2.1;omega,fun hp=>?_⟩;obtain⟨ad,e,hc⟩:=h.2.2 (by omega);refine⟨ad,e,fun j hj=>?_⟩;rw [hc j (by omega)];simp [List.getD_eq_getElem?_getD,hj]
def LeO {α:Type} (a b:Option α):Prop:=∀ r,a=some r->b=some r
theorem LeO.refl {α:Type} (a:Option α):LeO a a:=fun _ h=>h
theorem LeO.none {α:Type} (b:Option α):LeO Option.none b:=fun _ h=>by cases h
theorem LeO.trans {α:Type} {a b c:Option α} (h:LeO a b) (k:LeO b c):LeO a c:=fun r hr=>k r (h r hr)
theorem LeO.bind {α β:Type} {a a':Option α} {f f':α->Option β} (h:LeO a a') (k:∀ x,LeO (f x) (f' x)):LeO (a.bind f) (a'.bind f'):=by
 intro r hr;obtain⟨x,hx,hf⟩:=Option.bind_eq_some_iff.1 hr;exact Option.bind_eq_some_iff.2 ⟨x,h x hx,k x r hf⟩
theorem LeO.map {α β:Type} {a a':Option α} (f:α->β) (h:LeO a a'):LeO (a.map f) (a'.map f):=by
 intro r hr;obtain⟨x,hx,hf⟩:=Option.map_eq_some_iff.1 hr;exact Option.map_eq_some_iff.2 ⟨x,h x hx,hf⟩
theorem more_rounds {α:Type} {g:Nat->Option α} (h:∀ k,LeO (g k) (g (k+1))) (k:Nat):∀ j,LeO (g k) (g (k+j))
 |0=>LeO.refl _
 |j+1=>(more_rounds h k j).trans (h (k+j))
theorem at_rounds {α:Type} {g:Nat->Option α} (h:∀ k,LeO (g k) (g (k+1))) {k k':Nat} (hk:k<=k') {r:α} (hr:g k=some r):g k' = some r:=by
 have:=more_rounds h k (k' - k) r hr
 rwa [Nat.add_sub_cancel' hk] at this
def Reps {α:Type} (R:α->List Value->Prop) (size:Nat) (ps:List α) (cs:List Value):Prop:=
 cs.length=ps.length * size/\∀ j p,ps[j]? = some p->R p ((cs.drop (j * size)).take size)
theorem Reps.none {α:Type} (R:α->List Value->Prop) (size:Nat):Reps R size [] []:=⟨by simp,fun j p h=>by simp at h⟩
theorem Reps.snoc {α:Type} {R:α->List Value->Prop} {size:Nat} {ps:List α} {cs c:List Value} {p:α} (h:Reps R size ps cs) (hp:R p c) (hc:c.length=size):Reps R size (ps++[p]) (cs++c):=by
 refine⟨by rw [List.length_append,h.1,hc,List.length_append,List.length_singleton,Nat.add_mul,Nat.one_mul],fun j q hq=>?_⟩;rcases Nat.lt_or_ge j ps.length with hj|hj
 .rw [List.getElem?_append_left hj] at hq;have h1:j * size+size<=cs.length:=by rw [h.1,<- Nat.succ_mul];exact Nat.mul_le_mul_right _ hj
  have h2:=h.2 j q hq;rw [List.drop_append_of_le_length (by omega),List.take_append_of_le_length (by rw [List.length_drop];omega)];exact h2
 .have hj':j=ps.length:=by
   have:=(List.getElem?_eq_some_iff.1 hq).1;rw [List.length_append,List.length_singleton] at this;omega
  subst hj';have hq':p=q:=by simpa using hq
  subst hq';rw [<- h.1,List.drop_left,<- hc,List.take_length];exact hp
theorem Reps.imp_ {α:Type} {R R':α->List Value->Prop} {size:Nat} {ps:List α} {cs:List Value} (h:Reps R size ps cs) (hR:∀ p c,R p c->R' p c):Reps R' size ps cs:=⟨h.1,fun j p hj=>hR _ _ (h.2 j p hj)⟩
def qaQ {α:Type} (R:α->List Value->Prop) (size:Nat) (w:World) (A:Option Addr) (n:Nat) (ps:List α):Prop:=
 ps.length=n/\n<=9223372036854775807/\(0<n->∃ ad,A=some ad/\∀ j p,ps[j]? = some p->∃ c,c.length=size/\R p c/\∀ i u,c[i]? = some u->w.cell? (ad.add (j * size+i))=some u)
theorem qaQ.get_ {α:Type} {R:α->List Value->Prop} {size:Nat} {w:World} {A:Option Addr} {n:Nat} {ps:List α} (h:qaQ R size w A n ps) (d:α) (i:Int) (h0:0<=i) (h1:i<n) :
  ∃ ad c,A=some ad/\c.length=size/\R (ps.getD i.toNat d) c/\∀ j u,c[j]? = some u->w.cell? (ad.add (i.toNat * size+j))=some u:=by
 obtain⟨ad,e,hc⟩:=h.2.2 (by omega);have hl:i.toNat<ps.length:=by have:=h.1;omega
 obtain⟨c,hs,hr,hcell⟩:=hc i.toNat _ (List.getElem?_eq_getElem hl);refine⟨ad,c,e,hs,?_,hcell⟩;rw [List.getD_eq_getElem?_getD,List.getElem?_eq_getElem hl];exact hr
theorem qaQ.imp_ {α:Type} {R R':α->List Value->Prop} {size:Nat} {w w1:World} {A:Option Addr} {n:Nat} {ps:List α} (h:qaQ R size w A n ps) (hb:Below w.heap.size w w1) (hR:∀ p c,R p c->R' p c):qaQ R' size w1 A n ps:=
 ⟨h.1,h.2.1,fun hn=>by
  obtain⟨ad,e,hc⟩:=h.2.2 hn;refine⟨ad,e,fun j p hj=>?_⟩;obtain⟨c,hs,hr,hcell⟩:=hc j p hj
  exact⟨c,hs,hR _ _ hr,fun i u hu=>pw_cell_below hb (hcell i u hu)⟩⟩
theorem own_reads_row {α:Type} {R:α->List Value->Prop} {w:World} {base n size:Nat} {e:TypeId} {v:Value} {ps:List α} {cs:List Value} (h:w.ownsRow base e size v n cs) (hR:Reps R size ps cs) (hn:ps.length=n) :
  ∃ A c,v=.slice A n c/\qaQ R size w A n ps:=by
 rcases Nat.eq_zero_or_pos n with h0|h0
 .rcases h.2 with ⟨rfl,rfl⟩|⟨g,cap,cur,rfl,_⟩
  .exact⟨none,0,rfl,hn,by omega,fun hp=>absurd hp (by omega)⟩
  .exact⟨_,cap,rfl,hn,by omega,fun hp=>absurd hp (by omega)⟩
 .obtain⟨g,cap,rfl,_,_⟩:=h.form h0;have hm:n<=9223372036854775807:=by
   rcases h.2 with ⟨_,h1⟩|⟨g',cap',cur,he,_,_,h1,h2,_⟩
   .omega
   .simp only [maxLen] at h2;omega
  refine⟨_,cap,rfl,hn,hm,fun _=>⟨_,rfl,fun j p hj=>⟨(cs.drop (j * size)).take size,?_,hR.2 j p hj,fun i u hu=>?_⟩⟩⟩
  .have hjl:=(List.getElem?_eq_some_iff.1 hj).1;have h1:j * size+size<=cs.length:=by rw [hR.1,<- Nat.succ_mul];exact Nat.mul_le_mul_right _ hjl
   rw [List.length_take,List.length_drop];omega
  .refine h.cells (g:=g) rfl _ u ?_;rw [List.getElem?_take] at hu;split at hu
   .rw [List.getElem?_drop] at hu;exact hu
   .cases hu
theorem qav (ad:Addr) (m j:Nat) (hj:0<j):ad.add (m+j)=⟨(ad.add m).block,(ad.add m).off+j,none⟩:=by
 unfold Addr.add;by_cases hm:m=0
 .subst hm;simp [Nat.ne_of_gt hj]
 .simp [hm,Nat.add_assoc]
section
variable {P:Program} {ops:Array Oper} {rest:List Oper} {o:Oper} {a:Act} {Q:Exit->Act->World->Prop}
theorem print_append_cells {w0 W:World} (base:Nat) (hgd:o.guard=none) (s x:Operand) (t e:TypeId) (z:Value) (size bytes:Nat)
  (ho:o.op=.call { callee:=.builtin .append,args:=#[s,x],argTypes:=#[t,t] })
  (ht:P.underlying t=some (.slice e)) (hinfo:(P.info? e).map (fun i=>(i.zero,i.size,i.bytes))=some (some z,size,bytes)) (hz:z.cells.size=size) (hs0:0<size) (hb0:0<bytes)
  (v:Value) (n:Nat) (xs ys:List Value) (hs:a.eval s=v) (hx:a.eval x=.slice (some ⟨W.heap.size,0,none⟩) 1 1) (hys:ys.length=size) (h1:∀ u ∈ ys,u.oneCell' = true)
  (HO:W.ownsRow base e size v n xs) (HB:Below base w0 W) (hbase:base<=W.heap.size) (hl:(n+1) * bytes<=140737488355328)
  (h:∀ v1 w1,w1.ownsRow base e size v1 (n+1) (xs++ys)->Below base w0 w1->W.grownBy w1 v.ownBlock->(v1.ownBlock=v.ownBlock\/∃ b,v1.ownBlock=some b/\W.heap.size<=b)->wpList P ops Q rest (a.put o.dst v1) w1) :
  wpList P ops Q (o::rest) a (W.alloc (.cells ys.toArray e)):=by
 obtain⟨i0,hi,hzz⟩:=Option.map_eq_some_iff.1 hinfo;simp only [Prod.mk.injEq] at hzz;obtain⟨hz0,hz1,hz2⟩:=hzz;have hlen:n+1<=140737488355328:=Nat.le_trans (Nat.le_mul_of_pos_right _ hb0) hl;refine wpList_append_own_at (W.alloc (.cells ys.toArray e)) hgd s x t ho base e i0 z size bytes ht hi hz0 hz1 hz2 hz hs0 v n xs hs (HO.alloc _) ⟨W.heap.size,0,none⟩ 1 1 ys hx (by rw [hys];simp)
  (by simpa using World.news_of_block (cs:=ys.toArray) (t:=e) (fr:=(0,0)) (heap_alloc_new W (.cells ys.toArray e))) h1 (by simp only [maxLen];omega) hl (by simp;omega) ?_
 intro v1 w1 hown hg _ hat;refine h v1 w1 hown ((HB.alloc hbase _).grown hg (by simp;omega) (own_base HO)) (World.grownBy.trans (World.grownBy_alloc W _ _) hg) ?_;rcases hat with hat|hat
 .exact .inl hat
 .exact .inr ⟨_,hat,by simp⟩
end
theorem own_ne {w:World} {base:Nat} {e t:TypeId} {size n g:Nat} {v:Value} {xs:List Value} {cs:Array Value} (h:w.ownsRow base e size v n xs) (hg:w.heap[g]? = some (.cells cs t (0,0))) (hne:e≠t):some g≠v.ownBlock:=by
 rcases h.2 with ⟨rfl,_⟩|⟨g',cap,cur,rfl,_,hh,_⟩
 .simp [Value.ownBlock]
 .intro he;have:g=g':=by simpa [Value.ownBlock] using he
  subst this;rw [hg] at hh;injection hh with hh
  injection hh with _ ht
  exact hne ht.symm
theorem blk_set {w:World} {g:Nat} {t:TypeId} {cs:Array Value} (h:w.heap[g]? = some (.cells cs t (0,0))) (i:Nat) (u:Value):(w.setCell ⟨g,i,none⟩ u).heap[g]? = some (.cells (cs.setIfInBounds i u) t (0,0)):=by
 simp [World.setCell,Array.getElem?_modify,h]
theorem qae {w:World} {g:Nat} {t:TypeId} {cs:Array Value} (h:w.heap[g]? = some (.cells cs t (0,0))) {p:Addr} (hp:g≠p.block) (u:Value):(w.setCell p u).heap[g]? = some (.cells cs t (0,0)):=(Below.heap_setCell w p u g hp).trans h
theorem blk_lt {w:World} {g:Nat} {o:Obj} (h:w.heap[g]? = some o):g<w.heap.size:=(Array.getElem?_eq_some_iff.1 h).1
theorem qac {w:World} {g:Nat} {t:TypeId} {cs:Array Value} (h:w.heap[g]? = some (.cells cs t (0,0))) (i:Nat):w.cell? ⟨g,i,none⟩=cs[i]?:=cell_of_row w g i cs t (0,0) h
theorem qam {w:World} {g:Nat} {t:TypeId} {cs:Array Value} (h:w.heap[g]? = some (.cells cs t (0,0))) (i:Nat):w.frozen? ⟨g,i,none⟩=false:=by simp [World.frozen?,h]
theorem qaV {w w1:World} {g:Nat} {o:Obj} {row:Option Nat} (h:w.heap[g]? = some o) (hg:w.grownBy w1 row) (hne:some g≠row):w1.heap[g]? = some o:=(hg.block g (blk_lt h) hne).trans h
def KeepBut (w w':World) (g:Nat) (row:Option Nat):Prop:=w.heap.size<=w'.heap.size/\∀ i,i<w.heap.size->i≠g->some i≠row->w'.heap[i]? = w.heap[i]?
theorem KeepBut.refl (w:World) (g:Nat) (row:Option Nat):KeepBut w w g row:=⟨Nat.le_refl _,fun _ _ _ _=>rfl⟩
theorem KeepBut.of_below {w w1:World} (h:Below w.heap.size w w1) (g:Nat) (row:Option Nat):KeepBut w w1 g row:=⟨h.size,fun i hi _ _=>h.block i hi⟩
theorem KeepBut.trans {w w1 w2:World} {g:Nat} {row row1:Option Nat} (h:KeepBut w w1 g row) (k:KeepBut w1 w2 g row1) (hr:row1=row\/∃ b,row1=some b/\w.heap.size<=b):KeepBut w w2 g row:=
 ⟨Nat.le_trans h.1 k.1,fun i hi hg hn=>by
  refine (k.2 i (Nat.lt_of_lt_of_le hi h.1) hg ?_).trans (h.2 i hi hg hn);rcases hr with rfl|⟨b,rfl,hb⟩
  .exact hn
  .intro e;injection e with e
   omega⟩
theorem KeepBut.blk {w w1:World} {g g':Nat} {row:Option Nat} {o:Obj} (h:KeepBut w w1 g row) (hb:w.heap[g']? = some o) (hg:g'≠g) (hr:some g'≠row):w1.heap[g']? = some o:=(h.2 g' (blk_lt hb) hg hr).trans hb
theorem KeepBut.own {w w1:World} {g:Nat} {row:Option Nat} {base:Nat} {e:TypeId} {size n:Nat} {v:Value} {xs:List Value} (h:KeepBut w w1 g row) (ho:w.ownsRow base e size v n xs) (hg:v.ownBlock≠some g) (hr:v.ownBlock=none\/v.ownBlock≠row):w1.ownsRow base e size v n xs:=by
 obtain⟨h1,h2⟩:=ho;refine⟨h1,?_⟩;rcases h2 with h2|⟨b,cap,cur,rfl,hb,hh,r⟩
 .exact .inl h2
 .refine .inr ⟨b,cap,cur,rfl,hb,h.blk hh ?_ ?_,r⟩
  .intro e;exact hg (by rw [<- e];rfl)
  .rcases hr with hr|hr
   .simp [Value.ownBlock] at hr
   .exact hr
def Ev {α:Type} (g:Nat->Option α) (r:α):Prop:=∃ K,∀ k,K<=k->g k=some r
theorem Ev.of {α:Type} {g:Nat->Option α} {r:α} (hg:∀ k,LeO (g k) (g (k+1))) {k:Nat} (h:g k=some r):Ev g r:=⟨k,fun _ hk=>at_rounds hg hk h⟩
theorem Ev.now {α:Type} (r:α):Ev (fun _=>some r) r:=⟨0,fun _ _=>rfl⟩
theorem Ev.rounds {α:Type} {g:Nat->Option α} {r:α} (h:Ev g r):∃ k,g k=some r:=by
 obtain⟨K,h⟩:=h;exact⟨K,h K (Nat.le_refl _)⟩
theorem Ev.bind {α β:Type} {g:Nat->Option α} {f:Nat->α->Option β} {a:α} {r:β} (h:Ev g a) (k:Ev (fun n=>f n a) r):Ev (fun n=>(g n).bind (f n)) r:=by
 obtain⟨K,h⟩:=h;obtain⟨K',k⟩:=k;refine⟨max K K',fun n hn=>?_⟩;have h1:=h n (by omega);have h2:=k n (by omega);simp only [h1,Option.bind_some];exact h2
theorem Ev.step {α:Type} {g f:Nat->Option α} {r:α} (h:∀ k,g (k+1)=f k) (k:Ev f r):Ev g r:=by
 obtain⟨K,k⟩:=k;refine⟨K+1,fun n hn=>?_⟩;obtain⟨m,rfl⟩:∃ m,n=m+1:=⟨n - 1,by omega⟩;rw [h];exact k m (by omega)
theorem Ev.congr {α:Type} {g f:Nat->Option α} {r:α} (h:∀ k,g k=f k) (k:Ev f r):Ev g r:=by
 obtain⟨K,k⟩:=k;exact⟨K,fun n hn=>(h n).trans (k n hn)⟩
section
variable {P:Program} {ops:Array Oper} {o:Oper} {a:Act} {Q:Exit->Act->World->Prop} {K:Act->World->Prop}
theorem step_append_cells {w0 W:World} (base:Nat) (hw:Region.wanted o (yielded ops a.tmps)=true) (s x:Operand) (t e:TypeId) (z:Value) (size bytes:Nat)
  (ho:o.op=.call { callee:=.builtin .append,args:=#[s,x],argTypes:=#[t,t] })
  (ht:P.underlying t=some (.slice e)) (hinfo:(P.info? e).map (fun i=>(i.zero,i.size,i.bytes))=some (some z,size,bytes)) (hz:z.cells.size=size) (hs0:0<size) (hb0:0<bytes)
  (v:Value) (n:Nat) (xs ys:List Value) (hs:a.eval s=v) (hx:a.eval x=.slice (some ⟨W.heap.size,0,none⟩) 1 1) (hys:ys.length=size) (h1:∀ u ∈ ys,u.oneCell' = true)
  (HO:W.ownsRow base e size v n xs) (HB:Below base w0 W) (hbase:base<=W.heap.size) (hl:(n+1) * bytes<=140737488355328)
  (h:∀ v1 w1,w1.ownsRow base e size v1 (n+1) (xs++ys)->Below base w0 w1->W.grownBy w1 v.ownBlock->(v1.ownBlock=v.ownBlock\/∃ b,v1.ownBlock=some b/\W.heap.size<=b)->K (a.put o.dst v1) w1) :
  if Region.wanted o (yielded ops a.tmps)=true then Oper.wp P o a (W.alloc (.cells ys.toArray e)) K Q else K (a.put o.dst undef) (W.alloc (.cells ys.toArray e)):=by
 obtain⟨i0,hi,hzz⟩:=Option.map_eq_some_iff.1 hinfo;simp only [Prod.mk.injEq] at hzz;obtain⟨hz0,hz1,hz2⟩:=hzz;have hlen:n+1<=140737488355328:=Nat.le_trans (Nat.le_mul_of_pos_right _ hb0) hl;rw [if_pos hw];obtain⟨v1,w1,hr,hown,hg,_,hat⟩:=run_append_own_at (P:=P) (W.alloc (.cells ys.toArray e)) base t o.type e i0 z size bytes ht hi hz0 hz1 hz2 hz hs0 v n xs (HO.alloc _) ⟨W.heap.size,0,none⟩ 1 1 ys (by rw [hys];simp)
  (by simpa using World.news_of_block (cs:=ys.toArray) (t:=e) (fr:=(0,0)) (heap_alloc_new W (.cells ys.toArray e))) h1 (by simp only [maxLen];omega) hl (by simp;omega)
 unfold Oper.wp execOp;simp only [ho,resolve,invoke,builtin,Sem.run_bind,Sem.run_pure,Result.andThen_ok,List.map_toArray,List.map_cons,List.map_nil,hs,hx,hr];refine h v1 w1 hown ((HB.alloc hbase _).grown hg (by simp;omega) (own_base HO)) (World.grownBy.trans (World.grownBy_alloc W _ _) hg) ?_;rcases hat with hat|hat
 .exact .inl hat
 .exact .inr ⟨_,hat,by simp⟩
end
theorem own_weaken {w:World} {base base':Nat} {e:TypeId} {size n:Nat} {v:Value} {xs:List Value} (h:w.ownsRow base e size v n xs) (hb:base'<=base):w.ownsRow base' e size v n xs:=by
 obtain⟨h1,h2⟩:=h;refine⟨h1,?_⟩;rcases h2 with h2|⟨g,cap,cur,rfl,hg,r⟩
 .exact .inl h2
 .exact .inr ⟨g,cap,cur,rfl,Nat.le_trans hb hg,r⟩
section
variable {α:Type} {enc:α->Value} {d:α}
def encs (enc:α->Value) (xs:List α):List Value:=xs.map enc
def rdOf (d:α) (xs:List α) (i:Int):α:=xs.getD i.toNat d
theorem encs_length (xs:List α):(encs enc xs).length=xs.length:=by simp [encs]
def ReadsOf (enc:α->Value) (d:α) (w:World) (A:Option Addr) (n:Nat) (xs:List α):Prop:=
 xs.length=n/\n<=9223372036854775807/\(0<n->∃ ad,A=some ad/\∀ j,j<n->w.cell? (ad.add j)=some (enc (xs.getD j d)))
theorem ReadsOf.at_ {w:World} {A:Option Addr} {n:Nat} {xs:List α} (h:ReadsOf enc d w A n xs) (i:Int) (h0:0<=i) (h1:i<n):∃ ad,A=some ad/\w.cell? (ad.add i.toNat)=some (enc (rdOf d xs i)):=by
 obtain⟨ad,e,hc⟩:=h.2.2 (by omega);exact⟨ad,e,hc _ (by omega)⟩
theorem ReadsOf.below {w w1:World} {A:Option Addr} {n:Nat} {xs:List α} (h:ReadsOf enc d w A n xs) (hb:Below w.heap.size w w1):ReadsOf enc d w1 A n xs:=
 ⟨h.1,h.2.1,fun hn=>by
  obtain⟨ad,e,hc⟩:=h.2.2 hn
  exact⟨ad,e,fun j hj=>pw_cell_below hb (hc j hj)⟩⟩
theorem ReadsOf.take_ {w:World} {A:Option Addr} {n:Nat} {xs:List α} (h:ReadsOf enc d w A n xs) (i:Nat) (hi:i<=n):ReadsOf enc d w A i (xs.take i):=by
 refine⟨by rw [List.length_take,h.1];omega,by have:=h.2.1;omega,fun hp=>?_⟩;obtain⟨ad,e,hc⟩:=h.2.2 (by omega);refine⟨ad,e,fun j hj=>?_⟩;rw [hc j (by omega)];simp [List.getD_eq_getElem?_getD,hj]
end
section
variable {α:Type} {P:Program} {ops:Array Oper} {rest:List Oper} {o:Oper} {a:Act} {Q:Exit->Act->World->Prop}
end
theorem qau {w:World} {g:Nat} {o:Obj} (h:w.heap[g]? = some o) (o':Obj):(w.alloc o').heap[g]? = some o:=(Below.heap_alloc w o' g (blk_lt h)).trans h
theorem qaC {w:World} {g:Nat} {o:Obj} (h:w.heap[g]? = some o):w.drew.heap[g]? = some o:=h
theorem blk_drewN {w:World} {g:Nat} {o:Obj} (h:w.heap[g]? = some o) (n:Nat):(w.drewN n).heap[g]? = some o:=h
theorem qa2 {w w1:World} {g:Nat} {o:Obj} (h:w.heap[g]? = some o) (hb:Below w.heap.size w w1):w1.heap[g]? = some o:=(hb.block g (blk_lt h)).trans h
theorem blk_new (w:World) (o:Obj):(w.alloc o).heap[w.heap.size]? = some o:=heap_alloc_new w o
section
variable {P:Program}
end
theorem own_le {w:World} {base n m c size:Nat} {e:TypeId} {A:Option Addr} {xs:List Value} (h:w.ownsRow base e size (.slice A m c) n xs):m<=c:=by
 rcases h.2 with ⟨he,_⟩|⟨g,cap,cur,he,_,_,hnc,_⟩
 .injection he with _ h2 h3
  omega
 .injection he with _ h2 h3
  omega
def OwnRow {α:Type} (R:α->List Value->Prop) (e:TypeId) (size:Nat) (w:World) (base:Nat) (v:Value) (ps:List α):Prop:=
 ∃ inner,w.ownsRow base e size v ps.length inner/\Reps R size ps inner
section
variable {α:Type} {R R':α->List Value->Prop} {e:TypeId} {size:Nat} {w w1:World} {base:Nat} {v:Value} {ps:List α}
theorem OwnRow.none_ (R:α->List Value->Prop) (e:TypeId) (size:Nat) (w:World) (base:Nat):OwnRow R e size w base (.slice none 0 0) []:=⟨[],own_nil _ _ _ _,Reps.none _ _⟩
theorem OwnRow.imp_ (h:OwnRow R e size w base v ps) (hR:∀ p c,R p c->R' p c):OwnRow R' e size w base v ps:=by
 obtain⟨inner,ho,hr⟩:=h;exact⟨inner,ho,hr.imp_ hR⟩
theorem OwnRow.below (h:OwnRow R e size w base v ps) (hb:Below w.heap.size w w1):OwnRow R e size w1 base v ps:=by
 obtain⟨inner,ho,hr⟩:=h;exact⟨inner,pw_own_below ho hb,hr⟩
theorem OwnRow.other (h:OwnRow R e size w base v ps) {row:Option Nat} (hg:w.grownBy w1 row) (hne:v.ownBlock=none\/v.ownBlock≠row):OwnRow R e size w1 base v ps:=by
 obtain⟨inner,ho,hr⟩:=h;exact⟨inner,own_other ho hg hne,hr⟩
theorem OwnRow.reads (h:OwnRow R e size w base v ps):∃ A c,v=.slice A ps.length c/\ps.length<=c/\qaQ R size w A ps.length ps:=by
 obtain⟨inner,ho,hr⟩:=h;obtain⟨A,c,rfl,hrow⟩:=own_reads_row ho hr rfl;exact⟨A,c,rfl,own_le ho,hrow⟩
theorem OwnRow.ne_block (h:OwnRow R e size w base v ps) {g:Nat} {t:TypeId} {cells:Array Value} (hb:w.heap[g]? = some (.cells cells t (0,0))) (ht:e≠t):some g≠v.ownBlock:=by
 obtain⟨inner,ho,hr⟩:=h;exact own_ne ho hb ht
theorem OwnRow.lit (W:World) (base:Nat) {inner:List Value} (hr:Reps R size ps inner) (hb:base<=W.heap.size) (hm:ps.length<=9223372036854775807) :
  OwnRow R e size (W.alloc (.cells inner.toArray e)) base (.slice (some ⟨W.heap.size,0,none⟩) ps.length ps.length) ps:=by
 have h:=World.ownsRow_lit (base:=base) (e:=e) (size:=size) W inner.toArray ps.length hb (by simpa [maxLen] using hm) (by simpa using hr.1);exact⟨inner,by simpa using h,hr⟩
end
section
variable {P:Program} {ops:Array Oper} {rest:List Oper} {o:Oper} {a:Act} {Q:Exit->Act->World->Prop} {α:Type} {R:α->List Value->Prop}
theorem OwnRow.append {w0 W:World} (base:Nat) (hgd:o.guard=none) (s x:Operand) (t e:TypeId) (z:Value) (size bytes:Nat)
  (ho:o.op=.call { callee:=.builtin .append,args:=#[s,x],argTypes:=#[t,t] })
  (ht:P.underlying t=some (.slice e)) (hinfo:(P.info? e).map (fun i=>(i.zero,i.size,i.bytes))=some (some z,size,bytes)) (hz:z.cells.size=size) (hs0:0<size) (hb0:0<bytes)
  (v:Value) (ps:List α) (p:α) (cs:List Value) (hs:a.eval s=v) (hx:a.eval x=.slice (some ⟨W.heap.size,0,none⟩) 1 1) (hp:R p cs) (hcs:cs.length=size) (h1:∀ u ∈ cs,u.oneCell' = true)
  (HO:OwnRow R e size W base v ps) (HB:Below base w0 W) (hbase:base<=W.heap.size) (hl:(ps.length+1) * bytes<=140737488355328)
  (h:∀ v1 w1,OwnRow R e size w1 base v1 (ps++[p])->Below base w0 w1->W.grownBy w1 v.ownBlock->(v1.ownBlock=v.ownBlock\/∃ b,v1.ownBlock=some b/\W.heap.size<=b)->wpList P ops Q rest (a.put o.dst v1) w1) :
  wpList P ops Q (o::rest) a (W.alloc (.cells cs.toArray e)):=by
 obtain⟨inner,hown,hr⟩:=HO;refine print_append_cells base hgd s x t e z size bytes ho ht hinfo hz hs0 hb0 v ps.length inner cs hs hx hcs h1 hown HB hbase hl ?_;intro v1 w1 hown1 hb1 hg1 hat1;exact h v1 w1 ⟨inner++cs,by rw [List.length_append,List.length_singleton];exact hown1,hr.snoc hp hcs⟩ hb1 hg1 hat1
end
section
variable {P:Program} {ops:Array Oper} {o:Oper} {a:Act} {Q:Exit->Act->World->Prop} {K:Act->World->Prop} {α:Type} {R:α->List Value->Prop}
end
theorem qaQ.inner_ {α:Type} {R:α->List Value->Prop} {size:Nat} {w:World} {ad:Addr} {n:Nat} {ps:List α} (h:qaQ R size w (some ad) n ps) :
  ∃ inner,Reps R size ps inner/\∀ j u,inner[j]? = some u->w.cell? (ad.add j)=some u:=by
 have key:∀ m,m<=ps.length->∃ inner,Reps R size (ps.take m) inner/\∀ j u,inner[j]? = some u->w.cell? (ad.add j)=some u:=by
  intro m
  induction m with
  |zero=>exact fun _=>⟨[],Reps.none _ _,fun j u hu=>by simp at hu⟩
  |succ m ih=>
   intro hm;obtain⟨inner,hr,hc⟩:=ih (by omega);obtain⟨ad',he,hcell⟩:=h.2.2 (by have:=h.1;omega);injection he with he
   subst he;obtain⟨c,hcl,hp,hcc⟩:=hcell m _ (List.getElem?_eq_getElem (show m<ps.length by omega));refine⟨inner++c,?_,fun j u hu=>?_⟩
   .rw [List.take_succ_eq_append_getElem (show m<ps.length by omega)];exact hr.snoc hp hcl
   .have hil:inner.length=m * size:=by rw [hr.1,List.length_take,Nat.min_eq_left (by omega)]
    rcases Nat.lt_or_ge j inner.length with hj|hj
    .rw [List.getElem?_append_left hj] at hu;exact hc j u hu
    .rw [List.getElem?_append_right hj] at hu;have:=hcc (j - inner.length) u hu
     rwa [hil,Nat.add_sub_cancel' (by omega)] at this
 obtain⟨inner,hr,hc⟩:=key ps.length (Nat.le_refl _);rw [List.take_length] at hr;exact⟨inner,hr,hc⟩
section
variable {α:Type} {P:Program}
theorem ReadsOf.len_ {enc:α->Value} {d:α} {w:World} {A:Option Addr} {n:Nat} {xs:List α} (h:ReadsOf enc d w A n xs):ReadsOf enc d w A xs.length xs:=by rw [h.1];exact h
end
section
variable {P:Program} {ops:Array Oper} {rest:List Oper} {o:Oper} {a:Act} {Q:Exit->Act->World->Prop}
end
structure Kd (α:Type) where
 sz:Nat
 E:List Nat
 K:World->α->List Value->Prop
 M:World->Nat->(Nat->Prop)->α->List Value->Prop
 K_len:∀ {w x cs},K w x cs->cs.length=sz
 K_one:∀ {w x cs},K w x cs->∀ u ∈ cs,u.oneCell' = true
 K_below:∀ {w w1:World} {x cs},Below w.heap.size w w1->K w x cs->K w1 x cs
 K_of_M:∀ {w base ok x cs},M w base ok x cs->K w x cs
 M_mono:∀ {w base ok ok' x cs},(∀ k,ok k->ok' k)->M w base ok x cs->M w base ok' x cs
 M_bound:∀ {w:World} {base ok x cs},M w base ok x cs->M w base (fun k=>ok k/\base<=k/\k<w.heap.size/\∃ q,q ∈ E/\∃ cells,w.heap[k]? = some (.cells cells q (0,0))) x cs
 M_move:∀ {w w1:World} {base ok x cs},(∀ k,ok k->w1.heap[k]? = w.heap[k]?)->M w base ok x cs->M w1 base ok x cs
 M_lower:∀ {w base base' ok x cs},base'<=base->M w base ok x cs->M w base' ok x cs
theorem own_move {w w1:World} {base:Nat} {e:TypeId} {size n:Nat} {v:Value} {xs:List Value} (h:w.ownsRow base e size v n xs) (hm:∀ k,v.ownBlock=some k->w1.heap[k]? = w.heap[k]?):w1.ownsRow base e size v n xs:=by
 obtain⟨h1,h2⟩:=h;refine⟨h1,?_⟩;rcases h2 with h2|⟨g,cap,cur,rfl,hg,hh,r⟩
 .exact .inl h2
 .exact .inr ⟨g,cap,cur,rfl,hg,(hm g (by simp [Value.ownBlock])).trans hh,r⟩
theorem own_typed {w:World} {base:Nat} {e:TypeId} {size n:Nat} {v:Value} {xs:List Value} (h:w.ownsRow base e size v n xs) (k:Nat) (hk:v.ownBlock=some k):∃ cells,w.heap[k]? = some (.cells cells e (0,0)):=by
 rcases h.2 with ⟨rfl,_⟩|⟨g,cap,cur,rfl,hg,hh,r⟩
 .simp [Value.ownBlock] at hk
 .have:g=k:=by simpa [Value.ownBlock] using hk
  subst this;exact⟨cur,hh⟩
namespace Kd
def C {α:Type} (d:Kd α) (w:World) (A:Option Addr) (n:Nat) (xs:List α):Prop:=qaQ (d.K w) d.sz w A n xs
def R {α:Type} (d:Kd α) (e:Nat) (w:World) (base:Nat) (ok:Nat->Prop) (v:Value) (xs:List α):Prop:=
 (∀ k,v.ownBlock=some k->ok k)/\OwnRow (d.M w base (fun k=>ok k/\some k≠v.ownBlock)) e d.sz w base v xs
section
variable {α:Type} {d:Kd α} {e:Nat} {w w1:World} {base:Nat} {ok ok':Nat->Prop} {v:Value} {xs:List α}
theorem C_below {A:Option Addr} {n:Nat} (h:d.C w A n xs) (hb:Below w.heap.size w w1):d.C w1 A n xs:=qaQ.imp_ h hb (fun _ _ hp=>d.K_below hb hp)
theorem R_nil (d:Kd α) (e:Nat) (w:World) (base:Nat) (ok:Nat->Prop):d.R e w base ok (.slice none 0 0) []:=⟨fun k hk=>by simp [Value.ownBlock] at hk,OwnRow.none_ _ _ _ _ _⟩
theorem R_mono (h:d.R e w base ok v xs) (hok:∀ k,ok k->ok' k):d.R e w base ok' v xs:=⟨fun k hk=>hok k (h.1 k hk),h.2.imp_ (fun _ _ hp=>d.M_mono (fun k hk=>⟨hok k hk.1,hk.2⟩) hp)⟩
theorem R_bound (h:d.R e w base ok v xs):d.R e w base (fun k=>ok k/\base<=k/\k<w.heap.size/\∃ q,q ∈ e::d.E/\∃ cells,w.heap[k]? = some (.cells cells q (0,0))) v xs:=by
 obtain⟨h0,inner,ho,hr⟩:=h;refine⟨fun k hk=>?_,inner,ho,hr.imp_ (fun _ _ hp=>d.M_mono (fun k hk=>?_) (d.M_bound hp))⟩
 .obtain⟨cells,hc⟩:=own_typed ho k hk;exact⟨h0 k hk,own_base ho k hk,own_lt ho k hk,e,List.mem_cons_self,cells,hc⟩
 .obtain⟨⟨h1,h2⟩,h3,h4,q,hq,hc⟩:=hk;exact⟨⟨h1,h3,h4,q,List.mem_cons_of_mem _ hq,hc⟩,h2⟩
theorem R_move (h:d.R e w base ok v xs) (hm:∀ k,ok k->w1.heap[k]? = w.heap[k]?):d.R e w1 base ok v xs:=by
 obtain⟨h0,inner,ho,hr⟩:=h;exact⟨h0,inner,own_move ho (fun k hk=>hm k (h0 k hk)),hr.imp_ (fun _ _ hp=>d.M_move (fun k hk=>hm k hk.1) hp)⟩
theorem R_lower {base':Nat} (h:d.R e w base ok v xs) (hb:base'<=base):d.R e w base' ok v xs:=by
 obtain⟨h0,inner,ho,hr⟩:=h;exact⟨h0,inner,own_weaken ho hb,hr.imp_ (fun _ _ hp=>d.M_lower hb hp)⟩
theorem R_step (h:d.R e w base ok v xs) (hm:∀ k,ok k->k<w.heap.size->w1.heap[k]? = w.heap[k]?):d.R e w1 base ok v xs:=
 R_mono (R_move (R_bound h) (fun k hk=>hm k hk.1 hk.2.2.1)) (fun _ hk=>hk.1)
theorem M_step {x:α} {cs:List Value} (h:d.M w base ok x cs) (hm:∀ k,ok k->k<w.heap.size->w1.heap[k]? = w.heap[k]?):d.M w1 base ok x cs:=
 d.M_mono (fun _ hk=>hk.1) (d.M_move (fun k hk=>hm k hk.1 hk.2.2.1) (d.M_bound h))
theorem R_below (h:d.R e w base ok v xs) (hb:Below w.heap.size w w1):d.R e w1 base ok v xs:=R_step h (fun k _ hk=>hb.block k hk)
theorem M_below {x:α} {cs:List Value} (h:d.M w base ok x cs) (hb:Below w.heap.size w w1):d.M w1 base ok x cs:=M_step h (fun k _ hk=>hb.block k hk)
theorem R_grown (h:d.R e w base ok v xs) {row:Option Nat} (hg:w.grownBy w1 row) (hok:∀ k,ok k->some k≠row):d.R e w1 base ok v xs:=R_step h (fun k ho hk=>hg.block k hk (hok k ho))
theorem R_far (h:d.R e w base ok v xs) {p:Addr} (hok:∀ k,ok k->k≠p.block) (u:Value):d.R e (w.setCell p u) base ok v xs:=R_step h (fun k ho _=>Below.heap_setCell w p u k (hok k ho))
theorem R_types (h:d.R e w base ok v xs) {g t:Nat} {cells:Array Value} (hb:w.heap[g]? = some (.cells cells t (0,0))) (ht:∀ q,q ∈ e::d.E->q≠t):d.R e w base (fun k=>ok k/\k≠g) v xs:=
 R_mono (R_bound h) (fun k hk=>⟨hk.1,by
  obtain⟨_,_,_,q,hq,cells',hc⟩:=hk;rintro rfl;rw [hc] at hb;injection hb with hb
  injection hb with _ hb
  exact ht q hq hb⟩)
theorem R_reads (h:d.R e w base ok v xs):∃ A c,v=.slice A xs.length c/\xs.length<=c/\d.C w A xs.length xs:=by
 obtain⟨A,c,he,hl,hr⟩:=OwnRow.reads h.2;exact⟨A,c,he,hl,hr.imp_ (Below.refl _ _) (fun _ _ hp=>d.K_of_M hp)⟩
theorem R_slice (h:d.R e w base ok v xs):∃ A c,v=.slice A xs.length c:=by
 obtain⟨A,c,he,_⟩:=R_reads h;exact⟨A,c,he⟩
theorem R_own (h:d.R e w base ok v xs):∃ inner,w.ownsRow base e d.sz v xs.length inner:=by
 obtain⟨_,inner,ho,_⟩:=h;exact⟨inner,ho⟩
theorem R_ne (h:d.R e w base ok v xs) {g t:Nat} {cells:Array Value} (hb:w.heap[g]? = some (.cells cells t (0,0))) (ht:e≠t):some g≠v.ownBlock:=OwnRow.ne_block h.2 hb ht
end
def scalar {α:Type} (enc:α->Value) (h1:∀ x,(enc x).oneCell' = true):Kd α where
 sz:=1
 E:=[]
 K:=fun _ x cs=>cs=[enc x]
 M:=fun _ _ _ x cs=>cs=[enc x]
 K_len:=fun h=>by rw [h];rfl
 K_one:=fun h u hu=>by
  rw [h] at hu;rw [List.mem_singleton.1 hu];exact h1 _
 K_below:=fun _ h=>h
 K_of_M:=fun h=>h
 M_mono:=fun _ h=>h
 M_bound:=fun h=>h
 M_move:=fun _ h=>h
 M_lower:=fun _ h=>h
def int (k:IntKind):Kd Int:=scalar (Value.int k) (fun _=>rfl)
def bool:Kd Bool:=scalar Value.bool (fun _=>rfl)
def string:Kd ByteArray:=scalar Value.string (fun _=>rfl)
def slice {α:Type} (e:Nat) (d:Kd α):Kd (List α) where
 sz:=1
 E:=e::d.E
 K:=fun w xs cs=>∃ A c,cs=[.slice A xs.length c]/\xs.length<=c/\d.C w A xs.length xs
 M:=fun w base ok xs cs=>∃ v,cs=[v]/\d.R e w base ok v xs
 K_len:=by
  rintro w x cs ⟨A,c,rfl,_⟩;rfl
 K_one:=by
  rintro w x cs ⟨A,c,rfl,_⟩ u hu;rw [List.mem_singleton.1 hu];rfl
 K_below:=by
  rintro w w1 x cs hb ⟨A,c,rfl,hl,hr⟩;exact⟨A,c,rfl,hl,C_below hr hb⟩
 K_of_M:=by
  rintro w base ok x cs ⟨v,rfl,h⟩;obtain⟨A,c,rfl,hl,hr⟩:=R_reads h;exact⟨A,c,rfl,hl,hr⟩
 M_mono:=by
  rintro w base ok ok' x cs hok ⟨v,rfl,h⟩;exact⟨v,rfl,R_mono h hok⟩
 M_bound:=by
  rintro w base ok x cs ⟨v,rfl,h⟩;exact⟨v,rfl,R_bound h⟩
 M_move:=by
  rintro w w1 base ok x cs hm ⟨v,rfl,h⟩;exact⟨v,rfl,R_move h hm⟩
 M_lower:=by
  rintro w base base' ok x cs hb ⟨v,rfl,h⟩;exact⟨v,rfl,R_lower h hb⟩
def pair {α β:Type} (a:Kd α) (b:Kd β):Kd (α × β) where
 sz:=a.sz+b.sz
 E:=a.E++b.E
 K:=fun w x cs=>∃ c0 c1,cs=c0++c1/\a.K w x.1 c0/\b.K w x.2 c1
 M:=fun w base ok x cs=>∃ c0 c1,cs=c0++c1/\a.M w base ok x.1 c0/\b.M w base ok x.2 c1
 K_len:=by
  rintro w x cs ⟨c0,c1,rfl,h0,h1⟩;rw [List.length_append,a.K_len h0,b.K_len h1]
 K_one:=by
  rintro w x cs ⟨c0,c1,rfl,h0,h1⟩ u hu;rcases List.mem_append.1 hu with hu|hu
  .exact a.K_one h0 u hu
  .exact b.K_one h1 u hu
 K_below:=by
  rintro w w1 x cs hb ⟨c0,c1,rfl,h0,h1⟩;exact⟨c0,c1,rfl,a.K_below hb h0,b.K_below hb h1⟩
 K_of_M:=by
  rintro w base ok x cs ⟨c0,c1,rfl,h0,h1⟩;exact⟨c0,c1,rfl,a.K_of_M h0,b.K_of_M h1⟩
 M_mono:=by
  rintro w base ok ok' x cs hok ⟨c0,c1,rfl,h0,h1⟩;exact⟨c0,c1,rfl,a.M_mono hok h0,b.M_mono hok h1⟩
 M_bound:=by
  rintro w base ok x cs ⟨c0,c1,rfl,h0,h1⟩;refine⟨c0,c1,rfl,a.M_mono ?_ (a.M_bound h0),b.M_mono ?_ (b.M_bound h1)⟩
  .rintro k ⟨h2,h3,h4,q,hq,hc⟩;exact⟨h2,h3,h4,q,List.mem_append_left _ hq,hc⟩
  .rintro k ⟨h2,h3,h4,q,hq,hc⟩;exact⟨h2,h3,h4,q,List.mem_append_right _ hq,hc⟩
 M_move:=by
  rintro w w1 base ok x cs hm ⟨c0,c1,rfl,h0,h1⟩;exact⟨c0,c1,rfl,a.M_move hm h0,b.M_move hm h1⟩
 M_lower:=by
  rintro w base base' ok x cs hb ⟨c0,c1,rfl,h0,h1⟩;exact⟨c0,c1,rfl,a.M_lower hb h0,b.M_lower hb h1⟩
def iso {α β:Type} (d:Kd α) (f:β->α):Kd β where
 sz:=d.sz
 E:=d.E
 K:=fun w x cs=>d.K w (f x) cs
 M:=fun w base ok x cs=>d.M w base ok (f x) cs
 K_len:=d.K_len
 K_one:=d.K_one
 K_below:=d.K_below
 K_of_M:=d.K_of_M
 M_mono:=d.M_mono
 M_bound:=d.M_bound
 M_move:=d.M_move
 M_lower:=d.M_lower
def bot {α:Type} (sz:Nat) (E:List Nat):Kd α where
 sz:=sz
 E:=E
 K:=fun _ _ _=>False
 M:=fun _ _ _ _ _=>False
 K_len:=fun h=>h.elim
 K_one:=fun h=>h.elim
 K_below:=fun _ h=>h
 K_of_M:=fun h=>h
 M_mono:=fun _ h=>h
 M_bound:=fun h=>h
 M_move:=fun _ h=>h
 M_lower:=fun _ h=>h
def upto {α:Type} (F:Kd α->Kd α) (sz:Nat) (E:List Nat):Nat->Kd α
 |0=>bot sz E
 |n+1=>F (upto F sz E n)
theorem C_get {α:Type} {d:Kd α} {w:World} {A:Option Addr} {n:Nat} {xs:List α} (h:d.C w A n xs) (z:α) (i:Int) (h0:0<=i) (h1:i<n) :
  ∃ ad c,A=some ad/\c.length=d.sz/\d.K w (xs.getD i.toNat z) c/\∀ j u,c[j]? = some u->w.cell? (ad.add (i.toNat * d.sz+j))=some u:=qaQ.get_ h z i h0 h1
theorem R_appended {α:Type} {d:Kd α} {e base:Nat} {ok okp:Nat->Prop} {W w1:World} {v v1:Value} {xs:List α} {p:α} {inner cs:List Value} (h0:∀ k,v.ownBlock=some k->ok k) (hr:Reps (d.M W base (fun k=>ok k/\some k≠v.ownBlock)) d.sz xs inner) (hp:d.M W base okp p cs) (hokp:∀ k,okp k->ok k/\some k≠v.ownBlock) (hfresh:∀ k,W.heap.size<=k->ok k)
  (hown:w1.ownsRow base e d.sz v1 (xs.length+1) (inner++cs)) (hg:W.grownBy w1 v.ownBlock) (hat:v1.ownBlock=v.ownBlock\/∃ b,v1.ownBlock=some b/\W.heap.size<=b):d.R e w1 base ok v1 (xs++[p]):=by
 have hne:∀ k,some k≠v.ownBlock->k<W.heap.size->some k≠v1.ownBlock:=by
  intro k hk hlt;rcases hat with hat|⟨b,hb,hle⟩
  .rw [hat];exact hk
  .rw [hb];intro he;injection he with he
   omega
 have step:∀ {q:α} {c:List Value} {o:Nat->Prop},d.M W base o q c->(∀ k,o k->ok k/\some k≠v.ownBlock)->d.M w1 base (fun k=>ok k/\some k≠v1.ownBlock) q c:=by
  intro q c o hq ho;have h1:=d.M_move (w1:=w1) (fun k hk=>hg.block k hk.2.2.1 (ho k hk.1).2) (d.M_bound hq);exact d.M_mono (fun k hk=>⟨(ho k hk.1).1,hne k (ho k hk.1).2 hk.2.2.1⟩) h1
 refine⟨fun k hk=>?_,inner++cs,by rw [List.length_append,List.length_singleton];exact hown,?_⟩
 .rcases hat with hat|⟨b,hb,hle⟩
  .exact h0 k (hat ▸ hk)
  .rw [hb] at hk;injection hk with hk
   exact hfresh k (by omega)
 .exact (hr.imp_ (fun _ _ hq=>step hq (fun _ hk=>hk))).snoc (step hp hokp) (d.K_len (d.K_of_M hp))
section
variable {P:Program} {ops:Array Oper} {rest:List Oper} {o:Oper} {a:Act} {Q:Exit->Act->World->Prop} {α:Type}
theorem R_append (d:Kd α) {w0 W:World} (base:Nat) (hgd:o.guard=none) (s x:Operand) (t e:TypeId) (z:Value) (bytes:Nat)
  (ho:o.op=.call { callee:=.builtin .append,args:=#[s,x],argTypes:=#[t,t] })
  (ht:P.underlying t=some (.slice e)) (hinfo:(P.info? e).map (fun i=>(i.zero,i.size,i.bytes))=some (some z,d.sz,bytes)) (hz:z.cells.size=d.sz) (hs0:0<d.sz) (hb0:0<bytes)
  (v:Value) (xs:List α) (p:α) (cs:List Value) (ok okp:Nat->Prop) (hs:a.eval s=v) (hx:a.eval x=.slice (some ⟨W.heap.size,0,none⟩) 1 1) (hp:d.M W base okp p cs) (hokp:∀ k,okp k->ok k/\some k≠v.ownBlock) (hfresh:∀ k,W.heap.size<=k->ok k)
  (HO:d.R e W base ok v xs) (HB:Below base w0 W) (hbase:base<=W.heap.size) (hl:(xs.length+1) * bytes<=140737488355328)
  (h:∀ v1 w1,d.R e w1 base ok v1 (xs++[p])->Below base w0 w1->W.grownBy w1 v.ownBlock->(v1.ownBlock=v.ownBlock\/∃ b,v1.ownBlock=some b/\W.heap.size<=b)->wpList P ops Q rest (a.put o.dst v1) w1) :
  wpList P ops Q (o::rest) a (W.alloc (.cells cs.toArray e)):=by
 obtain⟨h0,inner,hown,hr⟩:=HO;refine print_append_cells base hgd s x t e z d.sz bytes ho ht hinfo hz hs0 hb0 v xs.length inner cs hs hx (d.K_len (d.K_of_M hp)) (d.K_one (d.K_of_M hp)) hown HB hbase hl ?_;intro v1 w1 hown1 hb1 hg1 hat1;exact h v1 w1 (R_appended h0 hr hp hokp hfresh hown1 hg1 hat1) hb1 hg1 hat1
end
section
variable {P:Program} {ops:Array Oper} {o:Oper} {a:Act} {Q:Exit->Act->World->Prop} {Kc:Act->World->Prop} {α:Type}
theorem R_append_step (d:Kd α) {w0 W:World} (base:Nat) (hw:Region.wanted o (yielded ops a.tmps)=true) (s x:Operand) (t e:TypeId) (z:Value) (bytes:Nat)
  (ho:o.op=.call { callee:=.builtin .append,args:=#[s,x],argTypes:=#[t,t] })
  (ht:P.underlying t=some (.slice e)) (hinfo:(P.info? e).map (fun i=>(i.zero,i.size,i.bytes))=some (some z,d.sz,bytes)) (hz:z.cells.size=d.sz) (hs0:0<d.sz) (hb0:0<bytes)
  (v:Value) (xs:List α) (p:α) (cs:List Value) (ok okp:Nat->Prop) (hs:a.eval s=v) (hx:a.eval x=.slice (some ⟨W.heap.size,0,none⟩) 1 1) (hp:d.M W base okp p cs) (hokp:∀ k,okp k->ok k/\some k≠v.ownBlock) (hfresh:∀ k,W.heap.size<=k->ok k)
  (HO:d.R e W base ok v xs) (HB:Below base w0 W) (hbase:base<=W.heap.size) (hl:(xs.length+1) * bytes<=140737488355328)
  (h:∀ v1 w1,d.R e w1 base ok v1 (xs++[p])->Below base w0 w1->W.grownBy w1 v.ownBlock->(v1.ownBlock=v.ownBlock\/∃ b,v1.ownBlock=some b/\W.heap.size<=b)->Kc (a.put o.dst v1) w1) :
  if Region.wanted o (yielded ops a.tmps)=true then Oper.wp P o a (W.alloc (.cells cs.toArray e)) Kc Q else Kc (a.put o.dst undef) (W.alloc (.cells cs.toArray e)):=by
 obtain⟨h0,inner,hown,hr⟩:=HO;refine step_append_cells base hw s x t e z d.sz bytes ho ht hinfo hz hs0 hb0 v xs.length inner cs hs hx (d.K_len (d.K_of_M hp)) (d.K_one (d.K_of_M hp)) hown HB hbase hl ?_;intro v1 w1 hown1 hb1 hg1 hat1;exact h v1 w1 (R_appended h0 hr hp hokp hfresh hown1 hg1 hat1) hb1 hg1 hat1
end
theorem reps_scalar {α:Type} {enc:α->Value} (xs:List α):Reps (fun (x:α) (cs:List Value)=>cs=[enc x]) 1 xs (encs enc xs):=by
 refine⟨by simp [encs],fun j p hj=>?_⟩;obtain⟨hl,hp⟩:=List.getElem?_eq_some_iff.1 hj;have hl':j<(encs enc xs).length:=by rw [encs_length];exact hl
 rw [Nat.mul_one,List.drop_eq_getElem_cons hl'];simp [encs,hp]
theorem reads_of_C {α:Type} {enc:α->Value} {d:α} {h1:∀ x,(enc x).oneCell' = true} {w:World} {A:Option Addr} {n:Nat} {xs:List α} (h:(scalar enc h1).C w A n xs):ReadsOf enc d w A n xs:=by
 refine⟨h.1,h.2.1,fun hn=>?_⟩;obtain⟨ad,e,hc⟩:=h.2.2 hn;refine⟨ad,e,fun j hj=>?_⟩;have hl:j<xs.length:=by have:=h.1;omega
 obtain⟨c,_,hK,hcell⟩:=hc j _ (List.getElem?_eq_getElem hl);have hK':c=[enc xs[j]]:=hK;subst hK';have:=hcell 0 _ rfl
 simpa [scalar,List.getD_eq_getElem?_getD,List.getElem?_eq_getElem hl] using this
end Kd
namespace Kd
structure Mono {α β:Type} (F:Kd α->Kd β):Prop where
 sz:∀ d d':Kd α,d.sz=d'.sz->(F d).sz=(F d').sz
 K:∀ d d':Kd α,d.sz=d'.sz->(∀ w x cs,d.K w x cs->d'.K w x cs)->∀ w x cs,(F d).K w x cs->(F d').K w x cs
 M:∀ d d':Kd α,d.sz=d'.sz->(∀ w base ok x cs,d.M w base ok x cs->d'.M w base ok x cs)->∀ w base ok x cs,(F d).M w base ok x cs->(F d').M w base ok x cs
section
variable {α:Type} {F:Kd α->Kd α} {sz:Nat} {E:List Nat} {hs:∀ n,(upto F sz E n).sz=sz} {hE:∀ n q,q ∈ (upto F sz E n).E->q ∈ E}
end
end Kd
namespace Kd
theorem R_after {α:Type} {d:Kd α} {e base:Nat} {ok:Nat->Prop} {W w1:World} {u v v1:Value} {xs:List α} (h:d.R e W base (fun k=>ok k/\some k≠v.ownBlock) u xs) (hg:W.grownBy w1 v.ownBlock) (hat:v1.ownBlock=v.ownBlock\/∃ b,v1.ownBlock=some b/\W.heap.size<=b):d.R e w1 base (fun k=>ok k/\some k≠v1.ownBlock) u xs:=by
 refine R_mono (R_move (R_bound h) (fun k hk=>hg.block k hk.2.2.1 hk.1.2)) (fun k hk=>⟨hk.1.1,?_⟩);rcases hat with hat|⟨b,hb,hle⟩
 .rw [hat];exact hk.1.2
 .rw [hb];intro he;injection he with he
  have:=hk.2.2.1;omega
end Kd
namespace Kd
section
variable {α β:Type} {d:Kd α} {d':Kd β} {e e':Nat} {w w1 W:World} {base b b':Nat} {ok ok' okv oku:Nat->Prop} {v u:Value} {xs:List α} {ys:List β}
theorem R_alloc (h:d.R e w base ok v xs) (o:Obj):d.R e (w.alloc o) base ok v xs:=R_below h (qaj (Below.refl _ _) o)
theorem R_drew (h:d.R e w base ok v xs):d.R e w.drew base ok v xs:=R_below h (below_drew (Below.refl _ _))
theorem R_drewN (h:d.R e w base ok v xs) (m:Nat):d.R e (w.drewN m) base ok v xs:=R_below h (qaf (Below.refl _ _) m)
theorem C_alloc {A:Option Addr} {n:Nat} (h:d.C w A n xs) (o:Obj):d.C (w.alloc o) A n xs:=C_below h (qaj (Below.refl _ _) o)
theorem C_drew {A:Option Addr} {n:Nat} (h:d.C w A n xs):d.C w.drew A n xs:=C_below h (below_drew (Below.refl _ _))
theorem C_drewN {A:Option Addr} {n:Nat} (h:d.C w A n xs) (m:Nat):d.C (w.drewN m) A n xs:=C_below h (qaf (Below.refl _ _) m)
theorem C_nil (d:Kd α) (w:World):d.C w none ([]:List α).length []:=⟨rfl,by simp,fun h=>absurd h (Nat.lt_irrefl 0)⟩
theorem R_reads' {A:Option Addr} {n c:Nat} (h:d.R e w base ok (.slice A n c) xs):n=xs.length/\n<=c/\d.C w A xs.length xs:=by
 obtain⟨A',c',he,hl,hr⟩:=R_reads h;injection he with h1 h2 h3
 subst h1;exact⟨h2,by omega,hr⟩
theorem R_lt (h:d.R e w base ok v xs):∀ k,v.ownBlock=some k->k<w.heap.size:=by
 obtain⟨inner,ho⟩:=R_own h;exact own_lt ho
theorem R_base (h:d.R e w base ok v xs):∀ k,v.ownBlock=some k->base<=k:=by
 obtain⟨inner,ho⟩:=R_own h;exact own_base ho
end
section
variable {w W:World} {A:Option Addr} {n:Nat}
theorem at_int {k:IntKind} {xs:List Int} (h:(Kd.int k).C w A n xs) (i:Int) (h0:0<=i) (h1:i<n):∃ ad,A=some ad/\w.cell? (ad.add i.toNat)=some (.int k (rd xs i)):=
 ReadsOf.at_ (reads_of_C (enc:=Value.int k) (d:=(0:Int)) (h1:=fun _=>rfl) h) i h0 h1
variable {α:Type} {enc:α->Value} {h1:∀ x,(enc x).oneCell' = true} {e base g cap:Nat} {ok:Nat->Prop} {xs:List α}
end
section
variable {P:Program} {ops:Array Oper} {rest:List Oper} {o:Oper} {a:Act} {Q:Exit->Act->World->Prop}
theorem event_run {W w1:World} {v:Value} (hgd:o.guard=none) (hrun:(execOp a.eval o).run P W=.ok (.value v) w1) (h:wpList P ops Q rest (a.put o.dst v) w1):wpList P ops Q (o::rest) a W:=by
 refine wpList_plain hgd fun K hK=>?_
 unfold Oper.wp;rw [hrun];exact hK _ _ h
variable {α:Type}
theorem R_lit (d:Kd α) {w0 W:World} (base e:Nat) (hgd:o.guard=none) {N:Tmp} (_hd:o.dst=some N) {xs:List α} {inner:List Value} {ok okp:Nat->Prop}
  (hrun:(execOp a.eval o).run P W=.ok (.value (.slice (some ⟨W.heap.size,0,none⟩) xs.length xs.length)) (W.alloc (.cells inner.toArray e)))
  (hrep:Reps (d.M W base okp) d.sz xs inner) (hok:∀ k,okp k->ok k) (hfresh:ok W.heap.size) (HB:Below base w0 W) (hbase:base<=W.heap.size) (hm:xs.length<=9223372036854775807)
  (h:∀ v1 w1,d.R e w1 base ok v1 xs->Below base w0 w1->W.grownBy w1 none->(∃ b,v1.ownBlock=some b/\W.heap.size<=b)->wpList P ops Q rest (a.put o.dst v1) w1):wpList P ops Q (o::rest) a W:=by
 refine event_run hgd hrun (h _ _ ⟨fun k hk=>?_,inner,?_,?_⟩ (HB.alloc hbase _) (World.grownBy_alloc W _ none) ⟨W.heap.size,by simp [Value.ownBlock],Nat.le_refl _⟩)
 .have:W.heap.size=k:=by simpa [Value.ownBlock] using hk
  subst this;exact hfresh
 .have h2:=World.ownsRow_lit (base:=base) (e:=e) (size:=d.sz) W inner.toArray xs.length hbase (by simpa [maxLen] using hm) (by simpa using hrep.1)
  simpa using h2
 .refine hrep.imp_ (fun p c hp=>d.M_mono (fun k hk=>⟨hok k hk.1,fun he=>?_⟩) (M_below (d.M_bound hp) (qaj (Below.refl _ _) _)));have h3:k=W.heap.size:=by simpa [Value.ownBlock] using he
  have:=hk.2.2.1;omega
end
end Kd
section
variable {P:Program}
theorem cut_to (t e:TypeId) (kh:IntKind) {i:TypeInfo} (ht:P.underlying t=some (.slice e)) (hi:P.info? e=some i) (A:Option Addr) (n c:Nat) (j:Int) (h0:0<=j) (hm:j<=n) (hc:n<=c) :
  ∀ W:World,(Instr.slice t (.slice A n c) none (some (.int kh j)) none).run P W=.ok (.slice A j.toNat c) W:=by
 intro W;have hel:P.elem t=e:=by simp [Program.elem,ht]
 have hu:P.underlying t=some (.slice (P.elem t)):=by rw [hel];exact ht
 have ha:(A.map fun x=>x.add 0)=A:=by cases A<;>simp [Addr.add]
 rw [run_slice_h W t A n c hu kh j h0 (by omega),hel];simp [sizeOf,typeInfo,hi,sliced,Result.andThen,ha]
theorem cut_from (t e:TypeId) (kl:IntKind) {i:TypeInfo} (ht:P.underlying t=some (.slice e)) (hi:P.info? e=some i) (size:Nat) (hsz:i.size=size) (A:Option Addr) (n c:Nat) (j:Int) (h0:0<=j) (hm:j<=n) :
  ∀ W:World,(Instr.slice t (.slice A n c) (some (.int kl j)) none none).run P W=.ok (.slice (if c=j.toNat then A else A.map (·.add (j.toNat * size))) (n - j.toNat) (c - j.toNat)) W:=by
 intro W;have hel:P.elem t=e:=by simp [Program.elem,ht]
 have hu:P.underlying t=some (.slice (P.elem t)):=by rw [hel];exact ht
 rw [run_slice_l W t A n c hu kl j h0 hm,hel];simp [sizeOf,typeInfo,hi,hsz,sliced,Result.andThen]
end
def QRow (w:World) (base:Nat) (e:TypeId) (size:Nat) (v:Value) (n:Nat) (xs:List Value):Prop:=
 xs.length=n * size /\
 ((n=0/\∃ A,v=.slice A 0 0/\∀ a,A=some a->base<=a.block/\∃ cur,w.heap[a.block]? = some (.cells cur e (0,0))) \/
  ∃ g off cap cur,v=.slice (some ⟨g,off * size,none⟩) n cap/\base<=g/\w.heap[g]? = some (.cells cur e (0,0))/\n<=cap/\off+cap<=maxLen/\cur.size=(off+cap) * size/\(cur.toList.drop (off * size)).take (n * size)=xs)
section
variable {w w1:World} {base n size:Nat} {e:TypeId} {v:Value} {xs:List Value}
theorem q_of_own (h:w.ownsRow base e size v n xs):QRow w base e size v n xs:=by
 obtain⟨h1,h2⟩:=h;refine⟨h1,?_⟩;rcases h2 with ⟨rfl,h0⟩|⟨g,cap,cur,rfl,hb,hh,hnc,hcm,hcs,ht⟩
 .exact .inl ⟨h0,none,rfl,fun a ha=>by cases ha⟩
 .exact .inr ⟨g,0,cap,cur,by rw [Nat.zero_mul],hb,hh,hnc,by rw [Nat.zero_add];exact hcm,by rw [Nat.zero_add];exact hcs,by rw [Nat.zero_mul,List.drop_zero];exact ht⟩
theorem add_at (g o j:Nat):(⟨g,o,none⟩:Addr).add j=⟨g,o+j,none⟩:=by unfold Addr.add;split<;>simp_all
end
section
variable {P:Program}
end
namespace Kd
def Q {α:Type} (d:Kd α) (e:Nat) (w:World) (base:Nat) (ok:Nat->Prop) (v:Value) (xs:List α):Prop:=
 (∀ k,v.ownBlock=some k->ok k)/\∃ inner,QRow w base e d.sz v xs.length inner/\Reps (d.M w base (fun k=>ok k/\some k≠v.ownBlock)) d.sz xs inner
section
variable {α:Type} {d:Kd α} {e:Nat} {w w1 W:World} {base:Nat} {ok ok':Nat->Prop} {v:Value} {xs:List α}
theorem Q_of_R (h:d.R e w base ok v xs):d.Q e w base ok v xs:=by
 obtain⟨h0,inner,ho,hr⟩:=h;exact⟨h0,inner,q_of_own ho,hr⟩
theorem Q_nil (d:Kd α) (e:Nat) (w:World) (base:Nat) (ok:Nat->Prop):d.Q e w base ok (.slice none 0 0) []:=Q_of_R (R_nil d e w base ok)
end
section
variable {P:Program} {ops:Array Oper} {rest:List Oper} {o:Oper} {a:Act} {Q':Exit->Act->World->Prop} {Kc:Act->World->Prop} {α:Type}
end
end Kd
namespace Kd
section
variable {α:Type} {d:Kd α} {e e':Nat} {w w1 W:World} {base:Nat} {ok:Nat->Prop} {u v:Value} {xs:List α}
theorem R_typed (h:d.R e w base ok v xs):∀ k,v.ownBlock=some k->∃ cells,w.heap[k]? = some (.cells cells e (0,0)):=by
 obtain⟨inner,ho⟩:=R_own h;exact fun k hk=>own_typed ho k hk
theorem R_over' (h:d.R e W base ok u xs) (hty:∀ k,v.ownBlock=some k->∃ cells,W.heap[k]? = some (.cells cells e' (0,0))) (ht:∀ q,q ∈ e::d.E->q≠e') (hg:W.grownBy w1 v.ownBlock):d.R e w1 base ok u xs:=by
 refine R_mono (R_move (R_bound h) (fun k hk=>hg.block k hk.2.2.1 (fun he=>?_))) (fun _ hk=>hk.1);obtain⟨_,_,_,q,hq,cells,hc⟩:=hk;obtain⟨cells',hc'⟩:=hty k he.symm;rw [hc] at hc';injection hc' with hc'
 injection hc' with _ hc'
 exact ht q hq hc'
theorem R_apart' (h:d.R e W base ok u xs) (hty:∀ k,v.ownBlock=some k->∃ cells,W.heap[k]? = some (.cells cells e' (0,0))) (ht:∀ q,q ∈ e::d.E->q≠e'):d.R e W base (fun k=>ok k/\some k≠v.ownBlock) u xs:=by
 refine R_mono (R_bound h) (fun k hk=>⟨hk.1,fun he=>?_⟩);obtain⟨_,_,_,q,hq,cells,hc⟩:=hk;obtain⟨cells',hc'⟩:=hty k he.symm;rw [hc] at hc';injection hc' with hc'
 injection hc' with _ hc'
 exact ht q hq hc'
theorem R_elder' (hu:d.R e W base ok u xs) (hbase:∀ k,v.ownBlock=some k->W.heap.size<=k) (hb:Below W.heap.size W w1):d.R e w1 base (fun k=>ok k/\some k≠v.ownBlock) u xs:=
 R_mono (R_move (R_bound hu) (fun k hk=>hb.block k hk.2.2.1)) (fun k hk=>⟨hk.1,fun he=>by have:=hbase k he.symm;have:=hk.2.2.1;omega⟩)
theorem R_new' (h:d.R e w1 W.heap.size ok v xs) (hlt:∀ k,u.ownBlock=some k->k<W.heap.size):d.R e w1 W.heap.size (fun k=>ok k/\some k≠u.ownBlock) v xs:=
 R_mono (R_bound h) (fun k hk=>⟨hk.1,fun he=>by have:=hlt k he.symm;have:=hk.2.1;omega⟩)
theorem fresh' (hlt:∀ k,u.ownBlock=some k->k<W.heap.size):∀ k,W.heap.size<=k->some k≠u.ownBlock:=fun k hk he=>by have:=hlt k he.symm;omega
end
end Kd
namespace Kd
section
variable {α:Type} {d:Kd α} {e base g n cap:Nat} {ok okp:Nat->Prop} {W:World} {xs:List α}
theorem R_elem (h:d.R e W base ok (.slice (some ⟨g,0,none⟩) n cap) xs) (z:α) (i:Int) (h0:0<=i) (h1:i<n) :
  ∃ c,c.length=d.sz/\d.M W base (fun k=>ok k/\k≠g) (xs.getD i.toNat z) c/\(∀ j u,c[j]? = some u->W.cell? ⟨g,i.toNat * d.sz+j,none⟩=some u)/\∀ j,W.frozen? ⟨g,i.toNat * d.sz+j,none⟩=false:=by
 obtain⟨hn,hnc,hC⟩:=R_reads' h;obtain⟨_,inner,ho,hr⟩:=h;have hil:i.toNat<xs.length:=by omega
 have hseg:i.toNat * d.sz+d.sz<=inner.length:=by rw [hr.1,<- Nat.succ_mul];exact Nat.mul_le_mul_right _ hil
 have hM:=hr.2 i.toNat _ (List.getElem?_eq_getElem hil);refine⟨(inner.drop (i.toNat * d.sz)).take d.sz,by rw [List.length_take,List.length_drop];omega,?_,fun j u hu=>?_,fun j=>?_⟩
 .rw [List.getD_eq_getElem?_getD,List.getElem?_eq_getElem hil];exact d.M_mono (fun k hk=>⟨hk.1,fun he=>hk.2 (by rw [he];simp [Value.ownBlock])⟩) hM
 .rw [List.getElem?_take] at hu;split at hu
  .rw [List.getElem?_drop] at hu;have:=ho.cells (g:=g) (by simp [Value.ownBlock]) _ u hu
   rwa [add_plain] at this
  .cases hu
 .obtain⟨cells,hc⟩:=own_typed ho g (by simp [Value.ownBlock]);exact qam hc _
end
end Kd
namespace Kd
section
variable {α:Type} {F:Kd α->Kd α} {sz:Nat} {E:List Nat} {hs:∀ n,(upto F sz E n).sz=sz} {hE:∀ n q,q ∈ (upto F sz E n).E->q ∈ E}
end
end Kd
namespace Kd
theorem reps_append {α:Type} {R:α->List Value->Prop} {size:Nat} {ps qs:List α} {cs ds:List Value} (h:Reps R size ps cs) (h':Reps R size qs ds):Reps R size (ps++qs) (cs++ds):=by
 refine⟨by rw [List.length_append,List.length_append,h.1,h'.1,Nat.add_mul],fun j p hj=>?_⟩;rcases Nat.lt_or_ge j ps.length with hlt|hge
 .rw [List.getElem?_append_left hlt] at hj;have hle:j * size+size<=cs.length:=by rw [h.1,<- Nat.succ_mul];exact Nat.mul_le_mul_right _ hlt
  rw [List.drop_append_of_le_length (by omega),List.take_append_of_le_length (by rw [List.length_drop];omega)];exact h.2 j p hj
 .rw [List.getElem?_append_right hge] at hj;have h2:=h'.2 (j - ps.length) p hj;have hle:ps.length * size<=j * size:=Nat.mul_le_mul_right _ hge;rw [List.drop_append,List.drop_eq_nil_of_le (by rw [h.1];exact hle),List.nil_append,h.1,<- Nat.sub_mul];exact h2
section
variable {P:Program} {ops:Array Oper} {rest:List Oper} {o:Oper} {a:Act} {Q:Exit->Act->World->Prop} {α:Type}
theorem R_append_rows (d:Kd α) {Rr:α->List Value->Prop} {w0 W:World} (base:Nat) (hgd:o.guard=none) (s x:Operand) (t e:TypeId) (z:Value) (bytes:Nat)
  (ho:o.op=.call { callee:=.builtin .append,args:=#[s,x],argTypes:=#[t,t] })
  (ht:P.underlying t=some (.slice e)) (hinfo:(P.info? e).map (fun i=>(i.zero,i.size,i.bytes))=some (some z,d.sz,bytes)) (hz:z.cells.size=d.sz) (hs0:0<d.sz) (hb0:0<bytes)
  (v:Value) (xs ys:List α) (A:Option Addr) (m c:Nat) (ok okp:Nat->Prop) (hs:a.eval s=v) (hx:a.eval x=.slice A m c)
  (HO:d.R e W base ok v xs) (HR:qaQ Rr d.sz W A m ys) (hKM:∀ x cs,Rr x cs->d.M W base okp x cs) (hokp:∀ k,okp k->ok k/\some k≠v.ownBlock) (hfresh:∀ k,W.heap.size<=k->ok k)
  (HB:Below base w0 W) (hbase:base<=W.heap.size) (hl:(xs.length+m) * bytes<=140737488355328)
  (h:∀ v1 w1,d.R e w1 base ok v1 (xs++ys)->Below base w0 w1->W.grownBy w1 v.ownBlock->(v1.ownBlock=v.ownBlock\/∃ b,v1.ownBlock=some b/\W.heap.size<=b)->wpList P ops Q rest (a.put o.dst v1) w1) :
  wpList P ops Q (o::rest) a W:=by
 obtain⟨i0,hi,hzz⟩:=Option.map_eq_some_iff.1 hinfo;simp only [Prod.mk.injEq] at hzz;obtain⟨hz0,hz1,hz2⟩:=hzz;have hm:ys.length=m:=HR.1;have hlen:xs.length+m<=140737488355328:=Nat.le_trans (Nat.le_mul_of_pos_right _ hb0) hl;obtain⟨hok,inner,hown,hr⟩:=HO;have hrun:∃ v1 w1,(Builtin.append_ #[t,t] o.type #[v,.slice A m c]).run P W=.ok v1 w1/\d.R e w1 base ok v1 (xs++ys)/\W.grownBy w1 v.ownBlock/\(v1.ownBlock=v.ownBlock\/∃ b,v1.ownBlock=some b/\W.heap.size<=b):=by
  rcases A with _|ad
  .have h0:m=0:=by
    rcases Nat.eq_zero_or_pos m with h0|h0
    .exact h0
    .obtain⟨ad,h,_⟩:=HR.2.2 h0;cases h
   subst h0;obtain rfl:ys=[]:=List.eq_nil_of_length_eq_zero hm;refine⟨v,W,?_,by rw [List.append_nil];exact⟨hok,inner,hown,hr⟩,World.grownBy.refl W _,.inl rfl⟩;rcases hown.2 with ⟨rfl,hn⟩|⟨g,cap,cur,rfl,_,_,hnc,_⟩
   .simp [Builtin.append_,run_underlying ht,sizeOf,typeInfo,hi,Builtin.lenOf,Builtin.firstCells]
   .simp [Builtin.append_,run_underlying ht,sizeOf,typeInfo,hi,Builtin.lenOf,Builtin.firstCells,hnc,storeCells]
  .obtain⟨news,hnr,hnc⟩:=qaQ.inner_ HR;have hnM:Reps (d.M W base okp) d.sz ys news:=hnr.imp_ (fun p c hp=>hKM p c hp);have hone:∀ u ∈ news,u.oneCell' = true:=by
    intro u hu;obtain⟨q,hq,rfl⟩:=List.mem_iff_getElem.1 hu;have hql:q / d.sz<ys.length:=by
     rw [Nat.div_lt_iff_lt_mul hs0];rw [<- hnM.1];exact hq
    have hc:=hnM.2 (q / d.sz) _ (List.getElem?_eq_getElem hql);refine d.K_one (d.K_of_M hc) _ ?_;rw [List.mem_iff_getElem?];refine⟨q % d.sz,?_⟩;rw [List.getElem?_take,if_pos (Nat.mod_lt _ hs0),List.getElem?_drop,Nat.mul_comm,Nat.div_add_mod,List.getElem?_eq_getElem hq]
   obtain⟨v1,w1,hrun,h2,hg,_,hat⟩:=run_append_own_at (P:=P) W base t o.type e i0 z d.sz bytes ht hi hz0 hz1 hz2 hz hs0 v xs.length inner hown ad m c news (by rw [hnM.1,hm]) hnc hone (by simp only [maxLen];omega) hl hbase;have hat':v1.ownBlock=v.ownBlock\/∃ b,v1.ownBlock=some b/\W.heap.size<=b:=by
    rcases hat with hat|hat
    .exact .inl hat
    .exact .inr ⟨_,hat,Nat.le_refl _⟩
   have hne:∀ k,some k≠v.ownBlock->k<W.heap.size->some k≠v1.ownBlock:=by
    intro k hk hlt;rcases hat' with hat|⟨b,hb,hle⟩
    .rw [hat];exact hk
    .rw [hb];intro he;injection he with he
     omega
   have step:∀ {q:α} {c:List Value} {o:Nat->Prop},d.M W base o q c->(∀ k,o k->ok k/\some k≠v.ownBlock)->d.M w1 base (fun k=>ok k/\some k≠v1.ownBlock) q c:=by
    intro q c o hq ho;have h1:=d.M_move (w1:=w1) (fun k hk=>hg.block k hk.2.2.1 (ho k hk.1).2) (d.M_bound hq);exact d.M_mono (fun k hk=>⟨(ho k hk.1).1,hne k (ho k hk.1).2 hk.2.2.1⟩) h1
   refine⟨v1,w1,hrun,⟨fun k hk=>?_,inner++news,by rw [List.length_append,hm];exact h2,reps_append (hr.imp_ (fun _ _ hq=>step hq (fun _ hk=>hk))) (hnM.imp_ (fun _ _ hq=>step hq hokp))⟩,hg,hat'⟩;rcases hat' with hat|⟨b,hb,hle⟩
   .exact hok k (hat ▸ hk)
   .rw [hb] at hk;injection hk with hk
    exact hfresh k (by omega)
 obtain⟨v1,w1,hr1,h1,hg,hat⟩:=hrun;refine wpList_plain hgd fun K hK=>?_
 unfold Oper.wp execOp;simp only [ho,resolve,invoke,builtin,Sem.run_bind,Sem.run_pure,Result.andThen_ok,List.map_toArray,List.map_cons,List.map_nil,hs,hx,hr1];exact hK _ _ (h v1 w1 h1 (HB.grown hg hbase (own_base hown)) hg hat)
end
end Kd
namespace Kd
section
variable {P:Program} {ops:Array Oper} {rest:List Oper} {o:Oper} {a:Act} {Q:Exit->Act->World->Prop} {α:Type}
end
end Kd
theorem add_add (a:Addr) (i j:Nat):(a.add i).add j=a.add (i+j):=by
 unfold Addr.add;by_cases h1:i=0<;>by_cases h2:j=0<;>simp [h1,h2,Nat.add_assoc]
namespace Kd
section
variable {α:Type} {k:Kd α} {w:World} {A:Option Addr} {xs:List α} {m c:Nat}
theorem C_take (h:k.C w A xs.length xs) (hm:m<=xs.length):k.C w A (xs.take m).length (xs.take m):=by
 have hl:(xs.take m).length=m:=by rw [List.length_take];omega
 refine⟨rfl,by rw [hl];have:=h.2.1;omega,fun hp=>?_⟩;obtain⟨ad,e,hc⟩:=h.2.2 (by omega);refine⟨ad,e,fun j p hj=>hc j p ?_⟩;rw [List.getElem?_take] at hj;split at hj
 .exact hj
 .cases hj
theorem C_drop (h:k.C w A xs.length xs) (hm:m<=xs.length) (hc:xs.length<=c):k.C w (if c=m then A else A.map (·.add (m * k.sz))) (xs.drop m).length (xs.drop m):=by
 have hl:(xs.drop m).length=xs.length - m:=List.length_drop;refine⟨rfl,by rw [hl];have:=h.2.1;omega,fun hp=>?_⟩;rw [hl] at hp;obtain⟨ad,rfl,hcell⟩:=h.2.2 (by omega);rw [if_neg (by omega)];refine⟨ad.add (m * k.sz),rfl,fun j p hj=>?_⟩;rw [List.getElem?_drop] at hj;obtain⟨cs,h1,h2,h3⟩:=hcell (m+j) p hj;refine⟨cs,h1,h2,fun i u hu=>?_⟩;rw [add_add,show m * k.sz+(j * k.sz+i)=(m+j) * k.sz+i by rw [Nat.add_mul];omega];exact h3 i u hu
end
end Kd
section
variable {P:Program}
end
theorem qab {w W:World} (h:Below w.heap.size w W):w.heap.size<=W.heap.size:=h.size
theorem qag {w W w2:World} (h:Below w.heap.size w W) (k:Below W.heap.size W w2):Below w.heap.size w w2:=below_then h h.size k
theorem qbd.nil (W:World) (k:IntKind):qbd W k none ([]:List Int).length []:=⟨rfl,by simp,fun h=>absurd h (Nat.lt_irrefl 0)⟩
theorem qbd.drewN {W:World} {k:IntKind} {A:Option Addr} {n:Nat} {xs:List Int} (h:qbd W k A n xs) (m:Nat):qbd (W.drewN m) k A n xs:=h
theorem qad {w W:World} {g j:Nat} {v:Value} (h:Below w.heap.size w W) (hg:w.heap.size<=g):Below w.heap.size w (W.setCell ⟨g,j,none⟩ v):=h.setCell hg _
theorem add_block (a:Addr) (i:Nat):(a.add i).block=a.block:=by unfold Addr.add;split<;>rfl
theorem ReadsOf.nil {α:Type} (enc:α->Value) (d:α) (W:World):ReadsOf enc d W none ([]:List α).length []:=⟨rfl,by simp,fun h=>absurd h (Nat.lt_irrefl 0)⟩
theorem ReadsOf.drewN {α:Type} {enc:α->Value} {d:α} {W:World} {A:Option Addr} {n:Nat} {xs:List α} (h:ReadsOf enc d W A n xs) (m:Nat):ReadsOf enc d (W.drewN m) A n xs:=h
theorem qar {W:World} {p a:Addr} (h:a.block≠p.block) (u:Value):(W.setCell p u).cell? a=W.cell? a:=by
 have:=Below.heap_setCell W p u a.block h;simp [World.cell?,this]
theorem qal {w:World} {g:Nat} {t:TypeId} {cs cs':Array Value} (h:w.heap[g]? = some (.cells cs t (0,0))) (i:Nat) (u:Value) (e:cs.setIfInBounds i u=cs'):(w.setCell ⟨g,i,none⟩ u).heap[g]? = some (.cells cs' t (0,0)):=e ▸ blk_set h i u
theorem own_cap {W:World} {base n c:Nat} {e:TypeId} {size:Nat} {A:Option Addr} {xs:List Value} (h:W.ownsRow base e size (.slice A n c) n xs):n<=c:=by
 rcases h.2 with ⟨h1,h2⟩|⟨g,cap,cur,h1,_,_,h2,_⟩
 .injection h1 with _ h3 h4
  omega
 .injection h1 with _ _ h4
  omega
theorem qai {base:Nat} {w W:World} (h:Below base w W):Below base w W.drew:=h.drew
namespace Kd
section
variable {α β:Type} {d:Kd α} {d':Kd β} {e e' base base' n:Nat} {ok ok':Nat->Prop} {w W w1 W1:World} {v u:Value} {xs:List α} {ys:List β} {A:Option Addr} {c:Nat}
end
section
variable {α:Type} {enc:α->Value} {h1:∀ x,(enc x).oneCell' = true} {w W:World} {A:Option Addr} {n g:Nat} {xs:List α}
end
end Kd
namespace Kd
section
variable {α:Type} {d:Kd α} {e base g:Nat} {ok:Nat->Prop} {w w1:World} {v:Value} {xs:List α} {o:Obj}
theorem freshB (hb:w.heap[g]? = some o):∀ k,w.heap.size<=k->k≠g:=fun k hk=>by have:=blk_lt hb;omega
end
end Kd
section
variable {P:Program} {ops:Array Oper} {rest:List Oper} {o:Oper} {a:Act} {Q:Exit->Act->World->Prop}
theorem qaq {W:World} (hgd:o.guard=none) {N:Tmp} (_hd:o.dst=some N) {cs:Array Value} {t:TypeId}
  (hrun:(execOp a.eval o).run P W=.ok (.value (.pointer (some ⟨W.heap.size,0,none⟩))) (W.alloc (.cells cs t (0,0))))
  (h:∀ g,g=W.heap.size->∀ w1,w1.heap[g]? = some (.cells cs t (0,0))->Below W.heap.size W w1->wpList P ops Q rest (a.put o.dst (.pointer (some ⟨g,0,none⟩))) w1):wpList P ops Q (o::rest) a W:=
 Kd.event_run hgd hrun (h _ rfl _ (blk_new W _) (qaj (Below.refl _ _) _))
end
namespace Kd
section
variable {α:Type} {enc:α->Value} {h1:∀ x,(enc x).oneCell' = true} {e base g n cap:Nat} {ok:Nat->Prop} {W:World} {xs:List α}
end
end Kd
section
variable {P:Program} {ops:Array Oper} {rest:List Oper} {o:Oper} {a:Act} {Q:Exit->Act->World->Prop}
theorem store_event {W w1:World} (hgd:o.guard=none) {t:TypeId} {p:Tmp} {v:Operand} (_ho:o.op=.store t (.tmp p) v) (hN:o.dst=none)
  (hrun:(execOp a.eval o).run P W=.ok .skip w1) (h:∀ w',w' = w1->wpList P ops Q rest a w'):wpList P ops Q (o::rest) a W:=by
 refine wpList_plain hgd fun K hK=>?_
 unfold Oper.wp;rw [hrun];show K (a.put o.dst undef) w1;rw [hN];exact hK _ _ (h _ rfl)
end
namespace Kd
section
variable {α:Type} {enc:α->Value} {h1:∀ x,(enc x).oneCell' = true} {e base g n cap:Nat} {ok:Nat->Prop} {W:World} {xs:List α}
end
end Kd
section
variable {P:Program} {ops:Array Oper} {rest:List Oper} {o:Oper} {a:Act} {Q:Exit->Act->World->Prop} {W:World}
theorem qas {N:Tmp} (_hN:o.dst=some N) (h:wpList P ops Q (o::rest) a W):wpList P ops Q (o::rest) a W:=h
theorem gate_store {t:TypeId} {p:Tmp} {v:Operand} (_ho:o.op=.store t (.tmp p) v) (h:wpList P ops Q (o::rest) a W):wpList P ops Q (o::rest) a W:=h
end
section
variable {P:Program} {ops:Array Oper} {o:Oper} {a:Act} {Q:Exit->Act->World->Prop} {Kc:Act->World->Prop}
theorem event_step {W w1:World} {v:Value} (hw:Region.wanted o (yielded ops a.tmps)=true) (hrun:(execOp a.eval o).run P W=.ok (.value v) w1) (h:Kc (a.put o.dst v) w1):if Region.wanted o (yielded ops a.tmps)=true then Oper.wp P o a W Kc Q else Kc (a.put o.dst undef) W:=by
 rw [if_pos hw];unfold Oper.wp;rw [hrun];exact h
theorem box_step {W:World} (hw:Region.wanted o (yielded ops a.tmps)=true) {N:Tmp} (_hd:o.dst=some N) {cs:Array Value} {t:TypeId}
  (hrun:(execOp a.eval o).run P W=.ok (.value (.pointer (some ⟨W.heap.size,0,none⟩))) (W.alloc (.cells cs t (0,0))))
  (h:∀ g,g=W.heap.size->∀ w1,w1.heap[g]? = some (.cells cs t (0,0))->Below W.heap.size W w1->Kc (a.put o.dst (.pointer (some ⟨g,0,none⟩))) w1):if Region.wanted o (yielded ops a.tmps)=true then Oper.wp P o a W Kc Q else Kc (a.put o.dst undef) W:=
 event_step hw hrun (h _ rfl _ (blk_new W _) (qaj (Below.refl _ _) _))
namespace Kd
variable {α:Type}
end Kd
end
inductive Vals (P:Program) (tmps:Array Value) (w:World):List ResultVar->List Value->Prop where
 |nil:Vals P tmps w [] []
 |tmp {u:Tmp} {rs:List ResultVar} {vs:List Value} (h:Vals P tmps w rs vs):Vals P tmps w (.tmp u::rs) (tmps.getD u undef::vs)
 |cell {p:Tmp} {ty:TypeId} {rs:List ResultVar} {vs:List Value} (g:Nat) (t:TypeId) (cs:Array Value) (fr:Nat × Nat) (d:TypeDesc)
   (hp:tmps.getD p undef=.pointer (some ⟨g,0,none⟩)) (hg:w.heap[g]? = some (.cells cs t fr))
   (hu:P.underlying ty=some d) (hd:(match d with|.struct _|.array _ _=>true|_=>false)=true) (hi:(P.info? ty).map (·.size)=some cs.size)
   (h:Vals P tmps w rs vs):Vals P tmps w (.cell p ty::rs) (.agg cs::vs)
section
variable {P:Program} {tmps:Array Value} {w:World}
end
namespace Kd
section
variable {P:Program} {α:Type}
end
section
variable {P:Program} {ops:Array Oper} {rest:List Oper} {o:Oper} {a:Act} {Q:Exit->Act->World->Prop} {Kc:Act->World->Prop} {α:Type}
end
end Kd
end Go.Proofs.YtgnaaokhfpfglaaGreatDoorW.PrintWords
end
section
namespace Go.Proofs.YtgnaaokhfpfglaaGreatDoorW.PrintLast
section
variable {P:Program} {ops:Array Oper} {Q:Exit->Act->World->Prop} {md:Region.Mode} {S:World->Prop} {ds:List Nat}
def Region.reachB (md:Region.Mode) (ops:Array Oper) (i:Nat):Nat->Nat->Bool
 |0,_=>false
 |fuel+1,d=>match ops[d]? with
  |some o=>o.after.any fun e=>Region.binds md e && (e.on == i || Region.reachB md ops i fuel e.on)
  |none=>false
def Region.closedB (md:Region.Mode) (ops:Array Oper) (listed:Array Bool):Bool:=
 (List.range ops.size).all fun j=>!listed.getD j false || match ops[j]? with
  |some o=>o.after.all fun e=>!Region.binds md e || listed.getD e.on false
  |none=>true
def Region.lastB (md:Region.Mode) (ops:Array Oper) (listed:Array Bool) (ds:List Nat) (i:Nat):Bool:=
 ds.all fun d=>listed.getD d true || Region.reachB md ops i ops.size d
def qa3 (md:Region.Mode) (ops:Array Oper) (listed:Array Bool):Prop:=
 ∀ j oj,ops[j]? = some oj->listed.getD j false=true->∀ e ∈ oj.after,Region.binds md e=true->listed.getD e.on false=true
theorem Region.closedB_spec {listed:Array Bool} (h:Region.closedB md ops listed=true):qa3 md ops listed:=by
 intro j oj hj hl e he hb;have hlt:j<ops.size:=(Array.getElem?_eq_some_iff.1 hj).1;have h1:=List.all_eq_true.1 h j (List.mem_range.2 hlt);simp only [hl,hj,Bool.not_true,Bool.false_or] at h1;have h2:=Array.all_eq_true_iff_forall_mem.1 h1 e he
 simpa [hb] using h2
theorem qa3.set {listed:Array Bool} {i:Nat} (h:qa3 md ops listed) (hi:i ∈ Region.ready md ops listed):qa3 md ops (listed.setIfInBounds i true):=by
 obtain⟨_,oi,hoi,hall⟩:=mem_ready.1 hi;intro j oj hj hl e he hb;by_cases hij:i=j
 .subst hij;have:oj=oi:=Option.some.inj (hj.symm.trans hoi);subst this;exact getD_set_true (hall e he hb)
 .rw [getD_set_ne false hij] at hl;exact getD_set_true (h j oj hj hl e he hb)
theorem Region.reach_listed {listed:Array Bool} {i:Nat} (hc:qa3 md ops listed):∀ (fuel d:Nat),Region.reachB md ops i fuel d=true->listed.getD d false=true->listed.getD i false=true
 |0,_,h,_=>by simp [Region.reachB] at h
 |fuel+1,d,h,hl=>by
  unfold Region.reachB at h;cases ho:ops[d]? with
  |none=>rw [ho] at h;simp at h
  |some o=>
   rw [ho] at h;obtain⟨e,he,h1⟩:=Array.any_eq_true'.1 h;simp only [Bool.and_eq_true,Bool.or_eq_true,beq_iff_eq] at h1;have hle:=hc d o ho hl e he h1.1;rcases h1.2 with h2|h2
   .rw [<- h2];exact hle
   .exact Region.reach_listed hc fuel e.on h2 hle
theorem Region.reach_not_ready {listed:Array Bool} {i d fuel:Nat} (hc:qa3 md ops listed) (hr:Region.reachB md ops i fuel d=true) (hun:listed.getD i true=false):d ∉ Region.ready md ops listed:=by
 intro hd;obtain⟨_,o,ho,hall⟩:=mem_ready.1 hd;have hi:listed.getD i false=true:=by
  cases fuel with
  |zero=>simp [Region.reachB] at hr
  |succ n=>
   unfold Region.reachB at hr;rw [ho] at hr;obtain⟨e,he,h1⟩:=Array.any_eq_true'.1 hr;simp only [Bool.and_eq_true,Bool.or_eq_true,beq_iff_eq] at h1;have hle:=hall e he h1.1;rcases h1.2 with h2|h2
   .rw [<- h2];exact hle
   .exact Region.reach_listed hc n e.on h2 hle
 rcases Nat.lt_or_ge i listed.size with h'|h'
 .simp [h'] at hun hi;rw [hun] at hi;cases hi
 .simp [Array.getElem?_eq_none h'] at hun
def qax (P:Program) (md:Region.Mode) (ops:Array Oper) (Q:Exit->Act->World->Prop) (S:World->Prop) (ds:List Nat):Nat->Array Bool->Act->World->Prop
 |0,listed,a,w=>Region.ready md ops listed=[]/\Q .normal a w
 |fuel+1,listed,a,w=>
  (Region.ready md ops listed=[]->Q .normal a w) /\
  ∀ i ∈ Region.ready md ops listed,wpOp P ops Q i (fun a' w'=>(i ∉ ds->S w->S w')/\qax P md ops Q S ds fuel (listed.setIfInBounds i true) a' w') a w
theorem wpAny_of_last:∀ (fuel:Nat) (listed:Array Bool) (a:Act) (w:World),qax P md ops Q S ds fuel listed a w->wpAny P md ops Q fuel listed a w
 |0,_,_,_,h=>h
 |fuel+1,_,_,_,h=>⟨h.1,fun i hi=>wpOp_mono (fun a' w' h'=>wpAny_of_last fuel _ a' w' h'.2) (h.2 i hi)⟩
theorem wpAnyLast_first {i:Nat} {oi:Oper} {v:Value} (hi:ops[i]? = some oi) (hsel:∀ (j:Nat) (o:Oper) cs b,ops[j]? = some o->o.op≠.select cs b)
  (hQ:∀ c a w,Q (.panic c) (a.put oi.dst v) w->Q (.panic c) a w) (n:Nat) :
  ∀ (fuel:Nat) (listed:Array Bool) (a:Act) (w:World),
   (∀ j oj,ops[j]? = some oj->j≠i->listed.getD j true=false->(∀ e ∈ oj.after,Region.binds md e=true->e.on≠i)->oi.apart ops oj=true) ->
   qa3 md ops listed->(∀ d ∈ ds,listed.getD d true=false->Region.reachB md ops i n d=true) ->
   i ∈ Region.ready md ops listed->YieldsIf P ops S oi v a->S w ->
   qax P md ops Q S ds fuel (listed.setIfInBounds i true) (a.put oi.dst v) w->qax P md ops Q S ds (fuel+1) listed a w:=by
 intro fuel
 induction fuel with
 |zero=>
  intro listed a w _ _ _ hr hy hS H;refine⟨fun h=>(by rw [h] at hr;cases hr),fun j hj=>?_⟩;by_cases hji:j=i
  .subst hji;exact hy.wpOp hi hS ⟨fun _ h=>h,H⟩
  .have:=ready_mono hj hji;rw [H.1] at this;cases this
 |succ fuel ih=>
  intro listed a w hfree hc hd hr hy hS H;refine⟨fun h=>(by rw [h] at hr;cases hr),fun j hj=>?_⟩;by_cases hji:j=i
  .subst hji;exact hy.wpOp hi hS ⟨fun _ h=>h,H⟩
  .have h1:=H.2 j (ready_mono hj hji);obtain⟨hjun,oj,hoj,hall⟩:=mem_ready.1 hj;have hiun:=(mem_ready.1 hr).1;have hnot:∀ e ∈ oj.after,Region.binds md e=true->e.on≠i:=fun e he hb heq=>by
    have h1:=hall e he hb;rw [heq] at h1;rcases Nat.lt_or_ge i listed.size with h'|h'
    .simp [h'] at hiun h1;rw [hiun] at h1;cases h1
    .simp [Array.getElem?_eq_none h'] at h1
   have hjd:j ∉ ds:=fun hm=>Region.reach_not_ready hc (hd j hm hjun) hiun hj
   have h2:=wpOp_putIf hoj (hfree j oj hoj hji hjun hnot) (fun cs b=>hsel i oi cs b hi) (fun cs b=>hsel j oj cs b hoj) hQ hy h1;have hfree':∀ k ok,ops[k]? = some ok->k≠i->(listed.setIfInBounds j true).getD k true=false ->
     (∀ e ∈ ok.after,Region.binds md e=true->e.on≠i)->oi.apart ops ok=true:=fun k ok hk hki hun hno=>by
    refine hfree k ok hk hki ?_ hno;by_cases hjk:j=k
    .subst hjk;exact hjun
    .rw [getD_set_ne true hjk] at hun;exact hun
   have hd':∀ d ∈ ds,(listed.setIfInBounds j true).getD d true=false->Region.reachB md ops i n d=true:=fun d hm hun=>by
    refine hd d hm ?_;by_cases hjk:j=d
    .subst hjk;exact hjun
    .rw [getD_set_ne true hjk] at hun;exact hun
   refine wpOp_mono (fun a' w' h3=>⟨h3.2.1,ih (listed.setIfInBounds j true) a' w' hfree' (hc.set hj) hd' (ready_mono hr (Ne.symm hji)) h3.1 (h3.2.1 hjd hS) ?_⟩) h2;rw [Array.setIfInBounds_comm _ _ hji];exact h3.2.2
theorem wpAnyLast_any {i:Nat} {oi:Oper} {v:Value} (hi:ops[i]? = some oi) (hsel:∀ (j:Nat) (o:Oper) cs b,ops[j]? = some o->o.op≠.select cs b)
  (hQ:∀ c a w,Q (.panic c) (a.put oi.dst v) w->Q (.panic c) a w) :
  ∀ (fuel:Nat) (listed:Array Bool) (a:Act) (w:World),
   (∀ j oj,ops[j]? = some oj->j≠i->listed.getD j true=false->(∀ e ∈ oj.after,Region.binds md e=true->e.on≠i)->oi.apart ops oj=true) ->
   i ∈ Region.ready md ops listed->Yields P ops oi v a ->
   qax P md ops Q S ds fuel (listed.setIfInBounds i true) (a.put oi.dst v) w->qax P md ops Q S ds (fuel+1) listed a w:=by
 intro fuel
 induction fuel with
 |zero=>
  intro listed a w _ hr hy H;refine⟨fun h=>(by rw [h] at hr;cases hr),fun j hj=>?_⟩;by_cases hji:j=i
  .subst hji;exact (hy.yieldsIf (S:=fun _=>True)).wpOp hi trivial ⟨fun _ h=>h,H⟩
  .have:=ready_mono hj hji;rw [H.1] at this;cases this
 |succ fuel ih=>
  intro listed a w hfree hr hy H;refine⟨fun h=>(by rw [h] at hr;cases hr),fun j hj=>?_⟩;by_cases hji:j=i
  .subst hji;exact (hy.yieldsIf (S:=fun _=>True)).wpOp hi trivial ⟨fun _ h=>h,H⟩
  .have h1:=H.2 j (ready_mono hj hji);obtain⟨hjun,oj,hoj,hall⟩:=mem_ready.1 hj;have hiun:=(mem_ready.1 hr).1;have hnot:∀ e ∈ oj.after,Region.binds md e=true->e.on≠i:=fun e he hb heq=>by
    have h1:=hall e he hb;rw [heq] at h1;rcases Nat.lt_or_ge i listed.size with h'|h'
    .simp [h'] at hiun h1;rw [hiun] at h1;cases h1
    .simp [Array.getElem?_eq_none h'] at h1
   have h2:=wpOp_put hoj (hfree j oj hoj hji hjun hnot) (fun cs b=>hsel i oi cs b hi) (fun cs b=>hsel j oj cs b hoj) hQ hy h1;have hfree':∀ k ok,ops[k]? = some ok->k≠i->(listed.setIfInBounds j true).getD k true=false ->
     (∀ e ∈ ok.after,Region.binds md e=true->e.on≠i)->oi.apart ops ok=true:=fun k ok hk hki hun hno=>by
    refine hfree k ok hk hki ?_ hno;by_cases hjk:j=k
    .subst hjk;exact hjun
    .rw [getD_set_ne true hjk] at hun;exact hun
   refine wpOp_mono (fun a' w' h3=>⟨h3.2.1,ih (listed.setIfInBounds j true) a' w' hfree' (ready_mono hr (Ne.symm hji)) h3.1 ?_⟩) h2;rw [Array.setIfInBounds_comm _ _ hji];exact h3.2.2
theorem wpAnyLast_take {i:Nat} {oi:Oper} {v:Value} {fuel:Nat} {listed:Array Bool} {a:Act} {w:World} (hi:ops[i]? = some oi)
  (hs:Region.noSelect ops=true) (hf:Region.free md ops listed i=true) (hr:(Region.ready md ops listed).contains i=true)
  (hc:Region.closedB md ops listed=true) (hl:Region.lastB md ops listed ds i=true)
  (hQ:∀ c a w,Q (.panic c) (a.put oi.dst v) w->Q (.panic c) a w) (hy:YieldsIf P ops S oi v a) (hS:S w)
  (h:qax P md ops Q S ds fuel (listed.setIfInBounds i true) (a.put oi.dst v) w):qax P md ops Q S ds (fuel+1) listed a w:=
 wpAnyLast_first hi (Region.noSelect_spec hs) hQ ops.size fuel listed a w (Region.free_spec hi hf) (Region.closedB_spec hc)
  (fun d hm hun=>by have:=List.all_eq_true.1 hl d hm;rw [hun] at this;simpa using this) (by simpa using hr) hy hS h
theorem wpAnyLast_all {rs:List Nat} {fuel:Nat} {listed:Array Bool} {a:Act} {w:World} (hr:Region.ready md ops listed=rs) (hne:rs≠[])
  (h:∀ i ∈ rs,wpOp P ops Q i (fun a' w'=>(i ∉ ds->S w->S w')/\qax P md ops Q S ds fuel (listed.setIfInBounds i true) a' w') a w):qax P md ops Q S ds (fuel+1) listed a w:=
 ⟨fun h0=>absurd (hr ▸ h0) hne,hr ▸ h⟩
theorem wpAnyLast_done {listed:Array Bool} {a:Act} {w:World} (hr:Region.ready md ops listed=[]) (h:Q .normal a w) :
  ∀ fuel,qax P md ops Q S ds fuel listed a w
 |0=>⟨hr,h⟩
 |_+1=>⟨fun _=>h,by rw [hr];simp⟩
theorem wp_region_last {id:Nat} {a:Act} {w:World} (hm:P.follows .mixedOrders=true)
  (h:qax P .any ops Q S ds ops.size (Array.replicate ops.size false) a { w with drawn:=w.drawn+1 }):(Code.region id ops true).wp P Q a w:=
 wp_region_any hm (wpAny_of_last _ _ _ _ h)
end
section
variable {P:Program} {ops:Array Oper} {Q:Exit->Act->World->Prop} {md:Region.Mode} {S:World->Prop} {ds:List Nat}
def qaN (P:Program) (md:Region.Mode) (ops:Array Oper) (Q:Exit->Act->World->Prop) (S:World->Prop) (ds:List Nat) (fuel:Nat) (listed:Array Bool) (a:Act) (w:World) (rs:List Nat):Prop:=
 ∀ i ∈ rs,wpOp P ops Q i (fun a' w'=>(i ∉ ds->S w->S w')/\qax P md ops Q S ds fuel (listed.setIfInBounds i true) a' w') a w
theorem qaN.nil {fuel:Nat} {listed:Array Bool} {a:Act} {w:World}:qaN P md ops Q S ds fuel listed a w []:=fun _ h=>by cases h
theorem qaN.cons {fuel:Nat} {listed:Array Bool} {a:Act} {w:World} {i:Nat} {o:Oper} {rs:List Nat} (ho:ops[i]? = some o) (hd:i ∉ ds)
  (h:∀ K':Act->World->Prop,Shut (∀ a w,S w->(S w->qax P md ops Q S ds fuel (listed.setIfInBounds i true) a w)->K' a w)->if Region.wanted o (yielded ops a.tmps)=true then Oper.wp P o a w K' Q else K' (a.put o.dst undef) w)
  (hs:qaN P md ops Q S ds fuel listed a w rs):qaN P md ops Q S ds fuel listed a w (i::rs):=fun j hj=>by
 rcases List.mem_cons.1 hj with rfl|hj
 .exact wpOp_step ho (fun K' hK=>h K' (fun a w hS hW=>hK a w ⟨fun _ _=>hS,hW hS⟩))
 .exact hs j hj
theorem qaN.cons_last {fuel:Nat} {listed:Array Bool} {a:Act} {w:World} {i:Nat} {o:Oper} {rs:List Nat} (ho:ops[i]? = some o) (hd:i ∈ ds)
  (h:∀ K':Act->World->Prop,Shut (∀ a w,qax P md ops Q S ds fuel (listed.setIfInBounds i true) a w->K' a w)->if Region.wanted o (yielded ops a.tmps)=true then Oper.wp P o a w K' Q else K' (a.put o.dst undef) w)
  (hs:qaN P md ops Q S ds fuel listed a w rs):qaN P md ops Q S ds fuel listed a w (i::rs):=fun j hj=>by
 rcases List.mem_cons.1 hj with rfl|hj
 .exact wpOp_step ho (fun K' hK=>h K' (fun a w hW=>hK a w ⟨fun hn=>absurd hd hn,hW⟩))
 .exact hs j hj
theorem wpAnyLast_ready {rs:List Nat} {fuel:Nat} {listed:Array Bool} {a:Act} {w:World} (hr:Region.ready md ops listed=rs) (hne:rs≠[])
  (h:qaN P md ops Q S ds fuel listed a w rs):qax P md ops Q S ds (fuel+1) listed a w:=wpAnyLast_all hr hne h
theorem start_ {id n:Nat} {a:Act} {w:World} (l:Array Bool) (hm:P.follows .mixedOrders=true) (hn:ops.size=n) (hl:Array.replicate n false=l) (hS:S w.drew)
  (h:S w.drew->qax P .any ops Q S ds n l a w.drew):(Code.region id ops true).wp P Q a w:=by
 subst hn;subst hl;exact wp_region_last hm (h hS)
def takeB (md:Region.Mode) (ops:Array Oper) (ds:List Nat) (l l':Array Bool) (i:Nat):Bool:=
 Region.noSelect ops && Region.free md ops l i && (Region.ready md ops l).contains i && Region.closedB md ops l && Region.lastB md ops l ds i && (l.setIfInBounds i true == l')
theorem take_ {i:Nat} {N:Option Tmp} {oi:Oper} {v:Value} {fuel:Nat} {l:Array Bool} {a:Act} {w:World} (l':Array Bool) (hi:ops[i]? = some oi) (hN:oi.dst=N) (hc:takeB md ops ds l l' i=true)
  (hQ:∀ c a w,Q (.panic c) (a.put oi.dst v) w->Q (.panic c) a w) (hy:YieldsIf P ops S oi v a) (hS:S w) {a':Act} (ha:a.put N v=a')
  (h:qax P md ops Q S ds fuel l' a' w):qax P md ops Q S ds (fuel+1) l a w:=by
 subst ha;subst hN;simp only [takeB,Bool.and_eq_true,beq_iff_eq] at hc;obtain⟨⟨⟨⟨⟨h1,h2⟩,h3⟩,h4⟩,h5⟩,h6⟩:=hc;subst h6;exact wpAnyLast_take hi h1 h2 h3 h4 h5 hQ hy hS h
def anyB (md:Region.Mode) (ops:Array Oper) (l l':Array Bool) (i:Nat):Bool:=
 Region.noSelect ops && Region.free md ops l i && (Region.ready md ops l).contains i && (l.setIfInBounds i true == l')
theorem pure_ {i:Nat} {N:Option Tmp} {oi:Oper} {v:Value} {fuel:Nat} {l:Array Bool} {a:Act} {w:World} (l':Array Bool) (hi:ops[i]? = some oi) (hN:oi.dst=N) (hc:anyB md ops l l' i=true)
  (hQ:∀ c a w,Q (.panic c) (a.put oi.dst v) w->Q (.panic c) a w) (hy:Yields P ops oi v a) {a':Act} (ha:a.put N v=a')
  (h:qax P md ops Q S ds fuel l' a' w):qax P md ops Q S ds (fuel+1) l a w:=by
 subst ha;subst hN;simp only [anyB,Bool.and_eq_true,beq_iff_eq] at hc;obtain⟨⟨⟨h1,h2⟩,h3⟩,h6⟩:=hc;subst h6;exact wpAnyLast_any hi (Region.noSelect_spec h1) hQ fuel l a w (Region.free_spec hi h2) (by simpa using h3) hy h
def readyB (md:Region.Mode) (ops:Array Oper) (l l':Array Bool) (i:Nat):Bool:=(Region.ready md ops l == [i]) && (l.setIfInBounds i true == l')
theorem one_ {i:Nat} {N:Option Tmp} {oi:Oper} {fuel:Nat} {l:Array Bool} {a:Act} {w:World} (l':Array Bool) (hi:ops[i]? = some oi) (hN:oi.dst=N) (hc:readyB md ops l l' i=true) (hd:i ∉ ds)
  (h:∀ K:Act->World->Prop,Shut (∀ a' w',S w'->(S w'->qax P md ops Q S ds fuel l' a' w')->K a' w')->if Region.wanted oi (yielded ops a.tmps)=true then Oper.wp P oi a w K Q else K (a.put N undef) w) :
  qax P md ops Q S ds (fuel+1) l a w:=by
 subst hN;simp only [readyB,Bool.and_eq_true,beq_iff_eq] at hc;obtain⟨h1,h2⟩:=hc;subst h2;exact wpAnyLast_ready h1 (by simp) (qaN.cons hi hd (fun K hK=>h K hK) qaN.nil)
theorem last_ {i:Nat} {N:Option Tmp} {oi:Oper} {fuel:Nat} {l:Array Bool} {a:Act} {w:World} (l':Array Bool) (hi:ops[i]? = some oi) (hN:oi.dst=N) (hc:readyB md ops l l' i=true) (hd:i ∈ ds)
  (h:∀ K:Act->World->Prop,Shut (∀ a' w',qax P md ops Q S ds fuel l' a' w'->K a' w')->if Region.wanted oi (yielded ops a.tmps)=true then Oper.wp P oi a w K Q else K (a.put N undef) w) :
  qax P md ops Q S ds (fuel+1) l a w:=by
 subst hN;simp only [readyB,Bool.and_eq_true,beq_iff_eq] at hc;obtain⟨h1,h2⟩:=hc;subst h2;exact wpAnyLast_ready h1 (by simp) (qaN.cons_last hi hd (fun K hK=>h K hK) qaN.nil)
theorem done_ {l:Array Bool} {a:Act} {w:World} {n:Nat} (hr:(Region.ready md ops l == [])=true) (h:Q .normal a w):qax P md ops Q S ds n l a w:=wpAnyLast_done (by simpa using hr) h n
theorem two_ {i j:Nat} {Ni Nj:Option Tmp} {oi oj:Oper} {fuel:Nat} {l:Array Bool} {a:Act} {w:World} (li lj:Array Bool) (hi:ops[i]? = some oi) (hj:ops[j]? = some oj) (hNi:oi.dst=Ni) (hNj:oj.dst=Nj)
  (hc:(Region.ready md ops l == [i,j] && l.setIfInBounds i true == li && l.setIfInBounds j true == lj)=true) (hdi:i ∉ ds) (hdj:j ∉ ds)
  (h1:∀ K:Act->World->Prop,Shut (∀ a' w',S w'->(S w'->qax P md ops Q S ds fuel li a' w')->K a' w')->if Region.wanted oi (yielded ops a.tmps)=true then Oper.wp P oi a w K Q else K (a.put Ni undef) w)
  (h2:∀ K:Act->World->Prop,Shut (∀ a' w',S w'->(S w'->qax P md ops Q S ds fuel lj a' w')->K a' w')->if Region.wanted oj (yielded ops a.tmps)=true then Oper.wp P oj a w K Q else K (a.put Nj undef) w) :
  qax P md ops Q S ds (fuel+1) l a w:=by
 subst hNi;subst hNj;simp only [Bool.and_eq_true,beq_iff_eq] at hc;obtain⟨⟨h3,h4⟩,h5⟩:=hc;subst h4;subst h5;exact wpAnyLast_ready h3 (by simp) (qaN.cons hi hdi (fun K hK=>h1 K hK) (qaN.cons hj hdj (fun K hK=>h2 K hK) qaN.nil))
def putAll:Act->List (Tmp × Value)->Act
 |a,[]=>a
 |a,(n,v)::r=>putAll (a.put (some n) v) r
theorem join_ {σ:Type} {fuel:Nat} {l:Array Bool} {a:Act} {w:World} (fuel':Nat) (l':Array Bool) (ns:σ->List (Tmp × Value)) (F:σ->World->Prop)
  (hcont:∀ s w',F s w'->qax P md ops Q S ds fuel' l' (putAll a (ns s)) w')
  (h:(∀ s w',F s w'->qax P md ops Q S ds fuel' l' (putAll a (ns s)) w')->qax P md ops Q S ds fuel l a w):qax P md ops Q S ds fuel l a w:=h hcont
theorem qbj {fuel:Nat} {l:Array Bool} {a a':Act} {w:World} (ha:a=a') (h:qax P md ops Q S ds fuel l a' w):qax P md ops Q S ds fuel l a w:=by
 subst ha;exact h
theorem call_ {oi:Oper} {N:Option Tmp} {a:Act} {w:World} {K:Act->World->Prop} (f:FuncId) (args:Array Value) (hw:Region.wanted oi (yielded ops a.tmps)=true) (hN:oi.dst=N) (hrun:(execOp a.eval oi).run P w=.ok (.enter f args) w)
  (h:Calls P f args w fun e w'=>∃ v,e=.returned v/\K (a.put N v) w'):if Region.wanted oi (yielded ops a.tmps)=true then Oper.wp P oi a w K Q else K (a.put N undef) w:=by
 rw [if_pos hw];subst hN;unfold Oper.wp;rw [hrun,Oper.upon_enter];refine h.mono fun e w'' hh=>?_
 obtain⟨v,rfl,hk⟩:=hh;exact hk
theorem enters_ {f:FuncId} {fn:Func} (hf:P.funcs[f]? = some fn) (hname:(fn.name == "runtime.NumGoroutine")=false) (hb:fn.body.isSome=true) (args:Array Value) (w:World):(callFunc f args).run P w=.ok (.enter f args) w:=by
 have h1:fn.name≠ "runtime.NumGoroutine":=by simpa using hname
 obtain⟨c,hc⟩:=Option.isSome_iff_exists.1 hb;simp [callFunc,hf,h1,hc]
theorem goes_ {oi:Oper} {N:Option Tmp} {a:Act} {w:World} {K:Act->World->Prop} {f:FuncId} {fn:Func} {as_:Array Operand} {ts:Array TypeId} (hf:P.funcs[f]? = some fn) (hname:(fn.name == "runtime.NumGoroutine")=false) (hb:fn.body.isSome=true) (args:Array Value)
  (hw:Region.wanted oi (yielded ops a.tmps)=true) (hN:oi.dst=N) (hop:oi.op=.call { callee:=.value (.func f),args:=as_,argTypes:=ts }) (hargs:as_.map a.eval=args)
  (h:Calls P f args w fun e w'=>∃ v,e=.returned v/\K (a.put N v) w'):if Region.wanted oi (yielded ops a.tmps)=true then Oper.wp P oi a w K Q else K (a.put N undef) w:=by
 refine call_ f args hw hN ?_ h;have he:=enters_ hf hname hb args w;unfold execOp;simp [hop,resolve,Deferred.ofValue,invoke,Act.eval,hargs,he]
theorem qbe {rest:List Oper} {oi:Oper} {a:Act} {w:World} (N:Option Tmp) (hd:oi.dst=N) (hg:oi.guard=none) {f:FuncId} {fn:Func} {as_:Array Operand} {ts:Array TypeId} (hf:P.funcs[f]? = some fn) (hname:(fn.name == "runtime.NumGoroutine")=false) (hb:fn.body.isSome=true) (args:Array Value)
  (hop:oi.op=.call { callee:=.value (.func f),args:=as_,argTypes:=ts }) (hargs:as_.map a.eval=args)
  (h:Calls P f args w fun e w'=>∃ v,e=.returned v/\wpList P ops Q rest (a.put N v) w'):wpList P ops Q (oi::rest) a w:=by
 refine wpList_plain hg fun K hK=>?_
 have he:=enters_ hf hname hb args w;have hrun:(execOp a.eval oi).run P w=.ok (.enter f args) w:=by
  unfold execOp;simp [hop,resolve,Deferred.ofValue,invoke,Act.eval,hargs,he]
 unfold Oper.wp;rw [hrun,Oper.upon_enter];refine h.mono fun e w'' hh=>?_
 obtain⟨v,rfl,hk⟩:=hh;subst hd;exact hK _ _ hk
theorem value_ {oi:Oper} {N:Option Tmp} {a:Act} {w w1:World} {v:Value} {K:Act->World->Prop} (hw:Region.wanted oi (yielded ops a.tmps)=true) (hN:oi.dst=N) (hrun:(execOp a.eval oi).run P w=.ok (.value v) w1)
  (h:K (a.put N v) w1):if Region.wanted oi (yielded ops a.tmps)=true then Oper.wp P oi a w K Q else K (a.put N undef) w:=by
 rw [if_pos hw];subst hN;unfold Oper.wp;rw [hrun];exact h
theorem skip_ {oi:Oper} {a:Act} {w w1:World} {K:Act->World->Prop} (hw:Region.wanted oi (yielded ops a.tmps)=true) (hN:oi.dst=none) (hrun:(execOp a.eval oi).run P w=.ok .skip w1)
  (h:K a w1):if Region.wanted oi (yielded ops a.tmps)=true then Oper.wp P oi a w K Q else K (a.put none undef) w:=by
 rw [if_pos hw];unfold Oper.wp;rw [hrun];show K (a.put oi.dst undef) w1;rw [hN];exact h
theorem qa1 (n:Int):IntKind.i64.wrap n=Go.RowKit.wrap64 n:=by unfold Go.RowKit.wrap64;exact IntKind.wrap_i64 n
theorem qba (n:Int):IntKind.i32.wrap n=Go.RowKit.wrap32 n:=by unfold Go.RowKit.wrap32;exact IntKind.wrap_i32 n
end
end Go.Proofs.YtgnaaokhfpfglaaGreatDoorW.PrintLast
end
section
namespace Go.Proofs.YtgnaaokhfpfglaaGreatDoorW.PrintWords
open Go.RowKit
namespace Kd
def tag {α:Type} (f:Nat->Nat) (d:Kd α):Kd (α × Nat) where
 sz:=d.sz
 E:=d.E
 K:=fun w x cs=>d.K w x.1 cs
 M:=fun w base ok x cs=>d.M w base (fun k=>ok k/\f k=x.2) x.1 cs
 K_len:=fun h=>d.K_len h
 K_one:=fun h=>d.K_one h
 K_below:=fun hb h=>d.K_below hb h
 K_of_M:=fun h=>d.K_of_M h
 M_mono:=fun hok h=>d.M_mono (fun k hk=>⟨hok k hk.1,hk.2⟩) h
 M_bound:=fun h=>d.M_mono (fun _ hk=>⟨⟨hk.1.1,hk.2⟩,hk.1.2⟩) (d.M_bound h)
 M_move:=fun hm h=>d.M_move (fun k hk=>hm k hk.1) h
 M_lower:=fun hb h=>d.M_lower hb h
def bare {α:Type} (d:Kd α):Kd α where
 sz:=d.sz
 E:=d.E
 K:=d.K
 M:=fun w base _ x cs=>d.M w base (fun _=>False) x cs
 K_len:=fun h=>d.K_len h
 K_one:=fun h=>d.K_one h
 K_below:=fun hb h=>d.K_below hb h
 K_of_M:=fun h=>d.K_of_M h
 M_mono:=fun _ h=>h
 M_bound:=fun h=>h
 M_move:=fun _ h=>d.M_move (fun _ hk=>hk.elim) h
 M_lower:=fun hb h=>d.M_lower hb h
def raw (sz:Nat):Kd (List Value) where
 sz:=sz
 E:=[]
 K:=fun _ x cs=>cs=x/\cs.length=sz/\∀ u ∈ cs,u.oneCell' = true
 M:=fun _ _ _ x cs=>cs=x/\cs.length=sz/\∀ u ∈ cs,u.oneCell' = true
 K_len:=fun h=>h.2.1
 K_one:=fun h=>h.2.2
 K_below:=fun _ h=>h
 K_of_M:=fun h=>h
 M_mono:=fun _ h=>h
 M_bound:=fun h=>h
 M_move:=fun _ h=>h
 M_lower:=fun _ h=>h
def S {α:Type} (d:Kd α) (e:Nat) (w:World) (base:Nat) (ok:Nat->Prop) (v:Value) (xs:List α):Prop:=∃ f,(tag f d).R e w base ok v xs.zipIdx
section
variable {α β:Type} {d:Kd α} {d':Kd β} {e e':Nat} {w w1 W:World} {base b:Nat} {ok ok' okv oku:Nat->Prop} {u v:Value} {xs:List α} {ys:List β}
theorem zip_at {xs:List α} {j:Nat} {p:α} (h:xs[j]? = some p):xs.zipIdx[j]? = some (p,j):=by rw [List.getElem?_zipIdx,h,Nat.zero_add];rfl
theorem S_R (h:S d e w base ok v xs):d.R e w base ok v xs:=by
 obtain⟨f,h0,inner,ho,hr⟩:=h;rw [List.length_zipIdx] at ho;exact⟨h0,inner,ho,by have:=hr.1;rw [List.length_zipIdx] at this;exact this,fun j p hj=>d.M_mono (fun _ hk=>hk.1) (hr.2 j (p,j) (zip_at hj))⟩
theorem R_head {ad:Addr} {n cap:Nat} (h:d.R e w base ok (.slice (some ad) n cap) xs):∃ g,ad=⟨g,0,none⟩:=by
 obtain⟨_,inner,ho,hr⟩:=h;rcases ho.2 with ⟨hv,_⟩|⟨g,cap',cur,hv,_⟩
 .cases hv
 .injection hv with ha _ _
  injection ha with ha
  exact⟨g,ha⟩
theorem R_tight (hE:d.E=[]) (h:d.R e w base ok v xs):d.R e w base (fun k=>some k=v.ownBlock) v xs:=by
 obtain⟨h0,inner,ho,hr⟩:=h;refine⟨fun k hk=>hk.symm,inner,ho,hr.imp_ (fun p c hp=>d.M_mono (fun k hk=>?_) (d.M_bound hp))⟩;obtain⟨_,_,_,q,hq,_⟩:=hk;rw [hE] at hq;cases hq
theorem S_nil (d:Kd α) (e:Nat) (w:World) (base:Nat) (ok:Nat->Prop):S d e w base ok (.slice none 0 0) []:=⟨fun _=>0,R_nil _ _ _ _ _⟩
theorem S_mono (h:S d e w base ok v xs) (hok:∀ k,ok k->ok' k):S d e w base ok' v xs:=by
 obtain⟨f,h⟩:=h;exact⟨f,R_mono h hok⟩
theorem S_bound (h:S d e w base ok v xs):S d e w base (fun k=>ok k/\base<=k/\k<w.heap.size/\∃ q,q ∈ e::d.E/\∃ cells,w.heap[k]? = some (.cells cells q (0,0))) v xs:=by
 obtain⟨f,h⟩:=h;exact⟨f,R_bound h⟩
theorem S_move (h:S d e w base ok v xs) (hm:∀ k,ok k->w1.heap[k]? = w.heap[k]?):S d e w1 base ok v xs:=by
 obtain⟨f,h⟩:=h;exact⟨f,R_move h hm⟩
theorem S_lower {base':Nat} (h:S d e w base ok v xs) (hb:base'<=base):S d e w base' ok v xs:=by
 obtain⟨f,h⟩:=h;exact⟨f,R_lower h hb⟩
theorem S_step (h:S d e w base ok v xs) (hm:∀ k,ok k->k<w.heap.size->w1.heap[k]? = w.heap[k]?):S d e w1 base ok v xs:=
 S_mono (S_move (S_bound h) (fun k hk=>hm k hk.1 hk.2.2.1)) (fun _ hk=>hk.1)
theorem S_below (h:S d e w base ok v xs) (hb:Below w.heap.size w w1):S d e w1 base ok v xs:=S_step h (fun k _ hk=>hb.block k hk)
theorem S_alloc (h:S d e w base ok v xs) (o:Obj):S d e (w.alloc o) base ok v xs:=S_below h (qaj (Below.refl _ _) o)
theorem S_drew (h:S d e w base ok v xs):S d e w.drew base ok v xs:=S_below h (below_drew (Below.refl _ _))
theorem S_drewN (h:S d e w base ok v xs) (m:Nat):S d e (w.drewN m) base ok v xs:=S_below h (qaf (Below.refl _ _) m)
theorem S_grown (h:S d e w base ok v xs) {row:Option Nat} (hg:w.grownBy w1 row) (hok:∀ k,ok k->some k≠row):S d e w1 base ok v xs:=S_step h (fun k ho hk=>hg.block k hk (hok k ho))
theorem S_far (h:S d e w base ok v xs) {p:Addr} (hok:∀ k,ok k->k≠p.block) (u:Value):S d e (w.setCell p u) base ok v xs:=S_step h (fun k ho _=>Below.heap_setCell w p u k (hok k ho))
theorem S_types (h:S d e w base ok v xs) {g t:Nat} {cells:Array Value} (hb:w.heap[g]? = some (.cells cells t (0,0))) (ht:∀ q,q ∈ e::d.E->q≠t):S d e w base (fun k=>ok k/\k≠g) v xs:=by
 obtain⟨f,h⟩:=h;exact⟨f,R_types h hb ht⟩
theorem S_typed (h:S d e w base ok v xs):∀ k,v.ownBlock=some k->∃ cells,w.heap[k]? = some (.cells cells e (0,0)):=R_typed (S_R h)
theorem S_lt (h:S d e w base ok v xs):∀ k,v.ownBlock=some k->k<w.heap.size:=R_lt (S_R h)
theorem S_base (h:S d e w base ok v xs):∀ k,v.ownBlock=some k->base<=k:=R_base (S_R h)
theorem S_elder' (h:S d e W base ok u xs) (hbase:∀ k,v.ownBlock=some k->W.heap.size<=k) (hb:Below W.heap.size W w1):S d e w1 base (fun k=>ok k/\some k≠v.ownBlock) u xs:=by
 obtain⟨f,h⟩:=h;exact⟨f,R_elder' h hbase hb⟩
theorem S_new' (h:S d e w1 W.heap.size ok v xs) (hlt:∀ k,u.ownBlock=some k->k<W.heap.size):S d e w1 W.heap.size (fun k=>ok k/\some k≠u.ownBlock) v xs:=by
 obtain⟨f,h⟩:=h;exact⟨f,R_new' h hlt⟩
theorem S_old (h:S d e W base ok u xs) (hb:Below W.heap.size W w1):S d e w1 base (fun k=>ok k/\k<W.heap.size) u xs:=
 S_mono (S_below (S_bound h) hb) (fun _ hk=>⟨hk.1,hk.2.2.1⟩)
theorem S_bare (h:(bare d).R e w base ok v xs):S d e w base ok v xs:=by
 obtain⟨h0,inner,ho,hr⟩:=h;refine⟨fun _=>0,h0,inner,by rw [List.length_zipIdx];exact ho,by rw [List.length_zipIdx];exact hr.1,fun j p hj=>?_⟩;rw [List.getElem?_zipIdx,Nat.zero_add] at hj;obtain⟨x,hx,rfl⟩:=Option.map_eq_some_iff.1 hj;exact d.M_mono (fun _ hk=>hk.elim) (hr.2 j x hx)
theorem R_tag {f f':Nat->Nat} {zs:List (α × Nat)} (h:(tag f d).R e w base ok v zs) (hf:∀ k,ok k->k<w.heap.size->f' k=f k):(tag f' d).R e w base ok v zs:=by
 obtain⟨h0,inner,ho,hr⟩:=R_bound h;exact⟨fun k hk=>(h0 k hk).1,inner,ho,hr.1,fun j p hj=>d.M_mono (fun k hk=>⟨⟨hk.1.1.1,hk.1.2⟩,(hf k hk.1.1.1 hk.1.1.2.2.1).trans hk.2⟩) (hr.2 j p hj)⟩
end
section
variable {α β:Type} {d:Kd α} {d':Kd β} {e e' g:Nat} {w w1 W:World} {base b:Nat} {ok ok' okv oku:Nat->Prop} {u v:Value} {xs:List α} {ys:List β}
theorem S_ne (h:S d e w base ok v xs) {t:Nat} {cells:Array Value} (hb:w.heap[g]? = some (.cells cells t (0,0))) (ht:e≠t):some g≠v.ownBlock:=R_ne (S_R h) hb ht
theorem S_slice (h:S d e w base ok v xs):∃ A c,v=.slice A xs.length c:=R_slice (S_R h)
theorem S_reads (h:S d e w base ok v xs):∃ A c,v=.slice A xs.length c/\xs.length<=c/\d.C w A xs.length xs:=R_reads (S_R h)
theorem S_reads' {A:Option Addr} {n c:Nat} (h:S d e w base ok (.slice A n c) xs):n=xs.length/\n<=c/\d.C w A xs.length xs:=R_reads' (S_R h)
theorem S_own (h:S d e w base ok v xs):∃ inner,w.ownsRow base e d.sz v xs.length inner:=R_own (S_R h)
theorem S_told {N:Nat} (h:S d e w1 base (fun k=>ok k/\k<N) u xs) (hbase:∀ k,v.ownBlock=some k->N<=k):S d e w1 base (fun k=>(ok k/\some k≠v.ownBlock)/\k<N) u xs:=
 S_mono h (fun k hk=>⟨⟨hk.1,fun e=>Nat.lt_irrefl _ (Nat.lt_of_lt_of_le hk.2 (hbase k e.symm))⟩,hk.2⟩)
theorem zip_snoc (xs:List α) (p:α):(xs++[p]).zipIdx=xs.zipIdx++[(p,xs.length)]:=by rw [List.zipIdx_append];simp
end
section
open Classical in
theorem S_tag {α:Type} {d:Kd α} {e base:Nat} {okv:Nat->Prop} {w:World} {v:Value} {xs:List α} (h:S d e w base okv v xs) (m:Nat) (okp:Nat->Prop) (hap:∀ k,okp k->¬ okv k):∃ f,(∀ k,okp k->f k=m)/\(tag f d).R e w base okv v xs.zipIdx:=by
 obtain⟨f,h⟩:=h;exact⟨fun k=>if okp k then m else f k,fun k hk=>if_pos hk,R_tag h (fun k hk _=>if_neg (fun h2=>hap k h2 hk))⟩
variable {P:Program} {ops:Array Oper} {rest:List Oper} {o:Oper} {a:Act} {Q:Exit->Act->World->Prop} {Kc:Act->World->Prop} {α:Type}
theorem S_append (d:Kd α) {w0 W:World} (base:Nat) (hgd:o.guard=none) (s x:Operand) (t e:TypeId) (z:Value) (bytes:Nat)
  (ho:o.op=.call { callee:=.builtin .append,args:=#[s,x],argTypes:=#[t,t] })
  (ht:P.underlying t=some (.slice e)) (hinfo:(P.info? e).map (fun i=>(i.zero,i.size,i.bytes))=some (some z,d.sz,bytes)) (hz:z.cells.size=d.sz) (hs0:0<d.sz) (hb0:0<bytes)
  (v:Value) (xs:List α) (p:α) (cs:List Value) (ok okp:Nat->Prop) (hs:a.eval s=v) (hx:a.eval x=.slice (some ⟨W.heap.size,0,none⟩) 1 1) (hp:d.M W base okp p cs) (hokp:∀ k,okp k->ok k/\some k≠v.ownBlock) (hfresh:∀ k,W.heap.size<=k->ok k)
  (HO:S d e W base (fun k=>ok k/\¬ okp k) v xs) (HB:Below base w0 W) (hbase:base<=W.heap.size) (hl:(xs.length+1) * bytes<=140737488355328)
  (h:∀ v1 w1,S d e w1 base ok v1 (xs++[p])->Below base w0 w1->W.grownBy w1 v.ownBlock->(v1.ownBlock=v.ownBlock\/∃ b,v1.ownBlock=some b/\W.heap.size<=b)->wpList P ops Q rest (a.put o.dst v1) w1) :
  wpList P ops Q (o::rest) a (W.alloc (.cells cs.toArray e)):=by
 obtain⟨f,hf,hR⟩:=S_tag HO xs.length okp (fun _ hk h2=>h2.2 hk);refine R_append (tag f d) base hgd s x t e z bytes ho ht hinfo hz hs0 hb0 v xs.zipIdx (p,xs.length) cs ok okp hs hx (d.M_mono (fun k hk=>⟨hk,hf k hk⟩) hp) hokp hfresh (R_mono hR (fun _ hk=>hk.1)) HB hbase (by rw [List.length_zipIdx];exact hl) ?_;intro v1 w1 hr;rw [<- zip_snoc] at hr;exact h v1 w1 ⟨f,hr⟩
theorem S_append_step (d:Kd α) {w0 W:World} (base:Nat) (hw:Region.wanted o (yielded ops a.tmps)=true) (s x:Operand) (t e:TypeId) (z:Value) (bytes:Nat)
  (ho:o.op=.call { callee:=.builtin .append,args:=#[s,x],argTypes:=#[t,t] })
  (ht:P.underlying t=some (.slice e)) (hinfo:(P.info? e).map (fun i=>(i.zero,i.size,i.bytes))=some (some z,d.sz,bytes)) (hz:z.cells.size=d.sz) (hs0:0<d.sz) (hb0:0<bytes)
  (v:Value) (xs:List α) (p:α) (cs:List Value) (ok okp:Nat->Prop) (hs:a.eval s=v) (hx:a.eval x=.slice (some ⟨W.heap.size,0,none⟩) 1 1) (hp:d.M W base okp p cs) (hokp:∀ k,okp k->ok k/\some k≠v.ownBlock) (hfresh:∀ k,W.heap.size<=k->ok k)
  (HO:S d e W base (fun k=>ok k/\¬ okp k) v xs) (HB:Below base w0 W) (hbase:base<=W.heap.size) (hl:(xs.length+1) * bytes<=140737488355328)
  (h:∀ v1 w1,S d e w1 base ok v1 (xs++[p])->Below base w0 w1->W.grownBy w1 v.ownBlock->(v1.ownBlock=v.ownBlock\/∃ b,v1.ownBlock=some b/\W.heap.size<=b)->Kc (a.put o.dst v1) w1) :
  if Region.wanted o (yielded ops a.tmps)=true then Oper.wp P o a (W.alloc (.cells cs.toArray e)) Kc Q else Kc (a.put o.dst undef) (W.alloc (.cells cs.toArray e)):=by
 obtain⟨f,hf,hR⟩:=S_tag HO xs.length okp (fun _ hk h2=>h2.2 hk);refine R_append_step (tag f d) base hw s x t e z bytes ho ht hinfo hz hs0 hb0 v xs.zipIdx (p,xs.length) cs ok okp hs hx (d.M_mono (fun k hk=>⟨hk,hf k hk⟩) hp) hokp hfresh (R_mono hR (fun _ hk=>hk.1)) HB hbase (by rw [List.length_zipIdx];exact hl) ?_;intro v1 w1 hr;rw [<- zip_snoc] at hr;exact h v1 w1 ⟨f,hr⟩
theorem S_lit (d:Kd α) {w0 W:World} (base e:Nat) (hgd:o.guard=none) {N:Tmp} (_hd:o.dst=some N) {xs:List α} {inner:List Value} {ok okp:Nat->Prop}
  (hrun:(execOp a.eval o).run P W=.ok (.value (.slice (some ⟨W.heap.size,0,none⟩) xs.length xs.length)) (W.alloc (.cells inner.toArray e)))
  (hrep:Reps (d.M W base (fun _=>False)) d.sz xs inner) (_hok:∀ k,okp k->ok k) (hfresh:ok W.heap.size) (HB:Below base w0 W) (hbase:base<=W.heap.size) (hm:xs.length<=9223372036854775807)
  (h:∀ v1 w1,S d e w1 base ok v1 xs->Below base w0 w1->W.grownBy w1 none->(∃ b,v1.ownBlock=some b/\W.heap.size<=b)->wpList P ops Q rest (a.put o.dst v1) w1):wpList P ops Q (o::rest) a W:=
 R_lit (bare d) base e hgd _hd (ok:=ok) (okp:=ok) hrun hrep (fun _ hk=>hk) hfresh HB hbase hm (fun v1 w1 hr=>h v1 w1 (S_bare hr))
end
def gap {α:Type} (f:Nat->Nat) (d:Kd α) (i:Nat) (c:List Value):Kd (α × Nat) where
 sz:=d.sz
 E:=d.E
 K:=fun w x cs=>(x.2=i->cs=c/\cs.length=d.sz/\∀ u ∈ cs,u.oneCell' = true)/\(x.2≠i->d.K w x.1 cs)
 M:=fun w base ok x cs=>(x.2=i->cs=c/\cs.length=d.sz/\∀ u ∈ cs,u.oneCell' = true)/\(x.2≠i->d.M w base (fun k=>ok k/\f k=x.2) x.1 cs)
 K_len:=fun {w x cs} h=>by
  by_cases hx:x.2=i
  .exact (h.1 hx).2.1
  .exact d.K_len (h.2 hx)
 K_one:=fun {w x cs} h=>by
  by_cases hx:x.2=i
  .exact (h.1 hx).2.2
  .exact d.K_one (h.2 hx)
 K_below:=fun hb h=>⟨h.1,fun hx=>d.K_below hb (h.2 hx)⟩
 K_of_M:=fun h=>⟨h.1,fun hx=>d.K_of_M (h.2 hx)⟩
 M_mono:=fun hok h=>⟨h.1,fun hx=>d.M_mono (fun k hk=>⟨hok k hk.1,hk.2⟩) (h.2 hx)⟩
 M_bound:=fun h=>⟨h.1,fun hx=>d.M_mono (fun _ hk=>⟨⟨hk.1.1,hk.2⟩,hk.1.2⟩) (d.M_bound (h.2 hx))⟩
 M_move:=fun hm h=>⟨h.1,fun hx=>d.M_move (fun k hk=>hm k hk.1) (h.2 hx)⟩
 M_lower:=fun hb h=>⟨h.1,fun hx=>d.M_lower hb (h.2 hx)⟩
def H {α:Type} (d:Kd α) (e:Nat) (w:World) (base:Nat) (ok:Nat->Prop) (v:Value) (xs:List α) (i:Int) (oki:Nat->Prop) (c:List Value):Prop:=
 (∀ k,oki k->ok k)/\∃ f,(gap f d i.toNat c).R e w base (fun k=>ok k/\¬ oki k) v xs.zipIdx
section
variable {α β:Type} {d:Kd α} {e e' g n cap:Nat} {w w1 W:World} {base:Nat} {ok ok' oki okp:Nat->Prop} {u v:Value} {xs:List α} {i:Int} {c:List Value}
end
section
variable {P:Program} {ops:Array Oper} {rest:List Oper} {o:Oper} {a:Act} {Q:Exit->Act->World->Prop} {α:Type}
end
end Kd
end Go.Proofs.YtgnaaokhfpfglaaGreatDoorW.PrintWords
end
section
namespace Go.Proofs.YtgnaaokhfpfglaaGreatDoorW.PrintWords
open Go.RowKit
namespace Kd
structure Heap {α:Type} (d:Kd α):Prop where
 K:∀ {w w1:World} {x:α} {cs:List Value},(∀ k,k<w.heap.size->w1.heap[k]? = w.heap[k]?)->d.K w x cs->d.K w1 x cs
theorem cell_heap {w w1:World} (hb:∀ k,k<w.heap.size->w1.heap[k]? = w.heap[k]?) {a:Addr} {v:Value} (h:w.cell? a=some v):w1.cell? a=some v:=by
 have:=hb a.block (World.block_lt_of_cell? w a h)
 simpa [World.cell?,this] using h
theorem Heap.C {α:Type} {d:Kd α} (hd:Heap d) {w w1:World} {A:Option Addr} {n:Nat} {xs:List α} (hb:∀ k,k<w.heap.size->w1.heap[k]? = w.heap[k]?) (h:d.C w A n xs):d.C w1 A n xs:=
 ⟨h.1,h.2.1,fun hn=>by
  obtain⟨ad,e,hc⟩:=h.2.2 hn;refine⟨ad,e,fun j p hj=>?_⟩;obtain⟨c,hs,hr,hcell⟩:=hc j p hj
  exact⟨c,hs,hd.K hb hr,fun i u hu=>cell_heap hb (hcell i u hu)⟩⟩
theorem heap_int (k:IntKind):Heap (Kd.int k):=⟨fun _ h=>h⟩
theorem heap_slice {α:Type} {d:Kd α} (e:Nat) (hd:Heap d):Heap (slice e d):=⟨by
 rintro w w1 x cs hb ⟨A,c,rfl,hl,hr⟩
 exact⟨A,c,rfl,hl,hd.C hb hr⟩⟩
theorem heap_pair {α β:Type} {a:Kd α} {b:Kd β} (ha:Heap a) (hb':Heap b):Heap (pair a b):=⟨by
 rintro w w1 x cs hb ⟨c0,c1,rfl,h0,h1⟩
 exact⟨c0,c1,rfl,ha.K hb h0,hb'.K hb h1⟩⟩
theorem heap_iso {α β:Type} {d:Kd α} (f:β->α) (hd:Heap d):Heap (iso d f):=⟨fun hb h=>hd.K hb h⟩
section
variable {α:Type} {d:Kd α} {e base g n c:Nat} {ok:Nat->Prop} {w w0 W:World} {A:Option Addr} {xs:List α}
end
end Kd
end Go.Proofs.YtgnaaokhfpfglaaGreatDoorW.PrintWords
end
section
namespace Go.Proofs.YtgnaaokhfpfglaaGreatDoorW.PrintWords
open Go.RowKit
def Kept (w W:World) (S:Nat->Prop):Prop:=w.heap.size<=W.heap.size/\∀ i,i<w.heap.size->¬ S i->W.heap[i]? = w.heap[i]?
section
variable {w W W2:World} {S S2 S':Nat->Prop}
theorem Kept.refl (w:World) (S:Nat->Prop):Kept w w S:=⟨Nat.le_refl _,fun _ _ _=>rfl⟩
theorem Kept.of_below (h:Below w.heap.size w W) (S:Nat->Prop):Kept w W S:=⟨h.size,fun i hi _=>h.block i hi⟩
theorem Kept.then_ (h:Kept w W S) (k:Kept W W2 S2) (hs:∀ k,S2 k->S k\/w.heap.size<=k):Kept w W2 S:=
 ⟨Nat.le_trans h.1 k.1,fun i hi hn=>(k.2 i (Nat.lt_of_lt_of_le hi h.1) (fun h2=>(hs i h2).elim hn (fun h3=>by omega))).trans (h.2 i hi hn)⟩
theorem Kept.below (h:Kept w W S) (hb:Below W.heap.size W W2):Kept w W2 S:=h.then_ (Kept.of_below hb (fun _=>False)) (fun _ hk=>hk.elim)
theorem Kept.alloc (h:Kept w W S) (o:Obj):Kept w (W.alloc o) S:=h.below (qaj (Below.refl _ _) o)
theorem Kept.drew (h:Kept w W S):Kept w W.drew S:=h
theorem Kept.drewN (h:Kept w W S) (m:Nat):Kept w (W.drewN m) S:=h
theorem Kept.setCell (h:Kept w W S) {p:Addr} (hp:S p.block\/w.heap.size<=p.block) (u:Value):Kept w (W.setCell p u) S:=
 h.then_ (S2:=fun k=>k=p.block) ⟨by simp [World.setCell],fun i _ hn=>Below.heap_setCell W p u i hn⟩ (fun k hk=>by rw [hk];exact hp)
end
namespace Kd
section
variable {α:Type} {d:Kd α} {e base n c:Nat} {ok oki S S2:Nat->Prop} {w w0 W W1 W2:World} {v:Value} {A:Option Addr} {xs:List α} {i:Int} {cs:List Value}
end
end Kd
end Go.Proofs.YtgnaaokhfpfglaaGreatDoorW.PrintWords
end
section
namespace Go.Proofs.YtgnaaokhfpfglaaGreatDoorW.PrintWords
open Go.RowKit
def Foot (P:World->Prop) (W:World) (ok:Nat->Prop):Prop:=∀ W':World,(∀ k,ok k->k<W.heap.size->W'.heap[k]? = W.heap[k]?)->P W'
theorem heap_lt {W W1:World} {k:Nat} (h:W1.heap[k]? = W.heap[k]?) (hlt:k<W.heap.size):k<W1.heap.size:=by
 rw [Array.getElem?_eq_getElem hlt] at h;exact (Array.getElem?_eq_some_iff.1 h).1
namespace Foot
variable {P Q:World->Prop} {W W1:World} {ok ok':Nat->Prop}
theorem now (h:Foot P W ok):P W:=h W (fun _ _ _=>rfl)
theorem mono (h:Foot P W ok) (hok:∀ k,ok k->ok' k):Foot P W ok':=fun W' hW=>h W' (fun k hk hlt=>hW k (hok k hk) hlt)
theorem bound (h:Foot P W ok):Foot P W (fun k=>ok k/\k<W.heap.size):=fun W' hW=>h W' (fun k hk hlt=>hW k ⟨hk,hlt⟩ hlt)
theorem step (h:Foot P W ok) (hm:∀ k,ok k->k<W.heap.size->W1.heap[k]? = W.heap[k]?):Foot P W1 ok:=fun W' hW=>h W' (fun k hk hlt=>(hW k hk (heap_lt (hm k hk hlt) hlt)).trans (hm k hk hlt))
theorem imp (h:Foot P W ok) (hi:∀ W',P W'->Q W'):Foot Q W ok:=fun W' hW=>hi W' (h W' hW)
theorem old (h:Foot P W ok) (hb:Below W.heap.size W W1):Foot P W1 (fun k=>ok k/\k<W.heap.size):=(h.bound).step (fun k _ hlt=>hb.block k hlt)
end Foot
namespace Kd
def F {α:Type} (d:Kd α) (W:World) (ok:Nat->Prop) (A:Option Addr) (n:Nat) (xs:List α):Prop:=Foot (fun W=>d.C W A n xs) W ok
def FK {α:Type} (d:Kd α) (W:World) (ok:Nat->Prop) (x:α) (c:List Value):Prop:=Foot (fun W=>d.K W x c) W ok
section
variable {α β:Type} {d:Kd α} {e base n n' cc g N:Nat} {ok ok' okp S:Nat->Prop} {w w0 w1 W W1:World} {A A':Option Addr} {u v v1:Value} {xs:List α} {xs':List β} {d':Kd β} {x:α} {c:List Value}
theorem F_now (h:F d W ok A n xs):d.C W A n xs:=Foot.now h
theorem F_mono (h:F d W ok A n xs) (hok:∀ k,ok k->ok' k):F d W ok' A n xs:=Foot.mono h hok
theorem F_bound (h:F d W ok A n xs):F d W (fun k=>ok k/\k<W.heap.size) A n xs:=Foot.bound h
theorem F_step (h:F d W ok A n xs) (hm:∀ k,ok k->k<W.heap.size->W1.heap[k]? = W.heap[k]?):F d W1 ok A n xs:=Foot.step h hm
theorem F_imp (h:F d W ok A n xs) (hi:∀ W',d.C W' A n xs->d'.C W' A' n' xs'):F d' W ok A' n' xs':=Foot.imp h hi
theorem F_below (h:F d W ok A n xs) (hb:Below W.heap.size W W1):F d W1 ok A n xs:=F_step h (fun k _ hlt=>hb.block k hlt)
theorem F_alloc (h:F d W ok A n xs) (o:Obj):F d (W.alloc o) ok A n xs:=F_below h (qaj (Below.refl _ _) o)
theorem F_drew (h:F d W ok A n xs):F d W.drew ok A n xs:=F_below h (below_drew (Below.refl _ _))
theorem F_drewN (h:F d W ok A n xs) (m:Nat):F d (W.drewN m) ok A n xs:=F_below h (qaf (Below.refl _ _) m)
theorem F_far (h:F d W ok A n xs) {p:Addr} (hok:∀ k,ok k->k≠p.block) (u:Value):F d (W.setCell p u) ok A n xs:=F_step h (fun k hk _=>Below.heap_setCell W p u k (hok k hk))
theorem F_nil (d:Kd α) (W:World) (ok:Nat->Prop):F d W ok none ([]:List α).length []:=fun W' _=>C_nil d W'
theorem F_elder' (h:F d W ok A n xs) (hbase:∀ k,v.ownBlock=some k->W.heap.size<=k) (hb:Below W.heap.size W W1):F d W1 (fun k=>ok k/\some k≠v.ownBlock) A n xs:=
 F_mono (Foot.old h hb) (fun k hk=>⟨hk.1,fun he=>by have:=hbase k he.symm;have:=hk.2;omega⟩)
theorem F_elderB (h:F d W ok A n xs) (a:Nat) (ha:W.heap.size<=a):F d W (fun k=>ok k/\k≠a) A n xs:=F_mono (F_bound h) (fun k hk=>⟨hk.1,by have:=hk.2;omega⟩)
theorem F_after (h:F d W (fun k=>ok k/\some k≠v.ownBlock) A n xs) (hg:W.grownBy W1 v.ownBlock) (hat:v1.ownBlock=v.ownBlock\/∃ b,v1.ownBlock=some b/\W.heap.size<=b):F d W1 (fun k=>ok k/\some k≠v1.ownBlock) A n xs:=by
 refine F_mono (Foot.step (F_bound h) (fun k hk hlt=>hg.block k hlt hk.1.2)) (fun k hk=>⟨hk.1.1,?_⟩);rcases hat with hat|⟨b,hb,hle⟩
 .rw [hat];exact hk.1.2
 .rw [hb];intro he;injection he with he
  have:=hk.2;omega
theorem F_old (h:F d W ok A n xs) (hb:Below W.heap.size W W1):F d W1 (fun k=>ok k/\k<W.heap.size) A n xs:=Foot.old h hb
theorem F_told (h:F d W1 (fun k=>ok k/\k<N) A n xs) (hbase:∀ k,v.ownBlock=some k->N<=k):F d W1 (fun k=>(ok k/\some k≠v.ownBlock)/\k<N) A n xs:=
 F_mono h (fun k hk=>⟨⟨hk.1,fun he=>Nat.lt_irrefl _ (Nat.lt_of_lt_of_le hk.2 (hbase k he.symm))⟩,hk.2⟩)
theorem C_F (hd:Heap d) (h:d.C w A n xs):F d w (fun k=>k<w.heap.size) A n xs:=fun _ hW=>hd.C (fun k hlt=>hW k hlt hlt) h
theorem FK_now (h:FK d W ok x c):d.K W x c:=Foot.now h
theorem FK_mono (h:FK d W ok x c) (hok:∀ k,ok k->ok' k):FK d W ok' x c:=Foot.mono h hok
theorem FK_bound (h:FK d W ok x c):FK d W (fun k=>ok k/\k<W.heap.size) x c:=Foot.bound h
theorem FK_step (h:FK d W ok x c) (hm:∀ k,ok k->k<W.heap.size->W1.heap[k]? = W.heap[k]?):FK d W1 ok x c:=Foot.step h hm
theorem FK_of_M (h:d.M W base ok x c):FK d W ok x c:=fun _ hW=>d.K_of_M (M_step h hW)
theorem emptied (W:World) (g:Nat):∃ W':World,(∀ k,k≠g->W'.heap[k]? = W.heap[k]?)/\∀ a:Addr,a.block=g->W'.cell? a=none:=by
 refine⟨{ W with heap:=W.heap.setIfInBounds g (.cells #[] 0) },fun k hk=>by simp [Ne.symm hk],fun a ha=>?_⟩;subst ha;by_cases hlt:a.block<W.heap.size
 .simp [World.cell?,hlt]
 .simp [World.cell?,hlt]
end
end Kd
end Go.Proofs.YtgnaaokhfpfglaaGreatDoorW.PrintWords
end
section
namespace Go.Proofs.YtgnaaokhfpfglaaGreatDoorW.PrintWords
open Go.RowKit
namespace Kd
def chunks (sz:Nat) (n:Nat) (inner:List Value):List (List Value):=(List.range n).map fun j=>(inner.drop (j * sz)).take sz
theorem qaK (sz n:Nat) (inner:List Value):(chunks sz n inner).length=n:=by simp [chunks]
theorem chunks_at {sz n:Nat} {inner:List Value} {j:Nat} (hj:j<n):(chunks sz n inner)[j]? = some ((inner.drop (j * sz)).take sz):=by simp [chunks,hj]
theorem chunks_get {sz n:Nat} {inner:List Value} {j:Nat} {c:List Value} (h:(chunks sz n inner)[j]? = some c):c=(inner.drop (j * sz)).take sz:=by
 have hj:j<n:=by have:=(List.getElem?_eq_some_iff.1 h).1;rwa [qaK] at this
 rw [chunks_at hj] at h;injection h with h
 exact h.symm
theorem reps_raw {α:Type} {Rr:α->List Value->Prop} {sz:Nat} {xs:List α} {inner:List Value} (h:Reps Rr sz xs inner) (hR:∀ x c,Rr x c->c.length=sz/\∀ u ∈ c,u.oneCell' = true):Reps (fun x cs=>cs=x/\cs.length=sz/\∀ u ∈ cs,u.oneCell' = true) sz (chunks sz xs.length inner) inner:=by
 refine⟨by rw [qaK];exact h.1,fun j p hj=>?_⟩;have hjl:j<xs.length:=by have:=(List.getElem?_eq_some_iff.1 hj).1;rwa [qaK] at this
 have hp:=chunks_get hj;exact⟨hp.symm,hR _ _ (h.2 j _ (List.getElem?_eq_getElem hjl))⟩
section
variable {α:Type} {d:Kd α} {e base n cc g:Nat} {ok ok' okp S:Nat->Prop} {w w1 W W1:World} {A:Option Addr} {u v v1:Value} {xs:List α} {x:α} {c:List Value}
theorem F_get (h:F d W ok A n xs) (z:α) (i:Int) (h0:0<=i) (h1:i<n) :
  ∃ ad c,A=some ad/\c.length=d.sz/\FK d W ok (xs.getD i.toNat z) c/\(∀ j u,c[j]? = some u->W.cell? (ad.add (i.toNat * d.sz+j))=some u)/\(0<d.sz->ok ad.block):=by
 obtain⟨ad,c,rfl,hcl,hK,hcc⟩:=C_get (F_now h) z i h0 h1;have hin:0<d.sz->ok ad.block:=by
  intro hs;by_cases hk:ok ad.block
  .exact hk
  .obtain⟨W',h2,h3⟩:=emptied W ad.block;obtain⟨ad',c',he,hcl',_,hcc'⟩:=C_get (h W' (fun k hk' _=>h2 k (fun e=>hk (e ▸ hk')))) z i h0 h1;injection he with he
   subst he;have h4:=hcc' 0 _ (List.getElem?_eq_getElem (by omega));rw [h3 _ (add_block _ _)] at h4;cases h4
 refine⟨ad,c,rfl,hcl,fun W' hW=>?_,hcc,hin⟩;obtain⟨ad',c',he,hcl',hK',hcc'⟩:=C_get (h W' hW) z i h0 h1;injection he with he
 subst he;have hc:c=c':=by
  apply List.ext_getElem?;intro j;by_cases hj:j<d.sz
  .have hb:W'.heap[ad.block]? = W.heap[ad.block]?:=by
    have h5:=hcc j _ (List.getElem?_eq_getElem (by omega));have h6:=World.block_lt_of_cell? W _ h5;rw [add_block] at h6;exact hW _ (hin (by omega)) h6
   have h5:=hcc j _ (List.getElem?_eq_getElem (by omega));have h6:=hcc' j _ (List.getElem?_eq_getElem (by omega));have h7:W'.cell? (ad.add (i.toNat * d.sz+j))=W.cell? (ad.add (i.toNat * d.sz+j)):=by simp [World.cell?,add_block,hb]
   rw [h7,h5] at h6;rw [List.getElem?_eq_getElem (by omega),List.getElem?_eq_getElem (by omega)];exact h6
  .rw [List.getElem?_eq_none (by omega),List.getElem?_eq_none (by omega)]
 rw [hc];exact hK'
theorem F_rows (h:F d W ok A n xs):qaQ (fun x c=>FK d W ok x c) d.sz W A n xs:=by
 obtain⟨hl,hm,hn⟩:=F_now h;refine⟨hl,hm,fun hp=>?_⟩;obtain⟨ad,rfl,_⟩:=hn hp;refine⟨ad,rfl,fun j p hj=>?_⟩;obtain⟨hjl,hjp⟩:=List.getElem?_eq_some_iff.1 hj;obtain⟨ad',c,he,hcl,hK,hcc,_⟩:=F_get h p (j:Int) (by omega) (by omega);injection he with he
 subst he;simp only [Int.toNat_natCast] at hK hcc;rw [List.getD_eq_getElem?_getD,hj] at hK;exact⟨c,hcl,hK,hcc⟩
def N {α:Type} (d:Kd α) (e:Nat) (w:World) (base:Nat) (ok:Nat->Prop) (v:Value) (xs:List α):Prop:=
 (∀ k,v.ownBlock=some k->ok k)/\∃ rows:List (List Value),rows.length=xs.length/\(raw d.sz).R e w base (fun k=>some k=v.ownBlock) v rows/\∀ (j:Nat) (x:α) (c:List Value),xs[j]? = some x->rows[j]? = some c->FK d w (fun k=>ok k/\some k≠v.ownBlock) x c
theorem raw_tight {sz:Nat} {rows:List (List Value)} (h:(raw sz).R e w base ok v rows):(raw sz).R e w base (fun k=>some k=v.ownBlock) v rows:=R_tight rfl h
theorem raw_any {sz:Nat} {rows:List (List Value)} (h:(raw sz).R e w base ok v rows):(raw sz).R e w base (fun _=>True) v rows:=R_mono h (fun _ _=>trivial)
theorem R_N (h:d.R e w base ok v xs):N d e w base ok v xs:=by
 obtain⟨h0,inner,ho,hr⟩:=h;refine⟨h0,chunks d.sz xs.length inner,qaK _ _ _,⟨fun k hk=>hk.symm,inner,by rw [qaK];exact ho,reps_raw hr (fun x c hp=>⟨d.K_len (d.K_of_M hp),d.K_one (d.K_of_M hp)⟩)⟩,fun j x c hx hc=>?_⟩;rw [chunks_get hc];exact FK_of_M (hr.2 j x hx)
theorem S_N (h:Kd.S d e w base ok v xs):N d e w base ok v xs:=R_N (S_R h)
theorem N_nil (d:Kd α) (e:Nat) (w:World) (base:Nat) (ok:Nat->Prop):N d e w base ok (.slice none 0 0) []:=R_N (R_nil _ _ _ _ _)
theorem N_mono (h:N d e w base ok v xs) (hok:∀ k,ok k->ok' k):N d e w base ok' v xs:=by
 obtain⟨h0,rows,hl,hR,hf⟩:=h;exact⟨fun k hk=>hok k (h0 k hk),rows,hl,hR,fun j x c hx hc=>FK_mono (hf j x c hx hc) (fun k hk=>⟨hok k hk.1,hk.2⟩)⟩
theorem N_lt (h:N d e w base ok v xs):∀ k,v.ownBlock=some k->k<w.heap.size:=by
 obtain⟨_,rows,_,hR,_⟩:=h;exact R_lt hR
theorem N_base (h:N d e w base ok v xs):∀ k,v.ownBlock=some k->base<=k:=by
 obtain⟨_,rows,_,hR,_⟩:=h;exact R_base hR
theorem N_ne (h:N d e w base ok v xs) {t:Nat} {cells:Array Value} (hb:w.heap[g]? = some (.cells cells t (0,0))) (ht:e≠t):some g≠v.ownBlock:=by
 obtain⟨_,rows,_,hR,_⟩:=h;exact R_ne hR hb ht
theorem N_bound (h:N d e w base ok v xs):N d e w base (fun k=>ok k/\k<w.heap.size) v xs:=by
 have hlt:=N_lt h;obtain⟨h0,rows,hl,hR,hf⟩:=h;exact⟨fun k hk=>⟨h0 k hk,hlt k hk⟩,rows,hl,hR,fun j x c hx hc=>FK_mono (FK_bound (hf j x c hx hc)) (fun k hk=>⟨⟨hk.1.1,hk.2⟩,hk.1.2⟩)⟩
theorem N_lower {base':Nat} (h:N d e w base ok v xs) (hb:base'<=base):N d e w base' ok v xs:=by
 obtain⟨h0,rows,hl,hR,hf⟩:=h;exact⟨h0,rows,hl,R_lower hR hb,hf⟩
theorem N_step (h:N d e w base ok v xs) (hm:∀ k,ok k->k<w.heap.size->w1.heap[k]? = w.heap[k]?):N d e w1 base ok v xs:=by
 obtain⟨h0,rows,hl,hR,hf⟩:=h;exact⟨h0,rows,hl,R_step hR (fun k hk hlt=>hm k (h0 k hk.symm) hlt),fun j x c hx hc=>FK_step (hf j x c hx hc) (fun k hk hlt=>hm k hk.1 hlt)⟩
theorem N_below (h:N d e w base ok v xs) (hb:Below w.heap.size w w1):N d e w1 base ok v xs:=N_step h (fun k _ hk=>hb.block k hk)
theorem N_alloc (h:N d e w base ok v xs) (o:Obj):N d e (w.alloc o) base ok v xs:=N_below h (qaj (Below.refl _ _) o)
theorem N_drew (h:N d e w base ok v xs):N d e w.drew base ok v xs:=N_below h (below_drew (Below.refl _ _))
theorem N_drewN (h:N d e w base ok v xs) (m:Nat):N d e (w.drewN m) base ok v xs:=N_below h (qaf (Below.refl _ _) m)
theorem N_far (h:N d e w base ok v xs) {p:Addr} (hok:∀ k,ok k->k≠p.block) (u:Value):N d e (w.setCell p u) base ok v xs:=N_step h (fun k ho _=>Below.heap_setCell w p u k (hok k ho))
theorem N_elder' (h:N d e W base ok v xs) (hbase:∀ k,u.ownBlock=some k->W.heap.size<=k) (hb:Below W.heap.size W w1):N d e w1 base (fun k=>ok k/\some k≠u.ownBlock) v xs:=
 N_mono (N_below (N_bound h) hb) (fun k hk=>⟨hk.1,fun he=>by have:=hbase k he.symm;have:=hk.2;omega⟩)
theorem N_elderB (h:N d e w base ok v xs) (a:Nat) (ha:w.heap.size<=a):N d e w base (fun k=>ok k/\k≠a) v xs:=N_mono (N_bound h) (fun k hk=>⟨hk.1,by have:=hk.2;omega⟩)
theorem N_after (h:N d e W base (fun k=>ok k/\some k≠u.ownBlock) v xs) {u1:Value} (hg:W.grownBy w1 u.ownBlock) (hat:u1.ownBlock=u.ownBlock\/∃ b,u1.ownBlock=some b/\W.heap.size<=b):N d e w1 base (fun k=>ok k/\some k≠u1.ownBlock) v xs:=by
 refine N_mono (N_step (N_bound h) (fun k hk hlt=>hg.block k hlt hk.1.2)) (fun k hk=>⟨hk.1.1,?_⟩);rcases hat with hat|⟨b,hb,hle⟩
 .rw [hat];exact hk.1.2
 .rw [hb];intro he;injection he with he
  have:=hk.2;omega
theorem N_old (h:N d e W base ok v xs) (hb:Below W.heap.size W w1):N d e w1 base (fun k=>ok k/\k<W.heap.size) v xs:=N_below (N_bound h) hb
theorem N_told {b:Nat} (h:N d e w1 base (fun k=>ok k/\k<b) v xs) (hbase:∀ k,u.ownBlock=some k->b<=k):N d e w1 base (fun k=>(ok k/\some k≠u.ownBlock)/\k<b) v xs:=
 N_mono h (fun k hk=>⟨⟨hk.1,fun e=>Nat.lt_irrefl _ (Nat.lt_of_lt_of_le hk.2 (hbase k e.symm))⟩,hk.2⟩)
theorem N_slice (h:N d e w base ok v xs):∃ A c,v=.slice A xs.length c:=by
 obtain⟨_,rows,hl,hR,_⟩:=h;obtain⟨A,c,he⟩:=R_slice hR;exact⟨A,c,by rw [he,hl]⟩
theorem N_reads' {n c:Nat} (h:N d e w base ok (.slice A n c) xs):n=xs.length/\n<=c/\d.C w A xs.length xs:=by
 obtain⟨_,rows,hl,hR,hf⟩:=h;obtain⟨hn,hc,hC⟩:=R_reads' hR;refine⟨by omega,hc,?_⟩;rw [hl] at hC;refine⟨rfl,hC.2.1,fun hp=>?_⟩;obtain⟨ad,he,hcell⟩:=hC.2.2 hp;refine⟨ad,he,fun j p hj=>?_⟩;have hjl:j<rows.length:=by have:=(List.getElem?_eq_some_iff.1 hj).1;omega
 obtain⟨c',hcl,hK,hcc⟩:=hcell j _ (List.getElem?_eq_getElem hjl);have hk:=FK_now (hf j p _ hj (List.getElem?_eq_getElem hjl));refine⟨c',hcl,?_,hcc⟩;rw [show c' = rows[j] from hK.1];exact hk
theorem N_F {n:Nat} (h:N d e w base ok (.slice A n cc) xs):F d w ok A n xs:=fun W' hW=>by
 have h2:=N_reads' (N_step h hW);rw [h2.1];exact h2.2.2
theorem N_elem {n cap:Nat} (h:N d e W base ok (.slice (some ⟨g,0,none⟩) n cap) xs) (z:α) (i:Int) (h0:0<=i) (h1:i<n) :
  ∃ c,c.length=d.sz/\FK d W (fun k=>ok k/\k≠g) (xs.getD i.toNat z) c/\(∀ j u,c[j]? = some u->W.cell? ⟨g,i.toNat * d.sz+j,none⟩=some u)/\∀ j,W.frozen? ⟨g,i.toNat * d.sz+j,none⟩=false:=by
 obtain⟨_,rows,hl,hR,hf⟩:=h;have hn:=(R_reads' hR).1;obtain⟨c,hcl,hM,hcc,hfr⟩:=R_elem hR [] i h0 h1;have hil:i.toNat<rows.length:=by omega
 have hil':i.toNat<xs.length:=by omega
 have hc:c=rows[i.toNat]:=by
  have h2:=hM.1
  rwa [List.getD_eq_getElem?_getD,List.getElem?_eq_getElem hil] at h2
 refine⟨c,hcl,?_,hcc,hfr⟩;rw [List.getD_eq_getElem?_getD,List.getElem?_eq_getElem hil'];exact FK_mono (hf _ _ _ (List.getElem?_eq_getElem hil') (by rw [hc];exact List.getElem?_eq_getElem hil)) (fun k hk=>⟨hk.1,fun he=>hk.2 (by rw [he];simp [Value.ownBlock])⟩)
theorem N_get {ad:Addr} {n cap:Nat} (h:N d e W base ok (.slice (some ad) n cap) xs) (z:α) (i:Int) (h0:0<=i) (h1:i<n) :
  ∃ c,c.length=d.sz/\FK d W (fun k=>ok k/\some k≠(Value.slice (some ad) n cap).ownBlock) (xs.getD i.toNat z) c/\∀ j u,c[j]? = some u->W.cell? (ad.add (i.toNat * d.sz+j))=some u:=by
 obtain⟨g,rfl⟩:∃ g,ad=⟨g,0,none⟩:=by
  obtain⟨_,rows,_,hR,_⟩:=h;exact R_head hR
 obtain⟨c,hcl,hM,hcc,_⟩:=N_elem h z i h0 h1;refine⟨c,hcl,FK_mono hM (fun k hk=>⟨hk.1,fun he=>hk.2 (by simpa [Value.ownBlock] using he)⟩),fun j u hu=>?_⟩;rw [add_at,Nat.zero_add];exact hcc j u hu
end
end Kd
end Go.Proofs.YtgnaaokhfpfglaaGreatDoorW.PrintWords
end
section
namespace Go.Proofs.YtgnaaokhfpfglaaGreatDoorW.PrintWords
open Go.RowKit
namespace Kd
section
variable {α:Type} {d:Kd α} {e base n cap g:Nat} {ok ok' okp:Nat->Prop} {w w1 W:World} {v v1:Value} {xs ys:List α}
theorem N_appended {rows news:List (List Value)} (h0:∀ k,v.ownBlock=some k->ok k) (hl:rows.length=xs.length) (hf:∀ (j:Nat) (x:α) (c:List Value),xs[j]? = some x->rows[j]? = some c->FK d W (fun k=>ok k/\some k≠v.ownBlock) x c)
  (hl2:news.length=ys.length) (hf2:∀ (j:Nat) (x:α) (c:List Value),ys[j]? = some x->news[j]? = some c->FK d W okp x c) (hokp:∀ k,okp k->ok k/\some k≠v.ownBlock) (hfresh:∀ k,W.heap.size<=k->ok k)
  (hR:(raw d.sz).R e w1 base (fun _=>True) v1 (rows++news)) (hg:W.grownBy w1 v.ownBlock) (hat:v1.ownBlock=v.ownBlock\/∃ b,v1.ownBlock=some b/\W.heap.size<=b):N d e w1 base ok v1 (xs++ys):=by
 have hne:∀ k,some k≠v.ownBlock->k<W.heap.size->some k≠v1.ownBlock:=by
  intro k hk hlt;rcases hat with hat|⟨b,hb,hle⟩
  .rw [hat];exact hk
  .rw [hb];intro he;injection he with he
   omega
 have step:∀ {x:α} {c:List Value} {o:Nat->Prop},FK d W o x c->(∀ k,o k->ok k/\some k≠v.ownBlock)->FK d w1 (fun k=>ok k/\some k≠v1.ownBlock) x c:=by
  intro x c o hq ho;exact FK_mono (FK_step (FK_bound hq) (fun k hk hlt=>hg.block k hlt (ho k hk.1).2)) (fun k hk=>⟨(ho k hk.1).1,hne k (ho k hk.1).2 hk.2⟩)
 refine⟨fun k hk=>?_,rows++news,by rw [List.length_append,List.length_append,hl,hl2],raw_tight hR,fun j x c hx hc=>?_⟩
 .rcases hat with hat|⟨b,hb,hle⟩
  .exact h0 k (hat ▸ hk)
  .rw [hb] at hk;injection hk with hk
   exact hfresh k (by omega)
 .rcases Nat.lt_or_ge j xs.length with hlt|hge
  .rw [List.getElem?_append_left hlt] at hx;rw [List.getElem?_append_left (by omega)] at hc;exact step (hf j x c hx hc) (fun _ hk=>hk)
  .rw [List.getElem?_append_right hge] at hx;rw [List.getElem?_append_right (by omega),hl] at hc;exact step (hf2 _ x c hx hc) hokp
theorem FK_raw {x:α} {c:List Value} (h:FK d W ok x c):c=c/\c.length=d.sz/\∀ u ∈ c,u.oneCell' = true:=⟨rfl,d.K_len (FK_now h),d.K_one (FK_now h)⟩
theorem N_made {rows:List (List Value)} (hR:(raw d.sz).R e w1 base (fun k=>k=W.heap.size) v1 rows) (hg:W.grownBy w1 none) (hat:∃ b,v1.ownBlock=some b/\W.heap.size<=b) (hl:rows.length=xs.length) (hf:∀ (j:Nat) (x:α) (c:List Value),xs[j]? = some x->rows[j]? = some c->FK d W okp x c)
  (hok:∀ k,okp k->ok k) (hfresh:ok W.heap.size):N d e w1 base ok v1 xs:=by
 obtain⟨b,hb,hle⟩:=hat;refine⟨fun k hk=>by rw [hR.1 k hk];exact hfresh,rows,hl,raw_tight hR,fun j x c hx hc=>?_⟩;refine FK_mono (FK_step (FK_bound (hf j x c hx hc)) (fun k hk hlt=>hg.block k hlt (by simp))) (fun k hk=>⟨hok k hk.1,fun he=>?_⟩);rw [hb] at he;injection he with he
 have:=hk.2;omega
theorem reads_raw {Rr:α->List Value->Prop} {sz m:Nat} {A:Option Addr} (h:qaQ Rr sz W A m ys) (hR:∀ x c,Rr x c->c.length=sz/\∀ u ∈ c,u.oneCell' = true) :
  ∃ news:List (List Value),news.length=ys.length/\qaQ (fun x cs=>cs=x/\cs.length=sz/\∀ u ∈ cs,u.oneCell' = true) sz W A m news/\∀ (j:Nat) (x:α) (c:List Value),ys[j]? = some x->news[j]? = some c->Rr x c:=by
 rcases Nat.eq_zero_or_pos m with h0|hp
 .have hy:ys=[]:=List.eq_nil_of_length_eq_zero (h.1.trans h0);subst hy;exact⟨[],rfl,⟨h0 ▸ rfl,h.2.1,fun hp=>by omega⟩,fun j x c hx=>by simp at hx⟩
 .obtain⟨ad,rfl,_⟩:=h.2.2 hp;obtain⟨inner,hr,hc⟩:=qaQ.inner_ h;refine⟨chunks sz ys.length inner,qaK _ _ _,⟨by rw [qaK];exact h.1,h.2.1,fun _=>⟨ad,rfl,fun j p hj=>?_⟩⟩,fun j x c hx hcc=>?_⟩
  .have hjl:j<ys.length:=by have:=(List.getElem?_eq_some_iff.1 hj).1;rwa [qaK] at this
   have hpe:=chunks_get hj;have hq:=hR _ _ (hr.2 j _ (List.getElem?_eq_getElem hjl));rw [<- hpe] at hq;refine⟨p,hq.1,⟨rfl,hq⟩,fun i u hu=>?_⟩;have hu2:inner[j * sz+i]? = some u:=by
    rw [hpe,List.getElem?_take] at hu;split at hu
    .rw [List.getElem?_drop] at hu;exact hu
    .cases hu
   exact hc _ u hu2
  .rw [chunks_get hcc];exact hr.2 j x hx
end
section
variable {P:Program} {ops:Array Oper} {rest:List Oper} {o:Oper} {a:Act} {Q:Exit->Act->World->Prop} {Kc:Act->World->Prop} {α:Type}
theorem N_append (d:Kd α) {w0 W:World} (base:Nat) (hgd:o.guard=none) (s x:Operand) (t e:TypeId) (z:Value) (bytes:Nat)
  (ho:o.op=.call { callee:=.builtin .append,args:=#[s,x],argTypes:=#[t,t] })
  (ht:P.underlying t=some (.slice e)) (hinfo:(P.info? e).map (fun i=>(i.zero,i.size,i.bytes))=some (some z,d.sz,bytes)) (hz:z.cells.size=d.sz) (hs0:0<d.sz) (hb0:0<bytes)
  (v:Value) (xs:List α) (p:α) (cs:List Value) (ok okp:Nat->Prop) (hs:a.eval s=v) (hx:a.eval x=.slice (some ⟨W.heap.size,0,none⟩) 1 1) (hp:FK d W okp p cs) (hokp:∀ k,okp k->ok k/\some k≠v.ownBlock) (hfresh:∀ k,W.heap.size<=k->ok k)
  (HO:N d e W base ok v xs) (HB:Below base w0 W) (hbase:base<=W.heap.size) (hl:(xs.length+1) * bytes<=140737488355328)
  (h:∀ v1 w1,N d e w1 base ok v1 (xs++[p])->Below base w0 w1->W.grownBy w1 v.ownBlock->(v1.ownBlock=v.ownBlock\/∃ b,v1.ownBlock=some b/\W.heap.size<=b)->wpList P ops Q rest (a.put o.dst v1) w1) :
  wpList P ops Q (o::rest) a (W.alloc (.cells cs.toArray e)):=by
 obtain⟨h0,rows,hlr,hR,hf⟩:=HO;refine R_append (raw d.sz) base hgd s x t e z bytes ho ht hinfo hz hs0 hb0 v rows cs cs (fun _=>True) (fun _=>False) hs hx (FK_raw hp) (fun _ hk=>hk.elim) (fun _ _=>trivial) (raw_any hR) HB hbase (by rw [hlr];exact hl) ?_;intro v1 w1 hr hb hg hat;exact h v1 w1 (N_appended h0 hlr hf (ys:=[p]) (news:=[cs]) rfl (fun j y c hy hc=>by
  rcases j with _|j
  .simp only [List.getElem?_cons_zero,Option.some.injEq] at hy hc;rw [<- hy,<- hc];exact hp
  .simp at hy) hokp hfresh hr hg hat) hb hg hat
theorem N_append_step (d:Kd α) {w0 W:World} (base:Nat) (hw:Region.wanted o (yielded ops a.tmps)=true) (s x:Operand) (t e:TypeId) (z:Value) (bytes:Nat)
  (ho:o.op=.call { callee:=.builtin .append,args:=#[s,x],argTypes:=#[t,t] })
  (ht:P.underlying t=some (.slice e)) (hinfo:(P.info? e).map (fun i=>(i.zero,i.size,i.bytes))=some (some z,d.sz,bytes)) (hz:z.cells.size=d.sz) (hs0:0<d.sz) (hb0:0<bytes)
  (v:Value) (xs:List α) (p:α) (cs:List Value) (ok okp:Nat->Prop) (hs:a.eval s=v) (hx:a.eval x=.slice (some ⟨W.heap.size,0,none⟩) 1 1) (hp:FK d W okp p cs) (hokp:∀ k,okp k->ok k/\some k≠v.ownBlock) (hfresh:∀ k,W.heap.size<=k->ok k)
  (HO:N d e W base ok v xs) (HB:Below base w0 W) (hbase:base<=W.heap.size) (hl:(xs.length+1) * bytes<=140737488355328)
  (h:∀ v1 w1,N d e w1 base ok v1 (xs++[p])->Below base w0 w1->W.grownBy w1 v.ownBlock->(v1.ownBlock=v.ownBlock\/∃ b,v1.ownBlock=some b/\W.heap.size<=b)->Kc (a.put o.dst v1) w1) :
  if Region.wanted o (yielded ops a.tmps)=true then Oper.wp P o a (W.alloc (.cells cs.toArray e)) Kc Q else Kc (a.put o.dst undef) (W.alloc (.cells cs.toArray e)):=by
 obtain⟨h0,rows,hlr,hR,hf⟩:=HO;refine R_append_step (raw d.sz) base hw s x t e z bytes ho ht hinfo hz hs0 hb0 v rows cs cs (fun _=>True) (fun _=>False) hs hx (FK_raw hp) (fun _ hk=>hk.elim) (fun _ _=>trivial) (raw_any hR) HB hbase (by rw [hlr];exact hl) ?_;intro v1 w1 hr hb hg hat;exact h v1 w1 (N_appended h0 hlr hf (ys:=[p]) (news:=[cs]) rfl (fun j y c hy hc=>by
  rcases j with _|j
  .simp only [List.getElem?_cons_zero,Option.some.injEq] at hy hc;rw [<- hy,<- hc];exact hp
  .simp at hy) hokp hfresh hr hg hat) hb hg hat
theorem N_append_rows (d:Kd α) {w0 W:World} (base:Nat) (hgd:o.guard=none) (s x:Operand) (t e:TypeId) (z:Value) (bytes:Nat)
  (ho:o.op=.call { callee:=.builtin .append,args:=#[s,x],argTypes:=#[t,t] })
  (ht:P.underlying t=some (.slice e)) (hinfo:(P.info? e).map (fun i=>(i.zero,i.size,i.bytes))=some (some z,d.sz,bytes)) (hz:z.cells.size=d.sz) (hs0:0<d.sz) (hb0:0<bytes)
  (v:Value) (xs ys:List α) (A:Option Addr) (m c:Nat) (ok okp:Nat->Prop) (hs:a.eval s=v) (hx:a.eval x=.slice A m c)
  (HO:N d e W base ok v xs) (HR:F d W okp A m ys) (hokp:∀ k,okp k->ok k/\some k≠v.ownBlock) (hfresh:∀ k,W.heap.size<=k->ok k)
  (HB:Below base w0 W) (hbase:base<=W.heap.size) (hl:(xs.length+m) * bytes<=140737488355328)
  (h:∀ v1 w1,N d e w1 base ok v1 (xs++ys)->Below base w0 w1->W.grownBy w1 v.ownBlock->(v1.ownBlock=v.ownBlock\/∃ b,v1.ownBlock=some b/\W.heap.size<=b)->wpList P ops Q rest (a.put o.dst v1) w1) :
  wpList P ops Q (o::rest) a W:=by
 obtain⟨h0,rows,hlr,hR,hf⟩:=HO;obtain⟨news,hnl,hnr,hnf⟩:=reads_raw (F_rows HR) (fun y c hk=>⟨d.K_len (FK_now hk),d.K_one (FK_now hk)⟩);refine R_append_rows (raw d.sz) base hgd s x t e z bytes ho ht hinfo hz hs0 hb0 v rows news A m c (fun _=>True) (fun _=>False) hs hx (raw_any hR) hnr (fun _ _ hk=>hk) (fun _ hk=>hk.elim) (fun _ _=>trivial) HB hbase (by rw [hlr];exact hl) ?_;intro v1 w1 hr hb hg hat;exact h v1 w1 (N_appended h0 hlr hf hnl hnf hokp hfresh hr hg hat) hb hg hat
theorem N_lit (d:Kd α) {w0 W:World} (base e:Nat) (hgd:o.guard=none) {N':Tmp} (_hd:o.dst=some N') {xs:List α} {inner:List Value} {ok okp:Nat->Prop}
  (hrun:(execOp a.eval o).run P W=.ok (.value (.slice (some ⟨W.heap.size,0,none⟩) xs.length xs.length)) (W.alloc (.cells inner.toArray e)))
  (hrep:Reps (FK d W okp) d.sz xs inner) (hok:∀ k,okp k->ok k) (hfresh:ok W.heap.size) (HB:Below base w0 W) (hbase:base<=W.heap.size) (hm:xs.length<=9223372036854775807)
  (h:∀ v1 w1,N d e w1 base ok v1 xs->Below base w0 w1->W.grownBy w1 none->(∃ b,v1.ownBlock=some b/\W.heap.size<=b)->wpList P ops Q rest (a.put o.dst v1) w1) :
  wpList P ops Q (o::rest) a W:=by
 refine R_lit (raw d.sz) base e hgd _hd (xs:=chunks d.sz xs.length inner) (inner:=inner) (ok:=fun k=>k=W.heap.size) (okp:=fun _=>False) (by rw [qaK];exact hrun) (reps_raw hrep (fun y c hk=>⟨d.K_len (FK_now hk),d.K_one (FK_now hk)⟩)) (fun _ hk=>hk.elim) rfl HB hbase (by rw [qaK];exact hm) ?_;intro v1 w1 hr hb hg hat;exact h v1 w1 (N_made hr hg hat (qaK _ _ _) (fun j y c hy hc=>by rw [chunks_get hc];exact hrep.2 j y hy) hok hfresh) hb hg hat
end
end Kd
end Go.Proofs.YtgnaaokhfpfglaaGreatDoorW.PrintWords
end
section
namespace Go.Proofs.YtgnaaokhfpfglaaGreatDoorW.PrintMore
open Go.RowKit Go.Proofs.YtgnaaokhfpfglaaGreatDoorW.PrintWords
namespace Kd
open Go.Proofs.YtgnaaokhfpfglaaGreatDoorW.PrintWords.Kd
end Kd
namespace Kd
open Go.Proofs.YtgnaaokhfpfglaaGreatDoorW.PrintWords.Kd
section
variable {α:Type} {d:Kd α} {e base g N:Nat} {ok:Nat->Prop} {W w1:World} {u v:Value} {xs:List α}
end
end Kd
theorem qa8 (k k':IntKind) (x y:Int):Builtin.max2 (.int k x) (.int k' y)=pure (.int k (if x<y then y else x)):=by simp only [Builtin.max2,gt_iff_lt]
theorem qa6 (k k':IntKind) (x y:Int):Builtin.min2 (.int k x) (.int k' y)=pure (.int k (if y<x then y else x)):=by simp only [Builtin.min2]
theorem max_two (ats:Array TypeId) (ty:TypeId) (a b:Value):Builtin.max_ ats ty #[a,b]=(Builtin.max2 a b >>= fun s=>pure s):=by simp only [Builtin.max_,List.foldlM_cons,List.foldlM_nil]
theorem min_two (ats:Array TypeId) (ty:TypeId) (a b:Value):Builtin.min_ ats ty #[a,b]=(Builtin.min2 a b >>= fun s=>pure s):=by simp only [Builtin.min_,List.foldlM_cons,List.foldlM_nil]
theorem qaU (ats:Array TypeId) (ty:TypeId) (a b c:Value):Builtin.max_ ats ty #[a,b,c]=(Builtin.max2 a b >>= fun s=>Builtin.max2 s c >>= fun s=>pure s):=by simp only [Builtin.max_,List.foldlM_cons,List.foldlM_nil]
theorem qaT (ats:Array TypeId) (ty:TypeId) (a b c:Value):Builtin.min_ ats ty #[a,b,c]=(Builtin.min2 a b >>= fun s=>Builtin.min2 s c >>= fun s=>pure s):=by simp only [Builtin.min_,List.foldlM_cons,List.foldlM_nil]
theorem qa7 (ats:Array TypeId) (ty:TypeId) (a b c d:Value):Builtin.max_ ats ty #[a,b,c,d]=(Builtin.max2 a b >>= fun s=>Builtin.max2 s c >>= fun s=>Builtin.max2 s d >>= fun s=>pure s):=by simp only [Builtin.max_,List.foldlM_cons,List.foldlM_nil]
theorem qa5 (ats:Array TypeId) (ty:TypeId) (a b c d:Value):Builtin.min_ ats ty #[a,b,c,d]=(Builtin.min2 a b >>= fun s=>Builtin.min2 s c >>= fun s=>Builtin.min2 s d >>= fun s=>pure s):=by simp only [Builtin.min_,List.foldlM_cons,List.foldlM_nil]
end Go.Proofs.YtgnaaokhfpfglaaGreatDoorW.PrintMore
namespace Go.Proofs.YtgnaaokhfpfglaaGreatDoorW.PrintWords
open Go.RowKit
section
variable {P:Program} {ops:Array Oper} {rest:List Oper} {o:Oper} {a:Act} {Q:Exit->Act->World->Prop} {W:World}
theorem qaB {f:FuncId} {as_:Array Operand} {ts:Array TypeId} (_ho:o.op=.call { callee:=.value (.func f),args:=as_,argTypes:=ts }) (h:wpList P ops Q (o::rest) a W):wpList P ops Q (o::rest) a W:=h
theorem qaG {b:Builtin} {xs:Array Operand} {ts:Array TypeId} (_ho:o.op=.call { callee:=.builtin b,args:=xs,argTypes:=ts }) (h:wpList P ops Q (o::rest) a W):wpList P ops Q (o::rest) a W:=h
end
def mx (a b:Int):Int:=if a<b then b else a
def mn (a b:Int):Int:=if b<a then b else a
def shr (k:IntKind) (x y:Int):Int:=x / 2 ^ min y.toNat k.bits
theorem shr_small {k:IntKind} {x y j:Int} (h:shr k x y=j) (hy:y<=k.bits):x / 2 ^ y.toNat=j:=by rw [<- h];unfold shr;rw [Nat.min_eq_left (by omega)]
theorem drewN_self (w:World) (n:Nat):w.drewN n=w.drewN n:=rfl
namespace Kd
section
variable {α:Type} {d:Kd α} {e base:Nat} {ok:Nat->Prop} {W w1:World} {v:Value} {xs:List α}
end
section
variable {α:Type} {d:Kd α} {e base g n cap:Nat} {ok oki okp:Nat->Prop} {W:World} {xs:List α} {i:Int} {c:List Value}
end
section
variable {α:Type} {d:Kd α} {e base b b' g N:Nat} {ok ok1:Nat->Prop} {W W2 w1:World} {u v:Value} {xs ys:List α} {S:Nat->Prop}
end
end Kd
end Go.Proofs.YtgnaaokhfpfglaaGreatDoorW.PrintWords
namespace Go.Proofs.YtgnaaokhfpfglaaGreatDoorW.PrintWords
open Go.RowKit
namespace Kd
def V {α:Type} (d:Kd α) (_e:Nat) (W:World) (_base:Nat) (ok:Nat->Prop) (v:Value) (xs:List α):Prop:=∃ A c,v=.slice A xs.length c/\xs.length<=c/\F d W ok A xs.length xs
section
variable {α β:Type} {d:Kd α} {e base base' n m c g N' lo hi:Nat} {ok ok' S:Nat->Prop} {w W w1:World} {A:Option Addr} {ad:Addr} {u v v1:Value} {xs:List α}
theorem V_map (h:V d e W base ok v xs) (hF:∀ A,F d W ok A xs.length xs->F d w1 ok' A xs.length xs):V d e w1 base' ok' v xs:=by
 obtain⟨A,c,hv,hl,hf⟩:=h;exact⟨A,c,hv,hl,hF A hf⟩
theorem V_mk (hl:xs.length<=c) (hf:F d W ok A xs.length xs):V d e W base ok (.slice A xs.length c) xs:=⟨A,c,rfl,hl,hf⟩
theorem V_slice (h:V d e W base ok v xs):∃ A c,v=.slice A xs.length c:=by
 obtain⟨A,c,hv,_⟩:=h;exact⟨A,c,hv⟩
theorem V_at (h:V d e W base ok (.slice A n c) xs):n=xs.length/\n<=c/\F d W ok A xs.length xs:=by
 obtain⟨A',c',hv,hl,hf⟩:=h;injection hv with ha hn hc
 subst ha;subst hc;exact⟨hn,by rw [hn];exact hl,hf⟩
theorem V_reads' (h:V d e W base ok (.slice A n c) xs):n=xs.length/\n<=c/\d.C W A xs.length xs:=⟨(V_at h).1,(V_at h).2.1,F_now (V_at h).2.2⟩
theorem V_F (h:V d e W base ok (.slice A n c) xs):F d W ok A n xs:=by
 obtain⟨hn,_,hf⟩:=V_at h;rw [hn];exact hf
theorem V_nil (d:Kd α) (e:Nat) (W:World) (base:Nat) (ok:Nat->Prop):V d e W base ok (.slice none 0 0) []:=⟨none,0,rfl,Nat.le_refl _,F_nil d W ok⟩
theorem N_V (h:N d e W base ok v xs):V d e W base' ok v xs:=by
 obtain⟨A,c,rfl⟩:=N_slice h;exact⟨A,c,rfl,(N_reads' h).2.1,N_F h⟩
theorem V_mono (h:V d e W base ok v xs) (hok:∀ k,ok k->ok' k):V d e W base ok' v xs:=V_map h (fun _ hf=>F_mono hf hok)
theorem V_lower (h:V d e W base ok v xs) (_:base'<=base):V d e W base' ok v xs:=h
theorem V_below (h:V d e W base ok v xs) (hb:Below W.heap.size W w1):V d e w1 base ok v xs:=V_map h (fun _ hf=>F_below hf hb)
theorem V_alloc (h:V d e W base ok v xs) (o:Obj):V d e (W.alloc o) base ok v xs:=V_map h (fun _ hf=>F_alloc hf o)
theorem V_drew (h:V d e W base ok v xs):V d e W.drew base ok v xs:=V_map h (fun _ hf=>F_drew hf)
theorem V_drewN (h:V d e W base ok v xs) (m:Nat):V d e (W.drewN m) base ok v xs:=V_map h (fun _ hf=>F_drewN hf m)
theorem V_far (h:V d e W base ok v xs) {p:Addr} (hok:∀ k,ok k->k≠p.block) (u:Value):V d e (W.setCell p u) base ok v xs:=V_map h (fun _ hf=>F_far hf hok u)
theorem V_after (h:V d e W base (fun k=>ok k/\some k≠u.ownBlock) v xs) (hg:W.grownBy w1 u.ownBlock) (hat:v1.ownBlock=u.ownBlock\/∃ b,v1.ownBlock=some b/\W.heap.size<=b):V d e w1 base (fun k=>ok k/\some k≠v1.ownBlock) v xs:=V_map h (fun _ hf=>F_after hf hg hat)
theorem V_afterv (h:V d e W base (fun k=>ok k/\some k≠v.ownBlock) u xs) (hg:W.grownBy w1 v.ownBlock) (hat:v1.ownBlock=v.ownBlock\/∃ b,v1.ownBlock=some b/\W.heap.size<=b):V d e w1 base (fun k=>ok k/\some k≠v1.ownBlock) u xs:=V_after h hg hat
theorem N_afterv (h:N d e W base (fun k=>ok k/\some k≠v.ownBlock) u xs) (hg:W.grownBy w1 v.ownBlock) (hat:v1.ownBlock=v.ownBlock\/∃ b,v1.ownBlock=some b/\W.heap.size<=b):N d e w1 base (fun k=>ok k/\some k≠v1.ownBlock) u xs:=N_after h hg hat
theorem V_elder' (h:V d e W base ok v xs) (hbase:∀ k,u.ownBlock=some k->W.heap.size<=k) (hb:Below W.heap.size W w1):V d e w1 base (fun k=>ok k/\some k≠u.ownBlock) v xs:=V_map h (fun _ hf=>F_elder' hf hbase hb)
theorem V_elderB (h:V d e W base ok v xs) (a:Nat) (ha:W.heap.size<=a):V d e W base (fun k=>ok k/\k≠a) v xs:=V_map h (fun _ hf=>F_elderB hf a ha)
theorem V_old (h:V d e W base ok v xs) (hb:Below W.heap.size W w1):V d e w1 base (fun k=>ok k/\k<W.heap.size) v xs:=V_map h (fun _ hf=>F_old hf hb)
theorem V_told (h:V d e w1 base (fun k=>ok k/\k<N') v xs) (hbase:∀ k,u.ownBlock=some k->N'<=k):V d e w1 base (fun k=>(ok k/\some k≠u.ownBlock)/\k<N') v xs:=V_map h (fun _ hf=>F_told hf hbase)
theorem V_get (h:V d e W base ok (.slice (some ad) n c) xs) (z:α) (i:Int) (h0:0<=i) (h1:i<n) :
  ∃ cs,cs.length=d.sz/\FK d W ok (xs.getD i.toNat z) cs/\∀ j u,cs[j]? = some u->W.cell? (ad.add (i.toNat * d.sz+j))=some u:=by
 obtain⟨ad',cs,he,hcl,hK,hcc,_⟩:=F_get (V_F h) z i h0 h1;injection he with he
 subst he;exact⟨cs,hcl,hK,hcc⟩
theorem F_take (h:F d W ok A xs.length xs) (hm:m<=xs.length):F d W ok A (xs.take m).length (xs.take m):=F_imp h (fun _ hC=>C_take hC hm)
theorem F_cut (h:F d W ok A xs.length xs) (hm:m<=xs.length) (hc:xs.length<=c):F d W ok (if c=m then A else A.map (·.add (m * d.sz))) (xs.drop m).length (xs.drop m):=F_imp h (fun _ hC=>C_drop hC hm hc)
theorem R_newM {M:Nat->Prop} (h:d.R e w1 W.heap.size ok v xs) (hle:w.heap.size<=W.heap.size) (hM:∀ k,w.heap.size<=k->M k):d.R e w1 W.heap.size (fun k=>M k/\ok k) v xs:=R_mono (R_bound h) (fun k hk=>⟨hM k (Nat.le_trans hle hk.2.1),hk.1⟩)
end
end Kd
end Go.Proofs.YtgnaaokhfpfglaaGreatDoorW.PrintWords
end
section
namespace Go.Proofs.YtgnaaokhfpfglaaGreatDoorW.PrintLast
open Go.Proofs.YtgnaaokhfpfglaaGreatDoorW.PrintWords (qaa)
def needsOf (md:Region.Mode) (o:Oper):List Nat:=(o.after.toList.filter (fun e=>Region.binds md e)).map (fun e=>e.on)
def clashOf (md:Region.Mode) (ops:Array Oper) (i:Nat) (oi:Oper):List Nat:=(List.range ops.size).filter fun j=>!(j == i) && match ops[j]? with
 |some oj=>!(oj.after.any (fun e=>Region.binds md e && e.on == i) || oi.apart ops oj)
 |none=>false
def rtab (md:Region.Mode) (ops:Array Oper):Bool × List (List Nat × List Nat):=(Region.noSelect ops,(List.range ops.size).map fun i=>match ops[i]? with
 |some o=>(needsOf md o,clashOf md ops i o)
 |none=>([],[]))
def readyAt (T:List (List Nat × List Nat)) (l:List Bool) (i:Nat):Bool:=!l.getD i true && match T[i]? with
 |some r=>r.1.all (fun j=>l.getD j false)
 |none=>false
def readyT (T:List (List Nat × List Nat)) (l:List Bool):List Nat:=(List.range T.length).filter (readyAt T l)
def freeT (T:List (List Nat × List Nat)) (l:List Bool) (i:Nat):Bool:=match T[i]? with
 |some r=>r.2.all (fun j=>l.getD j true)
 |none=>false
def closedT (T:List (List Nat × List Nat)) (l:List Bool):Bool:=(List.range T.length).all fun j=>!l.getD j false || match T[j]? with
 |some r=>r.1.all (fun k=>l.getD k false)
 |none=>true
def reachT (T:List (List Nat × List Nat)) (i:Nat):Nat->Nat->Bool
 |0,_=>false
 |fuel+1,d=>match T[d]? with
  |some r=>r.1.any fun j=>j == i || reachT T i fuel j
  |none=>false
def lastT (T:List (List Nat × List Nat)) (l:List Bool) (ds:List Nat) (i:Nat):Bool:=ds.all fun d=>l.getD d true || reachT T i T.length d
section
variable {md:Region.Mode} {ops:Array Oper} {T:Bool × List (List Nat × List Nat)} {l l' li lj lk:Array Bool} {ds:List Nat} {i j k:Nat}
theorem gd (l:Array Bool) (j:Nat) (b:Bool):l.getD j b=l.toList.getD j b:=by simp [Array.getD_eq_getD_getElem?,List.getD_eq_getElem?_getD]
theorem needs_all (o:Oper) (p:Nat->Bool):o.after.all (fun e=>!Region.binds md e || p e.on)=(needsOf md o).all p:=by
 unfold needsOf;rw [<- Array.all_toList]
 induction o.after.toList with
 |nil=>rfl
 |cons e r ih=>
  rw [List.all_cons,ih,List.filter_cons];cases h:Region.binds md e<;>simp
theorem needs_any (o:Oper) (p:Nat->Bool):o.after.any (fun e=>Region.binds md e && p e.on)=(needsOf md o).any p:=by
 unfold needsOf;rw [<- Array.any_toList]
 induction o.after.toList with
 |nil=>rfl
 |cons e r ih=>
  rw [List.any_cons,ih,List.filter_cons];cases h:Region.binds md e<;>simp
theorem rtab_length:(rtab md ops).2.length=ops.size:=by simp [rtab]
theorem rtab_some {o:Oper} (h:ops[i]? = some o):(rtab md ops).2[i]? = some (needsOf md o,clashOf md ops i o):=by
 have hi:=(Array.getElem?_eq_some_iff.1 h).1;unfold rtab;rw [List.getElem?_map,List.getElem?_range hi,Option.map_some,h]
theorem rtab_none (h:ops[i]? = none):(rtab md ops).2[i]? = none:=by
 have hi:ops.size<=i:=Array.getElem?_eq_none_iff.1 h;exact List.getElem?_eq_none (by rw [rtab_length];exact hi)
theorem readyAt_eq:readyAt (rtab md ops).2 l.toList i=(!l.getD i true && ((ops[i]?).map (·.after.all fun e=>!Region.binds md e || l.getD e.on false)).getD false):=by
 unfold readyAt;rw [gd];cases h:ops[i]? with
 |none=>rw [rtab_none h];rfl
 |some o=>
  rw [rtab_some h];simp only [Option.map_some,Option.getD_some];rw [<- needs_all];simp only [gd]
theorem ready_eq:Region.ready md ops l=readyT (rtab md ops).2 l.toList:=by
 unfold Region.ready readyT;rw [rtab_length];refine List.filter_congr (fun i _=>?_);rw [readyAt_eq]
theorem free_eq:Region.free md ops l i=freeT (rtab md ops).2 l.toList i:=by
 unfold Region.free freeT;cases h:ops[i]? with
 |none=>rw [rtab_none h]
 |some oi=>
  rw [rtab_some h];simp only [clashOf];rw [List.all_filter]
  congr 1
  funext j
  rw [gd];cases hj:ops[j]? with
  |none=>cases (j == i)<;>cases (l.toList.getD j true)<;>simp
  |some oj=>
   cases (j == i)<;>cases (l.toList.getD j true)<;>cases (oj.after.any (fun e=>Region.binds md e && e.on == i) || oi.apart ops oj)<;>simp_all
theorem closed_eq:Region.closedB md ops l=closedT (rtab md ops).2 l.toList:=by
 unfold Region.closedB closedT;rw [rtab_length]
 congr 1
 funext j
 rw [gd];cases h:ops[j]? with
 |none=>rw [rtab_none h]
 |some o=>
  rw [rtab_some h];simp only;rw [<- needs_all];simp only [gd]
theorem reach_eq:∀ (fuel d:Nat),Region.reachB md ops i fuel d=reachT (rtab md ops).2 i fuel d
 |0,_=>rfl
 |fuel+1,d=>by
  unfold Region.reachB reachT;cases h:ops[d]? with
  |none=>rw [rtab_none h]
  |some o=>
   rw [rtab_some h];simp only;rw [<- needs_any]
   congr 1
   funext e
   rw [reach_eq fuel]
theorem last_eq:Region.lastB md ops l ds i=lastT (rtab md ops).2 l.toList ds i:=by
 unfold Region.lastB lastT;rw [rtab_length]
 congr 1
 funext d
 rw [gd,reach_eq]
theorem readyAt_mem (h:readyAt T.2 l.toList i=true) (hT:rtab md ops=T):(Region.ready md ops l).contains i=true:=by
 subst hT;rw [ready_eq];unfold readyT;rw [List.contains_iff_mem,List.mem_filter,List.mem_range];refine⟨?_,h⟩;unfold readyAt at h;rw [Bool.and_eq_true] at h;cases hq:(rtab md ops).2[i]? with
 |none=>rw [hq] at h;simp at h
 |some r=>exact (List.getElem?_eq_some_iff.1 hq).1
theorem set_of (h:(l.toList.set i true == l'.toList)=true):(l.setIfInBounds i true == l')=true:=by
 rw [beq_iff_eq] at h ⊢;apply Array.ext';rw [Array.toList_setIfInBounds];exact h
def anyT (T:Bool × List (List Nat × List Nat)) (l l':List Bool) (i:Nat):Bool:=T.1 && freeT T.2 l i && readyAt T.2 l i && (l.set i true == l')
theorem any_of (hT:rtab md ops=T) (h:anyT T l.toList l'.toList i=true):anyB md ops l l' i=true:=by
 simp only [anyT,Bool.and_eq_true] at h;obtain⟨⟨⟨h1,h2⟩,h3⟩,h4⟩:=h;have h5:=readyAt_mem h3 hT;have h6:=set_of h4;subst hT;simp only [anyB,Bool.and_eq_true];exact⟨⟨⟨h1,by rw [free_eq];exact h2⟩,h5⟩,h6⟩
def takeT (T:Bool × List (List Nat × List Nat)) (ds:List Nat) (l l':List Bool) (i:Nat):Bool:=T.1 && freeT T.2 l i && readyAt T.2 l i && closedT T.2 l && lastT T.2 l ds i && (l.set i true == l')
theorem take_of (hT:rtab md ops=T) (h:takeT T ds l.toList l'.toList i=true):takeB md ops ds l l' i=true:=by
 simp only [takeT,Bool.and_eq_true] at h;obtain⟨⟨⟨⟨⟨h1,h2⟩,h3⟩,h4⟩,h5⟩,h6⟩:=h;have h7:=readyAt_mem h3 hT;have h8:=set_of h6;subst hT;simp only [takeB,Bool.and_eq_true];exact⟨⟨⟨⟨⟨h1,by rw [free_eq];exact h2⟩,h7⟩,by rw [closed_eq];exact h4⟩,by rw [last_eq];exact h5⟩,h8⟩
theorem qaZ (hT:rtab md ops=T) (h:(readyT T.2 l.toList == [i] && l.toList.set i true == l'.toList)=true):readyB md ops l l' i=true:=by
 simp only [Bool.and_eq_true] at h;obtain⟨h1,h2⟩:=h;subst hT;simp only [readyB,Bool.and_eq_true];exact⟨by rw [ready_eq];exact h1,set_of h2⟩
theorem two_of (hT:rtab md ops=T) (h:(readyT T.2 l.toList == [i,j] && l.toList.set i true == li.toList && l.toList.set j true == lj.toList)=true):(Region.ready md ops l == [i,j] && l.setIfInBounds i true == li && l.setIfInBounds j true == lj)=true:=by
 simp only [Bool.and_eq_true] at h ⊢;obtain⟨⟨h1,h2⟩,h3⟩:=h;subst hT;exact⟨⟨by rw [ready_eq];exact h1,set_of h2⟩,set_of h3⟩
theorem done_of (hT:rtab md ops=T) (h:(readyT T.2 l.toList == [])=true):(Region.ready md ops l == [])=true:=by
 subst hT;rw [ready_eq];exact h
def upM (B:List Nat) (d:Nat):List Nat->Nat
 |[]=>0
 |n::r=>(2 ^ n ||| (if n<d then B.getD n 0 else 0)) ||| upM B d r
def waitsOk (T:List (List Nat × List Nat)) (B:List Nat):Bool:=(List.range T.length).all fun d=>match T[d]? with
 |some r=>(B.getD d 0 ||| upM B d r.1) == upM B d r.1
 |none=>false
theorem upM_bit {B:List Nat} {d i:Nat}:∀ {ns:List Nat},(upM B d ns).testBit i=true->∃ n ∈ ns,n=i\/(n<d/\(B.getD n 0).testBit i=true)
 |[],h=>by simp [upM] at h
 |n::r,h=>by
  unfold upM at h;rw [Nat.testBit_or,Nat.testBit_or,Bool.or_eq_true,Bool.or_eq_true] at h;rcases h with (h|h)|h
  .rw [Nat.testBit_two_pow] at h;exact⟨n,List.mem_cons_self,.inl (by simpa using h)⟩
  .by_cases hn:n<d
   .rw [if_pos hn] at h;exact⟨n,List.mem_cons_self,.inr ⟨hn,h⟩⟩
   .rw [if_neg hn] at h;simp at h
  .obtain⟨m,hm,h2⟩:=upM_bit h;exact⟨m,List.mem_cons_of_mem _ hm,h2⟩
theorem reach_bit {T:List (List Nat × List Nat)} {B:List Nat} (hB:waitsOk T B=true):∀ (fuel d:Nat),d<fuel->d<T.length->(B.getD d 0).testBit i=true->reachT T i fuel d=true
 |0,d,h,_,_=>by omega
 |fuel+1,d,h,hd,hb=>by
  have h1:=List.all_eq_true.1 hB d (List.mem_range.2 hd);cases hr:T[d]? with
  |none=>rw [hr] at h1;simp at h1
  |some r=>
   rw [hr] at h1;simp only [beq_iff_eq] at h1;have h2:(upM B d r.1).testBit i=true:=by rw [<- h1,Nat.testBit_or,hb,Bool.true_or]
   obtain⟨n,hn,h3⟩:=upM_bit h2;unfold reachT;rw [hr];simp only;rw [List.any_eq_true];refine⟨n,hn,?_⟩;rcases h3 with rfl|⟨h4,h5⟩
   .simp
   .rw [reach_bit hB fuel n (by omega) (by omega) h5,Bool.or_true]
def lastW (T:List (List Nat × List Nat)) (B:List Nat) (l:List Bool) (ds:List Nat) (i:Nat):Bool:=ds.all fun d=>l.getD d true || (decide (d<T.length) && (B.getD d 0).testBit i)
def takeW (T:Bool × List (List Nat × List Nat)) (B:List Nat) (ds:List Nat) (l l':List Bool) (i:Nat):Bool:=T.1 && freeT T.2 l i && readyAt T.2 l i && closedT T.2 l && lastW T.2 B l ds i && (l.set i true == l')
theorem take_ofW {B:List Nat} (hT:rtab md ops=T) (hB:waitsOk T.2 B=true) (h:takeW T B ds l.toList l'.toList i=true):takeB md ops ds l l' i=true:=by
 refine take_of hT ?_;simp only [takeW,takeT,Bool.and_eq_true] at h ⊢;obtain⟨⟨⟨⟨⟨h1,h2⟩,h3⟩,h4⟩,h5⟩,h6⟩:=h;refine⟨⟨⟨⟨⟨h1,h2⟩,h3⟩,h4⟩,?_⟩,h6⟩;unfold lastW at h5;unfold lastT;rw [List.all_eq_true] at h5 ⊢;intro d hd;have h7:=h5 d hd;rw [Bool.or_eq_true,Bool.and_eq_true,decide_eq_true_eq] at h7;rcases h7 with h7|⟨h8,h9⟩
 .rw [h7,Bool.true_or]
 .rw [reach_bit hB _ d h8 h8 h9,Bool.or_true]
theorem with_tabW {P:Program} {Q:Exit->Act->World->Prop} {S:World->Prop} {n:Nat} {a:Act} {w:World} {B:List Nat} (hT:rtab md ops=T) (hB:waitsOk T.2 B=true) (h:qaa (rtab md ops=T)->qaa (waitsOk T.2 B=true)->qax P md ops Q S ds n l a w):qax P md ops Q S ds n l a w:=h ⟨hT⟩ ⟨hB⟩
end
def opsIn:Code->Nat->Option (Array Oper)
 |.region id ops _,k=>if id == k then some ops else none
 |.seq a b,k=>match opsIn a k with
  |some o=>some o
  |none=>opsIn b k
 |.cond _ a b,k=>match opsIn a k with
  |some o=>some o
  |none=>opsIn b k
 |.block _ c,k=>opsIn c k
 |.loop c,k=>opsIn c k
 |.scope c,k=>opsIn c k
 |.rangeFunc _ _ a b,k=>match opsIn a k with
  |some o=>some o
  |none=>opsIn b k
 |_,_=>none
def opsOf (f:Func) (k:Nat):Array Oper:=((f.body.bind fun c=>opsIn c k)).getD #[]
end Go.Proofs.YtgnaaokhfpfglaaGreatDoorW.PrintLast
end
section
namespace Go.Proofs.YtgnaaokhfpfglaaGreatDoorW.PrintWords
open Go.RowKit
set_option linter.unusedVariables false
theorem sB {p:Prop} (h:p:=by repeat (first|(with_reducible first|exact HB.out|apply qaj|apply qaf|apply qai|refine qad ?_ (qaa.out (by assumption)))|exact HB.out)):p:=h
theorem sK {p q:Prop} (h:q) (c:q->p:=by intro h_;(with_reducible repeat (first|refine blk_drewN ?_ _|refine qaC ?_|refine qau ?_ _));exact h_):p:=c h
theorem sR {p q:Prop} (h:q) (c:q->p:=by intro h_;(with_reducible repeat (first|apply Kd.R_alloc|apply Kd.R_drewN|apply Kd.R_drew));exact h_):p:=c h
theorem sV {p q:Prop} (h:q) (c:q->p:=by intro h_;(with_reducible repeat (first|apply Kd.V_alloc|apply Kd.V_drewN|apply Kd.V_drew));exact h_):p:=c h
theorem sN {p q:Prop} (h:q) (c:q->p:=by intro h_;(with_reducible repeat (first|apply Kd.N_alloc|apply Kd.N_drewN|apply Kd.N_drew));exact h_):p:=c h
theorem sM {p q:Prop} (h:q) (c:q->p:=by intro h_;(with_reducible repeat (first|refine blk_drewN ?_ _|refine qaC ?_|refine qau ?_ _));exact h_):p:=c h
theorem sRm {p q:Prop} (h:q) (c:q->p:=by intro h_;(with_reducible repeat (first|apply Kd.R_alloc|apply Kd.R_drewN|apply Kd.R_drew));exact h_):p:=c h
theorem sVm {p q:Prop} (h:q) (c:q->p:=by intro h_;(with_reducible repeat (first|apply Kd.V_alloc|apply Kd.V_drewN|apply Kd.V_drew));exact h_):p:=c h
theorem sNm {p q:Prop} (h:q) (c:q->p:=by intro h_;(with_reducible repeat (first|apply Kd.N_alloc|apply Kd.N_drewN|apply Kd.N_drew));exact h_):p:=c h
theorem sKb {g:Nat} {o:Obj} {W0 W w2:World} (h:W0.heap[g]? = some o) (hb:Below W.heap.size W w2) (c:W0.heap[g]? = some o->W.heap[g]? = some o:=by intro h_;(with_reducible repeat (first|refine blk_drewN ?_ _|refine qaC ?_|refine qau ?_ _));exact h_):w2.heap[g]? = some o:=qa2 (c h) hb
theorem sKg {g:Nat} {o:Obj} {W0 W w2:World} {row:Option Nat} (h:W0.heap[g]? = some o) (hg:W.grownBy w2 row) (hne:some g≠row) (c:W0.heap[g]? = some o->W.heap[g]? = some o:=by intro h_;(with_reducible repeat (first|refine blk_drewN ?_ _|refine qaC ?_|refine qau ?_ _));exact h_):w2.heap[g]? = some o:=qaV (c h) hg hne
theorem sLt {g:Nat} {o:Obj} {W0 W:World} (h:W0.heap[g]? = some o) (c:W0.heap[g]? = some o->W.heap[g]? = some o:=by intro h_;(with_reducible repeat (first|refine blk_drewN ?_ _|refine qaC ?_|refine qau ?_ _));exact h_):g<W.heap.size:=blk_lt (c h)
theorem sF3 {w:World} {g:Nat} {t:TypeId} {cs:Array Value} (h:w.heap[g]? = some (.cells cs t (0,0))):w.frozen? ⟨g,0,none⟩=false/\w.frozen? ⟨g,1,none⟩=false/\w.frozen? ⟨g,2,none⟩=false:=⟨qam h 0,qam h 1,qam h 2⟩
theorem sC3 {w:World} {g:Nat} {t:TypeId} {a0 a1 a2:Value} (h:w.heap[g]? = some (.cells #[a0,a1,a2] t (0,0))):w.cell? ⟨g,0,none⟩=some a0/\w.cell? ⟨g,1,none⟩=some a1/\w.cell? ⟨g,2,none⟩=some a2:=⟨(qac h 0).trans rfl,(qac h 1).trans rfl,(qac h 2).trans rfl⟩
theorem sF4 {w:World} {g:Nat} {t:TypeId} {cs:Array Value} (h:w.heap[g]? = some (.cells cs t (0,0))):w.frozen? ⟨g,0,none⟩=false/\w.frozen? ⟨g,1,none⟩=false/\w.frozen? ⟨g,2,none⟩=false/\w.frozen? ⟨g,3,none⟩=false:=⟨qam h 0,qam h 1,qam h 2,qam h 3⟩
theorem sC4 {w:World} {g:Nat} {t:TypeId} {a0 a1 a2 a3:Value} (h:w.heap[g]? = some (.cells #[a0,a1,a2,a3] t (0,0))):w.cell? ⟨g,0,none⟩=some a0/\w.cell? ⟨g,1,none⟩=some a1/\w.cell? ⟨g,2,none⟩=some a2/\w.cell? ⟨g,3,none⟩=some a3:=⟨(qac h 0).trans rfl,(qac h 1).trans rfl,(qac h 2).trans rfl,(qac h 3).trans rfl⟩
theorem sF6 {w:World} {g:Nat} {t:TypeId} {cs:Array Value} (h:w.heap[g]? = some (.cells cs t (0,0))):w.frozen? ⟨g,0,none⟩=false/\w.frozen? ⟨g,1,none⟩=false/\w.frozen? ⟨g,2,none⟩=false/\w.frozen? ⟨g,3,none⟩=false/\w.frozen? ⟨g,4,none⟩=false/\w.frozen? ⟨g,5,none⟩=false:=⟨qam h 0,qam h 1,qam h 2,qam h 3,qam h 4,qam h 5⟩
theorem sC6 {w:World} {g:Nat} {t:TypeId} {a0 a1 a2 a3 a4 a5:Value} (h:w.heap[g]? = some (.cells #[a0,a1,a2,a3,a4,a5] t (0,0))):w.cell? ⟨g,0,none⟩=some a0/\w.cell? ⟨g,1,none⟩=some a1/\w.cell? ⟨g,2,none⟩=some a2/\w.cell? ⟨g,3,none⟩=some a3/\w.cell? ⟨g,4,none⟩=some a4/\w.cell? ⟨g,5,none⟩=some a5:=⟨(qac h 0).trans rfl,(qac h 1).trans rfl,(qac h 2).trans rfl,(qac h 3).trans rfl,(qac h 4).trans rfl,(qac h 5).trans rfl⟩
theorem sF7 {w:World} {g:Nat} {t:TypeId} {cs:Array Value} (h:w.heap[g]? = some (.cells cs t (0,0))):w.frozen? ⟨g,0,none⟩=false/\w.frozen? ⟨g,1,none⟩=false/\w.frozen? ⟨g,2,none⟩=false/\w.frozen? ⟨g,3,none⟩=false/\w.frozen? ⟨g,4,none⟩=false/\w.frozen? ⟨g,5,none⟩=false/\w.frozen? ⟨g,6,none⟩=false:=⟨qam h 0,qam h 1,qam h 2,qam h 3,qam h 4,qam h 5,qam h 6⟩
theorem sC7 {w:World} {g:Nat} {t:TypeId} {a0 a1 a2 a3 a4 a5 a6:Value} (h:w.heap[g]? = some (.cells #[a0,a1,a2,a3,a4,a5,a6] t (0,0))):w.cell? ⟨g,0,none⟩=some a0/\w.cell? ⟨g,1,none⟩=some a1/\w.cell? ⟨g,2,none⟩=some a2/\w.cell? ⟨g,3,none⟩=some a3/\w.cell? ⟨g,4,none⟩=some a4/\w.cell? ⟨g,5,none⟩=some a5/\w.cell? ⟨g,6,none⟩=some a6:=⟨(qac h 0).trans rfl,(qac h 1).trans rfl,(qac h 2).trans rfl,(qac h 3).trans rfl,(qac h 4).trans rfl,(qac h 5).trans rfl,(qac h 6).trans rfl⟩
theorem sF8 {w:World} {g:Nat} {t:TypeId} {cs:Array Value} (h:w.heap[g]? = some (.cells cs t (0,0))):w.frozen? ⟨g,0,none⟩=false/\w.frozen? ⟨g,1,none⟩=false/\w.frozen? ⟨g,2,none⟩=false/\w.frozen? ⟨g,3,none⟩=false/\w.frozen? ⟨g,4,none⟩=false/\w.frozen? ⟨g,5,none⟩=false/\w.frozen? ⟨g,6,none⟩=false/\w.frozen? ⟨g,7,none⟩=false:=⟨qam h 0,qam h 1,qam h 2,qam h 3,qam h 4,qam h 5,qam h 6,qam h 7⟩
theorem sC8 {w:World} {g:Nat} {t:TypeId} {a0 a1 a2 a3 a4 a5 a6 a7:Value} (h:w.heap[g]? = some (.cells #[a0,a1,a2,a3,a4,a5,a6,a7] t (0,0))):w.cell? ⟨g,0,none⟩=some a0/\w.cell? ⟨g,1,none⟩=some a1/\w.cell? ⟨g,2,none⟩=some a2/\w.cell? ⟨g,3,none⟩=some a3/\w.cell? ⟨g,4,none⟩=some a4/\w.cell? ⟨g,5,none⟩=some a5/\w.cell? ⟨g,6,none⟩=some a6/\w.cell? ⟨g,7,none⟩=some a7:=⟨(qac h 0).trans rfl,(qac h 1).trans rfl,(qac h 2).trans rfl,(qac h 3).trans rfl,(qac h 4).trans rfl,(qac h 5).trans rfl,(qac h 6).trans rfl,(qac h 7).trans rfl⟩
theorem sA {p:Prop} (h:p:=by first|(with_reducible assumption)|assumption):p:=h
section
open Go.Proofs.YtgnaaokhfpfglaaGreatDoorW.PrintLast Go.Proofs.YtgnaaokhfpfglaaGreatDoorW.PrintMore
variable {P:Program} {ops:Array Oper} {Q:Exit->Act->World->Prop} {md:Region.Mode} {S:World->Prop} {ds:List Nat}
theorem sP (i:Nat) (N:Option Tmp) {oi:Oper} {v:Value} {fuel:Nat} {l:Array Bool} {a:Act} {w:World} {l':Array Bool} {a':Act} (hi:ops[i]? = some oi) (hN:oi.dst=N)
  (h:qax P md ops Q S ds fuel l' a' w)
  (hl:l.setIfInBounds i true=l':=by (simp only [List.setIfInBounds_toArray,List.set_cons_zero,List.set_cons_succ];rfl))
  (hc:anyB md ops l l' i=true:=by exact any_of HT_.out (by kernel_rfl))
  (hQ:∀ c a w,Q (.panic c) (a.put oi.dst v) w->Q (.panic c) a w:=by exact fun _ _ _ h=>h)
  (h1:Region.wanted oi (yielded ops a.tmps)=true:=by rfl) (hy:∀ w,(execOp a.eval oi).run P w=.ok (.value v) w:=by (intro w';go_simp;with_reducible rfl))
  (ha:a.put N v=a':=by (simp only [Act.put,List.setIfInBounds_toArray,List.set_cons_zero,List.set_cons_succ,qa1,qba];rfl)):qax P md ops Q S ds (fuel+1) l a w:=
 pure_ l' hi hN hc hQ (Or.inl ⟨h1,hy⟩) ha h
end
end Go.Proofs.YtgnaaokhfpfglaaGreatDoorW.PrintWords
end
section
namespace Go.Proofs.YtgnaaokhfpfglaaGreatDoorW.PrintWords
open Go.RowKit
theorem arrRead {w:World} {g:Nat} {t:TypeId} {k:IntKind} {xs:List Int} (h:w.heap[g]? = some (.cells (xs.map (Value.int k)).toArray t (0,0))) (j:Int) (h0:0<=j) {n:Int} (h1:j<n) (hn:n=(xs.length:Int):=by rfl):w.cell? ⟨g,j.toNat,none⟩=some (.int k (rd xs j)):=by
 subst hn;have hl:j.toNat<xs.length:=by omega
 rw [qac h];simp [rd,List.getElem?_eq_getElem hl,List.getD_eq_getElem?_getD]
def i64B (x:Int):Bool:=decide (-9223372036854775808<=x) && decide (x<=9223372036854775807)
theorem i64B_iff {x:Int}:i64B x=true↔-9223372036854775808<=x/\x<=9223372036854775807:=by simp [i64B]
theorem bneNil {α:Type} [BEq α] (l:List α):(l != []) = !l.isEmpty:=by cases l<;>rfl
theorem bneNilU (l:List UInt8):(l == [])=l.isEmpty:=by cases l<;>rfl
end Go.Proofs.YtgnaaokhfpfglaaGreatDoorW.PrintWords
end
section
namespace Go.Proofs.YtgnaaokhfpfglaaGreatDoorW.PrintWords
open Go.RowKit
section
variable {α β:Type} {c:Prop} [Decidable c] {A B:Nat->Option α} {r:α}
theorem Ev.ifp (h:c) (k:Ev A r):Ev (fun n=>if c then A n else B n) r:=Ev.congr (fun _=>if_pos h) k
theorem Ev.ifn (h:¬ c) (k:Ev B r):Ev (fun n=>if c then A n else B n) r:=Ev.congr (fun _=>if_neg h) k
theorem Ev.bindS {o:Option β} {f:Nat->β->Option α} {a:β} (h:o=some a) (k:Ev (fun n=>f n a) r):Ev (fun n=>o.bind (f n)) r:=Ev.congr (fun _=>by rw [h];rfl) k
theorem Ev.ite_ {a b:Nat->Option α} (h1:c->Ev a r) (h2:¬ c->Ev b r):Ev (fun n=>if c then a n else b n) r:=by
 by_cases h:c
 .exact Ev.ifp h (h1 h)
 .exact Ev.ifn h (h2 h)
end
theorem qaJ {x:Int} (h0 : -9223372036854775808<=x) (h1:x<=9223372036854775807):wrap64 x=x:=by unfold wrap64;omega
theorem qaI (g:Nat) (h:g<=9223372036854775806):wrap64 ((g:Int)+1)=((g+1:Nat):Int):=by rw [qaJ (by omega) (by omega)];rfl
theorem u64_nonneg (x:Int):0<=IntKind.u64.wrap x:=by rw [IntKind.wrap_u64];omega
theorem and_maskP (n:Int) (k:Nat) (hk:k<=62):bits .and .i64 n (((2 ^ k - 1:Nat)):Int)=n % ((2 ^ k:Nat):Int):=by
 have hp:(2:Nat) ^ k<=2 ^ 62:=Nat.pow_le_pow_right (by decide) hk;have hpos:0<(2:Nat) ^ k:=Nat.pow_pos (by decide);have hm:(BitVec.ofInt 64 (((2 ^ k - 1:Nat)):Int)).toNat=2 ^ k - 1:=by
  rw [BitVec.ofInt_natCast,BitVec.toNat_ofNat];exact Nat.mod_eq_of_lt (by omega)
 have hdvd:(2 ^ k:Nat) ∣ 2 ^ 64:=Nat.pow_dvd_pow 2 (by omega);have key:(BitVec.ofInt 64 n &&& BitVec.ofInt 64 (((2 ^ k - 1:Nat)):Int)).toNat=(n % ((2 ^ 64:Nat):Int)).toNat % 2 ^ k:=by
  rw [BitVec.toNat_and,BitVec.toNat_ofInt,hm,Nat.and_two_pow_sub_one_eq_mod]
 show IntKind.i64.wrap ((BitVec.ofInt 64 n &&& BitVec.ofInt 64 (((2 ^ k - 1:Nat)):Int)).toNat:Nat)=_;rw [key,IntKind.wrap_i64];have hlt:(n % ((2 ^ 64:Nat):Int)).toNat % 2 ^ k<2 ^ k:=Nat.mod_lt _ hpos;have h64:0<=n % ((2 ^ 64:Nat):Int):=Int.emod_nonneg _ (by decide);have hz:(((n % ((2 ^ 64:Nat):Int)).toNat % 2 ^ k:Nat):Int)=n % ((2 ^ k:Nat):Int):=by
  rw [Int.natCast_emod,Int.toNat_of_nonneg h64,Int.emod_emod_of_dvd _ (Int.natCast_dvd_natCast.2 hdvd)]
 rw [<- hz];omega
theorem andP7 (n:Int):bits .and .i64 n 7=n % 8:=and_maskP n 3 (by decide)
theorem andP15 (n:Int):bits .and .i64 n 15=n % 16:=and_maskP n 4 (by decide)
theorem andP3 (n:Int):bits .and .i64 n 3=n % 4:=and_maskP n 2 (by decide)
theorem andP1 (n:Int):bits .and .i64 n 1=n % 2:=and_maskP n 1 (by decide)
theorem and7_rng (n:Int):0<=bits .and .i64 n 7/\bits .and .i64 n 7<8:=by rw [andP7];omega
theorem and15_rng (n:Int):0<=bits .and .i64 n 15/\bits .and .i64 n 15<16:=by rw [andP15];omega
theorem and3_rng (n:Int):0<=bits .and .i64 n 3/\bits .and .i64 n 3<4:=by rw [andP3];omega
theorem rest_valP (n b:Int) (h0:0<b):(n.tmod b+b).tmod b=n % b:=by
 rcases Int.le_total 0 n with hn|hn
 .rw [Int.tmod_eq_emod_of_nonneg hn,Int.tmod_eq_emod_of_nonneg (by have:=Int.emod_nonneg n (by omega:b≠0);omega)];simp
 .have h1:n.tmod b = -((-n) % b):=by
   have:=Int.neg_tmod n b;rw [<- Int.tmod_eq_emod_of_nonneg (by omega:0<=-n),Int.neg_tmod];simp
  have h2:=Int.emod_nonneg (-n) (by omega:b≠0);have h3:=Int.emod_lt_of_pos (-n) h0;rw [h1,Int.tmod_eq_emod_of_nonneg (by omega)];have h4 : -((-n) % b)+b=n+b * ((-n) / b+1):=by
   have:=Int.mul_ediv_add_emod (-n) b;rw [Int.mul_add];omega
  rw [h4,Int.add_mul_emod_self_left]
theorem rest_wrapP (n b:Int) (h0:0<b) (h1:b<=1000000):Int.tmod (wrap64 (Int.tmod n b+b)) b=n % b:=by
 have hl : -b<n.tmod b:=by
  rcases Int.le_total 0 n with hn|hn
  .have:=Int.tmod_nonneg b hn;omega
  .have:=Int.neg_tmod n b;have h5:=Int.tmod_lt_of_pos (-n) h0;rw [Int.neg_tmod] at h5;omega
 have hr:n.tmod b<b:=Int.tmod_lt_of_pos n h0;rw [qaJ (by omega) (by omega),rest_valP n b h0]
theorem rd_cast (xs:List Int) (i:Nat) (h:i<xs.length):rd xs (i:Int)=xs[i]:=by simp [rd,List.getD_eq_getElem?_getD,List.getElem?_eq_getElem h]
end Go.Proofs.YtgnaaokhfpfglaaGreatDoorW.PrintWords
end
section
namespace Go.Proofs.YtgnaaokhfpfglaaGreatDoor
open Go.ChangeShapes Go.WideShapes Go.ChangeAt Go.RowKit Go.Deep Go.Proofs.YtgnaaokhfpfglaaGreatDoorW.PrintWords
def Opens {α:Type} (P:Program) (t:TypeId) (d:Kd α) (ok:α->Prop):Prop:=
 ∀ {H:Type} {enc:TypeId × Value->H} {w:World} {base:Nat} {held:Bool} {fuel:Nat} {cs:List Value} {y:DataW H × List MemPlace},
  DataW.trod enc P w base (fun _=>true) held fuel t cs=some y->∃ x,d.K w x cs/\ok x
def OpensF {α:Type} (P:Program) (n0:Nat) (fs:List (TypeId × Nat)) (d:Kd α) (ok:α->Prop):Prop:=
 ∀ {H:Type} {enc:TypeId × Value->H} {w:World} {base:Nat} {held:Bool} {fuel:Nat} {cs:List Value},
  (∀ f ∈ fs,∃ y:DataW H × List MemPlace,DataW.trod enc P w base (fun _=>true) held fuel f.1 ((cs.drop f.2).take (P.cellsOf f.1))=some y)->cs.length=n0+d.sz->∃ x,d.K w x (cs.drop n0)/\ok x
section
variable {α β:Type} {P:Program} {t:TypeId} {d:Kd α} {d':Kd β} {ok:α->Prop} {ok':β->Prop} {n0:Nat}
theorem Opens.int {k:IntKind} (ht:P.underlying t=some (.int k)):Opens P t (Kd.int k) (fun x=>(Lit.int k x).wf=true):=by
 intro H enc w base held fuel cs y h;obtain⟨n,rfl,_,hw⟩:=DataW.trod_int ht h;exact⟨n,rfl,hw⟩
theorem Opens.bool (ht:P.underlying t=some .bool):Opens P t Kd.bool (fun _=>True):=by
 intro H enc w base held fuel cs y h;obtain⟨n,rfl,_⟩:=DataW.trod_bool ht h;exact⟨n,rfl,trivial⟩
theorem Opens.string (ht:P.underlying t=some .string):Opens P t Kd.string (fun s=>s.size<=maxLen):=by
 intro H enc w base held fuel cs y h;obtain⟨n,rfl,_,hl⟩:=DataW.trod_string ht h;exact⟨n,rfl,hl⟩
theorem Opens.slice {e:TypeId} (e':TypeId) (ht:P.underlying t=some (.slice e)) (he:Opens P e d ok) (hc:P.cellsOf e=d.sz) (z:α):Opens P t (Kd.slice e' d) (fun l=>l.length<=maxLen/\∀ x ∈ l,ok x):=by
 intro H enc w base held fuel cs y h;rcases open_slice ht h with ⟨rfl,_⟩|⟨a,len,cap,m,n,D,Pl,rfl,_,hl,hm,hmm,_,hx⟩
 .exact⟨[],⟨none,0,rfl,nR9 _,Kd.C_nil d w⟩,Nat.zero_le _,fun x hx=>by cases hx⟩
 .simp only [if_true] at hmm;subst hmm;have hk:∀ k,k<m->∃ g:α,ok g/\∃ c,d.K w g c/\∀ i u,c[i]? = some u->w.cell? (a.add (k * d.sz+i))=some u:=by
   intro k hk;obtain⟨cs',hcs,ht'⟩:=hx k hk;obtain⟨g,hg,hok⟩:=he ht';refine⟨g,hok,cs',hg,fun i u hu=>?_⟩;obtain⟨_,_,hat⟩:=World.cells?_some hcs;have hil:i<P.cellsOf e:=by
    have:=(List.getElem?_eq_some_iff.1 hu).1;rw [d.K_len hg] at this;omega
   have:=hat i hil;rw [hu] at this;rw [<- this,hc]
   congr 1
   unfold Addr.add;by_cases h1:k * d.sz=0<;>by_cases h2:i=0<;>simp [h1,h2,Nat.add_assoc]
  haveI:Inhabited α:=⟨z⟩
  obtain⟨f,hf⟩:=choose_lt (α:=α) (n:=m) (p:=fun k g=>ok g/\∃ c,d.K w g c/\∀ i u,c[i]? = some u->w.cell? (a.add (k * d.sz+i))=some u) hk;have hm':len<=9223372036854775807:=by unfold maxLen at hm;omega
  refine⟨(List.range len).map f,⟨some a,m,by simp,by simpa using hl,⟨rfl,by simpa using hm',fun _=>⟨a,rfl,fun j p hj=>?_⟩⟩⟩,by simp;omega,fun x hx=>?_⟩
  .have hj1:j<len:=by have:=(List.getElem?_eq_some_iff.1 hj).1;simpa using this
   rw [List.getElem?_map,List.getElem?_range hj1] at hj;simp at hj;subst hj;obtain⟨_,c,hK,hcell⟩:=hf j (by omega);exact⟨c,d.K_len hK,hK,hcell⟩
  .obtain⟨k,hk,rfl⟩:=List.mem_map.1 hx;exact (hf k (by have:=List.mem_range.1 hk;omega)).1
theorem OpensF.last (h:Opens P t d ok) (hc:P.cellsOf t=d.sz):OpensF P n0 [(t,n0)] d ok:=by
 intro H enc w base held fuel cs hf hl;obtain⟨y,hy⟩:=hf (t,n0) List.mem_cons_self;rw [List.take_of_length_le (by rw [List.length_drop,hc];omega)] at hy;exact h hy
theorem OpensF.cons {fs:List (TypeId × Nat)} (h:Opens P t d ok) (hc:P.cellsOf t=d.sz) {n1:Nat} (hn:n0+d.sz=n1) (hr:OpensF P n1 fs d' ok'):OpensF P n0 ((t,n0)::fs) (Kd.pair d d') (fun x=>ok x.1/\ok' x.2):=by
 subst hn;intro H enc w base held fuel cs hf hl;obtain⟨y,hy⟩:=hf (t,n0) List.mem_cons_self;obtain⟨x,hx,hox⟩:=h hy;obtain⟨x',hx',hox'⟩:=hr (fun f hm=>hf f (List.mem_cons_of_mem _ hm)) (by rw [hl];show n0+(d.sz+d'.sz)=_;omega);refine⟨(x,x'),⟨(cs.drop n0).take (P.cellsOf t),cs.drop (n0+d.sz),?_,hx,hx'⟩,hox,hox'⟩;rw [hc,<- List.drop_drop,List.take_append_drop]
theorem Opens.struct {fs:Array Field} {l:List (TypeId × Nat)} (f:β->α) (g:α->β) (hg:∀ x,f (g x)=x) (ht:P.underlying t=some (.struct fs)) (hfs:fs.toList.map (fun f=>(f.type,f.offset))=l) (hf:OpensF P 0 l d ok) (hc:P.cellsOf t=d.sz):Opens P t (Kd.iso d f) (fun b=>ok (f b)):=by
 subst hfs;intro H enc w base held fuel cs y h;obtain⟨xs,n,_,_,hl,hlen,hx⟩:=DataW.trod_struct ht h;obtain⟨x,hk,ho⟩:=hf (cs:=cs) (fun q hq=>by
  obtain⟨fd,hfd,rfl⟩:=List.mem_map.1 hq;obtain⟨i,hi,he⟩:=List.getElem_of_mem hfd;have hi':i<fs.size:=by simpa using hi
  have hge:fs[i]? = some fd:=by rw [Array.getElem?_eq_getElem hi',<- he];simp
  exact⟨xs[i]'(by omega),(hx i fd hge).trans (List.getElem?_eq_getElem (by omega))⟩) (by rw [hl,hc,Nat.zero_add])
 rw [List.drop_zero] at hk;exact⟨g x,by show d.K w (f (g x)) cs;rw [hg];exact hk,by show ok (f (g x));rw [hg];exact ho⟩
theorem Opens.array {e:TypeId} {m:Nat} {l:List (TypeId × Nat)} (f:β->α) (g:α->β) (hg:∀ x,f (g x)=x) (ht:P.underlying t=some (.array m e)) (hfs:(List.range m).map (fun i=>(e,i * P.cellsOf e))=l) (hf:OpensF P 0 l d ok) (hc:P.cellsOf t=d.sz):Opens P t (Kd.iso d f) (fun b=>ok (f b)):=by
 subst hfs;intro H enc w base held fuel cs y h;obtain⟨xs,n,_,_,hl,hlen,hx⟩:=DataW.trod_array ht h;obtain⟨x,hk,ho⟩:=hf (cs:=cs) (fun q hq=>by
  obtain⟨i,hi,rfl⟩:=List.mem_map.1 hq;have hi':=List.mem_range.1 hi
  exact⟨xs[i]'(by omega),(hx i hi').trans (List.getElem?_eq_getElem (by omega))⟩) (by rw [hl,hc,Nat.zero_add])
 rw [List.drop_zero] at hk;exact⟨g x,by show d.K w (f (g x)) cs;rw [hg];exact hk,by show ok (f (g x));rw [hg];exact ho⟩
end
end Go.Proofs.YtgnaaokhfpfglaaGreatDoor
end
section
namespace Go.Proofs.YtgnaaokhfpfglaaGreatDoor
open Go.RowKit
def At (w:World) (b:Nat) (v:Value) (t:TypeId):Prop:=w.heap[b]? = some (.cells #[v] t (0,0))
section
variable {w w':World} {b:Nat} {v:Value} {t:TypeId}
theorem At.cell (h:At w b v t):w.cell? ⟨b,0,none⟩=some v:=cell_of_one h
theorem At.free (h:At w b v t):w.frozen? ⟨b,0,none⟩=false:=free_of_one h
theorem At.lt (h:At w b v t):b<w.heap.size:=lt_of_block h
theorem At.new (w:World) (v:Value) (t:TypeId):At (w.alloc (.cells #[v] t)) w.heap.size v t:=heap_alloc_new w _
theorem At.alloc (h:At w b v t) (o:Obj):At (w.alloc o) b v t:=(Below.heap_alloc w o b h.lt).trans h
theorem At.set (h:At w b v t) (u:Value):At (w.setCell ⟨b,0,none⟩ u) b u t:=one_setCell h
theorem At.far (h:At w b v t) {p:Addr} (hp:b≠p.block) (u:Value):At (w.setCell p u) b v t:=(Below.heap_setCell w p u b hp).trans h
theorem At.below {B:Nat} (h:At w b v t) (hb:Below B w w') (hB:b<B):At w' b v t:=(hb.block b hB).trans h
theorem At.drew (h:At w b v t):At w.drew b v t:=h
theorem At.drewN (h:At w b v t) (n:Nat):At (w.drewN n) b v t:=h
theorem At.grown {row:Option Nat} (h:At w b v t) (hg:w.grownBy w' row) (hr:some b≠row):At w' b v t:=(hg.block b h.lt hr).trans h
end
theorem qaP {B:Nat} {a w:World} (h:Below B a w) (n:Nat):Below B a (w.drewN n):=⟨h.os,h.tape,h.output,h.size,h.block⟩
end Go.Proofs.YtgnaaokhfpfglaaGreatDoor
end
section
namespace Go.Proofs
open Go.Shelf
def Tryz.lays169_ren:Go.Shelf.Ren:=⟨fun|169=>42|n=>n,fun|70=>91|9=>9|0=>0|72=>93|37=>45|127=>140|3=>3|5=>5|n=>n,fun|n=>n⟩
theorem Tryz.lays169:Go.Proofs.Lays.n169 Tryz.prog Tryz.lays169_ren:={
 mixed:=by kernel_rfl
 f169:=Tryz.func42.trans (congrArg some (by kernel_rfl))
 t0:=Tryz.underlying0
 a0:=Tryz.isAgg0
 z0:=Tryz.sizeOf0
 v0:=Tryz.zeroValue0
 t3:=Tryz.underlying3
 a3:=Tryz.isAgg3
 z3:=Tryz.sizeOf3
 v3:=Tryz.zeroValue3
 t9:=Tryz.underlying9
 a9:=Tryz.isAgg9
 z9:=Tryz.sizeOf9
 v9:=Tryz.zeroValue9
 t37:=Tryz.underlying45
 a37:=Tryz.isAgg45
 z37:=Tryz.sizeOf45
 v37:=Tryz.zeroValue45
 t70:=Tryz.underlying91
 a70:=Tryz.isAgg91
 z70:=Tryz.sizeOf91
 v70:=Tryz.zeroValue91
 t72:=Tryz.underlying93
 a72:=Tryz.isAgg93
 z72:=Tryz.sizeOf93
 v72:=Tryz.zeroValue93
 t127:=Tryz.underlying140
 a127:=Tryz.isAgg140
 z127:=Tryz.sizeOf140
 v127:=Tryz.zeroValue140 }
theorem Tryz.Builder_Extra_169:Builder.Extra Tryz.prog Tryz.lays169_ren:={
 sizeBuilder:=by kernel_rfl
 liesBuilder:=by kernel_rfl
 t5:=Tryz.underlying5
 a5:=Tryz.isAgg5
 z5:=Tryz.sizeOf5
 v5:=Tryz.zeroValue5
 infoByte:=by kernel_rfl
 cellsByte:=by kernel_rfl
 sizeByte:=by kernel_rfl
 neB5:=by decide }
open Go.RowKit in
theorem Tryz.Builder_String_any (B b:Nat) (l:List UInt8) (w:World) (h:Lib.IsBuilder 93 5 B b (Lib.byteCells l) w) (hBw:B<=w.heap.size) :
  Calls Tryz.prog 42 #[.pointer (some ⟨b,0,none⟩)] w fun e w'=>e=.returned (.string ⟨l.toArray⟩)/\Below B w w':=Any.Builder_String_any Tryz.lays169 Tryz.Builder_Extra_169 B b l w h hBw
def Tryz.lays156_ren:Go.Shelf.Ren:=⟨fun|156=>74|165=>110|166=>36|169=>42|240=>72|241=>129|276=>108|277=>146|n=>n,fun|31=>103|9=>9|3=>3|4=>4|0=>0|20=>20|72=>93|76=>96|70=>91|37=>45|75=>95|127=>140|164=>174|5=>5|80=>100|n=>n,fun|n=>n⟩
theorem Tryz.lays156:Go.Proofs.Lays.n156 Tryz.prog Tryz.lays156_ren:={
 mixed:=by kernel_rfl
 f156:=Tryz.func74.trans (congrArg some (by kernel_rfl))
 f165:=Tryz.func110.trans (congrArg some (by kernel_rfl))
 f166:=Tryz.func36.trans (congrArg some (by kernel_rfl))
 f169:=Tryz.func42.trans (congrArg some (by kernel_rfl))
 f240:=Tryz.func72.trans (congrArg some (by kernel_rfl))
 f241:=Tryz.func129.trans (congrArg some (by kernel_rfl))
 f276:=Tryz.func108.trans (congrArg some (by kernel_rfl))
 f277:=Tryz.func146.trans (congrArg some (by kernel_rfl))
 t0:=Tryz.underlying0
 a0:=Tryz.isAgg0
 z0:=Tryz.sizeOf0
 v0:=Tryz.zeroValue0
 t3:=Tryz.underlying3
 a3:=Tryz.isAgg3
 z3:=Tryz.sizeOf3
 v3:=Tryz.zeroValue3
 t4:=Tryz.underlying4
 a4:=Tryz.isAgg4
 z4:=Tryz.sizeOf4
 v4:=Tryz.zeroValue4
 t9:=Tryz.underlying9
 a9:=Tryz.isAgg9
 z9:=Tryz.sizeOf9
 v9:=Tryz.zeroValue9
 t20:=Tryz.underlying20
 a20:=Tryz.isAgg20
 z20:=Tryz.sizeOf20
 v20:=Tryz.zeroValue20
 t31:=Tryz.underlying103
 a31:=Tryz.isAgg103
 z31:=Tryz.sizeOf103
 v31:=Tryz.zeroValue103
 t37:=Tryz.underlying45
 a37:=Tryz.isAgg45
 z37:=Tryz.sizeOf45
 v37:=Tryz.zeroValue45
 t70:=Tryz.underlying91
 a70:=Tryz.isAgg91
 z70:=Tryz.sizeOf91
 v70:=Tryz.zeroValue91
 t72:=Tryz.underlying93
 a72:=Tryz.isAgg93
 z72:=Tryz.sizeOf93
 v72:=Tryz.zeroValue93
 t75:=Tryz.underlying95
 a75:=Tryz.isAgg95
 z75:=Tryz.sizeOf95
 v75:=Tryz.zeroValue95
 t76:=Tryz.underlying96
 a76:=Tryz.isAgg96
 z76:=Tryz.sizeOf96
 v76:=Tryz.zeroValue96
 t127:=Tryz.underlying140
 a127:=Tryz.isAgg140
 z127:=Tryz.sizeOf140
 v127:=Tryz.zeroValue140
 t164:=Tryz.underlying174
 a164:=Tryz.isAgg174
 z164:=Tryz.sizeOf174
 v164:=Tryz.zeroValue174 }
theorem Tryz.Builder_Extra_156:Builder.Extra Tryz.prog Tryz.lays156_ren:={
 sizeBuilder:=by kernel_rfl
 liesBuilder:=by kernel_rfl
 t5:=Tryz.underlying5
 a5:=Tryz.isAgg5
 z5:=Tryz.sizeOf5
 v5:=Tryz.zeroValue5
 infoByte:=by kernel_rfl
 cellsByte:=by kernel_rfl
 sizeByte:=by kernel_rfl
 neB5:=by decide }
open Go.RowKit in
theorem Tryz.strings_Join (bk o c:Nat) (xs:List ByteArray) (sep:ByteArray) (w:World) (hcells:∀ (j:Nat) x,xs[j]? = some x->w.cell? ⟨bk,o+j,none⟩=some (.string x)) (hbk:bk<w.heap.size) (hN:xs.length<=140737488355328) (hcap:xs.length<=c) (hlen:(Lib.join (xs.map (·.data.toList)) sep.data.toList).length<=140737488355328) :
  Calls Tryz.prog 74 #[.slice (some ⟨bk,o,none⟩) xs.length c,.string sep] w fun e w'=>e=.returned (.string ⟨(Lib.join (xs.map (·.data.toList)) sep.data.toList).toArray⟩)/\Below w.heap.size w w':=Any.strings_Join Tryz.lays156 Tryz.Builder_Extra_156 bk o c xs sep w hcells hbk hN hcap hlen
def Tryz.lays161_ren:Go.Shelf.Ren:=⟨fun|161=>84|231=>113|227=>114|233=>115|235=>116|228=>119|197=>134|151=>135|260=>151|152=>117|137=>136|119=>137|224=>138|225=>139|217=>149|266=>157|n=>n,fun|9=>9|4=>4|3=>3|5=>5|117=>184|116=>183|0=>0|124=>187|105=>198|21=>21|119=>220|46=>179|139=>223|138=>222|n=>n,fun|3=>2|4=>3|n=>n⟩
theorem Tryz.lays161:Go.Proofs.Lays.n161 Tryz.prog Tryz.lays161_ren:={
 mixed:=by kernel_rfl
 f119:=Tryz.func137.trans (congrArg some (by kernel_rfl))
 f137:=Tryz.func136.trans (congrArg some (by kernel_rfl))
 f151:=Tryz.func135.trans (congrArg some (by kernel_rfl))
 f152:=Tryz.func117.trans (congrArg some (by kernel_rfl))
 f161:=Tryz.func84.trans (congrArg some (by kernel_rfl))
 f197:=Tryz.func134.trans (congrArg some (by kernel_rfl))
 f217:=Tryz.func149.trans (congrArg some (by kernel_rfl))
 f224:=Tryz.func138.trans (congrArg some (by kernel_rfl))
 f225:=Tryz.func139.trans (congrArg some (by kernel_rfl))
 f227:=Tryz.func114.trans (congrArg some (by kernel_rfl))
 f228:=Tryz.func119.trans (congrArg some (by kernel_rfl))
 f231:=Tryz.func113.trans (congrArg some (by kernel_rfl))
 f233:=Tryz.func115.trans (congrArg some (by kernel_rfl))
 f235:=Tryz.func116.trans (congrArg some (by kernel_rfl))
 f260:=Tryz.func151.trans (congrArg some (by kernel_rfl))
 f266:=Tryz.func157.trans (congrArg some (by kernel_rfl))
 t0:=Tryz.underlying0
 a0:=Tryz.isAgg0
 z0:=Tryz.sizeOf0
 v0:=Tryz.zeroValue0
 t3:=Tryz.underlying3
 a3:=Tryz.isAgg3
 z3:=Tryz.sizeOf3
 v3:=Tryz.zeroValue3
 t4:=Tryz.underlying4
 a4:=Tryz.isAgg4
 z4:=Tryz.sizeOf4
 v4:=Tryz.zeroValue4
 t5:=Tryz.underlying5
 a5:=Tryz.isAgg5
 z5:=Tryz.sizeOf5
 v5:=Tryz.zeroValue5
 t9:=Tryz.underlying9
 a9:=Tryz.isAgg9
 z9:=Tryz.sizeOf9
 v9:=Tryz.zeroValue9
 t21:=Tryz.underlying21
 a21:=Tryz.isAgg21
 z21:=Tryz.sizeOf21
 v21:=Tryz.zeroValue21
 t46:=Tryz.underlying179
 a46:=Tryz.isAgg179
 z46:=Tryz.sizeOf179
 v46:=Tryz.zeroValue179
 t105:=Tryz.underlying198
 a105:=Tryz.isAgg198
 z105:=Tryz.sizeOf198
 v105:=Tryz.zeroValue198
 t116:=Tryz.underlying183
 a116:=Tryz.isAgg183
 z116:=Tryz.sizeOf183
 t117:=Tryz.underlying184
 a117:=Tryz.isAgg184
 z117:=Tryz.sizeOf184
 v117:=Tryz.zeroValue184
 t119:=Tryz.underlying220
 a119:=Tryz.isAgg220
 z119:=Tryz.sizeOf220
 t124:=Tryz.underlying187
 a124:=Tryz.isAgg187
 z124:=Tryz.sizeOf187
 v124:=Tryz.zeroValue187
 t138:=Tryz.underlying222
 a138:=Tryz.isAgg222
 z138:=Tryz.sizeOf222
 v138:=Tryz.zeroValue222
 t139:=Tryz.underlying223
 a139:=Tryz.isAgg223
 z139:=Tryz.sizeOf223
 v139:=Tryz.zeroValue223
 g3:=by kernel_rfl
 g4:=by kernel_rfl }
def Tryz.lays119_ren:Go.Shelf.Ren:=⟨fun|119=>137|n=>n,fun|21=>21|4=>4|n=>n,fun|n=>n⟩
theorem Tryz.lays119:Go.Proofs.Lays.n119 Tryz.prog Tryz.lays119_ren:={
 mixed:=by kernel_rfl
 f119:=Tryz.func137.trans (congrArg some (by kernel_rfl))
 t4:=Tryz.underlying4
 a4:=Tryz.isAgg4
 z4:=Tryz.sizeOf4
 v4:=Tryz.zeroValue4
 t21:=Tryz.underlying21
 a21:=Tryz.isAgg21
 z21:=Tryz.sizeOf21
 v21:=Tryz.zeroValue21 }
theorem Tryz.utf8_ValidRune (r:Int) (w:World) :
  Calls Tryz.prog 137 #[.int .i32 r] w fun e w'=>e=.returned (.bool (Lib.validRune r))/\w' = w:=Any.utf8_ValidRune Tryz.lays119 r w
def Tryz.lays137_ren:Go.Shelf.Ren:=⟨fun|137=>136|217=>149|266=>157|n=>n,fun|9=>9|5=>5|3=>3|n=>n,fun|n=>n⟩
theorem Tryz.lays137:Go.Proofs.Lays.n137 Tryz.prog Tryz.lays137_ren:={
 mixed:=by kernel_rfl
 f137:=Tryz.func136.trans (congrArg some (by kernel_rfl))
 f217:=Tryz.func149.trans (congrArg some (by kernel_rfl))
 f266:=Tryz.func157.trans (congrArg some (by kernel_rfl))
 t3:=Tryz.underlying3
 a3:=Tryz.isAgg3
 z3:=Tryz.sizeOf3
 v3:=Tryz.zeroValue3
 t5:=Tryz.underlying5
 a5:=Tryz.isAgg5
 z5:=Tryz.sizeOf5
 v5:=Tryz.zeroValue5
 t9:=Tryz.underlying9
 a9:=Tryz.isAgg9
 z9:=Tryz.sizeOf9
 v9:=Tryz.zeroValue9 }
open Go.RowKit in
theorem Tryz.strings_IndexByte (s:ByteArray) (c:Int) (w:World) :
  Calls Tryz.prog 136 #[.string s,.int .u8 c] w fun e w'=>e=.returned (.int .i64 (Lib.indexByte s.data.toList c.toNat.toUInt8))/\w' = w:=Any.strings_IndexByte Tryz.lays137 s c w
def Tryz.laysM173_ren:Go.Shelf.Ren:=⟨fun|173=>109|246=>128|283=>142|284=>143|285=>144|286=>145|129=>153|317=>152|318=>154|319=>155|320=>156|337=>159|338=>160|n=>n,fun|2=>2|3=>3|9=>9|4=>4|171=>206|0=>0|53=>105|37=>45|5=>5|173=>209|212=>214|51=>215|20=>20|213=>216|46=>179|232=>225|233=>226|n=>n,fun|17=>1|18=>4|19=>5|n=>n⟩
theorem Tryz.laysM173:Go.Proofs.LaysM.n173 Tryz.prog Tryz.laysM173_ren:={
 mixed:=by kernel_rfl
 f129:=Tryz.func153.trans (congrArg some (by kernel_rfl))
 f173:=Tryz.func109.trans (congrArg some (by kernel_rfl))
 f246:=Tryz.func128.trans (congrArg some (by kernel_rfl))
 f283:=Tryz.func142.trans (congrArg some (by kernel_rfl))
 f284:=Tryz.func143.trans (congrArg some (by kernel_rfl))
 f285:=Tryz.func144.trans (congrArg some (by kernel_rfl))
 f286:=Tryz.func145.trans (congrArg some (by kernel_rfl))
 f317:=Tryz.func152.trans (congrArg some (by kernel_rfl))
 f318:=Tryz.func154.trans (congrArg some (by kernel_rfl))
 f319:=Tryz.func155.trans (congrArg some (by kernel_rfl))
 f320:=Tryz.func156.trans (congrArg some (by kernel_rfl))
 f337:=Tryz.func159.trans (congrArg some (by kernel_rfl))
 f338:=Tryz.func160.trans (congrArg some (by kernel_rfl))
 t0:=Tryz.underlying0
 a0:=Tryz.isAgg0
 z0:=Tryz.sizeOf0
 v0:=Tryz.zeroValue0
 t2:=Tryz.underlying2
 a2:=Tryz.isAgg2
 z2:=Tryz.sizeOf2
 v2:=Tryz.zeroValue2
 t3:=Tryz.underlying3
 a3:=Tryz.isAgg3
 z3:=Tryz.sizeOf3
 v3:=Tryz.zeroValue3
 t4:=Tryz.underlying4
 a4:=Tryz.isAgg4
 z4:=Tryz.sizeOf4
 v4:=Tryz.zeroValue4
 t5:=Tryz.underlying5
 a5:=Tryz.isAgg5
 z5:=Tryz.sizeOf5
 v5:=Tryz.zeroValue5
 t9:=Tryz.underlying9
 a9:=Tryz.isAgg9
 z9:=Tryz.sizeOf9
 v9:=Tryz.zeroValue9
 t20:=Tryz.underlying20
 a20:=Tryz.isAgg20
 z20:=Tryz.sizeOf20
 v20:=Tryz.zeroValue20
 t37:=Tryz.underlying45
 a37:=Tryz.isAgg45
 z37:=Tryz.sizeOf45
 v37:=Tryz.zeroValue45
 t46:=Tryz.underlying179
 a46:=Tryz.isAgg179
 z46:=Tryz.sizeOf179
 v46:=Tryz.zeroValue179
 t51:=Tryz.underlying215
 a51:=Tryz.isAgg215
 z51:=Tryz.sizeOf215
 v51:=Tryz.zeroValue215
 t53:=Tryz.underlying105
 a53:=Tryz.isAgg105
 z53:=Tryz.sizeOf105
 v53:=Tryz.zeroValue105
 t171:=Tryz.underlying206
 a171:=Tryz.isAgg206
 z171:=Tryz.sizeOf206
 v171:=Tryz.zeroValue206
 t173:=Tryz.underlying209
 a173:=Tryz.isAgg209
 z173:=Tryz.sizeOf209
 v173:=Tryz.zeroValue209
 t212:=Tryz.underlying214
 a212:=Tryz.isAgg214
 z212:=Tryz.sizeOf214
 v212:=Tryz.zeroValue214
 t213:=Tryz.underlying216
 a213:=Tryz.isAgg216
 z213:=Tryz.sizeOf216
 t232:=Tryz.underlying225
 a232:=Tryz.isAgg225
 z232:=Tryz.sizeOf225
 v232:=Tryz.zeroValue225
 t233:=Tryz.underlying226
 a233:=Tryz.isAgg226
 z233:=Tryz.sizeOf226
 v233:=Tryz.zeroValue226
 g17:=by kernel_rfl
 g18:=by kernel_rfl
 g19:=by kernel_rfl
 i0:=by kernel_rfl
 i2:=by kernel_rfl
 i3:=by kernel_rfl
 i4:=by kernel_rfl
 i5:=by kernel_rfl
 i9:=by kernel_rfl
 i20:=by kernel_rfl
 i37:=by kernel_rfl
 i46:=by kernel_rfl
 i51:=by kernel_rfl
 i53:=by kernel_rfl
 i171:=by kernel_rfl
 i173:=by kernel_rfl
 i212:=by kernel_rfl
 i232:=by kernel_rfl
 i233:=by kernel_rfl
 m17:=by kernel_rfl
 m18:=by kernel_rfl
 m19:=by kernel_rfl }
open Go.RowKit Go.Sort Go.Lib in
theorem Tryz.strconv_FormatInt_10 (n:Int) (h0 : -9223372036854775808<=n) (h1:n<=9223372036854775807) (w:World) (htab:Lib.TabIs Tryz.prog w "internal/strconv.uint64pow10" .u64 Lib.pow10Tab) :
  Calls Tryz.prog 109 #[.int .i64 n,.int .i64 10] w fun e w'=>e=.returned (.string ⟨(Lib.itoa n).toArray⟩)/\∃ k os,w' = grow (w.drewN k) os:=Any.strconv_FormatInt_10 Tryz.laysM173 n h0 h1 w htab
def Tryz.lays145_ren:Go.Shelf.Ren:=⟨fun|145=>83|220=>112|219=>133|217=>149|225=>139|224=>138|267=>150|266=>157|314=>158|n=>n,fun|9=>9|4=>4|59=>148|3=>3|5=>5|46=>179|146=>218|51=>215|n=>n,fun|1=>0|n=>n⟩
theorem Tryz.lays145:Go.Proofs.Lays.n145 Tryz.prog Tryz.lays145_ren:={
 mixed:=by kernel_rfl
 f145:=Tryz.func83.trans (congrArg some (by kernel_rfl))
 f217:=Tryz.func149.trans (congrArg some (by kernel_rfl))
 f219:=Tryz.func133.trans (congrArg some (by kernel_rfl))
 f220:=Tryz.func112.trans (congrArg some (by kernel_rfl))
 f224:=Tryz.func138.trans (congrArg some (by kernel_rfl))
 f225:=Tryz.func139.trans (congrArg some (by kernel_rfl))
 f266:=Tryz.func157.trans (congrArg some (by kernel_rfl))
 f267:=Tryz.func150.trans (congrArg some (by kernel_rfl))
 f314:=Tryz.func158.trans (congrArg some (by kernel_rfl))
 t3:=Tryz.underlying3
 a3:=Tryz.isAgg3
 z3:=Tryz.sizeOf3
 v3:=Tryz.zeroValue3
 t4:=Tryz.underlying4
 a4:=Tryz.isAgg4
 z4:=Tryz.sizeOf4
 v4:=Tryz.zeroValue4
 t5:=Tryz.underlying5
 a5:=Tryz.isAgg5
 z5:=Tryz.sizeOf5
 v5:=Tryz.zeroValue5
 t9:=Tryz.underlying9
 a9:=Tryz.isAgg9
 z9:=Tryz.sizeOf9
 v9:=Tryz.zeroValue9
 t46:=Tryz.underlying179
 a46:=Tryz.isAgg179
 z46:=Tryz.sizeOf179
 v46:=Tryz.zeroValue179
 t51:=Tryz.underlying215
 a51:=Tryz.isAgg215
 z51:=Tryz.sizeOf215
 v51:=Tryz.zeroValue215
 t59:=Tryz.underlying148
 a59:=Tryz.isAgg148
 z59:=Tryz.sizeOf148
 v59:=Tryz.zeroValue148
 t146:=Tryz.underlying218
 a146:=Tryz.isAgg218
 z146:=Tryz.sizeOf218
 v146:=Tryz.zeroValue218
 g1:=by kernel_rfl }
open Go.RowKit Go.Lib in
theorem Tryz.strings_Cut (s sep:ByteArray) (m:Int) (w:World) (hs:s.size<4294967281) (hm:w.cell? ⟨0,0,none⟩=some (.int .i64 m)) :
  Calls Tryz.prog 83 #[.string s,.string sep] w fun e w'=>e=.returned (.tuple #[.string ⟨(Lib.cut s.data.toList sep.data.toList).1.toArray⟩,.string ⟨(Lib.cut s.data.toList sep.data.toList).2.1.toArray⟩,.bool (Lib.cut s.data.toList sep.data.toList).2.2])/\∃ n,w' = w.drewN n:=Any.strings_Cut Tryz.lays145 s sep m w hs hm
def Tryz.laysM143_ren:Go.Shelf.Ren:=⟨fun|143=>132|219=>133|217=>149|225=>139|224=>138|267=>150|266=>157|314=>158|n=>n,fun|9=>9|3=>3|4=>4|5=>5|46=>179|146=>218|51=>215|n=>n,fun|1=>0|n=>n⟩
theorem Tryz.laysM143:Go.Proofs.LaysM.n143 Tryz.prog Tryz.laysM143_ren:={
 mixed:=by kernel_rfl
 f143:=Tryz.func132.trans (congrArg some (by kernel_rfl))
 f217:=Tryz.func149.trans (congrArg some (by kernel_rfl))
 f219:=Tryz.func133.trans (congrArg some (by kernel_rfl))
 f224:=Tryz.func138.trans (congrArg some (by kernel_rfl))
 f225:=Tryz.func139.trans (congrArg some (by kernel_rfl))
 f266:=Tryz.func157.trans (congrArg some (by kernel_rfl))
 f267:=Tryz.func150.trans (congrArg some (by kernel_rfl))
 f314:=Tryz.func158.trans (congrArg some (by kernel_rfl))
 t3:=Tryz.underlying3
 a3:=Tryz.isAgg3
 z3:=Tryz.sizeOf3
 v3:=Tryz.zeroValue3
 t4:=Tryz.underlying4
 a4:=Tryz.isAgg4
 z4:=Tryz.sizeOf4
 v4:=Tryz.zeroValue4
 t5:=Tryz.underlying5
 a5:=Tryz.isAgg5
 z5:=Tryz.sizeOf5
 v5:=Tryz.zeroValue5
 t9:=Tryz.underlying9
 a9:=Tryz.isAgg9
 z9:=Tryz.sizeOf9
 v9:=Tryz.zeroValue9
 t46:=Tryz.underlying179
 a46:=Tryz.isAgg179
 z46:=Tryz.sizeOf179
 v46:=Tryz.zeroValue179
 t51:=Tryz.underlying215
 a51:=Tryz.isAgg215
 z51:=Tryz.sizeOf215
 v51:=Tryz.zeroValue215
 t146:=Tryz.underlying218
 a146:=Tryz.isAgg218
 z146:=Tryz.sizeOf218
 v146:=Tryz.zeroValue218
 g1:=by kernel_rfl
 i3:=by kernel_rfl
 i4:=by kernel_rfl
 i5:=by kernel_rfl
 i9:=by kernel_rfl
 i46:=by kernel_rfl
 i51:=by kernel_rfl
 i146:=by kernel_rfl
 m1:=by kernel_rfl
 s1_3:=fun w h=>Go.Proofs.cell_of_shapedOpen_int (zero:=#[.int .i64 0]) (t:=3) h (of_decide_eq_true (by kernel_rfl)) (by kernel_rfl) rfl (by kernel_rfl) (by kernel_rfl) Tryz.underlying3 }
def Tryz.lays146_ren:Go.Shelf.Ren:=⟨fun|146=>82|221=>111|268=>130|138=>131|143=>132|195=>147|197=>134|218=>148|219=>133|260=>151|217=>149|225=>139|224=>138|267=>150|266=>157|314=>158|n=>n,fun|9=>9|31=>103|3=>3|4=>4|0=>0|105=>198|21=>21|5=>5|46=>179|119=>220|139=>223|138=>222|146=>218|51=>215|n=>n,fun|1=>0|3=>2|4=>3|n=>n⟩
theorem Tryz.lays146:Go.Proofs.Lays.n146 Tryz.prog Tryz.lays146_ren:={
 mixed:=by kernel_rfl
 f138:=Tryz.func131.trans (congrArg some (by kernel_rfl))
 f143:=Tryz.func132.trans (congrArg some (by kernel_rfl))
 f146:=Tryz.func82.trans (congrArg some (by kernel_rfl))
 f195:=Tryz.func147.trans (congrArg some (by kernel_rfl))
 f197:=Tryz.func134.trans (congrArg some (by kernel_rfl))
 f217:=Tryz.func149.trans (congrArg some (by kernel_rfl))
 f218:=Tryz.func148.trans (congrArg some (by kernel_rfl))
 f219:=Tryz.func133.trans (congrArg some (by kernel_rfl))
 f221:=Tryz.func111.trans (congrArg some (by kernel_rfl))
 f224:=Tryz.func138.trans (congrArg some (by kernel_rfl))
 f225:=Tryz.func139.trans (congrArg some (by kernel_rfl))
 f260:=Tryz.func151.trans (congrArg some (by kernel_rfl))
 f266:=Tryz.func157.trans (congrArg some (by kernel_rfl))
 f267:=Tryz.func150.trans (congrArg some (by kernel_rfl))
 f268:=Tryz.func130.trans (congrArg some (by kernel_rfl))
 f314:=Tryz.func158.trans (congrArg some (by kernel_rfl))
 t0:=Tryz.underlying0
 a0:=Tryz.isAgg0
 z0:=Tryz.sizeOf0
 v0:=Tryz.zeroValue0
 t3:=Tryz.underlying3
 a3:=Tryz.isAgg3
 z3:=Tryz.sizeOf3
 v3:=Tryz.zeroValue3
 t4:=Tryz.underlying4
 a4:=Tryz.isAgg4
 z4:=Tryz.sizeOf4
 v4:=Tryz.zeroValue4
 t5:=Tryz.underlying5
 a5:=Tryz.isAgg5
 z5:=Tryz.sizeOf5
 v5:=Tryz.zeroValue5
 t9:=Tryz.underlying9
 a9:=Tryz.isAgg9
 z9:=Tryz.sizeOf9
 v9:=Tryz.zeroValue9
 t21:=Tryz.underlying21
 a21:=Tryz.isAgg21
 z21:=Tryz.sizeOf21
 v21:=Tryz.zeroValue21
 t31:=Tryz.underlying103
 a31:=Tryz.isAgg103
 z31:=Tryz.sizeOf103
 v31:=Tryz.zeroValue103
 t46:=Tryz.underlying179
 a46:=Tryz.isAgg179
 z46:=Tryz.sizeOf179
 v46:=Tryz.zeroValue179
 t51:=Tryz.underlying215
 a51:=Tryz.isAgg215
 z51:=Tryz.sizeOf215
 v51:=Tryz.zeroValue215
 t105:=Tryz.underlying198
 a105:=Tryz.isAgg198
 z105:=Tryz.sizeOf198
 v105:=Tryz.zeroValue198
 t119:=Tryz.underlying220
 a119:=Tryz.isAgg220
 z119:=Tryz.sizeOf220
 t138:=Tryz.underlying222
 a138:=Tryz.isAgg222
 z138:=Tryz.sizeOf222
 v138:=Tryz.zeroValue222
 t139:=Tryz.underlying223
 a139:=Tryz.isAgg223
 z139:=Tryz.sizeOf223
 v139:=Tryz.zeroValue223
 t146:=Tryz.underlying218
 a146:=Tryz.isAgg218
 z146:=Tryz.sizeOf218
 v146:=Tryz.zeroValue218
 g1:=by kernel_rfl
 g3:=by kernel_rfl
 g4:=by kernel_rfl }
open Go.RowKit Go.Lib in
theorem Tryz.strings_Split (s sep:ByteArray) (m:Int) (w:World) (hs:s.size<4294967281) (hm:w.cell? ⟨0,0,none⟩=some (.int .i64 m)) (h1:1<=sep.size) :
  Calls Tryz.prog 82 #[.string s,.string sep] w fun e w'=>
   e=.returned (.slice (some ⟨w.heap.size,0,none⟩) (Lib.countB s sep+1) (Lib.countB s sep+1))/\w' = w.alloc (.cells ((Lib.splitB sep 0 (Lib.countB s sep) s).map Value.string).toArray 9):=Any.strings_Split Tryz.lays146 (by kernel_rfl) s sep m w hs hm h1
def Tryz.lays152_ren:Go.Shelf.Ren:=⟨fun|152=>117|137=>136|119=>137|224=>138|225=>139|217=>149|266=>157|n=>n,fun|9=>9|21=>21|3=>3|4=>4|5=>5|0=>0|46=>179|n=>n,fun|n=>n⟩
theorem Tryz.lays152:Go.Proofs.Lays.n152 Tryz.prog Tryz.lays152_ren:={
 mixed:=by kernel_rfl
 f119:=Tryz.func137.trans (congrArg some (by kernel_rfl))
 f137:=Tryz.func136.trans (congrArg some (by kernel_rfl))
 f152:=Tryz.func117.trans (congrArg some (by kernel_rfl))
 f217:=Tryz.func149.trans (congrArg some (by kernel_rfl))
 f224:=Tryz.func138.trans (congrArg some (by kernel_rfl))
 f225:=Tryz.func139.trans (congrArg some (by kernel_rfl))
 f266:=Tryz.func157.trans (congrArg some (by kernel_rfl))
 t0:=Tryz.underlying0
 a0:=Tryz.isAgg0
 z0:=Tryz.sizeOf0
 v0:=Tryz.zeroValue0
 t3:=Tryz.underlying3
 a3:=Tryz.isAgg3
 z3:=Tryz.sizeOf3
 v3:=Tryz.zeroValue3
 t4:=Tryz.underlying4
 a4:=Tryz.isAgg4
 z4:=Tryz.sizeOf4
 v4:=Tryz.zeroValue4
 t5:=Tryz.underlying5
 a5:=Tryz.isAgg5
 z5:=Tryz.sizeOf5
 v5:=Tryz.zeroValue5
 t9:=Tryz.underlying9
 a9:=Tryz.isAgg9
 z9:=Tryz.sizeOf9
 v9:=Tryz.zeroValue9
 t21:=Tryz.underlying21
 a21:=Tryz.isAgg21
 z21:=Tryz.sizeOf21
 v21:=Tryz.zeroValue21
 t46:=Tryz.underlying179
 a46:=Tryz.isAgg179
 z46:=Tryz.sizeOf179
 v46:=Tryz.zeroValue179 }
open Go.RowKit Go.Lib in
theorem Tryz.strings_IndexRune_ascii (s:ByteArray) (r:Int) (w:World) (h0:0<=r) (h1:r<128) :
  Calls Tryz.prog 117 #[.string s,.int .i32 r] w fun e w'=>e=.returned (.int .i64 (Lib.indexByte s.data.toList r.toNat.toUInt8))/\w' = w:=Any.strings_IndexRune_ascii Tryz.lays152 s r w h0 h1
def Tryz.lays226_ren:Go.Shelf.Ren:=⟨fun|226=>118|n=>n,fun|3=>3|4=>4|n=>n,fun|n=>n⟩
theorem Tryz.lays226:Go.Proofs.Lays.n226 Tryz.prog Tryz.lays226_ren:={
 mixed:=by kernel_rfl
 f226:=Tryz.func118.trans (congrArg some (by kernel_rfl))
 t3:=Tryz.underlying3
 a3:=Tryz.isAgg3
 z3:=Tryz.sizeOf3
 v3:=Tryz.zeroValue3
 t4:=Tryz.underlying4
 a4:=Tryz.isAgg4
 z4:=Tryz.sizeOf4
 v4:=Tryz.zeroValue4 }
open Go.RowKit Go.Lib in
theorem Tryz.strings_shouldUseASCIISet (n:Int) (w:World) :
  Calls Tryz.prog 118 #[.int .i64 n] w fun e w'=>e=.returned (.bool (decide (8<n)))/\w' = w:=Any.strings_shouldUseASCIISet Tryz.lays226 n w
def Tryz.lays153_ren:Go.Shelf.Ren:=⟨fun|153=>85|152=>117|226=>118|227=>114|228=>119|137=>136|119=>137|224=>138|225=>139|217=>149|266=>157|n=>n,fun|9=>9|3=>3|4=>4|5=>5|21=>21|117=>184|116=>183|0=>0|46=>179|124=>187|n=>n,fun|n=>n⟩
theorem Tryz.lays153:Go.Proofs.Lays.n153 Tryz.prog Tryz.lays153_ren:={
 mixed:=by kernel_rfl
 f119:=Tryz.func137.trans (congrArg some (by kernel_rfl))
 f137:=Tryz.func136.trans (congrArg some (by kernel_rfl))
 f152:=Tryz.func117.trans (congrArg some (by kernel_rfl))
 f153:=Tryz.func85.trans (congrArg some (by kernel_rfl))
 f217:=Tryz.func149.trans (congrArg some (by kernel_rfl))
 f224:=Tryz.func138.trans (congrArg some (by kernel_rfl))
 f225:=Tryz.func139.trans (congrArg some (by kernel_rfl))
 f226:=Tryz.func118.trans (congrArg some (by kernel_rfl))
 f227:=Tryz.func114.trans (congrArg some (by kernel_rfl))
 f228:=Tryz.func119.trans (congrArg some (by kernel_rfl))
 f266:=Tryz.func157.trans (congrArg some (by kernel_rfl))
 t0:=Tryz.underlying0
 a0:=Tryz.isAgg0
 z0:=Tryz.sizeOf0
 v0:=Tryz.zeroValue0
 t3:=Tryz.underlying3
 a3:=Tryz.isAgg3
 z3:=Tryz.sizeOf3
 v3:=Tryz.zeroValue3
 t4:=Tryz.underlying4
 a4:=Tryz.isAgg4
 z4:=Tryz.sizeOf4
 v4:=Tryz.zeroValue4
 t5:=Tryz.underlying5
 a5:=Tryz.isAgg5
 z5:=Tryz.sizeOf5
 v5:=Tryz.zeroValue5
 t9:=Tryz.underlying9
 a9:=Tryz.isAgg9
 z9:=Tryz.sizeOf9
 v9:=Tryz.zeroValue9
 t21:=Tryz.underlying21
 a21:=Tryz.isAgg21
 z21:=Tryz.sizeOf21
 v21:=Tryz.zeroValue21
 t46:=Tryz.underlying179
 a46:=Tryz.isAgg179
 z46:=Tryz.sizeOf179
 v46:=Tryz.zeroValue179
 t116:=Tryz.underlying183
 a116:=Tryz.isAgg183
 z116:=Tryz.sizeOf183
 t117:=Tryz.underlying184
 a117:=Tryz.isAgg184
 z117:=Tryz.sizeOf184
 v117:=Tryz.zeroValue184
 t124:=Tryz.underlying187
 a124:=Tryz.isAgg187
 z124:=Tryz.sizeOf187
 v124:=Tryz.zeroValue187 }
open Go.RowKit Go.Lib in
theorem Tryz.strings_IndexAny_long (hv116:∀ w,(zeroValue 183).run Tryz.prog w=.ok (.agg (Array.replicate 256 (.bool false))) w) (s chars:ByteArray) (w:World) (h2:2<=chars.size) (h8:8<s.size) (hs:s.size<4294967281) (hcs:chars.size<4294967281) (hascii:∀ (j:Nat) b,chars.data.toList[j]? = some b->b.toNat<128) :
  Calls Tryz.prog 85 #[.string s,.string chars] w fun e w'=>e=.returned (.int .i64 (Lib.indexAny s.data.toList chars.data.toList))/\w' = ((w.alloc (.cells (Lib.setCells chars.data.toList) 183)).alloc (.cells (Lib.setCells chars.data.toList) 183)):=Any.strings_IndexAny_long Tryz.lays153 hv116 (by kernel_rfl) s chars w h2 h8 hs hcs hascii
end Go.Proofs
end
section
namespace Go.Proofs.YtgnaaokhfpfglaaGreatDoor
open Go.RowKit Go.Shelf Go.Lib
def wsB:ByteArray:=⟨#[32,9]⟩
theorem decode_low (s:ByteArray) (pos:Nat) (h:(s.data.toList.getD pos 0).toNat<128):Utf8.decode s pos=((s.data.toList.getD pos 0).toNat,1):=by
 rw [decode_N];unfold decodeN;rw [if_pos h]
theorem decode_high (s:ByteArray) (pos:Nat) (h:128<=(s.data.toList.getD pos 0).toNat) :
  128<=(Utf8.decode s pos).1/\∀ j,j<(Utf8.decode s pos).2->128<=(s.data.toList.getD (pos+j) 0).toNat:=by
 rw [decode_N];rcases decodeN_shape (s.data.toList.length - pos) (s.data.toList.getD pos 0).toNat (s.data.toList.getD (pos+1) 0).toNat (s.data.toList.getD (pos+2) 0).toNat (s.data.toList.getD (pos+3) 0).toNat with
  ⟨h1,_⟩|⟨h1,h2,h3,h4,e⟩|⟨h1,h2,h3,h4,h5,_,e⟩|⟨h1,h2,h3,h4,h5,h6,_,e⟩|e
 .omega
 .rw [e];refine⟨h4,fun j hj=>?_⟩;have:j=0\/j=1:=by simp at hj;omega
  rcases this with rfl|rfl
  .exact h
  .omega
 .rw [e];refine⟨by simp only;omega,fun j hj=>?_⟩;have:j=0\/j=1\/j=2:=by simp at hj;omega
  rcases this with rfl|rfl|rfl
  .exact h
  .omega
  .omega
 .rw [e];refine⟨by simp only;omega,fun j hj=>?_⟩;have:j=0\/j=1\/j=2\/j=3:=by simp at hj;omega
  rcases this with rfl|rfl|rfl|rfl
  .exact h
  .omega
  .omega
  .omega
 .rw [e];refine⟨by decide,fun j hj=>?_⟩;have:j=0:=by simp at hj;omega
  subst this;exact h
theorem indexRune_err (w:World):Calls Tryz.prog 117 #[.string wsB,.int .i32 65533] w fun e w'=>e=.returned (.int .i64 (-1))/\Below w.heap.size w w':=by
 unfold wsB;go_enter Tryz.func117,Tryz.ntmps117;go_wp2;go_loopg [5,6] 2 (fun g _ _ wx=>∃ i:Nat,i+g=2/\wx=w.iter ⟨#[32,9]⟩ i)
 case atStart=>exact⟨0,by omega,rfl⟩
 case round=>
  obtain⟨i,hig,rfl⟩:=hrel;have hcase:i=0\/i=1\/i=2:=by omega
  rcases hcase with rfl|rfl|rfl
  .have hnx:=fun ty=>run_next_ascii (P:=Tryz.prog) w ⟨#[32,9]⟩ 0 ty (by decide) (by decide)
   have hx:(ByteArray.mk #[32,9])[0]'(by decide)=32:=rfl;rw [hx] at hnx;obtain⟨g',rfl⟩:∃ g',gk=g' + 1:=⟨gk - 1,by omega⟩;go_wp2;go_roundg g'
   case measure=>omega
   case rel=>exact⟨1,by omega,rfl⟩
  .have hnx:=fun ty=>run_next_ascii (P:=Tryz.prog) w ⟨#[32,9]⟩ 1 ty (by decide) (by decide)
   have hx:(ByteArray.mk #[32,9])[1]'(by decide)=9:=rfl;rw [hx] at hnx;obtain⟨g',rfl⟩:∃ g',gk=g' + 1:=⟨gk - 1,by omega⟩;go_wp2;go_roundg g'
   case measure=>omega
   case rel=>exact⟨2,by omega,rfl⟩
  .have hnx:=run_next_end (P:=Tryz.prog) w ⟨#[32,9]⟩ 2;go_wp2;go_ret;exact⟨rfl,(bR9 _ _).alloc (nR9 _) _⟩
theorem encode_two {R:Int} (h0:128<=R) (h1:R<2048):∃ a b:UInt8,Utf8.encode R=⟨#[a,b]⟩/\128<=b.toNat:=by
 have hv:Utf8.valid R=true:=by unfold Utf8.valid;simp;omega
 unfold Utf8.encode;simp only [hv,if_true];rw [if_neg (by omega),if_pos (by omega)];refine⟨_,_,rfl,?_⟩;rw [UInt8.toNat_ofNat'];omega
theorem encode_more {R:Int} (h0:2048<=R) (h1:R<=1114111):3<=(Utf8.encode R).size/\(Utf8.encode R).size<=4:=by
 unfold Utf8.encode;have hc:2048<=(if Utf8.valid R=true then R.toNat else Utf8.runeError):=by
  split
  .omega
  .decide
 simp only;generalize (if Utf8.valid R=true then R.toNat else Utf8.runeError)=c at hc;rw [if_neg (by omega),if_neg (by omega)];split
 .exact⟨nR9 3,Nat.le_succ 3⟩
 .exact⟨Nat.le_succ 3,nR9 4⟩
theorem validRune_yes (R:Int) (w:World) (hv:Lib.validRune R=true):Calls Tryz.prog 137 #[.int .i32 R] w fun e w'=>e=.returned (.bool true)/\w=w':=
 (Tryz.utf8_ValidRune R w).mono fun e w' ⟨he,hw⟩=>⟨by rw [he,hv],hw.symm⟩
theorem indexRune_more (R:Int) (w:World) (h0:2048<=R) (h1:R<=1114111) (hne:R≠65533) (hv:Lib.validRune R=true) :
  Calls Tryz.prog 117 #[.string wsB,.int .i32 R] w fun e w'=>e=.returned (.int .i64 (-1))/\Below w.heap.size w w':=by
 unfold wsB;have hb:(R == 65533)=false:=by simpa using hne
 obtain⟨e0,e1⟩:=encode_more h0 h1;obtain⟨E,hE⟩:∃ E,Utf8.encode R=E:=⟨_,rfl⟩;rw [hE] at e0 e1;clear hne;go_enter Tryz.func117,Tryz.ntmps117;go_wp2_with (go_at_call 137;refine (validRune_yes _ _ hv).mono ?_;rintro e w' ⟨rfl,rfl⟩)
 go_step3;go_wp2_with (go_at_call 137;refine (validRune_yes _ _ hv).mono ?_;rintro e w' ⟨rfl,rfl⟩)
 refine wp_loop_rounds 1 ?_;rw [rounds_succ];go_wp2;(try rw [Exit.noGoto_ret]);go_ret;exact⟨rfl,bR9 _ _⟩
theorem quiet_add_left {P:Program} {f:FuncId} {args:Array Value} {w:World} {a n:Nat} {v:Value}
  (h:Calls P f args (w.drewN (a+n)) fun e w'=>e=.returned v/\w.drewN (a+n)=w') :
  Calls P f args (w.drewN (a+n)) fun e w''=>e=.returned v/\∃ m,w'' = w.drewN (a+m):=
 h.mono fun _ _ ⟨he,hm⟩=>⟨he,n,hm.symm⟩
theorem indexByte_none (s:ByteArray) (c:Int) (w:World) (h:s.data.toList=[]):Calls Tryz.prog 136 #[.string s,.int .u8 c] w fun e w'=>e=.returned (.int .i64 (-1))/\w=w':=
 (Tryz.strings_IndexByte s c w).mono fun e w' ⟨he,hw⟩=>⟨by rw [he,h];rfl,hw.symm⟩
theorem indexRune_two (R:Int) (w:World) (h0:128<=R) (h1:R<2048) (hv:Lib.validRune R=true) :
  Calls Tryz.prog 117 #[.string wsB,.int .i32 R] w fun e w'=>e=.returned (.int .i64 (-1))/\Below w.heap.size w w':=by
 unfold wsB;have hb:(R == 65533)=false:=by simp;omega
 obtain⟨a,b,hE,hb8⟩:=encode_two h0 h1;have hb1:((9:Int) == (b.toNat:Int))=false:=by simp;omega
 have hb2:((9:Int) != (b.toNat:Int))=true:=by simp;omega
 go_enter Tryz.func117,Tryz.ntmps117;go_wp2_with (go_at_call 137;refine (validRune_yes _ _ hv).mono ?_;rintro e w' ⟨rfl,rfl⟩)
 go_step3;go_wp2_with (go_at_call 137;refine (validRune_yes _ _ hv).mono ?_;rintro e w' ⟨rfl,rfl⟩)
 refine wp_loop_rounds 1 ?_;rw [rounds_succ];go_wp2;go_step3;go_wp2;go_quiet (fail)
 go_wp2
 .go_quiet ((go_at_call 136;exact quiet_add_left (indexByte_none _ _ _ rfl)))
  go_wp2;repeat rw [Exit.noGoto_ret]
  go_wp2;repeat rw [Exit.noGoto_ret]
  go_ret;exact⟨rfl,qaP (bR9 _ _) _⟩
 .have hz:((9:Int) != (b.toNat:Int))=false:=by assumption
  rw [hb2] at hz;cases hz
theorem valid_rune (s:ByteArray) (pos:Nat):Lib.validRune ((Utf8.decode s pos).1:Int)=true:=by
 have h:=decodeN_valid (s.size - pos) (s.get! pos).toNat (s.get! (pos+1)).toNat (s.get! (pos+2)).toNat (s.get! (pos+3)).toNat (UInt8.toNat_lt _);rw [<- decode_at] at h;unfold Lib.validRune;simp;omega
theorem indexRune_any (R:Nat) (w:World) (h0:128<=R) (h1:R<=1114111) (hv:R=65533\/Lib.validRune (R:Int)=true) :
  Calls Tryz.prog 117 #[.string wsB,.int .i32 R] w fun e w'=>e=.returned (.int .i64 (-1))/\Below w.heap.size w w':=by
 by_cases he:R=65533
 .subst he;exact indexRune_err w
 .rcases hv with hv|hv
  .exact absurd hv he
  .rcases Nat.lt_or_ge R 2048 with h2|h2
   .exact indexRune_two R w (by omega) (by omega) hv
   .exact indexRune_more R w (by omega) (by omega) (by omega) hv
theorem noAny_high {s:ByteArray} {pos:Nat} (h:NoAny s.data.toList [32,9] pos) (hp:128<=(s.data.toList.getD pos 0).toNat) :
  NoAny s.data.toList [32,9] (pos+(Utf8.decode s pos).2):=by
 intro j b hj hb;rcases Nat.lt_or_ge j pos with h1|h1
 .exact h j b h1 hb
 .have:=(decode_high s pos hp).2 (j - pos) (by omega);rw [show pos+(j - pos)=j by omega,List.getD_eq_getElem?_getD,hb] at this;simp at this;simp only [List.contains_cons,List.contains_nil,Bool.or_false,Bool.or_eq_false_iff,beq_eq_false_iff_ne];constructor
  .rintro rfl;revert this;decide
  .rintro rfl;revert this;decide
theorem indexAny_short (s:ByteArray) (w:World) (h8:s.size<=8) :
  Calls Tryz.prog 85 #[.string s,.string wsB] w fun e w'=>e=.returned (.int .i64 (Lib.indexAny s.data.toList [32,9]))/\Below w.heap.size w w':=by
 have hrune:Hid (∀ (R:Nat) (W:World),128<=R->R<=1114111->(R=65533\/Lib.validRune (R:Int)=true)->Calls Tryz.prog 117 #[.string wsB,.int .i32 R] W fun e w'=>e=.returned (.int .i64 (-1))/\Below W.heap.size W w'):=hI9 fun R W a b c=>indexRune_any R W a b c
 have hlow:Hid (∀ (r:Int) (W:World),0<=r->r<128->Calls Tryz.prog 117 #[.string wsB,.int .i32 r] W fun e w'=>e=.returned (.int .i64 (Lib.indexByte [32,9] r.toNat.toUInt8))/\W=w'):=
  hI9 fun r W a b=>(Tryz.strings_IndexRune_ascii wsB r W a b).mono fun e w' ⟨he,hw⟩=>⟨he,hw.symm⟩
 unfold wsB at hrune hlow ⊢;go_enter Tryz.func85,Tryz.ntmps85;go_wp2_with (go_at_call 118;refine (Tryz.strings_shouldUseASCIISet _ _).mono ?_;rintro e w' ⟨rfl,hw⟩;rw [hw])
 go_loopg [9,10] s.size (fun g _ _ wx=>∃ pos:Nat,wx.heap[w.heap.size]? = some (.stringIter s pos)/\Below w.heap.size w wx/\NoAny s.data.toList [32,9] pos/\s.size<=pos+g)
 case atStart=>exact⟨0,World.iter_heap w s 0,(bR9 _ w).alloc (nR9 _) _,NoAny.zero _ _,by omega⟩
 case round=>
  obtain⟨pos,hit,hbw,hno,hfu⟩:=hrel;have HN:=hI9 hno;clear hno;by_cases hps:pos<s.size
  .obtain⟨g',rfl⟩:∃ g',gk=g' + 1:=⟨gk - 1,by omega⟩;have hnx:∀ ty,(Instr.next (.pointer (some ⟨w.heap.size,0,none⟩)) true ty).run Tryz.prog wr=_:=fun ty=>Lib.run_next_any_at wr w.heap.size s pos ty hit hps
   have hwd:=Lib.width_pos s pos;have hmax:=Lib.rune_le s pos;have hval:=valid_rune s pos;by_cases hhi:128<=(s.data.toList.getD pos 0).toNat
   .have hR0:=(decode_high s pos hhi).1;have hnext:=hI9 (noAny_high HN.out hhi);obtain⟨R,hR⟩:∃ R,(Utf8.decode s pos).1=R:=⟨_,rfl⟩;obtain⟨K,hK⟩:∃ K,(Utf8.decode s pos).2=K:=⟨_,rfl⟩;rw [hR,hK] at hnx;rw [hR] at hR0 hmax hval;rw [hK] at hwd hnext;clear hR hK;have hit2:=Lib.iterAt_heap wr w.heap.size s pos (pos+K) hit;have hbw2:=Lib.below_iterAt hbw (k:=w.heap.size) (nR9 _) s (pos+K);obtain⟨W,hWd⟩:∃ W,wr.iterAt w.heap.size s (pos+K)=W:=⟨_,rfl⟩;rw [hWd] at hnx hit2 hbw2;have hc:=hI9 (hrune.out R W hR0 hmax (.inr hval));clear hhi hval;go_wp2_with (go_at_call 117;refine hc.out.mono ?_;rintro e W' ⟨rfl,hb3⟩)
    go_roundg g'
    case measure=>omega
    case rel=>exact⟨pos+K,(hb3.block _ (lt_of_block hit2)).trans hit2,hbw2.trans (hb3.mono hbw2.size),hnext.out,by omega⟩
   .have hd:=decode_low s pos (by omega);obtain⟨x,hx⟩:∃ x,s.data.toList.getD pos 0=x:=⟨_,rfl⟩;have hxl:s.data.toList[pos]? = some x:=by
     rw [List.getD_eq_getElem?_getD] at hx;rw [Lib.size_eq] at hps;rw [List.getElem?_eq_getElem hps] at hx ⊢
     simpa using hx
    have hx128:x.toNat<128:=by rw [hx] at hhi;omega
    rw [hx] at hd;rw [hd] at hnx;have hit2:=Lib.iterAt_heap wr w.heap.size s pos (pos+1) hit;have hbw2:=Lib.below_iterAt hbw (k:=w.heap.size) (nR9 _) s (pos+1);obtain⟨W,hWd⟩:∃ W,wr.iterAt w.heap.size s (pos+1)=W:=⟨_,rfl⟩;simp only at hnx;rw [hWd] at hnx hit2 hbw2;have hc:=hlow.out (x.toNat:Int) W (by omega) (by omega);have hback:((x.toNat:Int)).toNat.toUInt8=x:=by simp
    rw [hback] at hc;have hcon:=Lib.contains_iff_indexByte [32,9] x;have HX:=hI9 hxl;clear hx hxl hd hhi hwd hmax hval hback hWd;cases hin:([32,9]:List UInt8).contains x
    .rw [hin] at hcon;have hlt:¬ ((0:Int)<=Lib.indexByte [32,9] x):=of_decide_eq_false hcon.symm;have hnext:=hI9 (HN.out.succ HX.out hin);generalize Lib.indexByte [32,9] x=I at hc hlt;have hC:=hI9 hc;clear hcon hc hin;go_wp2_with (go_at_call 117;refine hC.out.mono ?_;rintro e W' ⟨rfl,rfl⟩)
     go_roundg g'
     case measure=>omega
     case rel=>exact⟨pos+1,hit2,hbw2,hnext.out,by omega⟩
    .rw [hin] at hcon;have hge:(0:Int)<=Lib.indexByte [32,9] x:=oD9 hcon.symm;have hit':=hI9 (indexAny_hit HN.out HX.out hin);generalize Lib.indexByte [32,9] x=I at hc hge;have hC:=hI9 hc;clear hcon hc hin;go_wp2_with (go_at_call 117;refine hC.out.mono ?_;rintro e W' ⟨rfl,rfl⟩)
     go_ret;exact⟨by rw [hit'.out];rfl,hbw2⟩
  .have hnx:∀ ty,(Instr.next (.pointer (some ⟨w.heap.size,0,none⟩)) true ty).run Tryz.prog wr=_:=fun ty=>Lib.run_next_end_at wr w.heap.size s pos ty hit hps
   have hend:=hI9 (indexAny_none (s:=s.data.toList) (chars:=[32,9]) (fun j b hj hb=>HN.out j b (by rw [Lib.size_eq] at hps;omega) hb));go_wp2;go_ret;exact⟨by rw [hend.out];rfl,hbw⟩
def isD (c:UInt8):Prop:=48<=c.toNat/\c.toNat<=57
def numF (n:Nat) (c:UInt8):Nat:=n * 10+(c.toNat - 48)
def numV (l:List UInt8):Nat:=l.foldl numF 0
theorem numF_le (l:List UInt8):∀ n,n<=l.foldl numF n:=by
 induction l with
 |nil=>intro n;exact nR9 _
 |cons c l ih=>
  intro n;have h:=ih (numF n c);have h2:n<=numF n c:=by unfold numF;omega
  exact Nat.le_trans h2 h
theorem numV_take {l:List UInt8} {i:Nat} {c:UInt8} (h:l[i]? = some c):numV (l.take (i+1))=numF (numV (l.take i)) c:=by
 obtain⟨hk,he⟩:=List.getElem?_eq_some_iff.1 h;rw [List.take_succ_eq_append_getElem hk,he];simp [numV]
theorem numV_ge (l:List UInt8) (i:Nat):numV (l.take i)<=numV l:=by
 have h:numV l=(l.drop i).foldl numF (numV (l.take i)):=by
  unfold numV;rw [<- List.foldl_append,List.take_append_drop]
 rw [h];exact numF_le _ _
def NumOk (l:List UInt8) (most:Int):Prop:=(l≠[]/\(l.length=1\/l[0]?≠some 48))/\(∀ (i:Nat) c,l[i]? = some c->isD c)/\(numV l:Int)<=most
theorem num_break {most t q:Int} {n d:Nat} (hm:0<=most) (hm2:most<=9223372036854775807) (hd:d<=9) (ht:t=wrap64 (most - d)) (hq:q=t.tdiv 10) (h:q<n):most<(n * 10+d:Nat):=by
 have ht2:t=most - d:=by rw [ht];unfold wrap64;omega
 subst hq;rcases Int.lt_or_le t 0 with h0|h0
 .have:t.tdiv 10=0:=by
   have h1:t.tdiv 10 = -((-t).tdiv 10):=by rw [Int.neg_tdiv,Int.neg_neg]
   rw [h1,Int.tdiv_eq_ediv_of_nonneg (by omega)];omega
  omega
 .rw [Int.tdiv_eq_ediv_of_nonneg h0] at h;omega
theorem num_on {most t q:Int} {n d:Nat} (hm1 : -9223372036854775808<=most) (hm2:most<=9223372036854775807) (hd:d<=9) (ht:t=wrap64 (most - d)) (hq:q=t.tdiv 10) (h:¬ q<n)
  (hn:most<0->n=0\/n % 10≠0):n * 10+d<=9223372036854775807/\(most<0->n * 10+d=0\/(n * 10+d) % 10≠0):=by
 subst hq;rcases Int.lt_or_le t 0 with h0|h0
 .have:t.tdiv 10<=0:=by
   have h1:t.tdiv 10 = -((-t).tdiv 10):=by rw [Int.neg_tdiv,Int.neg_neg]
   rw [h1,Int.tdiv_eq_ediv_of_nonneg (by omega)];omega
  have hn0:n=0:=by omega
  subst hn0;exact⟨by omega,fun _=>by omega⟩
 .rw [Int.tdiv_eq_ediv_of_nonneg h0] at h;rcases Int.lt_or_le most 0 with hm|hm
  .have hd1:t=most - d+18446744073709551616:=by rw [ht] at h0 ⊢;unfold wrap64 at h0 ⊢;omega
   have hb:t<=9223372036854775807:=by rw [ht];unfold wrap64;omega
   have hn':=hn hm;exact⟨by omega,fun _=>by omega⟩
  .have hd1:t=most - d:=by rw [ht];unfold wrap64;omega
   exact⟨by omega,fun hh=>by omega⟩
theorem not_empty {s:ByteArray} (h:0<s.size):s.toList.isEmpty=false/\s≠ByteArray.empty:=by
 constructor
 .rw [Go.ByteArray.toList_eq];rw [Lib.size_eq] at h;cases hs:s.data.toList with
  |nil=>rw [hs] at h;simp at h
  |cons a l=>rfl
 .rintro rfl;simp at h
theorem byte_48 {x:UInt8} (h:x≠48):((x.toNat:Int) != 48)=true/\((x.toNat:Int) == 48)=false:=by
 have:(x.toNat:Int)≠48:=by
  intro he;exact h (UInt8.toNat_inj.1 (by show x.toNat=48;omega))
 exact⟨by simpa using this,by simpa using this⟩
theorem w64_bd (x:Int) : -9223372036854775808<=wrap64 x/\wrap64 x<=9223372036854775807:=by unfold wrap64;omega
theorem quo_small (t:Int) (h : -9223372036854775808<=t/\t<=9223372036854775807):wrap64 (t.tdiv 10)=t.tdiv 10:=by
 rcases Int.lt_or_le t 0 with h0|h0
 .have h1:t.tdiv 10 = -((-t).tdiv 10):=by rw [Int.neg_tdiv,Int.neg_neg]
  rw [h1,Int.tdiv_eq_ediv_of_nonneg (by omega)];unfold wrap64;omega
 .rw [Int.tdiv_eq_ediv_of_nonneg h0];unfold wrap64;omega
theorem num_over {l:List UInt8} {pos n d:Nat} {x:UInt8} {most q:Int} (hx:l[pos]? = some x) (hd:x.toNat=d+48) (hn:n=numV (l.take pos)) (hd9:d<=9) (hm2:most<=9223372036854775807)
  (hq:q=(wrap64 (most - (d:Int))).tdiv 10) (h:q<(n:Int)):¬ NumOk l most:=by
 rintro ⟨_,_,hle⟩;have h1:=numV_ge l (pos+1);rw [numV_take hx,<- hn] at h1;have h2:numF n x=n * 10+d:=by unfold numF;rw [hd];omega
 rw [h2] at h1;rcases Int.lt_or_le most 0 with hm|hm
 .omega
 .have:=num_break hm hm2 hd9 rfl hq h;omega
def okB (s:ByteArray):Bool:=decide (s.data.toList.length=1\/s.data.toList[0]?≠some 48)
theorem number_pos (s:ByteArray) (most:Int) (w:World) (hp:0<s.size) (hm1 : -9223372036854775808<=most) (hm2:most<=9223372036854775807) :
  Calls Tryz.prog 88 #[.string s,.int .i64 most] w fun e w'=>
   ((NumOk s.data.toList most/\e=.returned (.tuple #[.int .i64 (numV s.data.toList),.bool true]))\/(¬ NumOk s.data.toList most/\e=.returned (.tuple #[.int .i64 0,.bool false])))/\Below w.heap.size w w':=by
 obtain⟨hem,hne⟩:=not_empty hp;have hx0:s.data.toList[0]? = some s[0]:=by rw [List.getElem?_eq_getElem (by rw [<- Lib.size_eq];exact hp)];rfl
 have HX0:=hI9 hx0;clear hx0;go_enter Tryz.func88,Tryz.ntmps88;go_wp2;go_step3;go_upto_region 2 with (fail)
 go_cut [7] from 57 (fun v7 wx=>v7=.bool (okB s)/\w=wx)
 case first=>
  by_cases h:s.size=1
  .go_wp2;go_meet
   exact⟨by rw [show okB s=true from by unfold okB;rw [<- Lib.size_eq];simp [h]],rfl⟩
  .by_cases h48:s[0]=48
   .go_wp2;go_meet
    have h1:((s.size:Int) == 1)=false:=by simp;omega
    have h2:okB s=false:=by
     unfold okB;rw [HX0.out,<- Lib.size_eq];simp [h48,h]
    exact⟨by rw [h1,h2],rfl⟩
   .obtain⟨h481,h482⟩:=byte_48 h48;go_wp2;go_meet
    exact⟨by rw [show okB s=true from by unfold okB;rw [HX0.out];simp [h48]],rfl⟩
 case rest=>
  obtain⟨rfl,rfl⟩:=hcut;go_wp2;go_step3;go_upto_region 4 with (fail)
  cases hok:okB s with
  |false=>
   have hbad:¬ NumOk s.data.toList most:=fun h=>by have h2:=of_decide_eq_false hok;exact h2 h.1.2
   have HB:=hI9 hbad;clear hbad;go_loopg [6,7] s.size (fun g v6 v7 wx=>∃ (pos:Nat) (x:Int),v6=.int .i64 x/\v7=.bool false/\wx.heap[w.heap.size]? = some (.stringIter s pos)/\Below w.heap.size w wx/\s.size<=pos+g)
   case atStart=>exact⟨0,0,rfl,rfl,World.iter_heap w s 0,(bR9 _ w).alloc (nR9 _) _,by omega⟩
   case round=>
    obtain⟨pos,x,rfl,rfl,hit,hbw,hfu⟩:=hrel;by_cases hps:pos<s.size
    .obtain⟨g',rfl⟩:∃ g',gk=g' + 1:=⟨gk - 1,by omega⟩;have hnx:∀ ty,(Instr.next (.pointer (some ⟨w.heap.size,0,none⟩)) true ty).run Tryz.prog wr=_:=fun ty=>Lib.run_next_any_at wr w.heap.size s pos ty hit hps
     have hmax:=Lib.rune_le s pos;have hwd:=Lib.width_pos s pos;obtain⟨R,hR⟩:∃ R,(Utf8.decode s pos).1=R:=⟨_,rfl⟩;obtain⟨K,hK⟩:∃ K,(Utf8.decode s pos).2=K:=⟨_,rfl⟩;rw [hR,hK] at hnx;rw [hR] at hmax;rw [hK] at hwd;have hit2:=Lib.iterAt_heap wr w.heap.size s pos (pos+K) hit;have hbw2:=Lib.below_iterAt hbw (k:=w.heap.size) (nR9 _) s (pos+K);generalize wr.iterAt w.heap.size s (pos+K)=W at hnx hit2 hbw2;have hsub:IntKind.i32.wrap ((R:Int) - 48)=(R:Int) - 48:=by rw [IntKind.wrap_i32];omega
     clear hR hK hit hbw;rcases Nat.lt_or_ge R 48 with hR|hR
     .go_wp2;repeat rw [Exit.noGoto_ret]
      go_wp2;go_ret2;exact⟨.inr ⟨HB.out,rfl⟩,hbw2⟩
     .rcases Nat.lt_or_ge R 58 with hR2|hR2
      .obtain⟨d,rfl⟩:∃ d,R=d+48:=⟨R - 48,by omega⟩;have hsub2:IntKind.i32.wrap (((d+48:Nat):Int) - 48)=(d:Int):=by rw [IntKind.wrap_i32];omega
       clear hsub;by_cases hqn:wrap64 ((wrap64 (most - (d:Int))).tdiv 10)<x
       .go_wp2;repeat rw [Exit.noGoto_ret]
        go_wp2;go_ret2;exact⟨.inr ⟨HB.out,rfl⟩,hbw2⟩
       .go_wp2;go_roundg g'
        case measure=>omega
        case rel=>exact⟨pos+K,_,rfl,rfl,hit2,hbw2,by omega⟩
      .go_wp2;repeat rw [Exit.noGoto_ret]
       go_wp2;go_ret2;exact⟨.inr ⟨HB.out,rfl⟩,hbw2⟩
    .have hnx:∀ ty,(Instr.next (.pointer (some ⟨w.heap.size,0,none⟩)) true ty).run Tryz.prog wr=_:=fun ty=>Lib.run_next_end_at wr w.heap.size s pos ty hit hps
     go_wp2;repeat rw [Exit.noGoto_ret]
     go_wp2;go_ret2;exact⟨.inr ⟨HB.out,rfl⟩,hbw⟩
  |true=>
   go_loopg [6,7] s.size (fun g v6 v7 wx=>∃ pos n:Nat,v6=.int .i64 n/\v7=.bool true/\wx.heap[w.heap.size]? = some (.stringIter s pos)/\Below w.heap.size w wx/\s.size<=pos+g/\pos<=s.size/\n<=9223372036854775807 /\
    Hid (n=numV (s.data.toList.take pos))/\Hid (∀ (i:Nat) c,i<pos->s.data.toList[i]? = some c->isD c)/\Hid (most<0->n=0\/n % 10≠0))
   case atStart=>exact⟨0,0,rfl,rfl,World.iter_heap w s 0,(bR9 _ w).alloc (nR9 _) _,by omega,Nat.zero_le _,by omega,hI9 rfl,hI9 (fun i c h=>absurd h (by omega)),hI9 (fun _=>.inl rfl)⟩
   case round=>
    obtain⟨pos,n,rfl,rfl,hit,hbw,hfu,hpos,hn,hnv,hdig,hneg⟩:=hrel;by_cases hps:pos<s.size
    .obtain⟨g',rfl⟩:∃ g',gk=g' + 1:=⟨gk - 1,by omega⟩;have hnx:∀ ty,(Instr.next (.pointer (some ⟨w.heap.size,0,none⟩)) true ty).run Tryz.prog wr=_:=fun ty=>Lib.run_next_any_at wr w.heap.size s pos ty hit hps
     have hmax:=Lib.rune_le s pos;obtain⟨x,hx⟩:∃ x,s.data.toList[pos]? = some x:=⟨_,List.getElem?_eq_getElem (by rw [<- Lib.size_eq];exact hps)⟩;have hxD:s.data.toList.getD pos 0=x:=by rw [List.getD_eq_getElem?_getD,hx];rfl
     have HX:=hI9 hx;by_cases hd:48<=x.toNat/\x.toNat<=57
     .have hdec:=decode_low s pos (by rw [hxD];omega);rw [hxD] at hdec;rw [hdec] at hnx;obtain⟨d,hd48⟩:∃ d:Nat,x.toNat=d+48:=⟨x.toNat - 48,by omega⟩;have hd9:d<=9:=by omega
      have HD48:=hI9 hd48;rw [hd48] at hnx;have hit2:=Lib.iterAt_heap wr w.heap.size s pos (pos+1) hit;have hbw2:=Lib.below_iterAt hbw (k:=w.heap.size) (nR9 _) s (pos+1);simp only at hnx;generalize wr.iterAt w.heap.size s (pos+1)=W at hnx hit2 hbw2;have hsub:IntKind.i32.wrap (((d+48:Nat):Int) - 48)=(d:Int):=by rw [IntKind.wrap_i32];omega
      clear hx hxD hdec hmax hit hbw hd48 hd;obtain⟨q,hq⟩:∃ q,wrap64 ((wrap64 (most - (d:Int))).tdiv 10)=q:=⟨_,rfl⟩;have hq2:q=(wrap64 (most - (d:Int))).tdiv 10:=by rw [<- hq];exact quo_small _ (w64_bd _)
      have HQ2:=hI9 hq2;clear hq2;by_cases hqn:q<(n:Int)
      .go_wp2;repeat rw [Exit.noGoto_ret]
       go_wp2;go_ret2;exact⟨.inr ⟨num_over HX.out HD48.out hnv.out hd9 hm2 HQ2.out hqn,rfl⟩,hbw2⟩
      .obtain⟨m1,m2⟩:=num_on hm1 hm2 hd9 rfl HQ2.out hqn hneg.out;have M2:=hI9 m2;clear m2;go_wp2;go_roundg g'
       case measure=>omega
       case rel=>exact⟨pos+1,n * 10+d,by simp,rfl,hit2,hbw2,by omega,hps,m1,
        hI9 (by rw [numV_take HX.out,<- hnv.out];unfold numF;rw [HD48.out];omega),
        hI9 (fun i c hi hc=>by
         by_cases hip:i=pos
         .subst hip;rw [HX.out] at hc;cases hc;have:=HD48.out;unfold isD;omega
         .exact hdig.out i c (by omega) hc),M2⟩
     .have hbad:¬ NumOk s.data.toList most:=fun h=>hd (h.2.1 pos x HX.out)
      have HB:=hI9 hbad;have hrune:(Utf8.decode s pos).1<48\/57<(Utf8.decode s pos).1:=by
       by_cases h128:x.toNat<128
       .rw [decode_low s pos (by rw [hxD];exact h128),hxD];simp only;omega
       .have:=(decode_high s pos (by rw [hxD];omega)).1;omega
      obtain⟨R,hR⟩:∃ R,(Utf8.decode s pos).1=R:=⟨_,rfl⟩;obtain⟨K,hK⟩:∃ K,(Utf8.decode s pos).2=K:=⟨_,rfl⟩;rw [hR,hK] at hnx;rw [hR] at hmax hrune;have hit2:=Lib.iterAt_heap wr w.heap.size s pos (pos+K) hit;have hbw2:=Lib.below_iterAt hbw (k:=w.heap.size) (nR9 _) s (pos+K);generalize wr.iterAt w.heap.size s (pos+K)=W at hnx hit2 hbw2;have hsub:IntKind.i32.wrap ((R:Int) - 48)=(R:Int) - 48:=by rw [IntKind.wrap_i32];omega
      clear hx hxD hit hbw hd hbad hR hK;rcases hrune with hR|hR
      .go_wp2;repeat rw [Exit.noGoto_ret]
       go_wp2;go_ret2;exact⟨.inr ⟨HB.out,rfl⟩,hbw2⟩
      .go_wp2;repeat rw [Exit.noGoto_ret]
       go_wp2;go_ret2;exact⟨.inr ⟨HB.out,rfl⟩,hbw2⟩
    .obtain rfl:pos=s.size:=by omega
     have hnx:∀ ty,(Instr.next (.pointer (some ⟨w.heap.size,0,none⟩)) true ty).run Tryz.prog wr=_:=fun ty=>Lib.run_next_end_at wr w.heap.size s s.size ty hit hps
     have hall:n=numV s.data.toList:=by rw [hnv.out,Lib.size_eq,List.take_length]
     have HA:=hI9 hall;have HOK:Hid (NumOk s.data.toList most↔(numV s.data.toList:Int)<=most):=hI9 ⟨fun h=>h.2.2,fun h=>⟨⟨fun e=>by rw [Lib.size_eq,e] at hp;simp at hp,oD9 hok⟩,fun i c hc=>hdig.out i c (by rw [Lib.size_eq];exact (List.getElem?_eq_some_iff.1 hc).1) hc,h⟩⟩;clear hall;by_cases hmn:most<(n:Int)
     .go_wp2;repeat rw [Exit.noGoto_ret]
      go_wp2;go_ret2;exact⟨.inr ⟨fun h=>by have:=HOK.out.1 h;rw [<- HA.out] at this;omega,rfl⟩,hbw⟩
     .go_wp2;repeat rw [Exit.noGoto_ret]
      go_wp2;go_ret2;exact⟨.inl ⟨HOK.out.2 (by rw [<- HA.out];omega),by rw [<- HA.out];rfl⟩,hbw⟩
theorem number_none (most:Int) (w:World) :
  Calls Tryz.prog 88 #[.string ByteArray.empty,.int .i64 most] w fun e w'=>e=.returned (.tuple #[.int .i64 0,.bool false])/\Below w.heap.size w w':=by
 go_enter Tryz.func88,Tryz.ntmps88;go_wp2;go_step3;go_wp2;go_step3;go_upto_region 4 with (fail)
 go_loopg [6,7] 0 (fun _ v6 v7 wx=>v6=.int .i64 0/\v7=.bool false/\wx.heap[w.heap.size]? = some (.stringIter ByteArray.empty 0)/\Below w.heap.size w wx)
 case atStart=>exact⟨rfl,rfl,World.iter_heap w _ 0,(bR9 _ w).alloc (nR9 _) _⟩
 case round=>
  obtain⟨rfl,rfl,hit,hbw⟩:=hrel;have hnx:∀ ty,(Instr.next (.pointer (some ⟨w.heap.size,0,none⟩)) true ty).run Tryz.prog wr=_:=fun ty=>Lib.run_next_end_at wr w.heap.size ByteArray.empty 0 ty hit (by decide)
  go_wp2;repeat rw [Exit.noGoto_ret]
  go_wp2;go_ret2;exact⟨rfl,hbw⟩
theorem number_any (s:ByteArray) (most:Int) (w:World) (hm1 : -9223372036854775808<=most) (hm2:most<=9223372036854775807) :
  Calls Tryz.prog 88 #[.string s,.int .i64 most] w fun e w'=>
   ((NumOk s.data.toList most/\e=.returned (.tuple #[.int .i64 (numV s.data.toList),.bool true]))\/(¬ NumOk s.data.toList most/\e=.returned (.tuple #[.int .i64 0,.bool false])))/\Below w.heap.size w w':=by
 rcases Nat.eq_zero_or_pos s.size with h|h
 .have he:s.data.toList=[]:=List.eq_nil_of_length_eq_zero (by rw [<- Lib.size_eq];exact h);have hs':s=ByteArray.empty:=by
   apply ByteArray.ext;apply Array.toList_inj.1;rw [he];rfl
  rw [hs'];exact (number_none most w).mono fun e w' ⟨h1,h2⟩=>⟨.inr ⟨fun h=>h.1.1 rfl,h1⟩,h2⟩
 .exact number_pos s most w h hm1 hm2
structure Wd where
 p:Int
 q:Int
 t:ByteArray
def Wd.enc (x:Wd):Value:=.agg #[.int .i64 x.p,.int .i64 x.q,.string x.t]
def ws (c:UInt8):Bool:=[32,9].contains c
def nws (c:UInt8):Bool:=!ws c
theorem dropWhile_len (f:UInt8->Bool) (l:List UInt8):(l.dropWhile f).length<=l.length:=(List.dropWhile_suffix f).length_le
theorem takeWhile_len (f:UInt8->Bool) (l:List UInt8):(l.takeWhile f).length<=l.length:=(List.takeWhile_prefix f).length_le
def lw:Nat->Nat->Nat->List UInt8->List Wd
 |0,_,_,_=>[]
 |_+1,_,_,[]=>[]
 |k+1,p,q,c::l=>
  (if ((c::l).dropWhile ws).takeWhile nws=[] then [] else [⟨((p+((c::l).length - ((c::l).dropWhile ws).length):Nat):Int),(q:Int),⟨(((c::l).dropWhile ws).takeWhile nws).toArray⟩⟩]) ++
   lw k (p+((c::l).length - ((c::l).dropWhile ws).length)+(((c::l).dropWhile ws).takeWhile nws).length) q (((c::l).dropWhile ws).drop (((c::l).dropWhile ws).takeWhile nws).length)
theorem left_lt (c:UInt8) (l:List UInt8):(((c::l).dropWhile ws).drop (((c::l).dropWhile ws).takeWhile nws).length).length<(c::l).length:=by
 have h1:=dropWhile_len ws (c::l);by_cases hc:ws c
 .have:(c::l).dropWhile ws=l.dropWhile ws:=by simp [List.dropWhile,hc]
  rw [this,List.length_drop];have:=dropWhile_len ws l;simp;omega
 .have h2:(c::l).dropWhile ws=c::l:=by simp [List.dropWhile,hc]
  rw [h2,List.length_drop];have:0<((c::l).takeWhile nws).length:=by simp [List.takeWhile,nws,hc]
  simp at this ⊢;omega
theorem lw_fuel (q:Nat):∀ (k p:Nat) (l:List UInt8),l.length<=k->lw k p q l=lw l.length p q l:=by
 intro k
 induction k using Nat.strongRecOn with
 |ind k ih=>
  intro p l hl;cases l with
  |nil=>cases k<;>rfl
  |cons c l=>
   obtain⟨k',rfl⟩:∃ k',k=k' + 1:=⟨k - 1,by simp at hl;omega⟩;have hlt:=left_lt c l;have h1:=ih k' (by omega) (p+((c::l).length - ((c::l).dropWhile ws).length)+(((c::l).dropWhile ws).takeWhile nws).length)
    (((c::l).dropWhile ws).drop (((c::l).dropWhile ws).takeWhile nws).length) (Nat.le_trans (Nat.le_of_lt_succ hlt) (Nat.le_of_succ_le_succ hl))
   rw [show (c::l).length=l.length+1 from rfl];by_cases hk:k' = l.length
   .rw [hk]
   .have h2:=ih l.length (by simp at hl;omega) (p+((c::l).length - ((c::l).dropWhile ws).length)+(((c::l).dropWhile ws).takeWhile nws).length)
     (((c::l).dropWhile ws).drop (((c::l).dropWhile ws).takeWhile nws).length) (Nat.le_of_lt_succ hlt)
    unfold lw;rw [h1,h2]
def lwc (p q:Nat) (l:List UInt8):List Wd:=lw l.length p q l
theorem lwc_step (p q:Nat) (l:List UInt8) (h:l≠[]) :
  lwc p q l=(if (l.dropWhile ws).takeWhile nws=[] then [] else [⟨((p+(l.length - (l.dropWhile ws).length):Nat):Int),(q:Int),⟨((l.dropWhile ws).takeWhile nws).toArray⟩⟩]) ++
   lwc (p+(l.length - (l.dropWhile ws).length)+((l.dropWhile ws).takeWhile nws).length) q ((l.dropWhile ws).drop ((l.dropWhile ws).takeWhile nws).length):=by
 cases l with
 |nil=>exact absurd rfl h
 |cons c l=>
  unfold lwc;have hlt:=left_lt c l;have h:=lw_fuel q l.length (p+((c::l).length - ((c::l).dropWhile ws).length)+(((c::l).dropWhile ws).takeWhile nws).length) _ (Nat.le_of_lt_succ hlt);rw [<- h];rfl
def linesW:Nat->Nat->List ByteArray->List Wd
 |_,_,[]=>[]
 |f,q,x::xs=>lwc f q (Lib.cut x.data.toList [35]).1++linesW (f+x.size+1) (q+1) xs
theorem idx_word:∀ l:List UInt8,(Lib.indexAny l [32,9] = -1/\(l.takeWhile nws).length=l.length)\/Lib.indexAny l [32,9]=((l.takeWhile nws).length:Int):=by
 intro l
 induction l with
 |nil=>left;exact⟨rfl,rfl⟩
 |cons c l ih=>
  have hstep:Lib.indexAny (c::l) [32,9]=if ws c then 0 else if Lib.indexAny l [32,9] == -1 then -1 else Lib.indexAny l [32,9]+1:=rfl
  rw [hstep];by_cases hc:ws c=true
  .right;rw [if_pos hc];simp [List.takeWhile,nws,hc]
  .rw [if_neg hc];have ht:((c::l).takeWhile nws).length=(l.takeWhile nws).length+1:=by
    have:nws c=true:=by simp [nws,hc]
    rw [List.takeWhile_cons_of_pos this];rfl
   rw [ht];rcases ih with ⟨h1,h2⟩|h1
   .left;rw [h1];exact⟨rfl,by rw [h2];rfl⟩
   .right;rw [h1,if_neg (by simp)];simp
end Go.Proofs.YtgnaaokhfpfglaaGreatDoor
end
section
namespace Go.Proofs.YtgnaaokhfpfglaaGreatDoor
open Go.RowKit Go.Shelf Go.Lib
attribute [local go_sem] Oper.semAt_some
theorem ws_ascii:∀ (j:Nat) b,wsB.data.toList[j]? = some b->b.toNat<128:=by
 intro j b h;have hm:b ∈ wsB.data.toList:=List.mem_of_getElem? h;have:wsB.data.toList=[32,9]:=rfl;rw [this] at hm;simp at hm;rcases hm with rfl|rfl<;>decide
theorem trimLeft_any (s:ByteArray) (w:World) :
  Calls Tryz.prog 84 #[.string s,.string wsB] w fun e w'=>e=.returned (.string ⟨(s.data.toList.dropWhile ws).toArray⟩)/\Below w.heap.size w w':=
 Any.strings_TrimLeft_laid Tryz.lays161 (by kernel_rfl) s wsB w (by decide) ws_ascii
theorem indexAny_any (s:ByteArray) (w:World) (hs:s.size<4294967281) :
  Calls Tryz.prog 85 #[.string s,.string wsB] w fun e w'=>e=.returned (.int .i64 (Lib.indexAny s.data.toList [32,9]))/\Below w.heap.size w w':=by
 rcases Nat.lt_or_ge 8 s.size with h|h
 .exact (Tryz.strings_IndexAny_long (zero_of_info (P:=Tryz.prog) (v:=.agg (Array.replicate 256 (.bool false))) (n:=256) (by kernel_rfl)).1 s wsB w (by decide) h hs (by decide) ws_ascii).mono fun e w' ⟨he,hw⟩=>
   ⟨he,by rw [hw];exact ((bR9 _ w).alloc (nR9 _) _).alloc (by simp) _⟩
 .exact indexAny_short s w h
def KeepsT (t:TypeId) (W W':World):Prop:=∀ (k:Nat) (cs:Array Value) (fr:Nat × Nat),W.heap[k]? = some (.cells cs t fr)->W'.heap[k]? = some (.cells cs t fr)
def KeepsW (n₀:Nat) (W W':World):Prop:=Below n₀ W W'/\KeepsT 9 W W'
theorem keepsW_t {n₀:Nat} {A B C:World} (h:KeepsW n₀ A B) (k:KeepsW n₀ B C):KeepsW n₀ A C:=⟨h.1.trans k.1,fun i cs fr e=>k.2 i cs fr (h.2 i cs fr e)⟩
theorem keepsW_b {n₀:Nat} {w:World} (hn:n₀<=w.heap.size) (W:World) (l:Nat) (o o':Obj) (hl:w.heap.size<=l) (h:W.heap[l]? = some o) (hc:o.isCells=false) (hw:o.isWalk=false):KeepsW n₀ W (W.putObj l o'):=by
 refine⟨belowK_b hn W l o o' hl h hc hw,fun k cs fr e=>?_⟩;have hkl:k≠l:=by
  rintro rfl;rw [h] at e;cases e;cases hc
 exact (World.putObj_heap_other hkl).trans e
theorem grown_none {w w1:World} (h:Below w.heap.size w w1):w.grownBy w1 none:=⟨h.os,h.tape,h.output,h.size,fun i hi _=>h.block i hi⟩
theorem split_any (s:ByteArray) (m:Int) (w:World) (hs:s.size<4294967281) (hm:w.cell? ⟨0,0,none⟩=some (.int .i64 m)) :
  Calls Tryz.prog 82 #[.string s,.string ⟨#[10]⟩] w fun e w'=>
   e=.returned (.slice (some ⟨w.heap.size,0,none⟩) (Lib.splitB ⟨#[10]⟩ 0 (Lib.countB s ⟨#[10]⟩) s).length (Lib.splitB ⟨#[10]⟩ 0 (Lib.countB s ⟨#[10]⟩) s).length) /\
   w' = w.alloc (.cells ((Lib.splitB ⟨#[10]⟩ 0 (Lib.countB s ⟨#[10]⟩) s).map Value.string).toArray 9):=
 (Tryz.strings_Split s ⟨#[10]⟩ m w hs hm (by decide)).mono fun e w' ⟨he,hw⟩=>⟨by rw [he,Lib.splitB_all ⟨#[10]⟩ (by decide) 0 _ s rfl],hw⟩
theorem cut_any (s:ByteArray) (m:Int) (w:World) (hs:s.size<4294967281) (hm:w.cell? ⟨0,0,none⟩=some (.int .i64 m)) :
  Calls Tryz.prog 83 #[.string s,.string ⟨#[35]⟩] w fun e w'=>
   (∃ r b,e=.returned (.tuple #[.string ⟨(Lib.cut s.data.toList [35]).1.toArray⟩,.string r,.bool b]))/\Below w.heap.size w w':=
 (Tryz.strings_Cut s ⟨#[35]⟩ m w hs hm).mono fun e w' ⟨he,n,hw⟩=>⟨⟨_,_,he⟩,by rw [hw];exact qaP (bR9 _ _) _⟩
theorem cut_len (a b:List UInt8):(Lib.cut a b).1.length<=a.length:=by
 unfold Lib.cut;split
 .simp [List.length_take];omega
 .exact nR9 _
theorem skip_ok {n a p:Nat} (h:a<=n - p) (hn:n<=1000000):IntKind.i64.wrap ((((n - p:Nat)):Int) - (a:Int))=(((n - p - a:Nat)):Int):=by
 rw [IntKind.wrap_i64];omega
theorem drop_suffix {l r:List UInt8} (h:r <:+ l):l.drop (l.length - r.length)=r:=(List.suffix_iff_eq_drop.1 h).symm
theorem word_text (sd:ByteArray) (P1:Nat) (R1:List UInt8) (h:sd.data.toList.drop P1=R1):(⟨(R1.takeWhile nws).toArray⟩:ByteArray)=sd.extract P1 (P1+(R1.takeWhile nws).length):=by
 have h2:R1.take (R1.takeWhile nws).length=R1.takeWhile nws:=(List.prefix_iff_eq_take.1 (List.takeWhile_prefix nws)).symm;apply ByteArray.ext;apply Array.toList_inj.1;rw [ByteArray.data_extract,Array.toList_extract,List.extract_eq_take_drop,h];rw [Nat.add_sub_cancel_left,h2]
theorem word_step (f p q:Nat) (sd:ByteArray) (R1:List UInt8) (hp:p<sd.size) (hR:(sd.data.toList.drop p).dropWhile ws=R1) :
  sd.data.toList.drop (p+(sd.size - p - R1.length))=R1 /\
  lwc (f+p) q (sd.data.toList.drop p)=(if (R1.takeWhile nws).length=0 then [] else [⟨(f:Int)+((p+(sd.size - p - R1.length):Nat):Int),(q:Int),sd.extract (p+(sd.size - p - R1.length)) (p+(sd.size - p - R1.length)+(R1.takeWhile nws).length)⟩]) ++
   lwc (f+(p+(sd.size - p - R1.length)+(R1.takeWhile nws).length)) q (sd.data.toList.drop (p+(sd.size - p - R1.length)+(R1.takeWhile nws).length)) /\
  R1.length - (R1.takeWhile nws).length<sd.size - p:=by
 have hlen:(sd.data.toList.drop p).length=sd.size - p:=by rw [List.length_drop,<- Lib.size_eq]
 have hsuf:R1 <:+ sd.data.toList.drop p:=by rw [<- hR];exact List.dropWhile_suffix ws
 have hd:=drop_suffix hsuf;rw [hlen,List.drop_drop] at hd;have hne:sd.data.toList.drop p≠[]:=by
  intro e;rw [e] at hlen;simp at hlen;omega
 refine⟨hd,?_,?_⟩
 .rw [lwc_step _ _ _ hne,hR,hlen];rw [word_text sd _ R1 hd];have hdd:sd.data.toList.drop (p+(sd.size - p - R1.length)+(R1.takeWhile nws).length)=R1.drop (R1.takeWhile nws).length:=by
   rw [<- List.drop_drop,hd]
  rw [hdd];have e1:f+p+(sd.size - p - R1.length)=f+(p+(sd.size - p - R1.length)):=by omega
  have e2:f+p+(sd.size - p - R1.length)+(R1.takeWhile nws).length=f+(p+(sd.size - p - R1.length)+(R1.takeWhile nws).length):=by omega
  rw [e2,e1]
  congr 1
  simp only [List.length_eq_zero_iff];rw [Int.natCast_add f]
 .obtain⟨c,l,hcl⟩:∃ c l,sd.data.toList.drop p=c::l:=by
   cases h:sd.data.toList.drop p with
   |nil=>exact absurd h hne
   |cons c l=>exact⟨c,l,rfl⟩
  have h:=left_lt c l;rw [<- hcl,hR,hlen,List.length_drop] at h;exact h
theorem words1_in (l Bs n₀:Nat) (s:ByteArray) (hs:s.size<=65536) (m:Int) (L:List ByteArray) (hL:Lib.splitB ⟨#[10]⟩ 0 (Lib.countB s ⟨#[10]⟩) s=L) (hsum:(L.map fun x=>x.size+1).sum<=1000000) (hLl:L.length<=1000000)
  (J Jx:List Wd->World->Prop) (hmn:0<n₀) (all:List Wd) (hall:linesW 0 1 L=all)
  (hY:∀ pre x W,J pre W->pre++[x] <+: all->YieldAt Fence.wide 0 Tryz.prog l #[x.enc] W fun e W'=>
   (e=.returned (.bool true)/\J (pre++[x]) W'/\KeepsW n₀ W W')\/(e=.returned (.bool false)/\Jx (pre++[x]) W'))
  (W:World) (hJ:AbidesFrom W.heap.size J) (hBs:W.cell? ⟨Bs,0,none⟩=some (.string s)) (hn:n₀<=W.heap.size)
  (hm:W.cell? ⟨0,0,none⟩=some (.int .i64 m)) (h0:J [] W) :
  CallsIn Fence.wide 1 Tryz.prog 81 #[.func (.yield l) #[] #[],.pointer (some ⟨Bs,0,none⟩)] W fun e W'=>(∃ v,e=.returned v) /\
   ((∃ ys,ys=all/\J ys W')\/(∃ pre,pre <+: all/\Jx pre W')):=by
 have hsplit:=split_any s m W (by omega) hm;rw [hL] at hsplit;have hY':=hI9 hY;have hJ':=hI9 hJ;clear hY hJ;refine callsIn_of_wp Tryz.func81 rfl trivial ?_ rfl;simp only [Tryz.ntmps81,List.size_toArray,List.length_cons,List.length_nil,Nat.reduceAdd,Nat.reduceSub,Array.replicate_succ,Array.replicate_zero,List.push_toArray,List.append_toArray,List.nil_append,List.cons_append]
 gi_wp2_with (refine⟨trivial,?_⟩;gi_at_call 82;refine (callsIn_wide.2 hsplit).mono ?_;rintro e w' ⟨rfl,rfl⟩)
 obtain⟨B,hB⟩:∃ B,W.heap.size=B:=⟨_,rfl⟩;have hnew:=heap_alloc_new W (.cells (L.map Value.string).toArray 9);have hJ0:=hJ'.out [] W (W.alloc (.cells (L.map Value.string).toArray 9)) none h0 (grown_none ((bR9 _ W).alloc (nR9 _) _)) (fun r e=>by cases e);have hall':=hI9 hall;have hsum':=hI9 hsum;have hW0:=(bR9 n₀ W).alloc hn (.cells (L.map Value.string).toArray 9);have hBsz:B<(W.alloc (.cells (L.map Value.string).toArray 9)).heap.size:=by simp;omega
 rw [hB] at hnew;generalize (W.alloc (.cells (L.map Value.string).toArray 9))=W1 at hnew hJ0 hW0 hBsz;clear hall hsum hL hsplit;rw [hB]
 gi_loopw [3,15] (fun v3 v15 wr=>∃ (i f:Nat) (pre:List Wd),v3=.int .i64 f/\v15=.int .i64 i/\i<=L.length/\J pre wr/\Hid (all=pre++linesW f (i+1) (L.drop i)) /\
   Hid (f+((L.drop i).map fun x=>x.size+1).sum<=1000000)/\wr.heap[B]? = some (.cells (L.map Value.string).toArray 9 (0,0))/\Below n₀ W wr)
  (fun _ v15 _=>L.length - (RowKit.intOf v15).toNat)
 case atStart=>exact⟨0,0,[],rfl,rfl,Nat.zero_le _,hJ0,hI9 (by rw [<- hall'.out];rfl),hI9 (by simpa using hsum'.out),hnew,hW0⟩
 case round=>
  obtain⟨i,f,pre,rfl,rfl,hi,hJs,hal,hsm,hblk,hbw⟩:=hrel;by_cases hil:i<L.length
  .obtain⟨x,hx⟩:∃ x,L[i]? = some x:=⟨L[i],by simp [hil]⟩;have hcell:wr.cell? ⟨B,i,none⟩=some (.string x):=by
    simp [World.cell?,hblk,hx]
   have hdrop:L.drop i=x::L.drop (i+1):=by
    rw [List.drop_eq_getElem_cons hil];rw [List.getElem?_eq_getElem hil] at hx;cases hx;rfl
   have hsx:f+(x.size+1+((L.drop (i+1)).map fun x=>x.size+1).sum)<=1000000:=by
    have:=hsm.out;rw [hdrop] at this
    simpa using this
   have hmr:wr.cell? ⟨0,0,none⟩=some (.int .i64 m):=(hbw.cell (p:=⟨0,0,none⟩) hmn).trans hm;have hcut:=hI9 (cut_any x m wr (by omega) hmr);clear hmr hx
   gi_wp2_with (refine⟨trivial,?_⟩;gi_at_call 83;refine (callsIn_wide.2 hcut.out).mono ?_;rintro e wc ⟨⟨r,bb,rfl⟩,hbc⟩)
   have hJc:=hJ'.out pre wr wc none hJs (grown_none hbc) (fun r e=>by cases e);have hblk':wc.heap[B]? = some (.cells (L.map Value.string).toArray 9 (0,0)):=(hbc.block B (lt_of_block hblk)).trans hblk;have hbw':=hbw.trans (hbc.mono (Nat.le_trans hn hbw.size));have hcl:=cut_len x.data.toList [35];have hal':Hid (all=pre++(lwc f (i+1) (Lib.cut x.data.toList [35]).1++linesW (f+x.size+1) (i+1+1) (L.drop (i+1)))):=hI9 (by rw [hal.out,hdrop];rfl);clear hcell hdrop hcut hJs hblk hbw hal hsm;obtain⟨S,hS⟩:∃ S,(Lib.cut x.data.toList [35]).1=S:=⟨_,rfl⟩;rw [hS] at hal' hcl ⊢;clear hS;obtain⟨sd,hsd⟩:∃ sd:ByteArray,sd=⟨S.toArray⟩:=⟨_,rfl⟩;have hSd:S=sd.data.toList:=by rw [hsd]
   rw [<- hsd];rw [hSd] at hal' hcl;clear hsd hSd S
   gi_loopw [9] (fun v9 wi=>∃ (p:Nat) (pre:List Wd),v9=.int .i64 p/\p<=sd.size/\J pre wi /\
     Hid (all=pre++(lwc (f+p) (i+1) (sd.data.toList.drop p)++linesW (f+x.size+1) (i+1+1) (L.drop (i+1)))) /\
     wi.heap[B]? = some (.cells (L.map Value.string).toArray 9 (0,0))/\Below n₀ W wi)
    (fun v9 _=>sd.size - (RowKit.intOf v9).toNat)
   case atStart=>exact⟨0,pre,rfl,Nat.zero_le _,hJc,hal',hblk',hbw'⟩
   case round=>
    clear hJc hblk' hbw' hal' hbc;obtain⟨p,pre',rfl,hp,hJi,hali,hblki,hbwi⟩:=hrel
    rename World=>wi
    by_cases hps:p<sd.size
    .obtain⟨R1,hR1⟩:∃ R1,(sd.data.toList.drop p).dropWhile ws=R1:=⟨_,rfl⟩;have hR1l:R1.length<=sd.size - p:=by
      have h:=dropWhile_len ws (sd.data.toList.drop p);rw [hR1,List.length_drop,<- Lib.size_eq] at h;exact h
     have htl:Hid (∀ w,Calls Tryz.prog 84 #[.string (sd.extract p sd.size),.string ⟨#[32,9]⟩] w fun e w'=>e=.returned (.string ⟨R1.toArray⟩)/\Below w.heap.size w w'):=
      hI9 (fun w=>(trimLeft_any (sd.extract p sd.size) w).mono fun e w' ⟨he,hb⟩=>⟨by rw [he,extract_to_end,hR1],hb⟩)
     obtain⟨tr,htr⟩:∃ tr:ByteArray,tr=⟨R1.toArray⟩:=⟨_,rfl⟩;have htrs:tr.size=R1.length:=by rw [htr];rfl
     rw [<- htr] at htl;have HR1:=hI9 hR1;clear hR1 htr;have hsd6:sd.size<=1000000:=by rw [<- Lib.size_eq,<- Lib.size_eq] at hcl;omega
     gi_upto_region 7 with (fail)
     gi_cut [10] from 81 (fun v10 wx=>v10=.int .i64 ((sd.size - p - R1.length:Nat):Int)/\Below wi.heap.size wi wx)
     case first=>
      gi_region_with (refine⟨trivial,?_⟩;gi_at_call 84;refine (callsIn_wide.2 (htl.out _)).mono ?_;rintro e wt ⟨rfl,hbt⟩)
      all_goals gi_wp2
      all_goals gi_meet
      all_goals exact⟨by rw [skip_ok hR1l hsd6],(qaP (bR9 _ wi) 1).trans hbt⟩
     case rest=>
      obtain⟨rfl,hbx⟩:=hcut
      rename World=>wx
      have hJx:=hJ'.out pre' wi wx none hJi (grown_none hbx) (fun r e=>by cases e);have hblkx:=(hbx.block B (lt_of_block hblki)).trans hblki;have hbwx:=hbwi.trans (hbx.mono (Nat.le_trans hn hbwi.size));obtain⟨N,hN⟩:∃ N,(R1.takeWhile nws).length=N:=⟨_,rfl⟩;have hword:=word_step f p (i+1) sd R1 hps HR1.out;rw [hN] at hword;have hNR:N<=R1.length:=by rw [<- hN];exact takeWhile_len nws R1
      obtain⟨P1,hP1⟩:∃ P1,p+(sd.size - p - R1.length)=P1:=⟨_,rfl⟩;rw [hP1] at hword;have hP1s:P1+R1.length=sd.size:=by omega
      obtain⟨K,hK⟩:∃ K,sd.size - p - R1.length=K:=⟨_,rfl⟩;rw [hK] at hP1 ⊢;have hPK:(p:Int)+(K:Int)=(P1:Int):=by omega
      have hidx:Hid (∀ w,Calls Tryz.prog 85 #[.string (sd.extract P1 sd.size),.string ⟨#[32,9]⟩] w fun e w'=>(∃ k:Int,e=.returned (.int .i64 k)/\(k = -1/\N=R1.length\/k=(N:Int)))/\Below w.heap.size w w'):=
       hI9 (fun w=>(indexAny_any (sd.extract P1 sd.size) w (by simp;omega)).mono fun e w' ⟨he,hb⟩=>⟨⟨_,he,by
        rw [extract_to_end,hword.1];rcases idx_word R1 with ⟨h1,h2⟩|h1
        .left;exact⟨h1,by rw [<- hN,h2]⟩
        .right;rw [h1,hN]⟩,hb⟩)
      have hWD:=hI9 hword;clear hword htl hbx hJi hblki hbwi htrs
      gi_upto_if 48 with (refine⟨trivial,?_⟩;gi_at_call 85;refine (callsIn_wide.2 (hidx.out _)).mono ?_;rintro e wt ⟨⟨k,rfl,hk⟩,hbt⟩)
      gi_cut [11] from 81 (fun v11 wy=>v11=.int .i64 (N:Int)/\wt=wy)
      case first=>
       rcases hk with ⟨rfl,hk⟩|rfl
       .gi_wp2
        gi_meet
        have e:(sd.size:Int) - (P1:Int)=(N:Int):=by omega
        exact⟨by rw [e],rfl⟩
       .gi_wp2
        gi_meet
        exact⟨rfl,rfl⟩
      case rest=>
       obtain⟨rfl,rfl⟩:=hcut;have hJt:=hJ'.out pre' wx wt none hJx (grown_none hbt) (fun r e=>by cases e);have hblkt:=(hbt.block B (lt_of_block hblkx)).trans hblkx;have hbwt:=hbwx.trans (hbt.mono (Nat.le_trans hn hbwx.size));clear hbt hJx hblkx hbwx hk hidx;have hWD2:=hWD.out.2;by_cases hN0:N=0
       .rw [if_pos hN0,List.nil_append] at hWD2;have hal3:Hid (all=pre'++(lwc (f+(P1+N)) (i+1) (sd.data.toList.drop (P1+N))++linesW (f+x.size+1) (i+1+1) (L.drop (i+1)))):=hI9 (by rw [hali.out,hWD2.1]);have hlt:=hWD2.2;clear hWD2;subst hN0
        gi_wp2
        refine⟨fun _ h=>(by cases h),?_⟩
        gi_wp2
        go_roundw
        case rel=>exact⟨P1,pre',rfl,by omega,hJt,hal3,hblkt,hbwt⟩
        case measure=>simp [RowKit.intOf];omega
       .rw [if_neg hN0] at hWD2;have hal3:Hid (all=(pre'++[⟨(f:Int)+(P1:Int),((i+1:Nat):Int),sd.extract P1 (P1+N)⟩])++(lwc (f+(P1+N)) (i+1) (sd.data.toList.drop (P1+N))++linesW (f+x.size+1) (i+1+1) (L.drop (i+1)))):=
         hI9 (by rw [hali.out,hWD2.1];simp [List.append_assoc])
        have hlt:=hWD2.2;clear hWD2;have hP2:P1+N<=sd.size:=by omega
        obtain⟨fn,tmps,assign,body,hy,hR⟩:=hY'.out pre' ⟨(f:Int)+(P1:Int),((i+1:Nat):Int),sd.extract P1 (P1+N)⟩ wt hJt (by rw [hal3.out];simp);dsimp only [Wd.enc] at hy;have hq:((i+1:Nat):Int)=(i:Int)+1:=by omega
        rw [hq] at hy;have hxx:sd.size<=x.size:=by rw [<- Lib.size_eq,<- Lib.size_eq] at hcl;exact hcl
        gi_wp2
        refine hR.mono ?_;rintro e W3 (⟨rfl,hJ3,hk3⟩|⟨rfl,hJx3⟩)
        .gi_wp2
         go_roundw
         case rel=>exact⟨P1+N,_,by simp,hP2,hJ3,hal3,hk3.2 _ _ _ hblkt,hbwt.trans hk3.1⟩
         case measure=>simp [RowKit.intOf];omega
        .gi_wp2
         refine bodyPost_ret (results_none rfl _ _ _) rfl ?_;exact⟨⟨_,rfl⟩,.inr ⟨_,⟨_,hal3.out.symm⟩,hJx3⟩⟩
    .have hps':p=sd.size:=by omega
     subst hps';have hal4:Hid (all=pre'++linesW (f+x.size+1) (i+1+1) (L.drop (i+1))):=hI9 (by
      have h:=hali.out;rw [List.drop_eq_nil_of_le (by rw [<- Lib.size_eq];exact nR9 _)] at h
      exact h)
     gi_wp2
     go_roundw
     case rel=>exact⟨i+1,f+x.size+1,pre',by congr 1,by congr 1,hil,hJi,hal4,hI9 (by omega),hblki,hbwi⟩
     case measure=>simp [RowKit.intOf];omega
  .have hil':i=L.length:=by omega
   subst hil';have hal5:all=pre:=by
    have h:=hal.out;rw [List.drop_length] at h
    simpa [linesW] using h
   clear hal hsm
   gi_wp2
   go_end0
   exact⟨⟨_,rfl⟩,.inl ⟨_,rfl,by rw [hal5];exact hJs⟩⟩
end Go.Proofs.YtgnaaokhfpfglaaGreatDoor
end
section
namespace Go.Proofs.YtgnaaokhfpfglaaGreatDoor
open Go.RowKit Go.Shelf Go.Lib
attribute [local go_sem] Oper.semAt_some
def Wd.cells (x:Wd):List Value:=[.int .i64 x.p,.int .i64 x.q,.string x.t]
def textW (s:ByteArray):List Wd:=linesW 0 1 (Lib.splitB ⟨#[10]⟩ 0 (Lib.countB s ⟨#[10]⟩) s)
theorem keepsT_alloc {q:TypeId} (W:World) (o:Obj):KeepsT q W (W.alloc o):=fun k _ _ h=>(Below.heap_alloc W o k (lt_of_block h)).trans h
theorem words_in (n:Nat) (s:ByteArray) (w:World) :
  CallsIn Fence.wide n Tryz.prog 53 #[.string s] w fun e w'=>e=.returned (.func (.func 81) #[] #[.pointer (some ⟨w.heap.size,0,none⟩)])/\w' = w.alloc (.cells #[.string s] 9):=by
 refine callsIn_of_wp Tryz.func53 rfl trivial ?_ rfl;simp only [Tryz.ntmps53,List.size_toArray,List.length_cons,List.length_nil,Nat.reduceAdd,Nat.reduceSub,Array.replicate_succ,Array.replicate_zero,List.push_toArray,List.append_toArray,List.nil_append,List.cons_append]
 gi_wp2
 go_ret;exact⟨rfl,rfl⟩
theorem infoW:(Tryz.prog.info? 78).map (fun i=>(i.zero,i.size,i.bytes))=some (some (.agg #[.int .i64 0,.int .i64 0,.string ⟨#[]⟩]),3,32):=by kernel_rfl
theorem three_new (W:World) (a b c:Value) (t:TypeId):∀ (j:Nat) (u:Value),[a,b,c][j]? = some u->(W.alloc (.cells #[a,b,c] t)).cell? (Addr.add ⟨W.heap.size,0,none⟩ j)=some u:=by
 intro j u h;have hb:=heap_alloc_new W (.cells #[a,b,c] t);generalize W.alloc (.cells #[a,b,c] t)=W1 at hb ⊢;rcases j with _|_|_|j
 .simpa [World.cell?,Addr.add,hb] using h
 .simpa [World.cell?,Addr.add,hb] using h
 .simpa [World.cell?,Addr.add,hb] using h
 .simp at h
theorem ownsRow_base {w:World} {b c:Nat} {e:TypeId} {size:Nat} {v:Value} {n:Nat} {xs:List Value} (h:w.ownsRow b e size v n xs) (hc:c<=b):w.ownsRow c e size v n xs:=by
 obtain⟨h1,h2⟩:=h;refine⟨h1,?_⟩;rcases h2 with h2|⟨g,cap,cur,hv,hg,r⟩
 .exact .inl h2
 .exact .inr ⟨g,cap,cur,hv,Nat.le_trans hc hg,r⟩
theorem qaM {w:World} {p:Addr} {v:Value} (h:w.cell? p=some v):p.block<w.heap.size:=by
 obtain⟨o,ho,_⟩:=not_walk_of_cell h;exact (Array.getElem?_eq_some_iff.1 ho).1
theorem splitB_sum:∀ (k:Nat) (s:ByteArray),((Lib.splitB ⟨#[10]⟩ 0 k s).map fun x=>x.size+1).sum<=s.size+1:=by
 intro k
 induction k with
 |zero=>intro s;simp [Lib.splitB_zero]
 |succ k ih=>
  intro s;rcases indexB_cases s ⟨#[10]⟩ with hix|⟨i,hix,hroom⟩
  .rw [Lib.splitB_miss _ _ _ _ hix];simp
  .rw [Lib.splitB_hit _ _ _ _ i hix];have h1:(ByteArray.mk #[10]).size=1:=rfl;rw [h1] at hroom ⊢;have h2:=ih (s.extract (i+1) s.size);simp at h2 ⊢;omega
theorem sum_len (L:List ByteArray):L.length<=(L.map fun x=>x.size+1).sum:=by
 induction L with
 |nil=>simp
 |cons x L ih=>simp at ih ⊢;omega
theorem lw_len (q:Nat):∀ (k p:Nat) (l:List UInt8),(lw k p q l).length<=k:=by
 intro k
 induction k with
 |zero=>intro p l;exact nR9 0
 |succ k ih=>
  intro p l;cases l with
  |nil=>exact Nat.zero_le _
  |cons c l=>
   unfold lw;rw [List.length_append];have:=ih (p+((c::l).length - ((c::l).dropWhile ws).length)+(((c::l).dropWhile ws).takeWhile nws).length) (((c::l).dropWhile ws).drop (((c::l).dropWhile ws).takeWhile nws).length);split
   .rw [List.length_nil];omega
   .rw [List.length_singleton];omega
theorem linesW_len:∀ (L:List ByteArray) (f q:Nat),(linesW f q L).length<=(L.map fun x=>x.size+1).sum:=by
 intro L
 induction L with
 |nil=>intro f q;exact nR9 0
 |cons x L ih=>
  intro f q;unfold linesW;rw [List.length_append];have h1:=lw_len q (Lib.cut x.data.toList [35]).1.length f (Lib.cut x.data.toList [35]).1;have h2:=cut_len x.data.toList [35];rw [<- Lib.size_eq] at h2;have h3:=ih (f+x.size+1) (q+1);unfold lwc;simp at h3 ⊢;omega
theorem textW_len (s:ByteArray):(textW s).length<=s.size+1:=Nat.le_trans (linesW_len _ _ _) (splitB_sum _ s)
end Go.Proofs.YtgnaaokhfpfglaaGreatDoor
end
section
namespace Go.Proofs.YtgnaaokhfpfglaaGreatDoor
open Go.RowKit Go.Shelf Go.Lib
def WRow (w:World) (B:Nat) (A:Option Addr) (L:List Wd):Prop:=
 0<L.length->∃ b off,A=some ⟨b,off,none⟩/\b<B/\∀ i (h:i<L.length),
  w.cell? ⟨b,off+i * 3,none⟩=some (.int .i64 L[i].p)/\w.cell? ⟨b,off+i * 3+1,none⟩=some (.int .i64 L[i].q)/\w.cell? ⟨b,off+i * 3+2,none⟩=some (.string L[i].t)
theorem WRow.below {w w':World} {B C:Nat} {A:Option Addr} {L:List Wd} (h:WRow w B A L) (hb:Below C w w') (hBC:B<=C):WRow w' B A L:=by
 intro hl;obtain⟨b,off,e,hlt,hc⟩:=h hl;refine⟨b,off,e,hlt,fun i hi=>?_⟩;obtain⟨h0,h1,h2⟩:=hc i hi;exact⟨(hb.cell (p:=⟨b,_,none⟩) (by show b<C;omega)).trans h0,(hb.cell (p:=⟨b,_,none⟩) (by show b<C;omega)).trans h1,(hb.cell (p:=⟨b,_,none⟩) (by show b<C;omega)).trans h2⟩
theorem WRow.more {w:World} {B C:Nat} {A:Option Addr} {L:List Wd} (h:WRow w B A L) (hBC:B<=C):WRow w C A L:=by
 intro hl;obtain⟨b,off,e,hlt,hc⟩:=h hl;exact⟨b,off,e,by omega,hc⟩
theorem wcells_at (L:List Wd):∀ i (h:i<L.length),(L.flatMap Wd.cells)[i * 3]? = some (.int .i64 L[i].p)/\(L.flatMap Wd.cells)[i * 3+1]? = some (.int .i64 L[i].q)/\(L.flatMap Wd.cells)[i * 3+2]? = some (.string L[i].t):=by
 induction L with
 |nil=>intro i h;simp at h
 |cons x r ih=>
  intro i h;cases i with
  |zero=>simp [Wd.cells]
  |succ j=>
   obtain⟨a,b,c⟩:=ih j (by simpa using h);have e:∀ m,(Wd.cells x++List.flatMap Wd.cells r)[m+3]? = (List.flatMap Wd.cells r)[m]?:=fun m=>by simp [Wd.cells]
   simp only [List.flatMap_cons,List.getElem_cons_succ];refine⟨?_,?_,?_⟩
   .rw [show (j+1) * 3=j * 3+3 by omega,e];exact a
   .rw [show (j+1) * 3+1=(j * 3+1)+3 by omega,e];exact b
   .rw [show (j+1) * 3+2=(j * 3+2)+3 by omega,e];exact c
theorem wrow_own {w:World} {base:Nat} {e:TypeId} {v:Value} {L:List Wd} (h:w.ownsRow base e 3 v L.length (L.flatMap Wd.cells)) :
  ∃ A cap,v=.slice A L.length cap/\L.length<=cap/\(A=none->cap=0)/\WRow w w.heap.size A L:=by
 rcases h.2 with ⟨rfl,h0⟩|⟨g,cap,cur,rfl,_,hg,hnc,_⟩
 .exact⟨_,_,by rw [h0],by omega,fun _=>rfl,fun h=>by omega⟩
 .refine⟨_,cap,rfl,hnc,(fun h=>by cases h),fun _=>⟨g,0,rfl,lt_of_block hg,fun i hi=>?_⟩⟩;obtain⟨a,b,c⟩:=wcells_at L i hi;have hc:=h.cells (g:=g) rfl;have ha:∀ j,(⟨g,0,none⟩:Addr).add j=⟨g,0+j,none⟩:=fun j=>by unfold Addr.add;split<;>simp_all
  exact⟨by have:=hc _ _ a;rwa [ha] at this,by have:=hc _ _ b;rwa [ha] at this,by have:=hc _ _ c;rwa [ha] at this⟩
def emit (q:Nat):Option (Nat × List UInt8)->List Wd
 |none=>[]
 |some (p,t)=>[⟨p,q,⟨t.toArray⟩⟩]
def grow (i:Nat) (c:UInt8):Option (Nat × List UInt8)->Option (Nat × List UInt8)
 |none=>some (i,[c])
 |some (p,t)=>some (p,t++[c])
def scan (q:Nat) (off:Bool) (cur:Option (Nat × List UInt8)) (i:Nat):List UInt8->List Wd
 |[]=>emit q cur
 |c::l=>
  if c=10 then emit q cur++scan (q+1) false none (i+1) l
  else if (off || c == 35)=true then emit q cur++scan q true none (i+1) l
  else if ws c=true then emit q cur++scan q off none (i+1) l
  else scan q off (grow i c cur) (i+1) l
def scanL (q:Nat) (cur:Option (Nat × List UInt8)) (i:Nat):List UInt8->List Wd
 |[]=>emit q cur
 |c::l=>if ws c=true then emit q cur++scanL q none (i+1) l else scanL q (grow i c cur) (i+1) l
theorem scanL_blank (q:Nat):∀ (l:List UInt8) (i:Nat),scanL q none i l=scanL q none (i+(l.length - (l.dropWhile ws).length)) (l.dropWhile ws):=by
 intro l
 induction l with
 |nil=>intro i;rfl
 |cons c l ih=>
  intro i;by_cases hc:ws c=true
  .have h1:(c::l).dropWhile ws=l.dropWhile ws:=List.dropWhile_cons_of_pos hc;have h2:=dropWhile_len ws l;rw [h1];have h3:i+((c::l).length - (l.dropWhile ws).length)=(i+1)+(l.length - (l.dropWhile ws).length):=by simp;omega
   rw [h3,<- ih (i+1)];simp [scanL,hc,emit]
  .have h1:(c::l).dropWhile ws=c::l:=List.dropWhile_cons_of_neg hc;rw [h1];simp
theorem scanL_word (q:Nat):∀ (l:List UInt8) (p i:Nat) (t:List UInt8),scanL q (some (p,t)) i l=⟨p,q,⟨(t++l.takeWhile nws).toArray⟩⟩::scanL q none (i+(l.takeWhile nws).length) (l.drop (l.takeWhile nws).length):=by
 intro l
 induction l with
 |nil=>intro p i t;simp [scanL,emit]
 |cons c l ih=>
  intro p i t;by_cases hc:ws c=true
  .have h1:(c::l).takeWhile nws=[]:=by simp [nws,hc]
   rw [h1];simp [scanL,hc,emit]
  .have h1:(c::l).takeWhile nws=c::l.takeWhile nws:=by
    have:nws c=true:=by simp [nws,hc]
    rw [List.takeWhile_cons_of_pos this]
   rw [h1];have h2:=ih p (i+1) (t++[c]);have h3:i+1+(l.takeWhile nws).length=i+(c::l.takeWhile nws).length:=by simp;omega
   rw [h3] at h2;simp only [scanL,hc,grow]
   simpa [List.append_assoc] using h2
theorem scanL_new (q:Nat) (c:UInt8) (l:List UInt8) (i:Nat) (hc:ws c=false) :
  scanL q none i (c::l)=⟨i,q,⟨((c::l).takeWhile nws).toArray⟩⟩::scanL q none (i+((c::l).takeWhile nws).length) ((c::l).drop ((c::l).takeWhile nws).length):=by
 have h1:(c::l).takeWhile nws=c::l.takeWhile nws:=by
  have:nws c=true:=by simp [nws,hc]
  rw [List.takeWhile_cons_of_pos this]
 have h2:=scanL_word q l i (i+1) [c];rw [h1];have h3:i+1+(l.takeWhile nws).length=i+(c::l.takeWhile nws).length:=by simp;omega
 rw [h3] at h2;simp only [scanL,hc,grow]
 simpa using h2
theorem lwc_scan (q:Nat):∀ (k p:Nat) (l:List UInt8),l.length<=k->lwc p q l=scanL q none p l:=by
 intro k
 induction k with
 |zero=>
  intro p l h;obtain rfl:l=[]:=List.eq_nil_of_length_eq_zero (by omega);rfl
 |succ k ih=>
  intro p l h;cases l with
  |nil=>rfl
  |cons c l=>
   rw [lwc_step p q (c::l) (by simp),scanL_blank];have hlt:=left_lt c l;rw [ih _ _ (by simp at h hlt ⊢;omega)];cases hd:(c::l).dropWhile ws with
   |nil=>simp
   |cons d r=>
    have hd':ws d=false:=by
     have h5:=List.head_dropWhile_not (p:=ws) (l:=c::l) (by rw [hd];simp);simp only [hd,List.head_cons] at h5
     simpa using h5
    rw [scanL_new q d r _ hd'];have hne:¬ ((d::r).takeWhile nws=[]):=by simp [nws,hd']
    rw [if_neg hne];rfl
def sl:List UInt8->List (List UInt8)
 |[]=>[[]]
 |c::l=>if c=10 then []::sl l else (c::(sl l).headD [])::(sl l).tail
theorem sl_cons (l:List UInt8):∃ h t,sl l=h::t:=by
 cases l with
 |nil=>exact⟨[],[],rfl⟩
 |cons c l=>
  by_cases hc:c=10
  .exact⟨[],sl l,by simp [sl,hc]⟩
  .exact⟨_,_,by simp [sl,hc];exact⟨rfl,rfl⟩⟩
theorem qbh (c b:UInt8) (l:List UInt8):Lib.indexByte (b::l) c=if b=c then 0 else if Lib.indexByte l c = -1 then -1 else Lib.indexByte l c+1:=by
 simp [Lib.indexByte]
theorem splitK_sl:∀ l:List UInt8,Lib.splitK [10] 0 (Lib.count l [10]) l=sl l:=by
 intro l
 induction l with
 |nil=>rfl
 |cons c l ih=>
  by_cases hc:c=10
  .subst hc;rw [Lib.count_cons_eq,Nat.add_comm];have hi:Lib.index (10::l) [10]=0:=by rw [Lib.index_one,qbh,if_pos rfl]
   rw [Lib.splitK,hi];simp [sl,ih]
  .rw [Lib.count_cons_ne c 10 l hc];have hs:sl (c::l)=(c::(sl l).headD [])::(sl l).tail:=by simp [sl,hc]
   rw [hs,<- ih];have hi:Lib.index (c::l) [10]=if Lib.indexByte l 10 = -1 then -1 else Lib.indexByte l 10+1:=by rw [Lib.index_one,qbh,if_neg hc]
   cases hk:Lib.count l [10] with
   |zero=>simp [Lib.splitK]
   |succ k=>
    rw [Lib.splitK,Lib.splitK,hi,Lib.index_one];by_cases h1:Lib.indexByte l 10 = -1
    .simp [h1]
    .have h2:=Lib.indexByte_ge l 10;obtain⟨i,h3⟩:∃ i:Nat,Lib.indexByte l 10=i:=⟨(Lib.indexByte l 10).toNat,by omega⟩;rw [h3];have h4:¬ ((i:Int) = -1):=by omega
     have h5:¬ ((i:Int)+1 = -1):=by omega
     have h6:((i:Int)+1).toNat=i+1:=by omega
     simp [h4,h5,h6]
theorem cut_note:∀ l:List UInt8,(Lib.cut l [35]).1=l.takeWhile (fun c=>c != 35):=by
 intro l;have key:∀ l:List UInt8,(Lib.indexByte l 35 = -1/\l.takeWhile (fun c=>c != 35)=l)\/(∃ i:Nat,Lib.indexByte l 35=i/\l.takeWhile (fun c=>c != 35)=l.take i):=by
  intro l
  induction l with
  |nil=>left;exact⟨rfl,rfl⟩
  |cons c l ih=>
   rw [qbh];by_cases hc:c=35
   .right;exact⟨0,by rw [if_pos hc];rfl,by simp [hc]⟩
   .rw [if_neg hc];have hn:(c != 35)=true:=by simp [hc]
    rw [List.takeWhile_cons_of_pos (p:=fun c=>c != 35) hn];rcases ih with ⟨h1,h2⟩|⟨i,h1,h2⟩
    .left;rw [if_pos h1,h2];exact⟨rfl,rfl⟩
    .right;refine⟨i+1,?_,by rw [h2];rfl⟩;rw [if_neg (by rw [h1];omega),h1];rfl
 unfold Lib.cut;rw [Lib.index_one];rcases key l with ⟨h1,h2⟩|⟨i,h1,h2⟩
 .rw [h1,if_neg (by omega),h2]
 .rw [h1,if_pos (by omega),h2];simp
def linesL:Nat->Nat->List (List UInt8)->List Wd
 |_,_,[]=>[]
 |f,q,x::xs=>scanL q none f (x.takeWhile (fun c=>c != 35))++linesL (f+x.length+1) (q+1) xs
theorem linesW_L:∀ (L:List ByteArray) (f q:Nat),linesW f q L=linesL f q (L.map (·.data.toList)):=by
 intro L
 induction L with
 |nil=>intro f q;rfl
 |cons x L ih=>
  intro f q;simp only [linesW,List.map_cons,linesL];rw [ih,lwc_scan q _ f _ (nR9 _),cut_note,Lib.size_eq]
theorem scan_lines:∀ (s:List UInt8) (q i:Nat),(∀ cur,scan q false cur i s=scanL q cur i (((sl s).headD []).takeWhile (fun c=>c != 35))++linesL (i+((sl s).headD []).length+1) (q+1) (sl s).tail) /\
  scan q true none i s=linesL (i+((sl s).headD []).length+1) (q+1) (sl s).tail:=by
 intro s
 induction s with
 |nil=>intro q i;exact⟨fun cur=>by simp [scan,sl,scanL,linesL],by simp [scan,sl,linesL,emit]⟩
 |cons c l ih=>
  intro q i;by_cases hc:c=10
  .have hlines:linesL (i+1) (q+1) (sl l)=scan (q+1) false none (i+1) l:=by
    obtain⟨h,t,he⟩:=sl_cons l;have h1:=(ih (q+1) (i+1)).1 none;rw [h1,he];rfl
   refine⟨fun cur=>?_,?_⟩
   .simp only [scan,if_pos hc,sl];rw [<- hlines];simp [scanL]
   .simp only [scan,if_pos hc,sl];rw [<- hlines];simp [emit]
  .have hs:sl (c::l)=(c::(sl l).headD [])::(sl l).tail:=by simp [sl,hc]
   have hlen:i+(c::(sl l).headD []).length+1=(i+1)+((sl l).headD []).length+1:=by simp;omega
   rw [hs];simp only [List.headD_cons,List.tail_cons];rw [hlen];refine⟨fun cur=>?_,?_⟩
   .by_cases hn:c=35
    .have h2:=(ih q (i+1)).2;have ht:(c::(sl l).headD []).takeWhile (fun c=>c != 35)=[]:=by simp [hn]
     rw [ht];have hstep:scan q false cur i (c::l)=emit q cur++scan q true none (i+1) l:=by simp [scan,hn]
     rw [hstep,h2];rfl
    .have ht:(c::(sl l).headD []).takeWhile (fun c=>c != 35)=c::((sl l).headD []).takeWhile (fun c=>c != 35):=by
      have:(c != 35)=true:=by simp [hn]
      rw [List.takeWhile_cons_of_pos (p:=fun c=>c != 35) this]
     rw [ht];by_cases hw:ws c=true
     .have hstep:scan q false cur i (c::l)=emit q cur++scan q false none (i+1) l:=by simp [scan,hc,hn,hw]
      rw [hstep,(ih q (i+1)).1 none];simp [scanL,hw]
     .have hstep:scan q false cur i (c::l)=scan q false (grow i c cur) (i+1) l:=by simp [scan,hc,hn,hw]
      rw [hstep,(ih q (i+1)).1 _];simp [scanL,hw]
   .have hstep:scan q true none i (c::l)=scan q true none (i+1) l:=by simp [scan,hc,emit]
    rw [hstep,(ih q (i+1)).2]
theorem textW_scan (s:ByteArray):textW s=scan 1 false none 0 s.data.toList:=by
 unfold textW;rw [linesW_L,Lib.splitB_data];have h:(ByteArray.mk #[10]).data.toList=[10]:=rfl;rw [h];have hc:Lib.countB s ⟨#[10]⟩=Lib.count s.data.toList [10]:=rfl;rw [hc,splitK_sl,(scan_lines s.data.toList 1 0).1 none];obtain⟨a,t,he⟩:=sl_cons s.data.toList;rw [he];rfl
theorem scan_app (b:List UInt8):∀ (a:List UInt8) (q:Nat) (off:Bool) (cur:Option (Nat × List UInt8)) (i:Nat),
  scan q off cur i (a++10::b)=scan q off cur i a++scan (q+1+a.count 10) false none (i+a.length+1) b:=by
 intro a
 induction a with
 |nil=>intro q off cur i;simp [scan]
 |cons c l ih=>
  intro q off cur i;have e1:i+(c::l).length+1=(i+1)+l.length+1:=by simp;omega
  rw [e1];simp only [List.cons_append,scan];by_cases hc:c=10
  .rw [if_pos hc,if_pos hc,ih,<- List.append_assoc];have e2:q+1+(c::l).count 10=q+1+1+l.count 10:=by rw [hc,List.count_cons_self];omega
   rw [e2]
  .have e2:(c::l).count 10=l.count 10:=List.count_cons_of_ne hc;rw [if_neg hc,if_neg hc,e2];split
   .rw [ih,<- List.append_assoc]
   .split
    .rw [ih,<- List.append_assoc]
    .rw [ih]
def Wd.shift (d e:Nat) (x:Wd):Wd:=⟨x.p+d,x.q+e,x.t⟩
def moved (d:Nat):Option (Nat × List UInt8)->Option (Nat × List UInt8)
 |none=>none
 |some (p,t)=>some (p+d,t)
theorem emit_shift (q d e:Nat) (cur:Option (Nat × List UInt8)):emit (q+e) (moved d cur)=(emit q cur).map (Wd.shift d e):=by
 cases cur with
 |none=>rfl
 |some x=>simp [emit,moved,Wd.shift]
theorem scan_shift (d e:Nat):∀ (b:List UInt8) (q:Nat) (off:Bool) (cur:Option (Nat × List UInt8)) (i:Nat),
  scan (q+e) off (moved d cur) (i+d) b=(scan q off cur i b).map (Wd.shift d e):=by
 intro b
 induction b with
 |nil=>intro q off cur i;exact emit_shift q d e cur
 |cons c l ih=>
  intro q off cur i;have e1:i+d+1=i+1+d:=by omega
  have e2:q+e+1=q+1+e:=by omega
  have e3:grow (i+d) c (moved d cur)=moved d (grow i c cur):=by cases cur<;>rfl
  simp only [scan];rw [e1,e2,e3];have h0:=fun q off=>ih q off none (i+1)
  simp only [moved] at h0;split
  .rw [List.map_append,emit_shift,h0]
  .split
   .rw [List.map_append,emit_shift,h0]
   .split
    .rw [List.map_append,emit_shift,h0]
    .rw [ih]
theorem WRow.left {w:World} {B:Nat} {A:Option Addr} {L M:List Wd} (h:WRow w B A (L++M)):WRow w B A L:=by
 intro hl;obtain⟨b,off,e,hlt,hc⟩:=h (by rw [List.length_append];omega);refine⟨b,off,e,hlt,fun i hi=>?_⟩;have:=hc i (by rw [List.length_append];omega)
 simpa [List.getElem_append_left hi] using this
theorem emit_bd {q:Nat} {cur:Option (Nat × List UInt8)} {i:Nat} (h:∀ p t,cur=some (p,t)->p<=i):∀ x ∈ emit q cur,(0<=x.p/\x.p<=(i:Int))/\x.q=(q:Int):=by
 intro x hx;cases cur with
 |none=>simp [emit] at hx
 |some y=>
  obtain⟨p,t⟩:=y;simp [emit] at hx;subst hx;have:=h p t rfl;exact⟨⟨by simp,by simp;omega⟩,rfl⟩
theorem scan_bd:∀ (l:List UInt8) (q:Nat) (off:Bool) (cur:Option (Nat × List UInt8)) (i:Nat),(∀ p t,cur=some (p,t)->p<=i) ->
  ∀ x ∈ scan q off cur i l,(0<=x.p/\x.p<=((i+l.length:Nat):Int))/\((q:Int)<=x.q/\x.q<=((q+l.length:Nat):Int)):=by
 intro l
 induction l with
 |nil=>
  intro q off cur i h x hx;obtain⟨h1,h2⟩:=emit_bd h x hx;exact⟨⟨h1.1,by simpa using h1.2⟩,by omega,by simp;omega⟩
 |cons c l ih=>
  intro q off cur i h x hx;have hlen:(c::l).length=l.length+1:=rfl;have hnone:∀ (p:Nat) (t:List UInt8),(none:Option (Nat × List UInt8))=some (p,t)->p<=i+1:=fun _ _ h=>by cases h
  have hem:x ∈ emit q cur->(0<=x.p/\x.p<=((i+(c::l).length:Nat):Int))/\((q:Int)<=x.q/\x.q<=((q+(c::l).length:Nat):Int)):=by
   intro he;obtain⟨h1,h2⟩:=emit_bd h x he;rw [hlen];exact⟨⟨h1.1,by omega⟩,by omega,by omega⟩
  simp only [scan] at hx;split at hx
  .rcases List.mem_append.1 hx with hx|hx
   .exact hem hx
   .obtain⟨⟨a1,a2⟩,a3,a4⟩:=ih (q+1) false none (i+1) hnone x hx;rw [hlen];exact⟨⟨a1,by omega⟩,by omega,by omega⟩
  .split at hx
   .rcases List.mem_append.1 hx with hx|hx
    .exact hem hx
    .obtain⟨⟨a1,a2⟩,a3,a4⟩:=ih q true none (i+1) hnone x hx;rw [hlen];exact⟨⟨a1,by omega⟩,by omega,by omega⟩
   .split at hx
    .rcases List.mem_append.1 hx with hx|hx
     .exact hem hx
     .obtain⟨⟨a1,a2⟩,a3,a4⟩:=ih q off none (i+1) hnone x hx;rw [hlen];exact⟨⟨a1,by omega⟩,by omega,by omega⟩
    .have hg:∀ p t,grow i c cur=some (p,t)->p<=i+1:=by
      intro p t e;cases cur with
      |none=>simp [grow] at e;omega
      |some y=>
       obtain⟨p',t'⟩:=y;have:=h p' t' rfl;simp [grow] at e;omega
     obtain⟨⟨a1,a2⟩,a3,a4⟩:=ih q off _ (i+1) hg x hx;rw [hlen];exact⟨⟨a1,by omega⟩,by omega,by omega⟩
theorem text_bd (s:ByteArray):∀ x ∈ textW s,(0<=x.p/\x.p<=(s.size:Int))/\(1<=x.q/\x.q<=((s.size+1:Nat):Int)):=by
 intro x hx;rw [textW_scan] at hx;obtain⟨⟨a1,a2⟩,a3,a4⟩:=scan_bd s.data.toList 1 false none 0 (fun _ _ h=>by cases h) x hx;rw [<- Lib.size_eq] at a2 a4;exact⟨⟨a1,by omega⟩,by omega,by omega⟩
theorem qbc (n:Int) (w:World) (h0 : -9223372036854775808<=n) (h1:n<=9223372036854775807) (htab:Lib.TabIs Tryz.prog w "internal/strconv.uint64pow10" .u64 Lib.pow10Tab) :
  Calls Tryz.prog 73 #[.int .i64 n] w fun e w'=>e=.returned (.string ⟨(Lib.itoa n).toArray⟩)/\Below w.heap.size w w':=by
 have hd:=hI9 (Tryz.strconv_FormatInt_10 n h0 h1 w htab);go_enter Tryz.func73,Tryz.ntmps73;go_wp2_with (go_at_call 109;refine hd.out.mono ?_;rintro e w' ⟨rfl,k,os,rfl⟩)
 go_ret;exact⟨rfl,Lib.below_grow _ w (nR9 _) k os⟩
theorem dig_nat {d:Nat} (h:d<10):(UInt8.ofNat (48+d)).toNat=48+d:=by
 rw [UInt8.toNat_ofNat'];omega
theorem dec_num:∀ u:Nat,numV (decDigits u)=u/\(∀ c ∈ decDigits u,isD c)/\decDigits u≠[]/\(u<10->(decDigits u).length=1)/\(u≠0->(decDigits u)[0]?≠some 48):=by
 intro u
 induction u using Nat.strongRecOn with
 |ind u ih=>
  by_cases h:u<10
  .rw [decDigits_one h];refine⟨?_,?_,by simp,fun _=>rfl,?_⟩
   .simp [numV,numF];have:=dig_nat h;simp at this;omega
   .intro c hc;simp at hc;subst hc;have:=dig_nat h;simp at this;unfold isD;simp;omega
   .intro h0 he;have h1:UInt8.ofNat (48+u)=48:=by simpa using he
    have h2:=dig_nat h;rw [h1] at h2;have:(48:UInt8).toNat=48:=rfl;omega
  .have e:decDigits u=decDigits (u / 10)++[UInt8.ofNat (48+u % 10)]:=by rw [decDigits,dif_neg h]
   obtain⟨i1,i2,i3,_,i5⟩:=ih (u / 10) (by omega);have hd:=dig_nat (d:=u % 10) (by omega);rw [e];refine⟨?_,?_,by simp,fun h2=>absurd h2 h,?_⟩
   .unfold numV at i1 ⊢;rw [List.foldl_append,i1];simp only [List.foldl_cons,List.foldl_nil,numF];rw [hd];omega
   .intro c hc;rcases List.mem_append.1 hc with hc|hc
    .exact i2 c hc
    .simp only [List.mem_singleton] at hc;subst hc;unfold isD;rw [hd];omega
   .intro _;have hl:0<(decDigits (u / 10)).length:=by
     cases hx:decDigits (u / 10) with
     |nil=>exact absurd hx i3
     |cons a b=>simp
    rw [List.getElem?_append_left hl];exact i5 (by omega)
theorem itoa_num (n:Int) (h:0<=n) (most:Int):numV (itoa n)=n.toNat/\(NumOk (itoa n) most↔n<=most):=by
 have e:itoa n=decDigits n.toNat:=by unfold itoa;rw [if_neg (by omega)]
 obtain⟨h1,h2,h3,h4,h5⟩:=dec_num n.toNat;rw [e];refine⟨h1,fun hn=>?_,fun hn=>⟨⟨h3,?_⟩,?_,?_⟩⟩
 .have:=hn.2.2;rw [h1] at this;omega
 .by_cases h0:n.toNat=0
  .exact .inl (h4 (by omega))
  .exact .inr (h5 h0)
 .intro i c hc;exact h2 c (List.mem_of_getElem? hc)
 .rw [h1];omega
end Go.Proofs.YtgnaaokhfpfglaaGreatDoor
end
section
namespace Go.Proofs.YtgnaaokhfpfglaaGreatDoor
open Go.RowKit
def Has (w:World) (x:Nat) (o:Obj):Prop:=w.heap[x]? = some o
section
variable {w w':World} {x:Nat} {o:Obj}
theorem Has.lt (h:Has w x o):x<w.heap.size:=lt_of_block h
theorem Has.new (w:World) (x:Nat) (o:Obj) (hx:x=w.heap.size):Has (w.alloc o) x o:=by subst hx;exact heap_alloc_new w o
theorem Has.alloc (h:Has w x o) (u:Obj):Has (w.alloc u) x o:=(Below.heap_alloc w u x h.lt).trans h
theorem Has.drew (h:Has w x o):Has w.drew x o:=h
theorem Has.below {B:Nat} (h:Has w x o) (hb:Below B w w') (hx:x<B):Has w' x o:=(hb.block x hx).trans h
theorem Has.grown {row:Option Nat} (h:Has w x o) (hg:w.grownBy w' row) (hr:some x≠row):Has w' x o:=(hg.block x h.lt hr).trans h
end
theorem qaO {w w':World} {base B:Nat} {e:TypeId} {size:Nat} {v:Value} {n:Nat} {xs:List Value} (h:w.ownsRow base e size v n xs) (hb:Below B w w') (hB:w.heap.size<=B):w'.ownsRow base e size v n xs:=by
 obtain⟨h1,h2⟩:=h;refine⟨h1,?_⟩;rcases h2 with h2|⟨g,cap,cur,hv,hg,hh,r⟩
 .exact .inl h2
 .exact .inr ⟨g,cap,cur,hv,hg,(hb.block g (Nat.lt_of_lt_of_le (lt_of_block hh) hB)).trans hh,r⟩
end Go.Proofs.YtgnaaokhfpfglaaGreatDoor
end
section
namespace Go.Proofs.YtgnaaokhfpfglaaGreatDoor
open Go.RowKit Go.Shelf Go.Lib
def NRow (w:World) (B:Nat) (A:Option Addr) (L:List Int):Prop:=
 0<L.length->∃ b off,A=some ⟨b,off,none⟩/\b<B/\∀ i (h:i<L.length),w.cell? ⟨b,off+i,none⟩=some (.int .i64 L[i])
theorem NRow.below {w w':World} {B C:Nat} {A:Option Addr} {L:List Int} (h:NRow w B A L) (hb:Below C w w') (hBC:B<=C):NRow w' B A L:=by
 intro hl;obtain⟨b,off,e,hlt,hc⟩:=h hl;exact⟨b,off,e,hlt,fun i hi=>(hb.cell (p:=⟨b,_,none⟩) (by show b<C;omega)).trans (hc i hi)⟩
theorem NRow.more {w:World} {B C:Nat} {A:Option Addr} {L:List Int} (h:NRow w B A L) (hBC:B<=C):NRow w C A L:=by
 intro hl;obtain⟨b,off,e,hlt,hc⟩:=h hl;exact⟨b,off,e,by omega,hc⟩
theorem nrow_own {w:World} {base:Nat} {e:TypeId} {v:Value} {L:List Int} (h:w.ownsRow base e 1 v L.length (L.map (Value.int .i64))) :
  ∃ A cap,v=.slice A L.length cap/\L.length<=cap/\(A=none->cap=0)/\NRow w w.heap.size A L:=by
 rcases h.2 with ⟨rfl,h0⟩|⟨g,cap,cur,rfl,_,hg,hnc,_⟩
 .exact⟨_,_,by rw [h0],by omega,fun _=>rfl,fun h=>by omega⟩
 .refine⟨_,cap,rfl,hnc,(fun h=>by cases h),fun _=>⟨g,0,rfl,lt_of_block hg,fun i hi=>?_⟩⟩;have hc:=h.cells (g:=g) rfl;have ha:∀ j,(⟨g,0,none⟩:Addr).add j=⟨g,0+j,none⟩:=fun j=>by unfold Addr.add;split<;>simp_all
  have:=hc i (.int .i64 L[i]) (by simp [hi])
  rwa [ha] at this
theorem infoL:(Tryz.prog.info? 2).map (fun i=>(i.zero,i.size,i.bytes))=some (some (.int .i64 0),1,8):=by kernel_rfl
theorem nDig_le:∀ (k u:Nat),u<10 ^ (k+1)->nDigits u<=k+1:=by
 intro k
 induction k with
 |zero=>intro u h;rw [nDigits,dif_pos (by simpa using h)];exact nR9 1
 |succ k ih=>
  intro u h;by_cases h10:u<10
  .rw [nDigits,dif_pos h10];omega
  .rw [nDigits,dif_neg h10];have:=ih (u / 10) (by rw [Nat.pow_succ] at h;omega);omega
theorem itoa_len (n:Int) (h0 : -9223372036854775808<=n) (h1:n<=9223372036854775807):(itoa n).length<=21:=by
 have key:∀ u:Nat,u<10 ^ 20->(decDigits u).length<=20:=fun u hu=>by rw [decDigits_length];exact nDig_le 19 u hu
 unfold itoa;split
 .have:=key n.natAbs (by omega);simp only [List.length_cons];omega
 .have:=key n.toNat (by omega);omega
theorem tail_len (sep:List UInt8):∀ (L:List (List UInt8)),(∀ x ∈ L,x.length<=21)->(Lib.joinTail sep L).length<=L.length * (21+sep.length):=by
 intro L
 induction L with
 |nil=>intro _;simp [Lib.joinTail]
 |cons x L ih=>
  intro h;have h1:=ih (fun y hy=>h y (List.mem_cons_of_mem _ hy));have h2:=h x List.mem_cons_self;have e:Lib.joinTail sep (x::L)=(sep++x)++Lib.joinTail sep L:=by simp [Lib.joinTail]
  rw [e,List.length_append,List.length_append,List.length_cons,Nat.add_mul];omega
theorem join_len (sep:List UInt8) (L:List (List UInt8)) (h:∀ x ∈ L,x.length<=21):(Lib.join L sep).length<=21+L.length * (21+sep.length):=by
 cases L with
 |nil=>simp [Lib.join_nil]
 |cons x r=>
  rw [Lib.join_cons,List.length_append];have h1:=tail_len sep r (fun y hy=>h y (List.mem_cons_of_mem _ hy));have h2:=h x List.mem_cons_self;rw [List.length_cons,Nat.add_mul];omega
theorem qaR {B:Nat} {w w':World} (h:Lib.TabIs Tryz.prog w "internal/strconv.uint64pow10" .u64 Lib.pow10Tab) (hb:Below B w w') (hB:1<B):Lib.TabIs Tryz.prog w' "internal/strconv.uint64pow10" .u64 Lib.pow10Tab:=
 var?_below hb (by kernel_rfl) hB h
theorem infoS:(Tryz.prog.info? 9).map (fun i=>(i.zero,i.size,i.bytes))=some (some (.string ByteArray.empty),1,16):=by kernel_rfl
def digs (L:List Int):List ByteArray:=L.map fun n=>⟨(itoa n).toArray⟩
theorem digs_data (L:List Int):(digs L).map (·.data.toList)=L.map itoa:=by
 unfold digs;rw [List.map_map];rfl
theorem full_block {w:World} {base B n c:Nat} {e:TypeId} {size:Nat} {xs:Array Value} (h:w.ownsRow base e size (.slice (some ⟨B,0,none⟩) n c) n xs.toList) (hx:xs.size=c * size):w.heap[B]? = some (.cells xs e (0,0)):=by
 rcases h.2 with ⟨h1,_⟩|⟨g,cap,cur,h1,_,hg,_,_,hs,ht⟩
 .cases h1
 .cases h1;have hl:=h.1;rw [hg];have:cur=xs:=by
   apply Array.toList_inj.1;rw [<- ht,List.take_of_length_le];simp only [Array.length_toList] at hl ⊢;omega
  rw [this]
theorem str_cell {w:World} {B n i:Nat} {D:List ByteArray} (h:w.heap[B]? = some (.cells (Lib.cellsOf D n) 9 (0,0))) (hD:D.length=i) (hi:i<n) :
  w.cell? ⟨B,i,none⟩=some (.string ByteArray.empty)/\w.frozen? ⟨B,i,none⟩=false:=by
 have h1:=Lib.cellsOf_next (done:=D) (N:=n) (by omega);rw [hD] at h1;exact⟨by simp [World.cell?,h,h1],by simp [World.frozen?,h]⟩
theorem str_set {w:World} {B n i:Nat} {D:List ByteArray} (h:w.heap[B]? = some (.cells (Lib.cellsOf D n) 9 (0,0))) (hD:D.length=i) (hi:i<n) (x:ByteArray) :
  (w.setCell ⟨B,i,none⟩ (.string x)).heap[B]? = some (.cells (Lib.cellsOf (D++[x]) n) 9 (0,0)):=by
 obtain⟨hlt,hk⟩:=Array.getElem?_eq_some_iff.1 h;have h2:=Lib.cellsOf_set (done:=D) (N:=n) (by omega) x;rw [hD] at h2;rw [<- h2];show (w.heap.modify B _)[B]? = _;rw [Array.getElem?_eq_getElem (by rw [Array.size_modify];exact hlt),Array.getElem_modify_self,hk];rfl
theorem take_digs {L:List Int} {i:Nat} (h:i<L.length):digs (L.take (i+1))=digs (L.take i)++[⟨(itoa L[i]).toArray⟩]:=by
 unfold digs;rw [List.take_succ_eq_append_getElem h,List.map_append];rfl
theorem ch1 {w a:World} (h:Below w.drew.heap.size w.drew a):Below w.heap.size w a:=((bR9 w.heap.size w).drew).trans h
def pairV (s:ByteArray):ByteArray × ByteArray × Bool:=
 if 0<=Lib.indexByte s.data.toList 61 then (⟨(s.data.toList.take (Lib.indexByte s.data.toList 61).toNat).toArray⟩,⟨(s.data.toList.drop ((Lib.indexByte s.data.toList 61).toNat+1)).toArray⟩,true) else (ByteArray.empty,ByteArray.empty,false)
theorem pairV_none {s:ByteArray} (h:∀ (j:Nat),s.data.toList[j]?≠some 61):pairV s=(ByteArray.empty,ByteArray.empty,false):=by
 unfold pairV;rw [if_neg];intro h0;exact h _ (Lib.indexByte_some (o:=(Lib.indexByte s.data.toList 61).toNat) (by omega)).1
theorem cut_61 (s:ByteArray) (m:Int) (w:World) (hs:s.size<4294967281) (hm:w.cell? ⟨0,0,none⟩=some (.int .i64 m)) :
  Calls Tryz.prog 83 #[.string s,.string ⟨#[61]⟩] w fun e w'=>
   (∃ a b ok,e=.returned (.tuple #[.string a,.string b,.bool ok])/\((ok=false/\pairV s=(ByteArray.empty,ByteArray.empty,false))\/(ok=true/\pairV s=(a,b,true))))/\Below w.heap.size w w':=
 (Tryz.strings_Cut s ⟨#[61]⟩ m w hs hm).mono fun e w' ⟨he,n,hw⟩=>by
  refine⟨⟨_,_,_,he,?_⟩,by rw [hw];exact qaP (bR9 _ _) _⟩;have h1:(ByteArray.mk #[61]).data.toList=[61]:=rfl;rw [h1];unfold Lib.cut pairV;rw [Lib.index_one];by_cases h:0<=Lib.indexByte s.data.toList 61
  .rw [if_pos h,if_pos h];exact .inr ⟨rfl,rfl⟩
  .rw [if_neg h,if_neg h];exact .inl ⟨rfl,rfl⟩
theorem lexPair_any (s:ByteArray) (m:Int) (w:World) (hs:s.size<4294967281) (hm:w.cell? ⟨0,0,none⟩=some (.int .i64 m)) :
  Calls Tryz.prog 140 #[.string s] w fun e w'=>e=.returned (.tuple #[.string (pairV s).1,.string (pairV s).2.1,.bool (pairV s).2.2])/\Below w.heap.size w w':=by
 have hc:=hI9 (cut_61 s m w hs hm);go_enter Tryz.func140,Tryz.ntmps140;go_upto_if 12 with (go_at_call 83;refine hc.out.mono ?_;rintro e w1 ⟨⟨a,b,ok,rfl,hok⟩,hb1⟩)
 rcases hok with ⟨rfl,hp⟩|⟨rfl,hp⟩
 .go_wp2;go_ret3;exact⟨by rw [hp];rfl,hb1⟩
 .go_wp2;go_ret3;exact⟨by rw [hp];rfl,hb1⟩
end Go.Proofs.YtgnaaokhfpfglaaGreatDoor
end
section
namespace Go.Proofs.YtgnaaokhfpfglaaGreatDoor
open Go.RowKit
def plainB (o:Oper):Bool:=
 match o.op with
 |.move _=>true
 |.assign _=>true
 |.binOp ..=>true
 |.load ..=>true
 |.store ..=>true
 |.indexAddr ..=>true
 |.fieldAddr ..=>true
 |.buildSlice ..=>true
 |.call c=>match c.callee with
  |.builtin .append=>true
  |.builtin .len=>true
  |_=>false
 |_=>false
theorem run_val {P:Program} {w:World} (s:Sem Value):((do pure (Next.value (<- s)):Sem Next)).run P w=match s.run P w with
  |.ok x w'=>.ok (.value x) w'
  |.halt e w'=>.halt e w':=by
 rw [Sem.run_bind];cases s.run P w<;>rfl
theorem run_unit {P:Program} {w:World} (s:Sem Unit):((do s;pure Next.skip:Sem Next)).run P w=match s.run P w with
  |.ok _ w'=>.ok .skip w'
  |.halt e w'=>.halt e w':=by
 rw [Sem.run_bind];cases s.run P w<;>rfl
theorem plain_run {P:Program} {o:Oper} (h:plainB o=true) (ρ:Operand->Value) (w:World) :
  (∃ v w',(execOp ρ o).run P w=.ok (.value v) w')\/(∃ w',(execOp ρ o).run P w=.ok .skip w')\/(∃ e w',(execOp ρ o).run P w=.halt e w'):=by
 have hv:∀ s:Sem Value,(execOp ρ o=do pure (Next.value (<- s)))->(∃ v w',(execOp ρ o).run P w=.ok (.value v) w')\/(∃ w',(execOp ρ o).run P w=.ok .skip w')\/(∃ e w',(execOp ρ o).run P w=.halt e w'):=by
  intro s hs;rw [hs,run_val];cases s.run P w with
  |ok x w'=>exact .inl ⟨_,_,rfl⟩
  |halt e w'=>exact .inr (.inr ⟨_,_,rfl⟩)
 have hu:∀ s:Sem Unit,(execOp ρ o=do s;pure Next.skip)->(∃ v w',(execOp ρ o).run P w=.ok (.value v) w')\/(∃ w',(execOp ρ o).run P w=.ok .skip w')\/(∃ e w',(execOp ρ o).run P w=.halt e w'):=by
  intro s hs;rw [hs,run_unit];cases s.run P w with
  |ok x w'=>exact .inr (.inl ⟨_,rfl⟩)
  |halt e w'=>exact .inr (.inr ⟨_,_,rfl⟩)
 unfold plainB at h;split at h
 case h_1 x ho=>exact .inl ⟨_,_,by simp only [execOp,ho];rfl⟩
 case h_2 x ho=>exact .inl ⟨_,_,by simp only [execOp,ho];rfl⟩
 case h_3 op ty x y yt ho=>exact hv (do eqGuard op ty x y (ρ x) (ρ y);binOp op ty (ρ x) (ρ y)) (by simp only [execOp,ho])
 case h_4 ty x ho=>exact hv (Instr.loadAt ty (ρ x)) (by simp only [execOp,ho])
 case h_5 ty x y ho=>exact hu (Instr.storeAt ty (ρ x) (ρ y)) (by simp only [execOp,ho])
 case h_6 ty x ix ho=>exact hv (Instr.indexAt ty (ρ x) (ρ ix)) (by simp only [execOp,ho])
 case h_7 s x f ho=>exact hv (Instr.fieldAt s (ρ x) f) (by simp only [execOp,ho])
 case h_8 ty len parts ho=>exact hv (Instr.buildSlice ty len (parts.map fun (i,x)=>(i,ρ x))) (by simp only [execOp,ho])
 case h_9 c ho=>
  split at h
  case h_1 hc=>exact hv (Builtin.append_ c.argTypes o.type (c.args.map ρ)) (by simp only [execOp,ho,resolve,hc,invoke,builtin,pure_bind])
  case h_2 hc=>exact hv (Builtin.len_ c.argTypes o.type (c.args.map ρ)) (by simp only [execOp,ho,resolve,hc,invoke,builtin,pure_bind])
  case h_3=>cases h
 case h_10=>cases h
theorem plain_about {P:Program} {o:Oper} (h:plainB o=true) (ρ:Operand->Value) (w:World):o.about P w ρ=none:=by
 unfold plainB at h;split at h
 case h_9 c ho=>
  split at h
  case h_1 hc=>simp [Oper.about,ho,resolve,hc,Target.leads,Sem.run_pure]
  case h_2 hc=>simp [Oper.about,ho,resolve,hc,Target.leads,Sem.run_pure]
  case h_3=>cases h
 case h_10=>cases h
 all_goals (rename_i ho;simp [Oper.about,ho])
theorem plain_defer {o:Oper} (h:plainB o=true):∀ c,o.op≠.defer c:=by
 intro c hc;unfold plainB at h;rw [hc] at h;cases h
theorem wp_in {F:Fence} {n:Nat} {P:Program} {o:Oper} {a:Act} {w:World} {K:Act->World->Prop} {Q:Exit->Act->World->Prop} (h:plainB o=true) (hw:o.wp P a w K Q):o.wpIn F n P a w K Q:=by
 refine⟨fun f hf=>(by rw [plain_about h] at hf;cases hf),?_⟩;rw [Oper.semAt_plain F _ _ (plain_defer h)];unfold Oper.wp at hw;rcases plain_run (P:=P) h a.eval w with ⟨v,w',e⟩|⟨w',e⟩|⟨e',w',e⟩
 .rw [e] at hw ⊢;exact hw
 .rw [e] at hw ⊢;exact hw
 .rw [e] at hw ⊢;cases e'<;>first|exact hw|exact hw.elim
theorem any_in {F:Fence} {n:Nat} {P:Program} {ops:Array Oper} {md:Region.Mode} {Q:Exit->Act->World->Prop} (hp:∀ (i:Nat) o,ops[i]? = some o->plainB o=true) (hQ:¬ LetsOut Q) :
  ∀ (fuel:Nat) (listed:Array Bool) (a:Act) (w:World),wpAny P md ops Q fuel listed a w->wpAnyIn F n P md ops Q fuel listed a w
 |0,_,_,_,h=>h
 |fuel+1,listed,a,w,h=>⟨h.1,fun i hi=>by
   have h2:=h.2 i hi;unfold wpOp at h2;unfold wpOpIn;cases ho:ops[i]? with
   |none=>rw [ho] at h2;exact any_in hp hQ fuel _ _ _ h2
   |some o=>
    rw [ho] at h2;simp only at h2 ⊢;split at h2
    .rename_i hw;rw [if_pos hw];rcases h2 with h2|h2
     .exact Oper.wpIn_mono (fun a' w' h'=>any_in hp hQ fuel _ a' w' h') (wp_in (hp i o ho) h2)
     .exact absurd h2.2 hQ
    .rename_i hw;rw [if_neg hw]
     exact⟨fun f hf=>(by rw [plain_about (hp i o ho)] at hf;cases hf),any_in hp hQ fuel _ _ _ h2⟩⟩
theorem wpIn_region_plain {F:Fence} {n:Nat} {P:Program} {ops:Array Oper} {Q:Exit->Act->World->Prop} {S:World->Prop} {id:Nat} {a:Act} {w:World} (hm:P.follows .mixedOrders=true) (hp:ops.all plainB=true) (hQ:¬ LetsOut Q)
  (h:wpAnyH P .any ops Q S ops.size (Array.replicate ops.size false) a w.drew):(Code.region id ops true).wpIn F n P Q a w:=
 wpIn_region_any hm (any_in (fun i o ho=>by
  obtain⟨hi,rfl⟩:=Array.getElem?_eq_some_iff.1 ho
  exact (Array.all_eq_true.1 hp) i hi) hQ _ _ _ _ (wpAny_of_held _ _ _ _ h))
end Go.Proofs.YtgnaaokhfpfglaaGreatDoor
end
