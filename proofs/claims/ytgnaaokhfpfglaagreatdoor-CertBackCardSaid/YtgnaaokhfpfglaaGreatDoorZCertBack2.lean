/- Texts of this claim, one behind the other: ParseA, Tabs, LexQ, LexR, LexJ, GLex, ParseB, ParseC, TasksA, TasksB, MapM, TasksC, ParseD, ParseE, ParseF, ParseG, ParseH, LexK, LexKa, LexL, LexNp, Lns, ParseI, ParseJ, ParseK, ParseM, ParseN, Facts. -/
import Derived.Test.YtgnaaokhfpfglaaGreatDoorZCertBack1
import Derived.Deep.RegionHeld
import Derived.Deep.AppendLies
import Derived.Maps.Own
import Derived.MapKept
import Derived.WideKeyRuns
import Derived.Laws.AppendOwn
import Derived.Below
import Derived.Deep.Draws
import Derived.OwnWalk
import Derived.Maps.OwnOps
import Derived.ChangeMaps5
import Derived.Defers
import Derived.Recover
import Derived.Laws.OwnMore
import Derived.Orders

set_option maxHeartbeats 8000000
set_option maxRecDepth 100000
set_option linter.unusedVariables false
set_option linter.unusedSimpArgs false
section
namespace Go.Proofs.YtgnaaokhfpfglaaGreatDoor
open Go.RowKit Go.Shelf Go.Lib
def endP (L:List Wd):Int:=match L.getLast? with
 |none=>0
 |some x=>wrap64 (x.p+x.t.size)
def wrongP (L:List Wd) (k:Nat):Int:=match L[k]? with
 |none=>endP L
 |some x=>x.p
def nextP (L:List Wd) (k:Nat):ByteArray:=match L[k]? with
 |none=>ByteArray.empty
 |some x=>x.t
def wrongV (p:Int):List PanicEntry:=[{ v:=.iface 120 (.agg #[.int .i64 p,.int .i64 10]),recovered:=false }]
def RdAt (w:World) (b:Nat) (A:Option Addr) (cap:Nat) (L:List Wd) (k:Nat):Prop:=
 w.heap[b]? = some (.cells #[.slice A L.length cap,.int .i64 k] 158 (0,0))/\WRow w b A L
theorem RdAt.lt {w:World} {b cap k:Nat} {A:Option Addr} {L:List Wd} (h:RdAt w b A cap L k):b<w.heap.size:=lt_of_block h.1
theorem RdAt.below {w w':World} {b cap k B:Nat} {A:Option Addr} {L:List Wd} (h:RdAt w b A cap L k) (hb:Below B w w') (hB:b<B):RdAt w' b A cap L k:=
 ⟨(hb.block b hB).trans h.1,h.2.below hb (by omega)⟩
theorem RdAt.alloc {w:World} {b cap k:Nat} {A:Option Addr} {L:List Wd} (h:RdAt w b A cap L k) (o:Obj):RdAt (w.alloc o) b A cap L k:=
 h.below ((bR9 w.heap.size w).alloc (nR9 _) o) h.lt
theorem RdAt.drew {w:World} {b cap k:Nat} {A:Option Addr} {L:List Wd} (h:RdAt w b A cap L k):RdAt w.drew b A cap L k:=h
theorem RdAt.cells {w:World} {b cap k:Nat} {A:Option Addr} {L:List Wd} (h:RdAt w b A cap L k):w.cell? ⟨b,0,none⟩=some (.slice A L.length cap)/\w.cell? ⟨b,1,none⟩=some (.int .i64 k):=by
 have h0:=cell_of_row w b 0 _ _ _ h.1;have h1:=cell_of_row w b 1 _ _ _ h.1;exact⟨by simpa using h0,by simpa using h1⟩
theorem blkSet {w:World} {g:Nat} {t:TypeId} {cs:Array Value} (h:w.heap[g]? = some (.cells cs t (0,0))) (i:Nat) (u:Value):(w.setCell ⟨g,i,none⟩ u).heap[g]? = some (.cells (cs.setIfInBounds i u) t (0,0)):=by
 simp [World.setCell,Array.getElem?_modify,h]
theorem RdAt.step {w:World} {b cap k:Nat} {A:Option Addr} {L:List Wd} (h:RdAt w b A cap L k):RdAt (w.setCell ⟨b,1,none⟩ (.int .i64 ((k:Int)+1))) b A cap L (k+1)/\w.grownBy (w.setCell ⟨b,1,none⟩ (.int .i64 ((k:Int)+1))) (some b):=by
 refine⟨⟨?_,?_⟩,?_⟩
 .have:=blkSet h.1 1 (.int .i64 ((k:Int)+1))
  simpa using this
 .intro hl;obtain⟨bA,oA,rfl,hlt,hc⟩:=h.2 hl;refine⟨bA,oA,rfl,hlt,fun i hi=>?_⟩;obtain⟨x0,x1,x2⟩:=hc i hi;have m:∀ o v,w.cell? ⟨bA,o,none⟩=some v->(w.setCell ⟨b,1,none⟩ (.int .i64 ((k:Int)+1))).cell? ⟨bA,o,none⟩=some v:=fun o v h=>
   (World.cell?_of_block (Below.heap_setCell w ⟨b,1,none⟩ _ bA (by show bA≠b;omega))).trans h
  exact⟨m _ _ x0,m _ _ x1,m _ _ x2⟩
 .exact⟨rfl,rfl,rfl,by simp [World.setCell],fun k' _ hne=>Below.heap_setCell w ⟨b,1,none⟩ _ k' (fun e=>hne (by rw [e]))⟩
theorem end_any (b cap k:Nat) (A:Option Addr) (L:List Wd) (w:World) (hn:L.length<=1000000) (hr:RdAt w b A cap L k) :
  Calls Tryz.prog 95 #[.pointer (some ⟨b,0,none⟩)] w fun e w'=>e=.returned (.int .i64 (endP L))/\Below w.heap.size w w':=by
 obtain⟨c0,c1⟩:=hr.cells;have hW:=hI9 hr.2;obtain⟨E,hE⟩:∃ z,z=endP L:=⟨_,rfl⟩;have HE:=hI9 hE;rw [<- hE];clear hr hE;obtain⟨n,hn'⟩:∃ n,n=L.length:=⟨_,rfl⟩;rw [<- hn'] at c0 hn;by_cases h0:n=0
 .subst h0;have HZ:Hid (E=0):=hI9 (by rw [HE.out,List.eq_nil_of_length_eq_zero hn'.symm];rfl);clear hn';go_enter Tryz.func95,Tryz.ntmps95;go_wp2;go_ret;exact⟨by rw [HZ.out];rfl,bR9 _ _⟩
 .have hpos:0<n:=by omega
  have hil:n - 1<L.length:=by omega
  have HZ:Hid (E=wrap64 (L[n - 1].p+L[n - 1].t.size)):=hI9 (by
   rw [HE.out,endP,List.getLast?_eq_getElem?,<- hn',List.getElem?_eq_getElem hil])
  obtain⟨bA,oA,rfl,hlt,hc⟩:=hW.out (by omega);obtain⟨x0,x1,x2⟩:=hc (n - 1) hil;generalize L[n - 1]=x at x0 x1 x2 HZ;clear hc hn';obtain⟨m,hm⟩:∃ m,n - 1=m:=⟨_,rfl⟩;rw [hm] at x0 x1 x2;have hmn:m<n:=by omega
  have hsub:IntKind.i64.wrap ((n:Int) - 1)=(m:Int):=by rw [IntKind.wrap_i64];omega
  go_enter Tryz.func95,Tryz.ntmps95;go_wp2;have hlA:bA<w.heap.size:=qaM x0;have hlb:b<w.heap.size:=qaM c0;have hS0:w.drew.cell? ⟨b,0,none⟩=some (.slice (some ⟨bA,oA,none⟩) n cap)/\w.drew.cell? ⟨bA,oA+m * 3,none⟩=some (.int .i64 x.p)/\w.drew.cell? ⟨bA,oA+m * 3+1,none⟩=some (.int .i64 x.q)/\w.drew.cell? ⟨bA,oA+m * 3+2,none⟩=some (.string x.t):=⟨c0,x0,x1,x2⟩;refine wp_region_held_drew (S:=fun W=>W.cell? ⟨b,0,none⟩=some (.slice (some ⟨bA,oA,none⟩) n cap)/\W.cell? ⟨bA,oA+m * 3,none⟩=some (.int .i64 x.p)/\W.cell? ⟨bA,oA+m * 3+1,none⟩=some (.int .i64 x.q)/\W.cell? ⟨bA,oA+m * 3+2,none⟩=some (.string x.t)) (by kernel_rfl) hS0 (fun _=>?_)
  (refine wpAnyH_take (i:=0) (v:=?_) rfl (by kernel_rfl) (by kernel_rfl) (by kernel_rfl) (fun _ _ _ h=>h) (Or.inl ⟨by rfl,fun W' hS=>?_⟩) hS0 ?_;rotate_left;· (obtain⟨s0,s1,s2,s3⟩:=hS;go_simp;try with_reducible rfl))
  (refine wpAnyH_take (i:=1) (v:=?_) rfl (by kernel_rfl) (by kernel_rfl) (by kernel_rfl) (fun _ _ _ h=>h) (Or.inl ⟨by rfl,fun W' hS=>?_⟩) hS0 ?_;rotate_left;· (obtain⟨s0,s1,s2,s3⟩:=hS;go_simp;try with_reducible rfl))
  (refine wpAnyH_take (i:=2) (v:=?_) rfl (by kernel_rfl) (by kernel_rfl) (by kernel_rfl) (fun _ _ _ h=>h) (Or.inl ⟨by rfl,fun W' hS=>?_⟩) hS0 ?_;rotate_left;· (obtain⟨s0,s1,s2,s3⟩:=hS;go_simp;try with_reducible rfl))
  (refine wpAnyH_take (i:=3) (v:=?_) rfl (by kernel_rfl) (by kernel_rfl) (by kernel_rfl) (fun _ _ _ h=>h) (Or.inl ⟨by rfl,fun W' hS=>?_⟩) hS0 ?_;rotate_left;· (obtain⟨s0,s1,s2,s3⟩:=hS;go_simp;try with_reducible rfl))
  (refine wpAnyH_take (i:=4) (v:=?_) rfl (by kernel_rfl) (by kernel_rfl) (by kernel_rfl) (fun _ _ _ h=>h) (Or.inl ⟨by rfl,fun W' hS=>?_⟩) hS0 ?_;rotate_left;· (obtain⟨s0,s1,s2,s3⟩:=hS;go_simp;try with_reducible rfl))
  (refine wpAnyH_take (i:=5) (v:=?_) rfl (by kernel_rfl) (by kernel_rfl) (by kernel_rfl) (fun _ _ _ h=>h) (Or.inl ⟨by rfl,fun W' hS=>?_⟩) hS0 ?_;rotate_left;· (obtain⟨s0,s1,s2,s3⟩:=hS;go_simp;try with_reducible rfl))
  (refine wpAnyH_take (i:=6) (v:=?_) rfl (by kernel_rfl) (by kernel_rfl) (by kernel_rfl) (fun _ _ _ h=>h) (Or.inl ⟨by rfl,fun W' hS=>?_⟩) hS0 ?_;rotate_left;· (obtain⟨s0,s1,s2,s3⟩:=hS;go_simp;try with_reducible rfl))
  (refine wpAnyH_take (i:=7) (v:=?_) rfl (by kernel_rfl) (by kernel_rfl) (by kernel_rfl) (fun _ _ _ h=>h) (Or.inl ⟨by rfl,fun W' hS=>?_⟩) hS0 ?_;rotate_left;· (obtain⟨s0,s1,s2,s3⟩:=hS;go_simp;try with_reducible rfl))
  (refine wpAnyH_take (i:=8) (v:=?_) rfl (by kernel_rfl) (by kernel_rfl) (by kernel_rfl) (fun _ _ _ h=>h) (Or.inl ⟨by rfl,fun W' hS=>?_⟩) hS0 ?_;rotate_left;· (obtain⟨s0,s1,s2,s3⟩:=hS;go_simp;try with_reducible rfl))
  (refine wpAnyH_take (i:=9) (v:=?_) rfl (by kernel_rfl) (by kernel_rfl) (by kernel_rfl) (fun _ _ _ h=>h) (Or.inl ⟨by rfl,fun W' hS=>?_⟩) hS0 ?_;rotate_left;· (obtain⟨s0,s1,s2,s3⟩:=hS;go_simp;try with_reducible rfl))
  (refine wpAnyH_take (i:=10) (v:=?_) rfl (by kernel_rfl) (by kernel_rfl) (by kernel_rfl) (fun _ _ _ h=>h) (Or.inl ⟨by rfl,fun W' hS=>?_⟩) hS0 ?_;rotate_left;· (obtain⟨s0,s1,s2,s3⟩:=hS;go_simp;try with_reducible rfl))
  (refine wpAnyH_take (i:=11) (v:=?_) rfl (by kernel_rfl) (by kernel_rfl) (by kernel_rfl) (fun _ _ _ h=>h) (Or.inl ⟨by rfl,fun W' hS=>?_⟩) hS0 ?_;rotate_left;· (obtain⟨s0,s1,s2,s3⟩:=hS;go_simp;try with_reducible rfl))
  refine wpAnyH_ready (rs:=[12]) (by kernel_rfl) (by simp) ?_;refine AllReadyH.cons rfl (fun K9 hK9=>?_) AllReadyH.nil;go_simp;have hA:=fun a:Addr=>World.cell?_alloc_lt w.drew (.cells #[.int .i64 0,.int .i64 0,.string { data:=#[] }] 78) a
  have hS1:=And.intro ((hA ⟨b,0,none⟩ hlb).trans c0) (And.intro ((hA ⟨bA,oA+m * 3,none⟩ hlA).trans x0) (And.intro ((hA ⟨bA,oA+m * 3+1,none⟩ hlA).trans x1) ((hA ⟨bA,oA+m * 3+2,none⟩ hlA).trans x2)));refine hK9.out _ _ hS1 (fun _=>?_);clear hK9 K9;refine wpAnyH_ready (rs:=[13]) (by kernel_rfl) (by simp) ?_;refine AllReadyH.cons rfl (fun K9 hK9=>?_) AllReadyH.nil;go_simp;have hS2:=And.intro ((World.cell?_alloc_lt w.drew (.cells #[.int .i64 x.p,.int .i64 x.q,.string x.t] 78) ⟨b,0,none⟩ hlb).trans c0) (And.intro ((World.cell?_alloc_lt w.drew (.cells #[.int .i64 x.p,.int .i64 x.q,.string x.t] 78) ⟨bA,oA+m * 3,none⟩ hlA).trans x0) (And.intro ((World.cell?_alloc_lt w.drew (.cells #[.int .i64 x.p,.int .i64 x.q,.string x.t] 78) ⟨bA,oA+m * 3+1,none⟩ hlA).trans x1) ((World.cell?_alloc_lt w.drew (.cells #[.int .i64 x.p,.int .i64 x.q,.string x.t] 78) ⟨bA,oA+m * 3+2,none⟩ hlA).trans x2)));refine hK9.out _ _ hS2 (fun _=>?_);clear hK9 K9;refine wpAnyH_done (by kernel_rfl) ?_ _;go_wp2;go_ret;exact⟨by rw [HZ.out];simp [wrap64],((bR9 _ w).alloc (nR9 _) _).drew⟩
def mustE (L:List Wd) (k:Nat) (is:Bool):Ending:=if is then .returned (.tuple #[]) else .panicked (wrongV (wrongP L k))
theorem must_any (b cap k:Nat) (A:Option Addr) (L:List Wd) (is:Bool) (w:World) (hn:L.length<=1000000) (hk:k<=2000000) (hr:RdAt w b A cap L k) :
  Calls Tryz.prog 120 #[.pointer (some ⟨b,0,none⟩),.bool is] w fun e w'=>e=mustE L k is/\Below w.heap.size w w':=by
 cases is with
 |true=>
  go_enter Tryz.func120,Tryz.ntmps120;go_wp2;go_end0
  exact⟨rfl,bR9 _ _⟩
 |false=>
 have HEND:=hI9 (fun N=>end_any b cap k A L (w.drewN N) hn hr);obtain⟨c0,c1⟩:=hr.cells;have hW:=hI9 hr.2;have HR:=hI9 hr;obtain⟨p,hp⟩:∃ z,z=wrongP L k:=⟨_,rfl⟩;have HP:=hI9 hp;unfold mustE;rw [<- hp];clear hr hp;obtain⟨n,hn'⟩:∃ n,n=L.length:=⟨_,rfl⟩;rw [<- hn'] at c0 hn;by_cases hlt:k<n
 .have hil:k<L.length:=by omega
  have HZ:Hid (p=L[k].p):=hI9 (by rw [HP.out,wrongP,List.getElem?_eq_getElem hil]);obtain⟨bA,oA,rfl,hlt',hc⟩:=hW.out (by omega);obtain⟨x0,x1,x2⟩:=hc k hil;generalize L[k]=x at x0 x1 x2 HZ;clear hc hn';go_enter Tryz.func120,Tryz.ntmps120;go_wp2;go_quiet (fail)
  go_wp2;have hS0:w.drew.drew.cell? ⟨b,0,none⟩=some (.slice (some ⟨bA,oA,none⟩) n cap)/\w.drew.drew.cell? ⟨b,1,none⟩=some (.int .i64 k)/\w.drew.drew.cell? ⟨bA,oA+k * 3,none⟩=some (.int .i64 x.p):=⟨c0,c1,x0⟩;refine wp_region_held_drew (S:=fun W=>W.cell? ⟨b,0,none⟩=some (.slice (some ⟨bA,oA,none⟩) n cap)/\W.cell? ⟨b,1,none⟩=some (.int .i64 k)/\W.cell? ⟨bA,oA+k * 3,none⟩=some (.int .i64 x.p)) (by kernel_rfl) hS0 (fun _=>?_)
  (refine wpAnyH_take (i:=0) (v:=?_) rfl (by kernel_rfl) (by kernel_rfl) (by kernel_rfl) (fun _ _ _ h=>h) (Or.inl ⟨by rfl,fun W' hS=>?_⟩) hS0 ?_;rotate_left;· (obtain⟨s0,s1,s2⟩:=hS;go_simp;try with_reducible rfl))
  (refine wpAnyH_take (i:=1) (v:=?_) rfl (by kernel_rfl) (by kernel_rfl) (by kernel_rfl) (fun _ _ _ h=>h) (Or.inl ⟨by rfl,fun W' hS=>?_⟩) hS0 ?_;rotate_left;· (obtain⟨s0,s1,s2⟩:=hS;go_simp;try with_reducible rfl))
  (refine wpAnyH_take (i:=2) (v:=?_) rfl (by kernel_rfl) (by kernel_rfl) (by kernel_rfl) (fun _ _ _ h=>h) (Or.inl ⟨by rfl,fun W' hS=>?_⟩) hS0 ?_;rotate_left;· (obtain⟨s0,s1,s2⟩:=hS;go_simp;try with_reducible rfl))
  (refine wpAnyH_take (i:=3) (v:=?_) rfl (by kernel_rfl) (by kernel_rfl) (by kernel_rfl) (fun _ _ _ h=>h) (Or.inl ⟨by rfl,fun W' hS=>?_⟩) hS0 ?_;rotate_left;· (obtain⟨s0,s1,s2⟩:=hS;go_simp;try with_reducible rfl))
  (refine wpAnyH_take (i:=4) (v:=?_) rfl (by kernel_rfl) (by kernel_rfl) (by kernel_rfl) (fun _ _ _ h=>h) (Or.inl ⟨by rfl,fun W' hS=>?_⟩) hS0 ?_;rotate_left;· (obtain⟨s0,s1,s2⟩:=hS;go_simp;try with_reducible rfl))
  (refine wpAnyH_take (i:=5) (v:=?_) rfl (by kernel_rfl) (by kernel_rfl) (by kernel_rfl) (fun _ _ _ h=>h) (Or.inl ⟨by rfl,fun W' hS=>?_⟩) hS0 ?_;rotate_left;· (obtain⟨s0,s1,s2⟩:=hS;go_simp;try with_reducible rfl))
  (refine wpAnyH_take (i:=6) (v:=?_) rfl (by kernel_rfl) (by kernel_rfl) (by kernel_rfl) (fun _ _ _ h=>h) (Or.inl ⟨by rfl,fun W' hS=>?_⟩) hS0 ?_;rotate_left;· (obtain⟨s0,s1,s2⟩:=hS;go_simp;try with_reducible rfl))
  (refine wpAnyH_take (i:=7) (v:=?_) rfl (by kernel_rfl) (by kernel_rfl) (by kernel_rfl) (fun _ _ _ h=>h) (Or.inl ⟨by rfl,fun W' hS=>?_⟩) hS0 ?_;rotate_left;· (obtain⟨s0,s1,s2⟩:=hS;go_simp;try with_reducible rfl))
  (refine wpAnyH_take (i:=8) (v:=?_) rfl (by kernel_rfl) (by kernel_rfl) (by kernel_rfl) (fun _ _ _ h=>h) (Or.inl ⟨by rfl,fun W' hS=>?_⟩) hS0 ?_;rotate_left;· (obtain⟨s0,s1,s2⟩:=hS;go_simp;try with_reducible rfl))
  (refine wpAnyH_take (i:=9) (v:=?_) rfl (by kernel_rfl) (by kernel_rfl) (by kernel_rfl) (fun _ _ _ h=>h) (Or.inl ⟨by rfl,fun W' hS=>?_⟩) hS0 ?_;rotate_left;· (obtain⟨s0,s1,s2⟩:=hS;go_simp;try with_reducible rfl))
  (refine wpAnyH_take (i:=10) (v:=?_) rfl (by kernel_rfl) (by kernel_rfl) (by kernel_rfl) (fun _ _ _ h=>h) (Or.inl ⟨by rfl,fun W' hS=>?_⟩) hS0 ?_;rotate_left;· (obtain⟨s0,s1,s2⟩:=hS;go_simp;try with_reducible rfl))
  (refine wpAnyH_take (i:=11) (v:=?_) rfl (by kernel_rfl) (by kernel_rfl) (by kernel_rfl) (fun _ _ _ h=>h) (Or.inl ⟨by rfl,fun W' hS=>?_⟩) hS0 ?_;rotate_left;· (obtain⟨s0,s1,s2⟩:=hS;go_simp;try with_reducible rfl))
  (refine wpAnyH_take (i:=12) (v:=?_) rfl (by kernel_rfl) (by kernel_rfl) (by kernel_rfl) (fun _ _ _ h=>h) (Or.inl ⟨by rfl,fun W' hS=>?_⟩) hS0 ?_;rotate_left;· (obtain⟨s0,s1,s2⟩:=hS;go_simp;try with_reducible rfl))
  refine wpAnyH_ready (rs:=[13]) (by kernel_rfl) (by simp) ?_;refine AllReadyH.cons rfl (fun K9 hK9=>?_) AllReadyH.nil;go_simp;exact⟨rfl,by rw [HZ.out];rfl,qaP (bR9 _ w) _⟩
 .have HZ:Hid (p=endP L):=hI9 (by rw [HP.out,wrongP,List.getElem?_eq_none (by omega)]);clear hn';go_enter Tryz.func120,Tryz.ntmps120;go_wp2;go_quiet (fail)
  go_wp2_with (first|(go_at_call 95;refine (HEND.out _).mono ?_;rintro e w1 ⟨rfl,hb1⟩))
  have hb2:=(qaP (bR9 w.heap.size w) _).trans hb1;exact⟨rfl,by rw [HZ.out];rfl,hb2⟩
theorem next_any (b cap k:Nat) (A:Option Addr) (L:List Wd) (w:World) (hn:L.length<=1000000) (hk:k<=2000000) (hr:RdAt w b A cap L k) :
  Calls Tryz.prog 121 #[.pointer (some ⟨b,0,none⟩)] w fun e w'=>e=.returned (.string (nextP L k))/\Below w.heap.size w w':=by
 obtain⟨c0,c1⟩:=hr.cells;have hW:=hI9 hr.2;obtain⟨p,hp⟩:∃ z,z=nextP L k:=⟨_,rfl⟩;have HP:=hI9 hp;rw [<- hp];clear hr hp;obtain⟨n,hn'⟩:∃ n,n=L.length:=⟨_,rfl⟩;rw [<- hn'] at c0 hn;by_cases hlt:k<n
 .have hil:k<L.length:=by omega
  have HZ:Hid (p=L[k].t):=hI9 (by rw [HP.out,nextP,List.getElem?_eq_getElem hil]);obtain⟨bA,oA,rfl,hlt',hc⟩:=hW.out (by omega);obtain⟨x0,x1,x2⟩:=hc k hil;generalize L[k]=x at x0 x1 x2 HZ;clear hc hn';go_enter Tryz.func121,Tryz.ntmps121;go_wp2;go_quiet (fail)
  go_wp2;go_quiet (fail)
  go_wp2;go_ret;exact⟨by rw [HZ.out];rfl,qaP (qaP (bR9 _ w) _) _⟩
 .have HZ:Hid (p=ByteArray.empty):=hI9 (by rw [HP.out,nextP,List.getElem?_eq_none (by omega)]);clear hn';go_enter Tryz.func121,Tryz.ntmps121;go_wp2;go_quiet (fail)
  go_wp2;go_ret;exact⟨by rw [HZ.out];rfl,qaP (bR9 _ w) _⟩
end Go.Proofs.YtgnaaokhfpfglaaGreatDoor
end
section
namespace Go.Proofs.YtgnaaokhfpfglaaGreatDoor
open Go.RowKit Go.Lib
def Tabs (w:World):Prop:=(Lib.TabIs Tryz.prog w "internal/strconv.uint64pow10" .u64 Lib.pow10Tab/\1<w.heap.size)/\∃ m,w.cell? ⟨0,0,none⟩=some (.int .i64 m)
theorem Tabs.below {w w':World} (h:Tabs w) (hb:Below w.heap.size w w'):Tabs w':=by
 obtain⟨⟨h1,h2⟩,m,h3⟩:=h;exact⟨⟨qaR h1 hb h2,Nat.lt_of_lt_of_le h2 hb.size⟩,m,(hb.cell (p:=⟨0,0,none⟩) (bLt _ _ h3)).trans h3⟩
end Go.Proofs.YtgnaaokhfpfglaaGreatDoor
end
section
namespace Go.Proofs.YtgnaaokhfpfglaaGreatDoor
open Go.RowKit Go.Shelf Go.Lib
def AllNum (L:List ByteArray) (most:Int):Prop:=∀ (i:Nat) x,L[i]? = some x->NumOk x.data.toList most
def numsOf (L:List ByteArray):List Int:=L.map fun x=>(numV x.data.toList:Int)
theorem take_num {L:List ByteArray} {i:Nat} {x:ByteArray} (h:L[i]? = some x):numsOf (L.take (i+1))=numsOf (L.take i)++[(numV x.data.toList:Int)]:=by
 obtain⟨hk,he⟩:=List.getElem?_eq_some_iff.1 h;unfold numsOf;rw [List.take_succ_eq_append_getElem hk,List.map_append,he];rfl
theorem numbers_any (s:ByteArray) (hs:s.size<=2097152) (most:Int) (m:Int) (w:World) (hm1 : -9223372036854775808<=most) (hm2:most<=9223372036854775807) (L:List ByteArray) (hL:Lib.splitB ⟨#[44]⟩ 0 (Lib.countB s ⟨#[44]⟩) s=L) (hLl:L.length<=4000000)
  (hm:w.cell? ⟨0,0,none⟩=some (.int .i64 m)) :
  Calls Tryz.prog 87 #[.string s,.int .i64 most] w fun e w'=>
   ((AllNum L most/\∃ v,e=.returned (.tuple #[v,.bool true])/\w'.ownsRow w.heap.size 2 1 v L.length ((numsOf L).map (Value.int .i64)))\/(¬ AllNum L most/\e=.returned (.tuple #[.slice none 0 0,.bool false])))/\Below w.heap.size w w':=by
 obtain⟨i0,hi0,hz0,hz1,hz2⟩:=info_parts infoL;have hsplit:=(Tryz.strings_Split s ⟨#[44]⟩ m w (by omega) hm (by decide)).mono (R':=fun e w'=>e=.returned (.slice (some ⟨w.heap.size,0,none⟩) L.length L.length)/\w' = w.alloc (.cells (L.map Value.string).toArray 9)) (fun e w' ⟨he,hw⟩=>by
  have hlen:=Lib.splitB_all ⟨#[44]⟩ (by decide) 0 _ s rfl;rw [hL] at hlen hw
  exact⟨by rw [he,hlen],hw⟩)
 clear hL;go_enter Tryz.func87,Tryz.ntmps87;go_wp2_with (go_at_call 82;refine hsplit.mono ?_;rintro e w' ⟨rfl,rfl⟩)
 have hnew:=heap_alloc_new w (.cells (L.map Value.string).toArray 9);have hb0:=(bR9 w.heap.size w).alloc (nR9 _) (.cells (L.map Value.string).toArray 9);generalize w.alloc (.cells (L.map Value.string).toArray 9)=W0 at hnew hb0 ⊢;obtain⟨B,hB⟩:∃ B,w.heap.size=B:=⟨_,rfl⟩;rw [hB] at hnew hb0 ⊢;clear hsplit;go_loopw [6,14] (fun v6 v14 wr=>∃ (i:Nat),v14=.int .i64 i/\i<=L.length/\wr.ownsRow (B+1) 2 1 v6 i ((numsOf (L.take i)).map (Value.int .i64))/\wr.heap[B]? = some (.cells (L.map Value.string).toArray 9 (0,0))/\Below B w wr /\
   Hid (∀ (j:Nat) x,j<i->L[j]? = some x->NumOk x.data.toList most)) (fun _ v14 _=>L.length - (RowKit.intOf v14).toNat)
 case atStart=>exact⟨0,rfl,Nat.zero_le _,World.ownsRow_nil _ _ _ _,hnew,hb0,hI9 (fun j x h=>absurd h (by omega))⟩
 case round=>
  obtain⟨i,rfl,hi,hrow,hblk,hbw,hok⟩:=hrel;by_cases hil:i<L.length
  .obtain⟨x,hx⟩:∃ x,L[i]? = some x:=⟨L[i],by simp [hil]⟩;have hcell:wr.cell? ⟨B,i,none⟩=some (.string x):=by simp [World.cell?,hblk,hx]
   have HX:=hI9 hx;have hlt:=lt_of_block hblk;clear hx;go_upto_if 25 with (go_at_call 88;refine (number_any x most _ hm1 hm2).mono ?_;rintro e w1 ⟨hres,hb1⟩;have hblk1:=(hb1.block B hlt).trans hblk;have hrow1:=qaO hrow hb1 (nR9 _);rcases hres with ⟨hgood,rfl⟩|⟨hbad,rfl⟩)
   .have hbw1:=hbw.trans (hb1.mono (Nat.le_of_lt hlt));have hsz1:=lt_of_block hblk1;generalize hnv:numV x.data.toList=N at *
    have HNV:=hI9 hnv;clear hnv;go_wp2_with (at_builtin;refine wpList_append_own _ rfl _ _ 38 rfl (B+1) 2 i0 _ 1 8 Tryz.underlying38 hi0 hz0 hz1 hz2 rfl (by decide) _ _ _ rfl (hrow1.alloc _) ⟨w1.heap.size,0,none⟩ 1 1 [.int .i64 (N:Int)] rfl rfl (cell_one_new _ _ _) (by simp [Value.oneCell']) (by unfold maxLen;omega) (by omega) (by simp;omega) ?_;intro v' w2 hown' hgrow _)
    have hbw2:Below B w w2:=(hbw1.alloc (Nat.le_of_lt hsz1) _).grown hgrow (by simp;omega) (fun k e=>by have:=(hrow1.lt k e).1;omega);have hblk2:w2.heap[B]? = some (.cells (L.map Value.string).toArray 9 (0,0)):=by
     refine (hgrow.block B (by simp;omega) (fun e=>?_)).trans ((Below.heap_alloc w1 _ B hsz1).trans hblk1);have:=(hrow1.lt B e.symm).1;omega
    go_roundw
    case rel=>exact⟨i+1,by simp,hil,by rw [take_num HX.out,HNV.out];simpa using hown',hblk2,hbw2,hI9 (fun j y hj hy=>by
     by_cases hji:j=i
     .subst hji;rw [HX.out] at hy;cases hy;exact hgood
     .exact hok.out j y (by omega) hy)⟩
    case measure=>simp [RowKit.intOf];omega
   .go_wp2;go_ret2;exact⟨.inr ⟨fun h=>hbad (h i x HX.out),rfl⟩,by rw [hB];exact hbw.trans (hb1.mono (Nat.le_of_lt hlt))⟩
  .obtain rfl:i=L.length:=by omega
   go_wp2;go_ret2;exact⟨.inl ⟨fun j x hx=>hok.out j x (List.getElem?_eq_some_iff.1 hx).1 hx,_,rfl,by rw [List.take_length] at hrow;exact ownsRow_base hrow (by omega)⟩,by rw [hB];exact hbw⟩
def slc (s:UInt8):List UInt8->List (List UInt8)
 |[]=>[[]]
 |c::l=>if c=s then []::slc s l else (c::(slc s l).headD [])::(slc s l).tail
theorem slc_cons (s:UInt8) (l:List UInt8):∃ h t,slc s l=h::t:=by
 cases l with
 |nil=>exact⟨[],[],rfl⟩
 |cons c l=>
  by_cases hc:c=s
  .exact⟨[],slc s l,by simp [slc,hc]⟩
  .exact⟨_,_,by simp [slc,hc];exact⟨rfl,rfl⟩⟩
theorem splitK_slc (s:UInt8):∀ l:List UInt8,Lib.splitK [s] 0 (Lib.count l [s]) l=slc s l:=by
 intro l
 induction l with
 |nil=>rfl
 |cons c l ih=>
  by_cases hc:c=s
  .subst hc;rw [Lib.count_cons_eq,Nat.add_comm];have hi:Lib.index (c::l) [c]=0:=by rw [Lib.index_one,qbh,if_pos rfl]
   rw [Lib.splitK,hi];simp [slc,ih]
  .rw [Lib.count_cons_ne c s l hc];have hs:slc s (c::l)=(c::(slc s l).headD [])::(slc s l).tail:=by simp [slc,hc]
   rw [hs,<- ih];have hi:Lib.index (c::l) [s]=if Lib.indexByte l s = -1 then -1 else Lib.indexByte l s+1:=by rw [Lib.index_one,qbh,if_neg hc]
   cases hk:Lib.count l [s] with
   |zero=>simp [Lib.splitK]
   |succ k=>
    rw [Lib.splitK,Lib.splitK,hi,Lib.index_one];by_cases h1:Lib.indexByte l s = -1
    .simp [h1]
    .have h2:=Lib.indexByte_ge l s;obtain⟨i,h3⟩:∃ i:Nat,Lib.indexByte l s=i:=⟨(Lib.indexByte l s).toNat,by omega⟩;rw [h3];have h4:¬ ((i:Int) = -1):=by omega
     have h5:¬ ((i:Int)+1 = -1):=by omega
     have h6:((i:Int)+1).toNat=i+1:=by omega
     simp [h4,h5,h6]
theorem slc_app (s:UInt8) (l:List UInt8):∀ x:List UInt8,s ∉ x->slc s (x++l)=(x++(slc s l).headD [])::(slc s l).tail:=by
 intro x
 induction x with
 |nil=>
  intro _;obtain⟨h,t,e⟩:=slc_cons s l;simp [e]
 |cons c x ih=>
  intro h;have hc:c≠s:=fun e=>h (by rw [e];exact List.mem_cons_self)
  have:=ih (fun hm=>h (List.mem_cons_of_mem _ hm));simp only [List.cons_append,slc,if_neg hc];rw [this];rfl
theorem slc_join (s:UInt8):∀ (r:List (List UInt8)) (x:List UInt8),s ∉ x->(∀ y ∈ r,s ∉ y)->slc s (Lib.join (x::r) [s])=x::r:=by
 intro r
 induction r with
 |nil=>
  intro x hx _;rw [Lib.join_one];have:=slc_app s [] x hx
  simpa [slc] using this
 |cons y r ih=>
  intro x hx hr;have h1:=ih y (hr y List.mem_cons_self) (fun z hz=>hr z (List.mem_cons_of_mem _ hz));rw [Lib.join_cons] at h1 ⊢;have e:Lib.joinTail [s] (y::r)=s::(y++Lib.joinTail [s] r):=by simp [Lib.joinTail]
  rw [e,slc_app s _ x hx];simp only [slc];rw [h1];simp
theorem dec_no44 (u:Nat):(44:UInt8) ∉ decDigits u:=by
 intro h;have:=(dec_num u).2.1 44 h;unfold isD at this
 revert this
 decide
theorem map_inj:∀ (L M:List ByteArray),L.map (·.data.toList)=M.map (·.data.toList)->L=M:=by
 intro L
 induction L with
 |nil=>intro M h;cases M with
  |nil=>rfl
  |cons a b=>simp at h
 |cons x L ih=>
  intro M h;cases M with
  |nil=>simp at h
  |cons y M=>
   simp only [List.map_cons,List.cons.injEq] at h;rw [ih M h.2]
   congr 1
   exact ByteArray.ext (Array.toList_inj.1 h.1)
theorem split_join (x:Int) (L:List Int) (h:∀ y ∈ x::L,0<=y) (s:ByteArray) (hs:s=⟨(Lib.join ((x::L).map itoa) [44]).toArray⟩):Lib.splitB ⟨#[44]⟩ 0 (Lib.countB s ⟨#[44]⟩) s=digs (x::L):=by
 apply map_inj;rw [Lib.splitB_data,digs_data];have h1:(ByteArray.mk #[44]).data.toList=[44]:=rfl;rw [h1];have hc:Lib.countB s ⟨#[44]⟩=Lib.count s.data.toList [44]:=rfl;rw [hc,splitK_slc,hs];have hno:∀ y:Int,0<=y->(44:UInt8) ∉ itoa y:=fun y hy=>by
  unfold itoa;rw [if_neg (by omega)];exact dec_no44 _
 exact slc_join 44 (L.map itoa) (itoa x) (hno x (h x List.mem_cons_self)) (fun y hy=>by
  obtain⟨z,hz,rfl⟩:=List.mem_map.1 hy
  exact hno z (h z (List.mem_cons_of_mem _ hz)))
theorem join_any (A:Option Addr) (cap:Nat) (L:List Int) (w:World) (hL:∀ x ∈ L,-9223372036854775808<=x/\x<=9223372036854775807) (hn:L.length<=1000) (hr:NRow w w.heap.size A L)
  (htab:Lib.TabIs Tryz.prog w "internal/strconv.uint64pow10" .u64 Lib.pow10Tab) (hg:1<w.heap.size) :
  Calls Tryz.prog 39 #[.slice A L.length cap] w fun e w'=>e=.returned (.string ⟨(Lib.join (L.map itoa) [44]).toArray⟩)/\Below w.heap.size w w':=by
 obtain⟨i0,hi0,hz0,hz1,hz2⟩:=info_parts infoS;obtain⟨n,hn'⟩:∃ n,n=L.length:=⟨_,rfl⟩;rw [<- hn'] at hn ⊢;have HN:=hI9 hn';clear hn';go_enter Tryz.func39,Tryz.ntmps39;go_wp2_with (at_make;refine wpList_make_full _ rfl _ _ 103 rfl w.heap.size 9 i0 _ 1 Tryz.underlying103 hi0 hz0 hz1 _ _ _ _ n rfl rfl rfl rfl (by rw [hz2];omega) (by unfold maxLen;omega) (nR9 _) ?_;intro w1 hown1 hg1)
 have hb1:Below w.heap.size w w1:=⟨hg1.os,hg1.tape,hg1.output,hg1.size,fun k hk=>hg1.block k hk (by simp)⟩;obtain⟨B,hB⟩:∃ B,w.heap.size=B:=⟨_,rfl⟩;have hblk0:w1.heap[B]? = some (.cells (Lib.cellsOf [] n) 9 (0,0)):=by
  rw [Lib.cellsOf_nil,<- hB];have h9:w1.ownsRow w.heap.size 9 1 (.slice (some ⟨w.heap.size,0,none⟩) n n) n (madeCells #[.string ByteArray.empty] n).toList:=by
   rw [Nat.mul_one] at hown1;exact hown1
  exact full_block h9 (by simp [madeCells])
 rw [hB] at hb1 hr hg ⊢;go_loopw [11] (fun v11 wr=>∃ i:Nat,v11=.int .i64 i/\i<=n/\wr.heap[B]? = some (.cells (Lib.cellsOf (digs (L.take i)) n) 9 (0,0))/\Below B w wr) (fun v11 _=>n - (RowKit.intOf v11).toNat)
 case atStart=>exact⟨0,rfl,Nat.zero_le _,hblk0,hb1⟩
 case round=>
  obtain⟨i,rfl,hi,hblk,hbw⟩:=hrel;by_cases hin:i<n
  .have hil:i<L.length:=by rw [<- HN.out];exact hin
   obtain⟨b1,o1,rfl,hlt1,hc1⟩:=hr (by omega);have a0:=(hbw.cell (p:=⟨b1,_,none⟩) hlt1).trans (hc1 i hil);obtain⟨x1,x2⟩:=hL L[i] (List.getElem_mem hil);have HT:=hI9 (take_digs hil);have hlt:=lt_of_block hblk;generalize hxx:L[i]=x at *
   clear hc1 hxx;have hlen:(digs (L.take i)).length=i:=by unfold digs;rw [List.length_map,List.length_take];omega
   have hd:=hI9 (qbc x wr x1 x2 (qaR htab hbw hg));go_upto_region 6 with (go_at_call 73;refine hd.out.mono ?_;rintro e w2 ⟨rfl,hb2⟩;have hblk2:=(hb2.block B hlt).trans hblk;obtain⟨hc2,hf2⟩:=str_cell hblk2 hlen hin)
   have hblk3:=str_set hblk2 hlen hin ⟨(itoa x).toArray⟩;rw [<- HT.out] at hblk3;have hbw3:Below B w (w2.setCell ⟨B,i,none⟩ (.string ⟨(itoa x).toArray⟩)):=(hbw.trans (hb2.mono (Nat.le_of_lt hlt))).setCell (p:=⟨B,i,none⟩) (nR9 _) _;go_wp2;go_roundw
   case rel=>exact⟨i+1,by simp,hin,hblk3,hbw3⟩
   case measure=>simp [RowKit.intOf];omega
  .obtain rfl:i=n:=by omega
   rw [HN.out,List.take_length] at hblk;have hlen2:(digs L).length=L.length:=by unfold digs;rw [List.length_map]
   have hfull:Lib.cellsOf (digs L) L.length=((digs L).map Value.string).toArray:=by unfold Lib.cellsOf;rw [hlen2];simp
   rw [hfull] at hblk;have hcells:∀ (j:Nat) x,(digs L)[j]? = some x->wr.cell? ⟨B,0+j,none⟩=some (.string x):=fun j x hx=>by simp [World.cell?,hblk,hx]
   have hj:=Tryz.strings_Join B 0 L.length (digs L) ⟨#[44]⟩ wr hcells (lt_of_block hblk) (by rw [hlen2,<- HN.out];omega) (by omega) (by
    rw [digs_data];have h1:=join_len [44] (L.map itoa) (fun y hy=>by
     obtain⟨z,hz,rfl⟩:=List.mem_map.1 hy
     exact itoa_len z (hL z hz).1 (hL z hz).2)
    rw [List.length_map,<- HN.out] at h1;have h2:(ByteArray.mk #[44]).data.toList=[44]:=rfl;rw [h2];simp at h1
    omega)
   rw [digs_data,hlen2,<- HN.out] at hj;have hj':=hI9 hj;have hltB:=lt_of_block hblk;clear hj hcells hblk hfull hlen2;go_wp2_with (go_at_call 74;refine hj'.out.mono ?_;rintro e w9 ⟨rfl,hb9⟩)
   go_ret;exact⟨rfl,by rw [hB];exact hbw.trans (hb9.mono (Nat.le_of_lt hltB))⟩
end Go.Proofs.YtgnaaokhfpfglaaGreatDoor
end
section
namespace Go.Proofs.YtgnaaokhfpfglaaGreatDoor
open Go.RowKit Go.Shelf Go.Lib Go.Proofs.YtgnaaokhfpfglaaGreatDoorW.PrintWords
theorem nrow_of_C {w:World} {A:Option Addr} {l:List Int} (h:Kd.C (Kd.int .i64) w A l.length l):NRow w w.heap.size A l:=by
 intro hl;obtain⟨_,_,h⟩:=h;obtain⟨ad,rfl,hc⟩:=h hl;have hat:∀ j (hj:j<l.length),w.cell? (ad.add j)=some (.int .i64 l[j]):=by
  intro j hj;obtain⟨c,_,hk,hcell⟩:=hc j _ (List.getElem?_eq_getElem hj);obtain rfl:c=[.int .i64 l[j]]:=hk;have:=hcell 0 _ rfl
  rwa [show (Kd.int .i64).sz=1 from rfl,Nat.mul_one,Nat.add_zero] at this
 have h00:=hat 0 hl;have hsp:=World.cell?_spot h00;have hlt:=bLt w _ h00;obtain⟨b,off,spot⟩:=ad;have hs:spot=none:=by simpa [Addr.add] using hsp
 subst hs;have hadd:∀ j,(⟨b,off,none⟩:Addr).add j=⟨b,off+j,none⟩:=fun j=>by unfold Addr.add;split<;>simp_all
 refine⟨b,off,rfl,by simpa [hadd] using hlt,fun i hi=>?_⟩;have:=hat i hi
 rwa [hadd] at this
theorem R_nums {w:World} {base:Nat} {e:TypeId} {v:Value} {L:List Int} (h:w.ownsRow base e 1 v L.length (L.map (Value.int .i64))):Kd.R (Kd.int .i64) e w base (fun _=>True) v L:=
 ⟨fun _ _=>trivial,L.map (Value.int .i64),h,by
  have:=Kd.reps_scalar (enc:=Value.int .i64) L
  exact this.imp_ (fun _ _ h=>h)⟩
section
open Classical
noncomputable def numP (s:ByteArray) (most:Int):Int × Bool:=if NumOk s.data.toList most then ((numV s.data.toList:Int),true) else (0,false)
def commas (s:ByteArray):List ByteArray:=Lib.splitB ⟨#[44]⟩ 0 (Lib.countB s ⟨#[44]⟩) s
noncomputable def numsP (s:ByteArray) (most:Int):List Int × Bool:=if AllNum (commas s) most then (numsOf (commas s),true) else ([],false)
end
def joinP (l:List Int):ByteArray:=⟨(Lib.join (l.map itoa) [44]).toArray⟩
theorem commas_slc (s:ByteArray):(commas s).map (·.data.toList)=slc 44 s.data.toList:=by
 unfold commas;rw [Lib.splitB_data];exact splitK_slc 44 _
theorem slc_len (c:UInt8):∀ l:List UInt8,(slc c l).length<=l.length+1:=by
 intro l
 induction l with
 |nil=>exact nR9 _
 |cons x l ih=>
  rw [slc];split
  .simp only [List.length_cons];omega
  .obtain⟨h,t,e⟩:=slc_cons c l;rw [e] at ih ⊢;simp only [List.tail_cons,List.length_cons] at ih ⊢;omega
theorem commas_len (s:ByteArray):(commas s).length<=s.size+1:=by
 have h:=slc_len 44 s.data.toList;rw [<- commas_slc,List.length_map] at h;rw [Lib.size_eq];exact h
theorem number_P (s:ByteArray) (most:Int) (w:World) (hm1 : -9223372036854775808<=most) (hm2:most<=9223372036854775807) :
  Calls Tryz.prog 88 #[.string s,.int .i64 most] w fun e w'=>e=.returned (.tuple #[.int .i64 (numP s most).1,.bool (numP s most).2])/\Below w.heap.size w w':=
 (number_any s most w hm1 hm2).mono fun e w' ⟨h,hb⟩=>by
  unfold numP;rcases h with ⟨h1,rfl⟩|⟨h1,rfl⟩
  .rw [if_pos h1];exact⟨rfl,hb⟩
  .rw [if_neg h1];exact⟨rfl,hb⟩
theorem numbers_P (s:ByteArray) (hs:s.size<=2097152) (most m:Int) (w:World) (hm1 : -9223372036854775808<=most) (hm2:most<=9223372036854775807) (hm:w.cell? ⟨0,0,none⟩=some (.int .i64 m)) :
  Calls Tryz.prog 87 #[.string s,.int .i64 most] w fun e w'=>∃ v0_:Value,e=.returned (.tuple #[v0_,.bool (numsP s most).2])/\Kd.R (Kd.int .i64) 2 w' w.heap.size (fun _=>True) v0_ (numsP s most).1/\Below w.heap.size w w':=
 (numbers_any s hs most m w hm1 hm2 (commas s) rfl (by have:=commas_len s;omega) hm).mono fun e w' ⟨h,hb⟩=>by
  unfold numsP;rcases h with ⟨h1,v,rfl,ho⟩|⟨h1,rfl⟩
  .rw [if_pos h1];exact⟨v,rfl,R_nums (by rw [show (numsOf (commas s)).length=(commas s).length by simp [numsOf]];exact ho),hb⟩
  .rw [if_neg h1];exact⟨_,rfl,Kd.R_nil _ _ _ _ _,hb⟩
end Go.Proofs.YtgnaaokhfpfglaaGreatDoor
end
section
namespace Go.Proofs.YtgnaaokhfpfglaaGreatDoor
open Go.RowKit Go.Shelf Go.Lib Go.Proofs.YtgnaaokhfpfglaaGreatDoorW.PrintWords
def Stp (w:World) (b cap:Nat) (A:Option Addr) (L:List Wd) (k:Nat) (ok:Bool) (v:Value) (e:Ending) (w':World):Prop:=
 (if ok then e=.returned v/\RdAt w' b A cap L (k+1) else e=.panicked (wrongV (wrongP L k)))/\w.grownBy w' (some b)
theorem qah {w w':World} (h:Below w.heap.size w w') (row:Option Nat):w.grownBy w' row:=⟨h.os,h.tape,h.output,h.size,fun k hk _=>h.block k hk⟩
theorem qak {w w1 w2:World} {row:Option Nat} (h:w.grownBy w1 row) (k:w1.grownBy w2 row):w.grownBy w2 row:=
 ⟨k.os.trans h.os,k.tape.trans h.tape,k.output.trans h.output,Nat.le_trans h.size k.size,fun i hi hne=>(k.block i (Nat.lt_of_lt_of_le hi h.size) hne).trans (h.block i hi hne)⟩
theorem RdAt.frozen {w:World} {b cap k:Nat} {A:Option Addr} {L:List Wd} (h:RdAt w b A cap L k):w.frozen? ⟨b,1,none⟩=false:=by
 have:=h.1;simp [World.frozen?,this]
theorem w64_succ' (k:Nat) (hk:k<=2000000):IntKind.i64.wrap ((k:Int)+1)=((k+1:Nat):Int):=by rw [IntKind.wrap_i64];omega
theorem bytes_ne {x s:ByteArray} (h:¬ x=s):(x.toList == s.toList)=false:=by
 apply beq_false_of_ne;rw [Go.ByteArray.toList_eq,Go.ByteArray.toList_eq];intro e;exact h (ByteArray.ext (Array.toList_inj.1 e))
theorem must_yes (b cap k:Nat) (A:Option Addr) (L:List Wd) (w:World) (hn:L.length<=1000000) (hk:k<=2000000) (hr:RdAt w b A cap L k) :
  Calls Tryz.prog 120 #[.pointer (some ⟨b,0,none⟩),.bool true] w fun e w'=>e=.returned (.tuple #[])/\Below w.heap.size w w':=must_any b cap k A L true w hn hk hr
theorem must_no (b cap k:Nat) (A:Option Addr) (L:List Wd) (w:World) (hn:L.length<=1000000) (hk:k<=2000000) (hr:RdAt w b A cap L k) :
  Calls Tryz.prog 120 #[.pointer (some ⟨b,0,none⟩),.bool false] w fun e w'=>e=.panicked (wrongV (wrongP L k))/\Below w.heap.size w w':=must_any b cap k A L false w hn hk hr
theorem word_any (b cap k:Nat) (A:Option Addr) (L:List Wd) (s:ByteArray) (w:World) (hn:L.length<=1000000) (hk:k<=1000000) (hr:RdAt w b A cap L k) :
  Calls Tryz.prog 90 #[.pointer (some ⟨b,0,none⟩),.string s] w fun e w'=>Stp w b cap A L k (decide (nextP L k=s)) (.tuple #[]) e w':=by
 have H1:=hI9 (next_any b cap k A L w hn (by omega) hr);have H2:=hI9 (fun w' hr'=>must_yes b cap k A L w' hn (by omega) hr');have H3:=hI9 (fun w' hr'=>must_no b cap k A L w' hn (by omega) hr');generalize nextP L k=x at H1 ⊢;have hw1:=w64_succ' k (by omega);have HR:=hI9 hr;clear hr;by_cases hx:x=s
 .subst hx;have HD:Hid (decide (x=x)=true):=hI9 (by simp);generalize decide (x=x)=dd at HD ⊢;go_enter Tryz.func90,Tryz.ntmps90;go_upto_region 1 with (first|(go_at_call 121;refine H1.out.mono ?_;rintro e w1 ⟨rfl,hb1⟩;have hr1:=HR.out.below hb1 HR.out.lt;have h1:=qah hb1 (some b);clear hb1)|(go_at_call 120;refine (H2.out _ hr1).mono ?_;rintro e w2 ⟨rfl,hb2⟩;have hr2:=hr1.below hb2 hr1.lt;have h2:=qak h1 (qah hb2 (some b));obtain⟨c0,c1⟩:=hr2.cells;have hst:=hr2.step;have hfz:=hr2.frozen))
  have HST:=hI9 hst;clear hst hr2 hr1;go_wp2;go_end0
  exact⟨by rw [if_pos HD.out];exact⟨rfl,HST.out.1⟩,qak h2 HST.out.2⟩
 .have hx':(x.toList == s.toList)=false:=bytes_ne hx;have HD:Hid (decide (x=s)=false):=hI9 (by simp [hx]);generalize decide (x=s)=dd at HD ⊢;go_enter Tryz.func90,Tryz.ntmps90;go_wp2_with (first|(go_at_call 121;refine H1.out.mono ?_;rintro e w1 ⟨rfl,hb1⟩;have hr1:=HR.out.below hb1 HR.out.lt;have h1:=qah hb1 (some b);clear hb1)|(go_at_call 120;refine (H3.out _ hr1).mono ?_;rintro e w2 ⟨rfl,hb2⟩;have h2:=qak h1 (qah hb2 (some b))))
  exact⟨rfl,by rw [if_neg (by rw [HD.out];decide)],h2⟩
theorem number_step (b cap k:Nat) (A:Option Addr) (L:List Wd) (most:Int) (w:World) (hn:L.length<=1000000) (hk:k<=1000000) (hm1 : -9223372036854775808<=most) (hm2:most<=9223372036854775807) (hr:RdAt w b A cap L k) :
  Calls Tryz.prog 91 #[.pointer (some ⟨b,0,none⟩),.int .i64 most] w fun e w'=>Stp w b cap A L k (numP (nextP L k) most).2 (.int .i64 (numP (nextP L k) most).1) e w':=by
 have H1:=hI9 (next_any b cap k A L w hn (by omega) hr);have H2:=hI9 (fun w' hr'=>must_yes b cap k A L w' hn (by omega) hr');have H3:=hI9 (fun w' hr'=>must_no b cap k A L w' hn (by omega) hr');generalize nextP L k=x at H1 ⊢;have HN:=hI9 (fun w'=>number_P x most w' hm1 hm2);generalize numP x most=v at HN ⊢;obtain⟨v,ok⟩:=v;have hw1:=w64_succ' k (by omega);have HR:=hI9 hr;clear hr;cases ok with
 |true=>
  go_enter Tryz.func91,Tryz.ntmps91;go_upto_region 3 with (first|(go_at_call 121;refine H1.out.mono ?_;rintro e w1 ⟨rfl,hb1⟩;have hr1:=HR.out.below hb1 HR.out.lt;have h1:=qah hb1 (some b);clear hb1)|(go_at_call 88;refine (HN.out _).mono ?_;rintro e w2 ⟨rfl,hb2⟩;have hr2:=hr1.below hb2 hr1.lt;have h2:=qak h1 (qah hb2 (some b));clear hb2)|(go_at_call 120;refine (H2.out _ hr2).mono ?_;rintro e w3 ⟨rfl,hb3⟩;have hr3:=hr2.below hb3 hr2.lt;have h3:=qak h2 (qah hb3 (some b));obtain⟨c0,c1⟩:=hr3.cells;have hst:=hr3.step;have hfz:=hr3.frozen))
  have HST:=hI9 hst;clear hst hr3 hr2 hr1;go_wp2;go_ret;exact⟨by rw [if_pos rfl];exact⟨rfl,HST.out.1⟩,qak h3 HST.out.2⟩
 |false=>
  go_enter Tryz.func91,Tryz.ntmps91;go_wp2_with (first|(go_at_call 121;refine H1.out.mono ?_;rintro e w1 ⟨rfl,hb1⟩;have hr1:=HR.out.below hb1 HR.out.lt;have h1:=qah hb1 (some b);clear hb1)|(go_at_call 88;refine (HN.out _).mono ?_;rintro e w2 ⟨rfl,hb2⟩;have hr2:=hr1.below hb2 hr1.lt;have h2:=qak h1 (qah hb2 (some b));clear hb2)|(go_at_call 120;refine (H3.out _ hr2).mono ?_;rintro e w3 ⟨rfl,hb3⟩;have h3:=qak h2 (qah hb3 (some b))))
  exact⟨rfl,by rw [if_neg (by decide)],h3⟩
noncomputable def namedP (x name:ByteArray) (most:Int):Int × Bool:=
 ((numP (pairV x).2.1 most).1,(pairV x).2.2 && decide ((pairV x).1=name) && (numP (pairV x).2.1 most).2)
theorem named_step (b cap k:Nat) (A:Option Addr) (L:List Wd) (name:ByteArray) (most m:Int) (w:World) (hn:L.length<=1000000) (hk:k<=1000000) (hm1 : -9223372036854775808<=most) (hm2:most<=9223372036854775807)
  (hL:∀ x ∈ L,x.t.size<4294967281) (hm:w.cell? ⟨0,0,none⟩=some (.int .i64 m)) (hr:RdAt w b A cap L k) :
  Calls Tryz.prog 122 #[.pointer (some ⟨b,0,none⟩),.string name,.int .i64 most] w fun e w'=>Stp w b cap A L k (namedP (nextP L k) name most).2 (.int .i64 (namedP (nextP L k) name most).1) e w':=by
 have H1:=hI9 (next_any b cap k A L w hn (by omega) hr);have H2:=hI9 (fun w' hr'=>must_yes b cap k A L w' hn (by omega) hr');have H3:=hI9 (fun w' hr'=>must_no b cap k A L w' hn (by omega) hr');have hsz:(nextP L k).size<4294967281:=by
  unfold nextP;cases h:L[k]? with
  |none=>simp
  |some x=>exact hL x (List.mem_of_getElem? h)
 generalize nextP L k=x at H1 hsz ⊢;unfold namedP;have hml:=qaM hm;have HP:=hI9 (fun w' (hb:Below w.heap.size w w')=>lexPair_any x m w' hsz ((hb.cell (p:=⟨0,0,none⟩) hml).trans hm));generalize pairV x=pv at HP ⊢;obtain⟨own,val,is⟩:=pv;have HN:=hI9 (fun w'=>number_P val most w' hm1 hm2);simp only;generalize numP val most=v at HN ⊢;obtain⟨v,ok⟩:=v;have hw1:=w64_succ' k (by omega);have HR:=hI9 hr;clear hr hm;have key:∀ q:Bool,(is && decide (own=name) && ok)=q->Calls Tryz.prog 122 #[.pointer (some ⟨b,0,none⟩),.string name,.int .i64 most] w fun e w'=>Stp w b cap A L k q (.int .i64 v) e w':=by
  intro q hq;cases q with
  |true=>
   simp at hq;obtain⟨⟨rfl,rfl⟩,rfl⟩:=hq;go_enter Tryz.func122,Tryz.ntmps122;go_upto_region 4 with (first|(go_at_call 121;refine H1.out.mono ?_;rintro e w1 ⟨rfl,hb1⟩;have hr1:=HR.out.below hb1 HR.out.lt;have h1:=qah hb1 (some b))|(go_at_call 140;refine (HP.out _ hb1).mono ?_;rintro e w2 ⟨rfl,hb2⟩;have hr2:=hr1.below hb2 hr1.lt;have h2:=qak h1 (qah hb2 (some b));clear hb2)|(go_at_call 88;refine (HN.out _).mono ?_;rintro e w3 ⟨rfl,hb3⟩;have hr3:=hr2.below hb3 hr2.lt;have h3:=qak h2 (qah hb3 (some b));clear hb3)|(go_at_call 120;refine (H2.out _ hr3).mono ?_;rintro e w4 ⟨rfl,hb4⟩;have hr4:=hr3.below hb4 hr3.lt;have h4:=qak h3 (qah hb4 (some b));obtain⟨c0,c1⟩:=hr4.cells;have hst:=hr4.step;have hfz:=hr4.frozen))
   have HST:=hI9 hst;clear hst hr4 hr3 hr2 hr1;go_wp2;go_ret;exact⟨by rw [if_pos rfl];exact⟨rfl,HST.out.1⟩,qak h4 HST.out.2⟩
  |false=>
   have hcase:is=false\/(is=true/\((own.toList == name.toList)=false\/(own=name/\ok=false))):=by
    cases is with
    |false=>exact .inl rfl
    |true=>
     refine .inr ⟨rfl,?_⟩;by_cases h:own=name
     .exact .inr ⟨h,by simpa [h] using hq⟩
     .exact .inl (bytes_ne h)
   clear hq;rcases hcase with rfl|⟨rfl,hne|⟨rfl,rfl⟩⟩
   all_goals
    go_enter Tryz.func122,Tryz.ntmps122;go_wp2_with (first|(go_at_call 121;refine H1.out.mono ?_;rintro e w1 ⟨rfl,hb1⟩;have hr1:=HR.out.below hb1 HR.out.lt;have h1:=qah hb1 (some b))|(go_at_call 140;refine (HP.out _ hb1).mono ?_;rintro e w2 ⟨rfl,hb2⟩;have hr2:=hr1.below hb2 hr1.lt;have h2:=qak h1 (qah hb2 (some b));clear hb2)|(go_at_call 88;refine (HN.out _).mono ?_;rintro e w3 ⟨rfl,hb3⟩;have hr3:=hr2.below hb3 hr2.lt;have h3:=qak h2 (qah hb3 (some b));clear hb3)|(go_at_call 120;refine (H3.out _ hr3).mono ?_;rintro e w4 ⟨rfl,hb4⟩;have h4:=qak h3 (qah hb4 (some b))))
    exact⟨rfl,by rw [if_neg (by decide)],h4⟩
 exact key _ rfl
theorem done_step (b cap k:Nat) (A:Option Addr) (L:List Wd) (w:World) (hn:L.length<=1000000) (hk:k<=1000000) (hr:RdAt w b A cap L k) :
  Calls Tryz.prog 92 #[.pointer (some ⟨b,0,none⟩)] w fun e w'=>(if k=L.length then e=.returned (.tuple #[]) else e=.panicked (wrongV (wrongP L k)))/\Below w.heap.size w w':=by
 have H2:=hI9 (fun w' hr'=>must_yes b cap k A L w' hn (by omega) hr');have H3:=hI9 (fun w' hr'=>must_no b cap k A L w' hn (by omega) hr');have HR:=hI9 hr;obtain⟨c0,c1⟩:=hr.cells;have hlb:=hr.lt;clear hr;obtain⟨n,hn'⟩:∃ n,n=L.length:=⟨_,rfl⟩;rw [<- hn'] at c0 hn ⊢;have HNL:=hI9 hn';clear hn';have hS0:w.drew.cell? ⟨b,0,none⟩=some (.slice A n cap)/\w.drew.cell? ⟨b,1,none⟩=some (.int .i64 k):=⟨c0,c1⟩;have go:∀ q:Bool,decide (k=n)=q->Calls Tryz.prog 92 #[.pointer (some ⟨b,0,none⟩)] w fun e w'=>(if q then e=.returned (.tuple #[]) else e=.panicked (wrongV (wrongP L k)))/\Below w.heap.size w w':=by
  intro q hq;have hq':((k:Int) == (n:Int))=q:=by
   rw [<- hq];by_cases h:k=n
   .subst h;simp
   .rw [decide_eq_false h];exact beq_false_of_ne (by omega)
  clear hq;go_enter Tryz.func92,Tryz.ntmps92;refine wp_region_held_drew (S:=fun W=>W.cell? ⟨b,0,none⟩=some (.slice A n cap)/\W.cell? ⟨b,1,none⟩=some (.int .i64 k)) (by kernel_rfl) hS0 (fun _=>?_)
  (refine wpAnyH_take (i:=0) (v:=?_) rfl (by kernel_rfl) (by kernel_rfl) (by kernel_rfl) (fun _ _ _ h=>h) (Or.inl ⟨by rfl,fun W' hS=>?_⟩) hS0 ?_;rotate_left;· (obtain⟨s0,s1⟩:=hS;go_simp;try with_reducible rfl))
  (refine wpAnyH_take (i:=1) (v:=?_) rfl (by kernel_rfl) (by kernel_rfl) (by kernel_rfl) (fun _ _ _ h=>h) (Or.inl ⟨by rfl,fun W' hS=>?_⟩) hS0 ?_;rotate_left;· (obtain⟨s0,s1⟩:=hS;go_simp;try with_reducible rfl))
  (refine wpAnyH_take (i:=2) (v:=?_) rfl (by kernel_rfl) (by kernel_rfl) (by kernel_rfl) (fun _ _ _ h=>h) (Or.inl ⟨by rfl,fun W' hS=>?_⟩) hS0 ?_;rotate_left;· (obtain⟨s0,s1⟩:=hS;go_simp;try with_reducible rfl))
  (refine wpAnyH_take (i:=3) (v:=?_) rfl (by kernel_rfl) (by kernel_rfl) (by kernel_rfl) (fun _ _ _ h=>h) (Or.inl ⟨by rfl,fun W' hS=>?_⟩) hS0 ?_;rotate_left;· (obtain⟨s0,s1⟩:=hS;go_simp;try with_reducible rfl))
  (refine wpAnyH_take (i:=4) (v:=?_) rfl (by kernel_rfl) (by kernel_rfl) (by kernel_rfl) (fun _ _ _ h=>h) (Or.inl ⟨by rfl,fun W' hS=>?_⟩) hS0 ?_;rotate_left;· (obtain⟨s0,s1⟩:=hS;go_simp;try with_reducible rfl))
  (refine wpAnyH_take (i:=5) (v:=?_) rfl (by kernel_rfl) (by kernel_rfl) (by kernel_rfl) (fun _ _ _ h=>h) (Or.inl ⟨by rfl,fun W' hS=>?_⟩) hS0 ?_;rotate_left;· (obtain⟨s0,s1⟩:=hS;go_simp;try with_reducible rfl))
  (refine wpAnyH_take (i:=6) (v:=?_) rfl (by kernel_rfl) (by kernel_rfl) (by kernel_rfl) (fun _ _ _ h=>h) (Or.inl ⟨by rfl,fun W' hS=>?_⟩) hS0 ?_;rotate_left;· (obtain⟨s0,s1⟩:=hS;go_simp;try with_reducible rfl))
  (refine wpAnyH_take (i:=7) (v:=?_) rfl (by kernel_rfl) (by kernel_rfl) (by kernel_rfl) (fun _ _ _ h=>h) (Or.inl ⟨by rfl,fun W' hS=>?_⟩) hS0 ?_;rotate_left;· (obtain⟨s0,s1⟩:=hS;go_simp;try with_reducible rfl))
  (refine wpAnyH_take (i:=8) (v:=?_) rfl (by kernel_rfl) (by kernel_rfl) (by kernel_rfl) (fun _ _ _ h=>h) (Or.inl ⟨by rfl,fun W' hS=>?_⟩) hS0 ?_;rotate_left;· (obtain⟨s0,s1⟩:=hS;go_simp;try with_reducible rfl))
  (refine wpAnyH_take (i:=9) (v:=?_) rfl (by kernel_rfl) (by kernel_rfl) (by kernel_rfl) (fun _ _ _ h=>h) (Or.inl ⟨by rfl,fun W' hS=>?_⟩) hS0 ?_;rotate_left;· (obtain⟨s0,s1⟩:=hS;go_simp;try with_reducible rfl))
  (refine wpAnyH_take (i:=10) (v:=?_) rfl (by kernel_rfl) (by kernel_rfl) (by kernel_rfl) (fun _ _ _ h=>h) (Or.inl ⟨by rfl,fun W' hS=>?_⟩) hS0 ?_;rotate_left;· (obtain⟨s0,s1⟩:=hS;go_simp;try with_reducible rfl))
  refine wpAnyH_ready (rs:=[11]) (by kernel_rfl) (by simp) ?_;refine AllReadyH.cons rfl (fun K9 hK9=>?_) AllReadyH.nil;go_simp;cases q with
  |true=>
   refine (H2.out w.drew HR.out.drew).mono ?_;rintro e w1 ⟨rfl,hb1⟩;have hS1:=And.intro ((hb1.cell (p:=⟨b,0,none⟩) hlb).trans c0) ((hb1.cell (p:=⟨b,1,none⟩) hlb).trans c1);refine hK9.out _ _ hS1 (fun _=>?_);clear hK9 K9;refine wpAnyH_done (by kernel_rfl) ?_ _;go_end0
   have hb2:=((bR9 w.heap.size w).drew).trans hb1;exact⟨by simp,hb2⟩
  |false=>
   refine (H3.out w.drew HR.out.drew).mono ?_;rintro e w1 ⟨rfl,hb1⟩;have hb2:=((bR9 w.heap.size w).drew).trans hb1;exact⟨rfl,by rw [if_neg (by decide)],hb2⟩
 by_cases h:k=n
 .exact (go true (decide_eq_true h)).mono fun e w' ⟨h1,h2⟩=>⟨by simpa [h] using h1,h2⟩
 .exact (go false (decide_eq_false h)).mono fun e w' ⟨h1,h2⟩=>⟨by simpa [h] using h1,h2⟩
theorem nrow_own' {w:World} {base:Nat} {e:TypeId} {v:Value} {L:List Int} (h:w.ownsRow base e 1 v L.length (L.map (Value.int .i64))) :
  ∃ A cap,v=.slice A L.length cap/\NRow w w.heap.size A L/\∀ p,A=some p->base<=p.block:=by
 obtain⟨A,cap,rfl,_,_,hr⟩:=nrow_own h;refine⟨A,cap,rfl,hr,fun p hp=>?_⟩;subst hp;exact (h.lt p.block rfl).1
theorem own_slice {w:World} {base:Nat} {e:TypeId} {size n:Nat} {v:Value} {xs:List Value} (h:w.ownsRow base e size v n xs):∃ A cap,v=.slice A n cap:=by
 rcases h.2 with ⟨rfl,rfl⟩|⟨g,cap,cur,rfl,_⟩
 .exact⟨_,_,rfl⟩
 .exact⟨_,_,rfl⟩
theorem ownsRow_far {w:World} {base r:Nat} {e:TypeId} {size n:Nat} {v:Value} {xs:List Value} (h:w.ownsRow base e size v n xs) (hr:r<base) (i:Nat) (u:Value):(w.setCell ⟨r,i,none⟩ u).ownsRow base e size v n xs:=by
 refine⟨h.1,?_⟩;rcases h.2 with h'|⟨g,cap,cur,h1,hb,hg,rest⟩
 .exact .inl h'
 .exact .inr ⟨g,cap,cur,h1,hb,(Below.heap_setCell w ⟨r,i,none⟩ u g (by show g≠r;omega)).trans hg,rest⟩
def OwnI (w:World) (base:Nat) (e:TypeId) (A:Option Addr) (c:Nat) (l:List Int):Prop:=w.ownsRow base e 1 (.slice A l.length c) l.length (l.map (Value.int .i64))
theorem OwnI.of {w:World} {base:Nat} {e:TypeId} {v:Value} {l:List Int} (h:w.ownsRow base e 1 v l.length (l.map (Value.int .i64))):∃ A c,v=.slice A l.length c/\OwnI w base e A c l:=by
 obtain⟨A,c,rfl⟩:=own_slice h;exact⟨A,c,rfl,h⟩
theorem OwnI.nil (w:World) (base:Nat) (e:TypeId):OwnI w base e none 0 []:=World.ownsRow_nil _ _ _ _
theorem OwnI.grown {w w':World} {base:Nat} {e:TypeId} {A:Option Addr} {c:Nat} {l:List Int} (h:OwnI w base e A c l) {b:Nat} (hg:w.grownBy w' (some b)) (hb:b<base):OwnI w' base e A c l:=
 own_move h (fun k hk=>hg.block k (h.lt k hk).2 (fun e=>by injection e with e;have:=(h.lt k hk).1;omega))
theorem OwnI.below {w w':World} {base:Nat} {e:TypeId} {A:Option Addr} {c:Nat} {l:List Int} (h:OwnI w base e A c l) (hb:Below w.heap.size w w'):OwnI w' base e A c l:=
 own_move h (fun k hk=>hb.block k (h.lt k hk).2)
theorem OwnI.weaken {w:World} {base base':Nat} {e:TypeId} {A:Option Addr} {c:Nat} {l:List Int} (h:OwnI w base e A c l) (hb:base'<=base):OwnI w base' e A c l:=own_weaken h hb
theorem OwnI.far {w:World} {base r:Nat} {e:TypeId} {A:Option Addr} {c:Nat} {l:List Int} (h:OwnI w base e A c l) (hr:r<base) (i:Nat) (u:Value):OwnI (w.setCell ⟨r,i,none⟩ u) base e A c l:=ownsRow_far h hr i u
theorem OwnI.nrow {w:World} {base:Nat} {e:TypeId} {A:Option Addr} {c:Nat} {l:List Int} (h:OwnI w base e A c l):NRow w w.heap.size A l/\∀ p,A=some p->base<=p.block:=by
 obtain⟨A',cap,e',h1,h2⟩:=nrow_own' h;injection e' with e1 _ _
 subst e1;exact⟨h1,h2⟩
theorem NRow.grown {w w':World} {A:Option Addr} {L:List Int} {b:Nat} (h:NRow w w.heap.size A L) (hg:w.grownBy w' (some b)) (hb:∀ p,A=some p->p.block≠b):NRow w' w'.heap.size A L:=by
 intro hl;obtain⟨g,off,rfl,hlt,hc⟩:=h hl;exact⟨g,off,rfl,Nat.lt_of_lt_of_le hlt hg.size,fun i hi=>(World.cell?_of_block (hg.block g hlt (fun e=>hb _ rfl (by injection e)))).trans (hc i hi)⟩
theorem size_drop (l:List UInt8) (n:Nat):(⟨(l.drop n).toArray⟩:ByteArray).size<=l.length:=by
 show (l.drop n).toArray.size<=l.length;simp
def isNamed (x name:ByteArray):Bool:=(pairV x).2.2 && decide ((pairV x).1=name)
noncomputable def rowP (x name:ByteArray) (most:Int):List Int × Bool:=if isNamed x name then numsP (pairV x).2.1 most else ([],true)
def rowK (x name:ByteArray) (k:Nat):Nat:=if isNamed x name then k+1 else k
def Rwp (w:World) (b cap:Nat) (A:Option Addr) (L:List Wd) (k k':Nat) (l:List Int) (ok:Bool) (e:Ending) (w':World):Prop:=
 (if ok then (∃ A6 c6,e=.returned (.slice A6 l.length c6)/\OwnI w' w.heap.size 2 A6 c6 l)/\RdAt w' b A cap L k' else e=.panicked (wrongV (wrongP L k)))/\w.grownBy w' (some b)
theorem numbers_N (s:ByteArray) (hs:s.size<=2097152) (most m:Int) (w:World) (hm1 : -9223372036854775808<=most) (hm2:most<=9223372036854775807) (hm:w.cell? ⟨0,0,none⟩=some (.int .i64 m)) :
  Calls Tryz.prog 87 #[.string s,.int .i64 most] w fun e w'=>(∃ A6 c6,e=.returned (.tuple #[.slice A6 (numsP s most).1.length c6,.bool (numsP s most).2])/\OwnI w' w.heap.size 2 A6 c6 (numsP s most).1)/\Below w.heap.size w w':=
 (numbers_any s hs most m w hm1 hm2 (commas s) rfl (by have:=commas_len s;omega) hm).mono fun e w' ⟨h,hb⟩=>by
  unfold numsP;rcases h with ⟨h1,v,rfl,ho⟩|⟨h1,rfl⟩
  .rw [if_pos h1];rw [show (commas s).length=(numsOf (commas s)).length by simp [numsOf]] at ho;obtain⟨A6,c6,rfl,h2⟩:=OwnI.of ho;exact⟨⟨A6,c6,rfl,h2⟩,hb⟩
  .rw [if_neg h1];exact⟨⟨none,0,rfl,OwnI.nil _ _ _⟩,hb⟩
theorem row_step (b cap k:Nat) (A:Option Addr) (L:List Wd) (name:ByteArray) (most m:Int) (w:World) (hn:L.length<=1000000) (hk:k<=1000000) (hm1 : -9223372036854775808<=most) (hm2:most<=9223372036854775807)
  (hL:∀ x ∈ L,x.t.size<=2097152) (hm:w.cell? ⟨0,0,none⟩=some (.int .i64 m)) (hr:RdAt w b A cap L k) :
  Calls Tryz.prog 123 #[.pointer (some ⟨b,0,none⟩),.string name,.int .i64 most] w fun e w'=>Rwp w b cap A L k (rowK (nextP L k) name k) (rowP (nextP L k) name most).1 (rowP (nextP L k) name most).2 e w':=by
 have H1:=hI9 (next_any b cap k A L w hn (by omega) hr);have H2:=hI9 (fun w' hr'=>must_yes b cap k A L w' hn (by omega) hr');have H3:=hI9 (fun w' hr'=>must_no b cap k A L w' hn (by omega) hr');have hsz:(nextP L k).size<=2097152:=by
  unfold nextP;cases h:L[k]? with
  |none=>simp
  |some x=>exact hL x (List.mem_of_getElem? h)
 generalize nextP L k=x at H1 hsz ⊢;have hml:=qaM hm;have HP:=hI9 (fun w' (hb:Below w.heap.size w w')=>lexPair_any x m w' (by omega) ((hb.cell (p:=⟨0,0,none⟩) hml).trans hm));have hvs:(pairV x).2.1.size<=2097152:=by
  unfold pairV;split
  .exact Nat.le_trans (size_drop _ _) (by rw [<- Lib.size_eq];exact hsz)
  .simp
 unfold rowP rowK isNamed;generalize pairV x=pv at HP hvs ⊢;obtain⟨own,val,is⟩:=pv;simp only at hvs ⊢;have HN:=hI9 (fun w' (hb:Below w.heap.size w w')=>numbers_N val hvs most m w' hm1 hm2 ((hb.cell (p:=⟨0,0,none⟩) hml).trans hm));generalize numsP val most=v at HN ⊢;obtain⟨l,ok⟩:=v;have hw1:=w64_succ' k (by omega);have HR:=hI9 hr;have hlb:=hr.lt;clear hr hm;cases hq:(is && decide (own=name)) with
 |true=>
  simp only [if_true];simp at hq;obtain⟨rfl,rfl⟩:=hq;cases ok with
  |true=>
   go_enter Tryz.func123,Tryz.ntmps123;go_upto_region 6 with (first|(go_at_call 121;refine H1.out.mono ?_;rintro e w1 ⟨rfl,hb1⟩;have hr1:=HR.out.below hb1 HR.out.lt;have h1:=qah hb1 (some b))|(go_at_call 140;refine (HP.out _ hb1).mono ?_;rintro e w2 ⟨rfl,hb2⟩;have hr2:=hr1.below hb2 hr1.lt;have h2:=qak h1 (qah hb2 (some b));have hb12:=hb1.trans (hb2.mono hb1.size))|(go_at_call 87;refine (HN.out _ hb12).mono ?_;rintro e w3 ⟨⟨A6,c6,rfl,hn6⟩,hb3⟩;have hr3:=hr2.below hb3 hr2.lt;have h3:=qak h2 (qah hb3 (some b));have hz3:=h2.size)|(go_at_call 120;refine (H2.out _ hr3).mono ?_;rintro e w4 ⟨rfl,hb4⟩;have hr4:=hr3.below hb4 hr3.lt;have h4:=qak h3 (qah hb4 (some b));obtain⟨c0,c1⟩:=hr4.cells;have hst:=hr4.step;have hfz:=hr4.frozen))
   have HST:=hI9 hst;have HF:=hI9 ((hn6.below hb4).weaken hz3);clear hst hr4 hr3 hr2 hr1 hn6 hz3;go_wp2;go_ret;exact⟨by rw [if_pos rfl];exact⟨⟨A6,c6,rfl,HF.out.grown HST.out.2 hlb⟩,HST.out.1⟩,qak h4 HST.out.2⟩
  |false=>
   go_enter Tryz.func123,Tryz.ntmps123;go_wp2_with (first|(go_at_call 121;refine H1.out.mono ?_;rintro e w1 ⟨rfl,hb1⟩;have hr1:=HR.out.below hb1 HR.out.lt;have h1:=qah hb1 (some b))|(go_at_call 140;refine (HP.out _ hb1).mono ?_;rintro e w2 ⟨rfl,hb2⟩;have hr2:=hr1.below hb2 hr1.lt;have h2:=qak h1 (qah hb2 (some b));have hb12:=hb1.trans (hb2.mono hb1.size))|(go_at_call 87;refine (HN.out _ hb12).mono ?_;rintro e w3 ⟨⟨A6,c6,rfl,hn6⟩,hb3⟩;have hr3:=hr2.below hb3 hr2.lt;have h3:=qak h2 (qah hb3 (some b)))|(go_at_call 120;refine (H3.out _ hr3).mono ?_;rintro e w4 ⟨rfl,hb4⟩;have h4:=qak h3 (qah hb4 (some b))))
   exact⟨rfl,by rw [if_neg (by decide)],h4⟩
 |false=>
  simp only [Bool.false_eq_true,if_false];have hcase:is=false\/(is=true/\(own.toList == name.toList)=false):=by
   cases is with
   |false=>exact .inl rfl
   |true=>
    refine .inr ⟨rfl,?_⟩;have h:¬ own=name:=by simpa using hq
    exact bytes_ne h
  clear hq;rcases hcase with rfl|⟨rfl,hne⟩
  all_goals
   go_enter Tryz.func123,Tryz.ntmps123;go_wp2_with (first|(go_at_call 121;refine H1.out.mono ?_;rintro e w1 ⟨rfl,hb1⟩;have hr1:=HR.out.below hb1 HR.out.lt;have h1:=qah hb1 (some b))|(go_at_call 140;refine (HP.out _ hb1).mono ?_;rintro e w2 ⟨rfl,hb2⟩;have hr2:=hI9 (hr1.below hb2 hr1.lt);have h2:=qak h1 (qah hb2 (some b))))
   go_ret;exact⟨by rw [if_pos rfl];exact⟨⟨none,0,rfl,OwnI.nil _ _ _⟩,hr2.out⟩,h2⟩
end Go.Proofs.YtgnaaokhfpfglaaGreatDoor
end
section
namespace Go.Proofs.YtgnaaokhfpfglaaGreatDoor
open Go.RowKit Go.Shelf Go.Lib
def inB (n a b:Int):Bool:=decide (a<=n/\n<=b)
theorem withinI_any (n a b:Int) (w:World):Calls Tryz.prog 96 #[.int .i64 n,.int .i64 a,.int .i64 b] w fun e w'=>e=.returned (.bool (inB n a b))/\w=w':=by
 unfold inB;go_enter Tryz.func96,Tryz.ntmps96;by_cases h1:a<=n
 .go_wp2;go_ret;exact⟨by simp [h1],rfl⟩
 .go_wp2;go_ret;exact⟨by simp;omega,rfl⟩
theorem withinL_any (n a b:Int) (w:World):Calls Tryz.prog 97 #[.int .i64 n,.int .i64 a,.int .i64 b] w fun e w'=>e=.returned (.bool (inB n a b))/\w=w':=by
 unfold inB;go_enter Tryz.func97,Tryz.ntmps97;by_cases h1:a<=n
 .go_wp2;go_ret;exact⟨by simp [h1],rfl⟩
 .go_wp2;go_ret;exact⟨by simp;omega,rfl⟩
def chunkL (left:Int):List Int->Option Int
 |[]=>some left
 |n::r=>if 1<=n/\n<=left then chunkL (left - n) r else none
def chunkFin (L:List Int):Option Int->Bool
 |none=>false
 |some left=>decide (L.length=0) || (decide (L.length<=64) && decide (left=0))
def chunksB (c:Int) (L:List Int):Bool:=chunkFin L (chunkL c L)
theorem chunkL_step {L:List Int} {i:Nat} (h:i<L.length) (left:Int):chunkL left (L.drop i)=if 1<=L[i]/\L[i]<=left then chunkL (left - L[i]) (L.drop (i+1)) else none:=by
 rw [List.drop_eq_getElem_cons h];rfl
theorem chunks_any (A:Option Addr) (cap:Nat) (L:List Int) (c:Int) (w:World) (hn:L.length<=4000000) (hc:c<=9223372036854775807) (hr:NRow w w.heap.size A L) :
  Calls Tryz.prog 125 #[.slice A L.length cap,.int .i64 c] w fun e w'=>e=.returned (.bool (chunksB c L))/\w=w':=by
 obtain⟨n,hn'⟩:∃ n,n=L.length:=⟨_,rfl⟩;obtain⟨R,hR⟩:∃ R,R=chunksB c L:=⟨_,rfl⟩;rw [<- hn'] at hn;rw [<- hR,<- hn'];have HN:=hI9 hn';have HR:Hid (R=chunkFin L (chunkL c (L.drop 0))):=hI9 hR;clear hn' hR;go_enter Tryz.func125,Tryz.ntmps125;go_wp2;go_loop [5,11] (fun v5 v11=>∃ (i:Nat) (left:Int),v5=.int .i64 left/\v11=.int .i64 i/\i<=n/\left<=9223372036854775807/\Hid (R=chunkFin L (chunkL left (L.drop i)))) (fun _ v11=>n - (RowKit.intOf v11).toNat)
 case atStart=>exact⟨0,c,rfl,rfl,Nat.zero_le _,hc,HR⟩
 case round=>
  obtain⟨i,left,rfl,rfl,hi,hl,hS⟩:=hrel;by_cases hin:i<n
  .have hil:i<L.length:=by rw [<- HN.out];exact hin
   obtain⟨b1,o1,rfl,_,hc1⟩:=hr (by omega);have a0:=hc1 i hil;have HST:=hI9 (hS.out.trans (congrArg _ (chunkL_step hil left)));clear hc1 hS;generalize L[i]=x at a0 HST;by_cases hx:1<=x/\x<=left
   .have HB:Hid (R=chunkFin L (chunkL (left - x) (L.drop (i+1)))):=hI9 (by rw [HST.out,if_pos hx]);have hib:inB x 1 left=true:=decide_eq_true hx;have HW:=fun W=>withinL_any x 1 left W
    rw [hib] at HW;have HW':=hI9 HW;obtain⟨hx1,hx2⟩:=hx;clear HW hib HST;go_wp2_with (go_at_call 97;refine (HW'.out _).mono ?_;rintro e w1 ⟨rfl,rfl⟩)
    go_round
    case rel=>exact⟨i+1,left - x,rfl,by simp,hin,by omega,HB⟩
    case measure=>simp [RowKit.intOf];omega
   .have HB:Hid (R=false):=hI9 (by rw [HST.out,if_neg hx];rfl);have hib:inB x 1 left=false:=decide_eq_false hx;have HW:=fun W=>withinL_any x 1 left W
    rw [hib] at HW;have HW':=hI9 HW;clear HW hib HST;go_wp2_with (go_at_call 97;refine (HW'.out _).mono ?_;rintro e w1 ⟨rfl,rfl⟩)
    go_ret;exact⟨by rw [HB.out];rfl,rfl⟩
  .obtain rfl:i=n:=by omega
   have HB:Hid (R=(decide (i=0) || (decide (i<=64) && decide (left=0)))):=hI9 (by rw [hS.out,HN.out,List.drop_eq_nil_of_le (nR9 _)];rfl);by_cases h0:i=0
   .have HE:Hid (R=true):=hI9 (by rw [HB.out,h0];rfl);subst h0;go_wp2;go_ret;exact⟨by rw [HE.out];rfl,rfl⟩
   .have h0':((i:Int) == 0)=false:=by simpa using h0
    by_cases h64:i<=64
    .have HE:Hid (R=decide (left=0)):=hI9 (by rw [HB.out,decide_eq_false h0,decide_eq_true h64];rfl);have hlz:0<i:=by omega
     go_wp2;go_ret;exact⟨by rw [HE.out];congr 1,rfl⟩
    .have HE:Hid (R=false):=hI9 (by rw [HB.out,decide_eq_false h0,decide_eq_false h64];rfl);have hlz:0<i:=by omega
     go_wp2;go_ret;exact⟨by rw [HE.out];rfl,rfl⟩
def idxV (p:Int->Bool):Nat->List Int->Int
 |_,[]=>-1
 |i,x::r=>if p x then (i:Int) else idxV p (i+1) r
theorem idxV_any (p:Int->Bool):∀ (L:List Int) (i:Nat),decide (0<=idxV p i L)=L.any p:=by
 intro L
 induction L with
 |nil=>intro i;rfl
 |cons x r ih=>
  intro i;rw [idxV,List.any_cons];by_cases h:p x=true
  .rw [if_pos h,h,Bool.true_or];exact decide_eq_true (by omega)
  .rw [if_neg h,ih,Bool.not_eq_true _ |>.mp h,Bool.false_or]
theorem idxV_step {p:Int->Bool} {L:List Int} {i:Nat} (h:i<L.length):idxV p i (L.drop i)=if p L[i] then (i:Int) else idxV p (i+1) (L.drop (i+1)):=by
 rw [List.drop_eq_getElem_cons h];rfl
def farB (sets x:Int):Bool:=decide (x<0\/sets<=x)
theorem far_any (x sets:Int) (p:Addr) (w:World) (hc:w.cell? p=some (.int .i64 sets)) :
  Calls Tryz.prog 124 #[.int .i64 x,.pointer (some p)] w fun e w'=>e=.returned (.bool (farB sets x))/\w=w':=by
 unfold farB;go_enter Tryz.func124,Tryz.ntmps124;by_cases h1:x<0
 .go_wp2;go_ret;exact⟨by simp [h1],rfl⟩
 .go_wp2;go_ret;exact⟨by simp;omega,rfl⟩
theorem farIndex_any (A:Option Addr) (cap:Nat) (L:List Int) (sets:Int) (p:Addr) (w:World) (hn:L.length<=4000000) (hc:w.cell? p=some (.int .i64 sets)) (hr:NRow w w.heap.size A L) :
  Calls Tryz.prog 141 #[.slice A L.length cap,.func (Fn.func 124) #[] #[.pointer (some p)]] w fun e w'=>e=.returned (.int .i64 (idxV (farB sets) 0 L))/\w=w':=by
 obtain⟨n,hn'⟩:∃ n,n=L.length:=⟨_,rfl⟩;obtain⟨R,hR⟩:∃ R,R=idxV (farB sets) 0 L:=⟨_,rfl⟩;rw [<- hn'] at hn;rw [<- hR,<- hn'];have HN:=hI9 hn';have HR:Hid (R=idxV (farB sets) 0 (L.drop 0)):=hI9 hR;have HC:=hI9 hc;clear hn' hR hc;go_enter Tryz.func141,Tryz.ntmps141;go_wp2;go_loop [8] (fun v8=>∃ (i:Nat),v8=.int .i64 i/\i<=n/\Hid (R=idxV (farB sets) i (L.drop i))) (fun v8=>n - (RowKit.intOf v8).toNat)
 case atStart=>exact⟨0,rfl,Nat.zero_le _,HR⟩
 case round=>
  obtain⟨i,rfl,hi,hS⟩:=hrel;by_cases hin:i<n
  .have hil:i<L.length:=by rw [<- HN.out];exact hin
   obtain⟨b1,o1,rfl,_,hc1⟩:=hr (by omega);have a0:=hc1 i hil;have HST:=hI9 (hS.out.trans (idxV_step hil));clear hc1 hS;generalize L[i]=x at a0 HST;have HW:=far_any x sets p w HC.out;cases hf:farB sets x with
   |true=>
    have HB:Hid (R=(i:Int)):=hI9 (by rw [HST.out,if_pos hf]);rw [hf] at HW;have HW':=hI9 HW;clear HW HST hf;go_wp2_with (go_at_call 124;refine HW'.out.mono ?_;rintro e w1 ⟨rfl,rfl⟩)
    go_ret;exact⟨by rw [HB.out];rfl,rfl⟩
   |false=>
    have HB:Hid (R=idxV (farB sets) (i+1) (L.drop (i+1))):=hI9 (by rw [HST.out,if_neg (by rw [hf];decide)]);rw [hf] at HW;have HW':=hI9 HW;clear HW HST hf;go_wp2_with (go_at_call 124;refine HW'.out.mono ?_;rintro e w1 ⟨rfl,rfl⟩)
    go_round
    case rel=>exact⟨i+1,by simp,hin,HB⟩
    case measure=>simp [RowKit.intOf];omega
  .obtain rfl:i=n:=by omega
   have HB:Hid (R = -1):=hI9 (by rw [hS.out,HN.out,List.drop_eq_nil_of_le (nR9 _)];rfl);go_wp2;go_ret;exact⟨by rw [HB.out];rfl,rfl⟩
theorem farContains_any (A:Option Addr) (cap:Nat) (L:List Int) (sets:Int) (p:Addr) (w:World) (hn:L.length<=4000000) (hc:w.cell? p=some (.int .i64 sets)) (hr:NRow w w.heap.size A L) :
  Calls Tryz.prog 126 #[.slice A L.length cap,.func (Fn.func 124) #[] #[.pointer (some p)]] w fun e w'=>e=.returned (.bool (L.any (farB sets)))/\w=w':=by
 have H1:=hI9 (farIndex_any A cap L sets p w hn hc hr);have HA:=hI9 (idxV_any (farB sets) L 0);generalize idxV (farB sets) 0 L=j at H1 HA;generalize L.any (farB sets)=q at HA ⊢;clear hc hr;go_enter Tryz.func126,Tryz.ntmps126;go_wp2_with (go_at_call 141;refine H1.out.mono ?_;rintro e w1 ⟨rfl,rfl⟩)
 go_ret;exact⟨by rw [<- HA.out];rfl,rfl⟩
def rightE (id c d t p:Int) (ch us:List Int) (sets:Int):Int:=
 if inB id 1 99=true/\inB p 1 99=true then
  if inB c 1 d=true/\inB d 1 t=true/\t<=1073741824 then
   if chunksB c ch=true then (if us.length<=64/\us.any (farB sets)=false then 0 else 12) else 13
  else 10
 else 1
theorem right_task (id c d t p:Int) (A5:Option Addr) (c5:Nat) (ch:List Int) (A6:Option Addr) (c6:Nat) (us:List Int) (sets:Int) (w:World) (hn5:ch.length<=4000000) (hn6:us.length<=4000000) (hc:c<=9223372036854775807) (hr5:NRow w w.heap.size A5 ch) (hr6:NRow w w.heap.size A6 us) :
  Calls Tryz.prog 98 #[.agg #[.int .i64 id,.int .i64 c,.int .i64 d,.int .i64 t,.int .i64 p,.slice A5 ch.length c5,.slice A6 us.length c6],.int .i64 sets] w fun e w'=>e=.returned (.int .i64 (rightE id c d t p ch us sets))/\Below w.heap.size w w':=by
 have hmf:∀ (fn:Fn) (first cap:Array Value) (w:World),(Instr.makeFunc fn first cap).run Tryz.prog w=.ok (.func fn first cap) w:=fun _ _ _ _=>rfl
 obtain⟨R,hR⟩:∃ R,R=rightE id c d t p ch us sets:=⟨_,rfl⟩;rw [<- hR];unfold rightE at hR;have hb0:=(bR9 w.heap.size w).alloc (nR9 _) (.cells #[.int .i64 id,.int .i64 c,.int .i64 d,.int .i64 t,.int .i64 p,.slice A5 ch.length c5,.slice A6 us.length c6] 58);have hz0:(w.alloc (.cells #[.int .i64 id,.int .i64 c,.int .i64 d,.int .i64 t,.int .i64 p,.slice A5 ch.length c5,.slice A6 us.length c6] 58)).heap.size=w.heap.size+1:=by simp
 have hn0:=heap_alloc_new w (.cells #[.int .i64 id,.int .i64 c,.int .i64 d,.int .i64 t,.int .i64 p,.slice A5 ch.length c5,.slice A6 us.length c6] 58);have H5:=hI9 (hr5.below hb0 (nR9 _));have H6:=hI9 (hr6.below hb0 (nR9 _));go_enter Tryz.func98,Tryz.ntmps98;go_upto_region 1 with (fail)
 generalize w.alloc (.cells #[.int .i64 id,.int .i64 c,.int .i64 d,.int .i64 t,.int .i64 p,.slice A5 ch.length c5,.slice A6 us.length c6] 58)=w0 at hb0 hz0 hn0 H5 H6 ⊢;have hb1:=hb0.alloc hb0.size (.cells #[.int .i64 sets] 3);have hn1:=(Below.heap_alloc w0 (.cells #[.int .i64 sets] 3) _ (lt_of_block hn0)).trans hn0;have hn2:=heap_alloc_new w0 (.cells #[.int .i64 sets] 3);have G5:=hI9 (((H5.out.more (C:=w0.heap.size) (by omega)).below (w':=w0.alloc (.cells #[.int .i64 sets] 3)) ((bR9 w0.heap.size w0).alloc (nR9 _) _) (nR9 _)).more (C:=(w0.alloc (.cells #[.int .i64 sets] 3)).heap.size) (by simp));have G6:=hI9 (((H6.out.more (C:=w0.heap.size) (by omega)).below (w':=w0.alloc (.cells #[.int .i64 sets] 3)) ((bR9 w0.heap.size w0).alloc (nR9 _) _) (nR9 _)).more (C:=(w0.alloc (.cells #[.int .i64 sets] 3)).heap.size) (by simp));rw [hz0] at hn2;(try simp only [hz0]);generalize w0.alloc (.cells #[.int .i64 sets] 3)=w1 at hb1 hn1 hn2 G5 G6 ⊢;have q0:=cell_of_row w1 w.heap.size 0 _ _ _ hn1;have q1:=cell_of_row w1 w.heap.size 1 _ _ _ hn1;have q2:=cell_of_row w1 w.heap.size 2 _ _ _ hn1;have q3:=cell_of_row w1 w.heap.size 3 _ _ _ hn1;have q4:=cell_of_row w1 w.heap.size 4 _ _ _ hn1;have q5:=cell_of_row w1 w.heap.size 5 _ _ _ hn1;have q6:=cell_of_row w1 w.heap.size 6 _ _ _ hn1;have q7:=cell_of_row w1 (w.heap.size+1) 0 _ _ _ hn2;simp at q0 q1 q2 q3 q4 q5 q6 q7;have HC:=hI9 (farContains_any A6 c6 us sets ⟨w.heap.size+1,0,none⟩ w1 hn6 q7 G6.out);have HK:=hI9 (chunks_any A5 c5 ch c w1 hn5 hc G5.out);have HB:=hI9 hb1;clear hb0 hz0 hn0 H5 H6 hb1 hn1 hn2 G5 G6 q7 hr5 hr6;have W1:=hI9 (withinI_any id 1 99 w1);have W2:=hI9 (withinI_any p 1 99 w1);have W3:=hI9 (withinL_any c 1 d w1);have W4:=hI9 (withinL_any d 1 t w1);have l6:us.length<=9223372036854775807:=by omega
 generalize inB id 1 99=b1 at W1 hR;generalize inB p 1 99=b2 at W2 hR;generalize inB c 1 d=b3 at W3 hR;generalize inB d 1 t=b4 at W4 hR;generalize chunksB c ch=b5 at HK hR;generalize us.any (farB sets)=b6 at HC hR;generalize us.length=n6 at *
 generalize ch.length=n5 at *
 have HR:=hI9 hR;clear hR;cases b1 with
 |false=>
  have HE:Hid (R=1):=hI9 (by rw [HR.out];simp);clear HR;go_wp2_with (first|(go_at_call 96;with_reducible refine W1.out.mono ?_;rintro e w2 ⟨rfl,rfl⟩))
  go_ret;exact⟨by rw [HE.out];rfl,HB.out⟩
 |true=>
 cases b2 with
 |false=>
  have HE:Hid (R=1):=hI9 (by rw [HR.out];simp);clear HR;go_wp2_with (first|(go_at_call 96;with_reducible refine W1.out.mono ?_;rintro e w2 ⟨rfl,rfl⟩)|(go_at_call 96;with_reducible refine W2.out.mono ?_;rintro e w2 ⟨rfl,rfl⟩))
  go_ret;exact⟨by rw [HE.out];rfl,HB.out⟩
 |true=>
 cases b3 with
 |false=>
  have HE:Hid (R=10):=hI9 (by rw [HR.out];simp);clear HR;go_wp2_with (first|(go_at_call 96;with_reducible refine W1.out.mono ?_;rintro e w2 ⟨rfl,rfl⟩)|(go_at_call 96;with_reducible refine W2.out.mono ?_;rintro e w2 ⟨rfl,rfl⟩)|(go_at_call 97;with_reducible refine W3.out.mono ?_;rintro e w2 ⟨rfl,rfl⟩))
  go_ret;exact⟨by rw [HE.out];rfl,HB.out⟩
 |true=>
 cases b4 with
 |false=>
  have HE:Hid (R=10):=hI9 (by rw [HR.out];simp);clear HR;go_wp2_with (first|(go_at_call 96;with_reducible refine W1.out.mono ?_;rintro e w2 ⟨rfl,rfl⟩)|(go_at_call 96;with_reducible refine W2.out.mono ?_;rintro e w2 ⟨rfl,rfl⟩)|(go_at_call 97;with_reducible refine W3.out.mono ?_;rintro e w2 ⟨rfl,rfl⟩)|(go_at_call 97;with_reducible refine W4.out.mono ?_;rintro e w2 ⟨rfl,rfl⟩))
  go_ret;exact⟨by rw [HE.out];rfl,HB.out⟩
 |true=>
 by_cases ht:t<=1073741824;rotate_left
 .skip;have HE:Hid (R=10):=hI9 (by rw [HR.out];simp [ht]);clear HR;go_wp2_with (first|(go_at_call 96;with_reducible refine W1.out.mono ?_;rintro e w2 ⟨rfl,rfl⟩)|(go_at_call 96;with_reducible refine W2.out.mono ?_;rintro e w2 ⟨rfl,rfl⟩)|(go_at_call 97;with_reducible refine W3.out.mono ?_;rintro e w2 ⟨rfl,rfl⟩)|(go_at_call 97;with_reducible refine W4.out.mono ?_;rintro e w2 ⟨rfl,rfl⟩))
  go_ret;exact⟨by rw [HE.out];rfl,HB.out⟩
 cases b5 with
 |false=>
  have HE:Hid (R=13):=hI9 (by rw [HR.out];simp [ht]);clear HR;go_wp2_with (first|(go_at_call 96;with_reducible refine W1.out.mono ?_;rintro e w2 ⟨rfl,rfl⟩)|(go_at_call 96;with_reducible refine W2.out.mono ?_;rintro e w2 ⟨rfl,rfl⟩)|(go_at_call 97;with_reducible refine W3.out.mono ?_;rintro e w2 ⟨rfl,rfl⟩)|(go_at_call 97;with_reducible refine W4.out.mono ?_;rintro e w2 ⟨rfl,rfl⟩)|(go_at_call 125;with_reducible refine HK.out.mono ?_;rintro e w2 ⟨rfl,rfl⟩))
  go_ret;exact⟨by rw [HE.out];rfl,HB.out⟩
 |true=>
 by_cases h6:n6<=64;rotate_left
 .have h6':¬ n6<=64:=h6;have HE:Hid (R=12):=hI9 (by rw [HR.out];simp;omega);clear HR;go_wp2_with (first|(go_at_call 96;with_reducible refine W1.out.mono ?_;rintro e w2 ⟨rfl,rfl⟩)|(go_at_call 96;with_reducible refine W2.out.mono ?_;rintro e w2 ⟨rfl,rfl⟩)|(go_at_call 97;with_reducible refine W3.out.mono ?_;rintro e w2 ⟨rfl,rfl⟩)|(go_at_call 97;with_reducible refine W4.out.mono ?_;rintro e w2 ⟨rfl,rfl⟩)|(go_at_call 125;with_reducible refine HK.out.mono ?_;rintro e w2 ⟨rfl,rfl⟩))
  go_ret;exact⟨by rw [HE.out];rfl,HB.out⟩
 cases b6 with
 |true=>
  have HE:Hid (R=12):=hI9 (by rw [HR.out];simp [ht]);clear HR;go_wp2_with (first|(go_at_call 96;with_reducible refine W1.out.mono ?_;rintro e w2 ⟨rfl,rfl⟩)|(go_at_call 96;with_reducible refine W2.out.mono ?_;rintro e w2 ⟨rfl,rfl⟩)|(go_at_call 97;with_reducible refine W3.out.mono ?_;rintro e w2 ⟨rfl,rfl⟩)|(go_at_call 97;with_reducible refine W4.out.mono ?_;rintro e w2 ⟨rfl,rfl⟩)|(go_at_call 125;with_reducible refine HK.out.mono ?_;rintro e w2 ⟨rfl,rfl⟩)|(go_at_call 126;with_reducible refine HC.out.mono ?_;rintro e w2 ⟨rfl,rfl⟩))
  go_ret;exact⟨by rw [HE.out];rfl,HB.out⟩
 |false=>
  have HE:Hid (R=0):=hI9 (by rw [HR.out];simp [ht,h6]);clear HR;go_wp2_with (first|(go_at_call 96;with_reducible refine W1.out.mono ?_;rintro e w2 ⟨rfl,rfl⟩)|(go_at_call 96;with_reducible refine W2.out.mono ?_;rintro e w2 ⟨rfl,rfl⟩)|(go_at_call 97;with_reducible refine W3.out.mono ?_;rintro e w2 ⟨rfl,rfl⟩)|(go_at_call 97;with_reducible refine W4.out.mono ?_;rintro e w2 ⟨rfl,rfl⟩)|(go_at_call 125;with_reducible refine HK.out.mono ?_;rintro e w2 ⟨rfl,rfl⟩)|(go_at_call 126;with_reducible refine HC.out.mono ?_;rintro e w2 ⟨rfl,rfl⟩))
  go_ret;exact⟨by rw [HE.out];rfl,HB.out⟩
end Go.Proofs.YtgnaaokhfpfglaaGreatDoor
end
section
namespace Go.Proofs.YtgnaaokhfpfglaaGreatDoor
open Go.RowKit Go.ChangeMaps
structure KeyE (P:Program) (k:TypeId) {α:Type} [DecidableEq α] (enc:α->Value):Prop where
 inj:∀ a b,enc a=enc b->a=b
 ok:∀ (em:Bool) (a:α) (w:World),(Instr.checkKey em 10000 k (enc a)).run P w=.ok () w
 same:∀ a,Instr.sameBits 10000 (enc a) (enc a)=true
 find:∀ (a:α) (L:List (α × Value × Nat)) (w:World),(Instr.findKey k (enc a) (L.map fun p=>⟨enc p.1,p.2.1,p.2.2⟩)).run P w =
  .ok ((L.findIdx? (fun p=>decide (p.1=a))).bind fun i=>L[i]?.map fun p=>(i,p.2.1)) w
section
variable {α:Type} [DecidableEq α]
def getM (a:α):List (α × Value)->Option Value
 |[]=>none
 |p::r=>if p.1=a then some p.2 else getM a r
def putM (a:α) (v:Value):List (α × Value)->List (α × Value)
 |[]=>[(a,v)]
 |p::r=>if p.1=a then (a,v)::r else p::putM a v r
def delM (a:α):List (α × Value)->List (α × Value)
 |[]=>[]
 |p::r=>if p.1=a then r else p::delM a r
end
section
variable {α:Type}
def MapAt (enc:α->Value) (w:World) (b:Nat) (L:List (α × Value)):Prop:=
 ∃ (M:List (α × Value × Nat)) (clock:Nat),w.heap[b]? = some (.map (M.map fun p=>(⟨enc p.1,p.2.1,p.2.2⟩:MapEntry)).toArray clock)/\M.map (fun p=>(p.1,p.2.1))=L
variable {P:Program} {k t e:TypeId} {enc:α->Value} {w w':World} {b:Nat} {L:List (α × Value)}
theorem MapAt.lt (h:MapAt enc w b L):b<w.heap.size:=by
 obtain⟨M,c,h,_⟩:=h;exact (Array.getElem?_eq_some_iff.1 h).1
theorem MapAt.alloc (h:MapAt enc w b L) (o:Obj):MapAt enc (w.alloc o) b L:=by
 have hl:=h.lt;obtain⟨M,c,h,e⟩:=h;exact⟨M,c,(Below.heap_alloc w o b hl).trans h,e⟩
theorem MapAt.drew (h:MapAt enc w b L):MapAt enc w.drew b L:=h
theorem MapAt.drewN (h:MapAt enc w b L) (n:Nat):MapAt enc (w.drewN n) b L:=h
theorem MapAt.stay (h:MapAt enc w b L) (hs:w'.heap[b]? = w.heap[b]?):MapAt enc w' b L:=by
 obtain⟨M,c,h,e⟩:=h;exact⟨M,c,hs.trans h,e⟩
theorem MapAt.below {B:Nat} (h:MapAt enc w b L) (hb:Below B w w') (hB:b<B):MapAt enc w' b L:=h.stay (hb.block b hB)
theorem MapAt.grown {row:Option Nat} (h:MapAt enc w b L) (hg:w.grownBy w' row) (hr:some b≠row):MapAt enc w' b L:=h.stay (hg.block b h.lt hr)
theorem MapAt.setCell (h:MapAt enc w b L) {a:Addr} (ha:b≠a.block) (u:Value):MapAt enc (w.setCell a u) b L:=h.stay (Below.heap_setCell w a u b ha)
theorem MapAt.made (w:World) (enc:α->Value):MapAt enc (w.alloc (.map #[] 0)) w.heap.size ([]:List (α × Value)):=⟨[],0,heap_alloc_new w _,rfl⟩
theorem modify_map {β:Type} {f:α->β} {g:β->β} {h:α->α} (e:∀ x,g (f x)=f (h x)):∀ (M:List α) (i:Nat),(M.map f).modify i g=(M.modify i h).map f:=by
 intro M
 induction M with
 |nil=>intro i;cases i<;>rfl
 |cons x r ih=>
  intro i;cases i with
  |zero=>simp [e]
  |succ i=>simp [ih]
theorem MapAt.len (h:MapAt enc w b L) (ht:P.underlying t=some (.map k e)) (ty:TypeId):(Builtin.len_ #[t] ty #[.map (some b)]).run P w=.ok (.int .i64 L.length) w:=by
 obtain⟨M,cl,hb,rfl⟩:=h;simp [Builtin.len_,run_underlying ht,MapKept.run_getObj_map hb,Result.andThen,goInt]
end
section
variable {α:Type} [DecidableEq α] {P:Program} {k t e:TypeId} {enc:α->Value} {w w':World} {b:Nat} {L:List (α × Value)}
theorem find_getM (a:α):∀ M:List (α × Value × Nat),(M.findIdx? (fun p=>decide (p.1=a))).bind (fun i=>M[i]?.map fun p=>p.2.1)=getM a (M.map fun p=>(p.1,p.2.1)):=by
 intro M
 induction M with
 |nil=>rfl
 |cons p r ih=>
  rw [List.findIdx?_cons,List.map_cons,getM];by_cases h:p.1=a
  .simp [h]
  .rw [if_neg h,<- ih];simp only [h,decide_false,Bool.false_eq_true,if_false];cases r.findIdx? (fun p=>decide (p.1=a))<;>simp
theorem find_none (a:α) (M:List (α × Value × Nat)) (h:M.findIdx? (fun p=>decide (p.1=a))=none) (v:Value):putM a v (M.map fun p=>(p.1,p.2.1))=(M.map fun p=>(p.1,p.2.1))++[(a,v)]/\delM a (M.map fun p=>(p.1,p.2.1))=M.map fun p=>(p.1,p.2.1):=by
 induction M with
 |nil=>exact⟨rfl,rfl⟩
 |cons p r ih=>
  rw [List.findIdx?_cons] at h;by_cases hp:p.1=a
  .simp [hp] at h
  .simp only [hp,decide_false,Bool.false_eq_true,if_false,Option.map_eq_none_iff] at h;obtain⟨h1,h2⟩:=ih h;rw [List.map_cons,putM,delM,if_neg hp,if_neg hp,h1,h2];exact⟨rfl,rfl⟩
theorem find_some (a:α):∀ (M:List (α × Value × Nat)) (i:Nat),M.findIdx? (fun p=>decide (p.1=a))=some i->∃ p,M[i]? = some p/\p.1=a/\i<M.length /\
  (∀ v,putM a v (M.map fun p=>(p.1,p.2.1))=(M.modify i (fun q=>(a,v,q.2.2))).map fun p=>(p.1,p.2.1))/\delM a (M.map fun p=>(p.1,p.2.1))=(M.eraseIdx i).map fun p=>(p.1,p.2.1):=by
 intro M
 induction M with
 |nil=>intro i h;cases h
 |cons p r ih=>
  intro i h;rw [List.findIdx?_cons] at h;by_cases hp:p.1=a
  .simp only [hp,decide_true,if_true,Option.some.injEq] at h;subst h;refine⟨p,rfl,hp,by simp,fun v=>?_,?_⟩
   .rw [List.map_cons,putM,if_pos hp];rfl
   .rw [List.map_cons,delM,if_pos hp];rfl
  .simp only [hp,decide_false,Bool.false_eq_true,if_false,Option.map_eq_some_iff] at h;obtain⟨j,hj,rfl⟩:=h;obtain⟨q,h1,h2,h3,h4,h5⟩:=ih j hj;refine⟨q,by simpa using h1,h2,by simp;omega,fun v=>?_,?_⟩
   .rw [List.map_cons,putM,if_neg hp,h4 v];rfl
   .rw [List.map_cons,delM,if_neg hp,h5];rfl
theorem MapAt.look (h:MapAt enc w b L) (K:KeyE P k enc) (ht:P.underlying t=some (.map k e)) {z:Value} (hz:(zeroValue e).run P w=.ok z w) (a:α) (c:Bool) :
  (Instr.lookup t (.map (some b)) (enc a) c).run P w=.ok (if c then .tuple #[(getM a L).getD z,.bool (getM a L).isSome] else (getM a L).getD z) w:=by
 obtain⟨M,cl,hb,rfl⟩:=h;rw [<- find_getM];have hf:=K.find a M w;cases hi:M.findIdx? (fun p=>decide (p.1=a)) with
 |none=>
  rw [hi] at hf;cases c<;>simp [Instr.lookup,run_underlying ht,MapKept.run_getObj_map hb,K.ok,hf,hz,Result.andThen]
 |some i=>
  obtain⟨p,h1,h2,h3,_⟩:=find_some a M i hi;rw [hi] at hf;simp only [Option.bind_some,h1,Option.map_some] at hf ⊢;cases c<;>simp [Instr.lookup,run_underlying ht,MapKept.run_getObj_map hb,K.ok,hf,Result.andThen]
theorem MapAt.put (h:MapAt enc w b L) (K:KeyE P k enc) (ht:P.underlying t=some (.map k e)) (a:α) (v:Value) :
  ∃ w',(Instr.mapUpdate t (.map (some b)) (enc a) v).run P w=.ok () w'/\MapAt enc w' b (putM a v L)/\w.grownBy w' (some b):=by
 obtain⟨M,cl,hb,rfl⟩:=h;have hf:=K.find a M w;have hgr:∀ o:Obj,w.grownBy (setBlock w b o) (some b):=fun o=>⟨rfl,rfl,rfl,by simp [setBlock],fun i _ hi=>heap_setBlock_other hb _ (fun e=>hi (by rw [e]))⟩
 cases hi:M.findIdx? (fun p=>decide (p.1=a)) with
 |none=>
  rw [hi] at hf;refine⟨setBlock w b (.map ((M++[(a,v,cl)]).map fun p=>(⟨enc p.1,p.2.1,p.2.2⟩:MapEntry)).toArray (cl+1)),?_,⟨_,_,heap_setBlock_same hb _,?_⟩,hgr _⟩
  .simp [Instr.mapUpdate,run_underlying ht,MapKept.run_getObj_map hb,K.ok,hf,MapKept.run_setObj_map _ hb,Result.andThen,setBlock]
  .rw [(find_none a M hi v).1];simp
 |some i=>
  obtain⟨p,h1,h2,h3,h4,_⟩:=find_some a M i hi;rw [hi] at hf;simp only [Option.bind_some,h1,Option.map_some] at hf;refine⟨setBlock w b (.map ((M.modify i (fun q=>(a,v,q.2.2))).map fun p=>(⟨enc p.1,p.2.1,p.2.2⟩:MapEntry)).toArray cl),?_,⟨_,_,heap_setBlock_same hb _,(h4 v).symm⟩,hgr _⟩;simp [Instr.mapUpdate,run_underlying ht,MapKept.run_getObj_map hb,K.ok,hf,Instr.keyThatStays,h1,h2,K.same,MapKept.run_setObj_map _ hb,Result.andThen,setBlock];rw [modify_map (f:=fun p:α × Value × Nat=>(⟨enc p.1,p.2.1,p.2.2⟩:MapEntry)) (g:=fun e=>⟨enc a,v,e.born⟩) (h:=fun q=>(a,v,q.2.2)) (fun x=>rfl)]
theorem find_now {d:TypeDesc} {enc:α->Value} (hs:∀ a b,Instr.sameNow d (enc a) (enc b)=some (decide (b=a))) (a:α):∀ (M:List (α × Value × Nat)) (j:Nat),
  Instr.findNow d (enc a) (M.map fun p=>⟨enc p.1,p.2.1,p.2.2⟩) j=some ((M.findIdx? (fun p=>decide (p.1=a))).bind fun i=>M[i]?.map fun p=>(i+j,p.2.1)):=by
 intro M
 induction M with
 |nil=>intro j;rfl
 |cons p r ih=>
  intro j;rw [List.map_cons,Instr.findNow,hs,List.findIdx?_cons];by_cases hp:p.1=a
  .simp [hp]
  .simp only [hp,decide_false,Bool.false_eq_true,if_false];rw [ih];cases r.findIdx? (fun p=>decide (p.1=a)) with
   |none=>rfl
   |some i=>simp [Nat.add_assoc,Nat.add_comm 1 j]
theorem keyE_int {q:IntKind} (hk:P.underlying k=some (.int q)):KeyE P k (Value.int q) where
 inj:=fun a b h=>by injection h
 ok:=fun em a w=>MapKept.run_checkKey hk (by simp [MapKept.IsKey]) em 9999
 same:=fun a=>by simp [Instr.sameBits]
 find:=fun a L w=>by
  have h:=find_now (d:=.int q) (enc:=Value.int q) (fun a b=>by
   simp only [Instr.sameNow,if_true,Option.some.injEq];by_cases h:a=b
   .subst h;simp
   .rw [beq_false_of_ne h,decide_eq_false (Ne.symm h)]) a L 0
  rw [MapKept.run_findKey hk h];simp
section
variable {ops:Array Oper} {rest:List Oper} {o:Oper} {a:Act} {Q:Exit->Act->World->Prop}
theorem step_putM {K':Act->World->Prop} {E:Prop} (hgd:o.guard=none) (m x v:Operand) (t k e:TypeId) (ho:o.op=Op.mapUpdate t m x v) (K:KeyE P k enc) (ht:P.underlying t=some (.map k e)) (b:Nat) (L:List (α × Value)) (key:α) (val:Value)
  (hm:a.eval m=.map (some b)) (hx:a.eval x=enc key) (hv:a.eval v=val) (h0:MapAt enc w b L)
  (h:∀ w',MapAt enc w' b (putM key val L)->w.grownBy w' (some b)->K' (a.put o.dst undef) w'):if Region.wanted o (yielded ops a.tmps)=true then Oper.wp P o a w K' Q else E:=by
 have hw:Region.wanted o (yielded ops a.tmps)=true:=by simp [Region.wanted,hgd]
 rw [if_pos hw];obtain⟨w',hrun,r1,r2⟩:=h0.put K ht key val;unfold Oper.wp;simp [execOp,ho,hm,hx,hv,hrun,Result.andThen];exact h w' r1 r2
theorem wpList_lookM (hgd:o.guard=none) (m x:Operand) (t k e:TypeId) (c:Bool) (ho:o.op=Op.lookup t m x c) (K:KeyE P k enc) (ht:P.underlying t=some (.map k e)) {z:Value} (hz:(zeroValue e).run P w=.ok z w) (b:Nat) (L:List (α × Value)) (key:α) (r:Value)
  (hm:a.eval m=.map (some b)) (hx:a.eval x=enc key) (h0:MapAt enc w b L) (hr:(if c then .tuple #[(getM key L).getD z,.bool (getM key L).isSome] else (getM key L).getD z)=r)
  (h:wpList P ops Q rest (a.put o.dst r) w):wpList P ops Q (o::rest) a w:=by
 refine wpList_plain hgd fun K' hK'=>?_
 have hrun:=h0.look K ht hz key c;rw [hr] at hrun;unfold Oper.wp;simp [execOp,ho,hm,hx,hrun,Result.andThen];exact hK' _ _ h
end
end
end Go.Proofs.YtgnaaokhfpfglaaGreatDoor
end
section
namespace Go.Proofs.YtgnaaokhfpfglaaGreatDoor
open Go.RowKit Go.Shelf Go.Lib
structure Tk where
 id:Int
 c:Int
 d:Int
 t:Int
 p:Int
 ch:List Int
 us:List Int
def TkRow (w:World) (B:Nat) (A:Option Addr) (L:List Tk):Prop:=
 0<L.length->∃ b off,A=some ⟨b,off,none⟩/\b<B/\∀ i (h:i<L.length),
  w.cell? ⟨b,off+i * 7,none⟩=some (.int .i64 L[i].id)/\w.cell? ⟨b,off+i * 7+1,none⟩=some (.int .i64 L[i].c)/\w.cell? ⟨b,off+i * 7+2,none⟩=some (.int .i64 L[i].d)/\w.cell? ⟨b,off+i * 7+3,none⟩=some (.int .i64 L[i].t)/\w.cell? ⟨b,off+i * 7+4,none⟩=some (.int .i64 L[i].p) /\
  ∃ A5 c5 A6 c6,w.cell? ⟨b,off+i * 7+5,none⟩=some (.slice A5 L[i].ch.length c5)/\w.cell? ⟨b,off+i * 7+6,none⟩=some (.slice A6 L[i].us.length c6)/\NRow w B A5 L[i].ch/\NRow w B A6 L[i].us
theorem TkRow.below {w w':World} {B C:Nat} {A:Option Addr} {L:List Tk} (h:TkRow w B A L) (hb:Below C w w') (hBC:B<=C):TkRow w' B A L:=by
 intro hl;obtain⟨b,off,e,hlt,hc⟩:=h hl;refine⟨b,off,e,hlt,fun i hi=>?_⟩;obtain⟨h0,h1,h2,h3,h4,A5,c5,A6,c6,h5,h6,h7,h8⟩:=hc i hi;have m:∀ o v,w.cell? ⟨b,o,none⟩=some v->w'.cell? ⟨b,o,none⟩=some v:=fun o v h=>(hb.cell (p:=⟨b,o,none⟩) (by show b<C;omega)).trans h
 exact⟨m _ _ h0,m _ _ h1,m _ _ h2,m _ _ h3,m _ _ h4,A5,c5,A6,c6,m _ _ h5,m _ _ h6,h7.below hb hBC,h8.below hb hBC⟩
theorem TkRow.more {w:World} {B C:Nat} {A:Option Addr} {L:List Tk} (h:TkRow w B A L) (hBC:B<=C):TkRow w C A L:=by
 intro hl;obtain⟨b,off,e,hlt,hc⟩:=h hl;refine⟨b,off,e,by omega,fun i hi=>?_⟩;obtain⟨h0,h1,h2,h3,h4,A5,c5,A6,c6,h5,h6,h7,h8⟩:=hc i hi;exact⟨h0,h1,h2,h3,h4,A5,c5,A6,c6,h5,h6,h7.more hBC,h8.more hBC⟩
def checkGo (sets:Int):Int->List Int->List Tk->Int
 |_,_,[]=>0
 |last,met,x::r=>
  if rightE x.id x.c x.d x.t x.p x.ch x.us sets=0 then (if x.id<=last then 10 else if x.p ∈ met then 14 else checkGo sets x.id (met++[x.p]) r)
  else rightE x.id x.c x.d x.t x.p x.ch x.us sets
def checkE (sets reload:Int) (L:List Tk):Int:=
 if inB sets 0 256=true/\inB reload 0 1000=true/\L.length≠0 then (if L.length<=64 then checkGo sets 0 [] L else 15) else 1
theorem checkGo_step {sets last:Int} {met:List Int} {L:List Tk} {i:Nat} (h:i<L.length):checkGo sets last met (L.drop i) =
  if rightE L[i].id L[i].c L[i].d L[i].t L[i].p L[i].ch L[i].us sets=0 then (if L[i].id<=last then 10 else if L[i].p ∈ met then 14 else checkGo sets L[i].id (met++[L[i].p]) (L.drop (i+1)))
  else rightE L[i].id L[i].c L[i].d L[i].t L[i].p L[i].ch L[i].us sets:=by
 rw [List.drop_eq_getElem_cons h];rfl
def metM (met:List Int):List (Int × Value):=met.map fun q=>(q,.bool true)
theorem getM_met (a:Int):∀ met:List Int,(getM a (metM met)).getD (.bool false)=.bool (decide (a ∈ met)):=by
 intro met
 induction met with
 |nil=>rfl
 |cons x r ih=>
  unfold metM at ih ⊢;rw [List.map_cons,getM];by_cases h:x=a
  .subst h;simp
  .rw [if_neg h,ih]
   congr 1
   rw [Bool.eq_iff_iff];simp [Ne.symm h]
theorem putM_met (a:Int):∀ met:List Int,a ∉ met->putM a (.bool true) (metM met)=metM (met++[a]):=by
 intro met
 induction met with
 |nil=>intro _;rfl
 |cons x r ih=>
  intro h;have h1:x≠a:=fun e=>h (by rw [e];exact List.mem_cons_self)
  have h2:a ∉ r:=fun e=>h (List.mem_cons_of_mem _ e)
  unfold metM at ih ⊢;rw [List.map_cons,putM,if_neg h1,ih h2];rfl
theorem check_any (sets reload:Int) (A:Option Addr) (cap:Nat) (L:List Tk) (w:World) (hn:L.length<=1000000) (hin:∀ x ∈ L,x.ch.length<=4000000/\x.us.length<=4000000/\x.c<=9223372036854775807) (hr:TkRow w w.heap.size A L) :
  Calls Tryz.prog 61 #[.agg #[.int .i64 sets,.int .i64 reload,.slice A L.length cap]] w fun e w'=>e=.returned (.int .i64 (checkE sets reload L))/\Below w.heap.size w w':=by
 have hmm:=@run_makeMap Tryz.prog;obtain⟨n,hn'⟩:∃ n,n=L.length:=⟨_,rfl⟩;obtain⟨R,hR⟩:∃ R,R=checkE sets reload L:=⟨_,rfl⟩;rw [<- hn'] at hn;rw [<- hR,<- hn'];unfold checkE at hR;rw [<- hn'] at hR;have HN:=hI9 hn';have HIN:=hI9 hin;clear hn' hin;have hb0:=(bR9 w.heap.size w).alloc (nR9 _) (.cells #[.int .i64 sets,.int .i64 reload,.slice A n cap] 37);have hz0:(w.alloc (.cells #[.int .i64 sets,.int .i64 reload,.slice A n cap] 37)).heap.size=w.heap.size+1:=by simp
 have hn0:=heap_alloc_new w (.cells #[.int .i64 sets,.int .i64 reload,.slice A n cap] 37);have H5:=hI9 (hr.below hb0 (nR9 _));go_enter Tryz.func61,Tryz.ntmps61;go_wp2;go_step3;go_upto_region 1 with (fail)
 generalize w.alloc (.cells #[.int .i64 sets,.int .i64 reload,.slice A n cap] 37)=w0 at hb0 hz0 hn0 H5 ⊢;have q0:=cell_of_row w0 w.heap.size 0 _ _ _ hn0;have q1:=cell_of_row w0 w.heap.size 1 _ _ _ hn0;have q2:=cell_of_row w0 w.heap.size 2 _ _ _ hn0;simp at q0 q1 q2;have HB:=hI9 hb0;have HR:=hI9 hR;clear hR hb0;have W1:=hI9 (withinI_any sets 0 256 w0);have W2:=hI9 (withinL_any reload 0 1000 w0);generalize inB sets 0 256=b1 at W1 HR;generalize inB reload 0 1000=b2 at W2 HR;cases b1 with
 |false=>
  have HE:Hid (R=1):=hI9 (by rw [HR.out];simp);go_wp2_with (first|(go_at_call 96;with_reducible refine W1.out.mono ?_;rintro e w2 ⟨rfl,rfl⟩))
  (repeat rw [Exit.noGoto_ret])
  go_ret;exact⟨by rw [HE.out];rfl,HB.out⟩
 |true=>
 cases b2 with
 |false=>
  have HE:Hid (R=1):=hI9 (by rw [HR.out];simp);go_wp2_with (first|(go_at_call 96;with_reducible refine W1.out.mono ?_;rintro e w2 ⟨rfl,rfl⟩)|(go_at_call 97;with_reducible refine W2.out.mono ?_;rintro e w2 ⟨rfl,rfl⟩))
  (repeat rw [Exit.noGoto_ret])
  go_ret;exact⟨by rw [HE.out];rfl,HB.out⟩
 |true=>
 by_cases h0:n=0
 .have HE:Hid (R=1):=hI9 (by rw [HR.out];simp [h0]);subst h0;go_wp2_with (first|(go_at_call 96;with_reducible refine W1.out.mono ?_;rintro e w2 ⟨rfl,rfl⟩)|(go_at_call 97;with_reducible refine W2.out.mono ?_;rintro e w2 ⟨rfl,rfl⟩))
  (repeat rw [Exit.noGoto_ret])
  go_ret;exact⟨by rw [HE.out];rfl,HB.out⟩
 have hpos:0<n:=by omega
 have hne:((n:Int) == 0)=false:=by simpa using h0
 by_cases h64:n<=64;rotate_left
 .have HE:Hid (R=15):=hI9 (by rw [HR.out];simp [h0,h64]);go_wp2_with (first|(go_at_call 96;with_reducible refine W1.out.mono ?_;rintro e w2 ⟨rfl,rfl⟩)|(go_at_call 97;with_reducible refine W2.out.mono ?_;rintro e w2 ⟨rfl,rfl⟩))
  (repeat rw [Exit.noGoto_ret])
  go_ret;exact⟨by rw [HE.out];rfl,HB.out⟩
 have HS0:Hid (R=checkGo sets 0 [] (L.drop 0)):=hI9 (by rw [HR.out];simp [h0,h64]);clear HR;go_wp2_with (first|(go_at_call 96;with_reducible refine W1.out.mono ?_;rintro e w2 ⟨rfl,rfl⟩)|(go_at_call 97;with_reducible refine W2.out.mono ?_;rintro e w2 ⟨rfl,rfl⟩))
 go_step3;go_wp2;have hm0:=MapAt.made w0 (Value.int .i64);have hb1:=(bR9 w0.heap.size w0).alloc (nR9 _) (.map #[] 0);have hz1:(w0.alloc (.map #[] 0)).heap.size=w0.heap.size+1:=by simp
 generalize w0.alloc (.map #[] 0)=w1 at hm0 hb1 hz1 ⊢;obtain⟨mb,hmb⟩:∃ b,w.heap.size+1=b:=⟨_,rfl⟩;rw [hz0,hmb] at hm0 hb1 hz1;rw [hmb] at hz0 ⊢;have hlm:w.heap.size<mb:=by omega
 have hl1:mb<w1.heap.size:=by omega
 clear hz1 hn0 W1 W2 hr hmm;go_loopw [3,4,34] (fun v3 v4 v34 wr=>∃ (i:Nat) (last:Int) (met:List Int),v3=.int .i64 0/\v4=.int .i64 last/\v34=.int .i64 i/\i<=n/\Hid (R=checkGo sets last met (L.drop i))/\MapAt (Value.int .i64) wr mb (metM met)/\Below mb w0 wr) (fun _ _ v34 _=>n - (RowKit.intOf v34).toNat)
 case atStart=>exact⟨0,0,[],rfl,rfl,rfl,Nat.zero_le _,HS0,hm0,hb1⟩
 case round=>
  obtain⟨i,last,met,rfl,rfl,rfl,hi,hS,hmap,hbr⟩:=hrel;by_cases hin:i<n
  .have hil:i<L.length:=by rw [<- HN.out];exact hin
   obtain⟨bA,oA,rfl,hltA,hcA⟩:=H5.out (by rw [<- HN.out];exact hpos);obtain⟨f0,f1,f2,f3,f4,A5,c5,A6,c6,f5,f6,r5,r6⟩:=hcA i hil;have hlen:=HIN.out L[i] (List.getElem_mem hil);have HST:=hS.out.trans (checkGo_step hil);generalize L[i]=x at f0 f1 f2 f3 f4 f5 f6 r5 r6 hlen HST;clear hcA hS;have m:∀ o v,w0.cell? ⟨bA,o,none⟩=some v->wr.cell? ⟨bA,o,none⟩=some v:=fun o v h=>(hbr.cell (p:=⟨bA,o,none⟩) (by show bA<mb;omega)).trans h
   have e0:=m _ _ f0;have e1:=m _ _ f1;have e2:=m _ _ f2;have e3:=m _ _ f3;have e4:=m _ _ f4;have e5:=m _ _ f5;have e6:=m _ _ f6;clear m f0 f1 f2 f3 f4 f5 f6;have hBw:mb<=wr.heap.size:=by have:=hmap.lt;omega
   have s5:=hI9 (r5.below hbr (by omega));have s6:=hI9 (r6.below hbr (by omega));clear r5 r6;obtain⟨xid,xc,xd,xt,xp,xch,xus⟩:=x;simp only at e0 e1 e2 e3 e4 e5 e6 s5 s6 hlen HST;have hbt:=hbr.alloc hBw (.cells #[.int .i64 xid,.int .i64 xc,.int .i64 xd,.int .i64 xt,.int .i64 xp,.slice A5 xch.length c5,.slice A6 xus.length c6] 58);have hmt:=hmap.alloc (.cells #[.int .i64 xid,.int .i64 xc,.int .i64 xd,.int .i64 xt,.int .i64 xp,.slice A5 xch.length c5,.slice A6 xus.length c6] 58);have t5:=s5.out.below ((bR9 mb wr).alloc hBw (.cells #[.int .i64 xid,.int .i64 xc,.int .i64 xd,.int .i64 xt,.int .i64 xp,.slice A5 xch.length c5,.slice A6 xus.length c6] 58)) (by omega);have t6:=s6.out.below ((bR9 mb wr).alloc hBw (.cells #[.int .i64 xid,.int .i64 xc,.int .i64 xd,.int .i64 xt,.int .i64 xp,.slice A5 xch.length c5,.slice A6 xus.length c6] 58)) (by omega);have hnt:=heap_alloc_new wr (.cells #[.int .i64 xid,.int .i64 xc,.int .i64 xd,.int .i64 xt,.int .i64 xp,.slice A5 xch.length c5,.slice A6 xus.length c6] 58);have hzt:(wr.alloc (.cells #[.int .i64 xid,.int .i64 xc,.int .i64 xd,.int .i64 xt,.int .i64 xp,.slice A5 xch.length c5,.slice A6 xus.length c6] 58)).heap.size=wr.heap.size+1:=by simp
   go_upto_region 10 with (fail)
   generalize wr.alloc (.cells #[.int .i64 xid,.int .i64 xc,.int .i64 xd,.int .i64 xt,.int .i64 xp,.slice A5 xch.length c5,.slice A6 xus.length c6] 58)=W at hbt hmt t5 t6 hnt hzt ⊢;obtain⟨tb,htb⟩:∃ b,wr.heap.size=b:=⟨_,rfl⟩;have hlmt:mb<tb:=by rw [<- htb];exact hmap.lt
   rw [htb] at hnt hzt ⊢;clear e0 e1 e2 e3 e4 e5 e6 s5 s6 hmap;have y0:=cell_of_row W tb 0 _ _ _ hnt;have y1:=cell_of_row W tb 1 _ _ _ hnt;have y2:=cell_of_row W tb 2 _ _ _ hnt;have y3:=cell_of_row W tb 3 _ _ _ hnt;have y4:=cell_of_row W tb 4 _ _ _ hnt;have y5:=cell_of_row W tb 5 _ _ _ hnt;have y6:=cell_of_row W tb 6 _ _ _ hnt;simp at y0 y1 y2 y3 y4 y5 y6;have q0':=(hbt.cell (p:=⟨w.heap.size,0,none⟩) (by show w.heap.size<mb;omega)).trans q0;have W3:=hI9 (right_task xid xc xd xt xp A5 c5 xch A6 c6 xus sets W hlen.1 hlen.2.1 hlen.2.2 (t5.more (by omega)) (t6.more (by omega)));have HST':=hI9 HST;clear HST hlen t5 t6;obtain⟨ee,hee⟩:∃ z,rightE xid xc xd xt xp xch xus sets=z:=⟨_,rfl⟩;rw [hee] at W3 HST';have HHM:=hI9 hmt;have HHB:=hI9 hbt;clear hee hmt hbt hbr;by_cases hez:ee=0;rotate_left
   .have HE:Hid (R=ee):=hI9 (by rw [HST'.out,if_neg hez]);have hne':(ee != 0)=true:=by simpa using hez
    go_wp2_with (first|(go_at_call 98;with_reducible refine W3.out.mono ?_;rintro e w2 ⟨rfl,hb2⟩))
    go_wp2
    (repeat rw [Exit.noGoto_ret])
    go_wp2;go_ret;exact⟨by rw [HE.out];rfl,HB.out.trans ((HHB.out.trans (hb2.mono (by omega))).mono (by omega))⟩
   .subst hez;have hST2:Hid (R=if xid<=last then 10 else if xp ∈ met then 14 else checkGo sets xid (met++[xp]) (L.drop (i+1))):=hI9 (by rw [HST'.out,if_pos rfl]);by_cases hle:xid<=last
    .have HE:Hid (R=10):=hI9 (by rw [hST2.out,if_pos hle]);go_wp2_with (first|(go_at_call 98;with_reducible refine W3.out.mono ?_;rintro e w2 ⟨rfl,hb2⟩;have z0:=(hb2.cell (p:=⟨tb,0,none⟩) (by show tb<W.heap.size;omega)).trans y0))
     go_wp2
     (repeat rw [Exit.noGoto_ret])
     go_wp2;go_ret;exact⟨by rw [HE.out];rfl,HB.out.trans ((HHB.out.trans (hb2.mono (by omega))).mono (by omega))⟩
    .by_cases hpm:xp ∈ met
     .have HE:Hid (R=14):=hI9 (by rw [hST2.out,if_neg hle,if_pos hpm]);have HG:(getM xp (metM met)).getD (.bool false)=.bool true:=by rw [getM_met];simp [hpm]
      go_wp2_with (first|(go_at_call 98;with_reducible refine W3.out.mono ?_;rintro e w2 ⟨rfl,hb2⟩;have z0:=(hb2.cell (p:=⟨tb,0,none⟩) (by show tb<W.heap.size;omega)).trans y0;have z4:=(hb2.cell (p:=⟨tb,4,none⟩) (by show tb<W.heap.size;omega)).trans y4;have HM2:=HHM.out.below hb2 (by omega))|(at_lookup;go_loud (refine wpList_lookM (by rfl) _ _ 164 3 4 false (by rfl) (keyE_int (by rfl)) (by rfl) (z:=.bool false) (by rfl) mb _ xp _ (by rfl) (by rfl) HM2 ((if_neg (by decide)).trans HG) ?_)))
      go_wp2
      (repeat rw [Exit.noGoto_ret])
      go_wp2;go_ret;exact⟨by rw [HE.out];rfl,HB.out.trans ((HHB.out.trans (hb2.mono (by omega))).mono (by omega))⟩
     .have HE:Hid (R=checkGo sets xid (met++[xp]) (L.drop (i+1))):=hI9 (by rw [hST2.out,if_neg hle,if_neg hpm]);have HG:(getM xp (metM met)).getD (.bool false)=.bool false:=by rw [getM_met];simp [hpm]
      have HPM:=hI9 (putM_met xp met hpm);go_upto_region 17 with (first|(go_at_call 98;with_reducible refine W3.out.mono ?_;rintro e w2 ⟨rfl,hb2⟩;have z0:=(hb2.cell (p:=⟨tb,0,none⟩) (by show tb<W.heap.size;omega)).trans y0;have z4:=(hb2.cell (p:=⟨tb,4,none⟩) (by show tb<W.heap.size;omega)).trans y4;have HM2:=HHM.out.below hb2 (by omega))|(at_lookup;go_loud (refine wpList_lookM (by rfl) _ _ 164 3 4 false (by rfl) (keyE_int (by rfl)) (by rfl) (z:=.bool false) (by rfl) mb _ xp _ (by rfl) (by rfl) HM2 ((if_neg (by decide)).trans HG) ?_)))
      have hbw:=HHB.out.trans (hb2.mono (by omega));have hS0:w2.drew.cell? ⟨tb,4,none⟩=some (.int .i64 xp)/\w2.drew.cell? ⟨tb,0,none⟩=some (.int .i64 xid):=⟨z4,z0⟩;refine wp_region_held_drew (S:=fun W'=>W'.cell? ⟨tb,4,none⟩=some (.int .i64 xp)/\W'.cell? ⟨tb,0,none⟩=some (.int .i64 xid)) (by kernel_rfl) hS0 (fun _=>?_);refine wpAnyH_take (i:=0) (v:=?_) rfl (by kernel_rfl) (by kernel_rfl) (by kernel_rfl) (fun _ _ _ h=>h) (Or.inl ⟨by rfl,fun W' hS=>?_⟩) hS0 ?_;rotate_left
      .obtain⟨s0,s1⟩:=hS;go_simp;(try with_reducible rfl)
      refine wpAnyH_take (i:=1) (v:=?_) rfl (by kernel_rfl) (by kernel_rfl) (by kernel_rfl) (fun _ _ _ h=>h) (Or.inl ⟨by rfl,fun W' hS=>?_⟩) hS0 ?_;rotate_left
      .obtain⟨s0,s1⟩:=hS;go_simp;(try with_reducible rfl)
      refine wpAnyH_take (i:=2) (v:=?_) rfl (by kernel_rfl) (by kernel_rfl) (by kernel_rfl) (fun _ _ _ h=>h) (Or.inl ⟨by rfl,fun W' hS=>?_⟩) hS0 ?_;rotate_left
      .obtain⟨s0,s1⟩:=hS;go_simp;(try with_reducible rfl)
      refine wpAnyH_take (i:=3) (v:=?_) rfl (by kernel_rfl) (by kernel_rfl) (by kernel_rfl) (fun _ _ _ h=>h) (Or.inl ⟨by rfl,fun W' hS=>?_⟩) hS0 ?_;rotate_left
      .obtain⟨s0,s1⟩:=hS;go_simp;(try with_reducible rfl)
      refine wpAnyH_take (i:=4) (v:=?_) rfl (by kernel_rfl) (by kernel_rfl) (by kernel_rfl) (fun _ _ _ h=>h) (Or.inl ⟨by rfl,fun W' hS=>?_⟩) hS0 ?_;rotate_left
      .obtain⟨s0,s1⟩:=hS;go_simp;(try with_reducible rfl)
      refine wpAnyH_ready (rs:=[5]) (by kernel_rfl) (by simp) ?_;refine AllReadyH.cons rfl (fun K9 hK9=>?_) AllReadyH.nil;refine step_putM (by rfl) _ _ _ 164 3 4 (by rfl) (keyE_int (by rfl)) (by rfl) mb (metM met) xp (.bool true) (by rfl) (by rfl) (by rfl) (HM2.drew) ?_;intro w3 hm3 hg3;rw [HPM.out] at hm3;have hsz2:W.heap.size<=w2.drew.heap.size:=hb2.size;have hS3:w3.cell? ⟨tb,4,none⟩=some (.int .i64 xp)/\w3.cell? ⟨tb,0,none⟩=some (.int .i64 xid):=
       ⟨(hg3.cell_far ⟨tb,4,none⟩ (by show tb<w2.drew.heap.size;omega) (fun e=>by injection e with e;exact absurd (show tb=mb from e) (by omega))).trans hS0.1,(hg3.cell_far ⟨tb,0,none⟩ (by show tb<w2.drew.heap.size;omega) (fun e=>by injection e with e;exact absurd (show tb=mb from e) (by omega))).trans hS0.2⟩
      have hB3:Below mb w0 w3:=hbw.drew.trans ((bR9 mb w2.drew).grown hg3 (by omega) (fun k e=>by injection e with e;omega));refine hK9.out _ _ hS3 (fun _=>?_);clear hK9 K9;refine wpAnyH_take (i:=6) (v:=?_) rfl (by kernel_rfl) (by kernel_rfl) (by kernel_rfl) (fun _ _ _ h=>h) (Or.inl ⟨by rfl,fun W' hS=>?_⟩) hS3 ?_;rotate_left
      .obtain⟨s0,s1⟩:=hS;go_simp;(try with_reducible rfl)
      refine wpAnyH_done (by kernel_rfl) ?_ _;go_wp2;go_roundw
      case rel=>exact⟨i+1,xid,met++[xp],rfl,rfl,by simp,hin,HE,hm3,hB3⟩
      case measure=>simp [RowKit.intOf]<;>omega
  .obtain rfl:i=n:=by omega
   have HE:Hid (R=0):=hI9 (by rw [hS.out,HN.out,List.drop_eq_nil_of_le (nR9 _)];rfl);go_wp2
   (repeat rw [Exit.noGoto_ret])
   go_wp2;go_ret;exact⟨by rw [HE.out];rfl,HB.out.trans (hbr.mono (by omega))⟩
end Go.Proofs.YtgnaaokhfpfglaaGreatDoor
end
section
namespace Go.Proofs.YtgnaaokhfpfglaaGreatDoor
open Go.RowKit Go.Shelf Go.Lib Go.Proofs.YtgnaaokhfpfglaaGreatDoorW.PrintWords
noncomputable def taskG (L:List Wd):Except Int Tk:=
 if nextP L 0=⟨#[116,97,115,107]⟩ then
 if (numP (nextP L 1) 99).2=true then
 if (namedP (nextP L 2) ⟨#[99]⟩ 1073741824).2=true then
 if (namedP (nextP L 3) ⟨#[100]⟩ 1073741824).2=true then
 if (namedP (nextP L 4) ⟨#[116]⟩ 1073741824).2=true then
 if (namedP (nextP L 5) ⟨#[112]⟩ 99).2=true then
 if (rowP (nextP L 6) ⟨#[99,104,117,110,107,115]⟩ 1073741824).2=true then
 if (rowP (nextP L (rowK (nextP L 6) ⟨#[99,104,117,110,107,115]⟩ 6)) ⟨#[117,115,101]⟩ 255).2=true then
 if rowK (nextP L (rowK (nextP L 6) ⟨#[99,104,117,110,107,115]⟩ 6)) ⟨#[117,115,101]⟩ (rowK (nextP L 6) ⟨#[99,104,117,110,107,115]⟩ 6)=L.length then
  .ok ⟨(numP (nextP L 1) 99).1,(namedP (nextP L 2) ⟨#[99]⟩ 1073741824).1,(namedP (nextP L 3) ⟨#[100]⟩ 1073741824).1,(namedP (nextP L 4) ⟨#[116]⟩ 1073741824).1,(namedP (nextP L 5) ⟨#[112]⟩ 99).1,
   (rowP (nextP L 6) ⟨#[99,104,117,110,107,115]⟩ 1073741824).1,(rowP (nextP L (rowK (nextP L 6) ⟨#[99,104,117,110,107,115]⟩ 6)) ⟨#[117,115,101]⟩ 255).1⟩
 else .error (wrongP L (rowK (nextP L (rowK (nextP L 6) ⟨#[99,104,117,110,107,115]⟩ 6)) ⟨#[117,115,101]⟩ (rowK (nextP L 6) ⟨#[99,104,117,110,107,115]⟩ 6)))
 else .error (wrongP L (rowK (nextP L 6) ⟨#[99,104,117,110,107,115]⟩ 6))
 else .error (wrongP L 6)
 else .error (wrongP L 5)
 else .error (wrongP L 4)
 else .error (wrongP L 3)
 else .error (wrongP L 2)
 else .error (wrongP L 1)
 else .error (wrongP L 0)
def Tkp (w:World) (b cap:Nat) (A:Option Addr) (L:List Wd) (R:Except Int Tk) (e:Ending) (w':World):Prop:=
 (match R with
  |.error p=>e=.panicked (wrongV p)
  |.ok x=>(∃ A5 c5 A6 c6,e=.returned (.agg #[.int .i64 x.id,.int .i64 x.c,.int .i64 x.d,.int .i64 x.t,.int .i64 x.p,.slice A5 x.ch.length c5,.slice A6 x.us.length c6])/\OwnI w' w.heap.size 2 A5 c5 x.ch/\OwnI w' w.heap.size 3 A6 c6 x.us)/\∃ k,k<=10/\RdAt w' b A cap L k)
 /\ w.grownBy w' (some b)
def StT (w wi:World) (b cap:Nat) (A:Option Addr) (L:List Wd) (k r:Nat) (cs:Array Value):Prop:=
 RdAt wi b A cap L k/\w.grownBy wi (some b)/\wi.heap[r]? = some (.cells cs 58 (0,0))/\w.heap.size<=r
theorem StT.step {w wi w':World} {b cap k k' r:Nat} {A:Option Addr} {L:List Wd} {cs:Array Value} (h:StT w wi b cap A L k r cs) (hr:RdAt w' b A cap L k') (hg:wi.grownBy w' (some b)) (hb:b<w.heap.size):StT w w' b cap A L k' r cs:=
 ⟨hr,qak h.2.1 hg,(hg.block r (lt_of_block h.2.2.1) (fun e=>by injection e with e;have:=h.2.2.2;omega)).trans h.2.2.1,h.2.2.2⟩
theorem RdAt.far {w:World} {b cap k r:Nat} {A:Option Addr} {L:List Wd} (h:RdAt w b A cap L k) (hr:b<r) (i:Nat) (u:Value):RdAt (w.setCell ⟨r,i,none⟩ u) b A cap L k:=by
 have hb:Below r w (w.setCell ⟨r,i,none⟩ u):=⟨rfl,rfl,rfl,by simp [World.setCell],fun j hj=>Below.heap_setCell w ⟨r,i,none⟩ u j (by show j≠r;omega)⟩;exact h.below hb hr
theorem StT.store {w wi:World} {b cap k r:Nat} {A:Option Addr} {L:List Wd} {cs:Array Value} (h:StT w wi b cap A L k r cs) (hb:b<w.heap.size) (i:Nat) (u:Value):StT w (wi.setCell ⟨r,i,none⟩ u) b cap A L k r (cs.setIfInBounds i u):=by
 have hr:=h.2.2.2;refine⟨h.1.far (by omega) i u,⟨h.2.1.os,h.2.1.tape,h.2.1.output,by have:=h.2.1.size;simpa [World.setCell] using this,fun j hj hne=>?_⟩,blkSet h.2.2.1 i u,hr⟩;exact (Below.heap_setCell wi ⟨r,i,none⟩ u j (by show j≠r;omega)).trans (h.2.1.block j hj hne)
theorem StT.other {w wi:World} {b cap k r r':Nat} {A:Option Addr} {L:List Wd} {cs:Array Value} (h:StT w wi b cap A L k r cs) (hb:b<w.heap.size) (hr':w.heap.size<=r') (hne:r≠r') (i:Nat) (u:Value):StT w (wi.setCell ⟨r',i,none⟩ u) b cap A L k r cs:=by
 refine⟨h.1.far (by omega) i u,⟨h.2.1.os,h.2.1.tape,h.2.1.output,by have:=h.2.1.size;simpa [World.setCell] using this,fun j hj hne=>?_⟩,(Below.heap_setCell wi ⟨r',i,none⟩ u r hne).trans h.2.2.1,h.2.2.2⟩;exact (Below.heap_setCell wi ⟨r',i,none⟩ u j (by show j≠r';omega)).trans (h.2.1.block j hj hne)
theorem StT.alloc {w wi:World} {b cap k r:Nat} {A:Option Addr} {L:List Wd} {cs:Array Value} (h:StT w wi b cap A L k r cs) (o:Obj):StT w (wi.alloc o) b cap A L k r cs:=
 ⟨h.1.alloc o,qak h.2.1 (qah ((bR9 wi.heap.size wi).alloc (nR9 _) o) _),(((bR9 wi.heap.size wi).alloc (nR9 _) o).block r (lt_of_block h.2.2.1)).trans h.2.2.1,h.2.2.2⟩
theorem StT.facts {w wi:World} {b cap k r:Nat} {A:Option Addr} {L:List Wd} {cs:Array Value} (h:StT w wi b cap A L k r cs) (i:Nat):wi.cell? ⟨r,i,none⟩=cs[i]?/\wi.frozen? ⟨r,i,none⟩=false:=by
 have h0:=h.2.2.1;exact⟨cell_of_row wi r i _ _ _ h0,by simp [World.frozen?,h0]⟩
theorem StT.maxLen {w wi:World} {b cap k r:Nat} {A:Option Addr} {L:List Wd} {cs:Array Value} {g:Nat} {m:Int} (h:StT w wi b cap A L k r cs) (hg:g≠b) (hm:w.cell? ⟨g,0,none⟩=some (.int .i64 m)):wi.cell? ⟨g,0,none⟩=some (.int .i64 m):=
 (World.cell?_of_block (h.2.1.block g (qaM hm) (fun e=>by injection e with e;exact hg e))).trans hm
theorem pairV_val {x:ByteArray} {n:Nat} (hsz:x.size<=n):(pairV x).2.1.size<=n:=by
 unfold pairV;split
 .exact Nat.le_trans (size_drop _ _) (by rw [<- Lib.size_eq];exact hsz)
 .simp
theorem rowP_len {x name:ByteArray} {most:Int} {n:Nat} (h:x.size<=n):(rowP x name most).1.length<=n+1:=by
 unfold rowP;split
 .unfold numsP;split
  .have h1:=commas_len (pairV x).2.1;have h2:=pairV_val h;simp only [numsOf,List.length_map];omega
  .simp
 .simp
theorem nextP_size {L:List Wd} {n:Nat} (hL:∀ x ∈ L,x.t.size<=n) (k:Nat):(nextP L k).size<=n:=by
 unfold nextP;cases h:L[k]? with
 |none=>simp
 |some x=>exact hL x (List.mem_of_getElem? h)
theorem task_ret {R:Ending->World->Prop} {tmps:Array Value} {W:World} {bk:Nat} {t:TypeId} {a0 a1 a2 a3 a4 a5 a6:Value} (ht:tmps[2]?.getD undef=.pointer (some ⟨bk,0,none⟩)) (hb:W.heap[bk]? = some (.cells #[a0,a1,a2,a3,a4,a5,a6] t (0,0)))
  (hR:R (.returned (.agg #[a0,a1,a2,a3,a4,a5,a6])) W) :
  bodyPost Tryz.prog Tryz.f94 R .ret { tmps:=tmps,defers:=[] } W:=by
 refine bodyPost_ret ?_ rfl hR;have h0:W.cell? ⟨bk,0,none⟩=some a0:=by simp [World.cell?,hb]
 have h1:W.cell? ⟨bk,1,none⟩=some a1:=by simp [World.cell?,hb]
 have h2:W.cell? ⟨bk,2,none⟩=some a2:=by simp [World.cell?,hb]
 have h3:W.cell? ⟨bk,3,none⟩=some a3:=by simp [World.cell?,hb]
 have h4:W.cell? ⟨bk,4,none⟩=some a4:=by simp [World.cell?,hb]
 have h5:W.cell? ⟨bk,5,none⟩=some a5:=by simp [World.cell?,hb]
 have h6:W.cell? ⟨bk,6,none⟩=some a6:=by simp [World.cell?,hb]
 simp [results,Tryz.f94,go_sem,ht,h0,h1,h2,h3,h4,h5,h6]
theorem qaA (w:World) (r i:Nat) (u:Value):w.grownBy (w.setCell ⟨r,i,none⟩ u) (some r):=
 ⟨rfl,rfl,rfl,by simp [World.setCell],fun j _ hne=>Below.heap_setCell w ⟨r,i,none⟩ u j (fun e=>hne (by rw [e]))⟩
theorem infoI:(Tryz.prog.info? 3).map (fun i=>(i.zero,i.size,i.bytes))=some (some (.int .i64 0),1,8):=by kernel_rfl
theorem StT.grow {w wi w':World} {b cap k r:Nat} {A:Option Addr} {L:List Wd} {cs:Array Value} {row:Option Nat} (h:StT w wi b cap A L k r cs) (hg:wi.grownBy w' row) (hrow:∀ g,row=some g->r<g) (hb:b<w.heap.size):StT w w' b cap A L k r cs:=by
 have hlt:=lt_of_block h.2.2.1;have hr:=h.2.2.2;have hB:Below (r+1) wi w':=⟨hg.os,hg.tape,hg.output,hg.size,fun j hj=>hg.block j (by omega) (fun e=>by have:=hrow j e.symm;omega)⟩;exact⟨h.1.below hB (by omega),⟨hg.os.trans h.2.1.os,hg.tape.trans h.2.1.tape,hg.output.trans h.2.1.output,Nat.le_trans h.2.1.size hg.size,fun j hj hne=>(hB.block j (by omega)).trans (h.2.1.block j hj hne)⟩,(hB.block r (by omega)).trans h.2.2.1,hr⟩
theorem blkPut {w:World} {g:Nat} {t:TypeId} {cs cs':Array Value} (h:w.heap[g]? = some (.cells cs t (0,0))) (i:Nat) (u:Value) (e:cs.setIfInBounds i u=cs'):(w.setCell ⟨g,i,none⟩ u).heap[g]? = some (.cells cs' t (0,0)):=e ▸ blkSet h i u
theorem seven_set {w:World} {r:Nat} {t:TypeId} {a0 a1 a2 a3 a4 a5 a6:Value} (h:w.heap[r]? = some (.cells #[a0,a1,a2,a3,a4,a5,a6] t (0,0))) (b0 b1 b2 b3 b4 b5 b6:Value) :
  (((((((w.setCell ⟨r,0,none⟩ b0).setCell ⟨r,1,none⟩ b1).setCell ⟨r,2,none⟩ b2).setCell ⟨r,3,none⟩ b3).setCell ⟨r,4,none⟩ b4).setCell ⟨r,5,none⟩ b5).setCell ⟨r,6,none⟩ b6).heap[r]? = some (.cells #[b0,b1,b2,b3,b4,b5,b6] t (0,0)) /\
  w.grownBy (((((((w.setCell ⟨r,0,none⟩ b0).setCell ⟨r,1,none⟩ b1).setCell ⟨r,2,none⟩ b2).setCell ⟨r,3,none⟩ b3).setCell ⟨r,4,none⟩ b4).setCell ⟨r,5,none⟩ b5).setCell ⟨r,6,none⟩ b6) (some r):=
 ⟨blkPut (blkPut (blkPut (blkPut (blkPut (blkPut (blkPut h 0 b0 (cs':=#[b0,a1,a2,a3,a4,a5,a6]) (by simp)) 1 b1 (cs':=#[b0,b1,a2,a3,a4,a5,a6]) (by simp)) 2 b2 (cs':=#[b0,b1,b2,a3,a4,a5,a6]) (by simp)) 3 b3 (cs':=#[b0,b1,b2,b3,a4,a5,a6]) (by simp)) 4 b4 (cs':=#[b0,b1,b2,b3,b4,a5,a6]) (by simp)) 5 b5 (cs':=#[b0,b1,b2,b3,b4,b5,a6]) (by simp)) 6 b6 (cs':=#[b0,b1,b2,b3,b4,b5,b6]) (by simp),
  qak (qak (qak (qak (qak (qak (qaA _ _ _ _) (qaA _ _ _ _)) (qaA _ _ _ _)) (qaA _ _ _ _)) (qaA _ _ _ _)) (qaA _ _ _ _)) (qaA _ _ _ _)⟩
theorem task_step (b cap:Nat) (A:Option Addr) (L:List Wd) (m:Int) (w:World) (hn:L.length<=1000000)
  (hL:∀ x ∈ L,x.t.size<=2097152) (hm:w.cell? ⟨0,0,none⟩=some (.int .i64 m)) (hgb:0≠b) (hr:RdAt w b A cap L 0) :
  Calls Tryz.prog 94 #[.pointer (some ⟨b,0,none⟩)] w fun e w'=>Tkp w b cap A L (taskG L) e w':=by
 obtain⟨R,hR⟩:∃ z,z=taskG L:=⟨_,rfl⟩;rw [<- hR];unfold taskG at hR;have hlb:=hr.lt;have HM:=hI9 (fun (wi:World) (k r:Nat) (cs:Array Value) (h:StT w wi b cap A L k r cs)=>h.maxLen hgb hm);have HN:=hI9 (And.intro hn hL);have hL':∀ x ∈ L,x.t.size<4294967281:=fun x hx=>by have:=hL x hx;omega
 have H0:StT w (w.alloc (.cells #[.int .i64 0,.int .i64 0,.int .i64 0,.int .i64 0,.int .i64 0,.slice none 0 0,.slice none 0 0] 58)) b cap A L 0 w.heap.size #[.int .i64 0,.int .i64 0,.int .i64 0,.int .i64 0,.int .i64 0,.slice none 0 0,.slice none 0 0]:=
  ⟨hr.alloc _,qah ((bR9 w.heap.size w).alloc (nR9 _) _) _,heap_alloc_new w _,nR9 _⟩
 have HL:=hI9 hL';have HR:=hI9 hR;have HMM:=hI9 (And.intro hm hgb);clear hr hn hL hL' hR hm;go_enter Tryz.func94,Tryz.ntmps94;go_upto_region 1 with (fail)
 generalize w.alloc (.cells #[.int .i64 0,.int .i64 0,.int .i64 0,.int .i64 0,.int .i64 0,.slice none 0 0,.slice none 0 0] 58)=w0 at H0 ⊢;obtain⟨rb,hrb⟩:∃ z,w.heap.size=z:=⟨_,rfl⟩;have HRB:=hI9 hrb;rw [hrb] at H0 ⊢;have C1:=hI9 (word_any b cap 0 A L ⟨#[116,97,115,107]⟩ w0 HN.out.1 (by omega) H0.1);cases h1:decide (nextP L 0=⟨#[116,97,115,107]⟩) with
 |false=>
  rw [h1] at C1;have HE:Hid (R=.error (wrongP L 0)):=hI9 (by rw [HR.out,if_neg (by simpa using h1)]);have HG:=hI9 H0;clear H0 h1;go_wp2_with (first|(go_at_call 90;refine C1.out.mono ?_;rintro e w1 ⟨rfl,hg1⟩))
  exact⟨rfl,by rw [HE.out],qak HG.out.2.1 hg1⟩
 |true=>
 rw [h1] at C1;have HR1:=hI9 (HR.out.trans (if_pos (by simpa using h1)));have HG:=hI9 H0;clear H0 h1 HR;go_upto_region 2 with (first|(go_at_call 90;refine C1.out.mono ?_;rintro e w1 ⟨⟨rfl,hr1⟩,hg1⟩;have H1:=HG.out.step hr1 hg1 hlb))
 have C2:=hI9 (number_step b cap 1 A L 99 w1 HN.out.1 (by omega) (by omega) (by omega) H1.1);generalize numP (nextP L 1) 99=v at C2 HR1;obtain⟨v0,ok⟩:=v;cases ok with
 |false=>
  have HE:Hid (R=.error (wrongP L 1)):=hI9 (by rw [HR1.out,if_neg (by simp)]);have HG2:=hI9 H1;clear H1 hr1 HG;go_wp2_with (first|(go_at_call 91;refine C2.out.mono ?_;rintro e w2 ⟨rfl,hg2⟩))
  exact⟨rfl,by rw [HE.out],qak HG2.out.2.1 hg2⟩
 |true=>
 have HR2:=hI9 (HR1.out.trans (if_pos rfl));have HG2:=hI9 H1;clear H1 HR1 hr1 HG;go_upto_region 3 with (first|(go_at_call 91;refine C2.out.mono ?_;rintro e w2 ⟨⟨rfl,hr2⟩,hg2⟩;have H2:=hI9 (HG2.out.step hr2 hg2 hlb);clear hr2))
 have A3:=H2.out.alloc (.cells #[.int .i64 v0,.int .i64 0,.int .i64 0,.int .i64 0,.int .i64 0,.slice none 0 0,.slice none 0 0] 58);have T3:StT w (w2.alloc (.cells #[.int .i64 v0,.int .i64 0,.int .i64 0,.int .i64 0,.int .i64 0,.slice none 0 0,.slice none 0 0] 58)) b cap A L (1+1) w2.heap.size #[.int .i64 v0,.int .i64 0,.int .i64 0,.int .i64 0,.int .i64 0,.slice none 0 0,.slice none 0 0]:=⟨A3.1,A3.2.1,heap_alloc_new w2 _,H2.out.2.1.size⟩;have hne:rb<w2.heap.size:=lt_of_block H2.out.2.2.1;generalize w2.alloc (.cells #[.int .i64 v0,.int .i64 0,.int .i64 0,.int .i64 0,.int .i64 0,.slice none 0 0,.slice none 0 0] 58)=w3 at A3 T3 ⊢;obtain⟨tb,htb⟩:∃ z,w2.heap.size=z:=⟨_,rfl⟩;rw [htb] at T3 hne ⊢;clear htb H2 hg2 HG2 C2;have C3:=hI9 (named_step b cap 2 A L ⟨#[99]⟩ 1073741824 m w3 HN.out.1 (by omega) (by omega) (by omega) HL.out (HM.out _ _ _ _ T3) T3.1);generalize namedP (nextP L 2) ⟨#[99]⟩ 1073741824=v at C3 HR2;obtain⟨v1,ok⟩:=v;cases ok with
 |false=>
  have HE:Hid (R=.error (wrongP L 2)):=hI9 (by rw [HR2.out,if_neg (by simp)]);have HT:=hI9 T3;clear T3 A3;go_wp2_with (first|(go_at_call 122;refine C3.out.mono ?_;rintro e wx ⟨rfl,hgx⟩))
  exact⟨rfl,by rw [HE.out],qak HT.out.2.1 hgx⟩
 |true=>
 have HR3:=hI9 (HR2.out.trans (if_pos rfl));have HT:=hI9 (And.intro T3 A3);clear T3 A3 HR2;go_upto_region 4 with (first|(go_at_call 122;refine C3.out.mono ?_;rintro e wx ⟨⟨rfl,hrx⟩,hgx⟩;have TX:=HT.out.1.step hrx hgx hlb;have AX:=hI9 (HT.out.2.step hrx hgx hlb);have fx1:=(TX.facts 1).2;have fx0:wx.cell? ⟨tb,1,none⟩=some (.int .i64 0):=(TX.facts 1).1;have TXX:=hI9 TX;clear hrx TX))
 have T4:StT w (wx.setCell ⟨tb,1,none⟩ (.int .i64 v1)) b cap A L (2+1) tb #[.int .i64 v0,.int .i64 v1,.int .i64 0,.int .i64 0,.int .i64 0,.slice none 0 0,.slice none 0 0]:=TXX.out.store hlb 1 (.int .i64 v1);have A4:=AX.out.other hlb TXX.out.2.2.2 (Nat.ne_of_lt hne) 1 (.int .i64 v1);generalize wx.setCell ⟨tb,1,none⟩ (.int .i64 v1)=w4 at T4 A4 ⊢;clear HT TXX AX hgx fx0 fx1 C3;have C4:=hI9 (named_step b cap 3 A L ⟨#[100]⟩ 1073741824 m w4 HN.out.1 (by omega) (by omega) (by omega) HL.out (HM.out _ _ _ _ T4) T4.1);generalize namedP (nextP L 3) ⟨#[100]⟩ 1073741824=v at C4 HR3;obtain⟨v2,ok⟩:=v;cases ok with
 |false=>
  have HE:Hid (R=.error (wrongP L 3)):=hI9 (by rw [HR3.out,if_neg (by simp)]);have HT:=hI9 T4;clear T4 A4;go_wp2_with (first|(go_at_call 122;refine C4.out.mono ?_;rintro e wx ⟨rfl,hgx⟩))
  exact⟨rfl,by rw [HE.out],qak HT.out.2.1 hgx⟩
 |true=>
 have HR4:=hI9 (HR3.out.trans (if_pos rfl));have HT:=hI9 (And.intro T4 A4);clear T4 A4 HR3;go_upto_region 5 with (first|(go_at_call 122;refine C4.out.mono ?_;rintro e wx ⟨⟨rfl,hrx⟩,hgx⟩;have TX:=HT.out.1.step hrx hgx hlb;have AX:=hI9 (HT.out.2.step hrx hgx hlb);have fx1:=(TX.facts 2).2;have fx0:wx.cell? ⟨tb,2,none⟩=some (.int .i64 0):=(TX.facts 2).1;have TXX:=hI9 TX;clear hrx TX))
 have T5:StT w (wx.setCell ⟨tb,2,none⟩ (.int .i64 v2)) b cap A L (3+1) tb #[.int .i64 v0,.int .i64 v1,.int .i64 v2,.int .i64 0,.int .i64 0,.slice none 0 0,.slice none 0 0]:=TXX.out.store hlb 2 (.int .i64 v2);have A5:=AX.out.other hlb TXX.out.2.2.2 (Nat.ne_of_lt hne) 2 (.int .i64 v2);generalize wx.setCell ⟨tb,2,none⟩ (.int .i64 v2)=w5 at T5 A5 ⊢;clear HT TXX AX hgx fx0 fx1 C4;have C5:=hI9 (named_step b cap 4 A L ⟨#[116]⟩ 1073741824 m w5 HN.out.1 (by omega) (by omega) (by omega) HL.out (HM.out _ _ _ _ T5) T5.1);generalize namedP (nextP L 4) ⟨#[116]⟩ 1073741824=v at C5 HR4;obtain⟨v3,ok⟩:=v;cases ok with
 |false=>
  have HE:Hid (R=.error (wrongP L 4)):=hI9 (by rw [HR4.out,if_neg (by simp)]);have HT:=hI9 T5;clear T5 A5;go_wp2_with (first|(go_at_call 122;refine C5.out.mono ?_;rintro e wx ⟨rfl,hgx⟩))
  exact⟨rfl,by rw [HE.out],qak HT.out.2.1 hgx⟩
 |true=>
 have HR5:=hI9 (HR4.out.trans (if_pos rfl));have HT:=hI9 (And.intro T5 A5);clear T5 A5 HR4;go_upto_region 6 with (first|(go_at_call 122;refine C5.out.mono ?_;rintro e wx ⟨⟨rfl,hrx⟩,hgx⟩;have TX:=HT.out.1.step hrx hgx hlb;have AX:=hI9 (HT.out.2.step hrx hgx hlb);have fx1:=(TX.facts 3).2;have fx0:wx.cell? ⟨tb,3,none⟩=some (.int .i64 0):=(TX.facts 3).1;have TXX:=hI9 TX;clear hrx TX))
 have T6:StT w (wx.setCell ⟨tb,3,none⟩ (.int .i64 v3)) b cap A L (4+1) tb #[.int .i64 v0,.int .i64 v1,.int .i64 v2,.int .i64 v3,.int .i64 0,.slice none 0 0,.slice none 0 0]:=TXX.out.store hlb 3 (.int .i64 v3);have A6:=AX.out.other hlb TXX.out.2.2.2 (Nat.ne_of_lt hne) 3 (.int .i64 v3);generalize wx.setCell ⟨tb,3,none⟩ (.int .i64 v3)=w6 at T6 A6 ⊢;clear HT TXX AX hgx fx0 fx1 C5;have C6:=hI9 (named_step b cap 5 A L ⟨#[112]⟩ 99 m w6 HN.out.1 (by omega) (by omega) (by omega) HL.out (HM.out _ _ _ _ T6) T6.1);generalize namedP (nextP L 5) ⟨#[112]⟩ 99=v at C6 HR5;obtain⟨v4,ok⟩:=v;cases ok with
 |false=>
  have HE:Hid (R=.error (wrongP L 5)):=hI9 (by rw [HR5.out,if_neg (by simp)]);have HT:=hI9 T6;clear T6 A6;go_wp2_with (first|(go_at_call 122;refine C6.out.mono ?_;rintro e wx ⟨rfl,hgx⟩))
  exact⟨rfl,by rw [HE.out],qak HT.out.2.1 hgx⟩
 |true=>
 have HR6:=hI9 (HR5.out.trans (if_pos rfl));have HT:=hI9 (And.intro T6 A6);clear T6 A6 HR5;go_upto_region 7 with (first|(go_at_call 122;refine C6.out.mono ?_;rintro e wx ⟨⟨rfl,hrx⟩,hgx⟩;have TX:=HT.out.1.step hrx hgx hlb;have AX:=hI9 (HT.out.2.step hrx hgx hlb);have fx1:=(TX.facts 4).2;have fx0:wx.cell? ⟨tb,4,none⟩=some (.int .i64 0):=(TX.facts 4).1;have TXX:=hI9 TX;clear hrx TX))
 have T7:StT w (wx.setCell ⟨tb,4,none⟩ (.int .i64 v4)) b cap A L (5+1) tb #[.int .i64 v0,.int .i64 v1,.int .i64 v2,.int .i64 v3,.int .i64 v4,.slice none 0 0,.slice none 0 0]:=TXX.out.store hlb 4 (.int .i64 v4);have A7:=AX.out.other hlb TXX.out.2.2.2 (Nat.ne_of_lt hne) 4 (.int .i64 v4);generalize wx.setCell ⟨tb,4,none⟩ (.int .i64 v4)=w7 at T7 A7 ⊢;clear HT TXX AX hgx fx0 fx1 C6;have C7:=hI9 (row_step b cap 6 A L ⟨#[99,104,117,110,107,115]⟩ 1073741824 m w7 HN.out.1 (by omega) (by omega) (by omega) HN.out.2 (HM.out _ _ _ _ T7) T7.1);have hk6:rowK (nextP L 6) ⟨#[99,104,117,110,107,115]⟩ 6<=7:=by unfold rowK;split<;>omega
 generalize rowK (nextP L 6) ⟨#[99,104,117,110,107,115]⟩ 6=k6 at hk6 C7 HR6;generalize rowP (nextP L 6) ⟨#[99,104,117,110,107,115]⟩ 1073741824=v at C7 HR6;obtain⟨v5,ok⟩:=v;cases ok with
 |false=>
  have HE:Hid (R=.error (wrongP L 6)):=hI9 (by rw [HR6.out,if_neg (by simp)]);have HT:=hI9 T7;clear T7 A7;go_wp2_with (first|(go_at_call 123;refine C7.out.mono ?_;rintro e wx ⟨rfl,hgx⟩))
  exact⟨rfl,by rw [HE.out],qak HT.out.2.1 hgx⟩
 |true=>
 have HR7:=hI9 (HR6.out.trans (if_pos rfl));have HT:=hI9 (And.intro T7 A7);clear T7 A7 HR6;go_upto_region 8 with (first|(go_at_call 123;refine C7.out.mono ?_;rintro e wx ⟨⟨⟨A5,c5,rfl,hn5⟩,hrx⟩,hgx⟩;have TX:=HT.out.1.step hrx hgx hlb;have AX:=hI9 (HT.out.2.step hrx hgx hlb);have fx1:=(TX.facts 5).2;have fx0:wx.cell? ⟨tb,5,none⟩=some (.slice none 0 0):=(TX.facts 5).1;have TXX:=hI9 TX;have hn5':=hI9 hn5;clear hrx TX hn5))
 have T8:StT w (wx.setCell ⟨tb,5,none⟩ (.slice A5 v5.length c5)) b cap A L k6 tb #[.int .i64 v0,.int .i64 v1,.int .i64 v2,.int .i64 v3,.int .i64 v4,.slice A5 v5.length c5,.slice none 0 0]:=TXX.out.store hlb 5 (.slice A5 v5.length c5);have A8:=AX.out.other hlb TXX.out.2.2.2 (Nat.ne_of_lt hne) 5 (.slice A5 v5.length c5);have HN5:=hI9 ((hn5'.out.far (lt_of_block HT.out.1.2.2.1) 5 (.slice A5 v5.length c5)).weaken (Nat.succ_le_of_lt (lt_of_block HT.out.1.2.2.1)));generalize wx.setCell ⟨tb,5,none⟩ (.slice A5 v5.length c5)=w8 at T8 A8 HN5 ⊢;clear HT TXX AX hgx fx0 fx1 C7 hn5';have C8:=hI9 (row_step b cap k6 A L ⟨#[117,115,101]⟩ 255 m w8 HN.out.1 (by omega) (by omega) (by omega) HN.out.2 (HM.out _ _ _ _ T8) T8.1);have hk8:rowK (nextP L k6) ⟨#[117,115,101]⟩ k6<=8:=by unfold rowK;split<;>omega
 generalize rowK (nextP L k6) ⟨#[117,115,101]⟩ k6=k8 at hk8 C8 HR7;have hvl:=rowP_len (name:=⟨#[117,115,101]⟩) (most:=255) (nextP_size HN.out.2 k6);generalize rowP (nextP L k6) ⟨#[117,115,101]⟩ 255=v at C8 HR7 hvl;obtain⟨v6,ok⟩:=v;cases ok with
 |false=>
  have HE:Hid (R=.error (wrongP L k6)):=hI9 (by rw [HR7.out,if_neg (by simp)]);have HT:=hI9 T8;clear T8 A8;go_wp2_with (first|(go_at_call 123;refine C8.out.mono ?_;rintro e wx ⟨rfl,hgx⟩))
  exact⟨rfl,by rw [HE.out],qak HT.out.2.1 hgx⟩
 |true=>
 have HR8:=hI9 (HR7.out.trans (if_pos rfl));have HT:=hI9 (And.intro T8 A8);clear T8 A8 HR7;go_wp2_with (first|(go_at_call 123;refine C8.out.mono ?_;rintro e w9 ⟨⟨⟨A6,c6,rfl,hn6⟩,hrx⟩,hgx⟩;have T9:=hI9 (HT.out.1.step hrx hgx hlb);have A9:=hI9 (HT.out.2.step hrx hgx hlb);have HN6:=hI9 hn6.nrow;have HTB:=hI9 (lt_of_block HT.out.1.2.2.1);have HNX:=hI9 (HN5.out.grown hgx (by have:=HT.out.1.2.2.2;omega));clear hrx hn6))
 obtain⟨i0,hi0,hz0,hz1,hz2⟩:=info_parts infoI;obtain⟨n,hn⟩:∃ z,v6.length=z:=⟨_,rfl⟩;have HNN:=hI9 hn;rw [hn];have hvn:n<=2097153:=by rw [<- hn];exact hvl
 clear hn hgx HT C8 hvl;have hbt:tb<w9.heap.size:=lt_of_block T9.out.2.2.1;have HC6:Hid (0<n->∃ g off,A6=some ⟨g,off,none⟩/\tb<g/\g<w9.heap.size/\∀ i (h:i<v6.length),w9.cell? ⟨g,off+i,none⟩=some (.int .i64 v6[i])):=hI9 (fun h0=>by
  obtain⟨g,off,rfl,h1,h2⟩:=HN6.out.1 (by rw [HNN.out];exact h0)
  exact⟨g,off,rfl,Nat.lt_of_lt_of_le HTB.out (HN6.out.2 _ rfl),h1,h2⟩)
 go_loopw [29] (fun v29 wr=>∃ (i:Nat) (u:Value),v29=.int .i64 i/\i<=n/\Hid (StT w wr b cap A L k8 tb #[.int .i64 v0,.int .i64 v1,.int .i64 v2,.int .i64 v3,.int .i64 v4,.slice A5 v5.length c5,u])/\Hid (wr.ownsRow w9.heap.size 3 1 u i ((v6.take i).map (Value.int .i64)))/\Hid (w9.grownBy wr (some tb))) (fun v29 _=>n - (RowKit.intOf v29).toNat)
 case atStart=>exact⟨0,.slice none 0 0,rfl,Nat.zero_le _,T9,hI9 (by simpa using World.ownsRow_nil _ _ _ _),hI9 (World.grownBy.refl _ _)⟩
 case round=>
  obtain⟨i,u,rfl,hi,hT,hO,hG⟩:=hrel;by_cases hin:i<n
  .have hil:i<v6.length:=by rw [HNN.out];exact hin
   obtain⟨gA,oA,rfl,htg,hg9,hcA⟩:=HC6.out (by omega);have a0:=(World.cell?_of_block (hG.out.block gA hg9 (fun e=>by injection e with e;omega))).trans (hcA i hil);have htk:v6.take (i+1)=v6.take i++[v6[i]]:=by rw [List.take_add_one,List.getElem?_eq_getElem hil];rfl
   generalize v6[i]=x at a0 htk;have HTK:=hI9 htk;clear hcA htk;have f6:wr.cell? ⟨tb,6,none⟩=some u:=(hT.out.facts 6).1;have hsz:w9.heap.size<=wr.heap.size:=hG.out.size;have HOB:=hI9 (fun k (e:u.ownBlock=some k)=>(hO.out.lt k e).1);go_wp2_with (at_builtin;refine wpList_append_own _ rfl _ _ 25 rfl w9.heap.size 3 i0 _ 1 8 Tryz.underlying25 hi0 hz0 hz1 hz2 rfl (by decide) _ _ _ rfl (hO.out.alloc _) ⟨wr.heap.size,0,none⟩ 1 1 [.int .i64 x] rfl rfl (cell_one_new _ _ _) (by simp [Value.oneCell']) (by unfold maxLen;omega) (by omega) (by simp;omega) ?_;intro v' w2 hown' hgrow _;obtain⟨Av,cv,rfl⟩:=own_slice hown';have TX:=(hT.out.alloc (.cells #[.int .i64 x] 3)).grow hgrow (fun k e=>by have:=HOB.out k e;omega) hlb;have g6:=(TX.facts 6).2;have g7:w2.cell? ⟨tb,6,none⟩=some u:=(TX.facts 6).1;have HX:=hI9 (And.intro TX (And.intro hown' hgrow));clear TX hown' hgrow)
   have hgx:w9.grownBy (w2.setCell ⟨tb,6,none⟩ (.slice Av (i+1) cv)) (some tb):=
    ⟨HX.out.2.2.os.trans hG.out.os,HX.out.2.2.tape.trans hG.out.tape,HX.out.2.2.output.trans hG.out.output,by have h1:=HX.out.2.2.size;have h2:=hG.out.size;simp at h1;simp [World.setCell];omega,fun k hk hne=>
     (Below.heap_setCell w2 ⟨tb,6,none⟩ _ k (fun e=>hne (by rw [e]))).trans ((HX.out.2.2.block k (by have h2:=hG.out.size;simp;omega) (fun e=>by have:=HOB.out k e.symm;omega)).trans
      ((((bR9 wr.heap.size wr).alloc (nR9 _) (.cells #[.int .i64 x] 3)).block k (by have h2:=hG.out.size;omega)).trans (hG.out.block k hk hne)))⟩
   have hox:=ownsRow_far HX.out.2.1 hbt 6 (.slice Av (i+1) cv);rw [show List.map (Value.int .i64) (v6.take i)++[Value.int .i64 x]=List.map (Value.int .i64) (v6.take (i+1)) by rw [HTK.out,List.map_append];rfl] at hox;go_roundw
   case rel=>exact⟨i+1,.slice Av (i+1) cv,by simp,hin,hI9 (HX.out.1.store hlb 6 (.slice Av (i+1) cv)),hI9 hox,hI9 hgx⟩
   case measure=>simp [RowKit.intOf]<;>omega
  .obtain rfl:i=n:=by omega
   have CD:=hI9 (done_step b cap k8 A L wr HN.out.1 (by omega) hT.out.1);by_cases hkl:k8=L.length;rotate_left
   .have HE:Hid (R=.error (wrongP L k8)):=hI9 (by rw [HR8.out,if_neg hkl]);simp only [if_neg hkl] at CD;go_wp2_with (first|(go_at_call 92;refine CD.out.mono ?_;rintro e wx ⟨rfl,hbx⟩))
    exact⟨rfl,by rw [HE.out],qak hT.out.2.1 (qah hbx _)⟩
   .have HE:=hI9 (HR8.out.trans (if_pos hkl));simp only [if_pos hkl] at CD;have hOu:wr.ownsRow w9.heap.size 3 1 u v6.length (v6.map (Value.int .i64)):=by
     have:=hO.out;rw [List.take_of_length_le (by rw [HNN.out];exact nR9 _)] at this;rw [HNN.out];exact this
    obtain⟨Au,cu,rfl,hnu⟩:=OwnI.of hOu;have hrbr:wr.heap[rb]? = some (.cells #[.int .i64 0,.int .i64 0,.int .i64 0,.int .i64 0,.int .i64 0,.slice none 0 0,.slice none 0 0] 58 (0,0)):=(hG.out.block rb (by omega) (fun e=>by injection e with e;omega)).trans A9.out.2.2.1;have HU:=hI9 hnu;have hlw:=lt_of_block hrbr;clear hnu hOu;go_upto_region 14 with (first|(go_at_call 92;refine CD.out.mono ?_;rintro e w10 ⟨rfl,hbx⟩))
    have T10:=hT.out.grow (qah hbx none) (fun k e=>by cases e) hlb;have hrb10:=(hbx.block rb hlw).trans hrbr;have e0:w10.cell? ⟨tb,0,none⟩=some (.int .i64 v0):=(T10.facts 0).1;have e1:w10.cell? ⟨tb,1,none⟩=some (.int .i64 v1):=(T10.facts 1).1;have e2:w10.cell? ⟨tb,2,none⟩=some (.int .i64 v2):=(T10.facts 2).1;have e3:w10.cell? ⟨tb,3,none⟩=some (.int .i64 v3):=(T10.facts 3).1;have e4:w10.cell? ⟨tb,4,none⟩=some (.int .i64 v4):=(T10.facts 4).1;have e5:w10.cell? ⟨tb,5,none⟩=some (.slice A5 v5.length c5):=(T10.facts 5).1;have e6:w10.cell? ⟨tb,6,none⟩=some (.slice Au v6.length cu):=(T10.facts 6).1;have r0:=cell_of_row w10 rb 0 _ _ _ hrb10;have r1:=cell_of_row w10 rb 1 _ _ _ hrb10;have r2:=cell_of_row w10 rb 2 _ _ _ hrb10;have r3:=cell_of_row w10 rb 3 _ _ _ hrb10;have r4:=cell_of_row w10 rb 4 _ _ _ hrb10;have r5:=cell_of_row w10 rb 5 _ _ _ hrb10;have r6:=cell_of_row w10 rb 6 _ _ _ hrb10;have hz:∀ i,w10.frozen? ⟨rb,i,none⟩=false:=fun i=>by simp [World.frozen?,hrb10]
    have HT10:=hI9 T10;have HRB10:=hI9 hrb10;clear T10 hrb10;simp at r0 r1 r2 r3 r4 r5 r6;go_wp2;obtain⟨s1,s2⟩:=seven_set HRB10.out (.int .i64 v0) (.int .i64 v1) (.int .i64 v2) (.int .i64 v3) (.int .i64 v4) (.slice A5 v5.length c5) (.slice Au v6.length cu);generalize ((((((w10.setCell ⟨rb,0,none⟩ (.int .i64 v0)).setCell ⟨rb,1,none⟩ (.int .i64 v1)).setCell ⟨rb,2,none⟩ (.int .i64 v2)).setCell ⟨rb,3,none⟩ (.int .i64 v3)).setCell ⟨rb,4,none⟩ (.int .i64 v4)).setCell ⟨rb,5,none⟩ (.slice A5 v5.length c5)).setCell ⟨rb,6,none⟩ (.slice Au v6.length cu)=W at s1 s2 ⊢;have hrw:w.heap.size<=rb:=by rw [HRB.out];exact nR9 _
    have hBr:Below rb w10 W:=⟨s2.os,s2.tape,s2.output,s2.size,fun j hj=>s2.block j (by have:=HT10.out.2.1.size;have:=lt_of_block HRB10.out;omega) (fun e=>by injection e with e;omega)⟩;have hw9:rb<w9.heap.size:=by omega
    have n5:=(((HNX.out.grown hG.out (Nat.lt_succ_self _)).below hbx).grown s2 (by omega)).weaken (base':=w.heap.size) (by omega);have n6:=((HU.out.below hbx).grown s2 hw9).weaken (base':=w.heap.size) (by omega);refine task_ret (by simp) s1 ?_;refine⟨?_,⟨s2.os.trans HT10.out.2.1.os,s2.tape.trans HT10.out.2.1.tape,s2.output.trans HT10.out.2.1.output,Nat.le_trans HT10.out.2.1.size s2.size,fun j hj hne=>(hBr.block j (by omega)).trans (HT10.out.2.1.block j hj hne)⟩⟩;rw [HE.out];exact⟨⟨A5,c5,Au,cu,rfl,n5,n6⟩,k8,by omega,HT10.out.1.below hBr (by omega)⟩
theorem assert_wrong (v:Value) (xT:TypeId) (w:World):(Instr.typeAssert (.iface 120 v) xT 120 true).run Tryz.prog w=.ok (.tuple #[v,.bool true]) w:=by kernel_rfl
theorem catch_wrong (r:Nat) (p:Int) (c0 c1:Value) (older:List PanicEntry) (w:World) (hb:w.heap[r]? = some (.cells #[c0,c1] 120 (0,0))) :
  CallsD Tryz.prog 89 #[.pointer (some ⟨r,0,none⟩)] (.panicking ({ v:=.iface 120 (.agg #[.int .i64 p,.int .i64 10]),recovered:=false }::older)) w fun e u' w'=>
   e=.returned (.tuple #[])/\u' = .panicking ({ v:=.iface 120 (.agg #[.int .i64 p,.int .i64 10]),recovered:=true }::older)/\w' = (w.setCell ⟨r,0,none⟩ (.int .i64 p)).setCell ⟨r,1,none⟩ (.int .i64 10):=by
 have x0:=cell_of_row w r 0 _ _ _ hb;have x1:=cell_of_row w r 1 _ _ _ hb;have hz:∀ i,w.frozen? ⟨r,i,none⟩=false:=fun i=>by simp [World.frozen?,hb]
 simp at x0 x1;refine callsD_of_wpS Tryz.func89 rfl fun c₀ cs hu=>?_
 apply wpS_seq;apply wpS_region;simp [wpOpsS,go_sem,recoverD,hu,Tryz.ntmps89,Exit.thenS];apply wpS_seq;apply wpS_region;simp [wpOpsS,go_sem,Exit.thenS];refine wpS_cond (t:=true) (by simp [Act.eval,Array.replicate]) ?_;simp only [if_true];apply wpS_region;simp [wpOpsS,go_sem,assert_wrong,x0,x1,hz,bodyPostS,results,Tryz.results89]
theorem catch_none (r:Nat) (w:World) :
  CallsD Tryz.prog 89 #[.pointer (some ⟨r,0,none⟩)] .returning w fun e u' w'=>e=.returned (.tuple #[])/\u' = .returning/\w' = w:=by
 refine callsD_of_wpS Tryz.func89 rfl fun c₀ cs hu=>?_
 apply wpS_seq;apply wpS_region;simp [wpOpsS,go_sem,recoverD,hu,Tryz.ntmps89,Exit.thenS];apply wpS_seq;apply wpS_region;simp [wpOpsS,go_sem,Exit.thenS];refine wpS_cond (t:=false) (by simp [Act.eval,Array.replicate]) ?_;simp only [Bool.false_eq_true,if_false];refine wpS_of_wp (wp_skip ?_);cases c₀;simp_all [bodyPostS,results,Tryz.results89]
theorem two_set {w:World} {r:Nat} {t:TypeId} {a0 a1:Value} (h:w.heap[r]? = some (.cells #[a0,a1] t (0,0))) (b0 b1:Value) :
  ((w.setCell ⟨r,0,none⟩ b0).setCell ⟨r,1,none⟩ b1).heap[r]? = some (.cells #[b0,b1] t (0,0))/\w.grownBy ((w.setCell ⟨r,0,none⟩ b0).setCell ⟨r,1,none⟩ b1) (some r):=
 ⟨blkPut (blkPut h 0 b0 (cs':=#[b0,a1]) (by simp)) 1 b1 (cs':=#[b0,b1]) (by simp),qak (qaA _ _ _ _) (qaA _ _ _ _)⟩
theorem reads_goodL (caps:Array Value) (w:World) (P:World->Prop)
  (h:Calls Tryz.prog 93 caps (w.alloc (.cells #[.int .i64 0,.int .i64 0] 120)) fun e w'=>e=.returned (.tuple #[])/\w'.heap[w.heap.size]? = some (.cells #[.int .i64 0,.int .i64 0] 120 (0,0))/\P w') :
  Calls Tryz.prog 57 #[.func (Fn.func 93) #[] caps] w fun e w'=>e=.returned (.agg #[.int .i64 0,.int .i64 0])/\∃ w1,P w1/\w1.grownBy w' (some w.heap.size)/\w.heap.size<w1.heap.size:=by
 have hmf:∀ (fn:Fn) (first cap:Array Value) (w:World),(Instr.makeFunc fn first cap).run Tryz.prog w=.ok (.func fn first cap) w:=fun _ _ _ _=>rfl
 have H:=hI9 h;clear h;go_enter_defers Tryz.func57,Tryz.ntmps57
 go_upto_region 2 with (fail)
 generalize w.alloc (.cells #[.int .i64 0,.int .i64 0] 120)=w0 at H ⊢;go_upto_region 3 with (first|(go_at_call 93;refine H.out.mono ?_;rintro e w1 ⟨rfl,hbk,hP⟩))
 have x0:=cell_of_row w1 w.heap.size 0 _ _ _ hbk;have x1:=cell_of_row w1 w.heap.size 1 _ _ _ hbk;have hz:∀ i,w1.frozen? ⟨w.heap.size,i,none⟩=false:=fun i=>by simp [World.frozen?,hbk]
 have HB:=hI9 hbk;clear hbk;simp at x0 x1;go_wp2;obtain⟨s1,s2⟩:=two_set HB.out (.int .i64 0) (.int .i64 0);generalize ((w1.setCell ⟨w.heap.size,0,none⟩ (.int .i64 0)).setCell ⟨w.heap.size,1,none⟩ (.int .i64 0))=W at s1 s2 ⊢;refine leaves_cons (f:=89) (args:=#[.pointer (some ⟨w.heap.size,0,none⟩)]) (by simp) (by simp [go_sem]) ?_;refine (catch_none w.heap.size _).mono ?_;rintro e u' w'' ⟨rfl,rfl,rfl⟩;have y0:=cell_of_row w'' w.heap.size 0 _ _ _ s1;have y1:=cell_of_row w'' w.heap.size 1 _ _ _ s1;simp at y0 y1;simp [Leaves,settle,results,Tryz.results57,go_sem,y0,y1];exact⟨w1,hP,s2,lt_of_block HB.out⟩
theorem reads_badL (caps:Array Value) (p:Int) (w:World) (P:World->Prop)
  (h:Calls Tryz.prog 93 caps (w.alloc (.cells #[.int .i64 0,.int .i64 0] 120)) fun e w'=>e=.panicked (wrongV p)/\w'.heap[w.heap.size]? = some (.cells #[.int .i64 0,.int .i64 0] 120 (0,0))/\P w') :
  Calls Tryz.prog 57 #[.func (Fn.func 93) #[] caps] w fun e w'=>e=.returned (.agg #[.int .i64 p,.int .i64 10])/\∃ w1,P w1/\w1.grownBy w' (some w.heap.size)/\w.heap.size<w1.heap.size:=by
 have hmf:∀ (fn:Fn) (first cap:Array Value) (w:World),(Instr.makeFunc fn first cap).run Tryz.prog w=.ok (.func fn first cap) w:=fun _ _ _ _=>rfl
 have H:=hI9 h;clear h;go_enter_defers Tryz.func57,Tryz.ntmps57
 go_upto_region 2 with (fail)
 generalize w.alloc (.cells #[.int .i64 0,.int .i64 0] 120)=w0 at H ⊢;go_wp2_with (first|(go_at_call 93;refine H.out.mono ?_;rintro e w1 ⟨rfl,hbk,hP⟩))
 obtain⟨s1,s2⟩:=two_set hbk (.int .i64 p) (.int .i64 10);refine leaves_cons (f:=89) (args:=#[.pointer (some ⟨w.heap.size,0,none⟩)]) (by simp) (by simp [go_sem]) ?_;refine (catch_wrong w.heap.size p (.int .i64 0) (.int .i64 0) [] _ hbk).mono ?_;rintro e u' w'' ⟨rfl,rfl,rfl⟩;generalize ((w1.setCell ⟨w.heap.size,0,none⟩ (.int .i64 p)).setCell ⟨w.heap.size,1,none⟩ (.int .i64 10))=W at s1 s2 ⊢;have y0:=cell_of_row W w.heap.size 0 _ _ _ s1;have y1:=cell_of_row W w.heap.size 1 _ _ _ s1;simp at y0 y1;simp [Leaves,settle,results,Tryz.results57,go_sem,y0,y1];exact⟨w1,hP,s2,lt_of_block hbk⟩
def Lnp (w:World) (b tb cap:Nat) (A:Option Addr) (L:List Wd) (R:Except Int Tk) (e:Ending) (w':World):Prop:=
 match R with
 |.error p=>e=.panicked (wrongV p)/\w.grownBy w' (some b)
 |.ok x=>e=.returned (.tuple #[])/\∃ A5 c5 A6 c6 w1,w.grownBy w1 (some b)/\w1.grownBy w' (some tb) /\
   w'.heap[tb]? = some (.cells #[.int .i64 x.id,.int .i64 x.c,.int .i64 x.d,.int .i64 x.t,.int .i64 x.p,.slice A5 x.ch.length c5,.slice A6 x.us.length c6] 58 (0,0)) /\
   OwnI w1 w.heap.size 2 A5 c5 x.ch/\OwnI w1 w.heap.size 3 A6 c6 x.us/\∃ k,k<=10/\RdAt w1 b A cap L k
theorem lineFn_any (pb b tb cap:Nat) (A:Option Addr) (L:List Wd) (m:Int) (w:World) (hn:L.length<=1000000)
  (hL:∀ x ∈ L,x.t.size<=2097152) (hm:w.cell? ⟨0,0,none⟩=some (.int .i64 m)) (hgb:0≠b) (hr:RdAt w b A cap L 0)
  (hp:w.cell? ⟨pb,0,none⟩=some (.pointer (some ⟨b,0,none⟩))) (hne:tb≠b) {a0 a1 a2 a3 a4 a5 a6:Value} (hb:w.heap[tb]? = some (.cells #[a0,a1,a2,a3,a4,a5,a6] 58 (0,0))) :
  Calls Tryz.prog 93 #[.pointer (some ⟨pb,0,none⟩),.pointer (some ⟨tb,0,none⟩)] w fun e w'=>Lnp w b tb cap A L (taskG L) e w':=by
 have H1:=hI9 (task_step b cap A L m w hn hL hm hgb hr);cases hR:taskG L with
 |error p=>
  rw [hR] at H1;clear hm hr hb hn hL hR;go_enter Tryz.func93,Tryz.ntmps93;go_wp2_with (first|(go_at_call 94;refine H1.out.mono ?_;rintro e w1 ⟨rfl,hg1⟩))
  exact⟨rfl,rfl,hg1⟩
 |ok x=>
  rw [hR] at H1;have HB:=hI9 hb;clear hm hr hb hn hL hR;obtain⟨xid,xc,xd,xt,xp,xch,xus⟩:=x;go_enter Tryz.func93,Tryz.ntmps93;go_wp2_with (first|(go_at_call 94;refine H1.out.mono ?_;rintro e w1 ⟨⟨⟨A5,c5,A6,c6,rfl,n5,n6⟩,k,hk,hrk⟩,hg1⟩;have hb1:=(hg1.block tb (lt_of_block HB.out) (fun e=>by injection e with e;exact hne e)).trans HB.out;have r0:=cell_of_row w1 tb 0 _ _ _ hb1;have r1:=cell_of_row w1 tb 1 _ _ _ hb1;have r2:=cell_of_row w1 tb 2 _ _ _ hb1;have r3:=cell_of_row w1 tb 3 _ _ _ hb1;have r4:=cell_of_row w1 tb 4 _ _ _ hb1;have r5:=cell_of_row w1 tb 5 _ _ _ hb1;have r6:=cell_of_row w1 tb 6 _ _ _ hb1;have hz:∀ i,w1.frozen? ⟨tb,i,none⟩=false:=(fun i=>by simp [World.frozen?,hb1]);have HB1:=hI9 hb1;have HN:=hI9 (And.intro n5 (And.intro n6 (And.intro hrk hg1)));clear hb1 n5 n6 hrk hg1;simp at r0 r1 r2 r3 r4 r5 r6))
  go_end0
  obtain⟨s1,s2⟩:=seven_set HB1.out (.int .i64 xid) (.int .i64 xc) (.int .i64 xd) (.int .i64 xt) (.int .i64 xp) (.slice A5 xch.length c5) (.slice A6 xus.length c6);exact⟨rfl,A5,c5,A6,c6,w1,HN.out.2.2.2,s2,s1,HN.out.1,HN.out.2.1,k,hk,HN.out.2.2.1⟩
theorem heap_alloc_new' (W:World) (o:Obj):(W.alloc o).heap[W.heap.size]? = some o:=by
 show (W.heap.push o)[W.heap.size]? = some o;exact Array.getElem?_push_size
theorem four_blocks (w:World) (o0 o1 o2 o3:Obj):((((w.alloc o0).alloc o1).alloc o2).alloc o3).heap[w.heap.size]? = some o0/\((((w.alloc o0).alloc o1).alloc o2).alloc o3).heap[w.heap.size+1]? = some o1 /\
  ((((w.alloc o0).alloc o1).alloc o2).alloc o3).heap[w.heap.size+1+1]? = some o2/\((((w.alloc o0).alloc o1).alloc o2).alloc o3).heap[w.heap.size+1+1+1]? = some o3/\((((w.alloc o0).alloc o1).alloc o2).alloc o3).heap.size=w.heap.size+1+1+1+1:=by
 have k:∀ (W:World) (o:Obj) (i:Nat),i<W.heap.size->(W.alloc o).heap[i]? = W.heap[i]?:=fun W o i h=>((bR9 W.heap.size W).alloc (nR9 _) o).block i h
 have s:∀ (W:World) (o:Obj),(W.alloc o).heap.size=W.heap.size+1:=fun W o=>by simp
 have q:∀ (W:World) (o:Obj) (i:Nat),i=W.heap.size->(W.alloc o).heap[i]? = some o:=fun W o i h=>by subst h;exact heap_alloc_new' W o
 refine⟨?_,?_,?_,?_,?_⟩
 .rw [k _ _ _ (by simp only [s];omega),k _ _ _ (by simp only [s];omega),k _ _ _ (by simp only [s];omega)];exact q _ _ _ rfl
 .rw [k _ _ _ (by simp only [s];omega),k _ _ _ (by simp only [s];omega)];exact q _ _ _ (by simp only [s])
 .rw [k _ _ _ (by simp only [s];omega)];exact q _ _ _ (by simp only [s])
 .exact q _ _ _ (by simp only [s])
 .simp only [s]
theorem reads_lineBad (pb b tb cap:Nat) (A:Option Addr) (L:List Wd) (m p:Int) (w:World) (hn:L.length<=1000000)
  (hL:∀ x ∈ L,x.t.size<=2097152) (hm:w.cell? ⟨0,0,none⟩=some (.int .i64 m)) (hgb:0≠b) (hr:RdAt w b A cap L 0)
  (hp:w.cell? ⟨pb,0,none⟩=some (.pointer (some ⟨b,0,none⟩))) (hne:tb≠b) {a0 a1 a2 a3 a4 a5 a6:Value} (hb:w.heap[tb]? = some (.cells #[a0,a1,a2,a3,a4,a5,a6] 58 (0,0))) (hR:taskG L=.error p) :
  Calls Tryz.prog 57 #[.func (Fn.func 93) #[] #[.pointer (some ⟨pb,0,none⟩),.pointer (some ⟨tb,0,none⟩)]] w fun e w'=>e=.returned (.agg #[.int .i64 p,.int .i64 10])/\w.grownBy w' (some b):=by
 have hal:=(bR9 w.heap.size w).alloc (nR9 _) (.cells #[.int .i64 0,.int .i64 0] 120);have h:=lineFn_any pb b tb cap A L m (w.alloc (.cells #[.int .i64 0,.int .i64 0] 120)) hn hL ((hal.cell (p:=⟨0,0,none⟩) (qaM hm)).trans hm) hgb (hr.alloc _) ((hal.cell (p:=⟨pb,0,none⟩) (qaM hp)).trans hp) hne ((hal.block tb (lt_of_block hb)).trans hb);rw [hR] at h;have hnew:=heap_alloc_new w (.cells #[.int .i64 0,.int .i64 0] 120);have hbl:=hr.lt;refine (reads_badL _ p w (fun w1=>(w.alloc (.cells #[.int .i64 0,.int .i64 0] 120)).grownBy w1 (some b)) (h.mono fun e w' ⟨h1,h2⟩=>⟨h1,(h2.block w.heap.size (by simp) (fun e=>by injection e with e;omega)).trans hnew,h2⟩)).mono ?_;rintro e w' ⟨rfl,w1,h1,h2,_⟩;have hs:w.heap.size<=w1.heap.size:=by have:=h1.size;simp at this;omega
 exact⟨rfl,h2.os.trans (h1.os.trans hal.os),h2.tape.trans (h1.tape.trans hal.tape),h2.output.trans (h1.output.trans hal.output),Nat.le_trans hs h2.size,fun j hj hne=>(h2.block j (by omega) (fun e=>by injection e with e;omega)).trans ((h1.block j (by simp;omega) hne).trans (hal.block j hj))⟩
theorem reads_lineGood (pb b tb cap:Nat) (A:Option Addr) (L:List Wd) (m:Int) (x:Tk) (w:World) (hn:L.length<=1000000)
  (hL:∀ x ∈ L,x.t.size<=2097152) (hm:w.cell? ⟨0,0,none⟩=some (.int .i64 m)) (hgb:0≠b) (hr:RdAt w b A cap L 0)
  (hp:w.cell? ⟨pb,0,none⟩=some (.pointer (some ⟨b,0,none⟩))) (hne:tb≠b) {a0 a1 a2 a3 a4 a5 a6:Value} (hb:w.heap[tb]? = some (.cells #[a0,a1,a2,a3,a4,a5,a6] 58 (0,0))) (hR:taskG L=.ok x) :
  Calls Tryz.prog 57 #[.func (Fn.func 93) #[] #[.pointer (some ⟨pb,0,none⟩),.pointer (some ⟨tb,0,none⟩)]] w fun e w'=>e=.returned (.agg #[.int .i64 0,.int .i64 0]) /\
   ∃ w2,Lnp (w.alloc (.cells #[.int .i64 0,.int .i64 0] 120)) b tb cap A L (.ok x) (.returned (.tuple #[])) w2/\w2.grownBy w' (some w.heap.size):=by
 have hal:=(bR9 w.heap.size w).alloc (nR9 _) (.cells #[.int .i64 0,.int .i64 0] 120);have h:=lineFn_any pb b tb cap A L m (w.alloc (.cells #[.int .i64 0,.int .i64 0] 120)) hn hL ((hal.cell (p:=⟨0,0,none⟩) (qaM hm)).trans hm) hgb (hr.alloc _) ((hal.cell (p:=⟨pb,0,none⟩) (qaM hp)).trans hp) hne ((hal.block tb (lt_of_block hb)).trans hb);rw [hR] at h;have hnew:=heap_alloc_new w (.cells #[.int .i64 0,.int .i64 0] 120);have hbl:=hr.lt;have htl:=lt_of_block hb;refine (reads_goodL _ w (fun w1=>Lnp (w.alloc (.cells #[.int .i64 0,.int .i64 0] 120)) b tb cap A L (.ok x) (.returned (.tuple #[])) w1) (h.mono fun e w' h1=>?_)).mono ?_
 .obtain⟨rfl,A5,c5,A6,c6,w1,g1,g2,r⟩:=h1;refine⟨rfl,?_,rfl,A5,c5,A6,c6,w1,g1,g2,r⟩;have hs:=g1.size;simp at hs;exact (g2.block w.heap.size (by omega) (fun e=>by injection e with e;omega)).trans ((g1.block w.heap.size (by simp) (fun e=>by injection e with e;omega)).trans hnew)
 .rintro e w' ⟨rfl,w2,h1,h2,_⟩;exact⟨rfl,w2,h1,h2⟩
theorem qat {B k:Nat} {w w1 w2:World} (h:Below B w w1) (hg:w1.grownBy w2 (some k)) (hB:B<=w1.heap.size) (hk:B<=k):Below B w w2:=
 ⟨hg.os.trans h.os,hg.tape.trans h.tape,hg.output.trans h.output,Nat.le_trans h.size hg.size,fun j hj=>(hg.block j (by omega) (fun e=>by injection e with e;omega)).trans (h.block j hj)⟩
theorem qaF (w:World) (o:Obj):(w.alloc o).heap.size=w.heap.size+1:=by simp
theorem line_ret {R:Ending->World->Prop} {tmps:Array Value} {W:World} {r:Nat} {t:TypeId} {a0 a1 a2 a3 a4 a5 a6 v3 v4:Value} (ht:tmps[2]?.getD undef=.pointer (some ⟨r,0,none⟩)) (h3:tmps[3]?.getD undef=v3) (h4:tmps[4]?.getD undef=v4) (hb:W.heap[r]? = some (.cells #[a0,a1,a2,a3,a4,a5,a6] t (0,0)))
  (hR:R (.returned (.tuple #[.agg #[a0,a1,a2,a3,a4,a5,a6],v3,v4])) W) :
  bodyPost Tryz.prog Tryz.f60 R .ret { tmps:=tmps,defers:=[] } W:=by
 refine bodyPost_ret ?_ rfl hR;have h0:W.cell? ⟨r,0,none⟩=some a0:=by simp [World.cell?,hb]
 have h1:W.cell? ⟨r,1,none⟩=some a1:=by simp [World.cell?,hb]
 have h2:W.cell? ⟨r,2,none⟩=some a2:=by simp [World.cell?,hb]
 have g3:W.cell? ⟨r,3,none⟩=some a3:=by simp [World.cell?,hb]
 have g4:W.cell? ⟨r,4,none⟩=some a4:=by simp [World.cell?,hb]
 have h5:W.cell? ⟨r,5,none⟩=some a5:=by simp [World.cell?,hb]
 have h6:W.cell? ⟨r,6,none⟩=some a6:=by simp [World.cell?,hb]
 simp [results,Tryz.f60,go_sem,ht,h0,h1,h2,g3,g4,h5,h6,h3,h4]
theorem parseLine_big (cap:Nat) (A:Option Addr) (L:List Wd) (m:Int) (w:World) (hn:L.length<=1000000)
  (hL:∀ x ∈ L,x.t.size<=2097152) (hm:w.cell? ⟨0,0,none⟩=some (.int .i64 m)) (hr:WRow w w.heap.size A L) :
  Calls Tryz.prog 60 #[.slice A L.length cap] w fun e w'=>
   (match taskG L with
    |.error p=>e=.returned (.tuple #[.agg #[.int .i64 0,.int .i64 0,.int .i64 0,.int .i64 0,.int .i64 0,.slice none 0 0,.slice none 0 0],.int .i64 p,.int .i64 10])
    |.ok x=>∃ A5 c5 A6 c6,e=.returned (.tuple #[.agg #[.int .i64 x.id,.int .i64 x.c,.int .i64 x.d,.int .i64 x.t,.int .i64 x.p,.slice A5 x.ch.length c5,.slice A6 x.us.length c6],.int .i64 (endP L),.int .i64 0])/\OwnI w' w.heap.size 2 A5 c5 x.ch/\OwnI w' w.heap.size 3 A6 c6 x.us)
   /\ Below w.heap.size w w':=by
 have hmf:∀ (fn:Fn) (first cap:Array Value) (w:World),(Instr.makeFunc fn first cap).run Tryz.prog w=.ok (.func fn first cap) w:=fun _ _ _ _=>rfl
 obtain⟨R,hRR⟩:∃ z,z=taskG L:=⟨_,rfl⟩;rw [<- hRR];have HT:=hI9 hRR;clear hRR;have HW:=hI9 hr;have HM:=hI9 hm;clear hr hm;obtain⟨n,hn'⟩:∃ z,L.length=z:=⟨_,rfl⟩;rw [hn'];have HN:=hI9 hn';clear hn';go_enter Tryz.func60,Tryz.ntmps60;go_upto_region 3 with (fail)
 have hb4:=(((((bR9 w.heap.size w).alloc (nR9 _) (.cells #[.int .i64 0,.int .i64 0,.int .i64 0,.int .i64 0,.int .i64 0,.slice none 0 0,.slice none 0 0] 58)).alloc (by simp) (.cells #[.slice A n cap,.int .i64 0] 158)).alloc (by simp;omega) (.cells #[.pointer (some ⟨w.heap.size+1,0,none⟩)] 156)).alloc (by simp;omega) (.cells #[.int .i64 0,.int .i64 0,.int .i64 0,.int .i64 0,.int .i64 0,.slice none 0 0,.slice none 0 0] 58));have hx0:=four_blocks w (.cells #[.int .i64 0,.int .i64 0,.int .i64 0,.int .i64 0,.int .i64 0,.slice none 0 0,.slice none 0 0] 58) (.cells #[.slice A n cap,.int .i64 0] 158) (.cells #[.pointer (some ⟨w.heap.size+1,0,none⟩)] 156) (.cells #[.int .i64 0,.int .i64 0,.int .i64 0,.int .i64 0,.int .i64 0,.slice none 0 0,.slice none 0 0] 58);generalize (((w.alloc (.cells #[.int .i64 0,.int .i64 0,.int .i64 0,.int .i64 0,.int .i64 0,.slice none 0 0,.slice none 0 0] 58)).alloc (.cells #[.slice A n cap,.int .i64 0] 158)).alloc (.cells #[.pointer (some ⟨w.heap.size+1,0,none⟩)] 156)).alloc (.cells #[.int .i64 0,.int .i64 0,.int .i64 0,.int .i64 0,.int .i64 0,.slice none 0 0,.slice none 0 0] 58)=w4 at hb4 hx0 ⊢;have hm4:=(hb4.cell (p:=⟨0,0,none⟩) (qaM HM.out)).trans HM.out;have hlm:=qaM HM.out;have hW4:=HW.out.below hb4 (nR9 _);obtain⟨r,hr⟩:∃ z,w.heap.size=z:=⟨_,rfl⟩;rw [hr] at hb4 hx0 hW4 hlm ⊢;obtain⟨h0,h1,h2,h3,hsz⟩:=hx0;have hR:RdAt w4 (r+1) A cap L 0:=⟨by rw [HN.out];exact h1,hW4.more (by omega)⟩;have hP:w4.cell? ⟨r+1+1,0,none⟩=some (.pointer (some ⟨r+1,0,none⟩)):=by have:=cell_of_row w4 (r+1+1) 0 _ _ _ h2;simpa using this
 cases R with
 |error p=>
  have HB:=hI9 (reads_lineBad (r+1+1) (r+1) (r+1+1+1) cap A L m p w4 hn hL hm4 (by omega) hR hP (by omega) h3 HT.out.symm);have HX:=hI9 (And.intro hb4 (And.intro h0 hsz));have hr4:r<w4.heap.size:=by omega
  clear hR hP h0 h1 h2 h3 hm4 hW4 hn hL;go_upto_region 4 with (go_at_call 57;refine HB.out.mono ?_;rintro e w5 ⟨rfl,hg⟩)
  have hg6:=qak hg (qah ((bR9 w5.heap.size w5).alloc (nR9 _) (.cells #[.int .i64 p,.int .i64 10] 120)) (some (r+1)));have hn6:=heap_alloc_new w5 (.cells #[.int .i64 p,.int .i64 10] 120);have hs5:w4.heap.size<=w5.heap.size:=hg.size;generalize w5.alloc (.cells #[.int .i64 p,.int .i64 10] 120)=w6 at hg6 hn6 ⊢;obtain⟨bb,hbb⟩:∃ z,w5.heap.size=z:=⟨_,rfl⟩;rw [hbb] at hn6 hs5 ⊢;have f0:=cell_of_row w6 bb 0 _ _ _ hn6;have f1:=cell_of_row w6 bb 1 _ _ _ hn6;have hr6:=(hg6.block r hr4 (fun e=>by injection e with e;omega)).trans HX.out.2.1;have r0:=cell_of_row w6 r 0 _ _ _ hr6;have r1:=cell_of_row w6 r 1 _ _ _ hr6;have r2:=cell_of_row w6 r 2 _ _ _ hr6;have r3:=cell_of_row w6 r 3 _ _ _ hr6;have r4:=cell_of_row w6 r 4 _ _ _ hr6;have r5:=cell_of_row w6 r 5 _ _ _ hr6;have r6:=cell_of_row w6 r 6 _ _ _ hr6;have hz:∀ i,w6.frozen? ⟨r,i,none⟩=false:=fun i=>by simp [World.frozen?,hr6]
  have HR6:=hI9 hr6;have HG6:=hI9 hg6;clear hr6 hg6 hg hn6;simp at f0 f1 r0 r1 r2 r3 r4 r5 r6;go_wp2;have hnb:¬ r=bb:=by omega
  have hnb':¬ bb=r:=by omega
  go_region_held (fun W=>W.cell? ⟨bb,0,none⟩=some (.int .i64 p)/\W.cell? ⟨bb,1,none⟩=some (.int .i64 10)) (go_keep) (fail)
  obtain⟨s1,s2⟩:=seven_set HR6.out (.int .i64 0) (.int .i64 0) (.int .i64 0) (.int .i64 0) (.int .i64 0) (.slice none 0 0) (.slice none 0 0);generalize ((((((w6.setCell ⟨r,0,none⟩ (.int .i64 0)).setCell ⟨r,1,none⟩ (.int .i64 0)).setCell ⟨r,2,none⟩ (.int .i64 0)).setCell ⟨r,3,none⟩ (.int .i64 0)).setCell ⟨r,4,none⟩ (.int .i64 0)).setCell ⟨r,5,none⟩ (.slice none 0 0)).setCell ⟨r,6,none⟩ (.slice none 0 0)=W at s1 s2 ⊢;have hS6:=HG6.out.size;have hB:=(qat (qat HX.out.1 HG6.out (by omega) (by omega)) s2 (by omega) (nR9 _)).drew;go_wp2;refine line_ret (r:=r) (v3:=.int .i64 p) (v4:=.int .i64 10) (by simp) (by simp) (by simp) s1 ?_;exact⟨rfl,hB⟩
 |ok x=>
  obtain⟨xid,xc,xd,xt,xp,xch,xus⟩:=x;have HB:=hI9 (reads_lineGood (r+1+1) (r+1) (r+1+1+1) cap A L m _ w4 hn hL hm4 (by omega) hR hP (by omega) h3 HT.out.symm);have HX:=hI9 (And.intro hb4 (And.intro h0 (And.intro h2 hsz)));have HNN:=hI9 hn;have hsz':=qaF w4 (.cells #[.int .i64 0,.int .i64 0] 120);have hB3:=(bR9 w4.heap.size w4).alloc (nR9 _) (.cells #[.int .i64 0,.int .i64 0] 120);clear hR hP h0 h1 h2 h3 hm4 hW4 hn hL;go_upto_region 4 with (go_at_call 57;refine HB.out.mono ?_;rintro e w5 ⟨rfl,w2,hL2,hgx⟩)
  obtain⟨_,A5,c5,A6,c6,w1,g1,g2,hbk,n5,n6,k,hk,hrk⟩:=hL2;generalize w4.alloc (.cells #[.int .i64 0,.int .i64 0] 120)=w3 at hsz' g1 n5 n6 hB3;have hs4:=HX.out.2.2.2;have hs1:=g1.size;have hs2:=g2.size;have hs5:=hgx.size;have hba:=(bR9 w5.heap.size w5).alloc (nR9 _) (.cells #[.int .i64 0,.int .i64 0] 120);have hn6:=heap_alloc_new w5 (.cells #[.int .i64 0,.int .i64 0] 120);generalize w5.alloc (.cells #[.int .i64 0,.int .i64 0] 120)=w6 at hba hn6 ⊢;have hR6:RdAt w6 (r+1) A cap L k:=hrk.below (B:=r+2) (((qat (qat (bR9 (r+2) w1) g2 (by omega) (by omega)) hgx (by omega) (by omega))).trans (hba.mono (by omega))) (by omega);have hB6:Below r w w6:=((qat (qat (qat (HX.out.1.trans (hB3.mono (by omega))) g1 (by omega) (by omega)) g2 (by omega) (by omega)) hgx (by omega) (by omega))).trans (hba.mono (by omega));have hK:∀ j,j<w4.heap.size->j≠r+1->j≠r+1+1+1->w6.heap[j]? = w4.heap[j]?:=fun j h h1 h2=>
   (hba.block j (by omega)).trans ((hgx.block j (by omega) (fun e=>by injection e with e;omega)).trans ((g2.block j (by omega) (fun e=>by injection e with e;omega)).trans ((g1.block j (by omega) (fun e=>by injection e with e;omega)).trans (hB3.block j h))))
  have hr6:=(hK r (by omega) (by omega) (by omega)).trans HX.out.2.1;have hp6:=(hK (r+1+1) (by omega) (by omega) (by omega)).trans HX.out.2.2.1;have ht6:=(hba.block (r+1+1+1) (by omega)).trans ((hgx.block (r+1+1+1) (by omega) (fun e=>by injection e with e;omega)).trans hbk);have HO:Hid (OwnI w6 (r+1+1+1+1) 2 A5 c5 xch/\OwnI w6 (r+1+1+1+1) 3 A6 c6 xus):=hI9 ⟨(((n5.grown g2 (by omega)).grown hgx (by omega)).below hba).weaken (by omega),(((n6.grown g2 (by omega)).grown hgx (by omega)).below hba).weaken (by omega)⟩;obtain⟨bb,hbb⟩:∃ z,w5.heap.size=z:=⟨_,rfl⟩;rw [hbb] at hn6 ⊢;have hb6:bb<w6.heap.size:=lt_of_block hn6;have hrb:r<bb:=by omega
  have f1:=cell_of_row w6 bb 1 _ _ _ hn6;have p0:=cell_of_row w6 (r+1+1) 0 _ _ _ hp6;have t0:=cell_of_row w6 (r+1+1+1) 0 _ _ _ ht6;have t1:=cell_of_row w6 (r+1+1+1) 1 _ _ _ ht6;have t2:=cell_of_row w6 (r+1+1+1) 2 _ _ _ ht6;have t3:=cell_of_row w6 (r+1+1+1) 3 _ _ _ ht6;have t4:=cell_of_row w6 (r+1+1+1) 4 _ _ _ ht6;have t5:=cell_of_row w6 (r+1+1+1) 5 _ _ _ ht6;have t6:=cell_of_row w6 (r+1+1+1) 6 _ _ _ ht6;obtain⟨tb,htb⟩:∃ z,r+1+1+1=z:=⟨_,rfl⟩;obtain⟨pb,hpb⟩:∃ z,r+1+1=z:=⟨_,rfl⟩;obtain⟨rb,hrb'⟩:∃ z,r+1=z:=⟨_,rfl⟩;rw [htb] at t0 t1 t2 t3 t4 t5 t6 ⊢;rw [hpb] at p0 ⊢;rw [hrb'] at p0 hR6 ⊢;have HZ:=hI9 (And.intro hr6 (And.intro hB6 ht6));have HR6:=hI9 hR6;have n0:¬ r=tb:=by omega
  have n0':¬ tb=r:=by omega
  have n1:¬ r=pb:=by omega
  have n1':¬ pb=r:=by omega
  have l0:tb<w6.heap.size:=by omega
  have l1:pb<w6.heap.size:=by omega
  have l2:r<w6.heap.size:=by omega
  clear hr6 hp6 ht6 hn6 hR6 hB6 hK g1 g2 hgx hba hrk n5 n6 hbk hB3;simp at f1 p0 t0 t1 t2 t3 t4 t5 t6;go_upto_region 6 with (fail)
  go_region_held (fun W=>W.cell? ⟨pb,0,none⟩=some (.pointer (some ⟨rb,0,none⟩))/\W.cell? ⟨tb,0,none⟩=some (.int .i64 xid)/\W.cell? ⟨tb,1,none⟩=some (.int .i64 xc)/\W.cell? ⟨tb,2,none⟩=some (.int .i64 xd)/\W.cell? ⟨tb,3,none⟩=some (.int .i64 xt)/\W.cell? ⟨tb,4,none⟩=some (.int .i64 xp)/\W.cell? ⟨tb,5,none⟩=some (.slice A5 xch.length c5)/\W.cell? ⟨tb,6,none⟩=some (.slice A6 xus.length c6)) (go_keep) (first|(go_at_call 95;refine (end_any rb cap k A L _ HNN.out HR6.out.drew).mono ?_;rintro e w7 ⟨rfl,hb7⟩;have u0:=(hb7.cell (p:=⟨tb,0,none⟩) l0).trans t0;have u1:=(hb7.cell (p:=⟨tb,1,none⟩) l0).trans t1;have u2:=(hb7.cell (p:=⟨tb,2,none⟩) l0).trans t2;have u3:=(hb7.cell (p:=⟨tb,3,none⟩) l0).trans t3;have u4:=(hb7.cell (p:=⟨tb,4,none⟩) l0).trans t4;have u5:=(hb7.cell (p:=⟨tb,5,none⟩) l0).trans t5;have u6:=(hb7.cell (p:=⟨tb,6,none⟩) l0).trans t6;have up:=(hb7.cell (p:=⟨pb,0,none⟩) l1).trans p0;have hr7:=(hb7.block r l2).trans HZ.out.1;have q0:=cell_of_row w7 r 0 _ _ _ hr7;have q1:=cell_of_row w7 r 1 _ _ _ hr7;have q2:=cell_of_row w7 r 2 _ _ _ hr7;have q3:=cell_of_row w7 r 3 _ _ _ hr7;have q4:=cell_of_row w7 r 4 _ _ _ hr7;have q5:=cell_of_row w7 r 5 _ _ _ hr7;have q6:=cell_of_row w7 r 6 _ _ _ hr7;have hz7:∀ i,w7.frozen? ⟨r,i,none⟩=false:=(fun i=>by simp [World.frozen?,hr7]);have HR7:=hI9 (And.intro hr7 hb7);clear hr7 hb7;simp at q0 q1 q2 q3 q4 q5 q6))
  obtain⟨s1,s2⟩:=seven_set HR7.out.1 (.int .i64 xid) (.int .i64 xc) (.int .i64 xd) (.int .i64 xt) (.int .i64 xp) (.slice A5 xch.length c5) (.slice A6 xus.length c6);generalize (((((((w7.setCell ⟨r,0,none⟩ (.int .i64 xid)).setCell ⟨r,1,none⟩ (.int .i64 xc)).setCell ⟨r,2,none⟩ (.int .i64 xd)).setCell ⟨r,3,none⟩ (.int .i64 xt)).setCell ⟨r,4,none⟩ (.int .i64 xp)).setCell ⟨r,5,none⟩ (.slice A5 xch.length c5)).setCell ⟨r,6,none⟩ (.slice A6 xus.length c6))=W at s1 s2 ⊢;have hB7:Below r w w7:=HZ.out.2.1.drew.trans (HR7.out.2.mono (by show r<=w6.heap.size;omega));have hs7:=hB7.size;have hB:=qat hB7 s2 (by omega) (nR9 _);have o5:=((OwnI.below (w:=w6.drew) HO.out.1 HR7.out.2).grown s2 (by omega)).weaken (base':=r) (by omega);have o6:=((OwnI.below (w:=w6.drew) HO.out.2 HR7.out.2).grown s2 (by omega)).weaken (base':=r) (by omega);go_wp2;refine line_ret (r:=r) (v3:=.int .i64 (endP L)) (v4:=.int .i64 0) (by simp) (by simp) (by simp) s1 ?_;exact⟨⟨A5,c5,A6,c6,rfl,o5,o6⟩,hB⟩
theorem parseLine_any (cap:Nat) (A:Option Addr) (L:List Wd) (m:Int) (w:World) (hn:L.length<=1000000)
  (hL:∀ x ∈ L,x.t.size<=65536) (hm:w.cell? ⟨0,0,none⟩=some (.int .i64 m)) (hr:WRow w w.heap.size A L) :
  Calls Tryz.prog 60 #[.slice A L.length cap] w fun e w'=>
   (match taskG L with
    |.error p=>e=.returned (.tuple #[.agg #[.int .i64 0,.int .i64 0,.int .i64 0,.int .i64 0,.int .i64 0,.slice none 0 0,.slice none 0 0],.int .i64 p,.int .i64 10])
    |.ok x=>∃ A5 c5 A6 c6,e=.returned (.tuple #[.agg #[.int .i64 x.id,.int .i64 x.c,.int .i64 x.d,.int .i64 x.t,.int .i64 x.p,.slice A5 x.ch.length c5,.slice A6 x.us.length c6],.int .i64 (endP L),.int .i64 0])/\OwnI w' w.heap.size 2 A5 c5 x.ch/\OwnI w' w.heap.size 3 A6 c6 x.us)
   /\ Below w.heap.size w w':=
 parseLine_big cap A L m w hn (fun x hx=>Nat.le_trans (hL x hx) (by decide)) hm hr
noncomputable def headG (L:List Wd):Except Int (Int × Int):=
 if nextP L 0=⟨#[99,97,99,104,101]⟩ then
 if (numP (nextP L 1) 256).2=true then
 if (numP (nextP L 2) 1000).2=true then
 if 3=L.length then .ok ((numP (nextP L 1) 256).1,(numP (nextP L 2) 1000).1)
 else .error (wrongP L 3)
 else .error (wrongP L 2)
 else .error (wrongP L 1)
 else .error (wrongP L 0)
theorem two_blocks (w:World) (o0 o1:Obj):((w.alloc o0).alloc o1).heap[w.heap.size]? = some o0/\((w.alloc o0).alloc o1).heap[w.heap.size+1]? = some o1/\((w.alloc o0).alloc o1).heap.size=w.heap.size+1+1:=by
 have k:∀ (W:World) (o:Obj) (i:Nat),i<W.heap.size->(W.alloc o).heap[i]? = W.heap[i]?:=fun W o i h=>((bR9 W.heap.size W).alloc (nR9 _) o).block i h
 have s:∀ (W:World) (o:Obj),(W.alloc o).heap.size=W.heap.size+1:=fun W o=>by simp
 refine⟨?_,?_,?_⟩
 .rw [k _ _ _ (by simp only [s];omega)];exact heap_alloc_new' w o0
 .have:=heap_alloc_new' (w.alloc o0) o1
  rwa [s] at this
 .simp only [s]
theorem qbf {w:World} {r:Nat} {t:TypeId} {a0 a1 a2:Value} (h:w.heap[r]? = some (.cells #[a0,a1,a2] t (0,0))) (b0 b1 b2:Value) :
  (((w.setCell ⟨r,0,none⟩ b0).setCell ⟨r,1,none⟩ b1).setCell ⟨r,2,none⟩ b2).heap[r]? = some (.cells #[b0,b1,b2] t (0,0)) /\
  w.grownBy (((w.setCell ⟨r,0,none⟩ b0).setCell ⟨r,1,none⟩ b1).setCell ⟨r,2,none⟩ b2) (some r):=
 ⟨blkPut (blkPut (blkPut h 0 b0 (cs':=#[b0,a1,a2]) (by simp)) 1 b1 (cs':=#[b0,b1,a2]) (by simp)) 2 b2 (cs':=#[b0,b1,b2]) (by simp),
  qak (qak (qaA _ _ _ _) (qaA _ _ _ _)) (qaA _ _ _ _)⟩
def StH (B:Nat) (w wi:World) (b cap:Nat) (A:Option Addr) (L:List Wd) (k r:Nat) (cs:Array Value):Prop:=
 RdAt wi b A cap L k/\Below B w wi/\wi.heap[r]? = some (.cells cs 37 (0,0))/\r<b/\B<=r
theorem StH.step {B:Nat} {w wi w':World} {b cap k k' r:Nat} {A:Option Addr} {L:List Wd} {cs:Array Value} (h:StH B w wi b cap A L k r cs) (hr:RdAt w' b A cap L k') (hg:wi.grownBy w' (some b)):StH B w w' b cap A L k' r cs:=by
 have hl:=h.1.lt;have:=h.2.2.2;exact⟨hr,qat h.2.1 hg (by omega) (by omega),(hg.block r (by omega) (fun e=>by injection e with e;omega)).trans h.2.2.1,h.2.2.2⟩
theorem StH.alloc {B:Nat} {w wi:World} {b cap k r:Nat} {A:Option Addr} {L:List Wd} {cs:Array Value} (h:StH B w wi b cap A L k r cs) (o:Obj):StH B w (wi.alloc o) b cap A L k r cs:=by
 have hl:=h.1.lt;have:=h.2.2.2;exact⟨h.1.alloc o,h.2.1.alloc (by omega) o,(((bR9 wi.heap.size wi).alloc (nR9 _) o).block r (by omega)).trans h.2.2.1,h.2.2.2⟩
theorem StH.below {B:Nat} {w wi w':World} {b cap k r:Nat} {A:Option Addr} {L:List Wd} {cs:Array Value} (h:StH B w wi b cap A L k r cs) (hb:Below wi.heap.size wi w'):StH B w w' b cap A L k r cs:=by
 have hl:=h.1.lt;have:=h.2.2.2;exact⟨h.1.below hb hl,h.2.1.trans (hb.mono (by omega)),(hb.block r (by omega)).trans h.2.2.1,h.2.2.2⟩
theorem StH.far {B:Nat} {w wi:World} {b cap k r s:Nat} {A:Option Addr} {L:List Wd} {cs:Array Value} (h:StH B w wi b cap A L k r cs) (hs:b<s) (i:Nat) (u:Value):StH B w (wi.setCell ⟨s,i,none⟩ u) b cap A L k r cs:=by
 have:=h.2.2.2;have hl:=h.1.lt;exact⟨h.1.far hs i u,qat h.2.1 (qaA wi s i u) (by omega) (by omega),(Below.heap_setCell wi ⟨s,i,none⟩ u r (by show r≠s;omega)).trans h.2.2.1,h.2.2.2⟩
def Hdp (w:World) (R:Except Int (Int × Int)) (e:Ending) (w':World):Prop:=
 (match R with
  |.error p=>e=.panicked (wrongV p)
  |.ok x=>e=.returned (.agg #[.int .i64 x.1,.int .i64 x.2,.slice none 0 0]))
 /\ Below w.heap.size w w'
theorem head_ret {R:Ending->World->Prop} {tmps:Array Value} {W:World} {r:Nat} {t:TypeId} {a0 a1 a2:Value} (ht:tmps[2]?.getD undef=.pointer (some ⟨r,0,none⟩)) (hb:W.heap[r]? = some (.cells #[a0,a1,a2] t (0,0)))
  (hR:R (.returned (.agg #[a0,a1,a2])) W) :
  bodyPost Tryz.prog Tryz.f59 R .ret { tmps:=tmps,defers:=[] } W:=by
 refine bodyPost_ret ?_ rfl hR;have h0:W.cell? ⟨r,0,none⟩=some a0:=by simp [World.cell?,hb]
 have h1:W.cell? ⟨r,1,none⟩=some a1:=by simp [World.cell?,hb]
 have h2:W.cell? ⟨r,2,none⟩=some a2:=by simp [World.cell?,hb]
 simp [results,Tryz.f59,go_sem,ht,h0,h1,h2]
theorem head_any (cap:Nat) (A:Option Addr) (L:List Wd) (w:World) (hn:L.length<=1000000) (hr:WRow w w.heap.size A L) :
  Calls Tryz.prog 59 #[.slice A L.length cap] w fun e w'=>Hdp w (headG L) e w':=by
 obtain⟨R,hRR⟩:∃ z,z=headG L:=⟨_,rfl⟩;rw [<- hRR];unfold headG at hRR;have HR:=hI9 hRR;clear hRR;have H0:StH w.heap.size w ((w.alloc (.cells #[.int .i64 0,.int .i64 0,.slice none 0 0] 37)).alloc (.cells #[.slice A L.length cap,.int .i64 0] 158)) (w.heap.size+1) cap A L 0 w.heap.size #[.int .i64 0,.int .i64 0,.slice none 0 0]:=by
  obtain⟨h0,h1,h2⟩:=two_blocks w (.cells #[.int .i64 0,.int .i64 0,.slice none 0 0] 37) (.cells #[.slice A L.length cap,.int .i64 0] 158);have hb:=((bR9 w.heap.size w).alloc (nR9 _) (.cells #[.int .i64 0,.int .i64 0,.slice none 0 0] 37)).alloc (by simp) (.cells #[.slice A L.length cap,.int .i64 0] 158);exact⟨⟨h1,(hr.below hb (nR9 _)).more (by omega)⟩,hb,h0,by omega,nR9 _⟩
 have HN:=hI9 hn;obtain⟨n,hn'⟩:∃ z,L.length=z:=⟨_,rfl⟩;rw [hn'] at H0 ⊢;have HL:=hI9 hn';clear hr hn hn';go_enter Tryz.func59,Tryz.ntmps59;go_upto_region 2 with (fail)
 generalize (w.alloc (.cells #[.int .i64 0,.int .i64 0,.slice none 0 0] 37)).alloc (.cells #[.slice A n cap,.int .i64 0] 158)=w0 at H0 ⊢;obtain⟨r,hr⟩:∃ z,w.heap.size=z:=⟨_,rfl⟩;rw [hr] at H0 ⊢;obtain⟨rb,hrb⟩:∃ z,r+1=z:=⟨_,rfl⟩;rw [hrb] at H0 ⊢;have C1:=hI9 (word_any rb cap 0 A L ⟨#[99,97,99,104,101]⟩ w0 HN.out (by omega) H0.1);cases h1:decide (nextP L 0=⟨#[99,97,99,104,101]⟩) with
 |false=>
  rw [h1] at C1;have HE:Hid (R=.error (wrongP L 0)):=hI9 (by rw [HR.out,if_neg (by simpa using h1)]);have HG:=hI9 H0;clear H0 h1;go_wp2_with (first|(go_at_call 90;refine C1.out.mono ?_;rintro e w1 ⟨rfl,hg1⟩))
  exact⟨rfl,by rw [HE.out],by rw [hr];exact qat HG.out.2.1 hg1 (by have:=HG.out.1.lt;omega) (by omega)⟩
 |true=>
 rw [h1] at C1;have HR1:=hI9 (HR.out.trans (if_pos (by simpa using h1)));have HG:=hI9 H0;clear H0 h1 HR;go_upto_region 3 with (first|(go_at_call 90;refine C1.out.mono ?_;rintro e w1 ⟨⟨rfl,hr1⟩,hg1⟩;have H1:=HG.out.step hr1 hg1))
 have C2:=hI9 (number_step rb cap 1 A L 256 w1 HN.out (by omega) (by omega) (by omega) H1.1);generalize numP (nextP L 1) 256=v at C2 HR1;obtain⟨v0,ok⟩:=v;cases ok with
 |false=>
  have HE:Hid (R=.error (wrongP L 1)):=hI9 (by rw [HR1.out,if_neg (by simp)]);have HG2:=hI9 H1;clear H1 hr1 HG;go_wp2_with (first|(go_at_call 91;refine C2.out.mono ?_;rintro e w2 ⟨rfl,hg2⟩))
  exact⟨rfl,by rw [HE.out],by rw [hr];exact qat HG2.out.2.1 hg2 (by have:=HG2.out.1.lt;omega) (by omega)⟩
 |true=>
 have HR2:=hI9 (HR1.out.trans (if_pos rfl));have HG2:=hI9 H1;clear H1 HR1 hr1 HG;go_upto_region 4 with (first|(go_at_call 91;refine C2.out.mono ?_;rintro e w2 ⟨⟨rfl,hr2⟩,hg2⟩;have H2:=hI9 (HG2.out.step hr2 hg2);clear hr2))
 have T3:=H2.out.alloc (.cells #[.int .i64 v0,.int .i64 0,.slice none 0 0] 37);have hs3:=heap_alloc_new w2 (.cells #[.int .i64 v0,.int .i64 0,.slice none 0 0] 37);have hsb:rb<w2.heap.size:=H2.out.1.lt;generalize w2.alloc (.cells #[.int .i64 v0,.int .i64 0,.slice none 0 0] 37)=w3 at T3 hs3 ⊢;obtain⟨sb,hsb'⟩:∃ z,w2.heap.size=z:=⟨_,rfl⟩;rw [hsb'] at hs3 hsb ⊢;clear hsb' H2 hg2 HG2 C2;have C3:=hI9 (number_step rb cap 2 A L 1000 w3 HN.out (by omega) (by omega) (by omega) T3.1);generalize numP (nextP L 2) 1000=v at C3 HR2;obtain⟨v1,ok⟩:=v;cases ok with
 |false=>
  have HE:Hid (R=.error (wrongP L 2)):=hI9 (by rw [HR2.out,if_neg (by simp)]);have HT:=hI9 T3;clear T3;go_wp2_with (first|(go_at_call 91;refine C3.out.mono ?_;rintro e wx ⟨rfl,hgx⟩))
  exact⟨rfl,by rw [HE.out],by rw [hr];exact qat HT.out.2.1 hgx (by have:=HT.out.1.lt;omega) (by omega)⟩
 |true=>
 have HR3:=hI9 (HR2.out.trans (if_pos rfl));have HT:=hI9 (And.intro T3 hs3);clear T3 hs3 HR2;go_upto_region 5 with (first|(go_at_call 91;refine C3.out.mono ?_;rintro e wx ⟨⟨rfl,hrx⟩,hgx⟩;have TX:=hI9 (HT.out.1.step hrx hgx);have hsx:=(hgx.block sb (lt_of_block HT.out.2) (fun e=>by injection e with e;omega)).trans HT.out.2;have fx0:=cell_of_row wx sb 1 _ _ _ hsx;have fx1:wx.frozen? ⟨sb,1,none⟩=false:=(by simp [World.frozen?,hsx]);have HSX:=hI9 hsx;clear hrx hsx;simp at fx0))
 have T4:=TX.out.far hsb 1 (.int .i64 v1);have hs4:=blkPut HSX.out 1 (.int .i64 v1) (cs':=#[.int .i64 v0,.int .i64 v1,.slice none 0 0]) (by simp);generalize wx.setCell ⟨sb,1,none⟩ (.int .i64 v1)=w4 at T4 hs4 ⊢;clear HT TX HSX hgx fx0 fx1 C3;have CD:=hI9 (done_step rb cap 3 A L w4 HN.out (by omega) T4.1);by_cases h3:3=L.length;rotate_left
 .have HE:Hid (R=.error (wrongP L 3)):=hI9 (by rw [HR3.out,if_neg h3]);simp only [if_neg h3] at CD;have HT:=hI9 T4;clear T4;go_wp2_with (first|(go_at_call 92;refine CD.out.mono ?_;rintro e wx ⟨rfl,hbx⟩))
  exact⟨rfl,by rw [HE.out],by rw [hr];exact (HT.out.below hbx).2.1⟩
 .have HE:=hI9 (HR3.out.trans (if_pos h3));simp only [if_pos h3] at CD;have HT:=hI9 (And.intro T4 hs4);clear T4 hs4 h3;go_upto_region 6 with (first|(go_at_call 92;refine CD.out.mono ?_;rintro e w10 ⟨rfl,hbx⟩))
  have T10:=HT.out.1.below hbx;have hs10:=(hbx.block sb (lt_of_block HT.out.2)).trans HT.out.2;have hrr:=T10.2.2.1;have e0:=cell_of_row w10 sb 0 _ _ _ hs10;have e1:=cell_of_row w10 sb 1 _ _ _ hs10;have e2:=cell_of_row w10 sb 2 _ _ _ hs10;have r0:=cell_of_row w10 r 0 _ _ _ hrr;have r1:=cell_of_row w10 r 1 _ _ _ hrr;have r2:=cell_of_row w10 r 2 _ _ _ hrr;have hz:∀ i,w10.frozen? ⟨r,i,none⟩=false:=fun i=>by simp [World.frozen?,hrr]
  have HH:=hI9 (And.intro T10 hrr);clear T10 hrr hs10;simp at e0 e1 e2 r0 r1 r2;go_wp2;obtain⟨s1,s2⟩:=qbf HH.out.2 (.int .i64 v0) (.int .i64 v1) (.slice none 0 0);generalize ((w10.setCell ⟨r,0,none⟩ (.int .i64 v0)).setCell ⟨r,1,none⟩ (.int .i64 v1)).setCell ⟨r,2,none⟩ (.slice none 0 0)=W at s1 s2 ⊢;have hB:=qat HH.out.1.2.1 s2 (by have:=HH.out.1.1.lt;omega) (nR9 _);refine head_ret (by simp) s1 ?_;exact⟨by rw [HE.out],by rw [hr];exact hB⟩
end Go.Proofs.YtgnaaokhfpfglaaGreatDoor
end
section
namespace Go.Proofs.YtgnaaokhfpfglaaGreatDoor
open Go.RowKit Go.Shelf Go.Lib
theorem own_notcell {W W':World} {base:Nat} {e:TypeId} {size n:Nat} {v:Value} {xs:List Value} {row:Option Nat} (h:W.ownsRow base e size v n xs) (hg:W.grownBy W' row)
  (hr:∀ r,row=some r->∃ o:Obj,W.heap[r]? = some o/\o.isCells=false):W'.ownsRow base e size v n xs:=by
 refine h.kept hg ?_;rcases h.2 with ⟨rfl,_⟩|⟨g,cap,cur,rfl,_,hgb,_⟩
 .exact .inl rfl
 .refine .inr fun e'=>?_
  obtain⟨o,ho,hc⟩:=hr g (by simpa [Value.ownBlock] using e'.symm);rw [hgb] at ho;cases ho;cases hc
theorem ownOtherM {W W':World} {base base':Nat} {e e':TypeId} {size size' n n':Nat} {v v':Value} {xs xs':List Value} (h:W.ownsRow base e size v n xs) (h':W.ownsRow base' e' size' v' n' xs') (hee:e≠e')
  (hg:W.grownBy W' v'.ownBlock):W'.ownsRow base e size v n xs:=by
 refine h.kept hg ?_;rcases h.2 with ⟨rfl,_⟩|⟨g,cap,cur,rfl,_,hgb,_⟩
 .exact .inl rfl
 .refine .inr fun e1=>?_
  rcases h'.2 with ⟨rfl,_⟩|⟨g',cap',cur',rfl,_,hgb',_⟩
  .cases e1
  .have:g=g':=by simpa [Value.ownBlock] using e1
   subst this;rw [hgb] at hgb';cases hgb';exact hee rfl
structure MS (n0:Nat) (eo ei:TypeId) (G:List (List Wd)) (g:List Wd) (V:List Value) (v:Value) (hs:Nat) (vo:Value) (W:World):Prop where
 out:W.ownsRow n0 eo 1 vo (V.length+1) (V++[v])
 len:V.length=G.length
 low:n0<=hs
 high:hs<=W.heap.size
 done:∀ (j:Nat) x y,V[j]? = some x->G[j]? = some y->W.ownsRow n0 ei 3 x y.length (y.flatMap Wd.cells)/\∀ b,x.ownBlock=some b->b<hs
 cur:W.ownsRow hs ei 3 v g.length (g.flatMap Wd.cells)
section
variable {n0:Nat} {eo ei:TypeId} {G:List (List Wd)} {g:List Wd} {V:List Value} {v:Value} {hs:Nat} {vo:Value} {W W':World}
theorem MS.kept {row:Option Nat} (h:MS n0 eo ei G g V v hs vo W) (hg:W.grownBy W' row) (hr:∀ r,row=some r->∃ o:Obj,W.heap[r]? = some o/\o.isCells=false):MS n0 eo ei G g V v hs vo W' where
 out:=own_notcell h.out hg hr
 len:=h.len
 low:=h.low
 high:=Nat.le_trans h.high hg.size
 done:=fun j x y hx hy=>⟨own_notcell (h.done j x y hx hy).1 hg hr,(h.done j x y hx hy).2⟩
 cur:=own_notcell h.cur hg hr
theorem MS.alloc (h:MS n0 eo ei G g V v hs vo W) (o:Obj):MS n0 eo ei G g V v hs vo (W.alloc o):=
 h.kept (World.grownBy_alloc W o none) (fun r e=>by cases e)
theorem MS.drew (h:MS n0 eo ei G g V v hs vo W):MS n0 eo ei G g V v hs vo W.drew where
 out:=h.out
 len:=h.len
 low:=h.low
 high:=h.high
 done:=h.done
 cur:=h.cur
theorem MS.set (h:MS n0 eo ei G g V v hs vo W) {B:Nat} {t:TypeId} {u:Value} (hb:Boxed W B t u) (hto:t≠eo) (hti:t≠ei) (u':Value):MS n0 eo ei G g V v hs vo (W.setCell ⟨B,0,none⟩ u') where
 out:=h.out.kept (grownBy_setCell' W B u') (.inr (hb.not_row hto h.out).symm)
 len:=h.len
 low:=h.low
 high:=Nat.le_trans h.high (grownBy_setCell' W B u').size
 done:=fun j x y hx hy=>⟨(h.done j x y hx hy).1.kept (grownBy_setCell' W B u') (.inr (hb.not_row hti (h.done j x y hx hy).1).symm),(h.done j x y hx hy).2⟩
 cur:=h.cur.kept (grownBy_setCell' W B u') (.inr (hb.not_row hti h.cur).symm)
theorem ms_first {w1:World} {vo':Value} (ho:w1.ownsRow n0 eo 1 vo' (0+1) ([]++[.slice none 0 0])) (hn:n0<=w1.heap.size):MS n0 eo ei [] [] [] (.slice none 0 0) w1.heap.size vo' w1 where
 out:=by simpa using ho
 len:=rfl
 low:=hn
 high:=nR9 _
 done:=fun j x y hx=>by simp at hx
 cur:=World.ownsRow_nil _ _ _ _
theorem MS.next {w1:World} {vo':Value} (h:MS n0 eo ei G g V v hs vo W) (hee:eo≠ei) {tmp:Obj} (hg:(W.alloc tmp).grownBy w1 vo.ownBlock)
  (ho:w1.ownsRow n0 eo 1 vo' (V.length+1+1) (V++[v]++[.slice none 0 0])):MS n0 eo ei (G++[g]) [] (V++[v]) (.slice none 0 0) w1.heap.size vo' w1 where
 out:=by simpa using ho
 len:=by simp [h.len]
 low:=by
  have h1:=h.low;have h2:=h.high;have h3:=hg.size;simp at h3;omega
 high:=nR9 _
 done:=fun j x y hx hy=>by
  have hsz:W.heap.size<=w1.heap.size:=by have h3:=hg.size;simp at h3;omega
  rcases Nat.lt_or_ge j V.length with hj|hj
  .rw [List.getElem?_append_left hj] at hx;rw [List.getElem?_append_left (by rw [<- h.len];exact hj)] at hy;obtain⟨h1,h2⟩:=h.done j x y hx hy;refine⟨ownOtherM (h1.alloc tmp) (h.out.alloc tmp) hee.symm hg,fun b hb=>?_⟩;have:=h2 b hb;have:=h.high;omega
  .rw [List.getElem?_append_right hj] at hx;rw [List.getElem?_append_right (by rw [<- h.len];exact hj)] at hy;have hj0:j - V.length=0:=by
    obtain⟨h1,_⟩:=List.getElem?_eq_some_iff.1 hx;simp at h1;omega
   rw [hj0] at hx;rw [<- h.len,hj0] at hy;simp at hx hy;subst hx;subst hy;refine⟨ownsRow_base (ownOtherM (h.cur.alloc tmp) (h.out.alloc tmp) hee.symm hg) h.low,fun b hb=>?_⟩;have:=(h.cur.lt b hb).2;omega
 cur:=World.ownsRow_nil _ _ _ _
theorem MS.at (h:MS n0 eo ei G g V v hs vo W):∃ bo cap,vo=.slice (some ⟨bo,0,none⟩) (V.length+1) cap/\n0<=bo/\bo<W.heap.size/\W.cell? ⟨bo,V.length,none⟩=some v/\W.frozen? ⟨bo,V.length,none⟩=false:=by
 obtain⟨bo,cap,rfl,hb,hlt⟩:=h.out.form (by omega);refine⟨bo,cap,rfl,hb,hlt,?_,h.out.frozenAt _⟩;rw [h.out.cellAt V.length (by omega)];simp
theorem MS.val (h:MS n0 eo ei G g V v hs vo W):∃ A c,v=.slice A g.length c:=by
 rcases h.cur.2 with ⟨rfl,h0⟩|⟨g',cap,cur,rfl,_⟩
 .exact⟨_,_,by rw [h0]⟩
 .exact⟨_,_,rfl⟩
theorem MS.mid {w1:World} {bo cap:Nat} (h:MS n0 eo ei G g V v hs (.slice (some ⟨bo,0,none⟩) (V.length+1) cap) W) (hee:eo≠ei) {tmp:Obj} (hg:(W.alloc tmp).grownBy w1 v.ownBlock) :
  w1.ownsRow n0 eo 1 (.slice (some ⟨bo,0,none⟩) (V.length+1) cap) (V.length+1) (V++[v])/\w1.cell? ⟨bo,V.length,none⟩=some v/\w1.frozen? ⟨bo,V.length,none⟩=false:=by
 have h1:=ownOtherM (h.out.alloc tmp) (h.cur.alloc tmp) hee hg;refine⟨h1,?_,h1.frozenAt _⟩;rw [h1.cellAt V.length (by omega)];simp
theorem MS.add {w1:World} {v':Value} {x:Wd} {bo cap:Nat} (h:MS n0 eo ei G g V v hs (.slice (some ⟨bo,0,none⟩) (V.length+1) cap) W) (hee:eo≠ei) {tmp:Obj} (hg:(W.alloc tmp).grownBy w1 v.ownBlock)
  (ho:w1.ownsRow hs ei 3 v' (g.length+1) (g.flatMap Wd.cells++Wd.cells x)):MS n0 eo ei G (g++[x]) V v' hs (.slice (some ⟨bo,0,none⟩) (V.length+1) cap) (w1.setCell ⟨bo,V.length,none⟩ v'):=by
 have h1:=ownOtherM (h.out.alloc tmp) (h.cur.alloc tmp) hee hg;obtain⟨h2,h3⟩:=h1.stored V.length v';have hlow:=h.low;have hhigh:=h.high;have hsz:W.heap.size<=w1.heap.size:=by have h3:=hg.size;simp at h3;omega
 have hob:(Value.slice (some ⟨bo,0,none⟩) (V.length+1) cap).ownBlock=some bo:=rfl;refine⟨?_,h.len,h.low,by have:=h3.size;omega,fun j y z hy hz=>?_,?_⟩
 .simpa using h2
 .obtain⟨h4,h5⟩:=h.done j y z hy hz;refine⟨?_,h5⟩;have h6:w1.ownsRow n0 ei 3 y z.length (z.flatMap Wd.cells):=by
   refine (h4.alloc tmp).kept hg ?_;cases hyb:y.ownBlock with
   |none=>exact .inl rfl
   |some b=>
    refine .inr fun e=>?_
    have:=h5 b hyb;have:=(h.cur.lt b e.symm).1;omega
  exact ownOtherM h6 h1 hee.symm (by rw [hob];exact h3)
 .have h7:w1.ownsRow hs ei 3 v' (g++[x]).length ((g++[x]).flatMap Wd.cells):=by simpa [List.flatMap_append] using ho
  exact ownOtherM h7 h1 hee.symm (by rw [hob];exact h3)
end
def lnStep (acc:List (List Wd)) (x:Wd):List (List Wd):=
 match acc.getLast? with
 |none=>[[x]]
 |some g=>if g.getLast?.map Wd.q=some x.q then acc.dropLast++[g++[x]] else acc++[[x]]
def lns (l:List Wd):List (List Wd):=l.foldl lnStep []
theorem lns_snoc (l:List Wd) (x:Wd):lns (l++[x])=lnStep (lns l) x:=by
 unfold lns;rw [List.foldl_append];rfl
theorem lns_same {l:List Wd} {G:List (List Wd)} {g:List Wd} {x y:Wd} (h:lns l=G++[g++[y]]) (hq:y.q=x.q):lns (l++[x])=G++[(g++[y])++[x]]:=by
 rw [lns_snoc,h];unfold lnStep;simp [hq]
theorem lns_new {l:List Wd} {G:List (List Wd)} {g:List Wd} {x y:Wd} (h:lns l=G++[g++[y]]) (hq:y.q≠x.q):lns (l++[x])=(G++[g++[y]])++[[x]]:=by
 rw [lns_snoc,h];unfold lnStep;simp [hq]
def LS (n0:Nat) (eo ei:TypeId) (pre:List Wd) (vo:Value) (W:World):Prop:=
 (pre=[]/\vo=.slice none 0 0)\/∃ G g y V v hs,lns pre=G++[g++[y]]/\pre.getLast? = some y/\G.length+1<=pre.length/\g.length+1<=pre.length/\MS n0 eo ei G (g++[y]) V v hs vo W
theorem LS.kept {n0:Nat} {eo ei:TypeId} {pre:List Wd} {vo:Value} {W W':World} {row:Option Nat} (h:LS n0 eo ei pre vo W) (hg:W.grownBy W' row) (hr:∀ r,row=some r->∃ o:Obj,W.heap[r]? = some o/\o.isCells=false):LS n0 eo ei pre vo W':=by
 rcases h with h|⟨G,g,y,V,v,hs,h1,h2,h3,h4,h5⟩
 .exact .inl h
 .exact .inr ⟨G,g,y,V,v,hs,h1,h2,h3,h4,h5.kept hg hr⟩
end Go.Proofs.YtgnaaokhfpfglaaGreatDoor
end
section
namespace Go.Proofs.YtgnaaokhfpfglaaGreatDoor
open Go.RowKit Go.Shelf Go.Lib
theorem keepsT_r (q:TypeId) (W:World):KeepsT q W W:=fun _ _ _ h=>h
theorem keepsT_t {q:TypeId} {A B C:World} (h:KeepsT q A B) (k:KeepsT q B C):KeepsT q A C:=fun i cs fr e=>k i cs fr (h i cs fr e)
theorem keepsT_set {q t:TypeId} {W:World} {B:Nat} {v:Value} (hb:Boxed W B t v) (hqt:q≠t) (u:Value):KeepsT q W (W.setCell ⟨B,0,none⟩ u):=by
 intro k cs fr h;refine (Below.heap_setCell W _ _ k fun e=>?_).trans h;subst e;have h2:W.heap[k]? = some (.cells #[v] t (0,0)):=hb;rw [h] at h2;cases h2;exact hqt rfl
theorem keepsT_grown {q e:TypeId} {W w1:World} {base size n:Nat} {v:Value} {xs:List Value} (hr:W.ownsRow base e size v n xs) (hqe:q≠e) (hg:W.grownBy w1 v.ownBlock):KeepsT q W w1:=by
 intro k cs fr h;refine (hg.block k (lt_of_block h) fun e1=>?_).trans h;rcases hr.2 with ⟨rfl,_⟩|⟨g,cap,cur,rfl,_,hgb,_⟩
 .cases e1
 .have:k=g:=by simpa [Value.ownBlock] using e1
  subst this;rw [h] at hgb;cases hgb;exact hqe rfl
theorem qaX {W w1:World} {B:Nat} {t e:TypeId} {u:Value} {base size n:Nat} {v:Value} {xs:List Value} (hb:Boxed W B t u) (hr:W.ownsRow base e size v n xs) (hte:t≠e) (hg:W.grownBy w1 v.ownBlock):Boxed w1 B t u:=
 hb.kept hg (hb.not_row hte hr)
theorem others_grown {e:TypeId} {W w1:World} {base size n:Nat} {v:Value} {xs:List Value} (hr:W.ownsRow base e size v n xs) (hg:W.grownBy w1 v.ownBlock):KeepsOthers W w1:=by
 refine KeepsOthers.of_grownBy hg fun j o ej hj=>?_
 rcases hr.2 with ⟨rfl,_⟩|⟨g,cap,cur,rfl,_,hgb,_⟩
 .simp [Value.ownBlock] at ej
 .obtain rfl:g=j:=by simpa [Value.ownBlock] using ej
  rw [hgb] at hj;cases hj;rfl
section
variable {n0:Nat} {t3 t4 eo ei q:TypeId} {vo u4 vo':Value} {W w1:World} {Bx:Nat} {cs:Array Value} {tmp:Obj} {n k:Nat} {xs ys:List Value}
theorem new_line (b3:Boxed W n0 t3 vo) (b4:Boxed W (n0+1) t4 u4) (bX:W.heap[Bx]? = some (.cells cs ei (0,0))) (hr:W.ownsRow n0 eo 1 vo n xs) (hn:n0<=W.heap.size) (hg:(W.alloc tmp).grownBy w1 vo.ownBlock)
  (h1:t3≠eo) (h2:t4≠eo) (h3:ei≠eo) (h4:t3≠ei) (h5:q≠eo) (h6:q≠t3) :
  Boxed w1 n0 t3 vo/\Boxed (w1.setCell ⟨n0,0,none⟩ vo') n0 t3 vo'/\Boxed (w1.setCell ⟨n0,0,none⟩ vo') (n0+1) t4 u4/\(w1.setCell ⟨n0,0,none⟩ vo').heap[Bx]? = some (.cells cs ei (0,0)) /\
   KeepsOthers W (w1.setCell ⟨n0,0,none⟩ vo')/\KeepsT q W (w1.setCell ⟨n0,0,none⟩ vo')/\Below n0 W (w1.setCell ⟨n0,0,none⟩ vo'):=by
 have hra:=hr.alloc tmp;have a3:=qaX (b3.alloc tmp) hra h1 hg;have a4:=qaX (b4.alloc tmp) hra h2 hg;have aX:w1.heap[Bx]? = some (.cells cs ei (0,0)):=by
  have hx:(W.alloc tmp).heap[Bx]? = some (.cells cs ei (0,0)):=(Below.heap_alloc W tmp Bx (lt_of_block bX)).trans bX;refine (hg.block Bx (lt_of_block hx) fun e=>?_).trans hx;rcases hra.2 with ⟨rfl,_⟩|⟨g,cap,cur,rfl,_,hgb,_⟩
  .cases e
  .have:Bx=g:=by simpa [Value.ownBlock] using e
   subst this;rw [hx] at hgb;cases hgb;exact h3 rfl
 refine⟨a3,a3.set vo',a4.kept (grownBy_setCell' w1 n0 vo') (by simp),?_,?_,?_,?_⟩
 .refine (Below.heap_setCell w1 _ _ Bx fun e=>?_).trans aX;subst e;have h2:w1.heap[Bx]? = some (.cells #[vo] t3 (0,0)):=a3;rw [aX] at h2;cases h2;exact h4 rfl
 .exact ((KeepsOthers.alloc W tmp).trans (others_grown hra hg)).trans (KeepsOthers.setCell _ _ _)
 .exact keepsT_t (keepsT_t (fun k _ _ h=>(Below.heap_alloc W tmp k (lt_of_block h)).trans h) (keepsT_grown hra h5 hg)) (keepsT_set a3 h6 vo')
 .exact (((bR9 n0 W).alloc hn tmp).grown hg (by simp;omega) (fun j e=>(hra.lt j e).1)).setCell (p:=⟨n0,0,none⟩) (nR9 _) vo'
theorem new_last {G:List (List Wd)} {g:List Wd} {V:List Value} {v:Value} {hs:Nat} (b3:Boxed W n0 t3 vo) (b4:Boxed W (n0+1) t4 u4) (bX:W.heap[Bx]? = some (.cells cs ei (0,0))) (h4:t4≠ei) (h5:t4≠eo) (h6:q≠t4) (u:Value)
  (hms:MS n0 eo ei G g V v hs vo W) :
  Boxed (W.setCell ⟨n0+1,0,none⟩ u) n0 t3 vo/\Boxed (W.setCell ⟨n0+1,0,none⟩ u) (n0+1) t4 u/\(W.setCell ⟨n0+1,0,none⟩ u).heap[Bx]? = some (.cells cs ei (0,0))/\MS n0 eo ei G g V v hs vo (W.setCell ⟨n0+1,0,none⟩ u) /\
   KeepsOthers W (W.setCell ⟨n0+1,0,none⟩ u)/\KeepsT q W (W.setCell ⟨n0+1,0,none⟩ u)/\Below n0 W (W.setCell ⟨n0+1,0,none⟩ u):=by
 refine⟨b3.kept (grownBy_setCell' W (n0+1) u) (by simp),b4.set u,?_,hms.set b4 h5 h4 u,KeepsOthers.setCell _ _ _,keepsT_set b4 h6 u,(bR9 n0 W).setCell (p:=⟨n0+1,0,none⟩) (Nat.le_succ _) u⟩;refine (Below.heap_setCell W _ _ Bx fun e=>?_).trans bX;subst e;have h2:W.heap[n0+1]? = some (.cells #[u4] t4 (0,0)):=b4;rw [bX] at h2;cases h2;exact h4 rfl
theorem new_word {G:List (List Wd)} {g:List Wd} {x:Wd} {V:List Value} {v v':Value} {hs bo cap:Nat} (b3:Boxed W n0 t3 vo) (b4:Boxed W (n0+1) t4 u4) (hms:MS n0 eo ei G g V v hs (.slice (some ⟨bo,0,none⟩) (V.length+1) cap) W) (hn:n0<=W.heap.size)
  (hg:(W.alloc tmp).grownBy w1 v.ownBlock) (ho:w1.ownsRow hs ei 3 v' (g.length+1) (g.flatMap Wd.cells++Wd.cells x))
  (h1:t3≠eo) (h2:t4≠eo) (h3:eo≠ei) (h4:t3≠ei) (h5:t4≠ei) (h6:q≠eo) (h7:q≠ei) :
  MS n0 eo ei G (g++[x]) V v' hs (.slice (some ⟨bo,0,none⟩) (V.length+1) cap) (w1.setCell ⟨bo,V.length,none⟩ v')/\Boxed (w1.setCell ⟨bo,V.length,none⟩ v') n0 t3 vo/\Boxed (w1.setCell ⟨bo,V.length,none⟩ v') (n0+1) t4 u4 /\
   KeepsOthers W (w1.setCell ⟨bo,V.length,none⟩ v')/\KeepsT q W (w1.setCell ⟨bo,V.length,none⟩ v')/\Below n0 W (w1.setCell ⟨bo,V.length,none⟩ v'):=by
 have hra:=hms.cur.alloc tmp;have a3:=qaX (b3.alloc tmp) hra h4 hg;have a4:=qaX (b4.alloc tmp) hra h5 hg;obtain⟨hrow,_,_⟩:=hms.mid h3 hg;obtain⟨hst,hgs⟩:=hrow.stored V.length v';have hob:(Value.slice (some ⟨bo,0,none⟩) (V.length+1) cap).ownBlock=some bo:=rfl;rw [<- hob] at hgs;have hlow:=hms.low;refine⟨hms.add h3 hg ho,qaX a3 hrow h1 hgs,qaX a4 hrow h2 hgs,?_,?_,?_⟩
 .exact ((KeepsOthers.alloc W tmp).trans (others_grown hra hg)).trans (KeepsOthers.setCell _ _ _)
 .exact keepsT_t (keepsT_t (fun k _ _ h=>(Below.heap_alloc W tmp k (lt_of_block h)).trans h) (keepsT_grown hra h7 hg)) (keepsT_grown hrow h6 hgs)
 .exact (((bR9 n0 W).alloc hn tmp).grown hg (by simp;omega) (fun j e=>by have:=(hra.lt j e).1;omega)).setCell (p:=⟨bo,V.length,none⟩) ((hrow.lt bo hob).1) v'
end
end Go.Proofs.YtgnaaokhfpfglaaGreatDoor
end
section
namespace Go.Proofs.YtgnaaokhfpfglaaGreatDoor
open Go.RowKit Go.Shelf Go.Lib
attribute [local go_sem] Oper.semAt_some
abbrev Wq:={ x:Wd // 1<=x.q/\x.q<=100000 }
theorem abides_map {α β:Type} (f:α->β) {B:Nat} {J:List α->World->Prop} (h:AbidesFrom B J):AbidesFrom B (fun (l:List β) W=>∃ l',l'.map f=l/\J l' W):=
 fun _ W W' row ⟨l',e,hj⟩ hg hr=>⟨l',e,h l' W W' row hj hg hr⟩
theorem words_stopsQ (Bs n₀:Nat) (s:ByteArray) (hs:s.size<=65536) (m:Int) (w:World)
  (hmn:0<n₀) (hn:n₀<=w.heap.size) (hBl:Bs<w.heap.size) (hBs:w.cell? ⟨Bs,0,none⟩=some (.string s))
  (hm:w.cell? ⟨0,0,none⟩=some (.int .i64 m)) :
  SeqStopsK Fence.wide 1 Tryz.prog 81 #[.pointer (some ⟨Bs,0,none⟩)] (fun x:Wq=>#[x.1.enc]) (KeepsW n₀) (fun ys=>ys.map Subtype.val=textW s) (fun pre=>pre.map Subtype.val <+: textW s) (textW s).length w:=fun l J Jx W hW hJ hJx hY h0=>by
 have h1:=splitB_sum (Lib.countB s ⟨#[10]⟩) s;have h2:=sum_len (Lib.splitB ⟨#[10]⟩ 0 (Lib.countB s ⟨#[10]⟩) s);refine (words1_in l Bs n₀ s hs m _ rfl (by omega) (by omega) (fun (l:List Wd) W=>∃ l':List Wq,l'.map Subtype.val=l/\J l' W) (fun (l:List Wd) W=>∃ l':List Wq,l'.map Subtype.val=l/\Jx l' W) hmn (textW s) rfl ?_ W (abides_map Subtype.val hJ)
  ((hW.cell (p:=⟨Bs,0,none⟩) hBl).trans hBs) (Nat.le_trans hn hW.size) ((hW.cell (p:=⟨0,0,none⟩) (by simp;omega)).trans hm) ⟨[],rfl,h0⟩).mono ?_
 .rintro pre x W1 ⟨pre',rfl,hj⟩ hp;have hx:x ∈ textW s:=hp.subset (by simp);have hb:=text_bd s x hx;have hlen:=hp.length_le;simp at hlen;have hy:=hY pre' ⟨x,hb.2.1,by have:=hb.2.2;omega⟩ W1 hj (by omega);refine YieldAt.mono hy ?_;rintro e W' (⟨he,hj2,hk⟩|⟨he,hj2⟩)
  .exact .inl ⟨he,⟨_,by simp,hj2⟩,hk⟩
  .exact .inr ⟨he,⟨_,by simp,hj2⟩⟩
 .rintro e W' ⟨hv,⟨ys,rfl',⟨ys',e1,hj⟩⟩|⟨pre,hp,⟨pre',e1,hj⟩⟩⟩
  .exact⟨hv,.inl ⟨ys',e1.trans rfl',hj⟩⟩
  .exact⟨hv,.inr ⟨pre',(e1 ▸ hp:pre'.map Subtype.val <+: textW s),hj⟩⟩
def lastq (l:List Wd):Int:=match l.getLast? with
 |none=>0
 |some y=>y.q
theorem lastq_snoc (l:List Wd) (x:Wd):lastq (l++[x])=x.q:=by simp [lastq]
theorem boxed_notcell {W W':World} {B:Nat} {t:TypeId} {v:Value} {row:Option Nat} (h:Boxed W B t v) (hg:W.grownBy W' row) (hr:∀ r,row=some r->∃ o:Obj,W.heap[r]? = some o/\o.isCells=false):Boxed W' B t v:=by
 refine h.kept hg fun e=>?_
 obtain⟨o,ho,hc⟩:=hr B e.symm;rw [show W.heap[B]? = _ from h] at ho;cases ho;cases hc
theorem infoR:(Tryz.prog.info? 76).map (fun i=>(i.zero,i.size,i.bytes))=some (some (.slice none 0 0),1,24):=by kernel_rfl
def LI (n0 B3 B4:Nat) (pre:List Wq) (W:World):Prop:=
 ∃ vo,Boxed W B3 74 vo/\Boxed W B4 3 (.int .i64 (lastq (pre.map Subtype.val)))/\LS n0 76 78 (pre.map Subtype.val) vo W
theorem li_own (n0 B3 B4:Nat):Own (LI n0 B3 B4):=fun _ _ _ _ ⟨vo,h1,h2,h3⟩ hg hr=>
 ⟨vo,boxed_notcell h1 hg hr,boxed_notcell h2 hg hr,h3.kept hg hr⟩
theorem lines_in (s:ByteArray) (hs:s.size<=65536) (m:Int) (w:World) (hm:w.cell? ⟨0,0,none⟩=some (.int .i64 m)) :
  CallsIn Fence.wide 2 Tryz.prog 25 #[.string s] w fun e W'=>
   ∃ v,e=.returned v/\LS w.heap.size 76 78 (textW s) v W'/\Below w.heap.size w W':=by
 have hmn:0<w.heap.size:=qaM hm;have hN:=textW_len s;obtain⟨i0,hi,hz0,hz1,hz2⟩:=info_parts infoW;obtain⟨j0,hj,hy0,hy1,hy2⟩:=info_parts infoR;refine callsIn_of_wp_marks Tryz.func25 rfl trivial ?_ rfl;simp only [Tryz.ntmps25,List.size_toArray,List.length_cons,List.length_nil,Nat.reduceAdd,Nat.reduceSub,Array.replicate_succ,Array.replicate_zero,List.push_toArray,List.append_toArray,List.nil_append,List.cons_append]
 gi_wp2_with (refine⟨trivial,?_⟩;gi_at_call 53;refine (words_in _ s _).mono ?_;rintro e w' ⟨rfl,rfl⟩)
 have b3:=((Boxed.new w 74 (.slice none 0 0)).alloc (.cells #[.int .i64 0] 3)).alloc (.cells #[.string s] 9);have b4:=(Boxed.new (w.alloc (.cells #[.slice none 0 0] 74)) 3 (.int .i64 0)).alloc (.cells #[.string s] 9);have bs:=(Boxed.new ((w.alloc (.cells #[.slice none 0 0] 74)).alloc (.cells #[.int .i64 0] 3)) 9 (.string s)).cell;have hB0:Below w.heap.size w (((w.alloc (.cells #[.slice none 0 0] 74)).alloc (.cells #[.int .i64 0] 3)).alloc (.cells #[.string s] 9)):=(((bR9 _ w).alloc (nR9 _) _).alloc (by simp) _).alloc (by simp;omega) _;have hsz:(((w.alloc (.cells #[.slice none 0 0] 74)).alloc (.cells #[.int .i64 0] 3)).alloc (.cells #[.string s] 9)).heap.size=w.heap.size+3:=by simp
 have hs1:(w.alloc (.cells #[.slice none 0 0] 74)).heap.size=w.heap.size+1:=by simp
 have hs2:((w.alloc (.cells #[.slice none 0 0] 74)).alloc (.cells #[.int .i64 0] 3)).heap.size=w.heap.size+1+1:=by simp
 rw [hs1] at b4;rw [hs2] at bs;generalize ((w.alloc (.cells #[.slice none 0 0] 74)).alloc (.cells #[.int .i64 0] 3)).alloc (.cells #[.string s] 9)=W0 at b3 b4 bs hB0 hsz ⊢;clear hs1 hs2;refine wpIn_rangeFunc_ownH rfl (by omega) (gf:=81) (lb:=#[.pointer (some ⟨w.heap.size+1+1,0,none⟩)]) rfl trivial (enters_of Tryz.func81 (by kernel_rfl) rfl)
  (words_stopsQ (w.heap.size+1+1) w.heap.size s hs m W0 hmn (by omega) (by omega) bs ((hB0.cell (p:=⟨0,0,none⟩) hmn).trans hm))
  keepsW_t (keepsW_b (by omega)) (bR9 _ _) (fun _=>rfl)
  (fun (pre:List Wq) W=>LI w.heap.size w.heap.size (w.heap.size+1) pre W/\Below w.heap.size w W)
  (fun _ _ _=>False)
  (OwnFrom.and (Own.from (li_own w.heap.size w.heap.size (w.heap.size+1)) _) (ownFrom_below (nR9 _) (by omega)))
  (fun _ _ _ _ _ hs _ _=>hs)
  ⟨⟨_,b3,b4,.inl ⟨rfl,rfl⟩⟩,hB0⟩
  (fun x a' W=>∃ Bx,w.heap.size+1<Bx/\W.heap[Bx]? = some (.cells #[.int .i64 x.1.p,.int .i64 x.1.q,.string x.1.t] 78 (0,0))/\a' = { tmps:=#[.string s,undef,.slice none 0 0,.pointer (some ⟨w.heap.size,0,none⟩),.pointer (some ⟨w.heap.size+1,0,none⟩),.pointer (some ⟨Bx,0,none⟩),.string s,.func (.func 81) #[] #[.pointer (some ⟨w.heap.size+1+1,0,none⟩)],x.1.enc,undef,undef,undef,undef,undef,undef,undef,undef,undef,undef,undef,undef,undef,undef,undef,undef,undef,undef,undef,undef,undef,undef,undef,undef],defers:=[] })
  (fun x a' _ X Y row hs hg hr=>by
   obtain⟨Bx,h1,h2,h3⟩:=hs;refine⟨Bx,h1,(hg.block Bx (lt_of_block h2) (fun e=>?_)).trans h2,h3⟩;obtain⟨_,o,ho,hc⟩:=hr _ e.symm;rw [h2] at ho;cases ho
   cases hc)
  ?assign ?body ?done ?stop
 case assign=>
  rintro l pre ⟨⟨xp,xq,xt⟩,hq⟩ W K ⟨⟨vo,bv3,bv4,hls⟩,hB1⟩ hK;dsimp only [Wd.enc] at hK ⊢
  gi_wp2
  exact hK _ _ ((KeepsOthers.alloc _ _).from _) ⟨(bR9 _ W).alloc hB1.size _,keepsT_alloc _ _⟩ ⟨⟨vo,bv3.alloc _,bv4.alloc _,hls.kept (World.grownBy_alloc W _ none) (fun r e=>by cases e)⟩,hB1.alloc hB1.size _⟩ ⟨W.heap.size,bv4.lt,heap_alloc_new W _,rfl⟩
 case body=>
  rintro l pre ⟨⟨xp,xq,xt⟩,hq⟩ a' W hl ⟨r,hr⟩ ⟨⟨vo,bv3,bv4,hls⟩,hB1⟩ ⟨Bx,hBx,bX,rfl⟩ hlt;dsimp only [Wd.enc] at bX ⊢;have hx0:W.cell? ⟨Bx,0,none⟩=some (.int .i64 xp):=by simp [World.cell?,bX]
  have hx1:W.cell? ⟨Bx,1,none⟩=some (.int .i64 xq):=by simp [World.cell?,bX]
  have hx2:W.cell? ⟨Bx,2,none⟩=some (.string xt):=by simp [World.cell?,bX]
  have hc3:=bv3.cell;have hc4:=bv4.cell;have hf3:=bv3.frozen;have hf4:=bv4.frozen;have hmap:(pre++[(⟨⟨xp,xq,xt⟩,hq⟩:Wq)]).map Subtype.val=pre.map Subtype.val++[⟨xp,xq,xt⟩]:=by simp
  have hplen:(pre.map Subtype.val).length<(textW s).length:=by rw [List.length_map];exact hlt
  have HMAP:=hI9 hmap;clear hmap;generalize pre.map Subtype.val=P at *
  obtain⟨ql,hql⟩:∃ q,lastq P=q:=⟨_,rfl⟩;rw [hql] at bv4 hc4;have HQL:=hI9 hql;clear hql
  gi_upto_if 12 with (fail)
  obtain⟨bq,hbq⟩:∃ b,(xq != ql)=b:=⟨_,rfl⟩;rw [hbq];have HBQ:=hI9 hbq;clear hbq
  gi_cut [13] from 33 (fun _ W'=>∃ G g V v hs vo,Hid (lns (P++[⟨xp,xq,xt⟩])=G++[g++[⟨xp,xq,xt⟩]])/\G.length<=P.length/\g.length<=P.length/\Boxed W' w.heap.size 74 vo/\Boxed W' (w.heap.size+1) 3 (.int .i64 xq) /\
   MS w.heap.size 76 78 G g V v hs vo W'/\W'.heap[Bx]? = some (.cells #[.int .i64 xp,.int .i64 xq,.string xt] 78 (0,0))/\KeepsOthers W W'/\KeepsW w.heap.size W W'/\Below w.heap.size w W')
  case first=>
   rcases hls with ⟨hp0,rfl⟩|⟨G,g,y,V,v,hs',h1,h2,h3,h4,hms⟩
   .subst hp0;have hl0:ql=0:=HQL.out.symm;obtain rfl:bq=true:=by rw [<- HBQ.out,hl0];have:=hq.1;simp at this ⊢;omega
    clear hl0;have hrow:=World.ownsRow_nil W w.heap.size 76 1
    gi_wp2_with (gi_at_builtin;refine wpListIn_append_own _ rfl _ _ 74 rfl w.heap.size 76 j0 _ 1 24 Tryz.underlying74 hj hy0 hy1 hy2 rfl (by decide) _ 0 [] rfl (hrow.alloc _) ⟨W.heap.size,0,none⟩ 1 1 [.slice none 0 0] rfl rfl (cell_one_new _ _ _) (by simp [Value.oneCell']) (by unfold maxLen;omega) (by omega) (by have:=hB1.size;simp;omega) ?_;intro v' w1 hown' hgrow _;obtain⟨g',cap',rfl⟩:=ownsRow_succ hown';obtain⟨n1,n2,n3,n4,n5,n6,n7⟩:=new_line (q:=9) (vo':=.slice (some ⟨g',0,none⟩) (0+1) cap') bv3 bv4 bX hrow hB1.size hgrow (by decide) (by decide) (by decide) (by decide) (by decide) (by decide);have hc1:=n1.cell;have hf1:=n1.frozen;have hx1':=cell_of_row _ Bx 1 _ _ _ n4;have hc4':=n3.cell;have hf4':=n3.frozen)
    obtain⟨l1,l2,l3,l4,l5,l6,l7⟩:=new_last (q:=9) n2 n3 n4 (by decide) (by decide) (by decide) (.int .i64 xq) ((ms_first hown' (by have h9:=hgrow.size;have:=hB1.size;simp at h9;omega)).set n1 (by decide) (by decide) (.slice (some ⟨g',0,none⟩) (0+1) cap'))
    gi_meet
    exact⟨[],[],[],.slice none 0 0,_,_,hI9 rfl,by simp,by simp,l1,l2,l4,l3,n5.trans l5,⟨n7.trans l7,keepsT_t n6 l6⟩,hB1.trans (n7.trans l7)⟩
   .have hql:lastq P=y.q:=by unfold lastq;rw [h2]
    have hyl:ql=y.q:=HQL.out.symm.trans hql;clear hql;cases hbq:bq with
    |false=>
     subst hbq;have hyq:y.q=xq:=by have:=HBQ.out;simp at this;omega
     subst hyl;clear HQL HBQ
     gi_wp2
     gi_meet
     exact⟨G,g++[y],V,v,hs',vo,hI9 (lns_same h1 hyq),by omega,by simp;omega,bv3,(hyq ▸ bv4),hms,bX,KeepsOthers.refl _,⟨bR9 _ _,keepsT_r _ _⟩,hB1⟩
    |true=>
     subst hbq;have hyq:y.q≠xq:=by have:=HBQ.out;simp at this;omega
     clear hyl;have hrow:=hms.out;have HLN:=hI9 hms.len
     gi_wp2_with (gi_at_builtin;refine wpListIn_append_own _ rfl _ _ 74 rfl w.heap.size 76 j0 _ 1 24 Tryz.underlying74 hj hy0 hy1 hy2 rfl (by decide) _ (V.length+1) (V++[v]) rfl (hrow.alloc _) ⟨W.heap.size,0,none⟩ 1 1 [.slice none 0 0] rfl rfl (cell_one_new _ _ _) (by simp [Value.oneCell']) (by have:=HLN.out;unfold maxLen;omega) (by have:=HLN.out;omega) (by have:=hB1.size;simp;omega) ?_;intro v' w1 hown' hgrow _;obtain⟨g',cap',rfl⟩:=ownsRow_succ hown';obtain⟨n1,n2,n3,n4,n5,n6,n7⟩:=new_line (q:=9) (vo':=.slice (some ⟨g',0,none⟩) (V.length+1+1) cap') bv3 bv4 bX hrow hB1.size hgrow (by decide) (by decide) (by decide) (by decide) (by decide) (by decide);have hc1:=n1.cell;have hf1:=n1.frozen;have hx1':=cell_of_row _ Bx 1 _ _ _ n4;have hc4':=n3.cell;have hf4':=n3.frozen)
     obtain⟨l1,l2,l3,l4,l5,l6,l7⟩:=new_last (q:=9) n2 n3 n4 (by decide) (by decide) (by decide) (.int .i64 xq) ((hms.next (by decide) hgrow hown').set n1 (by decide) (by decide) (.slice (some ⟨g',0,none⟩) (V.length+1+1) cap'))
     gi_meet
     exact⟨G++[g++[y]],[],V++[v],.slice none 0 0,_,_,hI9 (lns_new h1 hyq),by simp;omega,by simp,l1,l2,l4,l3,n5.trans l5,⟨n7.trans l7,keepsT_t n6 l6⟩,hB1.trans (n7.trans l7)⟩
  case rest=>
   obtain⟨G,g,V,v,hs',vo,HL,hG,hg,c3,c4,hms,cX,hko,hkw,hB2⟩:=hcut;obtain⟨bo,cap,rfl,hbo1,hbo2,hcb,hfb⟩:=hms.at;obtain⟨A,c,rfl⟩:=hms.val;have HLN:=hI9 hms.len;have hkb:V.length<=65537:=by rw [HLN.out];omega
   have HMS:=hI9 hms;have hcur:=hms.cur;obtain⟨k,hk⟩:∃ k,V.length=k:=⟨_,rfl⟩;rw [hk] at c3 hcb hfb hkb;have HK:=hI9 hk;obtain⟨gl,hgl⟩:∃ k,g.length=k:=⟨_,rfl⟩;rw [hgl] at hcb hcur;have HGL:=hI9 hgl;have hcurd:wc.drew.ownsRow hs' 78 3 (.slice A gl c) gl (g.flatMap Wd.cells):=hcur;have HCUR:=hI9 hcurd;clear hcur hcurd;have hgb:gl<=65537:=by rw [<- hgl];omega
   clear hk hms hgl;have hk1:IntKind.i64.wrap (k:Int)=(k:Int):=by rw [IntKind.wrap_i64];omega
   have hk2:(k:Int)<(k:Int)+1:=by omega
   have hcd:wc.drew.cell? ⟨bo,k,none⟩=some (.slice A gl c):=hcb;have d3:Boxed wc.drew w.heap.size 74 (.slice (some ⟨bo,0,none⟩) (k+1) cap):=c3;have d4:Boxed wc.drew (w.heap.size+1) 3 (.int .i64 xq):=c4;have hx0':wc.drew.cell? ⟨Bx,0,none⟩=some (.int .i64 xp):=cell_of_row _ Bx 0 _ _ _ cX;have hx1':wc.drew.cell? ⟨Bx,1,none⟩=some (.int .i64 xq):=cell_of_row _ Bx 1 _ _ _ cX;have hx2':wc.drew.cell? ⟨Bx,2,none⟩=some (.string xt):=cell_of_row _ Bx 2 _ _ _ cX;have hS0:wc.drew.cell? ⟨w.heap.size,0,none⟩=some (.slice (some ⟨bo,0,none⟩) (k+1) cap):=c3.cell
   gi_upto_region 8 with (fail)
   refine wpIn_region_plain (S:=fun W'=>W'.cell? ⟨w.heap.size,0,none⟩=some (.slice (some ⟨bo,0,none⟩) (k+1) cap)) (by kernel_rfl) (by kernel_rfl) (by rintro ⟨_,_,h⟩;exact h) ?_;refine wpAnyH_take (i:=0) (v:=?_) rfl (by kernel_rfl) (by kernel_rfl) (by kernel_rfl) (fun _ _ _ h=>h) (Or.inl ⟨by rfl,fun W' hS=>?_⟩) hS0 ?_;rotate_left
   .go_simp;(try with_reducible rfl)
   refine wpAnyH_take (i:=1) (v:=?_) rfl (by kernel_rfl) (by kernel_rfl) (by kernel_rfl) (fun _ _ _ h=>h) (Or.inl ⟨by rfl,fun W' hS=>?_⟩) hS0 ?_;rotate_left
   .go_simp;(try with_reducible rfl)
   refine wpAnyH_take (i:=2) (v:=?_) rfl (by kernel_rfl) (by kernel_rfl) (by kernel_rfl) (fun _ _ _ h=>h) (Or.inl ⟨by rfl,fun W' hS=>?_⟩) hS0 ?_;rotate_left
   .go_simp;(try with_reducible rfl)
   refine wpAnyH_take (i:=3) (v:=?_) rfl (by kernel_rfl) (by kernel_rfl) (by kernel_rfl) (fun _ _ _ h=>h) (Or.inl ⟨by rfl,fun W' hS=>?_⟩) hS0 ?_;rotate_left
   .go_simp;(try with_reducible rfl)
   refine wpAnyH_take (i:=4) (v:=?_) rfl (by kernel_rfl) (by kernel_rfl) (by kernel_rfl) (fun _ _ _ h=>h) (Or.inl ⟨by rfl,fun W' hS=>?_⟩) hS0 ?_;rotate_left
   .go_simp;(try with_reducible rfl)
   refine wpAnyH_take (i:=5) (v:=?_) rfl (by kernel_rfl) (by kernel_rfl) (by kernel_rfl) (fun _ _ _ h=>h) (Or.inl ⟨by rfl,fun W' hS=>?_⟩) hS0 ?_;rotate_left
   .go_simp;(try with_reducible rfl)
   refine wpAnyH_take (i:=6) (v:=?_) rfl (by kernel_rfl) (by kernel_rfl) (by kernel_rfl) (fun _ _ _ h=>h) (Or.inl ⟨by rfl,fun W' hS=>?_⟩) hS0 ?_;rotate_left
   .go_simp;(try with_reducible rfl)
   refine wpAnyH_take (i:=7) (v:=?_) rfl (by kernel_rfl) (by kernel_rfl) (by kernel_rfl) (fun _ _ _ h=>h) (Or.inl ⟨by rfl,fun W' hS=>?_⟩) hS0 ?_;rotate_left
   .go_simp;(try with_reducible rfl)
   refine wpAnyH_take (i:=8) (v:=?_) rfl (by kernel_rfl) (by kernel_rfl) (by kernel_rfl) (fun _ _ _ h=>h) (Or.inl ⟨by rfl,fun W' hS=>?_⟩) hS0 ?_;rotate_left
   .go_simp;(try with_reducible rfl)
   refine wpAnyH_ready (rs:=[9,10]) (by kernel_rfl) (by simp) ?_;refine AllReadyH.cons rfl (fun K9 hK9=>?_) (AllReadyH.cons rfl (fun K9 hK9=>?_) AllReadyH.nil)
   .skip;go_simp;refine hK9.out _ _ (by first|exact hS0|exact hS1) (fun _=>?_);refine wpAnyH_ready (rs:=[10]) (by kernel_rfl) (by simp) ?_;refine AllReadyH.cons rfl (fun K9 hK9=>?_) AllReadyH.nil;go_simp;refine hK9.out _ _ hS0 (fun _=>?_);refine wpAnyH_ready (rs:=[11]) (by kernel_rfl) (by simp) ?_;refine AllReadyH.cons rfl (fun K9 hK9=>?_) AllReadyH.nil;go_simp;have hS1:=(d3.alloc (.cells #[.int .i64 xp,.int .i64 xq,.string xt] 78)).cell;have hcd1:(wc.drew.alloc (.cells #[.int .i64 xp,.int .i64 xq,.string xt] 78)).cell? ⟨bo,k,none⟩=some (.slice A gl c):=(World.cell?_alloc_lt _ _ _ hbo2).trans hcd;refine hK9.out _ _ hS1 (fun _=>?_);refine wpAnyH_ready (rs:=[12]) (by kernel_rfl) (by simp) ?_;refine AllReadyH.cons rfl (fun K9 hK9=>?_) AllReadyH.nil;refine step_append_lies _ (by rfl) (.tmp 27) (.tmp 29) 76 (by rfl) hs' 78 i0 _ 3 32 Tryz.underlying76 hi hz0 hz1 hz2 rfl (by decide) (.slice A gl c) gl (g.flatMap Wd.cells) (by rfl) ((HCUR.out).alloc _) ⟨wc.heap.size,0,none⟩ 1 1 [.int .i64 xp,.int .i64 xq,.string xt] (by rfl) rfl (three_new wc.drew _ _ _ _) (by simp [Value.oneCell']) (by decide) (by unfold maxLen;omega) (by omega) (by have:=HMS.out.high;simp;omega) _ rfl ?_;intro g' cap' w1 hown' hgrow _ _;have hgrow2:(wc.drew.alloc (.cells #[.int .i64 xp,.int .i64 xq,.string xt] 78)).grownBy w1 (Value.slice A g.length c).ownBlock:=by rw [HGL.out];exact hgrow
    obtain⟨_,m2,m3⟩:=HMS.out.drew.mid (by decide) hgrow2;have nw:=new_word (q:=9) (x:=⟨xp,xq,xt⟩) d3 d4 HMS.out.drew hB2.size hgrow2 (by rw [HGL.out];exact hown') (by decide) (by decide) (by decide) (by decide) (by decide) (by decide) (by decide);rw [HK.out] at m2 m3 nw;obtain⟨nw1,nw2,nw3,nw4,nw5,nw6⟩:=nw;have e3:=qaX (d3.alloc _) (HCUR.out.alloc _) (by decide) hgrow;refine hK9.out _ _ e3.cell (fun _=>?_);clear hK9 K9;refine wpAnyH_ready (rs:=[13]) (by kernel_rfl) (by simp) ?_;refine AllReadyH.cons rfl (fun K9 hK9=>?_) AllReadyH.nil;go_simp;refine hK9.out _ _ e3.cell (fun _=>?_);clear hK9 K9;refine wpAnyH_ready (rs:=[14]) (by kernel_rfl) (by simp) ?_;refine AllReadyH.cons rfl (fun K9 hK9=>?_) AllReadyH.nil;go_simp;refine hK9.out _ _ nw2.cell (fun _=>?_);refine wpAnyH_done (by kernel_rfl) ?_ _;refine⟨((hko.trans (KeepsOthers.drew _)).trans nw4).from _,keepsW_t hkw ⟨((bR9 _ wc).drew).trans nw6,fun k cs fr h=>nw5 k cs fr h⟩,⟨_,nw2,?_,?_⟩,hB2.drew.trans nw6⟩
    .rw [HMAP.out,lastq_snoc];exact nw3
    .rw [HMAP.out];exact .inr ⟨G,g,⟨xp,xq,xt⟩,V,_,hs',HL.out,by simp,by simp;omega,by have:=HGL.out;simp;omega,nw1⟩
   .skip;go_simp;refine hK9.out _ _ hS0 (fun _=>?_);refine wpAnyH_ready (rs:=[9,11]) (by kernel_rfl) (by simp) ?_;refine AllReadyH.cons rfl (fun K9 hK9=>?_) (AllReadyH.cons rfl (fun K9 hK9=>?_) AllReadyH.nil)
    .skip;go_simp;refine hK9.out _ _ (by first|exact hS0|exact hS1) (fun _=>?_);refine wpAnyH_ready (rs:=[11]) (by kernel_rfl) (by simp) ?_;refine AllReadyH.cons rfl (fun K9 hK9=>?_) AllReadyH.nil;go_simp;have hS1:=(d3.alloc (.cells #[.int .i64 xp,.int .i64 xq,.string xt] 78)).cell;have hcd1:(wc.drew.alloc (.cells #[.int .i64 xp,.int .i64 xq,.string xt] 78)).cell? ⟨bo,k,none⟩=some (.slice A gl c):=(World.cell?_alloc_lt _ _ _ hbo2).trans hcd;refine hK9.out _ _ hS1 (fun _=>?_);refine wpAnyH_ready (rs:=[12]) (by kernel_rfl) (by simp) ?_;refine AllReadyH.cons rfl (fun K9 hK9=>?_) AllReadyH.nil;refine step_append_lies _ (by rfl) (.tmp 27) (.tmp 29) 76 (by rfl) hs' 78 i0 _ 3 32 Tryz.underlying76 hi hz0 hz1 hz2 rfl (by decide) (.slice A gl c) gl (g.flatMap Wd.cells) (by rfl) ((HCUR.out).alloc _) ⟨wc.heap.size,0,none⟩ 1 1 [.int .i64 xp,.int .i64 xq,.string xt] (by rfl) rfl (three_new wc.drew _ _ _ _) (by simp [Value.oneCell']) (by decide) (by unfold maxLen;omega) (by omega) (by have:=HMS.out.high;simp;omega) _ rfl ?_;intro g' cap' w1 hown' hgrow _ _;have hgrow2:(wc.drew.alloc (.cells #[.int .i64 xp,.int .i64 xq,.string xt] 78)).grownBy w1 (Value.slice A g.length c).ownBlock:=by rw [HGL.out];exact hgrow
     obtain⟨_,m2,m3⟩:=HMS.out.drew.mid (by decide) hgrow2;have nw:=new_word (q:=9) (x:=⟨xp,xq,xt⟩) d3 d4 HMS.out.drew hB2.size hgrow2 (by rw [HGL.out];exact hown') (by decide) (by decide) (by decide) (by decide) (by decide) (by decide) (by decide);rw [HK.out] at m2 m3 nw;obtain⟨nw1,nw2,nw3,nw4,nw5,nw6⟩:=nw;have e3:=qaX (d3.alloc _) (HCUR.out.alloc _) (by decide) hgrow;refine hK9.out _ _ e3.cell (fun _=>?_);clear hK9 K9;refine wpAnyH_ready (rs:=[13]) (by kernel_rfl) (by simp) ?_;refine AllReadyH.cons rfl (fun K9 hK9=>?_) AllReadyH.nil;go_simp;refine hK9.out _ _ e3.cell (fun _=>?_);clear hK9 K9;refine wpAnyH_ready (rs:=[14]) (by kernel_rfl) (by simp) ?_;refine AllReadyH.cons rfl (fun K9 hK9=>?_) AllReadyH.nil;go_simp;refine hK9.out _ _ nw2.cell (fun _=>?_);refine wpAnyH_done (by kernel_rfl) ?_ _;refine⟨((hko.trans (KeepsOthers.drew _)).trans nw4).from _,keepsW_t hkw ⟨((bR9 _ wc).drew).trans nw6,fun k cs fr h=>nw5 k cs fr h⟩,⟨_,nw2,?_,?_⟩,hB2.drew.trans nw6⟩
     .rw [HMAP.out,lastq_snoc];exact nw3
     .rw [HMAP.out];exact .inr ⟨G,g,⟨xp,xq,xt⟩,V,_,hs',HL.out,by simp,by simp;omega,by have:=HGL.out;simp;omega,nw1⟩
    .skip;go_simp;have hS1:=(d3.alloc (.cells #[.int .i64 xp,.int .i64 xq,.string xt] 78)).cell;have hcd1:(wc.drew.alloc (.cells #[.int .i64 xp,.int .i64 xq,.string xt] 78)).cell? ⟨bo,k,none⟩=some (.slice A gl c):=(World.cell?_alloc_lt _ _ _ hbo2).trans hcd;refine hK9.out _ _ hS1 (fun _=>?_);refine wpAnyH_ready (rs:=[9]) (by kernel_rfl) (by simp) ?_;refine AllReadyH.cons rfl (fun K9 hK9=>?_) AllReadyH.nil;go_simp;refine hK9.out _ _ (by first|exact hS0|exact hS1) (fun _=>?_);refine wpAnyH_ready (rs:=[12]) (by kernel_rfl) (by simp) ?_;refine AllReadyH.cons rfl (fun K9 hK9=>?_) AllReadyH.nil;refine step_append_lies _ (by rfl) (.tmp 27) (.tmp 29) 76 (by rfl) hs' 78 i0 _ 3 32 Tryz.underlying76 hi hz0 hz1 hz2 rfl (by decide) (.slice A gl c) gl (g.flatMap Wd.cells) (by rfl) ((HCUR.out).alloc _) ⟨wc.heap.size,0,none⟩ 1 1 [.int .i64 xp,.int .i64 xq,.string xt] (by rfl) rfl (three_new wc.drew _ _ _ _) (by simp [Value.oneCell']) (by decide) (by unfold maxLen;omega) (by omega) (by have:=HMS.out.high;simp;omega) _ rfl ?_;intro g' cap' w1 hown' hgrow _ _;have hgrow2:(wc.drew.alloc (.cells #[.int .i64 xp,.int .i64 xq,.string xt] 78)).grownBy w1 (Value.slice A g.length c).ownBlock:=by rw [HGL.out];exact hgrow
     obtain⟨_,m2,m3⟩:=HMS.out.drew.mid (by decide) hgrow2;have nw:=new_word (q:=9) (x:=⟨xp,xq,xt⟩) d3 d4 HMS.out.drew hB2.size hgrow2 (by rw [HGL.out];exact hown') (by decide) (by decide) (by decide) (by decide) (by decide) (by decide) (by decide);rw [HK.out] at m2 m3 nw;obtain⟨nw1,nw2,nw3,nw4,nw5,nw6⟩:=nw;have e3:=qaX (d3.alloc _) (HCUR.out.alloc _) (by decide) hgrow;refine hK9.out _ _ e3.cell (fun _=>?_);clear hK9 K9;refine wpAnyH_ready (rs:=[13]) (by kernel_rfl) (by simp) ?_;refine AllReadyH.cons rfl (fun K9 hK9=>?_) AllReadyH.nil;go_simp;refine hK9.out _ _ e3.cell (fun _=>?_);clear hK9 K9;refine wpAnyH_ready (rs:=[14]) (by kernel_rfl) (by simp) ?_;refine AllReadyH.cons rfl (fun K9 hK9=>?_) AllReadyH.nil;go_simp;refine hK9.out _ _ nw2.cell (fun _=>?_);refine wpAnyH_done (by kernel_rfl) ?_ _;refine⟨((hko.trans (KeepsOthers.drew _)).trans nw4).from _,keepsW_t hkw ⟨((bR9 _ wc).drew).trans nw6,fun k cs fr h=>nw5 k cs fr h⟩,⟨_,nw2,?_,?_⟩,hB2.drew.trans nw6⟩
     .rw [HMAP.out,lastq_snoc];exact nw3
     .rw [HMAP.out];exact .inr ⟨G,g,⟨xp,xq,xt⟩,V,_,hs',HL.out,by simp,by simp;omega,by have:=HGL.out;simp;omega,nw1⟩
 case done=>
  rintro D ys W hD hys ⟨⟨vo,bv3,bv4,hls⟩,hB1⟩ hK;have hc:=bv3.cell
  gi_wp2
  refine⟨by simp,.inl ⟨_,_,rfl,run_takeDeferred hK,?_⟩⟩;exact⟨_,results_tmp rfl _ _ _,vo,rfl,hys ▸ hls.kept (grownBy_putObj' W D _) (fun r e=>by cases e;exact⟨_,hK,rfl⟩),hB1.trans (belowK_b (w:=w) (nR9 _) W D _ _ (by omega) hK rfl rfl)⟩
 case stop=>
  rintro D c pre W _ _ h _;exact h.elim
end Go.Proofs.YtgnaaokhfpfglaaGreatDoor
end
section
namespace Go.Proofs.YtgnaaokhfpfglaaGreatDoor
open Go.RowKit Go.Shelf Go.Lib
theorem emit_line {q:Nat} {cur:Option (Nat × List UInt8)}:∀ x ∈ emit q cur,x.q=(q:Int):=by
 intro x hx;cases cur with
 |none=>simp [emit] at hx
 |some c=>simp [emit] at hx;rw [hx]
theorem scan_line:∀ (l:List UInt8) (q:Nat) (off:Bool) (cur:Option (Nat × List UInt8)) (i:Nat),(10:UInt8) ∉ l->∀ x ∈ scan q off cur i l,x.q=(q:Int):=by
 intro l
 induction l with
 |nil=>intro q off cur i _ x hx;exact emit_line x hx
 |cons c l ih=>
  intro q off cur i h x hx;have hc:c≠10:=fun e=>h (by rw [e];exact List.mem_cons_self)
  have hl:(10:UInt8) ∉ l:=fun e=>h (List.mem_cons_of_mem _ e)
  simp only [scan,if_neg hc] at hx;split at hx
  .rcases List.mem_append.1 hx with hx|hx
   .exact emit_line x hx
   .exact ih _ _ _ _ hl x hx
  .split at hx
   .rcases List.mem_append.1 hx with hx|hx
    .exact emit_line x hx
    .exact ih _ _ _ _ hl x hx
   .exact ih _ _ _ _ hl x hx
theorem lns_lastN:∀ (n:Nat) (l:List Wd),l.length=n->l≠[]->∃ G g y,lns l=G++[g++[y]]/\l.getLast? = some y:=by
 intro n
 induction n with
 |zero=>intro l h0 h;exact absurd (List.eq_nil_of_length_eq_zero h0) h
 |succ n ih=>
  intro l0 hn h0;rcases List.eq_nil_or_concat l0 with rfl|⟨l,x,rfl⟩
  .exact absurd rfl h0
  .by_cases h:l=[]
   .subst h;exact⟨[],[],x,rfl,rfl⟩
   .simp at hn;obtain⟨G,g,y,h1,_⟩:=ih l hn h;by_cases hq:y.q=x.q
    .exact⟨G,g++[y],x,by simpa using lns_same h1 hq,by simp⟩
    .exact⟨G++[g++[y]],[],x,by simpa using lns_new h1 hq,by simp⟩
theorem lns_last (l:List Wd) (h:l≠[]):∃ G g y,lns l=G++[g++[y]]/\l.getLast? = some y:=lns_lastN _ l rfl h
theorem lns_len (l:List Wd):(lns l).length<=l.length:=by
 have:∀ (m:List Wd) (acc:List (List Wd)),(m.foldl lnStep acc).length<=acc.length+m.length:=by
  intro m
  induction m with
  |nil=>intro acc;simp
  |cons x m ih=>
   intro acc;have h1:=ih (lnStep acc x);have h2:(lnStep acc x).length<=acc.length+1:=by
    unfold lnStep;split
    .simp
    .split
     .simp
     .simp
   simp only [List.foldl_cons,List.length_cons];omega
 have h:=this l []
 simpa [lns] using h
theorem lns_other {l:List Wd} {x:Wd} (h:∀ y ∈ l,y.q≠x.q):lns (l++[x])=lns l++[[x]]:=by
 by_cases hl:l=[]
 .subst hl;rfl
 .obtain⟨G,g,y,h1,h2⟩:=lns_last l hl;rw [h1];exact lns_new h1 (h y (List.mem_of_getLast? h2))
def LRow (w:World) (B:Nat) (A:Option Addr) (L:List (List Wd)):Prop:=
 0<L.length->∃ b off,A=some ⟨b,off,none⟩/\b<B/\∀ i (h:i<L.length),∃ Ai ci,w.cell? ⟨b,off+i,none⟩=some (.slice Ai L[i].length ci)/\WRow w B Ai L[i]
theorem LRow.below {w w':World} {B C:Nat} {A:Option Addr} {L:List (List Wd)} (h:LRow w B A L) (hb:Below C w w') (hBC:B<=C):LRow w' B A L:=by
 intro hl;obtain⟨b,off,e,hlt,hc⟩:=h hl;refine⟨b,off,e,hlt,fun i hi=>?_⟩;obtain⟨Ai,ci,h1,h2⟩:=hc i hi;exact⟨Ai,ci,(hb.cell (p:=⟨b,_,none⟩) (by show b<C;omega)).trans h1,h2.below hb hBC⟩
theorem LRow.more {w:World} {B C:Nat} {A:Option Addr} {L:List (List Wd)} (h:LRow w B A L) (hBC:B<=C):LRow w C A L:=by
 intro hl;obtain⟨b,off,e,hlt,hc⟩:=h hl;refine⟨b,off,e,by omega,fun i hi=>?_⟩;obtain⟨Ai,ci,h1,h2⟩:=hc i hi;exact⟨Ai,ci,h1,h2.more hBC⟩
theorem lrow_own {n0:Nat} {eo ei:TypeId} {l:List Wd} {vo:Value} {w:World} (h:LS n0 eo ei l vo w):∃ A cap,vo=.slice A (lns l).length cap/\LRow w w.heap.size A (lns l):=by
 rcases h with ⟨rfl,rfl⟩|⟨G,g,y,V,v,hs,h1,h2,h3,h4,hms⟩
 .exact⟨none,0,rfl,fun h=>by simp [lns] at h⟩
 .obtain⟨bo,cap,rfl,hb,hlt,_,_⟩:=hms.at;have hlen:V.length+1=(lns l).length:=by rw [h1,List.length_append,hms.len];rfl
  refine⟨_,cap,by rw [<- hlen],fun _=>⟨bo,0,rfl,hlt,fun i hi=>?_⟩⟩;have hget:(lns l)[i]? = some (lns l)[i]:=List.getElem?_eq_getElem hi;generalize (lns l)[i]=L at hget ⊢;rw [h1] at hget;have hiV:i<V.length+1:=by rw [hlen];exact hi
  have hcell:=hms.out.cellAt i (by omega);rw [Nat.zero_add,hcell];rcases Nat.lt_or_ge i V.length with hi2|hi2
  .rw [List.getElem?_append_left (by rw [<- hms.len];exact hi2)] at hget;rw [List.getElem?_append_left hi2,List.getElem?_eq_getElem hi2];obtain⟨Ai,ci,e1,_,_,e2⟩:=wrow_own (hms.done i _ _ (List.getElem?_eq_getElem hi2) hget).1;exact⟨Ai,ci,by rw [e1],e2⟩
  .obtain rfl:i=V.length:=by omega
   rw [List.getElem?_append_right (by rw [hms.len];exact nR9 _),hms.len] at hget;rw [List.getElem?_append_right (nR9 _)];simp only [Nat.sub_self,List.getElem?_cons_zero,Option.some.injEq] at hget ⊢;subst hget;obtain⟨Ai,ci,e1,_,_,e2⟩:=wrow_own hms.cur;exact⟨Ai,ci,e1,e2⟩
def wat0:List Wd->Int
 |[]=>0
 |x::_=>x.p
theorem lns_words (l:List Wd) (h:∀ x ∈ l,0<=x.p):∀ g ∈ lns l,g≠[]/\0<=wat0 g:=by
 have key:∀ (m:List Wd) (acc:List (List Wd)),(∀ x ∈ m,0<=x.p)->(∀ g ∈ acc,g≠[]/\0<=wat0 g)->∀ g ∈ m.foldl lnStep acc,g≠[]/\0<=wat0 g:=by
  intro m
  induction m with
  |nil=>intro acc _ h g hg;exact h g hg
  |cons x m ih=>
   intro acc hm h g hg;refine ih (lnStep acc x) (fun y hy=>hm y (List.mem_cons_of_mem _ hy)) (fun g hg=>?_) g hg;have hx:=hm x List.mem_cons_self;unfold lnStep at hg;split at hg
   .simp at hg;subst hg;exact⟨by simp,hx⟩
   .rename_i g0 he;have h0:=h g0 (List.mem_of_getLast? he);split at hg
    .rcases List.mem_append.1 hg with hg|hg
     .exact h g ((List.dropLast_sublist _).subset hg)
     .simp at hg;subst hg;refine⟨by simp,?_⟩;cases g0 with
      |nil=>exact absurd rfl h0.1
      |cons y r=>exact h0.2
    .rcases List.mem_append.1 hg with hg|hg
     .exact h g hg
     .simp at hg;subst hg;exact⟨by simp,hx⟩
 exact key l [] h (fun g hg=>by cases hg)
theorem lns_each' (l:List Wd):∀ g ∈ lns l,g.length<=l.length:=by
 have:∀ (m:List Wd) (acc:List (List Wd)) (k:Nat),(∀ g ∈ acc,g.length<=k)->∀ g ∈ m.foldl lnStep acc,g.length<=k+m.length:=by
  intro m
  induction m with
  |nil=>intro acc k h g hg;exact h g hg
  |cons x m ih=>
   intro acc k h g hg;have h1:∀ g ∈ lnStep acc x,g.length<=k+1:=by
    intro g hg;unfold lnStep at hg;split at hg
    .simp at hg;subst hg;simp
    .rename_i g0 he;have hm:=List.mem_of_getLast? he;have h0:=h g0 hm;split at hg
     .rcases List.mem_append.1 hg with hg|hg
      .have:=h g ((List.dropLast_sublist _).subset hg);omega
      .simp at hg;subst hg;simp;omega
     .rcases List.mem_append.1 hg with hg|hg
      .have:=h g hg;omega
      .simp at hg;subst hg;simp
   have h2:=ih (lnStep acc x) (k+1) h1 g hg;simp only [List.length_cons];omega
 intro g hg;have h:=this l [] 0 (fun g h=>by cases h) g hg;omega
theorem scan_tsize:∀ (l:List UInt8) (q:Nat) (off:Bool) (cur:Option (Nat × List UInt8)) (i k:Nat),(∀ p t,cur=some (p,t)->t.length<=k)->∀ x ∈ scan q off cur i l,x.t.size<=k+l.length:=by
 intro l
 induction l with
 |nil=>
  intro q off cur i k h x hx;cases cur with
  |none=>simp [scan,emit] at hx
  |some c=>
   simp [scan,emit] at hx;subst hx;have:=h c.1 c.2 rfl;simp [Lib.size_eq];exact this
 |cons c l ih=>
  intro q off cur i k h x hx;have hem:∀ x ∈ emit q cur,x.t.size<=k:=by
   intro x hx;cases cur with
   |none=>simp [emit] at hx
   |some c=>
    simp [emit] at hx;subst hx;have:=h c.1 c.2 rfl;simp [Lib.size_eq];exact this
  have h0:∀ p t,(none:Option (Nat × List UInt8))=some (p,t)->t.length<=0:=fun _ _ e=>by cases e
  simp only [scan] at hx;simp only [List.length_cons];split at hx
  .rcases List.mem_append.1 hx with hx|hx
   .have:=hem x hx;omega
   .have:=ih _ _ _ _ 0 h0 x hx;omega
  .split at hx
   .rcases List.mem_append.1 hx with hx|hx
    .have:=hem x hx;omega
    .have:=ih _ _ _ _ 0 h0 x hx;omega
   .split at hx
    .rcases List.mem_append.1 hx with hx|hx
     .have:=hem x hx;omega
     .have:=ih _ _ _ _ 0 h0 x hx;omega
    .have:=ih _ _ (grow i c cur) _ (k+1) (fun p t e=>by
      cases cur with
      |none=>simp [grow] at e;rw [<- e.2];simp
      |some d=>simp [grow] at e;rw [<- e.2];have:=h d.1 d.2 rfl;simp;omega) x hx
     omega
theorem text_tsize (s:ByteArray):∀ x ∈ textW s,x.t.size<=s.size:=by
 intro x hx;rw [textW_scan] at hx;have:=scan_tsize _ _ _ _ _ 0 (fun _ _ e=>by cases e) x hx;rw [<- Lib.size_eq] at this;omega
theorem lns_mem (l:List Wd):∀ g ∈ lns l,∀ x ∈ g,x ∈ l:=by
 have key:∀ (m:List Wd) (acc:List (List Wd)) (P:Wd->Prop),(∀ x ∈ m,P x)->(∀ g ∈ acc,∀ x ∈ g,P x)->∀ g ∈ m.foldl lnStep acc,∀ x ∈ g,P x:=by
  intro m
  induction m with
  |nil=>intro acc P _ h g hg;exact h g hg
  |cons y m ih=>
   intro acc P hm h g hg;refine ih (lnStep acc y) P (fun z hz=>hm z (List.mem_cons_of_mem _ hz)) (fun g hg=>?_) g hg;have hy:=hm y List.mem_cons_self;unfold lnStep at hg;split at hg
   .simp at hg;subst hg;intro x hx;simp at hx;rw [hx];exact hy
   .rename_i g0 he;have h0:=h g0 (List.mem_of_getLast? he);split at hg
    .rcases List.mem_append.1 hg with hg|hg
     .exact h g ((List.dropLast_sublist _).subset hg)
     .simp at hg;subst hg;intro x hx;rcases List.mem_append.1 hx with hx|hx
      .exact h0 x hx
      .simp at hx;rw [hx];exact hy
    .rcases List.mem_append.1 hg with hg|hg
     .exact h g hg
     .simp at hg;subst hg;intro x hx;simp at hx;rw [hx];exact hy
 exact key l [] (fun x=>x ∈ l) (fun _ h=>h) (fun g hg=>by cases hg)
theorem lns_texts (s:ByteArray) (hs:s.size<=65536):∀ g ∈ lns (textW s),∀ x ∈ g,x.t.size<=65536:=fun g hg x hx=>Nat.le_trans (text_tsize s x (lns_mem _ g hg x hx)) hs
end Go.Proofs.YtgnaaokhfpfglaaGreatDoor
end
section
namespace Go.Proofs.YtgnaaokhfpfglaaGreatDoor
open Go.RowKit Go.Shelf Go.Lib Go.Proofs.YtgnaaokhfpfglaaGreatDoorW.PrintWords
def kTk:Kd Tk:=Kd.iso (Kd.pair (Kd.int .i64) (Kd.pair (Kd.int .i64) (Kd.pair (Kd.int .i64) (Kd.pair (Kd.int .i64) (Kd.pair (Kd.int .i64) (Kd.pair (Kd.slice 2 (Kd.int .i64)) (Kd.slice 3 (Kd.int .i64)))))))) (fun x:Tk=>(x.id,x.c,x.d,x.t,x.p,x.ch,x.us))
theorem kTk_open {w:World} {x:Tk} {cs:List Value} (h:kTk.K w x cs):∃ A5 c5 A6 c6,cs=[.int .i64 x.id,.int .i64 x.c,.int .i64 x.d,.int .i64 x.t,.int .i64 x.p,.slice A5 x.ch.length c5,.slice A6 x.us.length c6]/\x.ch.length<=c5/\(Kd.int .i64).C w A5 x.ch.length x.ch/\x.us.length<=c6/\(Kd.int .i64).C w A6 x.us.length x.us:=by
 obtain⟨_,_,rfl,rfl,⟨_,_,rfl,rfl,⟨_,_,rfl,rfl,⟨_,_,rfl,rfl,⟨_,_,rfl,rfl,⟨_,_,rfl,⟨A5,c5,rfl,l5,g5⟩,⟨A6,c6,rfl,l6,g6⟩⟩⟩⟩⟩⟩⟩:=h;exact⟨A5,c5,A6,c6,rfl,l5,g5,l6,g6⟩
theorem kTk_mkM (w:World) (base:Nat) (ok:Nat->Prop) (x:Tk) {v5:Value} (g5:(Kd.int .i64).R 2 w base ok v5 x.ch) {v6:Value} (g6:(Kd.int .i64).R 3 w base ok v6 x.us):kTk.M w base ok x [.int .i64 x.id,.int .i64 x.c,.int .i64 x.d,.int .i64 x.t,.int .i64 x.p,v5,v6]:=⟨[.int .i64 x.id],[.int .i64 x.c,.int .i64 x.d,.int .i64 x.t,.int .i64 x.p,v5,v6],rfl,rfl,⟨[.int .i64 x.c],[.int .i64 x.d,.int .i64 x.t,.int .i64 x.p,v5,v6],rfl,rfl,⟨[.int .i64 x.d],[.int .i64 x.t,.int .i64 x.p,v5,v6],rfl,rfl,⟨[.int .i64 x.t],[.int .i64 x.p,v5,v6],rfl,rfl,⟨[.int .i64 x.p],[v5,v6],rfl,rfl,⟨[v5],[v6],rfl,⟨v5,rfl,g5⟩,⟨v6,rfl,g6⟩⟩⟩⟩⟩⟩⟩
theorem tkrow_of_C {w:World} {A:Option Addr} {l:List Tk} (h:Kd.C kTk w A l.length l):TkRow w w.heap.size A l:=by
 intro hl;obtain⟨_,_,h⟩:=h;obtain⟨ad,rfl,hc⟩:=h hl;have hat:∀ j (hj:j<l.length),∃ A5 c5 A6 c6,(∀ i u,[Value.int .i64 l[j].id,.int .i64 l[j].c,.int .i64 l[j].d,.int .i64 l[j].t,.int .i64 l[j].p,.slice A5 l[j].ch.length c5,.slice A6 l[j].us.length c6][i]? = some u->w.cell? (ad.add (j * 7+i))=some u)/\NRow w w.heap.size A5 l[j].ch/\NRow w w.heap.size A6 l[j].us:=by
  intro j hj;obtain⟨c,_,hk,hcell⟩:=hc j _ (List.getElem?_eq_getElem hj);obtain⟨A5,c5,A6,c6,rfl,_,g5,_,g6⟩:=kTk_open hk;exact⟨A5,c5,A6,c6,hcell,nrow_of_C g5,nrow_of_C g6⟩
 obtain⟨_,_,_,_,h00,_⟩:=hat 0 hl;have h00:=h00 0 _ rfl;have hsp:=World.cell?_spot h00;have hlt:=bLt w _ h00;obtain⟨b,off,spot⟩:=ad;have hs:spot=none:=by simpa [Addr.add] using hsp
 subst hs;have hadd:∀ j,(⟨b,off,none⟩:Addr).add j=⟨b,off+j,none⟩:=fun j=>by unfold Addr.add;split<;>simp_all
 refine⟨b,off,rfl,by simpa [hadd] using hlt,fun i hi=>?_⟩;obtain⟨A5,c5,A6,c6,g,g5,g6⟩:=hat i hi;have g0:=g 0 _ rfl;have g1:=g 1 _ rfl;have g2:=g 2 _ rfl;have g3:=g 3 _ rfl;have g4:=g 4 _ rfl;have q5:=g 5 _ rfl;have q6:=g 6 _ rfl;rw [hadd] at g0 g1 g2 g3 g4 q5 q6;exact⟨g0,by rw [Nat.add_assoc];exact g1,by rw [Nat.add_assoc];exact g2,by rw [Nat.add_assoc];exact g3,by rw [Nat.add_assoc];exact g4,A5,c5,A6,c6,by rw [Nat.add_assoc];exact q5,by rw [Nat.add_assoc];exact q6,g5,g6⟩
theorem numP_le {s:ByteArray} {most:Int} (h0:0<=most):0<=(numP s most).1/\(numP s most).1<=most:=by
 unfold numP;split
 .rename_i h;exact⟨Int.natCast_nonneg _,h.2.2⟩
 .exact⟨Int.le_refl _,h0⟩
theorem taskG_bounds {L:List Wd} {x:Tk} (hL:∀ x ∈ L,x.t.size<=65536) (h:taskG L=.ok x):x.ch.length<=4000000/\x.us.length<=4000000/\x.c<=9223372036854775807:=by
 unfold taskG at h
 repeat' (split at h)
 all_goals first|(cases h;done)|skip
 injection h with h
 subst h;have h1:=rowP_len (name:=⟨#[99,104,117,110,107,115]⟩) (most:=1073741824) (nextP_size hL 6);have h2:=rowP_len (name:=⟨#[117,115,101]⟩) (most:=255) (nextP_size hL (rowK (nextP L 6) ⟨#[99,104,117,110,107,115]⟩ 6));have h3:(namedP (nextP L 2) ⟨#[99]⟩ 1073741824).1<=1073741824:=(numP_le (by decide)).2;exact⟨Nat.le_trans h1 (by decide),Nat.le_trans h2 (by decide),Int.le_trans h3 (by decide)⟩
noncomputable def goP (sets rel size:Int):List Tk->List (List Wd)->Int × Int × List Tk × Int × Int
 |acc,[]=>if acc.length=0 then (0,0,[],size,1) else (sets,rel,acc,size,0)
 |acc,L::r=>match taskG L with
  |.error p=>(0,0,[],p,10)
  |.ok x=>if checkE sets rel (acc++[x])=0 then goP sets rel size (acc++[x]) r else (0,0,[],wat0 L,checkE sets rel (acc++[x]))
noncomputable def parseP (s:ByteArray):Int × Int × List Tk × Int × Int:=match lns (textW s) with
 |[]=>(0,0,[],s.size,10)
 |L::r=>match headG L with
  |.error p=>(0,0,[],p,10)
  |.ok x=>goP x.1 x.2 s.size [] r
theorem headFn_any (lb xb cl n:Nat) (Al:Option Addr) (A:Option Addr) (cap:Nat) (L:List Wd) (w:World) (hn:L.length<=1000000) (hl:w.cell? ⟨lb,0,none⟩=some (.slice Al n cl)) (h0:0<n)
  (hA:∃ b off,Al=some ⟨b,off,none⟩/\w.cell? ⟨b,off,none⟩=some (.slice A L.length cap)) (hr:WRow w w.heap.size A L) {a0 a1 a2:Value} (hb:w.heap[xb]? = some (.cells #[a0,a1,a2] 37 (0,0))) :
  Calls Tryz.prog 58 #[.pointer (some ⟨lb,0,none⟩),.pointer (some ⟨xb,0,none⟩)] w fun e w'=>
   match headG L with
   |.error p=>e=.panicked (wrongV p)/\Below w.heap.size w w'
   |.ok x=>e=.returned (.tuple #[])/\w'.heap[xb]? = some (.cells #[.int .i64 x.1,.int .i64 x.2,.slice none 0 0] 37 (0,0))/\w.grownBy w' (some xb):=by
 obtain⟨b,off,rfl,hA⟩:=hA;have H1:=hI9 (head_any cap A L w hn hr);obtain⟨nl,hnl⟩:∃ z,L.length=z:=⟨_,rfl⟩;rw [hnl] at hA H1;have HB:=hI9 hb;cases hR:headG L with
 |error p=>
  rw [hR] at H1;clear hr hn hb hnl hR;go_enter Tryz.func58,Tryz.ntmps58;go_wp2_with (first|(go_at_call 59;refine H1.out.mono ?_;rintro e w1 ⟨rfl,hb1⟩))
  exact⟨rfl,rfl,hb1⟩
 |ok x=>
  rw [hR] at H1;obtain⟨xa,xc⟩:=x;clear hr hn hb hnl hR;go_enter Tryz.func58,Tryz.ntmps58;go_wp2_with (first|(go_at_call 59;refine H1.out.mono ?_;rintro e w1 ⟨rfl,hb1⟩;have hx1:=(hb1.block xb (lt_of_block HB.out)).trans HB.out;have r0:=cell_of_row w1 xb 0 _ _ _ hx1;have r1:=cell_of_row w1 xb 1 _ _ _ hx1;have r2:=cell_of_row w1 xb 2 _ _ _ hx1;have hz:∀ i,w1.frozen? ⟨xb,i,none⟩=false:=(fun i=>by simp [World.frozen?,hx1]);have HX1:=hI9 (And.intro hx1 hb1);clear hx1 hb1;simp at r0 r1 r2))
  go_end0
  obtain⟨s1,s2⟩:=qbf HX1.out.1 (.int .i64 xa) (.int .i64 xc) (.slice none 0 0);exact⟨rfl,s1,qak (qah HX1.out.2 _) s2⟩
theorem reads_goodH (caps:Array Value) (w:World) (P:World->Prop)
  (h:Calls Tryz.prog 58 caps (w.alloc (.cells #[.int .i64 0,.int .i64 0] 120)) fun e w'=>e=.returned (.tuple #[])/\w'.heap[w.heap.size]? = some (.cells #[.int .i64 0,.int .i64 0] 120 (0,0))/\P w') :
  Calls Tryz.prog 57 #[.func (Fn.func 58) #[] caps] w fun e w'=>e=.returned (.agg #[.int .i64 0,.int .i64 0])/\∃ w1,P w1/\w1.grownBy w' (some w.heap.size)/\w.heap.size<w1.heap.size:=by
 have hmf:∀ (fn:Fn) (first cap:Array Value) (w:World),(Instr.makeFunc fn first cap).run Tryz.prog w=.ok (.func fn first cap) w:=fun _ _ _ _=>rfl
 have H:=hI9 h;clear h;go_enter_defers Tryz.func57,Tryz.ntmps57
 go_upto_region 2 with (fail)
 generalize w.alloc (.cells #[.int .i64 0,.int .i64 0] 120)=w0 at H ⊢;go_upto_region 3 with (first|(go_at_call 58;refine H.out.mono ?_;rintro e w1 ⟨rfl,hbk,hP⟩))
 have x0:=cell_of_row w1 w.heap.size 0 _ _ _ hbk;have x1:=cell_of_row w1 w.heap.size 1 _ _ _ hbk;have hz:∀ i,w1.frozen? ⟨w.heap.size,i,none⟩=false:=fun i=>by simp [World.frozen?,hbk]
 have HB:=hI9 hbk;clear hbk;simp at x0 x1;go_wp2;obtain⟨s1,s2⟩:=two_set HB.out (.int .i64 0) (.int .i64 0);generalize ((w1.setCell ⟨w.heap.size,0,none⟩ (.int .i64 0)).setCell ⟨w.heap.size,1,none⟩ (.int .i64 0))=W at s1 s2 ⊢;refine leaves_cons (f:=89) (args:=#[.pointer (some ⟨w.heap.size,0,none⟩)]) (by simp) (by simp [go_sem]) ?_;refine (catch_none w.heap.size _).mono ?_;rintro e u' w'' ⟨rfl,rfl,rfl⟩;have y0:=cell_of_row w'' w.heap.size 0 _ _ _ s1;have y1:=cell_of_row w'' w.heap.size 1 _ _ _ s1;simp at y0 y1;simp [Leaves,settle,results,Tryz.results57,go_sem,y0,y1];exact⟨w1,hP,s2,lt_of_block HB.out⟩
theorem reads_badH (caps:Array Value) (p:Int) (w:World) (P:World->Prop)
  (h:Calls Tryz.prog 58 caps (w.alloc (.cells #[.int .i64 0,.int .i64 0] 120)) fun e w'=>e=.panicked (wrongV p)/\w'.heap[w.heap.size]? = some (.cells #[.int .i64 0,.int .i64 0] 120 (0,0))/\P w') :
  Calls Tryz.prog 57 #[.func (Fn.func 58) #[] caps] w fun e w'=>e=.returned (.agg #[.int .i64 p,.int .i64 10])/\∃ w1,P w1/\w1.grownBy w' (some w.heap.size)/\w.heap.size<w1.heap.size:=by
 have hmf:∀ (fn:Fn) (first cap:Array Value) (w:World),(Instr.makeFunc fn first cap).run Tryz.prog w=.ok (.func fn first cap) w:=fun _ _ _ _=>rfl
 have H:=hI9 h;clear h;go_enter_defers Tryz.func57,Tryz.ntmps57
 go_upto_region 2 with (fail)
 generalize w.alloc (.cells #[.int .i64 0,.int .i64 0] 120)=w0 at H ⊢;go_wp2_with (first|(go_at_call 58;refine H.out.mono ?_;rintro e w1 ⟨rfl,hbk,hP⟩))
 obtain⟨s1,s2⟩:=two_set hbk (.int .i64 p) (.int .i64 10);refine leaves_cons (f:=89) (args:=#[.pointer (some ⟨w.heap.size,0,none⟩)]) (by simp) (by simp [go_sem]) ?_;refine (catch_wrong w.heap.size p (.int .i64 0) (.int .i64 0) [] _ hbk).mono ?_;rintro e u' w'' ⟨rfl,rfl,rfl⟩;generalize ((w1.setCell ⟨w.heap.size,0,none⟩ (.int .i64 p)).setCell ⟨w.heap.size,1,none⟩ (.int .i64 10))=W at s1 s2 ⊢;have y0:=cell_of_row W w.heap.size 0 _ _ _ s1;have y1:=cell_of_row W w.heap.size 1 _ _ _ s1;simp at y0 y1;simp [Leaves,settle,results,Tryz.results57,go_sem,y0,y1];exact⟨w1,hP,s2,lt_of_block hbk⟩
theorem heads_any (lb xb cl n:Nat) (Al:Option Addr) (A:Option Addr) (cap:Nat) (L:List Wd) (w:World) (hn:L.length<=1000000) (hl:w.cell? ⟨lb,0,none⟩=some (.slice Al n cl)) (h0:0<n)
  (hA:∃ b off,Al=some ⟨b,off,none⟩/\w.cell? ⟨b,off,none⟩=some (.slice A L.length cap)) (hr:WRow w w.heap.size A L) (hb:w.heap[xb]? = some (.cells #[.int .i64 0,.int .i64 0,.slice none 0 0] 37 (0,0))) :
  Calls Tryz.prog 57 #[.func (Fn.func 58) #[] #[.pointer (some ⟨lb,0,none⟩),.pointer (some ⟨xb,0,none⟩)]] w fun e w'=>∃ bat be sa sb:Int,e=.returned (.agg #[.int .i64 bat,.int .i64 be]) /\
   w'.heap[xb]? = some (.cells #[.int .i64 sa,.int .i64 sb,.slice none 0 0] 37 (0,0))/\w.grownBy w' (some xb) /\
   (match headG L with|.error p=>bat=p/\be=10|.ok x=>be=0/\sa=x.1/\sb=x.2):=by
 have hal:=(bR9 w.heap.size w).alloc (nR9 _) (.cells #[.int .i64 0,.int .i64 0] 120);have hnew:=heap_alloc_new w (.cells #[.int .i64 0,.int .i64 0] 120);have hsz:=qaF w (.cells #[.int .i64 0,.int .i64 0] 120);have hlx:=lt_of_block hb;obtain⟨bk,off,rfl,hA⟩:=hA;have h:=headFn_any lb xb cl n (some ⟨bk,off,none⟩) A cap L (w.alloc (.cells #[.int .i64 0,.int .i64 0] 120)) hn ((hal.cell (p:=⟨lb,0,none⟩) (qaM hl)).trans hl) h0 ⟨bk,off,rfl,(hal.cell (p:=⟨bk,off,none⟩) (qaM hA)).trans hA⟩ ((hr.below hal (nR9 _)).more (by rw [hsz];omega)) ((hal.block xb hlx).trans hb);cases hR:headG L with
 |error p=>
  rw [hR] at h;refine (reads_badH _ p w (fun w1=>Below w.heap.size w w1) (h.mono fun e w' ⟨h1,h2⟩=>⟨h1,(h2.block w.heap.size (by rw [hsz];omega)).trans hnew,hal.trans (h2.mono (by rw [hsz];omega))⟩)).mono ?_;rintro e w' ⟨rfl,w1,h1,h2,_⟩;have hB:=qat h1 h2 h1.size (nR9 _);exact⟨p,10,0,0,rfl,(hB.block xb hlx).trans hb,qah hB _,rfl,rfl⟩
 |ok x=>
  rw [hR] at h;refine (reads_goodH _ w (fun w1=>w1.heap[xb]? = some (.cells #[.int .i64 x.1,.int .i64 x.2,.slice none 0 0] 37 (0,0))/\w.grownBy w1 (some xb)) (h.mono fun e w' ⟨h1,h2,h3⟩=>⟨h1,(h3.block w.heap.size (by rw [hsz];omega) (fun e=>by injection e with e;omega)).trans hnew,h2,qak (qah hal _) h3⟩)).mono ?_;rintro e w' ⟨rfl,w1,⟨h1,h4⟩,h2,_⟩;have hs:w.heap.size<=w1.heap.size:=h4.size;exact⟨0,0,x.1,x.2,rfl,(h2.block xb (by omega) (fun e=>by injection e with e;omega)).trans h1,⟨h2.os.trans h4.os,h2.tape.trans h4.tape,h2.output.trans h4.output,Nat.le_trans hs h2.size,fun j hj hne=>(h2.block j (by omega) (fun e=>by injection e with e;omega)).trans (h4.block j hj hne)⟩,rfl,rfl,rfl⟩
theorem own_cap {w:World} {base:Nat} {e:TypeId} {size n m c:Nat} {A:Option Addr} {xs:List Value} (h:w.ownsRow base e size (.slice A n c) m xs):m<=c:=by
 rcases h.2 with ⟨h1,rfl⟩|⟨g,cap,cur,h1,_,_,h2,_⟩
 .exact Nat.zero_le _
 .injection h1 with _ _ h3
  omega
theorem lexLines_cap (s:ByteArray) (hs:s.size<=65536) (m:Int) (w:World) (hm:w.cell? ⟨0,0,none⟩=some (.int .i64 m)) :
  Calls Tryz.prog 25 #[.string s] w fun e w'=>(∃ A cap,e=.returned (.slice A (lns (textW s)).length cap)/\LRow w' w'.heap.size A (lns (textW s))/\(lns (textW s)).length<=cap)/\Below w.heap.size w w':=
 (callsIn_wide.1 (lines_in s hs m w hm)).mono fun e w' ⟨v,he,hls,hb⟩=>by
  obtain⟨A,cap,rfl,hr⟩:=lrow_own hls;refine⟨⟨A,cap,he,hr,?_⟩,hb⟩;rcases hls with ⟨h2,h1⟩|⟨G,g,y,V,v,hs,h1,h2,h3,h4,hms⟩
  .rw [h2];exact Nat.zero_le _
  .have hlen:V.length+1=(lns (textW s)).length:=by rw [h1,List.length_append,hms.len];rfl
   rw [<- hlen];exact own_cap hms.out
theorem infoTk:(Tryz.prog.info? 58).map (fun i=>(i.zero,i.size,i.bytes))=some (some (.agg #[.int .i64 0,.int .i64 0,.int .i64 0,.int .i64 0,.int .i64 0,.slice none 0 0,.slice none 0 0]),7,88):=by kernel_rfl
theorem parse_ret {R:Ending->World->Prop} {tmps:Array Value} {W:World} {r:Nat} {t:TypeId} {a0 a1 a2 v3 v4:Value} (ht:tmps[2]?.getD undef=.pointer (some ⟨r,0,none⟩)) (h3:tmps[3]?.getD undef=v3) (h4:tmps[4]?.getD undef=v4) (hb:W.heap[r]? = some (.cells #[a0,a1,a2] t (0,0)))
  (hR:R (.returned (.tuple #[.agg #[a0,a1,a2],v3,v4])) W) :
  bodyPost Tryz.prog Tryz.f27 R .ret { tmps:=tmps,defers:=[] } W:=by
 refine bodyPost_ret ?_ rfl hR;have h0:W.cell? ⟨r,0,none⟩=some a0:=by simp [World.cell?,hb]
 have h1:W.cell? ⟨r,1,none⟩=some a1:=by simp [World.cell?,hb]
 have h2:W.cell? ⟨r,2,none⟩=some a2:=by simp [World.cell?,hb]
 simp [results,Tryz.f27,go_sem,ht,h0,h1,h2,h3,h4]
def LpI (w w3:World) (r xb bb:Nat) (sa sb size:Int) (Lr:List (List Wd)) (R:Int × Int × List Tk × Int × Int) (i:Nat) (acc:List Tk) (bat be:Int) (v:Value) (wr:World):Prop:=
 wr.heap[xb]? = some (.cells #[.int .i64 sa,.int .i64 sb,v] 37 (0,0))/\wr.heap[bb]? = some (.cells #[.int .i64 bat,.int .i64 be] 120 (0,0))/\Below r w wr /\
 wr.heap[r]? = some (.cells #[.int .i64 0,.int .i64 0,.slice none 0 0] 37 (0,0))/\Below xb w3 wr/\Kd.S kTk 58 wr xb (fun _=>True) v acc /\
 (∀ x ∈ acc,x.ch.length<=4000000/\x.us.length<=4000000/\x.c<=9223372036854775807)/\acc.length<=i/\((be=0/\R=goP sa sb size acc (Lr.drop i))\/(be≠0/\R=(0,0,[],bat,be)))
theorem S_keep1 {α:Type} {d:Kd α} {e base g t:Nat} {w W:World} {v:Value} {xs:List α} {cells:Array Value} (h:Kd.S d e w base (fun _=>True) v xs) (hb:w.heap[g]? = some (.cells cells t (0,0))) (ht:∀ q,q ∈ e::d.E->q≠t) (hg:w.grownBy W (some g)):Kd.S d e W base (fun _=>True) v xs:=
 Kd.S_mono (Kd.S_grown (Kd.S_types h hb ht) hg (fun k hk e=>hk.2 (by injection e))) (fun _ _=>trivial)
theorem R_keep1 {α:Type} {d:Kd α} {e base g t:Nat} {w W:World} {v:Value} {xs:List α} {cells:Array Value} (h:d.R e w base (fun _=>True) v xs) (hb:w.heap[g]? = some (.cells cells t (0,0))) (ht:∀ q,q ∈ e::d.E->q≠t) (hg:w.grownBy W (some g)):d.R e W base (fun _=>True) v xs:=
 Kd.R_mono (Kd.R_grown (Kd.R_types h hb ht) hg (fun k hk e=>hk.2 (by injection e))) (fun _ _=>trivial)
theorem LpI.below {w w3 wr w':World} {r xb bb i:Nat} {sa sb size bat be:Int} {Lr:List (List Wd)} {R:Int × Int × List Tk × Int × Int} {acc:List Tk} {v:Value} (h:LpI w w3 r xb bb sa sb size Lr R i acc bat be v wr) (hb:Below wr.heap.size wr w'):LpI w w3 r xb bb sa sb size Lr R i acc bat be v w':=by
 have l1:=lt_of_block h.1;have l2:=lt_of_block h.2.1;have l3:=lt_of_block h.2.2.2.1;exact⟨(hb.block _ l1).trans h.1,(hb.block _ l2).trans h.2.1,h.2.2.1.trans (hb.mono (by omega)),(hb.block _ l3).trans h.2.2.2.1,h.2.2.2.2.1.trans (hb.mono (by omega)),Kd.S_below h.2.2.2.2.2.1 hb,h.2.2.2.2.2.2⟩
theorem LpI.drew {w w3 wr:World} {r xb bb i:Nat} {sa sb size bat be:Int} {Lr:List (List Wd)} {R:Int × Int × List Tk × Int × Int} {acc:List Tk} {v:Value} (h:LpI w w3 r xb bb sa sb size Lr R i acc bat be v wr):LpI w w3 r xb bb sa sb size Lr R i acc bat be v wr.drew:=
 ⟨h.1,h.2.1,h.2.2.1.drew,h.2.2.2.1,h.2.2.2.2.1.drew,Kd.S_below h.2.2.2.2.2.1 (bR9 _ _).drew,h.2.2.2.2.2.2⟩
theorem LpI.put {w w3 wr W:World} {r xb bb i i':Nat} {sa sb size bat be bat' be':Int} {Lr:List (List Wd)} {R R':Int × Int × List Tk × Int × Int} {acc:List Tk} {v:Value} (h:LpI w w3 r xb bb sa sb size Lr R i acc bat be v wr) (hr:r<xb) (hx:xb<bb) (hg:wr.grownBy W (some bb))
  (hbb:W.heap[bb]? = some (.cells #[.int .i64 bat',.int .i64 be'] 120 (0,0))) (hi:acc.length<=i') (hst:(be' = 0/\R' = goP sa sb size acc (Lr.drop i'))\/(be'≠0/\R' = (0,0,[],bat',be'))):LpI w w3 r xb bb sa sb size Lr R' i' acc bat' be' v W:=by
 have l1:=lt_of_block h.1;have l2:=lt_of_block h.2.1;have l3:=lt_of_block h.2.2.2.1;exact⟨(hg.block _ l1 (fun e=>by injection e with e;omega)).trans h.1,hbb,qat h.2.2.1 hg (by omega) (by omega),(hg.block _ l3 (fun e=>by injection e with e;omega)).trans h.2.2.2.1,qat h.2.2.2.2.1 hg (by omega) (by omega),S_keep1 h.2.2.2.2.2.1 h.2.1 (by decide) hg,h.2.2.2.2.2.2.1,hi,hst⟩
theorem LpI.app {w w3 W2 w9:World} {r xb bb i:Nat} {sa sb size bat be:Int} {Lr:List (List Wd)} {R:Int × Int × List Tk × Int × Int} {acc:List Tk} {x:Tk} {v v1:Value} (h:LpI w w3 r xb bb sa sb size Lr R i acc bat be v W2) (hr:r<xb) (hx:xb<bb)
  (hR1:Kd.S kTk 58 w9 xb (fun _=>True) v1 (acc++[x])) (hg:W2.grownBy w9 v.ownBlock) (hB:Below xb w3 w9) (hbx:x.ch.length<=4000000/\x.us.length<=4000000/\x.c<=9223372036854775807) :
  LpI w w3 r xb bb sa sb size Lr (goP sa sb size (acc++[x]) (Lr.drop (i+1))) (i+1) (acc++[x]) bat 0 v1 (w9.setCell ⟨xb,2,none⟩ v1)\/be≠0:=by
 by_cases hbe:be=0;rotate_left
 .exact .inr hbe
 subst hbe;refine .inl ?_;have l1:=lt_of_block h.1;have l2:=lt_of_block h.2.1;have l3:=lt_of_block h.2.2.2.1;obtain⟨inner,hown⟩:=Kd.S_own h.2.2.2.2.2.1;have hv:∀ k,v.ownBlock=some k->xb<=k/\k<W2.heap.size:=hown.lt;have g1:=(hg.block xb l1 (Kd.S_ne h.2.2.2.2.2.1 h.1 (by decide))).trans h.1;have g2:=(hg.block bb l2 (Kd.S_ne h.2.2.2.2.2.1 h.2.1 (by decide))).trans h.2.1;have g3:=(hg.block r l3 (Kd.S_ne h.2.2.2.2.2.1 h.2.2.2.1 (by decide))).trans h.2.2.2.1;have hBr:Below r w w9:=⟨hg.os.trans h.2.2.1.os,hg.tape.trans h.2.2.1.tape,hg.output.trans h.2.2.1.output,Nat.le_trans h.2.2.1.size hg.size,fun j hj=>(hg.block j (by omega) (fun e=>by have:=hv j e.symm;omega)).trans (h.2.2.1.block j hj)⟩;have hs:=qaA w9 xb 2 v1;have l19:=lt_of_block g1;refine⟨blkPut g1 2 v1 (by simp),(hs.block bb (lt_of_block g2) (fun e=>by injection e with e;omega)).trans g2,qat hBr hs (by omega) (by omega),(hs.block r (by have:=lt_of_block g3;omega) (fun e=>by injection e with e;omega)).trans g3,qat hB hs (by omega) (nR9 _),S_keep1 hR1 g1 (by decide) hs,fun y hy=>?_,by have:=h.2.2.2.2.2.2.2.1;simp;omega,.inl ⟨rfl,rfl⟩⟩;rcases List.mem_append.1 hy with hy|hy
 .exact h.2.2.2.2.2.2.1 y hy
 .rw [List.mem_singleton.1 hy];exact hbx
theorem R_numsOk {w:World} {base:Nat} {e:TypeId} {v:Value} {L:List Int} {ok:Nat->Prop} (h:w.ownsRow base e 1 v L.length (L.map (Value.int .i64))) (hok:∀ k,v.ownBlock=some k->ok k):Kd.R (Kd.int .i64) e w base ok v L:=
 ⟨hok,L.map (Value.int .i64),h,by
  have:=Kd.reps_scalar (enc:=Value.int .i64) L
  exact this.imp_ (fun _ _ h=>h)⟩
def PspS (w:World) (R:Int × Int × List Tk × Int × Int) (e:Ending) (w':World):Prop:=
 (∃ v,e=.returned (.tuple #[.agg #[.int .i64 R.1,.int .i64 R.2.1,v],.int .i64 R.2.2.2.1,.int .i64 R.2.2.2.2])/\Kd.S kTk 58 w' w.heap.size (fun _=>True) v R.2.2.1)/\Below w.heap.size w w'
theorem parse_anyS (s:ByteArray) (hs:s.size<=65536) (m:Int) (w:World) (hm:w.cell? ⟨0,0,none⟩=some (.int .i64 m)) :
  Calls Tryz.prog 27 #[.string s] w fun e w'=>PspS w (parseP s) e w':=by
 have hmf:∀ (fn:Fn) (first cap:Array Value) (w:World),(Instr.makeFunc fn first cap).run Tryz.prog w=.ok (.func fn first cap) w:=fun _ _ _ _=>rfl
 have hN:=textW_len s;have hLL:=lns_len (textW s);have hEE:=lns_each' (textW s);have hWW:=lns_words (textW s) (fun x hx=>(text_bd s x hx).1.1);have hTT:=lns_texts s hs;have hb0:=(bR9 w.heap.size w).alloc (nR9 _) (.cells #[.int .i64 0,.int .i64 0,.slice none 0 0] 37);have hn0:=heap_alloc_new w (.cells #[.int .i64 0,.int .i64 0,.slice none 0 0] 37);have hz0:=qaF w (.cells #[.int .i64 0,.int .i64 0,.slice none 0 0] 37);have hlm:=qaM hm;have H1:=hI9 (lexLines_cap s hs m _ ((hb0.cell (p:=⟨0,0,none⟩) hlm).trans hm));have HM:=hI9 hm;obtain⟨R,hR⟩:∃ z,z=parseP s:=⟨_,rfl⟩;rw [<- hR];unfold parseP at hR;generalize lns (textW s)=Ls at *
 obtain⟨n,hn⟩:∃ z,Ls.length=z:=⟨_,rfl⟩;rw [hn] at H1 hLL;have HN:=hI9 hn;have HE:=hI9 (And.intro hEE (And.intro hWW hTT));have HR:=hI9 hR;clear hn hEE hWW hTT hR hm;generalize (textW s).length=nt at *
 go_enter Tryz.func27,Tryz.ntmps27;go_upto_region 1 with (fail)
 generalize w.alloc (.cells #[.int .i64 0,.int .i64 0,.slice none 0 0] 37)=w0 at hb0 hn0 hz0 H1 ⊢;obtain⟨r,hr⟩:∃ z,w.heap.size=z:=⟨_,rfl⟩;rw [hr] at hb0 hn0 hz0 hlm ⊢;go_upto_region 2 with (go_at_call 25;refine H1.out.mono ?_;rintro e w1 ⟨⟨A1,c1,rfl,r1,hcap⟩,hb1⟩;have HCAP:=hI9 hcap;clear hcap)
 have hb2:=(hb0.trans (hb1.mono (by omega))).alloc (by have:=hb1.size;omega) (.cells #[.slice A1 n c1] 74);have hl2:=heap_alloc_new w1 (.cells #[.slice A1 n c1] 74);have hz2:=qaF w1 (.cells #[.slice A1 n c1] 74);have ha2:=(bR9 w1.heap.size w1).alloc (nR9 _) (.cells #[.slice A1 n c1] 74);have hs1:=hb1.size;have hr2:=(ha2.block r (by omega)).trans ((hb1.block r (by omega)).trans hn0);have r2:=r1.below ha2 (nR9 _);generalize w1.alloc (.cells #[.slice A1 n c1] 74)=w2 at hb2 hl2 hz2 hr2 r2 ⊢;obtain⟨lb,hlb⟩:∃ z,w1.heap.size=z:=⟨_,rfl⟩;rw [hlb] at hl2 hz2 r2 hs1 ⊢;have hrl:r<lb:=by omega
 have l0:=cell_of_row w2 lb 0 _ _ _ hl2;simp at l0;clear ha2 r1 hb1 hlb H1 hb0 hn0 hz0 hs1;by_cases h0:n=0
 .subst h0;have HE0:Hid (R=(0,0,[],(s.size:Int),10)):=hI9 (by rw [HR.out,List.eq_nil_of_length_eq_zero HN.out]);have q0:=cell_of_row w2 r 0 _ _ _ hr2;have q1:=cell_of_row w2 r 1 _ _ _ hr2;have q2:=cell_of_row w2 r 2 _ _ _ hr2;have hz:∀ i,w2.frozen? ⟨r,i,none⟩=false:=fun i=>by simp [World.frozen?,hr2]
  have HX:=hI9 (And.intro hb2 hr2);clear hr2 hb2 hl2 r2;simp at q0 q1 q2;go_wp2;obtain⟨s1,s2⟩:=qbf HX.out.2 (.int .i64 0) (.int .i64 0) (.slice none 0 0);generalize ((w2.setCell ⟨r,0,none⟩ (.int .i64 0)).setCell ⟨r,1,none⟩ (.int .i64 0)).setCell ⟨r,2,none⟩ (.slice none 0 0)=W at s1 s2 ⊢;have hB:=qat HX.out.1 s2 (by have:=lt_of_block HX.out.2;omega) (nR9 _);refine parse_ret (r:=r) (v3:=.int .i64 s.size) (v4:=.int .i64 10) (by simp) (by simp) (by simp) s1 ?_;rw [HE0.out];exact⟨⟨_,rfl,Kd.S_nil _ _ _ _ _⟩,by rw [hr];exact hB⟩
 have hpos:0<n:=by omega
 have hne:((n:Int) == 0)=false:=by simpa using h0
 go_upto_region 5 with (fail)
 have hx3:=heap_alloc_new w2 (.cells #[.int .i64 0,.int .i64 0,.slice none 0 0] 37);have ha3:=(bR9 w2.heap.size w2).alloc (nR9 _) (.cells #[.int .i64 0,.int .i64 0,.slice none 0 0] 37);have hz3:=qaF w2 (.cells #[.int .i64 0,.int .i64 0,.slice none 0 0] 37);have hb3:=hb2.trans (ha3.mono (by omega));have hr3:=(ha3.block r (by omega)).trans hr2;have r3:=r2.below ha3 (by omega);have l3:=(ha3.cell (p:=⟨lb,0,none⟩) (by show lb<_;omega)).trans l0;generalize w2.alloc (.cells #[.int .i64 0,.int .i64 0,.slice none 0 0] 37)=w3 at hx3 hz3 hb3 hr3 r3 l3 ⊢;obtain⟨xb,hxb⟩:∃ z,lb+1=z:=⟨_,rfl⟩;rw [hz2,hxb] at hx3 hz3;rw [hxb] at hz2 ⊢;have hlx:lb<xb:=by omega
 clear ha3 r2 hr2 hb2 hl2 hxb l0;obtain⟨bA,oA,rfl,hltA,hcA⟩:=r3 (by rw [HN.out];exact hpos);obtain⟨La,Lr,rfl⟩:∃ x y,Ls=x::y:=by
  cases Ls with
  |nil=>have:=HN.out;simp at this;omega
  |cons x y=>exact⟨x,y,rfl⟩
 obtain⟨Aw,cw,x0,hrw⟩:=hcA 0 (by simp);simp only [List.getElem_cons_zero,Nat.add_zero] at x0 hrw;have hlenA:=HE.out.1 La List.mem_cons_self;have HH:=hI9 (heads_any lb xb c1 n (some ⟨bA,oA,none⟩) Aw cw La w3 (by omega) l3 hpos ⟨bA,oA,rfl,x0⟩ (hrw.more (by omega)) hx3);have HX:=hI9 (And.intro hb3 (And.intro hr3 (And.intro l3 hcA)));have hHR:Hid (R=match headG La with|.error p=>(0,0,[],p,10)|.ok x=>goP x.1 x.2 s.size [] Lr):=hI9 HR.out;clear hb3 hr3 l3 hcA x0 hrw hx3 HR;generalize headG La=hg at HH hHR;go_upto_region 6 with (go_at_call 57;refine HH.out.mono ?_;rintro e w4 ⟨bat,be,sa,sb,rfl,hx4,hg4,hst⟩)
 have hbb:=heap_alloc_new w4 (.cells #[.int .i64 bat,.int .i64 be] 120);have ha5:=(bR9 w4.heap.size w4).alloc (nR9 _) (.cells #[.int .i64 bat,.int .i64 be] 120);have hz5:=qaF w4 (.cells #[.int .i64 bat,.int .i64 be] 120);have hs4:=hg4.size;have hK:∀ j,j<w3.heap.size->j≠xb->(w4.alloc (.cells #[.int .i64 bat,.int .i64 be] 120)).heap[j]? = w3.heap[j]?:=fun j h h1=>(ha5.block j (by omega)).trans (hg4.block j h (fun e=>by injection e with e;exact h1 e))
 have hx5:=(ha5.block xb (by omega)).trans hx4;have hb5:=(qat HX.out.1 hg4 (by omega) (by omega)).trans (ha5.mono (by omega));generalize w4.alloc (.cells #[.int .i64 bat,.int .i64 be] 120)=w5 at hbb hz5 hK hx5 hb5 ⊢;obtain⟨bb,hbb'⟩:∃ z,w4.heap.size=z:=⟨_,rfl⟩;rw [hbb'] at hbb hz5 hs4 ⊢;have hr5:=(hK r (by omega) (by omega)).trans HX.out.2.1;have hBx:Below xb w3 w5:=⟨(hb5.os).trans HX.out.1.os.symm,hb5.tape.trans HX.out.1.tape.symm,hb5.output.trans HX.out.1.output.symm,by omega,fun j hj=>hK j (by omega) (by omega)⟩;have l5:=(hBx.cell (p:=⟨lb,0,none⟩) hlx).trans HX.out.2.2.1;have hxbb:xb<bb:=by omega
 have HS0:Hid ((be=0/\R=goP sa sb s.size [] Lr)\/(be≠0/\R=(0,0,[],bat,be))):=hI9 (by
  have h:=hHR.out;cases hg with
  |error p=>obtain⟨rfl,rfl⟩:=hst;exact .inr ⟨by decide,h⟩
  |ok x=>obtain⟨rfl,rfl,rfl⟩:=hst;exact .inl ⟨rfl,h⟩)
 have HY:=hI9 (And.intro hx5 (And.intro hbb (And.intro hb5 (And.intro hr5 hBx))));have HC:=hI9 HX.out.2.2.2;clear hx5 hbb hb5 hr5 hBx hK ha5 hg4 hx4 hst hHR HH HX;obtain⟨N1,hN1⟩:∃ z,Lr.length=z:=⟨_,rfl⟩;obtain rfl:n=N1+1:=by have:=HN.out;simp at this;omega
 have HL1:=hI9 hN1;clear hN1 HN h0 hne;have hl64:N1+1<=70000:=by omega
 have HI0:LpI w w3 r xb bb sa sb s.size Lr R 0 [] bat be (.slice none 0 0) w5:=⟨HY.out.1,HY.out.2.1,HY.out.2.2.1,HY.out.2.2.2.1,HY.out.2.2.2.2,Kd.S_nil _ _ _ _ _,fun x hx=>by (cases hx),nR9 _,HS0.out⟩;have HI1:=hI9 HI0;clear HI0 HY HS0;go_wp2;go_wp2;rotate_left
 .have hN0:True:=trivial;go_loopw [26] (fun v26 wr=>∃ (i:Nat) (acc:List Tk) (bat be:Int) (v:Value),v26=.int .i64 i/\i<=N1/\Hid (LpI w w3 r xb bb sa sb s.size Lr R i acc bat be v wr)) (fun v26 _=>N1 - (RowKit.intOf v26).toNat)
  case atStart=>exact⟨0,[],bat,be,_,rfl,Nat.zero_le _,HI1⟩
  case round=>
   clear HI1;obtain⟨i,acc,bat,be,v,rfl,hi,hI⟩:=hrel;have g0:=cell_of_row wr bb 0 _ _ _ hI.out.2.1;have g1:=cell_of_row wr bb 1 _ _ _ hI.out.2.1;have x0:=cell_of_row wr xb 0 _ _ _ hI.out.1;have x1:=cell_of_row wr xb 1 _ _ _ hI.out.1;have x2:=cell_of_row wr xb 2 _ _ _ hI.out.1;have nb:¬ r=bb:=by omega
   have nb':¬ bb=r:=by omega
   have nx:¬ xb=bb:=by omega
   have nx':¬ bb=xb:=by omega
   simp at g0 g1 x0 x1 x2;by_cases hbe:be=0;rotate_left
   .by_cases hin:i<N1
    .obtain⟨Ai,ci,y0,y1⟩:=HC.out (i+1) (by have:=HL1.out;simp only [List.length_cons];omega);simp only [List.getElem_cons_succ] at y0 y1;have hil:i<Lr.length:=by rw [HL1.out];exact hin
     have hdrop:Lr.drop i=Lr[i]::Lr.drop (i+1):=List.drop_eq_getElem_cons hil;have hmem:Lr[i] ∈ La::Lr:=List.mem_cons_of_mem _ (List.getElem_mem hil);have hLa:=HE.out.1 _ hmem;have hLb:=HE.out.2.1 _ hmem;have hLc:=HE.out.2.2 _ hmem;have z0:wr.cell? ⟨bA,oA+1+i,none⟩=some (.slice Ai Lr[i].length ci):=by
      rw [show oA+1+i=oA+(i+1) by omega];exact (hI.out.2.2.2.2.1.cell (p:=⟨bA,oA+(i+1),none⟩) (by show bA<xb;omega)).trans y0
     have z1:=y1.below hI.out.2.2.2.2.1 (by omega);generalize Lr[i]=L at z0 z1 y1 hdrop hLa hLb hLc;clear y0 hmem hil;have hbn:(be == 0)=false:=by simpa using hbe
     have hbn':(be != 0)=true:=by simp [hbe]
     have hRE:Hid (R=(0,0,[],bat,be)):=hI9 (hI.out.2.2.2.2.2.2.2.2.elim (fun h=>absurd h.1 hbe) (fun h=>h.2));have q0:=cell_of_row wr r 0 _ _ _ hI.out.2.2.2.1;have q1:=cell_of_row wr r 1 _ _ _ hI.out.2.2.2.1;have q2:=cell_of_row wr r 2 _ _ _ hI.out.2.2.2.1;have hz:∀ i,wr.frozen? ⟨r,i,none⟩=false:=fun i=>by simp [World.frozen?,hI.out.2.2.2.1]
     simp at q0 q1 q2;go_wp2;go_region_held (fun W=>W.cell? ⟨bb,0,none⟩=some (.int .i64 bat)/\W.cell? ⟨bb,1,none⟩=some (.int .i64 be)) (go_keep) (fail)
     obtain⟨s1,s2⟩:=qbf hI.out.2.2.2.1 (.int .i64 0) (.int .i64 0) (.slice none 0 0);generalize ((wr.setCell ⟨r,0,none⟩ (.int .i64 0)).setCell ⟨r,1,none⟩ (.int .i64 0)).setCell ⟨r,2,none⟩ (.slice none 0 0)=W at s1 s2 ⊢;have hB:=(qat hI.out.2.2.1 s2 (by have:=lt_of_block hI.out.2.2.2.1;omega) (nR9 _)).drew;go_wp2;refine parse_ret (r:=r) (v3:=.int .i64 bat) (v4:=.int .i64 be) (by simp) (by simp) (by simp) s1 ?_;rw [hRE.out];exact⟨⟨_,rfl,Kd.S_nil _ _ _ _ _⟩,by rw [hr];exact hB⟩
    .obtain rfl:i=N1:=by omega
     have hbn:(be == 0)=false:=by simpa using hbe
     have hbn':(be != 0)=true:=by simp [hbe]
     have hRE:Hid (R=(0,0,[],bat,be)):=hI9 (hI.out.2.2.2.2.2.2.2.2.elim (fun h=>absurd h.1 hbe) (fun h=>h.2));have q0:=cell_of_row wr r 0 _ _ _ hI.out.2.2.2.1;have q1:=cell_of_row wr r 1 _ _ _ hI.out.2.2.2.1;have q2:=cell_of_row wr r 2 _ _ _ hI.out.2.2.2.1;have hz:∀ i,wr.frozen? ⟨r,i,none⟩=false:=fun i=>by simp [World.frozen?,hI.out.2.2.2.1]
     simp at q0 q1 q2;go_wp2;go_region_held (fun W=>W.cell? ⟨bb,0,none⟩=some (.int .i64 bat)/\W.cell? ⟨bb,1,none⟩=some (.int .i64 be)) (go_keep) (fail)
     obtain⟨s1,s2⟩:=qbf hI.out.2.2.2.1 (.int .i64 0) (.int .i64 0) (.slice none 0 0);generalize ((wr.setCell ⟨r,0,none⟩ (.int .i64 0)).setCell ⟨r,1,none⟩ (.int .i64 0)).setCell ⟨r,2,none⟩ (.slice none 0 0)=W at s1 s2 ⊢;have hB:=(qat hI.out.2.2.1 s2 (by have:=lt_of_block hI.out.2.2.2.1;omega) (nR9 _)).drew;go_wp2;refine parse_ret (r:=r) (v3:=.int .i64 bat) (v4:=.int .i64 be) (by simp) (by simp) (by simp) s1 ?_;rw [hRE.out];exact⟨⟨_,rfl,Kd.S_nil _ _ _ _ _⟩,by rw [hr];exact hB⟩
   .subst hbe;by_cases hin:i<N1
    .obtain⟨Ai,ci,y0,y1⟩:=HC.out (i+1) (by have:=HL1.out;simp only [List.length_cons];omega);simp only [List.getElem_cons_succ] at y0 y1;have hil:i<Lr.length:=by rw [HL1.out];exact hin
     have hdrop:Lr.drop i=Lr[i]::Lr.drop (i+1):=List.drop_eq_getElem_cons hil;have hmem:Lr[i] ∈ La::Lr:=List.mem_cons_of_mem _ (List.getElem_mem hil);have hLa:=HE.out.1 _ hmem;have hLb:=HE.out.2.1 _ hmem;have hLc:=HE.out.2.2 _ hmem;have z0:wr.cell? ⟨bA,oA+1+i,none⟩=some (.slice Ai Lr[i].length ci):=by
      rw [show oA+1+i=oA+(i+1) by omega];exact (hI.out.2.2.2.2.1.cell (p:=⟨bA,oA+(i+1),none⟩) (by show bA<xb;omega)).trans y0
     have z1:=y1.below hI.out.2.2.2.2.1 (by omega);generalize Lr[i]=L at z0 z1 y1 hdrop hLa hLb hLc;clear y0 hmem hil;have HPL:=hI9 (parseLine_any ci Ai L m wr (by omega) hLc ((hI.out.2.2.1.cell (p:=⟨0,0,none⟩) hlm).trans HM.out) (z1.more (by have:=lt_of_block hI.out.1;omega)));obtain⟨nl,hnl⟩:∃ z,L.length=z:=⟨_,rfl⟩;rw [hnl] at z0 HPL;have HNL:=hI9 (And.intro hnl (And.intro y1 (And.intro hLb (And.intro hLc hdrop))));clear hnl z1 y1 hLb hLc hdrop;cases hT:taskG L with
     |error p=>
      rw [hT] at HPL;have hRE:Hid (R=(0,0,[],p,10)):=hI9 (by
       rcases hI.out.2.2.2.2.2.2.2.2 with h|h
       .rw [h.2,HNL.out.2.2.2.2,goP,hT]
       .exact absurd rfl h.1)
      clear hT;go_upto_region 14 with (go_at_call 60;refine HPL.out.mono ?_;rintro e w2 ⟨rfl,hb2⟩)
      have hI2:=hI.out.below (hb2.trans ((bR9 w2.heap.size w2).alloc (nR9 _) (.cells #[.int .i64 0,.int .i64 0,.int .i64 0,.int .i64 0,.int .i64 0,.slice none 0 0,.slice none 0 0] 58) |>.mono hb2.size));generalize w2.alloc (.cells #[.int .i64 0,.int .i64 0,.int .i64 0,.int .i64 0,.int .i64 0,.slice none 0 0,.slice none 0 0] 58)=W2 at hI2 ⊢;have f0:=cell_of_row W2 bb 0 _ _ _ hI2.2.1;have f1:=cell_of_row W2 bb 1 _ _ _ hI2.2.1;have hz:∀ i,W2.frozen? ⟨bb,i,none⟩=false:=fun i=>by simp [World.frozen?,hI2.2.1]
      have HI2:=hI9 hI2;clear hI2;simp at f0 f1;go_wp2;obtain⟨s1,s2⟩:=two_set HI2.out.2.1 (.int .i64 p) (.int .i64 10);generalize (W2.setCell ⟨bb,0,none⟩ (.int .i64 p)).setCell ⟨bb,1,none⟩ (.int .i64 10)=W at s1 s2 ⊢;have hN:=hI9 (HI2.out.put (i':=i+1) (R':=R) (by omega) hxbb s2 s1 (by have:=HI2.out.2.2.2.2.2.2.2.1;omega) (.inr ⟨by decide,hRE.out⟩));go_roundw
      case rel=>exact⟨i+1,acc,p,10,v,by simp,hin,hN⟩
      case measure=>simp [RowKit.intOf]<;>omega
     |ok x=>
      rw [hT] at HPL;have hRE:Hid (R=if checkE sa sb (acc++[x])=0 then goP sa sb s.size (acc++[x]) (Lr.drop (i+1)) else (0,0,[],wat0 L,checkE sa sb (acc++[x]))):=hI9 (by
       rcases hI.out.2.2.2.2.2.2.2.2 with h|h
       .rw [h.2,HNL.out.2.2.2.2,goP,hT]
       .exact absurd rfl h.1)
      have hbx:=taskG_bounds HNL.out.2.2.2.1 hT;clear hT;obtain⟨xid,xc,xd,xt,xp,xch,xus⟩:=x;go_upto_region 12 with (go_at_call 60;refine HPL.out.mono ?_;rintro e w2 ⟨⟨A5,c5,A6,c6,rfl,o5,o6⟩,hb2⟩)
      have ha2:=(bR9 w2.heap.size w2).alloc (nR9 _) (.cells #[.int .i64 xid,.int .i64 xc,.int .i64 xd,.int .i64 xt,.int .i64 xp,.slice A5 xch.length c5,.slice A6 xus.length c6] 58);have hbW:=hb2.trans (ha2.mono hb2.size);have hI2:=hI.out.below hbW;have ht2:=heap_alloc_new w2 (.cells #[.int .i64 xid,.int .i64 xc,.int .i64 xd,.int .i64 xt,.int .i64 xp,.slice A5 xch.length c5,.slice A6 xus.length c6] 58);have p5:=o5.below ha2;have p6:=o6.below ha2;have hvw:∀ k,v.ownBlock=some k->k<wr.heap.size:=fun k hk=>by
       obtain⟨inner,hown⟩:=Kd.S_own hI.out.2.2.2.2.2.1;exact (hown.lt k hk).2
      generalize w2.alloc (.cells #[.int .i64 xid,.int .i64 xc,.int .i64 xd,.int .i64 xt,.int .i64 xp,.slice A5 xch.length c5,.slice A6 xus.length c6] 58)=W2 at hI2 ht2 p5 p6 hbW ⊢;have n5:(Kd.int .i64).R 2 W2 xb (fun k=>some k≠v.ownBlock/\wr.heap.size<=k) (.slice A5 xch.length c5) xch:=R_numsOk (p5.weaken (by have:=lt_of_block hI.out.1;omega)) (fun k hk=>by have:=(OwnI.nrow p5).2;cases A5 with|none=>simp [Value.ownBlock] at hk|some p=>(simp [Value.ownBlock] at hk;have h1:=this p rfl;exact⟨fun e=>by have h2:=hvw k e.symm;omega,by omega⟩));have n6:(Kd.int .i64).R 3 W2 xb (fun k=>some k≠v.ownBlock/\wr.heap.size<=k) (.slice A6 xus.length c6) xus:=R_numsOk (p6.weaken (by have:=lt_of_block hI.out.1;omega)) (fun k hk=>by have:=(OwnI.nrow p6).2;cases A6 with|none=>simp [Value.ownBlock] at hk|some p=>(simp [Value.ownBlock] at hk;have h1:=this p rfl;exact⟨fun e=>by have h2:=hvw k e.symm;omega,by omega⟩));have HS2:Hid (Kd.S kTk 58 W2 xb (fun k=>True/\¬ (some k≠v.ownBlock/\wr.heap.size<=k)) v acc):=hI9 (Kd.S_mono (Kd.S_old hI.out.2.2.2.2.2.1 hbW) (fun k hk=>⟨trivial,fun h=>by have:=hk.2;have:=h.2;omega⟩));have hMT:=hI9 (kTk_mkM W2 xb (fun k=>some k≠v.ownBlock/\wr.heap.size<=k) ⟨xid,xc,xd,xt,xp,xch,xus⟩ n5 n6);have HB2:=hI9 (And.intro hbx hvw);clear n5 n6 p5 p6 o5 o6 hb2 ha2 hvw hbx hbW;obtain⟨tb,htb⟩:∃ z,w2.heap.size=z:=⟨_,rfl⟩;rw [htb] at ht2 ⊢;have t0:=cell_of_row W2 tb 0 _ _ _ ht2;have t1:=cell_of_row W2 tb 1 _ _ _ ht2;have t2:=cell_of_row W2 tb 2 _ _ _ ht2;have t3:=cell_of_row W2 tb 3 _ _ _ ht2;have t4:=cell_of_row W2 tb 4 _ _ _ ht2;have t5:=cell_of_row W2 tb 5 _ _ _ ht2;have t6:=cell_of_row W2 tb 6 _ _ _ ht2;have x2':=cell_of_row W2 xb 2 _ _ _ hI2.1;have HI2:=hI9 hI2;clear hI2 ht2;simp at t0 t1 t2 t3 t4 t5 t6 x2';have hlx2:xb<W2.heap.size:=lt_of_block HI2.out.1;have hal2:acc.length<=70000:=by have:=HI2.out.2.2.2.2.2.2.2.1;omega
      go_upto_region 13 with (at_builtin;refine Kd.S_append kTk (w0:=w3) xb rfl (.tmp 42) (.tmp 44) 35 58 (.agg #[.int .i64 0,.int .i64 0,.int .i64 0,.int .i64 0,.int .i64 0,.slice none 0 0,.slice none 0 0]) 88 rfl Tryz.underlying35 infoTk rfl (by decide) (by omega) v acc ⟨xid,xc,xd,xt,xp,xch,xus⟩ [.int .i64 xid,.int .i64 xc,.int .i64 xd,.int .i64 xt,.int .i64 xp,.slice A5 xch.length c5,.slice A6 xus.length c6] (fun _=>True) (fun k=>some k≠v.ownBlock/\wr.heap.size<=k) rfl rfl hMT.out (fun k hk=>⟨trivial,hk.1⟩) (fun _ _=>trivial) HS2.out HI2.out.2.2.2.2.1 (by omega) (by omega) ?_;intro v1 w9 ho9 hb9 hg9 _;obtain⟨A7,c7,rfl⟩:=Kd.S_slice ho9;have hx9:=(hg9.block xb (lt_of_block HI2.out.1) (Kd.S_ne HI2.out.2.2.2.2.2.1 HI2.out.1 (by decide))).trans HI2.out.1;have e2:=cell_of_row w9 xb 2 _ _ _ hx9;have hz9:w9.frozen? ⟨xb,2,none⟩=false:=(by simp [World.frozen?,hx9]);have HA9:=hI9 ((HI2.out.app (by omega) hxbb ho9 hg9 hb9 HB2.out.1).elim id (fun h=>absurd rfl h));clear ho9 hb9 hg9 hx9;simp at e2;generalize hl7:(acc++[(⟨xid,xc,xd,xt,xp,xch,xus⟩:Tk)]).length=l7 at HA9 ⊢;have HL7:=hI9 hl7;clear hl7)
      generalize w9.setCell ⟨xb,2,none⟩ (.slice A7 l7 c7)=W3 at HA9 ⊢;clear e2 hz9 t0 t1 t2 t3 t4 t5 t6 x2' HI2 hMT HB2 htb;generalize hacc':acc++[(⟨xid,xc,xd,xt,xp,xch,xus⟩:Tk)]=acc' at HL7 HA9 hRE;clear hacc';have k0:=cell_of_row W3 xb 0 _ _ _ HA9.out.1;have k1:=cell_of_row W3 xb 1 _ _ _ HA9.out.1;have k2:=cell_of_row W3 xb 2 _ _ _ HA9.out.1;have hlx3:=lt_of_block HA9.out.1;obtain⟨bi,oi,rfl,hlti,fi⟩:=(HNL.out.2.1.below HA9.out.2.2.2.2.1 (by omega)) (by have:=HNL.out.2.2.1.1;cases L with|nil=>exact absurd rfl this|cons _ _=>simp);obtain⟨Lx,Ly,rfl⟩:∃ x y,L=x::y:=by
       have:=HNL.out.2.2.1.1;cases L with
       |nil=>exact absurd rfl this
       |cons x y=>exact⟨x,y,rfl⟩
      have m0:=(fi 0 (by simp)).1;simp only [Nat.zero_mul,Nat.add_zero,List.getElem_cons_zero] at m0;have hWP:Hid (wat0 (Lx::Ly)=Lx.p):=hI9 rfl;generalize Lx.p=px at m0 hWP;clear fi;have hnl0:0<nl:=by rw [<- HNL.out.1];simp
      have HCK:=hI9 (check_any sa sb A7 c7 acc' W3.drew (by have:=HA9.out.2.2.2.2.2.2.2.1;omega) HA9.out.2.2.2.2.2.2.1 (tkrow_of_C (w:=W3.drew) (by
       obtain⟨A8,c8,e8,_,h8⟩:=Kd.S_reads HA9.out.2.2.2.2.2.1;injection e8 with e1 _ _
       rw [e1]
       exact h8)))
      rw [HL7.out] at HCK;generalize checkE sa sb acc' = E at HCK hRE;simp at k0 k1 k2;have hbi:bi<W3.heap.size:=by omega
      go_region_held (fun W=>W.cell? ⟨bi,oi,none⟩=some (.int .i64 px)/\W.cell? ⟨xb,0,none⟩=some (.int .i64 sa)/\W.cell? ⟨xb,1,none⟩=some (.int .i64 sb)/\W.cell? ⟨xb,2,none⟩=some (.slice A7 l7 c7)) (go_keep) (first|(go_at_call 61;refine HCK.out.mono ?_;rintro e w11 ⟨rfl,hb11⟩;have j0:=(hb11.cell (p:=⟨xb,0,none⟩) hlx3).trans k0;have j1:=(hb11.cell (p:=⟨xb,1,none⟩) hlx3).trans k1;have j2:=(hb11.cell (p:=⟨xb,2,none⟩) hlx3).trans k2;have j3:=(hb11.cell (p:=⟨bi,oi,none⟩) hbi).trans m0;have HB11:=hI9 hb11;clear hb11))
      have hI11:=HA9.out.drew.below HB11.out;have f0:=cell_of_row w11 bb 0 _ _ _ hI11.2.1;have f1:=cell_of_row w11 bb 1 _ _ _ hI11.2.1;have hz:∀ i,w11.frozen? ⟨bb,i,none⟩=false:=fun i=>by simp [World.frozen?,hI11.2.1]
      have HI11:=hI9 hI11;have HLE:=hI9 hI11.2.2.2.2.2.2.2.1;clear hI11;simp at f0 f1;go_wp2;obtain⟨s1,s2⟩:=two_set HI11.out.2.1 (.int .i64 px) (.int .i64 E);generalize (w11.setCell ⟨bb,0,none⟩ (.int .i64 px)).setCell ⟨bb,1,none⟩ (.int .i64 E)=W at s1 s2 ⊢;have hN:=hI9 (HI11.out.put (i':=i+1) (R':=R) (by omega) hxbb s2 s1 HLE.out (by
       have h:=hRE.out;by_cases hE0:E=0
       .rw [if_pos hE0] at h;exact .inl ⟨hE0,h⟩
       .rw [if_neg hE0,hWP.out] at h;exact .inr ⟨hE0,h⟩))
      go_roundw
      case rel=>exact⟨i+1,acc',px,E,.slice A7 l7 c7,by simp,hin,hN⟩
      case measure=>simp [RowKit.intOf]<;>omega
    .obtain rfl:i=N1:=by omega
     obtain⟨Av,cv,rfl⟩:=Kd.S_slice hI.out.2.2.2.2.2.1;have hR0:Hid (R=if acc.length=0 then (0,0,[],(s.size:Int),1) else (sa,sb,acc,(s.size:Int),0)):=hI9 (by
      rcases hI.out.2.2.2.2.2.2.2.2 with h|h
      .rw [h.2,List.drop_eq_nil_of_le (by rw [HL1.out];exact nR9 _)];rfl
      .exact absurd rfl h.1)
     have q0:=cell_of_row wr r 0 _ _ _ hI.out.2.2.2.1;have q1:=cell_of_row wr r 1 _ _ _ hI.out.2.2.2.1;have q2:=cell_of_row wr r 2 _ _ _ hI.out.2.2.2.1;have hz:∀ i,wr.frozen? ⟨r,i,none⟩=false:=fun i=>by simp [World.frozen?,hI.out.2.2.2.1]
     simp at q0 q1 q2;obtain⟨la,hla⟩:∃ z,acc.length=z:=⟨_,rfl⟩;have HLA:=hI9 hla;rw [hla] at x2;have hll:la<=70000:=by have:=hI.out.2.2.2.2.2.2.2.1;omega
     by_cases hl0:la=0
     .have hle:((la:Int) == 0)=true:=by simp [hl0]
      have hRE:Hid (R=(0,0,[],(s.size:Int),1)):=hI9 (by rw [hR0.out,if_pos (by rw [HLA.out];exact hl0)]);clear hl0 hla;go_wp2;obtain⟨s1,s2⟩:=qbf hI.out.2.2.2.1 (.int .i64 0) (.int .i64 0) (.slice none 0 0);generalize ((wr.setCell ⟨r,0,none⟩ (.int .i64 0)).setCell ⟨r,1,none⟩ (.int .i64 0)).setCell ⟨r,2,none⟩ (.slice none 0 0)=W at s1 s2 ⊢;have hB:=qat hI.out.2.2.1 s2 (by have:=lt_of_block hI.out.2.2.2.1;omega) (nR9 _);refine parse_ret (r:=r) (v3:=.int .i64 s.size) (v4:=.int .i64 1) (by simp) (by simp) (by simp) s1 ?_;rw [hRE.out];exact⟨⟨_,rfl,Kd.S_nil _ _ _ _ _⟩,by rw [hr];exact hB⟩
     .have hle:((la:Int) == 0)=false:=by simpa using hl0
      have hRE:Hid (R=(sa,sb,acc,(s.size:Int),0)):=hI9 (by rw [hR0.out,if_neg (by rw [HLA.out];exact hl0)]);clear hla;go_wp2;obtain⟨s1,s2⟩:=qbf hI.out.2.2.2.1 (.int .i64 sa) (.int .i64 sb) (.slice Av la cv);generalize ((wr.setCell ⟨r,0,none⟩ (.int .i64 sa)).setCell ⟨r,1,none⟩ (.int .i64 sb)).setCell ⟨r,2,none⟩ (.slice Av la cv)=W at s1 s2 ⊢;have hB:=qat hI.out.2.2.1 s2 (by have:=lt_of_block hI.out.2.2.2.1;omega) (nR9 _);have hRk:=S_keep1 hI.out.2.2.2.2.2.1 hI.out.2.2.2.1 (by decide) s2;refine parse_ret (r:=r) (v3:=.int .i64 s.size) (v4:=.int .i64 0) (by simp) (by simp) (by simp) s1 ?_;rw [hRE.out];rw [HLA.out] at hRk;exact⟨⟨_,rfl,by rw [hr];exact Kd.S_lower hRk (by omega)⟩,by rw [hr];exact hB⟩
 .have hN0:N1=0:=by have:=HCAP.out;omega
  go_loopw [26] (fun v26 wr=>∃ (i:Nat) (acc:List Tk) (bat be:Int) (v:Value),v26=.int .i64 i/\i<=N1/\Hid (LpI w w3 r xb bb sa sb s.size Lr R i acc bat be v wr)) (fun v26 _=>N1 - (RowKit.intOf v26).toNat)
  case atStart=>exact⟨0,[],bat,be,_,rfl,Nat.zero_le _,HI1⟩
  case round=>
   clear HI1;obtain⟨i,acc,bat,be,v,rfl,hi,hI⟩:=hrel;have g0:=cell_of_row wr bb 0 _ _ _ hI.out.2.1;have g1:=cell_of_row wr bb 1 _ _ _ hI.out.2.1;have x0:=cell_of_row wr xb 0 _ _ _ hI.out.1;have x1:=cell_of_row wr xb 1 _ _ _ hI.out.1;have x2:=cell_of_row wr xb 2 _ _ _ hI.out.1;have nb:¬ r=bb:=by omega
   have nb':¬ bb=r:=by omega
   have nx:¬ xb=bb:=by omega
   have nx':¬ bb=xb:=by omega
   simp at g0 g1 x0 x1 x2;by_cases hbe:be=0;rotate_left
   .by_cases hin:i<N1
    .exact absurd hin (by omega)
    .obtain rfl:i=N1:=by omega
     have hbn:(be == 0)=false:=by simpa using hbe
     have hbn':(be != 0)=true:=by simp [hbe]
     have hRE:Hid (R=(0,0,[],bat,be)):=hI9 (hI.out.2.2.2.2.2.2.2.2.elim (fun h=>absurd h.1 hbe) (fun h=>h.2));have q0:=cell_of_row wr r 0 _ _ _ hI.out.2.2.2.1;have q1:=cell_of_row wr r 1 _ _ _ hI.out.2.2.2.1;have q2:=cell_of_row wr r 2 _ _ _ hI.out.2.2.2.1;have hz:∀ i,wr.frozen? ⟨r,i,none⟩=false:=fun i=>by simp [World.frozen?,hI.out.2.2.2.1]
     simp at q0 q1 q2;go_wp2;go_region_held (fun W=>W.cell? ⟨bb,0,none⟩=some (.int .i64 bat)/\W.cell? ⟨bb,1,none⟩=some (.int .i64 be)) (go_keep) (fail)
     obtain⟨s1,s2⟩:=qbf hI.out.2.2.2.1 (.int .i64 0) (.int .i64 0) (.slice none 0 0);generalize ((wr.setCell ⟨r,0,none⟩ (.int .i64 0)).setCell ⟨r,1,none⟩ (.int .i64 0)).setCell ⟨r,2,none⟩ (.slice none 0 0)=W at s1 s2 ⊢;have hB:=(qat hI.out.2.2.1 s2 (by have:=lt_of_block hI.out.2.2.2.1;omega) (nR9 _)).drew;go_wp2;refine parse_ret (r:=r) (v3:=.int .i64 bat) (v4:=.int .i64 be) (by simp) (by simp) (by simp) s1 ?_;rw [hRE.out];exact⟨⟨_,rfl,Kd.S_nil _ _ _ _ _⟩,by rw [hr];exact hB⟩
   .subst hbe;by_cases hin:i<N1
    .exact absurd hin (by omega)
    .obtain rfl:i=N1:=by omega
     obtain⟨Av,cv,rfl⟩:=Kd.S_slice hI.out.2.2.2.2.2.1;have hR0:Hid (R=if acc.length=0 then (0,0,[],(s.size:Int),1) else (sa,sb,acc,(s.size:Int),0)):=hI9 (by
      rcases hI.out.2.2.2.2.2.2.2.2 with h|h
      .rw [h.2,List.drop_eq_nil_of_le (by rw [HL1.out];exact nR9 _)];rfl
      .exact absurd rfl h.1)
     have q0:=cell_of_row wr r 0 _ _ _ hI.out.2.2.2.1;have q1:=cell_of_row wr r 1 _ _ _ hI.out.2.2.2.1;have q2:=cell_of_row wr r 2 _ _ _ hI.out.2.2.2.1;have hz:∀ i,wr.frozen? ⟨r,i,none⟩=false:=fun i=>by simp [World.frozen?,hI.out.2.2.2.1]
     simp at q0 q1 q2;obtain⟨la,hla⟩:∃ z,acc.length=z:=⟨_,rfl⟩;have HLA:=hI9 hla;rw [hla] at x2;have hll:la<=70000:=by have:=hI.out.2.2.2.2.2.2.2.1;omega
     by_cases hl0:la=0
     .have hle:((la:Int) == 0)=true:=by simp [hl0]
      have hRE:Hid (R=(0,0,[],(s.size:Int),1)):=hI9 (by rw [hR0.out,if_pos (by rw [HLA.out];exact hl0)]);clear hl0 hla;go_wp2;obtain⟨s1,s2⟩:=qbf hI.out.2.2.2.1 (.int .i64 0) (.int .i64 0) (.slice none 0 0);generalize ((wr.setCell ⟨r,0,none⟩ (.int .i64 0)).setCell ⟨r,1,none⟩ (.int .i64 0)).setCell ⟨r,2,none⟩ (.slice none 0 0)=W at s1 s2 ⊢;have hB:=qat hI.out.2.2.1 s2 (by have:=lt_of_block hI.out.2.2.2.1;omega) (nR9 _);refine parse_ret (r:=r) (v3:=.int .i64 s.size) (v4:=.int .i64 1) (by simp) (by simp) (by simp) s1 ?_;rw [hRE.out];exact⟨⟨_,rfl,Kd.S_nil _ _ _ _ _⟩,by rw [hr];exact hB⟩
     .have hle:((la:Int) == 0)=false:=by simpa using hl0
      have hRE:Hid (R=(sa,sb,acc,(s.size:Int),0)):=hI9 (by rw [hR0.out,if_neg (by rw [HLA.out];exact hl0)]);clear hla;go_wp2;obtain⟨s1,s2⟩:=qbf hI.out.2.2.2.1 (.int .i64 sa) (.int .i64 sb) (.slice Av la cv);generalize ((wr.setCell ⟨r,0,none⟩ (.int .i64 sa)).setCell ⟨r,1,none⟩ (.int .i64 sb)).setCell ⟨r,2,none⟩ (.slice Av la cv)=W at s1 s2 ⊢;have hB:=qat hI.out.2.2.1 s2 (by have:=lt_of_block hI.out.2.2.2.1;omega) (nR9 _);have hRk:=S_keep1 hI.out.2.2.2.2.2.1 hI.out.2.2.2.1 (by decide) s2;refine parse_ret (r:=r) (v3:=.int .i64 s.size) (v4:=.int .i64 0) (by simp) (by simp) (by simp) s1 ?_;rw [hRE.out];rw [HLA.out] at hRk;exact⟨⟨_,rfl,by rw [hr];exact Kd.S_lower hRk (by omega)⟩,by rw [hr];exact hB⟩
def valueV (x name:ByteArray):ByteArray × ByteArray × Bool:=if (pairV x).1=name then pairV x else (ByteArray.empty,ByteArray.empty,false)
theorem pairV_empty:pairV ByteArray.empty=(ByteArray.empty,ByteArray.empty,false):=pairV_none (fun j=>by show ([]:List UInt8)[j]?≠some 61;simp)
theorem three_cells {W:World} {r:Nat} {t:TypeId} {a0 a1 a2:Value} (hb:W.heap[r]? = some (.cells #[a0,a1,a2] t (0,0))):W.cell? ⟨r,0,none⟩=some a0/\W.cell? ⟨r,1,none⟩=some a1/\W.cell? ⟨r,2,none⟩=some a2/\(∀ i,W.frozen? ⟨r,i,none⟩=false):=by
 refine⟨?_,?_,?_,fun i=>by simp [World.frozen?,hb]⟩<;>simp [World.cell?,hb]
noncomputable def numberR (x name:ByteArray) (most:Int):Int × Bool:=if (valueV x name).2.2=true then numP (valueV x name).2.1 most else (0,false)
def FrG (w wi:World) (r:Nat) (A:Option Addr) (L:List Wd):Prop:=
 Below r w wi/\wi.heap[r]? = some (.cells #[.int .i64 0,.int .i64 0,.int .i64 0,.int .i64 0,.int .i64 0,.slice none 0 0,.slice none 0 0,.int .i64 0,.int .i64 0] 131 (0,0))/\WRow wi r A L/\r<wi.heap.size
theorem FrG.below {w wi w':World} {r:Nat} {A:Option Addr} {L:List Wd} (h:FrG w wi r A L) (hb:Below wi.heap.size wi w'):FrG w w' r A L:=
 ⟨h.1.trans (hb.mono (Nat.le_of_lt h.2.2.2)),(hb.block r h.2.2.2).trans h.2.1,h.2.2.1.below hb (Nat.le_of_lt h.2.2.2),Nat.lt_of_lt_of_le h.2.2.2 hb.size⟩
theorem FrG.alloc {w wi:World} {r:Nat} {A:Option Addr} {L:List Wd} (h:FrG w wi r A L) (o:Obj):FrG w (wi.alloc o) r A L:=h.below ((bR9 _ _).alloc (nR9 _) o)
theorem FrG.drew {w wi:World} {r:Nat} {A:Option Addr} {L:List Wd} (h:FrG w wi r A L):FrG w wi.drew r A L:=h.below (bR9 _ _).drew
theorem FrG.far {w wi w':World} {r s:Nat} {A:Option Addr} {L:List Wd} (h:FrG w wi r A L) (hg:wi.grownBy w' (some s)) (hs:r<s):FrG w w' r A L:=by
 have hl:=h.2.2.2;have hb:Below (r+1) wi w':=⟨hg.os,hg.tape,hg.output,hg.size,fun j hj=>hg.block j (by omega) (fun e=>by injection e with e;omega)⟩;exact⟨h.1.trans (hb.mono (by omega)),(hb.block r (by omega)).trans h.2.1,h.2.2.1.below hb (by omega),Nat.lt_of_lt_of_le h.2.2.2 hb.size⟩
theorem FrG.put {w wi W:World} {r:Nat} {A:Option Addr} {L:List Wd} (h:FrG w wi r A L) (hg:wi.grownBy W (some r)):Below r w W:=qat h.1 hg (Nat.le_of_lt h.2.2.2) (nR9 _)
def nmF:Nat->ByteArray
 |0=>⟨#[99]⟩
 |1=>⟨#[100]⟩
 |2=>⟨#[116]⟩
 |_=>⟨#[112]⟩
def moF (i:Nat):Int:=if i=3 then 99 else 1073741824
noncomputable def avF (L:List Wd) (j i:Nat):Int:=if j<i then (numberR (nextP L (2+j)) (nmF j) (moF j)).1 else 0
theorem four_cells {W:World} {r:Nat} {t:TypeId} {a0 a1 a2 a3:Value} (hb:W.heap[r]? = some (.cells #[a0,a1,a2,a3] t (0,0))):W.cell? ⟨r,0,none⟩=some a0/\W.cell? ⟨r,1,none⟩=some a1/\W.cell? ⟨r,2,none⟩=some a2/\W.cell? ⟨r,3,none⟩=some a3/\(∀ i,W.frozen? ⟨r,i,none⟩=false):=by
 refine⟨?_,?_,?_,?_,fun i=>by simp [World.frozen?,hb]⟩<;>simp [World.cell?,hb]
def LnI (w wi:World) (r ib nb ab:Nat) (A:Option Addr) (L:List Wd) (v0:Int) (i:Nat):Prop:=
 FrG w wi r A L/\wi.heap[ib]? = some (.cells #[.int .i64 v0,.bool true] 128 (0,0))/\wi.heap[nb]? = some (.cells #[.string ⟨#[99]⟩,.string ⟨#[100]⟩,.string ⟨#[116]⟩,.string ⟨#[112]⟩] 166 (0,0)) /\
 wi.heap[ab]? = some (.cells #[.int .i64 (avF L 0 i),.int .i64 (avF L 1 i),.int .i64 (avF L 2 i),.int .i64 (avF L 3 i)] 69 (0,0))/\∀ j,j<i->(numberR (nextP L (2+j)) (nmF j) (moF j)).2=true
theorem LnI.below {w wi w':World} {r ib nb ab:Nat} {A:Option Addr} {L:List Wd} {v0:Int} {i:Nat} (h:LnI w wi r ib nb ab A L v0 i) (hb:Below wi.heap.size wi w'):LnI w w' r ib nb ab A L v0 i:=
 ⟨h.1.below hb,(hb.block _ (lt_of_block h.2.1)).trans h.2.1,(hb.block _ (lt_of_block h.2.2.1)).trans h.2.2.1,(hb.block _ (lt_of_block h.2.2.2.1)).trans h.2.2.2.1,h.2.2.2.2⟩
theorem LnI.name {w wi:World} {r ib nb ab:Nat} {A:Option Addr} {L:List Wd} {v0:Int} {i:Nat} (h:LnI w wi r ib nb ab A L v0 i) (j:Nat) (hj:j<4):wi.cell? ⟨nb,j,none⟩=some (.string (nmF j)):=by
 obtain rfl|rfl|rfl|rfl:j=0\/j=1\/j=2\/j=3:=by omega
 .exact (four_cells h.2.2.1).1
 .exact (four_cells h.2.2.1).2.1
 .exact (four_cells h.2.2.1).2.2.1
 .exact (four_cells h.2.2.1).2.2.2.1
theorem LnI.put {w wi:World} {r ib nb ab:Nat} {A:Option Addr} {L:List Wd} {v0:Int} {i:Nat} (h:LnI w wi r ib nb ab A L v0 i) (hi:i<4) (hr:r<ib) (hib:ib<nb) (hnb:nb<ab) (hok:(numberR (nextP L (2+i)) (nmF i) (moF i)).2=true) :
  LnI w (wi.setCell ⟨ab,i,none⟩ (.int .i64 (numberR (nextP L (2+i)) (nmF i) (moF i)).1)) r ib nb ab A L v0 (i+1):=by
 have hg:=qaA wi ab i (.int .i64 (numberR (nextP L (2+i)) (nmF i) (moF i)).1);refine⟨h.1.far hg (by omega),(hg.block _ (lt_of_block h.2.1) (fun e=>by injection e with e;omega)).trans h.2.1,(hg.block _ (lt_of_block h.2.2.1) (fun e=>by injection e with e;omega)).trans h.2.2.1,?_,fun j hj=>?_⟩
 .refine blkPut h.2.2.2.1 i _ ?_;obtain rfl|rfl|rfl|rfl:i=0\/i=1\/i=2\/i=3:=by omega
  all_goals simp [avF]
 .by_cases hji:j=i
  .rw [hji];exact hok
  .exact h.2.2.2.2 j (by omega)
theorem grown_put {x9 AL w3:World} {tb:Nat} {ob:Option Nat} (h1:x9.grownBy AL (some tb)) (h2:AL.grownBy w3 ob) (hob:∀ k,ob=some k->x9.heap.size<=k) (i:Nat) (u:Value):x9.grownBy (w3.setCell ⟨tb,i,none⟩ u) (some tb):=
 ⟨h2.os.trans h1.os,h2.tape.trans h1.tape,h2.output.trans h1.output,by have a:=h1.size;have b:=h2.size;simp only [World.setCell,Array.size_modify];omega,fun k hk hne=>
  (Below.heap_setCell w3 ⟨tb,i,none⟩ u k (fun e=>hne (by rw [e]))).trans ((h2.block k (Nat.lt_of_lt_of_le hk h1.size) (fun e=>by have:=hob k e.symm;omega)).trans (h1.block k hk hne))⟩
def FrA (w wi:World) (r:Nat):Prop:=Below r w wi/\wi.heap[r]? = some (.cells #[.int .i64 0,.int .i64 0,.slice none 0 0,.int .i64 0,.int .i64 0] 86 (0,0))/\r<wi.heap.size
theorem FrA.below {w wi w':World} {r:Nat} (h:FrA w wi r) (hb:Below wi.heap.size wi w'):FrA w w' r:=
 ⟨h.1.trans (hb.mono (Nat.le_of_lt h.2.2)),(hb.block r h.2.2).trans h.2.1,Nat.lt_of_lt_of_le h.2.2 hb.size⟩
theorem FrA.far {w wi w':World} {r:Nat} (h:FrA w wi r) {ob:Option Nat} (hg:wi.grownBy w' ob) (hs:∀ s,ob=some s->r<s):FrA w w' r:=by
 have hl:=h.2.2;have hb:Below (r+1) wi w':=⟨hg.os,hg.tape,hg.output,hg.size,fun j hj=>hg.block j (by omega) (fun e=>by have:=hs j e.symm;omega)⟩;exact⟨h.1.trans (hb.mono (by omega)),(hb.block r (by omega)).trans h.2.1,Nat.lt_of_lt_of_le h.2.2 hb.size⟩
theorem FrA.put {w wi W:World} {r:Nat} (h:FrA w wi r) (hg:wi.grownBy W (some r)):Below r w W:=qat h.1 hg (Nat.le_of_lt h.2.2) (nR9 _)
def LqI (w w1:World) (r xb:Nat) (sa sb size:Int) (Lr:List (List Wd)) (R:Int × Int × List Tk × Int × Int) (j:Nat) (acc:List Tk) (v:Value) (wr:World):Prop:=
 FrA w wr r/\wr.heap[xb]? = some (.cells #[.int .i64 sa,.int .i64 sb,v] 37 (0,0))/\Below xb w1 wr/\Kd.R kTk 58 wr xb (fun _=>True) v acc /\
 (∀ x ∈ acc,x.ch.length<=4000000/\x.us.length<=4000000/\x.c<=9223372036854775807)/\acc.length<=j/\R=goP sa sb size acc (Lr.drop j)
theorem LqI.below {w w1 wr w':World} {r xb j:Nat} {sa sb size:Int} {Lr:List (List Wd)} {R:Int × Int × List Tk × Int × Int} {acc:List Tk} {v:Value} (h:LqI w w1 r xb sa sb size Lr R j acc v wr) (hb:Below wr.heap.size wr w'):LqI w w1 r xb sa sb size Lr R j acc v w':=by
 have l1:=lt_of_block h.2.1;exact⟨h.1.below hb,(hb.block _ l1).trans h.2.1,h.2.2.1.trans (hb.mono (by omega)),Kd.R_below h.2.2.2.1 hb,h.2.2.2.2⟩
theorem LqI.app {w w1 W2 w9:World} {r xb j:Nat} {sa sb size:Int} {Lr:List (List Wd)} {R:Int × Int × List Tk × Int × Int} {acc:List Tk} {x:Tk} {v v1:Value} (h:LqI w w1 r xb sa sb size Lr R j acc v W2) (hr:r<xb)
  (hR1:Kd.R kTk 58 w9 xb (fun _=>True) v1 (acc++[x])) (hg:W2.grownBy w9 v.ownBlock) (hB:Below xb w1 w9) (hbx:x.ch.length<=4000000/\x.us.length<=4000000/\x.c<=9223372036854775807) :
  LqI w w1 r xb sa sb size Lr (goP sa sb size (acc++[x]) (Lr.drop (j+1))) (j+1) (acc++[x]) v1 (w9.setCell ⟨xb,2,none⟩ v1):=by
 have l1:=lt_of_block h.2.1;obtain⟨inner,hown⟩:=Kd.R_own h.2.2.2.1;have hv:∀ k,v.ownBlock=some k->xb<=k/\k<W2.heap.size:=hown.lt;have g1:=(hg.block xb l1 (Kd.R_ne h.2.2.2.1 h.2.1 (by decide))).trans h.2.1;have hs:=qaA w9 xb 2 v1;have l19:=lt_of_block g1;refine⟨(h.1.far hg (fun s e=>by have:=hv s e;omega)).far hs (fun s e=>by injection e with e;omega),blkPut g1 2 v1 (by simp),qat hB hs (by omega) (nR9 _),R_keep1 hR1 g1 (by decide) hs,fun y hy=>?_,by have:=h.2.2.2.2.2.1;simp;omega,rfl⟩;rcases List.mem_append.1 hy with hy|hy
 .exact h.2.2.2.2.1 y hy
 .rw [List.mem_singleton.1 hy];exact hbx
end Go.Proofs.YtgnaaokhfpfglaaGreatDoor
end
section
namespace Go.Proofs.YtgnaaokhfpfglaaGreatDoor
open Go.RowKit
theorem countP_lt {p q:Nat->Bool}:∀ {l:List Nat} {i:Nat},i ∈ l->p i=true->q i=false->(∀ j,q j=true->p j=true)->l.countP q<l.countP p:=by
 intro l
 induction l with
 |nil=>intro i h;cases h
 |cons a l ih=>
  intro i hi hp hq hqp;rw [List.countP_cons,List.countP_cons];have hle:∀ m:List Nat,m.countP q<=m.countP p:=fun m=>List.countP_mono_left (fun x _ h=>hqp x h)
  rcases List.mem_cons.1 hi with rfl|hi
  .have:=hle l;simp [hp,hq];omega
  .have:=ih hi hp hq hqp;by_cases ha:q a=true
   .simp [ha,hqp a ha];omega
   .simp [ha];omega
def unl (n:Nat) (listed:Array Bool):Nat:=(List.range n).countP fun j=>!listed.getD j true
theorem unl_set {n i:Nat} {listed:Array Bool} (hi:i<n) (h:listed.getD i true=false):unl n (listed.setIfInBounds i true)<unl n listed:=by
 have hsz:i<listed.size:=by
  rcases Nat.lt_or_ge i listed.size with h1|h1
  .exact h1
  .rw [gDe,Array.getElem?_eq_none h1] at h;cases h
 unfold unl;refine countP_lt (i:=i) (List.mem_range.2 hi) (by simp [h]) ?_ ?_
 .simp [gDe,hsz]
 .intro j hj;by_cases e:i=j
  .subst e;simp [gDe,hsz] at hj
  .simpa [gDe,Array.getElem?_setIfInBounds,e] using hj
section
variable {P:Program} {md:Region.Mode} {ops:Array Oper} {Q:Exit->Act->World->Prop}
theorem ready_mem {listed:Array Bool} {i:Nat} (h:i ∈ Region.ready md ops listed):∃ o,ops[i]? = some o/\listed.getD i true=false/\∀ e ∈ o.after,Region.binds md e=true->listed.getD e.on false=true:=by
 unfold Region.ready at h;rw [List.mem_filter,List.mem_range] at h;obtain⟨hi,h⟩:=h;rw [Array.getElem?_eq_getElem hi] at h;simp only [Option.map_some,Option.getD_some,Bool.and_eq_true] at h;refine⟨ops[i],Array.getElem?_eq_getElem hi,by simpa using h.1,fun e he hb=>?_⟩;have:=(Array.all_eq_true_iff_forall_mem.1 h.2) e he
 simpa [hb] using this
theorem none_ready (hac:∀ (i:Nat) o,ops[i]? = some o->∀ e ∈ o.after,e.on<i) {listed:Array Bool} (hs:listed.size=ops.size) (h:Region.ready md ops listed=[]):∀ i,i<ops.size->listed.getD i false=true:=by
 intro i
 induction i using Nat.strongRecOn with
 |ind i ih=>
  intro hi;by_cases hl:listed.getD i false=true
  .exact hl
  .exfalso;have hm:i ∈ Region.ready md ops listed:=by
    unfold Region.ready;rw [List.mem_filter,List.mem_range];refine⟨hi,?_⟩;have hli:i<listed.size:=by omega
    have hf:listed[i]=false:=by
     rw [gDe,Array.getElem?_eq_getElem hli] at hl
     simpa using hl
    rw [Array.getElem?_eq_getElem hi];simp only [Option.map_some,Option.getD_some,Bool.and_eq_true];refine⟨by rw [gDe,Array.getElem?_eq_getElem hli];simp [hf],?_⟩;rw [Array.all_eq_true_iff_forall_mem];intro e he;have h1:=hac i ops[i] (Array.getElem?_eq_getElem hi) e he;rw [ih e.on h1 (by omega)];simp
   rw [h] at hm;cases hm
theorem any_inv (hac:∀ (i:Nat) o,ops[i]? = some o->∀ e ∈ o.after,e.on<i) (I:Array Bool->Act->World->Prop)
  (hstep:∀ i o listed a w,ops[i]? = some o->listed.size=ops.size->listed.getD i true=false->(∀ e ∈ o.after,Region.binds md e=true->listed.getD e.on false=true)->I listed a w->wpOp P ops Q i (I (listed.setIfInBounds i true)) a w)
  (hend:∀ listed a w,(∀ i,i<ops.size->listed.getD i false=true)->I listed a w->Q .normal a w) :
  ∀ (fuel:Nat) (listed:Array Bool) (a:Act) (w:World),listed.size=ops.size->unl ops.size listed<=fuel->I listed a w->wpAny P md ops Q fuel listed a w:=by
 intro fuel
 induction fuel with
 |zero=>
  intro listed a w hs hf hI;have hr:Region.ready md ops listed=[]:=by
   cases hr:Region.ready md ops listed with
   |nil=>rfl
   |cons i r=>
    exfalso;obtain⟨o,ho,hl,_⟩:=ready_mem (i:=i) (md:=md) (ops:=ops) (listed:=listed) (by rw [hr];exact List.mem_cons_self);have:=unl_set (n:=ops.size) (Array.getElem?_eq_some_iff.1 ho).1 hl;omega
  exact⟨hr,hend listed a w (none_ready hac hs hr) hI⟩
 |succ fuel ih=>
  intro listed a w hs hf hI;refine⟨fun hr=>hend listed a w (none_ready hac hs hr) hI,fun i hi=>?_⟩;obtain⟨o,ho,hl,hd⟩:=ready_mem hi;refine wpOp_mono (fun a' w' h'=>?_) (hstep i o listed a w ho hs hl hd hI);have:=unl_set (n:=ops.size) (Array.getElem?_eq_some_iff.1 ho).1 hl;exact ih _ a' w' (by simp [hs]) (by omega) h'
end
def tidyB (N:Nat) (ops:Array Oper):Bool:=
 (List.range ops.size).all fun i=>match ops[i]? with
  |none=>true
  |some o=>o.guard.isNone && o.after.all (fun e=>decide (e.on<i)) && (match o.dst with
   |none=>true
   |some d=>decide (d<N) && (List.range i).all fun j=>match ops[j]? with
    |none=>true
    |some oj=>oj.dst != some d)
theorem tidy_at {N:Nat} {ops:Array Oper} (h:tidyB N ops=true) {i:Nat} {o:Oper} (ho:ops[i]? = some o) :
  o.guard=none/\(∀ e ∈ o.after,e.on<i)/\∀ d,o.dst=some d->d<N/\∀ (j:Nat) oj,j<i->ops[j]? = some oj->oj.dst≠some d:=by
 have hi:=(Array.getElem?_eq_some_iff.1 ho).1;have h1:=List.all_eq_true.1 h i (List.mem_range.2 hi);rw [ho] at h1;simp only [Bool.and_eq_true] at h1;obtain⟨⟨h2,h3⟩,h4⟩:=h1;refine⟨by simpa using h2,fun e he=>by simpa using (Array.all_eq_true_iff_forall_mem.1 h3) e he,fun d hd=>?_⟩;rw [hd] at h4;simp only [Bool.and_eq_true] at h4;refine⟨by simpa using h4.1,fun j oj hj hoj e=>?_⟩;have h5:=List.all_eq_true.1 h4.2 j (List.mem_range.2 hj);rw [hoj] at h5;simp [e] at h5
theorem tidy_one {N:Nat} {ops:Array Oper} (h:tidyB N ops=true) {i j d:Nat} {o oj:Oper} (ho:ops[i]? = some o) (hoj:ops[j]? = some oj) (hd:o.dst=some d) (hdj:oj.dst=some d):i=j:=by
 rcases Nat.lt_trichotomy i j with h1|h1|h1
 .exact absurd hd (((tidy_at h hoj).2.2 d hdj).2 i o h1 ho)
 .exact h1
 .exact absurd hdj (((tidy_at h ho).2.2 d hd).2 j oj h1 hoj)
theorem qaw {ops:Array Oper} {d:Nat} (h:(ops.all fun o=>o.dst != some d)=true):∀ (j:Nat) oj,ops[j]? = some oj->oj.dst≠some d:=by
 intro j oj hj e;obtain⟨hi,rfl⟩:=Array.getElem?_eq_some_iff.1 hj;have:=(Array.all_eq_true.1 h) j hi;rw [e] at this;simp at this
theorem wp_region_facts {P:Program} {ops:Array Oper} {Q:Exit->Act->World->Prop} {id:Nat} {a0:Act} {w0:World} (hm:P.follows .mixedOrders=true) (ht:tidyB a0.tmps.size ops=true)
  (F:Nat->Value->World->Prop) (Kp:World->World->Prop) (hF:∀ i v w w',F i v w->Kp w w'->F i v w') (G:World->Prop) (hG:G w0.drew)
  (hstep:∀ (i:Nat) (o:Oper) (a:Act) (w:World),ops[i]? = some o->a.tmps.size=a0.tmps.size->(∀ d,(∀ (j:Nat) oj,ops[j]? = some oj->oj.dst≠some d)->a.tmps[d]? = a0.tmps[d]?) ->
   (∀ e ∈ o.after,Region.binds .any e=true->∀ oe d,ops[e.on]? = some oe->oe.dst=some d->∃ v,a.tmps[d]? = some v/\F e.on v w)->G w ->
   o.wp P a w (fun a' w'=>∃ v,a' = a.put o.dst v/\F i v w'/\Kp w w'/\G w') Q)
  (hend:∀ (a:Act) (w:World),a.defers=a0.defers->a.tmps.size=a0.tmps.size->(∀ d,(∀ (j:Nat) oj,ops[j]? = some oj->oj.dst≠some d)->a.tmps[d]? = a0.tmps[d]?) ->
   (∀ (i:Nat) o d,ops[i]? = some o->o.dst=some d->∃ v,a.tmps[d]? = some v/\F i v w)->G w->Q .normal a w) :
  (Code.region id ops true).wp P Q a0 w0:=by
 refine wp_region_any hm ?_;refine any_inv (fun i o ho=>(tidy_at ht ho).2.1) (fun listed a w=>a.defers=a0.defers/\a.tmps.size=a0.tmps.size/\(∀ d,(∀ (j:Nat) oj,ops[j]? = some oj->oj.dst≠some d)->a.tmps[d]? = a0.tmps[d]?) /\
  (∀ (i:Nat) o d,ops[i]? = some o->o.dst=some d->listed.getD i false=true->∃ v,a.tmps[d]? = some v/\F i v w)/\G w) ?_ ?_ _ _ _ _ (by simp) ?_ ⟨rfl,rfl,fun _ _=>rfl,?_,hG⟩
 .rintro i o listed a w ho hsz hl hd ⟨i1,i2,i3,i4,i5⟩;obtain⟨g1,g2,g3⟩:=tidy_at ht ho;have hil:i<listed.size:=by rw [hsz];exact (Array.getElem?_eq_some_iff.1 ho).1
  have hw:Region.wanted o (yielded ops a.tmps)=true:=by simp [Region.wanted,g1]
  unfold wpOp;rw [ho];simp only [hw,if_true];refine .inl (Oper.wp_mono ?_ (hstep i o a w ho i2 i3 (fun e he hb oe d hoe hde=>i4 e.on oe d hoe hde (hd e he hb)) i5));rintro a' w' ⟨v,rfl,k1,k2,k3⟩;cases hdst:o.dst with
  |none=>
   refine⟨i1,i2,i3,fun j oj d hoj hdj hlj=>?_,k3⟩;have hji:j≠i:=fun e=>by subst e;rw [ho] at hoj;cases hoj;rw [hdst] at hdj;cases hdj
   obtain⟨u,u1,u2⟩:=i4 j oj d hoj hdj (by simpa [gDe,Array.getElem?_setIfInBounds,Ne.symm hji] using hlj);exact⟨u,u1,hF _ _ _ _ u2 k2⟩
  |some d0=>
   have hd0:=(g3 d0 hdst).1;have hput:(a.put (some d0) v).tmps=a.tmps.setIfInBounds d0 v:=rfl;refine⟨i1,by rw [hput];simp [i2],fun d hn=>?_,fun j oj d hoj hdj hlj=>?_,k3⟩
   .rw [hput,Array.getElem?_setIfInBounds];have:d0≠d:=fun e=>hn i o ho (by rw [hdst,e])
    rw [if_neg this];exact i3 d hn
   .rw [hput,Array.getElem?_setIfInBounds];by_cases hji:j=i
    .subst hji;rw [ho] at hoj;cases hoj;rw [hdst] at hdj;cases hdj;rw [if_pos rfl,if_pos (by rw [i2];exact hd0)];exact⟨v,rfl,k1⟩
    .have hdd:d0≠d:=fun e=>hji (tidy_one ht hoj ho hdj (by rw [hdst,e]))
     rw [if_neg hdd];obtain⟨u,u1,u2⟩:=i4 j oj d hoj hdj (by simpa [gDe,Array.getElem?_setIfInBounds,Ne.symm hji] using hlj);exact⟨u,u1,hF _ _ _ _ u2 k2⟩
 .rintro listed a w hall ⟨i1,i2,i3,i4,i5⟩;exact hend a w i1 i2 i3 (fun i o d ho hd=>i4 i o d ho hd (hall i (Array.getElem?_eq_some_iff.1 ho).1)) i5
 .exact Nat.le_trans List.countP_le_length (by simp)
 .intro i o d _ _ h;exfalso;rw [gDe,Array.getElem?_replicate] at h;split at h<;>simp at h
end Go.Proofs.YtgnaaokhfpfglaaGreatDoor
end
