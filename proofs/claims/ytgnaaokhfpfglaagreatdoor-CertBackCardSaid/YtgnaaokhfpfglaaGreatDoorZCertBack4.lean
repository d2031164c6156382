/- Texts of this claim, one behind the other: HeadM, CrdA, CrdB, WEqStruct, WRepsOne, WInv, WGuard, PCertBack0, KCertBack, PCertBack1, PCertBack2, Sqf, PCertBack3. -/
import Derived.Test.YtgnaaokhfpfglaaGreatDoorZCertBack3
import Derived.Deep.Onto
import Derived.Test.YtgnaaokhfpfglaaGreatDoorZCertBack1
import Derived.Laws.StructEq
import Derived.Test.YtgnaaokhfpfglaaGreatDoorProg
import Derived.Below
import Derived.Deep.Draws
import Derived.Deep.AppendLies
import Derived.Maps.AppendAt
import Derived.OwnWalk
import Derived.Laws.BytesArg
import Derived.Laws.MakeOwn
import Derived.Laws.OwnMore
import Derived.Deep.OwnRows
import Derived.Tactics
import Derived.Lib.ConvBytes
import Derived.Laws.Slices
import Derived.WalkKit
import Derived.KernelRfl
import Derived.RowKit3
import Derived.Deep.LoopGhost
import Derived.Deep.QuietTactic
import Derived.BigQuiet
import Derived.WideLaws
import Derived.Deep.DeepCutAuto
import Derived.Deep.CutBlock
import Derived.Deep.RegionHeld3
import Derived.Laws.Rows
import Derived.Lib.AppendStr
import Derived.ArgAppend
import Derived.Laws.IdiomCopy
import Derived.OrdersHeld
import Derived.Laws.BitsLemmas
import Derived.RowKit
import Derived.Deep.MidRow

set_option maxHeartbeats 8000000
set_option maxRecDepth 100000
set_option linter.unusedVariables false
set_option linter.unusedSimpArgs false
section
namespace Go.Proofs.YtgnaaokhfpfglaaGreatDoor
open Go.RowKit Go.Shelf Go.Lib Go.Proofs.YtgnaaokhfpfglaaGreatDoorW.PrintWords
structure CR where
 s:Int
 r:Int
 L:List Tk
 p:Int
 m:Int
 th:List Int
 q:List Int
 bs:List Bd
 z:Int
 e:Int
noncomputable def crEnd (s:ByteArray):HdEnd->CR
 |.wrong a=>⟨0,0,[],0,0,[],[],[],a,10⟩
 |.none=>⟨0,0,[],0,0,[],[],[],(s.size:Int),10⟩
 |.found a S=>
  if (parseP (s.extract a.toNat s.size)).2.2.2.2=0 then ⟨(parseP (s.extract a.toNat s.size)).1,(parseP (s.extract a.toNat s.size)).2.1,(parseP (s.extract a.toNat s.size)).2.2.1,S.p,S.m,S.th,S.q,S.bs,(s.size:Int),0⟩
  else ⟨0,0,[],0,0,[],[],[],a+(parseP (s.extract a.toNat s.size)).2.2.2.1,(parseP (s.extract a.toNat s.size)).2.2.2.2⟩
noncomputable def parseC (F G:Int->ByteArray) (s:ByteArray):CR:=crEnd s (headGo F G ⟨0,0,[],[],[],0⟩ (lns (textW s)))
def CPspS (w:World) (R:CR) (e:Ending) (w':World):Prop:=
 (∃ B tv thv qv bv,w.heap.size<=B/\e=.returned (.tuple #[.agg #[.int .i64 R.s,.int .i64 R.r,tv,.int .i64 R.p,.int .i64 R.m,thv,qv,bv],.int .i64 R.z,.int .i64 R.e])/\Kd.S kTk 58 w' B (fun _=>True) tv R.L /\
  w'.ownsRow w.heap.size 3 1 thv R.th.length (R.th.map (Value.int .i64))/\(∀ k,thv.ownBlock=some k->k<B)/\Kd.R (Kd.int .i64) 2 w' w.heap.size (fun k=>k<B) qv R.q/\w'.ownsRow w.heap.size 60 4 bv R.bs.length (R.bs.flatMap bdCells)/\∀ k,bv.ownBlock=some k->k<B)/\Below w.heap.size w w'
theorem sys_set {w:World} {g:Nat} {p m st:Int} {tv qv bv:Value} (h:HdAt w g p m tv qv bv st) (b0 b1 b2:Value) :
  (((w.setCell ⟨g,0,none⟩ b0).setCell ⟨g,1,none⟩ b1).setCell ⟨g,2,none⟩ b2).heap[g]? = some (.cells #[b0,b1,b2,.int .i64 p,.int .i64 m,tv,qv,bv,.int .i64 st] 73 (0,0)) /\
  w.grownBy (((w.setCell ⟨g,0,none⟩ b0).setCell ⟨g,1,none⟩ b1).setCell ⟨g,2,none⟩ b2) (some g):=
 ⟨blkPut (blkPut (blkPut h 0 b0 (cs':=#[b0,.int .i64 0,.slice none 0 0,.int .i64 p,.int .i64 m,tv,qv,bv,.int .i64 st]) (by simp)) 1 b1 (cs':=#[b0,b1,.slice none 0 0,.int .i64 p,.int .i64 m,tv,qv,bv,.int .i64 st]) (by simp)) 2 b2 (cs':=#[b0,b1,b2,.int .i64 p,.int .i64 m,tv,qv,bv,.int .i64 st]) (by simp),
  qak (qak (qaA _ _ _ _) (qaA _ _ _ _)) (qaA _ _ _ _)⟩
theorem own_form {w:World} {base:Nat} {e:TypeId} {size n:Nat} {v:Value} {xs:List Value} (h:w.ownsRow base e size v n xs):∃ A l c,v=.slice A l c:=by
 rcases h.2 with ⟨h1,_⟩|⟨g,cap,cur,h1,_⟩<;>exact⟨_,_,_,h1⟩
theorem cpost_good {w w2 wr w7 w8 W:World} {r g:Nat} {sa sb p m st z:Int} {tv tth tq tbs:Value} {TL:List Tk} {th q:List Int} {bs:List Bd} (hr:w.heap.size=r) (hrg:r<g) (hg2:g<w2.heap.size) (hF1:Below r w w2) (hF2:w2.grownBy wr (some g))
  (hth:wr.ownsRow w2.heap.size 3 1 tth th.length (th.map (Value.int .i64))) (hq:Kd.R (Kd.int .i64) 2 wr w2.heap.size (fun _=>True) tq q) (hbs:wr.ownsRow w2.heap.size 60 4 tbs bs.length (bs.flatMap bdCells))
  (hb7:Below wr.heap.size wr w7) (hS7:Kd.S kTk 58 w7 wr.heap.size (fun _=>True) tv TL) (_:w7.heap[r]? = some (.cells #[.int .i64 0,.int .i64 0,.slice none 0 0,.int .i64 0,.int .i64 0,.slice none 0 0,.slice none 0 0,.slice none 0 0] 43 (0,0)))
  (hH:HdAt w7 g p m tth tq tbs st) (s2:w7.grownBy w8 (some g)) (h8:w8.heap[r]? = some (.cells #[.int .i64 0,.int .i64 0,.slice none 0 0,.int .i64 0,.int .i64 0,.slice none 0 0,.slice none 0 0,.slice none 0 0] 43 (0,0))) (t2:w8.grownBy W (some r)) :
  CPspS w ⟨sa,sb,TL,p,m,th,q,bs,z,0⟩ (.returned (.tuple #[.agg #[.int .i64 sa,.int .i64 sb,tv,.int .i64 p,.int .i64 m,tth,tq,tbs],.int .i64 z,.int .i64 0])) W:=by
 have a1:=hF2.size;have a2:=hb7.size;have a3:=s2.size;have k1:∀ k,wr.heap.size<=k\/r<k/\k<wr.heap.size->k<w7.heap.size->k≠g->W.heap[k]? = w7.heap[k]?:=fun k h h1 h2=>(t2.block k (by omega) (fun e=>by have:=Option.some.inj e;omega)).trans (s2.block k h1 (fun e=>h2 (Option.some.inj e)))
 have k2:∀ k,k<wr.heap.size->r<k->k≠g->W.heap[k]? = wr.heap[k]?:=fun k h1 h2 h3=>(k1 k (.inr ⟨h2,h1⟩) (by omega) h3).trans (hb7.block k h1)
 refine⟨⟨wr.heap.size,tv,tth,tq,tbs,by omega,rfl,?_,?_,?_,?_,?_,?_⟩,?_⟩
 .exact S_keep1 (S_keep1 hS7 hH (by decide) s2) h8 (by decide) t2
 .exact World.ownsRow.mono (own_move hth (fun k hk=>k2 k (hth.lt k hk).2 (by have:=(hth.lt k hk).1;omega) (by have:=(hth.lt k hk).1;omega))) (by omega)
 .exact fun k hk=>(hth.lt k hk).2
 .exact Kd.R_lower (Kd.R_mono (Kd.R_step (Kd.R_bound hq) (fun k hk hlt=>k2 k hlt (by have:=hk.2.1;omega) (by have:=hk.2.1;omega))) (fun k hk=>hk.2.2.1)) (by omega)
 .exact World.ownsRow.mono (own_move hbs (fun k hk=>k2 k (hbs.lt k hk).2 (by have:=(hbs.lt k hk).1;omega) (by have:=(hbs.lt k hk).1;omega))) (by omega)
 .exact fun k hk=>(hbs.lt k hk).2
 .have b1:=qat hF1 hF2 (by omega) (by omega);have b2:=b1.trans (hb7.mono (by omega));have b3:=qat b2 s2 (by omega) (by omega);rw [hr];exact qat b3 t2 (by omega) (nR9 _)
theorem cpost_bad {w W:World} {r:Nat} {z e:Int} (hr:w.heap.size=r) (hb:Below r w W) :
  CPspS w ⟨0,0,[],0,0,[],[],[],z,e⟩ (.returned (.tuple #[.agg #[.int .i64 0,.int .i64 0,.slice none 0 0,.int .i64 0,.int .i64 0,.slice none 0 0,.slice none 0 0,.slice none 0 0],.int .i64 z,.int .i64 e])) W:=
 ⟨⟨w.heap.size,_,_,_,_,nR9 _,rfl,Kd.S_nil _ _ _ _ _,World.ownsRow_nil _ _ _ _,fun k h=>by (cases h),Kd.R_nil _ _ _ _ _,World.ownsRow_nil _ _ _ _,fun k h=>by (cases h)⟩,by rw [hr];exact hb⟩
theorem cparse_ret {R:Ending->World->Prop} {tmps:Array Value} {W:World} {r:Nat} {t:TypeId} {a0 a1 a2 a3 a4 a5 a6 a7 v3 v4:Value} (ht:tmps[2]?.getD undef=.pointer (some ⟨r,0,none⟩)) (h3:tmps[3]?.getD undef=v3) (h4:tmps[4]?.getD undef=v4) (hb:W.heap[r]? = some (.cells #[a0,a1,a2,a3,a4,a5,a6,a7] t (0,0)))
  (hR:R (.returned (.tuple #[.agg #[a0,a1,a2,a3,a4,a5,a6,a7],v3,v4])) W) :
  bodyPost Tryz.prog Tryz.f10 R .ret { tmps:=tmps,defers:=[] } W:=by
 refine bodyPost_ret ?_ rfl hR;have h0:W.cell? ⟨r,0,none⟩=some a0:=by simp [World.cell?,hb]
 have h1:W.cell? ⟨r,1,none⟩=some a1:=by simp [World.cell?,hb]
 have h2:W.cell? ⟨r,2,none⟩=some a2:=by simp [World.cell?,hb]
 have h5:W.cell? ⟨r,3,none⟩=some a3:=by simp [World.cell?,hb]
 have h6:W.cell? ⟨r,4,none⟩=some a4:=by simp [World.cell?,hb]
 have h7:W.cell? ⟨r,5,none⟩=some a5:=by simp [World.cell?,hb]
 have h8:W.cell? ⟨r,6,none⟩=some a6:=by simp [World.cell?,hb]
 have h9:W.cell? ⟨r,7,none⟩=some a7:=by simp [World.cell?,hb]
 simp [results,Tryz.f10,go_sem,ht,h0,h1,h2,h3,h4,h5,h6,h7,h8,h9]
theorem certParse_any (F G:Int->ByteArray) (s:ByteArray) (hs:s.size<=65536) (m:Int) (w:World) (hm:w.cell? ⟨0,0,none⟩=some (.int .i64 m))
  (hN1:∀ (s:ByteArray) (W:World),Calls Tryz.prog 86 #[.string s,.int .i64 2,.func (Fn.func 37) #[] #[]] W fun e w'=>e=.returned (.int .i64 (findN F s 2 1))/\Below W.heap.size W w')
  (hN2:∀ (s:ByteArray) (W:World),Calls Tryz.prog 86 #[.string s,.int .i64 4,.func (Fn.func 38) #[] #[]] W fun e w'=>e=.returned (.int .i64 (findN G s 4 1))/\Below W.heap.size W w') :
  Calls Tryz.prog 10 #[.string s] w fun e w'=>CPspS w (parseC F G s) e w':=by
 have HN1:=hI9 hN1;have HN2:=hI9 hN2;have HLN:=hI9 (fun W h=>lexLinesC_any s hs m W h);have hml:=qaM hm;have hEE:=lns_each' (textW s);have hWW:=lns_words (textW s) (fun x hx=>(text_bd s x hx).1.1);have hTT:=lns_texts s hs;have hN0:=textW_len s;have hPP:∀ g ∈ lns (textW s),∀ x ∈ g,0<=x.p/\x.p<=(s.size:Int):=fun g hg x hx=>(text_bd s x (lns_mem _ g hg x hx)).1
 have HE:=hI9 (And.intro hEE (And.intro hWW (And.intro hTT (And.intro hN0 hPP))));clear hN1 hN2 hEE hWW hTT hN0 hPP;have hu0:=Tryz.underlying73;have hu1:=Tryz.underlying43;have hu2:=Tryz.underlying40;have hu3:=Tryz.underlying37;have HZ:=hI9 (show ∀ w:World,(Instr.build 43 #[]).run Tryz.prog w=.ok (.agg #[.int .i64 0,.int .i64 0,.slice none 0 0,.int .i64 0,.int .i64 0,.slice none 0 0,.slice none 0 0,.slice none 0 0]) w from fun w=>by kernel_rfl);go_enter Tryz.func10,Tryz.ntmps10;go_upto_region 1 with (fail)
 have hb0:=(bR9 w.heap.size w).alloc (nR9 _) (.cells #[.int .i64 0,.int .i64 0,.slice none 0 0,.int .i64 0,.int .i64 0,.slice none 0 0,.slice none 0 0,.slice none 0 0] 43 (0,0));have hn0:=blk_new w (.cells #[.int .i64 0,.int .i64 0,.slice none 0 0,.int .i64 0,.int .i64 0,.slice none 0 0,.slice none 0 0,.slice none 0 0] 43 (0,0));have hz0:=qaF w (.cells #[.int .i64 0,.int .i64 0,.slice none 0 0,.int .i64 0,.int .i64 0,.slice none 0 0,.slice none 0 0,.slice none 0 0] 43 (0,0));generalize w.alloc (.cells #[.int .i64 0,.int .i64 0,.slice none 0 0,.int .i64 0,.int .i64 0,.slice none 0 0,.slice none 0 0,.slice none 0 0] 43 (0,0))=w0 at hb0 hn0 hz0 ⊢;obtain⟨r,hr⟩:∃ z,w.heap.size=z:=⟨_,rfl⟩;rw [hr] at hb0 hn0 hz0 hml ⊢;go_wp2;go_step3;go_wp2;have ha1:=(bR9 w0.heap.size w0).alloc (nR9 _) (.cells #[.int .i64 0,.int .i64 0,.slice none 0 0,.int .i64 0,.int .i64 0,.slice none 0 0,.slice none 0 0,.slice none 0 0,.int .i64 0] 73 (0,0));have hb1:=hb0.trans (ha1.mono (by omega));have hH1:HdAt (w0.alloc (.cells #[.int .i64 0,.int .i64 0,.slice none 0 0,.int .i64 0,.int .i64 0,.slice none 0 0,.slice none 0 0,.slice none 0 0,.int .i64 0] 73 (0,0))) w0.heap.size 0 0 (.slice none 0 0) (.slice none 0 0) (.slice none 0 0) 0:=blk_new w0 _;have hz1:=qaF w0 (.cells #[.int .i64 0,.int .i64 0,.slice none 0 0,.int .i64 0,.int .i64 0,.slice none 0 0,.slice none 0 0,.slice none 0 0,.int .i64 0] 73 (0,0));have hn1:=(ha1.block r (by omega)).trans hn0;have hm1:=(hb1.cell (p:=⟨0,0,none⟩) hml).trans hm;generalize w0.alloc (.cells #[.int .i64 0,.int .i64 0,.slice none 0 0,.int .i64 0,.int .i64 0,.slice none 0 0,.slice none 0 0,.slice none 0 0,.int .i64 0] 73 (0,0))=w1 at hb1 hH1 hz1 hn1 hm1 ⊢;obtain⟨g,hg⟩:∃ z,w0.heap.size=z:=⟨_,rfl⟩;have hg1:r+1=g:=by omega
 rw [hg] at hH1 hz1;rw [hg1];clear ha1 hn0 hb0;go_step3;go_wp2_with (go_at_call 25;refine (HLN.out _ hm1).mono ?_;rintro e w2 ⟨⟨A1,c1,rfl,r1⟩,hb2⟩)
 obtain⟨n,hn⟩:∃ z,(lns (textW s)).length=z:=⟨_,rfl⟩;obtain⟨Ls,hLs⟩:∃ z,lns (textW s)=z:=⟨_,rfl⟩;rw [hLs] at hn r1;have HLS:=hI9 hLs;have HLL:=hI9 hn;have hn9:n<=70000:=by
  have h1:=lns_len (textW s);rw [hLs,hn] at h1;have:=HE.out.2.2.2.1;omega
 have hgw2:g<w2.heap.size:=by have:=hH1.lt;have:=hb2.size;omega
 have hHD0:HD w2 g ⟨0,0,[],[],[],0⟩ w2:=⟨_,_,_,hH1.below hb2,World.ownsRow_nil _ _ _ _,Kd.R_nil _ _ _ _ _,World.ownsRow_nil _ _ _ _,World.grownBy.refl _ _,fun _=>⟨rfl,rfl⟩,by simp⟩;obtain⟨R,hR⟩:∃ R,R=headGo F G ⟨0,0,[],[],[],0⟩ (Ls.drop 0):=⟨_,rfl⟩;have HR:=hI9 hR;have HRC:Hid (parseC F G s=crEnd s R):=hI9 (by rw [hR];unfold parseC;rw [hLs];rfl);have hm2:=(hb2.cell (p:=⟨0,0,none⟩) (qaM hm1)).trans hm1;have hgm:0≠g:=by have:=hml;omega
 have hg1s:g<w1.heap.size:=hH1.lt;have HB2:=hI9 (And.intro (hb1.trans (hb2.mono (by omega))) ((hb2.block r (by omega)).trans hn1));rw [show (lns (textW s)).length=n by rw [hLs];exact hn];clear hLs hn hR hH1 hb2 hb1 hm1 hn1 hm HLN;go_loopw [6,18] (fun v6 v18 wr=>∃ (i:Nat) (S:HdS),v6=.int .i64 (-1)/\v18=.int .i64 i/\i<=n/\Hid (R=headGo F G S (Ls.drop i))/\HD w2 g S wr) (fun _ v18 _=>n - (RowKit.intOf v18).toNat)
 case atStart=>exact⟨0,_,rfl,rfl,Nat.zero_le _,HR,hHD0⟩
 case round=>
  obtain⟨i,S,rfl,rfl,hi,hS,hD⟩:=hrel;by_cases hin:i<n
  .have hil:i<Ls.length:=by rw [HLL.out];exact hin
   obtain⟨bA,oA,rfl,hB0,hltA,hcA⟩:=r1 (by rw [HLL.out];omega);obtain⟨Ai,ci,x0,hWr,hcap,hbase⟩:=hcA i hil;have HDW:=hI9 hD;obtain⟨tv,qv,bv,hH,hth,hq,hbs,hG,_,_⟩:=hD;have HROW:=hI9 (And.intro hH (And.intro hth (And.intro hq hbs)));clear hth hq hbs;have a0:=qa0 x0 hltA (by omega) hG;have hmem:Ls[i] ∈ lns (textW s):=by rw [HLS.out];exact List.getElem_mem hil
   have HM9:=hI9 hmem;have hne:=(HE.out.2.1 _ hmem).1;have hlenL:=HE.out.1 _ hmem;have htx:=HE.out.2.2.1 _ hmem;have hdrop:Ls.drop i=Ls[i]::Ls.drop (i+1):=List.drop_eq_getElem_cons hil;have HD1:=hI9 (hS.out.trans (by rw [hdrop]));generalize Ls[i]=L at HM9 a0 hWr hcap hne hlenL htx HD1;clear hcA x0 hmem hdrop hS;have hL4:L.length<=4000000:=by have:=HE.out.2.2.2.1;omega
   have hoff:WOff g Ai:=fun b o h=>by have:=hbase b o h;omega
   have HLINE:=hI9 (line_S F G w2 wr g ci Ai S L m hL4 hcap (fun x hx=>Nat.le_trans (htx x hx) (by decide)) HDW.out hgw2 hWr hoff hne hm2 hgm HN1.out HN2.out);have hW3:=hWr.off hoff hG;obtain⟨x,q,rfl⟩:∃ x q,L=x::q:=by
    cases L with
    |nil=>exact absurd rfl hne
    |cons x q=>exact⟨x,q,rfl⟩
   obtain⟨bw,ow,rfl,hltw,hcw⟩:=hW3 (by simp);obtain⟨y0,y1,y2⟩:=hcw 0 (by simp);simp only [List.getElem_cons_zero,Nat.zero_mul,Nat.add_zero] at y0 y1 y2;have d8:=hH.cells.2.2.2.2.2;obtain⟨nl,hnl⟩:∃ z,(x::q).length=z:=⟨_,rfl⟩;have hnl0:0<nl:=by rw [<- hnl];simp
   rw [hnl] at a0 hL4 hcap hlenL;clear hcw hWr hbase;have c18:decide ((i:Int)<(n:Int))=true:=decide_eq_true (by omega);have hz:(0:Int)<(nl:Int):=by omega
   by_cases hca:x.t=cCache
   .by_cases hst:0<S.st
    .have hcc:x.t=⟨#[99,97,99,104,101]⟩:=hca;rw [hcc] at y2;have cst:decide (0<S.st)=true:=decide_eq_true hst;have HGO:Hid (R=.found x.p S):=hI9 (by
      rw [HD1.out];show (if x.t=cCache/\0<S.st then HdEnd.found x.p S else _)=_
      rw [if_pos ⟨hca,hst⟩])
     clear HLINE HD1 hW3 hH;have hxp:=(HE.out.2.2.2.2 _ HM9.out _ List.mem_cons_self);obtain⟨a,ha⟩:∃ a:Nat,x.p=(a:Int):=⟨x.p.toNat,by omega⟩;rw [ha] at y0 HGO hxp;have hal:a<=s.size:=by omega
     have hmr:=hG.cell hm2 (fun e=>hgm (Option.some.inj e));have hsz:(s.extract a s.size).size<=65536:=by rw [ByteArray.size_extract];omega
     have HP:=hI9 (fun W h=>parse_anyS (s.extract a s.size) hsz m W h);have hSAY:=parseP_says (s.extract a s.size) hsz;have c0:decide ((a:Int)<0)=false:=by simp
     go_upto_region 12 with (fail)
     have HF:=hI9 (And.intro HB2.out.1 hG);have hrr:=(hG.block r (by omega) (fun e=>by have:=Option.some.inj e;omega)).trans HB2.out.2;clear HE HLS HLL HN1 HN2 r1 hHD0 HR y0 y1 y2 a0 HDW;rcases hSAY with ⟨sa,sb,TL,_,_,hpp,-⟩|⟨pa,pe,hpp,hpe,hp0,hp1⟩
     .rw [hpp] at HP;have HPE:=hI9 hpp;clear hpp;obtain⟨A5,n5,c5,rfl⟩:=own_form HROW.out.2.1;obtain⟨A6,c6,rfl,_,_⟩:=Kd.R_reads HROW.out.2.2.1;obtain⟨A7,n7,c7,rfl⟩:=own_form HROW.out.2.2.2;have hr3:r≠g:=by omega
      have hgr:g≠r:=by omega
      go_upto_region 15 with (go_at_call 27;refine (HP.out _ hmr).mono ?_;rintro e w6 ⟨⟨v,rfl,hS6⟩,hb6⟩;obtain⟨A8,c8,rfl,_,_⟩:=Kd.S_reads hS6)
      have ha7:=(bR9 w6.heap.size w6).alloc (nR9 _) (.cells #[.int .i64 sa,.int .i64 sb,.slice A8 TL.length c8] 37 (0,0));have hx7:=heap_alloc_new w6 (.cells #[.int .i64 sa,.int .i64 sb,.slice A8 TL.length c8] 37 (0,0));have hS7:=Kd.S_below hS6 ha7;have hb7:=hb6.trans (ha7.mono hb6.size);generalize w6.alloc (.cells #[.int .i64 sa,.int .i64 sb,.slice A8 TL.length c8] 37 (0,0))=w7 at hb7 hx7 hS7 ⊢;obtain⟨xb,hxb⟩:∃ z,w6.heap.size=z:=⟨_,rfl⟩;have hxw:wr.heap.size<=xb:=by rw [<- hxb];exact hb6.size
      rw [hxb] at hx7 ⊢;have hgs:=HF.out.2.size;have hxg:g≠xb:=by omega
      have hxr:r≠xb:=by omega
      have hgx:xb≠g:=by omega
      have hrx:xb≠r:=by omega
      have h7:=(hb7.block r (lt_of_block hrr)).trans hrr;have H7:=HROW.out.1.below hb7;have x0:=qac hx7 0;have x1:=qac hx7 1;have x2:=qac hx7 2;have zg:=H7.frozen;have g0:=qac H7 0;have g1:=qac H7 1;have g2:=qac H7 2;have HB7:=hI9 (And.intro hb7 (And.intro hS7 (And.intro h7 (And.intro H7 hx7))));clear hb7 hS7 h7 H7 hx7 hS6 hb6 ha7 hrr hxb;simp at x0 x1 x2 g0 g1 g2;clear d8;go_upto_region 18 with (fail)
      obtain⟨s1,s2⟩:=sys_set HB7.out.2.2.2.1 (.int .i64 sa) (.int .i64 sb) (.slice A8 TL.length c8);have h8:=(s2.block r (lt_of_block HB7.out.2.2.1) (fun e=>by have:=Option.some.inj e;omega)).trans HB7.out.2.2.1;generalize ((w7.setCell ⟨g,0,none⟩ (.int .i64 sa)).setCell ⟨g,1,none⟩ (.int .i64 sb)).setCell ⟨g,2,none⟩ (.slice A8 TL.length c8)=w8 at s1 s2 h8 ⊢;have y0:=qac s1 0;have y1:=qac s1 1;have y2:=qac s1 2;have y3:=qac s1 3;have y4:=qac s1 4;have y5:=qac s1 5;have y6:=qac s1 6;have y7:=qac s1 7;have H8:=hI9 (And.intro h8 (And.intro s1 s2));clear h8 s1 s2 x0 x1 x2 g0 g1 g2 zg;simp at y0 y1 y2 y3 y4 y5 y6 y7;refine wp_region_lit ?_;refine wpList_plain rfl (fun K hK=>?_);go_simp;refine hK _ _ ?_;clear hK;refine wpList_plain rfl (fun K hK=>?_);go_simp;refine hK _ _ ?_;clear hK;refine wpList_plain rfl (fun K hK=>?_);go_simp;refine hK _ _ ?_;clear hK;refine wpList_plain rfl (fun K hK=>?_);go_simp;refine hK _ _ ?_;clear hK;refine wpList_plain rfl (fun K hK=>?_);go_simp;refine hK _ _ ?_;clear hK;refine wpList_plain rfl (fun K hK=>?_);go_simp;refine hK _ _ ?_;clear hK;refine qaY rfl 43 (.tmp 2) (.tmp 77) rfl r _ rfl rfl 43 _ H8.out.1 (by kernel_rfl) rfl (by kernel_rfl) ?_;intro W s1 s2;go_wp2;rw [Exit.noGoto_ret];refine cparse_ret (r:=r) (v3:=.int .i64 s.size) (v4:=.int .i64 0) (by simp) (by simp) (by simp) s1 ?_;rw [HRC.out,HGO.out];unfold crEnd;simp only [Int.toNat_natCast,HPE.out,if_true];exact cpost_good hr (by omega) hgw2 HF.out.1 HF.out.2 HROW.out.2.1 HROW.out.2.2.1 HROW.out.2.2.2 HB7.out.1 HB7.out.2.1 HB7.out.2.2.1 HB7.out.2.2.2.1 H8.out.2.2 H8.out.1 s2
     .rw [hpp] at HP;have HPE:=hI9 hpp;clear hpp;have c1:(pe != 0)=true:=by simp [hpe]
      rw [ByteArray.size_extract] at hp1;have wi:wrap64 ((a:Int)+pa)=(a:Int)+pa:=by unfold wrap64;omega
      go_upto_region 15 with (go_at_call 27;refine (HP.out _ hmr).mono ?_;rintro e w6 ⟨⟨v,rfl,hS6⟩,hb6⟩;obtain⟨A8,c8,rfl,_,_⟩:=Kd.S_reads hS6)
      have ha7:=hb6.trans ((bR9 w6.heap.size w6).alloc (nR9 _) (.cells #[.int .i64 0,.int .i64 0,.slice A8 ([]:List Tk).length c8] 37 (0,0)) |>.mono hb6.size);generalize w6.alloc (.cells #[.int .i64 0,.int .i64 0,.slice A8 ([]:List Tk).length c8] 37 (0,0))=w7 at ha7 ⊢;have h7:=(ha7.block r (lt_of_block hrr)).trans hrr;have HRR:=hI9 h7;clear hrr h7 hu0 hu1 hu2 hu3;go_upto_region 16 with (fail)
      refine wp_region_lit ?_;refine qa4 rfl 43 rfl _ (HZ.out _) ?_;refine wpList_plain rfl (fun K hK=>?_);go_simp;refine hK _ _ ?_;clear hK;refine wpList_plain rfl (fun K hK=>?_);go_simp;refine hK _ _ ?_;clear hK;refine wpList_plain rfl (fun K hK=>?_);go_simp;refine hK _ _ ?_;clear hK;refine wpList_plain rfl (fun K hK=>?_);go_simp;refine hK _ _ ?_;clear hK;refine qaY rfl 43 (.tmp 2) (.tmp 63) rfl r _ rfl rfl 43 _ HRR.out (by kernel_rfl) rfl (by kernel_rfl) ?_;intro W s1 s2;go_wp2;rw [Exit.noGoto_ret];have hgs:=HF.out.2.size;have hB:=qat ((qat HF.out.1 HF.out.2 (by omega) (by omega)).trans (ha7.mono (by omega))) s2 (by have:=ha7.size;omega) (nR9 _);refine cparse_ret (r:=r) (v3:=.int .i64 ((a:Int)+pa)) (v4:=.int .i64 pe) (by simp) (by simp) (by simp) s1 ?_;rw [HRC.out,HGO.out];unfold crEnd;simp only [Int.toNat_natCast,HPE.out,if_neg hpe];exact cpost_bad hr hB
    .have hcc:x.t=⟨#[99,97,99,104,101]⟩:=hca;rw [hcc] at y2;have cst:decide (0<S.st)=false:=decide_eq_false hst;have HGO:Hid (R=match lineS F G S (x::q) with|none=>.wrong x.p|some S'=>headGo F G S' (Ls.drop (i+1))):=hI9 (by
      rw [HD1.out];show (if x.t=cCache/\0<S.st then HdEnd.found x.p S else _)=_;rw [if_neg (fun h=>hst h.2)]
      cases lineS F G S (x::q)<;>rfl)
     have HL2:=HLINE.out;rw [hnl] at HL2;have hl:lineS F G S (x::q)=none:=by
      unfold lineS;dsimp only;rw [hca,if_neg (by decide),if_neg (by decide),if_neg (by decide),if_neg (by decide)]
     rw [hl] at HL2 HGO;have HL3:=hI9 HL2;clear HL2 HLINE hl HD1 HDW hH hW3;go_upto_region 10 with (go_at_call 26;refine HL3.out.mono ?_;rintro e w6 ⟨rfl,hG6⟩)
     have hrr:=(hG6.block r (by omega) (fun e=>by have:=Option.some.inj e;omega)).trans HB2.out.2;have HRR:=hI9 hrr;have HG6:=hI9 hG6;clear hrr HE HLS HLL HN1 HN2 r1 hHD0 HR HL3 hG6 hu0 hu1 hu2 hu3 y0 y1 y2 a0;refine wp_region_lit ?_;refine qa4 rfl 43 rfl _ (HZ.out _) ?_;refine wpList_plain rfl (fun K hK=>?_);go_simp;refine hK _ _ ?_;clear hK;refine qaY rfl 43 (.tmp 2) (.tmp 45) rfl r _ rfl rfl 43 _ HRR.out (by kernel_rfl) rfl (by kernel_rfl) ?_;intro W s1 s2;go_wp2;rw [Exit.noGoto_ret];have hB:=qat (qat HB2.out.1 HG6.out (by omega) (by omega)) s2 (by have:=HG6.out.size;omega) (nR9 _);refine cparse_ret (r:=r) (v3:=.int .i64 x.p) (v4:=.int .i64 10) (by simp) (by simp) (by simp) s1 ?_;rw [HRC.out,HGO.out];exact cpost_bad hr hB
   .have e0:=bytes_ne hca;rw [show cCache.toList=[99,97,99,104,101] by rw [Lib.toList_data];rfl] at e0;have HGO:Hid (R=match lineS F G S (x::q) with|none=>.wrong x.p|some S'=>headGo F G S' (Ls.drop (i+1))):=hI9 (by
     rw [HD1.out];show (if x.t=cCache/\0<S.st then HdEnd.found x.p S else _)=_;rw [if_neg (fun h=>hca h.1)]
     cases lineS F G S (x::q)<;>rfl)
    have HL2:=HLINE.out;rw [hnl] at HL2;cases hl:lineS F G S (x::q) with
    |some S'=>
     rw [hl] at HL2 HGO;have HL3:=hI9 HL2;have wi:wrap64 ((i:Int)+1)=((i+1:Nat):Int):=by unfold wrap64;omega
     clear HL2 HLINE hl HD1 HDW hH d8 hW3;go_upto_region 11 with (go_at_call 26;refine HL3.out.mono ?_;rintro e w6 ⟨rfl,hD6⟩)
     clear htx hne HROW HM9 hlenL hcap hL4 y0 y1 y2 a0 e0 hltw hoff hnl hca HL3 hnl0 hz r1 hB0 hltA hG hil HR hHD0 hgw2 hg1s hm2 hn9 HLS HLL HB2 HRC hg1 hz1 hz0 hml hr hg hu0 hu1 hu2 hu3;have HD6:=hI9 hD6;clear hD6;go_wp2;go_roundw
     case rel=>
      refine⟨i+1,S',?_,?_,hin,HGO,HD6.out⟩;rfl;simp only [wi]
     case measure=>
      simp only [wi];show n - ((((i+1:Nat):Int)).toNat)<n - ((i:Int)).toNat;clear HN1 HN2 HE HZ;omega
    |none=>
     rw [hl] at HL2 HGO;have HL3:=hI9 HL2;clear HL2 HLINE hl HD1 HDW hH d8 hW3;go_upto_region 10 with (go_at_call 26;refine HL3.out.mono ?_;rintro e w6 ⟨rfl,hG6⟩)
     have hrr:=(hG6.block r (by omega) (fun e=>by have:=Option.some.inj e;omega)).trans HB2.out.2;have HRR:=hI9 hrr;have HG6:=hI9 hG6;clear hrr HE HLS HLL HN1 HN2 r1 hHD0 HR HL3 hG6 hu0 hu1 hu2 hu3 y0 y1 y2 a0;refine wp_region_lit ?_;refine qa4 rfl 43 rfl _ (HZ.out _) ?_;refine wpList_plain rfl (fun K hK=>?_);go_simp;refine hK _ _ ?_;clear hK;refine qaY rfl 43 (.tmp 2) (.tmp 45) rfl r _ rfl rfl 43 _ HRR.out (by kernel_rfl) rfl (by kernel_rfl) ?_;intro W s1 s2;go_wp2;rw [Exit.noGoto_ret];have hB:=qat (qat HB2.out.1 HG6.out (by omega) (by omega)) s2 (by have:=HG6.out.size;omega) (nR9 _);refine cparse_ret (r:=r) (v3:=.int .i64 x.p) (v4:=.int .i64 10) (by simp) (by simp) (by simp) s1 ?_;rw [HRC.out,HGO.out];exact cpost_bad hr hB
  .obtain rfl:i=n:=by omega
   obtain⟨tv,qv,bv,hH,_,_,_,hG,_,_⟩:=hD;have hrg:r≠g:=by omega
   have hrr:=(hG.block r (by omega) (fun e=>hrg (Option.some.inj e))).trans HB2.out.2;have HRR:=hI9 hrr;have HGG:=hI9 hG;have HGO:Hid (R=.none):=hI9 (by
    rw [hS.out,List.drop_of_length_le (by rw [HLL.out];exact nR9 _)]
    rfl)
   clear hrr hH HE HLS HLL HN1 HN2 r1 hHD0 HR hG hS hu0 hu1 hu2 hu3;go_upto_region 13 with (fail)
   refine wp_region_lit ?_;refine qa4 rfl 43 rfl _ (HZ.out _) ?_;refine wpList_plain rfl (fun K hK=>?_);go_simp;refine hK _ _ ?_;clear hK;refine wpList_plain rfl (fun K hK=>?_);go_simp;refine hK _ _ ?_;clear hK;refine qaY rfl 43 (.tmp 2) (.tmp 50) rfl r _ rfl rfl 43 _ HRR.out (by kernel_rfl) rfl (by kernel_rfl) ?_;intro W s1 s2;go_wp2;rw [Exit.noGoto_ret];have hB:=qat (qat HB2.out.1 HGG.out (by omega) (by omega)) s2 (by have:=HGG.out.size;omega) (nR9 _);refine cparse_ret (r:=r) (v3:=.int .i64 s.size) (v4:=.int .i64 10) (by simp) (by simp) (by simp) s1 ?_;rw [HRC.out,HGO.out];exact cpost_bad hr hB
end Go.Proofs.YtgnaaokhfpfglaaGreatDoor
end
section
namespace Go.Proofs.YtgnaaokhfpfglaaGreatDoor
open Go.RowKit Go.Shelf Go.Lib
def lnW (W:List ByteArray):List UInt8:=Lib.join (W.map (·.data.toList)) [32]
def crW (P M:ByteArray) (th q:List Int) (bs:List Bd):List (List ByteArray):=
 [cCert,P,M]::((if th.length=0 then [] else [[cTheta,joinP th]])++((if q.length=0 then [] else [[cQ,joinP q]])++bs.map (fun x=>[cBound,digB x.i,digB x.g,digB x.t,digB x.k])))
theorem linesB_app (A B:List (List UInt8)):linesB (A++B)=linesB A++linesB B:=by simp [linesB]
theorem crW_text (P M:ByteArray) (th q:List Int) (bs:List Bd) (S:ByteArray):(certT P M th q bs S).data.toList=linesB ((crW P M th q bs).map lnW)++S.data.toList:=by
 have hb:∀ l:List Bd,linesB ((l.map (fun x=>[cBound,digB x.i,digB x.g,digB x.t,digB x.k])).map lnW)=l.flatMap crBound:=by
  intro l
  induction l with
  |nil=>rfl
  |cons x l ih=>
   rw [List.map_cons,List.map_cons,List.flatMap_cons,<- ih];have:lnW [cBound,digB x.i,digB x.g,digB x.t,digB x.k]++[10]=crBound x:=by
    simp [lnW,crBound,bdW,cBound,Lib.join,ByteArray.data_append]
   rw [<- this];simp [linesB]
 have ht:linesB ((if th.length=0 then ([]:List (List ByteArray)) else [[cTheta,joinP th]]).map lnW)=crTheta th:=by
  unfold crTheta;by_cases h:th.length=0
  .rw [if_pos h,if_pos h];rfl
  .rw [if_neg h,if_neg h];simp [linesB,lnW,cTheta,Lib.join]
 have hq:linesB ((if q.length=0 then ([]:List (List ByteArray)) else [[cQ,joinP q]]).map lnW)=crQ q:=by
  unfold crQ;by_cases h:q.length=0
  .rw [if_pos h,if_pos h];rfl
  .rw [if_neg h,if_neg h];simp [linesB,lnW,cQ,Lib.join]
 have hh:linesB [lnW [cCert,P,M]]=crHead P M:=by
  simp [linesB,lnW,cCert,Lib.join,crHead]
 unfold crW;rw [List.map_cons,List.map_append,List.map_append,show ∀ (a:List UInt8) (l:List (List UInt8)),a::l=[a]++l from fun _ _=>rfl,linesB_app,linesB_app,linesB_app,hb,ht,hq,hh];unfold certT;rw [ByteArray.data_append];simp
def Wok (w:ByteArray):Prop:=w.data.toList≠[]/\Pw w.data.toList
theorem pw_of (l:List UInt8) (h:(l.all fun c=>c != 10 && c != 35 && !ws c)=true):Pw l:=fun c hc=>by
 have:=List.all_eq_true.1 h c hc;simp only [Bool.and_eq_true,bne_iff_ne,Bool.not_eq_true'] at this;exact⟨this.1.1,this.1.2,this.2⟩
theorem joinP_wok {l:List Int} (hl:l≠[]) (h:∀ y ∈ l,0<=y):Wok (joinP l):=by
 refine⟨fun e=>?_,joinP_pw h⟩;cases l with
 |nil=>exact hl rfl
 |cons x l=>
  have hx:=(itoa_pw x (h x List.mem_cons_self)).1;cases l with
  |nil=>exact hx (by simpa [joinP,Lib.join] using e)
  |cons y l=>revert e;simp [joinP,Lib.join]
theorem crW_wok {P M:ByteArray} {th q:List Int} {bs:List Bd} (hP:Wok P) (hM:Wok M) (hth:∀ y ∈ th,0<=y) (hq:∀ y ∈ q,0<=y) (hbs:∀ x ∈ bs,0<=x.i/\0<=x.g/\0<=x.t/\0<=x.k):∀ W ∈ crW P M th q bs,W≠[]/\∀ w ∈ W,Wok w:=by
 intro W hW;unfold crW at hW;rcases List.mem_cons.1 hW with rfl|hW
 .refine⟨by simp,fun w hw=>?_⟩;simp only [List.mem_cons,List.not_mem_nil,or_false] at hw;rcases hw with rfl|rfl|rfl
  .exact⟨by simp [cCert],pw_of _ (by decide)⟩
  .exact hP
  .exact hM
 rcases List.mem_append.1 hW with hW|hW
 .by_cases h:th.length=0
  .rw [if_pos h] at hW;cases hW
  .rw [if_neg h] at hW;obtain rfl:=List.mem_singleton.1 hW;refine⟨by simp,fun w hw=>?_⟩;simp only [List.mem_cons,List.not_mem_nil,or_false] at hw;rcases hw with rfl|rfl
   .exact⟨by simp [cTheta],pw_of _ (by decide)⟩
   .exact joinP_wok (fun e=>h (by rw [e];rfl)) hth
 rcases List.mem_append.1 hW with hW|hW
 .by_cases h:q.length=0
  .rw [if_pos h] at hW;cases hW
  .rw [if_neg h] at hW;obtain rfl:=List.mem_singleton.1 hW;refine⟨by simp,fun w hw=>?_⟩;simp only [List.mem_cons,List.not_mem_nil,or_false] at hw;rcases hw with rfl|rfl
   .exact⟨by simp [cQ],pw_of _ (by decide)⟩
   .exact joinP_wok (fun e=>h (by rw [e];rfl)) hq
 .obtain⟨x,hx,rfl⟩:=List.mem_map.1 hW;have h4:=hbs x hx;refine⟨by simp,fun w hw=>?_⟩;simp only [List.mem_cons,List.not_mem_nil,or_false] at hw;rcases hw with rfl|rfl|rfl|rfl|rfl
  .exact⟨by simp [cBound],pw_of _ (by decide)⟩
  .exact digB_pw h4.1
  .exact digB_pw h4.2.1
  .exact digB_pw h4.2.2.1
  .exact digB_pw h4.2.2.2
theorem lnW_wds {W:List ByteArray} (hW:W≠[]) (h:∀ w ∈ W,Wok w):wds (lnW W)=W/\(10:UInt8) ∉ lnW W:=by
 have e32:∀ c ∈ ([32]:List UInt8),ws c=true:=by decide
 refine⟨?_,?_⟩
 .have:=wds_join [32] e32 (by simp) [] tail_nil W hW h
  rwa [List.append_nil] at this
 .refine join_no10 [32] (by decide) _ (fun w hw=>?_);obtain⟨v,hv,rfl⟩:=List.mem_map.1 hw;exact (h v hv).2
theorem lineS_tx (F G:Int->ByteArray) (S:HdS) {L M:List Wd} (h:tx L=tx M):lineS F G S L=lineS F G S M:=by
 match L,M,h with
 |[],[],_=>rfl
 |[],_::_,h=>simp [tx] at h
 |_::_,[],h=>simp [tx] at h
 |x::r,y::s,h=>
  simp only [tx,List.map_cons,List.cons.injEq] at h;obtain⟨h0,h1⟩:=h
  match r,s,h1 with
  |[],[],_=>unfold lineS;simp only [h0]
  |[],_::_,h1=>simp at h1
  |_::_,[],h1=>simp at h1
  |x1::r,y1::s,h1=>
   simp only [List.map_cons,List.cons.injEq] at h1;obtain⟨h1,h2⟩:=h1
   match r,s,h2 with
   |[],[],_=>unfold lineS;simp only [h0,h1]
   |[],_::_,h2=>simp at h2
   |_::_,[],h2=>simp at h2
   |x2::r,y2::s,h2=>
    simp only [List.map_cons,List.cons.injEq] at h2;obtain⟨h2,h3⟩:=h2
    match r,s,h3 with
    |[],[],_=>unfold lineS;simp only [h0,h1,h2]
    |[],_::_,h3=>simp at h3
    |_::_,[],h3=>simp at h3
    |x3::r,y3::s,h3=>
     simp only [List.map_cons,List.cons.injEq] at h3;obtain⟨h3,h4⟩:=h3
     match r,s,h4 with
     |[],[],_=>unfold lineS;simp only [h0]
     |[],_::_,h4=>simp at h4
     |_::_,[],h4=>simp at h4
     |x4::r,y4::s,h4=>
      simp only [List.map_cons,List.cons.injEq] at h4;obtain⟨h4,h5⟩:=h4
      match r,s,h5 with
      |[],[],_=>unfold lineS;simp only [h0,h1,h2,h3,h4]
      |[],_::_,h5=>simp at h5
      |_::_,[],h5=>simp at h5
      |x5::r,y5::s,h5=>unfold lineS;simp only [h0]
def mkL (W:List ByteArray):List Wd:=W.map (fun t=>⟨0,0,t⟩)
theorem tx_mkL (W:List ByteArray):tx (mkL W)=W:=by simp [tx,mkL,Function.comp_def]
theorem headGo_skip {F G:Int->ByteArray} {S S':HdS} {L:List Wd} {r:List (List Wd)} {c:ByteArray} {W:List ByteArray} (hL:tx L=c::W) (hc:c≠cCache) (h:lineS F G S (mkL (c::W))=some S'):headGo F G S (L::r)=headGo F G S' r:=by
 cases L with
 |nil=>cases hL
 |cons x q=>
  have hx:x.t=c:=by simp [tx] at hL;exact hL.1
  have hl:lineS F G S (x::q)=some S':=by rw [<- h];exact lineS_tx F G S (by rw [hL,tx_mkL])
  show (if x.t=cCache/\0<S.st then HdEnd.found x.p S else match lineS F G S (x::q) with|none=>.wrong x.p|some S'=>headGo F G S' r)=_;rw [if_neg (fun e=>hc (hx ▸ e.1)),hl]
theorem bdP_dig {x:Bd} (h:(0<=x.i/\x.i<=99)/\(0<=x.g/\x.g<=1099511627776)/\(0<=x.t/\x.t<=1099511627776)/\(0<=x.k/\x.k<=1099511627776)):bdP (digB x.i) (digB x.g) (digB x.t) (digB x.k)=some x:=by
 obtain⟨h1,h2,h3,h4⟩:=h;unfold bdP;rw [numP_dig h1.1 (by omega),numP_dig h2.1 h2.2,numP_dig h3.1 h3.2,numP_dig h4.1 h4.2];simp only;rw [if_pos ⟨trivial,h1.2,trivial,trivial,trivial⟩]
theorem headGo_bounds {F G:Int->ByteArray} {rest:List (List Wd)}:∀ (bs:List Bd) (Gs:List (List Wd)) (S:HdS),(∀ x ∈ bs,(0<=x.i/\x.i<=99)/\(0<=x.g/\x.g<=1099511627776)/\(0<=x.t/\x.t<=1099511627776)/\(0<=x.k/\x.k<=1099511627776)) ->
  Gs.map tx=bs.map (fun x=>[cBound,digB x.i,digB x.g,digB x.t,digB x.k])->1<=S.st->S.bs.length+bs.length<=64->∃ st,1<=st/\headGo F G S (Gs++rest)=headGo F G { S with bs:=S.bs++bs,st:=st } rest:=by
 intro bs
 induction bs with
 |nil=>
  intro Gs S _ hG hs _;obtain rfl:Gs=[]:=by cases Gs with
   |nil=>rfl
   |cons g l=>cases hG
  exact⟨S.st,hs,by rw [List.append_nil];rfl⟩
 |cons x bs ih=>
  intro Gs S hb hG hs hl;cases Gs with
  |nil=>cases hG
  |cons g Gs=>
   simp only [List.map_cons,List.cons.injEq] at hG;have hx:=hb x List.mem_cons_self;simp only [List.length_cons] at hl;have h1:lineS F G S (mkL [cBound,digB x.i,digB x.g,digB x.t,digB x.k])=some { S with bs:=S.bs++[x],st:=4 }:=by
    unfold lineS mkL;simp only [List.map_cons,List.map_nil];rw [if_neg (by decide),if_neg (by decide),if_neg (by decide),if_pos trivial,if_pos ⟨hs,by omega⟩,bdP_dig hx]
   rw [List.cons_append,headGo_skip hG.1 (by decide) h1];obtain⟨st,h2,h3⟩:=ih Gs { S with bs:=S.bs++[x],st:=4 } (fun y hy=>hb y (List.mem_cons_of_mem _ hy)) hG.2 (by show (1:Int)<=4;omega) (by simp;omega);refine⟨st,h2,h3.trans ?_⟩;simp
structure CrOk (th q:List Int) (bs:List Bd):Prop where
 th1:∀ x ∈ th,0<=x/\x<=99
 th2:th.length<=64
 q1:∀ x ∈ q,0<=x/\x<=1073741824
 q2:q.length<=64
 b1:∀ x ∈ bs,(0<=x.i/\x.i<=99)/\(0<=x.g/\x.g<=1099511627776)/\(0<=x.t/\x.t<=1099511627776)/\(0<=x.k/\x.k<=1099511627776)
 b2:bs.length<=64
theorem headGo_lines {F G:Int->ByteArray} {P M:ByteArray} {p m:Int} {th q:List Int} {bs:List Bd} (h:CrOk th q bs) (hp:findN F P 2 1=p) (hm:findN G M 4 1=m) (h0:0<min p m) {Gs rest:List (List Wd)} (hG:Gs.map tx=crW P M th q bs) :
  ∃ st,1<=st/\headGo F G ⟨0,0,[],[],[],0⟩ (Gs++rest)=headGo F G ⟨p,m,th,q,bs,st⟩ rest:=by
 unfold crW at hG;cases Gs with
 |nil=>cases hG
 |cons g Gs=>
  simp only [List.map_cons,List.cons.injEq] at hG;have h1:lineS F G ⟨0,0,[],[],[],0⟩ (mkL [cCert,P,M])=some ⟨p,m,[],[],[],1⟩:=by
   unfold lineS mkL;simp only [List.map_cons,List.map_nil];rw [if_pos trivial,hp,hm,if_pos ⟨trivial,h0⟩]
  rw [List.cons_append,headGo_skip hG.1 (by decide) h1];obtain⟨G1,G2,rfl,e1,e2⟩:=List.map_eq_append_iff.1 hG.2;have k1:∃ st,(1<=st/\st<=2)/\headGo F G ⟨p,m,[],[],[],1⟩ (G1++G2++rest)=headGo F G ⟨p,m,th,[],[],st⟩ (G2++rest):=by
   by_cases ht:th.length=0
   .rw [if_pos ht] at e1;obtain rfl:G1=[]:=List.map_eq_nil_iff.1 e1;obtain rfl:th=[]:=List.eq_nil_of_length_eq_zero ht;exact⟨1,by omega,rfl⟩
   .rw [if_neg ht] at e1;cases G1 with
    |nil=>cases e1
    |cons g1 G1=>
     simp only [List.map_cons,List.cons.injEq] at e1;obtain rfl:G1=[]:=List.map_eq_nil_iff.1 e1.2;have h2:lineS F G ⟨p,m,[],[],[],1⟩ (mkL [cTheta,joinP th])=some ⟨p,m,th,[],[],2⟩:=by
      unfold lineS mkL;simp only [List.map_cons,List.map_nil];rw [if_neg (by decide),if_pos trivial,numsP_join (fun e=>ht (by rw [e];rfl)) h.th1];simp only;rw [if_pos ⟨by omega,by omega,trivial,h.th2⟩]
     refine⟨2,by omega,?_⟩;rw [List.cons_append,List.cons_append,List.nil_append,headGo_skip e1.1 (by decide) h2]
  obtain⟨s1,hs1,k1⟩:=k1;rw [k1];obtain⟨G3,G4,rfl,e3,e4⟩:=List.map_eq_append_iff.1 e2;have k2:∃ st,1<=st/\headGo F G ⟨p,m,th,[],[],s1⟩ (G3++G4++rest)=headGo F G ⟨p,m,th,q,[],st⟩ (G4++rest):=by
   by_cases ht:q.length=0
   .rw [if_pos ht] at e3;obtain rfl:G3=[]:=List.map_eq_nil_iff.1 e3;obtain rfl:q=[]:=List.eq_nil_of_length_eq_zero ht;exact⟨s1,hs1.1,rfl⟩
   .rw [if_neg ht] at e3;cases G3 with
    |nil=>cases e3
    |cons g1 G3=>
     simp only [List.map_cons,List.cons.injEq] at e3;obtain rfl:G3=[]:=List.map_eq_nil_iff.1 e3.2;have h2:lineS F G ⟨p,m,th,[],[],s1⟩ (mkL [cQ,joinP q])=some ⟨p,m,th,q,[],3⟩:=by
      unfold lineS mkL;simp only [List.map_cons,List.map_nil];rw [if_neg (by decide),if_neg (by decide),if_pos trivial,numsP_join (fun e=>ht (by rw [e];rfl)) h.q1];simp only;rw [if_pos ⟨hs1.1,hs1.2,trivial,h.q2⟩]
     refine⟨3,by omega,?_⟩;rw [List.cons_append,List.cons_append,List.nil_append,headGo_skip e3.1 (by decide) h2]
  obtain⟨s2,hs2,k2⟩:=k2;rw [k2];obtain⟨s3,hs3,k3⟩:=headGo_bounds (rest:=rest) (F:=F) (G:=G) bs G4 ⟨p,m,th,q,[],s2⟩ h.b1 e4 hs2 (by simp;exact h.b2);exact⟨s3,hs3,k3⟩
theorem lnsB_head (sets rel:Int) (h1:0<=sets) (h2:0<=rel) (q i:Nat) (r:List UInt8):∃ g Gs,lnsB q i (headL sets rel++10::r)=(⟨(i:Int),q,cCache⟩::g)::Gs:=by
 have hh:=headW_pw h1 h2;have k:=lnW_wds (W:=headW sets rel) (by simp [headW]) hh;have e0:headL sets rel=lnW (headW sets rel):=rfl;rw [e0,lnsB_line q i _ r k.2,if_neg (by rw [k.1];simp [headW])];have e1:lnW (headW sets rel)=[99,97,99,104,101]++([32]++(Lib.join [(digB sets).data.toList,(digB rel).data.toList] [32])):=by
  simp [lnW,headW,Lib.join]
 have e2:scan q false none i (lnW (headW sets rel))=⟨(i:Int),q,cCache⟩::scan q false none (i+5+1) (Lib.join [(digB sets).data.toList,(digB rel).data.toList] [32]):=by
  rw [e1,scan_word q i [99,97,99,104,101] _ (pw_of _ (by decide)) (by simp),scan_sep q i _ _ [32] _ (by decide) (by simp)];rfl
 exact⟨_,_,by rw [e2];rfl⟩
theorem extract_to (u:ByteArray) (A B:List UInt8) (h:u.data.toList=A++B):(u.extract A.length u.size).data.toList=B:=by
 have e0:u.data.toList.length=u.size:=Array.length_toList;have hs:u.size=A.length+B.length:=by rw [<- e0,h,List.length_append]
 rw [ByteArray.data_extract,Array.toList_extract,List.extract_eq_take_drop,h,List.drop_left,hs,Nat.add_sub_cancel_left,List.take_length]
theorem parseC_text {F G:Int->ByteArray} {P M:ByteArray} {s r p m:Int} {L:List Tk} {th q:List Int} {bs:List Bd} (hc:checkE s r L=0) (h:CrOk th q bs) (hP:Wok P) (hM:Wok M) (hp:findN F P 2 1=p) (hm:findN G M 4 1=m) (h0:0<min p m)
  {As:List (List UInt8)} (hA:∀ b ∈ As,(10:UInt8) ∉ b/\wds b=[]) {Z:List UInt8} (hZ:∀ q i,lnsB q i Z=[]) {u:ByteArray} (hu:u.data.toList=linesB As++((certT P M th q bs (printT s r L)).data.toList++Z)) :
  parseC F G u=⟨s,r,L,p,m,th,q,bs,(u.size:Int),0⟩:=by
 obtain⟨c1,c2,c3,c4,_⟩:=checkE_says hc;have hW:=crW_wok hP hM (fun y hy=>(h.th1 y hy).1) (fun y hy=>(h.q1 y hy).1) (fun x hx=>⟨(h.b1 x hx).1.1,(h.b1 x hx).2.1.1,(h.b1 x hx).2.2.1.1,(h.b1 x hx).2.2.2.1⟩);rw [crW_text,List.append_assoc,<- List.append_assoc (linesB As),<- linesB_app] at hu;obtain⟨Gs,g1,g2⟩:=lnsB_lines (As++(crW P M th q bs).map lnW) (fun b hb=>by
  rcases List.mem_append.1 hb with hb|hb
  .exact (hA b hb).1
  .obtain⟨W,hw,rfl⟩:=List.mem_map.1 hb
   exact (lnW_wds (hW W hw).1 (hW W hw).2).2) 1 0 ((printT s r L).data.toList++Z)
 rw [<- hu,<- lns_text] at g1;have g3:Gs.map tx=crW P M th q bs:=by
  rw [g2,List.map_append,List.filter_append];have e1:(As.map wds).filter (fun w=>!w.isEmpty)=[]:=by
   rw [List.filter_eq_nil_iff];intro w hw;obtain⟨b,hb,rfl⟩:=List.mem_map.1 hw;rw [(hA b hb).2];simp
  have e2:((crW P M th q bs).map lnW).map wds=crW P M th q bs:=by
   rw [List.map_map];have:∀ W ∈ crW P M th q bs,(wds ∘ lnW) W=W:=fun W hw=>(lnW_wds (hW W hw).1 (hW W hw).2).1
   rw [List.map_congr_left this,List.map_id']
  rw [e1,e2,List.nil_append];refine List.filter_eq_self.2 (fun w hw=>?_);have:=(hW w hw).1;cases w with
  |nil=>exact absurd rfl this
  |cons a l=>rfl
 obtain⟨A,hA'⟩:∃ A,A=linesB (As++(crW P M th q bs).map lnW):=⟨_,rfl⟩;rw [<- hA'] at hu g1;have hpr:(printT s r L).data.toList++Z=headL s r++10::(linesB (L.map (fun x=>(lineP x).data.toList))++Z):=by
  rw [printT_lines hc];unfold prnL;exact linesB_cons _ _ _
 obtain⟨g,Gr,hgr⟩:=lnsB_head s r c1.1 c2.1 (1+(As++(crW P M th q bs).map lnW).length) (0+A.length) (linesB (L.map (fun x=>(lineP x).data.toList))++Z);rw [hpr,hgr] at g1;obtain⟨st,hst,hgo⟩:=headGo_lines (F:=F) (G:=G) h hp hm h0 (rest:=(⟨((0+A.length:Nat):Int),((1+(As++(crW P M th q bs).map lnW).length:Nat):Int),cCache⟩::g)::Gr) g3;have hfound:headGo F G ⟨p,m,th,q,bs,st⟩ ((⟨((0+A.length:Nat):Int),((1+(As++(crW P M th q bs).map lnW).length:Nat):Int),cCache⟩::g)::Gr)=.found ((0+A.length:Nat):Int) ⟨p,m,th,q,bs,st⟩:=by
  show (if cCache=cCache/\0<st then HdEnd.found _ _ else _)=_;rw [if_pos ⟨rfl,by omega⟩]
 have hext:=extract_to u A ((printT s r L).data.toList++Z) hu;have hpp:parseP (u.extract A.length u.size)=(s,r,L,((u.extract A.length u.size).size:Int),0):=by
  obtain⟨h1,_,h3⟩:=prnL_wds hc;obtain⟨G2,k1,k2⟩:=lnsB_lines (prnL s r L) h1 1 0 Z;rw [h3] at k2;rw [<- printT_lines hc,<- hext,<- lns_text,hZ] at k1;rw [parse_lines hc k2 k1 rfl];exact goP_end c3
 unfold parseC;rw [g1,hgo,hfound];unfold crEnd;simp only [Int.toNat_natCast,Nat.zero_add,hpp,if_true]
end Go.Proofs.YtgnaaokhfpfglaaGreatDoor
end
section
namespace Go.Proofs.YtgnaaokhfpfglaaGreatDoorW.PrintWords
open Go.RowKit
section
variable {P:Program} {d:Nat} {xs ys:Array Value} {f:Field} {fs:List Field} {a b:Value} {r s:Bool} {w:World}
theorem eqf_last (hn:(f.name == "_")=false) (ha:(part f.type xs f.offset).run P w=.ok a w) (hb:(part f.type ys f.offset).run P w=.ok b w) (he:(Op.equalIn d f.type a b).run P w=.ok r w):(Op.eqFields d xs ys [f]).run P w=.ok r w:=by
 have hn':f.name≠ "_":=by simpa using hn
 simp only [Op.eqFields,if_pos hn',Sem.run_bind,ha,hb,he,Result.andThen_ok];cases r<;>simp
theorem eqf_cons (hn:(f.name == "_")=false) (ha:(part f.type xs f.offset).run P w=.ok a w) (hb:(part f.type ys f.offset).run P w=.ok b w) (he:(Op.equalIn d f.type a b).run P w=.ok r w) (hr:(Op.eqFields d xs ys fs).run P w=.ok s w):(Op.eqFields d xs ys (f::fs)).run P w=.ok (r && s) w:=by
 have hn':f.name≠ "_":=by simpa using hn
 rw [Op.eqFields];simp only [if_pos hn',Sem.run_bind,ha,hb,he,Result.andThen_ok];cases r
 .simp
 .simpa using hr
theorem eqA_of {t:TypeId} {fs:Array Field} (hu:P.underlying t=some (.struct fs)) (hp:P.stoodInHeld t=false) (h:(Op.eqFields d xs ys fs.toList).run P w=.ok r w):(Op.equalIn (d+1) t (.agg xs) (.agg ys)).run P w=.ok r w:=by
 have hf:P.fieldsOf t=fs:=by simp [Program.fieldsOf,hu]
 rw [run_equalIn_struct (P:=P) w d t xs ys (by rw [hf];exact hu) hp,hf];exact h
end
end Go.Proofs.YtgnaaokhfpfglaaGreatDoorW.PrintWords
end
section
namespace Go.Proofs.YtgnaaokhfpfglaaGreatDoorW.PrintWords
theorem Reps.one {α:Type} {R:α->List Value->Prop} {ps:List α} {cs:List Value} {p:α} {v:Value} (hp:R p [v]) (h:Reps R 1 ps cs):Reps R 1 (p::ps) (v::cs):=by
 refine⟨by simp [h.1],fun j q hq=>?_⟩;cases j with
 |zero=>
  simp only [List.getElem?_cons_zero,Option.some.injEq] at hq;subst hq
  simpa using hp
 |succ j=>
  simp only [List.getElem?_cons_succ] at hq;have h1:=h.2 j q hq
  simpa [Nat.mul_one] using h1
theorem Reps.front {α:Type} {R:α->List Value->Prop} {size:Nat} {ps:List α} {cs c all:List Value} {p:α} (hp:R p c) (hc:c.length=size) (h:Reps R size ps cs) (ha:c++cs=all):Reps R size (p::ps) all:=by
 subst ha;refine⟨by rw [List.length_append,hc,h.1,List.length_cons,Nat.succ_mul,Nat.add_comm],fun j q hq=>?_⟩;cases j with
 |zero=>
  simp only [List.getElem?_cons_zero,Option.some.injEq] at hq;subst hq;rw [Nat.zero_mul,List.drop_zero,List.take_append_of_le_length (by omega),List.take_of_length_le (by omega)];exact hp
 |succ j=>
  simp only [List.getElem?_cons_succ] at hq;have h1:=h.2 j q hq;rw [Nat.succ_mul,List.drop_append,List.drop_of_length_le (by rw [hc];exact Nat.le_add_left _ _),List.nil_append,hc,Nat.add_sub_cancel];exact h1
theorem Reps.c2 {α:Type} {R:α->List Value->Prop} {ps:List α} {cs:List Value} {p:α} {va vb:Value} (hp:R p [va,vb]) (h:Reps R 2 ps cs):Reps R 2 (p::ps) (va::vb::cs):=Reps.front hp rfl h rfl
theorem Reps.c3 {α:Type} {R:α->List Value->Prop} {ps:List α} {cs:List Value} {p:α} {va vb vc:Value} (hp:R p [va,vb,vc]) (h:Reps R 3 ps cs):Reps R 3 (p::ps) (va::vb::vc::cs):=Reps.front hp rfl h rfl
theorem Reps.c4 {α:Type} {R:α->List Value->Prop} {ps:List α} {cs:List Value} {p:α} {va vb vc vd:Value} (hp:R p [va,vb,vc,vd]) (h:Reps R 4 ps cs):Reps R 4 (p::ps) (va::vb::vc::vd::cs):=Reps.front hp rfl h rfl
theorem Reps.c5 {α:Type} {R:α->List Value->Prop} {ps:List α} {cs:List Value} {p:α} {va vb vc vd ve:Value} (hp:R p [va,vb,vc,vd,ve]) (h:Reps R 5 ps cs):Reps R 5 (p::ps) (va::vb::vc::vd::ve::cs):=Reps.front hp rfl h rfl
theorem Reps.c6 {α:Type} {R:α->List Value->Prop} {ps:List α} {cs:List Value} {p:α} {va vb vc vd ve vf:Value} (hp:R p [va,vb,vc,vd,ve,vf]) (h:Reps R 6 ps cs):Reps R 6 (p::ps) (va::vb::vc::vd::ve::vf::cs):=Reps.front hp rfl h rfl
theorem Reps.c7 {α:Type} {R:α->List Value->Prop} {ps:List α} {cs:List Value} {p:α} {va vb vc vd ve vf vg:Value} (hp:R p [va,vb,vc,vd,ve,vf,vg]) (h:Reps R 7 ps cs):Reps R 7 (p::ps) (va::vb::vc::vd::ve::vf::vg::cs):=Reps.front hp rfl h rfl
theorem Reps.c8 {α:Type} {R:α->List Value->Prop} {ps:List α} {cs:List Value} {p:α} {va vb vc vd ve vf vg vh:Value} (hp:R p [va,vb,vc,vd,ve,vf,vg,vh]) (h:Reps R 8 ps cs):Reps R 8 (p::ps) (va::vb::vc::vd::ve::vf::vg::vh::cs):=Reps.front hp rfl h rfl
theorem Reps.c9 {α:Type} {R:α->List Value->Prop} {ps:List α} {cs:List Value} {p:α} {va vb vc vd ve vf vg vh vi:Value} (hp:R p [va,vb,vc,vd,ve,vf,vg,vh,vi]) (h:Reps R 9 ps cs):Reps R 9 (p::ps) (va::vb::vc::vd::ve::vf::vg::vh::vi::cs):=Reps.front hp rfl h rfl
theorem Reps.c10 {α:Type} {R:α->List Value->Prop} {ps:List α} {cs:List Value} {p:α} {va vb vc vd ve vf vg vh vi vj:Value} (hp:R p [va,vb,vc,vd,ve,vf,vg,vh,vi,vj]) (h:Reps R 10 ps cs):Reps R 10 (p::ps) (va::vb::vc::vd::ve::vf::vg::vh::vi::vj::cs):=Reps.front hp rfl h rfl
end Go.Proofs.YtgnaaokhfpfglaaGreatDoorW.PrintWords
end
section
namespace Go.Proofs.YtgnaaokhfpfglaaGreatDoorW.PrintLast
def up (b:Nat->Bool) (i:Nat):Nat->Bool:=fun j=>if j=i then true else b j
section
variable {P:Program} {ops:Array Oper} {Q:Exit->Act->World->Prop} {md:Region.Mode} {T:Bool × List (List Nat × List Nat)} {B:List Nat} {O:List Nat} {b:Nat->Bool} {i j n:Nat}
end
end Go.Proofs.YtgnaaokhfpfglaaGreatDoorW.PrintLast
end
section
namespace Go.Proofs.YtgnaaokhfpfglaaGreatDoorW.PrintWords
open Go.RowKit
section
variable {P:Program} {ops:Array Oper} {rest:List Oper} {o:Oper} {a:Act} {Q:Exit->Act->World->Prop} {W:World}
theorem qbb (hw:Region.wanted o (yielded ops a.tmps)=true) (h:wpList P ops Q ({ o with guard:=none }::rest) a W):wpList P ops Q (o::rest) a W:=by
 have h1:Region.wanted { o with guard:=none } (yielded ops a.tmps)=true:=rfl;unfold wpList at h ⊢;rw [if_pos h1] at h;rw [if_pos hw];exact h
end
end Go.Proofs.YtgnaaokhfpfglaaGreatDoorW.PrintWords
end
section
namespace Go.Proofs.YtgnaaokhfpfglaaGreatDoor.PCertBack
open Go.RowKit Go.Proofs.YtgnaaokhfpfglaaGreatDoorW.PrintWords Go.Proofs.YtgnaaokhfpfglaaGreatDoorW.PrintLast Go.Proofs.YtgnaaokhfpfglaaGreatDoorW.PrintMore
attribute [local go_sem] qa8 qa6 max_two min_two qaU qaT qa7 qa5
set_option linter.unusedVariables false
set_option linter.unusedSimpArgs false
noncomputable section
def errW:Option Int->Value
 |none=>.nilIface
 |some c=>.iface 0 (.int .i64 c)
theorem qap:errW none=.nilIface:=rfl
theorem qao (c:Int):errW (some c)=.iface 0 (.int .i64 c):=rfl
theorem info2:(Tryz.prog.info? 2).map (fun i=>(i.zero,i.size,i.bytes))=some (some (.int .i64 0),1,8):=by kernel_rfl
theorem info3:(Tryz.prog.info? 3).map (fun i=>(i.zero,i.size,i.bytes))=some (some (.int .i64 0),1,8):=by kernel_rfl
theorem info58:(Tryz.prog.info? 58).map (fun i=>(i.zero,i.size,i.bytes))=some (some (.agg #[(.int .i64 0),(.int .i64 0),(.int .i64 0),(.int .i64 0),(.int .i64 0),(.slice none 0 0),(.slice none 0 0)]),7,88):=by kernel_rfl
theorem info60:(Tryz.prog.info? 60).map (fun i=>(i.zero,i.size,i.bytes))=some (some (.agg #[(.int .i64 0),(.int .i64 0),(.int .i64 0),(.int .i64 0)]),4,32):=by kernel_rfl
theorem info112:(Tryz.prog.info? 112).map (fun i=>(i.zero,i.size,i.bytes))=some (some (.agg #[(.int .i64 0),(.int .i64 0),(.int .i64 0),(.int .i64 0),(.int .i64 0),(.slice none 0 0)]),6,64):=by kernel_rfl
structure S58 where
 f0:Int
 f1:Int
 f2:Int
 f3:Int
 f4:Int
 f5:(List Int)
 f6:(List Int)
def z58:S58:=⟨(0:Int),(0:Int),(0:Int),(0:Int),(0:Int),([]:List Int),([]:List Int)⟩
def k58:Kd S58:=Kd.iso (Kd.pair (Kd.int .i64) (Kd.pair (Kd.int .i64) (Kd.pair (Kd.int .i64) (Kd.pair (Kd.int .i64) (Kd.pair (Kd.int .i64) (Kd.pair (Kd.slice 2 (Kd.int .i64)) (Kd.slice 3 (Kd.int .i64)))))))) (fun x:S58=>(x.f0,x.f1,x.f2,x.f3,x.f4,x.f5,x.f6))
theorem k58_open {w:World} {x:S58} {cs:List Value} (h:k58.K w x cs):∃ A5 c5 A6 c6,cs=[.int .i64 x.f0,.int .i64 x.f1,.int .i64 x.f2,.int .i64 x.f3,.int .i64 x.f4,.slice A5 x.f5.length c5,.slice A6 x.f6.length c6]/\x.f5.length<=c5/\(Kd.int .i64).C w A5 x.f5.length x.f5/\x.f6.length<=c6/\(Kd.int .i64).C w A6 x.f6.length x.f6:=by
 obtain⟨_,_,rfl,rfl,⟨_,_,rfl,rfl,⟨_,_,rfl,rfl,⟨_,_,rfl,rfl,⟨_,_,rfl,rfl,⟨_,_,rfl,⟨A5,c5,rfl,l5,g5⟩,⟨A6,c6,rfl,l6,g6⟩⟩⟩⟩⟩⟩⟩:=h;exact⟨A5,c5,A6,c6,rfl,l5,g5,l6,g6⟩
theorem k58_mk (w:World) (x:S58) {A5:Option Addr} {c5:Nat} (l5:x.f5.length<=c5) (g5:(Kd.int .i64).C w A5 x.f5.length x.f5) {A6:Option Addr} {c6:Nat} (l6:x.f6.length<=c6) (g6:(Kd.int .i64).C w A6 x.f6.length x.f6):k58.K w x [.int .i64 x.f0,.int .i64 x.f1,.int .i64 x.f2,.int .i64 x.f3,.int .i64 x.f4,.slice A5 x.f5.length c5,.slice A6 x.f6.length c6]:=⟨[.int .i64 x.f0],[.int .i64 x.f1,.int .i64 x.f2,.int .i64 x.f3,.int .i64 x.f4,.slice A5 x.f5.length c5,.slice A6 x.f6.length c6],rfl,rfl,⟨[.int .i64 x.f1],[.int .i64 x.f2,.int .i64 x.f3,.int .i64 x.f4,.slice A5 x.f5.length c5,.slice A6 x.f6.length c6],rfl,rfl,⟨[.int .i64 x.f2],[.int .i64 x.f3,.int .i64 x.f4,.slice A5 x.f5.length c5,.slice A6 x.f6.length c6],rfl,rfl,⟨[.int .i64 x.f3],[.int .i64 x.f4,.slice A5 x.f5.length c5,.slice A6 x.f6.length c6],rfl,rfl,⟨[.int .i64 x.f4],[.slice A5 x.f5.length c5,.slice A6 x.f6.length c6],rfl,rfl,⟨[.slice A5 x.f5.length c5],[.slice A6 x.f6.length c6],rfl,⟨A5,c5,rfl,l5,g5⟩,⟨A6,c6,rfl,l6,g6⟩⟩⟩⟩⟩⟩⟩
theorem k58_mkM (w:World) (base:Nat) (ok:Nat->Prop) (x:S58) {v5:Value} (g5:(Kd.int .i64).R 2 w base ok v5 x.f5) {v6:Value} (g6:(Kd.int .i64).R 3 w base ok v6 x.f6):k58.M w base ok x [.int .i64 x.f0,.int .i64 x.f1,.int .i64 x.f2,.int .i64 x.f3,.int .i64 x.f4,v5,v6]:=⟨[.int .i64 x.f0],[.int .i64 x.f1,.int .i64 x.f2,.int .i64 x.f3,.int .i64 x.f4,v5,v6],rfl,rfl,⟨[.int .i64 x.f1],[.int .i64 x.f2,.int .i64 x.f3,.int .i64 x.f4,v5,v6],rfl,rfl,⟨[.int .i64 x.f2],[.int .i64 x.f3,.int .i64 x.f4,v5,v6],rfl,rfl,⟨[.int .i64 x.f3],[.int .i64 x.f4,v5,v6],rfl,rfl,⟨[.int .i64 x.f4],[v5,v6],rfl,rfl,⟨[v5],[v6],rfl,⟨v5,rfl,g5⟩,⟨v6,rfl,g6⟩⟩⟩⟩⟩⟩⟩
theorem qbg {W:World} {ok:Nat->Prop} {x:S58} {cs:List Value} (h:Kd.FK k58 W ok x cs):∃ A5 c5 A6 c6,cs=[.int .i64 x.f0,.int .i64 x.f1,.int .i64 x.f2,.int .i64 x.f3,.int .i64 x.f4,.slice A5 x.f5.length c5,.slice A6 x.f6.length c6]/\x.f5.length<=c5/\Kd.F (Kd.int .i64) W ok A5 x.f5.length x.f5/\x.f6.length<=c6/\Kd.F (Kd.int .i64) W ok A6 x.f6.length x.f6:=by
 obtain⟨A5,c5,A6,c6,rfl,l5,_,l6,_⟩:=k58_open (Kd.FK_now h);exact⟨A5,c5,A6,c6,rfl,l5,(fun W' hW=>by obtain⟨A5_,c5_,A6_,c6_,he,l5_,g5_,l6_,g6_⟩:=k58_open (h W' hW);injection (Option.some.inj (show some (Value.slice A5 x.f5.length c5)=some (Value.slice A5_ x.f5.length c5_) from congrArg (fun l=>l[5]?) he)) with ha_ _ _;rw [ha_];exact g5_),l6,(fun W' hW=>by obtain⟨A5_,c5_,A6_,c6_,he,l5_,g5_,l6_,g6_⟩:=k58_open (h W' hW);injection (Option.some.inj (show some (Value.slice A6 x.f6.length c6)=some (Value.slice A6_ x.f6.length c6_) from congrArg (fun l=>l[6]?) he)) with ha_ _ _;rw [ha_];exact g6_)⟩
theorem k58_mkF (W:World) (ok:Nat->Prop) (x:S58) {A5:Option Addr} {c5:Nat} (l5:x.f5.length<=c5) (g5:Kd.F (Kd.int .i64) W ok A5 x.f5.length x.f5) {A6:Option Addr} {c6:Nat} (l6:x.f6.length<=c6) (g6:Kd.F (Kd.int .i64) W ok A6 x.f6.length x.f6):Kd.FK k58 W ok x [.int .i64 x.f0,.int .i64 x.f1,.int .i64 x.f2,.int .i64 x.f3,.int .i64 x.f4,.slice A5 x.f5.length c5,.slice A6 x.f6.length c6]:=fun W2 hW=>k58_mk W2 x l5 (g5 W2 hW) l6 (g6 W2 hW)
def qan (xs:List S58) (i:Int):S58:=xs.getD i.toNat z58
theorem at_T58 {w:World} {A:Option Addr} {n:Nat} {xs:List S58} (h:Kd.C k58 w A n xs) (i:Int) (h0:0<=i) (h1:i<n):∃ ad A5 c5 A6 c6,A=some ad/\w.cell? (ad.add (i.toNat * 7))=some (.int .i64 (qan xs i).f0)/\w.cell? ⟨(ad.add (i.toNat * 7)).block,(ad.add (i.toNat * 7)).off+1,none⟩=some (.int .i64 (qan xs i).f1)/\w.cell? ⟨(ad.add (i.toNat * 7)).block,(ad.add (i.toNat * 7)).off+2,none⟩=some (.int .i64 (qan xs i).f2)/\w.cell? ⟨(ad.add (i.toNat * 7)).block,(ad.add (i.toNat * 7)).off+3,none⟩=some (.int .i64 (qan xs i).f3)/\w.cell? ⟨(ad.add (i.toNat * 7)).block,(ad.add (i.toNat * 7)).off+4,none⟩=some (.int .i64 (qan xs i).f4)/\w.cell? ⟨(ad.add (i.toNat * 7)).block,(ad.add (i.toNat * 7)).off+5,none⟩=some (.slice A5 (qan xs i).f5.length c5)/\w.cell? ⟨(ad.add (i.toNat * 7)).block,(ad.add (i.toNat * 7)).off+6,none⟩=some (.slice A6 (qan xs i).f6.length c6)/\(qan xs i).f5.length<=c5/\(Kd.int .i64).C w A5 (qan xs i).f5.length (qan xs i).f5/\(qan xs i).f6.length<=c6/\(Kd.int .i64).C w A6 (qan xs i).f6.length (qan xs i).f6:=by
 obtain⟨ad,c,e,_,hK,hc0⟩:=Kd.C_get h z58 i h0 h1;have hc:∀ j u,c[j]? = some u->w.cell? (ad.add (i.toNat * 7+j))=some u:=hc0;obtain⟨A5,c5,A6,c6,rfl,l5,g5,l6,g6⟩:=k58_open hK;exact⟨ad,A5,c5,A6,c6,e,hc 0 _ rfl,by rw [<- qav _ _ 1 (by omega)];exact hc 1 _ rfl,by rw [<- qav _ _ 2 (by omega)];exact hc 2 _ rfl,by rw [<- qav _ _ 3 (by omega)];exact hc 3 _ rfl,by rw [<- qav _ _ 4 (by omega)];exact hc 4 _ rfl,by rw [<- qav _ _ 5 (by omega)];exact hc 5 _ rfl,by rw [<- qav _ _ 6 (by omega)];exact hc 6 _ rfl,l5,g5,l6,g6⟩
structure S37 where
 f0:Int
 f1:Int
 f2:(List S58)
def z37:S37:=⟨(0:Int),(0:Int),([]:List S58)⟩
structure S60 where
 f0:Int
 f1:Int
 f2:Int
 f3:Int
def z60:S60:=⟨(0:Int),(0:Int),(0:Int),(0:Int)⟩
def k60:Kd S60:=Kd.iso (Kd.pair (Kd.int .i64) (Kd.pair (Kd.int .i64) (Kd.pair (Kd.int .i64) (Kd.int .i64)))) (fun x:S60=>(x.f0,x.f1,x.f2,x.f3))
theorem k60_open {w:World} {x:S60} {cs:List Value} (h:k60.K w x cs):cs=[.int .i64 x.f0,.int .i64 x.f1,.int .i64 x.f2,.int .i64 x.f3]:=by
 obtain⟨_,_,rfl,rfl,⟨_,_,rfl,rfl,⟨_,_,rfl,rfl,rfl⟩⟩⟩:=h;exact rfl
theorem k60_mkM (w:World) (base:Nat) (ok:Nat->Prop) (x:S60):k60.M w base ok x [.int .i64 x.f0,.int .i64 x.f1,.int .i64 x.f2,.int .i64 x.f3]:=⟨[.int .i64 x.f0],[.int .i64 x.f1,.int .i64 x.f2,.int .i64 x.f3],rfl,rfl,⟨[.int .i64 x.f1],[.int .i64 x.f2,.int .i64 x.f3],rfl,rfl,⟨[.int .i64 x.f2],[.int .i64 x.f3],rfl,rfl,rfl⟩⟩⟩
def qaL (xs:List S60) (i:Int):S60:=xs.getD i.toNat z60
theorem at_T60 {w:World} {A:Option Addr} {n:Nat} {xs:List S60} (h:Kd.C k60 w A n xs) (i:Int) (h0:0<=i) (h1:i<n):∃ ad ,A=some ad/\w.cell? (ad.add (i.toNat * 4))=some (.int .i64 (qaL xs i).f0)/\w.cell? ⟨(ad.add (i.toNat * 4)).block,(ad.add (i.toNat * 4)).off+1,none⟩=some (.int .i64 (qaL xs i).f1)/\w.cell? ⟨(ad.add (i.toNat * 4)).block,(ad.add (i.toNat * 4)).off+2,none⟩=some (.int .i64 (qaL xs i).f2)/\w.cell? ⟨(ad.add (i.toNat * 4)).block,(ad.add (i.toNat * 4)).off+3,none⟩=some (.int .i64 (qaL xs i).f3):=by
 obtain⟨ad,c,e,_,hK,hc0⟩:=Kd.C_get h z60 i h0 h1;have hc:∀ j u,c[j]? = some u->w.cell? (ad.add (i.toNat * 4+j))=some u:=hc0;obtain rfl:=k60_open hK;exact⟨ad,e,hc 0 _ rfl,by rw [<- qav _ _ 1 (by omega)];exact hc 1 _ rfl,by rw [<- qav _ _ 2 (by omega)];exact hc 2 _ rfl,by rw [<- qav _ _ 3 (by omega)];exact hc 3 _ rfl⟩
structure S40 where
 f0:S37
 f1:Int
 f2:Int
 f3:(List Int)
 f4:(List Int)
structure S43 where
 f0:S40
 f1:(List S60)
structure S112 where
 f0:Int
 f1:Int
 f2:Int
 f3:Int
 f4:Int
 f5:(List Int)
def z112:S112:=⟨(0:Int),(0:Int),(0:Int),(0:Int),(0:Int),([]:List Int)⟩
def k112:Kd S112:=Kd.iso (Kd.pair (Kd.int .i64) (Kd.pair (Kd.int .i64) (Kd.pair (Kd.int .i64) (Kd.pair (Kd.int .i64) (Kd.pair (Kd.int .i64) (Kd.slice 3 (Kd.int .i64))))))) (fun x:S112=>(x.f0,x.f1,x.f2,x.f3,x.f4,x.f5))
theorem k112_open {w:World} {x:S112} {cs:List Value} (h:k112.K w x cs):∃ A5 c5,cs=[.int .i64 x.f0,.int .i64 x.f1,.int .i64 x.f2,.int .i64 x.f3,.int .i64 x.f4,.slice A5 x.f5.length c5]/\x.f5.length<=c5/\(Kd.int .i64).C w A5 x.f5.length x.f5:=by
 obtain⟨_,_,rfl,rfl,⟨_,_,rfl,rfl,⟨_,_,rfl,rfl,⟨_,_,rfl,rfl,⟨_,_,rfl,rfl,⟨A5,c5,rfl,l5,g5⟩⟩⟩⟩⟩⟩:=h;exact⟨A5,c5,rfl,l5,g5⟩
theorem k112_mk (w:World) (x:S112) {A5:Option Addr} {c5:Nat} (l5:x.f5.length<=c5) (g5:(Kd.int .i64).C w A5 x.f5.length x.f5):k112.K w x [.int .i64 x.f0,.int .i64 x.f1,.int .i64 x.f2,.int .i64 x.f3,.int .i64 x.f4,.slice A5 x.f5.length c5]:=⟨[.int .i64 x.f0],[.int .i64 x.f1,.int .i64 x.f2,.int .i64 x.f3,.int .i64 x.f4,.slice A5 x.f5.length c5],rfl,rfl,⟨[.int .i64 x.f1],[.int .i64 x.f2,.int .i64 x.f3,.int .i64 x.f4,.slice A5 x.f5.length c5],rfl,rfl,⟨[.int .i64 x.f2],[.int .i64 x.f3,.int .i64 x.f4,.slice A5 x.f5.length c5],rfl,rfl,⟨[.int .i64 x.f3],[.int .i64 x.f4,.slice A5 x.f5.length c5],rfl,rfl,⟨[.int .i64 x.f4],[.slice A5 x.f5.length c5],rfl,rfl,⟨A5,c5,rfl,l5,g5⟩⟩⟩⟩⟩⟩
theorem k112_mkF (W:World) (ok:Nat->Prop) (x:S112) {A5:Option Addr} {c5:Nat} (l5:x.f5.length<=c5) (g5:Kd.F (Kd.int .i64) W ok A5 x.f5.length x.f5):Kd.FK k112 W ok x [.int .i64 x.f0,.int .i64 x.f1,.int .i64 x.f2,.int .i64 x.f3,.int .i64 x.f4,.slice A5 x.f5.length c5]:=fun W2 hW=>k112_mk W2 x l5 (g5 W2 hW)
def qaE (xs:List S112) (i:Int):S112:=xs.getD i.toNat z112
theorem at_T112 {w:World} {A:Option Addr} {n:Nat} {xs:List S112} (h:Kd.C k112 w A n xs) (i:Int) (h0:0<=i) (h1:i<n):∃ ad A5 c5,A=some ad/\w.cell? (ad.add (i.toNat * 6))=some (.int .i64 (qaE xs i).f0)/\w.cell? ⟨(ad.add (i.toNat * 6)).block,(ad.add (i.toNat * 6)).off+1,none⟩=some (.int .i64 (qaE xs i).f1)/\w.cell? ⟨(ad.add (i.toNat * 6)).block,(ad.add (i.toNat * 6)).off+2,none⟩=some (.int .i64 (qaE xs i).f2)/\w.cell? ⟨(ad.add (i.toNat * 6)).block,(ad.add (i.toNat * 6)).off+3,none⟩=some (.int .i64 (qaE xs i).f3)/\w.cell? ⟨(ad.add (i.toNat * 6)).block,(ad.add (i.toNat * 6)).off+4,none⟩=some (.int .i64 (qaE xs i).f4)/\w.cell? ⟨(ad.add (i.toNat * 6)).block,(ad.add (i.toNat * 6)).off+5,none⟩=some (.slice A5 (qaE xs i).f5.length c5)/\(qaE xs i).f5.length<=c5/\(Kd.int .i64).C w A5 (qaE xs i).f5.length (qaE xs i).f5:=by
 obtain⟨ad,c,e,_,hK,hc0⟩:=Kd.C_get h z112 i h0 h1;have hc:∀ j u,c[j]? = some u->w.cell? (ad.add (i.toNat * 6+j))=some u:=hc0;obtain⟨A5,c5,rfl,l5,g5⟩:=k112_open hK;exact⟨ad,A5,c5,e,hc 0 _ rfl,by rw [<- qav _ _ 1 (by omega)];exact hc 1 _ rfl,by rw [<- qav _ _ 2 (by omega)];exact hc 2 _ rfl,by rw [<- qav _ _ 3 (by omega)];exact hc 3 _ rfl,by rw [<- qav _ _ 4 (by omega)];exact hc 4 _ rfl,by rw [<- qav _ _ 5 (by omega)];exact hc 5 _ rfl,l5,g5⟩
structure S113 where
 f0:Int
 f1:Int
 f2:Int
 f3:Int
 f4:Int
 f5:(List Int)
def z113:S113:=⟨(0:Int),(0:Int),(0:Int),(0:Int),(0:Int),([]:List Int)⟩
def k113:Kd S113:=Kd.iso (Kd.pair (Kd.int .i64) (Kd.pair (Kd.int .i64) (Kd.pair (Kd.int .i64) (Kd.pair (Kd.int .i64) (Kd.pair (Kd.int .i64) (Kd.slice 3 (Kd.int .i64))))))) (fun x:S113=>(x.f0,x.f1,x.f2,x.f3,x.f4,x.f5))
theorem k113_heap:Kd.Heap k113:=Kd.heap_iso _ (Kd.heap_pair (Kd.heap_int .i64) (Kd.heap_pair (Kd.heap_int .i64) (Kd.heap_pair (Kd.heap_int .i64) (Kd.heap_pair (Kd.heap_int .i64) (Kd.heap_pair (Kd.heap_int .i64) (Kd.heap_slice 3 (Kd.heap_int .i64)))))))
theorem k113_open {w:World} {x:S113} {cs:List Value} (h:k113.K w x cs):∃ A5 c5,cs=[.int .i64 x.f0,.int .i64 x.f1,.int .i64 x.f2,.int .i64 x.f3,.int .i64 x.f4,.slice A5 x.f5.length c5]/\x.f5.length<=c5/\(Kd.int .i64).C w A5 x.f5.length x.f5:=by
 obtain⟨_,_,rfl,rfl,⟨_,_,rfl,rfl,⟨_,_,rfl,rfl,⟨_,_,rfl,rfl,⟨_,_,rfl,rfl,⟨A5,c5,rfl,l5,g5⟩⟩⟩⟩⟩⟩:=h;exact⟨A5,c5,rfl,l5,g5⟩
theorem k113_openF {W:World} {ok:Nat->Prop} {x:S113} {cs:List Value} (h:Kd.FK k113 W ok x cs):∃ A5 c5,cs=[.int .i64 x.f0,.int .i64 x.f1,.int .i64 x.f2,.int .i64 x.f3,.int .i64 x.f4,.slice A5 x.f5.length c5]/\x.f5.length<=c5/\Kd.F (Kd.int .i64) W ok A5 x.f5.length x.f5:=by
 obtain⟨A5,c5,rfl,l5,_⟩:=k113_open (Kd.FK_now h);exact⟨A5,c5,rfl,l5,(fun W' hW=>by obtain⟨A5_,c5_,he,l5_,g5_⟩:=k113_open (h W' hW);injection (Option.some.inj (show some (Value.slice A5 x.f5.length c5)=some (Value.slice A5_ x.f5.length c5_) from congrArg (fun l=>l[5]?) he)) with ha_ _ _;rw [ha_];exact g5_)⟩
def qay (xs:List S113) (i:Int):S113:=xs.getD i.toNat z113
theorem at_T113 {w:World} {A:Option Addr} {n:Nat} {xs:List S113} (h:Kd.C k113 w A n xs) (i:Int) (h0:0<=i) (h1:i<n):∃ ad A5 c5,A=some ad/\w.cell? (ad.add (i.toNat * 6))=some (.int .i64 (qay xs i).f0)/\w.cell? ⟨(ad.add (i.toNat * 6)).block,(ad.add (i.toNat * 6)).off+1,none⟩=some (.int .i64 (qay xs i).f1)/\w.cell? ⟨(ad.add (i.toNat * 6)).block,(ad.add (i.toNat * 6)).off+2,none⟩=some (.int .i64 (qay xs i).f2)/\w.cell? ⟨(ad.add (i.toNat * 6)).block,(ad.add (i.toNat * 6)).off+3,none⟩=some (.int .i64 (qay xs i).f3)/\w.cell? ⟨(ad.add (i.toNat * 6)).block,(ad.add (i.toNat * 6)).off+4,none⟩=some (.int .i64 (qay xs i).f4)/\w.cell? ⟨(ad.add (i.toNat * 6)).block,(ad.add (i.toNat * 6)).off+5,none⟩=some (.slice A5 (qay xs i).f5.length c5)/\(qay xs i).f5.length<=c5/\(Kd.int .i64).C w A5 (qay xs i).f5.length (qay xs i).f5:=by
 obtain⟨ad,c,e,_,hK,hc0⟩:=Kd.C_get h z113 i h0 h1;have hc:∀ j u,c[j]? = some u->w.cell? (ad.add (i.toNat * 6+j))=some u:=hc0;obtain⟨A5,c5,rfl,l5,g5⟩:=k113_open hK;exact⟨ad,A5,c5,e,hc 0 _ rfl,by rw [<- qav _ _ 1 (by omega)];exact hc 1 _ rfl,by rw [<- qav _ _ 2 (by omega)];exact hc 2 _ rfl,by rw [<- qav _ _ 3 (by omega)];exact hc 3 _ rfl,by rw [<- qav _ _ 4 (by omega)];exact hc 4 _ rfl,by rw [<- qav _ _ 5 (by omega)];exact hc 5 _ rfl,l5,g5⟩
structure S69 where
 f0:Int
 f1:Int
 f2:Int
 f3:Int
def z69:S69:=⟨(0:Int),(0:Int),(0:Int),(0:Int)⟩
def k69:Kd S69:=Kd.iso (Kd.pair (Kd.int .i64) (Kd.pair (Kd.int .i64) (Kd.pair (Kd.int .i64) (Kd.int .i64)))) (fun x:S69=>(x.f0,x.f1,x.f2,x.f3))
theorem k69_open {w:World} {x:S69} {cs:List Value} (h:k69.K w x cs):cs=[.int .i64 x.f0,.int .i64 x.f1,.int .i64 x.f2,.int .i64 x.f3]:=by
 obtain⟨_,_,rfl,rfl,⟨_,_,rfl,rfl,⟨_,_,rfl,rfl,rfl⟩⟩⟩:=h;exact rfl
def qaH (xs:List S69) (i:Int):S69:=xs.getD i.toNat z69
theorem at_T69 {w:World} {A:Option Addr} {n:Nat} {xs:List S69} (h:Kd.C k69 w A n xs) (i:Int) (h0:0<=i) (h1:i<n):∃ ad ,A=some ad/\w.cell? (ad.add (i.toNat * 4))=some (.int .i64 (qaH xs i).f0)/\w.cell? ⟨(ad.add (i.toNat * 4)).block,(ad.add (i.toNat * 4)).off+1,none⟩=some (.int .i64 (qaH xs i).f1)/\w.cell? ⟨(ad.add (i.toNat * 4)).block,(ad.add (i.toNat * 4)).off+2,none⟩=some (.int .i64 (qaH xs i).f2)/\w.cell? ⟨(ad.add (i.toNat * 4)).block,(ad.add (i.toNat * 4)).off+3,none⟩=some (.int .i64 (qaH xs i).f3):=by
 obtain⟨ad,c,e,_,hK,hc0⟩:=Kd.C_get h z69 i h0 h1;have hc:∀ j u,c[j]? = some u->w.cell? (ad.add (i.toNat * 4+j))=some u:=hc0;obtain rfl:=k69_open hK;exact⟨ad,e,hc 0 _ rfl,by rw [<- qav _ _ 1 (by omega)];exact hc 1 _ rfl,by rw [<- qav _ _ 2 (by omega)];exact hc 2 _ rfl,by rw [<- qav _ _ 3 (by omega)];exact hc 3 _ rfl⟩
structure S24 where
 f0:Int
 f1:Int
 f2:(List S113)
def k24:Kd S24:=Kd.iso (Kd.pair (Kd.int .i64) (Kd.pair (Kd.int .i64) (Kd.slice 113 k113))) (fun x:S24=>(x.f0,x.f1,x.f2))
theorem k24_open {w:World} {x:S24} {cs:List Value} (h:k24.K w x cs):∃ A2 c2,cs=[.int .i64 x.f0,.int .i64 x.f1,.slice A2 x.f2.length c2]/\x.f2.length<=c2/\k113.C w A2 x.f2.length x.f2:=by
 obtain⟨_,_,rfl,rfl,⟨_,_,rfl,rfl,⟨A2,c2,rfl,l2,g2⟩⟩⟩:=h;exact⟨A2,c2,rfl,l2,g2⟩
structure S27 where
 f0:Int
 f1:Int
 f2:(List Int)
 f3:(List Int)
def k27:Kd S27:=Kd.iso (Kd.pair (Kd.int .i64) (Kd.pair (Kd.int .i64) (Kd.pair (Kd.slice 3 (Kd.int .i64)) (Kd.slice 3 (Kd.int .i64))))) (fun x:S27=>(x.f0,x.f1,x.f2,x.f3))
theorem k27_open {w:World} {x:S27} {cs:List Value} (h:k27.K w x cs):∃ A2 c2 A3 c3,cs=[.int .i64 x.f0,.int .i64 x.f1,.slice A2 x.f2.length c2,.slice A3 x.f3.length c3]/\x.f2.length<=c2/\(Kd.int .i64).C w A2 x.f2.length x.f2/\x.f3.length<=c3/\(Kd.int .i64).C w A3 x.f3.length x.f3:=by
 obtain⟨_,_,rfl,rfl,⟨_,_,rfl,rfl,⟨_,_,rfl,⟨A2,c2,rfl,l2,g2⟩,⟨A3,c3,rfl,l3,g3⟩⟩⟩⟩:=h;exact⟨A2,c2,A3,c3,rfl,l2,g2,l3,g3⟩
structure S30 where
 f0:S24
 f1:S27
 f2:(List S69)
def k30:Kd S30:=Kd.iso (Kd.pair k24 (Kd.pair k27 (Kd.slice 69 k69))) (fun x:S30=>(x.f0,x.f1,x.f2))
theorem k30_open {w:World} {x:S30} {cs:List Value} (h:k30.K w x cs):∃ A2 c2 A5 c5 A6 c6 A7 c7,cs=[.int .i64 x.f0.f0,.int .i64 x.f0.f1,.slice A2 x.f0.f2.length c2,.int .i64 x.f1.f0,.int .i64 x.f1.f1,.slice A5 x.f1.f2.length c5,.slice A6 x.f1.f3.length c6,.slice A7 x.f2.length c7]/\x.f0.f2.length<=c2/\k113.C w A2 x.f0.f2.length x.f0.f2/\x.f1.f2.length<=c5/\(Kd.int .i64).C w A5 x.f1.f2.length x.f1.f2/\x.f1.f3.length<=c6/\(Kd.int .i64).C w A6 x.f1.f3.length x.f1.f3/\x.f2.length<=c7/\k69.C w A7 x.f2.length x.f2:=by
 obtain⟨_,_,rfl,s0,⟨_,_,rfl,s3,⟨A7,c7,rfl,l7,g7⟩⟩⟩:=h;obtain⟨A2,c2,rfl,l2,g2⟩:=k24_open s0;obtain⟨A5,c5,A6,c6,rfl,l5,g5,l6,g6⟩:=k27_open s3;exact⟨A2,c2,A5,c5,A6,c6,A7,c7,rfl,l2,g2,l5,g5,l6,g6,l7,g7⟩
end
end Go.Proofs.YtgnaaokhfpfglaaGreatDoor.PCertBack
end
section
namespace Go.Proofs.YtgnaaokhfpfglaaGreatDoor.PCertBack
open Go.RowKit Go.Proofs.YtgnaaokhfpfglaaGreatDoorW.PrintWords
set_option maxRecDepth 100000
def ok113 (x:S113):Prop:=(Lit.int .i64 x.f0).wf=true/\(Lit.int .i64 x.f1).wf=true/\(Lit.int .i64 x.f2).wf=true/\(Lit.int .i64 x.f3).wf=true/\(Lit.int .i64 x.f4).wf=true/\(x.f5.length<=maxLen/\∀ y ∈ x.f5,(Lit.int .i64 y).wf=true)
theorem opens113:Opens Tryz.prog 113 k113 ok113:=Opens.struct (fun x:S113=>(x.f0,x.f1,x.f2,x.f3,x.f4,x.f5)) (fun x=>(⟨x.1,x.2.1,x.2.2.1,x.2.2.2.1,x.2.2.2.2.1,x.2.2.2.2.2⟩:S113)) (fun _=>rfl) Tryz.underlying113 (by rfl) (OpensF.cons (Opens.int Tryz.underlying3) (by kernel_rfl) (n1:=1) (by kernel_rfl) (OpensF.cons (Opens.int Tryz.underlying3) (by kernel_rfl) (n1:=2) (by kernel_rfl) (OpensF.cons (Opens.int Tryz.underlying3) (by kernel_rfl) (n1:=3) (by kernel_rfl) (OpensF.cons (Opens.int Tryz.underlying3) (by kernel_rfl) (n1:=4) (by kernel_rfl) (OpensF.cons (Opens.int Tryz.underlying3) (by kernel_rfl) (n1:=5) (by kernel_rfl) (OpensF.last (Opens.slice 3 Tryz.underlying25 (Opens.int Tryz.underlying3) (by kernel_rfl) (0:Int)) (by kernel_rfl))))))) (by kernel_rfl)
def ok24 (x:S24):Prop:=(Lit.int .i64 x.f0).wf=true/\(Lit.int .i64 x.f1).wf=true/\(x.f2.length<=maxLen/\∀ y ∈ x.f2,ok113 y)
theorem opens24:Opens Tryz.prog 24 k24 ok24:=Opens.struct (fun x:S24=>(x.f0,x.f1,x.f2)) (fun x=>(⟨x.1,x.2.1,x.2.2⟩:S24)) (fun _=>rfl) Tryz.underlying24 (by rfl) (OpensF.cons (Opens.int Tryz.underlying3) (by kernel_rfl) (n1:=1) (by kernel_rfl) (OpensF.cons (Opens.int Tryz.underlying3) (by kernel_rfl) (n1:=2) (by kernel_rfl) (OpensF.last (Opens.slice 113 Tryz.underlying22 opens113 (by kernel_rfl) z113) (by kernel_rfl)))) (by kernel_rfl)
def ok27 (x:S27):Prop:=(Lit.int .i64 x.f0).wf=true/\(Lit.int .i64 x.f1).wf=true/\(x.f2.length<=maxLen/\∀ y ∈ x.f2,(Lit.int .i64 y).wf=true)/\(x.f3.length<=maxLen/\∀ y ∈ x.f3,(Lit.int .i64 y).wf=true)
theorem opens27:Opens Tryz.prog 27 k27 ok27:=Opens.struct (fun x:S27=>(x.f0,x.f1,x.f2,x.f3)) (fun x=>(⟨x.1,x.2.1,x.2.2.1,x.2.2.2⟩:S27)) (fun _=>rfl) Tryz.underlying27 (by rfl) (OpensF.cons (Opens.int Tryz.underlying3) (by kernel_rfl) (n1:=1) (by kernel_rfl) (OpensF.cons (Opens.int Tryz.underlying3) (by kernel_rfl) (n1:=2) (by kernel_rfl) (OpensF.cons (Opens.slice 3 Tryz.underlying25 (Opens.int Tryz.underlying3) (by kernel_rfl) (0:Int)) (by kernel_rfl) (n1:=3) (by kernel_rfl) (OpensF.last (Opens.slice 3 Tryz.underlying25 (Opens.int Tryz.underlying3) (by kernel_rfl) (0:Int)) (by kernel_rfl))))) (by kernel_rfl)
def ok69 (x:S69):Prop:=(Lit.int .i64 x.f0).wf=true/\(Lit.int .i64 x.f1).wf=true/\(Lit.int .i64 x.f2).wf=true/\(Lit.int .i64 x.f3).wf=true
theorem opens69:Opens Tryz.prog 69 k69 ok69:=Opens.array (fun x:S69=>(x.f0,x.f1,x.f2,x.f3)) (fun x=>(⟨x.1,x.2.1,x.2.2.1,x.2.2.2⟩:S69)) (fun _=>rfl) Tryz.underlying69 (by rfl) (OpensF.cons (Opens.int Tryz.underlying2) (by kernel_rfl) (n1:=1) (by kernel_rfl) (OpensF.cons (Opens.int Tryz.underlying2) (by kernel_rfl) (n1:=2) (by kernel_rfl) (OpensF.cons (Opens.int Tryz.underlying2) (by kernel_rfl) (n1:=3) (by kernel_rfl) (OpensF.last (Opens.int Tryz.underlying2) (by kernel_rfl))))) (by kernel_rfl)
def ok30 (x:S30):Prop:=ok24 x.f0/\ok27 x.f1/\(x.f2.length<=maxLen/\∀ y ∈ x.f2,ok69 y)
theorem opens30:Opens Tryz.prog 30 k30 ok30:=Opens.struct (fun x:S30=>(x.f0,x.f1,x.f2)) (fun x=>(⟨x.1,x.2.1,x.2.2⟩:S30)) (fun _=>rfl) Tryz.underlying30 (by rfl) (OpensF.cons opens24 (by kernel_rfl) (n1:=3) (by kernel_rfl) (OpensF.cons opens27 (by kernel_rfl) (n1:=7) (by kernel_rfl) (OpensF.last (Opens.slice 69 Tryz.underlying28 opens69 (by kernel_rfl) z69) (by kernel_rfl)))) (by kernel_rfl)
end Go.Proofs.YtgnaaokhfpfglaaGreatDoor.PCertBack
end
section
namespace Go.Proofs.YtgnaaokhfpfglaaGreatDoor.PCertBack
open Go.RowKit Go.Proofs.YtgnaaokhfpfglaaGreatDoorW.PrintWords Go.Proofs.YtgnaaokhfpfglaaGreatDoorW.PrintLast Go.Proofs.YtgnaaokhfpfglaaGreatDoorW.PrintMore
attribute [local go_sem] qa8 qa6 max_two min_two qaU qaT qa7 qa5
set_option linter.unusedVariables false
set_option linter.unusedSimpArgs false
noncomputable section
theorem eqA60 (d:Nat) (w:World) (x0 y0:Int) (x1 y1:Int) (x2 y2:Int) (x3 y3:Int) :
  (Op.equalIn (d+2) 60 (.agg #[.int .i64 x0,.int .i64 x1,.int .i64 x2,.int .i64 x3]) (.agg #[.int .i64 y0,.int .i64 y1,.int .i64 y2,.int .i64 y3])).run Tryz.prog w=.ok (x0 == y0 && (x1 == y1 && (x2 == y2 && (x3 == y3)))) w:=by
 refine eqA_of Tryz.underlying60 (by kernel_rfl) ?_;refine eqf_cons (by rfl) (by go_simp;rfl) (by go_simp;rfl) (by go_simp) ?_;refine eqf_cons (by rfl) (by go_simp;rfl) (by go_simp;rfl) (by go_simp) ?_;refine eqf_cons (by rfl) (by go_simp;rfl) (by go_simp;rfl) (by go_simp) ?_;exact eqf_last (by rfl) (by go_simp;rfl) (by go_simp;rfl) (by go_simp)
end
end Go.Proofs.YtgnaaokhfpfglaaGreatDoor.PCertBack
end
section
namespace Go.Proofs.YtgnaaokhfpfglaaGreatDoor.PCertBack
open Go.RowKit Go.Proofs.YtgnaaokhfpfglaaGreatDoorW.PrintWords Go.Proofs.YtgnaaokhfpfglaaGreatDoorW.PrintLast Go.Proofs.YtgnaaokhfpfglaaGreatDoorW.PrintMore
attribute [local go_sem] qa8 qa6 max_two min_two qaU qaT qa7 qa5
set_option linter.unusedVariables false
set_option linter.unusedSimpArgs false
noncomputable section
def cert_Policy.f (a0:Int):Option (ByteArray):=if a0=1 then (some (⟨#[101,100,102]⟩:ByteArray)) else (if a0=2 then (some (⟨#[102,112]⟩:ByteArray)) else (some (⟨#[]⟩:ByteArray)))
theorem cert_Policy.calls (a0:Int) (r:ByteArray) (w:World) (h:cert_Policy.f a0=some r) :
  Calls Tryz.prog 37 #[.int .i64 a0] w fun e w'=>e=.returned (.string r)/\qaz w w':=by
 have H:(if a0=1 then (some (⟨#[101,100,102]⟩:ByteArray)) else (if a0=2 then (some (⟨#[102,112]⟩:ByteArray)) else (some (⟨#[]⟩:ByteArray))))=some r:=h;clear h;by_cases c2:a0=1
 .rw [if_pos c2] at H;have aa:(a0 == 1)=true:=beq_iff_eq.mpr c2;have ac:(a0 != 1)=false:=bne_eq_false_iff_eq.mpr c2;clear c2;obtain rfl:=Option.some.inj H;go_enter Tryz.func37,Tryz.ntmps37;go_wp2;go_ret;exact⟨by first|rfl|(simp;done)|(simp [*];done),by repeat (first|exact qaz.refl _|apply qaz.step)⟩
 .rw [if_neg c2] at H;have aa:(a0 == 1)=false:=beq_eq_false_iff_ne.mpr c2;have ac:(a0 != 1)=true:=bne_iff_ne.mpr c2;by_cases c3:a0=2
  .rw [if_pos c3] at H;have ae:(a0 == 2)=true:=beq_iff_eq.mpr c3;have af:(a0 != 2)=false:=bne_eq_false_iff_eq.mpr c3;clear c3;obtain rfl:=Option.some.inj H;go_enter Tryz.func37,Tryz.ntmps37;go_wp2;go_ret;exact⟨by first|rfl|(simp;done)|(simp [*];done),by repeat (first|exact qaz.refl _|apply qaz.step)⟩
  .rw [if_neg c3] at H;have ae:(a0 == 2)=false:=beq_eq_false_iff_ne.mpr c3;have af:(a0 != 2)=true:=bne_iff_ne.mpr c3;obtain rfl:=Option.some.inj H;go_enter Tryz.func37,Tryz.ntmps37;go_wp2;go_ret;exact⟨by first|rfl|(simp;done)|(simp [*];done),by repeat (first|exact qaz.refl _|apply qaz.step)⟩
def cert_Mode.f (a0:Int):Option (ByteArray):=if a0=1 then (some (⟨#[102,117,108,108]⟩:ByteArray)) else (if a0=2 then (some (⟨#[116,104,114,101,115,104,111,108,100,115]⟩:ByteArray)) else (if a0=3 then (some (⟨#[99,104,117,110,107,101,100]⟩:ByteArray)) else (if a0=4 then (some (⟨#[102,108,111,97,116,105,110,103]⟩:ByteArray)) else (some (⟨#[]⟩:ByteArray)))))
theorem cert_Mode.calls (a0:Int) (r:ByteArray) (w:World) (h:cert_Mode.f a0=some r) :
  Calls Tryz.prog 38 #[.int .i64 a0] w fun e w'=>e=.returned (.string r)/\qaz w w':=by
 have H:(if a0=1 then (some (⟨#[102,117,108,108]⟩:ByteArray)) else (if a0=2 then (some (⟨#[116,104,114,101,115,104,111,108,100,115]⟩:ByteArray)) else (if a0=3 then (some (⟨#[99,104,117,110,107,101,100]⟩:ByteArray)) else (if a0=4 then (some (⟨#[102,108,111,97,116,105,110,103]⟩:ByteArray)) else (some (⟨#[]⟩:ByteArray))))))=some r:=h;clear h;by_cases c2:a0=1
 .rw [if_pos c2] at H;have aa:(a0 == 1)=true:=beq_iff_eq.mpr c2;have ac:(a0 != 1)=false:=bne_eq_false_iff_eq.mpr c2;clear c2;obtain rfl:=Option.some.inj H;go_enter Tryz.func38,Tryz.ntmps38;go_wp2;go_ret;exact⟨by first|rfl|(simp;done)|(simp [*];done),by repeat (first|exact qaz.refl _|apply qaz.step)⟩
 .rw [if_neg c2] at H;have aa:(a0 == 1)=false:=beq_eq_false_iff_ne.mpr c2;have ac:(a0 != 1)=true:=bne_iff_ne.mpr c2;by_cases c3:a0=2
  .rw [if_pos c3] at H;have ae:(a0 == 2)=true:=beq_iff_eq.mpr c3;have af:(a0 != 2)=false:=bne_eq_false_iff_eq.mpr c3;clear c3;obtain rfl:=Option.some.inj H;go_enter Tryz.func38,Tryz.ntmps38;go_wp2;go_ret;exact⟨by first|rfl|(simp;done)|(simp [*];done),by repeat (first|exact qaz.refl _|apply qaz.step)⟩
  .rw [if_neg c3] at H;have ae:(a0 == 2)=false:=beq_eq_false_iff_ne.mpr c3;have af:(a0 != 2)=true:=bne_iff_ne.mpr c3;by_cases c4:a0=3
   .rw [if_pos c4] at H;have ag:(a0 == 3)=true:=beq_iff_eq.mpr c4;have ah:(a0 != 3)=false:=bne_eq_false_iff_eq.mpr c4;clear c4;obtain rfl:=Option.some.inj H;go_enter Tryz.func38,Tryz.ntmps38;go_wp2;go_ret;exact⟨by first|rfl|(simp;done)|(simp [*];done),by repeat (first|exact qaz.refl _|apply qaz.step)⟩
   .rw [if_neg c4] at H;have ag:(a0 == 3)=false:=beq_eq_false_iff_ne.mpr c4;have ah:(a0 != 3)=true:=bne_iff_ne.mpr c4;by_cases c5:a0=4
    .rw [if_pos c5] at H;have ai:(a0 == 4)=true:=beq_iff_eq.mpr c5;have aj:(a0 != 4)=false:=bne_eq_false_iff_eq.mpr c5;clear c5;obtain rfl:=Option.some.inj H;go_enter Tryz.func38,Tryz.ntmps38;go_wp2;go_ret;exact⟨by first|rfl|(simp;done)|(simp [*];done),by repeat (first|exact qaz.refl _|apply qaz.step)⟩
    .rw [if_neg c5] at H;have ai:(a0 == 4)=false:=beq_eq_false_iff_ne.mpr c5;have aj:(a0 != 4)=true:=bne_iff_ne.mpr c5;obtain rfl:=Option.some.inj H;go_enter Tryz.func38,Tryz.ntmps38;go_wp2;go_ret;exact⟨by first|rfl|(simp;done)|(simp [*];done),by repeat (first|exact qaz.refl _|apply qaz.step)⟩
def tkOf (x:S58):Tk:=⟨x.f0,x.f1,x.f2,x.f3,x.f4,x.f5,x.f6⟩
def tkTo (x:Tk):S58:=⟨x.id,x.c,x.d,x.t,x.p,x.ch,x.us⟩
theorem C_of_tk {w:World} {A:Option Addr} {L:List S58} (h:Kd.C k58 w A L.length L):Kd.C kTk w A (L.map tkOf).length (L.map tkOf):=by
 obtain⟨h1,h2,h3⟩:=h;refine⟨rfl,by rw [List.length_map];exact h2,fun hl=>?_⟩;rw [List.length_map] at hl;obtain⟨ad,e,hc⟩:=h3 hl;refine⟨ad,e,fun j p hj=>?_⟩;rw [List.getElem?_map] at hj;cases hx:L[j]? with
 |none=>rw [hx] at hj;cases hj
 |some x=>
  rw [hx] at hj;obtain rfl:=Option.some.inj hj;obtain⟨c,a1,a2,a3⟩:=hc j x hx;exact⟨c,a1,a2,a3⟩
def chkOk (L:List S58):Bool:=decide (L.length<=70000) && L.all fun x=>decide (x.f5.length<=4000000) && decide (x.f6.length<=4000000) && decide (x.f1<=9223372036854775807)
def tasks_Check.f (ac ae:Int) (aa:List S58):Option Int:=if chkOk aa=true then some (checkE ac ae (aa.map tkOf)) else none
theorem tasks_Check.calls (ac:Int) (ae:Int) (A0_2:Option Addr) (c0_2:Nat) (aa:List S58) (r:Int) (w:World) (hr0_2:Kd.C k58 w A0_2 aa.length aa) (hc0_2:aa.length<=c0_2) (h:tasks_Check.f ac ae aa=some r) :
  Calls Tryz.prog 61 #[.agg #[.int .i64 ac,.int .i64 ae,.slice A0_2 aa.length c0_2]] w fun e w'=>e=.returned (.int .i64 r)/\Below w.heap.size w w':=by
 unfold tasks_Check.f at h;split at h
 .rename_i h1;obtain rfl:=Option.some.inj h;unfold chkOk at h1;simp only [Bool.and_eq_true,decide_eq_true_eq] at h1;have:=check_any ac ae A0_2 c0_2 (aa.map tkOf) w (by rw [List.length_map];omega) (fun x hx=>by
   obtain⟨y,hy,rfl⟩:=List.mem_map.1 hx;have:=List.all_eq_true.1 h1.2 y hy;simp only [Bool.and_eq_true,decide_eq_true_eq] at this
   exact⟨this.1.1,this.1.2,this.2⟩) (tkrow_of_C (C_of_tk hr0_2))
  rw [List.length_map] at this;exact this
 .cases h
def cert_within_int.f (a0:Int) (l1:List Int):Option Bool:=if l1.length<=4000000 then some (inA a0 l1) else none
theorem cert_within_int.calls (a0:Int) (A1:Option Addr) (c1:Nat) (l1:List Int) (r:Bool) (w:World) (aa:Kd.C (Kd.int .i64) w A1 l1.length l1) (ac:l1.length<=c1) (h:cert_within_int.f a0 l1=some r) :
  Calls Tryz.prog 69 #[.int .i64 a0,.slice A1 l1.length c1] w fun e w'=>e=.returned (.bool r)/\Below w.heap.size w w':=by
 unfold cert_within_int.f at h;split at h
 .rename_i h1;obtain rfl:=Option.some.inj h;refine (inAI_any a0 A1 c1 l1 w h1 (nrow_of_C aa)).mono ?_;rintro e w' ⟨he,rfl⟩;exact⟨he,bR9 _ _⟩
 .cases h
def cert_within_int64.f (a0:Int) (l1:List Int):Option Bool:=if l1.length<=4000000 then some (inA a0 l1) else none
theorem cert_within_int64.calls (a0:Int) (A1:Option Addr) (c1:Nat) (l1:List Int) (r:Bool) (w:World) (aa:Kd.C (Kd.int .i64) w A1 l1.length l1) (ac:l1.length<=c1) (h:cert_within_int64.f a0 l1=some r) :
  Calls Tryz.prog 70 #[.int .i64 a0,.slice A1 l1.length c1] w fun e w'=>e=.returned (.bool r)/\Below w.heap.size w w':=by
 unfold cert_within_int64.f at h;split at h
 .rename_i h1;obtain rfl:=Option.some.inj h;refine (inAL_any a0 A1 c1 l1 w h1 (nrow_of_C aa)).mono ?_;rintro e w' ⟨he,rfl⟩;exact⟨he,bR9 _ _⟩
 .cases h
def cert_may_1.f (aa:Int) (ac:Int) (ae:Int) (af:Int):Option (Bool):=(cert_within_int.f 99 (([aa]:List Int))).bind fun ag=>(if ag=true then ((cert_within_int64.f 1099511627776 (([ac,ae,af]:List Int))).bind fun ah=>(some (!ah))) else (some true))
theorem cert_may_1.calls (ae:Int) (af:Int) (ag:Int) (ah:Int) (r:Bool) (w:World) (h:cert_may_1.f ae af ag ah=some r) :
  Calls Tryz.prog 68 #[.agg #[.int .i64 ae,.int .i64 af,.int .i64 ag,.int .i64 ah]] w fun e w'=>e=.returned (.bool r)/\Below w.heap.size w w':=by
 have bG:=Tryz.underlying60;have HB:=qaa.mk (bR9 w.heap.size w);have H:((cert_within_int.f 99 (([ae]:List Int))).bind fun ar=>(if ar=true then ((cert_within_int64.f 1099511627776 (([af,ag,ah]:List Int))).bind fun ai=>(some (!ai))) else (some true)))=some r:=h;clear h;obtain⟨au,aj⟩:∃ y_:List Int,y_=(([ae]:List Int)):=⟨_,rfl⟩;replace H:((cert_within_int.f 99 au).bind fun ar=>(if ar=true then ((cert_within_int64.f 1099511627776 (([af,ag,ah]:List Int))).bind fun ai=>(some (!ai))) else (some true)))=some r:=by first|(rw [aj];with_reducible exact H)|(have az:=(Option.bind_some _ _).symm.trans H;rw [aj];with_reducible exact az)|(have az:=(Option.bind_some _ _).symm.trans H;with_reducible exact az)|with_reducible exact H|(rw [aj];exact H)|exact H
 have aq:=qaa.mk aj;clear aj;replace H:=Option.bind_eq_some_iff.mp H;obtain⟨ar,bD,H⟩:=H;replace H:(if ar=true then ((cert_within_int64.f 1099511627776 (([af,ag,ah]:List Int))).bind fun ai=>(some (!ai))) else (some true))=some r:=H;have A2:=qaa.mk bD;clear bD;by_cases c3:ar=true
 .subst c3;have H1:((cert_within_int64.f 1099511627776 (([af,ag,ah]:List Int))).bind fun ai=>(some (!ai)))=some r:=by rw [if_pos rfl] at H;exact H
  clear H;have H:=H1;clear H1;obtain⟨aA,ak⟩:∃ y_:List Int,y_=(([af,ag,ah]:List Int)):=⟨_,rfl⟩;replace H:((cert_within_int64.f 1099511627776 aA).bind fun ai=>(some (!ai)))=some r:=by first|(rw [ak];with_reducible exact H)|(have az:=(Option.bind_some _ _).symm.trans H;rw [ak];with_reducible exact az)|(have az:=(Option.bind_some _ _).symm.trans H;with_reducible exact az)|with_reducible exact H|(rw [ak];exact H)|exact H
  have ay:=qaa.mk ak;clear ak;replace H:=Option.bind_eq_some_iff.mp H;obtain⟨ai,bE,H⟩:=H;replace H:(some (!ai))=some r:=H;have A4:=qaa.mk bE;clear bE;obtain rfl:=Option.some.inj H;go_enter Tryz.func68,Tryz.ntmps68;go_wp2_with (first|((with_reducible refine qas (N:=1) rfl ?_);(try (refine qbb (by rfl) ?_;dsimp only));refine qaq ?hg (N:=1) ?hd (cs:=#[.int .i64 ae,.int .i64 af,.int .i64 ag,.int .i64 ah]) (t:=60) ?hr ?_;(case hd=>rfl);(case hg=>rfl);(case hr=>first|(go_simp;done)|(go_simp;rfl));intro al hg w5 hbox hb;have aa:=qaa.mk (hbox);have aC:=qaa.mk ((by rw [hg];exact (qab sB):w.heap.size<=al));have av:=qaa.mk ((by rw [hg];exact (qab sB):w.heap.size<=al));replace HB:=qaa.mk (qag sB hb);clear hb hbox hg;obtain⟨ba,bf,bg,bh⟩:=sC4 (w:=w5) aa.out;obtain⟨bj,bm,bn,bp⟩:=sF4 aa.out)|((with_reducible refine qas (N:=5) rfl ?_);(try (refine qbb (by rfl) ?_;dsimp only));refine Kd.R_lit (Kd.int .i64) _ 3 ?hg (N:=5) ?hd (xs:=([ae]:List Int)) (inner:=[.int .i64 ae]) (ok:=fun _=>True) (okp:=fun _=>True) ?hr ?hp (fun _ hk=>hk) trivial (bR9 _ _) (nR9 _) (by simp) ?_;(case hd=>rfl);(case hg=>rfl);(case hr=>first|(go_simp;done)|(go_simp;rfl));(case hp=>exact (Reps.one (show Kd.M (Kd.int .i64) _ _ _ ae [.int .i64 ae] from rfl) (Reps.none _ _)));intro bt w7 aD hb hg_ hnew_;clear hg_ hnew_;(first|rw [<- aq.out] at aD|(simp only [Int.reduceToNat] at aD;rw [<- aq.out] at aD));have ac:=qaa.mk (Kd.R_lower aD (qab sB));replace aa:=qaa.mk (sKb aa.out hb);replace HB:=qaa.mk (qag sB hb);clear hb aD;obtain⟨bH,bI,bJ⟩:=Kd.R_slice ac.out;subst bJ)|((with_reducible refine qaB (f:=69) rfl ?_);refine qbe (some 6) rfl rfl Tryz.func69 (by kernel_rfl) rfl #[.int .i64 99,.slice bH au.length bI] rfl (by (try simp only [List.map_toArray,List.map_cons,List.map_nil]);first|done|rfl|(simp only [List.length_drop,List.length_take];rfl)) ?_;(with_reducible refine (cert_within_int.calls 99 _ _ au true _ ?am ?an A2.out).mono ?_);(case am=>repeat (first|exact (Kd.R_reads' ac.out).2.2|(with_reducible refine Kd.C_alloc ?_ _)|(with_reducible refine Kd.C_drewN ?_ _)|(with_reducible refine Kd.C_drew ?_)));(case an=>exact (Kd.R_reads' ac.out).2.1);rintro e bK ⟨rfl,hb⟩;refine⟨_,rfl,?_⟩;replace ac:=qaa.mk (Kd.R_below (sR ac.out) hb);replace aa:=qaa.mk (sKb aa.out hb);replace HB:=qaa.mk (qag sB hb);(try clear hb);(try clear bF);(try clear hk);(try clear hi);obtain⟨aE,aG,aH,aI⟩:=sC4 (w:=bK) aa.out;obtain⟨aJ,aK,aM,aN⟩:=sF4 aa.out)|((with_reducible refine qas (N:=15) rfl ?_);(try (refine qbb (by rfl) ?_;dsimp only));refine Kd.R_lit (Kd.int .i64) _ 2 ?hg (N:=15) ?hd (xs:=([af,ag,ah]:List Int)) (inner:=[.int .i64 af,.int .i64 ag,.int .i64 ah]) (ok:=fun _=>True) (okp:=fun _=>True) ?hr ?hp (fun _ hk=>hk) trivial (bR9 _ _) (nR9 _) (by simp) ?_;(case hd=>rfl);(case hg=>rfl);(case hr=>first|(go_simp;done)|(go_simp;rfl));(case hp=>exact (Reps.one (show Kd.M (Kd.int .i64) _ _ _ af [.int .i64 af] from rfl) (Reps.one (show Kd.M (Kd.int .i64) _ _ _ ag [.int .i64 ag] from rfl) (Reps.one (show Kd.M (Kd.int .i64) _ _ _ ah [.int .i64 ah] from rfl) (Reps.none _ _)))));intro bL bP aw hb hg_ hnew_;clear hg_ hnew_;(first|rw [<- ay.out] at aw|(simp only [Int.reduceToNat] at aw;rw [<- ay.out] at aw));replace ac:=qaa.mk (Kd.R_below (sR ac.out) hb);have ap:=qaa.mk (Kd.R_lower aw (qab sB));replace aa:=qaa.mk (sKb aa.out hb);replace HB:=qaa.mk (qag sB hb);clear hb aw;obtain⟨bM,bN,bx⟩:=Kd.R_slice ap.out;subst bx)|(go_at_call 70;(with_reducible refine (cert_within_int64.calls 1099511627776 _ _ aA ai _ ?am ?an A4.out).mono ?_);(case am=>repeat (first|exact (Kd.R_reads' ap.out).2.2|(with_reducible refine Kd.C_alloc ?_ _)|(with_reducible refine Kd.C_drewN ?_ _)|(with_reducible refine Kd.C_drew ?_)));(case an=>exact (Kd.R_reads' ap.out).2.1);rintro e bQ ⟨rfl,hb⟩;replace ac:=qaa.mk (Kd.R_below (sR ac.out) hb);replace ap:=qaa.mk (Kd.R_below (sR ap.out) hb);replace aa:=qaa.mk (sKb aa.out hb);replace HB:=qaa.mk (qag sB hb);(try clear hb);(try clear bF);(try clear hk);(try clear hi)))
  go_ret;exact⟨by first|rfl|(simp [qap,qao]<;>rfl)|(simp [bneNil,bneNilU]<;>rfl)|(simp [*,qap,qao]<;>rfl),by repeat (first|(with_reducible first|exact HB.out|apply qaj|apply qaf|apply qai|refine qad ?_ av.out)|exact HB.out)⟩
 .replace c3:=Bool.eq_false_iff.mpr c3;subst c3;have H1:(some true)=some r:=by rw [if_neg (show ¬ (false=true) by decide)] at H;exact H
  clear H;have H:=H1;clear H1;obtain rfl:=Option.some.inj H;go_enter Tryz.func68,Tryz.ntmps68;go_wp2_with (first|((with_reducible refine qas (N:=1) rfl ?_);(try (refine qbb (by rfl) ?_;dsimp only));refine qaq ?hg (N:=1) ?hd (cs:=#[.int .i64 ae,.int .i64 af,.int .i64 ag,.int .i64 ah]) (t:=60) ?hr ?_;(case hd=>rfl);(case hg=>rfl);(case hr=>first|(go_simp;done)|(go_simp;rfl));intro al hg bO hbox hb;have aa:=qaa.mk (hbox);have aC:=qaa.mk ((by rw [hg];exact (qab sB):w.heap.size<=al));have av:=qaa.mk ((by rw [hg];exact (qab sB):w.heap.size<=al));replace HB:=qaa.mk (qag sB hb);clear hb hbox hg;obtain⟨aQ,aT,aU,aV⟩:=sC4 (w:=bO) aa.out;obtain⟨aW,aY,aZ,a8⟩:=sF4 aa.out)|((with_reducible refine qas (N:=5) rfl ?_);(try (refine qbb (by rfl) ?_;dsimp only));refine Kd.R_lit (Kd.int .i64) _ 3 ?hg (N:=5) ?hd (xs:=([ae]:List Int)) (inner:=[.int .i64 ae]) (ok:=fun _=>True) (okp:=fun _=>True) ?hr ?hp (fun _ hk=>hk) trivial (bR9 _ _) (nR9 _) (by simp) ?_;(case hd=>rfl);(case hg=>rfl);(case hr=>first|(go_simp;done)|(go_simp;rfl));(case hp=>exact (Reps.one (show Kd.M (Kd.int .i64) _ _ _ ae [.int .i64 ae] from rfl) (Reps.none _ _)));intro bt bR ax hb hg_ hnew_;clear hg_ hnew_;(first|rw [<- aq.out] at ax|(simp only [Int.reduceToNat] at ax;rw [<- aq.out] at ax));have ac:=qaa.mk (Kd.R_lower ax (qab sB));replace aa:=qaa.mk (sKb aa.out hb);replace HB:=qaa.mk (qag sB hb);clear hb ax;obtain⟨bz,bB,bC⟩:=Kd.R_slice ac.out;subst bC)|((with_reducible refine qaB (f:=69) rfl ?_);refine qbe (some 6) rfl rfl Tryz.func69 (by kernel_rfl) rfl #[.int .i64 99,.slice bz au.length bB] rfl (by (try simp only [List.map_toArray,List.map_cons,List.map_nil]);first|done|rfl|(simp only [List.length_drop,List.length_take];rfl)) ?_;(with_reducible refine (cert_within_int.calls 99 _ _ au false _ ?am ?an A2.out).mono ?_);(case am=>repeat (first|exact (Kd.R_reads' ac.out).2.2|(with_reducible refine Kd.C_alloc ?_ _)|(with_reducible refine Kd.C_drewN ?_ _)|(with_reducible refine Kd.C_drew ?_)));(case an=>exact (Kd.R_reads' ac.out).2.1);rintro e bS ⟨rfl,hb⟩;refine⟨_,rfl,?_⟩;replace ac:=qaa.mk (Kd.R_below (sR ac.out) hb);replace aa:=qaa.mk (sKb aa.out hb);replace HB:=qaa.mk (qag sB hb);(try clear hb);(try clear bF);(try clear hk);(try clear hi)))
  go_ret;exact⟨by first|rfl|(simp [qap,qao]<;>rfl)|(simp [bneNil,bneNilU]<;>rfl)|(simp [*,qap,qao]<;>rfl),by repeat (first|(with_reducible first|exact HB.out|apply qaj|apply qaf|apply qai|refine qad ?_ av.out)|exact HB.out)⟩
def bdOf (x:S60):Bd:=⟨x.f0,x.f1,x.f2,x.f3⟩
def bdTo (x:Bd):S60:=⟨x.i,x.g,x.t,x.k⟩
theorem k_bd {w:World} {x:S60} {c:List Value} (h:k60.K w x c):c=[.int .i64 (bdOf x).i,.int .i64 (bdOf x).g,.int .i64 (bdOf x).t,.int .i64 (bdOf x).k]:=k60_open h
theorem bdrow_of_C {w:World} {A:Option Addr} {l:List S60} (h:Kd.C k60 w A l.length l):BdRow w w.heap.size A (l.map bdOf):=by
 intro hl;rw [List.length_map] at hl;obtain⟨_,_,h⟩:=h;obtain⟨ad,rfl,hc⟩:=h hl;have hat:∀ j,j<l.length->∀ i u,((l.map bdOf)[j]?.map fun x=>[Value.int .i64 x.i,.int .i64 x.g,.int .i64 x.t,.int .i64 x.k]).bind (·[i]?)=some u->w.cell? (ad.add (j * 4+i))=some u:=by
  intro j hj i u hu;obtain⟨c,_,hk,hcell⟩:=hc j _ (List.getElem?_eq_getElem hj);obtain rfl:=k_bd hk;refine hcell i u ?_;rw [List.getElem?_map,List.getElem?_eq_getElem hj] at hu;exact hu
 have h00:=hat 0 hl 0 _ (by rw [List.getElem?_map,List.getElem?_eq_getElem hl];rfl);have hsp:=World.cell?_spot h00;have hlt:=bLt w _ h00;obtain⟨b,off,spot⟩:=ad;have hs:spot=none:=by simpa [Addr.add] using hsp
 subst hs;have hadd:∀ j,(⟨b,off,none⟩:Addr).add j=⟨b,off+j,none⟩:=fun j=>by unfold Addr.add;split<;>simp_all
 refine⟨b,off,rfl,by simpa [hadd] using hlt,fun i hi=>?_⟩;have hi':i<l.length:=by simpa using hi
 have g0:=hat i hi' 0 _ (by rw [List.getElem?_map,List.getElem?_eq_getElem hi'];rfl);have g1:=hat i hi' 1 _ (by rw [List.getElem?_map,List.getElem?_eq_getElem hi'];rfl);have g2:=hat i hi' 2 _ (by rw [List.getElem?_map,List.getElem?_eq_getElem hi'];rfl);have g3:=hat i hi' 3 _ (by rw [List.getElem?_map,List.getElem?_eq_getElem hi'];rfl);rw [hadd] at g0 g1 g2 g3;rw [List.getElem_map];exact⟨g0,by rw [Nat.add_assoc];exact g1,by rw [Nat.add_assoc];exact g2,by rw [Nat.add_assoc];exact g3⟩
theorem may_1_is (x:Bd):cert_may_1.f x.i x.g x.t x.k=some (wrongB x):=by
 unfold cert_may_1.f cert_within_int.f cert_within_int64.f wrongB;rw [if_pos (by simp),if_pos (by simp)];cases inA 99 [x.i]<;>simp
def api_Bound_71.f (l0:List S60) (_:ByteArray):Option Bool:=if l0.length<=4000000 then some ((l0.map bdOf).any wrongB) else none
theorem api_Bound_71.calls (A0:Option Addr) (c0:Nat) (l0:List S60) (a1:ByteArray) (r:Bool) (w:World) (aa:Kd.C k60 w A0 l0.length l0) (ac:l0.length<=c0) (h:api_Bound_71.f l0 a1=some r) :
  Calls Tryz.prog 71 #[.slice A0 l0.length c0,.func (Fn.func 68) #[] #[]] w fun e w'=>e=.returned (.bool r)/\Below w.heap.size w w':=by
 unfold api_Bound_71.f at h;split at h
 .rename_i h1;obtain rfl:=Option.some.inj h;have:=boundContains_any wrongB A0 c0 (l0.map bdOf) w (by rw [List.length_map];exact h1) (bdrow_of_C aa) (fun x _ W=>cert_may_1.calls _ _ _ _ _ W (may_1_is x));rw [List.length_map] at this;exact this
 .cases h
def polP (p:Int):ByteArray:=if p=1 then ⟨#[101,100,102]⟩ else if p=2 then ⟨#[102,112]⟩ else ⟨#[]⟩
def modeP (m:Int):ByteArray:=if m=1 then ⟨#[102,117,108,108]⟩ else if m=2 then ⟨#[116,104,114,101,115,104,111,108,100,115]⟩ else if m=3 then ⟨#[99,104,117,110,107,101,100]⟩ else if m=4 then ⟨#[102,108,111,97,116,105,110,103]⟩ else ⟨#[]⟩
theorem pol_is (p:Int):cert_Policy.f p=some (polP p):=by
 unfold cert_Policy.f polP;by_cases h1:p=1
 .simp [h1]
 .by_cases h2:p=2
  .simp [h2]
  .simp [h1,h2]
theorem mode_is (m:Int):cert_Mode.f m=some (modeP m):=by
 unfold cert_Mode.f modeP;by_cases h1:m=1
 .simp [h1]
 .by_cases h2:m=2
  .simp [h2]
  .by_cases h3:m=3
   .simp [h3]
   .by_cases h4:m=4
    .simp [h4]
    .simp [h1,h2,h3,h4]
theorem polP_empty (p:Int):(polP p).toList=([]:List UInt8)↔¬ (1<=p/\p<=2):=by
 rw [Lib.toList_data];unfold polP;split
 .subst p;simp
 .split
  .subst p;simp
  .simp;omega
theorem modeP_empty (m:Int):(modeP m).toList=([]:List UInt8)↔¬ (1<=m/\m<=4):=by
 rw [Lib.toList_data];unfold modeP;split
 .subst m;simp
 .split
  .subst m;simp
  .split
   .subst m;simp
   .split
    .subst m;simp
    .simp;omega
theorem polP_size (p:Int):(polP p).size<=100:=by
 unfold polP;split
 .decide
 .split<;>decide
theorem modeP_size (m:Int):(modeP m).size<=100:=by
 unfold modeP
 repeat' split
 all_goals decide
def mayV (s r:Int) (L:List Tk) (p m:Int) (th q:List Int) (bs:List Bd):Bool:=
 decide (checkE s r L=0) && decide (1<=p/\p<=2) && decide (1<=m/\m<=4) && decide (th.length<=64/\q.length<=64/\bs.length<=64) && inA 99 th && inA 1073741824 q && !(bs.any wrongB)
def crtOk (l2:List S58) (l5 l6:List Int) (l7:List S60):Bool:=chkOk l2 && decide (l5.length<=4000000/\l6.length<=4000000/\l7.length<=4000000)
theorem mayV_is (s r:Int) (L:List Tk) (p m:Int) (th q:List Int) (bs:List Bd):mayB (checkE s r L) (polP p).toList.isEmpty (modeP m).toList.isEmpty th.length q.length bs.length (inA 99 th) (inA 1073741824 q) (bs.any wrongB)=mayV s r L p m th q bs:=by
 have h1:(polP p).toList.isEmpty = !decide (1<=p/\p<=2):=by rw [Bool.eq_iff_iff,List.isEmpty_iff,polP_empty];simp;omega
 have h2:(modeP m).toList.isEmpty = !decide (1<=m/\m<=4):=by rw [Bool.eq_iff_iff,List.isEmpty_iff,modeP_empty];simp;omega
 unfold mayB mayV;rw [h1,h2,Bool.not_not,Bool.not_not]
theorem drawn_below {w w':World} (h:qaz w w'):Below w.heap.size w w':=by
 obtain⟨n,rfl⟩:=h;exact qaP (bR9 _ _) n
def cert_may.f (ag ah:Int) (aa:List S58) (ai aj:Int) (ac ae:List Int) (af:List S60):Option Bool:=if crtOk aa ac ae af=true then some (mayV ag ah (aa.map tkOf) ai aj ac ae (af.map bdOf)) else none
theorem cert_may.calls (ai:Int) (aj:Int) (A0_2:Option Addr) (c0_2:Nat) (aa:List S58) (ag:Int) (ah:Int) (A0_5:Option Addr) (c0_5:Nat) (ac:List Int) (A0_6:Option Addr) (c0_6:Nat) (ae:List Int) (A0_7:Option Addr) (c0_7:Nat) (af:List S60) (r:Bool) (w:World) (hr0_2:Kd.C k58 w A0_2 aa.length aa) (hc0_2:aa.length<=c0_2) (hr0_5:Kd.C (Kd.int .i64) w A0_5 ac.length ac) (hc0_5:ac.length<=c0_5) (hr0_6:Kd.C (Kd.int .i64) w A0_6 ae.length ae) (hc0_6:ae.length<=c0_6) (hr0_7:Kd.C k60 w A0_7 af.length af) (hc0_7:af.length<=c0_7) (h:cert_may.f ai aj aa ag ah ac ae af=some r) :
  Calls Tryz.prog 34 #[.agg #[.int .i64 ai,.int .i64 aj,.slice A0_2 aa.length c0_2,.int .i64 ag,.int .i64 ah,.slice A0_5 ac.length c0_5,.slice A0_6 ae.length c0_6,.slice A0_7 af.length c0_7]] w fun e w'=>e=.returned (.bool r)/\Below w.heap.size w w':=by
 unfold cert_may.f at h;split at h
 .rename_i h1;obtain rfl:=Option.some.inj h;unfold crtOk at h1;simp only [Bool.and_eq_true,decide_eq_true_eq] at h1;obtain⟨hk,h5,h6,h7⟩:=h1;have:=certMay_any ai aj ag ah A0_2 aa.length c0_2 A0_5 ac.length c0_5 A0_6 ae.length c0_6 A0_7 af.length c0_7 w (checkE ai aj (aa.map tkOf)) (polP ag) (modeP ah) (inA 99 ac) (inA 1073741824 ae) ((af.map bdOf).any wrongB)
   (fun W hW=>tasks_Check.calls ai aj A0_2 c0_2 aa _ W (Kd.C_below hr0_2 hW) hc0_2 (by unfold tasks_Check.f;rw [if_pos hk]))
   (fun W=>(cert_Policy.calls ag _ W (pol_is ag)).mono (fun e w' h=>⟨h.1,drawn_below h.2⟩))
   (fun W=>(cert_Mode.calls ah _ W (mode_is ah)).mono (fun e w' h=>⟨h.1,drawn_below h.2⟩))
   (fun W hW=>cert_within_int.calls 99 A0_5 c0_5 ac _ W (Kd.C_below hr0_5 hW) hc0_5 (by unfold cert_within_int.f;rw [if_pos h5]))
   (fun W hW=>cert_within_int64.calls 1073741824 A0_6 c0_6 ae _ W (Kd.C_below hr0_6 hW) hc0_6 (by unfold cert_within_int64.f;rw [if_pos h6]))
   (fun W hW=>api_Bound_71.calls A0_7 c0_7 af ⟨#[]⟩ _ W (Kd.C_below hr0_7 hW) hc0_7 (by unfold api_Bound_71.f;rw [if_pos h7]))
  rw [<- mayV_is,List.length_map];exact this
 .cases h
def lex_Digits.f (a0:Int):Option ByteArray:=if i64B a0=true then some ⟨(Lib.itoa a0).toArray⟩ else none
theorem lex_Digits.calls (a0:Int) (r:ByteArray) (w:World) (h:lex_Digits.f a0=some r) (hT:Tabs w) :
  Calls Tryz.prog 73 #[.int .i64 a0] w fun e w'=>e=.returned (.string r)/\Below w.heap.size w w':=by
 unfold lex_Digits.f at h;split at h
 .rename_i h1;obtain rfl:=Option.some.inj h;rw [i64B_iff] at h1;exact qbc a0 w h1.1 h1.2 hT.1.1.1
 .cases h
def cert_long.l0:Nat->List Int->List Int->Int->Int->Option (List Int)
 |0,_,_,_,_=>none
 |k+1,x3,x6,x7,x8=>if x8<x7 then (if 0<=x8 then (if x8<(x6.length:Int) then (if x3.length<17592186044416 then (cert_long.l0 k (x3++[rd x6 x8]) x6 x7 (wrap64 (x8+1))) else (none)) else (none)) else (none)) else (some x3)
def cert_long.f (k:Nat) (l0:List Int):Option (List Int):=cert_long.l0 k ([]:List Int) l0 (l0.length:Int) 0
theorem cert_long.calls (k:Nat) (A0:Option Addr) (c0:Nat) (l0:List Int) (r:List Int) (w:World) (ar:Kd.C (Kd.int .i64) w A0 l0.length l0) (au:l0.length<=c0) (h:cert_long.f k l0=some r) :
  Calls Tryz.prog 40 #[.slice A0 l0.length c0] w fun e w'=>∃ av:Value,e=.returned (av)/\Kd.R (Kd.int .i64) 2 w' w.heap.size (fun _=>True) av r/\Below w.heap.size w w':=by
 have ay:=qaa.mk ar;have aC:=qaa.mk au;clear ar au;have HB:=qaa.mk (bR9 w.heap.size w);have H:(cert_long.l0 k ([]:List Int) l0 (l0.length:Int) 0)=some r:=h;clear h;have H':=qaa.mk H;clear H;go_enter Tryz.func40,Tryz.ntmps40;go_wp2;go_loopg [3,8] k (fun kq v3 v8 w'=>∃ (af:List Int) (aa:Int),v8=.int .i64 aa/\qaa (cert_long.l0 kq af l0 (l0.length:Int) aa=some r)/\qaa (kq<=k)/\qaa (Kd.R (Kd.int .i64) 2 w' w.heap.size (fun _=>True) v3 af)/\qaa (Below w.heap.size w w'))
 case atStart=>exact⟨(([]:List Int)),(0),(by first|rfl|(simp;done)|(simp [*];done)),H',⟨nR9 _⟩,⟨by first|exact Kd.R_nil _ _ _ _ _|exact Kd.N_nil _ _ _ _ _|exact Kd.V_nil _ _ _ _ _|exact Kd.Q_nil _ _ _ _ _|exact Kd.S_nil _ _ _ _ _⟩,⟨by repeat (first|(with_reducible first|exact HB.out|apply qaj|apply qaf|apply qai)|exact HB.out)⟩⟩
 case round=>
  clear H';obtain⟨af,aa,rfl,HA,aw,ag,HB⟩:=hrel;cases gk with
  |zero=>exact absurd HA.out (by simp [cert_long.l0])
  |succ k1=>
   have H:=HA.out;clear HA;simp only [cert_long.l0] at H;by_cases c2:aa<(l0.length:Int)
   .rw [if_pos c2] at H;have am:decide (aa<(l0.length:Int))=true:=decide_eq_true c2;clear c2;by_cases c3:0<=aa
    .rw [if_pos c3] at H;have az:decide (0<=aa)=true:=decide_eq_true c3;clear c3;by_cases c4:aa<(l0.length:Int)
     .rw [if_pos c4] at H;have aA:decide (aa<(l0.length:Int))=true:=decide_eq_true c4;clear c4;by_cases c5:af.length<17592186044416
      .rw [if_pos c5] at H;have an:=qaa.mk c5;clear c5;obtain⟨aj,ae⟩:∃ y_:List Int,y_=(af++[rd l0 aa]):=⟨_,rfl⟩;replace H:(cert_long.l0 k1 aj l0 (l0.length:Int) (wrap64 (aa+1)))=some r:=by first|(rw [ae];with_reducible exact H)|(have ap:=(Option.bind_some _ _).symm.trans H;rw [ae];with_reducible exact ap)|(have ap:=(Option.bind_some _ _).symm.trans H;with_reducible exact ap)|with_reducible exact H|(rw [ae];exact H)|exact H
       have ak:=qaa.mk ae;clear ae;have H':=qaa.mk H;clear H;have ah:0<=(aa:Int):=oD9 sA;have ai:aa<(l0.length:Int):=oD9 sA;obtain⟨ax,aq,ac⟩:=Kd.at_int ay.out aa ah ai;cases aq;replace ac:=(HB.out.cell (bLt w _ ac)).trans ac;replace ah:=eq_true ah;replace ai:=eq_true ai;go_wp2_with (first|((with_reducible refine qaG (b:=.append) (xs:=#[.tmp 12,.tmp 14]) rfl ?_);at_builtin;refine Kd.R_append (Kd.int .i64) (w0:=w) w.heap.size rfl (.tmp 12) (.tmp 14) 38 2 (.int .i64 0) 8 rfl Tryz.underlying38 info2 rfl (by decide) (by omega) u3 af (rd l0 aa) [.int .i64 (rd l0 aa)] (fun _=>True) (fun _=>False) rfl rfl ?aP (fun _ hk=>hk.elim) ?aF ?aO ?aB ?aS ?aL ?_;(case aP=>exact rfl);(case aB=>exact sB);(case aF=>exact (fun _ _=>trivial));(case aO=>exact (sR ag.out));(case aS=>exact (qab sB));(case aL=>have:=an.out;omega);intro v117 w6 ho hb hg hat;rw [<- ak.out] at ho;replace HB:=qaa.mk (hb);have al:=qaa.mk (ho);clear ag ho hb hg hat))
       go_roundg k1
       case measure=>have:=aw.out;omega
       case rel=>exact⟨(aj),(wrap64 (aa+1)),(by first|rfl|(simp;done)|(simp [*];done)),H',⟨by have:=aw.out;omega⟩,⟨by refine sRm ?_;exact al.out⟩,⟨by repeat (first|(with_reducible first|exact HB.out|apply qaj|apply qaf|apply qai)|exact HB.out)⟩⟩
      .rw [if_neg c5] at H;exact absurd H (by simp)
     .rw [if_neg c4] at H;exact absurd H (by simp)
    .rw [if_neg c3] at H;exact absurd H (by simp)
   .rw [if_neg c2] at H;have am:decide (aa<(l0.length:Int))=false:=decide_eq_false c2;clear c2;obtain rfl:=Option.some.inj H;go_wp2;go_ret;exact⟨_,by first|rfl|(simp [qap,qao]<;>rfl)|(simp [bneNil,bneNilU]<;>rfl)|(simp [*,qap,qao]<;>rfl),by refine sRm ?_;exact ag.out,by repeat (first|(with_reducible first|exact HB.out|apply qaj|apply qaf|apply qai)|exact HB.out)⟩
def cert_words.l0:Nat->ByteArray->List Int->Int->Int->Option (ByteArray)
 |0,_,_,_,_=>none
 |k+1,x3,x6,x7,x8=>if x8<x7 then (if 0<=x8 then (if x8<(x6.length:Int) then ((lex_Digits.f (rd x6 x8)).bind fun aa=>(if 1+aa.size<=9223372036854775807 then (if x3.size+((⟨#[32]⟩:ByteArray)++aa).size<=9223372036854775807 then (cert_words.l0 k (x3++((⟨#[32]⟩:ByteArray)++aa)) x6 x7 (wrap64 (x8+1))) else (none)) else (none))) else (none)) else (none)) else (some x3)
def cert_words.f (k:Nat) (l0:List Int):Option (ByteArray):=cert_words.l0 k (⟨#[]⟩:ByteArray) l0 (l0.length:Int) 0
theorem cert_words.calls (k:Nat) (A0:Option Addr) (c0:Nat) (l0:List Int) (r:ByteArray) (w:World) (ak:Kd.C (Kd.int .i64) w A0 l0.length l0) (al:l0.length<=c0) (h:cert_words.f k l0=some r) (hT:Tabs w) :
  Calls Tryz.prog 41 #[.slice A0 l0.length c0] w fun e w'=>e=.returned (.string r)/\Below w.heap.size w w':=by
 have aq:=qaa.mk ak;have aD:=qaa.mk al;clear ak al;have HB:=qaa.mk (bR9 w.heap.size w);have H:(cert_words.l0 k (⟨#[]⟩:ByteArray) l0 (l0.length:Int) 0)=some r:=h;clear h;have HT:=qaa.mk hT;clear hT;have H':=qaa.mk H;clear H;go_enter Tryz.func41,Tryz.ntmps41;go_wp2;go_loopg [3,8] k (fun kq v3 v8 w'=>∃ (ae:ByteArray) (aa:Int),v3=.string ae/\v8=.int .i64 aa/\qaa (cert_words.l0 kq ae l0 (l0.length:Int) aa=some r)/\qaa (kq<=k)/\qaa (Below w.heap.size w w'))
 case atStart=>exact⟨((⟨#[]⟩:ByteArray)),(0),(by first|rfl|(simp;done)|(simp [*];done)),(by first|rfl|(simp;done)|(simp [*];done)),H',⟨nR9 _⟩,⟨by repeat (first|(with_reducible first|exact HB.out|apply qaj|apply qaf|apply qai)|exact HB.out)⟩⟩
 case round=>
  clear H';obtain⟨ae,aa,rfl,rfl,HA,am,HB⟩:=hrel;cases gk with
  |zero=>exact absurd HA.out (by simp [cert_words.l0])
  |succ k1=>
   have H:=HA.out;clear HA;simp only [cert_words.l0] at H;by_cases c2:aa<(l0.length:Int)
   .rw [if_pos c2] at H;have ai:decide (aa<(l0.length:Int))=true:=decide_eq_true c2;clear c2;by_cases c3:0<=aa
    .rw [if_pos c3] at H;have ar:decide (0<=aa)=true:=decide_eq_true c3;clear c3;by_cases c4:aa<(l0.length:Int)
     .rw [if_pos c4] at H;have au:decide (aa<(l0.length:Int))=true:=decide_eq_true c4;clear c4;replace H:=Option.bind_eq_some_iff.mp H;obtain⟨ac,an,H⟩:=H;replace H:(if 1+ac.size<=9223372036854775807 then (if ae.size+((⟨#[32]⟩:ByteArray)++ac).size<=9223372036854775807 then (cert_words.l0 k1 (ae++((⟨#[32]⟩:ByteArray)++ac)) l0 (l0.length:Int) (wrap64 (aa+1))) else (none)) else (none))=some r:=H;have A5:=qaa.mk an;clear an;by_cases c6:1+ac.size<=9223372036854775807
      .rw [if_pos c6] at H;have av:=eq_true c6;have aw:decide (1+ac.size<=9223372036854775807)=true:=decide_eq_true c6;(try have ax:(9223372036854775807<1+ac.size)=False:=eq_false (Nat.not_lt.2 c6));by_cases c7:ae.size+((⟨#[32]⟩:ByteArray)++ac).size<=9223372036854775807
       .rw [if_pos c7] at H;have ay:=eq_true c7;have az:decide (ae.size+((⟨#[32]⟩:ByteArray)++ac).size<=9223372036854775807)=true:=decide_eq_true c7;(try have aA:(9223372036854775807<ae.size+((⟨#[32]⟩:ByteArray)++ac).size)=False:=eq_false (Nat.not_lt.2 c7));(try have aC:(9223372036854775807<ae.size+1+ac.size)=False:=eq_false (Nat.not_lt.2 (by have e:=c7;simp only [ByteArray.size_append,show (⟨#[32]⟩:ByteArray).size=1 from rfl] at e;omega)));have H':=qaa.mk H;clear H;have ag:0<=(aa:Int):=oD9 sA;have ah:aa<(l0.length:Int):=oD9 sA;obtain⟨ap,aj,af⟩:=Kd.at_int aq.out aa ag ah;cases aj;replace af:=(HB.out.cell (bLt w _ af)).trans af;replace ag:=eq_true ag;replace ah:=eq_true ah;go_wp2_with (first|((with_reducible refine qaB (f:=73) rfl ?_);refine qbe (some 14) rfl rfl Tryz.func73 (by kernel_rfl) rfl #[.int .i64 (rd l0 aa)] rfl (by (try simp only [List.map_toArray,List.map_cons,List.map_nil]);first|done|rfl|(simp only [List.length_drop,List.length_take];rfl)) ?_;(with_reducible refine (lex_Digits.calls (rd l0 aa) ac _ A5.out (Tabs.below HT.out sB)).mono ?_);rintro e w8 ⟨rfl,hb⟩;refine⟨_,rfl,?_⟩;replace HB:=qaa.mk (qag sB hb);(try clear hb);(try clear aE);(try clear hk);(try clear hi)))
        go_roundg k1
        case measure=>have:=am.out;omega
        case rel=>exact⟨(ae++((⟨#[32]⟩:ByteArray)++ac)),(wrap64 (aa+1)),(by first|rfl|(simp;done)|(simp [*];done)),(by first|rfl|(simp;done)|(simp [*];done)),H',⟨by have:=am.out;omega⟩,⟨by repeat (first|(with_reducible first|exact HB.out|apply qaj|apply qaf|apply qai)|exact HB.out)⟩⟩
       .rw [if_neg c7] at H;exact absurd H (by simp)
      .rw [if_neg c6] at H;exact absurd H (by simp)
     .rw [if_neg c4] at H;exact absurd H (by simp)
    .rw [if_neg c3] at H;exact absurd H (by simp)
   .rw [if_neg c2] at H;have ai:decide (aa<(l0.length:Int))=false:=decide_eq_false c2;clear c2;obtain rfl:=Option.some.inj H;go_wp2;go_ret;exact⟨by first|rfl|(simp [qap,qao]<;>rfl)|(simp [bneNil,bneNilU]<;>rfl)|(simp [*,qap,qao]<;>rfl),by repeat (first|(with_reducible first|exact HB.out|apply qaj|apply qaf|apply qai)|exact HB.out)⟩
def prnOk (L:List S58):Bool:=decide (L.length<=70000) && L.all fun x=>decide (x.f5.length<=4000000) && decide (x.f6.length<=4000000) && decide (x.f1<=9223372036854775807)
def parse_Print.f (ac ae:Int) (aa:List S58):Option ByteArray:=if prnOk aa=true then some (if checkE ac ae (aa.map tkOf)=0 then printT ac ae (aa.map tkOf) else ⟨#[]⟩) else none
theorem parse_Print.calls (ac:Int) (ae:Int) (A0_2:Option Addr) (c0_2:Nat) (aa:List S58) (r:ByteArray) (w:World) (hr0_2:Kd.C k58 w A0_2 aa.length aa) (hc0_2:aa.length<=c0_2) (h:parse_Print.f ac ae aa=some r) (hT:Tabs w) :
  Calls Tryz.prog 43 #[.agg #[.int .i64 ac,.int .i64 ae,.slice A0_2 aa.length c0_2]] w fun e w'=>e=.returned (.string r)/\Below w.heap.size w w':=by
 unfold parse_Print.f at h;split at h
 .rename_i h1;obtain rfl:=Option.some.inj h;unfold prnOk at h1;simp only [Bool.and_eq_true,decide_eq_true_eq] at h1;have:=print_any ac ae A0_2 c0_2 (aa.map tkOf) w (by rw [List.length_map];exact h1.1) (fun x hx=>by
   obtain⟨y,hy,rfl⟩:=List.mem_map.1 hx;have:=List.all_eq_true.1 h1.2 y hy;simp only [Bool.and_eq_true,decide_eq_true_eq] at this
   exact⟨this.1.1,this.1.2,this.2⟩) (tkrow_of_C (C_of_tk hr0_2)) hT.1.1.1 hT.1.1.2
  rw [List.length_map] at this;exact this
 .cases h
end
end Go.Proofs.YtgnaaokhfpfglaaGreatDoor.PCertBack
end
section
set_option linter.unusedVariables false
namespace Go.Proofs.YtgnaaokhfpfglaaGreatDoorW.PrintWords
open Go.RowKit Go.Proofs.YtgnaaokhfpfglaaGreatDoorW.PrintLast Go.Proofs.YtgnaaokhfpfglaaGreatDoorW.PrintMore
section
variable {α:Type} {d:Kd α} {e:Nat} {w:World} {base:Nat} {ok:Nat->Prop} {v:Value} {xs:List α} {g:Nat}
theorem far3R {u0 u1 u2:Value} (h:Kd.R d e w base (fun k=>ok k/\k≠g) v xs):Kd.R d e (((w.setCell ⟨g,0,none⟩ u0).setCell ⟨g,1,none⟩ u1).setCell ⟨g,2,none⟩ u2) base (fun k=>ok k/\k≠g) v xs:=
 Kd.R_far (p:=⟨g,2,none⟩) (Kd.R_far (p:=⟨g,1,none⟩) (Kd.R_far (p:=⟨g,0,none⟩) (h) (fun _ hk=>hk.2) u0) (fun _ hk=>hk.2) u1) (fun _ hk=>hk.2) u2
theorem far7R {u0 u1 u2 u3 u4 u5 u6:Value} (h:Kd.R d e w base (fun k=>ok k/\k≠g) v xs):Kd.R d e (((((((w.setCell ⟨g,0,none⟩ u0).setCell ⟨g,1,none⟩ u1).setCell ⟨g,2,none⟩ u2).setCell ⟨g,3,none⟩ u3).setCell ⟨g,4,none⟩ u4).setCell ⟨g,5,none⟩ u5).setCell ⟨g,6,none⟩ u6) base (fun k=>ok k/\k≠g) v xs:=
 Kd.R_far (p:=⟨g,6,none⟩) (Kd.R_far (p:=⟨g,5,none⟩) (Kd.R_far (p:=⟨g,4,none⟩) (Kd.R_far (p:=⟨g,3,none⟩) (Kd.R_far (p:=⟨g,2,none⟩) (Kd.R_far (p:=⟨g,1,none⟩) (Kd.R_far (p:=⟨g,0,none⟩) (h) (fun _ hk=>hk.2) u0) (fun _ hk=>hk.2) u1) (fun _ hk=>hk.2) u2) (fun _ hk=>hk.2) u3) (fun _ hk=>hk.2) u4) (fun _ hk=>hk.2) u5) (fun _ hk=>hk.2) u6
theorem far8R {u0 u1 u2 u3 u4 u5 u6 u7:Value} (h:Kd.R d e w base (fun k=>ok k/\k≠g) v xs):Kd.R d e ((((((((w.setCell ⟨g,0,none⟩ u0).setCell ⟨g,1,none⟩ u1).setCell ⟨g,2,none⟩ u2).setCell ⟨g,3,none⟩ u3).setCell ⟨g,4,none⟩ u4).setCell ⟨g,5,none⟩ u5).setCell ⟨g,6,none⟩ u6).setCell ⟨g,7,none⟩ u7) base (fun k=>ok k/\k≠g) v xs:=
 Kd.R_far (p:=⟨g,7,none⟩) (Kd.R_far (p:=⟨g,6,none⟩) (Kd.R_far (p:=⟨g,5,none⟩) (Kd.R_far (p:=⟨g,4,none⟩) (Kd.R_far (p:=⟨g,3,none⟩) (Kd.R_far (p:=⟨g,2,none⟩) (Kd.R_far (p:=⟨g,1,none⟩) (Kd.R_far (p:=⟨g,0,none⟩) (h) (fun _ hk=>hk.2) u0) (fun _ hk=>hk.2) u1) (fun _ hk=>hk.2) u2) (fun _ hk=>hk.2) u3) (fun _ hk=>hk.2) u4) (fun _ hk=>hk.2) u5) (fun _ hk=>hk.2) u6) (fun _ hk=>hk.2) u7
theorem qaW {u0 u1 u2 u3 u4 u5 u6 u7:Value} {t:Nat} {cells:Array Value} (h:Kd.R d e w base ok v xs) (hb:w.heap[g]? = some (.cells cells t (0,0))) (ht:∀ q,q ∈ e::d.E->q≠t:=by decide):Kd.R d e ((((((((w.setCell ⟨g,0,none⟩ u0).setCell ⟨g,1,none⟩ u1).setCell ⟨g,2,none⟩ u2).setCell ⟨g,3,none⟩ u3).setCell ⟨g,4,none⟩ u4).setCell ⟨g,5,none⟩ u5).setCell ⟨g,6,none⟩ u6).setCell ⟨g,7,none⟩ u7) base ok v xs:=
 Kd.R_mono (far8R (Kd.R_types h hb ht)) (fun _ h_=>h_.1)
theorem far3V {u0 u1 u2:Value} (h:Kd.V d e w base (fun k=>ok k/\k≠g) v xs):Kd.V d e (((w.setCell ⟨g,0,none⟩ u0).setCell ⟨g,1,none⟩ u1).setCell ⟨g,2,none⟩ u2) base (fun k=>ok k/\k≠g) v xs:=
 Kd.V_far (p:=⟨g,2,none⟩) (Kd.V_far (p:=⟨g,1,none⟩) (Kd.V_far (p:=⟨g,0,none⟩) (h) (fun _ hk=>hk.2) u0) (fun _ hk=>hk.2) u1) (fun _ hk=>hk.2) u2
theorem far7V {u0 u1 u2 u3 u4 u5 u6:Value} (h:Kd.V d e w base (fun k=>ok k/\k≠g) v xs):Kd.V d e (((((((w.setCell ⟨g,0,none⟩ u0).setCell ⟨g,1,none⟩ u1).setCell ⟨g,2,none⟩ u2).setCell ⟨g,3,none⟩ u3).setCell ⟨g,4,none⟩ u4).setCell ⟨g,5,none⟩ u5).setCell ⟨g,6,none⟩ u6) base (fun k=>ok k/\k≠g) v xs:=
 Kd.V_far (p:=⟨g,6,none⟩) (Kd.V_far (p:=⟨g,5,none⟩) (Kd.V_far (p:=⟨g,4,none⟩) (Kd.V_far (p:=⟨g,3,none⟩) (Kd.V_far (p:=⟨g,2,none⟩) (Kd.V_far (p:=⟨g,1,none⟩) (Kd.V_far (p:=⟨g,0,none⟩) (h) (fun _ hk=>hk.2) u0) (fun _ hk=>hk.2) u1) (fun _ hk=>hk.2) u2) (fun _ hk=>hk.2) u3) (fun _ hk=>hk.2) u4) (fun _ hk=>hk.2) u5) (fun _ hk=>hk.2) u6
theorem far8V {u0 u1 u2 u3 u4 u5 u6 u7:Value} (h:Kd.V d e w base (fun k=>ok k/\k≠g) v xs):Kd.V d e ((((((((w.setCell ⟨g,0,none⟩ u0).setCell ⟨g,1,none⟩ u1).setCell ⟨g,2,none⟩ u2).setCell ⟨g,3,none⟩ u3).setCell ⟨g,4,none⟩ u4).setCell ⟨g,5,none⟩ u5).setCell ⟨g,6,none⟩ u6).setCell ⟨g,7,none⟩ u7) base (fun k=>ok k/\k≠g) v xs:=
 Kd.V_far (p:=⟨g,7,none⟩) (Kd.V_far (p:=⟨g,6,none⟩) (Kd.V_far (p:=⟨g,5,none⟩) (Kd.V_far (p:=⟨g,4,none⟩) (Kd.V_far (p:=⟨g,3,none⟩) (Kd.V_far (p:=⟨g,2,none⟩) (Kd.V_far (p:=⟨g,1,none⟩) (Kd.V_far (p:=⟨g,0,none⟩) (h) (fun _ hk=>hk.2) u0) (fun _ hk=>hk.2) u1) (fun _ hk=>hk.2) u2) (fun _ hk=>hk.2) u3) (fun _ hk=>hk.2) u4) (fun _ hk=>hk.2) u5) (fun _ hk=>hk.2) u6) (fun _ hk=>hk.2) u7
theorem far3S {u0 u1 u2:Value} (h:Kd.S d e w base (fun k=>ok k/\k≠g) v xs):Kd.S d e (((w.setCell ⟨g,0,none⟩ u0).setCell ⟨g,1,none⟩ u1).setCell ⟨g,2,none⟩ u2) base (fun k=>ok k/\k≠g) v xs:=
 Kd.S_far (p:=⟨g,2,none⟩) (Kd.S_far (p:=⟨g,1,none⟩) (Kd.S_far (p:=⟨g,0,none⟩) (h) (fun _ hk=>hk.2) u0) (fun _ hk=>hk.2) u1) (fun _ hk=>hk.2) u2
theorem far8S {u0 u1 u2 u3 u4 u5 u6 u7:Value} (h:Kd.S d e w base (fun k=>ok k/\k≠g) v xs):Kd.S d e ((((((((w.setCell ⟨g,0,none⟩ u0).setCell ⟨g,1,none⟩ u1).setCell ⟨g,2,none⟩ u2).setCell ⟨g,3,none⟩ u3).setCell ⟨g,4,none⟩ u4).setCell ⟨g,5,none⟩ u5).setCell ⟨g,6,none⟩ u6).setCell ⟨g,7,none⟩ u7) base (fun k=>ok k/\k≠g) v xs:=
 Kd.S_far (p:=⟨g,7,none⟩) (Kd.S_far (p:=⟨g,6,none⟩) (Kd.S_far (p:=⟨g,5,none⟩) (Kd.S_far (p:=⟨g,4,none⟩) (Kd.S_far (p:=⟨g,3,none⟩) (Kd.S_far (p:=⟨g,2,none⟩) (Kd.S_far (p:=⟨g,1,none⟩) (Kd.S_far (p:=⟨g,0,none⟩) (h) (fun _ hk=>hk.2) u0) (fun _ hk=>hk.2) u1) (fun _ hk=>hk.2) u2) (fun _ hk=>hk.2) u3) (fun _ hk=>hk.2) u4) (fun _ hk=>hk.2) u5) (fun _ hk=>hk.2) u6) (fun _ hk=>hk.2) u7
theorem fat8S {u0 u1 u2 u3 u4 u5 u6 u7:Value} {t:Nat} {cells:Array Value} (h:Kd.S d e w base ok v xs) (hb:w.heap[g]? = some (.cells cells t (0,0))) (ht:∀ q,q ∈ e::d.E->q≠t:=by decide):Kd.S d e ((((((((w.setCell ⟨g,0,none⟩ u0).setCell ⟨g,1,none⟩ u1).setCell ⟨g,2,none⟩ u2).setCell ⟨g,3,none⟩ u3).setCell ⟨g,4,none⟩ u4).setCell ⟨g,5,none⟩ u5).setCell ⟨g,6,none⟩ u6).setCell ⟨g,7,none⟩ u7) base ok v xs:=
 Kd.S_mono (far8S (Kd.S_types h hb ht)) (fun _ h_=>h_.1)
end
section
variable {P:Program} {ops:Array Oper} {Q:Exit->Act->World->Prop} {md:Region.Mode} {S:World->Prop} {ds:List Nat}
theorem sT (i:Nat) (N:Option Tmp) {oi:Oper} {v:Value} {fuel:Nat} {l:Array Bool} {a:Act} {w:World} {l':Array Bool} {a':Act} (hi:ops[i]? = some oi) (hN:oi.dst=N) (hS:S w)
  (h:qax P md ops Q S ds fuel l' a' w)
  (hl:l.setIfInBounds i true=l':=by (simp only [List.setIfInBounds_toArray,List.set_cons_zero,List.set_cons_succ];rfl))
  (hc:takeB md ops ds l l' i=true:=by exact take_ofW HT_.out HW_.out (by kernel_rfl))
  (hQ:∀ c a w,Q (.panic c) (a.put oi.dst v) w->Q (.panic c) a w:=by exact fun _ _ _ h=>h)
  (h1:Region.wanted oi (yielded ops a.tmps)=true:=by rfl) (hy:∀ w,S w->(execOp a.eval oi).run P w=.ok (.value v) w:=by (intro w' hS_;go_split_ands;go_simp;with_reducible rfl))
  (ha:a.put N v=a':=by (simp only [Act.put,List.setIfInBounds_toArray,List.set_cons_zero,List.set_cons_succ,qa1,qba];rfl)):qax P md ops Q S ds (fuel+1) l a w:=
 take_ l' hi hN hc hQ (Or.inl ⟨h1,hy⟩) hS ha h
end
end Go.Proofs.YtgnaaokhfpfglaaGreatDoorW.PrintWords
end
section
namespace Go.Proofs.YtgnaaokhfpfglaaGreatDoor.PCertBack
open Go.RowKit Go.Proofs.YtgnaaokhfpfglaaGreatDoorW.PrintWords Go.Proofs.YtgnaaokhfpfglaaGreatDoorW.PrintLast Go.Proofs.YtgnaaokhfpfglaaGreatDoorW.PrintMore
attribute [local go_sem] qa8 qa6 max_two min_two qaU qaT qa7 qa5
set_option linter.unusedVariables false
set_option linter.unusedSimpArgs false
noncomputable section
theorem c_of_four {W:World} {ρ:Nat} {a b c d:Int} (h:W.heap[ρ]? = some (.cells #[.int .i64 a,.int .i64 b,.int .i64 c,.int .i64 d] 2 (0,0))):Kd.C (Kd.int .i64) W (some ⟨ρ,0,none⟩) [a,b,c,d].length [a,b,c,d]:=by
 have h0:=cell_of_row W ρ 0 _ _ _ h;have h1:=cell_of_row W ρ 1 _ _ _ h;have h2:=cell_of_row W ρ 2 _ _ _ h;have h3:=cell_of_row W ρ 3 _ _ _ h;refine⟨rfl,by simp,fun _=>⟨_,rfl,fun j p hj=>⟨[.int .i64 p],rfl,rfl,fun i u hu=>?_⟩⟩⟩;have hi:i=0:=by have:=(List.getElem?_eq_some_iff.1 hu).1;simp at this;omega
 subst hi;obtain rfl:Value.int .i64 p=u:=by simpa using hu
 have hjl:j<4:=(List.getElem?_eq_some_iff.1 hj).1;have hjs:j=0\/j=1\/j=2\/j=3:=by omega
 rcases hjs with rfl|rfl|rfl|rfl<;>(cases hj;first|exact h0|exact h1|exact h2|exact h3)
theorem long_l0 (l:List Int) (hl:l.length<=4000000):∀ (d i:Nat),i+d=l.length->Ev (fun k=>cert_long.l0 k (l.take i) l (l.length:Int) (i:Int)) l:=by
 intro d
 induction d with
 |zero=>
  intro i hi;refine Ev.step (fun k=>by rw [cert_long.l0]) (Ev.ifn (by omega) ?_);rw [List.take_of_length_le (by omega)];exact Ev.now _
 |succ d ih=>
  intro i hi;refine Ev.step (fun k=>by rw [cert_long.l0]) (Ev.ifp (by omega) (Ev.ifp (by omega) (Ev.ifp (by omega) (Ev.ifp (by rw [List.length_take];omega) ?_))));rw [qaI i (by omega),rd_cast l i (by omega)];have:=ih (i+1) (by omega);rw [List.take_add_one,List.getElem?_eq_getElem (by omega)] at this;exact this
theorem long_is (l:List Int) (hl:l.length<=4000000):Ev (fun k=>cert_long.f k l) l:=by
 have:=long_l0 l hl l.length 0 (by omega);exact Ev.congr (fun k=>by unfold cert_long.f;rfl) this
theorem words_is (x:Bd) (h:i64B x.i=true/\i64B x.g=true/\i64B x.t=true/\i64B x.k=true):Ev (fun k=>cert_words.f k [x.i,x.g,x.t,x.k]) (bdW x):=by
 obtain⟨h0,h1,h2,h3⟩:=h;have d0:=qaD x.i (i64B_iff.1 h0).1 (i64B_iff.1 h0).2;have d1:=qaD x.g (i64B_iff.1 h1).1 (i64B_iff.1 h1).2;have d2:=qaD x.t (i64B_iff.1 h2).1 (i64B_iff.1 h2).2;have d3:=qaD x.k (i64B_iff.1 h3).1 (i64B_iff.1 h3).2;have z:(⟨#[32]⟩:ByteArray).size=1:=rfl;have z0:(⟨#[]⟩:ByteArray).size=0:=rfl;have hd:∀ n,i64B n=true->lex_Digits.f n=some (digB n):=fun n hn=>by unfold lex_Digits.f;rw [if_pos hn];rfl
 show Ev (fun k=>cert_words.l0 k (⟨#[]⟩:ByteArray) [x.i,x.g,x.t,x.k] (([x.i,x.g,x.t,x.k]:List Int).length:Int) 0) (bdW x);refine Ev.step (fun k=>by rw [cert_words.l0]) (Ev.ifp (by simp [wrap64]) (Ev.ifp (by simp [wrap64]) (Ev.ifp (by simp [wrap64]) (Ev.bindS (by simpa [rd,wrap64] using hd x.i h0) ?_))));refine Ev.ifp (by omega) (Ev.ifp (by rw [ByteArray.size_append];omega) ?_);refine Ev.step (fun k=>by rw [cert_words.l0]) (Ev.ifp (by simp [wrap64]) (Ev.ifp (by simp [wrap64]) (Ev.ifp (by simp [wrap64]) (Ev.bindS (by simpa [rd,wrap64] using hd x.g h1) ?_))));refine Ev.ifp (by omega) (Ev.ifp (by simp only [ByteArray.size_append];omega) ?_);refine Ev.step (fun k=>by rw [cert_words.l0]) (Ev.ifp (by simp [wrap64]) (Ev.ifp (by simp [wrap64]) (Ev.ifp (by simp [wrap64]) (Ev.bindS (by simpa [rd,wrap64] using hd x.t h2) ?_))));refine Ev.ifp (by omega) (Ev.ifp (by simp only [ByteArray.size_append];omega) ?_);refine Ev.step (fun k=>by rw [cert_words.l0]) (Ev.ifp (by simp [wrap64]) (Ev.ifp (by simp [wrap64]) (Ev.ifp (by simp [wrap64]) (Ev.bindS (by simpa [rd,wrap64] using hd x.k h3) ?_))));refine Ev.ifp (by omega) (Ev.ifp (by simp only [ByteArray.size_append];omega) ?_);refine Ev.step (fun k=>by rw [cert_words.l0]) ?_;refine Ev.ifn (by simp [wrap64]) ?_;exact Ev.now _
theorem mayV_small {s r p m:Int} {L:List Tk} {th q:List Int} {bs:List Bd} (h:mayV s r L p m th q bs=true):checkE s r L=0/\(th.length<=64/\q.length<=64/\bs.length<=64)/\(∀ x ∈ th,0<=x/\x<=99)/\(∀ x ∈ q,0<=x/\x<=1073741824)/\∀ x ∈ bs,(0<=x.i/\x.i<=99)/\(0<=x.g/\x.g<=1099511627776)/\(0<=x.t/\x.t<=1099511627776)/\(0<=x.k/\x.k<=1099511627776):=by
 unfold mayV at h;simp only [Bool.and_eq_true,decide_eq_true_eq,Bool.not_eq_true'] at h;obtain⟨⟨⟨⟨⟨⟨h0,_⟩,_⟩,h3⟩,h4⟩,h5⟩,h6⟩:=h;refine⟨h0,h3,?_,?_,?_⟩
 .intro x hx;have:=List.all_eq_true.1 h4 x hx;exact oD9 this
 .intro x hx;have:=List.all_eq_true.1 h5 x hx;exact oD9 this
 .intro x hx;have h7:=List.any_eq_false.1 h6 x hx;simp [wrongB,inA] at h7;omega
noncomputable def certP (s r:Int) (L:List Tk) (p m:Int) (th q:List Int) (bs:List Bd):ByteArray:=if mayV s r L p m th q bs=true then certT (polP p) (modeP m) th q bs (printT s r L) else ⟨#[]⟩
noncomputable def cert_Print.f (ag ah:Int) (aa:List S58) (ai aj:Int) (ac ae:List Int) (af:List S60):Option ByteArray:=if crtOk aa ac ae af=true then some (certP ag ah (aa.map tkOf) ai aj ac ae (af.map bdOf)) else none
theorem cert_Print.calls (ac:Int) (ae:Int) (A0_2:Option Addr) (c0_2:Nat) (aa:List S58) (ag:Int) (ah:Int) (A0_5:Option Addr) (c0_5:Nat) (af:List Int) (A0_6:Option Addr) (c0_6:Nat) (aj:List Int) (A0_7:Option Addr) (c0_7:Nat) (ai:List S60) (r:ByteArray) (w:World) (hr0_2:Kd.C k58 w A0_2 aa.length aa) (hc0_2:aa.length<=c0_2) (hr0_5:Kd.C (Kd.int .i64) w A0_5 af.length af) (hc0_5:af.length<=c0_5) (hr0_6:Kd.C (Kd.int .i64) w A0_6 aj.length aj) (hc0_6:aj.length<=c0_6) (hr0_7:Kd.C k60 w A0_7 ai.length ai) (hc0_7:ai.length<=c0_7) (h:cert_Print.f ac ae aa ag ah af aj ai=some r) (hT:Tabs w) :
  Calls Tryz.prog 13 #[.agg #[.int .i64 ac,.int .i64 ae,.slice A0_2 aa.length c0_2,.int .i64 ag,.int .i64 ah,.slice A0_5 af.length c0_5,.slice A0_6 aj.length c0_6,.slice A0_7 ai.length c0_7]] w fun e w'=>e=.returned (.string r)/\Below w.heap.size w w':=by
 unfold cert_Print.f at h;split at h
 .rename_i h1;obtain rfl:=Option.some.inj h;have h1':=h1;unfold crtOk at h1;simp only [Bool.and_eq_true,decide_eq_true_eq] at h1;obtain⟨hk,h5,h6,h7⟩:=h1;have HM:cert_may.f ac ae aa ag ah af aj ai=some (mayV ac ae (aa.map tkOf) ag ah af aj (ai.map bdOf)):=by unfold cert_may.f;rw [if_pos h1']
  have HMay:∀ W,Below w.heap.size w W->Calls Tryz.prog 34 #[.agg #[.int .i64 ac,.int .i64 ae,.slice A0_2 aa.length c0_2,.int .i64 ag,.int .i64 ah,.slice A0_5 af.length c0_5,.slice A0_6 aj.length c0_6,.slice A0_7 ai.length c0_7]] W fun e w'=>e=.returned (.bool (mayV ac ae (aa.map tkOf) ag ah af aj (ai.map bdOf)))/\Below W.heap.size W w':=fun W hW=>
   cert_may.calls ac ae A0_2 c0_2 aa ag ah A0_5 c0_5 af A0_6 c0_6 aj A0_7 c0_7 ai _ W (Kd.C_below hr0_2 hW) hc0_2 (Kd.C_below hr0_5 hW) hc0_5 (Kd.C_below hr0_6 hW) hc0_6 (Kd.C_below hr0_7 hW) hc0_7 HM
  unfold certP;cases hm:mayV ac ae (aa.map tkOf) ag ah af aj (ai.map bdOf) with
  |false=>
   rw [hm] at HMay;exact certPrint_no ac ae ag ah A0_2 _ c0_2 A0_5 _ c0_5 A0_6 _ c0_6 A0_7 _ c0_7 w HMay
  |true=>
   rw [hm] at HMay;rw [if_pos rfl];obtain⟨g0,⟨g5,g6,g7⟩,b5,b6,b7⟩:=mayV_small hm;have ak:∀ x ∈ ai.map bdOf,i64B x.i=true/\i64B x.g=true/\i64B x.t=true/\i64B x.k=true:=fun x hx=>by
    have:=b7 x hx;simp only [i64B_iff];omega
   have hprn:parse_Print.f ac ae aa=some (printT ac ae (aa.map tkOf)):=by
    unfold parse_Print.f;rw [if_pos (show prnOk aa=true from hk),if_pos g0]
   have hps:(printT ac ae (aa.map tkOf)).size<=10000000:=by
    obtain⟨c0,c1,c2,c3⟩:=checkE_small g0;have h1:=goT_size (aa.map tkOf) (headT ac ae);have h2:=headT_size ac ae c0 c1;unfold printT;omega
   obtain⟨kl,hkl⟩:=(long_is af h5);have:=certPrint_yes ac ae ag ah A0_2 aa.length c0_2 A0_5 c0_5 af A0_6 c0_6 aj A0_7 c0_7 (ai.map bdOf) w (polP ag) (modeP ah) (printT ac ae (aa.map tkOf)) (polP_size _) (modeP_size _) hps ⟨g5,fun x hx=>by have:=b5 x hx;omega⟩ ⟨g6,fun x hx=>by have:=b6 x hx;omega⟩ ⟨g7,fun x hx=>by
     have q:=ak x hx;simp only [i64B_iff] at q;have d0:=qaD x.i q.1.1 q.1.2;have d1:=qaD x.g q.2.1.1 q.2.1.2;have d2:=qaD x.t q.2.2.1.1 q.2.2.1.2;have d3:=qaD x.k q.2.2.2.1 q.2.2.2.2;have z:(⟨#[32]⟩:ByteArray).size=1:=rfl;have z0:(⟨#[]⟩:ByteArray).size=0:=rfl;unfold bdW;simp only [ByteArray.size_append]
     omega⟩ (by rw [List.length_map];exact HMay)
    (fun W=>(cert_Policy.calls ag _ W (pol_is ag)).mono (fun e w' h=>⟨h.1,drawn_below h.2⟩))
    (fun W=>(cert_Mode.calls ah _ W (mode_is ah)).mono (fun e w' h=>⟨h.1,drawn_below h.2⟩))
    (fun W hW=>(cert_long.calls kl A0_5 c0_5 af af W (Kd.C_below hr0_5 hW) hc0_5 (hkl kl (nR9 _))).mono (fun e w' h=>by
     obtain⟨v,rfl,hR,hb⟩:=h;obtain⟨A,c,rfl,hl,hC⟩:=Kd.R_reads hR
     exact⟨⟨A,c,rfl,nrow_of_C hC⟩,hb⟩))
    (fun x hx ρ W hρ hW=>by
     obtain⟨kw,hkw⟩:=words_is x (ak x hx)
     exact cert_words.calls kw (some ⟨ρ,0,none⟩) 4 [x.i,x.g,x.t,x.k] _ W (c_of_four hρ) (by simp) (hkw kw (nR9 _)) (Tabs.below hT hW))
    (fun W hW=>parse_Print.calls ac ae A0_2 c0_2 aa _ W (Kd.C_below hr0_2 hW) hc0_2 hprn (Tabs.below hT hW))
    (nrow_of_C hr0_6) (bdrow_of_C hr0_7) hT.1.1.1 hT.1.1.2
   rw [List.length_map] at this;exact this
 .cases h
def ostinatolaw21_awake.f:Option (Bool):=(cert_Print.f 0 0 (([(⟨2,1,3,3,1,([]:List Int),([]:List Int)⟩:S58)]:List (S58))) 1 1 ([]:List Int) ([]:List Int) (([(⟨2,3,1,9⟩:S60)]:List (S60)))).bind fun aa=>(some (aa.toList == ([99,101,114,116,105,102,105,99,97,116,101,32,101,100,102,32,102,117,108,108,10,98,111,117,110,100,32,50,32,51,32,49,32,57,10,99,97,99,104,101,32,48,32,48,10,116,97,115,107,32,50,32,99,61,49,32,100,61,51,32,116,61,51,32,112,61,49,10]:List UInt8)))
theorem ostinatolaw21_awake.calls  (r:Bool) (w:World) (h:ostinatolaw21_awake.f=some r) (hT:Tabs w) :
  Calls Tryz.prog 6 #[] w fun e w'=>e=.returned (.bool r)/\Below w.heap.size w w':=by
 have bm:=Tryz.underlying58;have bn:=Tryz.underlying37;have bp:=Tryz.underlying40;have bt:=Tryz.underlying60;have bx:=Tryz.underlying43;have HB:=qaa.mk (bR9 w.heap.size w);have H:((cert_Print.f 0 0 (([(⟨2,1,3,3,1,([]:List Int),([]:List Int)⟩:S58)]:List (S58))) 1 1 ([]:List Int) ([]:List Int) (([(⟨2,3,1,9⟩:S60)]:List (S60)))).bind fun ag=>(some (ag.toList == ([99,101,114,116,105,102,105,99,97,116,101,32,101,100,102,32,102,117,108,108,10,98,111,117,110,100,32,50,32,51,32,49,32,57,10,99,97,99,104,101,32,48,32,48,10,116,97,115,107,32,50,32,99,61,49,32,100,61,51,32,116,61,51,32,112,61,49,10]:List UInt8))))=some r:=h;clear h;have HT:=qaa.mk hT;clear hT;obtain⟨ae,ah⟩:∃ y_:List (S58),y_=(([(⟨2,1,3,3,1,([]:List Int),([]:List Int)⟩:S58)]:List (S58))):=⟨_,rfl⟩;replace H:((cert_Print.f 0 0 ae 1 1 ([]:List Int) ([]:List Int) (([(⟨2,3,1,9⟩:S60)]:List (S60)))).bind fun ag=>(some (ag.toList == ([99,101,114,116,105,102,105,99,97,116,101,32,101,100,102,32,102,117,108,108,10,98,111,117,110,100,32,50,32,51,32,49,32,57,10,99,97,99,104,101,32,48,32,48,10,116,97,115,107,32,50,32,99,61,49,32,100,61,51,32,116,61,51,32,112,61,49,10]:List UInt8))))=some r:=by first|(rw [ah];with_reducible exact H)|(have ap:=(Option.bind_some _ _).symm.trans H;rw [ah];with_reducible exact ap)|(have ap:=(Option.bind_some _ _).symm.trans H;with_reducible exact ap)|with_reducible exact H|(rw [ah];exact H)|exact H
 have al:=qaa.mk ah;clear ah;obtain⟨aj,ai⟩:∃ y_:List (S60),y_=(([(⟨2,3,1,9⟩:S60)]:List (S60))):=⟨_,rfl⟩;replace H:((cert_Print.f 0 0 ae 1 1 ([]:List Int) ([]:List Int) aj).bind fun ag=>(some (ag.toList == ([99,101,114,116,105,102,105,99,97,116,101,32,101,100,102,32,102,117,108,108,10,98,111,117,110,100,32,50,32,51,32,49,32,57,10,99,97,99,104,101,32,48,32,48,10,116,97,115,107,32,50,32,99,61,49,32,100,61,51,32,116,61,51,32,112,61,49,10]:List UInt8))))=some r:=by first|(rw [ai];with_reducible exact H)|(have ap:=(Option.bind_some _ _).symm.trans H;rw [ai];with_reducible exact ap)|(have ap:=(Option.bind_some _ _).symm.trans H;with_reducible exact ap)|with_reducible exact H|(rw [ai];exact H)|exact H
 have am:=qaa.mk ai;clear ai;replace H:=Option.bind_eq_some_iff.mp H;obtain⟨ag,bg,H⟩:=H;replace H:(some (ag.toList == ([99,101,114,116,105,102,105,99,97,116,101,32,101,100,102,32,102,117,108,108,10,98,111,117,110,100,32,50,32,51,32,49,32,57,10,99,97,99,104,101,32,48,32,48,10,116,97,115,107,32,50,32,99,61,49,32,100,61,51,32,116,61,51,32,112,61,49,10]:List UInt8)))=some r:=H;have A1:=qaa.mk bg;clear bg;obtain rfl:=Option.some.inj H;go_enter Tryz.func6,Tryz.ntmps6;go_wp2_with (first|((with_reducible refine qas (N:=3) rfl ?_);refine Kd.S_lit k58 _ 58 ?hg (N:=3) ?hd (xs:=([(⟨2,1,3,3,1,([]:List Int),([]:List Int)⟩:S58)]:List (S58))) (inner:=[.int .i64 2,.int .i64 1,.int .i64 3,.int .i64 3,.int .i64 1,.slice none 0 0,.slice none 0 0]) (ok:=fun _=>True) (okp:=fun _=>True) ?hr ?hp (fun _ hk=>hk) trivial (bR9 _ _) (nR9 _) (by simp) ?_;(case hd=>rfl);(case hg=>rfl);(case hr=>first|(go_simp;done)|(go_simp;rfl));(case hp=>exact (Reps.c7 (show Kd.M k58 _ _ _ (⟨2,1,3,3,1,([]:List Int),([]:List Int)⟩:S58) [.int .i64 2,.int .i64 1,.int .i64 3,.int .i64 3,.int .i64 1,.slice none 0 0,.slice none 0 0] from (k58_mkM _ _ _ (⟨2,1,3,3,1,([]:List Int),([]:List Int)⟩:S58) (Kd.R_nil _ _ _ _ _) (Kd.R_nil _ _ _ _ _))) (Reps.none _ _)));intro bz w2 ar hb hg_ hnew_;clear hg_ hnew_;(first|rw [<- al.out] at ar|(simp only [Int.reduceToNat] at ar;rw [<- al.out] at ar));have aa:=qaa.mk (Kd.S_lower ar (qab sB));replace HB:=qaa.mk (qag sB hb);clear hb ar;obtain⟨aq,an,bB⟩:=Kd.S_slice aa.out;subst bB)|((with_reducible refine qas (N:=7) rfl ?_);refine Kd.R_lit k60 _ 60 ?hg (N:=7) ?hd (xs:=([(⟨2,3,1,9⟩:S60)]:List (S60))) (inner:=[.int .i64 2,.int .i64 3,.int .i64 1,.int .i64 9]) (ok:=fun _=>True) (okp:=fun _=>True) ?hr ?hp (fun _ hk=>hk) trivial (bR9 _ _) (nR9 _) (by simp) ?_;(case hd=>rfl);(case hg=>rfl);(case hr=>first|(go_simp;done)|(go_simp;rfl));(case hp=>exact (Reps.c4 (show Kd.M k60 _ _ _ (⟨2,3,1,9⟩:S60) [.int .i64 2,.int .i64 3,.int .i64 1,.int .i64 9] from (k60_mkM _ _ _ (⟨2,3,1,9⟩:S60) )) (Reps.none _ _)));intro bC w5 au hb hg_ hnew_;clear hg_ hnew_;(first|rw [<- am.out] at au|(simp only [Int.reduceToNat] at au;rw [<- am.out] at au));replace aa:=qaa.mk (Kd.S_below (by (with_reducible repeat (first|apply Kd.S_alloc|apply Kd.S_drewN|apply Kd.S_drew));exact aa.out) hb);have af:=qaa.mk (Kd.R_lower au (qab sB));replace HB:=qaa.mk (qag sB hb);clear hb au;obtain⟨bh,aG,bD⟩:=Kd.R_slice af.out;subst bD)|((with_reducible refine qas (N:=1) rfl ?_);refine qaq ?hg (N:=1) ?hd (cs:=#[.int .i64 0,.int .i64 0,.slice none 0 0,.int .i64 0,.int .i64 0,.slice none 0 0,.slice none 0 0,.slice none 0 0]) (t:=43) ?hr ?_;(case hd=>rfl);(case hg=>rfl);(case hr=>first|(go_simp;done)|(go_simp;rfl));intro ak hg w8 hbox hb;replace aa:=qaa.mk (Kd.S_below (by (with_reducible repeat (first|apply Kd.S_alloc|apply Kd.S_drewN|apply Kd.S_drew));exact aa.out) hb);replace af:=qaa.mk (Kd.R_below (sR af.out) hb);have ac:=qaa.mk (hbox);have bj:=qaa.mk ((by rw [hg];exact (qab sB):w.heap.size<=ak));have av:=qaa.mk ((by rw [hg];exact (qab sB):w.heap.size<=ak));replace HB:=qaa.mk (qag sB hb);clear hb hbox hg;obtain⟨aH,aI,aJ,aK,aM,aN,aQ,aT⟩:=sC8 (w:=w8) ac.out;obtain⟨aU,aV,aW,aY,aZ,a8,ba,bf⟩:=sF8 ac.out)|((with_reducible refine qaB (f:=13) rfl ?_);refine qbe (some 10) rfl rfl Tryz.func13 (by kernel_rfl) rfl #[.agg #[.int .i64 0,.int .i64 0,.slice aq ae.length an,.int .i64 1,.int .i64 1,.slice none 0 0,.slice none 0 0,.slice bh aj.length aG]] rfl (by (try simp only [List.map_toArray,List.map_cons,List.map_nil]);first|done|rfl|(simp only [List.length_drop,List.length_take];rfl)) ?_;(refine (cert_Print.calls 0 0 _ _ ae 1 1 _ _ ([]:List Int) _ _ ([]:List Int) _ _ aj ag _ ?aw ?ax ?ay ?az ?aA ?aC ?aD ?aE A1.out (Tabs.below HT.out sB)).mono ?_);(case aw=>refine (Kd.S_reads' (e:=58) (base:=w.heap.size) (ok:=fun k_=>True) (n:=ae.length) (c:=an) ?_).2.2;exact (by (with_reducible repeat (first|apply Kd.S_alloc|apply Kd.S_drewN|apply Kd.S_drew));exact (fat8S aa.out ac.out)));(case ax=>exact (Kd.S_reads' aa.out).2.1);(case ay=>exact Kd.C_nil _ _);(case az=>exact nR9 _);(case aA=>exact Kd.C_nil _ _);(case aC=>exact nR9 _);(case aD=>refine (Kd.R_reads' (e:=60) (base:=w.heap.size) (ok:=fun k_=>True) (n:=aj.length) (c:=aG) ?_).2.2;exact (by refine sRm ?_;exact (qaW af.out ac.out)));(case aE=>exact (Kd.R_reads' af.out).2.1);rintro e bE ⟨rfl,hb⟩;refine⟨_,rfl,?_⟩;replace aa:=qaa.mk (Kd.S_below (by (with_reducible repeat (first|apply Kd.S_alloc|apply Kd.S_drewN|apply Kd.S_drew));exact (fat8S aa.out ac.out)) hb);replace af:=qaa.mk (Kd.R_below (by refine sRm ?_;exact (qaW af.out ac.out)) hb);replace ac:=qaa.mk (qa2 (g:=ak) (o:=.cells #[.int .i64 0,.int .i64 0,.slice aq ae.length an,.int .i64 1,.int .i64 1,.slice none 0 0,.slice none 0 0,.slice bh aj.length aG] 43 (0,0)) (by refine sM ?_;refine qal (cs:=#[.int .i64 0,.int .i64 0,.slice aq ae.length an,.int .i64 1,.int .i64 1,.slice none 0 0,.slice none 0 0,.slice none 0 0]) ?_ 7 _ rfl;refine sM ?_;refine qal (cs:=#[.int .i64 0,.int .i64 0,.slice aq ae.length an,.int .i64 1,.int .i64 1,.slice none 0 0,.slice none 0 0,.slice none 0 0]) ?_ 6 _ rfl;refine sM ?_;refine qal (cs:=#[.int .i64 0,.int .i64 0,.slice aq ae.length an,.int .i64 1,.int .i64 1,.slice none 0 0,.slice none 0 0,.slice none 0 0]) ?_ 5 _ rfl;refine sM ?_;refine qal (cs:=#[.int .i64 0,.int .i64 0,.slice aq ae.length an,.int .i64 1,.int .i64 0,.slice none 0 0,.slice none 0 0,.slice none 0 0]) ?_ 4 _ rfl;refine sM ?_;refine qal (cs:=#[.int .i64 0,.int .i64 0,.slice aq ae.length an,.int .i64 0,.int .i64 0,.slice none 0 0,.slice none 0 0,.slice none 0 0]) ?_ 3 _ rfl;refine sM ?_;refine qal (cs:=#[.int .i64 0,.int .i64 0,.slice none 0 0,.int .i64 0,.int .i64 0,.slice none 0 0,.slice none 0 0,.slice none 0 0]) ?_ 2 _ rfl;refine sM ?_;refine qal (cs:=#[.int .i64 0,.int .i64 0,.slice none 0 0,.int .i64 0,.int .i64 0,.slice none 0 0,.slice none 0 0,.slice none 0 0]) ?_ 1 _ rfl;refine sM ?_;refine qal (cs:=#[.int .i64 0,.int .i64 0,.slice none 0 0,.int .i64 0,.int .i64 0,.slice none 0 0,.slice none 0 0,.slice none 0 0]) ?_ 0 _ rfl;refine sM ?_;exact ac.out) hb);replace HB:=qaa.mk (qag sB hb);(try clear hb);(try clear bF);(try clear hk);(try clear hi)))
 go_ret;exact⟨by first|rfl|(simp [qap,qao]<;>rfl)|(simp [bneNil,bneNilU]<;>rfl)|(simp [*,qap,qao]<;>rfl),by repeat (first|(with_reducible first|exact HB.out|apply qaj|apply qaf|apply qai|refine qad ?_ av.out)|exact HB.out)⟩
mutual
def ostinatoref05_ByPrio.l0:Nat->List (S58)->Int->Int->Int->List (S58)->Option ((List (S58)))
 |0,_,_,_,_,_=>none
 |k+1,x3,x4,ac,ae,aa=>if x4<(aa.length:Int) then (ostinatoref05_ByPrio.l1 k x3 x4 (x3.length:Int) ac ae aa) else (some x3)
def ostinatoref05_ByPrio.l1:Nat->List (S58)->Int->Int->Int->Int->List (S58)->Option ((List (S58)))
 |0,_,_,_,_,_,_=>none
 |k+1,x3,x4,x5,ac,ae,aa=>if x5 > 0 then (if 0<=(wrap64 (x5 - 1)) then (if (wrap64 (x5 - 1))<(x3.length:Int) then (if 0<=x4 then (if x4<(aa.length:Int) then (ostinatoref05_ByPrio.j2 k x3 x4 x5 (decide (((qan x3 (wrap64 (x5 - 1))).f4) > ((qan aa x4).f4))) ac ae aa) else (none)) else (none)) else (none)) else (none)) else (ostinatoref05_ByPrio.j2 k x3 x4 x5 false ac ae aa)
def ostinatoref05_ByPrio.j2:Nat->List (S58)->Int->Int->Bool->Int->Int->List (S58)->Option ((List (S58)))
 |0,_,_,_,_,_,_,_=>none
 |k+1,x3,x4,x5,ak,ac,ae,aa=>if ak=true then (ostinatoref05_ByPrio.l1 k x3 x4 (wrap64 (x5 - 1)) ac ae aa) else ((some (([]:List (S58)):List (S58))).bind fun af=>(if 0<=x5 then (if x5<=(x3.length:Int) then ((some (x3.take (x5:Int).toNat:List (S58))).bind fun ag=>(if af.length+ag.length<1599289640401 then ((some (af++ag:List (S58))).bind fun ah=>(if 0<=x4 then (if x4<(aa.length:Int) then (if ah.length<1599289640401 then ((some (ah++[(⟨(qan aa x4).f0,(qan aa x4).f1,(qan aa x4).f2,(qan aa x4).f3,(qan aa x4).f4,(qan aa x4).f5,(qan aa x4).f6⟩:S58)]:List (S58))).bind fun ai=>((some (x3.drop (x5:Int).toNat:List (S58))).bind fun aj=>(if ai.length+aj.length<1599289640401 then (ostinatoref05_ByPrio.l0 k (ai++aj) (wrap64 (x4+1)) ac ae aa) else (none)))) else (none)) else (none)) else (none))) else (none))) else (none)) else (none)))
end
def ostinatoref05_ByPrio.f (k:Nat) (aa:Int) (ac:Int) (ae:List (S58)):Option ((List (S58))):=ostinatoref05_ByPrio.l0 k ([]:List (S58)) 0 aa ac ae
theorem ostinatoref05_ByPrio.calls (k:Nat) (av:Int) (aw:Int) (ag:Nat->Prop) (A0_2:Option Addr) (c0_2:Nat) (ac:List (S58)) (r:List (S58)) (w:World) (eu:Kd.V k58 58 w w.heap.size (fun k_=>ag k_) (.slice A0_2 ac.length c0_2) ac) (h:ostinatoref05_ByPrio.f k av aw ac=some r) :
  Calls Tryz.prog 78 #[.agg #[.int .i64 av,.int .i64 aw,.slice A0_2 ac.length c0_2]] w fun e w'=>∃ fK:Value,e=.returned (fK)/\Kd.N k58 58 w' w.heap.size (fun k_=>(ag k_\/w.heap.size<=k_)) fK r/\Below w.heap.size w w':=by
 have ga:=Tryz.underlying37;have gb:=Tryz.underlying58;have bH:=qaa.mk (show Kd.V k58 58 w w.heap.size (fun k_=>(ag k_\/w.heap.size<=k_)) (.slice A0_2 ac.length c0_2) ac from Kd.V_mono eu (fun k_ hk=>.inl hk));have HB:=qaa.mk (bR9 w.heap.size w);have H:(ostinatoref05_ByPrio.l0 k ([]:List (S58)) 0 av aw ac)=some r:=h;clear h;have H':=qaa.mk H;clear H;go_enter Tryz.func78,Tryz.ntmps78;go_wp2_with (first|((with_reducible refine qas (N:=1) rfl ?_);refine qaq ?hg (N:=1) ?hd (cs:=#[.int .i64 av,.int .i64 aw,.slice A0_2 ac.length c0_2]) (t:=37) ?hr ?_;(case hd=>rfl);(case hg=>rfl);(case hr=>first|(go_simp;done)|(go_simp;rfl));intro aa hg w2 hbox hb;replace bH:=qaa.mk (Kd.V_below (Kd.V_elderB (sV bH.out) aa (Nat.le_of_eq hg.symm)) hb);have ah:=qaa.mk (hbox);have ec:=qaa.mk ((by rw [hg];exact (qab sB):w.heap.size<=aa));have bf:=qaa.mk ((by rw [hg];exact (qab sB):w.heap.size<=aa));replace HB:=qaa.mk (qag sB hb);clear hb hbox hg))
 repeat (go_quiet (first|((with_reducible refine qas (N:=1) rfl ?_);refine qaq ?hg (N:=1) ?hd (cs:=#[.int .i64 av,.int .i64 aw,.slice A0_2 ac.length c0_2]) (t:=37) ?hr ?_;(case hd=>rfl);(case hg=>rfl);(case hr=>first|(go_simp;done)|(go_simp;rfl));intro aa hg w2 hbox hb;replace bH:=qaa.mk (Kd.V_below (Kd.V_elderB (sV bH.out) aa (Nat.le_of_eq hg.symm)) hb);have ah:=qaa.mk (hbox);have ec:=qaa.mk ((by rw [hg];exact (qab sB):w.heap.size<=aa));have bf:=qaa.mk ((by rw [hg];exact (qab sB):w.heap.size<=aa));replace HB:=qaa.mk (qag sB hb);clear hb hbox hg));try go_wp2_with (first|((with_reducible refine qas (N:=1) rfl ?_);refine qaq ?hg (N:=1) ?hd (cs:=#[.int .i64 av,.int .i64 aw,.slice A0_2 ac.length c0_2]) (t:=37) ?hr ?_;(case hd=>rfl);(case hg=>rfl);(case hr=>first|(go_simp;done)|(go_simp;rfl));intro aa hg w2 hbox hb;replace bH:=qaa.mk (Kd.V_below (Kd.V_elderB (sV bH.out) aa (Nat.le_of_eq hg.symm)) hb);have ah:=qaa.mk (hbox);have ec:=qaa.mk ((by rw [hg];exact (qab sB):w.heap.size<=aa));have bf:=qaa.mk ((by rw [hg];exact (qab sB):w.heap.size<=aa));replace HB:=qaa.mk (qag sB hb);clear hb hbox hg)))
 go_loopg [3,4] k (fun kq v3 v4 w'=>∃ (ai:List (S58)) (ae:Int),v4=.int .i64 ae/\qaa (ostinatoref05_ByPrio.l0 kq ai ae av aw ac=some r)/\qaa (kq<=k)/\qaa (Kd.N k58 58 w' w.heap.size (fun k_=>(ag k_\/w.heap.size<=k_)/\k_≠aa) v3 ai)/\qaa (Kd.V k58 58 w' w.heap.size (fun k_=>(ag k_\/w.heap.size<=k_)/\some k_≠(v3:Value).ownBlock/\k_≠aa) (.slice A0_2 ac.length c0_2) ac)/\qaa (w'.heap[aa]? = some (.cells #[.int .i64 av,.int .i64 aw,(.slice A0_2 ac.length c0_2)] 37 (0,0)))/\qaa (Below w.heap.size w w'))
 case atStart=>exact⟨(([]:List (S58))),(0),(by first|rfl|(simp;done)|(simp [*];done)),H',⟨nR9 _⟩,⟨by first|exact Kd.S_nil _ _ _ _ _|exact Kd.N_nil _ _ _ _ _|exact Kd.V_nil _ _ _ _ _|exact Kd.Q_nil _ _ _ _ _|exact Kd.R_nil _ _ _ _ _⟩,⟨by refine sVm ?_;exact Kd.V_mono bH.out (fun _ hk=>⟨hk.1,⟨(by simp [Value.ownBlock]),hk.2⟩⟩)⟩,⟨by refine sM ?_;exact ah.out⟩,⟨by repeat (first|(with_reducible first|exact HB.out|apply qaj|apply qaf|apply qai|refine qad ?_ bf.out)|exact HB.out)⟩⟩
 case round=>
  clear H';(try clear p2);obtain⟨ai,ae,rfl,HA,es,am,af,ah,HB⟩:=hrel;cases gk with
  |zero=>exact absurd HA.out (by simp [ostinatoref05_ByPrio.l0])
  |succ k1=>
   have H:=HA.out;clear HA;simp only [ostinatoref05_ByPrio.l0] at H;by_cases c3:ae<(ac.length:Int)
   .rw [if_pos c3] at H;have el:decide (ae<(ac.length:Int))=true:=decide_eq_true c3;clear c3;have H':=qaa.mk H;clear H;obtain⟨dl,dm,dn⟩:=sC3 (w:=wr) ah.out;obtain⟨dp,dq,dr⟩:=sF3 ah.out;obtain⟨aD,ax,gc⟩:=Kd.N_slice am.out;subst gc;go_wp2;repeat (go_quiet (fail);try go_wp2)
    go_loopg [5] k1 (fun kq v5 w'=>∃ (aj:Int),v5=.int .i64 aj/\qaa (ostinatoref05_ByPrio.l1 kq ai ae aj av aw ac=some r)/\qaa (kq<=k1)/\qaa (Kd.N k58 58 w' w.heap.size (fun k_=>(ag k_\/w.heap.size<=k_)/\k_≠aa) (.slice aD ai.length ax) ai)/\qaa (Kd.V k58 58 w' w.heap.size (fun k_=>(ag k_\/w.heap.size<=k_)/\some k_≠((.slice aD ai.length ax):Value).ownBlock/\k_≠aa) (.slice A0_2 ac.length c0_2) ac)/\qaa (w'.heap[aa]? = some (.cells #[.int .i64 av,.int .i64 aw,(.slice A0_2 ac.length c0_2)] 37 (0,0)))/\qaa (Below w.heap.size w w'))
    case atStart=>exact⟨((ai.length:Int)),(by first|rfl|(simp;done)|(simp [*];done)),H',⟨nR9 _⟩,⟨by refine sNm ?_;exact am.out⟩,⟨by refine sVm ?_;exact af.out⟩,⟨by refine sM ?_;exact ah.out⟩,⟨by repeat (first|(with_reducible first|exact HB.out|apply qaj|apply qaf|apply qai|refine qad ?_ bf.out)|exact HB.out)⟩⟩
    case round=>
     clear H';(try clear p2);(try clear c3);(try clear el);(try clear dl dm dn);(try clear dp dq dr);(try clear p2);obtain⟨aj,rfl,HA,et,am,af,ah,HB⟩:=hrel;cases gk with
     |zero=>exact absurd HA.out (by simp [ostinatoref05_ByPrio.l1])
     |succ k2=>
      have H:=HA.out;clear HA;simp only [ostinatoref05_ByPrio.l1] at H;have fy:=qaa.mk H;clear H;go_upto_region 6 with (fail)
      repeat (go_quiet (fail);go_upto_region 6 with (fail))
      go_cut [32] (fun ge wc=>∃ (kq:Nat) (cB:Bool),ge=.bool cB/\qaa (ostinatoref05_ByPrio.j2 kq ai ae aj cB av aw ac=some r)/\qaa (kq<=k2)/\qaa (Kd.N k58 58 wc w.heap.size (fun k_=>(ag k_\/w.heap.size<=k_)/\k_≠aa) (.slice aD ai.length ax) ai)/\qaa (Kd.V k58 58 wc w.heap.size (fun k_=>(ag k_\/w.heap.size<=k_)/\some k_≠((.slice aD ai.length ax):Value).ownBlock/\k_≠aa) (.slice A0_2 ac.length c0_2) ac)/\qaa (wc.heap[aa]? = some (.cells #[.int .i64 av,.int .i64 aw,(.slice A0_2 ac.length c0_2)] 37 (0,0)))/\qaa (Below w.heap.size w wc))
      case first=>
       have H:=fy.out;clear fy;by_cases c7:aj > 0
       .rw [if_pos c7] at H;have dk:decide (0<aj)=true:=decide_eq_true c7;clear c7
        (first|rw [dk]|(simp only [qa1,qba];rw [dk])|skip)
        obtain⟨cy,dK⟩:∃ j_:Int,(wrap64 (aj - 1))=j_:=⟨_,rfl⟩;replace H:(if 0<=(cy) then (if (cy)<(ai.length:Int) then (if 0<=ae then (if ae<(ac.length:Int) then (ostinatoref05_ByPrio.j2 k2 ai ae aj (decide (((qan ai (cy)).f4) > ((qan ac ae).f4))) av aw ac) else (none)) else (none)) else (none)) else (none))=some r:=by first|(rw [dK] at H;exact H)|(simp only [dK] at H ⊢;exact H)
        have hji8w:(IntKind.i64.wrap (aj - 1))=cy:=(qa1 _).trans dK;by_cases c9:0<=(cy)
        .rw [if_pos c9] at H;have fz:decide (0<=(cy))=true:=decide_eq_true c9;clear c9;by_cases ev:(cy)<(ai.length:Int)
         .rw [if_pos ev] at H;have ew:decide ((cy)<(ai.length:Int))=true:=decide_eq_true ev;clear ev;by_cases ex:0<=ae
          .rw [if_pos ex] at H;have ey:decide (0<=ae)=true:=decide_eq_true ex;clear ex;by_cases ez:ae<(ac.length:Int)
           .rw [if_pos ez] at H;have eB:decide (ae<(ac.length:Int))=true:=decide_eq_true ez;clear ez;have H':=qaa.mk H;clear H;have du:0<=((cy):Int):=oD9 sA;have dv:(cy)<(ai.length:Int):=oD9 sA;obtain⟨fL,fA,fB,fC,fD,fE,dL,dM,dN,dO,dP,cC,cD,cE,cF,cG,cH⟩:=at_T58 (Kd.N_reads' am.out).2.2 (cy) du dv;cases fE;obtain⟨fM,en,ep,cz⟩:=Kd.N_get am.out z58 (cy) du (by first|exact dv|exact oD9 sA|(have e_:=(Kd.N_reads' am.out).1;omega));obtain⟨eM,eN,eO,eP,rfl,bZ,b8,b9,ca⟩:=qbg ep;have bD:=cz 5 _ rfl;rw [qav _ _ 5 (by omega)] at bD;replace bD:=Option.some.inj (bD.symm.trans cC);injection bD with hva_ hvn_ hvc_
            rw [hva_] at b8;rw [hvc_] at bZ;have eQ:=qaa.mk (show Kd.V (Kd.int .i64) 2 _ w.heap.size _ _ ((qan ai (cy)).f5) from Kd.V_mk bZ b8);clear hva_ hvn_ hvc_ b8 bZ;have bE:=cz 6 _ rfl;rw [qav _ _ 6 (by omega)] at bE;replace bE:=Option.some.inj (bE.symm.trans cD);injection bE with hva_ hvn_ hvc_
            rw [hva_] at ca;rw [hvc_] at b9;have eR:=qaa.mk (show Kd.V (Kd.int .i64) 3 _ w.heap.size _ _ ((qan ai (cy)).f6) from Kd.V_mk b9 ca);clear hva_ hvn_ hvc_ ca b9 cz en;have eS:=qaa.mk cF;have eT:=qaa.mk cE;clear cF cE;have eU:=qaa.mk cH;have eV:=qaa.mk cG;clear cH cG;replace du:=eq_true du;replace dv:=eq_true dv;obtain⟨dQ,dT,dU⟩:=sC3 (w:=wr) ah.out;obtain⟨dV,dW,dX⟩:=sF3 ah.out;have dw:0<=(ae:Int):=oD9 sA;have dx:ae<(ac.length:Int):=oD9 sA;obtain⟨fN,fF,fG,fH,fI,fJ,dY,dZ,d9,ea,eb,cI,cJ,cK,cL,cM,cN⟩:=at_T58 (Kd.V_reads' af.out).2.2 ae dw dx;cases fJ;obtain⟨fO,eq,er,cA⟩:=Kd.V_get af.out z58 ae dw (by first|exact dx|exact oD9 sA|(have e_:=(Kd.V_reads' af.out).1;omega));obtain⟨eW,eX,eY,eZ,rfl,cb,ce,cf,cg⟩:=qbg er;have bF:=cA 5 _ rfl;rw [qav _ _ 5 (by omega)] at bF;replace bF:=Option.some.inj (bF.symm.trans cI);injection bF with hva_ hvn_ hvc_
            rw [hva_] at ce;rw [hvc_] at cb;have fa:=qaa.mk (show Kd.V (Kd.int .i64) 2 _ w.heap.size _ _ ((qan ac ae).f5) from Kd.V_mk cb ce);clear hva_ hvn_ hvc_ ce cb;have bG:=cA 6 _ rfl;rw [qav _ _ 6 (by omega)] at bG;replace bG:=Option.some.inj (bG.symm.trans cJ);injection bG with hva_ hvn_ hvc_
            rw [hva_] at cg;rw [hvc_] at cf;have fb:=qaa.mk (show Kd.V (Kd.int .i64) 3 _ w.heap.size _ _ ((qan ac ae).f6) from Kd.V_mk cf cg);clear hva_ hvn_ hvc_ cg cf cA eq;have fc:=qaa.mk cL;have fe:=qaa.mk cK;clear cL cK;have ff:=qaa.mk cN;have fg:=qaa.mk cM;clear cN cM;replace dw:=eq_true dw;replace dx:=eq_true dx;go_wp2;repeat (go_quiet (fail);try go_wp2)
            go_meet
            case rel=>exact⟨_,(decide (((qan ai (cy)).f4) > ((qan ac ae).f4))),(by first|rfl|(simp;done)|(simp only [<- dK]<;>(first|rfl|simp))|(simp [*];done)),H',⟨by have:=es.out;have:=et.out;first|omega|exact nR9 _⟩,⟨by refine sNm ?_;exact am.out⟩,⟨by refine sVm ?_;exact af.out⟩,⟨by refine sM ?_;exact ah.out⟩,⟨by repeat (first|(with_reducible first|exact HB.out|apply qaj|apply qaf|apply qai|refine qad ?_ bf.out)|exact HB.out)⟩⟩
           .rw [if_neg ez] at H;exact absurd H (by simp)
          .rw [if_neg ex] at H;exact absurd H (by simp)
         .rw [if_neg ev] at H;exact absurd H (by simp)
        .rw [if_neg c9] at H;exact absurd H (by simp)
       .rw [if_neg c7] at H;have dk:decide (0<aj)=false:=decide_eq_false c7;clear c7
        (first|rw [dk]|(simp only [qa1,qba];rw [dk])|skip)
        have H':=qaa.mk H;clear H;go_wp2;repeat (go_quiet (fail);try go_wp2)
        go_meet
        case rel=>exact⟨_,(false),(by first|rfl|(simp;done)|(simp [*];done)),H',⟨by have:=es.out;have:=et.out;first|omega|exact nR9 _⟩,⟨by refine sNm ?_;exact am.out⟩,⟨by refine sVm ?_;exact af.out⟩,⟨by refine sM ?_;exact ah.out⟩,⟨by repeat (first|(with_reducible first|exact HB.out|apply qaj|apply qaf|apply qai|refine qad ?_ bf.out)|exact HB.out)⟩⟩
      case rest=>
       clear fy;(try clear c1);(try clear p1);(try clear q1);(try clear gh);(try clear p2);(try clear c3);(try clear el);(try clear p6);(try clear c7);(try clear dk);(try clear c9);(try clear fz);(try clear ev);(try clear ew);(try clear ex);(try clear ey);(try clear ez);(try clear eB);(try clear gi);(try clear gj);(try clear gm);(try clear gg);(try clear dQ dT dU);(try clear dl dm dn);(try clear dV dW dX);(try clear dp dq dr);(try clear dL);(try clear dM);(try clear dN);(try clear dO);(try clear dP);(try clear cC);(try clear cD);(try clear dY);(try clear dZ);(try clear d9);(try clear ea);(try clear eb);(try clear cI);(try clear cJ);(try clear du);(try clear dw);(try clear p2);(try clear dv);(try clear dx);obtain⟨kq,cB,rfl,HA,fh,am,af,ah,HB⟩:=hcut;cases kq with
       |zero=>exact absurd HA.out (by simp [ostinatoref05_ByPrio.j2])
       |succ dJ=>
        have H:=HA.out;clear HA;simp only [ostinatoref05_ByPrio.j2] at H;by_cases fj:cB=true
        .subst fj;have H1:(ostinatoref05_ByPrio.l1 dJ ai ae (wrap64 (aj - 1)) av aw ac)=some r:=by rw [if_pos rfl] at H;exact H
         clear H;have H:=H1;clear H1;have H':=qaa.mk H;clear H;go_wp2;repeat (go_quiet (fail);try go_wp2)
         go_roundg dJ
         case measure=>have:=es.out;have:=et.out;have:=fh.out;omega
         case rel=>exact⟨(wrap64 (aj - 1)),(by first|rfl|(simp;done)|(simp [*];done)),H',⟨by have:=es.out;have:=et.out;have:=fh.out;omega⟩,⟨by refine sNm ?_;exact am.out⟩,⟨by refine sVm ?_;exact af.out⟩,⟨by refine sM ?_;exact ah.out⟩,⟨by repeat (first|(with_reducible first|exact HB.out|apply qaj|apply qaf|apply qai|refine qad ?_ bf.out)|exact HB.out)⟩⟩
        .replace fj:=Bool.eq_false_iff.mpr fj;subst fj;have H1:((some (([]:List (S58)):List (S58))).bind fun bC=>(if 0<=aj then (if aj<=(ai.length:Int) then ((some (ai.take (aj:Int).toNat:List (S58))).bind fun aE=>(if bC.length+aE.length<1599289640401 then ((some (bC++aE:List (S58))).bind fun ba=>(if 0<=ae then (if ae<(ac.length:Int) then (if ba.length<1599289640401 then ((some (ba++[(⟨(qan ac ae).f0,(qan ac ae).f1,(qan ac ae).f2,(qan ac ae).f3,(qan ac ae).f4,(qan ac ae).f5,(qan ac ae).f6⟩:S58)]:List (S58))).bind fun aQ=>((some (ai.drop (aj:Int).toNat:List (S58))).bind fun an=>(if aQ.length+an.length<1599289640401 then (ostinatoref05_ByPrio.l0 dJ (aQ++an) (wrap64 (ae+1)) av aw ac) else (none)))) else (none)) else (none)) else (none))) else (none))) else (none)) else (none)))=some r:=by rw [if_neg (show ¬ (false=true) by decide)] at H;exact H
         clear H;have H:=H1;clear H1;obtain⟨bC,cj⟩:∃ y_:List (S58),y_=(([]:List (S58))):=⟨_,rfl⟩;replace H:(if 0<=aj then (if aj<=(ai.length:Int) then ((some (ai.take (aj:Int).toNat:List (S58))).bind fun aE=>(if bC.length+aE.length<1599289640401 then ((some (bC++aE:List (S58))).bind fun ba=>(if 0<=ae then (if ae<(ac.length:Int) then (if ba.length<1599289640401 then ((some (ba++[(⟨(qan ac ae).f0,(qan ac ae).f1,(qan ac ae).f2,(qan ac ae).f3,(qan ac ae).f4,(qan ac ae).f5,(qan ac ae).f6⟩:S58)]:List (S58))).bind fun aQ=>((some (ai.drop (aj:Int).toNat:List (S58))).bind fun an=>(if aQ.length+an.length<1599289640401 then (ostinatoref05_ByPrio.l0 dJ (aQ++an) (wrap64 (ae+1)) av aw ac) else (none)))) else (none)) else (none)) else (none))) else (none))) else (none)) else (none))=some r:=by first|(rw [cj];with_reducible exact H)|(have bI:=(Option.bind_some _ _).symm.trans H;rw [cj];with_reducible exact bI)|(have bI:=(Option.bind_some _ _).symm.trans H;with_reducible exact bI)|with_reducible exact H|(rw [cj];exact H)|exact H
         have bV:=qaa.mk cj;clear cj;by_cases eC:0<=aj
         .rw [if_pos eC] at H;have fP:=eq_true eC;have fQ:decide (0<=aj)=true:=decide_eq_true eC;clear eC;by_cases eD:aj<=(ai.length:Int)
          .rw [if_pos eD] at H;have fR:=eq_true eD;have fS:decide (aj<=(ai.length:Int))=true:=decide_eq_true eD;clear eD;obtain⟨aE,ck⟩:∃ y_:List (S58),y_=(ai.take (aj:Int).toNat):=⟨_,rfl⟩;replace H:(if bC.length+aE.length<1599289640401 then ((some (bC++aE:List (S58))).bind fun ba=>(if 0<=ae then (if ae<(ac.length:Int) then (if ba.length<1599289640401 then ((some (ba++[(⟨(qan ac ae).f0,(qan ac ae).f1,(qan ac ae).f2,(qan ac ae).f3,(qan ac ae).f4,(qan ac ae).f5,(qan ac ae).f6⟩:S58)]:List (S58))).bind fun aQ=>((some (ai.drop (aj:Int).toNat:List (S58))).bind fun an=>(if aQ.length+an.length<1599289640401 then (ostinatoref05_ByPrio.l0 dJ (aQ++an) (wrap64 (ae+1)) av aw ac) else (none)))) else (none)) else (none)) else (none))) else (none))=some r:=by first|(rw [ck];with_reducible exact H)|(have bI:=(Option.bind_some _ _).symm.trans H;rw [ck];with_reducible exact bI)|(have bI:=(Option.bind_some _ _).symm.trans H;with_reducible exact bI)|with_reducible exact H|(rw [ck];exact H)|exact H
           have bW:=qaa.mk ck;clear ck;by_cases fk:bC.length+aE.length<1599289640401
           .rw [if_pos fk] at H;have dy:=qaa.mk fk;clear fk;obtain⟨ba,cm⟩:∃ y_:List (S58),y_=(bC++aE):=⟨_,rfl⟩;replace H:(if 0<=ae then (if ae<(ac.length:Int) then (if ba.length<1599289640401 then ((some (ba++[(⟨(qan ac ae).f0,(qan ac ae).f1,(qan ac ae).f2,(qan ac ae).f3,(qan ac ae).f4,(qan ac ae).f5,(qan ac ae).f6⟩:S58)]:List (S58))).bind fun aQ=>((some (ai.drop (aj:Int).toNat:List (S58))).bind fun an=>(if aQ.length+an.length<1599289640401 then (ostinatoref05_ByPrio.l0 dJ (aQ++an) (wrap64 (ae+1)) av aw ac) else (none)))) else (none)) else (none)) else (none))=some r:=by first|(rw [cm];with_reducible exact H)|(have bI:=(Option.bind_some _ _).symm.trans H;rw [cm];with_reducible exact bI)|(have bI:=(Option.bind_some _ _).symm.trans H;with_reducible exact bI)|with_reducible exact H|(rw [cm];exact H)|exact H
            have dz:=qaa.mk cm;clear cm;by_cases fl:0<=ae
            .rw [if_pos fl] at H;have fT:decide (0<=ae)=true:=decide_eq_true fl;clear fl;by_cases fm:ae<(ac.length:Int)
             .rw [if_pos fm] at H;have fU:decide (ae<(ac.length:Int))=true:=decide_eq_true fm;clear fm;by_cases fo:ba.length<1599289640401
              .rw [if_pos fo] at H;have dA:=qaa.mk fo;clear fo;obtain⟨aQ,co⟩:∃ y_:List (S58),y_=(ba++[(⟨(qan ac ae).f0,(qan ac ae).f1,(qan ac ae).f2,(qan ac ae).f3,(qan ac ae).f4,(qan ac ae).f5,(qan ac ae).f6⟩:S58)]):=⟨_,rfl⟩;replace H:((some (ai.drop (aj:Int).toNat:List (S58))).bind fun an=>(if aQ.length+an.length<1599289640401 then (ostinatoref05_ByPrio.l0 dJ (aQ++an) (wrap64 (ae+1)) av aw ac) else (none)))=some r:=by first|(rw [co];with_reducible exact H)|(have bI:=(Option.bind_some _ _).symm.trans H;rw [co];with_reducible exact bI)|(have bI:=(Option.bind_some _ _).symm.trans H;with_reducible exact bI)|with_reducible exact H|(rw [co];exact H)|exact H
               have dB:=qaa.mk co;clear co;have fV:=eq_true (oD9 sA:0<=aj);have fW:=eq_true (oD9 sA:aj<=(ai.length:Int));obtain⟨an,cp⟩:∃ y_:List (S58),y_=(ai.drop (aj:Int).toNat):=⟨_,rfl⟩;replace H:(if aQ.length+an.length<1599289640401 then (ostinatoref05_ByPrio.l0 dJ (aQ++an) (wrap64 (ae+1)) av aw ac) else (none))=some r:=by first|(rw [cp];with_reducible exact H)|(have bI:=(Option.bind_some _ _).symm.trans H;rw [cp];with_reducible exact bI)|(have bI:=(Option.bind_some _ _).symm.trans H;with_reducible exact bI)|with_reducible exact H|(rw [cp];exact H)|exact H
               have bY:=qaa.mk cp;clear cp;by_cases fp:aQ.length+an.length<1599289640401
               .rw [if_pos fp] at H;have dC:=qaa.mk fp;clear fp;obtain⟨eE,cq⟩:∃ y_:List (S58),y_=(aQ++an):=⟨_,rfl⟩;replace H:(ostinatoref05_ByPrio.l0 dJ eE (wrap64 (ae+1)) av aw ac)=some r:=by first|(rw [cq];with_reducible exact H)|(have bI:=(Option.bind_some _ _).symm.trans H;rw [cq];with_reducible exact bI)|(have bI:=(Option.bind_some _ _).symm.trans H;with_reducible exact bI)|with_reducible exact H|(rw [cq];exact H)|exact H
                have dD:=qaa.mk cq;clear cq;have H':=qaa.mk H;clear H;go_wp2_with (first|((with_reducible refine qas (N:=35) rfl ?_);refine Kd.N_lit k58 _ 58 ?hg (N':=35) ?hd (xs:=([]:List (S58))) (inner:=[]) (ok:=(fun k_=>(ag k_\/w.heap.size<=k_)/\some k_≠(.slice aD ai.length ax:Value).ownBlock/\k_≠aa)) (okp:=(fun k_=>(ag k_\/w.heap.size<=k_)/\some k_≠(.slice aD ai.length ax:Value).ownBlock/\k_≠aa)) ?hr ?hp (fun _ hk=>hk) ((show ∀ k_,wc.heap.size<=k_->(fun k_=>(ag k_\/w.heap.size<=k_)/\some k_≠(.slice aD ai.length ax:Value).ownBlock/\k_≠aa) k_ from fun k_ hk=>⟨(.inr (Nat.le_trans (qab sB) hk)),Kd.fresh' (Kd.N_lt (sN am.out)) k_ hk,Kd.freshB (g:=aa) (o:=.cells #[.int .i64 av,.int .i64 aw,.slice A0_2 ac.length c0_2] 37 (0,0)) (sK ah.out) k_ hk⟩) _ (nR9 _)) (bR9 _ _) (nR9 _) (by simp) ?_;(case hd=>rfl);(case hg=>rfl);(case hr=>first|(go_simp;done)|(go_simp;rfl));(case hp=>exact (Reps.none _ _));intro bJ fX aG hb hg_ hnew_;clear hg_ hnew_;(first|rw [<- bV.out] at aG|(simp only [Int.reduceToNat] at aG;rw [<- bV.out] at aG));replace am:=qaa.mk (Kd.N_elder' (sN am.out) (Kd.N_base aG) hb);replace af:=qaa.mk (Kd.V_elder' (sV af.out) (Kd.N_base aG) hb);have aU:=qaa.mk (Kd.N_lower aG (qab sB));replace ah:=qaa.mk (sKb ah.out hb);replace HB:=qaa.mk (qag sB hb);clear hb aG;have dE:(aj:Int)<=((ai.length:Int):Int):=oD9 sA;obtain⟨eF,bt,_,cr,_⟩:=info_parts info58;have aI:ai.length<=ax:=(Kd.N_reads' am.out).2.1;have ct:Kd.F k58 _ _ aD ai.length ai:=(Kd.V_at (base:=w.heap.size) (Kd.N_V am.out)).2.2;have bK:=cut_to (P:=Tryz.prog) 35 58 .i64 Tryz.underlying35 bt aD ai.length ax aj (oD9 sA) dE aI;have bL:=Kd.F_take (m:=(aj:Int).toNat) ct (by omega);have bM:aE.length=(aj:Int).toNat:=(by rw [bW.out,List.length_take];omega);rw [<- bW.out] at bL;rw [<- bM] at bK;have au:=qaa.mk (show Kd.V k58 58 _ w.heap.size _ (.slice aD aE.length ax) aE from Kd.V_mk (by omega) bL);have ed:=qaa.mk (show aE.length<=ax from by omega);clear bL ct aI bt cr;have eG:=qaa.mk bM;clear bM;replace dE:=eq_true dE)|((with_reducible refine qaG (b:=.append) (xs:=#[.tmp 35,.tmp 38]) rfl ?_);at_builtin;refine Kd.N_append_rows k58 (w0:=w) w.heap.size rfl (.tmp 35) (.tmp 38) 35 58 (.agg #[(.int .i64 0),(.int .i64 0),(.int .i64 0),(.int .i64 0),(.int .i64 0),(.slice none 0 0),(.slice none 0 0)]) 88 rfl Tryz.underlying35 info58 rfl (by decide) (by omega) bJ bC aE _ _ _ (fun k_=>(ag k_\/w.heap.size<=k_)/\k_≠aa) (fun k_=>((fun k_=>(ag k_\/w.heap.size<=k_)/\k_≠aa)) k_/\some k_≠(bJ:Value).ownBlock) rfl rfl ?aO ?aR (fun _ hk=>hk) ?aF ?aB ?aS ?aL ?_;(case aR=>exact (by skip;exact Kd.V_F (Kd.V_mono (ok':=(fun k_=>((fun k_=>(ag k_\/w.heap.size<=k_)/\k_≠aa)) k_/\some k_≠(bJ:Value).ownBlock)) (au.out) (fun k_ hk=>⟨⟨hk.1.1,hk.1.2⟩,hk.2⟩))));(case aB=>exact sB);(case aF=>exact (fun k_ hk=>⟨(.inr (Nat.le_trans (qab sB) hk)),Kd.freshB (g:=aa) (o:=.cells #[.int .i64 av,.int .i64 aw,.slice A0_2 ac.length c0_2] 37 (0,0)) (sK ah.out) k_ hk⟩));(case aO=>exact (by refine sNm ?_;exact Kd.N_mono aU.out (fun _ hk=>⟨hk.1,hk.2.2⟩)));(case aS=>exact (qab sB));(case aL=>have:=dy.out;omega);intro aT eH ho hb hg hat;rw [<- dz.out] at ho;replace am:=qaa.mk (Kd.N_afterv (ok:=(fun k_=>(ag k_\/w.heap.size<=k_)/\k_≠aa)) (sN am.out) hg hat);replace af:=qaa.mk (Kd.V_afterv (ok:=(fun k_=>(ag k_\/w.heap.size<=k_)/\some k_≠(.slice aD ai.length ax:Value).ownBlock/\k_≠aa)) (sV af.out) hg hat);replace ah:=qaa.mk (sKg ah.out hg (Kd.N_ne aU.out ah.out (by decide)));replace au:=qaa.mk (Kd.V_afterv (ok:=(fun k_=>(ag k_\/w.heap.size<=k_)/\k_≠aa)) (sV au.out) hg hat);replace HB:=qaa.mk (hb);have aV:=qaa.mk (ho);clear aU ho hb hg hat;obtain⟨cO,cP,cR⟩:=sC3 (w:=eH) ah.out;obtain⟨cS,cT,cU⟩:=sF3 ah.out;have bg:0<=(ae:Int):=oD9 sA;have bh:ae<(ac.length:Int):=oD9 sA;obtain⟨bx,bN,bO,bP,bQ,dF,cV,cW,cY,cZ,da,bj,bm,aJ,aK,aM,aN⟩:=at_T58 (Kd.V_reads' af.out).2.2 ae bg bh;cases dF;obtain⟨ef,bR,bS,aH⟩:=Kd.V_get af.out z58 ae bg (by first|exact bh|exact oD9 sA|(have e_:=(Kd.V_reads' af.out).1;omega));obtain⟨db,dc,de,df,rfl,ay,az,aA,aC⟩:=qbg bS;have ap:=aH 5 _ rfl;rw [qav _ _ 5 (by omega)] at ap;replace ap:=Option.some.inj (ap.symm.trans bj);injection ap with hva_ hvn_ hvc_;rw [hva_] at az;rw [hvc_] at ay;have ak:=qaa.mk (show Kd.V (Kd.int .i64) 2 _ w.heap.size _ _ ((qan ac ae).f5) from Kd.V_mk ay az);clear hva_ hvn_ hvc_ az ay;have aq:=aH 6 _ rfl;rw [qav _ _ 6 (by omega)] at aq;replace aq:=Option.some.inj (aq.symm.trans bm);injection aq with hva_ hvn_ hvc_;rw [hva_] at aC;rw [hvc_] at aA;have al:=qaa.mk (show Kd.V (Kd.int .i64) 3 _ w.heap.size _ _ ((qan ac ae).f6) from Kd.V_mk aA aC);clear hva_ hvn_ hvc_ aC aA aH bR;have dg:=qaa.mk aK;have dh:=qaa.mk aJ;clear aK aJ;have di:=qaa.mk aN;have dj:=qaa.mk aM;clear aN aM;replace bg:=eq_true bg;replace bh:=eq_true bh)|((with_reducible refine qaG (b:=.append) (xs:=#[.tmp 40,.tmp 46]) rfl ?_);at_builtin;refine Kd.N_append k58 (w0:=w) w.heap.size rfl (.tmp 40) (.tmp 46) 35 58 (.agg #[(.int .i64 0),(.int .i64 0),(.int .i64 0),(.int .i64 0),(.int .i64 0),(.slice none 0 0),(.slice none 0 0)]) 88 rfl Tryz.underlying35 info58 rfl (by decide) (by omega) aT ba (⟨(qan ac ae).f0,(qan ac ae).f1,(qan ac ae).f2,(qan ac ae).f3,(qan ac ae).f4,(qan ac ae).f5,(qan ac ae).f6⟩:S58) [.int .i64 ((qan ac ae).f0),.int .i64 ((qan ac ae).f1),.int .i64 ((qan ac ae).f2),.int .i64 ((qan ac ae).f3),.int .i64 ((qan ac ae).f4),.slice bN ((qan ac ae).f5).length bO,.slice bP ((qan ac ae).f6).length bQ] (fun k_=>(ag k_\/w.heap.size<=k_)/\k_≠aa) (fun k_=>((fun k_=>(ag k_\/w.heap.size<=k_)/\k_≠aa)) k_/\some k_≠(aT:Value).ownBlock) rfl rfl ?aP (fun _ hk=>hk) ?aF ?aO ?aB ?aS ?aL ?_;(case aP=>exact (k58_mkF _ _ (⟨(qan ac ae).f0,(qan ac ae).f1,(qan ac ae).f2,(qan ac ae).f3,(qan ac ae).f4,(qan ac ae).f5,(qan ac ae).f6⟩:S58) (Kd.V_reads' (Kd.V_mono (ok':=(fun k_=>((fun k_=>(ag k_\/w.heap.size<=k_)/\k_≠aa)) k_/\some k_≠(aT:Value).ownBlock)) (ak.out) (fun k_ hk=>⟨⟨hk.1.1,hk.1.2.2⟩,hk.2⟩))).2.1 (Kd.V_F (Kd.V_mono (ok':=(fun k_=>((fun k_=>(ag k_\/w.heap.size<=k_)/\k_≠aa)) k_/\some k_≠(aT:Value).ownBlock)) (ak.out) (fun k_ hk=>⟨⟨hk.1.1,hk.1.2.2⟩,hk.2⟩))) (Kd.V_reads' (Kd.V_mono (ok':=(fun k_=>((fun k_=>(ag k_\/w.heap.size<=k_)/\k_≠aa)) k_/\some k_≠(aT:Value).ownBlock)) (al.out) (fun k_ hk=>⟨⟨hk.1.1,hk.1.2.2⟩,hk.2⟩))).2.1 (Kd.V_F (Kd.V_mono (ok':=(fun k_=>((fun k_=>(ag k_\/w.heap.size<=k_)/\k_≠aa)) k_/\some k_≠(aT:Value).ownBlock)) (al.out) (fun k_ hk=>⟨⟨hk.1.1,hk.1.2.2⟩,hk.2⟩)))));(case aB=>exact sB);(case aF=>exact (fun k_ hk=>⟨(.inr (Nat.le_trans (qab sB) hk)),Kd.freshB (g:=aa) (o:=.cells #[.int .i64 av,.int .i64 aw,.slice (some bx) ac.length c0_2] 37 (0,0)) (sK ah.out) k_ hk⟩));(case aO=>exact (sN aV.out));(case aS=>exact (qab sB));(case aL=>have:=dA.out;omega);intro bT fY ho hb hg hat;rw [<- dB.out] at ho;replace am:=qaa.mk (Kd.N_afterv (ok:=(fun k_=>(ag k_\/w.heap.size<=k_)/\k_≠aa)) (sN am.out) hg hat);replace af:=qaa.mk (Kd.V_afterv (ok:=(fun k_=>(ag k_\/w.heap.size<=k_)/\some k_≠(.slice aD ai.length ax:Value).ownBlock/\k_≠aa)) (sV af.out) hg hat);replace ah:=qaa.mk (sKg ah.out hg (Kd.N_ne aV.out ah.out (by decide)));replace au:=qaa.mk (Kd.V_afterv (ok:=(fun k_=>(ag k_\/w.heap.size<=k_)/\k_≠aa)) (sV au.out) hg hat);replace ak:=qaa.mk (Kd.V_afterv (ok:=(fun k_=>(ag k_\/w.heap.size<=k_)/\some k_≠(.slice aD ai.length ax:Value).ownBlock/\k_≠aa)) (sV ak.out) hg hat);replace al:=qaa.mk (Kd.V_afterv (ok:=(fun k_=>(ag k_\/w.heap.size<=k_)/\some k_≠(.slice aD ai.length ax:Value).ownBlock/\k_≠aa)) (sV al.out) hg hat);replace HB:=qaa.mk (hb);have aW:=qaa.mk (ho);clear aV ho hb hg hat;have dG:(aj:Int)<=((ai.length:Int):Int):=oD9 sA;obtain⟨eI,bz,_,bB,_⟩:=info_parts info58;have ar:ai.length<=ax:=(Kd.N_reads' am.out).2.1;have cx:Kd.F k58 _ _ aD ai.length ai:=(Kd.V_at (base:=w.heap.size) (Kd.N_V am.out)).2.2;have dH:(0:Int)<=(aj:Int):=oD9 sA;have bU:=cut_from (P:=Tryz.prog) 35 58 .i64 Tryz.underlying35 bz 7 bB aD ai.length ax aj dH dG;have aY:=Kd.F_cut (m:=(aj:Int).toNat) (c:=ax) cx (by omega) ar;obtain⟨eg,bn⟩:∃ A1,A1=(if ax=(aj:Int).toNat then aD else (aD:Option Addr).map (·.add ((aj:Int).toNat * 7))):=⟨_,rfl⟩;obtain⟨eh,bp⟩:∃ c1,c1=ax - (aj:Int).toNat:=⟨_,rfl⟩;have aZ:an.length=ai.length - (aj:Int).toNat:=(by rw [bY.out,List.length_drop]<;>omega);rw [show (ai).drop (aj:Int).toNat=an from bY.out.symm] at aY;replace aY:Kd.F k58 _ _ eg an.length an:=(by rw [bn];exact aY);rw [<- aZ,<- bn,<- bp] at bU;have a8:=qaa.mk (show Kd.V k58 58 _ w.heap.size _ (.slice eg an.length eh) an from Kd.V_mk (by rw [aZ,bp];exact Nat.sub_le_sub_right ar _) aY);have ek:=qaa.mk (show an.length<=eh from by rw [aZ,bp];exact Nat.sub_le_sub_right ar _);clear aY cx ar bz bB bp;have eJ:=qaa.mk aZ;have eK:=qaa.mk bn;clear aZ bn;replace dG:=eq_true dG)|((with_reducible refine qaG (b:=.append) (xs:=#[.tmp 48,.tmp 51]) rfl ?_);at_builtin;refine Kd.N_append_rows k58 (w0:=w) w.heap.size rfl (.tmp 48) (.tmp 51) 35 58 (.agg #[(.int .i64 0),(.int .i64 0),(.int .i64 0),(.int .i64 0),(.int .i64 0),(.slice none 0 0),(.slice none 0 0)]) 88 rfl Tryz.underlying35 info58 rfl (by decide) (by omega) bT aQ an _ _ _ (fun k_=>(ag k_\/w.heap.size<=k_)/\k_≠aa) (fun k_=>((fun k_=>(ag k_\/w.heap.size<=k_)/\k_≠aa)) k_/\some k_≠(bT:Value).ownBlock) rfl rfl ?aO ?aR (fun _ hk=>hk) ?aF ?aB ?aS ?aL ?_;(case aR=>exact (by skip;exact Kd.V_F (Kd.V_mono (ok':=(fun k_=>((fun k_=>(ag k_\/w.heap.size<=k_)/\k_≠aa)) k_/\some k_≠(bT:Value).ownBlock)) (a8.out) (fun k_ hk=>⟨⟨hk.1.1,hk.1.2⟩,hk.2⟩))));(case aB=>exact sB);(case aF=>exact (fun k_ hk=>⟨(.inr (Nat.le_trans (qab sB) hk)),Kd.freshB (g:=aa) (o:=.cells #[.int .i64 av,.int .i64 aw,.slice (some bx) ac.length c0_2] 37 (0,0)) (sK ah.out) k_ hk⟩));(case aO=>exact (sN aW.out));(case aS=>exact (qab sB));(case aL=>have:=dC.out;omega);intro eL fZ ho hb hg hat;rw [<- dD.out] at ho;replace am:=qaa.mk (Kd.N_afterv (ok:=(fun k_=>(ag k_\/w.heap.size<=k_)/\k_≠aa)) (sN am.out) hg hat);replace af:=qaa.mk (Kd.V_afterv (ok:=(fun k_=>(ag k_\/w.heap.size<=k_)/\some k_≠(.slice aD ai.length ax:Value).ownBlock/\k_≠aa)) (sV af.out) hg hat);replace ah:=qaa.mk (sKg ah.out hg (Kd.N_ne aW.out ah.out (by decide)));replace au:=qaa.mk (Kd.V_afterv (ok:=(fun k_=>(ag k_\/w.heap.size<=k_)/\k_≠aa)) (sV au.out) hg hat);replace ak:=qaa.mk (Kd.V_afterv (ok:=(fun k_=>(ag k_\/w.heap.size<=k_)/\some k_≠(.slice aD ai.length ax:Value).ownBlock/\k_≠aa)) (sV ak.out) hg hat);replace al:=qaa.mk (Kd.V_afterv (ok:=(fun k_=>(ag k_\/w.heap.size<=k_)/\some k_≠(.slice aD ai.length ax:Value).ownBlock/\k_≠aa)) (sV al.out) hg hat);replace a8:=qaa.mk (Kd.V_afterv (ok:=(fun k_=>(ag k_\/w.heap.size<=k_)/\k_≠aa)) (sV a8.out) hg hat);replace HB:=qaa.mk (hb);have dI:=qaa.mk (ho);clear aW ho hb hg hat))
                repeat (go_quiet (first|((with_reducible refine qas (N:=35) rfl ?_);refine Kd.N_lit k58 _ 58 ?hg (N':=35) ?hd (xs:=([]:List (S58))) (inner:=[]) (ok:=(fun k_=>(ag k_\/w.heap.size<=k_)/\some k_≠(.slice aD ai.length ax:Value).ownBlock/\k_≠aa)) (okp:=(fun k_=>(ag k_\/w.heap.size<=k_)/\some k_≠(.slice aD ai.length ax:Value).ownBlock/\k_≠aa)) ?hr ?hp (fun _ hk=>hk) ((show ∀ k_,wc.heap.size<=k_->(fun k_=>(ag k_\/w.heap.size<=k_)/\some k_≠(.slice aD ai.length ax:Value).ownBlock/\k_≠aa) k_ from fun k_ hk=>⟨(.inr (Nat.le_trans (qab sB) hk)),Kd.fresh' (Kd.N_lt (sN am.out)) k_ hk,Kd.freshB (g:=aa) (o:=.cells #[.int .i64 av,.int .i64 aw,.slice A0_2 ac.length c0_2] 37 (0,0)) (sK ah.out) k_ hk⟩) _ (nR9 _)) (bR9 _ _) (nR9 _) (by simp) ?_;(case hd=>rfl);(case hg=>rfl);(case hr=>first|(go_simp;done)|(go_simp;rfl));(case hp=>exact (Reps.none _ _));intro bJ fX aG hb hg_ hnew_;clear hg_ hnew_;(first|rw [<- bV.out] at aG|(simp only [Int.reduceToNat] at aG;rw [<- bV.out] at aG));replace am:=qaa.mk (Kd.N_elder' (sN am.out) (Kd.N_base aG) hb);replace af:=qaa.mk (Kd.V_elder' (sV af.out) (Kd.N_base aG) hb);have aU:=qaa.mk (Kd.N_lower aG (qab sB));replace ah:=qaa.mk (sKb ah.out hb);replace HB:=qaa.mk (qag sB hb);clear hb aG;have dE:(aj:Int)<=((ai.length:Int):Int):=oD9 sA;obtain⟨eF,bt,_,cr,_⟩:=info_parts info58;have aI:ai.length<=ax:=(Kd.N_reads' am.out).2.1;have ct:Kd.F k58 _ _ aD ai.length ai:=(Kd.V_at (base:=w.heap.size) (Kd.N_V am.out)).2.2;have bK:=cut_to (P:=Tryz.prog) 35 58 .i64 Tryz.underlying35 bt aD ai.length ax aj (oD9 sA) dE aI;have bL:=Kd.F_take (m:=(aj:Int).toNat) ct (by omega);have bM:aE.length=(aj:Int).toNat:=(by rw [bW.out,List.length_take];omega);rw [<- bW.out] at bL;rw [<- bM] at bK;have au:=qaa.mk (show Kd.V k58 58 _ w.heap.size _ (.slice aD aE.length ax) aE from Kd.V_mk (by omega) bL);have ed:=qaa.mk (show aE.length<=ax from by omega);clear bL ct aI bt cr;have eG:=qaa.mk bM;clear bM;replace dE:=eq_true dE)|((with_reducible refine qaG (b:=.append) (xs:=#[.tmp 35,.tmp 38]) rfl ?_);at_builtin;refine Kd.N_append_rows k58 (w0:=w) w.heap.size rfl (.tmp 35) (.tmp 38) 35 58 (.agg #[(.int .i64 0),(.int .i64 0),(.int .i64 0),(.int .i64 0),(.int .i64 0),(.slice none 0 0),(.slice none 0 0)]) 88 rfl Tryz.underlying35 info58 rfl (by decide) (by omega) bJ bC aE _ _ _ (fun k_=>(ag k_\/w.heap.size<=k_)/\k_≠aa) (fun k_=>((fun k_=>(ag k_\/w.heap.size<=k_)/\k_≠aa)) k_/\some k_≠(bJ:Value).ownBlock) rfl rfl ?aO ?aR (fun _ hk=>hk) ?aF ?aB ?aS ?aL ?_;(case aR=>exact (by skip;exact Kd.V_F (Kd.V_mono (ok':=(fun k_=>((fun k_=>(ag k_\/w.heap.size<=k_)/\k_≠aa)) k_/\some k_≠(bJ:Value).ownBlock)) (au.out) (fun k_ hk=>⟨⟨hk.1.1,hk.1.2⟩,hk.2⟩))));(case aB=>exact sB);(case aF=>exact (fun k_ hk=>⟨(.inr (Nat.le_trans (qab sB) hk)),Kd.freshB (g:=aa) (o:=.cells #[.int .i64 av,.int .i64 aw,.slice A0_2 ac.length c0_2] 37 (0,0)) (sK ah.out) k_ hk⟩));(case aO=>exact (by refine sNm ?_;exact Kd.N_mono aU.out (fun _ hk=>⟨hk.1,hk.2.2⟩)));(case aS=>exact (qab sB));(case aL=>have:=dy.out;omega);intro aT eH ho hb hg hat;rw [<- dz.out] at ho;replace am:=qaa.mk (Kd.N_afterv (ok:=(fun k_=>(ag k_\/w.heap.size<=k_)/\k_≠aa)) (sN am.out) hg hat);replace af:=qaa.mk (Kd.V_afterv (ok:=(fun k_=>(ag k_\/w.heap.size<=k_)/\some k_≠(.slice aD ai.length ax:Value).ownBlock/\k_≠aa)) (sV af.out) hg hat);replace ah:=qaa.mk (sKg ah.out hg (Kd.N_ne aU.out ah.out (by decide)));replace au:=qaa.mk (Kd.V_afterv (ok:=(fun k_=>(ag k_\/w.heap.size<=k_)/\k_≠aa)) (sV au.out) hg hat);replace HB:=qaa.mk (hb);have aV:=qaa.mk (ho);clear aU ho hb hg hat;obtain⟨cO,cP,cR⟩:=sC3 (w:=eH) ah.out;obtain⟨cS,cT,cU⟩:=sF3 ah.out;have bg:0<=(ae:Int):=oD9 sA;have bh:ae<(ac.length:Int):=oD9 sA;obtain⟨bx,bN,bO,bP,bQ,dF,cV,cW,cY,cZ,da,bj,bm,aJ,aK,aM,aN⟩:=at_T58 (Kd.V_reads' af.out).2.2 ae bg bh;cases dF;obtain⟨ef,bR,bS,aH⟩:=Kd.V_get af.out z58 ae bg (by first|exact bh|exact oD9 sA|(have e_:=(Kd.V_reads' af.out).1;omega));obtain⟨db,dc,de,df,rfl,ay,az,aA,aC⟩:=qbg bS;have ap:=aH 5 _ rfl;rw [qav _ _ 5 (by omega)] at ap;replace ap:=Option.some.inj (ap.symm.trans bj);injection ap with hva_ hvn_ hvc_;rw [hva_] at az;rw [hvc_] at ay;have ak:=qaa.mk (show Kd.V (Kd.int .i64) 2 _ w.heap.size _ _ ((qan ac ae).f5) from Kd.V_mk ay az);clear hva_ hvn_ hvc_ az ay;have aq:=aH 6 _ rfl;rw [qav _ _ 6 (by omega)] at aq;replace aq:=Option.some.inj (aq.symm.trans bm);injection aq with hva_ hvn_ hvc_;rw [hva_] at aC;rw [hvc_] at aA;have al:=qaa.mk (show Kd.V (Kd.int .i64) 3 _ w.heap.size _ _ ((qan ac ae).f6) from Kd.V_mk aA aC);clear hva_ hvn_ hvc_ aC aA aH bR;have dg:=qaa.mk aK;have dh:=qaa.mk aJ;clear aK aJ;have di:=qaa.mk aN;have dj:=qaa.mk aM;clear aN aM;replace bg:=eq_true bg;replace bh:=eq_true bh)|((with_reducible refine qaG (b:=.append) (xs:=#[.tmp 40,.tmp 46]) rfl ?_);at_builtin;refine Kd.N_append k58 (w0:=w) w.heap.size rfl (.tmp 40) (.tmp 46) 35 58 (.agg #[(.int .i64 0),(.int .i64 0),(.int .i64 0),(.int .i64 0),(.int .i64 0),(.slice none 0 0),(.slice none 0 0)]) 88 rfl Tryz.underlying35 info58 rfl (by decide) (by omega) aT ba (⟨(qan ac ae).f0,(qan ac ae).f1,(qan ac ae).f2,(qan ac ae).f3,(qan ac ae).f4,(qan ac ae).f5,(qan ac ae).f6⟩:S58) [.int .i64 ((qan ac ae).f0),.int .i64 ((qan ac ae).f1),.int .i64 ((qan ac ae).f2),.int .i64 ((qan ac ae).f3),.int .i64 ((qan ac ae).f4),.slice bN ((qan ac ae).f5).length bO,.slice bP ((qan ac ae).f6).length bQ] (fun k_=>(ag k_\/w.heap.size<=k_)/\k_≠aa) (fun k_=>((fun k_=>(ag k_\/w.heap.size<=k_)/\k_≠aa)) k_/\some k_≠(aT:Value).ownBlock) rfl rfl ?aP (fun _ hk=>hk) ?aF ?aO ?aB ?aS ?aL ?_;(case aP=>exact (k58_mkF _ _ (⟨(qan ac ae).f0,(qan ac ae).f1,(qan ac ae).f2,(qan ac ae).f3,(qan ac ae).f4,(qan ac ae).f5,(qan ac ae).f6⟩:S58) (Kd.V_reads' (Kd.V_mono (ok':=(fun k_=>((fun k_=>(ag k_\/w.heap.size<=k_)/\k_≠aa)) k_/\some k_≠(aT:Value).ownBlock)) (ak.out) (fun k_ hk=>⟨⟨hk.1.1,hk.1.2.2⟩,hk.2⟩))).2.1 (Kd.V_F (Kd.V_mono (ok':=(fun k_=>((fun k_=>(ag k_\/w.heap.size<=k_)/\k_≠aa)) k_/\some k_≠(aT:Value).ownBlock)) (ak.out) (fun k_ hk=>⟨⟨hk.1.1,hk.1.2.2⟩,hk.2⟩))) (Kd.V_reads' (Kd.V_mono (ok':=(fun k_=>((fun k_=>(ag k_\/w.heap.size<=k_)/\k_≠aa)) k_/\some k_≠(aT:Value).ownBlock)) (al.out) (fun k_ hk=>⟨⟨hk.1.1,hk.1.2.2⟩,hk.2⟩))).2.1 (Kd.V_F (Kd.V_mono (ok':=(fun k_=>((fun k_=>(ag k_\/w.heap.size<=k_)/\k_≠aa)) k_/\some k_≠(aT:Value).ownBlock)) (al.out) (fun k_ hk=>⟨⟨hk.1.1,hk.1.2.2⟩,hk.2⟩)))));(case aB=>exact sB);(case aF=>exact (fun k_ hk=>⟨(.inr (Nat.le_trans (qab sB) hk)),Kd.freshB (g:=aa) (o:=.cells #[.int .i64 av,.int .i64 aw,.slice (some bx) ac.length c0_2] 37 (0,0)) (sK ah.out) k_ hk⟩));(case aO=>exact (sN aV.out));(case aS=>exact (qab sB));(case aL=>have:=dA.out;omega);intro bT fY ho hb hg hat;rw [<- dB.out] at ho;replace am:=qaa.mk (Kd.N_afterv (ok:=(fun k_=>(ag k_\/w.heap.size<=k_)/\k_≠aa)) (sN am.out) hg hat);replace af:=qaa.mk (Kd.V_afterv (ok:=(fun k_=>(ag k_\/w.heap.size<=k_)/\some k_≠(.slice aD ai.length ax:Value).ownBlock/\k_≠aa)) (sV af.out) hg hat);replace ah:=qaa.mk (sKg ah.out hg (Kd.N_ne aV.out ah.out (by decide)));replace au:=qaa.mk (Kd.V_afterv (ok:=(fun k_=>(ag k_\/w.heap.size<=k_)/\k_≠aa)) (sV au.out) hg hat);replace ak:=qaa.mk (Kd.V_afterv (ok:=(fun k_=>(ag k_\/w.heap.size<=k_)/\some k_≠(.slice aD ai.length ax:Value).ownBlock/\k_≠aa)) (sV ak.out) hg hat);replace al:=qaa.mk (Kd.V_afterv (ok:=(fun k_=>(ag k_\/w.heap.size<=k_)/\some k_≠(.slice aD ai.length ax:Value).ownBlock/\k_≠aa)) (sV al.out) hg hat);replace HB:=qaa.mk (hb);have aW:=qaa.mk (ho);clear aV ho hb hg hat;have dG:(aj:Int)<=((ai.length:Int):Int):=oD9 sA;obtain⟨eI,bz,_,bB,_⟩:=info_parts info58;have ar:ai.length<=ax:=(Kd.N_reads' am.out).2.1;have cx:Kd.F k58 _ _ aD ai.length ai:=(Kd.V_at (base:=w.heap.size) (Kd.N_V am.out)).2.2;have dH:(0:Int)<=(aj:Int):=oD9 sA;have bU:=cut_from (P:=Tryz.prog) 35 58 .i64 Tryz.underlying35 bz 7 bB aD ai.length ax aj dH dG;have aY:=Kd.F_cut (m:=(aj:Int).toNat) (c:=ax) cx (by omega) ar;obtain⟨eg,bn⟩:∃ A1,A1=(if ax=(aj:Int).toNat then aD else (aD:Option Addr).map (·.add ((aj:Int).toNat * 7))):=⟨_,rfl⟩;obtain⟨eh,bp⟩:∃ c1,c1=ax - (aj:Int).toNat:=⟨_,rfl⟩;have aZ:an.length=ai.length - (aj:Int).toNat:=(by rw [bY.out,List.length_drop]<;>omega);rw [show (ai).drop (aj:Int).toNat=an from bY.out.symm] at aY;replace aY:Kd.F k58 _ _ eg an.length an:=(by rw [bn];exact aY);rw [<- aZ,<- bn,<- bp] at bU;have a8:=qaa.mk (show Kd.V k58 58 _ w.heap.size _ (.slice eg an.length eh) an from Kd.V_mk (by rw [aZ,bp];exact Nat.sub_le_sub_right ar _) aY);have ek:=qaa.mk (show an.length<=eh from by rw [aZ,bp];exact Nat.sub_le_sub_right ar _);clear aY cx ar bz bB bp;have eJ:=qaa.mk aZ;have eK:=qaa.mk bn;clear aZ bn;replace dG:=eq_true dG)|((with_reducible refine qaG (b:=.append) (xs:=#[.tmp 48,.tmp 51]) rfl ?_);at_builtin;refine Kd.N_append_rows k58 (w0:=w) w.heap.size rfl (.tmp 48) (.tmp 51) 35 58 (.agg #[(.int .i64 0),(.int .i64 0),(.int .i64 0),(.int .i64 0),(.int .i64 0),(.slice none 0 0),(.slice none 0 0)]) 88 rfl Tryz.underlying35 info58 rfl (by decide) (by omega) bT aQ an _ _ _ (fun k_=>(ag k_\/w.heap.size<=k_)/\k_≠aa) (fun k_=>((fun k_=>(ag k_\/w.heap.size<=k_)/\k_≠aa)) k_/\some k_≠(bT:Value).ownBlock) rfl rfl ?aO ?aR (fun _ hk=>hk) ?aF ?aB ?aS ?aL ?_;(case aR=>exact (by skip;exact Kd.V_F (Kd.V_mono (ok':=(fun k_=>((fun k_=>(ag k_\/w.heap.size<=k_)/\k_≠aa)) k_/\some k_≠(bT:Value).ownBlock)) (a8.out) (fun k_ hk=>⟨⟨hk.1.1,hk.1.2⟩,hk.2⟩))));(case aB=>exact sB);(case aF=>exact (fun k_ hk=>⟨(.inr (Nat.le_trans (qab sB) hk)),Kd.freshB (g:=aa) (o:=.cells #[.int .i64 av,.int .i64 aw,.slice (some bx) ac.length c0_2] 37 (0,0)) (sK ah.out) k_ hk⟩));(case aO=>exact (sN aW.out));(case aS=>exact (qab sB));(case aL=>have:=dC.out;omega);intro eL fZ ho hb hg hat;rw [<- dD.out] at ho;replace am:=qaa.mk (Kd.N_afterv (ok:=(fun k_=>(ag k_\/w.heap.size<=k_)/\k_≠aa)) (sN am.out) hg hat);replace af:=qaa.mk (Kd.V_afterv (ok:=(fun k_=>(ag k_\/w.heap.size<=k_)/\some k_≠(.slice aD ai.length ax:Value).ownBlock/\k_≠aa)) (sV af.out) hg hat);replace ah:=qaa.mk (sKg ah.out hg (Kd.N_ne aW.out ah.out (by decide)));replace au:=qaa.mk (Kd.V_afterv (ok:=(fun k_=>(ag k_\/w.heap.size<=k_)/\k_≠aa)) (sV au.out) hg hat);replace ak:=qaa.mk (Kd.V_afterv (ok:=(fun k_=>(ag k_\/w.heap.size<=k_)/\some k_≠(.slice aD ai.length ax:Value).ownBlock/\k_≠aa)) (sV ak.out) hg hat);replace al:=qaa.mk (Kd.V_afterv (ok:=(fun k_=>(ag k_\/w.heap.size<=k_)/\some k_≠(.slice aD ai.length ax:Value).ownBlock/\k_≠aa)) (sV al.out) hg hat);replace a8:=qaa.mk (Kd.V_afterv (ok:=(fun k_=>(ag k_\/w.heap.size<=k_)/\k_≠aa)) (sV a8.out) hg hat);replace HB:=qaa.mk (hb);have dI:=qaa.mk (ho);clear aW ho hb hg hat));try go_wp2_with (first|((with_reducible refine qas (N:=35) rfl ?_);refine Kd.N_lit k58 _ 58 ?hg (N':=35) ?hd (xs:=([]:List (S58))) (inner:=[]) (ok:=(fun k_=>(ag k_\/w.heap.size<=k_)/\some k_≠(.slice aD ai.length ax:Value).ownBlock/\k_≠aa)) (okp:=(fun k_=>(ag k_\/w.heap.size<=k_)/\some k_≠(.slice aD ai.length ax:Value).ownBlock/\k_≠aa)) ?hr ?hp (fun _ hk=>hk) ((show ∀ k_,wc.heap.size<=k_->(fun k_=>(ag k_\/w.heap.size<=k_)/\some k_≠(.slice aD ai.length ax:Value).ownBlock/\k_≠aa) k_ from fun k_ hk=>⟨(.inr (Nat.le_trans (qab sB) hk)),Kd.fresh' (Kd.N_lt (sN am.out)) k_ hk,Kd.freshB (g:=aa) (o:=.cells #[.int .i64 av,.int .i64 aw,.slice A0_2 ac.length c0_2] 37 (0,0)) (sK ah.out) k_ hk⟩) _ (nR9 _)) (bR9 _ _) (nR9 _) (by simp) ?_;(case hd=>rfl);(case hg=>rfl);(case hr=>first|(go_simp;done)|(go_simp;rfl));(case hp=>exact (Reps.none _ _));intro bJ fX aG hb hg_ hnew_;clear hg_ hnew_;(first|rw [<- bV.out] at aG|(simp only [Int.reduceToNat] at aG;rw [<- bV.out] at aG));replace am:=qaa.mk (Kd.N_elder' (sN am.out) (Kd.N_base aG) hb);replace af:=qaa.mk (Kd.V_elder' (sV af.out) (Kd.N_base aG) hb);have aU:=qaa.mk (Kd.N_lower aG (qab sB));replace ah:=qaa.mk (sKb ah.out hb);replace HB:=qaa.mk (qag sB hb);clear hb aG;have dE:(aj:Int)<=((ai.length:Int):Int):=oD9 sA;obtain⟨eF,bt,_,cr,_⟩:=info_parts info58;have aI:ai.length<=ax:=(Kd.N_reads' am.out).2.1;have ct:Kd.F k58 _ _ aD ai.length ai:=(Kd.V_at (base:=w.heap.size) (Kd.N_V am.out)).2.2;have bK:=cut_to (P:=Tryz.prog) 35 58 .i64 Tryz.underlying35 bt aD ai.length ax aj (oD9 sA) dE aI;have bL:=Kd.F_take (m:=(aj:Int).toNat) ct (by omega);have bM:aE.length=(aj:Int).toNat:=(by rw [bW.out,List.length_take];omega);rw [<- bW.out] at bL;rw [<- bM] at bK;have au:=qaa.mk (show Kd.V k58 58 _ w.heap.size _ (.slice aD aE.length ax) aE from Kd.V_mk (by omega) bL);have ed:=qaa.mk (show aE.length<=ax from by omega);clear bL ct aI bt cr;have eG:=qaa.mk bM;clear bM;replace dE:=eq_true dE)|((with_reducible refine qaG (b:=.append) (xs:=#[.tmp 35,.tmp 38]) rfl ?_);at_builtin;refine Kd.N_append_rows k58 (w0:=w) w.heap.size rfl (.tmp 35) (.tmp 38) 35 58 (.agg #[(.int .i64 0),(.int .i64 0),(.int .i64 0),(.int .i64 0),(.int .i64 0),(.slice none 0 0),(.slice none 0 0)]) 88 rfl Tryz.underlying35 info58 rfl (by decide) (by omega) bJ bC aE _ _ _ (fun k_=>(ag k_\/w.heap.size<=k_)/\k_≠aa) (fun k_=>((fun k_=>(ag k_\/w.heap.size<=k_)/\k_≠aa)) k_/\some k_≠(bJ:Value).ownBlock) rfl rfl ?aO ?aR (fun _ hk=>hk) ?aF ?aB ?aS ?aL ?_;(case aR=>exact (by skip;exact Kd.V_F (Kd.V_mono (ok':=(fun k_=>((fun k_=>(ag k_\/w.heap.size<=k_)/\k_≠aa)) k_/\some k_≠(bJ:Value).ownBlock)) (au.out) (fun k_ hk=>⟨⟨hk.1.1,hk.1.2⟩,hk.2⟩))));(case aB=>exact sB);(case aF=>exact (fun k_ hk=>⟨(.inr (Nat.le_trans (qab sB) hk)),Kd.freshB (g:=aa) (o:=.cells #[.int .i64 av,.int .i64 aw,.slice A0_2 ac.length c0_2] 37 (0,0)) (sK ah.out) k_ hk⟩));(case aO=>exact (by refine sNm ?_;exact Kd.N_mono aU.out (fun _ hk=>⟨hk.1,hk.2.2⟩)));(case aS=>exact (qab sB));(case aL=>have:=dy.out;omega);intro aT eH ho hb hg hat;rw [<- dz.out] at ho;replace am:=qaa.mk (Kd.N_afterv (ok:=(fun k_=>(ag k_\/w.heap.size<=k_)/\k_≠aa)) (sN am.out) hg hat);replace af:=qaa.mk (Kd.V_afterv (ok:=(fun k_=>(ag k_\/w.heap.size<=k_)/\some k_≠(.slice aD ai.length ax:Value).ownBlock/\k_≠aa)) (sV af.out) hg hat);replace ah:=qaa.mk (sKg ah.out hg (Kd.N_ne aU.out ah.out (by decide)));replace au:=qaa.mk (Kd.V_afterv (ok:=(fun k_=>(ag k_\/w.heap.size<=k_)/\k_≠aa)) (sV au.out) hg hat);replace HB:=qaa.mk (hb);have aV:=qaa.mk (ho);clear aU ho hb hg hat;obtain⟨cO,cP,cR⟩:=sC3 (w:=eH) ah.out;obtain⟨cS,cT,cU⟩:=sF3 ah.out;have bg:0<=(ae:Int):=oD9 sA;have bh:ae<(ac.length:Int):=oD9 sA;obtain⟨bx,bN,bO,bP,bQ,dF,cV,cW,cY,cZ,da,bj,bm,aJ,aK,aM,aN⟩:=at_T58 (Kd.V_reads' af.out).2.2 ae bg bh;cases dF;obtain⟨ef,bR,bS,aH⟩:=Kd.V_get af.out z58 ae bg (by first|exact bh|exact oD9 sA|(have e_:=(Kd.V_reads' af.out).1;omega));obtain⟨db,dc,de,df,rfl,ay,az,aA,aC⟩:=qbg bS;have ap:=aH 5 _ rfl;rw [qav _ _ 5 (by omega)] at ap;replace ap:=Option.some.inj (ap.symm.trans bj);injection ap with hva_ hvn_ hvc_;rw [hva_] at az;rw [hvc_] at ay;have ak:=qaa.mk (show Kd.V (Kd.int .i64) 2 _ w.heap.size _ _ ((qan ac ae).f5) from Kd.V_mk ay az);clear hva_ hvn_ hvc_ az ay;have aq:=aH 6 _ rfl;rw [qav _ _ 6 (by omega)] at aq;replace aq:=Option.some.inj (aq.symm.trans bm);injection aq with hva_ hvn_ hvc_;rw [hva_] at aC;rw [hvc_] at aA;have al:=qaa.mk (show Kd.V (Kd.int .i64) 3 _ w.heap.size _ _ ((qan ac ae).f6) from Kd.V_mk aA aC);clear hva_ hvn_ hvc_ aC aA aH bR;have dg:=qaa.mk aK;have dh:=qaa.mk aJ;clear aK aJ;have di:=qaa.mk aN;have dj:=qaa.mk aM;clear aN aM;replace bg:=eq_true bg;replace bh:=eq_true bh)|((with_reducible refine qaG (b:=.append) (xs:=#[.tmp 40,.tmp 46]) rfl ?_);at_builtin;refine Kd.N_append k58 (w0:=w) w.heap.size rfl (.tmp 40) (.tmp 46) 35 58 (.agg #[(.int .i64 0),(.int .i64 0),(.int .i64 0),(.int .i64 0),(.int .i64 0),(.slice none 0 0),(.slice none 0 0)]) 88 rfl Tryz.underlying35 info58 rfl (by decide) (by omega) aT ba (⟨(qan ac ae).f0,(qan ac ae).f1,(qan ac ae).f2,(qan ac ae).f3,(qan ac ae).f4,(qan ac ae).f5,(qan ac ae).f6⟩:S58) [.int .i64 ((qan ac ae).f0),.int .i64 ((qan ac ae).f1),.int .i64 ((qan ac ae).f2),.int .i64 ((qan ac ae).f3),.int .i64 ((qan ac ae).f4),.slice bN ((qan ac ae).f5).length bO,.slice bP ((qan ac ae).f6).length bQ] (fun k_=>(ag k_\/w.heap.size<=k_)/\k_≠aa) (fun k_=>((fun k_=>(ag k_\/w.heap.size<=k_)/\k_≠aa)) k_/\some k_≠(aT:Value).ownBlock) rfl rfl ?aP (fun _ hk=>hk) ?aF ?aO ?aB ?aS ?aL ?_;(case aP=>exact (k58_mkF _ _ (⟨(qan ac ae).f0,(qan ac ae).f1,(qan ac ae).f2,(qan ac ae).f3,(qan ac ae).f4,(qan ac ae).f5,(qan ac ae).f6⟩:S58) (Kd.V_reads' (Kd.V_mono (ok':=(fun k_=>((fun k_=>(ag k_\/w.heap.size<=k_)/\k_≠aa)) k_/\some k_≠(aT:Value).ownBlock)) (ak.out) (fun k_ hk=>⟨⟨hk.1.1,hk.1.2.2⟩,hk.2⟩))).2.1 (Kd.V_F (Kd.V_mono (ok':=(fun k_=>((fun k_=>(ag k_\/w.heap.size<=k_)/\k_≠aa)) k_/\some k_≠(aT:Value).ownBlock)) (ak.out) (fun k_ hk=>⟨⟨hk.1.1,hk.1.2.2⟩,hk.2⟩))) (Kd.V_reads' (Kd.V_mono (ok':=(fun k_=>((fun k_=>(ag k_\/w.heap.size<=k_)/\k_≠aa)) k_/\some k_≠(aT:Value).ownBlock)) (al.out) (fun k_ hk=>⟨⟨hk.1.1,hk.1.2.2⟩,hk.2⟩))).2.1 (Kd.V_F (Kd.V_mono (ok':=(fun k_=>((fun k_=>(ag k_\/w.heap.size<=k_)/\k_≠aa)) k_/\some k_≠(aT:Value).ownBlock)) (al.out) (fun k_ hk=>⟨⟨hk.1.1,hk.1.2.2⟩,hk.2⟩)))));(case aB=>exact sB);(case aF=>exact (fun k_ hk=>⟨(.inr (Nat.le_trans (qab sB) hk)),Kd.freshB (g:=aa) (o:=.cells #[.int .i64 av,.int .i64 aw,.slice (some bx) ac.length c0_2] 37 (0,0)) (sK ah.out) k_ hk⟩));(case aO=>exact (sN aV.out));(case aS=>exact (qab sB));(case aL=>have:=dA.out;omega);intro bT fY ho hb hg hat;rw [<- dB.out] at ho;replace am:=qaa.mk (Kd.N_afterv (ok:=(fun k_=>(ag k_\/w.heap.size<=k_)/\k_≠aa)) (sN am.out) hg hat);replace af:=qaa.mk (Kd.V_afterv (ok:=(fun k_=>(ag k_\/w.heap.size<=k_)/\some k_≠(.slice aD ai.length ax:Value).ownBlock/\k_≠aa)) (sV af.out) hg hat);replace ah:=qaa.mk (sKg ah.out hg (Kd.N_ne aV.out ah.out (by decide)));replace au:=qaa.mk (Kd.V_afterv (ok:=(fun k_=>(ag k_\/w.heap.size<=k_)/\k_≠aa)) (sV au.out) hg hat);replace ak:=qaa.mk (Kd.V_afterv (ok:=(fun k_=>(ag k_\/w.heap.size<=k_)/\some k_≠(.slice aD ai.length ax:Value).ownBlock/\k_≠aa)) (sV ak.out) hg hat);replace al:=qaa.mk (Kd.V_afterv (ok:=(fun k_=>(ag k_\/w.heap.size<=k_)/\some k_≠(.slice aD ai.length ax:Value).ownBlock/\k_≠aa)) (sV al.out) hg hat);replace HB:=qaa.mk (hb);have aW:=qaa.mk (ho);clear aV ho hb hg hat;have dG:(aj:Int)<=((ai.length:Int):Int):=oD9 sA;obtain⟨eI,bz,_,bB,_⟩:=info_parts info58;have ar:ai.length<=ax:=(Kd.N_reads' am.out).2.1;have cx:Kd.F k58 _ _ aD ai.length ai:=(Kd.V_at (base:=w.heap.size) (Kd.N_V am.out)).2.2;have dH:(0:Int)<=(aj:Int):=oD9 sA;have bU:=cut_from (P:=Tryz.prog) 35 58 .i64 Tryz.underlying35 bz 7 bB aD ai.length ax aj dH dG;have aY:=Kd.F_cut (m:=(aj:Int).toNat) (c:=ax) cx (by omega) ar;obtain⟨eg,bn⟩:∃ A1,A1=(if ax=(aj:Int).toNat then aD else (aD:Option Addr).map (·.add ((aj:Int).toNat * 7))):=⟨_,rfl⟩;obtain⟨eh,bp⟩:∃ c1,c1=ax - (aj:Int).toNat:=⟨_,rfl⟩;have aZ:an.length=ai.length - (aj:Int).toNat:=(by rw [bY.out,List.length_drop]<;>omega);rw [show (ai).drop (aj:Int).toNat=an from bY.out.symm] at aY;replace aY:Kd.F k58 _ _ eg an.length an:=(by rw [bn];exact aY);rw [<- aZ,<- bn,<- bp] at bU;have a8:=qaa.mk (show Kd.V k58 58 _ w.heap.size _ (.slice eg an.length eh) an from Kd.V_mk (by rw [aZ,bp];exact Nat.sub_le_sub_right ar _) aY);have ek:=qaa.mk (show an.length<=eh from by rw [aZ,bp];exact Nat.sub_le_sub_right ar _);clear aY cx ar bz bB bp;have eJ:=qaa.mk aZ;have eK:=qaa.mk bn;clear aZ bn;replace dG:=eq_true dG)|((with_reducible refine qaG (b:=.append) (xs:=#[.tmp 48,.tmp 51]) rfl ?_);at_builtin;refine Kd.N_append_rows k58 (w0:=w) w.heap.size rfl (.tmp 48) (.tmp 51) 35 58 (.agg #[(.int .i64 0),(.int .i64 0),(.int .i64 0),(.int .i64 0),(.int .i64 0),(.slice none 0 0),(.slice none 0 0)]) 88 rfl Tryz.underlying35 info58 rfl (by decide) (by omega) bT aQ an _ _ _ (fun k_=>(ag k_\/w.heap.size<=k_)/\k_≠aa) (fun k_=>((fun k_=>(ag k_\/w.heap.size<=k_)/\k_≠aa)) k_/\some k_≠(bT:Value).ownBlock) rfl rfl ?aO ?aR (fun _ hk=>hk) ?aF ?aB ?aS ?aL ?_;(case aR=>exact (by skip;exact Kd.V_F (Kd.V_mono (ok':=(fun k_=>((fun k_=>(ag k_\/w.heap.size<=k_)/\k_≠aa)) k_/\some k_≠(bT:Value).ownBlock)) (a8.out) (fun k_ hk=>⟨⟨hk.1.1,hk.1.2⟩,hk.2⟩))));(case aB=>exact sB);(case aF=>exact (fun k_ hk=>⟨(.inr (Nat.le_trans (qab sB) hk)),Kd.freshB (g:=aa) (o:=.cells #[.int .i64 av,.int .i64 aw,.slice (some bx) ac.length c0_2] 37 (0,0)) (sK ah.out) k_ hk⟩));(case aO=>exact (sN aW.out));(case aS=>exact (qab sB));(case aL=>have:=dC.out;omega);intro eL fZ ho hb hg hat;rw [<- dD.out] at ho;replace am:=qaa.mk (Kd.N_afterv (ok:=(fun k_=>(ag k_\/w.heap.size<=k_)/\k_≠aa)) (sN am.out) hg hat);replace af:=qaa.mk (Kd.V_afterv (ok:=(fun k_=>(ag k_\/w.heap.size<=k_)/\some k_≠(.slice aD ai.length ax:Value).ownBlock/\k_≠aa)) (sV af.out) hg hat);replace ah:=qaa.mk (sKg ah.out hg (Kd.N_ne aW.out ah.out (by decide)));replace au:=qaa.mk (Kd.V_afterv (ok:=(fun k_=>(ag k_\/w.heap.size<=k_)/\k_≠aa)) (sV au.out) hg hat);replace ak:=qaa.mk (Kd.V_afterv (ok:=(fun k_=>(ag k_\/w.heap.size<=k_)/\some k_≠(.slice aD ai.length ax:Value).ownBlock/\k_≠aa)) (sV ak.out) hg hat);replace al:=qaa.mk (Kd.V_afterv (ok:=(fun k_=>(ag k_\/w.heap.size<=k_)/\some k_≠(.slice aD ai.length ax:Value).ownBlock/\k_≠aa)) (sV al.out) hg hat);replace a8:=qaa.mk (Kd.V_afterv (ok:=(fun k_=>(ag k_\/w.heap.size<=k_)/\k_≠aa)) (sV a8.out) hg hat);replace HB:=qaa.mk (hb);have dI:=qaa.mk (ho);clear aW ho hb hg hat)))
                go_roundg dJ
                case measure=>have:=es.out;have:=et.out;have:=fh.out;omega
                case rel=>exact⟨(eE),(wrap64 (ae+1)),(by first|rfl|(simp;done)|(simp [*];done)),H',⟨by have:=es.out;have:=et.out;have:=fh.out;omega⟩,⟨by refine sNm ?_;exact dI.out⟩,⟨by refine sVm ?_;exact Kd.V_mono af.out (fun _ hk=>⟨hk.1.1,⟨hk.2,hk.1.2.2⟩⟩)⟩,⟨by refine sM ?_;exact ah.out⟩,⟨by repeat (first|(with_reducible first|exact HB.out|apply qaj|apply qaf|apply qai|refine qad ?_ bf.out)|exact HB.out)⟩⟩
               .rw [if_neg fp] at H;exact absurd H (by simp)
              .rw [if_neg fo] at H;exact absurd H (by simp)
             .rw [if_neg fm] at H;exact absurd H (by simp)
            .rw [if_neg fl] at H;exact absurd H (by simp)
           .rw [if_neg fk] at H;exact absurd H (by simp)
          .rw [if_neg eD] at H;exact absurd H (by simp)
         .rw [if_neg eC] at H;exact absurd H (by simp)
   .rw [if_neg c3] at H;have el:decide (ae<(ac.length:Int))=false:=decide_eq_false c3;clear c3;obtain rfl:=Option.some.inj H;obtain⟨fq,ft,fu⟩:=sC3 (w:=wr) ah.out;obtain⟨fv,fw,fx⟩:=sF3 ah.out;go_wp2;repeat (go_quiet (fail);try go_wp2)
    go_ret;exact⟨_,by first|rfl|(simp [qap,qao]<;>rfl)|(simp [bneNil,bneNilU]<;>rfl)|(simp [*,qap,qao]<;>rfl),by refine sNm ?_;exact Kd.N_mono am.out (fun _ hk=>hk.1),by repeat (first|(with_reducible first|exact HB.out|apply qaj|apply qaf|apply qai|refine qad ?_ bf.out)|exact HB.out)⟩
end
end Go.Proofs.YtgnaaokhfpfglaaGreatDoor.PCertBack
end
