/- Texts of this claim, one behind the other: QCertToldPMade, QCertToldQCst, QCertToldQCcr, QCertToldQCtx, QCertToldQCsm, QCertToldQGd, QCertToldQCgd, PureCertTold, Laid, LaidTab. -/
import Derived.Test.YtgnaaokhfpfglaaDoorZCertTold5
import Derived.Test.YtgnaaokhfpfglaaDoorZCertTold1
import Derived.Test.YtgnaaokhfpfglaaDoorZCertTold2
import Derived.Test.YtgnaaokhfpfglaaDoorRows
import Derived.Test.YtgnaaokhfpfglaaDoorCards
import Derived.Test.YtgnaaokhfpfglaaDoorTie
import Derived.ProofKit
import Derived.LaidMore
import Derived.Lay
import Derived.LaidLaws
import Derived.LaidHandle
import Derived.HandedShaped
import Derived.SevenTiedAt
import Derived.Lib.LaidU8
import Derived.Lib.LaidTab

set_option maxHeartbeats 8000000
set_option maxRecDepth 100000
set_option linter.unusedVariables false
set_option linter.unusedSimpArgs false
section
namespace Go.Proofs.YtgnaaokhfpfglaaDoor.PCertTold
open Go.RowKit Go.Proofs.YtgnaaokhfpfglaaDoorW.PrintWords
theorem rest_f (n b:Int) (h0:0<b) (h1:b≤1000000):ostinatoref05_rest.f n b=some (n % b):=by
 unfold ostinatoref05_rest.f
 rw [if_neg (by omega),rest_wrapP n b h0 h1]
structure GoodTask (i:Nat) (sets:Int) (t:S53):Prop where
 id:t.f0=(i:Int)+1
 c1:1≤t.f1
 cd:t.f1≤t.f2
 dt:t.f2≤t.f3
 t4:4≤t.f3
 t24:t.f3≤24
 p1:10≤t.f4
 p99:t.f4≤90+i
 pi:t.f4 % 10=i
 chl:t.f5.length≤25
 ch1:∀ y ∈ t.f5,1≤y
 chs:t.f5=[]∨t.f5.sum=t.f1
 usl:t.f6.length≤5
 us:∀ u ∈ t.f6,0≤u∧u<sets
structure GoodSys (sets reload:Int) (l:List S53):Prop where
 s1:1≤sets
 s8:sets≤8
 r0:0≤reload
 r3:reload≤3
 l1:1≤l.length
 l6:l.length≤6
 task:∀ (i:Nat) (h:i<l.length),GoodTask i sets l[i]
theorem task_l1 (s:Int) (hs:1≤s∧s≤8) (c0 c1 c2 c3 c4:Int) (U:List Int) (t0 t1 t2 t3 t4:Int) (t5:List Int):∀ (d g:Nat) (us:List Int),g+d=5→us.length=g→(∀ u ∈ us,0≤u∧u<s) →
  ∃ us',Ev (fun k=>ostinatoref05_Num_task.l1 k s (g:Int) c0 c1 c2 c3 c4 U t0 t1 t2 t3 t4 t5 us) (t0,t1,t2,t3,t4,t5,us')∧us'.length≤5∧∀ u ∈ us',0≤u∧u<s:=by
 intro d
 induction d with
 |zero=>
  intro g us hg hl hu
  obtain rfl:g=5:=by omega
  refine⟨us,Ev.step (fun k=>by rw [ostinatoref05_Num_task.l1]) ?_,by omega,hu⟩
  exact Ev.ite_ (fun _=>Ev.ifn (by decide) (Ev.now _)) (fun _=>Ev.now _)
 |succ d ih=>
  intro g us hg hl hu
  by_cases hU:(g:Int)<(U.length:Int)
  ·have hr:=rest_f (rd U g) s (by omega) (by omega)
   obtain⟨us',h1,h2,h3⟩:=ih (g+1) (us++[rd U g % s]) (by omega) (by simp [hl]) (fun u hu'=>by
    rcases List.mem_append.1 hu' with h|h
    ·exact hu u h
    ·simp at h;subst h;exact⟨Int.emod_nonneg _ (by omega),Int.emod_lt_of_pos _ (by omega)⟩)
   refine⟨us',Ev.step (fun k=>by rw [ostinatoref05_Num_task.l1]) ?_,h2,h3⟩
   refine Ev.ifp hU (Ev.ifp (by omega) (Ev.ifp (by omega) (Ev.bindS hr (Ev.ifp (by omega) ?_))))
   rw [qaD g (by omega)]
   exact h1
  ·exact⟨us,Ev.step (fun k=>by rw [ostinatoref05_Num_task.l1]) (Ev.ifn hU (Ev.now _)),by omega,hu⟩
theorem task_l0 (s:Int) (hs:1≤s∧s≤8) (c:Nat) (hc:1≤c∧c≤24) (c0 c1 c2 c3 c4:Int) (U:List Int) (t0 t1 t2 t3 t4:Int):∀ (d i f:Nat) (ch:List Int),i+d=c→f<i→ch.length<i→(∀ y ∈ ch,1≤y)→ch.sum=(f:Int)→(f=0→ch=[]) →
  ∃ ch' us',Ev (fun k=>ostinatoref05_Num_task.l0 k s (c:Int) (f:Int) (i:Int) c0 c1 c2 c3 c4 U t0 t1 t2 t3 t4 ch) (t0,t1,t2,t3,t4,ch',us')∧ch'.length≤25∧(∀ y ∈ ch',1≤y)∧(ch' = []∨ch'.sum=(c:Int))∧us'.length≤5∧∀ u ∈ us',0≤u∧u<s:=by
 intro d
 induction d with
 |zero=>
  intro i f ch hi hf hl hy hsum h0
  obtain rfl:i=c:=by omega
  have ej:∀ t5 us',Ev (fun k=>ostinatoref05_Num_task.l1 k s ((0:Nat):Int) c0 c1 c2 c3 c4 U t0 t1 t2 t3 t4 t5 []) (t0,t1,t2,t3,t4,t5,us')→Ev (fun k=>ostinatoref05_Num_task.j1 k s c0 c1 c2 c3 c4 U t0 t1 t2 t3 t4 t5) (t0,t1,t2,t3,t4,t5,us'):=fun t5 us' h=>Ev.step (fun k=>by rw [ostinatoref05_Num_task.j1];rfl) h
  by_cases hf0:(f:Int) > 0
  ·obtain⟨us',h1,h2,h3⟩:=task_l1 s hs c0 c1 c2 c3 c4 U t0 t1 t2 t3 t4 (ch++[wrap64 ((i:Int) - f)]) 5 0 [] rfl rfl (fun u hu=>by cases hu)
   refine⟨_,us',Ev.step (fun k=>by rw [ostinatoref05_Num_task.l0]) (Ev.ifn (by omega) (Ev.ifp hf0 (Ev.ifp (by omega) (ej _ _ h1)))),by simp;omega,?_,.inr ?_,h2,h3⟩
   ·intro y hm
    rcases List.mem_append.1 hm with h|h
    ·exact hy y h
    ·simp at h;subst h;rw [qaH (by omega) (by omega)];omega
   ·rw [List.sum_append,hsum,qaH (by omega) (by omega)];simp;omega
  ·obtain⟨us',h1,h2,h3⟩:=task_l1 s hs c0 c1 c2 c3 c4 U t0 t1 t2 t3 t4 ch 5 0 [] rfl rfl (fun u hu=>by cases hu)
   exact⟨_,us',Ev.step (fun k=>by rw [ostinatoref05_Num_task.l0]) (Ev.ifn (by omega) (Ev.ifn hf0 (ej _ _ h1))),by omega,hy,.inl (h0 (by omega)),h2,h3⟩
 |succ d ih=>
  intro i f ch hi hf hl hy hsum h0
  by_cases hb:bits .and .i64 (shr .i64 c4 (IntKind.u64.wrap (i:Int))) 1=1
  ·obtain⟨ch',us',h1,h2⟩:=ih (i+1) i (ch++[wrap64 ((i:Int) - f)]) (by omega) (by omega) (by simp;omega) (fun y hm=>by
    rcases List.mem_append.1 hm with h|h
    ·exact hy y h
    ·simp at h;subst h;rw [qaH (by omega) (by omega)];omega) (by rw [List.sum_append,hsum,qaH (by omega) (by omega)];simp;omega) (fun h=>by omega)
   refine⟨ch',us',Ev.step (fun k=>by rw [ostinatoref05_Num_task.l0]) (Ev.ifp (by omega) (Ev.ifp (u64_nonneg _) (Ev.ifp hb (Ev.ifp (by omega) ?_)))),h2⟩
   rw [qaD i (by omega)]
   exact h1
  ·obtain⟨ch',us',h1,h2⟩:=ih (i+1) f ch (by omega) (by omega) (by omega) hy hsum h0
   refine⟨ch',us',Ev.step (fun k=>by rw [ostinatoref05_Num_task.l0]) (Ev.ifp (by omega) (Ev.ifp (u64_nonneg _) (Ev.ifn hb ?_))),h2⟩
   rw [qaD i (by omega)]
   exact h1
theorem per_rng (j:Int) (h0:0≤j) (h8:j<8):4≤rd [4,5,6,8,10,12,20,24] j∧rd [4,5,6,8,10,12,20,24] j≤24:=by
 obtain⟨n,rfl⟩:∃ n:Nat,j=n:=⟨j.toNat,by omega⟩
 have h:n=0∨n=1∨n=2∨n=3∨n=4∨n=5∨n=6∨n=7:=by omega
 rcases h with rfl|rfl|rfl|rfl|rfl|rfl|rfl|rfl<;>decide
theorem task_f (nC nD nT nP nK:Int) (U:List Int) (i:Nat) (hi:i≤5) (s:Int) (hs:1≤s∧s≤8) :
  ∃ x:S53,Ev (fun k=>ostinatoref05_Num_task.f k nC nD nT nP nK U (i:Int) s) (x.f0,x.f1,x.f2,x.f3,x.f4,x.f5,x.f6)∧GoodTask i s x:=by
 obtain⟨j0,j8⟩:=and7_rng nT
 obtain⟨p4,p24⟩:=per_rng _ j0 j8
 obtain⟨T,hT⟩:∃ T,rd [4,5,6,8,10,12,20,24] (bits .and .i64 nT 7)=T:=⟨_,rfl⟩
 have hD:=rest_f nD T (by omega) (by omega)
 have d0:=Int.emod_nonneg nD (show T≠0 by omega)
 have d1:=Int.emod_lt_of_pos nD (show 0<T by omega)
 obtain⟨D,hDv⟩:∃ D,nD % T=D:=⟨_,rfl⟩
 rw [hDv] at hD d0 d1
 have hC:=rest_f nC (1+D) (by omega) (by omega)
 have e0:=Int.emod_nonneg nC (show 1+D≠0 by omega)
 have e1:=Int.emod_lt_of_pos nC (show 0<1+D by omega)
 obtain⟨C,hCv⟩:∃ C,nC % (1+D)=C:=⟨_,rfl⟩
 rw [hCv] at hC e0 e1
 have hP:=rest_f nP 9 (by omega) (by omega)
 have q0:=Int.emod_nonneg nP (show (9:Int)≠0 by omega)
 have q1:=Int.emod_lt_of_pos nP (show (0:Int)<9 by omega)
 obtain⟨p,hpv⟩:∃ p,nP % 9=p:=⟨_,rfl⟩
 rw [hpv] at hP q0 q1
 obtain⟨cn,hcn⟩:∃ c:Nat,1+C=c:=⟨(1+C).toNat,by omega⟩
 obtain⟨ch',us',h1,h2,h3,h4,h5,h6⟩:=task_l0 s hs cn (by omega) nC nD nT nP nK U ((i:Int)+1) (cn:Int) (1+D) T (10 * (1+p)+i) (cn - 1) 1 0 [] (by omega) (by decide) (by decide) (fun y hy=>by cases hy) rfl (fun _=>rfl)
 refine⟨⟨(i:Int)+1,cn,1+D,T,10 * (1+p)+i,ch',us'⟩,?_,⟨rfl,by show (1:Int)≤cn;omega,by show (cn:Int)≤1+D;omega,by show 1+D≤T;omega,by show 4≤T;omega,by show T≤24;omega,by show 10≤10 * (1+p)+(i:Int);omega,by show 10 * (1+p)+(i:Int)≤90+i;omega,by show (10 * (1+p)+(i:Int)) % 10=i;omega,h2,h3,h4,h5,h6⟩⟩
 show Ev _ ((i:Int)+1,(cn:Int),1+D,T,10 * (1+p)+(i:Int),ch',us')
 unfold ostinatoref05_Num_task.f
 rw [hT]
 refine Ev.ifp j0 (Ev.ifp j8 (Ev.bindS hD ?_))
 rw [qaH (show -9223372036854775808≤1+D by omega) (by omega)]
 refine Ev.bindS hC (Ev.bindS hP ?_)
 rw [hcn,qaH (show -9223372036854775808≤(cn:Int) by omega) (by omega),qaH (show -9223372036854775808≤(i:Int)+1 by omega) (by omega),qaH (show -9223372036854775808≤1+p by omega) (by omega),qaH (show -9223372036854775808≤10 * (1+p) by omega) (by omega),qaH (show -9223372036854775808≤10 * (1+p)+(i:Int) by omega) (by omega)]
 exact h1
theorem good_default (s:Int):GoodTask 0 s (⟨1,1,4,4,10,[],[]⟩:S53):=
 ⟨rfl,Int.le_refl _,(by decide:(1:Int)≤4),Int.le_refl _,Int.le_refl _,(by decide:(4:Int)≤24),Int.le_refl _,(by decide:(10:Int)≤90+((0:Nat):Int)),rfl,Nat.zero_le _,fun y hy=>(by cases hy),.inl rfl,Nat.zero_le _,fun y hy=>(by cases hy)⟩
theorem made_l0 (a b:Int) (M:List S81) (s:Int) (hs:1≤s∧s≤8) (rl:Int) (hrl:0≤rl∧rl≤3):∀ (d i:Nat) (acc:List S53),i+d=6→acc.length=i→(∀ (j:Nat) (h:j<acc.length),GoodTask j s acc[j]) →
  ∃ L,Ev (fun k=>ostinatoref05_System_Made.l0 k (i:Int) a b M s rl acc) (s,rl,L)∧GoodSys s rl L:=by
 have hend:∀ (i:Nat) (acc:List S53),i≤6→acc.length=i→(∀ (j:Nat) (h:j<acc.length),GoodTask j s acc[j])→∃ L,Ev (fun _=>if (acc.length:Int)=0 then (some (s,rl,(([(⟨1,1,4,4,10,([]:List Int),([]:List Int)⟩:S53)]:List (S53))))) else (some (s,rl,acc))) (s,rl,L)∧GoodSys s rl L:=by
  intro i acc hi hl hg
  by_cases h0:(acc.length:Int)=0
  ·refine⟨_,Ev.ifp h0 (Ev.now _),⟨hs.1,hs.2,hrl.1,hrl.2,by decide,by decide,fun j hj=>?_⟩⟩
   obtain rfl:j=0:=by simpa using hj
   exact good_default s
  ·exact⟨_,Ev.ifn h0 (Ev.now _),⟨hs.1,hs.2,hrl.1,hrl.2,by omega,by omega,hg⟩⟩
 intro d
 induction d with
 |zero=>
  intro i acc hi hl hg
  obtain⟨L,h1,h2⟩:=hend i acc (by omega) hl hg
  refine⟨L,Ev.step (fun k=>by rw [ostinatoref05_System_Made.l0]) (Ev.ite_ (fun _=>Ev.ifn (by omega) h1) (fun _=>h1)),h2⟩
 |succ d ih=>
  intro i acc hi hl hg
  by_cases hM:(i:Int)<(M.length:Int)
  ·obtain⟨x,hx,hgx⟩:=task_f ((qaJ M i).f0) ((qaJ M i).f1) ((qaJ M i).f2) ((qaJ M i).f3) ((qaJ M i).f4) ((qaJ M i).f5) i (by omega) s hs
   obtain⟨L,h1,h2⟩:=ih (i+1) (acc++[x]) (by omega) (by simp [hl]) (fun j hj=>by
    by_cases hji:j<acc.length
    ·rw [List.getElem_append_left hji];exact hg j hji
    ·have:j=acc.length:=by simp at hj;omega
     subst this
     rw [List.getElem_append_right (Nat.le_refl _)]
     simp [hl]
     exact hgx)
   refine⟨L,Ev.step (fun k=>by rw [ostinatoref05_System_Made.l0]) (Ev.ifp hM (Ev.ifp (by omega) (Ev.ifp (by omega) (Ev.bind hx ?_)))),h2⟩
   refine Ev.ifp (by omega) ?_
   rw [qaD i (by omega)]
   exact h1
  ·obtain⟨L,h1,h2⟩:=hend i acc (by omega) hl hg
   exact⟨L,Ev.step (fun k=>by rw [ostinatoref05_System_Made.l0]) (Ev.ifn hM h1),h2⟩
theorem Made_f (a b:Int) (M:List S81):∃ s rl L,Ev (fun k=>ostinatoref05_System_Made.f k a b M) (s,rl,L)∧GoodSys s rl L:=by
 have hr:=rest_f a 8 (by decide) (by decide)
 have h0:=Int.emod_nonneg a (show (8:Int)≠0 by decide)
 have h1:=Int.emod_lt_of_pos a (show (0:Int)<8 by decide)
 obtain⟨v,hv⟩:∃ v,a % 8=v:=⟨_,rfl⟩
 rw [hv] at hr h0 h1
 obtain⟨r0,r3⟩:=and3_rng b
 obtain⟨L,h2,h3⟩:=made_l0 a b M (1+v) (by omega) (bits .and .i64 b 3) (by omega) 6 0 [] rfl rfl (fun j hj=>by simp at hj)
 refine⟨1+v,_,L,?_,h3⟩
 unfold ostinatoref05_System_Made.f
 refine Ev.bindS hr ?_
 rw [qaH (by omega) (by omega)]
 exact h2
theorem lawmade_l0 (a b:Int) (l:List S82) (a2 b2:Int):∀ (d i:Nat) (acc:List S81),i+d=6→acc.length=i→∃ s rl L,Ev (fun k=>ostinatolaw21_Sys_made.l0 k (i:Int) a b l a2 b2 acc) (s,rl,L)∧GoodSys s rl L:=by
 intro d
 induction d with
 |zero=>
  intro i acc hi hl
  obtain⟨s,rl,L,h1,h2⟩:=Made_f a2 b2 acc
  refine⟨s,rl,L,Ev.step (fun k=>by rw [ostinatolaw21_Sys_made.l0]) (Ev.ite_ (fun _=>Ev.ifn (by omega) (Ev.bind h1 (Ev.now _))) (fun _=>Ev.bind h1 (Ev.now _))),h2⟩
 |succ d ih=>
  intro i acc hi hl
  by_cases hM:(i:Int)<(l.length:Int)
  ·obtain⟨s,rl,L,h1,h2⟩:=ih (i+1) (acc++[(⟨(qaF l i).f0,(qaF l i).f1,(qaF l i).f2,(qaF l i).f3,(qaF l i).f4,(qaF l i).f5⟩:S81)]) (by omega) (by simp [hl])
   refine⟨s,rl,L,Ev.step (fun k=>by rw [ostinatolaw21_Sys_made.l0]) (Ev.ifp hM (Ev.ifp (by omega) (Ev.ifp (by omega) (Ev.ifp (by omega) ?_)))),h2⟩
   rw [qaD i (by omega)]
   exact h1
  ·obtain⟨s,rl,L,h1,h2⟩:=Made_f a2 b2 acc
   exact⟨s,rl,L,Ev.step (fun k=>by rw [ostinatolaw21_Sys_made.l0]) (Ev.ifn hM (Ev.bind h1 (Ev.now _))),h2⟩
theorem lawmade_f (a b:Int) (l:List S82):∃ s rl L,Ev (fun k=>ostinatolaw21_Sys_made.f k a b l) (s,rl,L)∧GoodSys s rl L:=by
 unfold ostinatolaw21_Sys_made.f
 exact lawmade_l0 a b l a b 6 0 [] rfl rfl
end Go.Proofs.YtgnaaokhfpfglaaDoor.PCertTold
end
section
namespace Go.Proofs.YtgnaaokhfpfglaaDoor.PCertTold
open Go.RowKit Go.Lib Go.Proofs.YtgnaaokhfpfglaaDoorW.PrintWords
theorem rd_tk' {L:List S53} {i:Nat} (h:i<L.length):qaj L (i:Int)=L[i]:=by
 simp [qaj,List.getD_eq_getElem?_getD,List.getElem?_eq_getElem h]
theorem wrap64_pred (n:Nat) (h0:0<n) (h:n≤9223372036854775806):wrap64 ((n:Int) - 1)=((n - 1:Nat):Int):=by
 rw [qaH (by omega) (by omega)];omega
theorem rd_mem {W:List Int} {i:Int} (h0:0≤i) (h1:i<(W.length:Int)):rd W i ∈ W:=by
 obtain⟨n,rfl⟩:∃ n:Nat,i=n:=⟨i.toNat,by omega⟩
 rw [qaL W n (by omega)]
 exact List.getElem_mem _
theorem byPrio_l1 (s r:Int) (l acc:List S53) (i:Nat) (hi:i<l.length) (hl:l.length≤6) (ha:acc.length≤6) (P:List S53→Prop)
  (hn:∀ j,j≤acc.length→∃ L,Ev (fun k=>ostinatoref05_ByPrio.l0 k (acc.take j++[l[i]]++acc.drop j) ((i+1:Nat):Int) s r l) L∧P L) :
  ∀ n:Nat,n≤acc.length→∃ L,Ev (fun k=>ostinatoref05_ByPrio.l1 k acc (i:Int) (n:Int) s r l) L∧P L:=by
 have hj:∀ n:Nat,n≤acc.length→∃ L,Ev (fun k=>ostinatoref05_ByPrio.j2 k acc (i:Int) (n:Int) false s r l) L∧P L:=fun n hna=>by
  obtain⟨L,h1,h2⟩:=hn n hna
  refine⟨L,Ev.step (fun k=>by rw [ostinatoref05_ByPrio.j2,rd_tk' hi]) (Ev.ifn (by decide) ?_),h2⟩
  refine Ev.bindS rfl (Ev.ifp (by omega) (Ev.ifp (by omega) (Ev.bindS rfl (Ev.ifp (by simp;omega) (Ev.bindS rfl ?_)))))
  refine Ev.ifp (by omega) ?_
  refine Ev.ifp (by omega) ?_
  refine Ev.ifp (by simp;omega) (Ev.bindS rfl (Ev.bindS rfl (Ev.ifp (by simp;omega) ?_)))
  rw [qaD i (by omega)]
  simpa using h1
 intro n
 induction n with
 |zero=>
  intro hna
  obtain⟨L,h1,h2⟩:=hj 0 hna
  exact⟨L,Ev.step (fun k=>by rw [ostinatoref05_ByPrio.l1]) (Ev.ifn (by omega) h1),h2⟩
 |succ n ih=>
  intro hna
  have hp:wrap64 (((n+1:Nat):Int) - 1)=(n:Int):=by rw [qaH (by omega) (by omega)];omega
  have hnl:n<acc.length:=by omega
  by_cases hgt:acc[n].f4 > l[i].f4
  ·obtain⟨L,h1,h2⟩:=ih (by omega)
   refine⟨L,Ev.step (fun k=>by rw [ostinatoref05_ByPrio.l1,hp,rd_tk' hnl,rd_tk' hi,decide_eq_true hgt]) ?_,h2⟩
   refine Ev.ifp (by omega) (Ev.ifp (by omega) (Ev.ifp (by omega) (Ev.ifp (by omega) (Ev.ifp (by omega) ?_))))
   refine Ev.step (fun k=>by rw [ostinatoref05_ByPrio.j2,hp]) (Ev.ifp rfl h1)
  ·obtain⟨L,h1,h2⟩:=hj (n+1) hna
   refine⟨L,Ev.step (fun k=>by rw [ostinatoref05_ByPrio.l1,hp,rd_tk' hnl,rd_tk' hi,decide_eq_false hgt]) ?_,h2⟩
   exact Ev.ifp (by omega) (Ev.ifp (by omega) (Ev.ifp (by omega) (Ev.ifp (by omega) (Ev.ifp (by omega) h1))))
theorem byPrio_f (s r:Int) (l:List S53) (hl:l.length≤6):∃ L,Ev (fun k=>ostinatoref05_ByPrio.f k s r l) L∧L.length=l.length∧(∀ x ∈ L,x ∈ l)∧∀ x ∈ l,x ∈ L:=by
 have key:∀ (d i:Nat) (acc:List S53),i+d=l.length→acc.length=i→(∀ x ∈ acc,x ∈ l)→(∀ x ∈ l.take i,x ∈ acc) →
   ∃ L,Ev (fun k=>ostinatoref05_ByPrio.l0 k acc (i:Int) s r l) L∧(L.length=l.length∧(∀ x ∈ L,x ∈ l)∧∀ x ∈ l,x ∈ L):=by
  intro d
  induction d with
  |zero=>
   intro i acc hi ha h1 h2
   obtain rfl:i=l.length:=by omega
   rw [List.take_length] at h2
   exact⟨acc,Ev.step (fun k=>by rw [ostinatoref05_ByPrio.l0]) (Ev.ifn (by omega) (Ev.now _)),ha,h1,h2⟩
  |succ d ih=>
   intro i acc hi ha h1 h2
   have hil:i<l.length:=by omega
   obtain⟨L,h3,h4⟩:=byPrio_l1 s r l acc i hil hl (by omega) (fun L=>L.length=l.length∧(∀ x ∈ L,x ∈ l)∧∀ x ∈ l,x ∈ L) (fun j hj=>by
    refine ih (i+1) _ (by omega) (by simp;omega) (fun x hx=>?_) (fun x hx=>?_)
    ·simp only [List.mem_append,List.mem_singleton] at hx
     rcases hx with (h|h)|h
     ·exact h1 x (List.mem_of_mem_take h)
     ·rw [h];exact List.getElem_mem _
     ·exact h1 x (List.mem_of_mem_drop h)
    ·rw [List.take_add_one,List.getElem?_eq_getElem hil] at hx
     rcases List.mem_append.1 hx with h|h
     ·have h5:=h2 x h
      rw [← List.take_append_drop j acc] at h5
      simp only [List.mem_append] at h5 ⊢
      rcases h5 with h5|h5
      ·exact .inl (.inl h5)
      ·exact .inr h5
     ·simp at h
      simp [h]) acc.length (Nat.le_refl _)
   exact⟨L,Ev.step (fun k=>by rw [ostinatoref05_ByPrio.l0]) (Ev.ifp (by omega) h3),h4⟩
 exact key l.length 0 [] (by omega) rfl (fun x hx=>by cases hx) (fun x hx=>by simp at hx)
def mayL (L:List S53) (p:Int):List Int:=(L.filter (fun x=>decide (x.f4≤p))).map (·.f4)
theorem mayL_len (L:List S53) (p:Int):(mayL L p).length≤L.length:=by
 unfold mayL
 rw [List.length_map]
 exact List.length_filter_le _ _
theorem setup_l1 (a b:Int) (Th Q:List Int) (s r:Int) (l L:List S53) (s' r':Int) (l':List S53) (p m:Int) (th q:List Int) (i:Nat) (hi:i<l.length) (hL:L.length≤6) {V}
  (hn:Ev (fun k=>ostinatoref18_Pick_Setup.l1 k L (i:Int) (mayL L (l[i].f4)) (L.length:Int) a b Th Q s r l s' r' l' p m th q) V) :
  ∀ (d j:Nat),j+d=L.length→Ev (fun k=>ostinatoref18_Pick_Setup.l1 k L (i:Int) (mayL (L.take j) (l[i].f4)) (j:Int) a b Th Q s r l s' r' l' p m th q) V:=by
 intro d
 induction d with
 |zero=>
  intro j hj
  obtain rfl:j=L.length:=by omega
  rw [List.take_length]
  exact hn
 |succ d ih=>
  intro j hj
  have hjl:j<L.length:=by omega
  have h:=ih (j+1) (by omega)
  have hlen:=mayL_len (L.take j) l[i].f4
  rw [List.length_take] at hlen
  refine Ev.step (fun k=>by rw [ostinatoref18_Pick_Setup.l1,rd_tk' hjl,rd_tk' hi]) (Ev.ifp (by omega) (Ev.ifp (by omega) (Ev.ifp (by omega) (Ev.ifp (by omega) ?_))))
  have e:mayL (L.take (j+1)) l[i].f4=if L[j].f4≤l[i].f4 then mayL (L.take j) l[i].f4++[L[j].f4] else mayL (L.take j) l[i].f4:=by
   unfold mayL
   rw [List.take_add_one,List.getElem?_eq_getElem hjl,List.filter_append,List.map_append]
   by_cases hc:L[j].f4≤l[i].f4
   ·rw [if_pos hc];simp [hc]
   ·rw [if_neg hc];simp [hc]
  rw [e] at h
  by_cases hc:L[j].f4≤l[i].f4
  ·rw [if_pos hc] at h
   refine Ev.ifp hc (Ev.ifp (by omega) ?_)
   rw [qaD j (by omega)]
   exact h
  ·rw [if_neg hc] at h
   refine Ev.ifn hc ?_
   rw [qaD j (by omega)]
   exact h
theorem setup_l0 (a b:Int) (Th Q:List Int) (s r:Int) (l L:List S53) (s' r':Int) (l':List S53) (p m:Int) (hL:L.length=l.length) (hl:l.length≤6) (hp:∀ x ∈ L,1≤x.f4∧x.f4≤99) (hin:∀ x ∈ l,x ∈ L) :
  ∀ (d i:Nat) (th q:List Int),i+d=l.length→th.length=i→q.length=i→(∀ x ∈ th,1≤x∧x≤99)→(∀ x ∈ q,0≤x∧x≤15) →
   ∃ th' q',Ev (fun k=>ostinatoref18_Pick_Setup.l0 k L (i:Int) a b Th Q s r l s' r' l' p m th q) (s',r',l',p,m,th',q')∧th'.length=l.length∧q'.length=l.length∧(∀ x ∈ th',1≤x∧x≤99)∧(∀ x ∈ q',0≤x∧x≤15):=by
 intro d
 induction d with
 |zero=>
  intro i th q hi h1 h2 h3 h4
  exact⟨th,q,Ev.step (fun k=>by rw [ostinatoref18_Pick_Setup.l0]) (Ev.ifn (by omega) (Ev.now _)),by omega,by omega,h3,h4⟩
 |succ d ih=>
  intro i th q hi h1 h2 h3 h4
  have hil:i<l.length:=by omega
  have hW:∀ y ∈ mayL L l[i].f4,1≤y∧y≤99:=fun y hy=>by
   unfold mayL at hy
   obtain⟨x,hx,rfl⟩:=List.mem_map.1 hy
   exact hp x (List.mem_filter.1 hx).1
  have hW0:0<(mayL L l[i].f4).length:=by
   have:l[i].f4 ∈ mayL L l[i].f4:=by
    unfold mayL
    exact List.mem_map.2 ⟨l[i],List.mem_filter.2 ⟨hin _ (List.getElem_mem _),by simp⟩,rfl⟩
   exact List.length_pos_of_mem this
  have hW6:=mayL_len L l[i].f4
  generalize hWd:mayL L l[i].f4=W at hW hW0 hW6
  have hq:∀ t,1≤t∧t≤99→∃ th' q',(∀ z,(z=bits .and .i64 (rd Q (i:Int)) 15∨z=0)→∃ th' q',Ev (fun k=>ostinatoref18_Pick_Setup.l0 k L ((i+1:Nat):Int) a b Th Q s r l s' r' l' p m (th++[t]) (q++[z])) (s',r',l',p,m,th',q')∧th'.length=l.length∧q'.length=l.length∧(∀ x ∈ th',1≤x∧x≤99)∧(∀ x ∈ q',0≤x∧x≤15))∧th' = th∧q' = q:=fun t ht=>
   ⟨th,q,fun z hz=>ih (i+1) (th++[t]) (q++[z]) (by omega) (by simp [h1]) (by simp [h2]) (fun x hx=>by
    rcases List.mem_append.1 hx with h|h
    ·exact h3 x h
    ·simp at h;rw [h];exact ht) (fun x hx=>by
    rcases List.mem_append.1 hx with h|h
    ·exact h4 x h
    ·simp at h;rw [h]
     rcases hz with hz|hz
     ·rw [hz];have:=and15_rng (rd Q (i:Int));omega
     ·omega),rfl,rfl⟩
  have hlast:∀ idx:Int,0≤idx→idx<(W.length:Int)→∃ th' q',Ev (fun k=>ostinatoref18_Pick_Setup.j4 k L (i:Int) W idx a b Th Q s r l s' r' l' p m th q) (s',r',l',p,m,th',q')∧th'.length=l.length∧q'.length=l.length∧(∀ x ∈ th',1≤x∧x≤99)∧(∀ x ∈ q',0≤x∧x≤15):=fun idx h0 hlt=>by
   obtain⟨_,_,hq,_,_⟩:=hq (rd W idx) (hW _ (rd_mem h0 hlt))
   by_cases hQ:(i:Int)<(Q.length:Int)
   ·obtain⟨th',q',h5,h6⟩:=hq _ (.inl rfl)
    refine⟨th',q',Ev.step (fun k=>by rw [ostinatoref18_Pick_Setup.j4]) (Ev.ifp h0 (Ev.ifp hlt (Ev.ifp (by omega) (Ev.bindS rfl ?_)))),h6⟩
    rw [qaD i (by omega)]
    exact Ev.ifp hQ (Ev.ifp (by omega) (Ev.ifp (by omega) h5))
   ·obtain⟨th',q',h5,h6⟩:=hq _ (.inr rfl)
    refine⟨th',q',Ev.step (fun k=>by rw [ostinatoref18_Pick_Setup.j4]) (Ev.ifp h0 (Ev.ifp hlt (Ev.ifp (by omega) (Ev.bindS rfl ?_)))),h6⟩
    rw [qaD i (by omega)]
    exact Ev.ifn hQ (Ev.ifp (by omega) h5)
  by_cases hT:(i:Int)<(Th.length:Int)
  ·have hm:=rest_wrapP (rd Th (i:Int)) (W.length:Int) (by omega) (by omega)
   have m0:=Int.emod_nonneg (rd Th (i:Int)) (show (W.length:Int)≠0 by omega)
   have m1:=Int.emod_lt_of_pos (rd Th (i:Int)) (show (0:Int)<(W.length:Int) by omega)
   obtain⟨th',q',h5,h6⟩:=hlast _ m0 m1
   refine⟨th',q',Ev.step (fun k=>by rw [ostinatoref18_Pick_Setup.l0]) (Ev.ifp (by omega) ?_),h6⟩
   exact setup_l1 a b Th Q s r l L s' r' l' p m th q i hil (by omega) (V:=(s',r',l',p,m,th',q')) (by
    rw [hWd]
    exact Ev.step (fun k=>by rw [ostinatoref18_Pick_Setup.l1,hm]) (Ev.ifn (by omega) (Ev.ifp hT (Ev.ifp (by omega) (Ev.ifn (by omega) h5))))) L.length 0 (by omega)
  ·have hm:=wrap64_pred W.length hW0 (by omega)
   obtain⟨th',q',h5,h6⟩:=hlast ((W.length - 1:Nat):Int) (by omega) (by omega)
   refine⟨th',q',Ev.step (fun k=>by rw [ostinatoref18_Pick_Setup.l0]) (Ev.ifp (by omega) ?_),h6⟩
   exact setup_l1 a b Th Q s r l L s' r' l' p m th q i hil (by omega) (V:=(s',r',l',p,m,th',q')) (by
    rw [hWd]
    exact Ev.step (fun k=>by rw [ostinatoref18_Pick_Setup.l1,hm]) (Ev.ifn (by omega) (Ev.ifn hT h5))) L.length 0 (by omega)
theorem good_prio {s r:Int} {l:List S53} (h:GoodSys s r l):∀ x ∈ l,1≤x.f4∧x.f4≤99:=by
 intro x hx
 obtain⟨j,hj,rfl⟩:=List.mem_iff_getElem.1 hx
 have g:=h.task j hj
 have g1:=g.p1
 have g2:=g.p99
 have g6:=h.l6
 omega
theorem setup_f (a b:Int) (Th Q:List Int) {s r:Int} {l:List S53} (h:GoodSys s r l) :
  ∃ p m th q,Ev (fun k=>ostinatolaw21_Pick_setup.f k a b Th Q s r l) (s,r,l,p,m,th,q)∧(p=1∨p=2)∧(m=1∨m=2∨m=3∨m=4)∧th.length=l.length∧q.length=l.length∧(∀ x ∈ th,1≤x∧x≤99)∧(∀ x ∈ q,0≤x∧x≤15):=by
 have h6:=h.l6
 obtain⟨L,hE,hL,hs,hin⟩:=byPrio_f s r l h6
 have a0:0≤bits .and .i64 a 1∧bits .and .i64 a 1<2:=by rw [andP1];omega
 have b0:=and3_rng b
 have hj1:∀ p m,∃ th q,Ev (fun k=>ostinatoref18_Pick_Setup.j1 k a b Th Q s r l s r l p m) (s,r,l,p,m,th,q)∧th.length=l.length∧q.length=l.length∧(∀ x ∈ th,1≤x∧x≤99)∧(∀ x ∈ q,0≤x∧x≤15):=fun p m=>by
  obtain⟨th,q,h1,h2⟩:=setup_l0 a b Th Q s r l L s r l p m hL h6 (fun x hx=>good_prio h x (hs x hx)) hin l.length 0 [] [] (by omega) rfl rfl (fun x hx=>by cases hx) (fun x hx=>by cases hx)
  exact⟨th,q,Ev.step (fun k=>by rw [ostinatoref18_Pick_Setup.j1]) (Ev.bind hE h1),h2⟩
 have hw1:wrap64 (1+bits .and .i64 a 1)=1+bits .and .i64 a 1:=qaH (by omega) (by omega)
 have hw2:wrap64 (1+bits .and .i64 b 3)=1+bits .and .i64 b 3:=qaH (by omega) (by omega)
 have hfin:∀ p m th q,Ev (fun k=>ostinatoref18_Pick_Setup.f k a b Th Q s r l) (s,r,l,p,m,th,q)→Ev (fun k=>ostinatolaw21_Pick_setup.f k a b Th Q s r l) (s,r,l,p,m,th,q):=fun p m th q he=>by
  unfold ostinatolaw21_Pick_setup.f
  exact Ev.bind he (Ev.now _)
 by_cases h2:wrap64 (1+bits .and .i64 b 3)=2
 ·by_cases hp:wrap64 (1+bits .and .i64 a 1)=1
  ·obtain⟨th,q,h3,h4⟩:=hj1 (wrap64 (1+bits .and .i64 a 1)) 1
   refine⟨wrap64 (1+bits .and .i64 a 1),1,th,q,hfin _ _ _ _ ?_,by omega,by omega,h4⟩
   unfold ostinatoref18_Pick_Setup.f
   refine Ev.ifp h2 ?_
   refine Ev.step (fun k=>by rw [ostinatoref18_Pick_Setup.j0]) (Ev.ifp (by rw [hp];rfl) h3)
  ·obtain⟨th,q,h3,h4⟩:=hj1 (wrap64 (1+bits .and .i64 a 1)) (wrap64 (1+bits .and .i64 b 3))
   refine⟨wrap64 (1+bits .and .i64 a 1),wrap64 (1+bits .and .i64 b 3),th,q,hfin _ _ _ _ ?_,by omega,by omega,h4⟩
   unfold ostinatoref18_Pick_Setup.f
   refine Ev.ifp h2 ?_
   refine Ev.step (fun k=>by rw [ostinatoref18_Pick_Setup.j0]) (Ev.ifn (by simpa using hp) h3)
 ·obtain⟨th,q,h3,h4⟩:=hj1 (wrap64 (1+bits .and .i64 a 1)) (wrap64 (1+bits .and .i64 b 3))
  refine⟨wrap64 (1+bits .and .i64 a 1),wrap64 (1+bits .and .i64 b 3),th,q,hfin _ _ _ _ ?_,by omega,by omega,h4⟩
  unfold ostinatoref18_Pick_Setup.f
  refine Ev.ifn h2 ?_
  refine Ev.step (fun k=>by rw [ostinatoref18_Pick_Setup.j0]) (Ev.ifn (by decide) h3)
def GoodBd (x:S49):Prop:=(0≤x.f0∧x.f0<64)∧(0≤x.f1∧x.f1<1099511627776)∧(0≤x.f2∧x.f2<1099511627776)∧(0≤x.f3∧x.f3<1099511627776)
theorem and63_rng (n:Int):0≤bits .and .i64 n 63∧bits .and .i64 n 63<64:=by
 have:=and_maskP n 6 (by decide)
 rw [show ((2 ^ 6 - 1:Nat):Int)=63 from rfl,show ((2 ^ 6:Nat):Int)=64 from rfl] at this
 rw [this];omega
theorem and40_rng (n:Int):0≤bits .and .i64 n 1099511627775∧bits .and .i64 n 1099511627775<1099511627776:=by
 have:=and_maskP n 40 (by decide)
 rw [show ((2 ^ 40 - 1:Nat):Int)=1099511627775 from rfl,show ((2 ^ 40:Nat):Int)=1099511627776 from rfl] at this
 rw [this];omega
structure GoodCert (s r:Int) (l:List S53) (p m:Int) (th q:List Int) (bs:List S49):Prop where
 sys:GoodSys s r l
 pol:p=1∨p=2
 mode:m=1∨m=2∨m=3∨m=4
 thl:th.length=l.length
 ql:q.length=l.length
 th1:∀ x ∈ th,1≤x∧x≤99
 q1:∀ x ∈ q,0≤x∧x≤15
 bl:bs.length≤6
 b1:∀ x ∈ bs,GoodBd x
theorem cert_l0 (a b:Int) (N:List S82) (c d:Int) (Th Q:List Int) (B:List S56) (s r:Int) (l:List S53) (p m:Int) (th q:List Int) :
  ∀ (e i:Nat) (bs:List S49),i+e=6→bs.length=i→(∀ x ∈ bs,GoodBd x)→∃ bs',Ev (fun k=>ostinatolaw21_Spec_cert.l0 k (i:Int) a b N c d Th Q B s r l p m th q bs) (s,r,l,p,m,th,q,bs')∧bs'.length≤6∧∀ x ∈ bs',GoodBd x:=by
 intro e
 induction e with
 |zero=>
  intro i bs hi hl hg
  exact⟨bs,Ev.step (fun k=>by rw [ostinatolaw21_Spec_cert.l0]) (Ev.ite_ (fun _=>Ev.ifn (by omega) (Ev.now _)) (fun _=>Ev.now _)),by omega,hg⟩
 |succ e ih=>
  intro i bs hi hl hg
  by_cases hB:(i:Int)<(B.length:Int)
  ·obtain⟨bs',h1,h2⟩:=ih (i+1) (bs++[(⟨bits .and .i64 ((qaz B i).f0) 63,bits .and .i64 ((qaz B i).f1) 1099511627775,bits .and .i64 ((qaz B i).f2) 1099511627775,bits .and .i64 ((qaz B i).f3) 1099511627775⟩:S49)]) (by omega) (by simp [hl]) (fun x hx=>by
    rcases List.mem_append.1 hx with h|h
    ·exact hg x h
    ·simp at h;rw [h];exact⟨and63_rng _,and40_rng _,and40_rng _,and40_rng _⟩)
   refine⟨bs',Ev.step (fun k=>by rw [ostinatolaw21_Spec_cert.l0]) ?_,h2⟩
   refine Ev.ifp hB (Ev.ifp (by omega) (Ev.ifp (by omega) (Ev.ifp (by omega) ?_)))
   rw [qaD i (by omega)]
   exact h1
  ·exact⟨bs,Ev.step (fun k=>by rw [ostinatolaw21_Spec_cert.l0]) (Ev.ifn hB (Ev.now _)),by omega,hg⟩
theorem cert_f (a b:Int) (N:List S82) (c d:Int) (Th Q:List Int) (B:List S56) :
  ∃ s r l p m th q bs,Ev (fun k=>ostinatolaw21_Spec_cert.f k a b N c d Th Q B) (s,r,l,p,m,th,q,bs)∧GoodCert s r l p m th q bs:=by
 obtain⟨s,r,l,h1,hg⟩:=lawmade_f a b N
 obtain⟨p,m,th,q,h2,hp,hm,h5,h6,h7,h8⟩:=setup_f c d Th Q hg
 obtain⟨bs,h3,hb,hb1⟩:=cert_l0 a b N c d Th Q B s r l p m th q 6 0 [] rfl rfl (fun x hx=>by cases hx)
 refine⟨s,r,l,p,m,th,q,bs,?_,⟨hg,hp,hm,h5,h6,h7,h8,hb,hb1⟩⟩
 unfold ostinatolaw21_Spec_cert.f
 exact Ev.bind h1 (Ev.bind h2 h3)
theorem qa1 (P M:ByteArray) (th q:List Int) (bs:List Bd) (S:ByteArray):(certT P M th q bs S).data.toList=crHead P M++(crTheta th++(crQ q++(bs.flatMap crBound++S.data.toList))):=by
 unfold certT
 simp [ByteArray.data_append]
theorem bytes_eq {a b:ByteArray} (h:a.data.toList=b.data.toList):a=b:=by
 apply ByteArray.ext
 exact Array.toList_inj.1 h
theorem certT_ne (P M:ByteArray) (th q:List Int) (bs:List Bd) (S:ByteArray):¬ (certT P M th q bs S).toList=([]:List UInt8):=by
 rw [Lib.toList_data,qa1]
 unfold crHead
 simp
theorem certT_mode {P M M':ByteArray} {th q:List Int} {bs:List Bd} {S:ByteArray} (h:(certT P M th q bs S).toList=(certT P M' th q bs S).toList):M=M':=by
 rw [Lib.toList_data,Lib.toList_data,qa1,qa1] at h
 have h1:=List.append_cancel_right h
 unfold crHead at h1
 have h2:=List.append_cancel_left (List.append_cancel_right h1)
 exact bytes_eq h2
theorem certT_pol {P P' M:ByteArray} {th q:List Int} {bs:List Bd} {S:ByteArray} (h:(certT P M th q bs S).toList=(certT P' M th q bs S).toList):P=P':=by
 rw [Lib.toList_data,Lib.toList_data,qa1,qa1] at h
 have h1:=List.append_cancel_right h
 unfold crHead at h1
 have h2:=List.append_cancel_left (List.append_cancel_right (List.append_cancel_right (List.append_cancel_right h1)))
 exact bytes_eq h2
theorem certT_q {P M:ByteArray} {th l:List Int} {x y:Int} (hx:0≤x) (hy:0≤y) {bs:List Bd} {S:ByteArray} (h:(certT P M th (x::l) bs S).toList=(certT P M th (y::l) bs S).toList):x=y:=by
 rw [Lib.toList_data,Lib.toList_data,qa1,qa1] at h
 have h1:=List.append_cancel_right (List.append_cancel_left (List.append_cancel_left h))
 unfold crQ at h1
 rw [if_neg (by simp),if_neg (by simp)] at h1
 have h2:=List.append_cancel_left (List.append_cancel_right h1)
 have h3:∀ z:Int,(joinP (z::l)).data.toList=itoa z++Lib.joinTail [44] (l.map itoa):=fun z=>by
  unfold joinP
  rw [List.map_cons,Lib.join_cons]
 rw [h3,h3] at h2
 have h4:=List.append_cancel_right h2
 have a1:=(itoa_num x hx 0).1
 have a2:=(itoa_num y hy 0).1
 rw [h4,a2] at a1
 omega
theorem certT_more {P M:ByteArray} {th q:List Int} {bs:List Bd} {b:Bd} {S:ByteArray}:¬ (certT P M th q bs S).toList=(certT P M th q (bs++[b]) S).toList:=by
 intro h
 rw [Lib.toList_data,Lib.toList_data,qa1,qa1] at h
 have h1:=List.append_cancel_left (List.append_cancel_left (List.append_cancel_left h))
 have h2:=congrArg List.length h1
 unfold crBound at h2
 simp at h2
 omega
theorem polP_inj {p q:Int} (hp:p=1∨p=2) (hq:q=1∨q=2) (h:polP p=polP q):p=q:=by
 rcases hp with rfl|rfl<;>rcases hq with rfl|rfl<;>first|rfl|exact absurd h (by decide)
theorem modeP_inj {p q:Int} (hp:p=1∨p=2∨p=3∨p=4) (hq:q=1∨q=2∨q=3∨q=4) (h:modeP p=modeP q):p=q:=by
 rcases hp with rfl|rfl|rfl|rfl<;>rcases hq with rfl|rfl|rfl|rfl<;>first|rfl|exact absurd h (by decide)
theorem certP_yes {s r:Int} {L:List Tk} {p m:Int} {th q:List Int} {bs:List Bd} (h:mayV s r L p m th q bs=true):certP s r L p m th q bs=certT (polP p) (modeP m) th q bs (printT s r L):=by
 unfold certP;rw [if_pos h]
instance:DecidableEq S53:=fun x y=>decidable_of_iff (x.f0=y.f0∧x.f1=y.f1∧x.f2=y.f2∧x.f3=y.f3∧x.f4=y.f4∧x.f5=y.f5∧x.f6=y.f6) ⟨fun h=>by cases x;cases y;simp_all,fun h=>by subst h;simp⟩
instance:DecidableEq S49:=fun x y=>decidable_of_iff (x.f0=y.f0∧x.f1=y.f1∧x.f2=y.f2∧x.f3=y.f3) ⟨fun h=>by cases x;cases y;simp_all,fun h=>by subst h;simp⟩
theorem dec_cons {α:Type} [DecidableEq α] (a b:α) (l m:List α):decide (a::l=b::m)=(decide (a=b) && decide (l=m)):=by
 by_cases h:a=b
 ·subst h;simp
 ·simp [h]
theorem same_go {α:Type} [DecidableEq α] (a b:List α) (hl:a.length=b.length) (F:Nat→Nat→Option Bool) (z:Bool)
  (hstep:∀ (i:Nat) (ha:i<a.length) (hb:i<b.length) (v:Bool),Ev (fun k=>F k (i+1)) v→Ev (fun k=>F k i) (decide (a[i]=b[i]) && v))
  (hend:Ev (fun k=>F k a.length) z):∀ (d i:Nat),i+d=a.length→Ev (fun k=>F k i) (decide (a.drop i=b.drop i) && z):=by
 intro d
 induction d with
 |zero=>
  intro i hi
  obtain rfl:i=a.length:=by omega
  have e:a.drop a.length=b.drop a.length:=by rw [List.drop_length,hl,List.drop_length]
  rw [decide_eq_true e,Bool.true_and]
  exact hend
 |succ d ih=>
  intro i hi
  have ha:i<a.length:=by omega
  have hb:i<b.length:=by omega
  have h:=hstep i ha hb _ (ih (i+1) (by omega))
  rw [List.drop_eq_getElem_cons ha,List.drop_eq_getElem_cons hb,dec_cons,Bool.and_assoc]
  exact h
theorem len_no {α:Type} [DecidableEq α] {a b:List α} (h:¬ ((a.length:Int)=(b.length:Int))):decide (a=b)=false:=decide_eq_false (fun e=>h (by rw [e]))
theorem eqInt_f (a b:List Int) (ha:a.length≤4000000):Ev (fun k=>slices_Equal_int_int.f k a b) (decide (a=b)):=by
 unfold slices_Equal_int_int.f
 by_cases hl:(a.length:Int)=(b.length:Int)
 ·refine Ev.ifp hl ?_
  have h:=same_go a b (by omega) (fun k i=>slices_Equal_int_int.l0 k a b (a.length:Int) (i:Int)) true (fun i h1 h2 v hv=>by
   refine Ev.step (fun k=>by rw [slices_Equal_int_int.l0]) (Ev.ifp (by omega) (Ev.ifp (by omega) (Ev.ifp (by omega) (Ev.ifp (by omega) ?_))))
   by_cases h:a[i]=b[i]
   ·rw [decide_eq_true h,Bool.true_and]
    refine Ev.ifp (by rw [qaL a i h1,qaL b i h2];exact h) ?_
    rw [qaD i (by omega)]
    exact hv
   ·rw [decide_eq_false h,Bool.false_and]
    exact Ev.ifn (by rw [qaL a i h1,qaL b i h2];exact h) (Ev.now _)) (Ev.step (fun k=>by rw [slices_Equal_int_int.l0]) (Ev.ifn (by omega) (Ev.now _))) a.length 0 (by omega)
  simpa using h
 ·rw [len_no hl]
  exact Ev.ifn hl (Ev.now _)
theorem eqLong_f (a b:List Int) (ha:a.length≤4000000):Ev (fun k=>slices_Equal_int64_int64.f k a b) (decide (a=b)):=by
 unfold slices_Equal_int64_int64.f
 by_cases hl:(a.length:Int)=(b.length:Int)
 ·refine Ev.ifp hl ?_
  have h:=same_go a b (by omega) (fun k i=>slices_Equal_int64_int64.l0 k a b (a.length:Int) (i:Int)) true (fun i h1 h2 v hv=>by
   refine Ev.step (fun k=>by rw [slices_Equal_int64_int64.l0]) (Ev.ifp (by omega) (Ev.ifp (by omega) (Ev.ifp (by omega) (Ev.ifp (by omega) ?_))))
   by_cases h:a[i]=b[i]
   ·rw [decide_eq_true h,Bool.true_and]
    refine Ev.ifp (by rw [qaL a i h1,qaL b i h2];exact h) ?_
    rw [qaD i (by omega)]
    exact hv
   ·rw [decide_eq_false h,Bool.false_and]
    exact Ev.ifn (by rw [qaL a i h1,qaL b i h2];exact h) (Ev.now _)) (Ev.step (fun k=>by rw [slices_Equal_int64_int64.l0]) (Ev.ifn (by omega) (Ev.now _))) a.length 0 (by omega)
  simpa using h
 ·rw [len_no hl]
  exact Ev.ifn hl (Ev.now _)
theorem refSame_f (a b:List Int) (ha:a.length≤4000000):Ev (fun k=>ostinatoref02_Same.f k a b) (decide (a=b)):=by
 unfold ostinatoref02_Same.f
 by_cases hl:(a.length:Int)=(b.length:Int)
 ·refine Ev.ifp hl ?_
  have h:=same_go a b (by omega) (fun k i=>ostinatoref02_Same.l0 k a b (i:Int)) true (fun i h1 h2 v hv=>by
   refine Ev.step (fun k=>by rw [ostinatoref02_Same.l0]) (Ev.ifp (by omega) (Ev.ifp (by omega) (Ev.ifp (by omega) ?_)))
   by_cases h:a[i]=b[i]
   ·rw [decide_eq_true h,Bool.true_and]
    refine Ev.ifp (by rw [qaL a i h1,qaL b i h2];exact h) ?_
    rw [qaD i (by omega)]
    exact hv
   ·rw [decide_eq_false h,Bool.false_and]
    exact Ev.ifn (by rw [qaL a i h1,qaL b i h2];exact h) (Ev.now _)) (Ev.step (fun k=>by rw [ostinatoref02_Same.l0]) (Ev.ifn (by omega) (Ev.now _))) a.length 0 (by omega)
  simpa using h
 ·rw [len_no hl]
  exact Ev.ifn hl (Ev.now _)
theorem refLong_f (a b:List Int) (ha:a.length≤4000000):Ev (fun k=>ostinatoref05_SameLong.f k a b) (decide (a=b)):=by
 unfold ostinatoref05_SameLong.f
 by_cases hl:(a.length:Int)=(b.length:Int)
 ·refine Ev.ifp hl ?_
  have h:=same_go a b (by omega) (fun k i=>ostinatoref05_SameLong.l0 k a b (i:Int)) true (fun i h1 h2 v hv=>by
   refine Ev.step (fun k=>by rw [ostinatoref05_SameLong.l0]) (Ev.ifp (by omega) (Ev.ifp (by omega) (Ev.ifp (by omega) ?_)))
   by_cases h:a[i]=b[i]
   ·rw [decide_eq_true h,Bool.true_and]
    refine Ev.ifp (by rw [qaL a i h1,qaL b i h2];exact h) ?_
    rw [qaD i (by omega)]
    exact hv
   ·rw [decide_eq_false h,Bool.false_and]
    exact Ev.ifn (by rw [qaL a i h1,qaL b i h2];exact h) (Ev.now _)) (Ev.step (fun k=>by rw [ostinatoref05_SameLong.l0]) (Ev.ifn (by omega) (Ev.now _))) a.length 0 (by omega)
  simpa using h
 ·rw [len_no hl]
  exact Ev.ifn hl (Ev.now _)
theorem rd_bd {L:List S49} {i:Nat} (h:i<L.length):qaw L (i:Int)=L[i]:=by
 simp [qaw,List.getD_eq_getElem?_getD,List.getElem?_eq_getElem h]
theorem rd_tk {L:List S53} {i:Nat} (h:i<L.length):qaj L (i:Int)=L[i]:=by
 simp [qaj,List.getD_eq_getElem?_getD,List.getElem?_eq_getElem h]
theorem bd_ne (x y:S49):(!(x.f0 == y.f0) || (!(x.f1 == y.f1) || (!(x.f2 == y.f2) || (!(x.f3 == y.f3))))) = !decide (x=y):=by
 by_cases h:x=y
 ·subst h;simp
 ·rw [decide_eq_false h]
  cases h0:x.f0 == y.f0<;>cases h1:x.f1 == y.f1<;>cases h2:x.f2 == y.f2<;>cases h3:x.f3 == y.f3<;>try rfl
  exact absurd (by cases x;cases y;simp_all) h
theorem eqBd_f (a b:List S49) (ha:a.length≤4000000):Ev (fun k=>api_Bound_22.f k a b) (decide (a=b)):=by
 unfold api_Bound_22.f
 by_cases hl:(a.length:Int)=(b.length:Int)
 ·refine Ev.ifp hl ?_
  have h:=same_go a b (by omega) (fun k i=>api_Bound_22.l0 k a b (a.length:Int) (i:Int)) true (fun i h1 h2 v hv=>by
   refine Ev.step (fun k=>by rw [api_Bound_22.l0]) (Ev.ifp (by omega) (Ev.ifp (by omega) (Ev.ifp (by omega) (Ev.ifp (by omega) ?_))))
   rw [rd_bd h1,rd_bd h2,bd_ne]
   by_cases h:a[i]=b[i]
   ·rw [decide_eq_true h,Bool.true_and]
    refine Ev.ifn (by decide) ?_
    rw [qaD i (by omega)]
    exact hv
   ·rw [decide_eq_false h,Bool.false_and]
    exact Ev.ifp rfl (Ev.now _)) (Ev.step (fun k=>by rw [api_Bound_22.l0]) (Ev.ifn (by omega) (Ev.now _))) a.length 0 (by omega)
  simpa using h
 ·rw [len_no hl]
  exact Ev.ifn hl (Ev.now _)
def TkSm (x:S53):Prop:=x.f5.length≤4000000∧x.f6.length≤4000000
theorem task_eq (x y:S53):decide (x=y)=(decide (x.f0=y.f0) && (decide (x.f1=y.f1) && (decide (x.f2=y.f2) && (decide (x.f3=y.f3) && (decide (x.f4=y.f4) && (decide (x.f5=y.f5) && decide (x.f6=y.f6))))))):=by
 cases x;cases y
 rw [Bool.eq_iff_iff]
 simp
theorem sameTask_f (x y:S53) (h:TkSm x):Ev (fun k=>tasks_SameTask.f k x.f0 x.f1 x.f2 x.f3 x.f4 x.f5 x.f6 y.f0 y.f1 y.f2 y.f3 y.f4 y.f5 y.f6) (decide (x=y)):=by
 rw [task_eq]
 unfold tasks_SameTask.f
 by_cases h0:x.f0=y.f0
 rotate_left
 ·rw [decide_eq_false h0];exact Ev.ifn h0 (Ev.now _)
 by_cases h1:x.f1=y.f1
 rotate_left
 ·rw [decide_eq_false h1,Bool.false_and,Bool.and_false];exact Ev.ifp h0 (Ev.ifn h1 (Ev.now _))
 by_cases h2:x.f2=y.f2
 rotate_left
 ·rw [decide_eq_false h2,Bool.false_and,Bool.and_false,Bool.and_false];exact Ev.ifp h0 (Ev.ifp h1 (Ev.ifn h2 (Ev.now _)))
 by_cases h3:x.f3=y.f3
 rotate_left
 ·rw [decide_eq_false h3,Bool.false_and,Bool.and_false,Bool.and_false,Bool.and_false];exact Ev.ifp h0 (Ev.ifp h1 (Ev.ifp h2 (Ev.ifn h3 (Ev.now _))))
 by_cases h4:x.f4=y.f4
 rotate_left
 ·rw [decide_eq_false h4,Bool.false_and,Bool.and_false,Bool.and_false,Bool.and_false,Bool.and_false];exact Ev.ifp h0 (Ev.ifp h1 (Ev.ifp h2 (Ev.ifp h3 (Ev.ifn h4 (Ev.now _)))))
 rw [decide_eq_true h0,decide_eq_true h1,decide_eq_true h2,decide_eq_true h3,decide_eq_true h4]
 simp only [Bool.true_and]
 refine Ev.ifp h0 (Ev.ifp h1 (Ev.ifp h2 (Ev.ifp h3 (Ev.ifp h4 ?_))))
 refine Ev.bind (eqLong_f x.f5 y.f5 h.1) ?_
 by_cases h5:x.f5=y.f5
 ·rw [decide_eq_true h5,Bool.true_and]
  refine Ev.ifp rfl ?_
  refine Ev.bind (eqInt_f x.f6 y.f6 h.2) ?_
  exact Ev.now _
 ·rw [decide_eq_false h5,Bool.false_and]
  exact Ev.ifn (by decide) (Ev.now _)
theorem sameGo_f:∀ (a b:List S53),a.length=b.length→(∀ x ∈ a,TkSm x)→Ev (fun k=>sameGo k (a.map tkOf) (b.map tkOf)) (decide (a=b)):=by
 intro a
 induction a with
 |nil=>
  intro b hl _
  cases b with
  |nil=>exact Ev.now _
  |cons y q=>simp at hl
 |cons x r ih=>
  intro b hl hs
  cases b with
  |nil=>simp at hl
  |cons y q=>
   rw [dec_cons]
   show Ev (fun k=>(sameO k (tkOf x) (tkOf y)).bind fun b=>(sameGo k (r.map tkOf) (q.map tkOf)).bind fun c=>some (b && c)) _
   refine Ev.bind (show Ev (fun k=>sameO k (tkOf x) (tkOf y)) (decide (x=y)) from sameTask_f x y (hs x List.mem_cons_self)) ?_
   refine Ev.bind (ih q (by simpa using hl) (fun z hz=>hs z (List.mem_cons_of_mem _ hz))) ?_
   exact Ev.now _
theorem sameSys_f (s r s' r':Int) (a b:List S53) (hl:a.length≤70000) (hs:∀ x ∈ a,TkSm x):Ev (fun k=>tasks_Same.f k s r a s' r' b) (decide (s=s') && (decide (r=r') && decide (a=b))):=by
 unfold tasks_Same.f
 by_cases h0:s=s'
 rotate_left
 ·rw [decide_eq_false h0,Bool.false_and];exact Ev.ifn h0 (Ev.now _)
 by_cases h1:r=r'
 rotate_left
 ·rw [decide_eq_false h1,Bool.false_and,Bool.and_false];exact Ev.ifp h0 (Ev.ifn h1 (Ev.now _))
 rw [decide_eq_true h0,decide_eq_true h1,Bool.true_and,Bool.true_and]
 refine Ev.ifp h0 (Ev.ifp h1 ?_)
 refine Ev.bind (a:=decide (a=b)) ?_ (Ev.now _)
 unfold api_Task.f
 refine Ev.ifp hl ?_
 by_cases he:a.length=b.length
 ·exact Ev.ifp he (sameGo_f a b he hs)
 ·rw [len_no (by omega)]
  exact Ev.ifn he (Ev.now _)
def sameC (s r:Int) (a:List S53) (p m:Int) (th q:List Int) (bs:List S49) (s' r':Int) (a':List S53) (p' m':Int) (th' q':List Int) (bs':List S49):Bool:=
 (decide (s=s') && (decide (r=r') && decide (a=a'))) && (decide (p=p') && (decide (m=m') && (decide (th=th') && (decide (q=q') && decide (bs=bs')))))
theorem certSame_f (s r:Int) (a:List S53) (p m:Int) (th q:List Int) (bs:List S49) (s' r':Int) (a':List S53) (p' m':Int) (th' q':List Int) (bs':List S49)
  (hl:a.length≤70000) (hs:∀ x ∈ a,TkSm x) (h5:th.length≤4000000) (h6:q.length≤4000000) (h7:bs.length≤4000000) :
  Ev (fun k=>cert_Same.f k s r a p m th q bs s' r' a' p' m' th' q' bs') (sameC s r a p m th q bs s' r' a' p' m' th' q' bs'):=by
 unfold cert_Same.f sameC
 refine Ev.bind (sameSys_f s r s' r' a a' hl hs) ?_
 generalize (decide (s=s') && (decide (r=r') && decide (a=a')))=X
 cases X with
 |false=>exact Ev.ifn (by decide) (Ev.now _)
 |true=>
  rw [Bool.true_and]
  refine Ev.ifp rfl ?_
  by_cases hp:p=p'
  rotate_left
  ·rw [decide_eq_false hp];exact Ev.ifn hp (Ev.now _)
  by_cases hm:m=m'
  rotate_left
  ·rw [decide_eq_false hm,Bool.false_and,Bool.and_false];exact Ev.ifp hp (Ev.ifn hm (Ev.now _))
  rw [decide_eq_true hp,decide_eq_true hm,Bool.true_and,Bool.true_and]
  refine Ev.ifp hp (Ev.ifp hm ?_)
  refine Ev.bind (eqInt_f th th' h5) ?_
  by_cases ht:th=th'
  rotate_left
  ·rw [decide_eq_false ht];exact Ev.ifn (by decide) (Ev.now _)
  rw [decide_eq_true ht,Bool.true_and]
  refine Ev.ifp rfl ?_
  refine Ev.bind (eqLong_f q q' h6) ?_
  by_cases hq:q=q'
  rotate_left
  ·rw [decide_eq_false hq];exact Ev.ifn (by decide) (Ev.now _)
  rw [decide_eq_true hq,Bool.true_and]
  refine Ev.ifp rfl ?_
  refine Ev.bind (eqBd_f bs bs' h7) ?_
  exact Ev.now _
theorem refTask_l1 (x y:S53) (hl:x.f6.length=y.f6.length) (h:x.f6.length≤4000000):Ev (fun k=>ostinatoref05_SameTask.l1 k 0 x.f0 x.f1 x.f2 x.f3 x.f4 x.f5 x.f6 y.f0 y.f1 y.f2 y.f3 y.f4 y.f5 y.f6) (decide (x.f6=y.f6)):=by
 have h:=same_go x.f6 y.f6 hl (fun k i=>ostinatoref05_SameTask.l1 k (i:Int) x.f0 x.f1 x.f2 x.f3 x.f4 x.f5 x.f6 y.f0 y.f1 y.f2 y.f3 y.f4 y.f5 y.f6) true (fun i h1 h2 v hv=>by
  refine Ev.step (fun k=>by rw [ostinatoref05_SameTask.l1]) (Ev.ifp (by omega) (Ev.ifp (by omega) (Ev.ifp (by omega) ?_)))
  by_cases h:x.f6[i]=y.f6[i]
  ·rw [decide_eq_true h,Bool.true_and]
   refine Ev.ifp (by rw [qaL x.f6 i h1,qaL y.f6 i h2];exact h) ?_
   rw [qaD i (by omega)]
   exact hv
  ·rw [decide_eq_false h,Bool.false_and]
   exact Ev.ifn (by rw [qaL x.f6 i h1,qaL y.f6 i h2];exact h) (Ev.now _)) (Ev.step (fun k=>by rw [ostinatoref05_SameTask.l1]) (Ev.ifn (by omega) (Ev.now _))) x.f6.length 0 (by omega)
 simpa using h
theorem refTask_l0 (x y:S53) (hl:x.f5.length=y.f5.length) (hl6:x.f6.length=y.f6.length) (h:TkSm x):Ev (fun k=>ostinatoref05_SameTask.l0 k 0 x.f0 x.f1 x.f2 x.f3 x.f4 x.f5 x.f6 y.f0 y.f1 y.f2 y.f3 y.f4 y.f5 y.f6) (decide (x.f5=y.f5) && decide (x.f6=y.f6)):=by
 have hh:=h.1
 have h:=same_go x.f5 y.f5 hl (fun k i=>ostinatoref05_SameTask.l0 k (i:Int) x.f0 x.f1 x.f2 x.f3 x.f4 x.f5 x.f6 y.f0 y.f1 y.f2 y.f3 y.f4 y.f5 y.f6) (decide (x.f6=y.f6)) (fun i h1 h2 v hv=>by
  refine Ev.step (fun k=>by rw [ostinatoref05_SameTask.l0]) (Ev.ifp (by omega) (Ev.ifp (by omega) (Ev.ifp (by omega) ?_)))
  by_cases h:x.f5[i]=y.f5[i]
  ·rw [decide_eq_true h,Bool.true_and]
   refine Ev.ifp (by rw [qaL x.f5 i h1,qaL y.f5 i h2];exact h) ?_
   rw [qaD i (by omega)]
   exact hv
  ·rw [decide_eq_false h,Bool.false_and]
   exact Ev.ifn (by rw [qaL x.f5 i h1,qaL y.f5 i h2];exact h) (Ev.now _)) (Ev.step (fun k=>by rw [ostinatoref05_SameTask.l0]) (Ev.ifn (by omega) (refTask_l1 x y hl6 h.2))) x.f5.length 0 (by omega)
 simpa using h
theorem refTask_f (x y:S53) (h:TkSm x):Ev (fun k=>ostinatoref05_SameTask.f k x.f0 x.f1 x.f2 x.f3 x.f4 x.f5 x.f6 y.f0 y.f1 y.f2 y.f3 y.f4 y.f5 y.f6) (decide (x=y)):=by
 have hj:Ev (fun k=>ostinatoref05_SameTask.j0 k true x.f0 x.f1 x.f2 x.f3 x.f4 x.f5 x.f6 y.f0 y.f1 y.f2 y.f3 y.f4 y.f5 y.f6) false:=Ev.step (fun k=>by rw [ostinatoref05_SameTask.j0]) (Ev.ifp rfl (Ev.now _))
 rw [task_eq]
 unfold ostinatoref05_SameTask.f
 by_cases h0:x.f0=y.f0
 rotate_left
 ·rw [decide_eq_false h0];exact Ev.ifn h0 hj
 by_cases h1:x.f1=y.f1
 rotate_left
 ·rw [decide_eq_false h1,Bool.false_and,Bool.and_false];exact Ev.ifp h0 (Ev.ifn h1 hj)
 by_cases h2:x.f2=y.f2
 rotate_left
 ·rw [decide_eq_false h2,Bool.false_and,Bool.and_false,Bool.and_false];exact Ev.ifp h0 (Ev.ifp h1 (Ev.ifn h2 hj))
 by_cases h3:x.f3=y.f3
 rotate_left
 ·rw [decide_eq_false h3,Bool.false_and,Bool.and_false,Bool.and_false,Bool.and_false];exact Ev.ifp h0 (Ev.ifp h1 (Ev.ifp h2 (Ev.ifn h3 hj)))
 by_cases h4:x.f4=y.f4
 rotate_left
 ·rw [decide_eq_false h4,Bool.false_and,Bool.and_false,Bool.and_false,Bool.and_false,Bool.and_false];exact Ev.ifp h0 (Ev.ifp h1 (Ev.ifp h2 (Ev.ifp h3 (Ev.ifn h4 hj))))
 rw [decide_eq_true h0,decide_eq_true h1,decide_eq_true h2,decide_eq_true h3,decide_eq_true h4]
 simp only [Bool.true_and]
 refine Ev.ifp h0 (Ev.ifp h1 (Ev.ifp h2 (Ev.ifp h3 (Ev.ifp h4 ?_))))
 by_cases h5:(x.f5.length:Int)=(y.f5.length:Int)
 rotate_left
 ·rw [len_no h5,Bool.false_and];exact Ev.ifn h5 hj
 refine Ev.ifp h5 ?_
 by_cases h6:(x.f6.length:Int)=(y.f6.length:Int)
 ·have e:((x.f6.length:Int) != (y.f6.length:Int))=false:=by rw [h6];simp
  rw [e]
  refine Ev.step (fun k=>by rw [ostinatoref05_SameTask.j0]) (Ev.ifn (by decide) ?_)
  exact refTask_l0 x y (by omega) (by omega) h
 ·have e:((x.f6.length:Int) != (y.f6.length:Int))=true:=by simpa using h6
  rw [e,len_no h6,Bool.and_false]
  exact hj
theorem refTasks_f (a b:List S53) (hl:a.length≤70000) (hs:∀ x ∈ a,TkSm x):Ev (fun k=>ostinatoref05_SameTasks.f k a b) (decide (a=b)):=by
 unfold ostinatoref05_SameTasks.f
 by_cases he:(a.length:Int)=(b.length:Int)
 ·refine Ev.ifp he ?_
  have h:=same_go a b (by omega) (fun k i=>ostinatoref05_SameTasks.l0 k a b (i:Int)) true (fun i h1 h2 v hv=>by
   refine Ev.step (fun k=>by rw [ostinatoref05_SameTasks.l0]) (Ev.ifp (by omega) (Ev.ifp (by omega) (Ev.ifp (by omega) ?_)))
   rw [rd_tk h1,rd_tk h2]
   refine Ev.bind (refTask_f a[i] b[i] (hs _ (List.getElem_mem h1))) ?_
   by_cases h:a[i]=b[i]
   ·rw [decide_eq_true h,Bool.true_and]
    refine Ev.ifp rfl ?_
    rw [qaD i (by omega)]
    exact hv
   ·rw [decide_eq_false h,Bool.false_and]
    exact Ev.ifn (by decide) (Ev.now _)) (Ev.step (fun k=>by rw [ostinatoref05_SameTasks.l0]) (Ev.ifn (by omega) (Ev.now _))) a.length 0 (by omega)
  simpa using h
 ·rw [len_no he]
  exact Ev.ifn he (Ev.now _)
theorem refSys_f (s r s' r':Int) (a b:List S53) (hl:a.length≤70000) (hs:∀ x ∈ a,TkSm x):Ev (fun k=>ostinatoref05_Same.f k s r a s' r' b) (decide (s=s') && (decide (r=r') && decide (a=b))):=by
 unfold ostinatoref05_Same.f
 refine Ev.bind (refTasks_f a b hl hs) ?_
 by_cases h:a=b
 rotate_left
 ·rw [decide_eq_false h,Bool.and_false,Bool.and_false];exact Ev.ifn (by decide) (Ev.now _)
 rw [decide_eq_true h,Bool.and_true]
 refine Ev.ifp rfl ?_
 by_cases h0:s=s'
 ·rw [decide_eq_true h0,Bool.true_and]
  refine Ev.ifp h0 ?_
  exact Ev.now _
 ·rw [decide_eq_false h0,Bool.false_and];exact Ev.ifn h0 (Ev.now _)
theorem refCert_f (s r:Int) (a:List S53) (p m:Int) (th q:List Int) (bs:List S49) (s' r':Int) (a':List S53) (p' m':Int) (th' q':List Int) (bs':List S49)
  (hl:a.length≤70000) (hs:∀ x ∈ a,TkSm x) (h5:th.length≤4000000) (h6:q.length≤4000000) (h7:bs.length≤4000000) :
  Ev (fun k=>ostinatoref21_Same.f k s r a p m th q bs s' r' a' p' m' th' q' bs') (sameC s r a p m th q bs s' r' a' p' m' th' q' bs'):=by
 have hj:Ev (fun k=>ostinatoref21_Same.j0 k true s r a p m th q bs s' r' a' p' m' th' q' bs') false:=Ev.step (fun k=>by rw [ostinatoref21_Same.j0]) (Ev.ifp rfl (Ev.now _))
 unfold ostinatoref21_Same.f sameC
 refine Ev.bind (refSys_f s r s' r' a a' hl hs) ?_
 refine Ev.bind (refSame_f th th' h5) ?_
 refine Ev.bind (refLong_f q q' h6) ?_
 generalize (decide (s=s') && (decide (r=r') && decide (a=a')))=X
 cases X with
 |false=>rw [Bool.false_and];exact Ev.ifn (by decide) hj
 |true=>
  rw [Bool.true_and]
  refine Ev.ifp rfl ?_
  by_cases ht:th=th'
  rotate_left
  ·rw [decide_eq_false ht,Bool.false_and,Bool.and_false,Bool.and_false];exact Ev.ifn (by decide) hj
  rw [decide_eq_true ht,Bool.true_and]
  refine Ev.ifp rfl ?_
  by_cases hq:q=q'
  rotate_left
  ·rw [decide_eq_false hq,Bool.false_and,Bool.and_false,Bool.and_false];exact Ev.ifn (by decide) hj
  rw [decide_eq_true hq,Bool.true_and]
  refine Ev.ifp rfl ?_
  by_cases hp:p=p'
  rotate_left
  ·rw [decide_eq_false hp];exact Ev.ifn hp hj
  by_cases hm:m=m'
  rotate_left
  ·rw [decide_eq_false hm,Bool.false_and,Bool.and_false];exact Ev.ifp hp (Ev.ifn hm hj)
  rw [decide_eq_true hp,decide_eq_true hm,Bool.true_and,Bool.true_and]
  refine Ev.ifp hp (Ev.ifp hm ?_)
  by_cases hb:(bs.length:Int)=(bs'.length:Int)
  rotate_left
  ·have e:((bs.length:Int) != (bs'.length:Int))=true:=by simpa using hb
   rw [len_no hb,e]
   exact hj
  have e:((bs.length:Int) != (bs'.length:Int))=false:=by rw [hb];simp
  rw [e]
  refine Ev.step (fun k=>by rw [ostinatoref21_Same.j0]) (Ev.ifn (by decide) ?_)
  have h:=same_go bs bs' (by omega) (fun k i=>ostinatoref21_Same.l0 k (i:Int) s r a p m th q bs s' r' a' p' m' th' q' bs') true (fun i h1 h2 v hv=>by
   refine Ev.step (fun k=>by rw [ostinatoref21_Same.l0]) (Ev.ifp (by omega) (Ev.ifp (by omega) (Ev.ifp (by omega) ?_)))
   rw [rd_bd h1,rd_bd h2,bd_ne]
   by_cases h:bs[i]=bs'[i]
   ·rw [decide_eq_true h,Bool.true_and]
    refine Ev.ifn (by decide) ?_
    rw [qaD i (by omega)]
    exact hv
   ·rw [decide_eq_false h,Bool.false_and]
    exact Ev.ifp rfl (Ev.now _)) (Ev.step (fun k=>by rw [ostinatoref21_Same.l0]) (Ev.ifn (by omega) (Ev.now _))) bs.length 0 (by omega)
  simpa using h
end Go.Proofs.YtgnaaokhfpfglaaDoor.PCertTold
end
section
namespace Go.Proofs.YtgnaaokhfpfglaaDoor.PCertTold
open Go.RowKit Go.Shelf Go.Lib Go.Proofs.YtgnaaokhfpfglaaDoorW.PrintWords
theorem sum_nonneg:∀ l:List Int,(∀ y ∈ l,1≤y)→0≤l.sum:=by
 intro l
 induction l with
 |nil=>intro _;simp
 |cons x r ih=>
  intro h
  have h1:=h x List.mem_cons_self
  have h2:=ih (fun y hy=>h y (List.mem_cons_of_mem _ hy))
  rw [List.sum_cons]
  omega
theorem chunkL_sum:∀ (l:List Int) (z:Int),(∀ y ∈ l,1≤y)→0≤z→chunkL (l.sum+z) l=some z:=by
 intro l
 induction l with
 |nil=>intro z _ _;simp [chunkL]
 |cons x r ih=>
  intro z h hz
  have h1:=h x List.mem_cons_self
  have h2:=sum_nonneg r (fun y hy=>h y (List.mem_cons_of_mem _ hy))
  have h3:=ih z (fun y hy=>h y (List.mem_cons_of_mem _ hy)) hz
  rw [chunkL,List.sum_cons,if_pos ⟨h1,by omega⟩,show x+r.sum+z - x=r.sum+z by omega]
  exact h3
theorem good_right {i:Nat} (hi:i<6) {sets:Int} {t:S53} (h:GoodTask i sets t):rightE t.f0 t.f1 t.f2 t.f3 t.f4 t.f5 t.f6 sets=0:=by
 have h1:=h.id
 have h2:=h.c1
 have h3:=h.cd
 have h4:=h.dt
 have h5:=h.t24
 have h6:=h.p1
 have h7:=h.p99
 have hc:chunksB t.f1 t.f5=true:=by
  unfold chunksB
  rcases h.chs with e|e
  ·rw [e];simp [chunkL,chunkFin]
  ·have:=chunkL_sum t.f5 0 h.ch1 (by omega)
   rw [Int.add_zero,e] at this
   rw [this]
   have hl:=h.chl
   have e1:decide (t.f5.length≤64)=true:=decide_eq_true (by omega)
   unfold chunkFin
   simp [e1]
 have hu:t.f6.length≤64∧t.f6.any (farB sets)=false:=by
  refine⟨by have:=h.usl;omega,List.any_eq_false.2 (fun y hy=>?_)⟩
  have:=h.us y hy
  unfold farB
  simp
  omega
 unfold rightE inB
 rw [if_pos ⟨decide_eq_true (by omega),decide_eq_true (by omega)⟩,if_pos ⟨decide_eq_true (by omega),decide_eq_true (by omega),by omega⟩,if_pos hc,if_pos hu]
theorem good_go {sets rel:Int} {l:List S53} (h:GoodSys sets rel l):∀ (n i:Nat),i+n=l.length→checkGo sets (i:Int) (((l.map tkOf).take i).map (·.p)) ((l.map tkOf).drop i)=0:=by
 have h6:=h.l6
 intro n
 induction n with
 |zero=>
  intro i hi
  rw [List.drop_eq_nil_of_le (by simp;omega)]
  rfl
 |succ n ih=>
  intro i hi
  have hil:i<l.length:=by omega
  have hil':i<(l.map tkOf).length:=by simpa using hil
  have hg:=h.task i hil
  have he:(l.map tkOf)[i]=tkOf l[i]:=by simp
  have hr:=good_right (by omega) hg
  rw [checkGo_step hil',he]
  have hr':rightE (tkOf l[i]).id (tkOf l[i]).c (tkOf l[i]).d (tkOf l[i]).t (tkOf l[i]).p (tkOf l[i]).ch (tkOf l[i]).us sets=0:=hr
  rw [if_pos hr']
  have hid:(tkOf l[i]).id=(i:Int)+1:=hg.id
  rw [if_neg (by omega)]
  have hp:(tkOf l[i]).p ∉ ((l.map tkOf).take i).map (·.p):=by
   intro hm
   rw [List.mem_map] at hm
   obtain⟨y,hy,hyp⟩:=hm
   obtain⟨j,hj,hjy⟩:=List.mem_iff_getElem.1 hy
   rw [List.length_take] at hj
   have hjl:j<l.length:=by omega
   have hji:j<i:=by omega
   have e:y=tkOf l[j]:=by rw [← hjy];simp
   have hgj:=h.task j hjl
   have q1:l[j].f4 % 10=(j:Int):=hgj.pi
   have q2:l[i].f4 % 10=(i:Int):=hg.pi
   rw [e] at hyp
   have q3:l[j].f4=l[i].f4:=hyp
   rw [q3] at q1
   omega
  rw [if_neg hp]
  have hn:=ih (i+1) (by omega)
  have htk:((l.map tkOf).take (i+1)).map (·.p)=((l.map tkOf).take i).map (·.p)++[(tkOf l[i]).p]:=by
   rw [List.take_add_one,List.getElem?_eq_getElem hil',List.map_append,he];rfl
  rw [htk,Int.natCast_succ,← hid] at hn
  exact hn
theorem goT_ge (L:List Tk):∀ h,h.size≤(goT h L).size:=by
 induction L with
 |nil=>intro h;exact Nat.le_refl _
 |cons x r ih=>
  intro h
  have h1:=ih ((h++lineT x)++⟨#[10]⟩)
  simp only [ByteArray.size_append,goT] at h1 ⊢
  omega
theorem good_check {sets rel:Int} {l:List S53} (h:GoodSys sets rel l):checkE sets rel (l.map tkOf)=0∧0<(printT sets rel (l.map tkOf)).size∧(printT sets rel (l.map tkOf)).size≤20000:=by
 have h1:=h.s1
 have h2:=h.s8
 have h3:=h.r0
 have h4:=h.r3
 have h5:=h.l1
 have h6:=h.l6
 refine⟨?_,?_,?_⟩
 ·have hg:=good_go h l.length 0 (by omega)
  unfold checkE inB
  rw [if_pos ⟨decide_eq_true (by omega),decide_eq_true (by omega),by rw [List.length_map];omega⟩,if_pos (by rw [List.length_map];omega)]
  simpa using hg
 ·have hh:6≤(headT sets rel).size:=by
   have z0:(⟨#[99,97,99,104,101,32]⟩:ByteArray).size=6:=rfl
   unfold headT
   simp only [ByteArray.size_append]
   omega
  have:=goT_ge (l.map tkOf) (headT sets rel)
  unfold printT
  omega
 ·have hh:=headT_size sets rel (by omega) (by omega)
  have:=goT_size (l.map tkOf) (headT sets rel)
  rw [List.length_map] at this
  unfold printT
  omega
theorem good_small {sets rel:Int} {l:List S53} (h:GoodSys sets rel l):∀ x ∈ l.map tkOf,x.ch.length≤4000000∧x.us.length≤4000000∧x.c≤9223372036854775807:=by
 intro x hx
 obtain⟨y,hy,rfl⟩:=List.mem_map.1 hx
 obtain⟨j,hj,rfl⟩:=List.mem_iff_getElem.1 hy
 have hg:=h.task j hj
 have a1:=hg.chl
 have a2:=hg.usl
 have a3:=hg.cd
 have a4:=hg.dt
 have a5:=hg.t24
 exact⟨by show l[j].f5.length≤_;omega,by show l[j].f6.length≤_;omega,by show l[j].f1≤_;omega⟩
end Go.Proofs.YtgnaaokhfpfglaaDoor.PCertTold
end
section
namespace Go.Proofs.YtgnaaokhfpfglaaDoor.PCertTold
open Go.RowKit Go.Lib Go.Proofs.YtgnaaokhfpfglaaDoorW.PrintWords
theorem mayV_of {s r:Int} {L:List Tk} {p m:Int} {th q:List Int} {bs:List S49} (h0:checkE s r L=0) (hp:p=1∨p=2) (hm:m=1∨m=2∨m=3∨m=4)
  (hl:th.length≤64∧q.length≤64∧bs.length≤64) (h1:∀ x ∈ th,0≤x∧x≤99) (h2:∀ x ∈ q,0≤x∧x≤1073741824) (h3:∀ x ∈ bs,GoodBd x):mayV s r L p m th q (bs.map bdOf)=true:=by
 unfold mayV
 have e1:inA 99 th=true:=List.all_eq_true.2 (fun x hx=>decide_eq_true (h1 x hx))
 have e2:inA 1073741824 q=true:=List.all_eq_true.2 (fun x hx=>decide_eq_true (h2 x hx))
 have e3:(bs.map bdOf).any wrongB=false:=List.any_eq_false.2 (fun y hy=>by
  obtain⟨x,hx,rfl⟩:=List.mem_map.1 hy
  obtain⟨a,b,c,d⟩:=h3 x hx
  simp [wrongB,inA,bdOf]
  omega)
 rw [e1,e2,e3,decide_eq_true h0,decide_eq_true (show 1≤p∧p≤2 by omega),decide_eq_true (show 1≤m∧m≤4 by omega),decide_eq_true (by rw [List.length_map];exact hl)]
 rfl
theorem crtOk_of {s r:Int} {l:List S53} (h:GoodSys s r l) {th q:List Int} {bs:List S49} (h5:th.length≤4000000) (h6:q.length≤4000000) (h7:bs.length≤4000000):crtOk l th q bs=true:=by
 have h1:=h.l6
 unfold crtOk chkOk
 rw [decide_eq_true (show l.length≤70000 by omega),decide_eq_true ⟨h5,h6,h7⟩,Bool.and_true,Bool.true_and]
 refine List.all_eq_true.2 (fun x hx=>?_)
 obtain⟨a,b,c⟩:=good_small h (tkOf x) (List.mem_map.2 ⟨x,hx,rfl⟩)
 simp only [Bool.and_eq_true,decide_eq_true_eq]
 exact⟨⟨a,b⟩,c⟩
theorem good_tksm {s r:Int} {l:List S53} (h:GoodSys s r l):∀ x ∈ l,TkSm x:=fun x hx=>by
 obtain⟨a,b,_⟩:=good_small h (tkOf x) (List.mem_map.2 ⟨x,hx,rfl⟩)
 exact⟨a,b⟩
theorem certPrint_f {s r:Int} {l:List S53} {p m:Int} {th q:List Int} {bs:List S49} (h:crtOk l th q bs=true):cert_Print.f s r l p m th q bs=some (certP s r (l.map tkOf) p m th q (bs.map bdOf)):=by
 unfold cert_Print.f
 rw [if_pos h]
theorem GoodCert.may {s r:Int} {l:List S53} {p m:Int} {th q:List Int} {bs:List S49} (h:GoodCert s r l p m th q bs):mayV s r (l.map tkOf) p m th q (bs.map bdOf)=true:=by
 have h6:=h.sys.l6
 have a1:=h.thl
 have a2:=h.ql
 have a3:=h.bl
 exact mayV_of (good_check h.sys).1 h.pol h.mode (by omega) (fun x hx=>by have:=h.th1 x hx;omega) (fun x hx=>by have:=h.q1 x hx;omega) h.b1
end Go.Proofs.YtgnaaokhfpfglaaDoor.PCertTold
end
section
set_option linter.unusedVariables false
namespace Go.Proofs.YtgnaaokhfpfglaaDoor.PCertTold
open Go.RowKit Go.Lib Go.Proofs.YtgnaaokhfpfglaaDoorW.PrintWords
theorem awake_f:ostinatolaw21_awake.f=some true:=by
 unfold ostinatolaw21_awake.f
 rw [certPrint_f (by decide),Option.bind_some,Lib.toList_data,certP_yes (by decide),qa1]
 kernel_rfl
theorem beq_dec (a b:List UInt8):(a == b)=decide (a=b):=by
 by_cases h:a=b
 ·subst h;simp
 ·rw [decide_eq_false h];simpa using h
theorem told_j0 {s r:Int} {l:List S53} {p m:Int} {th q:List Int} {bs:List S49} (h:GoodCert s r l p m th q bs) (p' m':Int) (q':List Int) (bs':List S49) (h6:q'.length≤4000000) (h7:bs'.length≤4000000)
  (hE:decide ((certT (polP p) (modeP m) th q (bs.map bdOf) (printT s r (l.map tkOf))).toList=(certP s r (l.map tkOf) p' m' th q' (bs'.map bdOf)).toList)=sameC s r l p m th q bs s r l p' m' th q' bs') :
  Ev (fun k=>ostinatolaw21_CertTold.j0 k true s r l p m th q bs s r l p' m' th q' bs') true:=by
 have g6:=h.sys.l6
 have a1:=h.thl
 have a2:=h.ql
 have a3:=h.bl
 have e1:=certPrint_f (s:=s) (r:=r) (p:=p) (m:=m) (crtOk_of h.sys (th:=th) (q:=q) (bs:=bs) (by omega) (by omega) (by omega))
 have e2:=certPrint_f (s:=s) (r:=r) (p:=p') (m:=m') (crtOk_of h.sys (th:=th) (q:=q') (bs:=bs') (by omega) h6 h7)
 rw [certP_yes h.may] at e1
 have hS:=certSame_f s r l p m th q bs s r l p' m' th q' bs' (by omega) (good_tksm h.sys) (by omega) (by omega) (by omega)
 have hR:=refCert_f s r l p m th q bs s r l p' m' th q' bs' (by omega) (good_tksm h.sys) (by omega) (by omega) (by omega)
 refine Ev.step (fun k=>by rw [ostinatolaw21_CertTold.j0]) (Ev.ifp rfl (Ev.bindS e1 (Ev.ifn (certT_ne _ _ _ _ _ _) (Ev.bindS e1 (Ev.bindS e2 ?_)))))
 refine Ev.bind hS (Ev.ifp (by rw [beq_dec,hE];simp) ?_)
 refine Ev.bind hS (Ev.bind hR ?_)
 exact (by simpa using Ev.now true)
theorem sameC_mode (s r:Int) (l:List S53) (p m:Int) (th q:List Int) (bs:List S49) (m':Int):sameC s r l p m th q bs s r l p m' th q bs=decide (m=m'):=by
 simp [sameC]
theorem sameC_pol (s r:Int) (l:List S53) (p m:Int) (th q:List Int) (bs:List S49) (p':Int):sameC s r l p m th q bs s r l p' m th q bs=decide (p=p'):=by
 simp [sameC]
theorem sameC_q (s r:Int) (l:List S53) (p m:Int) (th q:List Int) (bs:List S49) (q':List Int):sameC s r l p m th q bs s r l p m th q' bs=decide (q=q'):=by
 simp [sameC]
theorem sameC_bs (s r:Int) (l:List S53) (p m:Int) (th q:List Int) (bs bs':List S49):sameC s r l p m th q bs s r l p m th q bs' = decide (bs=bs'):=by
 simp [sameC]
theorem dec_iff {a b:Prop} [Decidable a] [Decidable b] (h:a↔b):decide a=decide b:=by
 by_cases hb:b
 ·rw [decide_eq_true hb,decide_eq_true (h.2 hb)]
 ·rw [decide_eq_false hb,decide_eq_false (fun ha=>hb (h.1 ha))]
theorem pure_CertTold (x0:S30) (a1:Int) (a2:Int) (ok0_:ok30 x0) (ok1_:(Lit.int .i64 a1).wf=true) (ok2_:(Lit.int .i64 a2).wf=true):∃ k,ostinatolaw21_CertTold.f k x0.f0.f0 x0.f0.f1 x0.f0.f2 x0.f1.f0 x0.f1.f1 x0.f1.f2 x0.f1.f3 x0.f2 a1 a2=some true:=by
 obtain⟨s,r,l,p,m,th,q,bs,hC,hg⟩:=cert_f x0.f0.f0 x0.f0.f1 x0.f0.f2 x0.f1.f0 x0.f1.f1 x0.f1.f2 x0.f1.f3 x0.f2
 suffices h:Ev (fun k=>ostinatolaw21_CertTold.f k x0.f0.f0 x0.f0.f1 x0.f0.f2 x0.f1.f0 x0.f1.f1 x0.f1.f2 x0.f1.f3 x0.f2 a1 a2) true by
  obtain⟨k,hk⟩:=h.rounds
  exact⟨k,hk⟩
 have g6:=hg.sys.l6
 have g1:=hg.sys.l1
 have b1:=hg.thl
 have b2:=hg.ql
 have b3:=hg.bl
 have hn:=and15_rng a2
 unfold ostinatolaw21_CertTold.f
 refine Ev.bindS awake_f (Ev.bind hC ?_)
 rw [rest_wrapP a1 4 (by decide) (by decide)]
 have w4:0≤a1 % 4∧a1 % 4<4:=by omega
 have chk:=(good_check hg.sys).1
 have hth:∀ x ∈ th,0≤x∧x≤99:=fun x hx=>by have:=hg.th1 x hx;omega
 have hq:∀ x ∈ q,0≤x∧x≤1073741824:=fun x hx=>by have:=hg.q1 x hx;omega
 by_cases w0:a1 % 4=0
 ·refine Ev.ifp w0 ?_
  have hm3:=and3_rng (wrap64 (m+bits .and .i64 a2 15))
  have hm':=qaH (x:=1+bits .and .i64 (wrap64 (m+bits .and .i64 a2 15)) 3) (by omega) (by omega)
  show Ev (fun k=>ostinatolaw21_CertTold.j0 k true s r l p m th q bs s r l p (wrap64 (1+bits .and .i64 (wrap64 (m+bits .and .i64 a2 15)) 3)) th q bs) true
  rw [hm']
  generalize he:1+bits .and .i64 (wrap64 (m+bits .and .i64 a2 15)) 3=m' at *
  have hmr:m' = 1∨m' = 2∨m' = 3∨m' = 4:=by omega
  refine told_j0 hg p m' q bs (by omega) (by omega) ?_
  rw [sameC_mode,certP_yes (mayV_of chk hg.pol hmr (by omega) hth hq hg.b1)]
  exact dec_iff ⟨fun h=>modeP_inj hg.mode hmr (certT_mode h),fun h=>by rw [h]⟩
 refine Ev.ifn w0 ?_
 by_cases w1:a1 % 4=1
 ·refine Ev.ifp w1 ?_
  obtain⟨x,q0,rfl⟩:∃ x q0,q=x::q0:=by
   cases q with
   |nil=>simp at b2;omega
   |cons x q0=>exact⟨x,q0,rfl⟩
  have hx:=hg.q1 x List.mem_cons_self
  refine Ev.bindS rfl (Ev.ifp (by simp at b2 ⊢;omega) (Ev.bindS rfl (Ev.ifp (by simp) ?_)))
  have hw:=qaH (x:=x+bits .and .i64 a2 15) (by omega) (by omega)
  show Ev (fun k=>ostinatolaw21_CertTold.j0 k true s r l p m th (x::q0) bs s r l p m th (wrap64 (x+bits .and .i64 a2 15)::q0) bs) true
  rw [hw]
  generalize he:x+bits .and .i64 a2 15=y at *
  have hy:0≤y∧y≤1073741824:=by omega
  refine told_j0 hg p m (y::q0) bs (by simp at b2 ⊢;omega) (by omega) ?_
  rw [sameC_q,certP_yes (mayV_of chk hg.pol hg.mode (by simp at b2 ⊢;omega) hth (fun z hz=>by
   rcases List.mem_cons.1 hz with h|h
   ·rw [h];exact hy
   ·exact hq z (List.mem_cons_of_mem _ h)) hg.b1)]
  have hx0:0≤x:=by omega
  have hy0:0≤y:=by omega
  exact dec_iff ⟨fun h=>by rw [certT_q hx0 hy0 h],fun h=>by rw [h]⟩
 refine Ev.ifn w1 ?_
 by_cases w2:a1 % 4=2
 ·refine Ev.ifp w2 ?_
  refine Ev.bindS rfl (Ev.ifp (by simp;omega) (Ev.bindS rfl (Ev.ifp (by simp;omega) ?_)))
  show Ev (fun k=>ostinatolaw21_CertTold.j0 k true s r l p m th q bs s r l p m th q (([]++bs)++[(⟨5,bits .and .i64 a2 15,0,0⟩:S49)])) true
  rw [List.nil_append]
  refine told_j0 hg p m q _ (by omega) (by simp;omega) ?_
  rw [sameC_bs,certP_yes (mayV_of chk hg.pol hg.mode (by simp;omega) hth hq (fun z hz=>by
   rcases List.mem_append.1 hz with h|h
   ·exact hg.b1 z h
   ·simp at h;rw [h];exact⟨⟨by show (0:Int)≤5;omega,by show (5:Int)<64;omega⟩,⟨by show 0≤bits .and .i64 a2 15;omega,by show bits .and .i64 a2 15<_;omega⟩,⟨by show (0:Int)≤0;omega,by show (0:Int)<_;omega⟩,⟨by show (0:Int)≤0;omega,by show (0:Int)<_;omega⟩⟩)),List.map_append]
  refine dec_iff ⟨fun h=>absurd h certT_more,fun h=>?_⟩
  have:=congrArg List.length h
  simp at this
 refine Ev.ifn w2 ?_
 by_cases w3:a1 % 4=3
 ·refine Ev.ifp w3 ?_
  have hp1:0≤bits .and .i64 (wrap64 (p+bits .and .i64 a2 15)) 1∧bits .and .i64 (wrap64 (p+bits .and .i64 a2 15)) 1<2:=by rw [andP1];omega
  have hp':=qaH (x:=1+bits .and .i64 (wrap64 (p+bits .and .i64 a2 15)) 1) (by omega) (by omega)
  show Ev (fun k=>ostinatolaw21_CertTold.j0 k true s r l p m th q bs s r l (wrap64 (1+bits .and .i64 (wrap64 (p+bits .and .i64 a2 15)) 1)) m th q bs) true
  rw [hp']
  generalize he:1+bits .and .i64 (wrap64 (p+bits .and .i64 a2 15)) 1=p' at *
  have hpr:p' = 1∨p' = 2:=by omega
  refine told_j0 hg p' m q bs (by omega) (by omega) ?_
  rw [sameC_pol,certP_yes (mayV_of chk hpr hg.mode (by omega) hth hq hg.b1)]
  exact dec_iff ⟨fun h=>polP_inj hg.pol hpr (certT_pol h),fun h=>by rw [h]⟩
 ·omega
end Go.Proofs.YtgnaaokhfpfglaaDoor.PCertTold
end
section
namespace Go.Proofs.YtgnaaokhfpfglaaDoor
open Go.ChangeShapes Go.WideShapes Go.ChangeAt Go.RowKit
theorem laid_met (os:Os) (args:Array Value):laidMetH Tryd.prog Rows.certToldRow.laid ((World.laidAll Tryd.prog os Rows.certToldRow.laid).forCall (fun _ _=>0) ⟨#[],args,[]⟩).memory:=by
 rw [MakeChecks.laidMetH_plain _ _ _ (by kernel_rfl)]
 exact laidMet_laidAll _ (by kernel_rfl) (by kernel_rfl)
theorem handed_laid {H:Type} {enc:TypeId × Value→H} {C:Checked} {os:Os} {f:FuncId} {fn:Func} {s:ChangeSpec} {l:List (String × DataW Unit)}
  (own:ownKnob C.prog.godebug=none) (started:os.Started) (noInit:C.prog.inits.idxOf? f=none) (hfn:C.prog.funcs[f]? = some fn)
  (witness:∃ (w:World) (tape:Tape) (i:Input),w.os=os∧(w.forCall tape i).Shaped C.prog∧i.vars=[]∧Input.okWide C.prog (w.forCall tape i) .any w.heap.size f i ∧
   ((s.pre enc C.prog fn [] false (w.forCall tape i).memory i.args∧laidMetH C.prog l (w.forCall tape i).memory)∧sizedMet enc C.prog fn (OpenSpec.ofChange s) false (w.forCall tape i).memory i.args)∧({}:Assume).holds C.prog (lone (Frame.enter C.prog f i.args .normal) [] (w.forCall tape i)))
  (contract:∀ (W:World) (base:Nat) (args:Array Value) (ds gs:List (DataW H)) (before:List MemPlace),
   (∀ (j:Nat) t v,fn.params[j]? = some t→args[j]? = some v→Value.okWide C.prog W .any base t v) →
   DataW.Whole enc C.prog fn.params.toList s.vars false W args.toList ds gs before→laidMetH C.prog l W→W.ShapedOpen C.prog →
   Calls C.prog f args W fun e W'=>∃ v,e=.returned v∧s.post enc C.prog fn false true false false W args v W') :
  ReturnsInHanded {} C os f .any (fun w args=>(s.pre enc C.prog fn [] false w args∧laidMetH C.prog l w)∧sizedMet enc C.prog fn (OpenSpec.ofChange s) false w args) (s.post enc C.prog fn false true false false):=by
 refine returnsInHanded_of_calls own started noInit witness ?_
 intro w tape i _ hsh _ hok hpre _
 obtain⟨_,_,_,fn',hfn',_,_,_,_,hval⟩:=hok
 obtain rfl:fn' = fn:=Option.some.inj (hfn'.symm.trans hfn)
 obtain⟨⟨⟨ds,gs,before,hw,_⟩,hl⟩,_⟩:=hpre
 have hw':=DataW.Whole.of_heap (w':=w.forCall tape i) (by rfl) hw
 refine (contract (w.forCall tape i) w.heap.size i.args ds gs before hval hw' (laidMetH.of_heap (by rfl) hl) hsh).mono fun e W' ⟨v,he,hp⟩=>?_
 subst he
 exact ChangeSpec.post_blind hp
end Go.Proofs.YtgnaaokhfpfglaaDoor
end
section
namespace Go.Proofs.YtgnaaokhfpfglaaDoor
open Go.RowKit
theorem tab_of_laid {W:World} (h:laidMetH Tryd.prog Rows.certToldRow.laid W):Lib.TabIs Tryd.prog W "internal/strconv.uint64pow10" .u64 Lib.pow10Tab:=by
 rw [MakeChecks.laidMetH_plain _ _ _ (by kernel_rfl)] at h
 have hm:("internal/strconv.uint64pow10",Rows.laid_internal_strconv_uint64pow10) ∈ Rows.certToldRow.laid:=by
  unfold Rows.certToldRow
  simp
 obtain⟨g,t,cs,fuel,p,hg,ht,hv,hd⟩:=Lib.laidMet.reads h hm
 have hg0:Tryd.prog.globalNamed "internal/strconv.uint64pow10" = some 0:=by kernel_rfl
 obtain rfl:=Option.some.inj (hg0.symm.trans hg)
 have e:(Rows.laid_internal_strconv_uint64pow10:DataW Unit)=Lib.tabData .u64 Lib.pow10Tab:=by kernel_rfl
 rw [e] at hd
 have hty:(Tryd.prog.globals[0]?).map (·.type)=some 126:=by kernel_rfl
 obtain rfl:=Option.some.inj (hty.symm.trans ht)
 unfold Lib.TabIs
 rw [hv,← Lib.cells_of_tab Tryd.underlying126 Tryd.underlying100 (by kernel_rfl) (by kernel_rfl) hd]
end Go.Proofs.YtgnaaokhfpfglaaDoor
end
