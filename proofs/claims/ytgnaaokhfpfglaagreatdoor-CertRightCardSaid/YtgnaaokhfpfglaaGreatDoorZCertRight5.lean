/- Texts of this claim, one behind the other: QCertRightQCtx, QCertRightQCsa, QCertRightQCrs, QCertRightQRd, QCertRightQChk, PureCertRight, Laid, LaidTab. -/
import Derived.Test.YtgnaaokhfpfglaaGreatDoorZCertRight4
import Derived.Test.YtgnaaokhfpfglaaGreatDoorZCertRight1
import Derived.Test.YtgnaaokhfpfglaaGreatDoorZCertRight3
import Derived.Test.YtgnaaokhfpfglaaGreatDoorZCertRight2
import Derived.Test.YtgnaaokhfpfglaaGreatDoorRows
import Derived.Test.YtgnaaokhfpfglaaGreatDoorCards
import Derived.Test.YtgnaaokhfpfglaaGreatDoorTie
import Derived.ProofKit
import Derived.LaidMore
import Derived.Lay
import Derived.LaidLaws
import Derived.LaidHandle
import Derived.HandedShaped
import Derived.SevenTiedAt
import Derived.Lib.LaidU8
import Derived.Lib.LaidTab

set_option maxHeartbeats 8000000
set_option maxRecDepth 100000
set_option linter.unusedVariables false
set_option linter.unusedSimpArgs false
section
namespace Go.Proofs.YtgnaaokhfpfglaaGreatDoor.PCertRight
open Go.RowKit Go.Lib Go.Proofs.YtgnaaokhfpfglaaGreatDoorW.PrintWords
theorem certT_list (P M:ByteArray) (th q:List Int) (bs:List Bd) (S:ByteArray):(certT P M th q bs S).data.toList=crHead P M++(crTheta th++(crQ q++(bs.flatMap crBound++S.data.toList))):=by
 unfold certT
 simp [ByteArray.data_append]
theorem certT_ne (P M:ByteArray) (th q:List Int) (bs:List Bd) (S:ByteArray):¬ (certT P M th q bs S).toList=([]:List UInt8):=by
 rw [Lib.toList_data,certT_list]
 unfold crHead
 simp
theorem certP_yes {s r:Int} {L:List Tk} {p m:Int} {th q:List Int} {bs:List Bd} (h:mayV s r L p m th q bs=true):certP s r L p m th q bs=certT (polP p) (modeP m) th q bs (printT s r L):=by
 unfold certP;rw [if_pos h]
instance:DecidableEq S58:=fun x y=>decidable_of_iff (x.f0=y.f0∧x.f1=y.f1∧x.f2=y.f2∧x.f3=y.f3∧x.f4=y.f4∧x.f5=y.f5∧x.f6=y.f6) ⟨fun h=>by cases x;cases y;simp_all,fun h=>by subst h;simp⟩
instance:DecidableEq S60:=fun x y=>decidable_of_iff (x.f0=y.f0∧x.f1=y.f1∧x.f2=y.f2∧x.f3=y.f3) ⟨fun h=>by cases x;cases y;simp_all,fun h=>by subst h;simp⟩
theorem dec_cons {α:Type} [DecidableEq α] (a b:α) (l m:List α):decide (a::l=b::m)=(decide (a=b) && decide (l=m)):=by
 by_cases h:a=b
 ·subst h;simp
 ·simp [h]
theorem same_go {α:Type} [DecidableEq α] (a b:List α) (hl:a.length=b.length) (F:Nat→Nat→Option Bool) (z:Bool)
  (hstep:∀ (i:Nat) (ha:i<a.length) (hb:i<b.length) (v:Bool),Ev (fun k=>F k (i+1)) v→Ev (fun k=>F k i) (decide (a[i]=b[i]) && v))
  (hend:Ev (fun k=>F k a.length) z):∀ (d i:Nat),i+d=a.length→Ev (fun k=>F k i) (decide (a.drop i=b.drop i) && z):=by
 intro d
 induction d with
 |zero=>
  intro i hi
  obtain rfl:i=a.length:=by omega
  have e:a.drop a.length=b.drop a.length:=by rw [List.drop_length,hl,List.drop_length]
  rw [decide_eq_true e,Bool.true_and]
  exact hend
 |succ d ih=>
  intro i hi
  have ha:i<a.length:=by omega
  have hb:i<b.length:=by omega
  have h:=hstep i ha hb _ (ih (i+1) (by omega))
  rw [List.drop_eq_getElem_cons ha,List.drop_eq_getElem_cons hb,dec_cons,Bool.and_assoc]
  exact h
theorem len_no {α:Type} [DecidableEq α] {a b:List α} (h:¬ ((a.length:Int)=(b.length:Int))):decide (a=b)=false:=decide_eq_false (fun e=>h (by rw [e]))
theorem eqInt_f (a b:List Int) (ha:a.length≤4000000):Ev (fun k=>slices_Equal_int_int.f k a b) (decide (a=b)):=by
 unfold slices_Equal_int_int.f
 by_cases hl:(a.length:Int)=(b.length:Int)
 ·refine Ev.ifp hl ?_
  have h:=same_go a b (by omega) (fun k i=>slices_Equal_int_int.l0 k a b (a.length:Int) (i:Int)) true (fun i h1 h2 v hv=>by
   refine Ev.step (fun k=>by rw [slices_Equal_int_int.l0]) (Ev.ifp (by omega) (Ev.ifp (by omega) (Ev.ifp (by omega) (Ev.ifp (by omega) ?_))))
   by_cases h:a[i]=b[i]
   ·rw [decide_eq_true h,Bool.true_and]
    refine Ev.ifp (by rw [rd_cast a i h1,rd_cast b i h2];exact h) ?_
    rw [qaJ i (by omega)]
    exact hv
   ·rw [decide_eq_false h,Bool.false_and]
    exact Ev.ifn (by rw [rd_cast a i h1,rd_cast b i h2];exact h) (Ev.now _)) (Ev.step (fun k=>by rw [slices_Equal_int_int.l0]) (Ev.ifn (by omega) (Ev.now _))) a.length 0 (by omega)
  simpa using h
 ·rw [len_no hl]
  exact Ev.ifn hl (Ev.now _)
theorem eqLong_f (a b:List Int) (ha:a.length≤4000000):Ev (fun k=>slices_Equal_int64_int64.f k a b) (decide (a=b)):=by
 unfold slices_Equal_int64_int64.f
 by_cases hl:(a.length:Int)=(b.length:Int)
 ·refine Ev.ifp hl ?_
  have h:=same_go a b (by omega) (fun k i=>slices_Equal_int64_int64.l0 k a b (a.length:Int) (i:Int)) true (fun i h1 h2 v hv=>by
   refine Ev.step (fun k=>by rw [slices_Equal_int64_int64.l0]) (Ev.ifp (by omega) (Ev.ifp (by omega) (Ev.ifp (by omega) (Ev.ifp (by omega) ?_))))
   by_cases h:a[i]=b[i]
   ·rw [decide_eq_true h,Bool.true_and]
    refine Ev.ifp (by rw [rd_cast a i h1,rd_cast b i h2];exact h) ?_
    rw [qaJ i (by omega)]
    exact hv
   ·rw [decide_eq_false h,Bool.false_and]
    exact Ev.ifn (by rw [rd_cast a i h1,rd_cast b i h2];exact h) (Ev.now _)) (Ev.step (fun k=>by rw [slices_Equal_int64_int64.l0]) (Ev.ifn (by omega) (Ev.now _))) a.length 0 (by omega)
  simpa using h
 ·rw [len_no hl]
  exact Ev.ifn hl (Ev.now _)
theorem rd_bd {L:List S60} {i:Nat} (h:i<L.length):qay L (i:Int)=L[i]:=by
 simp [qay,List.getD_eq_getElem?_getD,List.getElem?_eq_getElem h]
theorem bd_ne (x y:S60):(!(x.f0 == y.f0) || (!(x.f1 == y.f1) || (!(x.f2 == y.f2) || (!(x.f3 == y.f3))))) = !decide (x=y):=by
 by_cases h:x=y
 ·subst h;simp
 ·rw [decide_eq_false h]
  cases h0:x.f0 == y.f0<;>cases h1:x.f1 == y.f1<;>cases h2:x.f2 == y.f2<;>cases h3:x.f3 == y.f3<;>try rfl
  exact absurd (by cases x;cases y;simp_all) h
theorem eqBd_f (a b:List S60) (ha:a.length≤4000000):Ev (fun k=>api_Bound_47.f k a b) (decide (a=b)):=by
 unfold api_Bound_47.f
 by_cases hl:(a.length:Int)=(b.length:Int)
 ·refine Ev.ifp hl ?_
  have h:=same_go a b (by omega) (fun k i=>api_Bound_47.l0 k a b (a.length:Int) (i:Int)) true (fun i h1 h2 v hv=>by
   refine Ev.step (fun k=>by rw [api_Bound_47.l0]) (Ev.ifp (by omega) (Ev.ifp (by omega) (Ev.ifp (by omega) (Ev.ifp (by omega) ?_))))
   rw [rd_bd h1,rd_bd h2,bd_ne]
   by_cases h:a[i]=b[i]
   ·rw [decide_eq_true h,Bool.true_and]
    refine Ev.ifn (by decide) ?_
    rw [qaJ i (by omega)]
    exact hv
   ·rw [decide_eq_false h,Bool.false_and]
    exact Ev.ifp rfl (Ev.now _)) (Ev.step (fun k=>by rw [api_Bound_47.l0]) (Ev.ifn (by omega) (Ev.now _))) a.length 0 (by omega)
  simpa using h
 ·rw [len_no hl]
  exact Ev.ifn hl (Ev.now _)
def TkSm (x:S58):Prop:=x.f5.length≤4000000∧x.f6.length≤4000000
theorem task_eq (x y:S58):decide (x=y)=(decide (x.f0=y.f0) && (decide (x.f1=y.f1) && (decide (x.f2=y.f2) && (decide (x.f3=y.f3) && (decide (x.f4=y.f4) && (decide (x.f5=y.f5) && decide (x.f6=y.f6))))))):=by
 cases x;cases y
 rw [Bool.eq_iff_iff]
 simp
theorem sameTask_f (x y:S58) (h:TkSm x):Ev (fun k=>tasks_SameTask.f k x.f0 x.f1 x.f2 x.f3 x.f4 x.f5 x.f6 y.f0 y.f1 y.f2 y.f3 y.f4 y.f5 y.f6) (decide (x=y)):=by
 rw [task_eq]
 unfold tasks_SameTask.f
 by_cases h0:x.f0=y.f0
 rotate_left
 ·rw [decide_eq_false h0];exact Ev.ifn h0 (Ev.now _)
 by_cases h1:x.f1=y.f1
 rotate_left
 ·rw [decide_eq_false h1,Bool.false_and,Bool.and_false];exact Ev.ifp h0 (Ev.ifn h1 (Ev.now _))
 by_cases h2:x.f2=y.f2
 rotate_left
 ·rw [decide_eq_false h2,Bool.false_and,Bool.and_false,Bool.and_false];exact Ev.ifp h0 (Ev.ifp h1 (Ev.ifn h2 (Ev.now _)))
 by_cases h3:x.f3=y.f3
 rotate_left
 ·rw [decide_eq_false h3,Bool.false_and,Bool.and_false,Bool.and_false,Bool.and_false];exact Ev.ifp h0 (Ev.ifp h1 (Ev.ifp h2 (Ev.ifn h3 (Ev.now _))))
 by_cases h4:x.f4=y.f4
 rotate_left
 ·rw [decide_eq_false h4,Bool.false_and,Bool.and_false,Bool.and_false,Bool.and_false,Bool.and_false];exact Ev.ifp h0 (Ev.ifp h1 (Ev.ifp h2 (Ev.ifp h3 (Ev.ifn h4 (Ev.now _)))))
 rw [decide_eq_true h0,decide_eq_true h1,decide_eq_true h2,decide_eq_true h3,decide_eq_true h4]
 simp only [Bool.true_and]
 refine Ev.ifp h0 (Ev.ifp h1 (Ev.ifp h2 (Ev.ifp h3 (Ev.ifp h4 ?_))))
 refine Ev.bind (eqLong_f x.f5 y.f5 h.1) ?_
 by_cases h5:x.f5=y.f5
 ·rw [decide_eq_true h5,Bool.true_and]
  refine Ev.ifp rfl ?_
  refine Ev.bind (eqInt_f x.f6 y.f6 h.2) ?_
  exact Ev.now _
 ·rw [decide_eq_false h5,Bool.false_and]
  exact Ev.ifn (by decide) (Ev.now _)
theorem sameGo_f:∀ (a b:List S58),a.length=b.length→(∀ x ∈ a,TkSm x)→Ev (fun k=>sameGo k (a.map tkOf) (b.map tkOf)) (decide (a=b)):=by
 intro a
 induction a with
 |nil=>
  intro b hl _
  cases b with
  |nil=>exact Ev.now _
  |cons y q=>simp at hl
 |cons x r ih=>
  intro b hl hs
  cases b with
  |nil=>simp at hl
  |cons y q=>
   rw [dec_cons]
   show Ev (fun k=>(sameO k (tkOf x) (tkOf y)).bind fun b=>(sameGo k (r.map tkOf) (q.map tkOf)).bind fun c=>some (b && c)) _
   refine Ev.bind (show Ev (fun k=>sameO k (tkOf x) (tkOf y)) (decide (x=y)) from sameTask_f x y (hs x List.mem_cons_self)) ?_
   refine Ev.bind (ih q (by simpa using hl) (fun z hz=>hs z (List.mem_cons_of_mem _ hz))) ?_
   exact Ev.now _
theorem sameSys_f (s r s' r':Int) (a b:List S58) (hl:a.length≤70000) (hs:∀ x ∈ a,TkSm x):Ev (fun k=>tasks_Same.f k s r a s' r' b) (decide (s=s') && (decide (r=r') && decide (a=b))):=by
 unfold tasks_Same.f
 by_cases h0:s=s'
 rotate_left
 ·rw [decide_eq_false h0,Bool.false_and];exact Ev.ifn h0 (Ev.now _)
 by_cases h1:r=r'
 rotate_left
 ·rw [decide_eq_false h1,Bool.false_and,Bool.and_false];exact Ev.ifp h0 (Ev.ifn h1 (Ev.now _))
 rw [decide_eq_true h0,decide_eq_true h1,Bool.true_and,Bool.true_and]
 refine Ev.ifp h0 (Ev.ifp h1 ?_)
 refine Ev.bind (a:=decide (a=b)) ?_ (Ev.now _)
 unfold api_Task.f
 refine Ev.ifp hl ?_
 by_cases he:a.length=b.length
 ·exact Ev.ifp he (sameGo_f a b he hs)
 ·rw [len_no (by omega)]
  exact Ev.ifn he (Ev.now _)
def sameC (s r:Int) (a:List S58) (p m:Int) (th q:List Int) (bs:List S60) (s' r':Int) (a':List S58) (p' m':Int) (th' q':List Int) (bs':List S60):Bool:=
 (decide (s=s') && (decide (r=r') && decide (a=a'))) && (decide (p=p') && (decide (m=m') && (decide (th=th') && (decide (q=q') && decide (bs=bs')))))
theorem certSame_f (s r:Int) (a:List S58) (p m:Int) (th q:List Int) (bs:List S60) (s' r':Int) (a':List S58) (p' m':Int) (th' q':List Int) (bs':List S60)
  (hl:a.length≤70000) (hs:∀ x ∈ a,TkSm x) (h5:th.length≤4000000) (h6:q.length≤4000000) (h7:bs.length≤4000000) :
  Ev (fun k=>cert_Same.f k s r a p m th q bs s' r' a' p' m' th' q' bs') (sameC s r a p m th q bs s' r' a' p' m' th' q' bs'):=by
 unfold cert_Same.f sameC
 refine Ev.bind (sameSys_f s r s' r' a a' hl hs) ?_
 generalize (decide (s=s') && (decide (r=r') && decide (a=a')))=X
 cases X with
 |false=>exact Ev.ifn (by decide) (Ev.now _)
 |true=>
  rw [Bool.true_and]
  refine Ev.ifp rfl ?_
  by_cases hp:p=p'
  rotate_left
  ·rw [decide_eq_false hp];exact Ev.ifn hp (Ev.now _)
  by_cases hm:m=m'
  rotate_left
  ·rw [decide_eq_false hm,Bool.false_and,Bool.and_false];exact Ev.ifp hp (Ev.ifn hm (Ev.now _))
  rw [decide_eq_true hp,decide_eq_true hm,Bool.true_and,Bool.true_and]
  refine Ev.ifp hp (Ev.ifp hm ?_)
  refine Ev.bind (eqInt_f th th' h5) ?_
  by_cases ht:th=th'
  rotate_left
  ·rw [decide_eq_false ht];exact Ev.ifn (by decide) (Ev.now _)
  rw [decide_eq_true ht,Bool.true_and]
  refine Ev.ifp rfl ?_
  refine Ev.bind (eqLong_f q q' h6) ?_
  by_cases hq:q=q'
  rotate_left
  ·rw [decide_eq_false hq];exact Ev.ifn (by decide) (Ev.now _)
  rw [decide_eq_true hq,Bool.true_and]
  refine Ev.ifp rfl ?_
  refine Ev.bind (eqBd_f bs bs' h7) ?_
  exact Ev.now _
end Go.Proofs.YtgnaaokhfpfglaaGreatDoor.PCertRight
end
section
set_option linter.unusedVariables false
namespace Go.Proofs.YtgnaaokhfpfglaaGreatDoor.PCertRight
open Go.RowKit Go.Lib Go.Proofs.YtgnaaokhfpfglaaGreatDoorW.PrintWords
theorem certPrint_f {s r:Int} {l:List S58} {p m:Int} {th q:List Int} {bs:List S60} (h:crtOk l th q bs=true):cert_Print.f s r l p m th q bs=some (certP s r (l.map tkOf) p m th q (bs.map bdOf)):=by
 unfold cert_Print.f
 rw [if_pos h]
theorem mayV_mk {s r p m:Int} {L:List Tk} {th q:List Int} {bs:List Bd} (h0:checkE s r L=0) (h:CrOk th q bs) (hp:p=1∨p=2) (hm:m=1∨m=2∨m=3∨m=4):mayV s r L p m th q bs=true:=by
 obtain⟨h1,h2,h3,h4,h5,h6⟩:=h
 unfold mayV
 have e1:inA 99 th=true:=List.all_eq_true.2 (fun x hx=>decide_eq_true (h1 x hx))
 have e2:inA 1073741824 q=true:=List.all_eq_true.2 (fun x hx=>decide_eq_true (h3 x hx))
 have e3:bs.any wrongB=false:=List.any_eq_false.2 (fun y hy=>by
  obtain⟨a,b,c,d⟩:=h5 y hy
  simp [wrongB,inA]
  omega)
 rw [e1,e2,e3,decide_eq_true h0,decide_eq_true (show 1≤p∧p≤2 by omega),decide_eq_true (show 1≤m∧m≤4 by omega),decide_eq_true ⟨h2,h4,h6⟩]
 rfl
theorem crtOk_ck {s r:Int} {L:List Tk} (h:checkE s r L=0) {th q:List Int} {bs:List S60} (hl:L.length≤70000) (h5:th.length≤4000000) (h6:q.length≤4000000) (h7:bs.length≤4000000):crtOk (L.map tkTo) th q bs=true:=by
 unfold crtOk chkOk
 rw [decide_eq_true (show (L.map tkTo).length≤70000 by rw [List.length_map];exact hl),decide_eq_true ⟨h5,h6,h7⟩,Bool.and_true,Bool.true_and]
 refine List.all_eq_true.2 (fun x hx=>?_)
 obtain⟨y,hy,rfl⟩:=List.mem_map.1 hx
 obtain⟨a,b,c⟩:=checkE_each h y hy
 simp only [Bool.and_eq_true,decide_eq_true_eq]
 exact⟨⟨show y.ch.length≤4000000 by omega,show y.us.length≤4000000 by omega⟩,show y.c≤9223372036854775807 by omega⟩
theorem polP_ok {p:Int} (h:p=1∨p=2):Wok (polP p)∧findN polP (polP p) 2 1=p:=by
 rcases h with rfl|rfl
 ·exact⟨⟨by decide,pw_of _ (by decide)⟩,by decide⟩
 ·exact⟨⟨by decide,pw_of _ (by decide)⟩,by decide⟩
theorem modeP_ok {m:Int} (h:m=1∨m=2∨m=3∨m=4):Wok (modeP m)∧findN modeP (modeP m) 4 1=m:=by
 rcases h with rfl|rfl|rfl|rfl
 ·exact⟨⟨by decide,pw_of _ (by decide)⟩,by decide⟩
 ·exact⟨⟨by decide,pw_of _ (by decide)⟩,by decide⟩
 ·exact⟨⟨by decide,pw_of _ (by decide)⟩,by decide⟩
 ·exact⟨⟨by decide,pw_of _ (by decide)⟩,by decide⟩
theorem mayV_pm {s r p m:Int} {L:List Tk} {th q:List Int} {bs:List Bd} (h:mayV s r L p m th q bs=true):(p=1∨p=2)∧(m=1∨m=2∨m=3∨m=4):=by
 unfold mayV at h
 simp only [Bool.and_eq_true,decide_eq_true_eq,Bool.not_eq_true'] at h
 obtain⟨⟨⟨⟨⟨⟨h0,h1⟩,h2⟩,h3⟩,h4⟩,h5⟩,h6⟩:=h
 omega
theorem mayV_cr {s r p m:Int} {L:List Tk} {th q:List Int} {bs:List Bd} (h:mayV s r L p m th q bs=true):checkE s r L=0∧CrOk th q bs:=by
 obtain⟨h0,⟨h1,h2,h3⟩,h4,h5,h6⟩:=mayV_small h
 exact⟨h0,h4,h1,h5,h2,h6,h3⟩
theorem parseC_cert {s r p m:Int} {L:List Tk} {th q:List Int} {bs:List Bd} (h:mayV s r L p m th q bs=true)
  {As:List (List UInt8)} (hA:∀ b ∈ As,(10:UInt8) ∉ b∧wds b=[]) {Z:List UInt8} (hZ:∀ q i,lnsB q i Z=[]) {u:ByteArray} (hu:u.data.toList=linesB As++((certP s r L p m th q bs).data.toList++Z)) :
  parseC polP modeP u=⟨s,r,L,p,m,th,q,bs,(u.size:Int),0⟩:=by
 obtain⟨h0,hc⟩:=mayV_cr h
 obtain⟨hp,hm⟩:=mayV_pm h
 have a1:=polP_ok hp
 have a2:=modeP_ok hm
 rw [certP_yes h] at hu
 exact parseC_text h0 hc a1.1 a2.1 a1.2 a2.2 (by omega) hA hZ hu
theorem parseC_self {s r p m:Int} {L:List Tk} {th q:List Int} {bs:List Bd} (h:mayV s r L p m th q bs=true) :
  parseC polP modeP (certP s r L p m th q bs)=⟨s,r,L,p,m,th,q,bs,((certP s r L p m th q bs).size:Int),0⟩:=
 parseC_cert h (As:=[]) (fun _ hb=>by cases hb) (Z:=[]) (fun q i=>rfl) (by simp [linesB])
theorem sz_list (a:ByteArray):a.size=a.data.toList.length:=Array.length_toList.symm
theorem join_len (l:List Int) (h:∀ y ∈ l,0≤y∧y≤1099511627776):(joinP l).data.toList.length≤l.length * 22:=by
 have:=joinP_size (l:=l) (fun y hy=>by have:=h y hy;omega)
 rwa [sz_list] at this
theorem certP_size {s r p m:Int} {L:List Tk} {th q:List Int} {bs:List Bd} (h:mayV s r L p m th q bs=true):(certP s r L p m th q bs).size≤230+th.length * 22+q.length * 22+bs.length * 94+(printT s r L).size:=by
 obtain⟨h0,⟨h1,h2,h3⟩,h4,h5,h6⟩:=mayV_small h
 rw [certP_yes h,sz_list,certT_list]
 have a1:=polP_size p
 have a2:=modeP_size m
 rw [sz_list] at a1 a2
 have e1:(crHead (polP p) (modeP m)).length≤214:=by
  unfold crHead
  simp only [List.length_append,List.length_cons,List.length_nil]
  omega
 have e2:(crTheta th).length≤7+th.length * 22:=by
  have:=join_len th (fun y hy=>by have:=h4 y hy;omega)
  unfold crTheta
  split
  ·simp
  ·simp only [List.length_append,List.length_cons,List.length_nil];omega
 have e3:(crQ q).length≤7+q.length * 22:=by
  have:=join_len q (fun y hy=>by have:=h5 y hy;omega)
  unfold crQ
  split
  ·simp
  ·simp only [List.length_append,List.length_cons,List.length_nil];omega
 have e4:∀ l:List Bd,(∀ x ∈ l,x ∈ bs)→(l.flatMap crBound).length≤l.length * 94:=by
  intro l
  induction l with
  |nil=>intro _;simp
  |cons x l ih=>
   intro hl
   have hx:=h6 x (hl x List.mem_cons_self)
   have d0:=qav x.i (by omega) (by omega)
   have d1:=qav x.g (by omega) (by omega)
   have d2:=qav x.t (by omega) (by omega)
   have d3:=qav x.k (by omega) (by omega)
   have i2:=ih (fun y hy=>hl y (List.mem_cons_of_mem _ hy))
   rw [List.flatMap_cons,List.length_append,List.length_cons]
   have:(crBound x).length≤94:=by
    unfold crBound
    simp only [List.length_append,List.length_cons,List.length_nil]
    rw [← sz_list]
    unfold bdW
    have z:(⟨#[32]⟩:ByteArray).size=1:=rfl
    have z0:(⟨#[]⟩:ByteArray).size=0:=rfl
    simp only [ByteArray.size_append]
    omega
   omega
 have e5:=e4 bs (fun _ h=>h)
 simp only [List.length_append]
 rw [← sz_list]
 omega
theorem map_tkTo (l:List Tk):(l.map tkTo).map tkOf=l:=by
 rw [List.map_map];exact (List.map_congr_left (fun _ _=>rfl)).trans (List.map_id' l)
theorem map_bdTo (l:List Bd):(l.map bdTo).map bdOf=l:=by
 rw [List.map_map];exact (List.map_congr_left (fun _ _=>rfl)).trans (List.map_id' l)
theorem sameC_self (s r:Int) (l:List S58) (p m:Int) (th q:List Int) (bs:List S60):sameC s r l p m th q bs s r l p m th q bs=true:=by
 simp [sameC]
theorem awake_f:ostinatolaw21_awake.f=some true:=by
 unfold ostinatolaw21_awake.f
 rw [certPrint_f (by decide),Option.bind_some,Lib.toList_data,certP_yes (by decide),certT_list]
 kernel_rfl
end Go.Proofs.YtgnaaokhfpfglaaGreatDoor.PCertRight
end
section
namespace Go.Proofs.YtgnaaokhfpfglaaGreatDoor.PCertRight
open Go.RowKit Go.Lib Go.Proofs.YtgnaaokhfpfglaaGreatDoorW.PrintWords
theorem rd_nat {L:List Int} {i:Nat} (h:i<L.length):rd L (i:Int)=L[i]:=by
 simp [rd,List.getD_eq_getElem?_getD,List.getElem?_eq_getElem h]
def usE (sets:Int) (us l:List Int):Int:=if us.length≤64∧l.any (farB sets)=false then 0 else 12
theorem rdT_nat {L:List Tk} {i:Nat} (h:i<L.length):qal (L.map tkTo) (i:Int)=tkTo L[i]:=by
 simp [qal,List.getD_eq_getElem?_getD,List.getElem?_eq_getElem h]
def lastI (L:List Tk) (i:Nat):Int:=if h:i - 1<L.length then (if i=0 then 0 else L[i - 1].id) else 0
theorem right_l1 (sets id c d t p:Int) (ch us:List Int) (hl:us.length≤4000000):∀ (n i:Nat),i+n=us.length→Ev (fun k=>ostinatoref05_Right.l1 k sets (i:Int) id c d t p ch us) (usE sets us (us.drop i)):=by
 intro n
 induction n with
 |zero=>
  intro i hi
  obtain rfl:i=us.length:=by omega
  refine Ev.step (fun k=>by rw [ostinatoref05_Right.l1]) (Ev.ifn (by omega) ?_)
  unfold usE
  rw [List.drop_eq_nil_of_le (Nat.le_refl _)]
  by_cases h:us.length≤64
  ·have e:(us.length≤64∧([]:List Int).any (farB sets)=false):=⟨h,rfl⟩
   rw [if_pos e];exact Ev.ifn (by omega) (Ev.now _)
  ·have e:¬ (us.length≤64∧([]:List Int).any (farB sets)=false):=fun e=>h e.1
   rw [if_neg e];exact Ev.ifp (by omega) (Ev.now _)
 |succ n ih=>
  intro i hi
  have hil:i<us.length:=by omega
  have hd:us.drop i=us[i]::us.drop (i+1):=List.drop_eq_getElem_cons hil
  have hr:=rd_nat hil
  have hstep:∀ b:Bool,usE sets us (us.drop i)=if farB sets us[i]=true then 12 else usE sets us (us.drop (i+1)):=by
   intro _
   unfold usE
   rw [hd,List.any_cons]
   cases farB sets us[i] with
   |true=>simp
   |false=>simp
  rw [hstep true]
  refine Ev.step (fun k=>by rw [ostinatoref05_Right.l1,hr]) (Ev.ifp (by omega) (Ev.ifp (by omega) ?_))
  by_cases h1:us[i]<0
  ·rw [if_pos (by unfold farB;exact decide_eq_true (.inl h1))]
   exact Ev.ifp h1 (Ev.now _)
  ·refine Ev.ifn h1 ?_
   by_cases h2:us[i] ≥ sets
   ·rw [if_pos (by unfold farB;exact decide_eq_true (.inr h2))]
    exact Ev.ifp h2 (Ev.now _)
   ·rw [if_neg (by unfold farB;simp;omega)]
    refine Ev.ifn h2 ?_
    rw [qaJ i (by omega)]
    exact ih (i+1) (by omega)
def chE (left sets:Int) (ch us l:List Int):Int:=if chunkFin ch (chunkL left l)=true then usE sets us us else 13
theorem right_l0 (sets id c d t p:Int) (ch us:List Int) (hc:ch.length≤4000000) (hl:us.length≤4000000):∀ (n i:Nat) (left:Int),i+n=ch.length→left≤9223372036854775807→-9223372036854775808≤left→Ev (fun k=>ostinatoref05_Right.l0 k sets left (i:Int) id c d t p ch us) (chE left sets ch us (ch.drop i)):=by
 have hj:∀ b:Bool,Ev (fun k=>ostinatoref05_Right.j3 k sets b id c d t p ch us) (if b=true then 13 else usE sets us us):=by
  intro b
  refine Ev.step (fun k=>by rw [ostinatoref05_Right.j3]) ?_
  cases b with
  |true=>exact Ev.ifp rfl (Ev.now _)
  |false=>exact Ev.ifn (by decide) (by simpa using right_l1 sets id c d t p ch us hl us.length 0 (by omega))
 intro n
 induction n with
 |zero=>
  intro i left hi h1 h2
  obtain rfl:i=ch.length:=by omega
  refine Ev.step (fun k=>by rw [ostinatoref05_Right.l0]) (Ev.ifn (by omega) ?_)
  unfold chE
  rw [List.drop_eq_nil_of_le (Nat.le_refl _)]
  show Ev _ (if (decide (ch.length=0) || (decide (ch.length≤64) && decide (left=0)))=true then usE sets us us else 13)
  by_cases h64:(ch.length:Int) > 64
  ·have e:(decide (ch.length=0) || (decide (ch.length≤64) && decide (left=0)))=false:=by
    rw [decide_eq_false (show ¬ ch.length=0 by omega),decide_eq_false (show ¬ ch.length≤64 by omega)];rfl
   rw [e,if_neg (by decide)]
   exact Ev.ifp h64 (by simpa using hj true)
  ·refine Ev.ifn h64 ?_
   by_cases h0:(ch.length:Int) > 0
   ·refine Ev.ifp h0 ?_
    have h:=hj (left != 0)
    have e:(decide (ch.length=0) || (decide (ch.length≤64) && decide (left=0))) = !(left != 0):=by
     have a1:decide (ch.length=0)=false:=decide_eq_false (by omega)
     have a2:decide (ch.length≤64)=true:=decide_eq_true (by omega)
     rw [a1,a2]
     by_cases hz:left=0<;>simp [hz]
    rw [e]
    cases hb:(left != 0) with
    |true=>rw [hb] at h;simpa using h
    |false=>rw [hb] at h;simpa using h
   ·have e:(decide (ch.length=0) || (decide (ch.length≤64) && decide (left=0)))=true:=by
     rw [decide_eq_true (show ch.length=0 by omega)];rfl
    rw [e,if_pos rfl]
    exact Ev.ifn h0 (by simpa using hj false)
 |succ n ih=>
  intro i left hi h1 h2
  have hil:i<ch.length:=by omega
  have hd:ch.drop i=ch[i]::ch.drop (i+1):=List.drop_eq_getElem_cons hil
  have hr:=rd_nat hil
  refine Ev.step (fun k=>by rw [ostinatoref05_Right.l0,hr]) (Ev.ifp (by omega) (Ev.ifp (by omega) ?_))
  have hstep:chE left sets ch us (ch.drop i)=if 1≤ch[i]∧ch[i]≤left then chE (left - ch[i]) sets ch us (ch.drop (i+1)) else 13:=by
   unfold chE
   rw [hd,chunkL]
   by_cases h:1≤ch[i]∧ch[i]≤left
   ·rw [if_pos h,if_pos h]
   ·rw [if_neg h,if_neg h];rfl
  rw [hstep]
  by_cases ha:ch[i]<1
  ·rw [if_neg (by omega)];exact Ev.ifp ha (Ev.now _)
  ·refine Ev.ifn ha ?_
   by_cases hb:ch[i] > left
   ·rw [if_neg (by omega)];exact Ev.ifp hb (Ev.now _)
   ·rw [if_pos (by omega)]
    refine Ev.ifn hb ?_
    rw [qaJ i (by omega),wrap64_id (by omega) (by omega)]
    exact ih (i+1) (left - ch[i]) (by omega) (by omega) (by omega)
theorem right_f (id c d t p:Int) (ch us:List Int) (sets:Int) (hc:ch.length≤4000000) (hl:us.length≤4000000) (hcc:c≤9223372036854775807):Ev (fun k=>ostinatoref05_Right.f k id c d t p ch us sets) (rightE id c d t p ch us sets):=by
 have hj1:∀ b:Bool,1≤c→Ev (fun k=>ostinatoref05_Right.j1 k sets b id c d t p ch us) (if b=true then 10 else chE c sets ch us ch):=by
  intro b h1
  refine Ev.step (fun k=>by rw [ostinatoref05_Right.j1]) ?_
  cases b with
  |true=>exact Ev.ifp rfl (Ev.now _)
  |false=>exact Ev.ifn (by decide) (by simpa using right_l0 sets id c d t p ch us hc hl ch.length 0 c (by omega) hcc (by omega))
 have hj1':Ev (fun k=>ostinatoref05_Right.j1 k sets true id c d t p ch us) 10:=Ev.step (fun k=>by rw [ostinatoref05_Right.j1]) (Ev.ifp rfl (Ev.now _))
 have hj0t:Ev (fun k=>ostinatoref05_Right.j0 k sets true id c d t p ch us) 1:=Ev.step (fun k=>by rw [ostinatoref05_Right.j0]) (Ev.ifp rfl (Ev.now _))
 have hE:chE c sets ch us ch=if chunksB c ch=true then (if us.length≤64∧us.any (farB sets)=false then 0 else 12) else 13:=rfl
 have hj0f:Ev (fun k=>ostinatoref05_Right.j0 k sets false id c d t p ch us) (if inB c 1 d=true∧inB d 1 t=true∧t≤1073741824 then chE c sets ch us ch else 10):=by
  refine Ev.step (fun k=>by rw [ostinatoref05_Right.j0]) (Ev.ifn (by decide) ?_)
  unfold inB
  simp only [decide_eq_true_eq]
  by_cases h1:c<1
  ·rw [if_neg (by omega)];exact Ev.ifp h1 hj1'
  ·refine Ev.ifn h1 ?_
   by_cases h2:c > d
   ·rw [if_neg (by omega)];exact Ev.ifp h2 hj1'
   ·refine Ev.ifn h2 ?_
    by_cases h3:d > t
    ·rw [if_neg (by omega)];exact Ev.ifp h3 hj1'
    ·refine Ev.ifn h3 ?_
     have h:=hj1 (decide (t > 1073741824)) (by omega)
     by_cases h4:t > 1073741824
     ·rw [if_neg (by omega)];rw [decide_eq_true h4] at h ⊢;simpa using h
     ·rw [if_pos (by omega)];rw [decide_eq_false h4] at h ⊢;simpa using h
 unfold ostinatoref05_Right.f rightE
 rw [← hE]
 have hin:(inB id 1 99=true∧inB p 1 99=true)↔(1≤id∧id≤99)∧(1≤p∧p≤99):=by unfold inB;simp only [decide_eq_true_eq]
 by_cases h1:id<1
 ·rw [if_neg (by rw [hin];omega)];exact Ev.ifp h1 hj0t
 ·refine Ev.ifn h1 ?_
  by_cases h2:id > 99
  ·rw [if_neg (by rw [hin];omega)];exact Ev.ifp h2 hj0t
  ·refine Ev.ifn h2 ?_
   by_cases h3:p<1
   ·rw [if_neg (by rw [hin];omega)];exact Ev.ifp h3 hj0t
   ·refine Ev.ifn h3 ?_
    by_cases h4:p > 99
    ·rw [if_neg (by rw [hin];omega),decide_eq_true h4];exact hj0t
    ·rw [if_pos (by rw [hin];omega),decide_eq_false h4];exact hj0f
theorem rightE_id {x:Tk} {sets:Int} (h:rightE x.id x.c x.d x.t x.p x.ch x.us sets=0):1≤x.id:=by
 unfold rightE at h
 split at h
 ·rename_i h1
  have:=h1.1
  unfold inB at this
  simp at this
  exact this.1
 ·omega
theorem check_l1 (sets rel:Int) (L:List Tk) (hL:L.length≤70000) (V:Int) (i:Nat) (hi:i<L.length) (hV:Ev (fun k=>ostinatoref05_Check.l0 k ((i+1:Nat):Int) sets rel (L.map tkTo)) V):∀ (n j:Nat),j+n=i →
  Ev (fun k=>ostinatoref05_Check.l1 k (i:Int) (j:Int) sets rel (L.map tkTo)) (if L[i].p ∈ ((L.take i).drop j).map (·.p) then 14 else V):=by
 intro n
 induction n with
 |zero=>
  intro j hj
  obtain rfl:j=i:=by omega
  rw [List.drop_eq_nil_of_le (by simp;omega)]
  refine Ev.step (fun k=>by rw [ostinatoref05_Check.l1]) (Ev.ifn (by omega) ?_)
  rw [qaJ j (by omega),if_neg (by simp)]
  exact hV
 |succ n ih=>
  intro j hj
  have hjl:j<L.length:=by omega
  have hjt:j<(L.take i).length:=by simp;omega
  have hd:(L.take i).drop j=L[j]::(L.take i).drop (j+1):=by
   rw [List.drop_eq_getElem_cons hjt];simp
  refine Ev.step (fun k=>by rw [ostinatoref05_Check.l1,rdT_nat hjl,rdT_nat hi]) ?_
  refine Ev.ifp (by omega) (Ev.ifp (by omega) (Ev.ifp (by simp;omega) (Ev.ifp (by omega) (Ev.ifp (by simp;omega) ?_))))
  rw [hd,List.map_cons]
  by_cases he:L[j].p=L[i].p
  ·rw [if_pos (by simp [he])]
   exact Ev.ifp he (Ev.now _)
  ·refine Ev.ifn he ?_
   rw [qaJ j (by omega)]
   have h:=ih (j+1) (by omega)
   have e:(L[i].p ∈ L[j].p::((L.take i).drop (j+1)).map (·.p))↔(L[i].p ∈ ((L.take i).drop (j+1)).map (·.p)):=by
    rw [List.mem_cons]
    exact⟨fun h=>h.elim (fun e=>absurd e.symm he) id,.inr⟩
   by_cases hm:L[i].p ∈ ((L.take i).drop (j+1)).map (·.p)
   ·rw [if_pos (e.2 hm)];rw [if_pos hm] at h;exact h
   ·rw [if_neg (fun x=>hm (e.1 x))];rw [if_neg hm] at h;exact h
theorem check_l0 (sets rel:Int) (L:List Tk) (hL:L.length≤70000) (hb:∀ x ∈ L,x.ch.length≤4000000∧x.us.length≤4000000∧x.c≤9223372036854775807):∀ (n i:Nat),i+n=L.length →
  Ev (fun k=>ostinatoref05_Check.l0 k (i:Int) sets rel (L.map tkTo)) (checkGo sets (lastI L i) ((L.take i).map (·.p)) (L.drop i)):=by
 intro n
 induction n with
 |zero=>
  intro i hi
  obtain rfl:i=L.length:=by omega
  rw [List.drop_eq_nil_of_le (Nat.le_refl _)]
  refine Ev.step (fun k=>by rw [ostinatoref05_Check.l0]) ?_
  exact Ev.ifn (by simp) (Ev.now _)
 |succ n ih=>
  intro i hi
  have hil:i<L.length:=by omega
  have hx:=hb L[i] (List.getElem_mem hil)
  rw [checkGo_step hil]
  have hR:=right_f L[i].id L[i].c L[i].d L[i].t L[i].p L[i].ch L[i].us sets hx.1 hx.2.1 hx.2.2
  have hnext:=ih (i+1) (by omega)
  have hlast:lastI L (i+1)=L[i].id:=by unfold lastI;simp [hil]
  have htk:(L.take (i+1)).map (·.p)=(L.take i).map (·.p)++[L[i].p]:=by rw [List.take_add_one,List.getElem?_eq_getElem hil,List.map_append];rfl
  rw [hlast,htk] at hnext
  have h1:=check_l1 sets rel L hL _ i hil hnext i 0 (by omega)
  rw [List.drop_zero] at h1
  refine Ev.step (fun k=>by rw [ostinatoref05_Check.l0,rdT_nat hil]) ?_
  refine Ev.ifp (by simp;omega) (Ev.ifp (by omega) ?_)
  refine Ev.bind hR ?_
  by_cases hr0:rightE L[i].id L[i].c L[i].d L[i].t L[i].p L[i].ch L[i].us sets=0
  rotate_left
  ·rw [if_neg hr0];exact Ev.ifn hr0 (Ev.now _)
  rw [if_pos hr0]
  refine Ev.ifp hr0 ?_
  have hid:=rightE_id hr0
  have hj2:∀ b:Bool,Ev (fun k=>ostinatoref05_Check.j2 k (i:Int) b sets rel (L.map tkTo)) (if b=true then 10 else if L[i].p ∈ (L.take i).map (·.p) then 14 else checkGo sets L[i].id ((L.take i).map (·.p)++[L[i].p]) (L.drop (i+1))):=by
   intro b
   refine Ev.step (fun k=>by rw [ostinatoref05_Check.j2]) ?_
   cases b with
   |true=>exact Ev.ifp rfl (Ev.now _)
   |false=>exact Ev.ifn (by decide) (by simpa using h1)
  by_cases hi0:i=0
  ·subst hi0
   have hla:lastI L 0=0:=by unfold lastI;split<;>simp
   rw [hla,if_neg (by omega)]
   exact Ev.ifn (by decide) (by simpa using hj2 false)
  ·have hla:lastI L i=(L[i - 1]'(by omega)).id:=by unfold lastI;rw [dif_pos (by omega),if_neg hi0]
   have hw:wrap64 ((i:Int) - 1)=((i - 1:Nat):Int):=by rw [wrap64_id (by omega) (by omega)];omega
   rw [hla]
   refine Ev.ifp (by omega) (Ev.congr (fun k=>by rw [hw,rdT_nat (show i - 1<L.length by omega)]) (Ev.ifp (by omega) (Ev.ifp (by simp;omega) ?_)))
   have h:=hj2 (decide (L[i].id≤(L[i - 1]'(by omega)).id))
   by_cases hle:L[i].id≤(L[i - 1]'(by omega)).id
   ·rw [if_pos hle];rw [decide_eq_true hle] at h;rw [if_pos rfl] at h
    show Ev (fun n=>ostinatoref05_Check.j2 n (i:Int) (decide ((tkTo L[i]).f0≤(tkTo (L[i - 1]'(by omega))).f0)) sets rel (L.map tkTo)) 10
    rw [show decide ((tkTo L[i]).f0≤(tkTo (L[i - 1]'(by omega))).f0)=true from decide_eq_true hle]
    exact h
   ·rw [if_neg hle];rw [decide_eq_false hle] at h;rw [if_neg (by decide)] at h
    show Ev (fun n=>ostinatoref05_Check.j2 n (i:Int) (decide ((tkTo L[i]).f0≤(tkTo (L[i - 1]'(by omega))).f0)) sets rel (L.map tkTo)) _
    rw [show decide ((tkTo L[i]).f0≤(tkTo (L[i - 1]'(by omega))).f0)=false from decide_eq_false hle]
    exact h
theorem check_f (sets rel:Int) (L:List Tk) (hL:L.length≤70000) (hb:∀ x ∈ L,x.ch.length≤4000000∧x.us.length≤4000000∧x.c≤9223372036854775807):Ev (fun k=>ostinatoref05_Check.f k sets rel (L.map tkTo)) (checkE sets rel L):=by
 have ht:Ev (fun k=>ostinatoref05_Check.j0 k true sets rel (L.map tkTo)) 1:=Ev.step (fun k=>by rw [ostinatoref05_Check.j0]) (Ev.ifp rfl (Ev.now _))
 have h0:=check_l0 sets rel L hL hb L.length 0 (by omega)
 have hla:lastI L 0=0:=by unfold lastI;split<;>simp
 rw [hla,List.take_zero,List.drop_zero] at h0
 have hf:Ev (fun k=>ostinatoref05_Check.j0 k false sets rel (L.map tkTo)) (if L.length≤64 then checkGo sets 0 [] L else 15):=by
  refine Ev.step (fun k=>by rw [ostinatoref05_Check.j0]) (Ev.ifn (by decide) ?_)
  by_cases h:L.length≤64
  ·rw [if_pos h];exact Ev.ifn (by simp;omega) (by simpa using h0)
  ·rw [if_neg h];exact Ev.ifp (by simp;omega) (Ev.now _)
 unfold ostinatoref05_Check.f checkE
 have hin:(inB sets 0 256=true∧inB rel 0 1000=true∧L.length≠0)↔(0≤sets∧sets≤256)∧(0≤rel∧rel≤1000)∧L.length≠0:=by unfold inB;simp only [decide_eq_true_eq]
 by_cases h1:sets<0
 ·rw [if_neg (by rw [hin];omega)];exact Ev.ifp h1 ht
 ·refine Ev.ifn h1 ?_
  by_cases h2:sets > 256
  ·rw [if_neg (by rw [hin];omega)];exact Ev.ifp h2 ht
  ·refine Ev.ifn h2 ?_
   by_cases h3:rel<0
   ·rw [if_neg (by rw [hin];omega)];exact Ev.ifp h3 ht
   ·refine Ev.ifn h3 ?_
    by_cases h4:rel > 1000
    ·rw [if_neg (by rw [hin];omega)];exact Ev.ifp h4 ht
    ·refine Ev.ifn h4 ?_
     by_cases h5:L.length=0
     ·rw [if_neg (by rw [hin];omega)]
      have e:(((L.map tkTo).length:Int) == 0)=true:=by simp [h5]
      rw [e];exact ht
     ·rw [if_pos (by rw [hin];omega)]
      have e:(((L.map tkTo).length:Int) == 0)=false:=by simpa using h5
      rw [e];exact hf
end Go.Proofs.YtgnaaokhfpfglaaGreatDoor.PCertRight
end
section
set_option linter.unusedVariables false
namespace Go.Proofs.YtgnaaokhfpfglaaGreatDoor.PCertRight
open Go.RowKit Go.Lib Go.Proofs.YtgnaaokhfpfglaaGreatDoorW.PrintWords
theorem short_f (a:ByteArray):∃ s:ByteArray,ostinatolaw21_short.f a 160=some s∧s.size≤160:=by
 unfold ostinatolaw21_short.f
 by_cases h:(a.size:Int) > 160
 ·refine⟨a.extract 0 160,?_,by rw [ByteArray.size_extract];omega⟩
  rw [if_pos h,if_pos (by decide),if_pos (by omega)]
  rfl
 ·exact⟨a,by rw [if_neg h],by omega⟩
theorem pure_CertRight (a0:ByteArray) (ok0_:a0.size≤maxLen):∃ k,ostinatolaw21_CertRight.f k a0=some true:=by
 obtain⟨s,hs,hz⟩:=short_f a0
 refine Ev.rounds (r:=true) ?_
 unfold ostinatolaw21_CertRight.f
 refine Ev.bindS awake_f ?_
 refine Ev.bindS hs ?_
 rcases parseC_says polP modeP s (by omega) with ⟨S,R,L,p,m,th,q,bs,h1,h2,h3,hp,hm,hf⟩|⟨z,e,h1,h2,h3,h4⟩
 ·have hmay:=mayV_mk h2 h3 hp hm
  have hb:=checkE_each h2
  have hbb:∀ x ∈ L,x.ch.length≤4000000∧x.us.length≤4000000∧x.c≤9223372036854775807:=fun x hx=>by have:=hb x hx;omega
  have hself:=parseC_self hmay
  have hz2:=certP_size hmay
  have hpz:(printT S R L).size≤45000:=by
   have hs:=checkE_small h2
   have a1:=headT_size S R hs.1 hs.2.1
   have a2:=goT_size L (headT S R)
   unfold printT
   omega
  have l1:=h3.th2
  have l2:=h3.q2
  have l3:=h3.b2
  have hsz:(certP S R L p m th q bs).size≤65536:=by omega
  have hne:¬ (certP S R L p m th q bs).toList=([]:List UInt8):=by rw [certP_yes hmay];exact certT_ne _ _ _ _ _ _
  have p1:cert_Parse.f s=some (S,R,L.map tkTo,p,m,th,q,bs.map bdTo,(s.size:Int),0):=by
   unfold cert_Parse.f
   rw [if_pos (by omega),h1]
  have e1:=certPrint_f (s:=S) (r:=R) (p:=p) (m:=m) (crtOk_ck h2 (th:=th) (q:=q) (bs:=bs.map bdTo) (by omega) (by omega) (by omega) (by rw [List.length_map];omega))
  rw [map_tkTo,map_bdTo] at e1
  have p2:cert_Parse.f (certP S R L p m th q bs)=some (S,R,L.map tkTo,p,m,th,q,bs.map bdTo,((certP S R L p m th q bs).size:Int),0):=by
   unfold cert_Parse.f
   rw [if_pos hsz,hself]
  have hS:=certSame_f S R (L.map tkTo) p m th q (bs.map bdTo) S R (L.map tkTo) p m th q (bs.map bdTo) (by rw [List.length_map];omega) (fun x hx=>by
   obtain⟨y,hy,rfl⟩:=List.mem_map.1 hx
   exact⟨(hbb y hy).1,(hbb y hy).2.1⟩) (by omega) (by omega) (by rw [List.length_map];omega)
  rw [sameC_self] at hS
  generalize certP S R L p m th q bs=t at *
  refine Ev.bindS p1 ?_
  refine Ev.ifp rfl ?_
  refine Ev.bindS e1 (Ev.bindS p2 (Ev.ifp rfl (Ev.ifp rfl (Ev.ifn hne (Ev.ifp rfl ?_)))))
  refine Ev.bind hS (Ev.ifp rfl ?_)
  refine Ev.bind (check_f S R L (by omega) hbb) ?_
  rw [h2]
  exact Ev.now true
 ·have p1:cert_Parse.f s=some (0,0,[],0,0,[],[],[],z,e):=by
   unfold cert_Parse.f
   rw [if_pos (by omega),h1]
   rfl
  refine Ev.bindS p1 ?_
  refine Ev.ifn h2 ?_
  exact Ev.ifp rfl (Ev.ifp h3 (Ev.ifp h4 (Ev.ifp (by simp [wrap64]) (Ev.now true))))
end Go.Proofs.YtgnaaokhfpfglaaGreatDoor.PCertRight
end
section
namespace Go.Proofs.YtgnaaokhfpfglaaGreatDoor
open Go.ChangeShapes Go.WideShapes Go.ChangeAt Go.RowKit
theorem laid_met (os:Os) (args:Array Value):laidMetH Tryz.prog Rows.certRightRow.laid ((World.laidAll Tryz.prog os Rows.certRightRow.laid).forCall (fun _ _=>0) ⟨#[],args,[]⟩).memory:=by
 rw [MakeChecks.laidMetH_plain _ _ _ (by kernel_rfl)]
 exact laidMet_laidAll _ (by kernel_rfl) (by kernel_rfl)
theorem handed_laid {H:Type} {enc:TypeId × Value→H} {C:Checked} {os:Os} {f:FuncId} {fn:Func} {s:ChangeSpec} {l:List (String × DataW Unit)}
  (own:ownKnob C.prog.godebug=none) (started:os.Started) (noInit:C.prog.inits.idxOf? f=none) (hfn:C.prog.funcs[f]? = some fn)
  (witness:∃ (w:World) (tape:Tape) (i:Input),w.os=os∧(w.forCall tape i).Shaped C.prog∧i.vars=[]∧Input.okWide C.prog (w.forCall tape i) .any w.heap.size f i ∧
   ((s.pre enc C.prog fn [] false (w.forCall tape i).memory i.args∧laidMetH C.prog l (w.forCall tape i).memory)∧sizedMet enc C.prog fn (OpenSpec.ofChange s) false (w.forCall tape i).memory i.args)∧({}:Assume).holds C.prog (lone (Frame.enter C.prog f i.args .normal) [] (w.forCall tape i)))
  (contract:∀ (W:World) (base:Nat) (args:Array Value) (ds gs:List (DataW H)) (before:List MemPlace),
   (∀ (j:Nat) t v,fn.params[j]? = some t→args[j]? = some v→Value.okWide C.prog W .any base t v) →
   DataW.Whole enc C.prog fn.params.toList s.vars false W args.toList ds gs before→laidMetH C.prog l W→W.ShapedOpen C.prog →
   Calls C.prog f args W fun e W'=>∃ v,e=.returned v∧s.post enc C.prog fn false true false false W args v W') :
  ReturnsInHanded {} C os f .any (fun w args=>(s.pre enc C.prog fn [] false w args∧laidMetH C.prog l w)∧sizedMet enc C.prog fn (OpenSpec.ofChange s) false w args) (s.post enc C.prog fn false true false false):=by
 refine returnsInHanded_of_calls own started noInit witness ?_
 intro w tape i _ hsh _ hok hpre _
 obtain⟨_,_,_,fn',hfn',_,_,_,_,hval⟩:=hok
 obtain rfl:fn' = fn:=Option.some.inj (hfn'.symm.trans hfn)
 obtain⟨⟨⟨ds,gs,before,hw,_⟩,hl⟩,_⟩:=hpre
 have hw':=DataW.Whole.of_heap (w':=w.forCall tape i) (by rfl) hw
 refine (contract (w.forCall tape i) w.heap.size i.args ds gs before hval hw' (laidMetH.of_heap (by rfl) hl) hsh).mono fun e W' ⟨v,he,hp⟩=>?_
 subst he
 exact ChangeSpec.post_blind hp
end Go.Proofs.YtgnaaokhfpfglaaGreatDoor
end
section
namespace Go.Proofs.YtgnaaokhfpfglaaGreatDoor
open Go.RowKit
theorem tab_of_laid {W:World} (h:laidMetH Tryz.prog Rows.certRightRow.laid W):Lib.TabIs Tryz.prog W "internal/strconv.uint64pow10" .u64 Lib.pow10Tab:=by
 rw [MakeChecks.laidMetH_plain _ _ _ (by kernel_rfl)] at h
 have hm:("internal/strconv.uint64pow10",Rows.laid_internal_strconv_uint64pow10) ∈ Rows.certRightRow.laid:=by
  unfold Rows.certRightRow
  simp
 obtain⟨g,t,cs,fuel,p,hg,ht,hv,hd⟩:=Lib.laidMet.reads h hm
 have hg0:Tryz.prog.globalNamed "internal/strconv.uint64pow10" = some 1:=by kernel_rfl
 obtain rfl:=Option.some.inj (hg0.symm.trans hg)
 have e:(Rows.laid_internal_strconv_uint64pow10:DataW Unit)=Lib.tabData .u64 Lib.pow10Tab:=by kernel_rfl
 rw [e] at hd
 have hty:(Tryz.prog.globals[1]?).map (·.type)=some 214:=by kernel_rfl
 obtain rfl:=Option.some.inj (hty.symm.trans ht)
 unfold Lib.TabIs
 rw [hv,← Lib.cells_of_tab Tryz.underlying214 Tryz.underlying105 (by kernel_rfl) (by kernel_rfl) hd]
end Go.Proofs.YtgnaaokhfpfglaaGreatDoor
end
