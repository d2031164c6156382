/- Texts of this claim, one behind the other: PCertTold3, PCertTold4, PCertTold5. -/
import Derived.Test.YtgnaaokhfpfglaaDoorZCertTold1
import Derived.Test.YtgnaaokhfpfglaaDoorZCertTold2

set_option maxHeartbeats 8000000
set_option maxRecDepth 100000
set_option linter.unusedVariables false
set_option linter.unusedSimpArgs false
section
namespace Go.Proofs.YtgnaaokhfpfglaaDoor.PCertTold
open Go.RowKit Go.Proofs.YtgnaaokhfpfglaaDoorW.PrintWords Go.Proofs.YtgnaaokhfpfglaaDoorW.PrintLast Go.Proofs.YtgnaaokhfpfglaaDoorW.PrintMore
attribute [local go_sem] qaW qaU qa3 qa2 qaN qaM qaV qaT
set_option linter.unusedVariables false
set_option linter.unusedSimpArgs false
noncomputable section
theorem c_of_four {W:World} {ρ:Nat} {a b c d:Int} (h:W.heap[ρ]? = some (.cells #[.int .i64 a,.int .i64 b,.int .i64 c,.int .i64 d] 2 (0,0))):Kd.C (Kd.int .i64) W (some ⟨ρ,0,none⟩) [a,b,c,d].length [a,b,c,d]:=by
 have h0:=cell_of_row W ρ 0 _ _ _ h
 have h1:=cell_of_row W ρ 1 _ _ _ h
 have h2:=cell_of_row W ρ 2 _ _ _ h
 have h3:=cell_of_row W ρ 3 _ _ _ h
 refine⟨rfl,by simp,fun _=>⟨_,rfl,fun j p hj=>⟨[.int .i64 p],rfl,rfl,fun i u hu=>?_⟩⟩⟩
 have hi:i=0:=by have:=(List.getElem?_eq_some_iff.1 hu).1;simp at this;omega
 subst hi
 obtain rfl:Value.int .i64 p=u:=by simpa using hu
 have hjl:j<4:=(List.getElem?_eq_some_iff.1 hj).1
 have hjs:j=0∨j=1∨j=2∨j=3:=by omega
 rcases hjs with rfl|rfl|rfl|rfl<;>(cases hj;first|exact h0|exact h1|exact h2|exact h3)
theorem long_l0 (l:List Int) (hl:l.length≤4000000):∀ (d i:Nat),i+d=l.length→Ev (fun k=>cert_long.l0 k (l.take i) l (l.length:Int) (i:Int)) l:=by
 intro d
 induction d with
 |zero=>
  intro i hi
  refine Ev.step (fun k=>by rw [cert_long.l0]) (Ev.ifn (by omega) ?_)
  rw [List.take_of_length_le (by omega)]
  exact Ev.now _
 |succ d ih=>
  intro i hi
  refine Ev.step (fun k=>by rw [cert_long.l0]) (Ev.ifp (by omega) (Ev.ifp (by omega) (Ev.ifp (by omega) (Ev.ifp (by rw [List.length_take];omega) ?_))))
  rw [qaD i (by omega),qaL l i (by omega)]
  have:=ih (i+1) (by omega)
  rw [List.take_add_one,List.getElem?_eq_getElem (by omega)] at this
  exact this
theorem long_is (l:List Int) (hl:l.length≤4000000):Ev (fun k=>cert_long.f k l) l:=by
 have:=long_l0 l hl l.length 0 (by omega)
 exact Ev.congr (fun k=>by unfold cert_long.f;rfl) this
theorem words_is (x:Bd) (h:i64B x.i=true∧i64B x.g=true∧i64B x.t=true∧i64B x.k=true):Ev (fun k=>cert_words.f k [x.i,x.g,x.t,x.k]) (bdW x):=by
 obtain⟨h0,h1,h2,h3⟩:=h
 have d0:=qaG x.i (i64B_iff.1 h0).1 (i64B_iff.1 h0).2
 have d1:=qaG x.g (i64B_iff.1 h1).1 (i64B_iff.1 h1).2
 have d2:=qaG x.t (i64B_iff.1 h2).1 (i64B_iff.1 h2).2
 have d3:=qaG x.k (i64B_iff.1 h3).1 (i64B_iff.1 h3).2
 have z:(⟨#[32]⟩:ByteArray).size=1:=rfl
 have z0:(⟨#[]⟩:ByteArray).size=0:=rfl
 have hd:∀ n,i64B n=true→lex_Digits.f n=some (digB n):=fun n hn=>by unfold lex_Digits.f;rw [if_pos hn];rfl
 show Ev (fun k=>cert_words.l0 k (⟨#[]⟩:ByteArray) [x.i,x.g,x.t,x.k] (([x.i,x.g,x.t,x.k]:List Int).length:Int) 0) (bdW x)
 refine Ev.step (fun k=>by rw [cert_words.l0]) (Ev.ifp (by simp [wrap64]) (Ev.ifp (by simp [wrap64]) (Ev.ifp (by simp [wrap64]) (Ev.bindS (by simpa [rd,wrap64] using hd x.i h0) ?_))))
 refine Ev.ifp (by omega) (Ev.ifp (by rw [ByteArray.size_append];omega) ?_)
 refine Ev.step (fun k=>by rw [cert_words.l0]) (Ev.ifp (by simp [wrap64]) (Ev.ifp (by simp [wrap64]) (Ev.ifp (by simp [wrap64]) (Ev.bindS (by simpa [rd,wrap64] using hd x.g h1) ?_))))
 refine Ev.ifp (by omega) (Ev.ifp (by simp only [ByteArray.size_append];omega) ?_)
 refine Ev.step (fun k=>by rw [cert_words.l0]) (Ev.ifp (by simp [wrap64]) (Ev.ifp (by simp [wrap64]) (Ev.ifp (by simp [wrap64]) (Ev.bindS (by simpa [rd,wrap64] using hd x.t h2) ?_))))
 refine Ev.ifp (by omega) (Ev.ifp (by simp only [ByteArray.size_append];omega) ?_)
 refine Ev.step (fun k=>by rw [cert_words.l0]) (Ev.ifp (by simp [wrap64]) (Ev.ifp (by simp [wrap64]) (Ev.ifp (by simp [wrap64]) (Ev.bindS (by simpa [rd,wrap64] using hd x.k h3) ?_))))
 refine Ev.ifp (by omega) (Ev.ifp (by simp only [ByteArray.size_append];omega) ?_)
 refine Ev.step (fun k=>by rw [cert_words.l0]) ?_
 refine Ev.ifn (by simp [wrap64]) ?_
 exact Ev.now _
theorem mayV_small {s r p m:Int} {L:List Tk} {th q:List Int} {bs:List Bd} (h:mayV s r L p m th q bs=true):checkE s r L=0∧(th.length≤64∧q.length≤64∧bs.length≤64)∧(∀ x ∈ th,0≤x∧x≤99)∧(∀ x ∈ q,0≤x∧x≤1073741824)∧∀ x ∈ bs,(0≤x.i∧x.i≤99)∧(0≤x.g∧x.g≤1099511627776)∧(0≤x.t∧x.t≤1099511627776)∧(0≤x.k∧x.k≤1099511627776):=by
 unfold mayV at h
 simp only [Bool.and_eq_true,decide_eq_true_eq,Bool.not_eq_true'] at h
 obtain⟨⟨⟨⟨⟨⟨h0,_⟩,_⟩,h3⟩,h4⟩,h5⟩,h6⟩:=h
 refine⟨h0,h3,?_,?_,?_⟩
 ·intro x hx
  have:=List.all_eq_true.1 h4 x hx
  exact of_decide_eq_true this
 ·intro x hx
  have:=List.all_eq_true.1 h5 x hx
  exact of_decide_eq_true this
 ·intro x hx
  have h7:=List.any_eq_false.1 h6 x hx
  simp [wrongB,inA] at h7
  omega
noncomputable def certP (s r:Int) (L:List Tk) (p m:Int) (th q:List Int) (bs:List Bd):ByteArray:=if mayV s r L p m th q bs=true then certT (polP p) (modeP m) th q bs (printT s r L) else ⟨#[]⟩
noncomputable def cert_Print.f (af ag:Int) (aa:List S53) (ah ai:Int) (ab ac:List Int) (ae:List S49):Option ByteArray:=if crtOk aa ab ac ae=true then some (certP af ag (aa.map tkOf) ah ai ab ac (ae.map bdOf)) else none
theorem cert_Print.calls (ab:Int) (ac:Int) (A0_2:Option Addr) (c0_2:Nat) (aa:List S53) (af:Int) (ag:Int) (A0_5:Option Addr) (c0_5:Nat) (ae:List Int) (A0_6:Option Addr) (c0_6:Nat) (ai:List Int) (A0_7:Option Addr) (c0_7:Nat) (ah:List S49) (r:ByteArray) (w:World) (hr0_2:Kd.C k53 w A0_2 aa.length aa) (hc0_2:aa.length≤c0_2) (hr0_5:Kd.C (Kd.int .i64) w A0_5 ae.length ae) (hc0_5:ae.length≤c0_5) (hr0_6:Kd.C (Kd.int .i64) w A0_6 ai.length ai) (hc0_6:ai.length≤c0_6) (hr0_7:Kd.C k49 w A0_7 ah.length ah) (hc0_7:ah.length≤c0_7) (h:cert_Print.f ab ac aa af ag ae ai ah=some r) (hT:Tabs w) :
  Calls Tryd.prog 15 #[.agg #[.int .i64 ab,.int .i64 ac,.slice A0_2 aa.length c0_2,.int .i64 af,.int .i64 ag,.slice A0_5 ae.length c0_5,.slice A0_6 ai.length c0_6,.slice A0_7 ah.length c0_7]] w fun e w'=>e=.returned (.string r)∧Below w.heap.size w w':=by
 unfold cert_Print.f at h
 split at h
 ·rename_i h1
  obtain rfl:=Option.some.inj h
  have h1':=h1
  unfold crtOk at h1
  simp only [Bool.and_eq_true,decide_eq_true_eq] at h1
  obtain⟨hk,h5,h6,h7⟩:=h1
  have HM:cert_may.f ab ac aa af ag ae ai ah=some (mayV ab ac (aa.map tkOf) af ag ae ai (ah.map bdOf)):=by unfold cert_may.f;rw [if_pos h1']
  have HMay:∀ W,Below w.heap.size w W→Calls Tryd.prog 26 #[.agg #[.int .i64 ab,.int .i64 ac,.slice A0_2 aa.length c0_2,.int .i64 af,.int .i64 ag,.slice A0_5 ae.length c0_5,.slice A0_6 ai.length c0_6,.slice A0_7 ah.length c0_7]] W fun e w'=>e=.returned (.bool (mayV ab ac (aa.map tkOf) af ag ae ai (ah.map bdOf)))∧Below W.heap.size W w':=fun W hW=>
   cert_may.calls ab ac A0_2 c0_2 aa af ag A0_5 c0_5 ae A0_6 c0_6 ai A0_7 c0_7 ah _ W (Kd.C_below hr0_2 hW) hc0_2 (Kd.C_below hr0_5 hW) hc0_5 (Kd.C_below hr0_6 hW) hc0_6 (Kd.C_below hr0_7 hW) hc0_7 HM
  unfold certP
  cases hm:mayV ab ac (aa.map tkOf) af ag ae ai (ah.map bdOf) with
  |false=>
   rw [hm] at HMay
   exact certPrint_no ab ac af ag A0_2 _ c0_2 A0_5 _ c0_5 A0_6 _ c0_6 A0_7 _ c0_7 w HMay
  |true=>
   rw [hm] at HMay
   rw [if_pos rfl]
   obtain⟨g0,⟨g5,g6,g7⟩,b5,b6,b7⟩:=mayV_small hm
   have aj:∀ x ∈ ah.map bdOf,i64B x.i=true∧i64B x.g=true∧i64B x.t=true∧i64B x.k=true:=fun x hx=>by
    have:=b7 x hx
    simp only [i64B_iff]
    omega
   have hprn:parse_Print.f ab ac aa=some (printT ab ac (aa.map tkOf)):=by
    unfold parse_Print.f
    rw [if_pos (show prnOk aa=true from hk),if_pos g0]
   have hps:(printT ab ac (aa.map tkOf)).size≤10000000:=by
    obtain⟨c0,c1,c2,c3⟩:=checkE_small g0
    have h1:=goT_size (aa.map tkOf) (headT ab ac)
    have h2:=headT_size ab ac c0 c1
    unfold printT
    omega
   obtain⟨kl,hkl⟩:=(long_is ae h5)
   have:=certPrint_yes ab ac af ag A0_2 aa.length c0_2 A0_5 c0_5 ae A0_6 c0_6 ai A0_7 c0_7 (ah.map bdOf) w (polP af) (modeP ag) (printT ab ac (aa.map tkOf)) (polP_size _) (modeP_size _) hps ⟨g5,fun x hx=>by have:=b5 x hx;omega⟩ ⟨g6,fun x hx=>by have:=b6 x hx;omega⟩ ⟨g7,fun x hx=>by
     have q:=aj x hx
     simp only [i64B_iff] at q
     have d0:=qaG x.i q.1.1 q.1.2
     have d1:=qaG x.g q.2.1.1 q.2.1.2
     have d2:=qaG x.t q.2.2.1.1 q.2.2.1.2
     have d3:=qaG x.k q.2.2.2.1 q.2.2.2.2
     have z:(⟨#[32]⟩:ByteArray).size=1:=rfl
     have z0:(⟨#[]⟩:ByteArray).size=0:=rfl
     unfold bdW
     simp only [ByteArray.size_append]
     omega⟩ (by rw [List.length_map];exact HMay)
    (fun W=>(cert_Policy.calls af _ W (pol_is af)).mono (fun e w' h=>⟨h.1,drawn_below h.2⟩))
    (fun W=>(cert_Mode.calls ag _ W (mode_is ag)).mono (fun e w' h=>⟨h.1,drawn_below h.2⟩))
    (fun W hW=>(cert_long.calls kl A0_5 c0_5 ae ae W (Kd.C_below hr0_5 hW) hc0_5 (hkl kl (Nat.le_refl _))).mono (fun e w' h=>by
     obtain⟨v,rfl,hR,hb⟩:=h
     obtain⟨A,c,rfl,hl,hC⟩:=Kd.R_reads hR
     exact⟨⟨A,c,rfl,nrow_of_C hC⟩,hb⟩))
    (fun x hx ρ W hρ hW=>by
     obtain⟨kw,hkw⟩:=words_is x (aj x hx)
     exact cert_words.calls kw (some ⟨ρ,0,none⟩) 4 [x.i,x.g,x.t,x.k] _ W (c_of_four hρ) (by simp) (hkw kw (Nat.le_refl _)) (Tabs.below hT hW))
    (fun W hW=>parse_Print.calls ab ac A0_2 c0_2 aa _ W (Kd.C_below hr0_2 hW) hc0_2 hprn (Tabs.below hT hW))
    (nrow_of_C hr0_6) (bdrow_of_C hr0_7) hT.1.1.1 hT.1.1.2
   rw [List.length_map] at this
   exact this
 ·cases h
def ostinatolaw21_awake.f:Option (Bool):=(cert_Print.f 0 0 (([(⟨2,1,3,3,1,([]:List Int),([]:List Int)⟩:S53)]:List (S53))) 1 1 ([]:List Int) ([]:List Int) (([(⟨2,3,1,9⟩:S49)]:List (S49)))).bind fun aa=>(some (aa.toList == ([99,101,114,116,105,102,105,99,97,116,101,32,101,100,102,32,102,117,108,108,10,98,111,117,110,100,32,50,32,51,32,49,32,57,10,99,97,99,104,101,32,48,32,48,10,116,97,115,107,32,50,32,99,61,49,32,100,61,51,32,116,61,51,32,112,61,49,10]:List UInt8)))
theorem ostinatolaw21_awake.calls  (r:Bool) (w:World) (h:ostinatolaw21_awake.f=some r) (hT:Tabs w) :
  Calls Tryd.prog 5 #[] w fun e w'=>e=.returned (.bool r)∧Below w.heap.size w w':=by
 have bg:=Tryd.underlying53
 have bh:=Tryd.underlying33
 have bi:=Tryd.underlying36
 have bj:=Tryd.underlying49
 have bm:=Tryd.underlying39
 have HB:=qaa.mk (Below.refl w.heap.size w)
 have H:((cert_Print.f 0 0 (([(⟨2,1,3,3,1,([]:List Int),([]:List Int)⟩:S53)]:List (S53))) 1 1 ([]:List Int) ([]:List Int) (([(⟨2,3,1,9⟩:S49)]:List (S49)))).bind fun ah=>(some (ah.toList == ([99,101,114,116,105,102,105,99,97,116,101,32,101,100,102,32,102,117,108,108,10,98,111,117,110,100,32,50,32,51,32,49,32,57,10,99,97,99,104,101,32,48,32,48,10,116,97,115,107,32,50,32,99,61,49,32,100,61,51,32,116,61,51,32,112,61,49,10]:List UInt8))))=some r:=h
 clear h
 have HT:=qaa.mk hT
 clear hT
 obtain⟨ab,ai⟩:∃ y_:List (S53),y_=(([(⟨2,1,3,3,1,([]:List Int),([]:List Int)⟩:S53)]:List (S53))):=⟨_,rfl⟩
 replace H:((cert_Print.f 0 0 ab 1 1 ([]:List Int) ([]:List Int) (([(⟨2,3,1,9⟩:S49)]:List (S49)))).bind fun ah=>(some (ah.toList == ([99,101,114,116,105,102,105,99,97,116,101,32,101,100,102,32,102,117,108,108,10,98,111,117,110,100,32,50,32,51,32,49,32,57,10,99,97,99,104,101,32,48,32,48,10,116,97,115,107,32,50,32,99,61,49,32,100,61,51,32,116,61,51,32,112,61,49,10]:List UInt8))))=some r:=by first|(rw [ai];with_reducible exact H)|(have ap:=(Option.bind_some _ _).symm.trans H;rw [ai];with_reducible exact ap)|(have ap:=(Option.bind_some _ _).symm.trans H;with_reducible exact ap)|with_reducible exact H|(rw [ai];exact H)|exact H
 have am:=qaa.mk ai
 clear ai
 obtain⟨ag,aj⟩:∃ y_:List (S49),y_=(([(⟨2,3,1,9⟩:S49)]:List (S49))):=⟨_,rfl⟩
 replace H:((cert_Print.f 0 0 ab 1 1 ([]:List Int) ([]:List Int) ag).bind fun ah=>(some (ah.toList == ([99,101,114,116,105,102,105,99,97,116,101,32,101,100,102,32,102,117,108,108,10,98,111,117,110,100,32,50,32,51,32,49,32,57,10,99,97,99,104,101,32,48,32,48,10,116,97,115,107,32,50,32,99,61,49,32,100,61,51,32,116,61,51,32,112,61,49,10]:List UInt8))))=some r:=by first|(rw [aj];with_reducible exact H)|(have ap:=(Option.bind_some _ _).symm.trans H;rw [aj];with_reducible exact ap)|(have ap:=(Option.bind_some _ _).symm.trans H;with_reducible exact ap)|with_reducible exact H|(rw [aj];exact H)|exact H
 have an:=qaa.mk aj
 clear aj
 replace H:=Option.bind_eq_some_iff.mp H
 obtain⟨ah,be,H⟩:=H
 replace H:(some (ah.toList == ([99,101,114,116,105,102,105,99,97,116,101,32,101,100,102,32,102,117,108,108,10,98,111,117,110,100,32,50,32,51,32,49,32,57,10,99,97,99,104,101,32,48,32,48,10,116,97,115,107,32,50,32,99,61,49,32,100,61,51,32,116,61,51,32,112,61,49,10]:List UInt8)))=some r:=H
 have A1:=qaa.mk be
 clear be
 obtain rfl:=Option.some.inj H
 go_enter Tryd.func5,Tryd.ntmps5
 go_wp2_with (first|((with_reducible refine qap (N:=3) rfl ?_);refine Kd.S_lit k53 _ 53 ?hg (N:=3) ?hd (xs:=([(⟨2,1,3,3,1,([]:List Int),([]:List Int)⟩:S53)]:List (S53))) (inner:=[.int .i64 2,.int .i64 1,.int .i64 3,.int .i64 3,.int .i64 1,.slice none 0 0,.slice none 0 0]) (ok:=fun _=>True) (okp:=fun _=>True) ?hr ?hp (fun _ hk=>hk) trivial (Below.refl _ _) (Nat.le_refl _) (by simp) ?_;(case hd=>rfl);(case hg=>rfl);(case hr=>first|(go_simp;done)|(go_simp;rfl));(case hp=>exact (Reps.c7 (show Kd.M k53 _ _ _ (⟨2,1,3,3,1,([]:List Int),([]:List Int)⟩:S53) [.int .i64 2,.int .i64 1,.int .i64 3,.int .i64 3,.int .i64 1,.slice none 0 0,.slice none 0 0] from (k53_mkM _ _ _ (⟨2,1,3,3,1,([]:List Int),([]:List Int)⟩:S53) (Kd.R_nil _ _ _ _ _) (Kd.R_nil _ _ _ _ _))) (Reps.none _ _)));intro bn w2 au hb hg_ hnew_;clear hg_ hnew_;(first|rw [← am.out] at au|(simp only [Int.reduceToNat] at au;rw [← am.out] at au));have ac:=qaa.mk (Kd.S_lower au (qac sB));replace HB:=qaa.mk (qai sB hb);clear hb au;obtain⟨al,ak,bp⟩:=Kd.S_slice ac.out;subst bp)|((with_reducible refine qap (N:=7) rfl ?_);refine Kd.R_lit k49 _ 49 ?hg (N:=7) ?hd (xs:=([(⟨2,3,1,9⟩:S49)]:List (S49))) (inner:=[.int .i64 2,.int .i64 3,.int .i64 1,.int .i64 9]) (ok:=fun _=>True) (okp:=fun _=>True) ?hr ?hp (fun _ hk=>hk) trivial (Below.refl _ _) (Nat.le_refl _) (by simp) ?_;(case hd=>rfl);(case hg=>rfl);(case hr=>first|(go_simp;done)|(go_simp;rfl));(case hp=>exact (Reps.c4 (show Kd.M k49 _ _ _ (⟨2,3,1,9⟩:S49) [.int .i64 2,.int .i64 3,.int .i64 1,.int .i64 9] from (k49_mkM _ _ _ (⟨2,3,1,9⟩:S49) )) (Reps.none _ _)));intro bq w5 av hb hg_ hnew_;clear hg_ hnew_;(first|rw [← an.out] at av|(simp only [Int.reduceToNat] at av;rw [← an.out] at av));replace ac:=qaa.mk (Kd.S_below (by (with_reducible repeat (first|apply Kd.S_alloc|apply Kd.S_drewN|apply Kd.S_drew));exact ac.out) hb);have af:=qaa.mk (Kd.R_lower av (qac sB));replace HB:=qaa.mk (qai sB hb);clear hb av;obtain⟨ar,aq,bt⟩:=Kd.R_slice af.out;subst bt)|((with_reducible refine qap (N:=1) rfl ?_);refine qao ?hg (N:=1) ?hd (cs:=#[.int .i64 0,.int .i64 0,.slice none 0 0,.int .i64 0,.int .i64 0,.slice none 0 0,.slice none 0 0,.slice none 0 0]) (t:=39) ?hr ?_;(case hd=>rfl);(case hg=>rfl);(case hr=>first|(go_simp;done)|(go_simp;rfl));intro aa hg w8 hbox hb;replace ac:=qaa.mk (Kd.S_below (by (with_reducible repeat (first|apply Kd.S_alloc|apply Kd.S_drewN|apply Kd.S_drew));exact ac.out) hb);replace af:=qaa.mk (Kd.R_below (sR af.out) hb);have ae:=qaa.mk (hbox);have bf:=qaa.mk ((by rw [hg];exact (qac sB):w.heap.size≤aa));have aw:=qaa.mk ((by rw [hg];exact (qac sB):w.heap.size≤aa));replace HB:=qaa.mk (qai sB hb);clear hb hbox hg;obtain⟨aH,aI,aJ,aK,aM,aN,aQ,aT⟩:=sC8 (w:=w8) ae.out;obtain⟨aU,aV,aW,aX,aY,aZ,a8,ba⟩:=sF8 ae.out)|((with_reducible refine qaA (f:=15) rfl ?_);refine qa7 (some 10) rfl rfl Tryd.func15 (by kernel_rfl) rfl #[.agg #[.int .i64 0,.int .i64 0,.slice al ab.length ak,.int .i64 1,.int .i64 1,.slice none 0 0,.slice none 0 0,.slice ar ag.length aq]] rfl (by (try simp only [List.map_toArray,List.map_cons,List.map_nil]);first|done|rfl|(simp only [List.length_drop,List.length_take];rfl)) ?_;(refine (cert_Print.calls 0 0 _ _ ab 1 1 _ _ ([]:List Int) _ _ ([]:List Int) _ _ ag ah _ ?ax ?ay ?az ?aA ?aC ?aD ?aE ?aG A1.out (Tabs.below HT.out sB)).mono ?_);(case ax=>refine (Kd.S_reads' (e:=53) (base:=w.heap.size) (ok:=fun k_=>True) (n:=ab.length) (c:=ak) ?_).2.2;exact (by (with_reducible repeat (first|apply Kd.S_alloc|apply Kd.S_drewN|apply Kd.S_drew));exact (Kd.S_mono (Kd.S_far (p:=⟨aa,7,none⟩) (Kd.S_far (p:=⟨aa,6,none⟩) (Kd.S_far (p:=⟨aa,5,none⟩) (Kd.S_far (p:=⟨aa,4,none⟩) (Kd.S_far (p:=⟨aa,3,none⟩) (Kd.S_far (p:=⟨aa,2,none⟩) (Kd.S_far (p:=⟨aa,1,none⟩) (Kd.S_far (p:=⟨aa,0,none⟩) (Kd.S_types ac.out ae.out (by decide)) (fun _ hk=>hk.2) (.int .i64 0)) (fun _ hk=>hk.2) (.int .i64 0)) (fun _ hk=>hk.2) (.slice al ab.length ak)) (fun _ hk=>hk.2) (.int .i64 1)) (fun _ hk=>hk.2) (.int .i64 1)) (fun _ hk=>hk.2) (.slice none 0 0)) (fun _ hk=>hk.2) (.slice none 0 0)) (fun _ hk=>hk.2) (.slice ar ag.length aq)) (fun _ h_=>h_.1))));(case ay=>exact (Kd.S_reads' ac.out).2.1);(case az=>exact Kd.C_nil _ _);(case aA=>exact Nat.le_refl _);(case aC=>exact Kd.C_nil _ _);(case aD=>exact Nat.le_refl _);(case aE=>refine (Kd.R_reads' (e:=49) (base:=w.heap.size) (ok:=fun k_=>True) (n:=ag.length) (c:=aq) ?_).2.2;exact (by refine sRm ?_;exact (Kd.R_mono (Kd.R_far (p:=⟨aa,7,none⟩) (Kd.R_far (p:=⟨aa,6,none⟩) (Kd.R_far (p:=⟨aa,5,none⟩) (Kd.R_far (p:=⟨aa,4,none⟩) (Kd.R_far (p:=⟨aa,3,none⟩) (Kd.R_far (p:=⟨aa,2,none⟩) (Kd.R_far (p:=⟨aa,1,none⟩) (Kd.R_far (p:=⟨aa,0,none⟩) (Kd.R_types af.out ae.out (by decide)) (fun _ hk=>hk.2) (.int .i64 0)) (fun _ hk=>hk.2) (.int .i64 0)) (fun _ hk=>hk.2) (.slice al ab.length ak)) (fun _ hk=>hk.2) (.int .i64 1)) (fun _ hk=>hk.2) (.int .i64 1)) (fun _ hk=>hk.2) (.slice none 0 0)) (fun _ hk=>hk.2) (.slice none 0 0)) (fun _ hk=>hk.2) (.slice ar ag.length aq)) (fun _ h_=>h_.1))));(case aG=>exact (Kd.R_reads' af.out).2.1);rintro e bv ⟨rfl,hb⟩;refine⟨_,rfl,?_⟩;replace ac:=qaa.mk (Kd.S_below (by (with_reducible repeat (first|apply Kd.S_alloc|apply Kd.S_drewN|apply Kd.S_drew));exact (Kd.S_mono (Kd.S_far (p:=⟨aa,7,none⟩) (Kd.S_far (p:=⟨aa,6,none⟩) (Kd.S_far (p:=⟨aa,5,none⟩) (Kd.S_far (p:=⟨aa,4,none⟩) (Kd.S_far (p:=⟨aa,3,none⟩) (Kd.S_far (p:=⟨aa,2,none⟩) (Kd.S_far (p:=⟨aa,1,none⟩) (Kd.S_far (p:=⟨aa,0,none⟩) (Kd.S_types ac.out ae.out (by decide)) (fun _ hk=>hk.2) (.int .i64 0)) (fun _ hk=>hk.2) (.int .i64 0)) (fun _ hk=>hk.2) (.slice al ab.length ak)) (fun _ hk=>hk.2) (.int .i64 1)) (fun _ hk=>hk.2) (.int .i64 1)) (fun _ hk=>hk.2) (.slice none 0 0)) (fun _ hk=>hk.2) (.slice none 0 0)) (fun _ hk=>hk.2) (.slice ar ag.length aq)) (fun _ h_=>h_.1))) hb);replace af:=qaa.mk (Kd.R_below (by refine sRm ?_;exact (Kd.R_mono (Kd.R_far (p:=⟨aa,7,none⟩) (Kd.R_far (p:=⟨aa,6,none⟩) (Kd.R_far (p:=⟨aa,5,none⟩) (Kd.R_far (p:=⟨aa,4,none⟩) (Kd.R_far (p:=⟨aa,3,none⟩) (Kd.R_far (p:=⟨aa,2,none⟩) (Kd.R_far (p:=⟨aa,1,none⟩) (Kd.R_far (p:=⟨aa,0,none⟩) (Kd.R_types af.out ae.out (by decide)) (fun _ hk=>hk.2) (.int .i64 0)) (fun _ hk=>hk.2) (.int .i64 0)) (fun _ hk=>hk.2) (.slice al ab.length ak)) (fun _ hk=>hk.2) (.int .i64 1)) (fun _ hk=>hk.2) (.int .i64 1)) (fun _ hk=>hk.2) (.slice none 0 0)) (fun _ hk=>hk.2) (.slice none 0 0)) (fun _ hk=>hk.2) (.slice ar ag.length aq)) (fun _ h_=>h_.1))) hb);replace ae:=qaa.mk (qa9 (g:=aa) (o:=.cells #[.int .i64 0,.int .i64 0,.slice al ab.length ak,.int .i64 1,.int .i64 1,.slice none 0 0,.slice none 0 0,.slice ar ag.length aq] 39 (0,0)) (by refine sM ?_;refine qak (cs:=#[.int .i64 0,.int .i64 0,.slice al ab.length ak,.int .i64 1,.int .i64 1,.slice none 0 0,.slice none 0 0,.slice none 0 0]) ?_ 7 _ rfl;refine sM ?_;refine qak (cs:=#[.int .i64 0,.int .i64 0,.slice al ab.length ak,.int .i64 1,.int .i64 1,.slice none 0 0,.slice none 0 0,.slice none 0 0]) ?_ 6 _ rfl;refine sM ?_;refine qak (cs:=#[.int .i64 0,.int .i64 0,.slice al ab.length ak,.int .i64 1,.int .i64 1,.slice none 0 0,.slice none 0 0,.slice none 0 0]) ?_ 5 _ rfl;refine sM ?_;refine qak (cs:=#[.int .i64 0,.int .i64 0,.slice al ab.length ak,.int .i64 1,.int .i64 0,.slice none 0 0,.slice none 0 0,.slice none 0 0]) ?_ 4 _ rfl;refine sM ?_;refine qak (cs:=#[.int .i64 0,.int .i64 0,.slice al ab.length ak,.int .i64 0,.int .i64 0,.slice none 0 0,.slice none 0 0,.slice none 0 0]) ?_ 3 _ rfl;refine sM ?_;refine qak (cs:=#[.int .i64 0,.int .i64 0,.slice none 0 0,.int .i64 0,.int .i64 0,.slice none 0 0,.slice none 0 0,.slice none 0 0]) ?_ 2 _ rfl;refine sM ?_;refine qak (cs:=#[.int .i64 0,.int .i64 0,.slice none 0 0,.int .i64 0,.int .i64 0,.slice none 0 0,.slice none 0 0,.slice none 0 0]) ?_ 1 _ rfl;refine sM ?_;refine qak (cs:=#[.int .i64 0,.int .i64 0,.slice none 0 0,.int .i64 0,.int .i64 0,.slice none 0 0,.slice none 0 0,.slice none 0 0]) ?_ 0 _ rfl;refine sM ?_;exact ae.out) hb);replace HB:=qaa.mk (qai sB hb);(try clear hb);(try clear bw);(try clear hk);(try clear hi)))
 go_ret
 exact⟨by first|rfl|(simp [qam,qal]<;>rfl)|(simp [bneNil,bneNilU]<;>rfl)|(simp [*,qam,qal]<;>rfl),by repeat (first|(with_reducible first|exact HB.out|apply qah|apply qae|apply qag|refine qad ?_ aw.out)|exact HB.out)⟩
mutual
def ostinatoref05_ByPrio.l0:Nat→List (S53)→Int→Int→Int→List (S53)→Option ((List (S53)))
 |0,_,_,_,_,_=>none
 |k+1,x3,x4,ab,ac,aa=>if x4<(aa.length:Int) then (ostinatoref05_ByPrio.l1 k x3 x4 (x3.length:Int) ab ac aa) else (some x3)
def ostinatoref05_ByPrio.l1:Nat→List (S53)→Int→Int→Int→Int→List (S53)→Option ((List (S53)))
 |0,_,_,_,_,_,_=>none
 |k+1,x3,x4,x5,ab,ac,aa=>if x5 > 0 then (if 0≤(ae (x5 - 1)) then (if (ae (x5 - 1))<(x3.length:Int) then (if 0≤x4 then (if x4<(aa.length:Int) then (ostinatoref05_ByPrio.j2 k x3 x4 x5 (decide (((qaj x3 (ae (x5 - 1))).f4) > ((qaj aa x4).f4))) ab ac aa) else (none)) else (none)) else (none)) else (none)) else (ostinatoref05_ByPrio.j2 k x3 x4 x5 false ab ac aa)
def ostinatoref05_ByPrio.j2:Nat→List (S53)→Int→Int→Bool→Int→Int→List (S53)→Option ((List (S53)))
 |0,_,_,_,_,_,_,_=>none
 |k+1,x3,x4,x5,ak,ab,ac,aa=>if ak=true then (ostinatoref05_ByPrio.l1 k x3 x4 (ae (x5 - 1)) ab ac aa) else ((some (([]:List (S53)):List (S53))).bind fun af=>(if 0≤x5 then (if x5≤(x3.length:Int) then ((some (x3.take (x5:Int).toNat:List (S53))).bind fun ag=>(if af.length+ag.length<1599289640401 then ((some (af++ag:List (S53))).bind fun ah=>(if 0≤x4 then (if x4<(aa.length:Int) then (if ah.length<1599289640401 then ((some (ah++[(⟨(qaj aa x4).f0,(qaj aa x4).f1,(qaj aa x4).f2,(qaj aa x4).f3,(qaj aa x4).f4,(qaj aa x4).f5,(qaj aa x4).f6⟩:S53)]:List (S53))).bind fun ai=>((some (x3.drop (x5:Int).toNat:List (S53))).bind fun aj=>(if ai.length+aj.length<1599289640401 then (ostinatoref05_ByPrio.l0 k (ai++aj) (ae (x4+1)) ab ac aa) else (none)))) else (none)) else (none)) else (none))) else (none))) else (none)) else (none)))
end
def ostinatoref05_ByPrio.f (k:Nat) (aa:Int) (ab:Int) (ac:List (S53)):Option ((List (S53))):=ostinatoref05_ByPrio.l0 k ([]:List (S53)) 0 aa ab ac
theorem ostinatoref05_ByPrio.calls (k:Nat) (au:Int) (av:Int) (af:Nat→Prop) (A0_2:Option Addr) (c0_2:Nat) (ab:List (S53)) (r:List (S53)) (w:World) (ea:Kd.V k53 53 w w.heap.size (fun k_=>af k_) (.slice A0_2 ab.length c0_2) ab) (h:ostinatoref05_ByPrio.f k au av ab=some r) :
  Calls Tryd.prog 53 #[.agg #[.int .i64 au,.int .i64 av,.slice A0_2 ab.length c0_2]] w fun e w'=>∃ ft:Value,e=.returned (ft)∧Kd.N k53 53 w' w.heap.size (fun k_=>(af k_∨w.heap.size≤k_)) ft r∧Below w.heap.size w w':=by
 have fJ:=Tryd.underlying33
 have fK:=Tryd.underlying53
 have bB:=qaa.mk (show Kd.V k53 53 w w.heap.size (fun k_=>(af k_∨w.heap.size≤k_)) (.slice A0_2 ab.length c0_2) ab from Kd.V_mono ea (fun k_ hk=>.inl hk))
 have HB:=qaa.mk (Below.refl w.heap.size w)
 have H:(ostinatoref05_ByPrio.l0 k ([]:List (S53)) 0 au av ab)=some r:=h
 clear h
 have H':=qaa.mk H
 clear H
 go_enter Tryd.func53,Tryd.ntmps53
 go_wp2_with (first|((with_reducible refine qap (N:=1) rfl ?_);refine qao ?hg (N:=1) ?hd (cs:=#[.int .i64 au,.int .i64 av,.slice A0_2 ab.length c0_2]) (t:=33) ?hr ?_;(case hd=>rfl);(case hg=>rfl);(case hr=>first|(go_simp;done)|(go_simp;rfl));intro aa hg w2 hbox hb;replace bB:=qaa.mk (Kd.V_below (Kd.V_elderB (sV bB.out) aa (Nat.le_of_eq hg.symm)) hb);have ag:=qaa.mk (hbox);have dO:=qaa.mk ((by rw [hg];exact (qac sB):w.heap.size≤aa));have ba:=qaa.mk ((by rw [hg];exact (qac sB):w.heap.size≤aa));replace HB:=qaa.mk (qai sB hb);clear hb hbox hg))
 repeat (go_quiet (first|((with_reducible refine qap (N:=1) rfl ?_);refine qao ?hg (N:=1) ?hd (cs:=#[.int .i64 au,.int .i64 av,.slice A0_2 ab.length c0_2]) (t:=33) ?hr ?_;(case hd=>rfl);(case hg=>rfl);(case hr=>first|(go_simp;done)|(go_simp;rfl));intro aa hg w2 hbox hb;replace bB:=qaa.mk (Kd.V_below (Kd.V_elderB (sV bB.out) aa (Nat.le_of_eq hg.symm)) hb);have ag:=qaa.mk (hbox);have dO:=qaa.mk ((by rw [hg];exact (qac sB):w.heap.size≤aa));have ba:=qaa.mk ((by rw [hg];exact (qac sB):w.heap.size≤aa));replace HB:=qaa.mk (qai sB hb);clear hb hbox hg));try go_wp2_with (first|((with_reducible refine qap (N:=1) rfl ?_);refine qao ?hg (N:=1) ?hd (cs:=#[.int .i64 au,.int .i64 av,.slice A0_2 ab.length c0_2]) (t:=33) ?hr ?_;(case hd=>rfl);(case hg=>rfl);(case hr=>first|(go_simp;done)|(go_simp;rfl));intro aa hg w2 hbox hb;replace bB:=qaa.mk (Kd.V_below (Kd.V_elderB (sV bB.out) aa (Nat.le_of_eq hg.symm)) hb);have ag:=qaa.mk (hbox);have dO:=qaa.mk ((by rw [hg];exact (qac sB):w.heap.size≤aa));have ba:=qaa.mk ((by rw [hg];exact (qac sB):w.heap.size≤aa));replace HB:=qaa.mk (qai sB hb);clear hb hbox hg)))
 go_loopg [3,4] k (fun kq v3 v4 w'=>∃ (ah:List (S53)) (ac:Int),v4=.int .i64 ac∧qaa (ostinatoref05_ByPrio.l0 kq ah ac au av ab=some r)∧qaa (kq≤k)∧qaa (Kd.N k53 53 w' w.heap.size (fun k_=>(af k_∨w.heap.size≤k_)∧k_≠aa) v3 ah)∧qaa (Kd.V k53 53 w' w.heap.size (fun k_=>(af k_∨w.heap.size≤k_)∧some k_≠(v3:Value).ownBlock∧k_≠aa) (.slice A0_2 ab.length c0_2) ab)∧qaa (w'.heap[aa]? = some (.cells #[.int .i64 au,.int .i64 av,(.slice A0_2 ab.length c0_2)] 33 (0,0)))∧qaa (Below w.heap.size w w'))
 case atStart=>exact⟨(([]:List (S53))),(0),(by first|rfl|(simp;done)|(simp [*];done)),H',⟨Nat.le_refl _⟩,⟨by first|exact Kd.S_nil _ _ _ _ _|exact Kd.N_nil _ _ _ _ _|exact Kd.V_nil _ _ _ _ _|exact Kd.Q_nil _ _ _ _ _|exact Kd.R_nil _ _ _ _ _⟩,⟨by refine sVm ?_;exact Kd.V_mono bB.out (fun _ hk=>⟨hk.1,⟨(by simp [Value.ownBlock]),hk.2⟩⟩)⟩,⟨by refine sM ?_;exact ag.out⟩,⟨by repeat (first|(with_reducible first|exact HB.out|apply qah|apply qae|apply qag|refine qad ?_ ba.out)|exact HB.out)⟩⟩
 case round=>
  clear H'
  try clear p2
  obtain⟨ah,ac,rfl,HA,d8,al,ae,ag,HB⟩:=hrel
  cases gk with
  |zero=>exact absurd HA.out (by simp [ostinatoref05_ByPrio.l0])
  |succ k1=>
   have H:=HA.out
   clear HA
   simp only [ostinatoref05_ByPrio.l0] at H
   by_cases c3:ac<(ab.length:Int)
   ·rw [if_pos c3] at H
    have dW:decide (ac<(ab.length:Int))=true:=decide_eq_true c3
    clear c3
    have H':=qaa.mk H
    clear H
    obtain⟨cY,cZ,da⟩:=sC3 (w:=wr) ag.out
    obtain⟨db,dc,dd⟩:=sF3 ag.out
    obtain⟨aC,aw,fL⟩:=Kd.N_slice al.out
    subst fL
    go_wp2
    repeat (go_quiet (fail);try go_wp2)
    go_loopg [5] k1 (fun kq v5 w'=>∃ (ai:Int),v5=.int .i64 ai∧qaa (ostinatoref05_ByPrio.l1 kq ah ac ai au av ab=some r)∧qaa (kq≤k1)∧qaa (Kd.N k53 53 w' w.heap.size (fun k_=>(af k_∨w.heap.size≤k_)∧k_≠aa) (.slice aC ah.length aw) ah)∧qaa (Kd.V k53 53 w' w.heap.size (fun k_=>(af k_∨w.heap.size≤k_)∧some k_≠((.slice aC ah.length aw):Value).ownBlock∧k_≠aa) (.slice A0_2 ab.length c0_2) ab)∧qaa (w'.heap[aa]? = some (.cells #[.int .i64 au,.int .i64 av,(.slice A0_2 ab.length c0_2)] 33 (0,0)))∧qaa (Below w.heap.size w w'))
    case atStart=>exact⟨((ah.length:Int)),(by first|rfl|(simp;done)|(simp [*];done)),H',⟨Nat.le_refl _⟩,⟨by refine sNm ?_;exact al.out⟩,⟨by refine sVm ?_;exact ae.out⟩,⟨by refine sM ?_;exact ag.out⟩,⟨by repeat (first|(with_reducible first|exact HB.out|apply qah|apply qae|apply qag|refine qad ?_ ba.out)|exact HB.out)⟩⟩
    case round=>
     clear H'
     try clear p2
     try clear c3
     try clear dW
     try clear c5
     try clear cY cZ da
     try clear db dc dd
     try clear p2
     obtain⟨ai,rfl,HA,d9,al,ae,ag,HB⟩:=hrel
     cases gk with
     |zero=>exact absurd HA.out (by simp [ostinatoref05_ByPrio.l1])
     |succ k2=>
      have H:=HA.out
      clear HA
      simp only [ostinatoref05_ByPrio.l1] at H
      have fe:=qaa.mk H
      clear H
      go_upto_region 6 with (fail)
      repeat (go_quiet (fail);go_upto_region 6 with (fail))
      go_cut [32] (fun fM wc=>∃ (kq:Nat) (cq:Bool),fM=.bool cq∧qaa (ostinatoref05_ByPrio.j2 kq ah ac ai cq au av ab=some r)∧qaa (kq≤k2)∧qaa (Kd.N k53 53 wc w.heap.size (fun k_=>(af k_∨w.heap.size≤k_)∧k_≠aa) (.slice aC ah.length aw) ah)∧qaa (Kd.V k53 53 wc w.heap.size (fun k_=>(af k_∨w.heap.size≤k_)∧some k_≠((.slice aC ah.length aw):Value).ownBlock∧k_≠aa) (.slice A0_2 ab.length c0_2) ab)∧qaa (wc.heap[aa]? = some (.cells #[.int .i64 au,.int .i64 av,(.slice A0_2 ab.length c0_2)] 33 (0,0)))∧qaa (Below w.heap.size w wc))
      case first=>
       have H:=fe.out
       clear fe
       by_cases c7:ai > 0
       ·rw [if_pos c7] at H
        have cX:decide (0<ai)=true:=decide_eq_true c7
        clear c7
        (first|rw [cX]|(simp only [qaC,qaE];rw [cX])|skip)
        obtain⟨cm,dx⟩:∃ j_:Int,(aN (ai - 1))=j_:=⟨_,rfl⟩
        replace H:(if 0≤(cm) then (if (cm)<(ah.length:Int) then (if 0≤ac then (if ac<(ab.length:Int) then (ostinatoref05_ByPrio.j2 k2 ah ac ai (decide (((qaj ah (cm)).f4) > ((qaj ab ac).f4))) au av ab) else (none)) else (none)) else (none)) else (none))=some r:=by first|(rw [dx] at H;exact H)|(simp only [dx] at H ⊢;exact H)
        have hji8w:(IntKind.i64.wrap (ai - 1))=cm:=(qaC _).trans dx
        by_cases c9:0≤(cm)
        ·rw [if_pos c9] at H
         have ff:decide (0≤(cm))=true:=decide_eq_true c9
         clear c9
         by_cases eb:(cm)<(ah.length:Int)
         ·rw [if_pos eb] at H
          have ec:decide ((cm)<(ah.length:Int))=true:=decide_eq_true eb
          clear eb
          by_cases ed:0≤ac
          ·rw [if_pos ed] at H
           have ef:decide (0≤ac)=true:=decide_eq_true ed
           clear ed
           by_cases eg:ac<(ab.length:Int)
           ·rw [if_pos eg] at H
            have eh:decide (ac<(ab.length:Int))=true:=decide_eq_true eg
            clear eg
            have H':=qaa.mk H
            clear H
            have de:0≤((cm):Int):=of_decide_eq_true sA
            have df:(cm)<(ah.length:Int):=of_decide_eq_true sA
            obtain⟨fu,fg,fh,fi,fj,fk,dy,dz,dA,dB,dC,cr,ct,cu,cv,cw,cx⟩:=at_T53 (Kd.N_reads' al.out).2.2 (cm) de df
            cases fk
            obtain⟨fv,dX,dY,co⟩:=Kd.N_get al.out z53 (cm) de (by first|exact df|exact of_decide_eq_true sA|(have e_:=(Kd.N_reads' al.out).1;omega))
            obtain⟨ew,ex,ey,ez,rfl,bS,bT,bU,bV⟩:=qa8 dY
            have bv:=co 5 _ rfl
            rw [qat _ _ 5 (by omega)] at bv
            replace bv:=Option.some.inj (bv.symm.trans cr)
            injection bv with hva_ hvn_ hvc_
            rw [hva_] at bT
            rw [hvc_] at bS
            have eA:=qaa.mk (show Kd.V (Kd.int .i64) 2 _ w.heap.size _ _ ((qaj ah (cm)).f5) from Kd.V_mk bS bT)
            clear hva_ hvn_ hvc_ bT bS
            have bw:=co 6 _ rfl
            rw [qat _ _ 6 (by omega)] at bw
            replace bw:=Option.some.inj (bw.symm.trans ct)
            injection bw with hva_ hvn_ hvc_
            rw [hva_] at bV
            rw [hvc_] at bU
            have eB:=qaa.mk (show Kd.V (Kd.int .i64) 3 _ w.heap.size _ _ ((qaj ah (cm)).f6) from Kd.V_mk bU bV)
            clear hva_ hvn_ hvc_ bV bU co dX
            have eC:=qaa.mk cv
            have eD:=qaa.mk cu
            clear cv cu
            have eE:=qaa.mk cx
            have eF:=qaa.mk cw
            clear cx cw
            replace de:=eq_true de
            replace df:=eq_true df
            obtain⟨dD,dE,dF⟩:=sC3 (w:=wr) ag.out
            obtain⟨dG,dH,dI⟩:=sF3 ag.out
            have dg:0≤(ac:Int):=of_decide_eq_true sA
            have dh:ac<(ab.length:Int):=of_decide_eq_true sA
            obtain⟨fw,fl,fm,fo,fp,fq,dJ,dK,dL,dM,dN,cy,cz,cA,cB,cC,cD⟩:=at_T53 (Kd.V_reads' ae.out).2.2 ac dg dh
            cases fq
            obtain⟨fx,dZ,d7,cp⟩:=Kd.V_get ae.out z53 ac dg (by first|exact dh|exact of_decide_eq_true sA|(have e_:=(Kd.V_reads' ae.out).1;omega))
            obtain⟨eG,eH,eI,eJ,rfl,bW,bX,bY,bZ⟩:=qa8 d7
            have bx:=cp 5 _ rfl
            rw [qat _ _ 5 (by omega)] at bx
            replace bx:=Option.some.inj (bx.symm.trans cy)
            injection bx with hva_ hvn_ hvc_
            rw [hva_] at bX
            rw [hvc_] at bW
            have eK:=qaa.mk (show Kd.V (Kd.int .i64) 2 _ w.heap.size _ _ ((qaj ab ac).f5) from Kd.V_mk bW bX)
            clear hva_ hvn_ hvc_ bX bW
            have bz:=cp 6 _ rfl
            rw [qat _ _ 6 (by omega)] at bz
            replace bz:=Option.some.inj (bz.symm.trans cz)
            injection bz with hva_ hvn_ hvc_
            rw [hva_] at bZ
            rw [hvc_] at bY
            have eL:=qaa.mk (show Kd.V (Kd.int .i64) 3 _ w.heap.size _ _ ((qaj ab ac).f6) from Kd.V_mk bY bZ)
            clear hva_ hvn_ hvc_ bZ bY cp dZ
            have eM:=qaa.mk cB
            have eN:=qaa.mk cA
            clear cB cA
            have eO:=qaa.mk cD
            have eP:=qaa.mk cC
            clear cD cC
            replace dg:=eq_true dg
            replace dh:=eq_true dh
            go_wp2
            repeat (go_quiet (fail);try go_wp2)
            go_meet
            case rel=>exact⟨_,(decide (((qaj ah (cm)).f4) > ((qaj ab ac).f4))),(by first|rfl|(simp;done)|(simp only [← dx]<;>(first|rfl|simp))|(simp [*];done)),H',⟨by have:=d8.out;have:=d9.out;first|omega|exact Nat.le_refl _⟩,⟨by refine sNm ?_;exact al.out⟩,⟨by refine sVm ?_;exact ae.out⟩,⟨by refine sM ?_;exact ag.out⟩,⟨by repeat (first|(with_reducible first|exact HB.out|apply qah|apply qae|apply qag|refine qad ?_ ba.out)|exact HB.out)⟩⟩
           ·rw [if_neg eg] at H
            exact absurd H (by simp)
          ·rw [if_neg ed] at H
           exact absurd H (by simp)
         ·rw [if_neg eb] at H
          exact absurd H (by simp)
        ·rw [if_neg c9] at H
         exact absurd H (by simp)
       ·rw [if_neg c7] at H
        have cX:decide (0<ai)=false:=decide_eq_false c7
        clear c7
        (first|rw [cX]|(simp only [qaC,qaE];rw [cX])|skip)
        have H':=qaa.mk H
        clear H
        go_wp2
        repeat (go_quiet (fail);try go_wp2)
        go_meet
        case rel=>exact⟨_,(false),(by first|rfl|(simp;done)|(simp [*];done)),H',⟨by have:=d8.out;have:=d9.out;first|omega|exact Nat.le_refl _⟩,⟨by refine sNm ?_;exact al.out⟩,⟨by refine sVm ?_;exact ae.out⟩,⟨by refine sM ?_;exact ag.out⟩,⟨by repeat (first|(with_reducible first|exact HB.out|apply qah|apply qae|apply qag|refine qad ?_ ba.out)|exact HB.out)⟩⟩
      case rest=>
       clear fe
       try clear c1
       try clear p1
       try clear q1
       try clear fO
       try clear p2
       try clear c3
       try clear dW
       try clear c5
       try clear p6
       try clear c7
       try clear cX
       try clear c9
       try clear ff
       try clear eb
       try clear ec
       try clear ed
       try clear ef
       try clear eg
       try clear eh
       try clear fP
       try clear fQ
       try clear fR
       try clear fN
       try clear dD dE dF
       try clear cY cZ da
       try clear dG dH dI
       try clear db dc dd
       try clear dy
       try clear dz
       try clear dA
       try clear dB
       try clear dC
       try clear cr
       try clear ct
       try clear dJ
       try clear dK
       try clear dL
       try clear dM
       try clear dN
       try clear cy
       try clear cz
       try clear de
       try clear dg
       try clear p2
       try clear df
       try clear dh
       obtain⟨kq,cq,rfl,HA,eQ,al,ae,ag,HB⟩:=hcut
       cases kq with
       |zero=>exact absurd HA.out (by simp [ostinatoref05_ByPrio.j2])
       |succ dw=>
        have H:=HA.out
        clear HA
        simp only [ostinatoref05_ByPrio.j2] at H
        by_cases eR:cq=true
        ·subst eR
         have H1:(ostinatoref05_ByPrio.l1 dw ah ac (aN (ai - 1)) au av ab)=some r:=by rw [if_pos rfl] at H;exact H
         clear H
         have H:=H1
         clear H1
         have H':=qaa.mk H
         clear H
         go_wp2
         repeat (go_quiet (fail);try go_wp2)
         go_roundg dw
         case measure=>have:=d8.out;have:=d9.out;have:=eQ.out;omega
         case rel=>exact⟨(aN (ai - 1)),(by first|rfl|(simp;done)|(simp [*];done)),H',⟨by have:=d8.out;have:=d9.out;have:=eQ.out;omega⟩,⟨by refine sNm ?_;exact al.out⟩,⟨by refine sVm ?_;exact ae.out⟩,⟨by refine sM ?_;exact ag.out⟩,⟨by repeat (first|(with_reducible first|exact HB.out|apply qah|apply qae|apply qag|refine qad ?_ ba.out)|exact HB.out)⟩⟩
        ·replace eR:=Bool.eq_false_iff.mpr eR
         subst eR
         have H1:((some (([]:List (S53)):List (S53))).bind fun bt=>(if 0≤ai then (if ai≤(ah.length:Int) then ((some (ah.take (ai:Int).toNat:List (S53))).bind fun aD=>(if bt.length+aD.length<1599289640401 then ((some (bt++aD:List (S53))).bind fun a8=>(if 0≤ac then (if ac<(ab.length:Int) then (if a8.length<1599289640401 then ((some (a8++[(⟨(qaj ab ac).f0,(qaj ab ac).f1,(qaj ab ac).f2,(qaj ab ac).f3,(qaj ab ac).f4,(qaj ab ac).f5,(qaj ab ac).f6⟩:S53)]:List (S53))).bind fun aQ=>((some (ah.drop (ai:Int).toNat:List (S53))).bind fun am=>(if aQ.length+am.length<1599289640401 then (ostinatoref05_ByPrio.l0 dw (aQ++am) (aN (ac+1)) au av ab) else (none)))) else (none)) else (none)) else (none))) else (none))) else (none)) else (none)))=some r:=by rw [if_neg (show ¬ (false=true) by decide)] at H;exact H
         clear H
         have H:=H1
         clear H1
         obtain⟨bt,b8⟩:∃ y_:List (S53),y_=(([]:List (S53))):=⟨_,rfl⟩
         replace H:(if 0≤ai then (if ai≤(ah.length:Int) then ((some (ah.take (ai:Int).toNat:List (S53))).bind fun aD=>(if bt.length+aD.length<1599289640401 then ((some (bt++aD:List (S53))).bind fun a8=>(if 0≤ac then (if ac<(ab.length:Int) then (if a8.length<1599289640401 then ((some (a8++[(⟨(qaj ab ac).f0,(qaj ab ac).f1,(qaj ab ac).f2,(qaj ab ac).f3,(qaj ab ac).f4,(qaj ab ac).f5,(qaj ab ac).f6⟩:S53)]:List (S53))).bind fun aQ=>((some (ah.drop (ai:Int).toNat:List (S53))).bind fun am=>(if aQ.length+am.length<1599289640401 then (ostinatoref05_ByPrio.l0 dw (aQ++am) (aN (ac+1)) au av ab) else (none)))) else (none)) else (none)) else (none))) else (none))) else (none)) else (none))=some r:=by first|(rw [b8];with_reducible exact H)|(have bC:=(Option.bind_some _ _).symm.trans H;rw [b8];with_reducible exact bC)|(have bC:=(Option.bind_some _ _).symm.trans H;with_reducible exact bC)|with_reducible exact H|(rw [b8];exact H)|exact H
         have bP:=qaa.mk b8
         clear b8
         by_cases ek:0≤ai
         ·rw [if_pos ek] at H
          have fy:=eq_true ek
          have fz:decide (0≤ai)=true:=decide_eq_true ek
          clear ek
          by_cases el:ai≤(ah.length:Int)
          ·rw [if_pos el] at H
           have fA:=eq_true el
           have fB:decide (ai≤(ah.length:Int))=true:=decide_eq_true el
           clear el
           obtain⟨aD,b9⟩:∃ y_:List (S53),y_=(ah.take (ai:Int).toNat):=⟨_,rfl⟩
           replace H:(if bt.length+aD.length<1599289640401 then ((some (bt++aD:List (S53))).bind fun a8=>(if 0≤ac then (if ac<(ab.length:Int) then (if a8.length<1599289640401 then ((some (a8++[(⟨(qaj ab ac).f0,(qaj ab ac).f1,(qaj ab ac).f2,(qaj ab ac).f3,(qaj ab ac).f4,(qaj ab ac).f5,(qaj ab ac).f6⟩:S53)]:List (S53))).bind fun aQ=>((some (ah.drop (ai:Int).toNat:List (S53))).bind fun am=>(if aQ.length+am.length<1599289640401 then (ostinatoref05_ByPrio.l0 dw (aQ++am) (aN (ac+1)) au av ab) else (none)))) else (none)) else (none)) else (none))) else (none))=some r:=by first|(rw [b9];with_reducible exact H)|(have bC:=(Option.bind_some _ _).symm.trans H;rw [b9];with_reducible exact bC)|(have bC:=(Option.bind_some _ _).symm.trans H;with_reducible exact bC)|with_reducible exact H|(rw [b9];exact H)|exact H
           have bQ:=qaa.mk b9
           clear b9
           by_cases eS:bt.length+aD.length<1599289640401
           ·rw [if_pos eS] at H
            have di:=qaa.mk eS
            clear eS
            obtain⟨a8,ca⟩:∃ y_:List (S53),y_=(bt++aD):=⟨_,rfl⟩
            replace H:(if 0≤ac then (if ac<(ab.length:Int) then (if a8.length<1599289640401 then ((some (a8++[(⟨(qaj ab ac).f0,(qaj ab ac).f1,(qaj ab ac).f2,(qaj ab ac).f3,(qaj ab ac).f4,(qaj ab ac).f5,(qaj ab ac).f6⟩:S53)]:List (S53))).bind fun aQ=>((some (ah.drop (ai:Int).toNat:List (S53))).bind fun am=>(if aQ.length+am.length<1599289640401 then (ostinatoref05_ByPrio.l0 dw (aQ++am) (aN (ac+1)) au av ab) else (none)))) else (none)) else (none)) else (none))=some r:=by first|(rw [ca];with_reducible exact H)|(have bC:=(Option.bind_some _ _).symm.trans H;rw [ca];with_reducible exact bC)|(have bC:=(Option.bind_some _ _).symm.trans H;with_reducible exact bC)|with_reducible exact H|(rw [ca];exact H)|exact H
            have dj:=qaa.mk ca
            clear ca
            by_cases eT:0≤ac
            ·rw [if_pos eT] at H
             have fC:decide (0≤ac)=true:=decide_eq_true eT
             clear eT
             by_cases eU:ac<(ab.length:Int)
             ·rw [if_pos eU] at H
              have fD:decide (ac<(ab.length:Int))=true:=decide_eq_true eU
              clear eU
              by_cases eV:a8.length<1599289640401
              ·rw [if_pos eV] at H
               have dk:=qaa.mk eV
               clear eV
               obtain⟨aQ,cb⟩:∃ y_:List (S53),y_=(a8++[(⟨(qaj ab ac).f0,(qaj ab ac).f1,(qaj ab ac).f2,(qaj ab ac).f3,(qaj ab ac).f4,(qaj ab ac).f5,(qaj ab ac).f6⟩:S53)]):=⟨_,rfl⟩
               replace H:((some (ah.drop (ai:Int).toNat:List (S53))).bind fun am=>(if aQ.length+am.length<1599289640401 then (ostinatoref05_ByPrio.l0 dw (aQ++am) (aN (ac+1)) au av ab) else (none)))=some r:=by first|(rw [cb];with_reducible exact H)|(have bC:=(Option.bind_some _ _).symm.trans H;rw [cb];with_reducible exact bC)|(have bC:=(Option.bind_some _ _).symm.trans H;with_reducible exact bC)|with_reducible exact H|(rw [cb];exact H)|exact H
               have dl:=qaa.mk cb
               clear cb
               have fE:=eq_true (of_decide_eq_true sA:0≤ai)
               have fF:=eq_true (of_decide_eq_true sA:ai≤(ah.length:Int))
               obtain⟨am,ce⟩:∃ y_:List (S53),y_=(ah.drop (ai:Int).toNat):=⟨_,rfl⟩
               replace H:(if aQ.length+am.length<1599289640401 then (ostinatoref05_ByPrio.l0 dw (aQ++am) (aN (ac+1)) au av ab) else (none))=some r:=by first|(rw [ce];with_reducible exact H)|(have bC:=(Option.bind_some _ _).symm.trans H;rw [ce];with_reducible exact bC)|(have bC:=(Option.bind_some _ _).symm.trans H;with_reducible exact bC)|with_reducible exact H|(rw [ce];exact H)|exact H
               have bR:=qaa.mk ce
               clear ce
               by_cases eW:aQ.length+am.length<1599289640401
               ·rw [if_pos eW] at H
                have dm:=qaa.mk eW
                clear eW
                obtain⟨en,cf⟩:∃ y_:List (S53),y_=(aQ++am):=⟨_,rfl⟩
                replace H:(ostinatoref05_ByPrio.l0 dw en (aN (ac+1)) au av ab)=some r:=by first|(rw [cf];with_reducible exact H)|(have bC:=(Option.bind_some _ _).symm.trans H;rw [cf];with_reducible exact bC)|(have bC:=(Option.bind_some _ _).symm.trans H;with_reducible exact bC)|with_reducible exact H|(rw [cf];exact H)|exact H
                have dn:=qaa.mk cf
                clear cf
                have H':=qaa.mk H
                clear H
                go_wp2_with (first|((with_reducible refine qap (N:=35) rfl ?_);refine Kd.N_lit k53 _ 53 ?hg (N':=35) ?hd (xs:=([]:List (S53))) (inner:=[]) (ok:=(fun k_=>(af k_∨w.heap.size≤k_)∧some k_≠(.slice aC ah.length aw:Value).ownBlock∧k_≠aa)) (okp:=(fun k_=>(af k_∨w.heap.size≤k_)∧some k_≠(.slice aC ah.length aw:Value).ownBlock∧k_≠aa)) ?hr ?hp (fun _ hk=>hk) ((show ∀ k_,wc.heap.size≤k_→(fun k_=>(af k_∨w.heap.size≤k_)∧some k_≠(.slice aC ah.length aw:Value).ownBlock∧k_≠aa) k_ from fun k_ hk=>⟨(.inr (Nat.le_trans (qac sB) hk)),Kd.fresh' (Kd.N_lt (sN al.out)) k_ hk,Kd.freshB (g:=aa) (o:=.cells #[.int .i64 au,.int .i64 av,.slice A0_2 ab.length c0_2] 33 (0,0)) (sK ag.out) k_ hk⟩) _ (Nat.le_refl _)) (Below.refl _ _) (Nat.le_refl _) (by simp) ?_;(case hd=>rfl);(case hg=>rfl);(case hr=>first|(go_simp;done)|(go_simp;rfl));(case hp=>exact (Reps.none _ _));intro bD fG aE hb hg_ hnew_;clear hg_ hnew_;(first|rw [← bP.out] at aE|(simp only [Int.reduceToNat] at aE;rw [← bP.out] at aE));replace al:=qaa.mk (Kd.N_elder' (sN al.out) (Kd.N_base aE) hb);replace ae:=qaa.mk (Kd.V_elder' (sV ae.out) (Kd.N_base aE) hb);have aU:=qaa.mk (Kd.N_lower aE (qac sB));replace ag:=qaa.mk (sKb ag.out hb);replace HB:=qaa.mk (qai sB hb);clear hb aE;have dp:(ai:Int)≤((ah.length:Int):Int):=of_decide_eq_true sA;obtain⟨ep,bm,_,cg,_⟩:=info_parts info53;have aH:ah.length≤aw:=(Kd.N_reads' al.out).2.1;have cj:Kd.F k53 _ _ aC ah.length ah:=(Kd.V_at (base:=w.heap.size) (Kd.N_V al.out)).2.2;have bE:=cut_to (P:=Tryd.prog) 31 53 .i64 Tryd.underlying31 bm aC ah.length aw ai (of_decide_eq_true sA) dp aH;have bF:=Kd.F_take (m:=(ai:Int).toNat) cj (by omega);have bG:aD.length=(ai:Int).toNat:=(by rw [bQ.out,List.length_take];omega);rw [← bQ.out] at bF;rw [← bG] at bE;have ar:=qaa.mk (show Kd.V k53 53 _ w.heap.size _ (.slice aC aD.length aw) aD from Kd.V_mk (by omega) bF);have dP:=qaa.mk (show aD.length≤aw from by omega);clear bF cj aH bm cg;have eq:=qaa.mk bG;clear bG;replace dp:=eq_true dp)|((with_reducible refine qaB (b:=.append) (xs:=#[.tmp 35,.tmp 38]) rfl ?_);at_builtin;refine Kd.N_append_rows k53 (w0:=w) w.heap.size rfl (.tmp 35) (.tmp 38) 31 53 (.agg #[(.int .i64 0),(.int .i64 0),(.int .i64 0),(.int .i64 0),(.int .i64 0),(.slice none 0 0),(.slice none 0 0)]) 88 rfl Tryd.underlying31 info53 rfl (by decide) (by omega) bD bt aD _ _ _ (fun k_=>(af k_∨w.heap.size≤k_)∧k_≠aa) (fun k_=>((fun k_=>(af k_∨w.heap.size≤k_)∧k_≠aa)) k_∧some k_≠(bD:Value).ownBlock) rfl rfl ?aO ?aR (fun _ hk=>hk) ?aF ?aB ?aS ?aL ?_;(case aR=>exact (by skip;exact Kd.V_F (Kd.V_mono (ok':=(fun k_=>((fun k_=>(af k_∨w.heap.size≤k_)∧k_≠aa)) k_∧some k_≠(bD:Value).ownBlock)) (ar.out) (fun k_ hk=>⟨⟨hk.1.1,hk.1.2⟩,hk.2⟩))));(case aB=>exact sB);(case aF=>exact (fun k_ hk=>⟨(.inr (Nat.le_trans (qac sB) hk)),Kd.freshB (g:=aa) (o:=.cells #[.int .i64 au,.int .i64 av,.slice A0_2 ab.length c0_2] 33 (0,0)) (sK ag.out) k_ hk⟩));(case aO=>exact (by refine sNm ?_;exact Kd.N_mono aU.out (fun _ hk=>⟨hk.1,hk.2.2⟩)));(case aS=>exact (qac sB));(case aL=>have:=di.out;omega);intro aT er ho hb hg hat;rw [← dj.out] at ho;replace al:=qaa.mk (Kd.N_afterv (ok:=(fun k_=>(af k_∨w.heap.size≤k_)∧k_≠aa)) (sN al.out) hg hat);replace ae:=qaa.mk (Kd.V_afterv (ok:=(fun k_=>(af k_∨w.heap.size≤k_)∧some k_≠(.slice aC ah.length aw:Value).ownBlock∧k_≠aa)) (sV ae.out) hg hat);replace ag:=qaa.mk (sKg ag.out hg (Kd.N_ne aU.out ag.out (by decide)));replace ar:=qaa.mk (Kd.V_afterv (ok:=(fun k_=>(af k_∨w.heap.size≤k_)∧k_≠aa)) (sV ar.out) hg hat);replace HB:=qaa.mk (hb);have aV:=qaa.mk (ho);clear aU ho hb hg hat;obtain⟨cE,cF,cG⟩:=sC3 (w:=er) ag.out;obtain⟨cH,cI,cJ⟩:=sF3 ag.out;have be:0≤(ac:Int):=of_decide_eq_true sA;have bf:ac<(ab.length:Int):=of_decide_eq_true sA;obtain⟨bn,bH,bI,bJ,bK,dq,cK,cL,cM,cN,cO,bg,bh,aI,aJ,aK,aM⟩:=at_T53 (Kd.V_reads' ae.out).2.2 ac be bf;cases dq;obtain⟨dQ,bL,bM,aG⟩:=Kd.V_get ae.out z53 ac be (by first|exact bf|exact of_decide_eq_true sA|(have e_:=(Kd.V_reads' ae.out).1;omega));obtain⟨cP,cQ,cR,cS,rfl,ax,ay,az,aA⟩:=qa8 bM;have an:=aG 5 _ rfl;rw [qat _ _ 5 (by omega)] at an;replace an:=Option.some.inj (an.symm.trans bg);injection an with hva_ hvn_ hvc_;rw [hva_] at ay;rw [hvc_] at ax;have aj:=qaa.mk (show Kd.V (Kd.int .i64) 2 _ w.heap.size _ _ ((qaj ab ac).f5) from Kd.V_mk ax ay);clear hva_ hvn_ hvc_ ay ax;have ap:=aG 6 _ rfl;rw [qat _ _ 6 (by omega)] at ap;replace ap:=Option.some.inj (ap.symm.trans bh);injection ap with hva_ hvn_ hvc_;rw [hva_] at aA;rw [hvc_] at az;have ak:=qaa.mk (show Kd.V (Kd.int .i64) 3 _ w.heap.size _ _ ((qaj ab ac).f6) from Kd.V_mk az aA);clear hva_ hvn_ hvc_ aA az aG bL;have cT:=qaa.mk aJ;have cU:=qaa.mk aI;clear aJ aI;have cV:=qaa.mk aM;have cW:=qaa.mk aK;clear aM aK;replace be:=eq_true be;replace bf:=eq_true bf)|((with_reducible refine qaB (b:=.append) (xs:=#[.tmp 40,.tmp 46]) rfl ?_);at_builtin;refine Kd.N_append k53 (w0:=w) w.heap.size rfl (.tmp 40) (.tmp 46) 31 53 (.agg #[(.int .i64 0),(.int .i64 0),(.int .i64 0),(.int .i64 0),(.int .i64 0),(.slice none 0 0),(.slice none 0 0)]) 88 rfl Tryd.underlying31 info53 rfl (by decide) (by omega) aT a8 (⟨(qaj ab ac).f0,(qaj ab ac).f1,(qaj ab ac).f2,(qaj ab ac).f3,(qaj ab ac).f4,(qaj ab ac).f5,(qaj ab ac).f6⟩:S53) [.int .i64 ((qaj ab ac).f0),.int .i64 ((qaj ab ac).f1),.int .i64 ((qaj ab ac).f2),.int .i64 ((qaj ab ac).f3),.int .i64 ((qaj ab ac).f4),.slice bH ((qaj ab ac).f5).length bI,.slice bJ ((qaj ab ac).f6).length bK] (fun k_=>(af k_∨w.heap.size≤k_)∧k_≠aa) (fun k_=>((fun k_=>(af k_∨w.heap.size≤k_)∧k_≠aa)) k_∧some k_≠(aT:Value).ownBlock) rfl rfl ?aP (fun _ hk=>hk) ?aF ?aO ?aB ?aS ?aL ?_;(case aP=>exact (k53_mkF _ _ (⟨(qaj ab ac).f0,(qaj ab ac).f1,(qaj ab ac).f2,(qaj ab ac).f3,(qaj ab ac).f4,(qaj ab ac).f5,(qaj ab ac).f6⟩:S53) (Kd.V_reads' (Kd.V_mono (ok':=(fun k_=>((fun k_=>(af k_∨w.heap.size≤k_)∧k_≠aa)) k_∧some k_≠(aT:Value).ownBlock)) (aj.out) (fun k_ hk=>⟨⟨hk.1.1,hk.1.2.2⟩,hk.2⟩))).2.1 (Kd.V_F (Kd.V_mono (ok':=(fun k_=>((fun k_=>(af k_∨w.heap.size≤k_)∧k_≠aa)) k_∧some k_≠(aT:Value).ownBlock)) (aj.out) (fun k_ hk=>⟨⟨hk.1.1,hk.1.2.2⟩,hk.2⟩))) (Kd.V_reads' (Kd.V_mono (ok':=(fun k_=>((fun k_=>(af k_∨w.heap.size≤k_)∧k_≠aa)) k_∧some k_≠(aT:Value).ownBlock)) (ak.out) (fun k_ hk=>⟨⟨hk.1.1,hk.1.2.2⟩,hk.2⟩))).2.1 (Kd.V_F (Kd.V_mono (ok':=(fun k_=>((fun k_=>(af k_∨w.heap.size≤k_)∧k_≠aa)) k_∧some k_≠(aT:Value).ownBlock)) (ak.out) (fun k_ hk=>⟨⟨hk.1.1,hk.1.2.2⟩,hk.2⟩)))));(case aB=>exact sB);(case aF=>exact (fun k_ hk=>⟨(.inr (Nat.le_trans (qac sB) hk)),Kd.freshB (g:=aa) (o:=.cells #[.int .i64 au,.int .i64 av,.slice (some bn) ab.length c0_2] 33 (0,0)) (sK ag.out) k_ hk⟩));(case aO=>exact (sN aV.out));(case aS=>exact (qac sB));(case aL=>have:=dk.out;omega);intro bN fH ho hb hg hat;rw [← dl.out] at ho;replace al:=qaa.mk (Kd.N_afterv (ok:=(fun k_=>(af k_∨w.heap.size≤k_)∧k_≠aa)) (sN al.out) hg hat);replace ae:=qaa.mk (Kd.V_afterv (ok:=(fun k_=>(af k_∨w.heap.size≤k_)∧some k_≠(.slice aC ah.length aw:Value).ownBlock∧k_≠aa)) (sV ae.out) hg hat);replace ag:=qaa.mk (sKg ag.out hg (Kd.N_ne aV.out ag.out (by decide)));replace ar:=qaa.mk (Kd.V_afterv (ok:=(fun k_=>(af k_∨w.heap.size≤k_)∧k_≠aa)) (sV ar.out) hg hat);replace aj:=qaa.mk (Kd.V_afterv (ok:=(fun k_=>(af k_∨w.heap.size≤k_)∧some k_≠(.slice aC ah.length aw:Value).ownBlock∧k_≠aa)) (sV aj.out) hg hat);replace ak:=qaa.mk (Kd.V_afterv (ok:=(fun k_=>(af k_∨w.heap.size≤k_)∧some k_≠(.slice aC ah.length aw:Value).ownBlock∧k_≠aa)) (sV ak.out) hg hat);replace HB:=qaa.mk (hb);have aW:=qaa.mk (ho);clear aV ho hb hg hat;have dr:(ai:Int)≤((ah.length:Int):Int):=of_decide_eq_true sA;obtain⟨es,bp,_,bq,_⟩:=info_parts info53;have aq:ah.length≤aw:=(Kd.N_reads' al.out).2.1;have ck:Kd.F k53 _ _ aC ah.length ah:=(Kd.V_at (base:=w.heap.size) (Kd.N_V al.out)).2.2;have du:(0:Int)≤(ai:Int):=of_decide_eq_true sA;have bO:=cut_from (P:=Tryd.prog) 31 53 .i64 Tryd.underlying31 bp 7 bq aC ah.length aw ai du dr;have aX:=Kd.F_cut (m:=(ai:Int).toNat) (c:=aw) ck (by omega) aq;obtain⟨dT,bi⟩:∃ A1,A1=(if aw=(ai:Int).toNat then aC else (aC:Option Addr).map (·.add ((ai:Int).toNat * 7))):=⟨_,rfl⟩;obtain⟨dU,bj⟩:∃ c1,c1=aw - (ai:Int).toNat:=⟨_,rfl⟩;have aY:am.length=ah.length - (ai:Int).toNat:=(by rw [bR.out,List.length_drop]<;>omega);rw [show (ah).drop (ai:Int).toNat=am from bR.out.symm] at aX;replace aX:Kd.F k53 _ _ dT am.length am:=(by rw [bi];exact aX);rw [← aY,← bi,← bj] at bO;have aZ:=qaa.mk (show Kd.V k53 53 _ w.heap.size _ (.slice dT am.length dU) am from Kd.V_mk (by rw [aY,bj];exact Nat.sub_le_sub_right aq _) aX);have dV:=qaa.mk (show am.length≤dU from by rw [aY,bj];exact Nat.sub_le_sub_right aq _);clear aX ck aq bp bq bj;have et:=qaa.mk aY;have eu:=qaa.mk bi;clear aY bi;replace dr:=eq_true dr)|((with_reducible refine qaB (b:=.append) (xs:=#[.tmp 48,.tmp 51]) rfl ?_);at_builtin;refine Kd.N_append_rows k53 (w0:=w) w.heap.size rfl (.tmp 48) (.tmp 51) 31 53 (.agg #[(.int .i64 0),(.int .i64 0),(.int .i64 0),(.int .i64 0),(.int .i64 0),(.slice none 0 0),(.slice none 0 0)]) 88 rfl Tryd.underlying31 info53 rfl (by decide) (by omega) bN aQ am _ _ _ (fun k_=>(af k_∨w.heap.size≤k_)∧k_≠aa) (fun k_=>((fun k_=>(af k_∨w.heap.size≤k_)∧k_≠aa)) k_∧some k_≠(bN:Value).ownBlock) rfl rfl ?aO ?aR (fun _ hk=>hk) ?aF ?aB ?aS ?aL ?_;(case aR=>exact (by skip;exact Kd.V_F (Kd.V_mono (ok':=(fun k_=>((fun k_=>(af k_∨w.heap.size≤k_)∧k_≠aa)) k_∧some k_≠(bN:Value).ownBlock)) (aZ.out) (fun k_ hk=>⟨⟨hk.1.1,hk.1.2⟩,hk.2⟩))));(case aB=>exact sB);(case aF=>exact (fun k_ hk=>⟨(.inr (Nat.le_trans (qac sB) hk)),Kd.freshB (g:=aa) (o:=.cells #[.int .i64 au,.int .i64 av,.slice (some bn) ab.length c0_2] 33 (0,0)) (sK ag.out) k_ hk⟩));(case aO=>exact (sN aW.out));(case aS=>exact (qac sB));(case aL=>have:=dm.out;omega);intro ev fI ho hb hg hat;rw [← dn.out] at ho;replace al:=qaa.mk (Kd.N_afterv (ok:=(fun k_=>(af k_∨w.heap.size≤k_)∧k_≠aa)) (sN al.out) hg hat);replace ae:=qaa.mk (Kd.V_afterv (ok:=(fun k_=>(af k_∨w.heap.size≤k_)∧some k_≠(.slice aC ah.length aw:Value).ownBlock∧k_≠aa)) (sV ae.out) hg hat);replace ag:=qaa.mk (sKg ag.out hg (Kd.N_ne aW.out ag.out (by decide)));replace ar:=qaa.mk (Kd.V_afterv (ok:=(fun k_=>(af k_∨w.heap.size≤k_)∧k_≠aa)) (sV ar.out) hg hat);replace aj:=qaa.mk (Kd.V_afterv (ok:=(fun k_=>(af k_∨w.heap.size≤k_)∧some k_≠(.slice aC ah.length aw:Value).ownBlock∧k_≠aa)) (sV aj.out) hg hat);replace ak:=qaa.mk (Kd.V_afterv (ok:=(fun k_=>(af k_∨w.heap.size≤k_)∧some k_≠(.slice aC ah.length aw:Value).ownBlock∧k_≠aa)) (sV ak.out) hg hat);replace aZ:=qaa.mk (Kd.V_afterv (ok:=(fun k_=>(af k_∨w.heap.size≤k_)∧k_≠aa)) (sV aZ.out) hg hat);replace HB:=qaa.mk (hb);have dv:=qaa.mk (ho);clear aW ho hb hg hat))
                repeat (go_quiet (first|((with_reducible refine qap (N:=35) rfl ?_);refine Kd.N_lit k53 _ 53 ?hg (N':=35) ?hd (xs:=([]:List (S53))) (inner:=[]) (ok:=(fun k_=>(af k_∨w.heap.size≤k_)∧some k_≠(.slice aC ah.length aw:Value).ownBlock∧k_≠aa)) (okp:=(fun k_=>(af k_∨w.heap.size≤k_)∧some k_≠(.slice aC ah.length aw:Value).ownBlock∧k_≠aa)) ?hr ?hp (fun _ hk=>hk) ((show ∀ k_,wc.heap.size≤k_→(fun k_=>(af k_∨w.heap.size≤k_)∧some k_≠(.slice aC ah.length aw:Value).ownBlock∧k_≠aa) k_ from fun k_ hk=>⟨(.inr (Nat.le_trans (qac sB) hk)),Kd.fresh' (Kd.N_lt (sN al.out)) k_ hk,Kd.freshB (g:=aa) (o:=.cells #[.int .i64 au,.int .i64 av,.slice A0_2 ab.length c0_2] 33 (0,0)) (sK ag.out) k_ hk⟩) _ (Nat.le_refl _)) (Below.refl _ _) (Nat.le_refl _) (by simp) ?_;(case hd=>rfl);(case hg=>rfl);(case hr=>first|(go_simp;done)|(go_simp;rfl));(case hp=>exact (Reps.none _ _));intro bD fG aE hb hg_ hnew_;clear hg_ hnew_;(first|rw [← bP.out] at aE|(simp only [Int.reduceToNat] at aE;rw [← bP.out] at aE));replace al:=qaa.mk (Kd.N_elder' (sN al.out) (Kd.N_base aE) hb);replace ae:=qaa.mk (Kd.V_elder' (sV ae.out) (Kd.N_base aE) hb);have aU:=qaa.mk (Kd.N_lower aE (qac sB));replace ag:=qaa.mk (sKb ag.out hb);replace HB:=qaa.mk (qai sB hb);clear hb aE;have dp:(ai:Int)≤((ah.length:Int):Int):=of_decide_eq_true sA;obtain⟨ep,bm,_,cg,_⟩:=info_parts info53;have aH:ah.length≤aw:=(Kd.N_reads' al.out).2.1;have cj:Kd.F k53 _ _ aC ah.length ah:=(Kd.V_at (base:=w.heap.size) (Kd.N_V al.out)).2.2;have bE:=cut_to (P:=Tryd.prog) 31 53 .i64 Tryd.underlying31 bm aC ah.length aw ai (of_decide_eq_true sA) dp aH;have bF:=Kd.F_take (m:=(ai:Int).toNat) cj (by omega);have bG:aD.length=(ai:Int).toNat:=(by rw [bQ.out,List.length_take];omega);rw [← bQ.out] at bF;rw [← bG] at bE;have ar:=qaa.mk (show Kd.V k53 53 _ w.heap.size _ (.slice aC aD.length aw) aD from Kd.V_mk (by omega) bF);have dP:=qaa.mk (show aD.length≤aw from by omega);clear bF cj aH bm cg;have eq:=qaa.mk bG;clear bG;replace dp:=eq_true dp)|((with_reducible refine qaB (b:=.append) (xs:=#[.tmp 35,.tmp 38]) rfl ?_);at_builtin;refine Kd.N_append_rows k53 (w0:=w) w.heap.size rfl (.tmp 35) (.tmp 38) 31 53 (.agg #[(.int .i64 0),(.int .i64 0),(.int .i64 0),(.int .i64 0),(.int .i64 0),(.slice none 0 0),(.slice none 0 0)]) 88 rfl Tryd.underlying31 info53 rfl (by decide) (by omega) bD bt aD _ _ _ (fun k_=>(af k_∨w.heap.size≤k_)∧k_≠aa) (fun k_=>((fun k_=>(af k_∨w.heap.size≤k_)∧k_≠aa)) k_∧some k_≠(bD:Value).ownBlock) rfl rfl ?aO ?aR (fun _ hk=>hk) ?aF ?aB ?aS ?aL ?_;(case aR=>exact (by skip;exact Kd.V_F (Kd.V_mono (ok':=(fun k_=>((fun k_=>(af k_∨w.heap.size≤k_)∧k_≠aa)) k_∧some k_≠(bD:Value).ownBlock)) (ar.out) (fun k_ hk=>⟨⟨hk.1.1,hk.1.2⟩,hk.2⟩))));(case aB=>exact sB);(case aF=>exact (fun k_ hk=>⟨(.inr (Nat.le_trans (qac sB) hk)),Kd.freshB (g:=aa) (o:=.cells #[.int .i64 au,.int .i64 av,.slice A0_2 ab.length c0_2] 33 (0,0)) (sK ag.out) k_ hk⟩));(case aO=>exact (by refine sNm ?_;exact Kd.N_mono aU.out (fun _ hk=>⟨hk.1,hk.2.2⟩)));(case aS=>exact (qac sB));(case aL=>have:=di.out;omega);intro aT er ho hb hg hat;rw [← dj.out] at ho;replace al:=qaa.mk (Kd.N_afterv (ok:=(fun k_=>(af k_∨w.heap.size≤k_)∧k_≠aa)) (sN al.out) hg hat);replace ae:=qaa.mk (Kd.V_afterv (ok:=(fun k_=>(af k_∨w.heap.size≤k_)∧some k_≠(.slice aC ah.length aw:Value).ownBlock∧k_≠aa)) (sV ae.out) hg hat);replace ag:=qaa.mk (sKg ag.out hg (Kd.N_ne aU.out ag.out (by decide)));replace ar:=qaa.mk (Kd.V_afterv (ok:=(fun k_=>(af k_∨w.heap.size≤k_)∧k_≠aa)) (sV ar.out) hg hat);replace HB:=qaa.mk (hb);have aV:=qaa.mk (ho);clear aU ho hb hg hat;obtain⟨cE,cF,cG⟩:=sC3 (w:=er) ag.out;obtain⟨cH,cI,cJ⟩:=sF3 ag.out;have be:0≤(ac:Int):=of_decide_eq_true sA;have bf:ac<(ab.length:Int):=of_decide_eq_true sA;obtain⟨bn,bH,bI,bJ,bK,dq,cK,cL,cM,cN,cO,bg,bh,aI,aJ,aK,aM⟩:=at_T53 (Kd.V_reads' ae.out).2.2 ac be bf;cases dq;obtain⟨dQ,bL,bM,aG⟩:=Kd.V_get ae.out z53 ac be (by first|exact bf|exact of_decide_eq_true sA|(have e_:=(Kd.V_reads' ae.out).1;omega));obtain⟨cP,cQ,cR,cS,rfl,ax,ay,az,aA⟩:=qa8 bM;have an:=aG 5 _ rfl;rw [qat _ _ 5 (by omega)] at an;replace an:=Option.some.inj (an.symm.trans bg);injection an with hva_ hvn_ hvc_;rw [hva_] at ay;rw [hvc_] at ax;have aj:=qaa.mk (show Kd.V (Kd.int .i64) 2 _ w.heap.size _ _ ((qaj ab ac).f5) from Kd.V_mk ax ay);clear hva_ hvn_ hvc_ ay ax;have ap:=aG 6 _ rfl;rw [qat _ _ 6 (by omega)] at ap;replace ap:=Option.some.inj (ap.symm.trans bh);injection ap with hva_ hvn_ hvc_;rw [hva_] at aA;rw [hvc_] at az;have ak:=qaa.mk (show Kd.V (Kd.int .i64) 3 _ w.heap.size _ _ ((qaj ab ac).f6) from Kd.V_mk az aA);clear hva_ hvn_ hvc_ aA az aG bL;have cT:=qaa.mk aJ;have cU:=qaa.mk aI;clear aJ aI;have cV:=qaa.mk aM;have cW:=qaa.mk aK;clear aM aK;replace be:=eq_true be;replace bf:=eq_true bf)|((with_reducible refine qaB (b:=.append) (xs:=#[.tmp 40,.tmp 46]) rfl ?_);at_builtin;refine Kd.N_append k53 (w0:=w) w.heap.size rfl (.tmp 40) (.tmp 46) 31 53 (.agg #[(.int .i64 0),(.int .i64 0),(.int .i64 0),(.int .i64 0),(.int .i64 0),(.slice none 0 0),(.slice none 0 0)]) 88 rfl Tryd.underlying31 info53 rfl (by decide) (by omega) aT a8 (⟨(qaj ab ac).f0,(qaj ab ac).f1,(qaj ab ac).f2,(qaj ab ac).f3,(qaj ab ac).f4,(qaj ab ac).f5,(qaj ab ac).f6⟩:S53) [.int .i64 ((qaj ab ac).f0),.int .i64 ((qaj ab ac).f1),.int .i64 ((qaj ab ac).f2),.int .i64 ((qaj ab ac).f3),.int .i64 ((qaj ab ac).f4),.slice bH ((qaj ab ac).f5).length bI,.slice bJ ((qaj ab ac).f6).length bK] (fun k_=>(af k_∨w.heap.size≤k_)∧k_≠aa) (fun k_=>((fun k_=>(af k_∨w.heap.size≤k_)∧k_≠aa)) k_∧some k_≠(aT:Value).ownBlock) rfl rfl ?aP (fun _ hk=>hk) ?aF ?aO ?aB ?aS ?aL ?_;(case aP=>exact (k53_mkF _ _ (⟨(qaj ab ac).f0,(qaj ab ac).f1,(qaj ab ac).f2,(qaj ab ac).f3,(qaj ab ac).f4,(qaj ab ac).f5,(qaj ab ac).f6⟩:S53) (Kd.V_reads' (Kd.V_mono (ok':=(fun k_=>((fun k_=>(af k_∨w.heap.size≤k_)∧k_≠aa)) k_∧some k_≠(aT:Value).ownBlock)) (aj.out) (fun k_ hk=>⟨⟨hk.1.1,hk.1.2.2⟩,hk.2⟩))).2.1 (Kd.V_F (Kd.V_mono (ok':=(fun k_=>((fun k_=>(af k_∨w.heap.size≤k_)∧k_≠aa)) k_∧some k_≠(aT:Value).ownBlock)) (aj.out) (fun k_ hk=>⟨⟨hk.1.1,hk.1.2.2⟩,hk.2⟩))) (Kd.V_reads' (Kd.V_mono (ok':=(fun k_=>((fun k_=>(af k_∨w.heap.size≤k_)∧k_≠aa)) k_∧some k_≠(aT:Value).ownBlock)) (ak.out) (fun k_ hk=>⟨⟨hk.1.1,hk.1.2.2⟩,hk.2⟩))).2.1 (Kd.V_F (Kd.V_mono (ok':=(fun k_=>((fun k_=>(af k_∨w.heap.size≤k_)∧k_≠aa)) k_∧some k_≠(aT:Value).ownBlock)) (ak.out) (fun k_ hk=>⟨⟨hk.1.1,hk.1.2.2⟩,hk.2⟩)))));(case aB=>exact sB);(case aF=>exact (fun k_ hk=>⟨(.inr (Nat.le_trans (qac sB) hk)),Kd.freshB (g:=aa) (o:=.cells #[.int .i64 au,.int .i64 av,.slice (some bn) ab.length c0_2] 33 (0,0)) (sK ag.out) k_ hk⟩));(case aO=>exact (sN aV.out));(case aS=>exact (qac sB));(case aL=>have:=dk.out;omega);intro bN fH ho hb hg hat;rw [← dl.out] at ho;replace al:=qaa.mk (Kd.N_afterv (ok:=(fun k_=>(af k_∨w.heap.size≤k_)∧k_≠aa)) (sN al.out) hg hat);replace ae:=qaa.mk (Kd.V_afterv (ok:=(fun k_=>(af k_∨w.heap.size≤k_)∧some k_≠(.slice aC ah.length aw:Value).ownBlock∧k_≠aa)) (sV ae.out) hg hat);replace ag:=qaa.mk (sKg ag.out hg (Kd.N_ne aV.out ag.out (by decide)));replace ar:=qaa.mk (Kd.V_afterv (ok:=(fun k_=>(af k_∨w.heap.size≤k_)∧k_≠aa)) (sV ar.out) hg hat);replace aj:=qaa.mk (Kd.V_afterv (ok:=(fun k_=>(af k_∨w.heap.size≤k_)∧some k_≠(.slice aC ah.length aw:Value).ownBlock∧k_≠aa)) (sV aj.out) hg hat);replace ak:=qaa.mk (Kd.V_afterv (ok:=(fun k_=>(af k_∨w.heap.size≤k_)∧some k_≠(.slice aC ah.length aw:Value).ownBlock∧k_≠aa)) (sV ak.out) hg hat);replace HB:=qaa.mk (hb);have aW:=qaa.mk (ho);clear aV ho hb hg hat;have dr:(ai:Int)≤((ah.length:Int):Int):=of_decide_eq_true sA;obtain⟨es,bp,_,bq,_⟩:=info_parts info53;have aq:ah.length≤aw:=(Kd.N_reads' al.out).2.1;have ck:Kd.F k53 _ _ aC ah.length ah:=(Kd.V_at (base:=w.heap.size) (Kd.N_V al.out)).2.2;have du:(0:Int)≤(ai:Int):=of_decide_eq_true sA;have bO:=cut_from (P:=Tryd.prog) 31 53 .i64 Tryd.underlying31 bp 7 bq aC ah.length aw ai du dr;have aX:=Kd.F_cut (m:=(ai:Int).toNat) (c:=aw) ck (by omega) aq;obtain⟨dT,bi⟩:∃ A1,A1=(if aw=(ai:Int).toNat then aC else (aC:Option Addr).map (·.add ((ai:Int).toNat * 7))):=⟨_,rfl⟩;obtain⟨dU,bj⟩:∃ c1,c1=aw - (ai:Int).toNat:=⟨_,rfl⟩;have aY:am.length=ah.length - (ai:Int).toNat:=(by rw [bR.out,List.length_drop]<;>omega);rw [show (ah).drop (ai:Int).toNat=am from bR.out.symm] at aX;replace aX:Kd.F k53 _ _ dT am.length am:=(by rw [bi];exact aX);rw [← aY,← bi,← bj] at bO;have aZ:=qaa.mk (show Kd.V k53 53 _ w.heap.size _ (.slice dT am.length dU) am from Kd.V_mk (by rw [aY,bj];exact Nat.sub_le_sub_right aq _) aX);have dV:=qaa.mk (show am.length≤dU from by rw [aY,bj];exact Nat.sub_le_sub_right aq _);clear aX ck aq bp bq bj;have et:=qaa.mk aY;have eu:=qaa.mk bi;clear aY bi;replace dr:=eq_true dr)|((with_reducible refine qaB (b:=.append) (xs:=#[.tmp 48,.tmp 51]) rfl ?_);at_builtin;refine Kd.N_append_rows k53 (w0:=w) w.heap.size rfl (.tmp 48) (.tmp 51) 31 53 (.agg #[(.int .i64 0),(.int .i64 0),(.int .i64 0),(.int .i64 0),(.int .i64 0),(.slice none 0 0),(.slice none 0 0)]) 88 rfl Tryd.underlying31 info53 rfl (by decide) (by omega) bN aQ am _ _ _ (fun k_=>(af k_∨w.heap.size≤k_)∧k_≠aa) (fun k_=>((fun k_=>(af k_∨w.heap.size≤k_)∧k_≠aa)) k_∧some k_≠(bN:Value).ownBlock) rfl rfl ?aO ?aR (fun _ hk=>hk) ?aF ?aB ?aS ?aL ?_;(case aR=>exact (by skip;exact Kd.V_F (Kd.V_mono (ok':=(fun k_=>((fun k_=>(af k_∨w.heap.size≤k_)∧k_≠aa)) k_∧some k_≠(bN:Value).ownBlock)) (aZ.out) (fun k_ hk=>⟨⟨hk.1.1,hk.1.2⟩,hk.2⟩))));(case aB=>exact sB);(case aF=>exact (fun k_ hk=>⟨(.inr (Nat.le_trans (qac sB) hk)),Kd.freshB (g:=aa) (o:=.cells #[.int .i64 au,.int .i64 av,.slice (some bn) ab.length c0_2] 33 (0,0)) (sK ag.out) k_ hk⟩));(case aO=>exact (sN aW.out));(case aS=>exact (qac sB));(case aL=>have:=dm.out;omega);intro ev fI ho hb hg hat;rw [← dn.out] at ho;replace al:=qaa.mk (Kd.N_afterv (ok:=(fun k_=>(af k_∨w.heap.size≤k_)∧k_≠aa)) (sN al.out) hg hat);replace ae:=qaa.mk (Kd.V_afterv (ok:=(fun k_=>(af k_∨w.heap.size≤k_)∧some k_≠(.slice aC ah.length aw:Value).ownBlock∧k_≠aa)) (sV ae.out) hg hat);replace ag:=qaa.mk (sKg ag.out hg (Kd.N_ne aW.out ag.out (by decide)));replace ar:=qaa.mk (Kd.V_afterv (ok:=(fun k_=>(af k_∨w.heap.size≤k_)∧k_≠aa)) (sV ar.out) hg hat);replace aj:=qaa.mk (Kd.V_afterv (ok:=(fun k_=>(af k_∨w.heap.size≤k_)∧some k_≠(.slice aC ah.length aw:Value).ownBlock∧k_≠aa)) (sV aj.out) hg hat);replace ak:=qaa.mk (Kd.V_afterv (ok:=(fun k_=>(af k_∨w.heap.size≤k_)∧some k_≠(.slice aC ah.length aw:Value).ownBlock∧k_≠aa)) (sV ak.out) hg hat);replace aZ:=qaa.mk (Kd.V_afterv (ok:=(fun k_=>(af k_∨w.heap.size≤k_)∧k_≠aa)) (sV aZ.out) hg hat);replace HB:=qaa.mk (hb);have dv:=qaa.mk (ho);clear aW ho hb hg hat));try go_wp2_with (first|((with_reducible refine qap (N:=35) rfl ?_);refine Kd.N_lit k53 _ 53 ?hg (N':=35) ?hd (xs:=([]:List (S53))) (inner:=[]) (ok:=(fun k_=>(af k_∨w.heap.size≤k_)∧some k_≠(.slice aC ah.length aw:Value).ownBlock∧k_≠aa)) (okp:=(fun k_=>(af k_∨w.heap.size≤k_)∧some k_≠(.slice aC ah.length aw:Value).ownBlock∧k_≠aa)) ?hr ?hp (fun _ hk=>hk) ((show ∀ k_,wc.heap.size≤k_→(fun k_=>(af k_∨w.heap.size≤k_)∧some k_≠(.slice aC ah.length aw:Value).ownBlock∧k_≠aa) k_ from fun k_ hk=>⟨(.inr (Nat.le_trans (qac sB) hk)),Kd.fresh' (Kd.N_lt (sN al.out)) k_ hk,Kd.freshB (g:=aa) (o:=.cells #[.int .i64 au,.int .i64 av,.slice A0_2 ab.length c0_2] 33 (0,0)) (sK ag.out) k_ hk⟩) _ (Nat.le_refl _)) (Below.refl _ _) (Nat.le_refl _) (by simp) ?_;(case hd=>rfl);(case hg=>rfl);(case hr=>first|(go_simp;done)|(go_simp;rfl));(case hp=>exact (Reps.none _ _));intro bD fG aE hb hg_ hnew_;clear hg_ hnew_;(first|rw [← bP.out] at aE|(simp only [Int.reduceToNat] at aE;rw [← bP.out] at aE));replace al:=qaa.mk (Kd.N_elder' (sN al.out) (Kd.N_base aE) hb);replace ae:=qaa.mk (Kd.V_elder' (sV ae.out) (Kd.N_base aE) hb);have aU:=qaa.mk (Kd.N_lower aE (qac sB));replace ag:=qaa.mk (sKb ag.out hb);replace HB:=qaa.mk (qai sB hb);clear hb aE;have dp:(ai:Int)≤((ah.length:Int):Int):=of_decide_eq_true sA;obtain⟨ep,bm,_,cg,_⟩:=info_parts info53;have aH:ah.length≤aw:=(Kd.N_reads' al.out).2.1;have cj:Kd.F k53 _ _ aC ah.length ah:=(Kd.V_at (base:=w.heap.size) (Kd.N_V al.out)).2.2;have bE:=cut_to (P:=Tryd.prog) 31 53 .i64 Tryd.underlying31 bm aC ah.length aw ai (of_decide_eq_true sA) dp aH;have bF:=Kd.F_take (m:=(ai:Int).toNat) cj (by omega);have bG:aD.length=(ai:Int).toNat:=(by rw [bQ.out,List.length_take];omega);rw [← bQ.out] at bF;rw [← bG] at bE;have ar:=qaa.mk (show Kd.V k53 53 _ w.heap.size _ (.slice aC aD.length aw) aD from Kd.V_mk (by omega) bF);have dP:=qaa.mk (show aD.length≤aw from by omega);clear bF cj aH bm cg;have eq:=qaa.mk bG;clear bG;replace dp:=eq_true dp)|((with_reducible refine qaB (b:=.append) (xs:=#[.tmp 35,.tmp 38]) rfl ?_);at_builtin;refine Kd.N_append_rows k53 (w0:=w) w.heap.size rfl (.tmp 35) (.tmp 38) 31 53 (.agg #[(.int .i64 0),(.int .i64 0),(.int .i64 0),(.int .i64 0),(.int .i64 0),(.slice none 0 0),(.slice none 0 0)]) 88 rfl Tryd.underlying31 info53 rfl (by decide) (by omega) bD bt aD _ _ _ (fun k_=>(af k_∨w.heap.size≤k_)∧k_≠aa) (fun k_=>((fun k_=>(af k_∨w.heap.size≤k_)∧k_≠aa)) k_∧some k_≠(bD:Value).ownBlock) rfl rfl ?aO ?aR (fun _ hk=>hk) ?aF ?aB ?aS ?aL ?_;(case aR=>exact (by skip;exact Kd.V_F (Kd.V_mono (ok':=(fun k_=>((fun k_=>(af k_∨w.heap.size≤k_)∧k_≠aa)) k_∧some k_≠(bD:Value).ownBlock)) (ar.out) (fun k_ hk=>⟨⟨hk.1.1,hk.1.2⟩,hk.2⟩))));(case aB=>exact sB);(case aF=>exact (fun k_ hk=>⟨(.inr (Nat.le_trans (qac sB) hk)),Kd.freshB (g:=aa) (o:=.cells #[.int .i64 au,.int .i64 av,.slice A0_2 ab.length c0_2] 33 (0,0)) (sK ag.out) k_ hk⟩));(case aO=>exact (by refine sNm ?_;exact Kd.N_mono aU.out (fun _ hk=>⟨hk.1,hk.2.2⟩)));(case aS=>exact (qac sB));(case aL=>have:=di.out;omega);intro aT er ho hb hg hat;rw [← dj.out] at ho;replace al:=qaa.mk (Kd.N_afterv (ok:=(fun k_=>(af k_∨w.heap.size≤k_)∧k_≠aa)) (sN al.out) hg hat);replace ae:=qaa.mk (Kd.V_afterv (ok:=(fun k_=>(af k_∨w.heap.size≤k_)∧some k_≠(.slice aC ah.length aw:Value).ownBlock∧k_≠aa)) (sV ae.out) hg hat);replace ag:=qaa.mk (sKg ag.out hg (Kd.N_ne aU.out ag.out (by decide)));replace ar:=qaa.mk (Kd.V_afterv (ok:=(fun k_=>(af k_∨w.heap.size≤k_)∧k_≠aa)) (sV ar.out) hg hat);replace HB:=qaa.mk (hb);have aV:=qaa.mk (ho);clear aU ho hb hg hat;obtain⟨cE,cF,cG⟩:=sC3 (w:=er) ag.out;obtain⟨cH,cI,cJ⟩:=sF3 ag.out;have be:0≤(ac:Int):=of_decide_eq_true sA;have bf:ac<(ab.length:Int):=of_decide_eq_true sA;obtain⟨bn,bH,bI,bJ,bK,dq,cK,cL,cM,cN,cO,bg,bh,aI,aJ,aK,aM⟩:=at_T53 (Kd.V_reads' ae.out).2.2 ac be bf;cases dq;obtain⟨dQ,bL,bM,aG⟩:=Kd.V_get ae.out z53 ac be (by first|exact bf|exact of_decide_eq_true sA|(have e_:=(Kd.V_reads' ae.out).1;omega));obtain⟨cP,cQ,cR,cS,rfl,ax,ay,az,aA⟩:=qa8 bM;have an:=aG 5 _ rfl;rw [qat _ _ 5 (by omega)] at an;replace an:=Option.some.inj (an.symm.trans bg);injection an with hva_ hvn_ hvc_;rw [hva_] at ay;rw [hvc_] at ax;have aj:=qaa.mk (show Kd.V (Kd.int .i64) 2 _ w.heap.size _ _ ((qaj ab ac).f5) from Kd.V_mk ax ay);clear hva_ hvn_ hvc_ ay ax;have ap:=aG 6 _ rfl;rw [qat _ _ 6 (by omega)] at ap;replace ap:=Option.some.inj (ap.symm.trans bh);injection ap with hva_ hvn_ hvc_;rw [hva_] at aA;rw [hvc_] at az;have ak:=qaa.mk (show Kd.V (Kd.int .i64) 3 _ w.heap.size _ _ ((qaj ab ac).f6) from Kd.V_mk az aA);clear hva_ hvn_ hvc_ aA az aG bL;have cT:=qaa.mk aJ;have cU:=qaa.mk aI;clear aJ aI;have cV:=qaa.mk aM;have cW:=qaa.mk aK;clear aM aK;replace be:=eq_true be;replace bf:=eq_true bf)|((with_reducible refine qaB (b:=.append) (xs:=#[.tmp 40,.tmp 46]) rfl ?_);at_builtin;refine Kd.N_append k53 (w0:=w) w.heap.size rfl (.tmp 40) (.tmp 46) 31 53 (.agg #[(.int .i64 0),(.int .i64 0),(.int .i64 0),(.int .i64 0),(.int .i64 0),(.slice none 0 0),(.slice none 0 0)]) 88 rfl Tryd.underlying31 info53 rfl (by decide) (by omega) aT a8 (⟨(qaj ab ac).f0,(qaj ab ac).f1,(qaj ab ac).f2,(qaj ab ac).f3,(qaj ab ac).f4,(qaj ab ac).f5,(qaj ab ac).f6⟩:S53) [.int .i64 ((qaj ab ac).f0),.int .i64 ((qaj ab ac).f1),.int .i64 ((qaj ab ac).f2),.int .i64 ((qaj ab ac).f3),.int .i64 ((qaj ab ac).f4),.slice bH ((qaj ab ac).f5).length bI,.slice bJ ((qaj ab ac).f6).length bK] (fun k_=>(af k_∨w.heap.size≤k_)∧k_≠aa) (fun k_=>((fun k_=>(af k_∨w.heap.size≤k_)∧k_≠aa)) k_∧some k_≠(aT:Value).ownBlock) rfl rfl ?aP (fun _ hk=>hk) ?aF ?aO ?aB ?aS ?aL ?_;(case aP=>exact (k53_mkF _ _ (⟨(qaj ab ac).f0,(qaj ab ac).f1,(qaj ab ac).f2,(qaj ab ac).f3,(qaj ab ac).f4,(qaj ab ac).f5,(qaj ab ac).f6⟩:S53) (Kd.V_reads' (Kd.V_mono (ok':=(fun k_=>((fun k_=>(af k_∨w.heap.size≤k_)∧k_≠aa)) k_∧some k_≠(aT:Value).ownBlock)) (aj.out) (fun k_ hk=>⟨⟨hk.1.1,hk.1.2.2⟩,hk.2⟩))).2.1 (Kd.V_F (Kd.V_mono (ok':=(fun k_=>((fun k_=>(af k_∨w.heap.size≤k_)∧k_≠aa)) k_∧some k_≠(aT:Value).ownBlock)) (aj.out) (fun k_ hk=>⟨⟨hk.1.1,hk.1.2.2⟩,hk.2⟩))) (Kd.V_reads' (Kd.V_mono (ok':=(fun k_=>((fun k_=>(af k_∨w.heap.size≤k_)∧k_≠aa)) k_∧some k_≠(aT:Value).ownBlock)) (ak.out) (fun k_ hk=>⟨⟨hk.1.1,hk.1.2.2⟩,hk.2⟩))).2.1 (Kd.V_F (Kd.V_mono (ok':=(fun k_=>((fun k_=>(af k_∨w.heap.size≤k_)∧k_≠aa)) k_∧some k_≠(aT:Value).ownBlock)) (ak.out) (fun k_ hk=>⟨⟨hk.1.1,hk.1.2.2⟩,hk.2⟩)))));(case aB=>exact sB);(case aF=>exact (fun k_ hk=>⟨(.inr (Nat.le_trans (qac sB) hk)),Kd.freshB (g:=aa) (o:=.cells #[.int .i64 au,.int .i64 av,.slice (some bn) ab.length c0_2] 33 (0,0)) (sK ag.out) k_ hk⟩));(case aO=>exact (sN aV.out));(case aS=>exact (qac sB));(case aL=>have:=dk.out;omega);intro bN fH ho hb hg hat;rw [← dl.out] at ho;replace al:=qaa.mk (Kd.N_afterv (ok:=(fun k_=>(af k_∨w.heap.size≤k_)∧k_≠aa)) (sN al.out) hg hat);replace ae:=qaa.mk (Kd.V_afterv (ok:=(fun k_=>(af k_∨w.heap.size≤k_)∧some k_≠(.slice aC ah.length aw:Value).ownBlock∧k_≠aa)) (sV ae.out) hg hat);replace ag:=qaa.mk (sKg ag.out hg (Kd.N_ne aV.out ag.out (by decide)));replace ar:=qaa.mk (Kd.V_afterv (ok:=(fun k_=>(af k_∨w.heap.size≤k_)∧k_≠aa)) (sV ar.out) hg hat);replace aj:=qaa.mk (Kd.V_afterv (ok:=(fun k_=>(af k_∨w.heap.size≤k_)∧some k_≠(.slice aC ah.length aw:Value).ownBlock∧k_≠aa)) (sV aj.out) hg hat);replace ak:=qaa.mk (Kd.V_afterv (ok:=(fun k_=>(af k_∨w.heap.size≤k_)∧some k_≠(.slice aC ah.length aw:Value).ownBlock∧k_≠aa)) (sV ak.out) hg hat);replace HB:=qaa.mk (hb);have aW:=qaa.mk (ho);clear aV ho hb hg hat;have dr:(ai:Int)≤((ah.length:Int):Int):=of_decide_eq_true sA;obtain⟨es,bp,_,bq,_⟩:=info_parts info53;have aq:ah.length≤aw:=(Kd.N_reads' al.out).2.1;have ck:Kd.F k53 _ _ aC ah.length ah:=(Kd.V_at (base:=w.heap.size) (Kd.N_V al.out)).2.2;have du:(0:Int)≤(ai:Int):=of_decide_eq_true sA;have bO:=cut_from (P:=Tryd.prog) 31 53 .i64 Tryd.underlying31 bp 7 bq aC ah.length aw ai du dr;have aX:=Kd.F_cut (m:=(ai:Int).toNat) (c:=aw) ck (by omega) aq;obtain⟨dT,bi⟩:∃ A1,A1=(if aw=(ai:Int).toNat then aC else (aC:Option Addr).map (·.add ((ai:Int).toNat * 7))):=⟨_,rfl⟩;obtain⟨dU,bj⟩:∃ c1,c1=aw - (ai:Int).toNat:=⟨_,rfl⟩;have aY:am.length=ah.length - (ai:Int).toNat:=(by rw [bR.out,List.length_drop]<;>omega);rw [show (ah).drop (ai:Int).toNat=am from bR.out.symm] at aX;replace aX:Kd.F k53 _ _ dT am.length am:=(by rw [bi];exact aX);rw [← aY,← bi,← bj] at bO;have aZ:=qaa.mk (show Kd.V k53 53 _ w.heap.size _ (.slice dT am.length dU) am from Kd.V_mk (by rw [aY,bj];exact Nat.sub_le_sub_right aq _) aX);have dV:=qaa.mk (show am.length≤dU from by rw [aY,bj];exact Nat.sub_le_sub_right aq _);clear aX ck aq bp bq bj;have et:=qaa.mk aY;have eu:=qaa.mk bi;clear aY bi;replace dr:=eq_true dr)|((with_reducible refine qaB (b:=.append) (xs:=#[.tmp 48,.tmp 51]) rfl ?_);at_builtin;refine Kd.N_append_rows k53 (w0:=w) w.heap.size rfl (.tmp 48) (.tmp 51) 31 53 (.agg #[(.int .i64 0),(.int .i64 0),(.int .i64 0),(.int .i64 0),(.int .i64 0),(.slice none 0 0),(.slice none 0 0)]) 88 rfl Tryd.underlying31 info53 rfl (by decide) (by omega) bN aQ am _ _ _ (fun k_=>(af k_∨w.heap.size≤k_)∧k_≠aa) (fun k_=>((fun k_=>(af k_∨w.heap.size≤k_)∧k_≠aa)) k_∧some k_≠(bN:Value).ownBlock) rfl rfl ?aO ?aR (fun _ hk=>hk) ?aF ?aB ?aS ?aL ?_;(case aR=>exact (by skip;exact Kd.V_F (Kd.V_mono (ok':=(fun k_=>((fun k_=>(af k_∨w.heap.size≤k_)∧k_≠aa)) k_∧some k_≠(bN:Value).ownBlock)) (aZ.out) (fun k_ hk=>⟨⟨hk.1.1,hk.1.2⟩,hk.2⟩))));(case aB=>exact sB);(case aF=>exact (fun k_ hk=>⟨(.inr (Nat.le_trans (qac sB) hk)),Kd.freshB (g:=aa) (o:=.cells #[.int .i64 au,.int .i64 av,.slice (some bn) ab.length c0_2] 33 (0,0)) (sK ag.out) k_ hk⟩));(case aO=>exact (sN aW.out));(case aS=>exact (qac sB));(case aL=>have:=dm.out;omega);intro ev fI ho hb hg hat;rw [← dn.out] at ho;replace al:=qaa.mk (Kd.N_afterv (ok:=(fun k_=>(af k_∨w.heap.size≤k_)∧k_≠aa)) (sN al.out) hg hat);replace ae:=qaa.mk (Kd.V_afterv (ok:=(fun k_=>(af k_∨w.heap.size≤k_)∧some k_≠(.slice aC ah.length aw:Value).ownBlock∧k_≠aa)) (sV ae.out) hg hat);replace ag:=qaa.mk (sKg ag.out hg (Kd.N_ne aW.out ag.out (by decide)));replace ar:=qaa.mk (Kd.V_afterv (ok:=(fun k_=>(af k_∨w.heap.size≤k_)∧k_≠aa)) (sV ar.out) hg hat);replace aj:=qaa.mk (Kd.V_afterv (ok:=(fun k_=>(af k_∨w.heap.size≤k_)∧some k_≠(.slice aC ah.length aw:Value).ownBlock∧k_≠aa)) (sV aj.out) hg hat);replace ak:=qaa.mk (Kd.V_afterv (ok:=(fun k_=>(af k_∨w.heap.size≤k_)∧some k_≠(.slice aC ah.length aw:Value).ownBlock∧k_≠aa)) (sV ak.out) hg hat);replace aZ:=qaa.mk (Kd.V_afterv (ok:=(fun k_=>(af k_∨w.heap.size≤k_)∧k_≠aa)) (sV aZ.out) hg hat);replace HB:=qaa.mk (hb);have dv:=qaa.mk (ho);clear aW ho hb hg hat)))
                go_roundg dw
                case measure=>have:=d8.out;have:=d9.out;have:=eQ.out;omega
                case rel=>exact⟨(en),(aN (ac+1)),(by first|rfl|(simp;done)|(simp [*];done)),H',⟨by have:=d8.out;have:=d9.out;have:=eQ.out;omega⟩,⟨by refine sNm ?_;exact dv.out⟩,⟨by refine sVm ?_;exact Kd.V_mono ae.out (fun _ hk=>⟨hk.1.1,⟨hk.2,hk.1.2.2⟩⟩)⟩,⟨by refine sM ?_;exact ag.out⟩,⟨by repeat (first|(with_reducible first|exact HB.out|apply qah|apply qae|apply qag|refine qad ?_ ba.out)|exact HB.out)⟩⟩
               ·rw [if_neg eW] at H
                exact absurd H (by simp)
              ·rw [if_neg eV] at H
               exact absurd H (by simp)
             ·rw [if_neg eU] at H
              exact absurd H (by simp)
            ·rw [if_neg eT] at H
             exact absurd H (by simp)
           ·rw [if_neg eS] at H
            exact absurd H (by simp)
          ·rw [if_neg el] at H
           exact absurd H (by simp)
         ·rw [if_neg ek] at H
          exact absurd H (by simp)
   ·rw [if_neg c3] at H
    have dW:decide (ac<(ab.length:Int))=false:=decide_eq_false c3
    clear c3
    obtain rfl:=Option.some.inj H
    obtain⟨eX,eY,eZ⟩:=sC3 (w:=wr) ag.out
    obtain⟨fa,fb,fc⟩:=sF3 ag.out
    go_wp2
    repeat (go_quiet (fail);try go_wp2)
    go_ret
    exact⟨_,by first|rfl|(simp [qam,qal]<;>rfl)|(simp [bneNil,bneNilU]<;>rfl)|(simp [*,qam,qal]<;>rfl),by refine sNm ?_;exact Kd.N_mono al.out (fun _ hk=>hk.1),by repeat (first|(with_reducible first|exact HB.out|apply qah|apply qae|apply qag|refine qad ?_ ba.out)|exact HB.out)⟩
end
end Go.Proofs.YtgnaaokhfpfglaaDoor.PCertTold
end
section
namespace Go.Proofs.YtgnaaokhfpfglaaDoor.PCertTold
open Go.RowKit Go.Proofs.YtgnaaokhfpfglaaDoorW.PrintWords Go.Proofs.YtgnaaokhfpfglaaDoorW.PrintLast Go.Proofs.YtgnaaokhfpfglaaDoorW.PrintMore
attribute [local go_sem] qaW qaU qa3 qa2 qaN qaM qaV qaT
set_option linter.unusedVariables false
set_option linter.unusedSimpArgs false
noncomputable section
mutual
def ostinatoref18_Pick_Setup.j0:Nat→Bool→Int→Int→List Int→List Int→Int→Int→List (S53)→Int→Int→List (S53)→Int→Int→Option (Int × Int × (List (S53)) × Int × Int × List Int × List Int)
 |0,_,_,_,_,_,_,_,_,_,_,_,_,_=>none
 |k+1,an,aa,ab,ac,ae,af,ag,ah,ai,aj,ak,al,am=>if an=true then (ostinatoref18_Pick_Setup.j1 k aa ab ac ae af ag ah ai aj ak al 1) else (ostinatoref18_Pick_Setup.j1 k aa ab ac ae af ag ah ai aj ak al am)
def ostinatoref18_Pick_Setup.j1:Nat→Int→Int→List Int→List Int→Int→Int→List (S53)→Int→Int→List (S53)→Int→Int→Option (Int × Int × (List (S53)) × Int × Int × List Int × List Int)
 |0,_,_,_,_,_,_,_,_,_,_,_,_=>none
 |k+1,ae,af,ag,ah,aa,ab,ac,ai,aj,ak,al,am=>(ostinatoref05_ByPrio.f k aa ab ac).bind fun an=>(ostinatoref18_Pick_Setup.l0 k an 0 ae af ag ah aa ab ac ai aj ak al am ([]:List Int) ([]:List Int))
def ostinatoref18_Pick_Setup.l0:Nat→List (S53)→Int→Int→Int→List Int→List Int→Int→Int→List (S53)→Int→Int→List (S53)→Int→Int→List Int→List Int→Option (Int × Int × (List (S53)) × Int × Int × List Int × List Int)
 |0,_,_,_,_,_,_,_,_,_,_,_,_,_,_,_,_=>none
 |k+1,x6,x7,aj,ak,al,am,an,ap,aa,ab,ac,ae,af,ag,ah,ai=>if x7<(aa.length:Int) then (ostinatoref18_Pick_Setup.l1 k x6 x7 ([]:List Int) 0 aj ak al am an ap aa ab ac ae af ag ah ai) else (some (ab,ac,ae,af,ag,ah,ai))
def ostinatoref18_Pick_Setup.l1:Nat→List (S53)→Int→List Int→Int→Int→Int→List Int→List Int→Int→Int→List (S53)→Int→Int→List (S53)→Int→Int→List Int→List Int→Option (Int × Int × (List (S53)) × Int × Int × List Int × List Int)
 |0,_,_,_,_,_,_,_,_,_,_,_,_,_,_,_,_,_,_=>none
 |k+1,x6,x7,x8,x9,ac,ae,aa,af,ag,ah,ab,ai,aj,ak,al,am,an,ap=>if x9<(x6.length:Int) then (if 0≤x9 then (if 0≤x7 then (if x7<(ab.length:Int) then (if ((qaj x6 x9).f4)≤((qaj ab x7).f4) then (if x8.length<17592186044416 then (ostinatoref18_Pick_Setup.l1 k x6 x7 (x8++[(qaj x6 x9).f4]) (aq (x9+1)) ac ae aa af ag ah ab ai aj ak al am an ap) else (none)) else (ostinatoref18_Pick_Setup.l1 k x6 x7 x8 (aq (x9+1)) ac ae aa af ag ah ab ai aj ak al am an ap)) else (none)) else (none)) else (none)) else (if x7<(aa.length:Int) then (if 0≤x7 then (if (x8.length:Int)=0 then (none) else (ostinatoref18_Pick_Setup.j4 k x6 x7 x8 (Int.tmod (aq ((Int.tmod (rd aa x7) (x8.length:Int))+(x8.length:Int))) (x8.length:Int)) ac ae aa af ag ah ab ai aj ak al am an ap)) else (none)) else (ostinatoref18_Pick_Setup.j4 k x6 x7 x8 (aq ((x8.length:Int) - 1)) ac ae aa af ag ah ab ai aj ak al am an ap))
def ostinatoref18_Pick_Setup.j4:Nat→List (S53)→Int→List Int→Int→Int→Int→List Int→List Int→Int→Int→List (S53)→Int→Int→List (S53)→Int→Int→List Int→List Int→Option (Int × Int × (List (S53)) × Int × Int × List Int × List Int)
 |0,_,_,_,_,_,_,_,_,_,_,_,_,_,_,_,_,_,_=>none
 |k+1,x6,x7,x8,au,ac,ae,af,aa,ag,ah,ai,aj,ak,al,am,an,ap,ab=>if 0≤au then (if au<(x8.length:Int) then (if ap.length<17592186044416 then ((some (ap++[rd x8 au]:List Int)).bind fun ar=>(if x7<(aa.length:Int) then (if 0≤x7 then (if ab.length<17592186044416 then (ostinatoref18_Pick_Setup.l0 k x6 (aq (x7+1)) ac ae af aa ag ah ai aj ak al am an ar (ab++[Go.bits .and .i64 (rd aa x7) 15])) else (none)) else (none)) else (if ab.length<17592186044416 then (ostinatoref18_Pick_Setup.l0 k x6 (aq (x7+1)) ac ae af aa ag ah ai aj ak al am an ar (ab++[0])) else (none)))) else (none)) else (none)) else (none)
end
def ostinatoref18_Pick_Setup.f (k:Nat) (ab:Int) (ac:Int) (ah:List Int) (ai:List Int) (ae:Int) (af:Int) (ag:List (S53)):Option (Int × Int × (List (S53)) × Int × Int × List Int × List Int):=if (aa (1+(Go.bits .and .i64 ac 3)))=2 then (ostinatoref18_Pick_Setup.j0 k ((aa (1+(Go.bits .and .i64 ab 1))) == 1) ab ac ah ai ae af ag ae af ag (aa (1+(Go.bits .and .i64 ab 1))) (aa (1+(Go.bits .and .i64 ac 3)))) else (ostinatoref18_Pick_Setup.j0 k false ab ac ah ai ae af ag ae af ag (aa (1+(Go.bits .and .i64 ab 1))) (aa (1+(Go.bits .and .i64 ac 3))))
def ostinatoref18_Pick_Setup.T12:Bool × List (List Nat × List Nat):=(true,[([],[]),([],[]),([0,1],[0,1]),([2],[2]),([3],[3]),([],[]),([5],[5]),([],[]),([6,7],[6,7]),([8],[8]),([9],[9]),([4,10],[4,10])])
def ostinatoref18_Pick_Setup.B12:List Nat:=[0,0,3,7,15,0,32,0,224,480,992,2047]
theorem ostinatoref18_Pick_Setup.tab12:rtab .any (opsOf Tryd.f34 12)=ostinatoref18_Pick_Setup.T12:=by kernel_rfl
theorem ostinatoref18_Pick_Setup.bits12:waitsOk ostinatoref18_Pick_Setup.T12.2 ostinatoref18_Pick_Setup.B12=true:=by kernel_rfl
def ostinatoref18_Pick_Setup.T17:Bool × List (List Nat × List Nat):=(true,[([],[]),([0],[0]),([],[]),([],[]),([2,3],[2,3]),([4],[4]),([5],[5]),([1,6],[1,6]),([0,1,2,3,4,5,6,7],[]),([8,7,7,0,1,2,3,4,5,6,7],[7,8])])
def ostinatoref18_Pick_Setup.B17:List Nat:=[0,1,0,0,12,28,60,127,255,511]
theorem ostinatoref18_Pick_Setup.tab17:rtab .any (opsOf Tryd.f34 17)=ostinatoref18_Pick_Setup.T17:=by kernel_rfl
theorem ostinatoref18_Pick_Setup.bits17:waitsOk ostinatoref18_Pick_Setup.T17.2 ostinatoref18_Pick_Setup.B17=true:=by kernel_rfl
theorem ostinatoref18_Pick_Setup.calls (k:Nat) (aD:Int) (aN:Int) (A0_2:Option Addr) (c0_2:Nat) (ba:List Int) (dV:Option Addr) (dN:Nat) (aY:List Int) (ax:Int) (az:Int) (aJ:Nat→Prop) (aK:Option Addr) (aI:Nat) (ai:List (S53)) (r1:Int) (r2:Int) (r3:List (S53)) (r4:Int) (r5:Int) (r6:List Int) (r7:List Int) (w:World) (hr0_2:Kd.C (Kd.int .i64) w A0_2 ba.length ba) (hc0_2:ba.length≤c0_2) (gy:Kd.C (Kd.int .i64) w dV aY.length aY) (gz:aY.length≤dN) (gY:Kd.V k53 53 w w.heap.size (fun k_=>aJ k_) (.slice aK ai.length aI) ai) (h:ostinatoref18_Pick_Setup.f k aD aN ba aY ax az ai=some (r1,r2,r3,r4,r5,r6,r7)) :
  Calls Tryd.prog 34 #[.agg #[.int .i64 aD,.int .i64 aN,.slice A0_2 ba.length c0_2,.slice dV aY.length dN],.agg #[.int .i64 ax,.int .i64 az,.slice aK ai.length aI]] w fun e w'=>∃ my lB lC:Value,e=.returned (.agg #[.int .i64 r1,.int .i64 r2,my,.int .i64 r4,.int .i64 r5,lB,lC])∧Kd.V k53 53 w' w.heap.size (fun k_=>(aJ k_∨w.heap.size≤k_)∧some k_≠(lB:Value).ownBlock∧some k_≠(lC:Value).ownBlock) my r3∧Kd.R (Kd.int .i64) 3 w' w.heap.size (fun k_=>(w.heap.size≤k_)) lB r6∧Kd.R (Kd.int .i64) 2 w' w.heap.size (fun k_=>(w.heap.size≤k_)) lC r7∧Below w.heap.size w w':=by
 have ol:=Tryd.underlying76
 have om:=Tryd.underlying33
 have oo:=Tryd.underlying36
 have gZ:=qaa.mk hr0_2
 have mz:=qaa.mk hc0_2
 clear hr0_2 hc0_2
 have hH:=qaa.mk gy
 have mA:=qaa.mk gz
 clear gy gz
 have bN:=qaa.mk (show Kd.V k53 53 w w.heap.size (fun k_=>(aJ k_∨w.heap.size≤k_)) (.slice aK ai.length aI) ai from Kd.V_mono gY (fun k_ hk=>.inl hk))
 have HB:=qaa.mk (Below.refl w.heap.size w)
 have H:(if (ac (1+(Go.bits .and .i64 aN 3)))=2 then (ostinatoref18_Pick_Setup.j0 k ((ac (1+(Go.bits .and .i64 aD 1))) == 1) aD aN ba aY ax az ai ax az ai (ac (1+(Go.bits .and .i64 aD 1))) (ac (1+(Go.bits .and .i64 aN 3)))) else (ostinatoref18_Pick_Setup.j0 k false aD aN ba aY ax az ai ax az ai (ac (1+(Go.bits .and .i64 aD 1))) (ac (1+(Go.bits .and .i64 aN 3)))))=some (r1,r2,r3,r4,r5,r6,r7):=h
 clear h
 have lD:=qaa.mk H
 clear H
 go_enter Tryd.func34,Tryd.ntmps34
 go_upto_region 2 with (first|((with_reducible refine qap (N:=2) rfl ?_);refine qao ?hg (N:=2) ?hd (cs:=#[.int .i64 aD,.int .i64 aN,.slice A0_2 ba.length c0_2,.slice dV aY.length dN]) (t:=76) ?hr ?_;(case hd=>rfl);(case hg=>rfl);(case hr=>first|(go_simp;done)|(go_simp;rfl));intro aA hg w4 hbox hb;replace bN:=qaa.mk (Kd.V_below (Kd.V_elderB (sV bN.out) aA (Nat.le_of_eq hg.symm)) hb);have an:=qaa.mk (hbox);have mB:=qaa.mk ((by rw [hg];exact (qac sB):w.heap.size≤aA));have bz:=qaa.mk ((by rw [hg];exact (qac sB):w.heap.size≤aA));replace HB:=qaa.mk (qai sB hb);clear hb hbox hg)|((with_reducible refine qap (N:=3) rfl ?_);refine qao ?hg (N:=3) ?hd (cs:=#[.int .i64 ax,.int .i64 az,.slice aK ai.length aI]) (t:=33) ?hr ?_;(case hd=>rfl);(case hg=>rfl);(case hr=>first|(go_simp;done)|(go_simp;rfl));intro aw hg w5 hbox hb;replace bN:=qaa.mk (Kd.V_below (Kd.V_elderB (sV bN.out) aw (Nat.le_of_eq hg.symm)) hb);have ap:=qaa.mk (hbox);have mC:=qaa.mk ((by rw [hg];exact (qac sB):w.heap.size≤aw));have bB:=qaa.mk ((by rw [hg];exact (qac sB):w.heap.size≤aw));replace HB:=qaa.mk (qai sB hb);have bf:=qaa.mk ((by rw [hg];exact Nat.ne_of_lt (sLt an.out):aA≠aw));have bg:=qaa.mk ((by rw [hg];exact Nat.ne_of_gt (sLt an.out):aw≠aA));replace an:=qaa.mk (sKb an.out hb);clear hb hbox hg)|((with_reducible refine qap (N:=4) rfl ?_);refine qao ?hg (N:=4) ?hd (cs:=#[.int .i64 0,.int .i64 0,.slice none 0 0,.int .i64 0,.int .i64 0,.slice none 0 0,.slice none 0 0]) (t:=36) ?hr ?_;(case hd=>rfl);(case hg=>rfl);(case hr=>first|(go_simp;done)|(go_simp;rfl));intro ak hg w6 hbox hb;replace bN:=qaa.mk (Kd.V_below (Kd.V_elderB (sV bN.out) ak (Nat.le_of_eq hg.symm)) hb);have ay:=qaa.mk (hbox);have mD:=qaa.mk ((by rw [hg];exact (qac sB):w.heap.size≤ak));have bC:=qaa.mk ((by rw [hg];exact (qac sB):w.heap.size≤ak));replace HB:=qaa.mk (qai sB hb);have bt:=qaa.mk ((by rw [hg];exact Nat.ne_of_lt (sLt an.out):aA≠ak));have bv:=qaa.mk ((by rw [hg];exact Nat.ne_of_gt (sLt an.out):ak≠aA));replace an:=qaa.mk (sKb an.out hb);have bO:=qaa.mk ((by rw [hg];exact Nat.ne_of_lt (sLt ap.out):aw≠ak));have bP:=qaa.mk ((by rw [hg];exact Nat.ne_of_gt (sLt ap.out):ak≠aw));replace ap:=qaa.mk (sKb ap.out hb);clear hb hbox hg;have oq:=bg.out;have ot:=bf.out;have ou:=bO.out;have ov:=bP.out;obtain⟨eb,ec,ed⟩:=sC3 (w:=w6) ap.out;obtain⟨dO,dP,dQ⟩:=sF3 ap.out;have mE:=bt.out;have mF:=bv.out;obtain⟨cF,cG,cH,cI⟩:=sC4 (w:=w6) an.out;obtain⟨cJ,cK,cL,cM⟩:=sF4 an.out)|((with_reducible refine qap (N:=5) rfl ?_);refine qao ?hg (N:=5) ?hd (cs:=#[.int .i64 0,.int .i64 0,.slice none 0 0,.int .i64 0,.int .i64 0,.slice none 0 0,.slice none 0 0]) (t:=36) ?hr ?_;(case hd=>rfl);(case hg=>rfl);(case hr=>first|(go_simp;done)|(go_simp;rfl));intro aa hg lE hbox hb;replace bN:=qaa.mk (Kd.V_below (Kd.V_elderB (sV bN.out) aa (Nat.le_of_eq hg.symm)) hb);have ab:=qaa.mk (hbox);have hJ:=qaa.mk ((by rw [hg];exact (qac sB):w.heap.size≤aa));have bD:=qaa.mk ((by rw [hg];exact (qac sB):w.heap.size≤aa));replace HB:=qaa.mk (qai sB hb);have al:=qaa.mk ((by rw [hg];exact Nat.ne_of_lt (sLt an.out):aA≠aa));have aW:=qaa.mk ((by rw [hg];exact Nat.ne_of_gt (sLt an.out):aa≠aA));replace an:=qaa.mk (sKb an.out hb);have am:=qaa.mk ((by rw [hg];exact Nat.ne_of_lt (sLt ap.out):aw≠aa));have aX:=qaa.mk ((by rw [hg];exact Nat.ne_of_gt (sLt ap.out):aa≠aw));replace ap:=qaa.mk (sKb ap.out hb);have ar:=qaa.mk ((by rw [hg];exact Nat.ne_of_lt (sLt ay.out):ak≠aa));have be:=qaa.mk ((by rw [hg];exact Nat.ne_of_gt (sLt ay.out):aa≠ak));replace ay:=qaa.mk (sKb ay.out hb);clear hb hbox hg;have mG:=aW.out;have mH:=al.out;have mI:=aX.out;have mJ:=am.out;have mK:=be.out;have mL:=ar.out;obtain⟨cN,cO,cP,cQ,cR,cS,cT⟩:=sC7 (w:=lE) ab.out;obtain⟨cU,cV,cW,cX,cY,cZ,da⟩:=sF7 ab.out))
 (try simp only [Act.put,List.setIfInBounds_toArray,List.set_cons_zero,List.set_cons_succ])
 go_cut [29] (fun ow wc=>∃ (kq:Nat) (fe:Bool),ow=.bool fe∧qaa (ostinatoref18_Pick_Setup.j0 kq fe aD aN ba aY ax az ai ax az ai (ac (1+(Go.bits .and .i64 aD 1))) (ac (1+(Go.bits .and .i64 aN 3)))=some (r1,r2,r3,r4,r5,r6,r7))∧qaa (kq≤k)∧qaa (Kd.V k53 53 wc w.heap.size (fun k_=>(aJ k_∨w.heap.size≤k_)∧k_≠aA∧k_≠aw∧k_≠ak∧k_≠aa) (.slice aK ai.length aI) ai)∧qaa (Kd.V k53 53 wc w.heap.size (fun k_=>(aJ k_∨w.heap.size≤k_)∧k_≠aA∧k_≠aw∧k_≠ak∧k_≠aa) (.slice aK ai.length aI) ai)∧qaa (wc.heap[aA]? = some (.cells #[.int .i64 aD,.int .i64 aN,(.slice A0_2 ba.length c0_2),(.slice dV aY.length dN)] 76 (0,0)))∧qaa (wc.heap[aw]? = some (.cells #[.int .i64 ax,.int .i64 az,(.slice aK ai.length aI)] 33 (0,0)))∧qaa (wc.heap[ak]? = some (.cells #[.int .i64 0,.int .i64 0,(.slice none 0 0),.int .i64 0,.int .i64 0,(.slice none 0 0),(.slice none 0 0)] 36 (0,0)))∧qaa (wc.heap[aa]? = some (.cells #[.int .i64 ax,.int .i64 az,(.slice aK ai.length aI),.int .i64 (ac (1+(Go.bits .and .i64 aD 1))),.int .i64 (ac (1+(Go.bits .and .i64 aN 3))),(.slice none 0 0),(.slice none 0 0)] 36 (0,0)))∧qaa (Below w.heap.size w wc))
 case first=>
  have H:=lD.out
  clear lD
  by_cases fB:(ac (1+(Go.bits .and .i64 aN 3)))=2
  ·rw [if_pos fB] at H
   have cf:((ac (1+(Go.bits .and .i64 aN 3))) == 2)=true:=beq_iff_eq.mpr fB
   have eD:((ac (1+(Go.bits .and .i64 aN 3))) != 2)=false:=bne_eq_false_iff_eq.mpr fB
   clear fB
   (first|rw [cf]|(simp only [qaC,qaE];rw [cf])|skip)
   have H':=qaa.mk H
   clear H
   have mM:=aW.out
   have mN:=al.out
   have mO:=aX.out
   have mP:=am.out
   have mQ:=be.out
   have mR:=ar.out
   obtain⟨db,dc,dd,de,df,dg,dh⟩:=sC7 (w:=lE) ab.out
   obtain⟨di,dj,dk,dl,dm,dn,dp⟩:=sF7 ab.out
   go_wp2
   go_meet
   case rel=>exact⟨_,(((ac (1+(Go.bits .and .i64 aD 1))) == 1)),(by first|rfl|(simp;done)|(simp [*];done)),H',⟨by first|omega|exact Nat.le_refl _⟩,⟨by refine sVm ?_;exact Kd.V_mono (Kd.V_far (p:=⟨aa,6,none⟩) (Kd.V_far (p:=⟨aa,5,none⟩) (Kd.V_far (p:=⟨aa,4,none⟩) (Kd.V_far (p:=⟨aa,3,none⟩) (Kd.V_far (p:=⟨aa,2,none⟩) (Kd.V_far (p:=⟨aa,1,none⟩) (Kd.V_far (p:=⟨aa,0,none⟩) (Kd.V_mono bN.out (fun k_ hk=>(⟨hk,hk.2⟩:_∧k_≠aa))) (fun _ hk=>hk.2) (.int .i64 ax)) (fun _ hk=>hk.2) (.int .i64 az)) (fun _ hk=>hk.2) (.slice aK ai.length aI)) (fun _ hk=>hk.2) (.int .i64 (ac (1+(Go.bits .and .i64 aD 1))))) (fun _ hk=>hk.2) (.int .i64 (ac (1+(Go.bits .and .i64 aN 3))))) (fun _ hk=>hk.2) (.slice none 0 0)) (fun _ hk=>hk.2) (.slice none 0 0)) (fun _ hk=>⟨hk.1.1.1.1.1,⟨hk.1.1.1.1.2,⟨hk.1.1.1.2,⟨hk.1.1.2,hk.1.2⟩⟩⟩⟩)⟩,⟨by refine sVm ?_;exact Kd.V_mono (Kd.V_far (p:=⟨aa,6,none⟩) (Kd.V_far (p:=⟨aa,5,none⟩) (Kd.V_far (p:=⟨aa,4,none⟩) (Kd.V_far (p:=⟨aa,3,none⟩) (Kd.V_far (p:=⟨aa,2,none⟩) (Kd.V_far (p:=⟨aa,1,none⟩) (Kd.V_far (p:=⟨aa,0,none⟩) (Kd.V_mono bN.out (fun k_ hk=>(⟨hk,hk.2⟩:_∧k_≠aa))) (fun _ hk=>hk.2) (.int .i64 ax)) (fun _ hk=>hk.2) (.int .i64 az)) (fun _ hk=>hk.2) (.slice aK ai.length aI)) (fun _ hk=>hk.2) (.int .i64 (ac (1+(Go.bits .and .i64 aD 1))))) (fun _ hk=>hk.2) (.int .i64 (ac (1+(Go.bits .and .i64 aN 3))))) (fun _ hk=>hk.2) (.slice none 0 0)) (fun _ hk=>hk.2) (.slice none 0 0)) (fun _ hk=>⟨hk.1.1.1.1.1,⟨hk.1.1.1.1.2,⟨hk.1.1.1.2,⟨hk.1.1.2,hk.1.2⟩⟩⟩⟩)⟩,⟨by refine sM ?_;refine qaf ?_ al.out _;refine sM ?_;refine qaf ?_ al.out _;refine sM ?_;refine qaf ?_ al.out _;refine sM ?_;refine qaf ?_ al.out _;refine sM ?_;refine qaf ?_ al.out _;refine sM ?_;refine qaf ?_ al.out _;refine sM ?_;refine qaf ?_ al.out _;refine sM ?_;exact an.out⟩,⟨by refine sM ?_;refine qaf ?_ am.out _;refine sM ?_;refine qaf ?_ am.out _;refine sM ?_;refine qaf ?_ am.out _;refine sM ?_;refine qaf ?_ am.out _;refine sM ?_;refine qaf ?_ am.out _;refine sM ?_;refine qaf ?_ am.out _;refine sM ?_;refine qaf ?_ am.out _;refine sM ?_;exact ap.out⟩,⟨by refine sM ?_;refine qaf ?_ ar.out _;refine sM ?_;refine qaf ?_ ar.out _;refine sM ?_;refine qaf ?_ ar.out _;refine sM ?_;refine qaf ?_ ar.out _;refine sM ?_;refine qaf ?_ ar.out _;refine sM ?_;refine qaf ?_ ar.out _;refine sM ?_;refine qaf ?_ ar.out _;refine sM ?_;exact ay.out⟩,⟨by refine sM ?_;refine qak (cs:=#[.int .i64 ax,.int .i64 az,.slice aK ai.length aI,.int .i64 (ac (1+(Go.bits .and .i64 aD 1))),.int .i64 (ac (1+(Go.bits .and .i64 aN 3))),.slice none 0 0,.slice none 0 0]) ?_ 6 _ rfl;refine sM ?_;refine qak (cs:=#[.int .i64 ax,.int .i64 az,.slice aK ai.length aI,.int .i64 (ac (1+(Go.bits .and .i64 aD 1))),.int .i64 (ac (1+(Go.bits .and .i64 aN 3))),.slice none 0 0,.slice none 0 0]) ?_ 5 _ rfl;refine sM ?_;refine qak (cs:=#[.int .i64 ax,.int .i64 az,.slice aK ai.length aI,.int .i64 (ac (1+(Go.bits .and .i64 aD 1))),.int .i64 0,.slice none 0 0,.slice none 0 0]) ?_ 4 _ rfl;refine sM ?_;refine qak (cs:=#[.int .i64 ax,.int .i64 az,.slice aK ai.length aI,.int .i64 0,.int .i64 0,.slice none 0 0,.slice none 0 0]) ?_ 3 _ rfl;refine sM ?_;refine qak (cs:=#[.int .i64 ax,.int .i64 az,.slice none 0 0,.int .i64 0,.int .i64 0,.slice none 0 0,.slice none 0 0]) ?_ 2 _ rfl;refine sM ?_;refine qak (cs:=#[.int .i64 ax,.int .i64 0,.slice none 0 0,.int .i64 0,.int .i64 0,.slice none 0 0,.slice none 0 0]) ?_ 1 _ rfl;refine sM ?_;refine qak (cs:=#[.int .i64 0,.int .i64 0,.slice none 0 0,.int .i64 0,.int .i64 0,.slice none 0 0,.slice none 0 0]) ?_ 0 _ rfl;refine sM ?_;exact ab.out⟩,⟨by repeat (first|(with_reducible first|exact HB.out|apply qah|apply qae|apply qag|refine qad ?_ bz.out|refine qad ?_ bB.out|refine qad ?_ bC.out|refine qad ?_ bD.out)|exact HB.out)⟩⟩
  ·rw [if_neg fB] at H
   have cf:((ac (1+(Go.bits .and .i64 aN 3))) == 2)=false:=beq_eq_false_iff_ne.mpr fB
   have eD:((ac (1+(Go.bits .and .i64 aN 3))) != 2)=true:=bne_iff_ne.mpr fB
   (first|rw [cf]|(simp only [qaC,qaE];rw [cf])|skip)
   have H':=qaa.mk H
   clear H
   have mS:=aW.out
   have mT:=al.out
   have mU:=aX.out
   have mV:=am.out
   have mW:=be.out
   have mX:=ar.out
   obtain⟨dq,dr,du,dv,dw,dx,dy⟩:=sC7 (w:=lE) ab.out
   obtain⟨dz,dA,dB,cg,cj,ck,cm⟩:=sF7 ab.out
   go_wp2
   go_meet
   case rel=>exact⟨_,(false),(by first|rfl|(simp;done)|(simp [*];done)),H',⟨by first|omega|exact Nat.le_refl _⟩,⟨by refine sVm ?_;exact Kd.V_mono (Kd.V_far (p:=⟨aa,6,none⟩) (Kd.V_far (p:=⟨aa,5,none⟩) (Kd.V_far (p:=⟨aa,4,none⟩) (Kd.V_far (p:=⟨aa,3,none⟩) (Kd.V_far (p:=⟨aa,2,none⟩) (Kd.V_far (p:=⟨aa,1,none⟩) (Kd.V_far (p:=⟨aa,0,none⟩) (Kd.V_mono bN.out (fun k_ hk=>(⟨hk,hk.2⟩:_∧k_≠aa))) (fun _ hk=>hk.2) (.int .i64 ax)) (fun _ hk=>hk.2) (.int .i64 az)) (fun _ hk=>hk.2) (.slice aK ai.length aI)) (fun _ hk=>hk.2) (.int .i64 (ac (1+(Go.bits .and .i64 aD 1))))) (fun _ hk=>hk.2) (.int .i64 (ac (1+(Go.bits .and .i64 aN 3))))) (fun _ hk=>hk.2) (.slice none 0 0)) (fun _ hk=>hk.2) (.slice none 0 0)) (fun _ hk=>⟨hk.1.1.1.1.1,⟨hk.1.1.1.1.2,⟨hk.1.1.1.2,⟨hk.1.1.2,hk.1.2⟩⟩⟩⟩)⟩,⟨by refine sVm ?_;exact Kd.V_mono (Kd.V_far (p:=⟨aa,6,none⟩) (Kd.V_far (p:=⟨aa,5,none⟩) (Kd.V_far (p:=⟨aa,4,none⟩) (Kd.V_far (p:=⟨aa,3,none⟩) (Kd.V_far (p:=⟨aa,2,none⟩) (Kd.V_far (p:=⟨aa,1,none⟩) (Kd.V_far (p:=⟨aa,0,none⟩) (Kd.V_mono bN.out (fun k_ hk=>(⟨hk,hk.2⟩:_∧k_≠aa))) (fun _ hk=>hk.2) (.int .i64 ax)) (fun _ hk=>hk.2) (.int .i64 az)) (fun _ hk=>hk.2) (.slice aK ai.length aI)) (fun _ hk=>hk.2) (.int .i64 (ac (1+(Go.bits .and .i64 aD 1))))) (fun _ hk=>hk.2) (.int .i64 (ac (1+(Go.bits .and .i64 aN 3))))) (fun _ hk=>hk.2) (.slice none 0 0)) (fun _ hk=>hk.2) (.slice none 0 0)) (fun _ hk=>⟨hk.1.1.1.1.1,⟨hk.1.1.1.1.2,⟨hk.1.1.1.2,⟨hk.1.1.2,hk.1.2⟩⟩⟩⟩)⟩,⟨by refine sM ?_;refine qaf ?_ al.out _;refine sM ?_;refine qaf ?_ al.out _;refine sM ?_;refine qaf ?_ al.out _;refine sM ?_;refine qaf ?_ al.out _;refine sM ?_;refine qaf ?_ al.out _;refine sM ?_;refine qaf ?_ al.out _;refine sM ?_;refine qaf ?_ al.out _;refine sM ?_;exact an.out⟩,⟨by refine sM ?_;refine qaf ?_ am.out _;refine sM ?_;refine qaf ?_ am.out _;refine sM ?_;refine qaf ?_ am.out _;refine sM ?_;refine qaf ?_ am.out _;refine sM ?_;refine qaf ?_ am.out _;refine sM ?_;refine qaf ?_ am.out _;refine sM ?_;refine qaf ?_ am.out _;refine sM ?_;exact ap.out⟩,⟨by refine sM ?_;refine qaf ?_ ar.out _;refine sM ?_;refine qaf ?_ ar.out _;refine sM ?_;refine qaf ?_ ar.out _;refine sM ?_;refine qaf ?_ ar.out _;refine sM ?_;refine qaf ?_ ar.out _;refine sM ?_;refine qaf ?_ ar.out _;refine sM ?_;refine qaf ?_ ar.out _;refine sM ?_;exact ay.out⟩,⟨by refine sM ?_;refine qak (cs:=#[.int .i64 ax,.int .i64 az,.slice aK ai.length aI,.int .i64 (ac (1+(Go.bits .and .i64 aD 1))),.int .i64 (ac (1+(Go.bits .and .i64 aN 3))),.slice none 0 0,.slice none 0 0]) ?_ 6 _ rfl;refine sM ?_;refine qak (cs:=#[.int .i64 ax,.int .i64 az,.slice aK ai.length aI,.int .i64 (ac (1+(Go.bits .and .i64 aD 1))),.int .i64 (ac (1+(Go.bits .and .i64 aN 3))),.slice none 0 0,.slice none 0 0]) ?_ 5 _ rfl;refine sM ?_;refine qak (cs:=#[.int .i64 ax,.int .i64 az,.slice aK ai.length aI,.int .i64 (ac (1+(Go.bits .and .i64 aD 1))),.int .i64 0,.slice none 0 0,.slice none 0 0]) ?_ 4 _ rfl;refine sM ?_;refine qak (cs:=#[.int .i64 ax,.int .i64 az,.slice aK ai.length aI,.int .i64 0,.int .i64 0,.slice none 0 0,.slice none 0 0]) ?_ 3 _ rfl;refine sM ?_;refine qak (cs:=#[.int .i64 ax,.int .i64 az,.slice none 0 0,.int .i64 0,.int .i64 0,.slice none 0 0,.slice none 0 0]) ?_ 2 _ rfl;refine sM ?_;refine qak (cs:=#[.int .i64 ax,.int .i64 0,.slice none 0 0,.int .i64 0,.int .i64 0,.slice none 0 0,.slice none 0 0]) ?_ 1 _ rfl;refine sM ?_;refine qak (cs:=#[.int .i64 0,.int .i64 0,.slice none 0 0,.int .i64 0,.int .i64 0,.slice none 0 0,.slice none 0 0]) ?_ 0 _ rfl;refine sM ?_;exact ab.out⟩,⟨by repeat (first|(with_reducible first|exact HB.out|apply qah|apply qae|apply qag|refine qad ?_ bz.out|refine qad ?_ bB.out|refine qad ?_ bC.out|refine qad ?_ bD.out)|exact HB.out)⟩⟩
 case rest=>
  clear lD
  try clear c1
  try clear c2
  try clear p2
  try clear c3
  try clear p6
  try clear c7
  try clear c8
  try clear lF
  try clear lG
  try clear lH
  try clear lI
  try clear fB
  try clear cf
  try clear eD
  try clear lJ
  try clear lK
  try clear lL
  try clear lM
  try clear lN
  try clear lO
  try clear cF cG cH cI
  try clear cN cO cP cQ cR cS cT
  try clear db dc dd de df dg dh
  try clear dq dr du dv dw dx dy
  try clear eb ec ed
  try clear cJ cK cL cM
  try clear cU cV cW cX cY cZ da
  try clear di dj dk dl dm dn dp
  try clear dz dA dB cg cj ck cm
  try clear dO dP dQ
  obtain⟨kq,fe,rfl,HA,fA,ae,ag,an,ap,ay,ab,HB⟩:=hcut
  cases kq with
  |zero=>exact absurd HA.out (by simp [ostinatoref18_Pick_Setup.j0])
  |succ lP=>
   have H:=HA.out
   clear HA
   simp only [ostinatoref18_Pick_Setup.j0] at H
   have gI:=qaa.mk H
   clear H
   go_upto_if 29 with (fail)
   go_cut [] (fun wc=>∃ (kq:Nat) (aj:Int),qaa (ostinatoref18_Pick_Setup.j1 kq aD aN ba aY ax az ai ax az ai (ac (1+(Go.bits .and .i64 aD 1))) aj=some (r1,r2,r3,r4,r5,r6,r7))∧qaa (kq≤lP)∧qaa (Kd.V k53 53 wc w.heap.size (fun k_=>(aJ k_∨w.heap.size≤k_)∧k_≠aA∧k_≠aw∧k_≠ak∧k_≠aa) (.slice aK ai.length aI) ai)∧qaa (Kd.V k53 53 wc w.heap.size (fun k_=>(aJ k_∨w.heap.size≤k_)∧k_≠aA∧k_≠aw∧k_≠ak∧k_≠aa) (.slice aK ai.length aI) ai)∧qaa (wc.heap[aA]? = some (.cells #[.int .i64 aD,.int .i64 aN,(.slice A0_2 ba.length c0_2),(.slice dV aY.length dN)] 76 (0,0)))∧qaa (wc.heap[aw]? = some (.cells #[.int .i64 ax,.int .i64 az,(.slice aK ai.length aI)] 33 (0,0)))∧qaa (wc.heap[ak]? = some (.cells #[.int .i64 0,.int .i64 0,(.slice none 0 0),.int .i64 0,.int .i64 0,(.slice none 0 0),(.slice none 0 0)] 36 (0,0)))∧qaa (wc.heap[aa]? = some (.cells #[.int .i64 ax,.int .i64 az,(.slice aK ai.length aI),.int .i64 (ac (1+(Go.bits .and .i64 aD 1))),.int .i64 aj,(.slice none 0 0),(.slice none 0 0)] 36 (0,0)))∧qaa (Below w.heap.size w wc))
   case first=>
    have H:=gI.out
    clear gI
    by_cases gJ:fe=true
    ·subst gJ
     have H1:(ostinatoref18_Pick_Setup.j1 lP aD aN ba aY ax az ai ax az ai (ac (1+(Go.bits .and .i64 aD 1))) 1)=some (r1,r2,r3,r4,r5,r6,r7):=by rw [if_pos rfl] at H;exact H
     clear H
     have H:=H1
     clear H1
     have H':=qaa.mk H
     clear H
     have mY:=aW.out
     have mZ:=al.out
     have m7:=aX.out
     have m8:=am.out
     have m9:=be.out
     have na:=ar.out
     obtain⟨ef,eg,eh,ek,el,en,ep⟩:=sC7 (w:=wc) ab.out
     obtain⟨dC,dD,dE,dF,dG,dH,dI⟩:=sF7 ab.out
     go_wp2
     go_meet
     case rel=>exact⟨_,(1),H',⟨by have:=fA.out;first|omega|exact Nat.le_refl _⟩,⟨by refine sVm ?_;exact Kd.V_mono (Kd.V_far (p:=⟨aa,4,none⟩) (Kd.V_mono ae.out (fun k_ hk=>(⟨hk,hk.2.2.2.2⟩:_∧k_≠aa))) (fun _ hk=>hk.2) (.int .i64 1)) (fun _ hk=>⟨hk.1.1,⟨hk.1.2.1,⟨hk.1.2.2.1,⟨hk.1.2.2.2.1,hk.1.2.2.2.2⟩⟩⟩⟩)⟩,⟨by refine sVm ?_;exact Kd.V_mono (Kd.V_far (p:=⟨aa,4,none⟩) (Kd.V_mono ag.out (fun k_ hk=>(⟨hk,hk.2.2.2.2⟩:_∧k_≠aa))) (fun _ hk=>hk.2) (.int .i64 1)) (fun _ hk=>⟨hk.1.1,⟨hk.1.2.1,⟨hk.1.2.2.1,⟨hk.1.2.2.2.1,hk.1.2.2.2.2⟩⟩⟩⟩)⟩,⟨by refine sM ?_;refine qaf ?_ al.out _;refine sM ?_;exact an.out⟩,⟨by refine sM ?_;refine qaf ?_ am.out _;refine sM ?_;exact ap.out⟩,⟨by refine sM ?_;refine qaf ?_ ar.out _;refine sM ?_;exact ay.out⟩,⟨by refine sM ?_;refine qak (cs:=#[.int .i64 ax,.int .i64 az,.slice aK ai.length aI,.int .i64 (ac (1+(Go.bits .and .i64 aD 1))),.int .i64 (ac (1+(Go.bits .and .i64 aN 3))),.slice none 0 0,.slice none 0 0]) ?_ 4 _ rfl;refine sM ?_;exact ab.out⟩,⟨by repeat (first|(with_reducible first|exact HB.out|apply qah|apply qae|apply qag|refine qad ?_ bz.out|refine qad ?_ bB.out|refine qad ?_ bC.out|refine qad ?_ bD.out)|exact HB.out)⟩⟩
    ·replace gJ:=Bool.eq_false_iff.mpr gJ
     subst gJ
     have H1:(ostinatoref18_Pick_Setup.j1 lP aD aN ba aY ax az ai ax az ai (ac (1+(Go.bits .and .i64 aD 1))) (ac (1+(Go.bits .and .i64 aN 3))))=some (r1,r2,r3,r4,r5,r6,r7):=by rw [if_neg (show ¬ (false=true) by decide)] at H;exact H
     clear H
     have H:=H1
     clear H1
     have H':=qaa.mk H
     clear H
     go_wp2
     go_meet
     case rel=>exact⟨_,((ac (1+(Go.bits .and .i64 aN 3)))),H',⟨by have:=fA.out;first|omega|exact Nat.le_refl _⟩,⟨by refine sVm ?_;exact ae.out⟩,⟨by refine sVm ?_;exact ag.out⟩,⟨by refine sM ?_;exact an.out⟩,⟨by refine sM ?_;exact ap.out⟩,⟨by refine sM ?_;exact ay.out⟩,⟨by refine sM ?_;exact ab.out⟩,⟨by repeat (first|(with_reducible first|exact HB.out|apply qah|apply qae|apply qag|refine qad ?_ bz.out|refine qad ?_ bB.out|refine qad ?_ bC.out|refine qad ?_ bD.out)|exact HB.out)⟩⟩
   case rest=>
    clear gI
    try clear c1
    try clear c2
    try clear p2
    try clear c3
    try clear p6
    try clear c7
    try clear c8
    try clear lF
    try clear lG
    try clear lH
    try clear lI
    try clear fB
    try clear cf
    try clear eD
    try clear lJ
    try clear lK
    try clear lL
    try clear lM
    try clear lN
    try clear lO
    try clear gJ
    try clear nb
    try clear nc
    try clear ne
    try clear cF cG cH cI
    try clear cN cO cP cQ cR cS cT
    try clear db dc dd de df dg dh
    try clear dq dr du dv dw dx dy
    try clear ef eg eh ek el en ep
    try clear eb ec ed
    try clear cJ cK cL cM
    try clear cU cV cW cX cY cZ da
    try clear di dj dk dl dm dn dp
    try clear dz dA dB cg cj ck cm
    try clear dC dD dE dF dG dH dI
    try clear dO dP dQ
    try clear p2
    try clear p6
    obtain⟨kq,aj,HA,dW,ae,ag,an,ap,ay,ab,HB⟩:=hcut
    cases kq with
    |zero=>exact absurd HA.out (by simp [ostinatoref18_Pick_Setup.j1])
    |succ fH=>
     have H:=HA.out
     clear HA
     simp only [ostinatoref18_Pick_Setup.j1] at H
     replace H:=Option.bind_eq_some_iff.mp H
     obtain⟨aG,hO,H⟩:=H
     replace H:(ostinatoref18_Pick_Setup.l0 fH aG 0 aD aN ba aY ax az ai ax az ai (ac (1+(Go.bits .and .i64 aD 1))) aj ([]:List Int) ([]:List Int))=some (r1,r2,r3,r4,r5,r6,r7):=H
     have ox:=qaa.mk hO
     clear hO
     have H':=qaa.mk H
     clear H
     have nf:=bg.out
     have ng:=bf.out
     have nh:=bO.out
     have ni:=bP.out
     have nj:=am.out
     have nk:=aX.out
     obtain⟨ff,fg,fh⟩:=sC3 (w:=wc) ap.out
     obtain⟨eq,er,es⟩:=sF3 ap.out
     go_wp2_with (first|((with_reducible refine qaA (f:=53) rfl ?_);refine qa7 (some 32) rfl rfl Tryd.func53 (by kernel_rfl) rfl #[.agg #[.int .i64 ax,.int .i64 az,.slice aK ai.length aI]] rfl (by (try simp only [List.map_toArray,List.map_cons,List.map_nil]);first|done|rfl|(simp only [List.length_drop,List.length_take];rfl)) ?_;(with_reducible refine (ostinatoref05_ByPrio.calls fH ax az (fun k_=>((aJ k_∨w.heap.size≤k_)∧(k_≠aA∧(k_≠aw∧(k_≠ak∧k_≠aa))))) _ _ ai aG _ ?hX ox.out).mono ?_);(case hX=>exact ae.out);rintro e oN ⟨fw,rfl,jM,hb⟩;refine⟨_,rfl,?_⟩;replace ae:=qaa.mk (Kd.V_elder' (sV ae.out) (Kd.N_base jM) hb);replace ag:=qaa.mk (Kd.V_elder' (sV ag.out) (Kd.N_base jM) hb);have hY:=qaa.mk (Kd.N_lower (Kd.N_mono (ok':=fun k_=>(aJ k_∨w.heap.size≤k_)∧k_≠aA∧k_≠aw∧k_≠ak∧k_≠aa) jM (fun k_ hk_=>⟨Or.elim hk_ (fun hs_=>hs_.1) (fun hn_=>(.inr (Nat.le_trans (qac sB) hn_))),Or.elim hk_ (fun hs_=>hs_.2.1) (fun hn_=>(Kd.freshB (g:=aA) (o:=.cells #[.int .i64 aD,.int .i64 aN,.slice A0_2 ba.length c0_2,.slice dV aY.length dN] 76 (0,0)) (sK an.out) k_ hn_)),Or.elim hk_ (fun hs_=>hs_.2.2.1) (fun hn_=>(Kd.freshB (g:=aw) (o:=.cells #[.int .i64 ax,.int .i64 az,.slice aK ai.length aI] 33 (0,0)) (sK ap.out) k_ hn_)),Or.elim hk_ (fun hs_=>hs_.2.2.2.1) (fun hn_=>(Kd.freshB (g:=ak) (o:=.cells #[.int .i64 0,.int .i64 0,.slice none 0 0,.int .i64 0,.int .i64 0,.slice none 0 0,.slice none 0 0] 36 (0,0)) (sK ay.out) k_ hn_)),Or.elim hk_ (fun hs_=>hs_.2.2.2.2) (fun hn_=>(Kd.freshB (g:=aa) (o:=.cells #[.int .i64 ax,.int .i64 az,.slice aK ai.length aI,.int .i64 (ac (1+(Go.bits .and .i64 aD 1))),.int .i64 aj,.slice none 0 0,.slice none 0 0] 36 (0,0)) (sK ab.out) k_ hn_))⟩)) (qac sB));replace an:=qaa.mk (sKb an.out hb);replace ap:=qaa.mk (sKb ap.out hb);replace ay:=qaa.mk (sKb ay.out hb);replace ab:=qaa.mk (sKb ab.out hb);replace HB:=qaa.mk (qai sB hb);(try clear hb);(try clear oO);(try clear hk);(try clear hi);(try clear jM)))
     go_loopg [7] fH (fun kq v7 w'=>∃ (au:Int) (aH:List Int) (aC:List Int) (av:Value) (aq:Value),v7=.int .i64 au∧qaa (ostinatoref18_Pick_Setup.l0 kq aG au aD aN ba aY ax az ai ax az ai (ac (1+(Go.bits .and .i64 aD 1))) aj aH aC=some (r1,r2,r3,r4,r5,r6,r7))∧qaa (kq≤fH)∧qaa (Kd.N k53 53 w' w.heap.size (fun k_=>(aJ k_∨w.heap.size≤k_)∧some k_≠(av:Value).ownBlock∧some k_≠(aq:Value).ownBlock∧k_≠aA∧k_≠aw∧k_≠ak∧k_≠aa) fw aG)∧qaa (Kd.V k53 53 w' w.heap.size (fun k_=>(aJ k_∨w.heap.size≤k_)∧some k_≠(fw:Value).ownBlock∧some k_≠(av:Value).ownBlock∧some k_≠(aq:Value).ownBlock∧k_≠aA∧k_≠aw∧k_≠ak∧k_≠aa) (.slice aK ai.length aI) ai)∧qaa (Kd.V k53 53 w' w.heap.size (fun k_=>(aJ k_∨w.heap.size≤k_)∧some k_≠(fw:Value).ownBlock∧some k_≠(av:Value).ownBlock∧some k_≠(aq:Value).ownBlock∧k_≠aA∧k_≠aw∧k_≠ak∧k_≠aa) (.slice aK ai.length aI) ai)∧qaa (Kd.R (Kd.int .i64) 3 w' w.heap.size (fun k_=>(w.heap.size≤k_)) av aH)∧qaa (Kd.R (Kd.int .i64) 2 w' w.heap.size (fun k_=>(w.heap.size≤k_)) aq aC)∧qaa (w'.heap[aA]? = some (.cells #[.int .i64 aD,.int .i64 aN,(.slice A0_2 ba.length c0_2),(.slice dV aY.length dN)] 76 (0,0)))∧qaa (w'.heap[aw]? = some (.cells #[.int .i64 ax,.int .i64 az,(.slice aK ai.length aI)] 33 (0,0)))∧qaa (w'.heap[ak]? = some (.cells #[.int .i64 0,.int .i64 0,(.slice none 0 0),.int .i64 0,.int .i64 0,(.slice none 0 0),(.slice none 0 0)] 36 (0,0)))∧qaa (w'.heap[aa]? = some (.cells #[.int .i64 ax,.int .i64 az,(.slice aK ai.length aI),.int .i64 (ac (1+(Go.bits .and .i64 aD 1))),.int .i64 aj,av,aq] 36 (0,0)))∧qaa (Below w.heap.size w w'))
     case atStart=>exact⟨(0),(([]:List Int)),(([]:List Int)),(.slice none 0 0),(.slice none 0 0),(by first|rfl|(simp;done)|(simp [*];done)),H',⟨Nat.le_refl _⟩,⟨by refine sNm ?_;exact Kd.N_mono hY.out (fun _ hk=>⟨hk.1,⟨(by simp [Value.ownBlock]),⟨(by simp [Value.ownBlock]),⟨hk.2.1,⟨hk.2.2.1,⟨hk.2.2.2.1,hk.2.2.2.2⟩⟩⟩⟩⟩⟩)⟩,⟨by refine sVm ?_;exact Kd.V_mono ae.out (fun _ hk=>⟨hk.1.1,⟨hk.2,⟨(by simp [Value.ownBlock]),⟨(by simp [Value.ownBlock]),⟨hk.1.2.1,⟨hk.1.2.2.1,⟨hk.1.2.2.2.1,hk.1.2.2.2.2⟩⟩⟩⟩⟩⟩⟩)⟩,⟨by refine sVm ?_;exact Kd.V_mono ag.out (fun _ hk=>⟨hk.1.1,⟨hk.2,⟨(by simp [Value.ownBlock]),⟨(by simp [Value.ownBlock]),⟨hk.1.2.1,⟨hk.1.2.2.1,⟨hk.1.2.2.2.1,hk.1.2.2.2.2⟩⟩⟩⟩⟩⟩⟩)⟩,⟨by first|exact Kd.R_nil _ _ _ _ _|exact Kd.N_nil _ _ _ _ _|exact Kd.V_nil _ _ _ _ _|exact Kd.Q_nil _ _ _ _ _|exact Kd.S_nil _ _ _ _ _⟩,⟨by first|exact Kd.R_nil _ _ _ _ _|exact Kd.N_nil _ _ _ _ _|exact Kd.V_nil _ _ _ _ _|exact Kd.Q_nil _ _ _ _ _|exact Kd.S_nil _ _ _ _ _⟩,⟨by refine sM ?_;exact an.out⟩,⟨by refine sM ?_;exact ap.out⟩,⟨by refine sM ?_;exact ay.out⟩,⟨by refine sM ?_;exact ab.out⟩,⟨by repeat (first|(with_reducible first|exact HB.out|apply qah|apply qae|apply qag|refine qad ?_ bz.out|refine qad ?_ bB.out|refine qad ?_ bC.out|refine qad ?_ bD.out)|exact HB.out)⟩⟩
     case round=>
      clear H'
      try clear c1
      try clear c2
      try clear p2
      try clear c3
      try clear c5
      try clear p6
      try clear c7
      try clear c8
      try clear lF
      try clear lG
      try clear lH
      try clear lI
      try clear fB
      try clear cf
      try clear eD
      try clear lJ
      try clear lK
      try clear lL
      try clear lM
      try clear lN
      try clear lO
      try clear gJ
      try clear nb
      try clear nc
      try clear ne
      try clear oy
      try clear oz
      try clear oB
      try clear cF cG cH cI
      try clear cN cO cP cQ cR cS cT
      try clear db dc dd de df dg dh
      try clear dq dr du dv dw dx dy
      try clear ef eg eh ek el en ep
      try clear ff fg fh
      try clear eb ec ed
      try clear cJ cK cL cM
      try clear cU cV cW cX cY cZ da
      try clear di dj dk dl dm dn dp
      try clear dz dA dB cg cj ck cm
      try clear dC dD dE dF dG dH dI
      try clear eq er es
      try clear dO dP dQ
      try clear p2
      try clear p6
      obtain⟨au,aH,aC,av,aq,rfl,HA,fF,aV,ae,ag,ah,af,an,ap,ay,ab,HB⟩:=hrel
      cases gk with
      |zero=>exact absurd HA.out (by simp [ostinatoref18_Pick_Setup.l0])
      |succ k3=>
       have H:=HA.out
       clear HA
       simp only [ostinatoref18_Pick_Setup.l0] at H
       by_cases gK:au<(ai.length:Int)
       ·rw [if_pos gK] at H
        have gA:decide (au<(ai.length:Int))=true:=decide_eq_true gK
        clear gK
        have H':=qaa.mk H
        clear H
        have nl:=bg.out
        have nm:=bf.out
        have nn:=bO.out
        have no:=bP.out
        have np:=am.out
        have nq:=aX.out
        obtain⟨fI,fJ,fK⟩:=sC3 (w:=wr) ap.out
        obtain⟨fi,fj,fk⟩:=sF3 ap.out
        go_wp2
        go_loopg [8,9] k3 (fun kq v8 v9 w'=>∃ (aQ:List Int) (aE:Int),v9=.int .i64 aE∧qaa (ostinatoref18_Pick_Setup.l1 kq aG au aQ aE aD aN ba aY ax az ai ax az ai (ac (1+(Go.bits .and .i64 aD 1))) aj aH aC=some (r1,r2,r3,r4,r5,r6,r7))∧qaa (kq≤k3)∧qaa (Kd.N k53 53 w' w.heap.size (fun k_=>(aJ k_∨w.heap.size≤k_)∧some k_≠(v8:Value).ownBlock∧some k_≠(av:Value).ownBlock∧some k_≠(aq:Value).ownBlock∧k_≠aA∧k_≠aw∧k_≠ak∧k_≠aa) fw aG)∧qaa (Kd.R (Kd.int .i64) 3 w' w.heap.size (fun k_=>(w.heap.size≤k_)∧some k_≠(av:Value).ownBlock) v8 aQ)∧qaa (Kd.V k53 53 w' w.heap.size (fun k_=>(aJ k_∨w.heap.size≤k_)∧some k_≠(fw:Value).ownBlock∧some k_≠(v8:Value).ownBlock∧some k_≠(av:Value).ownBlock∧some k_≠(aq:Value).ownBlock∧k_≠aA∧k_≠aw∧k_≠ak∧k_≠aa) (.slice aK ai.length aI) ai)∧qaa (Kd.V k53 53 w' w.heap.size (fun k_=>(aJ k_∨w.heap.size≤k_)∧some k_≠(fw:Value).ownBlock∧some k_≠(v8:Value).ownBlock∧some k_≠(av:Value).ownBlock∧some k_≠(aq:Value).ownBlock∧k_≠aA∧k_≠aw∧k_≠ak∧k_≠aa) (.slice aK ai.length aI) ai)∧qaa (Kd.R (Kd.int .i64) 3 w' w.heap.size (fun k_=>(w.heap.size≤k_)∧some k_≠(v8:Value).ownBlock) av aH)∧qaa (Kd.R (Kd.int .i64) 2 w' w.heap.size (fun k_=>(w.heap.size≤k_)) aq aC)∧qaa (w'.heap[aA]? = some (.cells #[.int .i64 aD,.int .i64 aN,(.slice A0_2 ba.length c0_2),(.slice dV aY.length dN)] 76 (0,0)))∧qaa (w'.heap[aw]? = some (.cells #[.int .i64 ax,.int .i64 az,(.slice aK ai.length aI)] 33 (0,0)))∧qaa (w'.heap[ak]? = some (.cells #[.int .i64 0,.int .i64 0,(.slice none 0 0),.int .i64 0,.int .i64 0,(.slice none 0 0),(.slice none 0 0)] 36 (0,0)))∧qaa (w'.heap[aa]? = some (.cells #[.int .i64 ax,.int .i64 az,(.slice aK ai.length aI),.int .i64 (ac (1+(Go.bits .and .i64 aD 1))),.int .i64 aj,av,aq] 36 (0,0)))∧qaa (Below w.heap.size w w'))
        case atStart=>exact⟨(([]:List Int)),(0),(by first|rfl|(simp;done)|(simp [*];done)),H',⟨Nat.le_refl _⟩,⟨by refine sNm ?_;exact Kd.N_mono aV.out (fun _ hk=>⟨hk.1,⟨(by simp [Value.ownBlock]),⟨hk.2.1,⟨hk.2.2.1,⟨hk.2.2.2.1,⟨hk.2.2.2.2.1,⟨hk.2.2.2.2.2.1,hk.2.2.2.2.2.2⟩⟩⟩⟩⟩⟩⟩)⟩,⟨by first|exact Kd.R_nil _ _ _ _ _|exact Kd.N_nil _ _ _ _ _|exact Kd.V_nil _ _ _ _ _|exact Kd.Q_nil _ _ _ _ _|exact Kd.S_nil _ _ _ _ _⟩,⟨by refine sVm ?_;exact Kd.V_mono ae.out (fun _ hk=>⟨hk.1,⟨hk.2.1,⟨(by simp [Value.ownBlock]),⟨hk.2.2.1,⟨hk.2.2.2.1,⟨hk.2.2.2.2.1,⟨hk.2.2.2.2.2.1,⟨hk.2.2.2.2.2.2.1,hk.2.2.2.2.2.2.2⟩⟩⟩⟩⟩⟩⟩⟩)⟩,⟨by refine sVm ?_;exact Kd.V_mono ag.out (fun _ hk=>⟨hk.1,⟨hk.2.1,⟨(by simp [Value.ownBlock]),⟨hk.2.2.1,⟨hk.2.2.2.1,⟨hk.2.2.2.2.1,⟨hk.2.2.2.2.2.1,⟨hk.2.2.2.2.2.2.1,hk.2.2.2.2.2.2.2⟩⟩⟩⟩⟩⟩⟩⟩)⟩,⟨by refine sRm ?_;exact Kd.R_mono ah.out (fun _ hk=>⟨hk,(by simp [Value.ownBlock])⟩)⟩,⟨by refine sRm ?_;exact af.out⟩,⟨by refine sM ?_;exact an.out⟩,⟨by refine sM ?_;exact ap.out⟩,⟨by refine sM ?_;exact ay.out⟩,⟨by refine sM ?_;exact ab.out⟩,⟨by repeat (first|(with_reducible first|exact HB.out|apply qah|apply qae|apply qag|refine qad ?_ bz.out|refine qad ?_ bB.out|refine qad ?_ bC.out|refine qad ?_ bD.out)|exact HB.out)⟩⟩
        case round=>
         clear H'
         try clear c1
         try clear c2
         try clear p2
         try clear c3
         try clear c4
         try clear c5
         try clear p6
         try clear c7
         try clear c8
         try clear lF
         try clear lG
         try clear lH
         try clear lI
         try clear fB
         try clear cf
         try clear eD
         try clear lJ
         try clear lK
         try clear lL
         try clear lM
         try clear lN
         try clear lO
         try clear gJ
         try clear nb
         try clear nc
         try clear ne
         try clear oy
         try clear oz
         try clear oB
         try clear gK
         try clear gA
         try clear oP
         try clear oQ
         try clear oR
         try clear cF cG cH cI
         try clear cN cO cP cQ cR cS cT
         try clear db dc dd de df dg dh
         try clear dq dr du dv dw dx dy
         try clear ef eg eh ek el en ep
         try clear ff fg fh
         try clear fI fJ fK
         try clear eb ec ed
         try clear cJ cK cL cM
         try clear cU cV cW cX cY cZ da
         try clear di dj dk dl dm dn dp
         try clear dz dA dB cg cj ck cm
         try clear dC dD dE dF dG dH dI
         try clear eq er es
         try clear fi fj fk
         try clear dO dP dQ
         try clear p2
         try clear p6
         obtain⟨aQ,aE,rfl,HA,fG,aV,aZ,ae,ag,ah,af,an,ap,ay,ab,HB⟩:=hrel
         cases gk with
         |zero=>exact absurd HA.out (by simp [ostinatoref18_Pick_Setup.l1])
         |succ k4=>
          have H:=HA.out
          clear HA
          simp only [ostinatoref18_Pick_Setup.l1] at H
          by_cases gL:aE<(aG.length:Int)
          ·rw [if_pos gL] at H
           have gB:decide (aE<(aG.length:Int))=true:=decide_eq_true gL
           clear gL
           by_cases ia:0≤aE
           ·rw [if_pos ia] at H
            have ib:decide (0≤aE)=true:=decide_eq_true ia
            clear ia
            by_cases ic:0≤au
            ·rw [if_pos ic] at H
             have ie:decide (0≤au)=true:=decide_eq_true ic
             clear ic
             by_cases ig:au<(ai.length:Int)
             ·rw [if_pos ig] at H
              have ii:decide (au<(ai.length:Int))=true:=decide_eq_true ig
              clear ig
              by_cases gM:((qaj aG aE).f4)≤((qaj ai au).f4)
              ·rw [if_pos gM] at H
               have gC:decide (((qaj aG aE).f4)≤((qaj ai au).f4))=true:=decide_eq_true gM
               clear gM
               by_cases ij:aQ.length<17592186044416
               ·rw [if_pos ij] at H
                have ik:=qaa.mk ij
                clear ij
                obtain⟨il,eE⟩:∃ y_:List Int,y_=(aQ++[(qaj aG aE).f4]):=⟨_,rfl⟩
                replace H:(ostinatoref18_Pick_Setup.l1 k4 aG au il (ac (aE+1)) aD aN ba aY ax az ai ax az ai (ac (1+(Go.bits .and .i64 aD 1))) aj aH aC)=some (r1,r2,r3,r4,r5,r6,r7):=by first|(rw [eE];with_reducible exact H)|(have eN:=(Option.bind_some _ _).symm.trans H;rw [eE];with_reducible exact eN)|(have eN:=(Option.bind_some _ _).symm.trans H;with_reducible exact eN)|with_reducible exact H|(rw [eE];exact H)|exact H
                have im:=qaa.mk eE
                clear eE
                have H':=qaa.mk H
                clear H
                obtain⟨oC,eF,lQ⟩:=Kd.N_slice aV.out
                subst lQ
                try go_wp2
                replace aV:=qaa.mk (Kd.N_drew aV.out)
                replace aZ:=qaa.mk (Kd.R_drew aZ.out)
                replace ae:=qaa.mk (Kd.V_drew ae.out)
                replace ag:=qaa.mk (Kd.V_drew ag.out)
                replace ah:=qaa.mk (Kd.R_drew ah.out)
                replace af:=qaa.mk (Kd.R_drew af.out)
                replace an:=qaa.mk (qax an.out)
                replace ap:=qaa.mk (qax ap.out)
                replace ay:=qaa.mk (qax ay.out)
                replace ab:=qaa.mk (qax ab.out)
                replace HB:=qaa.mk (qag HB.out)
                have dX:0≤(aE:Int):=of_decide_eq_true sA
                have dY:aE<(aG.length:Int):=of_decide_eq_true sA
                obtain⟨aM,eO,eP,eQ,eR,gN,bQ,bR,bS,bT,bU,bi,bj,co,cp,cq,cr⟩:=at_T53 (Kd.N_reads' aV.out).2.2 aE dX dY
                cases gN
                obtain⟨io,eS,eT,b9⟩:=Kd.N_get aV.out z53 aE dX (by first|exact dY|exact of_decide_eq_true sA|(have e_:=(Kd.N_reads' aV.out).1;omega))
                obtain⟨fL,fM,fN,fO,rfl,bE,bF,bG,bH⟩:=qa8 eT
                have bm:=b9 5 _ rfl
                rw [qat _ _ 5 (by omega)] at bm
                replace bm:=Option.some.inj (bm.symm.trans bi)
                injection bm with hva_ hvn_ hvc_
                rw [hva_] at bF
                rw [hvc_] at bE
                have ct:=qaa.mk (show Kd.V (Kd.int .i64) 2 _ w.heap.size _ _ ((qaj aG aE).f5) from Kd.V_mk bE bF)
                clear hva_ hvn_ hvc_ bF bE
                have bn:=b9 6 _ rfl
                rw [qat _ _ 6 (by omega)] at bn
                replace bn:=Option.some.inj (bn.symm.trans bj)
                injection bn with hva_ hvn_ hvc_
                rw [hva_] at bH
                rw [hvc_] at bG
                have cu:=qaa.mk (show Kd.V (Kd.int .i64) 3 _ w.heap.size _ _ ((qaj aG aE).f6) from Kd.V_mk bG bH)
                clear hva_ hvn_ hvc_ bH bG b9 eS
                have et:=qaa.mk cp
                have fP:=qaa.mk co
                clear cp co
                have eu:=qaa.mk cr
                have fQ:=qaa.mk cq
                clear cr cq
                replace dX:=eq_true dX
                replace dY:=eq_true dY
                have dZ:0≤(au:Int):=of_decide_eq_true sA
                have d7:au<(ai.length:Int):=of_decide_eq_true sA
                obtain⟨aU,eU,eV,eW,eX,gO,bV,bW,bX,bY,bZ,bw,bx,cv,cw,cx,cy⟩:=at_T53 (Kd.V_reads' ae.out).2.2 au dZ d7
                cases gO
                obtain⟨ip,eY,eZ,ca⟩:=Kd.V_get ae.out z53 au dZ (by first|exact d7|exact of_decide_eq_true sA|(have e_:=(Kd.V_reads' ae.out).1;omega))
                obtain⟨fR,fS,fT,fU,rfl,bI,bJ,bK,bL⟩:=qa8 eZ
                have bp:=ca 5 _ rfl
                rw [qat _ _ 5 (by omega)] at bp
                replace bp:=Option.some.inj (bp.symm.trans bw)
                injection bp with hva_ hvn_ hvc_
                rw [hva_] at bJ
                rw [hvc_] at bI
                have cz:=qaa.mk (show Kd.V (Kd.int .i64) 2 _ w.heap.size _ _ ((qaj ai au).f5) from Kd.V_mk bI bJ)
                clear hva_ hvn_ hvc_ bJ bI
                have bq:=ca 6 _ rfl
                rw [qat _ _ 6 (by omega)] at bq
                replace bq:=Option.some.inj (bq.symm.trans bx)
                injection bq with hva_ hvn_ hvc_
                rw [hva_] at bL
                rw [hvc_] at bK
                have cA:=qaa.mk (show Kd.V (Kd.int .i64) 3 _ w.heap.size _ _ ((qaj ai au).f6) from Kd.V_mk bK bL)
                clear hva_ hvn_ hvc_ bL bK ca eY
                have ev:=qaa.mk cw
                have fV:=qaa.mk cv
                clear cw cv
                have ew:=qaa.mk cy
                have fW:=qaa.mk cx
                clear cy cx
                replace dZ:=eq_true dZ
                replace d7:=eq_true d7
                refine start_ (n:=12) (S:=fun w'=>w'.cell? ⟨aw,0,none⟩=some (.int .i64 ax)∧w'.cell? ⟨aw,1,none⟩=some (.int .i64 az)∧w'.cell? ⟨aw,2,none⟩=some (.slice (some aU) ai.length aI)∧w'.cell? (aM.add ((aE).toNat * 7))=some (.int .i64 ((qaj aG aE).f0))∧w'.cell? ⟨(aM.add ((aE).toNat * 7)).block,(aM.add ((aE).toNat * 7)).off+1,none⟩=some (.int .i64 ((qaj aG aE).f1))∧w'.cell? ⟨(aM.add ((aE).toNat * 7)).block,(aM.add ((aE).toNat * 7)).off+2,none⟩=some (.int .i64 ((qaj aG aE).f2))∧w'.cell? ⟨(aM.add ((aE).toNat * 7)).block,(aM.add ((aE).toNat * 7)).off+3,none⟩=some (.int .i64 ((qaj aG aE).f3))∧w'.cell? ⟨(aM.add ((aE).toNat * 7)).block,(aM.add ((aE).toNat * 7)).off+4,none⟩=some (.int .i64 ((qaj aG aE).f4))∧w'.cell? ⟨(aM.add ((aE).toNat * 7)).block,(aM.add ((aE).toNat * 7)).off+5,none⟩=some (.slice eO ((qaj aG aE).f5).length eP)∧w'.cell? ⟨(aM.add ((aE).toNat * 7)).block,(aM.add ((aE).toNat * 7)).off+6,none⟩=some (.slice eQ ((qaj aG aE).f6).length eR)∧w'.cell? (aU.add ((au).toNat * 7))=some (.int .i64 ((qaj ai au).f0))∧w'.cell? ⟨(aU.add ((au).toNat * 7)).block,(aU.add ((au).toNat * 7)).off+1,none⟩=some (.int .i64 ((qaj ai au).f1))∧w'.cell? ⟨(aU.add ((au).toNat * 7)).block,(aU.add ((au).toNat * 7)).off+2,none⟩=some (.int .i64 ((qaj ai au).f2))∧w'.cell? ⟨(aU.add ((au).toNat * 7)).block,(aU.add ((au).toNat * 7)).off+3,none⟩=some (.int .i64 ((qaj ai au).f3))∧w'.cell? ⟨(aU.add ((au).toNat * 7)).block,(aU.add ((au).toNat * 7)).off+4,none⟩=some (.int .i64 ((qaj ai au).f4))∧w'.cell? ⟨(aU.add ((au).toNat * 7)).block,(aU.add ((au).toNat * 7)).off+5,none⟩=some (.slice eU ((qaj ai au).f5).length eV)∧w'.cell? ⟨(aU.add ((au).toNat * 7)).block,(aU.add ((au).toNat * 7)).off+6,none⟩=some (.slice eW ((qaj ai au).f6).length eX)) (ds:=[]) #[false,false,false,false,false,false,false,false,false,false,false,false] (by kernel_rfl) rfl rfl ⟨(qab ap.out 0).trans rfl,(qab ap.out 1).trans rfl,(qab ap.out 2).trans rfl,bQ,bR,bS,bT,bU,bi,bj,bV,bW,bX,bY,bZ,bw,bx⟩ (fun hHeld=>?_);refine qaX ostinatoref18_Pick_Setup.tab12 ostinatoref18_Pick_Setup.bits12 (fun HT_ HW_=>?_)
                generalize wr.drew=oS at aV aZ ae ag ah af an ap ay ab HB ct cu cz cA et eu ev ew bQ bR bS bT bU bi bj bV bW bX bY bZ bw bx hHeld ⊢
                refine sP 0 (some 46) rfl rfl ?_
                refine sP 1 (some 47) rfl rfl ?_
                refine sP 2 (some 48) rfl rfl ?_
                refine sP 3 (some 49) rfl rfl ?_
                refine sP 5 (some 51) rfl rfl ?_
                refine sP 7 (some 53) rfl rfl ?_
                refine qaZ (i:=4) (N:=some 50) (v:=?_) (a':=?_) #[true,true,true,true,true,true,false,true,false,false,false,false] rfl rfl (qay HT_.out HW_.out (by kernel_rfl)) (fun _ _ _ h=>h) (Or.inl ⟨by rfl,?_⟩) hHeld ?_ ?_
                rotate_left
                ·rintro w' ⟨s0,s1,s2,s3,s4,s5,s6,s7,s8,s9,iq,ir,iu,iv,iw,ix,iy⟩
                 go_simp
                 with_reducible rfl
                rotate_left
                ·simp only [Act.put,List.setIfInBounds_toArray,List.set_cons_zero,List.set_cons_succ,qaC,qaE]
                 rfl
                refine qaZ (i:=6) (N:=some 52) (v:=?_) (a':=?_) #[true,true,true,true,true,true,true,true,false,false,false,false] rfl rfl (qay HT_.out HW_.out (by kernel_rfl)) (fun _ _ _ h=>h) (Or.inl ⟨by rfl,?_⟩) hHeld ?_ ?_
                rotate_left
                ·rintro w' ⟨s0,s1,s2,s3,s4,s5,s6,s7,s8,s9,iq,ir,iu,iv,iw,ix,iy⟩
                 go_simp
                 with_reducible rfl
                rotate_left
                ·simp only [Act.put,List.setIfInBounds_toArray,List.set_cons_zero,List.set_cons_succ,qaC,qaE]
                 rfl
                refine sP 8 (some 54) rfl rfl ?_
                refine sP 9 (some 55) rfl rfl ?_
                refine qaZ (i:=10) (N:=some 56) (v:=?_) (a':=?_) #[true,true,true,true,true,true,true,true,true,true,true,false] rfl rfl (qay HT_.out HW_.out (by kernel_rfl)) (fun _ _ _ h=>h) (Or.inl ⟨by rfl,?_⟩) hHeld ?_ ?_
                rotate_left
                ·rintro w' ⟨s0,s1,s2,s3,s4,s5,s6,s7,s8,s9,iq,ir,iu,iv,iw,ix,iy⟩
                 go_simp
                 with_reducible rfl
                rotate_left
                ·simp only [Act.put,List.setIfInBounds_toArray,List.set_cons_zero,List.set_cons_succ,qaC,qaE]
                 rfl
                refine sP 11 (some 57) rfl rfl ?_
                refine done_ (done_of HT_.out (by kernel_rfl)) ?_
                have fC:0≤(aE:Int):=of_decide_eq_true sA
                have fD:aE<(aG.length:Int):=of_decide_eq_true sA
                obtain⟨iz,lR,lS,lT,lU,lV,fX,fY,fZ,ga,gb,ex,ey,fl,fm,fo,fp⟩:=at_T53 (Kd.N_reads' aV.out).2.2 aE fC fD
                obtain rfl:aM=iz:=(by injection lV)
                obtain⟨nr,gP,gQ,fa⟩:=Kd.N_get aV.out z53 aE fC (by first|exact fD|exact of_decide_eq_true sA|(have e_:=(Kd.N_reads' aV.out).1;omega))
                obtain⟨jN,jO,jP,jQ,rfl,ez,eA,eB,eC⟩:=qa8 gQ
                have dJ:=fa 5 _ rfl
                rw [qat _ _ 5 (by omega)] at dJ
                replace dJ:=Option.some.inj (dJ.symm.trans ex)
                injection dJ with hva_ hvn_ hvc_
                rw [hva_] at eA
                rw [hvc_] at ez
                have fq:=qaa.mk (show Kd.V (Kd.int .i64) 2 _ w.heap.size _ _ ((qaj aG aE).f5) from Kd.V_mk ez eA)
                clear hva_ hvn_ hvc_ eA ez
                have dK:=fa 6 _ rfl
                rw [qat _ _ 6 (by omega)] at dK
                replace dK:=Option.some.inj (dK.symm.trans ey)
                injection dK with hva_ hvn_ hvc_
                rw [hva_] at eC
                rw [hvc_] at eB
                have ft:=qaa.mk (show Kd.V (Kd.int .i64) 3 _ w.heap.size _ _ ((qaj aG aE).f6) from Kd.V_mk eB eC)
                clear hva_ hvn_ hvc_ eC eB fa gP
                have jR:=qaa.mk fm
                have jS:=qaa.mk fl
                clear fm fl
                have jT:=qaa.mk fp
                have jU:=qaa.mk fo
                clear fp fo
                replace fC:=eq_true fC
                replace fD:=eq_true fD
                have ea_:=Option.some.inj (bi.symm.trans ex)
                injection ea_ with ea_ en_ ec_
                subst ea_
                subst ec_
                clear en_
                have ea_:=Option.some.inj (bj.symm.trans ey)
                injection ea_ with ea_ en_ ec_
                subst ea_
                subst ec_
                clear en_
                try go_wp2_with (first|((with_reducible refine qaB (b:=.append) (xs:=#[.tmp 58,.tmp 64]) rfl ?_);at_builtin;refine Kd.R_append (Kd.int .i64) (w0:=w) w.heap.size rfl (.tmp 58) (.tmp 64) 25 3 (.int .i64 0) 8 rfl Tryd.underlying25 info3 rfl (by decide) (by omega) u8 aQ ((qaj aG aE).f4) [.int .i64 ((qaj aG aE).f4)] (fun k_=>(w.heap.size≤k_)∧some k_≠(av:Value).ownBlock) (fun _=>False) rfl rfl ?aP (fun _ hk=>hk.elim) ?aF ?aO ?aB ?aS ?aL ?_;(case aP=>exact rfl);(case aB=>exact sB);(case aF=>exact (fun k_ hk=>⟨(Nat.le_trans (qac sB) hk),Kd.fresh' (Kd.R_lt (sR ah.out)) k_ hk⟩));(case aO=>exact (sR aZ.out));(case aS=>exact (qac sB));(case aL=>have:=ik.out;omega);intro oD oT ho hb hg hat;rw [← im.out] at ho;replace aV:=qaa.mk (Kd.N_afterv (ok:=(fun k_=>(aJ k_∨w.heap.size≤k_)∧some k_≠(av:Value).ownBlock∧some k_≠(aq:Value).ownBlock∧k_≠aA∧k_≠aw∧k_≠ak∧k_≠aa)) (by refine sNm ?_;exact Kd.N_mono aV.out (fun _ hk=>⟨⟨hk.1,⟨hk.2.2.1,⟨hk.2.2.2.1,⟨hk.2.2.2.2.1,⟨hk.2.2.2.2.2.1,⟨hk.2.2.2.2.2.2.1,hk.2.2.2.2.2.2.2⟩⟩⟩⟩⟩⟩,hk.2.1⟩)) hg hat);replace ae:=qaa.mk (Kd.V_afterv (ok:=(fun k_=>(aJ k_∨w.heap.size≤k_)∧some k_≠(.slice (some aM) aG.length eF:Value).ownBlock∧some k_≠(av:Value).ownBlock∧some k_≠(aq:Value).ownBlock∧k_≠aA∧k_≠aw∧k_≠ak∧k_≠aa)) (by refine sVm ?_;exact Kd.V_mono ae.out (fun _ hk=>⟨⟨hk.1,⟨hk.2.1,⟨hk.2.2.2.1,⟨hk.2.2.2.2.1,⟨hk.2.2.2.2.2.1,⟨hk.2.2.2.2.2.2.1,⟨hk.2.2.2.2.2.2.2.1,hk.2.2.2.2.2.2.2.2⟩⟩⟩⟩⟩⟩⟩,hk.2.2.1⟩)) hg hat);replace ag:=qaa.mk (Kd.V_afterv (ok:=(fun k_=>(aJ k_∨w.heap.size≤k_)∧some k_≠(.slice (some aM) aG.length eF:Value).ownBlock∧some k_≠(av:Value).ownBlock∧some k_≠(aq:Value).ownBlock∧k_≠aA∧k_≠aw∧k_≠ak∧k_≠aa)) (by refine sVm ?_;exact Kd.V_mono ag.out (fun _ hk=>⟨⟨hk.1,⟨hk.2.1,⟨hk.2.2.2.1,⟨hk.2.2.2.2.1,⟨hk.2.2.2.2.2.1,⟨hk.2.2.2.2.2.2.1,⟨hk.2.2.2.2.2.2.2.1,hk.2.2.2.2.2.2.2.2⟩⟩⟩⟩⟩⟩⟩,hk.2.2.1⟩)) hg hat);replace ah:=qaa.mk (Kd.R_after (ok:=(fun k_=>(w.heap.size≤k_))) (sR ah.out) hg hat);replace af:=qaa.mk (Kd.R_over' (sR af.out) (Kd.R_typed (sR aZ.out)) (by decide) hg);replace an:=qaa.mk (sKg an.out hg (Kd.R_ne aZ.out an.out (by decide)));replace ap:=qaa.mk (sKg ap.out hg (Kd.R_ne aZ.out ap.out (by decide)));replace ay:=qaa.mk (sKg ay.out hg (Kd.R_ne aZ.out ay.out (by decide)));replace ab:=qaa.mk (sKg ab.out hg (Kd.R_ne aZ.out ab.out (by decide)));replace ct:=qaa.mk (Kd.V_afterv (ok:=(fun k_=>(aJ k_∨w.heap.size≤k_)∧some k_≠(.slice (some aM) aG.length eF:Value).ownBlock∧some k_≠(av:Value).ownBlock∧some k_≠(aq:Value).ownBlock∧k_≠aA∧k_≠aw∧k_≠ak∧k_≠aa)) (by refine sVm ?_;exact Kd.V_mono ct.out (fun _ hk=>⟨⟨hk.1.1,⟨hk.2,⟨hk.1.2.2.1,⟨hk.1.2.2.2.1,⟨hk.1.2.2.2.2.1,⟨hk.1.2.2.2.2.2.1,⟨hk.1.2.2.2.2.2.2.1,hk.1.2.2.2.2.2.2.2⟩⟩⟩⟩⟩⟩⟩,hk.1.2.1⟩)) hg hat);replace cu:=qaa.mk (Kd.V_afterv (ok:=(fun k_=>(aJ k_∨w.heap.size≤k_)∧some k_≠(.slice (some aM) aG.length eF:Value).ownBlock∧some k_≠(av:Value).ownBlock∧some k_≠(aq:Value).ownBlock∧k_≠aA∧k_≠aw∧k_≠ak∧k_≠aa)) (by refine sVm ?_;exact Kd.V_mono cu.out (fun _ hk=>⟨⟨hk.1.1,⟨hk.2,⟨hk.1.2.2.1,⟨hk.1.2.2.2.1,⟨hk.1.2.2.2.2.1,⟨hk.1.2.2.2.2.2.1,⟨hk.1.2.2.2.2.2.2.1,hk.1.2.2.2.2.2.2.2⟩⟩⟩⟩⟩⟩⟩,hk.1.2.1⟩)) hg hat);replace cz:=qaa.mk (Kd.V_afterv (ok:=(fun k_=>(aJ k_∨w.heap.size≤k_)∧some k_≠(.slice (some aM) aG.length eF:Value).ownBlock∧some k_≠(av:Value).ownBlock∧some k_≠(aq:Value).ownBlock∧k_≠aA∧k_≠aw∧k_≠ak∧k_≠aa)) (by refine sVm ?_;exact Kd.V_mono cz.out (fun _ hk=>⟨⟨hk.1,⟨hk.2.1,⟨hk.2.2.2.1,⟨hk.2.2.2.2.1,⟨hk.2.2.2.2.2.1,⟨hk.2.2.2.2.2.2.1,⟨hk.2.2.2.2.2.2.2.1,hk.2.2.2.2.2.2.2.2⟩⟩⟩⟩⟩⟩⟩,hk.2.2.1⟩)) hg hat);replace cA:=qaa.mk (Kd.V_afterv (ok:=(fun k_=>(aJ k_∨w.heap.size≤k_)∧some k_≠(.slice (some aM) aG.length eF:Value).ownBlock∧some k_≠(av:Value).ownBlock∧some k_≠(aq:Value).ownBlock∧k_≠aA∧k_≠aw∧k_≠ak∧k_≠aa)) (by refine sVm ?_;exact Kd.V_mono cA.out (fun _ hk=>⟨⟨hk.1,⟨hk.2.1,⟨hk.2.2.2.1,⟨hk.2.2.2.2.1,⟨hk.2.2.2.2.2.1,⟨hk.2.2.2.2.2.2.1,⟨hk.2.2.2.2.2.2.2.1,hk.2.2.2.2.2.2.2.2⟩⟩⟩⟩⟩⟩⟩,hk.2.2.1⟩)) hg hat);replace fq:=qaa.mk (Kd.V_afterv (ok:=(fun k_=>(aJ k_∨w.heap.size≤k_)∧some k_≠(.slice (some aM) aG.length eF:Value).ownBlock∧some k_≠(av:Value).ownBlock∧some k_≠(aq:Value).ownBlock∧k_≠aA∧k_≠aw∧k_≠ak∧k_≠aa)) (by refine sVm ?_;exact Kd.V_mono fq.out (fun _ hk=>⟨⟨hk.1.1,⟨hk.2,⟨hk.1.2.2.1,⟨hk.1.2.2.2.1,⟨hk.1.2.2.2.2.1,⟨hk.1.2.2.2.2.2.1,⟨hk.1.2.2.2.2.2.2.1,hk.1.2.2.2.2.2.2.2⟩⟩⟩⟩⟩⟩⟩,hk.1.2.1⟩)) hg hat);replace ft:=qaa.mk (Kd.V_afterv (ok:=(fun k_=>(aJ k_∨w.heap.size≤k_)∧some k_≠(.slice (some aM) aG.length eF:Value).ownBlock∧some k_≠(av:Value).ownBlock∧some k_≠(aq:Value).ownBlock∧k_≠aA∧k_≠aw∧k_≠ak∧k_≠aa)) (by refine sVm ?_;exact Kd.V_mono ft.out (fun _ hk=>⟨⟨hk.1.1,⟨hk.2,⟨hk.1.2.2.1,⟨hk.1.2.2.2.1,⟨hk.1.2.2.2.2.1,⟨hk.1.2.2.2.2.2.1,⟨hk.1.2.2.2.2.2.2.1,hk.1.2.2.2.2.2.2.2⟩⟩⟩⟩⟩⟩⟩,hk.1.2.1⟩)) hg hat);replace HB:=qaa.mk (hb);have iA:=qaa.mk (ho);clear aZ ho hb hg hat))
                go_roundg k4
                case measure=>have:=fA.out;have:=dW.out;have:=fF.out;have:=fG.out;omega
                case rel=>exact⟨(il),(ac (aE+1)),(by first|rfl|(simp;done)|(simp [*];done)),H',⟨by have:=fA.out;have:=dW.out;have:=fF.out;have:=fG.out;omega⟩,⟨by refine sNm ?_;exact Kd.N_mono aV.out (fun _ hk=>⟨hk.1.1,⟨hk.2,⟨hk.1.2.1,⟨hk.1.2.2.1,⟨hk.1.2.2.2.1,⟨hk.1.2.2.2.2.1,⟨hk.1.2.2.2.2.2.1,hk.1.2.2.2.2.2.2⟩⟩⟩⟩⟩⟩⟩)⟩,⟨by refine sRm ?_;exact iA.out⟩,⟨by refine sVm ?_;exact Kd.V_mono ae.out (fun _ hk=>⟨hk.1.1,⟨hk.1.2.1,⟨hk.2,⟨hk.1.2.2.1,⟨hk.1.2.2.2.1,⟨hk.1.2.2.2.2.1,⟨hk.1.2.2.2.2.2.1,⟨hk.1.2.2.2.2.2.2.1,hk.1.2.2.2.2.2.2.2⟩⟩⟩⟩⟩⟩⟩⟩)⟩,⟨by refine sVm ?_;exact Kd.V_mono ag.out (fun _ hk=>⟨hk.1.1,⟨hk.1.2.1,⟨hk.2,⟨hk.1.2.2.1,⟨hk.1.2.2.2.1,⟨hk.1.2.2.2.2.1,⟨hk.1.2.2.2.2.2.1,⟨hk.1.2.2.2.2.2.2.1,hk.1.2.2.2.2.2.2.2⟩⟩⟩⟩⟩⟩⟩⟩)⟩,⟨by refine sRm ?_;exact ah.out⟩,⟨by refine sRm ?_;exact af.out⟩,⟨by refine sM ?_;exact an.out⟩,⟨by refine sM ?_;exact ap.out⟩,⟨by refine sM ?_;exact ay.out⟩,⟨by refine sM ?_;exact ab.out⟩,⟨by repeat (first|(with_reducible first|exact HB.out|apply qah|apply qae|apply qag|refine qad ?_ bz.out|refine qad ?_ bB.out|refine qad ?_ bC.out|refine qad ?_ bD.out)|exact HB.out)⟩⟩
               ·rw [if_neg ij] at H
                exact absurd H (by simp)
              ·rw [if_neg gM] at H
               have gC:decide (((qaj aG aE).f4)≤((qaj ai au).f4))=false:=decide_eq_false gM
               clear gM
               have H':=qaa.mk H
               clear H
               obtain⟨oE,oF,lW⟩:=Kd.N_slice aV.out
               subst lW
               try go_wp2
               replace aV:=qaa.mk (Kd.N_drew aV.out)
               replace aZ:=qaa.mk (Kd.R_drew aZ.out)
               replace ae:=qaa.mk (Kd.V_drew ae.out)
               replace ag:=qaa.mk (Kd.V_drew ag.out)
               replace ah:=qaa.mk (Kd.R_drew ah.out)
               replace af:=qaa.mk (Kd.R_drew af.out)
               replace an:=qaa.mk (qax an.out)
               replace ap:=qaa.mk (qax ap.out)
               replace ay:=qaa.mk (qax ay.out)
               replace ab:=qaa.mk (qax ab.out)
               replace HB:=qaa.mk (qag HB.out)
               have dX:0≤(aE:Int):=of_decide_eq_true sA
               have dY:aE<(aG.length:Int):=of_decide_eq_true sA
               obtain⟨aM,eO,eP,eQ,eR,gN,bQ,bR,bS,bT,bU,bi,bj,co,cp,cq,cr⟩:=at_T53 (Kd.N_reads' aV.out).2.2 aE dX dY
               cases gN
               obtain⟨io,eS,eT,b9⟩:=Kd.N_get aV.out z53 aE dX (by first|exact dY|exact of_decide_eq_true sA|(have e_:=(Kd.N_reads' aV.out).1;omega))
               obtain⟨fL,fM,fN,fO,rfl,bE,bF,bG,bH⟩:=qa8 eT
               have bm:=b9 5 _ rfl
               rw [qat _ _ 5 (by omega)] at bm
               replace bm:=Option.some.inj (bm.symm.trans bi)
               injection bm with hva_ hvn_ hvc_
               rw [hva_] at bF
               rw [hvc_] at bE
               have ct:=qaa.mk (show Kd.V (Kd.int .i64) 2 _ w.heap.size _ _ ((qaj aG aE).f5) from Kd.V_mk bE bF)
               clear hva_ hvn_ hvc_ bF bE
               have bn:=b9 6 _ rfl
               rw [qat _ _ 6 (by omega)] at bn
               replace bn:=Option.some.inj (bn.symm.trans bj)
               injection bn with hva_ hvn_ hvc_
               rw [hva_] at bH
               rw [hvc_] at bG
               have cu:=qaa.mk (show Kd.V (Kd.int .i64) 3 _ w.heap.size _ _ ((qaj aG aE).f6) from Kd.V_mk bG bH)
               clear hva_ hvn_ hvc_ bH bG b9 eS
               have et:=qaa.mk cp
               have fP:=qaa.mk co
               clear cp co
               have eu:=qaa.mk cr
               have fQ:=qaa.mk cq
               clear cr cq
               replace dX:=eq_true dX
               replace dY:=eq_true dY
               have dZ:0≤(au:Int):=of_decide_eq_true sA
               have d7:au<(ai.length:Int):=of_decide_eq_true sA
               obtain⟨aU,eU,eV,eW,eX,gO,bV,bW,bX,bY,bZ,bw,bx,cv,cw,cx,cy⟩:=at_T53 (Kd.V_reads' ae.out).2.2 au dZ d7
               cases gO
               obtain⟨ip,eY,eZ,ca⟩:=Kd.V_get ae.out z53 au dZ (by first|exact d7|exact of_decide_eq_true sA|(have e_:=(Kd.V_reads' ae.out).1;omega))
               obtain⟨fR,fS,fT,fU,rfl,bI,bJ,bK,bL⟩:=qa8 eZ
               have bp:=ca 5 _ rfl
               rw [qat _ _ 5 (by omega)] at bp
               replace bp:=Option.some.inj (bp.symm.trans bw)
               injection bp with hva_ hvn_ hvc_
               rw [hva_] at bJ
               rw [hvc_] at bI
               have cz:=qaa.mk (show Kd.V (Kd.int .i64) 2 _ w.heap.size _ _ ((qaj ai au).f5) from Kd.V_mk bI bJ)
               clear hva_ hvn_ hvc_ bJ bI
               have bq:=ca 6 _ rfl
               rw [qat _ _ 6 (by omega)] at bq
               replace bq:=Option.some.inj (bq.symm.trans bx)
               injection bq with hva_ hvn_ hvc_
               rw [hva_] at bL
               rw [hvc_] at bK
               have cA:=qaa.mk (show Kd.V (Kd.int .i64) 3 _ w.heap.size _ _ ((qaj ai au).f6) from Kd.V_mk bK bL)
               clear hva_ hvn_ hvc_ bL bK ca eY
               have ev:=qaa.mk cw
               have fV:=qaa.mk cv
               clear cw cv
               have ew:=qaa.mk cy
               have fW:=qaa.mk cx
               clear cy cx
               replace dZ:=eq_true dZ
               replace d7:=eq_true d7
               refine start_ (n:=12) (S:=fun w'=>w'.cell? ⟨aw,0,none⟩=some (.int .i64 ax)∧w'.cell? ⟨aw,1,none⟩=some (.int .i64 az)∧w'.cell? ⟨aw,2,none⟩=some (.slice (some aU) ai.length aI)∧w'.cell? (aM.add ((aE).toNat * 7))=some (.int .i64 ((qaj aG aE).f0))∧w'.cell? ⟨(aM.add ((aE).toNat * 7)).block,(aM.add ((aE).toNat * 7)).off+1,none⟩=some (.int .i64 ((qaj aG aE).f1))∧w'.cell? ⟨(aM.add ((aE).toNat * 7)).block,(aM.add ((aE).toNat * 7)).off+2,none⟩=some (.int .i64 ((qaj aG aE).f2))∧w'.cell? ⟨(aM.add ((aE).toNat * 7)).block,(aM.add ((aE).toNat * 7)).off+3,none⟩=some (.int .i64 ((qaj aG aE).f3))∧w'.cell? ⟨(aM.add ((aE).toNat * 7)).block,(aM.add ((aE).toNat * 7)).off+4,none⟩=some (.int .i64 ((qaj aG aE).f4))∧w'.cell? ⟨(aM.add ((aE).toNat * 7)).block,(aM.add ((aE).toNat * 7)).off+5,none⟩=some (.slice eO ((qaj aG aE).f5).length eP)∧w'.cell? ⟨(aM.add ((aE).toNat * 7)).block,(aM.add ((aE).toNat * 7)).off+6,none⟩=some (.slice eQ ((qaj aG aE).f6).length eR)∧w'.cell? (aU.add ((au).toNat * 7))=some (.int .i64 ((qaj ai au).f0))∧w'.cell? ⟨(aU.add ((au).toNat * 7)).block,(aU.add ((au).toNat * 7)).off+1,none⟩=some (.int .i64 ((qaj ai au).f1))∧w'.cell? ⟨(aU.add ((au).toNat * 7)).block,(aU.add ((au).toNat * 7)).off+2,none⟩=some (.int .i64 ((qaj ai au).f2))∧w'.cell? ⟨(aU.add ((au).toNat * 7)).block,(aU.add ((au).toNat * 7)).off+3,none⟩=some (.int .i64 ((qaj ai au).f3))∧w'.cell? ⟨(aU.add ((au).toNat * 7)).block,(aU.add ((au).toNat * 7)).off+4,none⟩=some (.int .i64 ((qaj ai au).f4))∧w'.cell? ⟨(aU.add ((au).toNat * 7)).block,(aU.add ((au).toNat * 7)).off+5,none⟩=some (.slice eU ((qaj ai au).f5).length eV)∧w'.cell? ⟨(aU.add ((au).toNat * 7)).block,(aU.add ((au).toNat * 7)).off+6,none⟩=some (.slice eW ((qaj ai au).f6).length eX)) (ds:=[]) #[false,false,false,false,false,false,false,false,false,false,false,false] (by kernel_rfl) rfl rfl ⟨(qab ap.out 0).trans rfl,(qab ap.out 1).trans rfl,(qab ap.out 2).trans rfl,bQ,bR,bS,bT,bU,bi,bj,bV,bW,bX,bY,bZ,bw,bx⟩ (fun hHeld=>?_);refine qaX ostinatoref18_Pick_Setup.tab12 ostinatoref18_Pick_Setup.bits12 (fun HT_ HW_=>?_)
               generalize wr.drew=oU at aV aZ ae ag ah af an ap ay ab HB ct cu cz cA et eu ev ew bQ bR bS bT bU bi bj bV bW bX bY bZ bw bx hHeld ⊢
               refine sP 0 (some 46) rfl rfl ?_
               refine sP 1 (some 47) rfl rfl ?_
               refine sP 2 (some 48) rfl rfl ?_
               refine sP 3 (some 49) rfl rfl ?_
               refine sP 5 (some 51) rfl rfl ?_
               refine sP 7 (some 53) rfl rfl ?_
               refine qaZ (i:=4) (N:=some 50) (v:=?_) (a':=?_) #[true,true,true,true,true,true,false,true,false,false,false,false] rfl rfl (qay HT_.out HW_.out (by kernel_rfl)) (fun _ _ _ h=>h) (Or.inl ⟨by rfl,?_⟩) hHeld ?_ ?_
               rotate_left
               ·rintro w' ⟨s0,s1,s2,s3,s4,s5,s6,s7,s8,s9,iq,ir,iu,iv,iw,ix,iy⟩
                go_simp
                with_reducible rfl
               rotate_left
               ·simp only [Act.put,List.setIfInBounds_toArray,List.set_cons_zero,List.set_cons_succ,qaC,qaE]
                rfl
               refine qaZ (i:=6) (N:=some 52) (v:=?_) (a':=?_) #[true,true,true,true,true,true,true,true,false,false,false,false] rfl rfl (qay HT_.out HW_.out (by kernel_rfl)) (fun _ _ _ h=>h) (Or.inl ⟨by rfl,?_⟩) hHeld ?_ ?_
               rotate_left
               ·rintro w' ⟨s0,s1,s2,s3,s4,s5,s6,s7,s8,s9,iq,ir,iu,iv,iw,ix,iy⟩
                go_simp
                with_reducible rfl
               rotate_left
               ·simp only [Act.put,List.setIfInBounds_toArray,List.set_cons_zero,List.set_cons_succ,qaC,qaE]
                rfl
               refine sP 8 (some 54) rfl rfl ?_
               refine sP 9 (some 55) rfl rfl ?_
               refine qaZ (i:=10) (N:=some 56) (v:=?_) (a':=?_) #[true,true,true,true,true,true,true,true,true,true,true,false] rfl rfl (qay HT_.out HW_.out (by kernel_rfl)) (fun _ _ _ h=>h) (Or.inl ⟨by rfl,?_⟩) hHeld ?_ ?_
               rotate_left
               ·rintro w' ⟨s0,s1,s2,s3,s4,s5,s6,s7,s8,s9,iq,ir,iu,iv,iw,ix,iy⟩
                go_simp
                with_reducible rfl
               rotate_left
               ·simp only [Act.put,List.setIfInBounds_toArray,List.set_cons_zero,List.set_cons_succ,qaC,qaE]
                rfl
               refine sP 11 (some 57) rfl rfl ?_
               refine done_ (done_of HT_.out (by kernel_rfl)) ?_
               try go_wp2
               go_roundg k4
               case measure=>have:=fA.out;have:=dW.out;have:=fF.out;have:=fG.out;omega
               case rel=>exact⟨(aQ),(ac (aE+1)),(by first|rfl|(simp;done)|(simp [*];done)),H',⟨by have:=fA.out;have:=dW.out;have:=fF.out;have:=fG.out;omega⟩,⟨by refine sNm ?_;exact aV.out⟩,⟨by refine sRm ?_;exact aZ.out⟩,⟨by refine sVm ?_;exact ae.out⟩,⟨by refine sVm ?_;exact ag.out⟩,⟨by refine sRm ?_;exact ah.out⟩,⟨by refine sRm ?_;exact af.out⟩,⟨by refine sM ?_;exact an.out⟩,⟨by refine sM ?_;exact ap.out⟩,⟨by refine sM ?_;exact ay.out⟩,⟨by refine sM ?_;exact ab.out⟩,⟨by repeat (first|(with_reducible first|exact HB.out|apply qah|apply qae|apply qag|refine qad ?_ bz.out|refine qad ?_ bB.out|refine qad ?_ bC.out|refine qad ?_ bD.out)|exact HB.out)⟩⟩
             ·rw [if_neg ig] at H
              exact absurd H (by simp)
            ·rw [if_neg ic] at H
             exact absurd H (by simp)
           ·rw [if_neg ia] at H
            exact absurd H (by simp)
          ·rw [if_neg gL] at H
           have gB:decide (aE<(aG.length:Int))=false:=decide_eq_false gL
           clear gL
           have gR:=qaa.mk H
           clear H
           obtain⟨dT,dU,lX⟩:=Kd.N_slice aV.out
           subst lX
           obtain⟨fE,bM,lY⟩:=Kd.R_slice aZ.out
           subst lY
           have nt:=bf.out
           have nu:=bg.out
           have nv:=bt.out
           have nw:=bv.out
           have nx:=al.out
           have ny:=aW.out
           obtain⟨gc,ge,gf,gg⟩:=sC4 (w:=wr) an.out
           obtain⟨gh,gi,gj,gl⟩:=sF4 an.out
           go_upto_if 73 with (fail)
           go_cut [10] (fun oG wc=>∃ (kq:Nat) (aT:Int),oG=.int .i64 aT∧qaa (ostinatoref18_Pick_Setup.j4 kq aG au aQ aT aD aN ba aY ax az ai ax az ai (ac (1+(Go.bits .and .i64 aD 1))) aj aH aC=some (r1,r2,r3,r4,r5,r6,r7))∧qaa (kq≤k4)∧qaa (Kd.N k53 53 wc w.heap.size (fun k_=>(aJ k_∨w.heap.size≤k_)∧some k_≠((.slice fE aQ.length bM):Value).ownBlock∧some k_≠(av:Value).ownBlock∧some k_≠(aq:Value).ownBlock∧k_≠aA∧k_≠aw∧k_≠ak∧k_≠aa) (.slice dT aG.length dU) aG)∧qaa (Kd.R (Kd.int .i64) 3 wc w.heap.size (fun k_=>(w.heap.size≤k_)∧some k_≠(av:Value).ownBlock) (.slice fE aQ.length bM) aQ)∧qaa (Kd.V k53 53 wc w.heap.size (fun k_=>(aJ k_∨w.heap.size≤k_)∧some k_≠((.slice dT aG.length dU):Value).ownBlock∧some k_≠((.slice fE aQ.length bM):Value).ownBlock∧some k_≠(av:Value).ownBlock∧some k_≠(aq:Value).ownBlock∧k_≠aA∧k_≠aw∧k_≠ak∧k_≠aa) (.slice aK ai.length aI) ai)∧qaa (Kd.V k53 53 wc w.heap.size (fun k_=>(aJ k_∨w.heap.size≤k_)∧some k_≠((.slice dT aG.length dU):Value).ownBlock∧some k_≠((.slice fE aQ.length bM):Value).ownBlock∧some k_≠(av:Value).ownBlock∧some k_≠(aq:Value).ownBlock∧k_≠aA∧k_≠aw∧k_≠ak∧k_≠aa) (.slice aK ai.length aI) ai)∧qaa (Kd.R (Kd.int .i64) 3 wc w.heap.size (fun k_=>(w.heap.size≤k_)∧some k_≠((.slice fE aQ.length bM):Value).ownBlock) av aH)∧qaa (Kd.R (Kd.int .i64) 2 wc w.heap.size (fun k_=>(w.heap.size≤k_)) aq aC)∧qaa (wc.heap[aA]? = some (.cells #[.int .i64 aD,.int .i64 aN,(.slice A0_2 ba.length c0_2),(.slice dV aY.length dN)] 76 (0,0)))∧qaa (wc.heap[aw]? = some (.cells #[.int .i64 ax,.int .i64 az,(.slice aK ai.length aI)] 33 (0,0)))∧qaa (wc.heap[ak]? = some (.cells #[.int .i64 0,.int .i64 0,(.slice none 0 0),.int .i64 0,.int .i64 0,(.slice none 0 0),(.slice none 0 0)] 36 (0,0)))∧qaa (wc.heap[aa]? = some (.cells #[.int .i64 ax,.int .i64 az,(.slice aK ai.length aI),.int .i64 (ac (1+(Go.bits .and .i64 aD 1))),.int .i64 aj,av,aq] 36 (0,0)))∧qaa (Below w.heap.size w wc))
           case first=>
            have H:=gR.out
            clear gR
            by_cases gS:au<(ba.length:Int)
            ·rw [if_pos gS] at H
             have d8:decide (au<(ba.length:Int))=true:=decide_eq_true gS
             clear gS
             (first|rw [d8]|(simp only [qaC,qaE];rw [d8])|skip)
             by_cases iB:0≤au
             ·rw [if_pos iB] at H
              have iC:decide (0≤au)=true:=decide_eq_true iB
              clear iB
              by_cases gW:(aQ.length:Int)=0
              ·rw [if_pos gW] at H
               exact absurd H (by simp)
              ·rw [if_neg gW] at H
               have iD:((aQ.length:Int) == 0)=false:=beq_eq_false_iff_ne.mpr gW
               have iE:((aQ.length:Int) != 0)=true:=bne_iff_ne.mpr gW
               have iF:¬ (aQ=[]):=fun h_=>gW (by rw [h_];rfl)
               have H':=qaa.mk H
               clear H
               have nz:=bf.out
               have nA:=bg.out
               have nB:=bt.out
               have nE:=bv.out
               have nF:=al.out
               have nG:=aW.out
               obtain⟨gm,gn,go,gp⟩:=sC4 (w:=wr) an.out
               obtain⟨gq,gr,gt,gu⟩:=sF4 an.out
               have gv:0≤(au:Int):=of_decide_eq_true sA
               have gw:au<(ba.length:Int):=of_decide_eq_true sA
               obtain⟨nH,lZ,dL⟩:=Kd.at_int gZ.out au gv gw
               cases lZ
               replace dL:=(HB.out.cell (bLt w _ dL)).trans dL
               replace gv:=eq_true gv
               replace gw:=eq_true gw
               go_wp2
               go_meet
               case rel=>exact⟨_,(Int.tmod (ac ((Int.tmod (rd ba au) (aQ.length:Int))+(aQ.length:Int))) (aQ.length:Int)),(by first|rfl|(simp;done)|(simp [*];done)),H',⟨by have:=fA.out;have:=dW.out;have:=fF.out;have:=fG.out;first|omega|exact Nat.le_refl _⟩,⟨by refine sNm ?_;exact aV.out⟩,⟨by refine sRm ?_;exact aZ.out⟩,⟨by refine sVm ?_;exact ae.out⟩,⟨by refine sVm ?_;exact ag.out⟩,⟨by refine sRm ?_;exact ah.out⟩,⟨by refine sRm ?_;exact af.out⟩,⟨by refine sM ?_;exact an.out⟩,⟨by refine sM ?_;exact ap.out⟩,⟨by refine sM ?_;exact ay.out⟩,⟨by refine sM ?_;exact ab.out⟩,⟨by repeat (first|(with_reducible first|exact HB.out|apply qah|apply qae|apply qag|refine qad ?_ bz.out|refine qad ?_ bB.out|refine qad ?_ bC.out|refine qad ?_ bD.out)|exact HB.out)⟩⟩
             ·rw [if_neg iB] at H
              exact absurd H (by simp)
            ·rw [if_neg gS] at H
             have d8:decide (au<(ba.length:Int))=false:=decide_eq_false gS
             clear gS
             (first|rw [d8]|(simp only [qaC,qaE];rw [d8])|skip)
             have H':=qaa.mk H
             clear H
             go_wp2
             go_meet
             case rel=>exact⟨_,(ac ((aQ.length:Int) - 1)),(by first|rfl|(simp;done)|(simp [*];done)),H',⟨by have:=fA.out;have:=dW.out;have:=fF.out;have:=fG.out;first|omega|exact Nat.le_refl _⟩,⟨by refine sNm ?_;exact aV.out⟩,⟨by refine sRm ?_;exact aZ.out⟩,⟨by refine sVm ?_;exact ae.out⟩,⟨by refine sVm ?_;exact ag.out⟩,⟨by refine sRm ?_;exact ah.out⟩,⟨by refine sRm ?_;exact af.out⟩,⟨by refine sM ?_;exact an.out⟩,⟨by refine sM ?_;exact ap.out⟩,⟨by refine sM ?_;exact ay.out⟩,⟨by refine sM ?_;exact ab.out⟩,⟨by repeat (first|(with_reducible first|exact HB.out|apply qah|apply qae|apply qag|refine qad ?_ bz.out|refine qad ?_ bB.out|refine qad ?_ bC.out|refine qad ?_ bD.out)|exact HB.out)⟩⟩
           case rest=>
            clear gR
            try clear c1
            try clear p1
            try clear q1
            try clear oV
            try clear p2
            try clear c4
            try clear c5
            try clear c6
            try clear p6
            try clear oW
            try clear oX
            try clear oY
            try clear oH
            try clear gL
            try clear gB
            try clear ia
            try clear ib
            try clear ic
            try clear ie
            try clear ig
            try clear ii
            try clear gM
            try clear gC
            try clear ij
            try clear oZ
            try clear o0
            try clear o2
            try clear gS
            try clear d8
            try clear iB
            try clear iC
            try clear gW
            try clear iD
            try clear iE
            try clear iF
            try clear o8
            try clear o9
            try clear pa
            try clear pb
            try clear gc ge gf gg
            try clear gm gn go gp
            try clear cg cj ck cm
            try clear dC dD dE dF dG dH dI
            try clear eq er es
            try clear fi fj fk
            try clear gh gi gj gl
            try clear gq gr gt gu
            try clear dO dP dQ
            try clear bQ
            try clear bR
            try clear bS
            try clear bT
            try clear bU
            try clear bi
            try clear bj
            try clear bV
            try clear bW
            try clear bX
            try clear bY
            try clear bZ
            try clear bw
            try clear bx
            try clear fX
            try clear fY
            try clear fZ
            try clear ga
            try clear gb
            try clear ex
            try clear ey
            try clear dL
            try clear dX
            try clear dZ
            try clear fC
            try clear gv
            try clear p2
            try clear p6
            try clear dY
            try clear d7
            try clear fD
            try clear gw
            obtain⟨kq,aT,rfl,HA,gx,aV,aZ,ae,ag,ah,af,an,ap,ay,ab,HB⟩:=hcut
            cases kq with
            |zero=>exact absurd HA.out (by simp [ostinatoref18_Pick_Setup.j4])
            |succ fx=>
             have H:=HA.out
             clear HA
             simp only [ostinatoref18_Pick_Setup.j4] at H
             by_cases jV:0≤aT
             ·rw [if_pos jV] at H
              have nI:decide (0≤aT)=true:=decide_eq_true jV
              clear jV
              by_cases jW:aT<(aQ.length:Int)
              ·rw [if_pos jW] at H
               have nJ:decide (aT<(aQ.length:Int))=true:=decide_eq_true jW
               clear jW
               by_cases jX:aH.length<17592186044416
               ·rw [if_pos jX] at H
                have gD:=qaa.mk jX
                clear jX
                obtain⟨a8,eG⟩:∃ y_:List Int,y_=(aH++[rd aQ aT]):=⟨_,rfl⟩
                replace H:(if au<(aY.length:Int) then (if 0≤au then (if aC.length<17592186044416 then (ostinatoref18_Pick_Setup.l0 fx aG (ac (au+1)) aD aN ba aY ax az ai ax az ai (ac (1+(Go.bits .and .i64 aD 1))) aj a8 (aC++[Go.bits .and .i64 (rd aY au) 15])) else (none)) else (none)) else (if aC.length<17592186044416 then (ostinatoref18_Pick_Setup.l0 fx aG (ac (au+1)) aD aN ba aY ax az ai ax az ai (ac (1+(Go.bits .and .i64 aD 1))) aj a8 (aC++[0])) else (none)))=some (r1,r2,r3,r4,r5,r6,r7):=by first|(rw [eG];with_reducible exact H)|(have eN:=(Option.bind_some _ _).symm.trans H;rw [eG];with_reducible exact eN)|(have eN:=(Option.bind_some _ _).symm.trans H;with_reducible exact eN)|with_reducible exact H|(rw [eG];exact H)|exact H
                have gE:=qaa.mk eG
                clear eG
                by_cases gX:au<(aY.length:Int)
                ·rw [if_pos gX] at H
                 have iG:decide (au<(aY.length:Int))=true:=decide_eq_true gX
                 clear gX
                 by_cases jY:0≤au
                 ·rw [if_pos jY] at H
                  have nL:decide (0≤au)=true:=decide_eq_true jY
                  clear jY
                  by_cases jZ:aC.length<17592186044416
                  ·rw [if_pos jZ] at H
                   have iH:=qaa.mk jZ
                   clear jZ
                   obtain⟨eH,eI⟩:∃ y_:List Int,y_=(aC++[Go.bits .and .i64 (rd aY au) 15]):=⟨_,rfl⟩
                   replace H:(ostinatoref18_Pick_Setup.l0 fx aG (ac (au+1)) aD aN ba aY ax az ai ax az ai (ac (1+(Go.bits .and .i64 aD 1))) aj a8 eH)=some (r1,r2,r3,r4,r5,r6,r7):=by first|(rw [eI];with_reducible exact H)|(have eN:=(Option.bind_some _ _).symm.trans H;rw [eI];with_reducible exact eN)|(have eN:=(Option.bind_some _ _).symm.trans H;with_reducible exact eN)|with_reducible exact H|(rw [eI];exact H)|exact H
                   have iI:=qaa.mk eI
                   clear eI
                   have H':=qaa.mk H
                   clear H
                   try go_wp2
                   replace aV:=qaa.mk (Kd.N_drew aV.out)
                   replace aZ:=qaa.mk (Kd.R_drew aZ.out)
                   replace ae:=qaa.mk (Kd.V_drew ae.out)
                   replace ag:=qaa.mk (Kd.V_drew ag.out)
                   replace ah:=qaa.mk (Kd.R_drew ah.out)
                   replace af:=qaa.mk (Kd.R_drew af.out)
                   replace an:=qaa.mk (qax an.out)
                   replace ap:=qaa.mk (qax ap.out)
                   replace ay:=qaa.mk (qax ay.out)
                   replace ab:=qaa.mk (qax ab.out)
                   replace HB:=qaa.mk (qag HB.out)
                   have fb:0≤(aT:Int):=of_decide_eq_true sA
                   have fc:aT<(aQ.length:Int):=of_decide_eq_true sA
                   obtain⟨bh,gT,cB⟩:=Kd.at_int (Kd.R_reads' aZ.out).2.2 aT fb fc
                   cases gT
                   replace fb:=eq_true fb
                   replace fc:=eq_true fc
                   refine start_ (n:=10) (S:=fun w'=>w'.cell? ⟨aa,0,none⟩=some (.int .i64 ax)∧w'.cell? ⟨aa,1,none⟩=some (.int .i64 az)∧w'.cell? ⟨aa,2,none⟩=some (.slice aK ai.length aI)∧w'.cell? ⟨aa,3,none⟩=some (.int .i64 (ac (1+(Go.bits .and .i64 aD 1))))∧w'.cell? ⟨aa,4,none⟩=some (.int .i64 aj)∧w'.cell? ⟨aa,5,none⟩=some (av)∧w'.cell? ⟨aa,6,none⟩=some (aq)∧w'.cell? (bh.add (aT).toNat)=some (.int .i64 (rd aQ aT))) (ds:=[7,9]) #[false,false,false,false,false,false,false,false,false,false] (by kernel_rfl) rfl rfl ⟨(qab ab.out 0).trans rfl,(qab ab.out 1).trans rfl,(qab ab.out 2).trans rfl,(qab ab.out 3).trans rfl,(qab ab.out 4).trans rfl,(qab ab.out 5).trans rfl,(qab ab.out 6).trans rfl,cB⟩ (fun hHeld=>?_);refine qaX ostinatoref18_Pick_Setup.tab17 ostinatoref18_Pick_Setup.bits17 (fun HT_ HW_=>?_)
                   generalize wc.drew=pc at aV aZ ae ag ah af an ap ay ab HB cB hHeld ⊢
                   refine sP 0 (some 88) rfl rfl ?_
                   refine sP 2 (some 90) rfl rfl ?_
                   refine sP 3 (some 91) rfl rfl ?_
                   refine sP 4 (some 92) rfl rfl ?_
                   refine qaZ (i:=1) (N:=some 89) (v:=?_) (a':=?_) #[true,true,true,true,true,false,false,false,false,false] rfl rfl (qay HT_.out HW_.out (by kernel_rfl)) (fun _ _ _ h=>h) (Or.inl ⟨by rfl,?_⟩) hHeld ?_ ?_
                   rotate_left
                   ·rintro w' ⟨s0,s1,s2,s3,s4,s5,s6,s7⟩
                    go_simp
                    with_reducible rfl
                   rotate_left
                   ·simp only [Act.put,List.setIfInBounds_toArray,List.set_cons_zero,List.set_cons_succ,qaC,qaE]
                    rfl
                   refine qaZ (i:=5) (N:=some 93) (v:=?_) (a':=?_) #[true,true,true,true,true,true,false,false,false,false] rfl rfl (qay HT_.out HW_.out (by kernel_rfl)) (fun _ _ _ h=>h) (Or.inl ⟨by rfl,?_⟩) hHeld ?_ ?_
                   rotate_left
                   ·rintro w' ⟨s0,s1,s2,s3,s4,s5,s6,s7⟩
                    go_simp
                    with_reducible rfl
                   rotate_left
                   ·simp only [Act.put,List.setIfInBounds_toArray,List.set_cons_zero,List.set_cons_succ,qaC,qaE]
                    rfl
                   refine one_ (i:=6) (N:=some 94) #[true,true,true,true,true,true,true,false,false,false] rfl rfl (qaO HT_.out (by kernel_rfl)) (by decide) (fun K hK=>?_)
                   refine value_ (w1:=?_) (v:=?_) (by rfl) rfl ?_ ?_
                   rotate_left 2
                   ·go_simp
                    constructor
                    ·rfl
                    ·rfl
                   refine hK.out _ _ ⟨(qab (qas ab.out _) 0).trans rfl,(qab (qas ab.out _) 1).trans rfl,(qab (qas ab.out _) 2).trans rfl,(qab (qas ab.out _) 3).trans rfl,(qab (qas ab.out _) 4).trans rfl,(qab (qas ab.out _) 5).trans rfl,(qab (qas ab.out _) 6).trans rfl,(World.cell?_alloc_lt _ _ _ (bLt _ _ (hHeld.2.2.2.2.2.2.2))).trans (hHeld.2.2.2.2.2.2.2)⟩ (fun hHeld=>?_)
                   clear hK K
                   refine qa0 (a':=?_) ?_ ?_
                   rotate_left
                   ·show Act.put _ (some 94) _=_
                    simp only [Act.put,List.setIfInBounds_toArray,List.set_cons_zero,List.set_cons_succ,qaC,qaE]
                    rfl
                   refine last_ (i:=7) (N:=some 95) #[true,true,true,true,true,true,true,true,false,false] rfl rfl (qaO HT_.out (by kernel_rfl)) (by decide) (fun K hK=>?_)
                   refine Kd.R_append_step (Kd.int .i64) (w0:=w) w.heap.size (by rfl) (.tmp 89) (.tmp 94) 25 3 (.int .i64 0) 8 rfl Tryd.underlying25 info3 rfl (by decide) (by omega) av aH (rd aQ aT) [.int .i64 (rd aQ aT)] (fun k_=>(w.heap.size≤k_)∧some k_≠(.slice (some bh) aQ.length bM:Value).ownBlock) (fun _=>False) rfl rfl ?aP (fun _ hk=>hk.elim) ?aF ?aO ?aB ?aS ?aL ?_
                   (case aP=>exact rfl)
                   (case aB=>exact sB)
                   (case aF=>exact (fun k_ hk=>⟨(Nat.le_trans (qac sB) hk),Kd.fresh' (Kd.R_lt (sR aZ.out)) k_ hk⟩))
                   (case aO=>exact (sR ah.out))
                   (case aS=>exact (qac sB))
                   (case aL=>have:=gD.out;omega)
                   intro v171 l8 ho hb hg hat
                   rw [← gE.out] at ho
                   replace aV:=qaa.mk (Kd.N_afterv (ok:=(fun k_=>(aJ k_∨w.heap.size≤k_)∧some k_≠(.slice (some bh) aQ.length bM:Value).ownBlock∧some k_≠(aq:Value).ownBlock∧k_≠aA∧k_≠aw∧k_≠ak∧k_≠aa)) (by refine sNm ?_;exact Kd.N_mono aV.out (fun _ hk=>⟨⟨hk.1,⟨hk.2.1,⟨hk.2.2.2.1,⟨hk.2.2.2.2.1,⟨hk.2.2.2.2.2.1,⟨hk.2.2.2.2.2.2.1,hk.2.2.2.2.2.2.2⟩⟩⟩⟩⟩⟩,hk.2.2.1⟩)) hg hat)
                   replace aZ:=qaa.mk (Kd.R_after (ok:=(fun k_=>(w.heap.size≤k_))) (sR aZ.out) hg hat)
                   replace ae:=qaa.mk (Kd.V_afterv (ok:=(fun k_=>(aJ k_∨w.heap.size≤k_)∧some k_≠(.slice dT aG.length dU:Value).ownBlock∧some k_≠(.slice (some bh) aQ.length bM:Value).ownBlock∧some k_≠(aq:Value).ownBlock∧k_≠aA∧k_≠aw∧k_≠ak∧k_≠aa)) (by refine sVm ?_;exact Kd.V_mono ae.out (fun _ hk=>⟨⟨hk.1,⟨hk.2.1,⟨hk.2.2.1,⟨hk.2.2.2.2.1,⟨hk.2.2.2.2.2.1,⟨hk.2.2.2.2.2.2.1,⟨hk.2.2.2.2.2.2.2.1,hk.2.2.2.2.2.2.2.2⟩⟩⟩⟩⟩⟩⟩,hk.2.2.2.1⟩)) hg hat)
                   replace ag:=qaa.mk (Kd.V_afterv (ok:=(fun k_=>(aJ k_∨w.heap.size≤k_)∧some k_≠(.slice dT aG.length dU:Value).ownBlock∧some k_≠(.slice (some bh) aQ.length bM:Value).ownBlock∧some k_≠(aq:Value).ownBlock∧k_≠aA∧k_≠aw∧k_≠ak∧k_≠aa)) (by refine sVm ?_;exact Kd.V_mono ag.out (fun _ hk=>⟨⟨hk.1,⟨hk.2.1,⟨hk.2.2.1,⟨hk.2.2.2.2.1,⟨hk.2.2.2.2.2.1,⟨hk.2.2.2.2.2.2.1,⟨hk.2.2.2.2.2.2.2.1,hk.2.2.2.2.2.2.2.2⟩⟩⟩⟩⟩⟩⟩,hk.2.2.2.1⟩)) hg hat)
                   replace af:=qaa.mk (Kd.R_over' (sR af.out) (Kd.R_typed (sR ah.out)) (by decide) hg)
                   replace an:=qaa.mk (sKg an.out hg (Kd.R_ne ah.out an.out (by decide)))
                   replace ap:=qaa.mk (sKg ap.out hg (Kd.R_ne ah.out ap.out (by decide)))
                   replace ay:=qaa.mk (sKg ay.out hg (Kd.R_ne ah.out ay.out (by decide)))
                   replace ab:=qaa.mk (sKg ab.out hg (Kd.R_ne ah.out ab.out (by decide)))
                   replace HB:=qaa.mk (hb)
                   have cC:=qaa.mk (ho)
                   clear ah ho hb hg hat
                   obtain⟨cb,ce,iJ⟩:=Kd.R_slice cC.out
                   (first|subst iJ|(injection iJ with iK l9 iL;have ma:=iK.symm;have mc:=iL.symm;clear iK l9 iL;subst ma;subst mc))
                   refine hK.out _ _ ?_
                   clear hK K
                   refine qa0 (a':=?_) ?_ ?_
                   rotate_left
                   ·show Act.put _ (some 95) _=_
                    simp only [Act.put,List.setIfInBounds_toArray,List.set_cons_zero,List.set_cons_succ,qaC,qaE]
                    rfl
                   refine sP 8 (some 96) rfl rfl ?_
                   refine last_ (i:=9) (N:=none) #[true,true,true,true,true,true,true,true,true,true] rfl rfl (qaO HT_.out (by kernel_rfl)) (by decide) (fun K hK=>?_)
                   have oI:l8.cell? ⟨aa,5,none⟩=some (av):=(qab ab.out 5).trans rfl
                   have nM:=qan ab.out 5
                   have j9:=al.out
                   have ka:=am.out
                   have kb:=ar.out
                   have kc:=aW.out
                   have kd:=aX.out
                   have ke:=be.out
                   refine skip_ (w1:=?_) (by rfl) rfl ?_ ?_
                   rotate_left
                   ·go_simp
                    rfl
                   refine hK.out _ _ ?_
                   clear hK K
                   refine done_ (done_of HT_.out (by kernel_rfl)) ?_
                   have nN:=bf.out
                   have nO:=bg.out
                   have nQ:=bt.out
                   have nR:=bv.out
                   have nS:=al.out
                   have nU:=aW.out
                   obtain⟨kf,kg,ki,kj⟩:=sC4 (w:=l8) an.out
                   obtain⟨km,kn,ko,kp⟩:=sF4 an.out
                   have gU:0≤(au:Int):=of_decide_eq_true sA
                   have gV:au<(aY.length:Int):=of_decide_eq_true sA
                   obtain⟨gF,me,b8⟩:=Kd.at_int hH.out au gU gV
                   cases me
                   have dM:gF.block≠aa:=Nat.ne_of_lt (Nat.lt_of_lt_of_le (by have:=bLt _ _ b8;first|rwa [add_block] at this|exact this) hJ.out)
                   replace b8:=(HB.out.cell (bLt w _ b8)).trans b8
                   replace b8:=(qaq (p:=⟨aa,5,none⟩) (by first|(rw [add_block];exact dM)|(show (Addr.add _ _).block≠_;rw [add_block];exact dM)|exact dM) (.slice cb a8.length ce)).trans b8
                   clear dM
                   replace gU:=eq_true gU
                   replace gV:=eq_true gV
                   have nV:=aX.out
                   have nW:=am.out
                   have nX:=be.out
                   have nY:=ar.out
                   obtain⟨kr,ks,kt,ku,kv,kx,ky⟩:=sC7 (w:=l8) ab.out
                   obtain⟨kz,kA,kB,kC,kD,kE,kF⟩:=sF7 ab.out
                   try go_wp2_with (first|((with_reducible refine qaB (b:=.append) (xs:=#[.tmp 109,.tmp 111]) rfl ?_);at_builtin;refine Kd.R_append (Kd.int .i64) (w0:=w) w.heap.size rfl (.tmp 109) (.tmp 111) 34 2 (.int .i64 0) 8 rfl Tryd.underlying34 info2 rfl (by decide) (by omega) aq aC (Go.bits .and .i64 (rd aY au) 15) [.int .i64 (Go.bits .and .i64 (rd aY au) 15)] (fun k_=>(w.heap.size≤k_)) (fun _=>False) rfl (by first|(go_simp;done)|(go_simp;rfl)) ?aP (fun _ hk=>hk.elim) ?aF ?aO ?aB ?aS ?aL ?_;(case aP=>exact rfl);(case aB=>exact sB);(case aF=>exact (fun k_ hk=>(Nat.le_trans (qac sB) hk)));(case aO=>exact (by refine sRm ?_;exact Kd.R_mono (Kd.R_far (p:=⟨aa,5,none⟩) (Kd.R_types af.out ab.out (by decide)) (fun _ hk=>hk.2) (.slice cb a8.length ce)) (fun _ hk=>hk.1)));(case aS=>exact (qac sB));(case aL=>have:=iH.out;omega);intro oJ oK ho hb hg hat;rw [← iI.out] at ho;replace aV:=qaa.mk (Kd.N_afterv (ok:=(fun k_=>(aJ k_∨w.heap.size≤k_)∧some k_≠(.slice (some bh) aQ.length bM:Value).ownBlock∧some k_≠(.slice cb a8.length ce:Value).ownBlock∧k_≠aA∧k_≠aw∧k_≠ak∧k_≠aa)) (by refine sNm ?_;exact Kd.N_mono (Kd.N_far (p:=⟨aa,5,none⟩) (Kd.N_mono aV.out (fun k_ hk=>(⟨hk,hk.1.2.2.2.2.2.2⟩:_∧k_≠aa))) (fun _ hk=>hk.2) (.slice cb a8.length ce)) (fun _ hk=>⟨⟨hk.1.1.1,⟨hk.1.1.2.1,⟨hk.1.2,⟨hk.1.1.2.2.2.1,⟨hk.1.1.2.2.2.2.1,⟨hk.1.1.2.2.2.2.2.1,hk.1.1.2.2.2.2.2.2⟩⟩⟩⟩⟩⟩,hk.1.1.2.2.1⟩)) hg hat);replace aZ:=qaa.mk (Kd.R_over' (by refine sRm ?_;exact (Kd.R_mono (Kd.R_far (p:=⟨aa,5,none⟩) (Kd.R_types aZ.out ab.out (by decide)) (fun _ hk=>hk.2) (.slice cb a8.length ce)) (fun _ h_=>h_.1))) (Kd.R_typed (by refine sRm ?_;exact (Kd.R_mono (Kd.R_far (p:=⟨aa,5,none⟩) (Kd.R_types af.out ab.out (by decide)) (fun _ hk=>hk.2) (.slice cb a8.length ce)) (fun _ h_=>h_.1)))) (by decide) hg);replace ae:=qaa.mk (Kd.V_afterv (ok:=(fun k_=>(aJ k_∨w.heap.size≤k_)∧some k_≠(.slice dT aG.length dU:Value).ownBlock∧some k_≠(.slice (some bh) aQ.length bM:Value).ownBlock∧some k_≠(.slice cb a8.length ce:Value).ownBlock∧k_≠aA∧k_≠aw∧k_≠ak∧k_≠aa)) (by refine sVm ?_;exact Kd.V_mono (Kd.V_far (p:=⟨aa,5,none⟩) (Kd.V_mono ae.out (fun k_ hk=>(⟨hk,hk.1.2.2.2.2.2.2.2⟩:_∧k_≠aa))) (fun _ hk=>hk.2) (.slice cb a8.length ce)) (fun _ hk=>⟨⟨hk.1.1.1,⟨hk.1.1.2.1,⟨hk.1.1.2.2.1,⟨hk.1.2,⟨hk.1.1.2.2.2.2.1,⟨hk.1.1.2.2.2.2.2.1,⟨hk.1.1.2.2.2.2.2.2.1,hk.1.1.2.2.2.2.2.2.2⟩⟩⟩⟩⟩⟩⟩,hk.1.1.2.2.2.1⟩)) hg hat);replace ag:=qaa.mk (Kd.V_afterv (ok:=(fun k_=>(aJ k_∨w.heap.size≤k_)∧some k_≠(.slice dT aG.length dU:Value).ownBlock∧some k_≠(.slice (some bh) aQ.length bM:Value).ownBlock∧some k_≠(.slice cb a8.length ce:Value).ownBlock∧k_≠aA∧k_≠aw∧k_≠ak∧k_≠aa)) (by refine sVm ?_;exact Kd.V_mono (Kd.V_far (p:=⟨aa,5,none⟩) (Kd.V_mono ag.out (fun k_ hk=>(⟨hk,hk.1.2.2.2.2.2.2.2⟩:_∧k_≠aa))) (fun _ hk=>hk.2) (.slice cb a8.length ce)) (fun _ hk=>⟨⟨hk.1.1.1,⟨hk.1.1.2.1,⟨hk.1.1.2.2.1,⟨hk.1.2,⟨hk.1.1.2.2.2.2.1,⟨hk.1.1.2.2.2.2.2.1,⟨hk.1.1.2.2.2.2.2.2.1,hk.1.1.2.2.2.2.2.2.2⟩⟩⟩⟩⟩⟩⟩,hk.1.1.2.2.2.1⟩)) hg hat);replace an:=qaa.mk (qaY (g:=aA) (o:=.cells #[.int .i64 aD,.int .i64 aN,.slice A0_2 ba.length c0_2,.slice (some gF) aY.length dN] 76 (0,0)) (by refine sM ?_;refine qaf ?_ al.out _;refine sM ?_;exact an.out) hg (Kd.R_ne af.out an.out (by decide)));replace ap:=qaa.mk (qaY (g:=aw) (o:=.cells #[.int .i64 ax,.int .i64 az,.slice aK ai.length aI] 33 (0,0)) (by refine sM ?_;refine qaf ?_ am.out _;refine sM ?_;exact ap.out) hg (Kd.R_ne af.out ap.out (by decide)));replace ay:=qaa.mk (qaY (g:=ak) (o:=.cells #[.int .i64 0,.int .i64 0,.slice none 0 0,.int .i64 0,.int .i64 0,.slice none 0 0,.slice none 0 0] 36 (0,0)) (by refine sM ?_;refine qaf ?_ ar.out _;refine sM ?_;exact ay.out) hg (Kd.R_ne af.out ay.out (by decide)));replace cC:=qaa.mk (Kd.R_over' (by refine sRm ?_;exact (Kd.R_mono (Kd.R_far (p:=⟨aa,5,none⟩) (Kd.R_types cC.out ab.out (by decide)) (fun _ hk=>hk.2) (.slice cb a8.length ce)) (fun _ h_=>h_.1))) (Kd.R_typed (by refine sRm ?_;exact (Kd.R_mono (Kd.R_far (p:=⟨aa,5,none⟩) (Kd.R_types af.out ab.out (by decide)) (fun _ hk=>hk.2) (.slice cb a8.length ce)) (fun _ h_=>h_.1)))) (by decide) hg);replace ab:=qaa.mk (qaY (g:=aa) (o:=.cells #[.int .i64 ax,.int .i64 az,.slice aK ai.length aI,.int .i64 (ac (1+(Go.bits .and .i64 aD 1))),.int .i64 aj,.slice cb a8.length ce,aq] 36 (0,0)) (by refine sM ?_;refine qak (cs:=#[.int .i64 ax,.int .i64 az,.slice aK ai.length aI,.int .i64 (ac (1+(Go.bits .and .i64 aD 1))),.int .i64 aj,av,aq]) ?_ 5 _ rfl;refine sM ?_;exact ab.out) hg (Kd.R_ne af.out ab.out (by decide)));replace HB:=qaa.mk (hb);have gG:=qaa.mk (ho);clear af ho hb hg hat;obtain⟨fy,fz,mf⟩:=Kd.R_slice gG.out;subst mf;obtain⟨kG,kH,kI,kJ,kK,kL,kM⟩:=sC7 (w:=oK) ab.out;obtain⟨kN,kO,kP,kQ,kR,kS,kT⟩:=sF7 ab.out))
                   go_roundg fx
                   case measure=>have:=fA.out;have:=dW.out;have:=fF.out;have:=fG.out;have:=gx.out;omega
                   case rel=>exact⟨(ac (au+1)),(a8),(eH),(.slice cb a8.length ce),(.slice fy eH.length fz),(by first|rfl|(simp;done)|(simp [*];done)),H',⟨by have:=fA.out;have:=dW.out;have:=fF.out;have:=fG.out;have:=gx.out;omega⟩,⟨by refine sNm ?_;exact Kd.N_mono (Kd.N_far (p:=⟨aa,6,none⟩) (Kd.N_mono aV.out (fun k_ hk=>(⟨hk,hk.1.2.2.2.2.2.2⟩:_∧k_≠aa))) (fun _ hk=>hk.2) (.slice fy eH.length fz)) (fun _ hk=>⟨hk.1.1.1,⟨hk.1.1.2.2.1,⟨hk.1.2,⟨hk.1.1.2.2.2.1,⟨hk.1.1.2.2.2.2.1,⟨hk.1.1.2.2.2.2.2.1,hk.1.1.2.2.2.2.2.2⟩⟩⟩⟩⟩⟩)⟩,⟨by refine sVm ?_;exact Kd.V_mono (Kd.V_far (p:=⟨aa,6,none⟩) (Kd.V_mono ae.out (fun k_ hk=>(⟨hk,hk.1.2.2.2.2.2.2.2⟩:_∧k_≠aa))) (fun _ hk=>hk.2) (.slice fy eH.length fz)) (fun _ hk=>⟨hk.1.1.1,⟨hk.1.1.2.1,⟨hk.1.1.2.2.2.1,⟨hk.1.2,⟨hk.1.1.2.2.2.2.1,⟨hk.1.1.2.2.2.2.2.1,⟨hk.1.1.2.2.2.2.2.2.1,hk.1.1.2.2.2.2.2.2.2⟩⟩⟩⟩⟩⟩⟩)⟩,⟨by refine sVm ?_;exact Kd.V_mono (Kd.V_far (p:=⟨aa,6,none⟩) (Kd.V_mono ag.out (fun k_ hk=>(⟨hk,hk.1.2.2.2.2.2.2.2⟩:_∧k_≠aa))) (fun _ hk=>hk.2) (.slice fy eH.length fz)) (fun _ hk=>⟨hk.1.1.1,⟨hk.1.1.2.1,⟨hk.1.1.2.2.2.1,⟨hk.1.2,⟨hk.1.1.2.2.2.2.1,⟨hk.1.1.2.2.2.2.2.1,⟨hk.1.1.2.2.2.2.2.2.1,hk.1.1.2.2.2.2.2.2.2⟩⟩⟩⟩⟩⟩⟩)⟩,⟨by refine sRm ?_;exact Kd.R_mono (Kd.R_far (p:=⟨aa,6,none⟩) (Kd.R_types cC.out ab.out (by decide)) (fun _ hk=>hk.2) (.slice fy eH.length fz)) (fun _ hk=>hk.1.1)⟩,⟨by refine sRm ?_;exact Kd.R_mono (Kd.R_far (p:=⟨aa,6,none⟩) (Kd.R_types gG.out ab.out (by decide)) (fun _ hk=>hk.2) (.slice fy eH.length fz)) (fun _ hk=>hk.1)⟩,⟨by refine sM ?_;refine qaf ?_ al.out _;refine sM ?_;exact an.out⟩,⟨by refine sM ?_;refine qaf ?_ am.out _;refine sM ?_;exact ap.out⟩,⟨by refine sM ?_;refine qaf ?_ ar.out _;refine sM ?_;exact ay.out⟩,⟨by refine sM ?_;refine qak (cs:=#[.int .i64 ax,.int .i64 az,.slice aK ai.length aI,.int .i64 (ac (1+(Go.bits .and .i64 aD 1))),.int .i64 aj,.slice cb a8.length ce,aq]) ?_ 6 _ rfl;refine sM ?_;exact ab.out⟩,⟨by repeat (first|(with_reducible first|exact HB.out|apply qah|apply qae|apply qag|refine qad ?_ bz.out|refine qad ?_ bB.out|refine qad ?_ bC.out|refine qad ?_ bD.out)|exact HB.out)⟩⟩
                  ·rw [if_neg jZ] at H
                   exact absurd H (by simp)
                 ·rw [if_neg jY] at H
                  exact absurd H (by simp)
                ·rw [if_neg gX] at H
                 have iG:decide (au<(aY.length:Int))=false:=decide_eq_false gX
                 clear gX
                 by_cases kU:aC.length<17592186044416
                 ·rw [if_pos kU] at H
                  have iM:=qaa.mk kU
                  clear kU
                  obtain⟨eJ,eK⟩:∃ y_:List Int,y_=(aC++[0]):=⟨_,rfl⟩
                  replace H:(ostinatoref18_Pick_Setup.l0 fx aG (ac (au+1)) aD aN ba aY ax az ai ax az ai (ac (1+(Go.bits .and .i64 aD 1))) aj a8 eJ)=some (r1,r2,r3,r4,r5,r6,r7):=by first|(rw [eK];with_reducible exact H)|(have eN:=(Option.bind_some _ _).symm.trans H;rw [eK];with_reducible exact eN)|(have eN:=(Option.bind_some _ _).symm.trans H;with_reducible exact eN)|with_reducible exact H|(rw [eK];exact H)|exact H
                  have iN:=qaa.mk eK
                  clear eK
                  have H':=qaa.mk H
                  clear H
                  try go_wp2
                  replace aV:=qaa.mk (Kd.N_drew aV.out)
                  replace aZ:=qaa.mk (Kd.R_drew aZ.out)
                  replace ae:=qaa.mk (Kd.V_drew ae.out)
                  replace ag:=qaa.mk (Kd.V_drew ag.out)
                  replace ah:=qaa.mk (Kd.R_drew ah.out)
                  replace af:=qaa.mk (Kd.R_drew af.out)
                  replace an:=qaa.mk (qax an.out)
                  replace ap:=qaa.mk (qax ap.out)
                  replace ay:=qaa.mk (qax ay.out)
                  replace ab:=qaa.mk (qax ab.out)
                  replace HB:=qaa.mk (qag HB.out)
                  have fb:0≤(aT:Int):=of_decide_eq_true sA
                  have fc:aT<(aQ.length:Int):=of_decide_eq_true sA
                  obtain⟨bh,gT,cB⟩:=Kd.at_int (Kd.R_reads' aZ.out).2.2 aT fb fc
                  cases gT
                  replace fb:=eq_true fb
                  replace fc:=eq_true fc
                  refine start_ (n:=10) (S:=fun w'=>w'.cell? ⟨aa,0,none⟩=some (.int .i64 ax)∧w'.cell? ⟨aa,1,none⟩=some (.int .i64 az)∧w'.cell? ⟨aa,2,none⟩=some (.slice aK ai.length aI)∧w'.cell? ⟨aa,3,none⟩=some (.int .i64 (ac (1+(Go.bits .and .i64 aD 1))))∧w'.cell? ⟨aa,4,none⟩=some (.int .i64 aj)∧w'.cell? ⟨aa,5,none⟩=some (av)∧w'.cell? ⟨aa,6,none⟩=some (aq)∧w'.cell? (bh.add (aT).toNat)=some (.int .i64 (rd aQ aT))) (ds:=[7,9]) #[false,false,false,false,false,false,false,false,false,false] (by kernel_rfl) rfl rfl ⟨(qab ab.out 0).trans rfl,(qab ab.out 1).trans rfl,(qab ab.out 2).trans rfl,(qab ab.out 3).trans rfl,(qab ab.out 4).trans rfl,(qab ab.out 5).trans rfl,(qab ab.out 6).trans rfl,cB⟩ (fun hHeld=>?_);refine qaX ostinatoref18_Pick_Setup.tab17 ostinatoref18_Pick_Setup.bits17 (fun HT_ HW_=>?_)
                  generalize wc.drew=pd at aV aZ ae ag ah af an ap ay ab HB cB hHeld ⊢
                  refine sP 0 (some 88) rfl rfl ?_
                  refine sP 2 (some 90) rfl rfl ?_
                  refine sP 3 (some 91) rfl rfl ?_
                  refine sP 4 (some 92) rfl rfl ?_
                  refine qaZ (i:=1) (N:=some 89) (v:=?_) (a':=?_) #[true,true,true,true,true,false,false,false,false,false] rfl rfl (qay HT_.out HW_.out (by kernel_rfl)) (fun _ _ _ h=>h) (Or.inl ⟨by rfl,?_⟩) hHeld ?_ ?_
                  rotate_left
                  ·rintro w' ⟨s0,s1,s2,s3,s4,s5,s6,s7⟩
                   go_simp
                   with_reducible rfl
                  rotate_left
                  ·simp only [Act.put,List.setIfInBounds_toArray,List.set_cons_zero,List.set_cons_succ,qaC,qaE]
                   rfl
                  refine qaZ (i:=5) (N:=some 93) (v:=?_) (a':=?_) #[true,true,true,true,true,true,false,false,false,false] rfl rfl (qay HT_.out HW_.out (by kernel_rfl)) (fun _ _ _ h=>h) (Or.inl ⟨by rfl,?_⟩) hHeld ?_ ?_
                  rotate_left
                  ·rintro w' ⟨s0,s1,s2,s3,s4,s5,s6,s7⟩
                   go_simp
                   with_reducible rfl
                  rotate_left
                  ·simp only [Act.put,List.setIfInBounds_toArray,List.set_cons_zero,List.set_cons_succ,qaC,qaE]
                   rfl
                  refine one_ (i:=6) (N:=some 94) #[true,true,true,true,true,true,true,false,false,false] rfl rfl (qaO HT_.out (by kernel_rfl)) (by decide) (fun K hK=>?_)
                  refine value_ (w1:=?_) (v:=?_) (by rfl) rfl ?_ ?_
                  rotate_left 2
                  ·go_simp
                   constructor
                   ·rfl
                   ·rfl
                  refine hK.out _ _ ⟨(qab (qas ab.out _) 0).trans rfl,(qab (qas ab.out _) 1).trans rfl,(qab (qas ab.out _) 2).trans rfl,(qab (qas ab.out _) 3).trans rfl,(qab (qas ab.out _) 4).trans rfl,(qab (qas ab.out _) 5).trans rfl,(qab (qas ab.out _) 6).trans rfl,(World.cell?_alloc_lt _ _ _ (bLt _ _ (hHeld.2.2.2.2.2.2.2))).trans (hHeld.2.2.2.2.2.2.2)⟩ (fun hHeld=>?_)
                  clear hK K
                  refine qa0 (a':=?_) ?_ ?_
                  rotate_left
                  ·show Act.put _ (some 94) _=_
                   simp only [Act.put,List.setIfInBounds_toArray,List.set_cons_zero,List.set_cons_succ,qaC,qaE]
                   rfl
                  refine last_ (i:=7) (N:=some 95) #[true,true,true,true,true,true,true,true,false,false] rfl rfl (qaO HT_.out (by kernel_rfl)) (by decide) (fun K hK=>?_)
                  refine Kd.R_append_step (Kd.int .i64) (w0:=w) w.heap.size (by rfl) (.tmp 89) (.tmp 94) 25 3 (.int .i64 0) 8 rfl Tryd.underlying25 info3 rfl (by decide) (by omega) av aH (rd aQ aT) [.int .i64 (rd aQ aT)] (fun k_=>(w.heap.size≤k_)∧some k_≠(.slice (some bh) aQ.length bM:Value).ownBlock) (fun _=>False) rfl rfl ?aP (fun _ hk=>hk.elim) ?aF ?aO ?aB ?aS ?aL ?_
                  (case aP=>exact rfl)
                  (case aB=>exact sB)
                  (case aF=>exact (fun k_ hk=>⟨(Nat.le_trans (qac sB) hk),Kd.fresh' (Kd.R_lt (sR aZ.out)) k_ hk⟩))
                  (case aO=>exact (sR ah.out))
                  (case aS=>exact (qac sB))
                  (case aL=>have:=gD.out;omega)
                  intro v171 mg ho hb hg hat
                  rw [← gE.out] at ho
                  replace aV:=qaa.mk (Kd.N_afterv (ok:=(fun k_=>(aJ k_∨w.heap.size≤k_)∧some k_≠(.slice (some bh) aQ.length bM:Value).ownBlock∧some k_≠(aq:Value).ownBlock∧k_≠aA∧k_≠aw∧k_≠ak∧k_≠aa)) (by refine sNm ?_;exact Kd.N_mono aV.out (fun _ hk=>⟨⟨hk.1,⟨hk.2.1,⟨hk.2.2.2.1,⟨hk.2.2.2.2.1,⟨hk.2.2.2.2.2.1,⟨hk.2.2.2.2.2.2.1,hk.2.2.2.2.2.2.2⟩⟩⟩⟩⟩⟩,hk.2.2.1⟩)) hg hat)
                  replace aZ:=qaa.mk (Kd.R_after (ok:=(fun k_=>(w.heap.size≤k_))) (sR aZ.out) hg hat)
                  replace ae:=qaa.mk (Kd.V_afterv (ok:=(fun k_=>(aJ k_∨w.heap.size≤k_)∧some k_≠(.slice dT aG.length dU:Value).ownBlock∧some k_≠(.slice (some bh) aQ.length bM:Value).ownBlock∧some k_≠(aq:Value).ownBlock∧k_≠aA∧k_≠aw∧k_≠ak∧k_≠aa)) (by refine sVm ?_;exact Kd.V_mono ae.out (fun _ hk=>⟨⟨hk.1,⟨hk.2.1,⟨hk.2.2.1,⟨hk.2.2.2.2.1,⟨hk.2.2.2.2.2.1,⟨hk.2.2.2.2.2.2.1,⟨hk.2.2.2.2.2.2.2.1,hk.2.2.2.2.2.2.2.2⟩⟩⟩⟩⟩⟩⟩,hk.2.2.2.1⟩)) hg hat)
                  replace ag:=qaa.mk (Kd.V_afterv (ok:=(fun k_=>(aJ k_∨w.heap.size≤k_)∧some k_≠(.slice dT aG.length dU:Value).ownBlock∧some k_≠(.slice (some bh) aQ.length bM:Value).ownBlock∧some k_≠(aq:Value).ownBlock∧k_≠aA∧k_≠aw∧k_≠ak∧k_≠aa)) (by refine sVm ?_;exact Kd.V_mono ag.out (fun _ hk=>⟨⟨hk.1,⟨hk.2.1,⟨hk.2.2.1,⟨hk.2.2.2.2.1,⟨hk.2.2.2.2.2.1,⟨hk.2.2.2.2.2.2.1,⟨hk.2.2.2.2.2.2.2.1,hk.2.2.2.2.2.2.2.2⟩⟩⟩⟩⟩⟩⟩,hk.2.2.2.1⟩)) hg hat)
                  replace af:=qaa.mk (Kd.R_over' (sR af.out) (Kd.R_typed (sR ah.out)) (by decide) hg)
                  replace an:=qaa.mk (sKg an.out hg (Kd.R_ne ah.out an.out (by decide)))
                  replace ap:=qaa.mk (sKg ap.out hg (Kd.R_ne ah.out ap.out (by decide)))
                  replace ay:=qaa.mk (sKg ay.out hg (Kd.R_ne ah.out ay.out (by decide)))
                  replace ab:=qaa.mk (sKg ab.out hg (Kd.R_ne ah.out ab.out (by decide)))
                  replace HB:=qaa.mk (hb)
                  have cC:=qaa.mk (ho)
                  clear ah ho hb hg hat
                  obtain⟨cD,cE,iO⟩:=Kd.R_slice cC.out
                  (first|subst iO|(injection iO with iK l9 iL;have ma:=iK.symm;have mc:=iL.symm;clear iK l9 iL;subst ma;subst mc))
                  refine hK.out _ _ ?_
                  clear hK K
                  refine qa0 (a':=?_) ?_ ?_
                  rotate_left
                  ·show Act.put _ (some 95) _=_
                   simp only [Act.put,List.setIfInBounds_toArray,List.set_cons_zero,List.set_cons_succ,qaC,qaE]
                   rfl
                  refine sP 8 (some 96) rfl rfl ?_
                  refine last_ (i:=9) (N:=none) #[true,true,true,true,true,true,true,true,true,true] rfl rfl (qaO HT_.out (by kernel_rfl)) (by decide) (fun K hK=>?_)
                  have oL:mg.cell? ⟨aa,5,none⟩=some (av):=(qab ab.out 5).trans rfl
                  have nZ:=qan ab.out 5
                  have kV:=al.out
                  have kW:=am.out
                  have kX:=ar.out
                  have kY:=aW.out
                  have kZ:=aX.out
                  have k7:=be.out
                  refine skip_ (w1:=?_) (by rfl) rfl ?_ ?_
                  rotate_left
                  ·go_simp
                   rfl
                  refine hK.out _ _ ?_
                  clear hK K
                  refine done_ (done_of HT_.out (by kernel_rfl)) ?_
                  have n3:=bf.out
                  have n4:=bg.out
                  have n8:=bt.out
                  have n9:=bv.out
                  have oa:=al.out
                  have ob:=aW.out
                  obtain⟨k8,k9,la,lb⟩:=sC4 (w:=mg) an.out
                  obtain⟨ld,le,lf,lg⟩:=sF4 an.out
                  have oc:=aX.out
                  have od:=am.out
                  have og:=be.out
                  have oh:=ar.out
                  obtain⟨lh,ll,lm,ln,lp,lq,lr⟩:=sC7 (w:=mg) ab.out
                  obtain⟨ls,lv,lw,lx,ly,lz,lA⟩:=sF7 ab.out
                  try go_wp2_with (first|((with_reducible refine qaB (b:=.append) (xs:=#[.tmp 109,.tmp 111]) rfl ?_);at_builtin;refine Kd.R_append (Kd.int .i64) (w0:=w) w.heap.size rfl (.tmp 109) (.tmp 111) 34 2 (.int .i64 0) 8 rfl Tryd.underlying34 info2 rfl (by decide) (by omega) aq aC 0 [.int .i64 0] (fun k_=>(w.heap.size≤k_)) (fun _=>False) rfl (by first|(go_simp;done)|(go_simp;rfl)) ?aP (fun _ hk=>hk.elim) ?aF ?aO ?aB ?aS ?aL ?_;(case aP=>exact rfl);(case aB=>exact sB);(case aF=>exact (fun k_ hk=>(Nat.le_trans (qac sB) hk)));(case aO=>exact (by refine sRm ?_;exact Kd.R_mono (Kd.R_far (p:=⟨aa,5,none⟩) (Kd.R_types af.out ab.out (by decide)) (fun _ hk=>hk.2) (.slice cD a8.length cE)) (fun _ hk=>hk.1)));(case aS=>exact (qac sB));(case aL=>have:=iM.out;omega);intro oM mh ho hb hg hat;rw [← iN.out] at ho;replace aV:=qaa.mk (Kd.N_afterv (ok:=(fun k_=>(aJ k_∨w.heap.size≤k_)∧some k_≠(.slice (some bh) aQ.length bM:Value).ownBlock∧some k_≠(.slice cD a8.length cE:Value).ownBlock∧k_≠aA∧k_≠aw∧k_≠ak∧k_≠aa)) (by refine sNm ?_;exact Kd.N_mono (Kd.N_far (p:=⟨aa,5,none⟩) (Kd.N_mono aV.out (fun k_ hk=>(⟨hk,hk.1.2.2.2.2.2.2⟩:_∧k_≠aa))) (fun _ hk=>hk.2) (.slice cD a8.length cE)) (fun _ hk=>⟨⟨hk.1.1.1,⟨hk.1.1.2.1,⟨hk.1.2,⟨hk.1.1.2.2.2.1,⟨hk.1.1.2.2.2.2.1,⟨hk.1.1.2.2.2.2.2.1,hk.1.1.2.2.2.2.2.2⟩⟩⟩⟩⟩⟩,hk.1.1.2.2.1⟩)) hg hat);replace aZ:=qaa.mk (Kd.R_over' (by refine sRm ?_;exact (Kd.R_mono (Kd.R_far (p:=⟨aa,5,none⟩) (Kd.R_types aZ.out ab.out (by decide)) (fun _ hk=>hk.2) (.slice cD a8.length cE)) (fun _ h_=>h_.1))) (Kd.R_typed (by refine sRm ?_;exact (Kd.R_mono (Kd.R_far (p:=⟨aa,5,none⟩) (Kd.R_types af.out ab.out (by decide)) (fun _ hk=>hk.2) (.slice cD a8.length cE)) (fun _ h_=>h_.1)))) (by decide) hg);replace ae:=qaa.mk (Kd.V_afterv (ok:=(fun k_=>(aJ k_∨w.heap.size≤k_)∧some k_≠(.slice dT aG.length dU:Value).ownBlock∧some k_≠(.slice (some bh) aQ.length bM:Value).ownBlock∧some k_≠(.slice cD a8.length cE:Value).ownBlock∧k_≠aA∧k_≠aw∧k_≠ak∧k_≠aa)) (by refine sVm ?_;exact Kd.V_mono (Kd.V_far (p:=⟨aa,5,none⟩) (Kd.V_mono ae.out (fun k_ hk=>(⟨hk,hk.1.2.2.2.2.2.2.2⟩:_∧k_≠aa))) (fun _ hk=>hk.2) (.slice cD a8.length cE)) (fun _ hk=>⟨⟨hk.1.1.1,⟨hk.1.1.2.1,⟨hk.1.1.2.2.1,⟨hk.1.2,⟨hk.1.1.2.2.2.2.1,⟨hk.1.1.2.2.2.2.2.1,⟨hk.1.1.2.2.2.2.2.2.1,hk.1.1.2.2.2.2.2.2.2⟩⟩⟩⟩⟩⟩⟩,hk.1.1.2.2.2.1⟩)) hg hat);replace ag:=qaa.mk (Kd.V_afterv (ok:=(fun k_=>(aJ k_∨w.heap.size≤k_)∧some k_≠(.slice dT aG.length dU:Value).ownBlock∧some k_≠(.slice (some bh) aQ.length bM:Value).ownBlock∧some k_≠(.slice cD a8.length cE:Value).ownBlock∧k_≠aA∧k_≠aw∧k_≠ak∧k_≠aa)) (by refine sVm ?_;exact Kd.V_mono (Kd.V_far (p:=⟨aa,5,none⟩) (Kd.V_mono ag.out (fun k_ hk=>(⟨hk,hk.1.2.2.2.2.2.2.2⟩:_∧k_≠aa))) (fun _ hk=>hk.2) (.slice cD a8.length cE)) (fun _ hk=>⟨⟨hk.1.1.1,⟨hk.1.1.2.1,⟨hk.1.1.2.2.1,⟨hk.1.2,⟨hk.1.1.2.2.2.2.1,⟨hk.1.1.2.2.2.2.2.1,⟨hk.1.1.2.2.2.2.2.2.1,hk.1.1.2.2.2.2.2.2.2⟩⟩⟩⟩⟩⟩⟩,hk.1.1.2.2.2.1⟩)) hg hat);replace an:=qaa.mk (qaY (g:=aA) (o:=.cells #[.int .i64 aD,.int .i64 aN,.slice A0_2 ba.length c0_2,.slice dV aY.length dN] 76 (0,0)) (by refine sM ?_;refine qaf ?_ al.out _;refine sM ?_;exact an.out) hg (Kd.R_ne af.out an.out (by decide)));replace ap:=qaa.mk (qaY (g:=aw) (o:=.cells #[.int .i64 ax,.int .i64 az,.slice aK ai.length aI] 33 (0,0)) (by refine sM ?_;refine qaf ?_ am.out _;refine sM ?_;exact ap.out) hg (Kd.R_ne af.out ap.out (by decide)));replace ay:=qaa.mk (qaY (g:=ak) (o:=.cells #[.int .i64 0,.int .i64 0,.slice none 0 0,.int .i64 0,.int .i64 0,.slice none 0 0,.slice none 0 0] 36 (0,0)) (by refine sM ?_;refine qaf ?_ ar.out _;refine sM ?_;exact ay.out) hg (Kd.R_ne af.out ay.out (by decide)));replace cC:=qaa.mk (Kd.R_over' (by refine sRm ?_;exact (Kd.R_mono (Kd.R_far (p:=⟨aa,5,none⟩) (Kd.R_types cC.out ab.out (by decide)) (fun _ hk=>hk.2) (.slice cD a8.length cE)) (fun _ h_=>h_.1))) (Kd.R_typed (by refine sRm ?_;exact (Kd.R_mono (Kd.R_far (p:=⟨aa,5,none⟩) (Kd.R_types af.out ab.out (by decide)) (fun _ hk=>hk.2) (.slice cD a8.length cE)) (fun _ h_=>h_.1)))) (by decide) hg);replace ab:=qaa.mk (qaY (g:=aa) (o:=.cells #[.int .i64 ax,.int .i64 az,.slice aK ai.length aI,.int .i64 (ac (1+(Go.bits .and .i64 aD 1))),.int .i64 aj,.slice cD a8.length cE,aq] 36 (0,0)) (by refine sM ?_;refine qak (cs:=#[.int .i64 ax,.int .i64 az,.slice aK ai.length aI,.int .i64 (ac (1+(Go.bits .and .i64 aD 1))),.int .i64 aj,av,aq]) ?_ 5 _ rfl;refine sM ?_;exact ab.out) hg (Kd.R_ne af.out ab.out (by decide)));replace HB:=qaa.mk (hb);have gH:=qaa.mk (ho);clear af ho hb hg hat;obtain⟨d9,ea,iP⟩:=Kd.R_slice gH.out;subst iP;obtain⟨iQ,iR,iS,iT,iU,iV,iW⟩:=sC7 (w:=mh) ab.out;obtain⟨iX,iY,iZ,i7,i8,ja,jb⟩:=sF7 ab.out))
                  go_roundg fx
                  case measure=>have:=fA.out;have:=dW.out;have:=fF.out;have:=fG.out;have:=gx.out;omega
                  case rel=>exact⟨(ac (au+1)),(a8),(eJ),(.slice cD a8.length cE),(.slice d9 eJ.length ea),(by first|rfl|(simp;done)|(simp [*];done)),H',⟨by have:=fA.out;have:=dW.out;have:=fF.out;have:=fG.out;have:=gx.out;omega⟩,⟨by refine sNm ?_;exact Kd.N_mono (Kd.N_far (p:=⟨aa,6,none⟩) (Kd.N_mono aV.out (fun k_ hk=>(⟨hk,hk.1.2.2.2.2.2.2⟩:_∧k_≠aa))) (fun _ hk=>hk.2) (.slice d9 eJ.length ea)) (fun _ hk=>⟨hk.1.1.1,⟨hk.1.1.2.2.1,⟨hk.1.2,⟨hk.1.1.2.2.2.1,⟨hk.1.1.2.2.2.2.1,⟨hk.1.1.2.2.2.2.2.1,hk.1.1.2.2.2.2.2.2⟩⟩⟩⟩⟩⟩)⟩,⟨by refine sVm ?_;exact Kd.V_mono (Kd.V_far (p:=⟨aa,6,none⟩) (Kd.V_mono ae.out (fun k_ hk=>(⟨hk,hk.1.2.2.2.2.2.2.2⟩:_∧k_≠aa))) (fun _ hk=>hk.2) (.slice d9 eJ.length ea)) (fun _ hk=>⟨hk.1.1.1,⟨hk.1.1.2.1,⟨hk.1.1.2.2.2.1,⟨hk.1.2,⟨hk.1.1.2.2.2.2.1,⟨hk.1.1.2.2.2.2.2.1,⟨hk.1.1.2.2.2.2.2.2.1,hk.1.1.2.2.2.2.2.2.2⟩⟩⟩⟩⟩⟩⟩)⟩,⟨by refine sVm ?_;exact Kd.V_mono (Kd.V_far (p:=⟨aa,6,none⟩) (Kd.V_mono ag.out (fun k_ hk=>(⟨hk,hk.1.2.2.2.2.2.2.2⟩:_∧k_≠aa))) (fun _ hk=>hk.2) (.slice d9 eJ.length ea)) (fun _ hk=>⟨hk.1.1.1,⟨hk.1.1.2.1,⟨hk.1.1.2.2.2.1,⟨hk.1.2,⟨hk.1.1.2.2.2.2.1,⟨hk.1.1.2.2.2.2.2.1,⟨hk.1.1.2.2.2.2.2.2.1,hk.1.1.2.2.2.2.2.2.2⟩⟩⟩⟩⟩⟩⟩)⟩,⟨by refine sRm ?_;exact Kd.R_mono (Kd.R_far (p:=⟨aa,6,none⟩) (Kd.R_types cC.out ab.out (by decide)) (fun _ hk=>hk.2) (.slice d9 eJ.length ea)) (fun _ hk=>hk.1.1)⟩,⟨by refine sRm ?_;exact Kd.R_mono (Kd.R_far (p:=⟨aa,6,none⟩) (Kd.R_types gH.out ab.out (by decide)) (fun _ hk=>hk.2) (.slice d9 eJ.length ea)) (fun _ hk=>hk.1)⟩,⟨by refine sM ?_;refine qaf ?_ al.out _;refine sM ?_;exact an.out⟩,⟨by refine sM ?_;refine qaf ?_ am.out _;refine sM ?_;exact ap.out⟩,⟨by refine sM ?_;refine qaf ?_ ar.out _;refine sM ?_;exact ay.out⟩,⟨by refine sM ?_;refine qak (cs:=#[.int .i64 ax,.int .i64 az,.slice aK ai.length aI,.int .i64 (ac (1+(Go.bits .and .i64 aD 1))),.int .i64 aj,.slice cD a8.length cE,aq]) ?_ 6 _ rfl;refine sM ?_;exact ab.out⟩,⟨by repeat (first|(with_reducible first|exact HB.out|apply qah|apply qae|apply qag|refine qad ?_ bz.out|refine qad ?_ bB.out|refine qad ?_ bC.out|refine qad ?_ bD.out)|exact HB.out)⟩⟩
                 ·rw [if_neg kU] at H
                  exact absurd H (by simp)
               ·rw [if_neg jX] at H
                exact absurd H (by simp)
              ·rw [if_neg jW] at H
               exact absurd H (by simp)
             ·rw [if_neg jV] at H
              exact absurd H (by simp)
       ·rw [if_neg gK] at H
        have gA:decide (au<(ai.length:Int))=false:=decide_eq_false gK
        clear gK
        simp only [Option.some.injEq,Prod.mk.injEq] at H
        obtain⟨rfl,rfl,rfl,rfl,rfl,rfl,rfl⟩:=H
        have mi:=bg.out
        have mj:=bf.out
        have ml:=bO.out
        have mm:=bP.out
        have mo:=am.out
        have mq:=aX.out
        obtain⟨jc,jd,je⟩:=sC3 (w:=wr) ap.out
        obtain⟨jf,jg,jh⟩:=sF3 ap.out
        have mr:=aW.out
        have ms:=al.out
        have mt:=be.out
        have mu:=ar.out
        obtain⟨ji,jj,jk,jl,jm,jn,jo⟩:=sC7 (w:=wr) ab.out
        obtain⟨jp,jq,jr,js,jt,ju,jv⟩:=sF7 ab.out
        have mv:=bv.out
        have mw:=bt.out
        obtain⟨jw,jx,jy,jz,jA,jB,jC⟩:=sC7 (w:=wr) ay.out
        obtain⟨jD,jE,jF,jG,jH,jI,jJ⟩:=sF7 ay.out
        obtain⟨eL,eM,jK⟩:=Kd.R_slice ah.out
        subst jK
        obtain⟨fu,fv,jL⟩:=Kd.R_slice af.out
        subst jL
        go_wp2
        refine bodyPost_ret (results_cell_row rfl _ _ ak 36 #[.int .i64 ax,.int .i64 az,.slice aK ai.length aI,.int .i64 (ac (1+(Go.bits .and .i64 aD 1))),.int .i64 aj,.slice eL aH.length eM,.slice fu aC.length fv] (0,0) _ rfl (by refine sM ?_;refine qak (cs:=#[.int .i64 ax,.int .i64 az,.slice aK ai.length aI,.int .i64 (ac (1+(Go.bits .and .i64 aD 1))),.int .i64 aj,.slice eL aH.length eM,.slice none 0 0]) ?_ 6 _ rfl;refine sM ?_;refine qak (cs:=#[.int .i64 ax,.int .i64 az,.slice aK ai.length aI,.int .i64 (ac (1+(Go.bits .and .i64 aD 1))),.int .i64 aj,.slice none 0 0,.slice none 0 0]) ?_ 5 _ rfl;refine sM ?_;refine qak (cs:=#[.int .i64 ax,.int .i64 az,.slice aK ai.length aI,.int .i64 (ac (1+(Go.bits .and .i64 aD 1))),.int .i64 0,.slice none 0 0,.slice none 0 0]) ?_ 4 _ rfl;refine sM ?_;refine qak (cs:=#[.int .i64 ax,.int .i64 az,.slice aK ai.length aI,.int .i64 0,.int .i64 0,.slice none 0 0,.slice none 0 0]) ?_ 3 _ rfl;refine sM ?_;refine qak (cs:=#[.int .i64 ax,.int .i64 az,.slice none 0 0,.int .i64 0,.int .i64 0,.slice none 0 0,.slice none 0 0]) ?_ 2 _ rfl;refine sM ?_;refine qak (cs:=#[.int .i64 ax,.int .i64 0,.slice none 0 0,.int .i64 0,.int .i64 0,.slice none 0 0,.slice none 0 0]) ?_ 1 _ rfl;refine sM ?_;refine qak (cs:=#[.int .i64 0,.int .i64 0,.slice none 0 0,.int .i64 0,.int .i64 0,.slice none 0 0,.slice none 0 0]) ?_ 0 _ rfl;refine sM ?_;exact ay.out) Tryd.underlying36 rfl (by kernel_rfl)) rfl ?_
        exact⟨_,_,_,by first|rfl|(simp [qam,qal]<;>rfl)|(simp [bneNil,bneNilU]<;>rfl)|(simp [*,qam,qal]<;>rfl),by refine sVm ?_;exact Kd.V_mono (Kd.V_far (p:=⟨ak,6,none⟩) (Kd.V_far (p:=⟨ak,5,none⟩) (Kd.V_far (p:=⟨ak,4,none⟩) (Kd.V_far (p:=⟨ak,3,none⟩) (Kd.V_far (p:=⟨ak,2,none⟩) (Kd.V_far (p:=⟨ak,1,none⟩) (Kd.V_far (p:=⟨ak,0,none⟩) (Kd.V_mono ag.out (fun k_ hk=>(⟨hk,hk.2.2.2.2.2.2.1⟩:_∧k_≠ak))) (fun _ hk=>hk.2) (.int .i64 ax)) (fun _ hk=>hk.2) (.int .i64 az)) (fun _ hk=>hk.2) (.slice aK ai.length aI)) (fun _ hk=>hk.2) (.int .i64 (ac (1+(Go.bits .and .i64 aD 1))))) (fun _ hk=>hk.2) (.int .i64 aj)) (fun _ hk=>hk.2) (.slice eL aH.length eM)) (fun _ hk=>hk.2) (.slice fu aC.length fv)) (fun _ hk=>⟨hk.1.1,⟨hk.1.2.2.1,hk.1.2.2.2.1⟩⟩),by refine sRm ?_;exact Kd.R_mono (Kd.R_far (p:=⟨ak,6,none⟩) (Kd.R_far (p:=⟨ak,5,none⟩) (Kd.R_far (p:=⟨ak,4,none⟩) (Kd.R_far (p:=⟨ak,3,none⟩) (Kd.R_far (p:=⟨ak,2,none⟩) (Kd.R_far (p:=⟨ak,1,none⟩) (Kd.R_far (p:=⟨ak,0,none⟩) (Kd.R_types ah.out ay.out (by decide)) (fun _ hk=>hk.2) (.int .i64 ax)) (fun _ hk=>hk.2) (.int .i64 az)) (fun _ hk=>hk.2) (.slice aK ai.length aI)) (fun _ hk=>hk.2) (.int .i64 (ac (1+(Go.bits .and .i64 aD 1))))) (fun _ hk=>hk.2) (.int .i64 aj)) (fun _ hk=>hk.2) (.slice eL aH.length eM)) (fun _ hk=>hk.2) (.slice fu aC.length fv)) (fun _ hk=>hk.1),by refine sRm ?_;exact Kd.R_mono (Kd.R_far (p:=⟨ak,6,none⟩) (Kd.R_far (p:=⟨ak,5,none⟩) (Kd.R_far (p:=⟨ak,4,none⟩) (Kd.R_far (p:=⟨ak,3,none⟩) (Kd.R_far (p:=⟨ak,2,none⟩) (Kd.R_far (p:=⟨ak,1,none⟩) (Kd.R_far (p:=⟨ak,0,none⟩) (Kd.R_types af.out ay.out (by decide)) (fun _ hk=>hk.2) (.int .i64 ax)) (fun _ hk=>hk.2) (.int .i64 az)) (fun _ hk=>hk.2) (.slice aK ai.length aI)) (fun _ hk=>hk.2) (.int .i64 (ac (1+(Go.bits .and .i64 aD 1))))) (fun _ hk=>hk.2) (.int .i64 aj)) (fun _ hk=>hk.2) (.slice eL aH.length eM)) (fun _ hk=>hk.2) (.slice fu aC.length fv)) (fun _ hk=>hk.1),by repeat (first|(with_reducible first|exact HB.out|apply qah|apply qae|apply qag|refine qad ?_ bz.out|refine qad ?_ bB.out|refine qad ?_ bC.out|refine qad ?_ bD.out)|exact HB.out)⟩
end
end Go.Proofs.YtgnaaokhfpfglaaDoor.PCertTold
end
section
namespace Go.Proofs.YtgnaaokhfpfglaaDoor.PCertTold
open Go.RowKit Go.Proofs.YtgnaaokhfpfglaaDoorW.PrintWords Go.Proofs.YtgnaaokhfpfglaaDoorW.PrintLast Go.Proofs.YtgnaaokhfpfglaaDoorW.PrintMore
attribute [local go_sem] qaW qaU qa3 qa2 qaN qaM qaV qaT
set_option linter.unusedVariables false
set_option linter.unusedSimpArgs false
noncomputable section
def ostinatolaw21_Pick_setup.f (k:Nat) (ab:Int) (ac:Int) (ae:List Int) (af:List Int) (ag:Int) (ah:Int) (ai:List (S53)):Option (Int × Int × (List (S53)) × Int × Int × List Int × List Int):=(ostinatoref18_Pick_Setup.f k ab ac ae af ag ah ai).bind fun aa=>(some (aa.1,aa.2.1,aa.2.2.1,aa.2.2.2.1,aa.2.2.2.2.1,aa.2.2.2.2.2.1,aa.2.2.2.2.2.2))
theorem ostinatolaw21_Pick_setup.calls (k:Nat) (ap:Int) (ar:Int) (A0_2:Option Addr) (c0_2:Nat) (an:List Int) (aw:Option Addr) (ax:Nat) (aq:List Int) (aD:Int) (aE:Int) (aC:Nat→Prop) (aG:Option Addr) (aH:Nat) (au:List (S53)) (r1:Int) (r2:Int) (r3:List (S53)) (r4:Int) (r5:Int) (r6:List Int) (r7:List Int) (w:World) (hr0_2:Kd.C (Kd.int .i64) w A0_2 an.length an) (hc0_2:an.length≤c0_2) (bj:Kd.C (Kd.int .i64) w aw aq.length aq) (bm:aq.length≤ax) (bt:Kd.V k53 53 w w.heap.size (fun k_=>aC k_) (.slice aG au.length aH) au) (h:ostinatolaw21_Pick_setup.f k ap ar an aq aD aE au=some (r1,r2,r3,r4,r5,r6,r7)) :
  Calls Tryd.prog 16 #[.agg #[.int .i64 ap,.int .i64 ar,.slice A0_2 an.length c0_2,.slice aw aq.length ax],.agg #[.int .i64 aD,.int .i64 aE,.slice aG au.length aH]] w fun e w'=>∃ cQ cz cA:Value,e=.returned (.agg #[.int .i64 r1,.int .i64 r2,cQ,.int .i64 r4,.int .i64 r5,cz,cA])∧Kd.V k53 53 w' w.heap.size (fun k_=>(aC k_∨w.heap.size≤k_)∧some k_≠(cz:Value).ownBlock∧some k_≠(cA:Value).ownBlock) cQ r3∧Kd.R (Kd.int .i64) 3 w' w.heap.size (fun k_=>(w.heap.size≤k_)) cz r6∧Kd.R (Kd.int .i64) 2 w' w.heap.size (fun k_=>(w.heap.size≤k_)) cA r7∧Below w.heap.size w w':=by
 have dm:=Tryd.underlying27
 have dn:=Tryd.underlying33
 have dp:=Tryd.underlying36
 have dq:=Tryd.underlying76
 have bv:=qaa.mk hr0_2
 have bw:=qaa.mk hc0_2
 clear hr0_2 hc0_2
 have bx:=qaa.mk bj
 have bz:=qaa.mk bm
 clear bj bm
 have ai:=qaa.mk (show Kd.V k53 53 w w.heap.size (fun k_=>(aC k_∨w.heap.size≤k_)) (.slice aG au.length aH) au from Kd.V_mono bt (fun k_ hk=>.inl hk))
 have HB:=qaa.mk (Below.refl w.heap.size w)
 have H:((ostinatoref18_Pick_Setup.f k ap ar an aq aD aE au).bind fun ay=>(some (ay.1,ay.2.1,ay.2.2.1,ay.2.2.2.1,ay.2.2.2.2.1,ay.2.2.2.2.2.1,ay.2.2.2.2.2.2)))=some (r1,r2,r3,r4,r5,r6,r7):=h
 clear h
 replace H:=Option.bind_eq_some_iff.mp H
 obtain⟨⟨av,az,aA,aI,aJ,aN,aQ⟩,cR,H⟩:=H
 replace H:(some (av,az,aA,aI,aJ,aN,aQ))=some (r1,r2,r3,r4,r5,r6,r7):=H
 have A3:=qaa.mk cR
 clear cR
 simp only [Option.some.injEq,Prod.mk.injEq] at H
 obtain⟨rfl,rfl,rfl,rfl,rfl,rfl,rfl⟩:=H
 go_enter Tryd.func16,Tryd.ntmps16
 go_wp2_with (first|((with_reducible refine qap (N:=2) rfl ?_);refine qao ?hg (N:=2) ?hd (cs:=#[.int .i64 ap,.int .i64 ar,.slice A0_2 an.length c0_2,.slice aw aq.length ax]) (t:=27) ?hr ?_;(case hd=>rfl);(case hg=>rfl);(case hr=>first|(go_simp;done)|(go_simp;rfl));intro aj hg w4 hbox hb;replace ai:=qaa.mk (Kd.V_below (Kd.V_elderB (sV ai.out) aj (Nat.le_of_eq hg.symm)) hb);have ac:=qaa.mk (hbox);have cS:=qaa.mk ((by rw [hg];exact (qac sB):w.heap.size≤aj));have bB:=qaa.mk ((by rw [hg];exact (qac sB):w.heap.size≤aj));replace HB:=qaa.mk (qai sB hb);clear hb hbox hg)|((with_reducible refine qap (N:=3) rfl ?_);refine qao ?hg (N:=3) ?hd (cs:=#[.int .i64 aD,.int .i64 aE,.slice aG au.length aH]) (t:=33) ?hr ?_;(case hd=>rfl);(case hg=>rfl);(case hr=>first|(go_simp;done)|(go_simp;rfl));intro af hg w5 hbox hb;replace ai:=qaa.mk (Kd.V_below (Kd.V_elderB (sV ai.out) af (Nat.le_of_eq hg.symm)) hb);have ae:=qaa.mk (hbox);have cT:=qaa.mk ((by rw [hg];exact (qac sB):w.heap.size≤af));have bC:=qaa.mk ((by rw [hg];exact (qac sB):w.heap.size≤af));replace HB:=qaa.mk (qai sB hb);have aT:=qaa.mk ((by rw [hg];exact Nat.ne_of_lt (sLt ac.out):aj≠af));have aU:=qaa.mk ((by rw [hg];exact Nat.ne_of_gt (sLt ac.out):af≠aj));replace ac:=qaa.mk (sKb ac.out hb);clear hb hbox hg)|((with_reducible refine qap (N:=4) rfl ?_);refine qao ?hg (N:=4) ?hd (cs:=#[.int .i64 0,.int .i64 0,.slice none 0 0,.int .i64 0,.int .i64 0,.slice none 0 0,.slice none 0 0]) (t:=36) ?hr ?_;(case hd=>rfl);(case hg=>rfl);(case hr=>first|(go_simp;done)|(go_simp;rfl));intro aa hg w6 hbox hb;replace ai:=qaa.mk (Kd.V_below (Kd.V_elderB (sV ai.out) aa (Nat.le_of_eq hg.symm)) hb);have ah:=qaa.mk (hbox);have cU:=qaa.mk ((by rw [hg];exact (qac sB):w.heap.size≤aa));have bD:=qaa.mk ((by rw [hg];exact (qac sB):w.heap.size≤aa));replace HB:=qaa.mk (qai sB hb);have aV:=qaa.mk ((by rw [hg];exact Nat.ne_of_lt (sLt ac.out):aj≠aa));have aW:=qaa.mk ((by rw [hg];exact Nat.ne_of_gt (sLt ac.out):aa≠aj));replace ac:=qaa.mk (sKb ac.out hb);have aX:=qaa.mk ((by rw [hg];exact Nat.ne_of_lt (sLt ae.out):af≠aa));have aY:=qaa.mk ((by rw [hg];exact Nat.ne_of_gt (sLt ae.out):aa≠af));replace ae:=qaa.mk (sKb ae.out hb);clear hb hbox hg;have dr:=aT.out;have du:=aU.out;have dv:=aV.out;have dw:=aW.out;obtain⟨cB,cC,cD,cE⟩:=sC4 (w:=w6) ac.out;obtain⟨cF,cG,cH,cI⟩:=sF4 ac.out)|((with_reducible refine qap (N:=5) rfl ?_);refine qao ?hg (N:=5) ?hd (cs:=#[.int .i64 0,.int .i64 0,.slice none 0 0,.slice none 0 0]) (t:=76) ?hr ?_;(case hd=>rfl);(case hg=>rfl);(case hr=>first|(go_simp;done)|(go_simp;rfl));intro ab hg cV hbox hb;replace ai:=qaa.mk (Kd.V_below (Kd.V_elderB (sV ai.out) ab (Nat.le_of_eq hg.symm)) hb);have ag:=qaa.mk (hbox);have cW:=qaa.mk ((by rw [hg];exact (qac sB):w.heap.size≤ab));have bE:=qaa.mk ((by rw [hg];exact (qac sB):w.heap.size≤ab));replace HB:=qaa.mk (qai sB hb);have ak:=qaa.mk ((by rw [hg];exact Nat.ne_of_lt (sLt ac.out):aj≠ab));have aZ:=qaa.mk ((by rw [hg];exact Nat.ne_of_gt (sLt ac.out):ab≠aj));replace ac:=qaa.mk (sKb ac.out hb);have al:=qaa.mk ((by rw [hg];exact Nat.ne_of_lt (sLt ae.out):af≠ab));have a8:=qaa.mk ((by rw [hg];exact Nat.ne_of_gt (sLt ae.out):ab≠af));replace ae:=qaa.mk (sKb ae.out hb);have am:=qaa.mk ((by rw [hg];exact Nat.ne_of_lt (sLt ah.out):aa≠ab));have ba:=qaa.mk ((by rw [hg];exact Nat.ne_of_gt (sLt ah.out):ab≠aa));replace ah:=qaa.mk (sKb ah.out hb);clear hb hbox hg;have cX:=aZ.out;have cY:=ak.out;have cZ:=a8.out;have da:=al.out;have db:=ba.out;have dc:=am.out;obtain⟨bK,bL,bM,bN⟩:=sC4 (w:=cV) ag.out;obtain⟨bO,bP,bQ,bR⟩:=sF4 ag.out)|((with_reducible refine gate_store (t:=76) (p:=5) rfl ?_);refine store_event (t:=76) (p:=5) (v:=?vo_w15) (w1:=((((cV.setCell ⟨ab,0,none⟩ (.int .i64 ap)).setCell ⟨ab,1,none⟩ (.int .i64 ar)).setCell ⟨ab,2,none⟩ (.slice A0_2 an.length c0_2)).setCell ⟨ab,3,none⟩ (.slice aw aq.length ax))) ?hg ?ho ?hn ?hr ?_;(case ho=>rfl);(case hg=>rfl);(case hn=>rfl);(case hr=>first|(go_simp;done)|(go_simp;rfl));intro be hw;have dd:qaa (Kd.V k53 53 be w.heap.size (fun k_=>(aC k_∨w.heap.size≤k_)∧k_≠aj∧k_≠af∧k_≠aa∧k_≠ab) (.slice aG au.length aH) au):=⟨(by rw [hw];exact (by refine sVm ?_;exact Kd.V_mono (Kd.V_far (p:=⟨ab,3,none⟩) (Kd.V_far (p:=⟨ab,2,none⟩) (Kd.V_far (p:=⟨ab,1,none⟩) (Kd.V_far (p:=⟨ab,0,none⟩) (Kd.V_mono ai.out (fun k_ hk=>(⟨hk,hk.2⟩:_∧k_≠ab))) (fun _ hk=>hk.2) (.int .i64 ap)) (fun _ hk=>hk.2) (.int .i64 ar)) (fun _ hk=>hk.2) (.slice A0_2 an.length c0_2)) (fun _ hk=>hk.2) (.slice aw aq.length ax)) (fun _ hk=>⟨hk.1.1.1.1.1,⟨hk.1.1.1.1.2,⟨hk.1.1.1.2,⟨hk.1.1.2,hk.1.2⟩⟩⟩⟩)))⟩;have de:qaa (be.heap[aj]? = some (.cells #[.int .i64 ap,.int .i64 ar,.slice A0_2 an.length c0_2,.slice aw aq.length ax] 27 (0,0))):=⟨(by rw [hw];exact (by refine sM ?_;refine qaf ?_ ak.out _;refine sM ?_;refine qaf ?_ ak.out _;refine sM ?_;refine qaf ?_ ak.out _;refine sM ?_;refine qaf ?_ ak.out _;refine sM ?_;exact ac.out))⟩;have df:qaa (be.heap[af]? = some (.cells #[.int .i64 aD,.int .i64 aE,.slice aG au.length aH] 33 (0,0))):=⟨(by rw [hw];exact (by refine sM ?_;refine qaf ?_ al.out _;refine sM ?_;refine qaf ?_ al.out _;refine sM ?_;refine qaf ?_ al.out _;refine sM ?_;refine qaf ?_ al.out _;refine sM ?_;exact ae.out))⟩;have dg:qaa (be.heap[aa]? = some (.cells #[.int .i64 0,.int .i64 0,.slice none 0 0,.int .i64 0,.int .i64 0,.slice none 0 0,.slice none 0 0] 36 (0,0))):=⟨(by rw [hw];exact (by refine sM ?_;refine qaf ?_ am.out _;refine sM ?_;refine qaf ?_ am.out _;refine sM ?_;refine qaf ?_ am.out _;refine sM ?_;refine qaf ?_ am.out _;refine sM ?_;exact ah.out))⟩;have dh:qaa (be.heap[ab]? = some (.cells #[.int .i64 ap,.int .i64 ar,.slice A0_2 an.length c0_2,.slice aw aq.length ax] 76 (0,0))):=⟨(by rw [hw];exact (by refine sM ?_;refine qak (cs:=#[.int .i64 ap,.int .i64 ar,.slice A0_2 an.length c0_2,.slice none 0 0]) ?_ 3 _ rfl;refine sM ?_;refine qak (cs:=#[.int .i64 ap,.int .i64 ar,.slice none 0 0,.slice none 0 0]) ?_ 2 _ rfl;refine sM ?_;refine qak (cs:=#[.int .i64 ap,.int .i64 0,.slice none 0 0,.slice none 0 0]) ?_ 1 _ rfl;refine sM ?_;refine qak (cs:=#[.int .i64 0,.int .i64 0,.slice none 0 0,.slice none 0 0]) ?_ 0 _ rfl;refine sM ?_;exact ag.out))⟩;have di:qaa (Below w.heap.size w be):=⟨(by rw [hw];exact sB)⟩;clear hw;clear ai;clear ac;clear ae;clear ah;clear ag;clear HB;have ai:=dd;have ac:=de;have ae:=df;have ah:=dg;have ag:=dh;have HB:=di;clear dd de df dg dh di;have bS:be.cell? ⟨ab,0,none⟩=some (.int .i64 ap):=(qab ag.out 0).trans rfl;have bT:be.cell? ⟨ab,1,none⟩=some (.int .i64 ar):=(qab ag.out 1).trans rfl;have bU:be.cell? ⟨ab,2,none⟩=some (.slice A0_2 an.length c0_2):=(qab ag.out 2).trans rfl;have bV:be.cell? ⟨ab,3,none⟩=some (.slice aw aq.length ax):=(qab ag.out 3).trans rfl;have bW:=qan ag.out 0;have bX:=qan ag.out 1;have bY:=qan ag.out 2;have bZ:=qan ag.out 3;have dj:=aX.out;have dk:=aY.out;have b8:be.cell? ⟨af,0,none⟩=some (.int .i64 aD):=(qab ae.out 0).trans rfl;have b9:be.cell? ⟨af,1,none⟩=some (.int .i64 aE):=(qab ae.out 1).trans rfl;have ca:be.cell? ⟨af,2,none⟩=some (.slice aG au.length aH):=(qab ae.out 2).trans rfl;have cb:=qan ae.out 0;have ce:=qan ae.out 1;have cf:=qan ae.out 2)|((with_reducible refine qaA (f:=34) rfl ?_);refine qa7 (some 9) rfl rfl Tryd.func34 (by kernel_rfl) rfl #[.agg #[.int .i64 ap,.int .i64 ar,.slice A0_2 an.length c0_2,.slice aw aq.length ax],.agg #[.int .i64 aD,.int .i64 aE,.slice aG au.length aH]] rfl (by (try simp only [List.map_toArray,List.map_cons,List.map_nil]);first|done|rfl|(simp only [List.length_drop,List.length_take];rfl)) ?_;(with_reducible refine (ostinatoref18_Pick_Setup.calls k ap ar _ _ an _ _ aq aD aE (fun k_=>((aC k_∨w.heap.size≤k_)∧(k_≠aj∧(k_≠af∧(k_≠aa∧k_≠ab))))) _ _ au av az aA aI aJ aN aQ _ ?bF ?bG ?bH ?bI ?bJ A3.out).mono ?_);(case bF=>repeat (first|exact (Kd.C_below bv.out HB.out)|(with_reducible refine Kd.C_alloc ?_ _)|(with_reducible refine Kd.C_drewN ?_ _)|(with_reducible refine Kd.C_drew ?_)));(case bG=>exact bw.out);(case bH=>repeat (first|exact (Kd.C_below bx.out HB.out)|(with_reducible refine Kd.C_alloc ?_ _)|(with_reducible refine Kd.C_drewN ?_ _)|(with_reducible refine Kd.C_drew ?_)));(case bI=>exact bz.out);(case bJ=>exact ai.out);rintro e dx ⟨dy,cJ,cK,rfl,dl,cL,cM,hb⟩;refine⟨_,rfl,?_⟩;replace ai:=qaa.mk (Kd.V_mono (Kd.V_told (Kd.V_told (Kd.V_old (sV ai.out) hb) (Kd.R_base cL)) (Kd.R_base cM)) (fun _ h_=>h_.1));have bn:=qaa.mk (Kd.V_lower (Kd.V_mono (ok':=fun k_=>(aC k_∨w.heap.size≤k_)∧some k_≠(cJ:Value).ownBlock∧some k_≠(cK:Value).ownBlock∧k_≠aj∧k_≠af∧k_≠aa∧k_≠ab) dl (fun k_ hk_=>⟨Or.elim hk_.1 (fun hs_=>hs_.1) (fun hn_=>(.inr (Nat.le_trans (qac sB) hn_))),hk_.2.1,hk_.2.2,Or.elim hk_.1 (fun hs_=>hs_.2.1) (fun hn_=>(Kd.freshB (g:=aj) (o:=.cells #[.int .i64 ap,.int .i64 ar,.slice A0_2 an.length c0_2,.slice aw aq.length ax] 27 (0,0)) (sK ac.out) k_ hn_)),Or.elim hk_.1 (fun hs_=>hs_.2.2.1) (fun hn_=>(Kd.freshB (g:=af) (o:=.cells #[.int .i64 aD,.int .i64 aE,.slice aG au.length aH] 33 (0,0)) (sK ae.out) k_ hn_)),Or.elim hk_.1 (fun hs_=>hs_.2.2.2.1) (fun hn_=>(Kd.freshB (g:=aa) (o:=.cells #[.int .i64 0,.int .i64 0,.slice none 0 0,.int .i64 0,.int .i64 0,.slice none 0 0,.slice none 0 0] 36 (0,0)) (sK ah.out) k_ hn_)),Or.elim hk_.1 (fun hs_=>hs_.2.2.2.2) (fun hn_=>(Kd.freshB (g:=ab) (o:=.cells #[.int .i64 ap,.int .i64 ar,.slice A0_2 an.length c0_2,.slice aw aq.length ax] 76 (0,0)) (sK ag.out) k_ hn_))⟩)) (qac sB));have bp:=qaa.mk (Kd.R_lower (Kd.R_newM (M:=fun k_=>(w.heap.size≤k_)) (Kd.R_mono (ok':=fun k_=>True) cL (fun _ hk_=>trivial)) (qac sB) (fun k_ h_=>h_)) (qac sB));have bq:=qaa.mk (Kd.R_lower (Kd.R_newM (M:=fun k_=>(w.heap.size≤k_)) (Kd.R_mono (ok':=fun k_=>True) cM (fun _ hk_=>trivial)) (qac sB) (fun k_ h_=>h_)) (qac sB));replace ac:=qaa.mk (sKb ac.out hb);replace ae:=qaa.mk (sKb ae.out hb);replace ah:=qaa.mk (sKb ah.out hb);replace ag:=qaa.mk (sKb ag.out hb);replace HB:=qaa.mk (qai sB hb);(try clear hb);(try clear dz);(try clear hk);(try clear hi);(try clear dl);(try clear cL);(try clear cM);obtain⟨cg,cj,ck,cm,co,cp,cq⟩:=sC7 (w:=dx) ah.out;obtain⟨cr,ct,cu,cv,cw,cx,cy⟩:=sF7 ah.out;obtain⟨aK,aM,cN⟩:=Kd.V_slice bn.out;subst cN;obtain⟨bf,bg,cO⟩:=Kd.R_slice bp.out;subst cO;obtain⟨bh,bi,cP⟩:=Kd.R_slice bq.out;subst cP))
 refine bodyPost_ret (results_cell_row rfl _ _ aa 36 #[.int .i64 av,.int .i64 az,.slice aK aA.length aM,.int .i64 aI,.int .i64 aJ,.slice bf aN.length bg,.slice bh aQ.length bi] (0,0) _ rfl (by refine sM ?_;refine qak (cs:=#[.int .i64 av,.int .i64 az,.slice aK aA.length aM,.int .i64 aI,.int .i64 aJ,.slice bf aN.length bg,.slice none 0 0]) ?_ 6 _ rfl;refine sM ?_;refine qak (cs:=#[.int .i64 av,.int .i64 az,.slice aK aA.length aM,.int .i64 aI,.int .i64 aJ,.slice none 0 0,.slice none 0 0]) ?_ 5 _ rfl;refine sM ?_;refine qak (cs:=#[.int .i64 av,.int .i64 az,.slice aK aA.length aM,.int .i64 aI,.int .i64 0,.slice none 0 0,.slice none 0 0]) ?_ 4 _ rfl;refine sM ?_;refine qak (cs:=#[.int .i64 av,.int .i64 az,.slice aK aA.length aM,.int .i64 0,.int .i64 0,.slice none 0 0,.slice none 0 0]) ?_ 3 _ rfl;refine sM ?_;refine qak (cs:=#[.int .i64 av,.int .i64 az,.slice none 0 0,.int .i64 0,.int .i64 0,.slice none 0 0,.slice none 0 0]) ?_ 2 _ rfl;refine sM ?_;refine qak (cs:=#[.int .i64 av,.int .i64 0,.slice none 0 0,.int .i64 0,.int .i64 0,.slice none 0 0,.slice none 0 0]) ?_ 1 _ rfl;refine sM ?_;refine qak (cs:=#[.int .i64 0,.int .i64 0,.slice none 0 0,.int .i64 0,.int .i64 0,.slice none 0 0,.slice none 0 0]) ?_ 0 _ rfl;refine sM ?_;exact ah.out) Tryd.underlying36 rfl (by kernel_rfl)) rfl ?_
 exact⟨_,_,_,by first|rfl|(simp [qam,qal]<;>rfl)|(simp [bneNil,bneNilU]<;>rfl)|(simp [*,qam,qal]<;>rfl),by refine sVm ?_;exact Kd.V_mono (Kd.V_far (p:=⟨aa,6,none⟩) (Kd.V_far (p:=⟨aa,5,none⟩) (Kd.V_far (p:=⟨aa,4,none⟩) (Kd.V_far (p:=⟨aa,3,none⟩) (Kd.V_far (p:=⟨aa,2,none⟩) (Kd.V_far (p:=⟨aa,1,none⟩) (Kd.V_far (p:=⟨aa,0,none⟩) (Kd.V_mono bn.out (fun k_ hk=>(⟨hk,hk.2.2.2.2.2.1⟩:_∧k_≠aa))) (fun _ hk=>hk.2) (.int .i64 av)) (fun _ hk=>hk.2) (.int .i64 az)) (fun _ hk=>hk.2) (.slice aK aA.length aM)) (fun _ hk=>hk.2) (.int .i64 aI)) (fun _ hk=>hk.2) (.int .i64 aJ)) (fun _ hk=>hk.2) (.slice bf aN.length bg)) (fun _ hk=>hk.2) (.slice bh aQ.length bi)) (fun _ hk=>⟨hk.1.1,⟨hk.1.2.1,hk.1.2.2.1⟩⟩),by refine sRm ?_;exact Kd.R_mono (Kd.R_far (p:=⟨aa,6,none⟩) (Kd.R_far (p:=⟨aa,5,none⟩) (Kd.R_far (p:=⟨aa,4,none⟩) (Kd.R_far (p:=⟨aa,3,none⟩) (Kd.R_far (p:=⟨aa,2,none⟩) (Kd.R_far (p:=⟨aa,1,none⟩) (Kd.R_far (p:=⟨aa,0,none⟩) (Kd.R_types bp.out ah.out (by decide)) (fun _ hk=>hk.2) (.int .i64 av)) (fun _ hk=>hk.2) (.int .i64 az)) (fun _ hk=>hk.2) (.slice aK aA.length aM)) (fun _ hk=>hk.2) (.int .i64 aI)) (fun _ hk=>hk.2) (.int .i64 aJ)) (fun _ hk=>hk.2) (.slice bf aN.length bg)) (fun _ hk=>hk.2) (.slice bh aQ.length bi)) (fun _ hk=>hk.1.1),by refine sRm ?_;exact Kd.R_mono (Kd.R_far (p:=⟨aa,6,none⟩) (Kd.R_far (p:=⟨aa,5,none⟩) (Kd.R_far (p:=⟨aa,4,none⟩) (Kd.R_far (p:=⟨aa,3,none⟩) (Kd.R_far (p:=⟨aa,2,none⟩) (Kd.R_far (p:=⟨aa,1,none⟩) (Kd.R_far (p:=⟨aa,0,none⟩) (Kd.R_types bq.out ah.out (by decide)) (fun _ hk=>hk.2) (.int .i64 av)) (fun _ hk=>hk.2) (.int .i64 az)) (fun _ hk=>hk.2) (.slice aK aA.length aM)) (fun _ hk=>hk.2) (.int .i64 aI)) (fun _ hk=>hk.2) (.int .i64 aJ)) (fun _ hk=>hk.2) (.slice bf aN.length bg)) (fun _ hk=>hk.2) (.slice bh aQ.length bi)) (fun _ hk=>hk.1.1),by repeat (first|(with_reducible first|exact HB.out|apply qah|apply qae|apply qag|refine qad ?_ bB.out|refine qad ?_ bC.out|refine qad ?_ bD.out|refine qad ?_ bE.out)|exact HB.out)⟩
def ostinatoref05_rest.f (a0:Int) (a1:Int):Option (Int):=if a1=0 then (none) else (some (Int.tmod (aa ((Int.tmod a0 a1)+a1)) a1))
theorem ostinatoref05_rest.calls (a0:Int) (a1:Int) (r:Int) (w:World) (h:ostinatoref05_rest.f a0 a1=some r) :
  Calls Tryd.prog 54 #[.int .i64 a0,.int .i64 a1] w fun e w'=>e=.returned (.int .i64 r)∧qar w w':=by
 have H:(if a1=0 then (none) else (some (Int.tmod (aa ((Int.tmod a0 a1)+a1)) a1)))=some r:=h
 clear h
 by_cases c3:a1=0
 ·rw [if_pos c3] at H
  exact absurd H (by simp)
 ·rw [if_neg c3] at H
  have ab:(a1 == 0)=false:=beq_eq_false_iff_ne.mpr c3
  have ac:(a1 != 0)=true:=bne_iff_ne.mpr c3
  obtain rfl:=Option.some.inj H
  go_enter Tryd.func54,Tryd.ntmps54
  go_wp2
  go_ret
  exact⟨by first|rfl|(simp;done)|(simp [*];done),by repeat (first|exact qar.refl _|apply qar.step)⟩
end
end Go.Proofs.YtgnaaokhfpfglaaDoor.PCertTold
end
