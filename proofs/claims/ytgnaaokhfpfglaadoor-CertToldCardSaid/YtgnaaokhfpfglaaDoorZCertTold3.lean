/- Texts of this claim, one behind the other: PCertTold3, PCertTold4, PCertTold5. -/
import Derived.Test.YtgnaaokhfpfglaaDoorZCertTold1
import Derived.Test.YtgnaaokhfpfglaaDoorZCertTold2

set_option maxHeartbeats 8000000
set_option maxRecDepth 100000
set_option linter.unusedVariables false
set_option linter.unusedSimpArgs false
section
namespace Go.Proofs.YtgnaaokhfpfglaaDoor.PCertTold
open Go.RowKit Go.Proofs.YtgnaaokhfpfglaaDoorW.PrintWords Go.Proofs.YtgnaaokhfpfglaaDoorW.PrintLast Go.Proofs.YtgnaaokhfpfglaaDoorW.PrintMore
attribute [local go_sem] qaW qaU qa3 qa2 qaN qaM qaV qaT
set_option linter.unusedVariables false
set_option linter.unusedSimpArgs false
noncomputable section
theorem c_of_four {W:World} {ρ:Nat} {a b c d:Int} (h:W.heap[ρ]? = some (.cells #[.int .i64 a,.int .i64 b,.int .i64 c,.int .i64 d] 2 (0,0))):Kd.C (Kd.int .i64) W (some ⟨ρ,0,none⟩) [a,b,c,d].length [a,b,c,d]:=by
 have h0:=cell_of_row W ρ 0 _ _ _ h
 have h1:=cell_of_row W ρ 1 _ _ _ h
 have h2:=cell_of_row W ρ 2 _ _ _ h
 have h3:=cell_of_row W ρ 3 _ _ _ h
 refine⟨rfl,by simp,fun _=>⟨_,rfl,fun j p hj=>⟨[.int .i64 p],rfl,rfl,fun i u hu=>?_⟩⟩⟩
 have hi:i=0:=by have:=(List.getElem?_eq_some_iff.1 hu).1;simp at this;omega
 subst hi
 obtain rfl:Value.int .i64 p=u:=by simpa using hu
 have hjl:j<4:=(List.getElem?_eq_some_iff.1 hj).1
 have hjs:j=0∨j=1∨j=2∨j=3:=by omega
 rcases hjs with rfl|rfl|rfl|rfl<;>(cases hj;first|exact h0|exact h1|exact h2|exact h3)
theorem long_l0 (l:List Int) (hl:l.length≤4000000):∀ (d i:Nat),i+d=l.length→Ev (fun k=>cert_long.l0 k (l.take i) l (l.length:Int) (i:Int)) l:=by
 intro d
 induction d with
 |zero=>
  intro i hi
  refine Ev.step (fun k=>by rw [cert_long.l0]) (Ev.ifn (by omega) ?_)
  rw [List.take_of_length_le (by omega)]
  exact Ev.now _
 |succ d ih=>
  intro i hi
  refine Ev.step (fun k=>by rw [cert_long.l0]) (Ev.ifp (by omega) (Ev.ifp (by omega) (Ev.ifp (by omega) (Ev.ifp (by rw [List.length_take];omega) ?_))))
  rw [qaD i (by omega),qaL l i (by omega)]
  have:=ih (i+1) (by omega)
  rw [List.take_add_one,List.getElem?_eq_getElem (by omega)] at this
  exact this
theorem long_is (l:List Int) (hl:l.length≤4000000):Ev (fun k=>cert_long.f k l) l:=by
 have:=long_l0 l hl l.length 0 (by omega)
 exact Ev.congr (fun k=>by unfold cert_long.f;rfl) this
theorem words_is (x:Bd) (h:i64B x.i=true∧i64B x.g=true∧i64B x.t=true∧i64B x.k=true):Ev (fun k=>cert_words.f k [x.i,x.g,x.t,x.k]) (bdW x):=by
 obtain⟨h0,h1,h2,h3⟩:=h
 have d0:=qaG x.i (i64B_iff.1 h0).1 (i64B_iff.1 h0).2
 have d1:=qaG x.g (i64B_iff.1 h1).1 (i64B_iff.1 h1).2
 have d2:=qaG x.t (i64B_iff.1 h2).1 (i64B_iff.1 h2).2
 have d3:=qaG x.k (i64B_iff.1 h3).1 (i64B_iff.1 h3).2
 have z:(⟨#[32]⟩:ByteArray).size=1:=rfl
 have z0:(⟨#[]⟩:ByteArray).size=0:=rfl
 have hd:∀ n,i64B n=true→lex_Digits.f n=some (digB n):=fun n hn=>by unfold lex_Digits.f;rw [if_pos hn];rfl
 show Ev (fun k=>cert_words.l0 k (⟨#[]⟩:ByteArray) [x.i,x.g,x.t,x.k] (([x.i,x.g,x.t,x.k]:List Int).length:Int) 0) (bdW x)
 refine Ev.step (fun k=>by rw [cert_words.l0]) (Ev.ifp (by simp [wrap64]) (Ev.ifp (by simp [wrap64]) (Ev.ifp (by simp [wrap64]) (Ev.bindS (by simpa [rd,wrap64] using hd x.i h0) ?_))))
 refine Ev.ifp (by omega) (Ev.ifp (by rw [ByteArray.size_append];omega) ?_)
 refine Ev.step (fun k=>by rw [cert_words.l0]) (Ev.ifp (by simp [wrap64]) (Ev.ifp (by simp [wrap64]) (Ev.ifp (by simp [wrap64]) (Ev.bindS (by simpa [rd,wrap64] using hd x.g h1) ?_))))
 refine Ev.ifp (by omega) (Ev.ifp (by simp only [ByteArray.size_append];omega) ?_)
 refine Ev.step (fun k=>by rw [cert_words.l0]) (Ev.ifp (by simp [wrap64]) (Ev.ifp (by simp [wrap64]) (Ev.ifp (by simp [wrap64]) (Ev.bindS (by simpa [rd,wrap64] using hd x.t h2) ?_))))
 refine Ev.ifp (by omega) (Ev.ifp (by simp only [ByteArray.size_append];omega) ?_)
 refine Ev.step (fun k=>by rw [cert_words.l0]) (Ev.ifp (by simp [wrap64]) (Ev.ifp (by simp [wrap64]) (Ev.ifp (by simp [wrap64]) (Ev.bindS (by simpa [rd,wrap64] using hd x.k h3) ?_))))
 refine Ev.ifp (by omega) (Ev.ifp (by simp only [ByteArray.size_append];omega) ?_)
 refine Ev.step (fun k=>by rw [cert_words.l0]) ?_
 refine Ev.ifn (by simp [wrap64]) ?_
 exact Ev.now _
theorem mayV_small {s r p m:Int} {L:List Tk} {th q:List Int} {bs:List Bd} (h:mayV s r L p m th q bs=true):checkE s r L=0∧(th.length≤64∧q.length≤64∧bs.length≤64)∧(∀ x ∈ th,0≤x∧x≤99)∧(∀ x ∈ q,0≤x∧x≤1073741824)∧∀ x ∈ bs,(0≤x.i∧x.i≤99)∧(0≤x.g∧x.g≤1099511627776)∧(0≤x.t∧x.t≤1099511627776)∧(0≤x.k∧x.k≤1099511627776):=by
 unfold mayV at h
 simp only [Bool.and_eq_true,decide_eq_true_eq,Bool.not_eq_true'] at h
 obtain⟨⟨⟨⟨⟨⟨h0,_⟩,_⟩,h3⟩,h4⟩,h5⟩,h6⟩:=h
 refine⟨h0,h3,?_,?_,?_⟩
 ·intro x hx
  have:=List.all_eq_true.1 h4 x hx
  exact of_decide_eq_true this
 ·intro x hx
  have:=List.all_eq_true.1 h5 x hx
  exact of_decide_eq_true this
 ·intro x hx
  have h7:=List.any_eq_false.1 h6 x hx
  simp [wrongB,inA] at h7
  omega
noncomputable def certP (s r:Int) (L:List Tk) (p m:Int) (th q:List Int) (bs:List Bd):ByteArray:=if mayV s r L p m th q bs=true then certT (polP p) (modeP m) th q bs (printT s r L) else ⟨#[]⟩
noncomputable def cert_Print.f (af ag:Int) (aa:List S53) (ah ai:Int) (ab ac:List Int) (ae:List S49):Option ByteArray:=if crtOk aa ab ac ae=true then some (certP af ag (aa.map tkOf) ah ai ab ac (ae.map bdOf)) else none
theorem cert_Print.calls (ab:Int) (ac:Int) (A0_2:Option Addr) (c0_2:Nat) (aa:List S53) (af:Int) (ag:Int) (A0_5:Option Addr) (c0_5:Nat) (ae:List Int) (A0_6:Option Addr) (c0_6:Nat) (ai:List Int) (A0_7:Option Addr) (c0_7:Nat) (ah:List S49) (r:ByteArray) (w:World) (hr0_2:Kd.C k53 w A0_2 aa.length aa) (hc0_2:aa.length≤c0_2) (hr0_5:Kd.C (Kd.int .i64) w A0_5 ae.length ae) (hc0_5:ae.length≤c0_5) (hr0_6:Kd.C (Kd.int .i64) w A0_6 ai.length ai) (hc0_6:ai.length≤c0_6) (hr0_7:Kd.C k49 w A0_7 ah.length ah) (hc0_7:ah.length≤c0_7) (h:cert_Print.f ab ac aa af ag ae ai ah=some r) (hT:Tabs w) :
  Calls Tryd.prog 15 #[.agg #[.int .i64 ab,.int .i64 ac,.slice A0_2 aa.length c0_2,.int .i64 af,.int .i64 ag,.slice A0_5 ae.length c0_5,.slice A0_6 ai.length c0_6,.slice A0_7 ah.length c0_7]] w fun e w'=>e=.returned (.string r)∧Below w.heap.size w w':=by
 unfold cert_Print.f at h
 split at h
 ·rename_i h1
  obtain rfl:=Option.some.inj h
  have h1':=h1
  unfold crtOk at h1
  simp only [Bool.and_eq_true,decide_eq_true_eq] at h1
  obtain⟨hk,h5,h6,h7⟩:=h1
  have HM:cert_may.f ab ac aa af ag ae ai ah=some (mayV ab ac (aa.map tkOf) af ag ae ai (ah.map bdOf)):=by unfold cert_may.f;rw [if_pos h1']
  have HMay:∀ W,Below w.heap.size w W→Calls Tryd.prog 26 #[.agg #[.int .i64 ab,.int .i64 ac,.slice A0_2 aa.length c0_2,.int .i64 af,.int .i64 ag,.slice A0_5 ae.length c0_5,.slice A0_6 ai.length c0_6,.slice A0_7 ah.length c0_7]] W fun e w'=>e=.returned (.bool (mayV ab ac (aa.map tkOf) af ag ae ai (ah.map bdOf)))∧Below W.heap.size W w':=fun W hW=>
   cert_may.calls ab ac A0_2 c0_2 aa af ag A0_5 c0_5 ae A0_6 c0_6 ai A0_7 c0_7 ah _ W (Kd.C_below hr0_2 hW) hc0_2 (Kd.C_below hr0_5 hW) hc0_5 (Kd.C_below hr0_6 hW) hc0_6 (Kd.C_below hr0_7 hW) hc0_7 HM
  unfold certP
  cases hm:mayV ab ac (aa.map tkOf) af ag ae ai (ah.map bdOf) with
  |false=>
   rw [hm] at HMay
   exact certPrint_no ab ac af ag A0_2 _ c0_2 A0_5 _ c0_5 A0_6 _ c0_6 A0_7 _ c0_7 w HMay
  |true=>
   rw [hm] at HMay
   rw [if_pos rfl]
   obtain⟨g0,⟨g5,g6,g7⟩,b5,b6,b7⟩:=mayV_small hm
   have aj:∀ x ∈ ah.map bdOf,i64B x.i=true∧i64B x.g=true∧i64B x.t=true∧i64B x.k=true:=fun x hx=>by
    have:=b7 x hx
    simp only [i64B_iff]
    omega
   have hprn:parse_Print.f ab ac aa=some (printT ab ac (aa.map tkOf)):=by
    unfold parse_Print.f
    rw [if_pos (show prnOk aa=true from hk),if_pos g0]
   have hps:(printT ab ac (aa.map tkOf)).size≤10000000:=by
    obtain⟨c0,c1,c2,c3⟩:=checkE_small g0
    have h1:=goT_size (aa.map tkOf) (headT ab ac)
    have h2:=headT_size ab ac c0 c1
    unfold printT
    omega
   obtain⟨kl,hkl⟩:=(long_is ae h5)
   have:=certPrint_yes ab ac af ag A0_2 aa.length c0_2 A0_5 c0_5 ae A0_6 c0_6 ai A0_7 c0_7 (ah.map bdOf) w (polP af) (modeP ag) (printT ab ac (aa.map tkOf)) (polP_size _) (modeP_size _) hps ⟨g5,fun x hx=>by have:=b5 x hx;omega⟩ ⟨g6,fun x hx=>by have:=b6 x hx;omega⟩ ⟨g7,fun x hx=>by
     have q:=aj x hx
     simp only [i64B_iff] at q
     have d0:=qaG x.i q.1.1 q.1.2
     have d1:=qaG x.g q.2.1.1 q.2.1.2
     have d2:=qaG x.t q.2.2.1.1 q.2.2.1.2
     have d3:=qaG x.k q.2.2.2.1 q.2.2.2.2
     have z:(⟨#[32]⟩:ByteArray).size=1:=rfl
     have z0:(⟨#[]⟩:ByteArray).size=0:=rfl
     unfold bdW
     simp only [ByteArray.size_append]
     omega⟩ (by rw [List.length_map];exact HMay)
    (fun W=>(cert_Policy.calls af _ W (pol_is af)).mono (fun e w' h=>⟨h.1,drawn_below h.2⟩))
    (fun W=>(cert_Mode.calls ag _ W (mode_is ag)).mono (fun e w' h=>⟨h.1,drawn_below h.2⟩))
    (fun W hW=>(cert_long.calls kl A0_5 c0_5 ae ae W (Kd.C_below hr0_5 hW) hc0_5 (hkl kl (Nat.le_refl _))).mono (fun e w' h=>by
     obtain⟨v,rfl,hR,hb⟩:=h
     obtain⟨A,c,rfl,hl,hC⟩:=Kd.R_reads hR
     exact⟨⟨A,c,rfl,nrow_of_C hC⟩,hb⟩))
    (fun x hx ρ W hρ hW=>by
     obtain⟨kw,hkw⟩:=words_is x (aj x hx)
     exact cert_words.calls kw (some ⟨ρ,0,none⟩) 4 [x.i,x.g,x.t,x.k] _ W (c_of_four hρ) (by simp) (hkw kw (Nat.le_refl _)) (Tabs.below hT hW))
    (fun W hW=>parse_Print.calls ab ac A0_2 c0_2 aa _ W (Kd.C_below hr0_2 hW) hc0_2 hprn (Tabs.below hT hW))
    (nrow_of_C hr0_6) (bdrow_of_C hr0_7) hT.1.1.1 hT.1.1.2
   rw [List.length_map] at this
   exact this
 ·cases h
def ostinatolaw21_awake.f:Option (Bool):=(cert_Print.f 0 0 (([(⟨2,1,3,3,1,([]:List Int),([]:List Int)⟩:S53)]:List (S53))) 1 1 ([]:List Int) ([]:List Int) (([(⟨2,3,1,9⟩:S49)]:List (S49)))).bind fun aa=>(some (aa.toList == ([99,101,114,116,105,102,105,99,97,116,101,32,101,100,102,32,102,117,108,108,10,98,111,117,110,100,32,50,32,51,32,49,32,57,10,99,97,99,104,101,32,48,32,48,10,116,97,115,107,32,50,32,99,61,49,32,100,61,51,32,116,61,51,32,112,61,49,10]:List UInt8)))
theorem ostinatolaw21_awake.calls  (r:Bool) (w:World) (h:ostinatolaw21_awake.f=some r) (hT:Tabs w) :
  Calls Tryd.prog 5 #[] w fun e w'=>e=.returned (.bool r)∧Below w.heap.size w w':=by
 have bg:=Tryd.underlying53
 have bh:=Tryd.underlying33
 have bi:=Tryd.underlying36
 have bj:=Tryd.underlying49
 have bm:=Tryd.underlying39
 have HB:=qaa.mk (Below.refl w.heap.size w)
 have H:((cert_Print.f 0 0 (([(⟨2,1,3,3,1,([]:List Int),([]:List Int)⟩:S53)]:List (S53))) 1 1 ([]:List Int) ([]:List Int) (([(⟨2,3,1,9⟩:S49)]:List (S49)))).bind fun ah=>(some (ah.toList == ([99,101,114,116,105,102,105,99,97,116,101,32,101,100,102,32,102,117,108,108,10,98,111,117,110,100,32,50,32,51,32,49,32,57,10,99,97,99,104,101,32,48,32,48,10,116,97,115,107,32,50,32,99,61,49,32,100,61,51,32,116,61,51,32,112,61,49,10]:List UInt8))))=some r:=h
 clear h
 have HT:=qaa.mk hT
 clear hT
 obtain⟨ab,ai⟩:∃ y_:List (S53),y_=(([(⟨2,1,3,3,1,([]:List Int),([]:List Int)⟩:S53)]:List (S53))):=⟨_,rfl⟩
 replace H:((cert_Print.f 0 0 ab 1 1 ([]:List Int) ([]:List Int) (([(⟨2,3,1,9⟩:S49)]:List (S49)))).bind fun ah=>(some (ah.toList == ([99,101,114,116,105,102,105,99,97,116,101,32,101,100,102,32,102,117,108,108,10,98,111,117,110,100,32,50,32,51,32,49,32,57,10,99,97,99,104,101,32,48,32,48,10,116,97,115,107,32,50,32,99,61,49,32,100,61,51,32,116,61,51,32,112,61,49,10]:List UInt8))))=some r:=by first|(rw [ai];with_reducible exact H)|(have ap:=(Option.bind_some _ _).symm.trans H;rw [ai];with_reducible exact ap)|(have ap:=(Option.bind_some _ _).symm.trans H;with_reducible exact ap)|with_reducible exact H|(rw [ai];exact H)|exact H
 have am:=qaa.mk ai
 clear ai
 obtain⟨ag,aj⟩:∃ y_:List (S49),y_=(([(⟨2,3,1,9⟩:S49)]:List (S49))):=⟨_,rfl⟩
 replace H:((cert_Print.f 0 0 ab 1 1 ([]:List Int) ([]:List Int) ag).bind fun ah=>(some (ah.toList == ([99,101,114,116,105,102,105,99,97,116,101,32,101,100,102,32,102,117,108,108,10,98,111,117,110,100,32,50,32,51,32,49,32,57,10,99,97,99,104,101,32,48,32,48,10,116,97,115,107,32,50,32,99,61,49,32,100,61,51,32,116,61,51,32,112,61,49,10]:List UInt8))))=some r:=by first|(rw [aj];with_reducible exact H)|(have ap:=(Option.bind_some _ _).symm.trans H;rw [aj];with_reducible exact ap)|(have ap:=(Option.bind_some _ _).symm.trans H;with_reducible exact ap)|with_reducible exact H|(rw [aj];exact H)|exact H
 have an:=qaa.mk aj
 clear aj
 replace H:=Option.bind_eq_some_iff.mp H
 obtain⟨ah,be,H⟩:=H
 replace H:(some (ah.toList == ([99,101,114,116,105,102,105,99,97,116,101,32,101,100,102,32,102,117,108,108,10,98,111,117,110,100,32,50,32,51,32,49,32,57,10,99,97,99,104,101,32,48,32,48,10,116,97,115,107,32,50,32,99,61,49,32,100,61,51,32,116,61,51,32,112,61,49,10]:List UInt8)))=some r:=H
 have A1:=qaa.mk be
 clear be
 obtain rfl:=Option.some.inj H
 go_enter Tryd.func5,Tryd.ntmps5
 go_wp2_with (first|((with_reducible refine qap (N:=3) rfl ?_);refine Kd.S_lit k53 _ 53 ?hg (N:=3) ?hd (xs:=([(⟨2,1,3,3,1,([]:List Int),([]:List Int)⟩:S53)]:List (S53))) (inner:=[.int .i64 2,.int .i64 1,.int .i64 3,.int .i64 3,.int .i64 1,.slice none 0 0,.slice none 0 0]) (ok:=fun _=>True) (okp:=fun _=>True) ?hr ?hp (fun _ hk=>hk) trivial (Below.refl _ _) (Nat.le_refl _) (by simp) ?_;(case hd=>rfl);(case hg=>rfl);(case hr=>first|(go_simp;done)|(go_simp;rfl));(case hp=>exact (Reps.c7 (show Kd.M k53 _ _ _ (⟨2,1,3,3,1,([]:List Int),([]:List Int)⟩:S53) [.int .i64 2,.int .i64 1,.int .i64 3,.int .i64 3,.int .i64 1,.slice none 0 0,.slice none 0 0] from (k53_mkM _ _ _ (⟨2,1,3,3,1,([]:List Int),([]:List Int)⟩:S53) (Kd.R_nil _ _ _ _ _) (Kd.R_nil _ _ _ _ _))) (Reps.none _ _)));intro bn w2 au hb hg_ hnew_;clear hg_ hnew_;(first|rw [← am.out] at au|(simp only [Int.reduceToNat] at au;rw [← am.out] at au));have ac:=qaa.mk (Kd.S_lower au (qac sB));replace HB:=qaa.mk (qai sB hb);clear hb au;obtain⟨al,ak,bp⟩:=Kd.S_slice ac.out;subst bp)|((with_reducible refine qap (N:=7) rfl ?_);refine Kd.R_lit k49 _ 49 ?hg (N:=7) ?hd (xs:=([(⟨2,3,1,9⟩:S49)]:List (S49))) (inner:=[.int .i64 2,.int .i64 3,.int .i64 1,.int .i64 9]) (ok:=fun _=>True) (okp:=fun _=>True) ?hr ?hp (fun _ hk=>hk) trivial (Below.refl _ _) (Nat.le_refl _) (by simp) ?_;(case hd=>rfl);(case hg=>rfl);(case hr=>first|(go_simp;done)|(go_simp;rfl));(case hp=>exact (Reps.c4 (show Kd.M k49 _ _ _ (⟨2,3,1,9⟩:S49) [.int .i64 2,.int .i64 3,.int .i64 1,.int .i64 9] from (k49_mkM _ _ _ (⟨2,3,1,9⟩:S49) )) (Reps.none _ _)));intro bq w5 av hb hg_ hnew_;clear hg_ hnew_;(first|rw [← an.out] at av|(simp only [Int.reduceToNat] at av;rw [← an.out] at av));replace ac:=qaa.mk (Kd.S_below (by (with_reducible repeat (first|apply Kd.S_alloc|apply Kd.S_drewN|apply Kd.S_drew));exact ac.out) hb);have af:=qaa.mk (Kd.R_lower av (qac sB));replace HB:=qaa.mk (qai sB hb);clear hb av;obtain⟨ar,aq,bt⟩:=Kd.R_slice af.out;subst bt)|((with_reducible refine qap (N:=1) rfl ?_);refine qao ?hg (N:=1) ?hd (cs:=#[.int .i64 0,.int .i64 0,.slice none 0 0,.int .i64 0,.int .i64 0,.slice none 0 0,.slice none 0 0,.slice none 0 0]) (t:=39) ?hr ?_;(case hd=>rfl);(case hg=>rfl);(case hr=>first|(go_simp;done)|(go_simp;rfl));intro aa hg w8 hbox hb;replace ac:=qaa.mk (Kd.S_below (by (with_reducible repeat (first|apply Kd.S_alloc|apply Kd.S_drewN|apply Kd.S_drew));exact ac.out) hb);replace af:=qaa.mk (Kd.R_below (sR af.out) hb);have ae:=qaa.mk (hbox);have bf:=qaa.mk ((by rw [hg];exact (qac sB):w.heap.size≤aa));have aw:=qaa.mk ((by rw [hg];exact (qac sB):w.heap.size≤aa));replace HB:=qaa.mk (qai sB hb);clear hb hbox hg;obtain⟨aH,aI,aJ,aK,aM,aN,aQ,aT⟩:=sC8 (w:=w8) ae.out;obtain⟨aU,aV,aW,aX,aY,aZ,a8,ba⟩:=sF8 ae.out)|((with_reducible refine qaA (f:=15) rfl ?_);refine qa7 (some 10) rfl rfl Tryd.func15 (by kernel_rfl) rfl #[.agg #[.int .i64 0,.int .i64 0,.slice al ab.length ak,.int .i64 1,.int .i64 1,.slice none 0 0,.slice none 0 0,.slice ar ag.length aq]] rfl (by (try simp only [List.map_toArray,List.map_cons,List.map_nil]);first|done|rfl|(simp only [List.length_drop,List.length_take];rfl)) ?_;(refine (cert_Print.calls 0 0 _ _ ab 1 1 _ _ ([]:List Int) _ _ ([]:List Int) _ _ ag ah _ ?ax ?ay ?az ?aA ?aC ?aD ?aE ?aG A1.out (Tabs.below HT.out sB)).mono ?_);(case ax=>refine (Kd.S_reads' (e:=53) (base:=w.heap.size) (ok:=fun k_=>True) (n:=ab.length) (c:=ak) ?_).2.2;exact (by (with_reducible repeat (first|apply Kd.S_alloc|apply Kd.S_drewN|apply Kd.S_drew));exact (Kd.S_mono (Kd.S_far (p:=⟨aa,7,none⟩) (Kd.S_far (p:=⟨aa,6,none⟩) (Kd.S_far (p:=⟨aa,5,none⟩) (Kd.S_far (p:=⟨aa,4,none⟩) (Kd.S_far (p:=⟨aa,3,none⟩) (Kd.S_far (p:=⟨aa,2,none⟩) (Kd.S_far (p:=⟨aa,1,none⟩) (Kd.S_far (p:=⟨aa,0,none⟩) (Kd.S_types ac.out ae.out (by decide)) (fun _ hk=>hk.2) (.int .i64 0)) (fun _ hk=>hk.2) (.int .i64 0)) (fun _ hk=>hk.2) (.slice al ab.length ak)) (fun _ hk=>hk.2) (.int .i64 1)) (fun _ hk=>hk.2) (.int .i64 1)) (fun _ hk=>hk.2) (.slice none 0 0)) (fun _ hk=>hk.2) (.slice none 0 0)) (fun _ hk=>hk.2) (.slice ar ag.length aq)) (fun _ h_=>h_.1))));(case ay=>exact (Kd.S_reads' ac.out).2.1);(case az=>exact Kd.C_nil _ _);(case aA=>exact Nat.le_refl _);(case aC=>exact Kd.C_nil _ _);(case aD=>exact Nat.le_refl _);(case aE=>refine (Kd.R_reads' (e:=49) (base:=w.heap.size) (ok:=fun k_=>True) (n:=ag.length) (c:=aq) ?_).2.2;exact (by refine sRm ?_;exact (Kd.R_mono (Kd.R_far (p:=⟨aa,7,none⟩) (Kd.R_far (p:=⟨aa,6,none⟩) (Kd.R_far (p:=⟨aa,5,none⟩) (Kd.R_far (p:=⟨aa,4,none⟩) (Kd.R_far (p:=⟨aa,3,none⟩) (Kd.R_far (p:=⟨aa,2,none⟩) (Kd.R_far (p:=⟨aa,1,none⟩) (Kd.R_far (p:=⟨aa,0,none⟩) (Kd.R_types af.out ae.out (by decide)) (fun _ hk=>hk.2) (.int .i64 0)) (fun _ hk=>hk.2) (.int .i64 0)) (fun _ hk=>hk.2) (.slice al ab.length ak)) (fun _ hk=>hk.2) (.int .i64 1)) (fun _ hk=>hk.2) (.int .i64 1)) (fun _ hk=>hk.2) (.slice none 0 0)) (fun _ hk=>hk.2) (.slice none 0 0)) (fun _ hk=>hk.2) (.slice ar ag.length aq)) (fun _ h_=>h_.1))));(case aG=>exact (Kd.R_reads' af.out).2.1);rintro e bv ⟨rfl,hb⟩;refine⟨_,rfl,?_⟩;replace ac:=qaa.mk (Kd.S_below (by (with_reducible repeat (first|apply Kd.S_alloc|apply Kd.S_drewN|apply Kd.S_drew));exact (Kd.S_mono (Kd.S_far (p:=⟨aa,7,none⟩) (Kd.S_far (p:=⟨aa,6,none⟩) (Kd.S_far (p:=⟨aa,5,none⟩) (Kd.S_far (p:=⟨aa,4,none⟩) (Kd.S_far (p:=⟨aa,3,none⟩) (Kd.S_far (p:=⟨aa,2,none⟩) (Kd.S_far (p:=⟨aa,1,none⟩) (Kd.S_far (p:=⟨aa,0,none⟩) (Kd.S_types ac.out ae.out (by decide)) (fun _ hk=>hk.2) (.int .i64 0)) (fun _ hk=>hk.2) (.int .i64 0)) (fun _ hk=>hk.2) (.slice al ab.length ak)) (fun _ hk=>hk.2) (.int .i64 1)) (fun _ hk=>hk.2) (.int .i64 1)) (fun _ hk=>hk.2) (.slice none 0 0)) (fun _ hk=>hk.2) (.slice none 0 0)) (fun _ hk=>hk.2) (.slice ar ag.length aq)) (fun _ h_=>h_.1))) hb);replace af:=qaa.mk (Kd.R_below (by refine sRm ?_;exact (Kd.R_mono (Kd.R_far (p:=⟨aa,7,none⟩) (Kd.R_far (p:=⟨aa,6,none⟩) (Kd.R_far (p:=⟨aa,5,none⟩) (Kd.R_far (p:=⟨aa,4,none⟩) (Kd.R_far (p:=⟨aa,3,none⟩) (Kd.R_far (p:=⟨aa,2,none⟩) (Kd.R_far (p:=⟨aa,1,none⟩) (Kd.R_far (p:=⟨aa,0,none⟩) (Kd.R_types af.out ae.out (by decide)) (fun _ hk=>hk.2) (.int .i64 0)) (fun _ hk=>hk.2) (.int .i64 0)) (fun _ hk=>hk.2) (.slice al ab.length ak)) (fun _ hk=>hk.2) (.int .i64 1)) (fun _ hk=>hk.2) (.int .i64 1)) (fun _ hk=>hk.2) (.slice none 0 0)) (fun _ hk=>hk.2) (.slice none 0 0)) (fun _ hk=>hk.2) (.slice ar ag.length aq)) (fun _ h_=>h_.1))) hb);replace ae:=qaa.mk (qa9 (g:=aa) (o:=.cells #[.int .i64 0,.int .i64 0,.slice al ab.length ak,.int .i64 1,.int .i64 1,.slice none 0 0,.slice none 0 0,.slice ar ag.length aq] 39 (0,0)) (by refine sM ?_;refine qak (cs:=#[.int .i64 0,.int .i64 0,.slice al ab.length ak,.int .i64 1,.int .i64 1,.slice none 0 0,.slice none 0 0,.slice none 0 0]) ?_ 7 _ rfl;refine sM ?_;refine qak (cs:=#[.int .i64 0,.int .i64 0,.slice al ab.length ak,.int .i64 1,.int .i64 1,.slice none 0 0,.slice none 0 0,.slice none 0 0]) ?_ 6 _ rfl;refine sM ?_;refine qak (cs:=#[.int .i64 0,.int .i64 0,.slice al ab.length ak,.int .i64 1,.int .i64 1,.slice none 0 0,.slice none 0 0,.slice none 0 0]) ?_ 5 _ rfl;refine sM ?_;refine qak (cs:=#[.int .i64 0,.int .i64 0,.slice al ab.length ak,.int .i64 1,.int .i64 0,.slice none 0 0,.slice none 0 0,.slice none 0 0]) ?_ 4 _ rfl;refine sM ?_;refine qak (cs:=#[.int .i64 0,.int .i64 0,.slice al ab.length ak,.int .i64 0,.int .i64 0,.slice none 0 0,.slice none 0 0,.slice none 0 0]) ?_ 3 _ rfl;refine sM ?_;refine qak (cs:=#[.int .i64 0,.int .i64 0,.slice none 0 0,.int .i64 0,.int .i64 0,.slice none 0 0,.slice none 0 0,.slice none 0 0]) ?_ 2 _ rfl;refine sM ?_;refine qak (cs:=#[.int .i64 0,.int .i64 0,.slice none 0 0,.int .i64 0,.int .i64 0,.slice none 0 0,.slice none 0 0,.slice none 0 0]) ?_ 1 _ rfl;refine sM ?_;refine qak (cs:=#[.int .i64 0,.int .i64 0,.slice none 0 0,.int .i64 0,.int .i64 0,.slice none 0 0,.slice none 0 0,.slice none 0 0]) ?_ 0 _ rfl;refine sM ?_;exact ae.out) hb);replace HB:=qaa.mk (qai sB hb);(try clear hb);(try clear bw);(try clear hk);(try clear hi)))
 go_ret
 exact⟨by first|rfl|(simp [qam,qal]<;>rfl)|(simp [bneNil,bneNilU]<;>rfl)|(simp [*,qam,qal]<;>rfl),by repeat (first|(with_reducible first|exact HB.out|apply qah|apply qae|apply qag|refine qad ?_ aw.out)|exact HB.out)⟩
mutual
def ostinatoref05_ByPrio.l0:Nat→List (S53)→Int→Int→Int→List (S53)→Option ((List (S53)))
 |0,_,_,_,_,_=>none
 |k+1,x3,x4,ab,ac,aa=>if x4<(aa.length:Int) then (ostinatoref05_ByPrio.l1 k x3 x4 (x3.length:Int) ab ac aa) else (some x3)
def ostinatoref05_ByPrio.l1:Nat→List (S53)→Int→Int→Int→Int→List (S53)→Option ((List (S53)))
 |0,_,_,_,_,_,_=>none
 |k+1,x3,x4,x5,ab,ac,aa=>if x5 > 0 then (if 0≤(wrap64 (x5 - 1)) then (if (wrap64 (x5 - 1))<(x3.length:Int) then (if 0≤x4 then (if x4<(aa.length:Int) then (ostinatoref05_ByPrio.j2 k x3 x4 x5 (decide (((qaj x3 (wrap64 (x5 - 1))).f4) > ((qaj aa x4).f4))) ab ac aa) else (none)) else (none)) else (none)) else (none)) else (ostinatoref05_ByPrio.j2 k x3 x4 x5 false ab ac aa)
def ostinatoref05_ByPrio.j2:Nat→List (S53)→Int→Int→Bool→Int→Int→List (S53)→Option ((List (S53)))
 |0,_,_,_,_,_,_,_=>none
 |k+1,x3,x4,x5,aj,ab,ac,aa=>if aj=true then (ostinatoref05_ByPrio.l1 k x3 x4 (wrap64 (x5 - 1)) ab ac aa) else ((some (([]:List (S53)):List (S53))).bind fun ae=>(if 0≤x5 then (if x5≤(x3.length:Int) then ((some (x3.take (x5:Int).toNat:List (S53))).bind fun af=>(if ae.length+af.length<1599289640401 then ((some (ae++af:List (S53))).bind fun ag=>(if 0≤x4 then (if x4<(aa.length:Int) then (if ag.length<1599289640401 then ((some (ag++[(⟨(qaj aa x4).f0,(qaj aa x4).f1,(qaj aa x4).f2,(qaj aa x4).f3,(qaj aa x4).f4,(qaj aa x4).f5,(qaj aa x4).f6⟩:S53)]:List (S53))).bind fun ah=>((some (x3.drop (x5:Int).toNat:List (S53))).bind fun ai=>(if ah.length+ai.length<1599289640401 then (ostinatoref05_ByPrio.l0 k (ah++ai) (wrap64 (x4+1)) ab ac aa) else (none)))) else (none)) else (none)) else (none))) else (none))) else (none)) else (none)))
end
def ostinatoref05_ByPrio.f (k:Nat) (aa:Int) (ab:Int) (ac:List (S53)):Option ((List (S53))):=ostinatoref05_ByPrio.l0 k ([]:List (S53)) 0 aa ab ac
theorem ostinatoref05_ByPrio.calls (k:Nat) (au:Int) (av:Int) (af:Nat→Prop) (A0_2:Option Addr) (c0_2:Nat) (ab:List (S53)) (r:List (S53)) (w:World) (d9:Kd.V k53 53 w w.heap.size (fun k_=>af k_) (.slice A0_2 ab.length c0_2) ab) (h:ostinatoref05_ByPrio.f k au av ab=some r) :
  Calls Tryd.prog 53 #[.agg #[.int .i64 au,.int .i64 av,.slice A0_2 ab.length c0_2]] w fun e w'=>∃ fq:Value,e=.returned (fq)∧Kd.N k53 53 w' w.heap.size (fun k_=>(af k_∨w.heap.size≤k_)) fq r∧Below w.heap.size w w':=by
 have fI:=Tryd.underlying33
 have fJ:=Tryd.underlying53
 have bz:=qaa.mk (show Kd.V k53 53 w w.heap.size (fun k_=>(af k_∨w.heap.size≤k_)) (.slice A0_2 ab.length c0_2) ab from Kd.V_mono d9 (fun k_ hk=>.inl hk))
 have HB:=qaa.mk (Below.refl w.heap.size w)
 have H:(ostinatoref05_ByPrio.l0 k ([]:List (S53)) 0 au av ab)=some r:=h
 clear h
 have H':=qaa.mk H
 clear H
 go_enter Tryd.func53,Tryd.ntmps53
 go_wp2_with (first|((with_reducible refine qap (N:=1) rfl ?_);refine qao ?hg (N:=1) ?hd (cs:=#[.int .i64 au,.int .i64 av,.slice A0_2 ab.length c0_2]) (t:=33) ?hr ?_;(case hd=>rfl);(case hg=>rfl);(case hr=>first|(go_simp;done)|(go_simp;rfl));intro aa hg w2 hbox hb;replace bz:=qaa.mk (Kd.V_below (Kd.V_elderB (sV bz.out) aa (Nat.le_of_eq hg.symm)) hb);have ag:=qaa.mk (hbox);have dN:=qaa.mk ((by rw [hg];exact (qac sB):w.heap.size≤aa));have a8:=qaa.mk ((by rw [hg];exact (qac sB):w.heap.size≤aa));replace HB:=qaa.mk (qai sB hb);clear hb hbox hg))
 repeat (go_quiet (first|((with_reducible refine qap (N:=1) rfl ?_);refine qao ?hg (N:=1) ?hd (cs:=#[.int .i64 au,.int .i64 av,.slice A0_2 ab.length c0_2]) (t:=33) ?hr ?_;(case hd=>rfl);(case hg=>rfl);(case hr=>first|(go_simp;done)|(go_simp;rfl));intro aa hg w2 hbox hb;replace bz:=qaa.mk (Kd.V_below (Kd.V_elderB (sV bz.out) aa (Nat.le_of_eq hg.symm)) hb);have ag:=qaa.mk (hbox);have dN:=qaa.mk ((by rw [hg];exact (qac sB):w.heap.size≤aa));have a8:=qaa.mk ((by rw [hg];exact (qac sB):w.heap.size≤aa));replace HB:=qaa.mk (qai sB hb);clear hb hbox hg));try go_wp2_with (first|((with_reducible refine qap (N:=1) rfl ?_);refine qao ?hg (N:=1) ?hd (cs:=#[.int .i64 au,.int .i64 av,.slice A0_2 ab.length c0_2]) (t:=33) ?hr ?_;(case hd=>rfl);(case hg=>rfl);(case hr=>first|(go_simp;done)|(go_simp;rfl));intro aa hg w2 hbox hb;replace bz:=qaa.mk (Kd.V_below (Kd.V_elderB (sV bz.out) aa (Nat.le_of_eq hg.symm)) hb);have ag:=qaa.mk (hbox);have dN:=qaa.mk ((by rw [hg];exact (qac sB):w.heap.size≤aa));have a8:=qaa.mk ((by rw [hg];exact (qac sB):w.heap.size≤aa));replace HB:=qaa.mk (qai sB hb);clear hb hbox hg)))
 go_loopg [3,4] k (fun kq v3 v4 w'=>∃ (ah:List (S53)) (ac:Int),v4=.int .i64 ac∧qaa (ostinatoref05_ByPrio.l0 kq ah ac au av ab=some r)∧qaa (kq≤k)∧qaa (Kd.N k53 53 w' w.heap.size (fun k_=>(af k_∨w.heap.size≤k_)∧k_≠aa) v3 ah)∧qaa (Kd.V k53 53 w' w.heap.size (fun k_=>(af k_∨w.heap.size≤k_)∧some k_≠(v3:Value).ownBlock∧k_≠aa) (.slice A0_2 ab.length c0_2) ab)∧qaa (w'.heap[aa]? = some (.cells #[.int .i64 au,.int .i64 av,(.slice A0_2 ab.length c0_2)] 33 (0,0)))∧qaa (Below w.heap.size w w'))
 case atStart=>exact⟨(([]:List (S53))),(0),(by first|rfl|(simp;done)|(simp [*];done)),H',⟨Nat.le_refl _⟩,⟨by first|exact Kd.S_nil _ _ _ _ _|exact Kd.N_nil _ _ _ _ _|exact Kd.V_nil _ _ _ _ _|exact Kd.Q_nil _ _ _ _ _|exact Kd.R_nil _ _ _ _ _⟩,⟨by refine sVm ?_;exact Kd.V_mono bz.out (fun _ hk=>⟨hk.1,⟨(by simp [Value.ownBlock]),hk.2⟩⟩)⟩,⟨by refine sM ?_;exact ag.out⟩,⟨by repeat (first|(with_reducible first|exact HB.out|apply qah|apply qae|apply qag|refine qad ?_ a8.out)|exact HB.out)⟩⟩
 case round=>
  clear H'
  try clear p2
  obtain⟨ah,ac,rfl,HA,d7,al,ae,ag,HB⟩:=hrel
  cases gk with
  |zero=>exact absurd HA.out (by simp [ostinatoref05_ByPrio.l0])
  |succ k1=>
   have H:=HA.out
   clear HA
   simp only [ostinatoref05_ByPrio.l0] at H
   by_cases c3:ac<(ab.length:Int)
   ·rw [if_pos c3] at H
    have dV:decide (ac<(ab.length:Int))=true:=decide_eq_true c3
    clear c3
    have H':=qaa.mk H
    clear H
    obtain⟨cX,cY,cZ⟩:=sC3 (w:=wr) ag.out
    obtain⟨da,db,dc⟩:=sF3 ag.out
    obtain⟨aC,aw,fK⟩:=Kd.N_slice al.out
    subst fK
    go_wp2
    repeat (go_quiet (fail);try go_wp2)
    go_loopg [5] k1 (fun kq v5 w'=>∃ (ai:Int),v5=.int .i64 ai∧qaa (ostinatoref05_ByPrio.l1 kq ah ac ai au av ab=some r)∧qaa (kq≤k1)∧qaa (Kd.N k53 53 w' w.heap.size (fun k_=>(af k_∨w.heap.size≤k_)∧k_≠aa) (.slice aC ah.length aw) ah)∧qaa (Kd.V k53 53 w' w.heap.size (fun k_=>(af k_∨w.heap.size≤k_)∧some k_≠((.slice aC ah.length aw):Value).ownBlock∧k_≠aa) (.slice A0_2 ab.length c0_2) ab)∧qaa (w'.heap[aa]? = some (.cells #[.int .i64 au,.int .i64 av,(.slice A0_2 ab.length c0_2)] 33 (0,0)))∧qaa (Below w.heap.size w w'))
    case atStart=>exact⟨((ah.length:Int)),(by first|rfl|(simp;done)|(simp [*];done)),H',⟨Nat.le_refl _⟩,⟨by refine sNm ?_;exact al.out⟩,⟨by refine sVm ?_;exact ae.out⟩,⟨by refine sM ?_;exact ag.out⟩,⟨by repeat (first|(with_reducible first|exact HB.out|apply qah|apply qae|apply qag|refine qad ?_ a8.out)|exact HB.out)⟩⟩
    case round=>
     clear H'
     try clear p2
     try clear c3
     try clear dV
     try clear c5
     try clear cX cY cZ
     try clear da db dc
     try clear p2
     obtain⟨ai,rfl,HA,d8,al,ae,ag,HB⟩:=hrel
     cases gk with
     |zero=>exact absurd HA.out (by simp [ostinatoref05_ByPrio.l1])
     |succ k2=>
      have H:=HA.out
      clear HA
      simp only [ostinatoref05_ByPrio.l1] at H
      have fc:=qaa.mk H
      clear H
      go_upto_region 6 with (fail)
      repeat (go_quiet (fail);go_upto_region 6 with (fail))
      go_cut [32] (fun fL wc=>∃ (kq:Nat) (cp:Bool),fL=.bool cp∧qaa (ostinatoref05_ByPrio.j2 kq ah ac ai cp au av ab=some r)∧qaa (kq≤k2)∧qaa (Kd.N k53 53 wc w.heap.size (fun k_=>(af k_∨w.heap.size≤k_)∧k_≠aa) (.slice aC ah.length aw) ah)∧qaa (Kd.V k53 53 wc w.heap.size (fun k_=>(af k_∨w.heap.size≤k_)∧some k_≠((.slice aC ah.length aw):Value).ownBlock∧k_≠aa) (.slice A0_2 ab.length c0_2) ab)∧qaa (wc.heap[aa]? = some (.cells #[.int .i64 au,.int .i64 av,(.slice A0_2 ab.length c0_2)] 33 (0,0)))∧qaa (Below w.heap.size w wc))
      case first=>
       have H:=fc.out
       clear fc
       by_cases c7:ai > 0
       ·rw [if_pos c7] at H
        have cW:decide (0<ai)=true:=decide_eq_true c7
        clear c7
        (first|rw [cW]|(simp only [qaC,qaE];rw [cW])|skip)
        obtain⟨ck,dw⟩:∃ j_:Int,(wrap64 (ai - 1))=j_:=⟨_,rfl⟩
        replace H:(if 0≤(ck) then (if (ck)<(ah.length:Int) then (if 0≤ac then (if ac<(ab.length:Int) then (ostinatoref05_ByPrio.j2 k2 ah ac ai (decide (((qaj ah (ck)).f4) > ((qaj ab ac).f4))) au av ab) else (none)) else (none)) else (none)) else (none))=some r:=by first|(rw [dw] at H;exact H)|(simp only [dw] at H ⊢;exact H)
        have hji8w:(IntKind.i64.wrap (ai - 1))=ck:=(qaC _).trans dw
        by_cases c9:0≤(ck)
        ·rw [if_pos c9] at H
         have fe:decide (0≤(ck))=true:=decide_eq_true c9
         clear c9
         by_cases ea:(ck)<(ah.length:Int)
         ·rw [if_pos ea] at H
          have eb:decide ((ck)<(ah.length:Int))=true:=decide_eq_true ea
          clear ea
          by_cases ec:0≤ac
          ·rw [if_pos ec] at H
           have ed:decide (0≤ac)=true:=decide_eq_true ec
           clear ec
           by_cases ef:ac<(ab.length:Int)
           ·rw [if_pos ef] at H
            have eg:decide (ac<(ab.length:Int))=true:=decide_eq_true ef
            clear ef
            have H':=qaa.mk H
            clear H
            have dd:0≤((ck):Int):=of_decide_eq_true sA
            have de:(ck)<(ah.length:Int):=of_decide_eq_true sA
            obtain⟨ft,ff,fg,fh,fi,fj,dx,dy,dz,dA,dB,cq,cr,ct,cu,cv,cw⟩:=at_T53 (Kd.N_reads' al.out).2.2 (ck) dd de
            cases fj
            obtain⟨fu,dW,dX,cm⟩:=Kd.N_get al.out z53 (ck) dd (by first|exact de|exact of_decide_eq_true sA|(have e_:=(Kd.N_reads' al.out).1;omega))
            obtain⟨ev,ew,ex,ey,rfl,bR,bS,bT,bU⟩:=qa8 dX
            have bt:=cm 5 _ rfl
            rw [qat _ _ 5 (by omega)] at bt
            replace bt:=Option.some.inj (bt.symm.trans cq)
            injection bt with hva_ hvn_ hvc_
            rw [hva_] at bS
            rw [hvc_] at bR
            have ez:=qaa.mk (show Kd.V (Kd.int .i64) 2 _ w.heap.size _ _ ((qaj ah (ck)).f5) from Kd.V_mk bR bS)
            clear hva_ hvn_ hvc_ bS bR
            have bv:=cm 6 _ rfl
            rw [qat _ _ 6 (by omega)] at bv
            replace bv:=Option.some.inj (bv.symm.trans cr)
            injection bv with hva_ hvn_ hvc_
            rw [hva_] at bU
            rw [hvc_] at bT
            have eA:=qaa.mk (show Kd.V (Kd.int .i64) 3 _ w.heap.size _ _ ((qaj ah (ck)).f6) from Kd.V_mk bT bU)
            clear hva_ hvn_ hvc_ bU bT cm dW
            have eB:=qaa.mk cu
            have eC:=qaa.mk ct
            clear cu ct
            have eD:=qaa.mk cw
            have eE:=qaa.mk cv
            clear cw cv
            replace dd:=eq_true dd
            replace de:=eq_true de
            obtain⟨dC,dD,dE⟩:=sC3 (w:=wr) ag.out
            obtain⟨dF,dG,dH⟩:=sF3 ag.out
            have df:0≤(ac:Int):=of_decide_eq_true sA
            have dg:ac<(ab.length:Int):=of_decide_eq_true sA
            obtain⟨fv,fk,fl,fm,fo,fp,dI,dJ,dK,dL,dM,cx,cy,cz,cA,cB,cC⟩:=at_T53 (Kd.V_reads' ae.out).2.2 ac df dg
            cases fp
            obtain⟨fw,dY,dZ,co⟩:=Kd.V_get ae.out z53 ac df (by first|exact dg|exact of_decide_eq_true sA|(have e_:=(Kd.V_reads' ae.out).1;omega))
            obtain⟨eF,eG,eH,eI,rfl,bV,bW,bX,bY⟩:=qa8 dZ
            have bw:=co 5 _ rfl
            rw [qat _ _ 5 (by omega)] at bw
            replace bw:=Option.some.inj (bw.symm.trans cx)
            injection bw with hva_ hvn_ hvc_
            rw [hva_] at bW
            rw [hvc_] at bV
            have eJ:=qaa.mk (show Kd.V (Kd.int .i64) 2 _ w.heap.size _ _ ((qaj ab ac).f5) from Kd.V_mk bV bW)
            clear hva_ hvn_ hvc_ bW bV
            have bx:=co 6 _ rfl
            rw [qat _ _ 6 (by omega)] at bx
            replace bx:=Option.some.inj (bx.symm.trans cy)
            injection bx with hva_ hvn_ hvc_
            rw [hva_] at bY
            rw [hvc_] at bX
            have eK:=qaa.mk (show Kd.V (Kd.int .i64) 3 _ w.heap.size _ _ ((qaj ab ac).f6) from Kd.V_mk bX bY)
            clear hva_ hvn_ hvc_ bY bX co dY
            have eL:=qaa.mk cA
            have eM:=qaa.mk cz
            clear cA cz
            have eN:=qaa.mk cC
            have eO:=qaa.mk cB
            clear cC cB
            replace df:=eq_true df
            replace dg:=eq_true dg
            go_wp2
            repeat (go_quiet (fail);try go_wp2)
            go_meet
            case rel=>exact⟨_,(decide (((qaj ah (ck)).f4) > ((qaj ab ac).f4))),(by first|rfl|(simp;done)|(simp only [← dw]<;>(first|rfl|simp))|(simp [*];done)),H',⟨by have:=d7.out;have:=d8.out;first|omega|exact Nat.le_refl _⟩,⟨by refine sNm ?_;exact al.out⟩,⟨by refine sVm ?_;exact ae.out⟩,⟨by refine sM ?_;exact ag.out⟩,⟨by repeat (first|(with_reducible first|exact HB.out|apply qah|apply qae|apply qag|refine qad ?_ a8.out)|exact HB.out)⟩⟩
           ·rw [if_neg ef] at H
            exact absurd H (by simp)
          ·rw [if_neg ec] at H
           exact absurd H (by simp)
         ·rw [if_neg ea] at H
          exact absurd H (by simp)
        ·rw [if_neg c9] at H
         exact absurd H (by simp)
       ·rw [if_neg c7] at H
        have cW:decide (0<ai)=false:=decide_eq_false c7
        clear c7
        (first|rw [cW]|(simp only [qaC,qaE];rw [cW])|skip)
        have H':=qaa.mk H
        clear H
        go_wp2
        repeat (go_quiet (fail);try go_wp2)
        go_meet
        case rel=>exact⟨_,(false),(by first|rfl|(simp;done)|(simp [*];done)),H',⟨by have:=d7.out;have:=d8.out;first|omega|exact Nat.le_refl _⟩,⟨by refine sNm ?_;exact al.out⟩,⟨by refine sVm ?_;exact ae.out⟩,⟨by refine sM ?_;exact ag.out⟩,⟨by repeat (first|(with_reducible first|exact HB.out|apply qah|apply qae|apply qag|refine qad ?_ a8.out)|exact HB.out)⟩⟩
      case rest=>
       clear fc
       try clear c1
       try clear p1
       try clear q1
       try clear fN
       try clear p2
       try clear c3
       try clear dV
       try clear c5
       try clear p6
       try clear c7
       try clear cW
       try clear c9
       try clear fe
       try clear ea
       try clear eb
       try clear ec
       try clear ed
       try clear ef
       try clear eg
       try clear fO
       try clear fP
       try clear fQ
       try clear fM
       try clear dC dD dE
       try clear cX cY cZ
       try clear dF dG dH
       try clear da db dc
       try clear dx
       try clear dy
       try clear dz
       try clear dA
       try clear dB
       try clear cq
       try clear cr
       try clear dI
       try clear dJ
       try clear dK
       try clear dL
       try clear dM
       try clear cx
       try clear cy
       try clear dd
       try clear df
       try clear p2
       try clear de
       try clear dg
       obtain⟨kq,cp,rfl,HA,eP,al,ae,ag,HB⟩:=hcut
       cases kq with
       |zero=>exact absurd HA.out (by simp [ostinatoref05_ByPrio.j2])
       |succ dv=>
        have H:=HA.out
        clear HA
        simp only [ostinatoref05_ByPrio.j2] at H
        by_cases eQ:cp=true
        ·subst eQ
         have H1:(ostinatoref05_ByPrio.l1 dv ah ac (wrap64 (ai - 1)) au av ab)=some r:=by rw [if_pos rfl] at H;exact H
         clear H
         have H:=H1
         clear H1
         have H':=qaa.mk H
         clear H
         go_wp2
         repeat (go_quiet (fail);try go_wp2)
         go_roundg dv
         case measure=>have:=d7.out;have:=d8.out;have:=eP.out;omega
         case rel=>exact⟨(wrap64 (ai - 1)),(by first|rfl|(simp;done)|(simp [*];done)),H',⟨by have:=d7.out;have:=d8.out;have:=eP.out;omega⟩,⟨by refine sNm ?_;exact al.out⟩,⟨by refine sVm ?_;exact ae.out⟩,⟨by refine sM ?_;exact ag.out⟩,⟨by repeat (first|(with_reducible first|exact HB.out|apply qah|apply qae|apply qag|refine qad ?_ a8.out)|exact HB.out)⟩⟩
        ·replace eQ:=Bool.eq_false_iff.mpr eQ
         subst eQ
         have H1:((some (([]:List (S53)):List (S53))).bind fun bq=>(if 0≤ai then (if ai≤(ah.length:Int) then ((some (ah.take (ai:Int).toNat:List (S53))).bind fun aD=>(if bq.length+aD.length<1599289640401 then ((some (bq++aD:List (S53))).bind fun aZ=>(if 0≤ac then (if ac<(ab.length:Int) then (if aZ.length<1599289640401 then ((some (aZ++[(⟨(qaj ab ac).f0,(qaj ab ac).f1,(qaj ab ac).f2,(qaj ab ac).f3,(qaj ab ac).f4,(qaj ab ac).f5,(qaj ab ac).f6⟩:S53)]:List (S53))).bind fun aN=>((some (ah.drop (ai:Int).toNat:List (S53))).bind fun am=>(if aN.length+am.length<1599289640401 then (ostinatoref05_ByPrio.l0 dv (aN++am) (wrap64 (ac+1)) au av ab) else (none)))) else (none)) else (none)) else (none))) else (none))) else (none)) else (none)))=some r:=by rw [if_neg (show ¬ (false=true) by decide)] at H;exact H
         clear H
         have H:=H1
         clear H1
         obtain⟨bq,bZ⟩:∃ y_:List (S53),y_=(([]:List (S53))):=⟨_,rfl⟩
         replace H:(if 0≤ai then (if ai≤(ah.length:Int) then ((some (ah.take (ai:Int).toNat:List (S53))).bind fun aD=>(if bq.length+aD.length<1599289640401 then ((some (bq++aD:List (S53))).bind fun aZ=>(if 0≤ac then (if ac<(ab.length:Int) then (if aZ.length<1599289640401 then ((some (aZ++[(⟨(qaj ab ac).f0,(qaj ab ac).f1,(qaj ab ac).f2,(qaj ab ac).f3,(qaj ab ac).f4,(qaj ab ac).f5,(qaj ab ac).f6⟩:S53)]:List (S53))).bind fun aN=>((some (ah.drop (ai:Int).toNat:List (S53))).bind fun am=>(if aN.length+am.length<1599289640401 then (ostinatoref05_ByPrio.l0 dv (aN++am) (wrap64 (ac+1)) au av ab) else (none)))) else (none)) else (none)) else (none))) else (none))) else (none)) else (none))=some r:=by first|(rw [bZ];with_reducible exact H)|(have bB:=(Option.bind_some _ _).symm.trans H;rw [bZ];with_reducible exact bB)|(have bB:=(Option.bind_some _ _).symm.trans H;with_reducible exact bB)|with_reducible exact H|(rw [bZ];exact H)|exact H
         have bO:=qaa.mk bZ
         clear bZ
         by_cases eh:0≤ai
         ·rw [if_pos eh] at H
          have fx:=eq_true eh
          have fy:decide (0≤ai)=true:=decide_eq_true eh
          clear eh
          by_cases ek:ai≤(ah.length:Int)
          ·rw [if_pos ek] at H
           have fz:=eq_true ek
           have fA:decide (ai≤(ah.length:Int))=true:=decide_eq_true ek
           clear ek
           obtain⟨aD,b8⟩:∃ y_:List (S53),y_=(ah.take (ai:Int).toNat):=⟨_,rfl⟩
           replace H:(if bq.length+aD.length<1599289640401 then ((some (bq++aD:List (S53))).bind fun aZ=>(if 0≤ac then (if ac<(ab.length:Int) then (if aZ.length<1599289640401 then ((some (aZ++[(⟨(qaj ab ac).f0,(qaj ab ac).f1,(qaj ab ac).f2,(qaj ab ac).f3,(qaj ab ac).f4,(qaj ab ac).f5,(qaj ab ac).f6⟩:S53)]:List (S53))).bind fun aN=>((some (ah.drop (ai:Int).toNat:List (S53))).bind fun am=>(if aN.length+am.length<1599289640401 then (ostinatoref05_ByPrio.l0 dv (aN++am) (wrap64 (ac+1)) au av ab) else (none)))) else (none)) else (none)) else (none))) else (none))=some r:=by first|(rw [b8];with_reducible exact H)|(have bB:=(Option.bind_some _ _).symm.trans H;rw [b8];with_reducible exact bB)|(have bB:=(Option.bind_some _ _).symm.trans H;with_reducible exact bB)|with_reducible exact H|(rw [b8];exact H)|exact H
           have bP:=qaa.mk b8
           clear b8
           by_cases eR:bq.length+aD.length<1599289640401
           ·rw [if_pos eR] at H
            have dh:=qaa.mk eR
            clear eR
            obtain⟨aZ,b9⟩:∃ y_:List (S53),y_=(bq++aD):=⟨_,rfl⟩
            replace H:(if 0≤ac then (if ac<(ab.length:Int) then (if aZ.length<1599289640401 then ((some (aZ++[(⟨(qaj ab ac).f0,(qaj ab ac).f1,(qaj ab ac).f2,(qaj ab ac).f3,(qaj ab ac).f4,(qaj ab ac).f5,(qaj ab ac).f6⟩:S53)]:List (S53))).bind fun aN=>((some (ah.drop (ai:Int).toNat:List (S53))).bind fun am=>(if aN.length+am.length<1599289640401 then (ostinatoref05_ByPrio.l0 dv (aN++am) (wrap64 (ac+1)) au av ab) else (none)))) else (none)) else (none)) else (none))=some r:=by first|(rw [b9];with_reducible exact H)|(have bB:=(Option.bind_some _ _).symm.trans H;rw [b9];with_reducible exact bB)|(have bB:=(Option.bind_some _ _).symm.trans H;with_reducible exact bB)|with_reducible exact H|(rw [b9];exact H)|exact H
            have di:=qaa.mk b9
            clear b9
            by_cases eS:0≤ac
            ·rw [if_pos eS] at H
             have fB:decide (0≤ac)=true:=decide_eq_true eS
             clear eS
             by_cases eT:ac<(ab.length:Int)
             ·rw [if_pos eT] at H
              have fC:decide (ac<(ab.length:Int))=true:=decide_eq_true eT
              clear eT
              by_cases eU:aZ.length<1599289640401
              ·rw [if_pos eU] at H
               have dj:=qaa.mk eU
               clear eU
               obtain⟨aN,ca⟩:∃ y_:List (S53),y_=(aZ++[(⟨(qaj ab ac).f0,(qaj ab ac).f1,(qaj ab ac).f2,(qaj ab ac).f3,(qaj ab ac).f4,(qaj ab ac).f5,(qaj ab ac).f6⟩:S53)]):=⟨_,rfl⟩
               replace H:((some (ah.drop (ai:Int).toNat:List (S53))).bind fun am=>(if aN.length+am.length<1599289640401 then (ostinatoref05_ByPrio.l0 dv (aN++am) (wrap64 (ac+1)) au av ab) else (none)))=some r:=by first|(rw [ca];with_reducible exact H)|(have bB:=(Option.bind_some _ _).symm.trans H;rw [ca];with_reducible exact bB)|(have bB:=(Option.bind_some _ _).symm.trans H;with_reducible exact bB)|with_reducible exact H|(rw [ca];exact H)|exact H
               have dk:=qaa.mk ca
               clear ca
               have fD:=eq_true (of_decide_eq_true sA:0≤ai)
               have fE:=eq_true (of_decide_eq_true sA:ai≤(ah.length:Int))
               obtain⟨am,cb⟩:∃ y_:List (S53),y_=(ah.drop (ai:Int).toNat):=⟨_,rfl⟩
               replace H:(if aN.length+am.length<1599289640401 then (ostinatoref05_ByPrio.l0 dv (aN++am) (wrap64 (ac+1)) au av ab) else (none))=some r:=by first|(rw [cb];with_reducible exact H)|(have bB:=(Option.bind_some _ _).symm.trans H;rw [cb];with_reducible exact bB)|(have bB:=(Option.bind_some _ _).symm.trans H;with_reducible exact bB)|with_reducible exact H|(rw [cb];exact H)|exact H
               have bQ:=qaa.mk cb
               clear cb
               by_cases eV:aN.length+am.length<1599289640401
               ·rw [if_pos eV] at H
                have dl:=qaa.mk eV
                clear eV
                obtain⟨el,ce⟩:∃ y_:List (S53),y_=(aN++am):=⟨_,rfl⟩
                replace H:(ostinatoref05_ByPrio.l0 dv el (wrap64 (ac+1)) au av ab)=some r:=by first|(rw [ce];with_reducible exact H)|(have bB:=(Option.bind_some _ _).symm.trans H;rw [ce];with_reducible exact bB)|(have bB:=(Option.bind_some _ _).symm.trans H;with_reducible exact bB)|with_reducible exact H|(rw [ce];exact H)|exact H
                have dm:=qaa.mk ce
                clear ce
                have H':=qaa.mk H
                clear H
                go_wp2_with (first|((with_reducible refine qap (N:=35) rfl ?_);refine Kd.N_lit k53 _ 53 ?hg (N':=35) ?hd (xs:=([]:List (S53))) (inner:=[]) (ok:=(fun k_=>(af k_∨w.heap.size≤k_)∧some k_≠(.slice aC ah.length aw:Value).ownBlock∧k_≠aa)) (okp:=(fun k_=>(af k_∨w.heap.size≤k_)∧some k_≠(.slice aC ah.length aw:Value).ownBlock∧k_≠aa)) ?hr ?hp (fun _ hk=>hk) ((show ∀ k_,wc.heap.size≤k_→(fun k_=>(af k_∨w.heap.size≤k_)∧some k_≠(.slice aC ah.length aw:Value).ownBlock∧k_≠aa) k_ from fun k_ hk=>⟨(.inr (Nat.le_trans (qac sB) hk)),Kd.fresh' (Kd.N_lt (sN al.out)) k_ hk,Kd.freshB (g:=aa) (o:=.cells #[.int .i64 au,.int .i64 av,.slice A0_2 ab.length c0_2] 33 (0,0)) (sK ag.out) k_ hk⟩) _ (Nat.le_refl _)) (Below.refl _ _) (Nat.le_refl _) (by simp) ?_;(case hd=>rfl);(case hg=>rfl);(case hr=>first|(go_simp;done)|(go_simp;rfl));(case hp=>exact (Reps.none _ _));intro bC fF aE hb hg_ hnew_;clear hg_ hnew_;(first|rw [← bO.out] at aE|(simp only [Int.reduceToNat] at aE;rw [← bO.out] at aE));replace al:=qaa.mk (Kd.N_elder' (sN al.out) (Kd.N_base aE) hb);replace ae:=qaa.mk (Kd.V_elder' (sV ae.out) (Kd.N_base aE) hb);have aT:=qaa.mk (Kd.N_lower aE (qac sB));replace ag:=qaa.mk (sKb ag.out hb);replace HB:=qaa.mk (qai sB hb);clear hb aE;have dn:(ai:Int)≤((ah.length:Int):Int):=of_decide_eq_true sA;obtain⟨en,bj,_,cf,_⟩:=info_parts info53;have aH:ah.length≤aw:=(Kd.N_reads' al.out).2.1;have cg:Kd.F k53 _ _ aC ah.length ah:=(Kd.V_at (base:=w.heap.size) (Kd.N_V al.out)).2.2;have bD:=cut_to (P:=Tryd.prog) 31 53 .i64 Tryd.underlying31 bj aC ah.length aw ai (of_decide_eq_true sA) dn aH;have bE:=Kd.F_take (m:=(ai:Int).toNat) cg (by omega);have bF:aD.length=(ai:Int).toNat:=(by rw [bP.out,List.length_take];omega);rw [← bP.out] at bE;rw [← bF] at bD;have ar:=qaa.mk (show Kd.V k53 53 _ w.heap.size _ (.slice aC aD.length aw) aD from Kd.V_mk (by omega) bE);have dO:=qaa.mk (show aD.length≤aw from by omega);clear bE cg aH bj cf;have ep:=qaa.mk bF;clear bF;replace dn:=eq_true dn)|((with_reducible refine qaB (b:=.append) (xs:=#[.tmp 35,.tmp 38]) rfl ?_);at_builtin;refine Kd.N_append_rows k53 (w0:=w) w.heap.size rfl (.tmp 35) (.tmp 38) 31 53 (.agg #[(.int .i64 0),(.int .i64 0),(.int .i64 0),(.int .i64 0),(.int .i64 0),(.slice none 0 0),(.slice none 0 0)]) 88 rfl Tryd.underlying31 info53 rfl (by decide) (by omega) bC bq aD _ _ _ (fun k_=>(af k_∨w.heap.size≤k_)∧k_≠aa) (fun k_=>((fun k_=>(af k_∨w.heap.size≤k_)∧k_≠aa)) k_∧some k_≠(bC:Value).ownBlock) rfl rfl ?aO ?aR (fun _ hk=>hk) ?aF ?aB ?aS ?aL ?_;(case aR=>exact (by skip;exact Kd.V_F (Kd.V_mono (ok':=(fun k_=>((fun k_=>(af k_∨w.heap.size≤k_)∧k_≠aa)) k_∧some k_≠(bC:Value).ownBlock)) (ar.out) (fun k_ hk=>⟨⟨hk.1.1,hk.1.2⟩,hk.2⟩))));(case aB=>exact sB);(case aF=>exact (fun k_ hk=>⟨(.inr (Nat.le_trans (qac sB) hk)),Kd.freshB (g:=aa) (o:=.cells #[.int .i64 au,.int .i64 av,.slice A0_2 ab.length c0_2] 33 (0,0)) (sK ag.out) k_ hk⟩));(case aO=>exact (by refine sNm ?_;exact Kd.N_mono aT.out (fun _ hk=>⟨hk.1,hk.2.2⟩)));(case aS=>exact (qac sB));(case aL=>have:=dh.out;omega);intro aQ eq ho hb hg hat;rw [← di.out] at ho;replace al:=qaa.mk (Kd.N_afterv (ok:=(fun k_=>(af k_∨w.heap.size≤k_)∧k_≠aa)) (sN al.out) hg hat);replace ae:=qaa.mk (Kd.V_afterv (ok:=(fun k_=>(af k_∨w.heap.size≤k_)∧some k_≠(.slice aC ah.length aw:Value).ownBlock∧k_≠aa)) (sV ae.out) hg hat);replace ag:=qaa.mk (sKg ag.out hg (Kd.N_ne aT.out ag.out (by decide)));replace ar:=qaa.mk (Kd.V_afterv (ok:=(fun k_=>(af k_∨w.heap.size≤k_)∧k_≠aa)) (sV ar.out) hg hat);replace HB:=qaa.mk (hb);have aU:=qaa.mk (ho);clear aT ho hb hg hat;obtain⟨cD,cE,cF⟩:=sC3 (w:=eq) ag.out;obtain⟨cG,cH,cI⟩:=sF3 ag.out;have ba:0≤(ac:Int):=of_decide_eq_true sA;have be:ac<(ab.length:Int):=of_decide_eq_true sA;obtain⟨bm,bG,bH,bI,bJ,dp,cJ,cK,cL,cM,cN,bf,bg,aI,aJ,aK,aM⟩:=at_T53 (Kd.V_reads' ae.out).2.2 ac ba be;cases dp;obtain⟨dP,bK,bL,aG⟩:=Kd.V_get ae.out z53 ac ba (by first|exact be|exact of_decide_eq_true sA|(have e_:=(Kd.V_reads' ae.out).1;omega));obtain⟨cO,cP,cQ,cR,rfl,ax,ay,az,aA⟩:=qa8 bL;have an:=aG 5 _ rfl;rw [qat _ _ 5 (by omega)] at an;replace an:=Option.some.inj (an.symm.trans bf);injection an with hva_ hvn_ hvc_;rw [hva_] at ay;rw [hvc_] at ax;have aj:=qaa.mk (show Kd.V (Kd.int .i64) 2 _ w.heap.size _ _ ((qaj ab ac).f5) from Kd.V_mk ax ay);clear hva_ hvn_ hvc_ ay ax;have ap:=aG 6 _ rfl;rw [qat _ _ 6 (by omega)] at ap;replace ap:=Option.some.inj (ap.symm.trans bg);injection ap with hva_ hvn_ hvc_;rw [hva_] at aA;rw [hvc_] at az;have ak:=qaa.mk (show Kd.V (Kd.int .i64) 3 _ w.heap.size _ _ ((qaj ab ac).f6) from Kd.V_mk az aA);clear hva_ hvn_ hvc_ aA az aG bK;have cS:=qaa.mk aJ;have cT:=qaa.mk aI;clear aJ aI;have cU:=qaa.mk aM;have cV:=qaa.mk aK;clear aM aK;replace ba:=eq_true ba;replace be:=eq_true be)|((with_reducible refine qaB (b:=.append) (xs:=#[.tmp 40,.tmp 46]) rfl ?_);at_builtin;refine Kd.N_append k53 (w0:=w) w.heap.size rfl (.tmp 40) (.tmp 46) 31 53 (.agg #[(.int .i64 0),(.int .i64 0),(.int .i64 0),(.int .i64 0),(.int .i64 0),(.slice none 0 0),(.slice none 0 0)]) 88 rfl Tryd.underlying31 info53 rfl (by decide) (by omega) aQ aZ (⟨(qaj ab ac).f0,(qaj ab ac).f1,(qaj ab ac).f2,(qaj ab ac).f3,(qaj ab ac).f4,(qaj ab ac).f5,(qaj ab ac).f6⟩:S53) [.int .i64 ((qaj ab ac).f0),.int .i64 ((qaj ab ac).f1),.int .i64 ((qaj ab ac).f2),.int .i64 ((qaj ab ac).f3),.int .i64 ((qaj ab ac).f4),.slice bG ((qaj ab ac).f5).length bH,.slice bI ((qaj ab ac).f6).length bJ] (fun k_=>(af k_∨w.heap.size≤k_)∧k_≠aa) (fun k_=>((fun k_=>(af k_∨w.heap.size≤k_)∧k_≠aa)) k_∧some k_≠(aQ:Value).ownBlock) rfl rfl ?aP (fun _ hk=>hk) ?aF ?aO ?aB ?aS ?aL ?_;(case aP=>exact (k53_mkF _ _ (⟨(qaj ab ac).f0,(qaj ab ac).f1,(qaj ab ac).f2,(qaj ab ac).f3,(qaj ab ac).f4,(qaj ab ac).f5,(qaj ab ac).f6⟩:S53) (Kd.V_reads' (Kd.V_mono (ok':=(fun k_=>((fun k_=>(af k_∨w.heap.size≤k_)∧k_≠aa)) k_∧some k_≠(aQ:Value).ownBlock)) (aj.out) (fun k_ hk=>⟨⟨hk.1.1,hk.1.2.2⟩,hk.2⟩))).2.1 (Kd.V_F (Kd.V_mono (ok':=(fun k_=>((fun k_=>(af k_∨w.heap.size≤k_)∧k_≠aa)) k_∧some k_≠(aQ:Value).ownBlock)) (aj.out) (fun k_ hk=>⟨⟨hk.1.1,hk.1.2.2⟩,hk.2⟩))) (Kd.V_reads' (Kd.V_mono (ok':=(fun k_=>((fun k_=>(af k_∨w.heap.size≤k_)∧k_≠aa)) k_∧some k_≠(aQ:Value).ownBlock)) (ak.out) (fun k_ hk=>⟨⟨hk.1.1,hk.1.2.2⟩,hk.2⟩))).2.1 (Kd.V_F (Kd.V_mono (ok':=(fun k_=>((fun k_=>(af k_∨w.heap.size≤k_)∧k_≠aa)) k_∧some k_≠(aQ:Value).ownBlock)) (ak.out) (fun k_ hk=>⟨⟨hk.1.1,hk.1.2.2⟩,hk.2⟩)))));(case aB=>exact sB);(case aF=>exact (fun k_ hk=>⟨(.inr (Nat.le_trans (qac sB) hk)),Kd.freshB (g:=aa) (o:=.cells #[.int .i64 au,.int .i64 av,.slice (some bm) ab.length c0_2] 33 (0,0)) (sK ag.out) k_ hk⟩));(case aO=>exact (sN aU.out));(case aS=>exact (qac sB));(case aL=>have:=dj.out;omega);intro bM fG ho hb hg hat;rw [← dk.out] at ho;replace al:=qaa.mk (Kd.N_afterv (ok:=(fun k_=>(af k_∨w.heap.size≤k_)∧k_≠aa)) (sN al.out) hg hat);replace ae:=qaa.mk (Kd.V_afterv (ok:=(fun k_=>(af k_∨w.heap.size≤k_)∧some k_≠(.slice aC ah.length aw:Value).ownBlock∧k_≠aa)) (sV ae.out) hg hat);replace ag:=qaa.mk (sKg ag.out hg (Kd.N_ne aU.out ag.out (by decide)));replace ar:=qaa.mk (Kd.V_afterv (ok:=(fun k_=>(af k_∨w.heap.size≤k_)∧k_≠aa)) (sV ar.out) hg hat);replace aj:=qaa.mk (Kd.V_afterv (ok:=(fun k_=>(af k_∨w.heap.size≤k_)∧some k_≠(.slice aC ah.length aw:Value).ownBlock∧k_≠aa)) (sV aj.out) hg hat);replace ak:=qaa.mk (Kd.V_afterv (ok:=(fun k_=>(af k_∨w.heap.size≤k_)∧some k_≠(.slice aC ah.length aw:Value).ownBlock∧k_≠aa)) (sV ak.out) hg hat);replace HB:=qaa.mk (hb);have aV:=qaa.mk (ho);clear aU ho hb hg hat;have dq:(ai:Int)≤((ah.length:Int):Int):=of_decide_eq_true sA;obtain⟨er,bn,_,bp,_⟩:=info_parts info53;have aq:ah.length≤aw:=(Kd.N_reads' al.out).2.1;have cj:Kd.F k53 _ _ aC ah.length ah:=(Kd.V_at (base:=w.heap.size) (Kd.N_V al.out)).2.2;have dr:(0:Int)≤(ai:Int):=of_decide_eq_true sA;have bN:=cut_from (P:=Tryd.prog) 31 53 .i64 Tryd.underlying31 bn 7 bp aC ah.length aw ai dr dq;have aW:=Kd.F_cut (m:=(ai:Int).toNat) (c:=aw) cj (by omega) aq;obtain⟨dQ,bh⟩:∃ A1,A1=(if aw=(ai:Int).toNat then aC else (aC:Option Addr).map (·.add ((ai:Int).toNat * 7))):=⟨_,rfl⟩;obtain⟨dT,bi⟩:∃ c1,c1=aw - (ai:Int).toNat:=⟨_,rfl⟩;have aX:am.length=ah.length - (ai:Int).toNat:=(by rw [bQ.out,List.length_drop]<;>omega);rw [show (ah).drop (ai:Int).toNat=am from bQ.out.symm] at aW;replace aW:Kd.F k53 _ _ dQ am.length am:=(by rw [bh];exact aW);rw [← aX,← bh,← bi] at bN;have aY:=qaa.mk (show Kd.V k53 53 _ w.heap.size _ (.slice dQ am.length dT) am from Kd.V_mk (by rw [aX,bi];exact Nat.sub_le_sub_right aq _) aW);have dU:=qaa.mk (show am.length≤dT from by rw [aX,bi];exact Nat.sub_le_sub_right aq _);clear aW cj aq bn bp bi;have es:=qaa.mk aX;have et:=qaa.mk bh;clear aX bh;replace dq:=eq_true dq)|((with_reducible refine qaB (b:=.append) (xs:=#[.tmp 48,.tmp 51]) rfl ?_);at_builtin;refine Kd.N_append_rows k53 (w0:=w) w.heap.size rfl (.tmp 48) (.tmp 51) 31 53 (.agg #[(.int .i64 0),(.int .i64 0),(.int .i64 0),(.int .i64 0),(.int .i64 0),(.slice none 0 0),(.slice none 0 0)]) 88 rfl Tryd.underlying31 info53 rfl (by decide) (by omega) bM aN am _ _ _ (fun k_=>(af k_∨w.heap.size≤k_)∧k_≠aa) (fun k_=>((fun k_=>(af k_∨w.heap.size≤k_)∧k_≠aa)) k_∧some k_≠(bM:Value).ownBlock) rfl rfl ?aO ?aR (fun _ hk=>hk) ?aF ?aB ?aS ?aL ?_;(case aR=>exact (by skip;exact Kd.V_F (Kd.V_mono (ok':=(fun k_=>((fun k_=>(af k_∨w.heap.size≤k_)∧k_≠aa)) k_∧some k_≠(bM:Value).ownBlock)) (aY.out) (fun k_ hk=>⟨⟨hk.1.1,hk.1.2⟩,hk.2⟩))));(case aB=>exact sB);(case aF=>exact (fun k_ hk=>⟨(.inr (Nat.le_trans (qac sB) hk)),Kd.freshB (g:=aa) (o:=.cells #[.int .i64 au,.int .i64 av,.slice (some bm) ab.length c0_2] 33 (0,0)) (sK ag.out) k_ hk⟩));(case aO=>exact (sN aV.out));(case aS=>exact (qac sB));(case aL=>have:=dl.out;omega);intro eu fH ho hb hg hat;rw [← dm.out] at ho;replace al:=qaa.mk (Kd.N_afterv (ok:=(fun k_=>(af k_∨w.heap.size≤k_)∧k_≠aa)) (sN al.out) hg hat);replace ae:=qaa.mk (Kd.V_afterv (ok:=(fun k_=>(af k_∨w.heap.size≤k_)∧some k_≠(.slice aC ah.length aw:Value).ownBlock∧k_≠aa)) (sV ae.out) hg hat);replace ag:=qaa.mk (sKg ag.out hg (Kd.N_ne aV.out ag.out (by decide)));replace ar:=qaa.mk (Kd.V_afterv (ok:=(fun k_=>(af k_∨w.heap.size≤k_)∧k_≠aa)) (sV ar.out) hg hat);replace aj:=qaa.mk (Kd.V_afterv (ok:=(fun k_=>(af k_∨w.heap.size≤k_)∧some k_≠(.slice aC ah.length aw:Value).ownBlock∧k_≠aa)) (sV aj.out) hg hat);replace ak:=qaa.mk (Kd.V_afterv (ok:=(fun k_=>(af k_∨w.heap.size≤k_)∧some k_≠(.slice aC ah.length aw:Value).ownBlock∧k_≠aa)) (sV ak.out) hg hat);replace aY:=qaa.mk (Kd.V_afterv (ok:=(fun k_=>(af k_∨w.heap.size≤k_)∧k_≠aa)) (sV aY.out) hg hat);replace HB:=qaa.mk (hb);have du:=qaa.mk (ho);clear aV ho hb hg hat))
                repeat (go_quiet (first|((with_reducible refine qap (N:=35) rfl ?_);refine Kd.N_lit k53 _ 53 ?hg (N':=35) ?hd (xs:=([]:List (S53))) (inner:=[]) (ok:=(fun k_=>(af k_∨w.heap.size≤k_)∧some k_≠(.slice aC ah.length aw:Value).ownBlock∧k_≠aa)) (okp:=(fun k_=>(af k_∨w.heap.size≤k_)∧some k_≠(.slice aC ah.length aw:Value).ownBlock∧k_≠aa)) ?hr ?hp (fun _ hk=>hk) ((show ∀ k_,wc.heap.size≤k_→(fun k_=>(af k_∨w.heap.size≤k_)∧some k_≠(.slice aC ah.length aw:Value).ownBlock∧k_≠aa) k_ from fun k_ hk=>⟨(.inr (Nat.le_trans (qac sB) hk)),Kd.fresh' (Kd.N_lt (sN al.out)) k_ hk,Kd.freshB (g:=aa) (o:=.cells #[.int .i64 au,.int .i64 av,.slice A0_2 ab.length c0_2] 33 (0,0)) (sK ag.out) k_ hk⟩) _ (Nat.le_refl _)) (Below.refl _ _) (Nat.le_refl _) (by simp) ?_;(case hd=>rfl);(case hg=>rfl);(case hr=>first|(go_simp;done)|(go_simp;rfl));(case hp=>exact (Reps.none _ _));intro bC fF aE hb hg_ hnew_;clear hg_ hnew_;(first|rw [← bO.out] at aE|(simp only [Int.reduceToNat] at aE;rw [← bO.out] at aE));replace al:=qaa.mk (Kd.N_elder' (sN al.out) (Kd.N_base aE) hb);replace ae:=qaa.mk (Kd.V_elder' (sV ae.out) (Kd.N_base aE) hb);have aT:=qaa.mk (Kd.N_lower aE (qac sB));replace ag:=qaa.mk (sKb ag.out hb);replace HB:=qaa.mk (qai sB hb);clear hb aE;have dn:(ai:Int)≤((ah.length:Int):Int):=of_decide_eq_true sA;obtain⟨en,bj,_,cf,_⟩:=info_parts info53;have aH:ah.length≤aw:=(Kd.N_reads' al.out).2.1;have cg:Kd.F k53 _ _ aC ah.length ah:=(Kd.V_at (base:=w.heap.size) (Kd.N_V al.out)).2.2;have bD:=cut_to (P:=Tryd.prog) 31 53 .i64 Tryd.underlying31 bj aC ah.length aw ai (of_decide_eq_true sA) dn aH;have bE:=Kd.F_take (m:=(ai:Int).toNat) cg (by omega);have bF:aD.length=(ai:Int).toNat:=(by rw [bP.out,List.length_take];omega);rw [← bP.out] at bE;rw [← bF] at bD;have ar:=qaa.mk (show Kd.V k53 53 _ w.heap.size _ (.slice aC aD.length aw) aD from Kd.V_mk (by omega) bE);have dO:=qaa.mk (show aD.length≤aw from by omega);clear bE cg aH bj cf;have ep:=qaa.mk bF;clear bF;replace dn:=eq_true dn)|((with_reducible refine qaB (b:=.append) (xs:=#[.tmp 35,.tmp 38]) rfl ?_);at_builtin;refine Kd.N_append_rows k53 (w0:=w) w.heap.size rfl (.tmp 35) (.tmp 38) 31 53 (.agg #[(.int .i64 0),(.int .i64 0),(.int .i64 0),(.int .i64 0),(.int .i64 0),(.slice none 0 0),(.slice none 0 0)]) 88 rfl Tryd.underlying31 info53 rfl (by decide) (by omega) bC bq aD _ _ _ (fun k_=>(af k_∨w.heap.size≤k_)∧k_≠aa) (fun k_=>((fun k_=>(af k_∨w.heap.size≤k_)∧k_≠aa)) k_∧some k_≠(bC:Value).ownBlock) rfl rfl ?aO ?aR (fun _ hk=>hk) ?aF ?aB ?aS ?aL ?_;(case aR=>exact (by skip;exact Kd.V_F (Kd.V_mono (ok':=(fun k_=>((fun k_=>(af k_∨w.heap.size≤k_)∧k_≠aa)) k_∧some k_≠(bC:Value).ownBlock)) (ar.out) (fun k_ hk=>⟨⟨hk.1.1,hk.1.2⟩,hk.2⟩))));(case aB=>exact sB);(case aF=>exact (fun k_ hk=>⟨(.inr (Nat.le_trans (qac sB) hk)),Kd.freshB (g:=aa) (o:=.cells #[.int .i64 au,.int .i64 av,.slice A0_2 ab.length c0_2] 33 (0,0)) (sK ag.out) k_ hk⟩));(case aO=>exact (by refine sNm ?_;exact Kd.N_mono aT.out (fun _ hk=>⟨hk.1,hk.2.2⟩)));(case aS=>exact (qac sB));(case aL=>have:=dh.out;omega);intro aQ eq ho hb hg hat;rw [← di.out] at ho;replace al:=qaa.mk (Kd.N_afterv (ok:=(fun k_=>(af k_∨w.heap.size≤k_)∧k_≠aa)) (sN al.out) hg hat);replace ae:=qaa.mk (Kd.V_afterv (ok:=(fun k_=>(af k_∨w.heap.size≤k_)∧some k_≠(.slice aC ah.length aw:Value).ownBlock∧k_≠aa)) (sV ae.out) hg hat);replace ag:=qaa.mk (sKg ag.out hg (Kd.N_ne aT.out ag.out (by decide)));replace ar:=qaa.mk (Kd.V_afterv (ok:=(fun k_=>(af k_∨w.heap.size≤k_)∧k_≠aa)) (sV ar.out) hg hat);replace HB:=qaa.mk (hb);have aU:=qaa.mk (ho);clear aT ho hb hg hat;obtain⟨cD,cE,cF⟩:=sC3 (w:=eq) ag.out;obtain⟨cG,cH,cI⟩:=sF3 ag.out;have ba:0≤(ac:Int):=of_decide_eq_true sA;have be:ac<(ab.length:Int):=of_decide_eq_true sA;obtain⟨bm,bG,bH,bI,bJ,dp,cJ,cK,cL,cM,cN,bf,bg,aI,aJ,aK,aM⟩:=at_T53 (Kd.V_reads' ae.out).2.2 ac ba be;cases dp;obtain⟨dP,bK,bL,aG⟩:=Kd.V_get ae.out z53 ac ba (by first|exact be|exact of_decide_eq_true sA|(have e_:=(Kd.V_reads' ae.out).1;omega));obtain⟨cO,cP,cQ,cR,rfl,ax,ay,az,aA⟩:=qa8 bL;have an:=aG 5 _ rfl;rw [qat _ _ 5 (by omega)] at an;replace an:=Option.some.inj (an.symm.trans bf);injection an with hva_ hvn_ hvc_;rw [hva_] at ay;rw [hvc_] at ax;have aj:=qaa.mk (show Kd.V (Kd.int .i64) 2 _ w.heap.size _ _ ((qaj ab ac).f5) from Kd.V_mk ax ay);clear hva_ hvn_ hvc_ ay ax;have ap:=aG 6 _ rfl;rw [qat _ _ 6 (by omega)] at ap;replace ap:=Option.some.inj (ap.symm.trans bg);injection ap with hva_ hvn_ hvc_;rw [hva_] at aA;rw [hvc_] at az;have ak:=qaa.mk (show Kd.V (Kd.int .i64) 3 _ w.heap.size _ _ ((qaj ab ac).f6) from Kd.V_mk az aA);clear hva_ hvn_ hvc_ aA az aG bK;have cS:=qaa.mk aJ;have cT:=qaa.mk aI;clear aJ aI;have cU:=qaa.mk aM;have cV:=qaa.mk aK;clear aM aK;replace ba:=eq_true ba;replace be:=eq_true be)|((with_reducible refine qaB (b:=.append) (xs:=#[.tmp 40,.tmp 46]) rfl ?_);at_builtin;refine Kd.N_append k53 (w0:=w) w.heap.size rfl (.tmp 40) (.tmp 46) 31 53 (.agg #[(.int .i64 0),(.int .i64 0),(.int .i64 0),(.int .i64 0),(.int .i64 0),(.slice none 0 0),(.slice none 0 0)]) 88 rfl Tryd.underlying31 info53 rfl (by decide) (by omega) aQ aZ (⟨(qaj ab ac).f0,(qaj ab ac).f1,(qaj ab ac).f2,(qaj ab ac).f3,(qaj ab ac).f4,(qaj ab ac).f5,(qaj ab ac).f6⟩:S53) [.int .i64 ((qaj ab ac).f0),.int .i64 ((qaj ab ac).f1),.int .i64 ((qaj ab ac).f2),.int .i64 ((qaj ab ac).f3),.int .i64 ((qaj ab ac).f4),.slice bG ((qaj ab ac).f5).length bH,.slice bI ((qaj ab ac).f6).length bJ] (fun k_=>(af k_∨w.heap.size≤k_)∧k_≠aa) (fun k_=>((fun k_=>(af k_∨w.heap.size≤k_)∧k_≠aa)) k_∧some k_≠(aQ:Value).ownBlock) rfl rfl ?aP (fun _ hk=>hk) ?aF ?aO ?aB ?aS ?aL ?_;(case aP=>exact (k53_mkF _ _ (⟨(qaj ab ac).f0,(qaj ab ac).f1,(qaj ab ac).f2,(qaj ab ac).f3,(qaj ab ac).f4,(qaj ab ac).f5,(qaj ab ac).f6⟩:S53) (Kd.V_reads' (Kd.V_mono (ok':=(fun k_=>((fun k_=>(af k_∨w.heap.size≤k_)∧k_≠aa)) k_∧some k_≠(aQ:Value).ownBlock)) (aj.out) (fun k_ hk=>⟨⟨hk.1.1,hk.1.2.2⟩,hk.2⟩))).2.1 (Kd.V_F (Kd.V_mono (ok':=(fun k_=>((fun k_=>(af k_∨w.heap.size≤k_)∧k_≠aa)) k_∧some k_≠(aQ:Value).ownBlock)) (aj.out) (fun k_ hk=>⟨⟨hk.1.1,hk.1.2.2⟩,hk.2⟩))) (Kd.V_reads' (Kd.V_mono (ok':=(fun k_=>((fun k_=>(af k_∨w.heap.size≤k_)∧k_≠aa)) k_∧some k_≠(aQ:Value).ownBlock)) (ak.out) (fun k_ hk=>⟨⟨hk.1.1,hk.1.2.2⟩,hk.2⟩))).2.1 (Kd.V_F (Kd.V_mono (ok':=(fun k_=>((fun k_=>(af k_∨w.heap.size≤k_)∧k_≠aa)) k_∧some k_≠(aQ:Value).ownBlock)) (ak.out) (fun k_ hk=>⟨⟨hk.1.1,hk.1.2.2⟩,hk.2⟩)))));(case aB=>exact sB);(case aF=>exact (fun k_ hk=>⟨(.inr (Nat.le_trans (qac sB) hk)),Kd.freshB (g:=aa) (o:=.cells #[.int .i64 au,.int .i64 av,.slice (some bm) ab.length c0_2] 33 (0,0)) (sK ag.out) k_ hk⟩));(case aO=>exact (sN aU.out));(case aS=>exact (qac sB));(case aL=>have:=dj.out;omega);intro bM fG ho hb hg hat;rw [← dk.out] at ho;replace al:=qaa.mk (Kd.N_afterv (ok:=(fun k_=>(af k_∨w.heap.size≤k_)∧k_≠aa)) (sN al.out) hg hat);replace ae:=qaa.mk (Kd.V_afterv (ok:=(fun k_=>(af k_∨w.heap.size≤k_)∧some k_≠(.slice aC ah.length aw:Value).ownBlock∧k_≠aa)) (sV ae.out) hg hat);replace ag:=qaa.mk (sKg ag.out hg (Kd.N_ne aU.out ag.out (by decide)));replace ar:=qaa.mk (Kd.V_afterv (ok:=(fun k_=>(af k_∨w.heap.size≤k_)∧k_≠aa)) (sV ar.out) hg hat);replace aj:=qaa.mk (Kd.V_afterv (ok:=(fun k_=>(af k_∨w.heap.size≤k_)∧some k_≠(.slice aC ah.length aw:Value).ownBlock∧k_≠aa)) (sV aj.out) hg hat);replace ak:=qaa.mk (Kd.V_afterv (ok:=(fun k_=>(af k_∨w.heap.size≤k_)∧some k_≠(.slice aC ah.length aw:Value).ownBlock∧k_≠aa)) (sV ak.out) hg hat);replace HB:=qaa.mk (hb);have aV:=qaa.mk (ho);clear aU ho hb hg hat;have dq:(ai:Int)≤((ah.length:Int):Int):=of_decide_eq_true sA;obtain⟨er,bn,_,bp,_⟩:=info_parts info53;have aq:ah.length≤aw:=(Kd.N_reads' al.out).2.1;have cj:Kd.F k53 _ _ aC ah.length ah:=(Kd.V_at (base:=w.heap.size) (Kd.N_V al.out)).2.2;have dr:(0:Int)≤(ai:Int):=of_decide_eq_true sA;have bN:=cut_from (P:=Tryd.prog) 31 53 .i64 Tryd.underlying31 bn 7 bp aC ah.length aw ai dr dq;have aW:=Kd.F_cut (m:=(ai:Int).toNat) (c:=aw) cj (by omega) aq;obtain⟨dQ,bh⟩:∃ A1,A1=(if aw=(ai:Int).toNat then aC else (aC:Option Addr).map (·.add ((ai:Int).toNat * 7))):=⟨_,rfl⟩;obtain⟨dT,bi⟩:∃ c1,c1=aw - (ai:Int).toNat:=⟨_,rfl⟩;have aX:am.length=ah.length - (ai:Int).toNat:=(by rw [bQ.out,List.length_drop]<;>omega);rw [show (ah).drop (ai:Int).toNat=am from bQ.out.symm] at aW;replace aW:Kd.F k53 _ _ dQ am.length am:=(by rw [bh];exact aW);rw [← aX,← bh,← bi] at bN;have aY:=qaa.mk (show Kd.V k53 53 _ w.heap.size _ (.slice dQ am.length dT) am from Kd.V_mk (by rw [aX,bi];exact Nat.sub_le_sub_right aq _) aW);have dU:=qaa.mk (show am.length≤dT from by rw [aX,bi];exact Nat.sub_le_sub_right aq _);clear aW cj aq bn bp bi;have es:=qaa.mk aX;have et:=qaa.mk bh;clear aX bh;replace dq:=eq_true dq)|((with_reducible refine qaB (b:=.append) (xs:=#[.tmp 48,.tmp 51]) rfl ?_);at_builtin;refine Kd.N_append_rows k53 (w0:=w) w.heap.size rfl (.tmp 48) (.tmp 51) 31 53 (.agg #[(.int .i64 0),(.int .i64 0),(.int .i64 0),(.int .i64 0),(.int .i64 0),(.slice none 0 0),(.slice none 0 0)]) 88 rfl Tryd.underlying31 info53 rfl (by decide) (by omega) bM aN am _ _ _ (fun k_=>(af k_∨w.heap.size≤k_)∧k_≠aa) (fun k_=>((fun k_=>(af k_∨w.heap.size≤k_)∧k_≠aa)) k_∧some k_≠(bM:Value).ownBlock) rfl rfl ?aO ?aR (fun _ hk=>hk) ?aF ?aB ?aS ?aL ?_;(case aR=>exact (by skip;exact Kd.V_F (Kd.V_mono (ok':=(fun k_=>((fun k_=>(af k_∨w.heap.size≤k_)∧k_≠aa)) k_∧some k_≠(bM:Value).ownBlock)) (aY.out) (fun k_ hk=>⟨⟨hk.1.1,hk.1.2⟩,hk.2⟩))));(case aB=>exact sB);(case aF=>exact (fun k_ hk=>⟨(.inr (Nat.le_trans (qac sB) hk)),Kd.freshB (g:=aa) (o:=.cells #[.int .i64 au,.int .i64 av,.slice (some bm) ab.length c0_2] 33 (0,0)) (sK ag.out) k_ hk⟩));(case aO=>exact (sN aV.out));(case aS=>exact (qac sB));(case aL=>have:=dl.out;omega);intro eu fH ho hb hg hat;rw [← dm.out] at ho;replace al:=qaa.mk (Kd.N_afterv (ok:=(fun k_=>(af k_∨w.heap.size≤k_)∧k_≠aa)) (sN al.out) hg hat);replace ae:=qaa.mk (Kd.V_afterv (ok:=(fun k_=>(af k_∨w.heap.size≤k_)∧some k_≠(.slice aC ah.length aw:Value).ownBlock∧k_≠aa)) (sV ae.out) hg hat);replace ag:=qaa.mk (sKg ag.out hg (Kd.N_ne aV.out ag.out (by decide)));replace ar:=qaa.mk (Kd.V_afterv (ok:=(fun k_=>(af k_∨w.heap.size≤k_)∧k_≠aa)) (sV ar.out) hg hat);replace aj:=qaa.mk (Kd.V_afterv (ok:=(fun k_=>(af k_∨w.heap.size≤k_)∧some k_≠(.slice aC ah.length aw:Value).ownBlock∧k_≠aa)) (sV aj.out) hg hat);replace ak:=qaa.mk (Kd.V_afterv (ok:=(fun k_=>(af k_∨w.heap.size≤k_)∧some k_≠(.slice aC ah.length aw:Value).ownBlock∧k_≠aa)) (sV ak.out) hg hat);replace aY:=qaa.mk (Kd.V_afterv (ok:=(fun k_=>(af k_∨w.heap.size≤k_)∧k_≠aa)) (sV aY.out) hg hat);replace HB:=qaa.mk (hb);have du:=qaa.mk (ho);clear aV ho hb hg hat));try go_wp2_with (first|((with_reducible refine qap (N:=35) rfl ?_);refine Kd.N_lit k53 _ 53 ?hg (N':=35) ?hd (xs:=([]:List (S53))) (inner:=[]) (ok:=(fun k_=>(af k_∨w.heap.size≤k_)∧some k_≠(.slice aC ah.length aw:Value).ownBlock∧k_≠aa)) (okp:=(fun k_=>(af k_∨w.heap.size≤k_)∧some k_≠(.slice aC ah.length aw:Value).ownBlock∧k_≠aa)) ?hr ?hp (fun _ hk=>hk) ((show ∀ k_,wc.heap.size≤k_→(fun k_=>(af k_∨w.heap.size≤k_)∧some k_≠(.slice aC ah.length aw:Value).ownBlock∧k_≠aa) k_ from fun k_ hk=>⟨(.inr (Nat.le_trans (qac sB) hk)),Kd.fresh' (Kd.N_lt (sN al.out)) k_ hk,Kd.freshB (g:=aa) (o:=.cells #[.int .i64 au,.int .i64 av,.slice A0_2 ab.length c0_2] 33 (0,0)) (sK ag.out) k_ hk⟩) _ (Nat.le_refl _)) (Below.refl _ _) (Nat.le_refl _) (by simp) ?_;(case hd=>rfl);(case hg=>rfl);(case hr=>first|(go_simp;done)|(go_simp;rfl));(case hp=>exact (Reps.none _ _));intro bC fF aE hb hg_ hnew_;clear hg_ hnew_;(first|rw [← bO.out] at aE|(simp only [Int.reduceToNat] at aE;rw [← bO.out] at aE));replace al:=qaa.mk (Kd.N_elder' (sN al.out) (Kd.N_base aE) hb);replace ae:=qaa.mk (Kd.V_elder' (sV ae.out) (Kd.N_base aE) hb);have aT:=qaa.mk (Kd.N_lower aE (qac sB));replace ag:=qaa.mk (sKb ag.out hb);replace HB:=qaa.mk (qai sB hb);clear hb aE;have dn:(ai:Int)≤((ah.length:Int):Int):=of_decide_eq_true sA;obtain⟨en,bj,_,cf,_⟩:=info_parts info53;have aH:ah.length≤aw:=(Kd.N_reads' al.out).2.1;have cg:Kd.F k53 _ _ aC ah.length ah:=(Kd.V_at (base:=w.heap.size) (Kd.N_V al.out)).2.2;have bD:=cut_to (P:=Tryd.prog) 31 53 .i64 Tryd.underlying31 bj aC ah.length aw ai (of_decide_eq_true sA) dn aH;have bE:=Kd.F_take (m:=(ai:Int).toNat) cg (by omega);have bF:aD.length=(ai:Int).toNat:=(by rw [bP.out,List.length_take];omega);rw [← bP.out] at bE;rw [← bF] at bD;have ar:=qaa.mk (show Kd.V k53 53 _ w.heap.size _ (.slice aC aD.length aw) aD from Kd.V_mk (by omega) bE);have dO:=qaa.mk (show aD.length≤aw from by omega);clear bE cg aH bj cf;have ep:=qaa.mk bF;clear bF;replace dn:=eq_true dn)|((with_reducible refine qaB (b:=.append) (xs:=#[.tmp 35,.tmp 38]) rfl ?_);at_builtin;refine Kd.N_append_rows k53 (w0:=w) w.heap.size rfl (.tmp 35) (.tmp 38) 31 53 (.agg #[(.int .i64 0),(.int .i64 0),(.int .i64 0),(.int .i64 0),(.int .i64 0),(.slice none 0 0),(.slice none 0 0)]) 88 rfl Tryd.underlying31 info53 rfl (by decide) (by omega) bC bq aD _ _ _ (fun k_=>(af k_∨w.heap.size≤k_)∧k_≠aa) (fun k_=>((fun k_=>(af k_∨w.heap.size≤k_)∧k_≠aa)) k_∧some k_≠(bC:Value).ownBlock) rfl rfl ?aO ?aR (fun _ hk=>hk) ?aF ?aB ?aS ?aL ?_;(case aR=>exact (by skip;exact Kd.V_F (Kd.V_mono (ok':=(fun k_=>((fun k_=>(af k_∨w.heap.size≤k_)∧k_≠aa)) k_∧some k_≠(bC:Value).ownBlock)) (ar.out) (fun k_ hk=>⟨⟨hk.1.1,hk.1.2⟩,hk.2⟩))));(case aB=>exact sB);(case aF=>exact (fun k_ hk=>⟨(.inr (Nat.le_trans (qac sB) hk)),Kd.freshB (g:=aa) (o:=.cells #[.int .i64 au,.int .i64 av,.slice A0_2 ab.length c0_2] 33 (0,0)) (sK ag.out) k_ hk⟩));(case aO=>exact (by refine sNm ?_;exact Kd.N_mono aT.out (fun _ hk=>⟨hk.1,hk.2.2⟩)));(case aS=>exact (qac sB));(case aL=>have:=dh.out;omega);intro aQ eq ho hb hg hat;rw [← di.out] at ho;replace al:=qaa.mk (Kd.N_afterv (ok:=(fun k_=>(af k_∨w.heap.size≤k_)∧k_≠aa)) (sN al.out) hg hat);replace ae:=qaa.mk (Kd.V_afterv (ok:=(fun k_=>(af k_∨w.heap.size≤k_)∧some k_≠(.slice aC ah.length aw:Value).ownBlock∧k_≠aa)) (sV ae.out) hg hat);replace ag:=qaa.mk (sKg ag.out hg (Kd.N_ne aT.out ag.out (by decide)));replace ar:=qaa.mk (Kd.V_afterv (ok:=(fun k_=>(af k_∨w.heap.size≤k_)∧k_≠aa)) (sV ar.out) hg hat);replace HB:=qaa.mk (hb);have aU:=qaa.mk (ho);clear aT ho hb hg hat;obtain⟨cD,cE,cF⟩:=sC3 (w:=eq) ag.out;obtain⟨cG,cH,cI⟩:=sF3 ag.out;have ba:0≤(ac:Int):=of_decide_eq_true sA;have be:ac<(ab.length:Int):=of_decide_eq_true sA;obtain⟨bm,bG,bH,bI,bJ,dp,cJ,cK,cL,cM,cN,bf,bg,aI,aJ,aK,aM⟩:=at_T53 (Kd.V_reads' ae.out).2.2 ac ba be;cases dp;obtain⟨dP,bK,bL,aG⟩:=Kd.V_get ae.out z53 ac ba (by first|exact be|exact of_decide_eq_true sA|(have e_:=(Kd.V_reads' ae.out).1;omega));obtain⟨cO,cP,cQ,cR,rfl,ax,ay,az,aA⟩:=qa8 bL;have an:=aG 5 _ rfl;rw [qat _ _ 5 (by omega)] at an;replace an:=Option.some.inj (an.symm.trans bf);injection an with hva_ hvn_ hvc_;rw [hva_] at ay;rw [hvc_] at ax;have aj:=qaa.mk (show Kd.V (Kd.int .i64) 2 _ w.heap.size _ _ ((qaj ab ac).f5) from Kd.V_mk ax ay);clear hva_ hvn_ hvc_ ay ax;have ap:=aG 6 _ rfl;rw [qat _ _ 6 (by omega)] at ap;replace ap:=Option.some.inj (ap.symm.trans bg);injection ap with hva_ hvn_ hvc_;rw [hva_] at aA;rw [hvc_] at az;have ak:=qaa.mk (show Kd.V (Kd.int .i64) 3 _ w.heap.size _ _ ((qaj ab ac).f6) from Kd.V_mk az aA);clear hva_ hvn_ hvc_ aA az aG bK;have cS:=qaa.mk aJ;have cT:=qaa.mk aI;clear aJ aI;have cU:=qaa.mk aM;have cV:=qaa.mk aK;clear aM aK;replace ba:=eq_true ba;replace be:=eq_true be)|((with_reducible refine qaB (b:=.append) (xs:=#[.tmp 40,.tmp 46]) rfl ?_);at_builtin;refine Kd.N_append k53 (w0:=w) w.heap.size rfl (.tmp 40) (.tmp 46) 31 53 (.agg #[(.int .i64 0),(.int .i64 0),(.int .i64 0),(.int .i64 0),(.int .i64 0),(.slice none 0 0),(.slice none 0 0)]) 88 rfl Tryd.underlying31 info53 rfl (by decide) (by omega) aQ aZ (⟨(qaj ab ac).f0,(qaj ab ac).f1,(qaj ab ac).f2,(qaj ab ac).f3,(qaj ab ac).f4,(qaj ab ac).f5,(qaj ab ac).f6⟩:S53) [.int .i64 ((qaj ab ac).f0),.int .i64 ((qaj ab ac).f1),.int .i64 ((qaj ab ac).f2),.int .i64 ((qaj ab ac).f3),.int .i64 ((qaj ab ac).f4),.slice bG ((qaj ab ac).f5).length bH,.slice bI ((qaj ab ac).f6).length bJ] (fun k_=>(af k_∨w.heap.size≤k_)∧k_≠aa) (fun k_=>((fun k_=>(af k_∨w.heap.size≤k_)∧k_≠aa)) k_∧some k_≠(aQ:Value).ownBlock) rfl rfl ?aP (fun _ hk=>hk) ?aF ?aO ?aB ?aS ?aL ?_;(case aP=>exact (k53_mkF _ _ (⟨(qaj ab ac).f0,(qaj ab ac).f1,(qaj ab ac).f2,(qaj ab ac).f3,(qaj ab ac).f4,(qaj ab ac).f5,(qaj ab ac).f6⟩:S53) (Kd.V_reads' (Kd.V_mono (ok':=(fun k_=>((fun k_=>(af k_∨w.heap.size≤k_)∧k_≠aa)) k_∧some k_≠(aQ:Value).ownBlock)) (aj.out) (fun k_ hk=>⟨⟨hk.1.1,hk.1.2.2⟩,hk.2⟩))).2.1 (Kd.V_F (Kd.V_mono (ok':=(fun k_=>((fun k_=>(af k_∨w.heap.size≤k_)∧k_≠aa)) k_∧some k_≠(aQ:Value).ownBlock)) (aj.out) (fun k_ hk=>⟨⟨hk.1.1,hk.1.2.2⟩,hk.2⟩))) (Kd.V_reads' (Kd.V_mono (ok':=(fun k_=>((fun k_=>(af k_∨w.heap.size≤k_)∧k_≠aa)) k_∧some k_≠(aQ:Value).ownBlock)) (ak.out) (fun k_ hk=>⟨⟨hk.1.1,hk.1.2.2⟩,hk.2⟩))).2.1 (Kd.V_F (Kd.V_mono (ok':=(fun k_=>((fun k_=>(af k_∨w.heap.size≤k_)∧k_≠aa)) k_∧some k_≠(aQ:Value).ownBlock)) (ak.out) (fun k_ hk=>⟨⟨hk.1.1,hk.1.2.2⟩,hk.2⟩)))));(case aB=>exact sB);(case aF=>exact (fun k_ hk=>⟨(.inr (Nat.le_trans (qac sB) hk)),Kd.freshB (g:=aa) (o:=.cells #[.int .i64 au,.int .i64 av,.slice (some bm) ab.length c0_2] 33 (0,0)) (sK ag.out) k_ hk⟩));(case aO=>exact (sN aU.out));(case aS=>exact (qac sB));(case aL=>have:=dj.out;omega);intro bM fG ho hb hg hat;rw [← dk.out] at ho;replace al:=qaa.mk (Kd.N_afterv (ok:=(fun k_=>(af k_∨w.heap.size≤k_)∧k_≠aa)) (sN al.out) hg hat);replace ae:=qaa.mk (Kd.V_afterv (ok:=(fun k_=>(af k_∨w.heap.size≤k_)∧some k_≠(.slice aC ah.length aw:Value).ownBlock∧k_≠aa)) (sV ae.out) hg hat);replace ag:=qaa.mk (sKg ag.out hg (Kd.N_ne aU.out ag.out (by decide)));replace ar:=qaa.mk (Kd.V_afterv (ok:=(fun k_=>(af k_∨w.heap.size≤k_)∧k_≠aa)) (sV ar.out) hg hat);replace aj:=qaa.mk (Kd.V_afterv (ok:=(fun k_=>(af k_∨w.heap.size≤k_)∧some k_≠(.slice aC ah.length aw:Value).ownBlock∧k_≠aa)) (sV aj.out) hg hat);replace ak:=qaa.mk (Kd.V_afterv (ok:=(fun k_=>(af k_∨w.heap.size≤k_)∧some k_≠(.slice aC ah.length aw:Value).ownBlock∧k_≠aa)) (sV ak.out) hg hat);replace HB:=qaa.mk (hb);have aV:=qaa.mk (ho);clear aU ho hb hg hat;have dq:(ai:Int)≤((ah.length:Int):Int):=of_decide_eq_true sA;obtain⟨er,bn,_,bp,_⟩:=info_parts info53;have aq:ah.length≤aw:=(Kd.N_reads' al.out).2.1;have cj:Kd.F k53 _ _ aC ah.length ah:=(Kd.V_at (base:=w.heap.size) (Kd.N_V al.out)).2.2;have dr:(0:Int)≤(ai:Int):=of_decide_eq_true sA;have bN:=cut_from (P:=Tryd.prog) 31 53 .i64 Tryd.underlying31 bn 7 bp aC ah.length aw ai dr dq;have aW:=Kd.F_cut (m:=(ai:Int).toNat) (c:=aw) cj (by omega) aq;obtain⟨dQ,bh⟩:∃ A1,A1=(if aw=(ai:Int).toNat then aC else (aC:Option Addr).map (·.add ((ai:Int).toNat * 7))):=⟨_,rfl⟩;obtain⟨dT,bi⟩:∃ c1,c1=aw - (ai:Int).toNat:=⟨_,rfl⟩;have aX:am.length=ah.length - (ai:Int).toNat:=(by rw [bQ.out,List.length_drop]<;>omega);rw [show (ah).drop (ai:Int).toNat=am from bQ.out.symm] at aW;replace aW:Kd.F k53 _ _ dQ am.length am:=(by rw [bh];exact aW);rw [← aX,← bh,← bi] at bN;have aY:=qaa.mk (show Kd.V k53 53 _ w.heap.size _ (.slice dQ am.length dT) am from Kd.V_mk (by rw [aX,bi];exact Nat.sub_le_sub_right aq _) aW);have dU:=qaa.mk (show am.length≤dT from by rw [aX,bi];exact Nat.sub_le_sub_right aq _);clear aW cj aq bn bp bi;have es:=qaa.mk aX;have et:=qaa.mk bh;clear aX bh;replace dq:=eq_true dq)|((with_reducible refine qaB (b:=.append) (xs:=#[.tmp 48,.tmp 51]) rfl ?_);at_builtin;refine Kd.N_append_rows k53 (w0:=w) w.heap.size rfl (.tmp 48) (.tmp 51) 31 53 (.agg #[(.int .i64 0),(.int .i64 0),(.int .i64 0),(.int .i64 0),(.int .i64 0),(.slice none 0 0),(.slice none 0 0)]) 88 rfl Tryd.underlying31 info53 rfl (by decide) (by omega) bM aN am _ _ _ (fun k_=>(af k_∨w.heap.size≤k_)∧k_≠aa) (fun k_=>((fun k_=>(af k_∨w.heap.size≤k_)∧k_≠aa)) k_∧some k_≠(bM:Value).ownBlock) rfl rfl ?aO ?aR (fun _ hk=>hk) ?aF ?aB ?aS ?aL ?_;(case aR=>exact (by skip;exact Kd.V_F (Kd.V_mono (ok':=(fun k_=>((fun k_=>(af k_∨w.heap.size≤k_)∧k_≠aa)) k_∧some k_≠(bM:Value).ownBlock)) (aY.out) (fun k_ hk=>⟨⟨hk.1.1,hk.1.2⟩,hk.2⟩))));(case aB=>exact sB);(case aF=>exact (fun k_ hk=>⟨(.inr (Nat.le_trans (qac sB) hk)),Kd.freshB (g:=aa) (o:=.cells #[.int .i64 au,.int .i64 av,.slice (some bm) ab.length c0_2] 33 (0,0)) (sK ag.out) k_ hk⟩));(case aO=>exact (sN aV.out));(case aS=>exact (qac sB));(case aL=>have:=dl.out;omega);intro eu fH ho hb hg hat;rw [← dm.out] at ho;replace al:=qaa.mk (Kd.N_afterv (ok:=(fun k_=>(af k_∨w.heap.size≤k_)∧k_≠aa)) (sN al.out) hg hat);replace ae:=qaa.mk (Kd.V_afterv (ok:=(fun k_=>(af k_∨w.heap.size≤k_)∧some k_≠(.slice aC ah.length aw:Value).ownBlock∧k_≠aa)) (sV ae.out) hg hat);replace ag:=qaa.mk (sKg ag.out hg (Kd.N_ne aV.out ag.out (by decide)));replace ar:=qaa.mk (Kd.V_afterv (ok:=(fun k_=>(af k_∨w.heap.size≤k_)∧k_≠aa)) (sV ar.out) hg hat);replace aj:=qaa.mk (Kd.V_afterv (ok:=(fun k_=>(af k_∨w.heap.size≤k_)∧some k_≠(.slice aC ah.length aw:Value).ownBlock∧k_≠aa)) (sV aj.out) hg hat);replace ak:=qaa.mk (Kd.V_afterv (ok:=(fun k_=>(af k_∨w.heap.size≤k_)∧some k_≠(.slice aC ah.length aw:Value).ownBlock∧k_≠aa)) (sV ak.out) hg hat);replace aY:=qaa.mk (Kd.V_afterv (ok:=(fun k_=>(af k_∨w.heap.size≤k_)∧k_≠aa)) (sV aY.out) hg hat);replace HB:=qaa.mk (hb);have du:=qaa.mk (ho);clear aV ho hb hg hat)))
                go_roundg dv
                case measure=>have:=d7.out;have:=d8.out;have:=eP.out;omega
                case rel=>exact⟨(el),(wrap64 (ac+1)),(by first|rfl|(simp;done)|(simp [*];done)),H',⟨by have:=d7.out;have:=d8.out;have:=eP.out;omega⟩,⟨by refine sNm ?_;exact du.out⟩,⟨by refine sVm ?_;exact Kd.V_mono ae.out (fun _ hk=>⟨hk.1.1,⟨hk.2,hk.1.2.2⟩⟩)⟩,⟨by refine sM ?_;exact ag.out⟩,⟨by repeat (first|(with_reducible first|exact HB.out|apply qah|apply qae|apply qag|refine qad ?_ a8.out)|exact HB.out)⟩⟩
               ·rw [if_neg eV] at H
                exact absurd H (by simp)
              ·rw [if_neg eU] at H
               exact absurd H (by simp)
             ·rw [if_neg eT] at H
              exact absurd H (by simp)
            ·rw [if_neg eS] at H
             exact absurd H (by simp)
           ·rw [if_neg eR] at H
            exact absurd H (by simp)
          ·rw [if_neg ek] at H
           exact absurd H (by simp)
         ·rw [if_neg eh] at H
          exact absurd H (by simp)
   ·rw [if_neg c3] at H
    have dV:decide (ac<(ab.length:Int))=false:=decide_eq_false c3
    clear c3
    obtain rfl:=Option.some.inj H
    obtain⟨eW,eX,eY⟩:=sC3 (w:=wr) ag.out
    obtain⟨eZ,fa,fb⟩:=sF3 ag.out
    go_wp2
    repeat (go_quiet (fail);try go_wp2)
    go_ret
    exact⟨_,by first|rfl|(simp [qam,qal]<;>rfl)|(simp [bneNil,bneNilU]<;>rfl)|(simp [*,qam,qal]<;>rfl),by refine sNm ?_;exact Kd.N_mono al.out (fun _ hk=>hk.1),by repeat (first|(with_reducible first|exact HB.out|apply qah|apply qae|apply qag|refine qad ?_ a8.out)|exact HB.out)⟩
end
end Go.Proofs.YtgnaaokhfpfglaaDoor.PCertTold
end
section
namespace Go.Proofs.YtgnaaokhfpfglaaDoor.PCertTold
open Go.RowKit Go.Proofs.YtgnaaokhfpfglaaDoorW.PrintWords Go.Proofs.YtgnaaokhfpfglaaDoorW.PrintLast Go.Proofs.YtgnaaokhfpfglaaDoorW.PrintMore
attribute [local go_sem] qaW qaU qa3 qa2 qaN qaM qaV qaT
set_option linter.unusedVariables false
set_option linter.unusedSimpArgs false
noncomputable section
mutual
def ostinatoref18_Pick_Setup.j0:Nat→Bool→Int→Int→List Int→List Int→Int→Int→List (S53)→Int→Int→List (S53)→Int→Int→Option (Int × Int × (List (S53)) × Int × Int × List Int × List Int)
 |0,_,_,_,_,_,_,_,_,_,_,_,_,_=>none
 |k+1,an,aa,ab,ac,ae,af,ag,ah,ai,aj,ak,al,am=>if an=true then (ostinatoref18_Pick_Setup.j1 k aa ab ac ae af ag ah ai aj ak al 1) else (ostinatoref18_Pick_Setup.j1 k aa ab ac ae af ag ah ai aj ak al am)
def ostinatoref18_Pick_Setup.j1:Nat→Int→Int→List Int→List Int→Int→Int→List (S53)→Int→Int→List (S53)→Int→Int→Option (Int × Int × (List (S53)) × Int × Int × List Int × List Int)
 |0,_,_,_,_,_,_,_,_,_,_,_,_=>none
 |k+1,ae,af,ag,ah,aa,ab,ac,ai,aj,ak,al,am=>(ostinatoref05_ByPrio.f k aa ab ac).bind fun an=>(ostinatoref18_Pick_Setup.l0 k an 0 ae af ag ah aa ab ac ai aj ak al am ([]:List Int) ([]:List Int))
def ostinatoref18_Pick_Setup.l0:Nat→List (S53)→Int→Int→Int→List Int→List Int→Int→Int→List (S53)→Int→Int→List (S53)→Int→Int→List Int→List Int→Option (Int × Int × (List (S53)) × Int × Int × List Int × List Int)
 |0,_,_,_,_,_,_,_,_,_,_,_,_,_,_,_,_=>none
 |k+1,x6,x7,aj,ak,al,am,an,ap,aa,ab,ac,ae,af,ag,ah,ai=>if x7<(aa.length:Int) then (ostinatoref18_Pick_Setup.l1 k x6 x7 ([]:List Int) 0 aj ak al am an ap aa ab ac ae af ag ah ai) else (some (ab,ac,ae,af,ag,ah,ai))
def ostinatoref18_Pick_Setup.l1:Nat→List (S53)→Int→List Int→Int→Int→Int→List Int→List Int→Int→Int→List (S53)→Int→Int→List (S53)→Int→Int→List Int→List Int→Option (Int × Int × (List (S53)) × Int × Int × List Int × List Int)
 |0,_,_,_,_,_,_,_,_,_,_,_,_,_,_,_,_,_,_=>none
 |k+1,x6,x7,x8,x9,ac,ae,aa,af,ag,ah,ab,ai,aj,ak,al,am,an,ap=>if x9<(x6.length:Int) then (if 0≤x9 then (if 0≤x7 then (if x7<(ab.length:Int) then (if ((qaj x6 x9).f4)≤((qaj ab x7).f4) then (if x8.length<17592186044416 then (ostinatoref18_Pick_Setup.l1 k x6 x7 (x8++[(qaj x6 x9).f4]) (wrap64 (x9+1)) ac ae aa af ag ah ab ai aj ak al am an ap) else (none)) else (ostinatoref18_Pick_Setup.l1 k x6 x7 x8 (wrap64 (x9+1)) ac ae aa af ag ah ab ai aj ak al am an ap)) else (none)) else (none)) else (none)) else (if x7<(aa.length:Int) then (if 0≤x7 then (if (x8.length:Int)=0 then (none) else (ostinatoref18_Pick_Setup.j4 k x6 x7 x8 (Int.tmod (wrap64 ((Int.tmod (rd aa x7) (x8.length:Int))+(x8.length:Int))) (x8.length:Int)) ac ae aa af ag ah ab ai aj ak al am an ap)) else (none)) else (ostinatoref18_Pick_Setup.j4 k x6 x7 x8 (wrap64 ((x8.length:Int) - 1)) ac ae aa af ag ah ab ai aj ak al am an ap))
def ostinatoref18_Pick_Setup.j4:Nat→List (S53)→Int→List Int→Int→Int→Int→List Int→List Int→Int→Int→List (S53)→Int→Int→List (S53)→Int→Int→List Int→List Int→Option (Int × Int × (List (S53)) × Int × Int × List Int × List Int)
 |0,_,_,_,_,_,_,_,_,_,_,_,_,_,_,_,_,_,_=>none
 |k+1,x6,x7,x8,ar,ac,ae,af,aa,ag,ah,ai,aj,ak,al,am,an,ap,ab=>if 0≤ar then (if ar<(x8.length:Int) then (if ap.length<17592186044416 then ((some (ap++[rd x8 ar]:List Int)).bind fun aq=>(if x7<(aa.length:Int) then (if 0≤x7 then (if ab.length<17592186044416 then (ostinatoref18_Pick_Setup.l0 k x6 (wrap64 (x7+1)) ac ae af aa ag ah ai aj ak al am an aq (ab++[Go.bits .and .i64 (rd aa x7) 15])) else (none)) else (none)) else (if ab.length<17592186044416 then (ostinatoref18_Pick_Setup.l0 k x6 (wrap64 (x7+1)) ac ae af aa ag ah ai aj ak al am an aq (ab++[0])) else (none)))) else (none)) else (none)) else (none)
end
def ostinatoref18_Pick_Setup.f (k:Nat) (aa:Int) (ab:Int) (ag:List Int) (ah:List Int) (ac:Int) (ae:Int) (af:List (S53)):Option (Int × Int × (List (S53)) × Int × Int × List Int × List Int):=if (wrap64 (1+(Go.bits .and .i64 ab 3)))=2 then (ostinatoref18_Pick_Setup.j0 k ((wrap64 (1+(Go.bits .and .i64 aa 1))) == 1) aa ab ag ah ac ae af ac ae af (wrap64 (1+(Go.bits .and .i64 aa 1))) (wrap64 (1+(Go.bits .and .i64 ab 3)))) else (ostinatoref18_Pick_Setup.j0 k false aa ab ag ah ac ae af ac ae af (wrap64 (1+(Go.bits .and .i64 aa 1))) (wrap64 (1+(Go.bits .and .i64 ab 3))))
def ostinatoref18_Pick_Setup.T12:Bool × List (List Nat × List Nat):=(true,[([],[]),([],[]),([0,1],[0,1]),([2],[2]),([3],[3]),([],[]),([5],[5]),([],[]),([6,7],[6,7]),([8],[8]),([9],[9]),([4,10],[4,10])])
def ostinatoref18_Pick_Setup.B12:List Nat:=[0,0,3,7,15,0,32,0,224,480,992,2047]
theorem ostinatoref18_Pick_Setup.tab12:rtab .any (opsOf Tryd.f34 12)=ostinatoref18_Pick_Setup.T12:=by kernel_rfl
theorem ostinatoref18_Pick_Setup.bits12:waitsOk ostinatoref18_Pick_Setup.T12.2 ostinatoref18_Pick_Setup.B12=true:=by kernel_rfl
def ostinatoref18_Pick_Setup.T17:Bool × List (List Nat × List Nat):=(true,[([],[]),([0],[0]),([],[]),([],[]),([2,3],[2,3]),([4],[4]),([5],[5]),([1,6],[1,6]),([0,1,2,3,4,5,6,7],[]),([8,7,7,0,1,2,3,4,5,6,7],[7,8])])
def ostinatoref18_Pick_Setup.B17:List Nat:=[0,1,0,0,12,28,60,127,255,511]
theorem ostinatoref18_Pick_Setup.tab17:rtab .any (opsOf Tryd.f34 17)=ostinatoref18_Pick_Setup.T17:=by kernel_rfl
theorem ostinatoref18_Pick_Setup.bits17:waitsOk ostinatoref18_Pick_Setup.T17.2 ostinatoref18_Pick_Setup.B17=true:=by kernel_rfl
theorem ostinatoref18_Pick_Setup.calls (k:Nat) (aC:Int) (aM:Int) (A0_2:Option Addr) (c0_2:Nat) (a8:List Int) (dU:Option Addr) (dM:Nat) (aX:List Int) (aw:Int) (ay:Int) (aI:Nat→Prop) (aJ:Option Addr) (aH:Nat) (ah:List (S53)) (r1:Int) (r2:Int) (r3:List (S53)) (r4:Int) (r5:Int) (r6:List Int) (r7:List Int) (w:World) (hr0_2:Kd.C (Kd.int .i64) w A0_2 a8.length a8) (hc0_2:a8.length≤c0_2) (gx:Kd.C (Kd.int .i64) w dU aX.length aX) (gy:aX.length≤dM) (gX:Kd.V k53 53 w w.heap.size (fun k_=>aI k_) (.slice aJ ah.length aH) ah) (h:ostinatoref18_Pick_Setup.f k aC aM a8 aX aw ay ah=some (r1,r2,r3,r4,r5,r6,r7)) :
  Calls Tryd.prog 34 #[.agg #[.int .i64 aC,.int .i64 aM,.slice A0_2 a8.length c0_2,.slice dU aX.length dM],.agg #[.int .i64 aw,.int .i64 ay,.slice aJ ah.length aH]] w fun e w'=>∃ mw lA lB:Value,e=.returned (.agg #[.int .i64 r1,.int .i64 r2,mw,.int .i64 r4,.int .i64 r5,lA,lB])∧Kd.V k53 53 w' w.heap.size (fun k_=>(aI k_∨w.heap.size≤k_)∧some k_≠(lA:Value).ownBlock∧some k_≠(lB:Value).ownBlock) mw r3∧Kd.R (Kd.int .i64) 3 w' w.heap.size (fun k_=>(w.heap.size≤k_)) lA r6∧Kd.R (Kd.int .i64) 2 w' w.heap.size (fun k_=>(w.heap.size≤k_)) lB r7∧Below w.heap.size w w':=by
 have oh:=Tryd.underlying76
 have ol:=Tryd.underlying33
 have om:=Tryd.underlying36
 have gY:=qaa.mk hr0_2
 have my:=qaa.mk hc0_2
 clear hr0_2 hc0_2
 have gZ:=qaa.mk gx
 have mz:=qaa.mk gy
 clear gx gy
 have bM:=qaa.mk (show Kd.V k53 53 w w.heap.size (fun k_=>(aI k_∨w.heap.size≤k_)) (.slice aJ ah.length aH) ah from Kd.V_mono gX (fun k_ hk=>.inl hk))
 have HB:=qaa.mk (Below.refl w.heap.size w)
 have H:(if (wrap64 (1+(Go.bits .and .i64 aM 3)))=2 then (ostinatoref18_Pick_Setup.j0 k ((wrap64 (1+(Go.bits .and .i64 aC 1))) == 1) aC aM a8 aX aw ay ah aw ay ah (wrap64 (1+(Go.bits .and .i64 aC 1))) (wrap64 (1+(Go.bits .and .i64 aM 3)))) else (ostinatoref18_Pick_Setup.j0 k false aC aM a8 aX aw ay ah aw ay ah (wrap64 (1+(Go.bits .and .i64 aC 1))) (wrap64 (1+(Go.bits .and .i64 aM 3)))))=some (r1,r2,r3,r4,r5,r6,r7):=h
 clear h
 have lC:=qaa.mk H
 clear H
 go_enter Tryd.func34,Tryd.ntmps34
 go_upto_region 2 with (first|((with_reducible refine qap (N:=2) rfl ?_);refine qao ?hg (N:=2) ?hd (cs:=#[.int .i64 aC,.int .i64 aM,.slice A0_2 a8.length c0_2,.slice dU aX.length dM]) (t:=76) ?hr ?_;(case hd=>rfl);(case hg=>rfl);(case hr=>first|(go_simp;done)|(go_simp;rfl));intro az hg w4 hbox hb;replace bM:=qaa.mk (Kd.V_below (Kd.V_elderB (sV bM.out) az (Nat.le_of_eq hg.symm)) hb);have am:=qaa.mk (hbox);have mA:=qaa.mk ((by rw [hg];exact (qac sB):w.heap.size≤az));have bx:=qaa.mk ((by rw [hg];exact (qac sB):w.heap.size≤az));replace HB:=qaa.mk (qai sB hb);clear hb hbox hg)|((with_reducible refine qap (N:=3) rfl ?_);refine qao ?hg (N:=3) ?hd (cs:=#[.int .i64 aw,.int .i64 ay,.slice aJ ah.length aH]) (t:=33) ?hr ?_;(case hd=>rfl);(case hg=>rfl);(case hr=>first|(go_simp;done)|(go_simp;rfl));intro av hg w5 hbox hb;replace bM:=qaa.mk (Kd.V_below (Kd.V_elderB (sV bM.out) av (Nat.le_of_eq hg.symm)) hb);have an:=qaa.mk (hbox);have mB:=qaa.mk ((by rw [hg];exact (qac sB):w.heap.size≤av));have bz:=qaa.mk ((by rw [hg];exact (qac sB):w.heap.size≤av));replace HB:=qaa.mk (qai sB hb);have be:=qaa.mk ((by rw [hg];exact Nat.ne_of_lt (sLt am.out):az≠av));have bf:=qaa.mk ((by rw [hg];exact Nat.ne_of_gt (sLt am.out):av≠az));replace am:=qaa.mk (sKb am.out hb);clear hb hbox hg)|((with_reducible refine qap (N:=4) rfl ?_);refine qao ?hg (N:=4) ?hd (cs:=#[.int .i64 0,.int .i64 0,.slice none 0 0,.int .i64 0,.int .i64 0,.slice none 0 0,.slice none 0 0]) (t:=36) ?hr ?_;(case hd=>rfl);(case hg=>rfl);(case hr=>first|(go_simp;done)|(go_simp;rfl));intro aj hg w6 hbox hb;replace bM:=qaa.mk (Kd.V_below (Kd.V_elderB (sV bM.out) aj (Nat.le_of_eq hg.symm)) hb);have ax:=qaa.mk (hbox);have mC:=qaa.mk ((by rw [hg];exact (qac sB):w.heap.size≤aj));have bB:=qaa.mk ((by rw [hg];exact (qac sB):w.heap.size≤aj));replace HB:=qaa.mk (qai sB hb);have bq:=qaa.mk ((by rw [hg];exact Nat.ne_of_lt (sLt am.out):az≠aj));have bt:=qaa.mk ((by rw [hg];exact Nat.ne_of_gt (sLt am.out):aj≠az));replace am:=qaa.mk (sKb am.out hb);have bN:=qaa.mk ((by rw [hg];exact Nat.ne_of_lt (sLt an.out):av≠aj));have bO:=qaa.mk ((by rw [hg];exact Nat.ne_of_gt (sLt an.out):aj≠av));replace an:=qaa.mk (sKb an.out hb);clear hb hbox hg;have oo:=bf.out;have oq:=be.out;have ot:=bN.out;have ou:=bO.out;obtain⟨ea,eb,ec⟩:=sC3 (w:=w6) an.out;obtain⟨dN,dO,dP⟩:=sF3 an.out;have mD:=bq.out;have mE:=bt.out;obtain⟨cE,cF,cG,cH⟩:=sC4 (w:=w6) am.out;obtain⟨cI,cJ,cK,cL⟩:=sF4 am.out)|((with_reducible refine qap (N:=5) rfl ?_);refine qao ?hg (N:=5) ?hd (cs:=#[.int .i64 0,.int .i64 0,.slice none 0 0,.int .i64 0,.int .i64 0,.slice none 0 0,.slice none 0 0]) (t:=36) ?hr ?_;(case hd=>rfl);(case hg=>rfl);(case hr=>first|(go_simp;done)|(go_simp;rfl));intro aa hg lD hbox hb;replace bM:=qaa.mk (Kd.V_below (Kd.V_elderB (sV bM.out) aa (Nat.le_of_eq hg.symm)) hb);have ab:=qaa.mk (hbox);have hH:=qaa.mk ((by rw [hg];exact (qac sB):w.heap.size≤aa));have bC:=qaa.mk ((by rw [hg];exact (qac sB):w.heap.size≤aa));replace HB:=qaa.mk (qai sB hb);have ak:=qaa.mk ((by rw [hg];exact Nat.ne_of_lt (sLt am.out):az≠aa));have aV:=qaa.mk ((by rw [hg];exact Nat.ne_of_gt (sLt am.out):aa≠az));replace am:=qaa.mk (sKb am.out hb);have al:=qaa.mk ((by rw [hg];exact Nat.ne_of_lt (sLt an.out):av≠aa));have aW:=qaa.mk ((by rw [hg];exact Nat.ne_of_gt (sLt an.out):aa≠av));replace an:=qaa.mk (sKb an.out hb);have aq:=qaa.mk ((by rw [hg];exact Nat.ne_of_lt (sLt ax.out):aj≠aa));have ba:=qaa.mk ((by rw [hg];exact Nat.ne_of_gt (sLt ax.out):aa≠aj));replace ax:=qaa.mk (sKb ax.out hb);clear hb hbox hg;have mF:=aV.out;have mG:=ak.out;have mH:=aW.out;have mI:=al.out;have mJ:=ba.out;have mK:=aq.out;obtain⟨cM,cN,cO,cP,cQ,cR,cS⟩:=sC7 (w:=lD) ab.out;obtain⟨cT,cU,cV,cW,cX,cY,cZ⟩:=sF7 ab.out))
 (try simp only [Act.put,List.setIfInBounds_toArray,List.set_cons_zero,List.set_cons_succ])
 go_cut [29] (fun ov wc=>∃ (kq:Nat) (fc:Bool),ov=.bool fc∧qaa (ostinatoref18_Pick_Setup.j0 kq fc aC aM a8 aX aw ay ah aw ay ah (wrap64 (1+(Go.bits .and .i64 aC 1))) (wrap64 (1+(Go.bits .and .i64 aM 3)))=some (r1,r2,r3,r4,r5,r6,r7))∧qaa (kq≤k)∧qaa (Kd.V k53 53 wc w.heap.size (fun k_=>(aI k_∨w.heap.size≤k_)∧k_≠az∧k_≠av∧k_≠aj∧k_≠aa) (.slice aJ ah.length aH) ah)∧qaa (Kd.V k53 53 wc w.heap.size (fun k_=>(aI k_∨w.heap.size≤k_)∧k_≠az∧k_≠av∧k_≠aj∧k_≠aa) (.slice aJ ah.length aH) ah)∧qaa (wc.heap[az]? = some (.cells #[.int .i64 aC,.int .i64 aM,(.slice A0_2 a8.length c0_2),(.slice dU aX.length dM)] 76 (0,0)))∧qaa (wc.heap[av]? = some (.cells #[.int .i64 aw,.int .i64 ay,(.slice aJ ah.length aH)] 33 (0,0)))∧qaa (wc.heap[aj]? = some (.cells #[.int .i64 0,.int .i64 0,(.slice none 0 0),.int .i64 0,.int .i64 0,(.slice none 0 0),(.slice none 0 0)] 36 (0,0)))∧qaa (wc.heap[aa]? = some (.cells #[.int .i64 aw,.int .i64 ay,(.slice aJ ah.length aH),.int .i64 (wrap64 (1+(Go.bits .and .i64 aC 1))),.int .i64 (wrap64 (1+(Go.bits .and .i64 aM 3))),(.slice none 0 0),(.slice none 0 0)] 36 (0,0)))∧qaa (Below w.heap.size w wc))
 case first=>
  have H:=lC.out
  clear lC
  by_cases fA:(wrap64 (1+(Go.bits .and .i64 aM 3)))=2
  ·rw [if_pos fA] at H
   have ce:((wrap64 (1+(Go.bits .and .i64 aM 3))) == 2)=true:=beq_iff_eq.mpr fA
   have eC:((wrap64 (1+(Go.bits .and .i64 aM 3))) != 2)=false:=bne_eq_false_iff_eq.mpr fA
   clear fA
   (first|rw [ce]|(simp only [qaC,qaE];rw [ce])|skip)
   have H':=qaa.mk H
   clear H
   have mL:=aV.out
   have mM:=ak.out
   have mN:=aW.out
   have mO:=al.out
   have mP:=ba.out
   have mQ:=aq.out
   obtain⟨da,db,dc,dd,de,df,dg⟩:=sC7 (w:=lD) ab.out
   obtain⟨dh,di,dj,dk,dl,dm,dn⟩:=sF7 ab.out
   go_wp2
   go_meet
   case rel=>exact⟨_,(((wrap64 (1+(Go.bits .and .i64 aC 1))) == 1)),(by first|rfl|(simp;done)|(simp [*];done)),H',⟨by first|omega|exact Nat.le_refl _⟩,⟨by refine sVm ?_;exact Kd.V_mono (Kd.V_far (p:=⟨aa,6,none⟩) (Kd.V_far (p:=⟨aa,5,none⟩) (Kd.V_far (p:=⟨aa,4,none⟩) (Kd.V_far (p:=⟨aa,3,none⟩) (Kd.V_far (p:=⟨aa,2,none⟩) (Kd.V_far (p:=⟨aa,1,none⟩) (Kd.V_far (p:=⟨aa,0,none⟩) (Kd.V_mono bM.out (fun k_ hk=>(⟨hk,hk.2⟩:_∧k_≠aa))) (fun _ hk=>hk.2) (.int .i64 aw)) (fun _ hk=>hk.2) (.int .i64 ay)) (fun _ hk=>hk.2) (.slice aJ ah.length aH)) (fun _ hk=>hk.2) (.int .i64 (wrap64 (1+(Go.bits .and .i64 aC 1))))) (fun _ hk=>hk.2) (.int .i64 (wrap64 (1+(Go.bits .and .i64 aM 3))))) (fun _ hk=>hk.2) (.slice none 0 0)) (fun _ hk=>hk.2) (.slice none 0 0)) (fun _ hk=>⟨hk.1.1.1.1.1,⟨hk.1.1.1.1.2,⟨hk.1.1.1.2,⟨hk.1.1.2,hk.1.2⟩⟩⟩⟩)⟩,⟨by refine sVm ?_;exact Kd.V_mono (Kd.V_far (p:=⟨aa,6,none⟩) (Kd.V_far (p:=⟨aa,5,none⟩) (Kd.V_far (p:=⟨aa,4,none⟩) (Kd.V_far (p:=⟨aa,3,none⟩) (Kd.V_far (p:=⟨aa,2,none⟩) (Kd.V_far (p:=⟨aa,1,none⟩) (Kd.V_far (p:=⟨aa,0,none⟩) (Kd.V_mono bM.out (fun k_ hk=>(⟨hk,hk.2⟩:_∧k_≠aa))) (fun _ hk=>hk.2) (.int .i64 aw)) (fun _ hk=>hk.2) (.int .i64 ay)) (fun _ hk=>hk.2) (.slice aJ ah.length aH)) (fun _ hk=>hk.2) (.int .i64 (wrap64 (1+(Go.bits .and .i64 aC 1))))) (fun _ hk=>hk.2) (.int .i64 (wrap64 (1+(Go.bits .and .i64 aM 3))))) (fun _ hk=>hk.2) (.slice none 0 0)) (fun _ hk=>hk.2) (.slice none 0 0)) (fun _ hk=>⟨hk.1.1.1.1.1,⟨hk.1.1.1.1.2,⟨hk.1.1.1.2,⟨hk.1.1.2,hk.1.2⟩⟩⟩⟩)⟩,⟨by refine sM ?_;refine qaf ?_ ak.out _;refine sM ?_;refine qaf ?_ ak.out _;refine sM ?_;refine qaf ?_ ak.out _;refine sM ?_;refine qaf ?_ ak.out _;refine sM ?_;refine qaf ?_ ak.out _;refine sM ?_;refine qaf ?_ ak.out _;refine sM ?_;refine qaf ?_ ak.out _;refine sM ?_;exact am.out⟩,⟨by refine sM ?_;refine qaf ?_ al.out _;refine sM ?_;refine qaf ?_ al.out _;refine sM ?_;refine qaf ?_ al.out _;refine sM ?_;refine qaf ?_ al.out _;refine sM ?_;refine qaf ?_ al.out _;refine sM ?_;refine qaf ?_ al.out _;refine sM ?_;refine qaf ?_ al.out _;refine sM ?_;exact an.out⟩,⟨by refine sM ?_;refine qaf ?_ aq.out _;refine sM ?_;refine qaf ?_ aq.out _;refine sM ?_;refine qaf ?_ aq.out _;refine sM ?_;refine qaf ?_ aq.out _;refine sM ?_;refine qaf ?_ aq.out _;refine sM ?_;refine qaf ?_ aq.out _;refine sM ?_;refine qaf ?_ aq.out _;refine sM ?_;exact ax.out⟩,⟨by refine sM ?_;refine qak (cs:=#[.int .i64 aw,.int .i64 ay,.slice aJ ah.length aH,.int .i64 (wrap64 (1+(Go.bits .and .i64 aC 1))),.int .i64 (wrap64 (1+(Go.bits .and .i64 aM 3))),.slice none 0 0,.slice none 0 0]) ?_ 6 _ rfl;refine sM ?_;refine qak (cs:=#[.int .i64 aw,.int .i64 ay,.slice aJ ah.length aH,.int .i64 (wrap64 (1+(Go.bits .and .i64 aC 1))),.int .i64 (wrap64 (1+(Go.bits .and .i64 aM 3))),.slice none 0 0,.slice none 0 0]) ?_ 5 _ rfl;refine sM ?_;refine qak (cs:=#[.int .i64 aw,.int .i64 ay,.slice aJ ah.length aH,.int .i64 (wrap64 (1+(Go.bits .and .i64 aC 1))),.int .i64 0,.slice none 0 0,.slice none 0 0]) ?_ 4 _ rfl;refine sM ?_;refine qak (cs:=#[.int .i64 aw,.int .i64 ay,.slice aJ ah.length aH,.int .i64 0,.int .i64 0,.slice none 0 0,.slice none 0 0]) ?_ 3 _ rfl;refine sM ?_;refine qak (cs:=#[.int .i64 aw,.int .i64 ay,.slice none 0 0,.int .i64 0,.int .i64 0,.slice none 0 0,.slice none 0 0]) ?_ 2 _ rfl;refine sM ?_;refine qak (cs:=#[.int .i64 aw,.int .i64 0,.slice none 0 0,.int .i64 0,.int .i64 0,.slice none 0 0,.slice none 0 0]) ?_ 1 _ rfl;refine sM ?_;refine qak (cs:=#[.int .i64 0,.int .i64 0,.slice none 0 0,.int .i64 0,.int .i64 0,.slice none 0 0,.slice none 0 0]) ?_ 0 _ rfl;refine sM ?_;exact ab.out⟩,⟨by repeat (first|(with_reducible first|exact HB.out|apply qah|apply qae|apply qag|refine qad ?_ bx.out|refine qad ?_ bz.out|refine qad ?_ bB.out|refine qad ?_ bC.out)|exact HB.out)⟩⟩
  ·rw [if_neg fA] at H
   have ce:((wrap64 (1+(Go.bits .and .i64 aM 3))) == 2)=false:=beq_eq_false_iff_ne.mpr fA
   have eC:((wrap64 (1+(Go.bits .and .i64 aM 3))) != 2)=true:=bne_iff_ne.mpr fA
   (first|rw [ce]|(simp only [qaC,qaE];rw [ce])|skip)
   have H':=qaa.mk H
   clear H
   have mR:=aV.out
   have mS:=ak.out
   have mT:=aW.out
   have mU:=al.out
   have mV:=ba.out
   have mW:=aq.out
   obtain⟨dp,dq,dr,du,dv,dw,dx⟩:=sC7 (w:=lD) ab.out
   obtain⟨dy,dz,dA,cf,cg,cj,ck⟩:=sF7 ab.out
   go_wp2
   go_meet
   case rel=>exact⟨_,(false),(by first|rfl|(simp;done)|(simp [*];done)),H',⟨by first|omega|exact Nat.le_refl _⟩,⟨by refine sVm ?_;exact Kd.V_mono (Kd.V_far (p:=⟨aa,6,none⟩) (Kd.V_far (p:=⟨aa,5,none⟩) (Kd.V_far (p:=⟨aa,4,none⟩) (Kd.V_far (p:=⟨aa,3,none⟩) (Kd.V_far (p:=⟨aa,2,none⟩) (Kd.V_far (p:=⟨aa,1,none⟩) (Kd.V_far (p:=⟨aa,0,none⟩) (Kd.V_mono bM.out (fun k_ hk=>(⟨hk,hk.2⟩:_∧k_≠aa))) (fun _ hk=>hk.2) (.int .i64 aw)) (fun _ hk=>hk.2) (.int .i64 ay)) (fun _ hk=>hk.2) (.slice aJ ah.length aH)) (fun _ hk=>hk.2) (.int .i64 (wrap64 (1+(Go.bits .and .i64 aC 1))))) (fun _ hk=>hk.2) (.int .i64 (wrap64 (1+(Go.bits .and .i64 aM 3))))) (fun _ hk=>hk.2) (.slice none 0 0)) (fun _ hk=>hk.2) (.slice none 0 0)) (fun _ hk=>⟨hk.1.1.1.1.1,⟨hk.1.1.1.1.2,⟨hk.1.1.1.2,⟨hk.1.1.2,hk.1.2⟩⟩⟩⟩)⟩,⟨by refine sVm ?_;exact Kd.V_mono (Kd.V_far (p:=⟨aa,6,none⟩) (Kd.V_far (p:=⟨aa,5,none⟩) (Kd.V_far (p:=⟨aa,4,none⟩) (Kd.V_far (p:=⟨aa,3,none⟩) (Kd.V_far (p:=⟨aa,2,none⟩) (Kd.V_far (p:=⟨aa,1,none⟩) (Kd.V_far (p:=⟨aa,0,none⟩) (Kd.V_mono bM.out (fun k_ hk=>(⟨hk,hk.2⟩:_∧k_≠aa))) (fun _ hk=>hk.2) (.int .i64 aw)) (fun _ hk=>hk.2) (.int .i64 ay)) (fun _ hk=>hk.2) (.slice aJ ah.length aH)) (fun _ hk=>hk.2) (.int .i64 (wrap64 (1+(Go.bits .and .i64 aC 1))))) (fun _ hk=>hk.2) (.int .i64 (wrap64 (1+(Go.bits .and .i64 aM 3))))) (fun _ hk=>hk.2) (.slice none 0 0)) (fun _ hk=>hk.2) (.slice none 0 0)) (fun _ hk=>⟨hk.1.1.1.1.1,⟨hk.1.1.1.1.2,⟨hk.1.1.1.2,⟨hk.1.1.2,hk.1.2⟩⟩⟩⟩)⟩,⟨by refine sM ?_;refine qaf ?_ ak.out _;refine sM ?_;refine qaf ?_ ak.out _;refine sM ?_;refine qaf ?_ ak.out _;refine sM ?_;refine qaf ?_ ak.out _;refine sM ?_;refine qaf ?_ ak.out _;refine sM ?_;refine qaf ?_ ak.out _;refine sM ?_;refine qaf ?_ ak.out _;refine sM ?_;exact am.out⟩,⟨by refine sM ?_;refine qaf ?_ al.out _;refine sM ?_;refine qaf ?_ al.out _;refine sM ?_;refine qaf ?_ al.out _;refine sM ?_;refine qaf ?_ al.out _;refine sM ?_;refine qaf ?_ al.out _;refine sM ?_;refine qaf ?_ al.out _;refine sM ?_;refine qaf ?_ al.out _;refine sM ?_;exact an.out⟩,⟨by refine sM ?_;refine qaf ?_ aq.out _;refine sM ?_;refine qaf ?_ aq.out _;refine sM ?_;refine qaf ?_ aq.out _;refine sM ?_;refine qaf ?_ aq.out _;refine sM ?_;refine qaf ?_ aq.out _;refine sM ?_;refine qaf ?_ aq.out _;refine sM ?_;refine qaf ?_ aq.out _;refine sM ?_;exact ax.out⟩,⟨by refine sM ?_;refine qak (cs:=#[.int .i64 aw,.int .i64 ay,.slice aJ ah.length aH,.int .i64 (wrap64 (1+(Go.bits .and .i64 aC 1))),.int .i64 (wrap64 (1+(Go.bits .and .i64 aM 3))),.slice none 0 0,.slice none 0 0]) ?_ 6 _ rfl;refine sM ?_;refine qak (cs:=#[.int .i64 aw,.int .i64 ay,.slice aJ ah.length aH,.int .i64 (wrap64 (1+(Go.bits .and .i64 aC 1))),.int .i64 (wrap64 (1+(Go.bits .and .i64 aM 3))),.slice none 0 0,.slice none 0 0]) ?_ 5 _ rfl;refine sM ?_;refine qak (cs:=#[.int .i64 aw,.int .i64 ay,.slice aJ ah.length aH,.int .i64 (wrap64 (1+(Go.bits .and .i64 aC 1))),.int .i64 0,.slice none 0 0,.slice none 0 0]) ?_ 4 _ rfl;refine sM ?_;refine qak (cs:=#[.int .i64 aw,.int .i64 ay,.slice aJ ah.length aH,.int .i64 0,.int .i64 0,.slice none 0 0,.slice none 0 0]) ?_ 3 _ rfl;refine sM ?_;refine qak (cs:=#[.int .i64 aw,.int .i64 ay,.slice none 0 0,.int .i64 0,.int .i64 0,.slice none 0 0,.slice none 0 0]) ?_ 2 _ rfl;refine sM ?_;refine qak (cs:=#[.int .i64 aw,.int .i64 0,.slice none 0 0,.int .i64 0,.int .i64 0,.slice none 0 0,.slice none 0 0]) ?_ 1 _ rfl;refine sM ?_;refine qak (cs:=#[.int .i64 0,.int .i64 0,.slice none 0 0,.int .i64 0,.int .i64 0,.slice none 0 0,.slice none 0 0]) ?_ 0 _ rfl;refine sM ?_;exact ab.out⟩,⟨by repeat (first|(with_reducible first|exact HB.out|apply qah|apply qae|apply qag|refine qad ?_ bx.out|refine qad ?_ bz.out|refine qad ?_ bB.out|refine qad ?_ bC.out)|exact HB.out)⟩⟩
 case rest=>
  clear lC
  try clear c1
  try clear c2
  try clear p2
  try clear c3
  try clear p6
  try clear c7
  try clear c8
  try clear lE
  try clear lF
  try clear lG
  try clear lH
  try clear fA
  try clear ce
  try clear eC
  try clear lI
  try clear lJ
  try clear lK
  try clear lL
  try clear lM
  try clear lN
  try clear cE cF cG cH
  try clear cM cN cO cP cQ cR cS
  try clear da db dc dd de df dg
  try clear dp dq dr du dv dw dx
  try clear ea eb ec
  try clear cI cJ cK cL
  try clear cT cU cV cW cX cY cZ
  try clear dh di dj dk dl dm dn
  try clear dy dz dA cf cg cj ck
  try clear dN dO dP
  obtain⟨kq,fc,rfl,HA,fz,ac,af,am,an,ax,ab,HB⟩:=hcut
  cases kq with
  |zero=>exact absurd HA.out (by simp [ostinatoref18_Pick_Setup.j0])
  |succ lO=>
   have H:=HA.out
   clear HA
   simp only [ostinatoref18_Pick_Setup.j0] at H
   have gH:=qaa.mk H
   clear H
   go_upto_if 29 with (fail)
   go_cut [] (fun wc=>∃ (kq:Nat) (ai:Int),qaa (ostinatoref18_Pick_Setup.j1 kq aC aM a8 aX aw ay ah aw ay ah (wrap64 (1+(Go.bits .and .i64 aC 1))) ai=some (r1,r2,r3,r4,r5,r6,r7))∧qaa (kq≤lO)∧qaa (Kd.V k53 53 wc w.heap.size (fun k_=>(aI k_∨w.heap.size≤k_)∧k_≠az∧k_≠av∧k_≠aj∧k_≠aa) (.slice aJ ah.length aH) ah)∧qaa (Kd.V k53 53 wc w.heap.size (fun k_=>(aI k_∨w.heap.size≤k_)∧k_≠az∧k_≠av∧k_≠aj∧k_≠aa) (.slice aJ ah.length aH) ah)∧qaa (wc.heap[az]? = some (.cells #[.int .i64 aC,.int .i64 aM,(.slice A0_2 a8.length c0_2),(.slice dU aX.length dM)] 76 (0,0)))∧qaa (wc.heap[av]? = some (.cells #[.int .i64 aw,.int .i64 ay,(.slice aJ ah.length aH)] 33 (0,0)))∧qaa (wc.heap[aj]? = some (.cells #[.int .i64 0,.int .i64 0,(.slice none 0 0),.int .i64 0,.int .i64 0,(.slice none 0 0),(.slice none 0 0)] 36 (0,0)))∧qaa (wc.heap[aa]? = some (.cells #[.int .i64 aw,.int .i64 ay,(.slice aJ ah.length aH),.int .i64 (wrap64 (1+(Go.bits .and .i64 aC 1))),.int .i64 ai,(.slice none 0 0),(.slice none 0 0)] 36 (0,0)))∧qaa (Below w.heap.size w wc))
   case first=>
    have H:=gH.out
    clear gH
    by_cases gI:fc=true
    ·subst gI
     have H1:(ostinatoref18_Pick_Setup.j1 lO aC aM a8 aX aw ay ah aw ay ah (wrap64 (1+(Go.bits .and .i64 aC 1))) 1)=some (r1,r2,r3,r4,r5,r6,r7):=by rw [if_pos rfl] at H;exact H
     clear H
     have H:=H1
     clear H1
     have H':=qaa.mk H
     clear H
     have mX:=aV.out
     have mY:=ak.out
     have mZ:=aW.out
     have m7:=al.out
     have m8:=ba.out
     have m9:=aq.out
     obtain⟨ed,ef,eg,eh,ek,el,en⟩:=sC7 (w:=wc) ab.out
     obtain⟨dB,dC,dD,dE,dF,dG,dH⟩:=sF7 ab.out
     go_wp2
     go_meet
     case rel=>exact⟨_,(1),H',⟨by have:=fz.out;first|omega|exact Nat.le_refl _⟩,⟨by refine sVm ?_;exact Kd.V_mono (Kd.V_far (p:=⟨aa,4,none⟩) (Kd.V_mono ac.out (fun k_ hk=>(⟨hk,hk.2.2.2.2⟩:_∧k_≠aa))) (fun _ hk=>hk.2) (.int .i64 1)) (fun _ hk=>⟨hk.1.1,⟨hk.1.2.1,⟨hk.1.2.2.1,⟨hk.1.2.2.2.1,hk.1.2.2.2.2⟩⟩⟩⟩)⟩,⟨by refine sVm ?_;exact Kd.V_mono (Kd.V_far (p:=⟨aa,4,none⟩) (Kd.V_mono af.out (fun k_ hk=>(⟨hk,hk.2.2.2.2⟩:_∧k_≠aa))) (fun _ hk=>hk.2) (.int .i64 1)) (fun _ hk=>⟨hk.1.1,⟨hk.1.2.1,⟨hk.1.2.2.1,⟨hk.1.2.2.2.1,hk.1.2.2.2.2⟩⟩⟩⟩)⟩,⟨by refine sM ?_;refine qaf ?_ ak.out _;refine sM ?_;exact am.out⟩,⟨by refine sM ?_;refine qaf ?_ al.out _;refine sM ?_;exact an.out⟩,⟨by refine sM ?_;refine qaf ?_ aq.out _;refine sM ?_;exact ax.out⟩,⟨by refine sM ?_;refine qak (cs:=#[.int .i64 aw,.int .i64 ay,.slice aJ ah.length aH,.int .i64 (wrap64 (1+(Go.bits .and .i64 aC 1))),.int .i64 (wrap64 (1+(Go.bits .and .i64 aM 3))),.slice none 0 0,.slice none 0 0]) ?_ 4 _ rfl;refine sM ?_;exact ab.out⟩,⟨by repeat (first|(with_reducible first|exact HB.out|apply qah|apply qae|apply qag|refine qad ?_ bx.out|refine qad ?_ bz.out|refine qad ?_ bB.out|refine qad ?_ bC.out)|exact HB.out)⟩⟩
    ·replace gI:=Bool.eq_false_iff.mpr gI
     subst gI
     have H1:(ostinatoref18_Pick_Setup.j1 lO aC aM a8 aX aw ay ah aw ay ah (wrap64 (1+(Go.bits .and .i64 aC 1))) (wrap64 (1+(Go.bits .and .i64 aM 3))))=some (r1,r2,r3,r4,r5,r6,r7):=by rw [if_neg (show ¬ (false=true) by decide)] at H;exact H
     clear H
     have H:=H1
     clear H1
     have H':=qaa.mk H
     clear H
     go_wp2
     go_meet
     case rel=>exact⟨_,((wrap64 (1+(Go.bits .and .i64 aM 3)))),H',⟨by have:=fz.out;first|omega|exact Nat.le_refl _⟩,⟨by refine sVm ?_;exact ac.out⟩,⟨by refine sVm ?_;exact af.out⟩,⟨by refine sM ?_;exact am.out⟩,⟨by refine sM ?_;exact an.out⟩,⟨by refine sM ?_;exact ax.out⟩,⟨by refine sM ?_;exact ab.out⟩,⟨by repeat (first|(with_reducible first|exact HB.out|apply qah|apply qae|apply qag|refine qad ?_ bx.out|refine qad ?_ bz.out|refine qad ?_ bB.out|refine qad ?_ bC.out)|exact HB.out)⟩⟩
   case rest=>
    clear gH
    try clear c1
    try clear c2
    try clear p2
    try clear c3
    try clear p6
    try clear c7
    try clear c8
    try clear lE
    try clear lF
    try clear lG
    try clear lH
    try clear fA
    try clear ce
    try clear eC
    try clear lI
    try clear lJ
    try clear lK
    try clear lL
    try clear lM
    try clear lN
    try clear gI
    try clear na
    try clear nb
    try clear nc
    try clear cE cF cG cH
    try clear cM cN cO cP cQ cR cS
    try clear da db dc dd de df dg
    try clear dp dq dr du dv dw dx
    try clear ed ef eg eh ek el en
    try clear ea eb ec
    try clear cI cJ cK cL
    try clear cT cU cV cW cX cY cZ
    try clear dh di dj dk dl dm dn
    try clear dy dz dA cf cg cj ck
    try clear dB dC dD dE dF dG dH
    try clear dN dO dP
    try clear p2
    try clear p6
    obtain⟨kq,ai,HA,dV,ac,af,am,an,ax,ab,HB⟩:=hcut
    cases kq with
    |zero=>exact absurd HA.out (by simp [ostinatoref18_Pick_Setup.j1])
    |succ fG=>
     have H:=HA.out
     clear HA
     simp only [ostinatoref18_Pick_Setup.j1] at H
     replace H:=Option.bind_eq_some_iff.mp H
     obtain⟨aE,hJ,H⟩:=H
     replace H:(ostinatoref18_Pick_Setup.l0 fG aE 0 aC aM a8 aX aw ay ah aw ay ah (wrap64 (1+(Go.bits .and .i64 aC 1))) ai ([]:List Int) ([]:List Int))=some (r1,r2,r3,r4,r5,r6,r7):=H
     have ow:=qaa.mk hJ
     clear hJ
     have H':=qaa.mk H
     clear H
     have ne:=bf.out
     have nf:=be.out
     have ng:=bN.out
     have nh:=bO.out
     have ni:=al.out
     have nj:=aW.out
     obtain⟨fe,ff,fg⟩:=sC3 (w:=wc) an.out
     obtain⟨ep,eq,er⟩:=sF3 an.out
     go_wp2_with (first|((with_reducible refine qaA (f:=53) rfl ?_);refine qa7 (some 32) rfl rfl Tryd.func53 (by kernel_rfl) rfl #[.agg #[.int .i64 aw,.int .i64 ay,.slice aJ ah.length aH]] rfl (by (try simp only [List.map_toArray,List.map_cons,List.map_nil]);first|done|rfl|(simp only [List.length_drop,List.length_take];rfl)) ?_;(with_reducible refine (ostinatoref05_ByPrio.calls fG aw ay (fun k_=>((aI k_∨w.heap.size≤k_)∧(k_≠az∧(k_≠av∧(k_≠aj∧k_≠aa))))) _ _ ah aE _ ?hO ow.out).mono ?_);(case hO=>exact ac.out);rintro e oM ⟨fv,rfl,jL,hb⟩;refine⟨_,rfl,?_⟩;replace ac:=qaa.mk (Kd.V_elder' (sV ac.out) (Kd.N_base jL) hb);replace af:=qaa.mk (Kd.V_elder' (sV af.out) (Kd.N_base jL) hb);have hX:=qaa.mk (Kd.N_lower (Kd.N_mono (ok':=fun k_=>(aI k_∨w.heap.size≤k_)∧k_≠az∧k_≠av∧k_≠aj∧k_≠aa) jL (fun k_ hk_=>⟨Or.elim hk_ (fun hs_=>hs_.1) (fun hn_=>(.inr (Nat.le_trans (qac sB) hn_))),Or.elim hk_ (fun hs_=>hs_.2.1) (fun hn_=>(Kd.freshB (g:=az) (o:=.cells #[.int .i64 aC,.int .i64 aM,.slice A0_2 a8.length c0_2,.slice dU aX.length dM] 76 (0,0)) (sK am.out) k_ hn_)),Or.elim hk_ (fun hs_=>hs_.2.2.1) (fun hn_=>(Kd.freshB (g:=av) (o:=.cells #[.int .i64 aw,.int .i64 ay,.slice aJ ah.length aH] 33 (0,0)) (sK an.out) k_ hn_)),Or.elim hk_ (fun hs_=>hs_.2.2.2.1) (fun hn_=>(Kd.freshB (g:=aj) (o:=.cells #[.int .i64 0,.int .i64 0,.slice none 0 0,.int .i64 0,.int .i64 0,.slice none 0 0,.slice none 0 0] 36 (0,0)) (sK ax.out) k_ hn_)),Or.elim hk_ (fun hs_=>hs_.2.2.2.2) (fun hn_=>(Kd.freshB (g:=aa) (o:=.cells #[.int .i64 aw,.int .i64 ay,.slice aJ ah.length aH,.int .i64 (wrap64 (1+(Go.bits .and .i64 aC 1))),.int .i64 ai,.slice none 0 0,.slice none 0 0] 36 (0,0)) (sK ab.out) k_ hn_))⟩)) (qac sB));replace am:=qaa.mk (sKb am.out hb);replace an:=qaa.mk (sKb an.out hb);replace ax:=qaa.mk (sKb ax.out hb);replace ab:=qaa.mk (sKb ab.out hb);replace HB:=qaa.mk (qai sB hb);(try clear hb);(try clear oN);(try clear hk);(try clear hi);(try clear jL)))
     go_loopg [7] fG (fun kq v7 w'=>∃ (ar:Int) (aG:List Int) (aA:List Int) (au:Value) (ap:Value),v7=.int .i64 ar∧qaa (ostinatoref18_Pick_Setup.l0 kq aE ar aC aM a8 aX aw ay ah aw ay ah (wrap64 (1+(Go.bits .and .i64 aC 1))) ai aG aA=some (r1,r2,r3,r4,r5,r6,r7))∧qaa (kq≤fG)∧qaa (Kd.N k53 53 w' w.heap.size (fun k_=>(aI k_∨w.heap.size≤k_)∧some k_≠(au:Value).ownBlock∧some k_≠(ap:Value).ownBlock∧k_≠az∧k_≠av∧k_≠aj∧k_≠aa) fv aE)∧qaa (Kd.V k53 53 w' w.heap.size (fun k_=>(aI k_∨w.heap.size≤k_)∧some k_≠(fv:Value).ownBlock∧some k_≠(au:Value).ownBlock∧some k_≠(ap:Value).ownBlock∧k_≠az∧k_≠av∧k_≠aj∧k_≠aa) (.slice aJ ah.length aH) ah)∧qaa (Kd.V k53 53 w' w.heap.size (fun k_=>(aI k_∨w.heap.size≤k_)∧some k_≠(fv:Value).ownBlock∧some k_≠(au:Value).ownBlock∧some k_≠(ap:Value).ownBlock∧k_≠az∧k_≠av∧k_≠aj∧k_≠aa) (.slice aJ ah.length aH) ah)∧qaa (Kd.R (Kd.int .i64) 3 w' w.heap.size (fun k_=>(w.heap.size≤k_)) au aG)∧qaa (Kd.R (Kd.int .i64) 2 w' w.heap.size (fun k_=>(w.heap.size≤k_)) ap aA)∧qaa (w'.heap[az]? = some (.cells #[.int .i64 aC,.int .i64 aM,(.slice A0_2 a8.length c0_2),(.slice dU aX.length dM)] 76 (0,0)))∧qaa (w'.heap[av]? = some (.cells #[.int .i64 aw,.int .i64 ay,(.slice aJ ah.length aH)] 33 (0,0)))∧qaa (w'.heap[aj]? = some (.cells #[.int .i64 0,.int .i64 0,(.slice none 0 0),.int .i64 0,.int .i64 0,(.slice none 0 0),(.slice none 0 0)] 36 (0,0)))∧qaa (w'.heap[aa]? = some (.cells #[.int .i64 aw,.int .i64 ay,(.slice aJ ah.length aH),.int .i64 (wrap64 (1+(Go.bits .and .i64 aC 1))),.int .i64 ai,au,ap] 36 (0,0)))∧qaa (Below w.heap.size w w'))
     case atStart=>exact⟨(0),(([]:List Int)),(([]:List Int)),(.slice none 0 0),(.slice none 0 0),(by first|rfl|(simp;done)|(simp [*];done)),H',⟨Nat.le_refl _⟩,⟨by refine sNm ?_;exact Kd.N_mono hX.out (fun _ hk=>⟨hk.1,⟨(by simp [Value.ownBlock]),⟨(by simp [Value.ownBlock]),⟨hk.2.1,⟨hk.2.2.1,⟨hk.2.2.2.1,hk.2.2.2.2⟩⟩⟩⟩⟩⟩)⟩,⟨by refine sVm ?_;exact Kd.V_mono ac.out (fun _ hk=>⟨hk.1.1,⟨hk.2,⟨(by simp [Value.ownBlock]),⟨(by simp [Value.ownBlock]),⟨hk.1.2.1,⟨hk.1.2.2.1,⟨hk.1.2.2.2.1,hk.1.2.2.2.2⟩⟩⟩⟩⟩⟩⟩)⟩,⟨by refine sVm ?_;exact Kd.V_mono af.out (fun _ hk=>⟨hk.1.1,⟨hk.2,⟨(by simp [Value.ownBlock]),⟨(by simp [Value.ownBlock]),⟨hk.1.2.1,⟨hk.1.2.2.1,⟨hk.1.2.2.2.1,hk.1.2.2.2.2⟩⟩⟩⟩⟩⟩⟩)⟩,⟨by first|exact Kd.R_nil _ _ _ _ _|exact Kd.N_nil _ _ _ _ _|exact Kd.V_nil _ _ _ _ _|exact Kd.Q_nil _ _ _ _ _|exact Kd.S_nil _ _ _ _ _⟩,⟨by first|exact Kd.R_nil _ _ _ _ _|exact Kd.N_nil _ _ _ _ _|exact Kd.V_nil _ _ _ _ _|exact Kd.Q_nil _ _ _ _ _|exact Kd.S_nil _ _ _ _ _⟩,⟨by refine sM ?_;exact am.out⟩,⟨by refine sM ?_;exact an.out⟩,⟨by refine sM ?_;exact ax.out⟩,⟨by refine sM ?_;exact ab.out⟩,⟨by repeat (first|(with_reducible first|exact HB.out|apply qah|apply qae|apply qag|refine qad ?_ bx.out|refine qad ?_ bz.out|refine qad ?_ bB.out|refine qad ?_ bC.out)|exact HB.out)⟩⟩
     case round=>
      clear H'
      try clear c1
      try clear c2
      try clear p2
      try clear c3
      try clear c5
      try clear p6
      try clear c7
      try clear c8
      try clear lE
      try clear lF
      try clear lG
      try clear lH
      try clear fA
      try clear ce
      try clear eC
      try clear lI
      try clear lJ
      try clear lK
      try clear lL
      try clear lM
      try clear lN
      try clear gI
      try clear na
      try clear nb
      try clear nc
      try clear ox
      try clear oy
      try clear oz
      try clear cE cF cG cH
      try clear cM cN cO cP cQ cR cS
      try clear da db dc dd de df dg
      try clear dp dq dr du dv dw dx
      try clear ed ef eg eh ek el en
      try clear fe ff fg
      try clear ea eb ec
      try clear cI cJ cK cL
      try clear cT cU cV cW cX cY cZ
      try clear dh di dj dk dl dm dn
      try clear dy dz dA cf cg cj ck
      try clear dB dC dD dE dF dG dH
      try clear ep eq er
      try clear dN dO dP
      try clear p2
      try clear p6
      obtain⟨ar,aG,aA,au,ap,rfl,HA,fE,aU,ac,af,ag,ae,am,an,ax,ab,HB⟩:=hrel
      cases gk with
      |zero=>exact absurd HA.out (by simp [ostinatoref18_Pick_Setup.l0])
      |succ k3=>
       have H:=HA.out
       clear HA
       simp only [ostinatoref18_Pick_Setup.l0] at H
       by_cases gJ:ar<(ah.length:Int)
       ·rw [if_pos gJ] at H
        have gz:decide (ar<(ah.length:Int))=true:=decide_eq_true gJ
        clear gJ
        have H':=qaa.mk H
        clear H
        have nk:=bf.out
        have nl:=be.out
        have nm:=bN.out
        have nn:=bO.out
        have no:=al.out
        have np:=aW.out
        obtain⟨fH,fI,fJ⟩:=sC3 (w:=wr) an.out
        obtain⟨fh,fi,fj⟩:=sF3 an.out
        go_wp2
        go_loopg [8,9] k3 (fun kq v8 v9 w'=>∃ (aN:List Int) (aD:Int),v9=.int .i64 aD∧qaa (ostinatoref18_Pick_Setup.l1 kq aE ar aN aD aC aM a8 aX aw ay ah aw ay ah (wrap64 (1+(Go.bits .and .i64 aC 1))) ai aG aA=some (r1,r2,r3,r4,r5,r6,r7))∧qaa (kq≤k3)∧qaa (Kd.N k53 53 w' w.heap.size (fun k_=>(aI k_∨w.heap.size≤k_)∧some k_≠(v8:Value).ownBlock∧some k_≠(au:Value).ownBlock∧some k_≠(ap:Value).ownBlock∧k_≠az∧k_≠av∧k_≠aj∧k_≠aa) fv aE)∧qaa (Kd.R (Kd.int .i64) 3 w' w.heap.size (fun k_=>(w.heap.size≤k_)∧some k_≠(au:Value).ownBlock) v8 aN)∧qaa (Kd.V k53 53 w' w.heap.size (fun k_=>(aI k_∨w.heap.size≤k_)∧some k_≠(fv:Value).ownBlock∧some k_≠(v8:Value).ownBlock∧some k_≠(au:Value).ownBlock∧some k_≠(ap:Value).ownBlock∧k_≠az∧k_≠av∧k_≠aj∧k_≠aa) (.slice aJ ah.length aH) ah)∧qaa (Kd.V k53 53 w' w.heap.size (fun k_=>(aI k_∨w.heap.size≤k_)∧some k_≠(fv:Value).ownBlock∧some k_≠(v8:Value).ownBlock∧some k_≠(au:Value).ownBlock∧some k_≠(ap:Value).ownBlock∧k_≠az∧k_≠av∧k_≠aj∧k_≠aa) (.slice aJ ah.length aH) ah)∧qaa (Kd.R (Kd.int .i64) 3 w' w.heap.size (fun k_=>(w.heap.size≤k_)∧some k_≠(v8:Value).ownBlock) au aG)∧qaa (Kd.R (Kd.int .i64) 2 w' w.heap.size (fun k_=>(w.heap.size≤k_)) ap aA)∧qaa (w'.heap[az]? = some (.cells #[.int .i64 aC,.int .i64 aM,(.slice A0_2 a8.length c0_2),(.slice dU aX.length dM)] 76 (0,0)))∧qaa (w'.heap[av]? = some (.cells #[.int .i64 aw,.int .i64 ay,(.slice aJ ah.length aH)] 33 (0,0)))∧qaa (w'.heap[aj]? = some (.cells #[.int .i64 0,.int .i64 0,(.slice none 0 0),.int .i64 0,.int .i64 0,(.slice none 0 0),(.slice none 0 0)] 36 (0,0)))∧qaa (w'.heap[aa]? = some (.cells #[.int .i64 aw,.int .i64 ay,(.slice aJ ah.length aH),.int .i64 (wrap64 (1+(Go.bits .and .i64 aC 1))),.int .i64 ai,au,ap] 36 (0,0)))∧qaa (Below w.heap.size w w'))
        case atStart=>exact⟨(([]:List Int)),(0),(by first|rfl|(simp;done)|(simp [*];done)),H',⟨Nat.le_refl _⟩,⟨by refine sNm ?_;exact Kd.N_mono aU.out (fun _ hk=>⟨hk.1,⟨(by simp [Value.ownBlock]),⟨hk.2.1,⟨hk.2.2.1,⟨hk.2.2.2.1,⟨hk.2.2.2.2.1,⟨hk.2.2.2.2.2.1,hk.2.2.2.2.2.2⟩⟩⟩⟩⟩⟩⟩)⟩,⟨by first|exact Kd.R_nil _ _ _ _ _|exact Kd.N_nil _ _ _ _ _|exact Kd.V_nil _ _ _ _ _|exact Kd.Q_nil _ _ _ _ _|exact Kd.S_nil _ _ _ _ _⟩,⟨by refine sVm ?_;exact Kd.V_mono ac.out (fun _ hk=>⟨hk.1,⟨hk.2.1,⟨(by simp [Value.ownBlock]),⟨hk.2.2.1,⟨hk.2.2.2.1,⟨hk.2.2.2.2.1,⟨hk.2.2.2.2.2.1,⟨hk.2.2.2.2.2.2.1,hk.2.2.2.2.2.2.2⟩⟩⟩⟩⟩⟩⟩⟩)⟩,⟨by refine sVm ?_;exact Kd.V_mono af.out (fun _ hk=>⟨hk.1,⟨hk.2.1,⟨(by simp [Value.ownBlock]),⟨hk.2.2.1,⟨hk.2.2.2.1,⟨hk.2.2.2.2.1,⟨hk.2.2.2.2.2.1,⟨hk.2.2.2.2.2.2.1,hk.2.2.2.2.2.2.2⟩⟩⟩⟩⟩⟩⟩⟩)⟩,⟨by refine sRm ?_;exact Kd.R_mono ag.out (fun _ hk=>⟨hk,(by simp [Value.ownBlock])⟩)⟩,⟨by refine sRm ?_;exact ae.out⟩,⟨by refine sM ?_;exact am.out⟩,⟨by refine sM ?_;exact an.out⟩,⟨by refine sM ?_;exact ax.out⟩,⟨by refine sM ?_;exact ab.out⟩,⟨by repeat (first|(with_reducible first|exact HB.out|apply qah|apply qae|apply qag|refine qad ?_ bx.out|refine qad ?_ bz.out|refine qad ?_ bB.out|refine qad ?_ bC.out)|exact HB.out)⟩⟩
        case round=>
         clear H'
         try clear c1
         try clear c2
         try clear p2
         try clear c3
         try clear c4
         try clear c5
         try clear p6
         try clear c7
         try clear c8
         try clear lE
         try clear lF
         try clear lG
         try clear lH
         try clear fA
         try clear ce
         try clear eC
         try clear lI
         try clear lJ
         try clear lK
         try clear lL
         try clear lM
         try clear lN
         try clear gI
         try clear na
         try clear nb
         try clear nc
         try clear ox
         try clear oy
         try clear oz
         try clear gJ
         try clear gz
         try clear oO
         try clear oP
         try clear oQ
         try clear cE cF cG cH
         try clear cM cN cO cP cQ cR cS
         try clear da db dc dd de df dg
         try clear dp dq dr du dv dw dx
         try clear ed ef eg eh ek el en
         try clear fe ff fg
         try clear fH fI fJ
         try clear ea eb ec
         try clear cI cJ cK cL
         try clear cT cU cV cW cX cY cZ
         try clear dh di dj dk dl dm dn
         try clear dy dz dA cf cg cj ck
         try clear dB dC dD dE dF dG dH
         try clear ep eq er
         try clear fh fi fj
         try clear dN dO dP
         try clear p2
         try clear p6
         obtain⟨aN,aD,rfl,HA,fF,aU,aY,ac,af,ag,ae,am,an,ax,ab,HB⟩:=hrel
         cases gk with
         |zero=>exact absurd HA.out (by simp [ostinatoref18_Pick_Setup.l1])
         |succ k4=>
          have H:=HA.out
          clear HA
          simp only [ostinatoref18_Pick_Setup.l1] at H
          by_cases gK:aD<(aE.length:Int)
          ·rw [if_pos gK] at H
           have gA:decide (aD<(aE.length:Int))=true:=decide_eq_true gK
           clear gK
           by_cases hY:0≤aD
           ·rw [if_pos hY] at H
            have ia:decide (0≤aD)=true:=decide_eq_true hY
            clear hY
            by_cases ib:0≤ar
            ·rw [if_pos ib] at H
             have ic:decide (0≤ar)=true:=decide_eq_true ib
             clear ib
             by_cases ie:ar<(ah.length:Int)
             ·rw [if_pos ie] at H
              have ig:decide (ar<(ah.length:Int))=true:=decide_eq_true ie
              clear ie
              by_cases gL:((qaj aE aD).f4)≤((qaj ah ar).f4)
              ·rw [if_pos gL] at H
               have gB:decide (((qaj aE aD).f4)≤((qaj ah ar).f4))=true:=decide_eq_true gL
               clear gL
               by_cases ii:aN.length<17592186044416
               ·rw [if_pos ii] at H
                have ij:=qaa.mk ii
                clear ii
                obtain⟨ik,eD⟩:∃ y_:List Int,y_=(aN++[(qaj aE aD).f4]):=⟨_,rfl⟩
                replace H:(ostinatoref18_Pick_Setup.l1 k4 aE ar ik (wrap64 (aD+1)) aC aM a8 aX aw ay ah aw ay ah (wrap64 (1+(Go.bits .and .i64 aC 1))) ai aG aA)=some (r1,r2,r3,r4,r5,r6,r7):=by first|(rw [eD];with_reducible exact H)|(have eM:=(Option.bind_some _ _).symm.trans H;rw [eD];with_reducible exact eM)|(have eM:=(Option.bind_some _ _).symm.trans H;with_reducible exact eM)|with_reducible exact H|(rw [eD];exact H)|exact H
                have il:=qaa.mk eD
                clear eD
                have H':=qaa.mk H
                clear H
                obtain⟨oB,eE,lP⟩:=Kd.N_slice aU.out
                subst lP
                try go_wp2
                replace aU:=qaa.mk (Kd.N_drew aU.out)
                replace aY:=qaa.mk (Kd.R_drew aY.out)
                replace ac:=qaa.mk (Kd.V_drew ac.out)
                replace af:=qaa.mk (Kd.V_drew af.out)
                replace ag:=qaa.mk (Kd.R_drew ag.out)
                replace ae:=qaa.mk (Kd.R_drew ae.out)
                replace am:=qaa.mk (qax am.out)
                replace an:=qaa.mk (qax an.out)
                replace ax:=qaa.mk (qax ax.out)
                replace ab:=qaa.mk (qax ab.out)
                replace HB:=qaa.mk (qag HB.out)
                have dW:0≤(aD:Int):=of_decide_eq_true sA
                have dX:aD<(aE.length:Int):=of_decide_eq_true sA
                obtain⟨aK,eN,eO,eP,eQ,gM,bP,bQ,bR,bS,bT,bh,bi,cm,co,cp,cq⟩:=at_T53 (Kd.N_reads' aU.out).2.2 aD dW dX
                cases gM
                obtain⟨im,eR,eS,b8⟩:=Kd.N_get aU.out z53 aD dW (by first|exact dX|exact of_decide_eq_true sA|(have e_:=(Kd.N_reads' aU.out).1;omega))
                obtain⟨fK,fL,fM,fN,rfl,bD,bE,bF,bG⟩:=qa8 eS
                have bj:=b8 5 _ rfl
                rw [qat _ _ 5 (by omega)] at bj
                replace bj:=Option.some.inj (bj.symm.trans bh)
                injection bj with hva_ hvn_ hvc_
                rw [hva_] at bE
                rw [hvc_] at bD
                have cr:=qaa.mk (show Kd.V (Kd.int .i64) 2 _ w.heap.size _ _ ((qaj aE aD).f5) from Kd.V_mk bD bE)
                clear hva_ hvn_ hvc_ bE bD
                have bm:=b8 6 _ rfl
                rw [qat _ _ 6 (by omega)] at bm
                replace bm:=Option.some.inj (bm.symm.trans bi)
                injection bm with hva_ hvn_ hvc_
                rw [hva_] at bG
                rw [hvc_] at bF
                have ct:=qaa.mk (show Kd.V (Kd.int .i64) 3 _ w.heap.size _ _ ((qaj aE aD).f6) from Kd.V_mk bF bG)
                clear hva_ hvn_ hvc_ bG bF b8 eR
                have es:=qaa.mk co
                have fO:=qaa.mk cm
                clear co cm
                have et:=qaa.mk cq
                have fP:=qaa.mk cp
                clear cq cp
                replace dW:=eq_true dW
                replace dX:=eq_true dX
                have dY:0≤(ar:Int):=of_decide_eq_true sA
                have dZ:ar<(ah.length:Int):=of_decide_eq_true sA
                obtain⟨aT,eT,eU,eV,eW,gN,bU,bV,bW,bX,bY,bv,bw,cu,cv,cw,cx⟩:=at_T53 (Kd.V_reads' ac.out).2.2 ar dY dZ
                cases gN
                obtain⟨io,eX,eY,b9⟩:=Kd.V_get ac.out z53 ar dY (by first|exact dZ|exact of_decide_eq_true sA|(have e_:=(Kd.V_reads' ac.out).1;omega))
                obtain⟨fQ,fR,fS,fT,rfl,bH,bI,bJ,bK⟩:=qa8 eY
                have bn:=b9 5 _ rfl
                rw [qat _ _ 5 (by omega)] at bn
                replace bn:=Option.some.inj (bn.symm.trans bv)
                injection bn with hva_ hvn_ hvc_
                rw [hva_] at bI
                rw [hvc_] at bH
                have cy:=qaa.mk (show Kd.V (Kd.int .i64) 2 _ w.heap.size _ _ ((qaj ah ar).f5) from Kd.V_mk bH bI)
                clear hva_ hvn_ hvc_ bI bH
                have bp:=b9 6 _ rfl
                rw [qat _ _ 6 (by omega)] at bp
                replace bp:=Option.some.inj (bp.symm.trans bw)
                injection bp with hva_ hvn_ hvc_
                rw [hva_] at bK
                rw [hvc_] at bJ
                have cz:=qaa.mk (show Kd.V (Kd.int .i64) 3 _ w.heap.size _ _ ((qaj ah ar).f6) from Kd.V_mk bJ bK)
                clear hva_ hvn_ hvc_ bK bJ b9 eX
                have eu:=qaa.mk cv
                have fU:=qaa.mk cu
                clear cv cu
                have ev:=qaa.mk cx
                have fV:=qaa.mk cw
                clear cx cw
                replace dY:=eq_true dY
                replace dZ:=eq_true dZ
                refine start_ (n:=12) (S:=fun w'=>w'.cell? ⟨av,0,none⟩=some (.int .i64 aw)∧w'.cell? ⟨av,1,none⟩=some (.int .i64 ay)∧w'.cell? ⟨av,2,none⟩=some (.slice (some aT) ah.length aH)∧w'.cell? (aK.add ((aD).toNat * 7))=some (.int .i64 ((qaj aE aD).f0))∧w'.cell? ⟨(aK.add ((aD).toNat * 7)).block,(aK.add ((aD).toNat * 7)).off+1,none⟩=some (.int .i64 ((qaj aE aD).f1))∧w'.cell? ⟨(aK.add ((aD).toNat * 7)).block,(aK.add ((aD).toNat * 7)).off+2,none⟩=some (.int .i64 ((qaj aE aD).f2))∧w'.cell? ⟨(aK.add ((aD).toNat * 7)).block,(aK.add ((aD).toNat * 7)).off+3,none⟩=some (.int .i64 ((qaj aE aD).f3))∧w'.cell? ⟨(aK.add ((aD).toNat * 7)).block,(aK.add ((aD).toNat * 7)).off+4,none⟩=some (.int .i64 ((qaj aE aD).f4))∧w'.cell? ⟨(aK.add ((aD).toNat * 7)).block,(aK.add ((aD).toNat * 7)).off+5,none⟩=some (.slice eN ((qaj aE aD).f5).length eO)∧w'.cell? ⟨(aK.add ((aD).toNat * 7)).block,(aK.add ((aD).toNat * 7)).off+6,none⟩=some (.slice eP ((qaj aE aD).f6).length eQ)∧w'.cell? (aT.add ((ar).toNat * 7))=some (.int .i64 ((qaj ah ar).f0))∧w'.cell? ⟨(aT.add ((ar).toNat * 7)).block,(aT.add ((ar).toNat * 7)).off+1,none⟩=some (.int .i64 ((qaj ah ar).f1))∧w'.cell? ⟨(aT.add ((ar).toNat * 7)).block,(aT.add ((ar).toNat * 7)).off+2,none⟩=some (.int .i64 ((qaj ah ar).f2))∧w'.cell? ⟨(aT.add ((ar).toNat * 7)).block,(aT.add ((ar).toNat * 7)).off+3,none⟩=some (.int .i64 ((qaj ah ar).f3))∧w'.cell? ⟨(aT.add ((ar).toNat * 7)).block,(aT.add ((ar).toNat * 7)).off+4,none⟩=some (.int .i64 ((qaj ah ar).f4))∧w'.cell? ⟨(aT.add ((ar).toNat * 7)).block,(aT.add ((ar).toNat * 7)).off+5,none⟩=some (.slice eT ((qaj ah ar).f5).length eU)∧w'.cell? ⟨(aT.add ((ar).toNat * 7)).block,(aT.add ((ar).toNat * 7)).off+6,none⟩=some (.slice eV ((qaj ah ar).f6).length eW)) (ds:=[]) #[false,false,false,false,false,false,false,false,false,false,false,false] (by kernel_rfl) rfl rfl ⟨(qab an.out 0).trans rfl,(qab an.out 1).trans rfl,(qab an.out 2).trans rfl,bP,bQ,bR,bS,bT,bh,bi,bU,bV,bW,bX,bY,bv,bw⟩ (fun hHeld=>?_);refine qaX ostinatoref18_Pick_Setup.tab12 ostinatoref18_Pick_Setup.bits12 (fun HT_ HW_=>?_)
                generalize wr.drew=oR at aU aY ac af ag ae am an ax ab HB cr ct cy cz es et eu ev bP bQ bR bS bT bh bi bU bV bW bX bY bv bw hHeld ⊢
                refine sP 0 (some 46) rfl rfl ?_
                refine sP 1 (some 47) rfl rfl ?_
                refine sP 2 (some 48) rfl rfl ?_
                refine sP 3 (some 49) rfl rfl ?_
                refine sP 5 (some 51) rfl rfl ?_
                refine sP 7 (some 53) rfl rfl ?_
                refine qaZ (i:=4) (N:=some 50) (v:=?_) (a':=?_) #[true,true,true,true,true,true,false,true,false,false,false,false] rfl rfl (qay HT_.out HW_.out (by kernel_rfl)) (fun _ _ _ h=>h) (Or.inl ⟨by rfl,?_⟩) hHeld ?_ ?_
                rotate_left
                ·rintro w' ⟨s0,s1,s2,s3,s4,s5,s6,s7,s8,s9,ip,iq,ir,iu,iv,iw,ix⟩
                 go_simp
                 with_reducible rfl
                rotate_left
                ·simp only [Act.put,List.setIfInBounds_toArray,List.set_cons_zero,List.set_cons_succ,qaC,qaE]
                 rfl
                refine qaZ (i:=6) (N:=some 52) (v:=?_) (a':=?_) #[true,true,true,true,true,true,true,true,false,false,false,false] rfl rfl (qay HT_.out HW_.out (by kernel_rfl)) (fun _ _ _ h=>h) (Or.inl ⟨by rfl,?_⟩) hHeld ?_ ?_
                rotate_left
                ·rintro w' ⟨s0,s1,s2,s3,s4,s5,s6,s7,s8,s9,ip,iq,ir,iu,iv,iw,ix⟩
                 go_simp
                 with_reducible rfl
                rotate_left
                ·simp only [Act.put,List.setIfInBounds_toArray,List.set_cons_zero,List.set_cons_succ,qaC,qaE]
                 rfl
                refine sP 8 (some 54) rfl rfl ?_
                refine sP 9 (some 55) rfl rfl ?_
                refine qaZ (i:=10) (N:=some 56) (v:=?_) (a':=?_) #[true,true,true,true,true,true,true,true,true,true,true,false] rfl rfl (qay HT_.out HW_.out (by kernel_rfl)) (fun _ _ _ h=>h) (Or.inl ⟨by rfl,?_⟩) hHeld ?_ ?_
                rotate_left
                ·rintro w' ⟨s0,s1,s2,s3,s4,s5,s6,s7,s8,s9,ip,iq,ir,iu,iv,iw,ix⟩
                 go_simp
                 with_reducible rfl
                rotate_left
                ·simp only [Act.put,List.setIfInBounds_toArray,List.set_cons_zero,List.set_cons_succ,qaC,qaE]
                 rfl
                refine sP 11 (some 57) rfl rfl ?_
                refine done_ (done_of HT_.out (by kernel_rfl)) ?_
                have fB:0≤(aD:Int):=of_decide_eq_true sA
                have fC:aD<(aE.length:Int):=of_decide_eq_true sA
                obtain⟨iy,lQ,lR,lS,lT,lU,fW,fX,fY,fZ,ga,ew,ex,fk,fl,fm,fo⟩:=at_T53 (Kd.N_reads' aU.out).2.2 aD fB fC
                obtain rfl:aK=iy:=(by injection lU)
                obtain⟨nq,gO,gP,eZ⟩:=Kd.N_get aU.out z53 aD fB (by first|exact fC|exact of_decide_eq_true sA|(have e_:=(Kd.N_reads' aU.out).1;omega))
                obtain⟨jM,jN,jO,jP,rfl,ey,ez,eA,eB⟩:=qa8 gP
                have dI:=eZ 5 _ rfl
                rw [qat _ _ 5 (by omega)] at dI
                replace dI:=Option.some.inj (dI.symm.trans ew)
                injection dI with hva_ hvn_ hvc_
                rw [hva_] at ez
                rw [hvc_] at ey
                have fp:=qaa.mk (show Kd.V (Kd.int .i64) 2 _ w.heap.size _ _ ((qaj aE aD).f5) from Kd.V_mk ey ez)
                clear hva_ hvn_ hvc_ ez ey
                have dJ:=eZ 6 _ rfl
                rw [qat _ _ 6 (by omega)] at dJ
                replace dJ:=Option.some.inj (dJ.symm.trans ex)
                injection dJ with hva_ hvn_ hvc_
                rw [hva_] at eB
                rw [hvc_] at eA
                have fq:=qaa.mk (show Kd.V (Kd.int .i64) 3 _ w.heap.size _ _ ((qaj aE aD).f6) from Kd.V_mk eA eB)
                clear hva_ hvn_ hvc_ eB eA eZ gO
                have jQ:=qaa.mk fl
                have jR:=qaa.mk fk
                clear fl fk
                have jS:=qaa.mk fo
                have jT:=qaa.mk fm
                clear fo fm
                replace fB:=eq_true fB
                replace fC:=eq_true fC
                have ea_:=Option.some.inj (bh.symm.trans ew)
                injection ea_ with ea_ en_ ec_
                subst ea_
                subst ec_
                clear en_
                have ea_:=Option.some.inj (bi.symm.trans ex)
                injection ea_ with ea_ en_ ec_
                subst ea_
                subst ec_
                clear en_
                try go_wp2_with (first|((with_reducible refine qaB (b:=.append) (xs:=#[.tmp 58,.tmp 64]) rfl ?_);at_builtin;refine Kd.R_append (Kd.int .i64) (w0:=w) w.heap.size rfl (.tmp 58) (.tmp 64) 25 3 (.int .i64 0) 8 rfl Tryd.underlying25 info3 rfl (by decide) (by omega) u8 aN ((qaj aE aD).f4) [.int .i64 ((qaj aE aD).f4)] (fun k_=>(w.heap.size≤k_)∧some k_≠(au:Value).ownBlock) (fun _=>False) rfl rfl ?aP (fun _ hk=>hk.elim) ?aF ?aO ?aB ?aS ?aL ?_;(case aP=>exact rfl);(case aB=>exact sB);(case aF=>exact (fun k_ hk=>⟨(Nat.le_trans (qac sB) hk),Kd.fresh' (Kd.R_lt (sR ag.out)) k_ hk⟩));(case aO=>exact (sR aY.out));(case aS=>exact (qac sB));(case aL=>have:=ij.out;omega);intro oC oS ho hb hg hat;rw [← il.out] at ho;replace aU:=qaa.mk (Kd.N_afterv (ok:=(fun k_=>(aI k_∨w.heap.size≤k_)∧some k_≠(au:Value).ownBlock∧some k_≠(ap:Value).ownBlock∧k_≠az∧k_≠av∧k_≠aj∧k_≠aa)) (by refine sNm ?_;exact Kd.N_mono aU.out (fun _ hk=>⟨⟨hk.1,⟨hk.2.2.1,⟨hk.2.2.2.1,⟨hk.2.2.2.2.1,⟨hk.2.2.2.2.2.1,⟨hk.2.2.2.2.2.2.1,hk.2.2.2.2.2.2.2⟩⟩⟩⟩⟩⟩,hk.2.1⟩)) hg hat);replace ac:=qaa.mk (Kd.V_afterv (ok:=(fun k_=>(aI k_∨w.heap.size≤k_)∧some k_≠(.slice (some aK) aE.length eE:Value).ownBlock∧some k_≠(au:Value).ownBlock∧some k_≠(ap:Value).ownBlock∧k_≠az∧k_≠av∧k_≠aj∧k_≠aa)) (by refine sVm ?_;exact Kd.V_mono ac.out (fun _ hk=>⟨⟨hk.1,⟨hk.2.1,⟨hk.2.2.2.1,⟨hk.2.2.2.2.1,⟨hk.2.2.2.2.2.1,⟨hk.2.2.2.2.2.2.1,⟨hk.2.2.2.2.2.2.2.1,hk.2.2.2.2.2.2.2.2⟩⟩⟩⟩⟩⟩⟩,hk.2.2.1⟩)) hg hat);replace af:=qaa.mk (Kd.V_afterv (ok:=(fun k_=>(aI k_∨w.heap.size≤k_)∧some k_≠(.slice (some aK) aE.length eE:Value).ownBlock∧some k_≠(au:Value).ownBlock∧some k_≠(ap:Value).ownBlock∧k_≠az∧k_≠av∧k_≠aj∧k_≠aa)) (by refine sVm ?_;exact Kd.V_mono af.out (fun _ hk=>⟨⟨hk.1,⟨hk.2.1,⟨hk.2.2.2.1,⟨hk.2.2.2.2.1,⟨hk.2.2.2.2.2.1,⟨hk.2.2.2.2.2.2.1,⟨hk.2.2.2.2.2.2.2.1,hk.2.2.2.2.2.2.2.2⟩⟩⟩⟩⟩⟩⟩,hk.2.2.1⟩)) hg hat);replace ag:=qaa.mk (Kd.R_after (ok:=(fun k_=>(w.heap.size≤k_))) (sR ag.out) hg hat);replace ae:=qaa.mk (Kd.R_over' (sR ae.out) (Kd.R_typed (sR aY.out)) (by decide) hg);replace am:=qaa.mk (sKg am.out hg (Kd.R_ne aY.out am.out (by decide)));replace an:=qaa.mk (sKg an.out hg (Kd.R_ne aY.out an.out (by decide)));replace ax:=qaa.mk (sKg ax.out hg (Kd.R_ne aY.out ax.out (by decide)));replace ab:=qaa.mk (sKg ab.out hg (Kd.R_ne aY.out ab.out (by decide)));replace cr:=qaa.mk (Kd.V_afterv (ok:=(fun k_=>(aI k_∨w.heap.size≤k_)∧some k_≠(.slice (some aK) aE.length eE:Value).ownBlock∧some k_≠(au:Value).ownBlock∧some k_≠(ap:Value).ownBlock∧k_≠az∧k_≠av∧k_≠aj∧k_≠aa)) (by refine sVm ?_;exact Kd.V_mono cr.out (fun _ hk=>⟨⟨hk.1.1,⟨hk.2,⟨hk.1.2.2.1,⟨hk.1.2.2.2.1,⟨hk.1.2.2.2.2.1,⟨hk.1.2.2.2.2.2.1,⟨hk.1.2.2.2.2.2.2.1,hk.1.2.2.2.2.2.2.2⟩⟩⟩⟩⟩⟩⟩,hk.1.2.1⟩)) hg hat);replace ct:=qaa.mk (Kd.V_afterv (ok:=(fun k_=>(aI k_∨w.heap.size≤k_)∧some k_≠(.slice (some aK) aE.length eE:Value).ownBlock∧some k_≠(au:Value).ownBlock∧some k_≠(ap:Value).ownBlock∧k_≠az∧k_≠av∧k_≠aj∧k_≠aa)) (by refine sVm ?_;exact Kd.V_mono ct.out (fun _ hk=>⟨⟨hk.1.1,⟨hk.2,⟨hk.1.2.2.1,⟨hk.1.2.2.2.1,⟨hk.1.2.2.2.2.1,⟨hk.1.2.2.2.2.2.1,⟨hk.1.2.2.2.2.2.2.1,hk.1.2.2.2.2.2.2.2⟩⟩⟩⟩⟩⟩⟩,hk.1.2.1⟩)) hg hat);replace cy:=qaa.mk (Kd.V_afterv (ok:=(fun k_=>(aI k_∨w.heap.size≤k_)∧some k_≠(.slice (some aK) aE.length eE:Value).ownBlock∧some k_≠(au:Value).ownBlock∧some k_≠(ap:Value).ownBlock∧k_≠az∧k_≠av∧k_≠aj∧k_≠aa)) (by refine sVm ?_;exact Kd.V_mono cy.out (fun _ hk=>⟨⟨hk.1,⟨hk.2.1,⟨hk.2.2.2.1,⟨hk.2.2.2.2.1,⟨hk.2.2.2.2.2.1,⟨hk.2.2.2.2.2.2.1,⟨hk.2.2.2.2.2.2.2.1,hk.2.2.2.2.2.2.2.2⟩⟩⟩⟩⟩⟩⟩,hk.2.2.1⟩)) hg hat);replace cz:=qaa.mk (Kd.V_afterv (ok:=(fun k_=>(aI k_∨w.heap.size≤k_)∧some k_≠(.slice (some aK) aE.length eE:Value).ownBlock∧some k_≠(au:Value).ownBlock∧some k_≠(ap:Value).ownBlock∧k_≠az∧k_≠av∧k_≠aj∧k_≠aa)) (by refine sVm ?_;exact Kd.V_mono cz.out (fun _ hk=>⟨⟨hk.1,⟨hk.2.1,⟨hk.2.2.2.1,⟨hk.2.2.2.2.1,⟨hk.2.2.2.2.2.1,⟨hk.2.2.2.2.2.2.1,⟨hk.2.2.2.2.2.2.2.1,hk.2.2.2.2.2.2.2.2⟩⟩⟩⟩⟩⟩⟩,hk.2.2.1⟩)) hg hat);replace fp:=qaa.mk (Kd.V_afterv (ok:=(fun k_=>(aI k_∨w.heap.size≤k_)∧some k_≠(.slice (some aK) aE.length eE:Value).ownBlock∧some k_≠(au:Value).ownBlock∧some k_≠(ap:Value).ownBlock∧k_≠az∧k_≠av∧k_≠aj∧k_≠aa)) (by refine sVm ?_;exact Kd.V_mono fp.out (fun _ hk=>⟨⟨hk.1.1,⟨hk.2,⟨hk.1.2.2.1,⟨hk.1.2.2.2.1,⟨hk.1.2.2.2.2.1,⟨hk.1.2.2.2.2.2.1,⟨hk.1.2.2.2.2.2.2.1,hk.1.2.2.2.2.2.2.2⟩⟩⟩⟩⟩⟩⟩,hk.1.2.1⟩)) hg hat);replace fq:=qaa.mk (Kd.V_afterv (ok:=(fun k_=>(aI k_∨w.heap.size≤k_)∧some k_≠(.slice (some aK) aE.length eE:Value).ownBlock∧some k_≠(au:Value).ownBlock∧some k_≠(ap:Value).ownBlock∧k_≠az∧k_≠av∧k_≠aj∧k_≠aa)) (by refine sVm ?_;exact Kd.V_mono fq.out (fun _ hk=>⟨⟨hk.1.1,⟨hk.2,⟨hk.1.2.2.1,⟨hk.1.2.2.2.1,⟨hk.1.2.2.2.2.1,⟨hk.1.2.2.2.2.2.1,⟨hk.1.2.2.2.2.2.2.1,hk.1.2.2.2.2.2.2.2⟩⟩⟩⟩⟩⟩⟩,hk.1.2.1⟩)) hg hat);replace HB:=qaa.mk (hb);have iz:=qaa.mk (ho);clear aY ho hb hg hat))
                go_roundg k4
                case measure=>have:=fz.out;have:=dV.out;have:=fE.out;have:=fF.out;omega
                case rel=>exact⟨(ik),(wrap64 (aD+1)),(by first|rfl|(simp;done)|(simp [*];done)),H',⟨by have:=fz.out;have:=dV.out;have:=fE.out;have:=fF.out;omega⟩,⟨by refine sNm ?_;exact Kd.N_mono aU.out (fun _ hk=>⟨hk.1.1,⟨hk.2,⟨hk.1.2.1,⟨hk.1.2.2.1,⟨hk.1.2.2.2.1,⟨hk.1.2.2.2.2.1,⟨hk.1.2.2.2.2.2.1,hk.1.2.2.2.2.2.2⟩⟩⟩⟩⟩⟩⟩)⟩,⟨by refine sRm ?_;exact iz.out⟩,⟨by refine sVm ?_;exact Kd.V_mono ac.out (fun _ hk=>⟨hk.1.1,⟨hk.1.2.1,⟨hk.2,⟨hk.1.2.2.1,⟨hk.1.2.2.2.1,⟨hk.1.2.2.2.2.1,⟨hk.1.2.2.2.2.2.1,⟨hk.1.2.2.2.2.2.2.1,hk.1.2.2.2.2.2.2.2⟩⟩⟩⟩⟩⟩⟩⟩)⟩,⟨by refine sVm ?_;exact Kd.V_mono af.out (fun _ hk=>⟨hk.1.1,⟨hk.1.2.1,⟨hk.2,⟨hk.1.2.2.1,⟨hk.1.2.2.2.1,⟨hk.1.2.2.2.2.1,⟨hk.1.2.2.2.2.2.1,⟨hk.1.2.2.2.2.2.2.1,hk.1.2.2.2.2.2.2.2⟩⟩⟩⟩⟩⟩⟩⟩)⟩,⟨by refine sRm ?_;exact ag.out⟩,⟨by refine sRm ?_;exact ae.out⟩,⟨by refine sM ?_;exact am.out⟩,⟨by refine sM ?_;exact an.out⟩,⟨by refine sM ?_;exact ax.out⟩,⟨by refine sM ?_;exact ab.out⟩,⟨by repeat (first|(with_reducible first|exact HB.out|apply qah|apply qae|apply qag|refine qad ?_ bx.out|refine qad ?_ bz.out|refine qad ?_ bB.out|refine qad ?_ bC.out)|exact HB.out)⟩⟩
               ·rw [if_neg ii] at H
                exact absurd H (by simp)
              ·rw [if_neg gL] at H
               have gB:decide (((qaj aE aD).f4)≤((qaj ah ar).f4))=false:=decide_eq_false gL
               clear gL
               have H':=qaa.mk H
               clear H
               obtain⟨oD,oE,lV⟩:=Kd.N_slice aU.out
               subst lV
               try go_wp2
               replace aU:=qaa.mk (Kd.N_drew aU.out)
               replace aY:=qaa.mk (Kd.R_drew aY.out)
               replace ac:=qaa.mk (Kd.V_drew ac.out)
               replace af:=qaa.mk (Kd.V_drew af.out)
               replace ag:=qaa.mk (Kd.R_drew ag.out)
               replace ae:=qaa.mk (Kd.R_drew ae.out)
               replace am:=qaa.mk (qax am.out)
               replace an:=qaa.mk (qax an.out)
               replace ax:=qaa.mk (qax ax.out)
               replace ab:=qaa.mk (qax ab.out)
               replace HB:=qaa.mk (qag HB.out)
               have dW:0≤(aD:Int):=of_decide_eq_true sA
               have dX:aD<(aE.length:Int):=of_decide_eq_true sA
               obtain⟨aK,eN,eO,eP,eQ,gM,bP,bQ,bR,bS,bT,bh,bi,cm,co,cp,cq⟩:=at_T53 (Kd.N_reads' aU.out).2.2 aD dW dX
               cases gM
               obtain⟨im,eR,eS,b8⟩:=Kd.N_get aU.out z53 aD dW (by first|exact dX|exact of_decide_eq_true sA|(have e_:=(Kd.N_reads' aU.out).1;omega))
               obtain⟨fK,fL,fM,fN,rfl,bD,bE,bF,bG⟩:=qa8 eS
               have bj:=b8 5 _ rfl
               rw [qat _ _ 5 (by omega)] at bj
               replace bj:=Option.some.inj (bj.symm.trans bh)
               injection bj with hva_ hvn_ hvc_
               rw [hva_] at bE
               rw [hvc_] at bD
               have cr:=qaa.mk (show Kd.V (Kd.int .i64) 2 _ w.heap.size _ _ ((qaj aE aD).f5) from Kd.V_mk bD bE)
               clear hva_ hvn_ hvc_ bE bD
               have bm:=b8 6 _ rfl
               rw [qat _ _ 6 (by omega)] at bm
               replace bm:=Option.some.inj (bm.symm.trans bi)
               injection bm with hva_ hvn_ hvc_
               rw [hva_] at bG
               rw [hvc_] at bF
               have ct:=qaa.mk (show Kd.V (Kd.int .i64) 3 _ w.heap.size _ _ ((qaj aE aD).f6) from Kd.V_mk bF bG)
               clear hva_ hvn_ hvc_ bG bF b8 eR
               have es:=qaa.mk co
               have fO:=qaa.mk cm
               clear co cm
               have et:=qaa.mk cq
               have fP:=qaa.mk cp
               clear cq cp
               replace dW:=eq_true dW
               replace dX:=eq_true dX
               have dY:0≤(ar:Int):=of_decide_eq_true sA
               have dZ:ar<(ah.length:Int):=of_decide_eq_true sA
               obtain⟨aT,eT,eU,eV,eW,gN,bU,bV,bW,bX,bY,bv,bw,cu,cv,cw,cx⟩:=at_T53 (Kd.V_reads' ac.out).2.2 ar dY dZ
               cases gN
               obtain⟨io,eX,eY,b9⟩:=Kd.V_get ac.out z53 ar dY (by first|exact dZ|exact of_decide_eq_true sA|(have e_:=(Kd.V_reads' ac.out).1;omega))
               obtain⟨fQ,fR,fS,fT,rfl,bH,bI,bJ,bK⟩:=qa8 eY
               have bn:=b9 5 _ rfl
               rw [qat _ _ 5 (by omega)] at bn
               replace bn:=Option.some.inj (bn.symm.trans bv)
               injection bn with hva_ hvn_ hvc_
               rw [hva_] at bI
               rw [hvc_] at bH
               have cy:=qaa.mk (show Kd.V (Kd.int .i64) 2 _ w.heap.size _ _ ((qaj ah ar).f5) from Kd.V_mk bH bI)
               clear hva_ hvn_ hvc_ bI bH
               have bp:=b9 6 _ rfl
               rw [qat _ _ 6 (by omega)] at bp
               replace bp:=Option.some.inj (bp.symm.trans bw)
               injection bp with hva_ hvn_ hvc_
               rw [hva_] at bK
               rw [hvc_] at bJ
               have cz:=qaa.mk (show Kd.V (Kd.int .i64) 3 _ w.heap.size _ _ ((qaj ah ar).f6) from Kd.V_mk bJ bK)
               clear hva_ hvn_ hvc_ bK bJ b9 eX
               have eu:=qaa.mk cv
               have fU:=qaa.mk cu
               clear cv cu
               have ev:=qaa.mk cx
               have fV:=qaa.mk cw
               clear cx cw
               replace dY:=eq_true dY
               replace dZ:=eq_true dZ
               refine start_ (n:=12) (S:=fun w'=>w'.cell? ⟨av,0,none⟩=some (.int .i64 aw)∧w'.cell? ⟨av,1,none⟩=some (.int .i64 ay)∧w'.cell? ⟨av,2,none⟩=some (.slice (some aT) ah.length aH)∧w'.cell? (aK.add ((aD).toNat * 7))=some (.int .i64 ((qaj aE aD).f0))∧w'.cell? ⟨(aK.add ((aD).toNat * 7)).block,(aK.add ((aD).toNat * 7)).off+1,none⟩=some (.int .i64 ((qaj aE aD).f1))∧w'.cell? ⟨(aK.add ((aD).toNat * 7)).block,(aK.add ((aD).toNat * 7)).off+2,none⟩=some (.int .i64 ((qaj aE aD).f2))∧w'.cell? ⟨(aK.add ((aD).toNat * 7)).block,(aK.add ((aD).toNat * 7)).off+3,none⟩=some (.int .i64 ((qaj aE aD).f3))∧w'.cell? ⟨(aK.add ((aD).toNat * 7)).block,(aK.add ((aD).toNat * 7)).off+4,none⟩=some (.int .i64 ((qaj aE aD).f4))∧w'.cell? ⟨(aK.add ((aD).toNat * 7)).block,(aK.add ((aD).toNat * 7)).off+5,none⟩=some (.slice eN ((qaj aE aD).f5).length eO)∧w'.cell? ⟨(aK.add ((aD).toNat * 7)).block,(aK.add ((aD).toNat * 7)).off+6,none⟩=some (.slice eP ((qaj aE aD).f6).length eQ)∧w'.cell? (aT.add ((ar).toNat * 7))=some (.int .i64 ((qaj ah ar).f0))∧w'.cell? ⟨(aT.add ((ar).toNat * 7)).block,(aT.add ((ar).toNat * 7)).off+1,none⟩=some (.int .i64 ((qaj ah ar).f1))∧w'.cell? ⟨(aT.add ((ar).toNat * 7)).block,(aT.add ((ar).toNat * 7)).off+2,none⟩=some (.int .i64 ((qaj ah ar).f2))∧w'.cell? ⟨(aT.add ((ar).toNat * 7)).block,(aT.add ((ar).toNat * 7)).off+3,none⟩=some (.int .i64 ((qaj ah ar).f3))∧w'.cell? ⟨(aT.add ((ar).toNat * 7)).block,(aT.add ((ar).toNat * 7)).off+4,none⟩=some (.int .i64 ((qaj ah ar).f4))∧w'.cell? ⟨(aT.add ((ar).toNat * 7)).block,(aT.add ((ar).toNat * 7)).off+5,none⟩=some (.slice eT ((qaj ah ar).f5).length eU)∧w'.cell? ⟨(aT.add ((ar).toNat * 7)).block,(aT.add ((ar).toNat * 7)).off+6,none⟩=some (.slice eV ((qaj ah ar).f6).length eW)) (ds:=[]) #[false,false,false,false,false,false,false,false,false,false,false,false] (by kernel_rfl) rfl rfl ⟨(qab an.out 0).trans rfl,(qab an.out 1).trans rfl,(qab an.out 2).trans rfl,bP,bQ,bR,bS,bT,bh,bi,bU,bV,bW,bX,bY,bv,bw⟩ (fun hHeld=>?_);refine qaX ostinatoref18_Pick_Setup.tab12 ostinatoref18_Pick_Setup.bits12 (fun HT_ HW_=>?_)
               generalize wr.drew=oT at aU aY ac af ag ae am an ax ab HB cr ct cy cz es et eu ev bP bQ bR bS bT bh bi bU bV bW bX bY bv bw hHeld ⊢
               refine sP 0 (some 46) rfl rfl ?_
               refine sP 1 (some 47) rfl rfl ?_
               refine sP 2 (some 48) rfl rfl ?_
               refine sP 3 (some 49) rfl rfl ?_
               refine sP 5 (some 51) rfl rfl ?_
               refine sP 7 (some 53) rfl rfl ?_
               refine qaZ (i:=4) (N:=some 50) (v:=?_) (a':=?_) #[true,true,true,true,true,true,false,true,false,false,false,false] rfl rfl (qay HT_.out HW_.out (by kernel_rfl)) (fun _ _ _ h=>h) (Or.inl ⟨by rfl,?_⟩) hHeld ?_ ?_
               rotate_left
               ·rintro w' ⟨s0,s1,s2,s3,s4,s5,s6,s7,s8,s9,ip,iq,ir,iu,iv,iw,ix⟩
                go_simp
                with_reducible rfl
               rotate_left
               ·simp only [Act.put,List.setIfInBounds_toArray,List.set_cons_zero,List.set_cons_succ,qaC,qaE]
                rfl
               refine qaZ (i:=6) (N:=some 52) (v:=?_) (a':=?_) #[true,true,true,true,true,true,true,true,false,false,false,false] rfl rfl (qay HT_.out HW_.out (by kernel_rfl)) (fun _ _ _ h=>h) (Or.inl ⟨by rfl,?_⟩) hHeld ?_ ?_
               rotate_left
               ·rintro w' ⟨s0,s1,s2,s3,s4,s5,s6,s7,s8,s9,ip,iq,ir,iu,iv,iw,ix⟩
                go_simp
                with_reducible rfl
               rotate_left
               ·simp only [Act.put,List.setIfInBounds_toArray,List.set_cons_zero,List.set_cons_succ,qaC,qaE]
                rfl
               refine sP 8 (some 54) rfl rfl ?_
               refine sP 9 (some 55) rfl rfl ?_
               refine qaZ (i:=10) (N:=some 56) (v:=?_) (a':=?_) #[true,true,true,true,true,true,true,true,true,true,true,false] rfl rfl (qay HT_.out HW_.out (by kernel_rfl)) (fun _ _ _ h=>h) (Or.inl ⟨by rfl,?_⟩) hHeld ?_ ?_
               rotate_left
               ·rintro w' ⟨s0,s1,s2,s3,s4,s5,s6,s7,s8,s9,ip,iq,ir,iu,iv,iw,ix⟩
                go_simp
                with_reducible rfl
               rotate_left
               ·simp only [Act.put,List.setIfInBounds_toArray,List.set_cons_zero,List.set_cons_succ,qaC,qaE]
                rfl
               refine sP 11 (some 57) rfl rfl ?_
               refine done_ (done_of HT_.out (by kernel_rfl)) ?_
               try go_wp2
               go_roundg k4
               case measure=>have:=fz.out;have:=dV.out;have:=fE.out;have:=fF.out;omega
               case rel=>exact⟨(aN),(wrap64 (aD+1)),(by first|rfl|(simp;done)|(simp [*];done)),H',⟨by have:=fz.out;have:=dV.out;have:=fE.out;have:=fF.out;omega⟩,⟨by refine sNm ?_;exact aU.out⟩,⟨by refine sRm ?_;exact aY.out⟩,⟨by refine sVm ?_;exact ac.out⟩,⟨by refine sVm ?_;exact af.out⟩,⟨by refine sRm ?_;exact ag.out⟩,⟨by refine sRm ?_;exact ae.out⟩,⟨by refine sM ?_;exact am.out⟩,⟨by refine sM ?_;exact an.out⟩,⟨by refine sM ?_;exact ax.out⟩,⟨by refine sM ?_;exact ab.out⟩,⟨by repeat (first|(with_reducible first|exact HB.out|apply qah|apply qae|apply qag|refine qad ?_ bx.out|refine qad ?_ bz.out|refine qad ?_ bB.out|refine qad ?_ bC.out)|exact HB.out)⟩⟩
             ·rw [if_neg ie] at H
              exact absurd H (by simp)
            ·rw [if_neg ib] at H
             exact absurd H (by simp)
           ·rw [if_neg hY] at H
            exact absurd H (by simp)
          ·rw [if_neg gK] at H
           have gA:decide (aD<(aE.length:Int))=false:=decide_eq_false gK
           clear gK
           have gQ:=qaa.mk H
           clear H
           obtain⟨dQ,dT,lW⟩:=Kd.N_slice aU.out
           subst lW
           obtain⟨fD,bL,lX⟩:=Kd.R_slice aY.out
           subst lX
           have nr:=be.out
           have nt:=bf.out
           have nu:=bq.out
           have nv:=bt.out
           have nw:=ak.out
           have nx:=aV.out
           obtain⟨gb,gc,ge,gf⟩:=sC4 (w:=wr) am.out
           obtain⟨gg,gh,gi,gj⟩:=sF4 am.out
           go_upto_if 73 with (fail)
           go_cut [10] (fun oF wc=>∃ (kq:Nat) (aQ:Int),oF=.int .i64 aQ∧qaa (ostinatoref18_Pick_Setup.j4 kq aE ar aN aQ aC aM a8 aX aw ay ah aw ay ah (wrap64 (1+(Go.bits .and .i64 aC 1))) ai aG aA=some (r1,r2,r3,r4,r5,r6,r7))∧qaa (kq≤k4)∧qaa (Kd.N k53 53 wc w.heap.size (fun k_=>(aI k_∨w.heap.size≤k_)∧some k_≠((.slice fD aN.length bL):Value).ownBlock∧some k_≠(au:Value).ownBlock∧some k_≠(ap:Value).ownBlock∧k_≠az∧k_≠av∧k_≠aj∧k_≠aa) (.slice dQ aE.length dT) aE)∧qaa (Kd.R (Kd.int .i64) 3 wc w.heap.size (fun k_=>(w.heap.size≤k_)∧some k_≠(au:Value).ownBlock) (.slice fD aN.length bL) aN)∧qaa (Kd.V k53 53 wc w.heap.size (fun k_=>(aI k_∨w.heap.size≤k_)∧some k_≠((.slice dQ aE.length dT):Value).ownBlock∧some k_≠((.slice fD aN.length bL):Value).ownBlock∧some k_≠(au:Value).ownBlock∧some k_≠(ap:Value).ownBlock∧k_≠az∧k_≠av∧k_≠aj∧k_≠aa) (.slice aJ ah.length aH) ah)∧qaa (Kd.V k53 53 wc w.heap.size (fun k_=>(aI k_∨w.heap.size≤k_)∧some k_≠((.slice dQ aE.length dT):Value).ownBlock∧some k_≠((.slice fD aN.length bL):Value).ownBlock∧some k_≠(au:Value).ownBlock∧some k_≠(ap:Value).ownBlock∧k_≠az∧k_≠av∧k_≠aj∧k_≠aa) (.slice aJ ah.length aH) ah)∧qaa (Kd.R (Kd.int .i64) 3 wc w.heap.size (fun k_=>(w.heap.size≤k_)∧some k_≠((.slice fD aN.length bL):Value).ownBlock) au aG)∧qaa (Kd.R (Kd.int .i64) 2 wc w.heap.size (fun k_=>(w.heap.size≤k_)) ap aA)∧qaa (wc.heap[az]? = some (.cells #[.int .i64 aC,.int .i64 aM,(.slice A0_2 a8.length c0_2),(.slice dU aX.length dM)] 76 (0,0)))∧qaa (wc.heap[av]? = some (.cells #[.int .i64 aw,.int .i64 ay,(.slice aJ ah.length aH)] 33 (0,0)))∧qaa (wc.heap[aj]? = some (.cells #[.int .i64 0,.int .i64 0,(.slice none 0 0),.int .i64 0,.int .i64 0,(.slice none 0 0),(.slice none 0 0)] 36 (0,0)))∧qaa (wc.heap[aa]? = some (.cells #[.int .i64 aw,.int .i64 ay,(.slice aJ ah.length aH),.int .i64 (wrap64 (1+(Go.bits .and .i64 aC 1))),.int .i64 ai,au,ap] 36 (0,0)))∧qaa (Below w.heap.size w wc))
           case first=>
            have H:=gQ.out
            clear gQ
            by_cases gR:ar<(a8.length:Int)
            ·rw [if_pos gR] at H
             have d7:decide (ar<(a8.length:Int))=true:=decide_eq_true gR
             clear gR
             (first|rw [d7]|(simp only [qaC,qaE];rw [d7])|skip)
             by_cases iA:0≤ar
             ·rw [if_pos iA] at H
              have iB:decide (0≤ar)=true:=decide_eq_true iA
              clear iA
              by_cases gV:(aN.length:Int)=0
              ·rw [if_pos gV] at H
               exact absurd H (by simp)
              ·rw [if_neg gV] at H
               have iC:((aN.length:Int) == 0)=false:=beq_eq_false_iff_ne.mpr gV
               have iD:((aN.length:Int) != 0)=true:=bne_iff_ne.mpr gV
               have iE:¬ (aN=[]):=fun h_=>gV (by rw [h_];rfl)
               have H':=qaa.mk H
               clear H
               have ny:=be.out
               have nz:=bf.out
               have nA:=bq.out
               have nB:=bt.out
               have nE:=ak.out
               have nF:=aV.out
               obtain⟨gl,gm,gn,go⟩:=sC4 (w:=wr) am.out
               obtain⟨gp,gq,gr,gt⟩:=sF4 am.out
               have gu:0≤(ar:Int):=of_decide_eq_true sA
               have gv:ar<(a8.length:Int):=of_decide_eq_true sA
               obtain⟨nG,lY,dK⟩:=Kd.at_int gY.out ar gu gv
               cases lY
               replace dK:=(HB.out.cell (bLt w _ dK)).trans dK
               replace gu:=eq_true gu
               replace gv:=eq_true gv
               go_wp2
               go_meet
               case rel=>exact⟨_,(Int.tmod (wrap64 ((Int.tmod (rd a8 ar) (aN.length:Int))+(aN.length:Int))) (aN.length:Int)),(by first|rfl|(simp;done)|(simp [*];done)),H',⟨by have:=fz.out;have:=dV.out;have:=fE.out;have:=fF.out;first|omega|exact Nat.le_refl _⟩,⟨by refine sNm ?_;exact aU.out⟩,⟨by refine sRm ?_;exact aY.out⟩,⟨by refine sVm ?_;exact ac.out⟩,⟨by refine sVm ?_;exact af.out⟩,⟨by refine sRm ?_;exact ag.out⟩,⟨by refine sRm ?_;exact ae.out⟩,⟨by refine sM ?_;exact am.out⟩,⟨by refine sM ?_;exact an.out⟩,⟨by refine sM ?_;exact ax.out⟩,⟨by refine sM ?_;exact ab.out⟩,⟨by repeat (first|(with_reducible first|exact HB.out|apply qah|apply qae|apply qag|refine qad ?_ bx.out|refine qad ?_ bz.out|refine qad ?_ bB.out|refine qad ?_ bC.out)|exact HB.out)⟩⟩
             ·rw [if_neg iA] at H
              exact absurd H (by simp)
            ·rw [if_neg gR] at H
             have d7:decide (ar<(a8.length:Int))=false:=decide_eq_false gR
             clear gR
             (first|rw [d7]|(simp only [qaC,qaE];rw [d7])|skip)
             have H':=qaa.mk H
             clear H
             go_wp2
             go_meet
             case rel=>exact⟨_,(wrap64 ((aN.length:Int) - 1)),(by first|rfl|(simp;done)|(simp [*];done)),H',⟨by have:=fz.out;have:=dV.out;have:=fE.out;have:=fF.out;first|omega|exact Nat.le_refl _⟩,⟨by refine sNm ?_;exact aU.out⟩,⟨by refine sRm ?_;exact aY.out⟩,⟨by refine sVm ?_;exact ac.out⟩,⟨by refine sVm ?_;exact af.out⟩,⟨by refine sRm ?_;exact ag.out⟩,⟨by refine sRm ?_;exact ae.out⟩,⟨by refine sM ?_;exact am.out⟩,⟨by refine sM ?_;exact an.out⟩,⟨by refine sM ?_;exact ax.out⟩,⟨by refine sM ?_;exact ab.out⟩,⟨by repeat (first|(with_reducible first|exact HB.out|apply qah|apply qae|apply qag|refine qad ?_ bx.out|refine qad ?_ bz.out|refine qad ?_ bB.out|refine qad ?_ bC.out)|exact HB.out)⟩⟩
           case rest=>
            clear gQ
            try clear c1
            try clear p1
            try clear q1
            try clear oU
            try clear p2
            try clear c4
            try clear c5
            try clear c6
            try clear p6
            try clear oV
            try clear oW
            try clear oX
            try clear oG
            try clear gK
            try clear gA
            try clear hY
            try clear ia
            try clear ib
            try clear ic
            try clear ie
            try clear ig
            try clear gL
            try clear gB
            try clear ii
            try clear oY
            try clear oZ
            try clear o0
            try clear gR
            try clear d7
            try clear iA
            try clear iB
            try clear gV
            try clear iC
            try clear iD
            try clear iE
            try clear o2
            try clear p64
            try clear o8
            try clear o9
            try clear gb gc ge gf
            try clear gl gm gn go
            try clear cf cg cj ck
            try clear dB dC dD dE dF dG dH
            try clear ep eq er
            try clear fh fi fj
            try clear gg gh gi gj
            try clear gp gq gr gt
            try clear dN dO dP
            try clear bP
            try clear bQ
            try clear bR
            try clear bS
            try clear bT
            try clear bh
            try clear bi
            try clear bU
            try clear bV
            try clear bW
            try clear bX
            try clear bY
            try clear bv
            try clear bw
            try clear fW
            try clear fX
            try clear fY
            try clear fZ
            try clear ga
            try clear ew
            try clear ex
            try clear dK
            try clear dW
            try clear dY
            try clear fB
            try clear gu
            try clear p2
            try clear p6
            try clear dX
            try clear dZ
            try clear fC
            try clear gv
            obtain⟨kq,aQ,rfl,HA,gw,aU,aY,ac,af,ag,ae,am,an,ax,ab,HB⟩:=hcut
            cases kq with
            |zero=>exact absurd HA.out (by simp [ostinatoref18_Pick_Setup.j4])
            |succ fw=>
             have H:=HA.out
             clear HA
             simp only [ostinatoref18_Pick_Setup.j4] at H
             by_cases jU:0≤aQ
             ·rw [if_pos jU] at H
              have nH:decide (0≤aQ)=true:=decide_eq_true jU
              clear jU
              by_cases jV:aQ<(aN.length:Int)
              ·rw [if_pos jV] at H
               have nI:decide (aQ<(aN.length:Int))=true:=decide_eq_true jV
               clear jV
               by_cases jW:aG.length<17592186044416
               ·rw [if_pos jW] at H
                have gC:=qaa.mk jW
                clear jW
                obtain⟨aZ,eF⟩:∃ y_:List Int,y_=(aG++[rd aN aQ]):=⟨_,rfl⟩
                replace H:(if ar<(aX.length:Int) then (if 0≤ar then (if aA.length<17592186044416 then (ostinatoref18_Pick_Setup.l0 fw aE (wrap64 (ar+1)) aC aM a8 aX aw ay ah aw ay ah (wrap64 (1+(Go.bits .and .i64 aC 1))) ai aZ (aA++[Go.bits .and .i64 (rd aX ar) 15])) else (none)) else (none)) else (if aA.length<17592186044416 then (ostinatoref18_Pick_Setup.l0 fw aE (wrap64 (ar+1)) aC aM a8 aX aw ay ah aw ay ah (wrap64 (1+(Go.bits .and .i64 aC 1))) ai aZ (aA++[0])) else (none)))=some (r1,r2,r3,r4,r5,r6,r7):=by first|(rw [eF];with_reducible exact H)|(have eM:=(Option.bind_some _ _).symm.trans H;rw [eF];with_reducible exact eM)|(have eM:=(Option.bind_some _ _).symm.trans H;with_reducible exact eM)|with_reducible exact H|(rw [eF];exact H)|exact H
                have gD:=qaa.mk eF
                clear eF
                by_cases gW:ar<(aX.length:Int)
                ·rw [if_pos gW] at H
                 have iF:decide (ar<(aX.length:Int))=true:=decide_eq_true gW
                 clear gW
                 by_cases jX:0≤ar
                 ·rw [if_pos jX] at H
                  have nJ:decide (0≤ar)=true:=decide_eq_true jX
                  clear jX
                  by_cases jY:aA.length<17592186044416
                  ·rw [if_pos jY] at H
                   have iG:=qaa.mk jY
                   clear jY
                   obtain⟨eG,eH⟩:∃ y_:List Int,y_=(aA++[Go.bits .and .i64 (rd aX ar) 15]):=⟨_,rfl⟩
                   replace H:(ostinatoref18_Pick_Setup.l0 fw aE (wrap64 (ar+1)) aC aM a8 aX aw ay ah aw ay ah (wrap64 (1+(Go.bits .and .i64 aC 1))) ai aZ eG)=some (r1,r2,r3,r4,r5,r6,r7):=by first|(rw [eH];with_reducible exact H)|(have eM:=(Option.bind_some _ _).symm.trans H;rw [eH];with_reducible exact eM)|(have eM:=(Option.bind_some _ _).symm.trans H;with_reducible exact eM)|with_reducible exact H|(rw [eH];exact H)|exact H
                   have iH:=qaa.mk eH
                   clear eH
                   have H':=qaa.mk H
                   clear H
                   try go_wp2
                   replace aU:=qaa.mk (Kd.N_drew aU.out)
                   replace aY:=qaa.mk (Kd.R_drew aY.out)
                   replace ac:=qaa.mk (Kd.V_drew ac.out)
                   replace af:=qaa.mk (Kd.V_drew af.out)
                   replace ag:=qaa.mk (Kd.R_drew ag.out)
                   replace ae:=qaa.mk (Kd.R_drew ae.out)
                   replace am:=qaa.mk (qax am.out)
                   replace an:=qaa.mk (qax an.out)
                   replace ax:=qaa.mk (qax ax.out)
                   replace ab:=qaa.mk (qax ab.out)
                   replace HB:=qaa.mk (qag HB.out)
                   have fa:0≤(aQ:Int):=of_decide_eq_true sA
                   have fb:aQ<(aN.length:Int):=of_decide_eq_true sA
                   obtain⟨bg,gS,cA⟩:=Kd.at_int (Kd.R_reads' aY.out).2.2 aQ fa fb
                   cases gS
                   replace fa:=eq_true fa
                   replace fb:=eq_true fb
                   refine start_ (n:=10) (S:=fun w'=>w'.cell? ⟨aa,0,none⟩=some (.int .i64 aw)∧w'.cell? ⟨aa,1,none⟩=some (.int .i64 ay)∧w'.cell? ⟨aa,2,none⟩=some (.slice aJ ah.length aH)∧w'.cell? ⟨aa,3,none⟩=some (.int .i64 (wrap64 (1+(Go.bits .and .i64 aC 1))))∧w'.cell? ⟨aa,4,none⟩=some (.int .i64 ai)∧w'.cell? ⟨aa,5,none⟩=some (au)∧w'.cell? ⟨aa,6,none⟩=some (ap)∧w'.cell? (bg.add (aQ).toNat)=some (.int .i64 (rd aN aQ))) (ds:=[7,9]) #[false,false,false,false,false,false,false,false,false,false] (by kernel_rfl) rfl rfl ⟨(qab ab.out 0).trans rfl,(qab ab.out 1).trans rfl,(qab ab.out 2).trans rfl,(qab ab.out 3).trans rfl,(qab ab.out 4).trans rfl,(qab ab.out 5).trans rfl,(qab ab.out 6).trans rfl,cA⟩ (fun hHeld=>?_);refine qaX ostinatoref18_Pick_Setup.tab17 ostinatoref18_Pick_Setup.bits17 (fun HT_ HW_=>?_)
                   generalize wc.drew=pa at aU aY ac af ag ae am an ax ab HB cA hHeld ⊢
                   refine sP 0 (some 88) rfl rfl ?_
                   refine sP 2 (some 90) rfl rfl ?_
                   refine sP 3 (some 91) rfl rfl ?_
                   refine sP 4 (some 92) rfl rfl ?_
                   refine qaZ (i:=1) (N:=some 89) (v:=?_) (a':=?_) #[true,true,true,true,true,false,false,false,false,false] rfl rfl (qay HT_.out HW_.out (by kernel_rfl)) (fun _ _ _ h=>h) (Or.inl ⟨by rfl,?_⟩) hHeld ?_ ?_
                   rotate_left
                   ·rintro w' ⟨s0,s1,s2,s3,s4,s5,s6,s7⟩
                    go_simp
                    with_reducible rfl
                   rotate_left
                   ·simp only [Act.put,List.setIfInBounds_toArray,List.set_cons_zero,List.set_cons_succ,qaC,qaE]
                    rfl
                   refine qaZ (i:=5) (N:=some 93) (v:=?_) (a':=?_) #[true,true,true,true,true,true,false,false,false,false] rfl rfl (qay HT_.out HW_.out (by kernel_rfl)) (fun _ _ _ h=>h) (Or.inl ⟨by rfl,?_⟩) hHeld ?_ ?_
                   rotate_left
                   ·rintro w' ⟨s0,s1,s2,s3,s4,s5,s6,s7⟩
                    go_simp
                    with_reducible rfl
                   rotate_left
                   ·simp only [Act.put,List.setIfInBounds_toArray,List.set_cons_zero,List.set_cons_succ,qaC,qaE]
                    rfl
                   refine one_ (i:=6) (N:=some 94) #[true,true,true,true,true,true,true,false,false,false] rfl rfl (qaO HT_.out (by kernel_rfl)) (by decide) (fun K hK=>?_)
                   refine value_ (w1:=?_) (v:=?_) (by rfl) rfl ?_ ?_
                   rotate_left 2
                   ·go_simp
                    constructor
                    ·rfl
                    ·rfl
                   refine hK.out _ _ ⟨(qab (qas ab.out _) 0).trans rfl,(qab (qas ab.out _) 1).trans rfl,(qab (qas ab.out _) 2).trans rfl,(qab (qas ab.out _) 3).trans rfl,(qab (qas ab.out _) 4).trans rfl,(qab (qas ab.out _) 5).trans rfl,(qab (qas ab.out _) 6).trans rfl,(World.cell?_alloc_lt _ _ _ (bLt _ _ (hHeld.2.2.2.2.2.2.2))).trans (hHeld.2.2.2.2.2.2.2)⟩ (fun hHeld=>?_)
                   clear hK K
                   refine qa0 (a':=?_) ?_ ?_
                   rotate_left
                   ·show Act.put _ (some 94) _=_
                    simp only [Act.put,List.setIfInBounds_toArray,List.set_cons_zero,List.set_cons_succ,qaC,qaE]
                    rfl
                   refine last_ (i:=7) (N:=some 95) #[true,true,true,true,true,true,true,true,false,false] rfl rfl (qaO HT_.out (by kernel_rfl)) (by decide) (fun K hK=>?_)
                   refine Kd.R_append_step (Kd.int .i64) (w0:=w) w.heap.size (by rfl) (.tmp 89) (.tmp 94) 25 3 (.int .i64 0) 8 rfl Tryd.underlying25 info3 rfl (by decide) (by omega) au aG (rd aN aQ) [.int .i64 (rd aN aQ)] (fun k_=>(w.heap.size≤k_)∧some k_≠(.slice (some bg) aN.length bL:Value).ownBlock) (fun _=>False) rfl rfl ?aP (fun _ hk=>hk.elim) ?aF ?aO ?aB ?aS ?aL ?_
                   (case aP=>exact rfl)
                   (case aB=>exact sB)
                   (case aF=>exact (fun k_ hk=>⟨(Nat.le_trans (qac sB) hk),Kd.fresh' (Kd.R_lt (sR aY.out)) k_ hk⟩))
                   (case aO=>exact (sR ag.out))
                   (case aS=>exact (qac sB))
                   (case aL=>have:=gC.out;omega)
                   intro v171 lZ ho hb hg hat
                   rw [← gD.out] at ho
                   replace aU:=qaa.mk (Kd.N_afterv (ok:=(fun k_=>(aI k_∨w.heap.size≤k_)∧some k_≠(.slice (some bg) aN.length bL:Value).ownBlock∧some k_≠(ap:Value).ownBlock∧k_≠az∧k_≠av∧k_≠aj∧k_≠aa)) (by refine sNm ?_;exact Kd.N_mono aU.out (fun _ hk=>⟨⟨hk.1,⟨hk.2.1,⟨hk.2.2.2.1,⟨hk.2.2.2.2.1,⟨hk.2.2.2.2.2.1,⟨hk.2.2.2.2.2.2.1,hk.2.2.2.2.2.2.2⟩⟩⟩⟩⟩⟩,hk.2.2.1⟩)) hg hat)
                   replace aY:=qaa.mk (Kd.R_after (ok:=(fun k_=>(w.heap.size≤k_))) (sR aY.out) hg hat)
                   replace ac:=qaa.mk (Kd.V_afterv (ok:=(fun k_=>(aI k_∨w.heap.size≤k_)∧some k_≠(.slice dQ aE.length dT:Value).ownBlock∧some k_≠(.slice (some bg) aN.length bL:Value).ownBlock∧some k_≠(ap:Value).ownBlock∧k_≠az∧k_≠av∧k_≠aj∧k_≠aa)) (by refine sVm ?_;exact Kd.V_mono ac.out (fun _ hk=>⟨⟨hk.1,⟨hk.2.1,⟨hk.2.2.1,⟨hk.2.2.2.2.1,⟨hk.2.2.2.2.2.1,⟨hk.2.2.2.2.2.2.1,⟨hk.2.2.2.2.2.2.2.1,hk.2.2.2.2.2.2.2.2⟩⟩⟩⟩⟩⟩⟩,hk.2.2.2.1⟩)) hg hat)
                   replace af:=qaa.mk (Kd.V_afterv (ok:=(fun k_=>(aI k_∨w.heap.size≤k_)∧some k_≠(.slice dQ aE.length dT:Value).ownBlock∧some k_≠(.slice (some bg) aN.length bL:Value).ownBlock∧some k_≠(ap:Value).ownBlock∧k_≠az∧k_≠av∧k_≠aj∧k_≠aa)) (by refine sVm ?_;exact Kd.V_mono af.out (fun _ hk=>⟨⟨hk.1,⟨hk.2.1,⟨hk.2.2.1,⟨hk.2.2.2.2.1,⟨hk.2.2.2.2.2.1,⟨hk.2.2.2.2.2.2.1,⟨hk.2.2.2.2.2.2.2.1,hk.2.2.2.2.2.2.2.2⟩⟩⟩⟩⟩⟩⟩,hk.2.2.2.1⟩)) hg hat)
                   replace ae:=qaa.mk (Kd.R_over' (sR ae.out) (Kd.R_typed (sR ag.out)) (by decide) hg)
                   replace am:=qaa.mk (sKg am.out hg (Kd.R_ne ag.out am.out (by decide)))
                   replace an:=qaa.mk (sKg an.out hg (Kd.R_ne ag.out an.out (by decide)))
                   replace ax:=qaa.mk (sKg ax.out hg (Kd.R_ne ag.out ax.out (by decide)))
                   replace ab:=qaa.mk (sKg ab.out hg (Kd.R_ne ag.out ab.out (by decide)))
                   replace HB:=qaa.mk (hb)
                   have cB:=qaa.mk (ho)
                   clear ag ho hb hg hat
                   obtain⟨ca,cb,iI⟩:=Kd.R_slice cB.out
                   (first|subst iI|(injection iI with iJ l8 iK;have l9:=iJ.symm;have ma:=iK.symm;clear iJ l8 iK;subst l9;subst ma))
                   refine hK.out _ _ ?_
                   clear hK K
                   refine qa0 (a':=?_) ?_ ?_
                   rotate_left
                   ·show Act.put _ (some 95) _=_
                    simp only [Act.put,List.setIfInBounds_toArray,List.set_cons_zero,List.set_cons_succ,qaC,qaE]
                    rfl
                   refine sP 8 (some 96) rfl rfl ?_
                   refine last_ (i:=9) (N:=none) #[true,true,true,true,true,true,true,true,true,true] rfl rfl (qaO HT_.out (by kernel_rfl)) (by decide) (fun K hK=>?_)
                   have oH:lZ.cell? ⟨aa,5,none⟩=some (au):=(qab ab.out 5).trans rfl
                   have nL:=qan ab.out 5
                   have jZ:=ak.out
                   have j9:=al.out
                   have ka:=aq.out
                   have kb:=aV.out
                   have kc:=aW.out
                   have kd:=ba.out
                   refine skip_ (w1:=?_) (by rfl) rfl ?_ ?_
                   rotate_left
                   ·go_simp
                    rfl
                   refine hK.out _ _ ?_
                   clear hK K
                   refine done_ (done_of HT_.out (by kernel_rfl)) ?_
                   have nM:=be.out
                   have nN:=bf.out
                   have nO:=bq.out
                   have nQ:=bt.out
                   have nR:=ak.out
                   have nS:=aV.out
                   obtain⟨ke,kf,kg,ki⟩:=sC4 (w:=lZ) am.out
                   obtain⟨kj,km,kn,ko⟩:=sF4 am.out
                   have gT:0≤(ar:Int):=of_decide_eq_true sA
                   have gU:ar<(aX.length:Int):=of_decide_eq_true sA
                   obtain⟨gE,mc,bZ⟩:=Kd.at_int gZ.out ar gT gU
                   cases mc
                   have dL:gE.block≠aa:=Nat.ne_of_lt (Nat.lt_of_lt_of_le (by have:=bLt _ _ bZ;first|rwa [add_block] at this|exact this) hH.out)
                   replace bZ:=(HB.out.cell (bLt w _ bZ)).trans bZ
                   replace bZ:=(qaq (p:=⟨aa,5,none⟩) (by first|(rw [add_block];exact dL)|(show (Addr.add _ _).block≠_;rw [add_block];exact dL)|exact dL) (.slice ca aZ.length cb)).trans bZ
                   clear dL
                   replace gT:=eq_true gT
                   replace gU:=eq_true gU
                   have nU:=aW.out
                   have nV:=al.out
                   have nW:=ba.out
                   have nX:=aq.out
                   obtain⟨kp,kr,ks,kt,ku,kv,kx⟩:=sC7 (w:=lZ) ab.out
                   obtain⟨ky,kz,kA,kB,kC,kD,kE⟩:=sF7 ab.out
                   try go_wp2_with (first|((with_reducible refine qaB (b:=.append) (xs:=#[.tmp 109,.tmp 111]) rfl ?_);at_builtin;refine Kd.R_append (Kd.int .i64) (w0:=w) w.heap.size rfl (.tmp 109) (.tmp 111) 34 2 (.int .i64 0) 8 rfl Tryd.underlying34 info2 rfl (by decide) (by omega) ap aA (Go.bits .and .i64 (rd aX ar) 15) [.int .i64 (Go.bits .and .i64 (rd aX ar) 15)] (fun k_=>(w.heap.size≤k_)) (fun _=>False) rfl (by first|(go_simp;done)|(go_simp;rfl)) ?aP (fun _ hk=>hk.elim) ?aF ?aO ?aB ?aS ?aL ?_;(case aP=>exact rfl);(case aB=>exact sB);(case aF=>exact (fun k_ hk=>(Nat.le_trans (qac sB) hk)));(case aO=>exact (by refine sRm ?_;exact Kd.R_mono (Kd.R_far (p:=⟨aa,5,none⟩) (Kd.R_types ae.out ab.out (by decide)) (fun _ hk=>hk.2) (.slice ca aZ.length cb)) (fun _ hk=>hk.1)));(case aS=>exact (qac sB));(case aL=>have:=iG.out;omega);intro oI oJ ho hb hg hat;rw [← iH.out] at ho;replace aU:=qaa.mk (Kd.N_afterv (ok:=(fun k_=>(aI k_∨w.heap.size≤k_)∧some k_≠(.slice (some bg) aN.length bL:Value).ownBlock∧some k_≠(.slice ca aZ.length cb:Value).ownBlock∧k_≠az∧k_≠av∧k_≠aj∧k_≠aa)) (by refine sNm ?_;exact Kd.N_mono (Kd.N_far (p:=⟨aa,5,none⟩) (Kd.N_mono aU.out (fun k_ hk=>(⟨hk,hk.1.2.2.2.2.2.2⟩:_∧k_≠aa))) (fun _ hk=>hk.2) (.slice ca aZ.length cb)) (fun _ hk=>⟨⟨hk.1.1.1,⟨hk.1.1.2.1,⟨hk.1.2,⟨hk.1.1.2.2.2.1,⟨hk.1.1.2.2.2.2.1,⟨hk.1.1.2.2.2.2.2.1,hk.1.1.2.2.2.2.2.2⟩⟩⟩⟩⟩⟩,hk.1.1.2.2.1⟩)) hg hat);replace aY:=qaa.mk (Kd.R_over' (by refine sRm ?_;exact (Kd.R_mono (Kd.R_far (p:=⟨aa,5,none⟩) (Kd.R_types aY.out ab.out (by decide)) (fun _ hk=>hk.2) (.slice ca aZ.length cb)) (fun _ h_=>h_.1))) (Kd.R_typed (by refine sRm ?_;exact (Kd.R_mono (Kd.R_far (p:=⟨aa,5,none⟩) (Kd.R_types ae.out ab.out (by decide)) (fun _ hk=>hk.2) (.slice ca aZ.length cb)) (fun _ h_=>h_.1)))) (by decide) hg);replace ac:=qaa.mk (Kd.V_afterv (ok:=(fun k_=>(aI k_∨w.heap.size≤k_)∧some k_≠(.slice dQ aE.length dT:Value).ownBlock∧some k_≠(.slice (some bg) aN.length bL:Value).ownBlock∧some k_≠(.slice ca aZ.length cb:Value).ownBlock∧k_≠az∧k_≠av∧k_≠aj∧k_≠aa)) (by refine sVm ?_;exact Kd.V_mono (Kd.V_far (p:=⟨aa,5,none⟩) (Kd.V_mono ac.out (fun k_ hk=>(⟨hk,hk.1.2.2.2.2.2.2.2⟩:_∧k_≠aa))) (fun _ hk=>hk.2) (.slice ca aZ.length cb)) (fun _ hk=>⟨⟨hk.1.1.1,⟨hk.1.1.2.1,⟨hk.1.1.2.2.1,⟨hk.1.2,⟨hk.1.1.2.2.2.2.1,⟨hk.1.1.2.2.2.2.2.1,⟨hk.1.1.2.2.2.2.2.2.1,hk.1.1.2.2.2.2.2.2.2⟩⟩⟩⟩⟩⟩⟩,hk.1.1.2.2.2.1⟩)) hg hat);replace af:=qaa.mk (Kd.V_afterv (ok:=(fun k_=>(aI k_∨w.heap.size≤k_)∧some k_≠(.slice dQ aE.length dT:Value).ownBlock∧some k_≠(.slice (some bg) aN.length bL:Value).ownBlock∧some k_≠(.slice ca aZ.length cb:Value).ownBlock∧k_≠az∧k_≠av∧k_≠aj∧k_≠aa)) (by refine sVm ?_;exact Kd.V_mono (Kd.V_far (p:=⟨aa,5,none⟩) (Kd.V_mono af.out (fun k_ hk=>(⟨hk,hk.1.2.2.2.2.2.2.2⟩:_∧k_≠aa))) (fun _ hk=>hk.2) (.slice ca aZ.length cb)) (fun _ hk=>⟨⟨hk.1.1.1,⟨hk.1.1.2.1,⟨hk.1.1.2.2.1,⟨hk.1.2,⟨hk.1.1.2.2.2.2.1,⟨hk.1.1.2.2.2.2.2.1,⟨hk.1.1.2.2.2.2.2.2.1,hk.1.1.2.2.2.2.2.2.2⟩⟩⟩⟩⟩⟩⟩,hk.1.1.2.2.2.1⟩)) hg hat);replace am:=qaa.mk (qaY (g:=az) (o:=.cells #[.int .i64 aC,.int .i64 aM,.slice A0_2 a8.length c0_2,.slice (some gE) aX.length dM] 76 (0,0)) (by refine sM ?_;refine qaf ?_ ak.out _;refine sM ?_;exact am.out) hg (Kd.R_ne ae.out am.out (by decide)));replace an:=qaa.mk (qaY (g:=av) (o:=.cells #[.int .i64 aw,.int .i64 ay,.slice aJ ah.length aH] 33 (0,0)) (by refine sM ?_;refine qaf ?_ al.out _;refine sM ?_;exact an.out) hg (Kd.R_ne ae.out an.out (by decide)));replace ax:=qaa.mk (qaY (g:=aj) (o:=.cells #[.int .i64 0,.int .i64 0,.slice none 0 0,.int .i64 0,.int .i64 0,.slice none 0 0,.slice none 0 0] 36 (0,0)) (by refine sM ?_;refine qaf ?_ aq.out _;refine sM ?_;exact ax.out) hg (Kd.R_ne ae.out ax.out (by decide)));replace cB:=qaa.mk (Kd.R_over' (by refine sRm ?_;exact (Kd.R_mono (Kd.R_far (p:=⟨aa,5,none⟩) (Kd.R_types cB.out ab.out (by decide)) (fun _ hk=>hk.2) (.slice ca aZ.length cb)) (fun _ h_=>h_.1))) (Kd.R_typed (by refine sRm ?_;exact (Kd.R_mono (Kd.R_far (p:=⟨aa,5,none⟩) (Kd.R_types ae.out ab.out (by decide)) (fun _ hk=>hk.2) (.slice ca aZ.length cb)) (fun _ h_=>h_.1)))) (by decide) hg);replace ab:=qaa.mk (qaY (g:=aa) (o:=.cells #[.int .i64 aw,.int .i64 ay,.slice aJ ah.length aH,.int .i64 (wrap64 (1+(Go.bits .and .i64 aC 1))),.int .i64 ai,.slice ca aZ.length cb,ap] 36 (0,0)) (by refine sM ?_;refine qak (cs:=#[.int .i64 aw,.int .i64 ay,.slice aJ ah.length aH,.int .i64 (wrap64 (1+(Go.bits .and .i64 aC 1))),.int .i64 ai,au,ap]) ?_ 5 _ rfl;refine sM ?_;exact ab.out) hg (Kd.R_ne ae.out ab.out (by decide)));replace HB:=qaa.mk (hb);have gF:=qaa.mk (ho);clear ae ho hb hg hat;obtain⟨fx,fy,me⟩:=Kd.R_slice gF.out;subst me;obtain⟨kF,kG,kH,kI,kJ,kK,kL⟩:=sC7 (w:=oJ) ab.out;obtain⟨kM,kN,kO,kP,kQ,kR,kS⟩:=sF7 ab.out))
                   go_roundg fw
                   case measure=>have:=fz.out;have:=dV.out;have:=fE.out;have:=fF.out;have:=gw.out;omega
                   case rel=>exact⟨(wrap64 (ar+1)),(aZ),(eG),(.slice ca aZ.length cb),(.slice fx eG.length fy),(by first|rfl|(simp;done)|(simp [*];done)),H',⟨by have:=fz.out;have:=dV.out;have:=fE.out;have:=fF.out;have:=gw.out;omega⟩,⟨by refine sNm ?_;exact Kd.N_mono (Kd.N_far (p:=⟨aa,6,none⟩) (Kd.N_mono aU.out (fun k_ hk=>(⟨hk,hk.1.2.2.2.2.2.2⟩:_∧k_≠aa))) (fun _ hk=>hk.2) (.slice fx eG.length fy)) (fun _ hk=>⟨hk.1.1.1,⟨hk.1.1.2.2.1,⟨hk.1.2,⟨hk.1.1.2.2.2.1,⟨hk.1.1.2.2.2.2.1,⟨hk.1.1.2.2.2.2.2.1,hk.1.1.2.2.2.2.2.2⟩⟩⟩⟩⟩⟩)⟩,⟨by refine sVm ?_;exact Kd.V_mono (Kd.V_far (p:=⟨aa,6,none⟩) (Kd.V_mono ac.out (fun k_ hk=>(⟨hk,hk.1.2.2.2.2.2.2.2⟩:_∧k_≠aa))) (fun _ hk=>hk.2) (.slice fx eG.length fy)) (fun _ hk=>⟨hk.1.1.1,⟨hk.1.1.2.1,⟨hk.1.1.2.2.2.1,⟨hk.1.2,⟨hk.1.1.2.2.2.2.1,⟨hk.1.1.2.2.2.2.2.1,⟨hk.1.1.2.2.2.2.2.2.1,hk.1.1.2.2.2.2.2.2.2⟩⟩⟩⟩⟩⟩⟩)⟩,⟨by refine sVm ?_;exact Kd.V_mono (Kd.V_far (p:=⟨aa,6,none⟩) (Kd.V_mono af.out (fun k_ hk=>(⟨hk,hk.1.2.2.2.2.2.2.2⟩:_∧k_≠aa))) (fun _ hk=>hk.2) (.slice fx eG.length fy)) (fun _ hk=>⟨hk.1.1.1,⟨hk.1.1.2.1,⟨hk.1.1.2.2.2.1,⟨hk.1.2,⟨hk.1.1.2.2.2.2.1,⟨hk.1.1.2.2.2.2.2.1,⟨hk.1.1.2.2.2.2.2.2.1,hk.1.1.2.2.2.2.2.2.2⟩⟩⟩⟩⟩⟩⟩)⟩,⟨by refine sRm ?_;exact Kd.R_mono (Kd.R_far (p:=⟨aa,6,none⟩) (Kd.R_types cB.out ab.out (by decide)) (fun _ hk=>hk.2) (.slice fx eG.length fy)) (fun _ hk=>hk.1.1)⟩,⟨by refine sRm ?_;exact Kd.R_mono (Kd.R_far (p:=⟨aa,6,none⟩) (Kd.R_types gF.out ab.out (by decide)) (fun _ hk=>hk.2) (.slice fx eG.length fy)) (fun _ hk=>hk.1)⟩,⟨by refine sM ?_;refine qaf ?_ ak.out _;refine sM ?_;exact am.out⟩,⟨by refine sM ?_;refine qaf ?_ al.out _;refine sM ?_;exact an.out⟩,⟨by refine sM ?_;refine qaf ?_ aq.out _;refine sM ?_;exact ax.out⟩,⟨by refine sM ?_;refine qak (cs:=#[.int .i64 aw,.int .i64 ay,.slice aJ ah.length aH,.int .i64 (wrap64 (1+(Go.bits .and .i64 aC 1))),.int .i64 ai,.slice ca aZ.length cb,ap]) ?_ 6 _ rfl;refine sM ?_;exact ab.out⟩,⟨by repeat (first|(with_reducible first|exact HB.out|apply qah|apply qae|apply qag|refine qad ?_ bx.out|refine qad ?_ bz.out|refine qad ?_ bB.out|refine qad ?_ bC.out)|exact HB.out)⟩⟩
                  ·rw [if_neg jY] at H
                   exact absurd H (by simp)
                 ·rw [if_neg jX] at H
                  exact absurd H (by simp)
                ·rw [if_neg gW] at H
                 have iF:decide (ar<(aX.length:Int))=false:=decide_eq_false gW
                 clear gW
                 by_cases kT:aA.length<17592186044416
                 ·rw [if_pos kT] at H
                  have iL:=qaa.mk kT
                  clear kT
                  obtain⟨eI,eJ⟩:∃ y_:List Int,y_=(aA++[0]):=⟨_,rfl⟩
                  replace H:(ostinatoref18_Pick_Setup.l0 fw aE (wrap64 (ar+1)) aC aM a8 aX aw ay ah aw ay ah (wrap64 (1+(Go.bits .and .i64 aC 1))) ai aZ eI)=some (r1,r2,r3,r4,r5,r6,r7):=by first|(rw [eJ];with_reducible exact H)|(have eM:=(Option.bind_some _ _).symm.trans H;rw [eJ];with_reducible exact eM)|(have eM:=(Option.bind_some _ _).symm.trans H;with_reducible exact eM)|with_reducible exact H|(rw [eJ];exact H)|exact H
                  have iM:=qaa.mk eJ
                  clear eJ
                  have H':=qaa.mk H
                  clear H
                  try go_wp2
                  replace aU:=qaa.mk (Kd.N_drew aU.out)
                  replace aY:=qaa.mk (Kd.R_drew aY.out)
                  replace ac:=qaa.mk (Kd.V_drew ac.out)
                  replace af:=qaa.mk (Kd.V_drew af.out)
                  replace ag:=qaa.mk (Kd.R_drew ag.out)
                  replace ae:=qaa.mk (Kd.R_drew ae.out)
                  replace am:=qaa.mk (qax am.out)
                  replace an:=qaa.mk (qax an.out)
                  replace ax:=qaa.mk (qax ax.out)
                  replace ab:=qaa.mk (qax ab.out)
                  replace HB:=qaa.mk (qag HB.out)
                  have fa:0≤(aQ:Int):=of_decide_eq_true sA
                  have fb:aQ<(aN.length:Int):=of_decide_eq_true sA
                  obtain⟨bg,gS,cA⟩:=Kd.at_int (Kd.R_reads' aY.out).2.2 aQ fa fb
                  cases gS
                  replace fa:=eq_true fa
                  replace fb:=eq_true fb
                  refine start_ (n:=10) (S:=fun w'=>w'.cell? ⟨aa,0,none⟩=some (.int .i64 aw)∧w'.cell? ⟨aa,1,none⟩=some (.int .i64 ay)∧w'.cell? ⟨aa,2,none⟩=some (.slice aJ ah.length aH)∧w'.cell? ⟨aa,3,none⟩=some (.int .i64 (wrap64 (1+(Go.bits .and .i64 aC 1))))∧w'.cell? ⟨aa,4,none⟩=some (.int .i64 ai)∧w'.cell? ⟨aa,5,none⟩=some (au)∧w'.cell? ⟨aa,6,none⟩=some (ap)∧w'.cell? (bg.add (aQ).toNat)=some (.int .i64 (rd aN aQ))) (ds:=[7,9]) #[false,false,false,false,false,false,false,false,false,false] (by kernel_rfl) rfl rfl ⟨(qab ab.out 0).trans rfl,(qab ab.out 1).trans rfl,(qab ab.out 2).trans rfl,(qab ab.out 3).trans rfl,(qab ab.out 4).trans rfl,(qab ab.out 5).trans rfl,(qab ab.out 6).trans rfl,cA⟩ (fun hHeld=>?_);refine qaX ostinatoref18_Pick_Setup.tab17 ostinatoref18_Pick_Setup.bits17 (fun HT_ HW_=>?_)
                  generalize wc.drew=pb at aU aY ac af ag ae am an ax ab HB cA hHeld ⊢
                  refine sP 0 (some 88) rfl rfl ?_
                  refine sP 2 (some 90) rfl rfl ?_
                  refine sP 3 (some 91) rfl rfl ?_
                  refine sP 4 (some 92) rfl rfl ?_
                  refine qaZ (i:=1) (N:=some 89) (v:=?_) (a':=?_) #[true,true,true,true,true,false,false,false,false,false] rfl rfl (qay HT_.out HW_.out (by kernel_rfl)) (fun _ _ _ h=>h) (Or.inl ⟨by rfl,?_⟩) hHeld ?_ ?_
                  rotate_left
                  ·rintro w' ⟨s0,s1,s2,s3,s4,s5,s6,s7⟩
                   go_simp
                   with_reducible rfl
                  rotate_left
                  ·simp only [Act.put,List.setIfInBounds_toArray,List.set_cons_zero,List.set_cons_succ,qaC,qaE]
                   rfl
                  refine qaZ (i:=5) (N:=some 93) (v:=?_) (a':=?_) #[true,true,true,true,true,true,false,false,false,false] rfl rfl (qay HT_.out HW_.out (by kernel_rfl)) (fun _ _ _ h=>h) (Or.inl ⟨by rfl,?_⟩) hHeld ?_ ?_
                  rotate_left
                  ·rintro w' ⟨s0,s1,s2,s3,s4,s5,s6,s7⟩
                   go_simp
                   with_reducible rfl
                  rotate_left
                  ·simp only [Act.put,List.setIfInBounds_toArray,List.set_cons_zero,List.set_cons_succ,qaC,qaE]
                   rfl
                  refine one_ (i:=6) (N:=some 94) #[true,true,true,true,true,true,true,false,false,false] rfl rfl (qaO HT_.out (by kernel_rfl)) (by decide) (fun K hK=>?_)
                  refine value_ (w1:=?_) (v:=?_) (by rfl) rfl ?_ ?_
                  rotate_left 2
                  ·go_simp
                   constructor
                   ·rfl
                   ·rfl
                  refine hK.out _ _ ⟨(qab (qas ab.out _) 0).trans rfl,(qab (qas ab.out _) 1).trans rfl,(qab (qas ab.out _) 2).trans rfl,(qab (qas ab.out _) 3).trans rfl,(qab (qas ab.out _) 4).trans rfl,(qab (qas ab.out _) 5).trans rfl,(qab (qas ab.out _) 6).trans rfl,(World.cell?_alloc_lt _ _ _ (bLt _ _ (hHeld.2.2.2.2.2.2.2))).trans (hHeld.2.2.2.2.2.2.2)⟩ (fun hHeld=>?_)
                  clear hK K
                  refine qa0 (a':=?_) ?_ ?_
                  rotate_left
                  ·show Act.put _ (some 94) _=_
                   simp only [Act.put,List.setIfInBounds_toArray,List.set_cons_zero,List.set_cons_succ,qaC,qaE]
                   rfl
                  refine last_ (i:=7) (N:=some 95) #[true,true,true,true,true,true,true,true,false,false] rfl rfl (qaO HT_.out (by kernel_rfl)) (by decide) (fun K hK=>?_)
                  refine Kd.R_append_step (Kd.int .i64) (w0:=w) w.heap.size (by rfl) (.tmp 89) (.tmp 94) 25 3 (.int .i64 0) 8 rfl Tryd.underlying25 info3 rfl (by decide) (by omega) au aG (rd aN aQ) [.int .i64 (rd aN aQ)] (fun k_=>(w.heap.size≤k_)∧some k_≠(.slice (some bg) aN.length bL:Value).ownBlock) (fun _=>False) rfl rfl ?aP (fun _ hk=>hk.elim) ?aF ?aO ?aB ?aS ?aL ?_
                  (case aP=>exact rfl)
                  (case aB=>exact sB)
                  (case aF=>exact (fun k_ hk=>⟨(Nat.le_trans (qac sB) hk),Kd.fresh' (Kd.R_lt (sR aY.out)) k_ hk⟩))
                  (case aO=>exact (sR ag.out))
                  (case aS=>exact (qac sB))
                  (case aL=>have:=gC.out;omega)
                  intro v171 mf ho hb hg hat
                  rw [← gD.out] at ho
                  replace aU:=qaa.mk (Kd.N_afterv (ok:=(fun k_=>(aI k_∨w.heap.size≤k_)∧some k_≠(.slice (some bg) aN.length bL:Value).ownBlock∧some k_≠(ap:Value).ownBlock∧k_≠az∧k_≠av∧k_≠aj∧k_≠aa)) (by refine sNm ?_;exact Kd.N_mono aU.out (fun _ hk=>⟨⟨hk.1,⟨hk.2.1,⟨hk.2.2.2.1,⟨hk.2.2.2.2.1,⟨hk.2.2.2.2.2.1,⟨hk.2.2.2.2.2.2.1,hk.2.2.2.2.2.2.2⟩⟩⟩⟩⟩⟩,hk.2.2.1⟩)) hg hat)
                  replace aY:=qaa.mk (Kd.R_after (ok:=(fun k_=>(w.heap.size≤k_))) (sR aY.out) hg hat)
                  replace ac:=qaa.mk (Kd.V_afterv (ok:=(fun k_=>(aI k_∨w.heap.size≤k_)∧some k_≠(.slice dQ aE.length dT:Value).ownBlock∧some k_≠(.slice (some bg) aN.length bL:Value).ownBlock∧some k_≠(ap:Value).ownBlock∧k_≠az∧k_≠av∧k_≠aj∧k_≠aa)) (by refine sVm ?_;exact Kd.V_mono ac.out (fun _ hk=>⟨⟨hk.1,⟨hk.2.1,⟨hk.2.2.1,⟨hk.2.2.2.2.1,⟨hk.2.2.2.2.2.1,⟨hk.2.2.2.2.2.2.1,⟨hk.2.2.2.2.2.2.2.1,hk.2.2.2.2.2.2.2.2⟩⟩⟩⟩⟩⟩⟩,hk.2.2.2.1⟩)) hg hat)
                  replace af:=qaa.mk (Kd.V_afterv (ok:=(fun k_=>(aI k_∨w.heap.size≤k_)∧some k_≠(.slice dQ aE.length dT:Value).ownBlock∧some k_≠(.slice (some bg) aN.length bL:Value).ownBlock∧some k_≠(ap:Value).ownBlock∧k_≠az∧k_≠av∧k_≠aj∧k_≠aa)) (by refine sVm ?_;exact Kd.V_mono af.out (fun _ hk=>⟨⟨hk.1,⟨hk.2.1,⟨hk.2.2.1,⟨hk.2.2.2.2.1,⟨hk.2.2.2.2.2.1,⟨hk.2.2.2.2.2.2.1,⟨hk.2.2.2.2.2.2.2.1,hk.2.2.2.2.2.2.2.2⟩⟩⟩⟩⟩⟩⟩,hk.2.2.2.1⟩)) hg hat)
                  replace ae:=qaa.mk (Kd.R_over' (sR ae.out) (Kd.R_typed (sR ag.out)) (by decide) hg)
                  replace am:=qaa.mk (sKg am.out hg (Kd.R_ne ag.out am.out (by decide)))
                  replace an:=qaa.mk (sKg an.out hg (Kd.R_ne ag.out an.out (by decide)))
                  replace ax:=qaa.mk (sKg ax.out hg (Kd.R_ne ag.out ax.out (by decide)))
                  replace ab:=qaa.mk (sKg ab.out hg (Kd.R_ne ag.out ab.out (by decide)))
                  replace HB:=qaa.mk (hb)
                  have cB:=qaa.mk (ho)
                  clear ag ho hb hg hat
                  obtain⟨cC,cD,iN⟩:=Kd.R_slice cB.out
                  (first|subst iN|(injection iN with iJ l8 iK;have l9:=iJ.symm;have ma:=iK.symm;clear iJ l8 iK;subst l9;subst ma))
                  refine hK.out _ _ ?_
                  clear hK K
                  refine qa0 (a':=?_) ?_ ?_
                  rotate_left
                  ·show Act.put _ (some 95) _=_
                   simp only [Act.put,List.setIfInBounds_toArray,List.set_cons_zero,List.set_cons_succ,qaC,qaE]
                   rfl
                  refine sP 8 (some 96) rfl rfl ?_
                  refine last_ (i:=9) (N:=none) #[true,true,true,true,true,true,true,true,true,true] rfl rfl (qaO HT_.out (by kernel_rfl)) (by decide) (fun K hK=>?_)
                  have oK:mf.cell? ⟨aa,5,none⟩=some (au):=(qab ab.out 5).trans rfl
                  have nY:=qan ab.out 5
                  have kU:=ak.out
                  have kV:=al.out
                  have kW:=aq.out
                  have kX:=aV.out
                  have kY:=aW.out
                  have kZ:=ba.out
                  refine skip_ (w1:=?_) (by rfl) rfl ?_ ?_
                  rotate_left
                  ·go_simp
                   rfl
                  refine hK.out _ _ ?_
                  clear hK K
                  refine done_ (done_of HT_.out (by kernel_rfl)) ?_
                  have nZ:=be.out
                  have n3:=bf.out
                  have n4:=bq.out
                  have n8:=bt.out
                  have n9:=ak.out
                  have oa:=aV.out
                  obtain⟨k7,k8,k9,la⟩:=sC4 (w:=mf) am.out
                  obtain⟨lb,ld,le,lf⟩:=sF4 am.out
                  have ob:=aW.out
                  have oc:=al.out
                  have od:=ba.out
                  have og:=aq.out
                  obtain⟨lg,lh,ll,lm,ln,lp,lq⟩:=sC7 (w:=mf) ab.out
                  obtain⟨lr,ls,lv,lw,lx,ly,lz⟩:=sF7 ab.out
                  try go_wp2_with (first|((with_reducible refine qaB (b:=.append) (xs:=#[.tmp 109,.tmp 111]) rfl ?_);at_builtin;refine Kd.R_append (Kd.int .i64) (w0:=w) w.heap.size rfl (.tmp 109) (.tmp 111) 34 2 (.int .i64 0) 8 rfl Tryd.underlying34 info2 rfl (by decide) (by omega) ap aA 0 [.int .i64 0] (fun k_=>(w.heap.size≤k_)) (fun _=>False) rfl (by first|(go_simp;done)|(go_simp;rfl)) ?aP (fun _ hk=>hk.elim) ?aF ?aO ?aB ?aS ?aL ?_;(case aP=>exact rfl);(case aB=>exact sB);(case aF=>exact (fun k_ hk=>(Nat.le_trans (qac sB) hk)));(case aO=>exact (by refine sRm ?_;exact Kd.R_mono (Kd.R_far (p:=⟨aa,5,none⟩) (Kd.R_types ae.out ab.out (by decide)) (fun _ hk=>hk.2) (.slice cC aZ.length cD)) (fun _ hk=>hk.1)));(case aS=>exact (qac sB));(case aL=>have:=iL.out;omega);intro oL mg ho hb hg hat;rw [← iM.out] at ho;replace aU:=qaa.mk (Kd.N_afterv (ok:=(fun k_=>(aI k_∨w.heap.size≤k_)∧some k_≠(.slice (some bg) aN.length bL:Value).ownBlock∧some k_≠(.slice cC aZ.length cD:Value).ownBlock∧k_≠az∧k_≠av∧k_≠aj∧k_≠aa)) (by refine sNm ?_;exact Kd.N_mono (Kd.N_far (p:=⟨aa,5,none⟩) (Kd.N_mono aU.out (fun k_ hk=>(⟨hk,hk.1.2.2.2.2.2.2⟩:_∧k_≠aa))) (fun _ hk=>hk.2) (.slice cC aZ.length cD)) (fun _ hk=>⟨⟨hk.1.1.1,⟨hk.1.1.2.1,⟨hk.1.2,⟨hk.1.1.2.2.2.1,⟨hk.1.1.2.2.2.2.1,⟨hk.1.1.2.2.2.2.2.1,hk.1.1.2.2.2.2.2.2⟩⟩⟩⟩⟩⟩,hk.1.1.2.2.1⟩)) hg hat);replace aY:=qaa.mk (Kd.R_over' (by refine sRm ?_;exact (Kd.R_mono (Kd.R_far (p:=⟨aa,5,none⟩) (Kd.R_types aY.out ab.out (by decide)) (fun _ hk=>hk.2) (.slice cC aZ.length cD)) (fun _ h_=>h_.1))) (Kd.R_typed (by refine sRm ?_;exact (Kd.R_mono (Kd.R_far (p:=⟨aa,5,none⟩) (Kd.R_types ae.out ab.out (by decide)) (fun _ hk=>hk.2) (.slice cC aZ.length cD)) (fun _ h_=>h_.1)))) (by decide) hg);replace ac:=qaa.mk (Kd.V_afterv (ok:=(fun k_=>(aI k_∨w.heap.size≤k_)∧some k_≠(.slice dQ aE.length dT:Value).ownBlock∧some k_≠(.slice (some bg) aN.length bL:Value).ownBlock∧some k_≠(.slice cC aZ.length cD:Value).ownBlock∧k_≠az∧k_≠av∧k_≠aj∧k_≠aa)) (by refine sVm ?_;exact Kd.V_mono (Kd.V_far (p:=⟨aa,5,none⟩) (Kd.V_mono ac.out (fun k_ hk=>(⟨hk,hk.1.2.2.2.2.2.2.2⟩:_∧k_≠aa))) (fun _ hk=>hk.2) (.slice cC aZ.length cD)) (fun _ hk=>⟨⟨hk.1.1.1,⟨hk.1.1.2.1,⟨hk.1.1.2.2.1,⟨hk.1.2,⟨hk.1.1.2.2.2.2.1,⟨hk.1.1.2.2.2.2.2.1,⟨hk.1.1.2.2.2.2.2.2.1,hk.1.1.2.2.2.2.2.2.2⟩⟩⟩⟩⟩⟩⟩,hk.1.1.2.2.2.1⟩)) hg hat);replace af:=qaa.mk (Kd.V_afterv (ok:=(fun k_=>(aI k_∨w.heap.size≤k_)∧some k_≠(.slice dQ aE.length dT:Value).ownBlock∧some k_≠(.slice (some bg) aN.length bL:Value).ownBlock∧some k_≠(.slice cC aZ.length cD:Value).ownBlock∧k_≠az∧k_≠av∧k_≠aj∧k_≠aa)) (by refine sVm ?_;exact Kd.V_mono (Kd.V_far (p:=⟨aa,5,none⟩) (Kd.V_mono af.out (fun k_ hk=>(⟨hk,hk.1.2.2.2.2.2.2.2⟩:_∧k_≠aa))) (fun _ hk=>hk.2) (.slice cC aZ.length cD)) (fun _ hk=>⟨⟨hk.1.1.1,⟨hk.1.1.2.1,⟨hk.1.1.2.2.1,⟨hk.1.2,⟨hk.1.1.2.2.2.2.1,⟨hk.1.1.2.2.2.2.2.1,⟨hk.1.1.2.2.2.2.2.2.1,hk.1.1.2.2.2.2.2.2.2⟩⟩⟩⟩⟩⟩⟩,hk.1.1.2.2.2.1⟩)) hg hat);replace am:=qaa.mk (qaY (g:=az) (o:=.cells #[.int .i64 aC,.int .i64 aM,.slice A0_2 a8.length c0_2,.slice dU aX.length dM] 76 (0,0)) (by refine sM ?_;refine qaf ?_ ak.out _;refine sM ?_;exact am.out) hg (Kd.R_ne ae.out am.out (by decide)));replace an:=qaa.mk (qaY (g:=av) (o:=.cells #[.int .i64 aw,.int .i64 ay,.slice aJ ah.length aH] 33 (0,0)) (by refine sM ?_;refine qaf ?_ al.out _;refine sM ?_;exact an.out) hg (Kd.R_ne ae.out an.out (by decide)));replace ax:=qaa.mk (qaY (g:=aj) (o:=.cells #[.int .i64 0,.int .i64 0,.slice none 0 0,.int .i64 0,.int .i64 0,.slice none 0 0,.slice none 0 0] 36 (0,0)) (by refine sM ?_;refine qaf ?_ aq.out _;refine sM ?_;exact ax.out) hg (Kd.R_ne ae.out ax.out (by decide)));replace cB:=qaa.mk (Kd.R_over' (by refine sRm ?_;exact (Kd.R_mono (Kd.R_far (p:=⟨aa,5,none⟩) (Kd.R_types cB.out ab.out (by decide)) (fun _ hk=>hk.2) (.slice cC aZ.length cD)) (fun _ h_=>h_.1))) (Kd.R_typed (by refine sRm ?_;exact (Kd.R_mono (Kd.R_far (p:=⟨aa,5,none⟩) (Kd.R_types ae.out ab.out (by decide)) (fun _ hk=>hk.2) (.slice cC aZ.length cD)) (fun _ h_=>h_.1)))) (by decide) hg);replace ab:=qaa.mk (qaY (g:=aa) (o:=.cells #[.int .i64 aw,.int .i64 ay,.slice aJ ah.length aH,.int .i64 (wrap64 (1+(Go.bits .and .i64 aC 1))),.int .i64 ai,.slice cC aZ.length cD,ap] 36 (0,0)) (by refine sM ?_;refine qak (cs:=#[.int .i64 aw,.int .i64 ay,.slice aJ ah.length aH,.int .i64 (wrap64 (1+(Go.bits .and .i64 aC 1))),.int .i64 ai,au,ap]) ?_ 5 _ rfl;refine sM ?_;exact ab.out) hg (Kd.R_ne ae.out ab.out (by decide)));replace HB:=qaa.mk (hb);have gG:=qaa.mk (ho);clear ae ho hb hg hat;obtain⟨d8,d9,iO⟩:=Kd.R_slice gG.out;subst iO;obtain⟨iP,iQ,iR,iS,iT,iU,iV⟩:=sC7 (w:=mg) ab.out;obtain⟨iW,iX,iY,iZ,i7,i8,ja⟩:=sF7 ab.out))
                  go_roundg fw
                  case measure=>have:=fz.out;have:=dV.out;have:=fE.out;have:=fF.out;have:=gw.out;omega
                  case rel=>exact⟨(wrap64 (ar+1)),(aZ),(eI),(.slice cC aZ.length cD),(.slice d8 eI.length d9),(by first|rfl|(simp;done)|(simp [*];done)),H',⟨by have:=fz.out;have:=dV.out;have:=fE.out;have:=fF.out;have:=gw.out;omega⟩,⟨by refine sNm ?_;exact Kd.N_mono (Kd.N_far (p:=⟨aa,6,none⟩) (Kd.N_mono aU.out (fun k_ hk=>(⟨hk,hk.1.2.2.2.2.2.2⟩:_∧k_≠aa))) (fun _ hk=>hk.2) (.slice d8 eI.length d9)) (fun _ hk=>⟨hk.1.1.1,⟨hk.1.1.2.2.1,⟨hk.1.2,⟨hk.1.1.2.2.2.1,⟨hk.1.1.2.2.2.2.1,⟨hk.1.1.2.2.2.2.2.1,hk.1.1.2.2.2.2.2.2⟩⟩⟩⟩⟩⟩)⟩,⟨by refine sVm ?_;exact Kd.V_mono (Kd.V_far (p:=⟨aa,6,none⟩) (Kd.V_mono ac.out (fun k_ hk=>(⟨hk,hk.1.2.2.2.2.2.2.2⟩:_∧k_≠aa))) (fun _ hk=>hk.2) (.slice d8 eI.length d9)) (fun _ hk=>⟨hk.1.1.1,⟨hk.1.1.2.1,⟨hk.1.1.2.2.2.1,⟨hk.1.2,⟨hk.1.1.2.2.2.2.1,⟨hk.1.1.2.2.2.2.2.1,⟨hk.1.1.2.2.2.2.2.2.1,hk.1.1.2.2.2.2.2.2.2⟩⟩⟩⟩⟩⟩⟩)⟩,⟨by refine sVm ?_;exact Kd.V_mono (Kd.V_far (p:=⟨aa,6,none⟩) (Kd.V_mono af.out (fun k_ hk=>(⟨hk,hk.1.2.2.2.2.2.2.2⟩:_∧k_≠aa))) (fun _ hk=>hk.2) (.slice d8 eI.length d9)) (fun _ hk=>⟨hk.1.1.1,⟨hk.1.1.2.1,⟨hk.1.1.2.2.2.1,⟨hk.1.2,⟨hk.1.1.2.2.2.2.1,⟨hk.1.1.2.2.2.2.2.1,⟨hk.1.1.2.2.2.2.2.2.1,hk.1.1.2.2.2.2.2.2.2⟩⟩⟩⟩⟩⟩⟩)⟩,⟨by refine sRm ?_;exact Kd.R_mono (Kd.R_far (p:=⟨aa,6,none⟩) (Kd.R_types cB.out ab.out (by decide)) (fun _ hk=>hk.2) (.slice d8 eI.length d9)) (fun _ hk=>hk.1.1)⟩,⟨by refine sRm ?_;exact Kd.R_mono (Kd.R_far (p:=⟨aa,6,none⟩) (Kd.R_types gG.out ab.out (by decide)) (fun _ hk=>hk.2) (.slice d8 eI.length d9)) (fun _ hk=>hk.1)⟩,⟨by refine sM ?_;refine qaf ?_ ak.out _;refine sM ?_;exact am.out⟩,⟨by refine sM ?_;refine qaf ?_ al.out _;refine sM ?_;exact an.out⟩,⟨by refine sM ?_;refine qaf ?_ aq.out _;refine sM ?_;exact ax.out⟩,⟨by refine sM ?_;refine qak (cs:=#[.int .i64 aw,.int .i64 ay,.slice aJ ah.length aH,.int .i64 (wrap64 (1+(Go.bits .and .i64 aC 1))),.int .i64 ai,.slice cC aZ.length cD,ap]) ?_ 6 _ rfl;refine sM ?_;exact ab.out⟩,⟨by repeat (first|(with_reducible first|exact HB.out|apply qah|apply qae|apply qag|refine qad ?_ bx.out|refine qad ?_ bz.out|refine qad ?_ bB.out|refine qad ?_ bC.out)|exact HB.out)⟩⟩
                 ·rw [if_neg kT] at H
                  exact absurd H (by simp)
               ·rw [if_neg jW] at H
                exact absurd H (by simp)
              ·rw [if_neg jV] at H
               exact absurd H (by simp)
             ·rw [if_neg jU] at H
              exact absurd H (by simp)
       ·rw [if_neg gJ] at H
        have gz:decide (ar<(ah.length:Int))=false:=decide_eq_false gJ
        clear gJ
        simp only [Option.some.injEq,Prod.mk.injEq] at H
        obtain⟨rfl,rfl,rfl,rfl,rfl,rfl,rfl⟩:=H
        have mh:=bf.out
        have mi:=be.out
        have mj:=bN.out
        have ml:=bO.out
        have mm:=al.out
        have mo:=aW.out
        obtain⟨jb,jc,jd⟩:=sC3 (w:=wr) an.out
        obtain⟨je,jf,jg⟩:=sF3 an.out
        have mq:=aV.out
        have mr:=ak.out
        have ms:=ba.out
        have mt:=aq.out
        obtain⟨jh,ji,jj,jk,jl,jm,jn⟩:=sC7 (w:=wr) ab.out
        obtain⟨jo,jp,jq,jr,js,jt,ju⟩:=sF7 ab.out
        have mu:=bt.out
        have mv:=bq.out
        obtain⟨jv,jw,jx,jy,jz,jA,jB⟩:=sC7 (w:=wr) ax.out
        obtain⟨jC,jD,jE,jF,jG,jH,jI⟩:=sF7 ax.out
        obtain⟨eK,eL,jJ⟩:=Kd.R_slice ag.out
        subst jJ
        obtain⟨ft,fu,jK⟩:=Kd.R_slice ae.out
        subst jK
        go_wp2
        refine bodyPost_ret (results_cell_row rfl _ _ aj 36 #[.int .i64 aw,.int .i64 ay,.slice aJ ah.length aH,.int .i64 (wrap64 (1+(Go.bits .and .i64 aC 1))),.int .i64 ai,.slice eK aG.length eL,.slice ft aA.length fu] (0,0) _ rfl (by refine sM ?_;refine qak (cs:=#[.int .i64 aw,.int .i64 ay,.slice aJ ah.length aH,.int .i64 (wrap64 (1+(Go.bits .and .i64 aC 1))),.int .i64 ai,.slice eK aG.length eL,.slice none 0 0]) ?_ 6 _ rfl;refine sM ?_;refine qak (cs:=#[.int .i64 aw,.int .i64 ay,.slice aJ ah.length aH,.int .i64 (wrap64 (1+(Go.bits .and .i64 aC 1))),.int .i64 ai,.slice none 0 0,.slice none 0 0]) ?_ 5 _ rfl;refine sM ?_;refine qak (cs:=#[.int .i64 aw,.int .i64 ay,.slice aJ ah.length aH,.int .i64 (wrap64 (1+(Go.bits .and .i64 aC 1))),.int .i64 0,.slice none 0 0,.slice none 0 0]) ?_ 4 _ rfl;refine sM ?_;refine qak (cs:=#[.int .i64 aw,.int .i64 ay,.slice aJ ah.length aH,.int .i64 0,.int .i64 0,.slice none 0 0,.slice none 0 0]) ?_ 3 _ rfl;refine sM ?_;refine qak (cs:=#[.int .i64 aw,.int .i64 ay,.slice none 0 0,.int .i64 0,.int .i64 0,.slice none 0 0,.slice none 0 0]) ?_ 2 _ rfl;refine sM ?_;refine qak (cs:=#[.int .i64 aw,.int .i64 0,.slice none 0 0,.int .i64 0,.int .i64 0,.slice none 0 0,.slice none 0 0]) ?_ 1 _ rfl;refine sM ?_;refine qak (cs:=#[.int .i64 0,.int .i64 0,.slice none 0 0,.int .i64 0,.int .i64 0,.slice none 0 0,.slice none 0 0]) ?_ 0 _ rfl;refine sM ?_;exact ax.out) Tryd.underlying36 rfl (by kernel_rfl)) rfl ?_
        exact⟨_,_,_,by first|rfl|(simp [qam,qal]<;>rfl)|(simp [bneNil,bneNilU]<;>rfl)|(simp [*,qam,qal]<;>rfl),by refine sVm ?_;exact Kd.V_mono (Kd.V_far (p:=⟨aj,6,none⟩) (Kd.V_far (p:=⟨aj,5,none⟩) (Kd.V_far (p:=⟨aj,4,none⟩) (Kd.V_far (p:=⟨aj,3,none⟩) (Kd.V_far (p:=⟨aj,2,none⟩) (Kd.V_far (p:=⟨aj,1,none⟩) (Kd.V_far (p:=⟨aj,0,none⟩) (Kd.V_mono af.out (fun k_ hk=>(⟨hk,hk.2.2.2.2.2.2.1⟩:_∧k_≠aj))) (fun _ hk=>hk.2) (.int .i64 aw)) (fun _ hk=>hk.2) (.int .i64 ay)) (fun _ hk=>hk.2) (.slice aJ ah.length aH)) (fun _ hk=>hk.2) (.int .i64 (wrap64 (1+(Go.bits .and .i64 aC 1))))) (fun _ hk=>hk.2) (.int .i64 ai)) (fun _ hk=>hk.2) (.slice eK aG.length eL)) (fun _ hk=>hk.2) (.slice ft aA.length fu)) (fun _ hk=>⟨hk.1.1,⟨hk.1.2.2.1,hk.1.2.2.2.1⟩⟩),by refine sRm ?_;exact Kd.R_mono (Kd.R_far (p:=⟨aj,6,none⟩) (Kd.R_far (p:=⟨aj,5,none⟩) (Kd.R_far (p:=⟨aj,4,none⟩) (Kd.R_far (p:=⟨aj,3,none⟩) (Kd.R_far (p:=⟨aj,2,none⟩) (Kd.R_far (p:=⟨aj,1,none⟩) (Kd.R_far (p:=⟨aj,0,none⟩) (Kd.R_types ag.out ax.out (by decide)) (fun _ hk=>hk.2) (.int .i64 aw)) (fun _ hk=>hk.2) (.int .i64 ay)) (fun _ hk=>hk.2) (.slice aJ ah.length aH)) (fun _ hk=>hk.2) (.int .i64 (wrap64 (1+(Go.bits .and .i64 aC 1))))) (fun _ hk=>hk.2) (.int .i64 ai)) (fun _ hk=>hk.2) (.slice eK aG.length eL)) (fun _ hk=>hk.2) (.slice ft aA.length fu)) (fun _ hk=>hk.1),by refine sRm ?_;exact Kd.R_mono (Kd.R_far (p:=⟨aj,6,none⟩) (Kd.R_far (p:=⟨aj,5,none⟩) (Kd.R_far (p:=⟨aj,4,none⟩) (Kd.R_far (p:=⟨aj,3,none⟩) (Kd.R_far (p:=⟨aj,2,none⟩) (Kd.R_far (p:=⟨aj,1,none⟩) (Kd.R_far (p:=⟨aj,0,none⟩) (Kd.R_types ae.out ax.out (by decide)) (fun _ hk=>hk.2) (.int .i64 aw)) (fun _ hk=>hk.2) (.int .i64 ay)) (fun _ hk=>hk.2) (.slice aJ ah.length aH)) (fun _ hk=>hk.2) (.int .i64 (wrap64 (1+(Go.bits .and .i64 aC 1))))) (fun _ hk=>hk.2) (.int .i64 ai)) (fun _ hk=>hk.2) (.slice eK aG.length eL)) (fun _ hk=>hk.2) (.slice ft aA.length fu)) (fun _ hk=>hk.1),by repeat (first|(with_reducible first|exact HB.out|apply qah|apply qae|apply qag|refine qad ?_ bx.out|refine qad ?_ bz.out|refine qad ?_ bB.out|refine qad ?_ bC.out)|exact HB.out)⟩
end
end Go.Proofs.YtgnaaokhfpfglaaDoor.PCertTold
end
section
namespace Go.Proofs.YtgnaaokhfpfglaaDoor.PCertTold
open Go.RowKit Go.Proofs.YtgnaaokhfpfglaaDoorW.PrintWords Go.Proofs.YtgnaaokhfpfglaaDoorW.PrintLast Go.Proofs.YtgnaaokhfpfglaaDoorW.PrintMore
attribute [local go_sem] qaW qaU qa3 qa2 qaN qaM qaV qaT
set_option linter.unusedVariables false
set_option linter.unusedSimpArgs false
noncomputable section
def ostinatolaw21_Pick_setup.f (k:Nat) (ab:Int) (ac:Int) (ae:List Int) (af:List Int) (ag:Int) (ah:Int) (ai:List (S53)):Option (Int × Int × (List (S53)) × Int × Int × List Int × List Int):=(ostinatoref18_Pick_Setup.f k ab ac ae af ag ah ai).bind fun aa=>(some (aa.1,aa.2.1,aa.2.2.1,aa.2.2.2.1,aa.2.2.2.2.1,aa.2.2.2.2.2.1,aa.2.2.2.2.2.2))
theorem ostinatolaw21_Pick_setup.calls (k:Nat) (ap:Int) (ar:Int) (A0_2:Option Addr) (c0_2:Nat) (an:List Int) (aw:Option Addr) (ax:Nat) (aq:List Int) (aD:Int) (aE:Int) (aC:Nat→Prop) (aG:Option Addr) (aH:Nat) (au:List (S53)) (r1:Int) (r2:Int) (r3:List (S53)) (r4:Int) (r5:Int) (r6:List Int) (r7:List Int) (w:World) (hr0_2:Kd.C (Kd.int .i64) w A0_2 an.length an) (hc0_2:an.length≤c0_2) (bj:Kd.C (Kd.int .i64) w aw aq.length aq) (bm:aq.length≤ax) (bt:Kd.V k53 53 w w.heap.size (fun k_=>aC k_) (.slice aG au.length aH) au) (h:ostinatolaw21_Pick_setup.f k ap ar an aq aD aE au=some (r1,r2,r3,r4,r5,r6,r7)) :
  Calls Tryd.prog 16 #[.agg #[.int .i64 ap,.int .i64 ar,.slice A0_2 an.length c0_2,.slice aw aq.length ax],.agg #[.int .i64 aD,.int .i64 aE,.slice aG au.length aH]] w fun e w'=>∃ cQ cz cA:Value,e=.returned (.agg #[.int .i64 r1,.int .i64 r2,cQ,.int .i64 r4,.int .i64 r5,cz,cA])∧Kd.V k53 53 w' w.heap.size (fun k_=>(aC k_∨w.heap.size≤k_)∧some k_≠(cz:Value).ownBlock∧some k_≠(cA:Value).ownBlock) cQ r3∧Kd.R (Kd.int .i64) 3 w' w.heap.size (fun k_=>(w.heap.size≤k_)) cz r6∧Kd.R (Kd.int .i64) 2 w' w.heap.size (fun k_=>(w.heap.size≤k_)) cA r7∧Below w.heap.size w w':=by
 have dm:=Tryd.underlying27
 have dn:=Tryd.underlying33
 have dp:=Tryd.underlying36
 have dq:=Tryd.underlying76
 have bv:=qaa.mk hr0_2
 have bw:=qaa.mk hc0_2
 clear hr0_2 hc0_2
 have bx:=qaa.mk bj
 have bz:=qaa.mk bm
 clear bj bm
 have ai:=qaa.mk (show Kd.V k53 53 w w.heap.size (fun k_=>(aC k_∨w.heap.size≤k_)) (.slice aG au.length aH) au from Kd.V_mono bt (fun k_ hk=>.inl hk))
 have HB:=qaa.mk (Below.refl w.heap.size w)
 have H:((ostinatoref18_Pick_Setup.f k ap ar an aq aD aE au).bind fun ay=>(some (ay.1,ay.2.1,ay.2.2.1,ay.2.2.2.1,ay.2.2.2.2.1,ay.2.2.2.2.2.1,ay.2.2.2.2.2.2)))=some (r1,r2,r3,r4,r5,r6,r7):=h
 clear h
 replace H:=Option.bind_eq_some_iff.mp H
 obtain⟨⟨av,az,aA,aI,aJ,aN,aQ⟩,cR,H⟩:=H
 replace H:(some (av,az,aA,aI,aJ,aN,aQ))=some (r1,r2,r3,r4,r5,r6,r7):=H
 have A3:=qaa.mk cR
 clear cR
 simp only [Option.some.injEq,Prod.mk.injEq] at H
 obtain⟨rfl,rfl,rfl,rfl,rfl,rfl,rfl⟩:=H
 go_enter Tryd.func16,Tryd.ntmps16
 go_wp2_with (first|((with_reducible refine qap (N:=2) rfl ?_);refine qao ?hg (N:=2) ?hd (cs:=#[.int .i64 ap,.int .i64 ar,.slice A0_2 an.length c0_2,.slice aw aq.length ax]) (t:=27) ?hr ?_;(case hd=>rfl);(case hg=>rfl);(case hr=>first|(go_simp;done)|(go_simp;rfl));intro aj hg w4 hbox hb;replace ai:=qaa.mk (Kd.V_below (Kd.V_elderB (sV ai.out) aj (Nat.le_of_eq hg.symm)) hb);have ac:=qaa.mk (hbox);have cS:=qaa.mk ((by rw [hg];exact (qac sB):w.heap.size≤aj));have bB:=qaa.mk ((by rw [hg];exact (qac sB):w.heap.size≤aj));replace HB:=qaa.mk (qai sB hb);clear hb hbox hg)|((with_reducible refine qap (N:=3) rfl ?_);refine qao ?hg (N:=3) ?hd (cs:=#[.int .i64 aD,.int .i64 aE,.slice aG au.length aH]) (t:=33) ?hr ?_;(case hd=>rfl);(case hg=>rfl);(case hr=>first|(go_simp;done)|(go_simp;rfl));intro af hg w5 hbox hb;replace ai:=qaa.mk (Kd.V_below (Kd.V_elderB (sV ai.out) af (Nat.le_of_eq hg.symm)) hb);have ae:=qaa.mk (hbox);have cT:=qaa.mk ((by rw [hg];exact (qac sB):w.heap.size≤af));have bC:=qaa.mk ((by rw [hg];exact (qac sB):w.heap.size≤af));replace HB:=qaa.mk (qai sB hb);have aT:=qaa.mk ((by rw [hg];exact Nat.ne_of_lt (sLt ac.out):aj≠af));have aU:=qaa.mk ((by rw [hg];exact Nat.ne_of_gt (sLt ac.out):af≠aj));replace ac:=qaa.mk (sKb ac.out hb);clear hb hbox hg)|((with_reducible refine qap (N:=4) rfl ?_);refine qao ?hg (N:=4) ?hd (cs:=#[.int .i64 0,.int .i64 0,.slice none 0 0,.int .i64 0,.int .i64 0,.slice none 0 0,.slice none 0 0]) (t:=36) ?hr ?_;(case hd=>rfl);(case hg=>rfl);(case hr=>first|(go_simp;done)|(go_simp;rfl));intro aa hg w6 hbox hb;replace ai:=qaa.mk (Kd.V_below (Kd.V_elderB (sV ai.out) aa (Nat.le_of_eq hg.symm)) hb);have ah:=qaa.mk (hbox);have cU:=qaa.mk ((by rw [hg];exact (qac sB):w.heap.size≤aa));have bD:=qaa.mk ((by rw [hg];exact (qac sB):w.heap.size≤aa));replace HB:=qaa.mk (qai sB hb);have aV:=qaa.mk ((by rw [hg];exact Nat.ne_of_lt (sLt ac.out):aj≠aa));have aW:=qaa.mk ((by rw [hg];exact Nat.ne_of_gt (sLt ac.out):aa≠aj));replace ac:=qaa.mk (sKb ac.out hb);have aX:=qaa.mk ((by rw [hg];exact Nat.ne_of_lt (sLt ae.out):af≠aa));have aY:=qaa.mk ((by rw [hg];exact Nat.ne_of_gt (sLt ae.out):aa≠af));replace ae:=qaa.mk (sKb ae.out hb);clear hb hbox hg;have dr:=aT.out;have du:=aU.out;have dv:=aV.out;have dw:=aW.out;obtain⟨cB,cC,cD,cE⟩:=sC4 (w:=w6) ac.out;obtain⟨cF,cG,cH,cI⟩:=sF4 ac.out)|((with_reducible refine qap (N:=5) rfl ?_);refine qao ?hg (N:=5) ?hd (cs:=#[.int .i64 0,.int .i64 0,.slice none 0 0,.slice none 0 0]) (t:=76) ?hr ?_;(case hd=>rfl);(case hg=>rfl);(case hr=>first|(go_simp;done)|(go_simp;rfl));intro ab hg cV hbox hb;replace ai:=qaa.mk (Kd.V_below (Kd.V_elderB (sV ai.out) ab (Nat.le_of_eq hg.symm)) hb);have ag:=qaa.mk (hbox);have cW:=qaa.mk ((by rw [hg];exact (qac sB):w.heap.size≤ab));have bE:=qaa.mk ((by rw [hg];exact (qac sB):w.heap.size≤ab));replace HB:=qaa.mk (qai sB hb);have ak:=qaa.mk ((by rw [hg];exact Nat.ne_of_lt (sLt ac.out):aj≠ab));have aZ:=qaa.mk ((by rw [hg];exact Nat.ne_of_gt (sLt ac.out):ab≠aj));replace ac:=qaa.mk (sKb ac.out hb);have al:=qaa.mk ((by rw [hg];exact Nat.ne_of_lt (sLt ae.out):af≠ab));have a8:=qaa.mk ((by rw [hg];exact Nat.ne_of_gt (sLt ae.out):ab≠af));replace ae:=qaa.mk (sKb ae.out hb);have am:=qaa.mk ((by rw [hg];exact Nat.ne_of_lt (sLt ah.out):aa≠ab));have ba:=qaa.mk ((by rw [hg];exact Nat.ne_of_gt (sLt ah.out):ab≠aa));replace ah:=qaa.mk (sKb ah.out hb);clear hb hbox hg;have cX:=aZ.out;have cY:=ak.out;have cZ:=a8.out;have da:=al.out;have db:=ba.out;have dc:=am.out;obtain⟨bK,bL,bM,bN⟩:=sC4 (w:=cV) ag.out;obtain⟨bO,bP,bQ,bR⟩:=sF4 ag.out)|((with_reducible refine gate_store (t:=76) (p:=5) rfl ?_);refine store_event (t:=76) (p:=5) (v:=?vo_w15) (w1:=((((cV.setCell ⟨ab,0,none⟩ (.int .i64 ap)).setCell ⟨ab,1,none⟩ (.int .i64 ar)).setCell ⟨ab,2,none⟩ (.slice A0_2 an.length c0_2)).setCell ⟨ab,3,none⟩ (.slice aw aq.length ax))) ?hg ?ho ?hn ?hr ?_;(case ho=>rfl);(case hg=>rfl);(case hn=>rfl);(case hr=>first|(go_simp;done)|(go_simp;rfl));intro be hw;have dd:qaa (Kd.V k53 53 be w.heap.size (fun k_=>(aC k_∨w.heap.size≤k_)∧k_≠aj∧k_≠af∧k_≠aa∧k_≠ab) (.slice aG au.length aH) au):=⟨(by rw [hw];exact (by refine sVm ?_;exact Kd.V_mono (Kd.V_far (p:=⟨ab,3,none⟩) (Kd.V_far (p:=⟨ab,2,none⟩) (Kd.V_far (p:=⟨ab,1,none⟩) (Kd.V_far (p:=⟨ab,0,none⟩) (Kd.V_mono ai.out (fun k_ hk=>(⟨hk,hk.2⟩:_∧k_≠ab))) (fun _ hk=>hk.2) (.int .i64 ap)) (fun _ hk=>hk.2) (.int .i64 ar)) (fun _ hk=>hk.2) (.slice A0_2 an.length c0_2)) (fun _ hk=>hk.2) (.slice aw aq.length ax)) (fun _ hk=>⟨hk.1.1.1.1.1,⟨hk.1.1.1.1.2,⟨hk.1.1.1.2,⟨hk.1.1.2,hk.1.2⟩⟩⟩⟩)))⟩;have de:qaa (be.heap[aj]? = some (.cells #[.int .i64 ap,.int .i64 ar,.slice A0_2 an.length c0_2,.slice aw aq.length ax] 27 (0,0))):=⟨(by rw [hw];exact (by refine sM ?_;refine qaf ?_ ak.out _;refine sM ?_;refine qaf ?_ ak.out _;refine sM ?_;refine qaf ?_ ak.out _;refine sM ?_;refine qaf ?_ ak.out _;refine sM ?_;exact ac.out))⟩;have df:qaa (be.heap[af]? = some (.cells #[.int .i64 aD,.int .i64 aE,.slice aG au.length aH] 33 (0,0))):=⟨(by rw [hw];exact (by refine sM ?_;refine qaf ?_ al.out _;refine sM ?_;refine qaf ?_ al.out _;refine sM ?_;refine qaf ?_ al.out _;refine sM ?_;refine qaf ?_ al.out _;refine sM ?_;exact ae.out))⟩;have dg:qaa (be.heap[aa]? = some (.cells #[.int .i64 0,.int .i64 0,.slice none 0 0,.int .i64 0,.int .i64 0,.slice none 0 0,.slice none 0 0] 36 (0,0))):=⟨(by rw [hw];exact (by refine sM ?_;refine qaf ?_ am.out _;refine sM ?_;refine qaf ?_ am.out _;refine sM ?_;refine qaf ?_ am.out _;refine sM ?_;refine qaf ?_ am.out _;refine sM ?_;exact ah.out))⟩;have dh:qaa (be.heap[ab]? = some (.cells #[.int .i64 ap,.int .i64 ar,.slice A0_2 an.length c0_2,.slice aw aq.length ax] 76 (0,0))):=⟨(by rw [hw];exact (by refine sM ?_;refine qak (cs:=#[.int .i64 ap,.int .i64 ar,.slice A0_2 an.length c0_2,.slice none 0 0]) ?_ 3 _ rfl;refine sM ?_;refine qak (cs:=#[.int .i64 ap,.int .i64 ar,.slice none 0 0,.slice none 0 0]) ?_ 2 _ rfl;refine sM ?_;refine qak (cs:=#[.int .i64 ap,.int .i64 0,.slice none 0 0,.slice none 0 0]) ?_ 1 _ rfl;refine sM ?_;refine qak (cs:=#[.int .i64 0,.int .i64 0,.slice none 0 0,.slice none 0 0]) ?_ 0 _ rfl;refine sM ?_;exact ag.out))⟩;have di:qaa (Below w.heap.size w be):=⟨(by rw [hw];exact sB)⟩;clear hw;clear ai;clear ac;clear ae;clear ah;clear ag;clear HB;have ai:=dd;have ac:=de;have ae:=df;have ah:=dg;have ag:=dh;have HB:=di;clear dd de df dg dh di;have bS:be.cell? ⟨ab,0,none⟩=some (.int .i64 ap):=(qab ag.out 0).trans rfl;have bT:be.cell? ⟨ab,1,none⟩=some (.int .i64 ar):=(qab ag.out 1).trans rfl;have bU:be.cell? ⟨ab,2,none⟩=some (.slice A0_2 an.length c0_2):=(qab ag.out 2).trans rfl;have bV:be.cell? ⟨ab,3,none⟩=some (.slice aw aq.length ax):=(qab ag.out 3).trans rfl;have bW:=qan ag.out 0;have bX:=qan ag.out 1;have bY:=qan ag.out 2;have bZ:=qan ag.out 3;have dj:=aX.out;have dk:=aY.out;have b8:be.cell? ⟨af,0,none⟩=some (.int .i64 aD):=(qab ae.out 0).trans rfl;have b9:be.cell? ⟨af,1,none⟩=some (.int .i64 aE):=(qab ae.out 1).trans rfl;have ca:be.cell? ⟨af,2,none⟩=some (.slice aG au.length aH):=(qab ae.out 2).trans rfl;have cb:=qan ae.out 0;have ce:=qan ae.out 1;have cf:=qan ae.out 2)|((with_reducible refine qaA (f:=34) rfl ?_);refine qa7 (some 9) rfl rfl Tryd.func34 (by kernel_rfl) rfl #[.agg #[.int .i64 ap,.int .i64 ar,.slice A0_2 an.length c0_2,.slice aw aq.length ax],.agg #[.int .i64 aD,.int .i64 aE,.slice aG au.length aH]] rfl (by (try simp only [List.map_toArray,List.map_cons,List.map_nil]);first|done|rfl|(simp only [List.length_drop,List.length_take];rfl)) ?_;(with_reducible refine (ostinatoref18_Pick_Setup.calls k ap ar _ _ an _ _ aq aD aE (fun k_=>((aC k_∨w.heap.size≤k_)∧(k_≠aj∧(k_≠af∧(k_≠aa∧k_≠ab))))) _ _ au av az aA aI aJ aN aQ _ ?bF ?bG ?bH ?bI ?bJ A3.out).mono ?_);(case bF=>repeat (first|exact (Kd.C_below bv.out HB.out)|(with_reducible refine Kd.C_alloc ?_ _)|(with_reducible refine Kd.C_drewN ?_ _)|(with_reducible refine Kd.C_drew ?_)));(case bG=>exact bw.out);(case bH=>repeat (first|exact (Kd.C_below bx.out HB.out)|(with_reducible refine Kd.C_alloc ?_ _)|(with_reducible refine Kd.C_drewN ?_ _)|(with_reducible refine Kd.C_drew ?_)));(case bI=>exact bz.out);(case bJ=>exact ai.out);rintro e dx ⟨dy,cJ,cK,rfl,dl,cL,cM,hb⟩;refine⟨_,rfl,?_⟩;replace ai:=qaa.mk (Kd.V_mono (Kd.V_told (Kd.V_told (Kd.V_old (sV ai.out) hb) (Kd.R_base cL)) (Kd.R_base cM)) (fun _ h_=>h_.1));have bn:=qaa.mk (Kd.V_lower (Kd.V_mono (ok':=fun k_=>(aC k_∨w.heap.size≤k_)∧some k_≠(cJ:Value).ownBlock∧some k_≠(cK:Value).ownBlock∧k_≠aj∧k_≠af∧k_≠aa∧k_≠ab) dl (fun k_ hk_=>⟨Or.elim hk_.1 (fun hs_=>hs_.1) (fun hn_=>(.inr (Nat.le_trans (qac sB) hn_))),hk_.2.1,hk_.2.2,Or.elim hk_.1 (fun hs_=>hs_.2.1) (fun hn_=>(Kd.freshB (g:=aj) (o:=.cells #[.int .i64 ap,.int .i64 ar,.slice A0_2 an.length c0_2,.slice aw aq.length ax] 27 (0,0)) (sK ac.out) k_ hn_)),Or.elim hk_.1 (fun hs_=>hs_.2.2.1) (fun hn_=>(Kd.freshB (g:=af) (o:=.cells #[.int .i64 aD,.int .i64 aE,.slice aG au.length aH] 33 (0,0)) (sK ae.out) k_ hn_)),Or.elim hk_.1 (fun hs_=>hs_.2.2.2.1) (fun hn_=>(Kd.freshB (g:=aa) (o:=.cells #[.int .i64 0,.int .i64 0,.slice none 0 0,.int .i64 0,.int .i64 0,.slice none 0 0,.slice none 0 0] 36 (0,0)) (sK ah.out) k_ hn_)),Or.elim hk_.1 (fun hs_=>hs_.2.2.2.2) (fun hn_=>(Kd.freshB (g:=ab) (o:=.cells #[.int .i64 ap,.int .i64 ar,.slice A0_2 an.length c0_2,.slice aw aq.length ax] 76 (0,0)) (sK ag.out) k_ hn_))⟩)) (qac sB));have bp:=qaa.mk (Kd.R_lower (Kd.R_newM (M:=fun k_=>(w.heap.size≤k_)) (Kd.R_mono (ok':=fun k_=>True) cL (fun _ hk_=>trivial)) (qac sB) (fun k_ h_=>h_)) (qac sB));have bq:=qaa.mk (Kd.R_lower (Kd.R_newM (M:=fun k_=>(w.heap.size≤k_)) (Kd.R_mono (ok':=fun k_=>True) cM (fun _ hk_=>trivial)) (qac sB) (fun k_ h_=>h_)) (qac sB));replace ac:=qaa.mk (sKb ac.out hb);replace ae:=qaa.mk (sKb ae.out hb);replace ah:=qaa.mk (sKb ah.out hb);replace ag:=qaa.mk (sKb ag.out hb);replace HB:=qaa.mk (qai sB hb);(try clear hb);(try clear dz);(try clear hk);(try clear hi);(try clear dl);(try clear cL);(try clear cM);obtain⟨cg,cj,ck,cm,co,cp,cq⟩:=sC7 (w:=dx) ah.out;obtain⟨cr,ct,cu,cv,cw,cx,cy⟩:=sF7 ah.out;obtain⟨aK,aM,cN⟩:=Kd.V_slice bn.out;subst cN;obtain⟨bf,bg,cO⟩:=Kd.R_slice bp.out;subst cO;obtain⟨bh,bi,cP⟩:=Kd.R_slice bq.out;subst cP))
 refine bodyPost_ret (results_cell_row rfl _ _ aa 36 #[.int .i64 av,.int .i64 az,.slice aK aA.length aM,.int .i64 aI,.int .i64 aJ,.slice bf aN.length bg,.slice bh aQ.length bi] (0,0) _ rfl (by refine sM ?_;refine qak (cs:=#[.int .i64 av,.int .i64 az,.slice aK aA.length aM,.int .i64 aI,.int .i64 aJ,.slice bf aN.length bg,.slice none 0 0]) ?_ 6 _ rfl;refine sM ?_;refine qak (cs:=#[.int .i64 av,.int .i64 az,.slice aK aA.length aM,.int .i64 aI,.int .i64 aJ,.slice none 0 0,.slice none 0 0]) ?_ 5 _ rfl;refine sM ?_;refine qak (cs:=#[.int .i64 av,.int .i64 az,.slice aK aA.length aM,.int .i64 aI,.int .i64 0,.slice none 0 0,.slice none 0 0]) ?_ 4 _ rfl;refine sM ?_;refine qak (cs:=#[.int .i64 av,.int .i64 az,.slice aK aA.length aM,.int .i64 0,.int .i64 0,.slice none 0 0,.slice none 0 0]) ?_ 3 _ rfl;refine sM ?_;refine qak (cs:=#[.int .i64 av,.int .i64 az,.slice none 0 0,.int .i64 0,.int .i64 0,.slice none 0 0,.slice none 0 0]) ?_ 2 _ rfl;refine sM ?_;refine qak (cs:=#[.int .i64 av,.int .i64 0,.slice none 0 0,.int .i64 0,.int .i64 0,.slice none 0 0,.slice none 0 0]) ?_ 1 _ rfl;refine sM ?_;refine qak (cs:=#[.int .i64 0,.int .i64 0,.slice none 0 0,.int .i64 0,.int .i64 0,.slice none 0 0,.slice none 0 0]) ?_ 0 _ rfl;refine sM ?_;exact ah.out) Tryd.underlying36 rfl (by kernel_rfl)) rfl ?_
 exact⟨_,_,_,by first|rfl|(simp [qam,qal]<;>rfl)|(simp [bneNil,bneNilU]<;>rfl)|(simp [*,qam,qal]<;>rfl),by refine sVm ?_;exact Kd.V_mono (Kd.V_far (p:=⟨aa,6,none⟩) (Kd.V_far (p:=⟨aa,5,none⟩) (Kd.V_far (p:=⟨aa,4,none⟩) (Kd.V_far (p:=⟨aa,3,none⟩) (Kd.V_far (p:=⟨aa,2,none⟩) (Kd.V_far (p:=⟨aa,1,none⟩) (Kd.V_far (p:=⟨aa,0,none⟩) (Kd.V_mono bn.out (fun k_ hk=>(⟨hk,hk.2.2.2.2.2.1⟩:_∧k_≠aa))) (fun _ hk=>hk.2) (.int .i64 av)) (fun _ hk=>hk.2) (.int .i64 az)) (fun _ hk=>hk.2) (.slice aK aA.length aM)) (fun _ hk=>hk.2) (.int .i64 aI)) (fun _ hk=>hk.2) (.int .i64 aJ)) (fun _ hk=>hk.2) (.slice bf aN.length bg)) (fun _ hk=>hk.2) (.slice bh aQ.length bi)) (fun _ hk=>⟨hk.1.1,⟨hk.1.2.1,hk.1.2.2.1⟩⟩),by refine sRm ?_;exact Kd.R_mono (Kd.R_far (p:=⟨aa,6,none⟩) (Kd.R_far (p:=⟨aa,5,none⟩) (Kd.R_far (p:=⟨aa,4,none⟩) (Kd.R_far (p:=⟨aa,3,none⟩) (Kd.R_far (p:=⟨aa,2,none⟩) (Kd.R_far (p:=⟨aa,1,none⟩) (Kd.R_far (p:=⟨aa,0,none⟩) (Kd.R_types bp.out ah.out (by decide)) (fun _ hk=>hk.2) (.int .i64 av)) (fun _ hk=>hk.2) (.int .i64 az)) (fun _ hk=>hk.2) (.slice aK aA.length aM)) (fun _ hk=>hk.2) (.int .i64 aI)) (fun _ hk=>hk.2) (.int .i64 aJ)) (fun _ hk=>hk.2) (.slice bf aN.length bg)) (fun _ hk=>hk.2) (.slice bh aQ.length bi)) (fun _ hk=>hk.1.1),by refine sRm ?_;exact Kd.R_mono (Kd.R_far (p:=⟨aa,6,none⟩) (Kd.R_far (p:=⟨aa,5,none⟩) (Kd.R_far (p:=⟨aa,4,none⟩) (Kd.R_far (p:=⟨aa,3,none⟩) (Kd.R_far (p:=⟨aa,2,none⟩) (Kd.R_far (p:=⟨aa,1,none⟩) (Kd.R_far (p:=⟨aa,0,none⟩) (Kd.R_types bq.out ah.out (by decide)) (fun _ hk=>hk.2) (.int .i64 av)) (fun _ hk=>hk.2) (.int .i64 az)) (fun _ hk=>hk.2) (.slice aK aA.length aM)) (fun _ hk=>hk.2) (.int .i64 aI)) (fun _ hk=>hk.2) (.int .i64 aJ)) (fun _ hk=>hk.2) (.slice bf aN.length bg)) (fun _ hk=>hk.2) (.slice bh aQ.length bi)) (fun _ hk=>hk.1.1),by repeat (first|(with_reducible first|exact HB.out|apply qah|apply qae|apply qag|refine qad ?_ bB.out|refine qad ?_ bC.out|refine qad ?_ bD.out|refine qad ?_ bE.out)|exact HB.out)⟩
def ostinatoref05_rest.f (a0:Int) (a1:Int):Option (Int):=if a1=0 then (none) else (some (Int.tmod (wrap64 ((Int.tmod a0 a1)+a1)) a1))
theorem ostinatoref05_rest.calls (a0:Int) (a1:Int) (r:Int) (w:World) (h:ostinatoref05_rest.f a0 a1=some r) :
  Calls Tryd.prog 54 #[.int .i64 a0,.int .i64 a1] w fun e w'=>e=.returned (.int .i64 r)∧qar w w':=by
 have H:(if a1=0 then (none) else (some (Int.tmod (wrap64 ((Int.tmod a0 a1)+a1)) a1)))=some r:=h
 clear h
 by_cases c3:a1=0
 ·rw [if_pos c3] at H
  exact absurd H (by simp)
 ·rw [if_neg c3] at H
  have aa:(a1 == 0)=false:=beq_eq_false_iff_ne.mpr c3
  have ab:(a1 != 0)=true:=bne_iff_ne.mpr c3
  obtain rfl:=Option.some.inj H
  go_enter Tryd.func54,Tryd.ntmps54
  go_wp2
  go_ret
  exact⟨by first|rfl|(simp;done)|(simp [*];done),by repeat (first|exact qar.refl _|apply qar.step)⟩
end
end Go.Proofs.YtgnaaokhfpfglaaDoor.PCertTold
end
