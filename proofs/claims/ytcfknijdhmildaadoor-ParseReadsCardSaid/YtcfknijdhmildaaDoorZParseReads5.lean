/- Texts of this claim, one behind the other: ParseO, ParseP, ParseQ, ParseR, QParseReadsQSame, PParseReads1, PParseReads4, PParseReads5, PParseReads6. -/
import Derived.Test.YtcfknijdhmildaaDoorZParseReads3
import Derived.Test.YtcfknijdhmildaaDoorZParseReads1
import Derived.Test.YtcfknijdhmildaaDoorZParseReads4

set_option maxHeartbeats 8000000
set_option maxRecDepth 100000
set_option linter.unusedVariables false
set_option linter.unusedSimpArgs false
section
namespace Go.Proofs.YtcfknijdhmildaaDoor
open Go.RowKit Go.Shelf Go.Lib Go.Proofs.YtcfknijdhmildaaDoorW.PrintWords
def digB (n:Int):ByteArray:=⟨(itoa n).toArray⟩
def lineN (x:Tk):ByteArray:=(((((((((⟨#[116,97,115,107,32]⟩:ByteArray)++digB x.id)++⟨#[32,99,61]⟩)++digB x.c)++⟨#[32,100,61]⟩)++digB x.d)++⟨#[32,116,61]⟩)++digB x.t)++⟨#[32,112,61]⟩)++digB x.p
def lineC (x:Tk):ByteArray:=if 0<x.ch.length then (lineN x++⟨#[32,99,104,117,110,107,115,61]⟩)++joinP x.ch else lineN x
def lineP (x:Tk):ByteArray:=if 0<x.us.length then (lineC x++⟨#[32,117,115,101,61]⟩)++joinP x.us else lineC x
theorem qaY (n:Int) (h0 : -9223372036854775808≤n) (h1:n≤9223372036854775807):(digB n).size≤21:=by
 rw [Lib.size_eq]
 exact itoa_len n h0 h1
theorem lens_le (l:List (List UInt8)) (n:Nat) (h:∀ y ∈ l,y.length≤n):lens l≤l.length * n:=by
 induction l with
 |nil=>simp [lens]
 |cons x r ih=>
  have hx:=h x List.mem_cons_self
  have hr:=ih (fun y hy=>h y (List.mem_cons_of_mem _ hy))
  have e:lens (x::r)=x.length+lens r:=by simp [lens]
  rw [e,List.length_cons,Nat.succ_mul]
  omega
theorem join_size (l:List (List UInt8)) (n:Nat) (h:∀ y ∈ l,y.length≤n):(Lib.join l [44]).length≤l.length * (n+1):=by
 cases l with
 |nil=>simp [join_nil]
 |cons x r=>
  have:=lens_le (x::r) n h
  rw [join_length,Nat.mul_succ]
  simp only [List.length_cons,List.length_nil] at this ⊢
  omega
theorem joinP_size {l:List Int} (hl:∀ y ∈ l,-9223372036854775808≤y∧y≤9223372036854775807):(joinP l).size≤l.length * 22:=by
 unfold joinP
 rw [Lib.size_eq]
 have:=join_size (l.map itoa) 21 (fun y hy=>by
  obtain⟨z,hz,rfl⟩:=List.mem_map.1 hy
  exact itoa_len z (hl z hz).1 (hl z hz).2)
 simpa using this
theorem seven_cells {W:World} {r:Nat} {t:TypeId} {a0 a1 a2 a3 a4 a5 a6:Value} (hb:W.heap[r]? = some (.cells #[a0,a1,a2,a3,a4,a5,a6] t (0,0))):W.cell? ⟨r,0,none⟩=some a0∧W.cell? ⟨r,1,none⟩=some a1∧W.cell? ⟨r,2,none⟩=some a2∧W.cell? ⟨r,3,none⟩=some a3∧W.cell? ⟨r,4,none⟩=some a4∧W.cell? ⟨r,5,none⟩=some a5∧W.cell? ⟨r,6,none⟩=some a6:=by
 refine⟨?_,?_,?_,?_,?_,?_,?_⟩<;>simp [World.cell?,hb]
theorem qbf {w W w':World} {tb:Nat} {v0 v1 v2 v3 v4 v5 v6:Value} (h:W.cell? ⟨tb,0,none⟩=some v0∧W.cell? ⟨tb,1,none⟩=some v1∧W.cell? ⟨tb,2,none⟩=some v2∧W.cell? ⟨tb,3,none⟩=some v3∧W.cell? ⟨tb,4,none⟩=some v4∧W.cell? ⟨tb,5,none⟩=some v5∧W.cell? ⟨tb,6,none⟩=some v6∧Below tb w W) (hb:Below W.heap.size W w') :
  w'.cell? ⟨tb,0,none⟩=some v0∧w'.cell? ⟨tb,1,none⟩=some v1∧w'.cell? ⟨tb,2,none⟩=some v2∧w'.cell? ⟨tb,3,none⟩=some v3∧w'.cell? ⟨tb,4,none⟩=some v4∧w'.cell? ⟨tb,5,none⟩=some v5∧w'.cell? ⟨tb,6,none⟩=some v6∧Below tb w w':=by
 obtain⟨h0,h1,h2,h3,h4,h5,h6,h7⟩:=h
 have hl:=qaL h0
 have m:∀ i v,W.cell? ⟨tb,i,none⟩=some v→w'.cell? ⟨tb,i,none⟩=some v:=fun i v h=>(hb.cell (p:=⟨tb,i,none⟩) hl).trans h
 exact⟨m _ _ h0,m _ _ h1,m _ _ h2,m _ _ h3,m _ _ h4,m _ _ h5,m _ _ h6,h7.trans (hb.mono (Nat.le_of_lt hl))⟩
theorem arr_range (xs:Array Value) (n:Nat) (h:xs.size=n):xs=((List.range n).map (fun k=>xs.getD k undef)).toArray:=by
 refine Array.ext (by simp [h]) (fun i h1 h2=>?_)
 simp [gDe,h1]
theorem arr_lit68 (xs:Array Value) (h:xs.size=68):xs=List.toArray (xs.getD 0 undef::xs.getD 1 undef::xs.getD 2 undef::xs.getD 3 undef::xs.getD 4 undef::xs.getD 5 undef::xs.getD 6 undef::xs.getD 7 undef::xs.getD 8 undef::xs.getD 9 undef::xs.getD 10 undef::xs.getD 11 undef::xs.getD 12 undef::xs.getD 13 undef::xs.getD 14 undef::xs.getD 15 undef::xs.getD 16 undef::xs.getD 17 undef::xs.getD 18 undef::xs.getD 19 undef::xs.getD 20 undef::xs.getD 21 undef::xs.getD 22 undef::xs.getD 23 undef::xs.getD 24 undef::xs.getD 25 undef::xs.getD 26 undef::xs.getD 27 undef::xs.getD 28 undef::xs.getD 29 undef::xs.getD 30 undef::xs.getD 31 undef::xs.getD 32 undef::xs.getD 33 undef::xs.getD 34 undef::xs.getD 35 undef::xs.getD 36 undef::xs.getD 37 undef::xs.getD 38 undef::xs.getD 39 undef::xs.getD 40 undef::xs.getD 41 undef::xs.getD 42 undef::xs.getD 43 undef::xs.getD 44 undef::xs.getD 45 undef::xs.getD 46 undef::xs.getD 47 undef::xs.getD 48 undef::xs.getD 49 undef::xs.getD 50 undef::xs.getD 51 undef::xs.getD 52 undef::xs.getD 53 undef::xs.getD 54 undef::xs.getD 55 undef::xs.getD 56 undef::xs.getD 57 undef::xs.getD 58 undef::xs.getD 59 undef::xs.getD 60 undef::xs.getD 61 undef::xs.getD 62 undef::xs.getD 63 undef::xs.getD 64 undef::xs.getD 65 undef::xs.getD 66 undef::xs.getD 67 undef::[]):=arr_range xs 68 h
def RtSays:Prop:=∀ (x:Tk) (sets:Int) (A5:Option Addr) (c5:Nat) (A6:Option Addr) (c6:Nat) (W:World),x.ch.length≤1000000→x.us.length≤1000000→x.c≤9223372036854775807→Kd.C (Kd.int .i64) W A5 x.ch.length x.ch→x.ch.length≤c5→Kd.C (Kd.int .i64) W A6 x.us.length x.us→x.us.length≤c6 →
 Calls Tryd.prog 35 #[.agg #[.int .i64 x.id,.int .i64 x.c,.int .i64 x.d,.int .i64 x.t,.int .i64 x.p,.slice A5 x.ch.length c5,.slice A6 x.us.length c6],.int .i64 sets] W fun e w'=>e=.returned (.int .i64 (rightE x.id x.c x.d x.t x.p x.ch x.us sets))∧Below W.heap.size W w'
theorem rightE_small {x:Tk} {sets:Int} (hs:sets≤256) (h:rightE x.id x.c x.d x.t x.p x.ch x.us sets=0):(1≤x.id∧x.id≤99)∧(1≤x.p∧x.p≤99)∧(1≤x.c∧x.c≤x.d∧x.d≤x.t∧x.t≤1073741824)∧x.ch.length≤64∧(∀ y ∈ x.ch,1≤y∧y≤1073741824)∧x.us.length≤64∧(∀ y ∈ x.us,0≤y∧y<256):=by
 unfold rightE at h
 split at h
 ·rename_i h1
  split at h
  ·rename_i h2
   split at h
   ·rename_i h3
    split at h
    ·rename_i h4
     unfold inB at h1 h2
     simp only [decide_eq_true_eq] at h1 h2
     have hch:∀ (l:List Int) (left z:Int),chunkL left l=some z→0≤left→(∀ y ∈ l,1≤y∧y≤left):=by
      intro l
      induction l with
      |nil=>intro _ _ _ _ y hy;cases hy
      |cons a r ih=>
       intro left z hz h0 y hy
       rw [chunkL] at hz
       split at hz
       ·rename_i ha
        rcases List.mem_cons.1 hy with rfl|hy
        ·exact ha
        ·have:=ih (left - a) z hz (by omega) y hy
         omega
       ·cases hz
     unfold chunksB at h3
     cases hz:chunkL x.c x.ch with
     |none=>rw [hz] at h3;cases h3
     |some z=>
      rw [hz] at h3
      have h3':(decide (x.ch.length=0) || (decide (x.ch.length≤64) && decide (z=0)))=true:=h3
      simp at h3'
      have hc:=hch x.ch x.c z hz (by omega)
      refine⟨h1.1,h1.2,⟨h2.1.1,h2.1.2,h2.2.1.2,h2.2.2⟩,?_,fun y hy=>⟨(hc y hy).1,by have:=(hc y hy).2;omega⟩,h4.1,fun y hy=>?_⟩
      ·rcases h3' with h|h
       ·rw [h];simp
       ·omega
      ·have:=List.any_eq_false.1 h4.2 y hy
       unfold farB at this
       simp at this
       omega
    ·omega
   ·omega
  ·omega
 ·omega
theorem refLineT_any (HRT:RtSays) (x:Tk) (A5:Option Addr) (c5:Nat) (A6:Option Addr) (c6:Nat) (w:World) (h5:x.ch.length≤1000000) (h6:x.us.length≤1000000) (hc:x.c≤9223372036854775807) (hr5:Kd.C (Kd.int .i64) w A5 x.ch.length x.ch) (hc5:x.ch.length≤c5) (hr6:Kd.C (Kd.int .i64) w A6 x.us.length x.us) (hc6:x.us.length≤c6) :
  Calls Tryd.prog 18 #[.agg #[.int .i64 x.id,.int .i64 x.c,.int .i64 x.d,.int .i64 x.t,.int .i64 x.p,.slice A5 x.ch.length c5,.slice A6 x.us.length c6]] w fun e w'=>
   e=.returned (.string (if rightE x.id x.c x.d x.t x.p x.ch x.us 256=0 then lineP x else ⟨#[]⟩))∧Below w.heap.size w w':=by
 have hb0:=(Below.refl w.heap.size w).alloc (Nat.le_refl _) (.cells #[.int .i64 x.id,.int .i64 x.c,.int .i64 x.d,.int .i64 x.t,.int .i64 x.p,.slice A5 x.ch.length c5,.slice A6 x.us.length c6] 52)
 have hn0:=heap_alloc_new w (.cells #[.int .i64 x.id,.int .i64 x.c,.int .i64 x.d,.int .i64 x.t,.int .i64 x.p,.slice A5 x.ch.length c5,.slice A6 x.us.length c6] 52)
 have HRT1:=Lib.hid (HRT x 256 A5 c5 A6 c6 (w.alloc (.cells #[.int .i64 x.id,.int .i64 x.c,.int .i64 x.d,.int .i64 x.t,.int .i64 x.p,.slice A5 x.ch.length c5,.slice A6 x.us.length c6] 52)) h5 h6 hc (Kd.C_below hr5 hb0) hc5 (Kd.C_below hr6 hb0) hc6)
 have HN5:=Lib.hid (nrow_of_C hr5)
 have HN6:=Lib.hid (nrow_of_C hr6)
 have HSM:=Lib.hid (fun h=>rightE_small (x:=x) (sets:=256) (by decide) h)
 have HLP:Hid (lineP x=if 0<x.us.length then (lineC x++⟨#[32,117,115,101,61]⟩)++joinP x.us else lineC x):=Lib.hid rfl
 have HLC:Hid (lineC x=if 0<x.ch.length then (lineN x++⟨#[32,99,104,117,110,107,115,61]⟩)++joinP x.ch else lineN x):=Lib.hid rfl
 have HLN:Hid (lineN x=(((((((((⟨#[116,97,115,107,32]⟩:ByteArray)++digB x.id)++⟨#[32,99,61]⟩)++digB x.c)++⟨#[32,100,61]⟩)++digB x.d)++⟨#[32,116,61]⟩)++digB x.t)++⟨#[32,112,61]⟩)++digB x.p):=Lib.hid rfl
 generalize lineP x=LP at HLP ⊢
 generalize lineC x=LC at HLP HLC
 generalize lineN x=LN at HLC HLN
 obtain⟨lc,hlc⟩:∃ z,x.ch.length=z:=⟨_,rfl⟩
 obtain⟨lu,hlu⟩:∃ z,x.us.length=z:=⟨_,rfl⟩
 have HJ5:Hid (∀ (W:World),(∀ y ∈ x.ch,-9223372036854775808≤y∧y≤9223372036854775807)→x.ch.length≤1000→NRow W W.heap.size A5 x.ch→Calls Tryd.prog 37 #[.slice A5 lc c5] W fun e w'=>e=.returned (.string (joinP x.ch))∧Below W.heap.size W w'):=Lib.hid (fun W hl hn hr=>hlc ▸ refJoin_any A5 c5 x.ch W hl hn hr)
 have HJ6:Hid (∀ (W:World) (A:Option Addr) (c:Nat),(∀ y ∈ x.us,-9223372036854775808≤y∧y≤9223372036854775807)→x.us.length≤1000→NRow W W.heap.size A x.us→Calls Tryd.prog 37 #[.slice A lu c] W fun e w'=>e=.returned (.string (joinP x.us))∧Below W.heap.size W w'):=Lib.hid (fun W A c hl hn hr=>hlu ▸ refJoin_any A c x.us W hl hn hr)
 have j5:Hid ((∀ y ∈ x.ch,-9223372036854775808≤y∧y≤9223372036854775807)→(joinP x.ch).size≤x.ch.length * 22):=Lib.hid joinP_size
 have j6:Hid ((∀ y ∈ x.us,-9223372036854775808≤y∧y≤9223372036854775807)→(joinP x.us).size≤x.us.length * 22):=Lib.hid joinP_size
 generalize joinP x.ch=J5 at HJ5 j5 HLC
 generalize joinP x.us=J6 at HJ6 j6 HLP
 rw [hlc,hlu] at hb0 hn0 HRT1
 rw [hlc,hlu]
 rw [hlu] at HLP
 rw [hlc] at HLC
 have HLL:=Lib.hid (And.intro hlc hlu)
 generalize hE:rightE x.id x.c x.d x.t x.p x.ch x.us 256=E at HRT1 HSM ⊢
 clear hE hlc hlu hr5 hr6 h5 h6 hc hc5 hc6
 by_cases hE0:E=0
 rotate_left
 ·rw [if_neg hE0]
  have hEb:(E == 0)=false:=by simpa using hE0
  clear hE0
  go_enter Tryd.func18,Tryd.ntmps18
  go_upto_region 1 with (fail)
  generalize w.alloc (.cells #[.int .i64 x.id,.int .i64 x.c,.int .i64 x.d,.int .i64 x.t,.int .i64 x.p,.slice A5 lc c5,.slice A6 lu c6] 52)=w0 at hb0 hn0 HRT1 ⊢
  obtain⟨t0,t1,t2,t3,t4,t5,t6⟩:=seven_cells hn0
  have HB:=Lib.hid hb0
  clear hb0 hn0
  go_wp2_with (go_at_call 35;refine HRT1.out.mono ?_;rintro e w1 ⟨rfl,hb1⟩)
  go_ret
  exact⟨rfl,HB.out.trans (hb1.mono HB.out.size)⟩
 subst hE0
 rw [if_pos rfl]
 obtain⟨hid,hp,hcdt,hcl,hch,hul,hus⟩:=HSM.out rfl
 have d0:=qaY x.id (by omega) (by omega)
 have d1:=qaY x.c (by omega) (by omega)
 have d2:=qaY x.d (by omega) (by omega)
 have d3:=qaY x.t (by omega) (by omega)
 have d4:=qaY x.p (by omega) (by omega)
 have sJ5:J5.size≤1408:=by have:=j5.out (fun y hy=>by have:=hch y hy;omega);omega
 have sJ6:J6.size≤1408:=by have:=j6.out (fun y hy=>by have:=hus y hy;omega);omega
 clear j5 j6
 have HCH:=Lib.hid hch
 have HUS:=Lib.hid hus
 have D0:=Lib.hid (fun W=>qaW x.id (by omega) (by omega) W)
 have D1:=Lib.hid (fun W=>qaW x.c (by omega) (by omega) W)
 have D2:=Lib.hid (fun W=>qaW x.d (by omega) (by omega) W)
 have D3:=Lib.hid (fun W=>qaW x.t (by omega) (by omega) W)
 have D4:=Lib.hid (fun W=>qaW x.p (by omega) (by omega) W)
 rw [show (⟨(itoa x.id).toArray⟩:ByteArray)=digB x.id from rfl] at D0
 rw [show (⟨(itoa x.c).toArray⟩:ByteArray)=digB x.c from rfl] at D1
 rw [show (⟨(itoa x.d).toArray⟩:ByteArray)=digB x.d from rfl] at D2
 rw [show (⟨(itoa x.t).toArray⟩:ByteArray)=digB x.t from rfl] at D3
 rw [show (⟨(itoa x.p).toArray⟩:ByteArray)=digB x.p from rfl] at D4
 generalize digB x.id=b0 at d0 D0 HLN
 generalize digB x.c=b1 at d1 D1 HLN
 generalize digB x.d=b2 at d2 D2 HLN
 generalize digB x.t=b3 at d3 D3 HLN
 generalize digB x.p=b4 at d4 D4 HLN
 clear hch hus hid hp hcdt HSM
 go_enter Tryd.func18,Tryd.ntmps18
 go_upto_region 1 with (fail)
 generalize w.alloc (.cells #[.int .i64 x.id,.int .i64 x.c,.int .i64 x.d,.int .i64 x.t,.int .i64 x.p,.slice A5 lc c5,.slice A6 lu c6] 52)=w0 at hb0 hn0 HRT1 ⊢
 obtain⟨tb,htb⟩:∃ z,w.heap.size=z:=⟨_,rfl⟩
 rw [htb] at hn0 ⊢
 obtain⟨t0,t1,t2,t3,t4,t5,t6⟩:=seven_cells hn0
 have HB:=Lib.hid (And.intro hb0 hn0)
 clear hb0 hn0
 go_upto_region 3 with (go_at_call 35;refine HRT1.out.mono ?_;rintro e w1 ⟨rfl,hb1⟩)
 have HS1:w1.cell? ⟨tb,0,none⟩=some (.int .i64 x.id)∧w1.cell? ⟨tb,1,none⟩=some (.int .i64 x.c)∧w1.cell? ⟨tb,2,none⟩=some (.int .i64 x.d)∧w1.cell? ⟨tb,3,none⟩=some (.int .i64 x.t)∧w1.cell? ⟨tb,4,none⟩=some (.int .i64 x.p)∧w1.cell? ⟨tb,5,none⟩=some (.slice A5 lc c5)∧w1.cell? ⟨tb,6,none⟩=some (.slice A6 lu c6)∧Below tb w w1:=qbf (W:=w0) ⟨t0,t1,t2,t3,t4,t5,t6,by rw [← htb];exact HB.out.1⟩ hb1
 clear t0 t1 t2 t3 t4 t5 t6 hb1 HB HRT1
 have C0:Hid (∀ (W:World),(W.cell? ⟨tb,0,none⟩=some (.int .i64 x.id)∧W.cell? ⟨tb,1,none⟩=some (.int .i64 x.c)∧W.cell? ⟨tb,2,none⟩=some (.int .i64 x.d)∧W.cell? ⟨tb,3,none⟩=some (.int .i64 x.t)∧W.cell? ⟨tb,4,none⟩=some (.int .i64 x.p)∧W.cell? ⟨tb,5,none⟩=some (.slice A5 lc c5)∧W.cell? ⟨tb,6,none⟩=some (.slice A6 lu c6)∧Below tb w W)→Calls Tryd.prog 17 #[.int .i64 x.id] W fun e w'=>e=.returned (.string b0)∧(w'.cell? ⟨tb,0,none⟩=some (.int .i64 x.id)∧w'.cell? ⟨tb,1,none⟩=some (.int .i64 x.c)∧w'.cell? ⟨tb,2,none⟩=some (.int .i64 x.d)∧w'.cell? ⟨tb,3,none⟩=some (.int .i64 x.t)∧w'.cell? ⟨tb,4,none⟩=some (.int .i64 x.p)∧w'.cell? ⟨tb,5,none⟩=some (.slice A5 lc c5)∧w'.cell? ⟨tb,6,none⟩=some (.slice A6 lu c6)∧Below tb w w')):=Lib.hid (fun W h=>(D0.out W).mono fun e w' ⟨h1,h2⟩=>⟨h1,qbf h h2⟩)
 have C1:Hid (∀ (W:World),(W.cell? ⟨tb,0,none⟩=some (.int .i64 x.id)∧W.cell? ⟨tb,1,none⟩=some (.int .i64 x.c)∧W.cell? ⟨tb,2,none⟩=some (.int .i64 x.d)∧W.cell? ⟨tb,3,none⟩=some (.int .i64 x.t)∧W.cell? ⟨tb,4,none⟩=some (.int .i64 x.p)∧W.cell? ⟨tb,5,none⟩=some (.slice A5 lc c5)∧W.cell? ⟨tb,6,none⟩=some (.slice A6 lu c6)∧Below tb w W)→Calls Tryd.prog 17 #[.int .i64 x.c] W fun e w'=>e=.returned (.string b1)∧(w'.cell? ⟨tb,0,none⟩=some (.int .i64 x.id)∧w'.cell? ⟨tb,1,none⟩=some (.int .i64 x.c)∧w'.cell? ⟨tb,2,none⟩=some (.int .i64 x.d)∧w'.cell? ⟨tb,3,none⟩=some (.int .i64 x.t)∧w'.cell? ⟨tb,4,none⟩=some (.int .i64 x.p)∧w'.cell? ⟨tb,5,none⟩=some (.slice A5 lc c5)∧w'.cell? ⟨tb,6,none⟩=some (.slice A6 lu c6)∧Below tb w w')):=Lib.hid (fun W h=>(D1.out W).mono fun e w' ⟨h1,h2⟩=>⟨h1,qbf h h2⟩)
 have C2:Hid (∀ (W:World),(W.cell? ⟨tb,0,none⟩=some (.int .i64 x.id)∧W.cell? ⟨tb,1,none⟩=some (.int .i64 x.c)∧W.cell? ⟨tb,2,none⟩=some (.int .i64 x.d)∧W.cell? ⟨tb,3,none⟩=some (.int .i64 x.t)∧W.cell? ⟨tb,4,none⟩=some (.int .i64 x.p)∧W.cell? ⟨tb,5,none⟩=some (.slice A5 lc c5)∧W.cell? ⟨tb,6,none⟩=some (.slice A6 lu c6)∧Below tb w W)→Calls Tryd.prog 17 #[.int .i64 x.d] W fun e w'=>e=.returned (.string b2)∧(w'.cell? ⟨tb,0,none⟩=some (.int .i64 x.id)∧w'.cell? ⟨tb,1,none⟩=some (.int .i64 x.c)∧w'.cell? ⟨tb,2,none⟩=some (.int .i64 x.d)∧w'.cell? ⟨tb,3,none⟩=some (.int .i64 x.t)∧w'.cell? ⟨tb,4,none⟩=some (.int .i64 x.p)∧w'.cell? ⟨tb,5,none⟩=some (.slice A5 lc c5)∧w'.cell? ⟨tb,6,none⟩=some (.slice A6 lu c6)∧Below tb w w')):=Lib.hid (fun W h=>(D2.out W).mono fun e w' ⟨h1,h2⟩=>⟨h1,qbf h h2⟩)
 have C3:Hid (∀ (W:World),(W.cell? ⟨tb,0,none⟩=some (.int .i64 x.id)∧W.cell? ⟨tb,1,none⟩=some (.int .i64 x.c)∧W.cell? ⟨tb,2,none⟩=some (.int .i64 x.d)∧W.cell? ⟨tb,3,none⟩=some (.int .i64 x.t)∧W.cell? ⟨tb,4,none⟩=some (.int .i64 x.p)∧W.cell? ⟨tb,5,none⟩=some (.slice A5 lc c5)∧W.cell? ⟨tb,6,none⟩=some (.slice A6 lu c6)∧Below tb w W)→Calls Tryd.prog 17 #[.int .i64 x.t] W fun e w'=>e=.returned (.string b3)∧(w'.cell? ⟨tb,0,none⟩=some (.int .i64 x.id)∧w'.cell? ⟨tb,1,none⟩=some (.int .i64 x.c)∧w'.cell? ⟨tb,2,none⟩=some (.int .i64 x.d)∧w'.cell? ⟨tb,3,none⟩=some (.int .i64 x.t)∧w'.cell? ⟨tb,4,none⟩=some (.int .i64 x.p)∧w'.cell? ⟨tb,5,none⟩=some (.slice A5 lc c5)∧w'.cell? ⟨tb,6,none⟩=some (.slice A6 lu c6)∧Below tb w w')):=Lib.hid (fun W h=>(D3.out W).mono fun e w' ⟨h1,h2⟩=>⟨h1,qbf h h2⟩)
 have C4:Hid (∀ (W:World),(W.cell? ⟨tb,0,none⟩=some (.int .i64 x.id)∧W.cell? ⟨tb,1,none⟩=some (.int .i64 x.c)∧W.cell? ⟨tb,2,none⟩=some (.int .i64 x.d)∧W.cell? ⟨tb,3,none⟩=some (.int .i64 x.t)∧W.cell? ⟨tb,4,none⟩=some (.int .i64 x.p)∧W.cell? ⟨tb,5,none⟩=some (.slice A5 lc c5)∧W.cell? ⟨tb,6,none⟩=some (.slice A6 lu c6)∧Below tb w W)→Calls Tryd.prog 17 #[.int .i64 x.p] W fun e w'=>e=.returned (.string b4)∧(w'.cell? ⟨tb,0,none⟩=some (.int .i64 x.id)∧w'.cell? ⟨tb,1,none⟩=some (.int .i64 x.c)∧w'.cell? ⟨tb,2,none⟩=some (.int .i64 x.d)∧w'.cell? ⟨tb,3,none⟩=some (.int .i64 x.t)∧w'.cell? ⟨tb,4,none⟩=some (.int .i64 x.p)∧w'.cell? ⟨tb,5,none⟩=some (.slice A5 lc c5)∧w'.cell? ⟨tb,6,none⟩=some (.slice A6 lu c6)∧Below tb w w')):=Lib.hid (fun W h=>(D4.out W).mono fun e w' ⟨h1,h2⟩=>⟨h1,qbf h h2⟩)
 clear D0 D1 D2 D3 D4
 have HS1d:w1.drew.cell? ⟨tb,0,none⟩=some (.int .i64 x.id)∧w1.drew.cell? ⟨tb,1,none⟩=some (.int .i64 x.c)∧w1.drew.cell? ⟨tb,2,none⟩=some (.int .i64 x.d)∧w1.drew.cell? ⟨tb,3,none⟩=some (.int .i64 x.t)∧w1.drew.cell? ⟨tb,4,none⟩=some (.int .i64 x.p)∧w1.drew.cell? ⟨tb,5,none⟩=some (.slice A5 lc c5)∧w1.drew.cell? ⟨tb,6,none⟩=some (.slice A6 lu c6)∧Below tb w w1.drew:=qbf HS1 (Below.refl _ _).drew
 go_cut [1,2,3] from 68 (fun v1 v2 v3 wx=>v1=.pointer (some ⟨tb,0,none⟩)∧v2=.string ⟨#[]⟩∧v3=.string ((((((((((⟨#[116,97,115,107,32]⟩:ByteArray)++b0)++⟨#[32,99,61]⟩)++b1)++⟨#[32,100,61]⟩)++b2)++⟨#[32,116,61]⟩)++b3)++⟨#[32,112,61]⟩)++b4)∧(wx.cell? ⟨tb,0,none⟩=some (.int .i64 x.id)∧wx.cell? ⟨tb,1,none⟩=some (.int .i64 x.c)∧wx.cell? ⟨tb,2,none⟩=some (.int .i64 x.d)∧wx.cell? ⟨tb,3,none⟩=some (.int .i64 x.t)∧wx.cell? ⟨tb,4,none⟩=some (.int .i64 x.p)∧wx.cell? ⟨tb,5,none⟩=some (.slice A5 lc c5)∧wx.cell? ⟨tb,6,none⟩=some (.slice A6 lu c6)∧Below tb w wx))
 case first=>
  refine wp_region_facts (by kernel_rfl) (by kernel_rfl) (fun i v W=>match i with
    |0=>v=.pointer (some ⟨tb,0,none⟩)
    |1=>v=.int .i64 x.id
    |2=>v=.string b0
    |3=>v=.string ((⟨#[116,97,115,107,32]⟩:ByteArray)++b0)
    |4=>v=.string (((⟨#[116,97,115,107,32]⟩:ByteArray)++b0)++⟨#[32,99,61]⟩)
    |5=>v=.pointer (some ⟨tb,1,none⟩)
    |6=>v=.int .i64 x.c
    |7=>v=.string b1
    |8=>v=.string ((((⟨#[116,97,115,107,32]⟩:ByteArray)++b0)++⟨#[32,99,61]⟩)++b1)
    |9=>v=.string (((((⟨#[116,97,115,107,32]⟩:ByteArray)++b0)++⟨#[32,99,61]⟩)++b1)++⟨#[32,100,61]⟩)
    |10=>v=.pointer (some ⟨tb,2,none⟩)
    |11=>v=.int .i64 x.d
    |12=>v=.string b2
    |13=>v=.string ((((((⟨#[116,97,115,107,32]⟩:ByteArray)++b0)++⟨#[32,99,61]⟩)++b1)++⟨#[32,100,61]⟩)++b2)
    |14=>v=.string (((((((⟨#[116,97,115,107,32]⟩:ByteArray)++b0)++⟨#[32,99,61]⟩)++b1)++⟨#[32,100,61]⟩)++b2)++⟨#[32,116,61]⟩)
    |15=>v=.pointer (some ⟨tb,3,none⟩)
    |16=>v=.int .i64 x.t
    |17=>v=.string b3
    |18=>v=.string ((((((((⟨#[116,97,115,107,32]⟩:ByteArray)++b0)++⟨#[32,99,61]⟩)++b1)++⟨#[32,100,61]⟩)++b2)++⟨#[32,116,61]⟩)++b3)
    |19=>v=.string (((((((((⟨#[116,97,115,107,32]⟩:ByteArray)++b0)++⟨#[32,99,61]⟩)++b1)++⟨#[32,100,61]⟩)++b2)++⟨#[32,116,61]⟩)++b3)++⟨#[32,112,61]⟩)
    |20=>v=.pointer (some ⟨tb,4,none⟩)
    |21=>v=.int .i64 x.p
    |22=>v=.string b4
    |23=>v=.string ((((((((((⟨#[116,97,115,107,32]⟩:ByteArray)++b0)++⟨#[32,99,61]⟩)++b1)++⟨#[32,100,61]⟩)++b2)++⟨#[32,116,61]⟩)++b3)++⟨#[32,112,61]⟩)++b4)
    |_=>v=.string ((((((((((⟨#[116,97,115,107,32]⟩:ByteArray)++b0)++⟨#[32,99,61]⟩)++b1)++⟨#[32,100,61]⟩)++b2)++⟨#[32,116,61]⟩)++b3)++⟨#[32,112,61]⟩)++b4)) (fun _ _=>True) (fun _ _ _ _ h _=>h) (fun W=>W.cell? ⟨tb,0,none⟩=some (.int .i64 x.id)∧W.cell? ⟨tb,1,none⟩=some (.int .i64 x.c)∧W.cell? ⟨tb,2,none⟩=some (.int .i64 x.d)∧W.cell? ⟨tb,3,none⟩=some (.int .i64 x.t)∧W.cell? ⟨tb,4,none⟩=some (.int .i64 x.p)∧W.cell? ⟨tb,5,none⟩=some (.slice A5 lc c5)∧W.cell? ⟨tb,6,none⟩=some (.slice A6 lu c6)∧Below tb w W) HS1d ?_ ?_
  ·intro i o a W ho hsz hfr hdep hG
   have hi:i<25:=(Array.getElem?_eq_some_iff.1 ho).1
   have hin:i=0∨i=1∨i=2∨i=3∨i=4∨i=5∨i=6∨i=7∨i=8∨i=9∨i=10∨i=11∨i=12∨i=13∨i=14∨i=15∨i=16∨i=17∨i=18∨i=19∨i=20∨i=21∨i=22∨i=23∨i=24:=by omega
   rcases hin with rfl|rfl|rfl|rfl|rfl|rfl|rfl|rfl|rfl|rfl|rfl|rfl|rfl|rfl|rfl|rfl|rfl|rfl|rfl|rfl|rfl|rfl|rfl|rfl|rfl
   ·cases ho
    have g:a.tmps.getD 1 undef=.pointer (some ⟨tb,0,none⟩):=by rw [gDe,hfr 1 (qak (by kernel_rfl))];rfl
    clear hfr hdep hsz
    generalize hK:(fun (a':Act) (w':World)=>_)=K
    go_simp
    rw [← hK]
    exact⟨_,rfl,rfl,trivial,hG⟩
   ·cases ho
    obtain⟨_,q0,e0⟩:=hdep ⟨0,.data⟩ (by simp) rfl _ _ rfl rfl
    have g0:a.tmps.getD 9 undef=.pointer (some ⟨tb,0,none⟩):=by rw [gDe,q0,e0];rfl
    rw [e0] at q0
    clear e0
    have hc:W.cell? ⟨tb,0,none⟩=some (.int .i64 x.id):=hG.1
    clear hfr hdep hsz
    generalize hK:(fun (a':Act) (w':World)=>_)=K
    go_simp
    rw [← hK]
    exact⟨_,rfl,rfl,trivial,hG⟩
   ·cases ho
    obtain⟨_,q1,e1⟩:=hdep ⟨1,.data⟩ (by simp) rfl _ _ rfl rfl
    have g1:a.tmps.getD 10 undef=.int .i64 x.id:=by rw [gDe,q1,e1];rfl
    rw [e1] at q1
    clear e1
    clear hfr hdep hsz
    generalize hK:(fun (a':Act) (w':World)=>_)=K
    go_simp
    refine (C0.out W hG).mono ?_
    rintro e W2 ⟨rfl,hb⟩
    show K _ _
    rw [← hK]
    exact⟨_,rfl,rfl,trivial,hb⟩
   ·cases ho
    obtain⟨_,q2,e2⟩:=hdep ⟨2,.data⟩ (by simp) rfl _ _ rfl rfl
    have g2:a.tmps.getD 11 undef=.string b0:=by rw [gDe,q2,e2];rfl
    rw [e2] at q2
    clear e2
    clear hfr hdep hsz
    generalize hK:(fun (a':Act) (w':World)=>_)=K
    go_simp
    rw [if_neg (by omega)]
    go_simp
    rw [← hK]
    exact⟨_,rfl,rfl,trivial,hG⟩
   ·cases ho
    obtain⟨_,q3,e3⟩:=hdep ⟨3,.data⟩ (by simp) rfl _ _ rfl rfl
    have g3:a.tmps.getD 12 undef=.string ((⟨#[116,97,115,107,32]⟩:ByteArray)++b0):=by rw [gDe,q3,e3];rfl
    rw [e3] at q3
    clear e3
    clear hfr hdep hsz
    generalize hK:(fun (a':Act) (w':World)=>_)=K
    go_simp
    rw [if_neg (by omega)]
    go_simp
    rw [← hK]
    exact⟨_,rfl,rfl,trivial,hG⟩
   ·cases ho
    have g:a.tmps.getD 1 undef=.pointer (some ⟨tb,0,none⟩):=by rw [gDe,hfr 1 (qak (by kernel_rfl))];rfl
    clear hfr hdep hsz
    generalize hK:(fun (a':Act) (w':World)=>_)=K
    go_simp
    rw [← hK]
    exact⟨_,rfl,rfl,trivial,hG⟩
   ·cases ho
    obtain⟨_,q5,e5⟩:=hdep ⟨5,.data⟩ (by simp) rfl _ _ rfl rfl
    have g5:a.tmps.getD 14 undef=.pointer (some ⟨tb,1,none⟩):=by rw [gDe,q5,e5];rfl
    rw [e5] at q5
    clear e5
    have hc:W.cell? ⟨tb,1,none⟩=some (.int .i64 x.c):=hG.2.1
    clear hfr hdep hsz
    generalize hK:(fun (a':Act) (w':World)=>_)=K
    go_simp
    rw [← hK]
    exact⟨_,rfl,rfl,trivial,hG⟩
   ·cases ho
    obtain⟨_,q6,e6⟩:=hdep ⟨6,.data⟩ (by simp) rfl _ _ rfl rfl
    have g6:a.tmps.getD 15 undef=.int .i64 x.c:=by rw [gDe,q6,e6];rfl
    rw [e6] at q6
    clear e6
    clear hfr hdep hsz
    generalize hK:(fun (a':Act) (w':World)=>_)=K
    go_simp
    refine (C1.out W hG).mono ?_
    rintro e W2 ⟨rfl,hb⟩
    show K _ _
    rw [← hK]
    exact⟨_,rfl,rfl,trivial,hb⟩
   ·cases ho
    obtain⟨_,q4,e4⟩:=hdep ⟨4,.data⟩ (by simp) rfl _ _ rfl rfl
    have g4:a.tmps.getD 13 undef=.string (((⟨#[116,97,115,107,32]⟩:ByteArray)++b0)++⟨#[32,99,61]⟩):=by rw [gDe,q4,e4];rfl
    rw [e4] at q4
    clear e4
    obtain⟨_,q7,e7⟩:=hdep ⟨7,.data⟩ (by simp) rfl _ _ rfl rfl
    have g7:a.tmps.getD 16 undef=.string b1:=by rw [gDe,q7,e7];rfl
    rw [e7] at q7
    clear e7
    clear hfr hdep hsz
    generalize hK:(fun (a':Act) (w':World)=>_)=K
    go_simp
    rw [if_neg (by omega)]
    go_simp
    rw [← hK]
    exact⟨_,rfl,rfl,trivial,hG⟩
   ·cases ho
    obtain⟨_,q8,e8⟩:=hdep ⟨8,.data⟩ (by simp) rfl _ _ rfl rfl
    have g8:a.tmps.getD 17 undef=.string ((((⟨#[116,97,115,107,32]⟩:ByteArray)++b0)++⟨#[32,99,61]⟩)++b1):=by rw [gDe,q8,e8];rfl
    rw [e8] at q8
    clear e8
    clear hfr hdep hsz
    generalize hK:(fun (a':Act) (w':World)=>_)=K
    go_simp
    rw [if_neg (by omega)]
    go_simp
    rw [← hK]
    exact⟨_,rfl,rfl,trivial,hG⟩
   ·cases ho
    have g:a.tmps.getD 1 undef=.pointer (some ⟨tb,0,none⟩):=by rw [gDe,hfr 1 (qak (by kernel_rfl))];rfl
    clear hfr hdep hsz
    generalize hK:(fun (a':Act) (w':World)=>_)=K
    go_simp
    rw [← hK]
    exact⟨_,rfl,rfl,trivial,hG⟩
   ·cases ho
    obtain⟨_,q10,e10⟩:=hdep ⟨10,.data⟩ (by simp) rfl _ _ rfl rfl
    have g10:a.tmps.getD 19 undef=.pointer (some ⟨tb,2,none⟩):=by rw [gDe,q10,e10];rfl
    rw [e10] at q10
    clear e10
    have hc:W.cell? ⟨tb,2,none⟩=some (.int .i64 x.d):=hG.2.2.1
    clear hfr hdep hsz
    generalize hK:(fun (a':Act) (w':World)=>_)=K
    go_simp
    rw [← hK]
    exact⟨_,rfl,rfl,trivial,hG⟩
   ·cases ho
    obtain⟨_,q11,e11⟩:=hdep ⟨11,.data⟩ (by simp) rfl _ _ rfl rfl
    have g11:a.tmps.getD 20 undef=.int .i64 x.d:=by rw [gDe,q11,e11];rfl
    rw [e11] at q11
    clear e11
    clear hfr hdep hsz
    generalize hK:(fun (a':Act) (w':World)=>_)=K
    go_simp
    refine (C2.out W hG).mono ?_
    rintro e W2 ⟨rfl,hb⟩
    show K _ _
    rw [← hK]
    exact⟨_,rfl,rfl,trivial,hb⟩
   ·cases ho
    obtain⟨_,q9,e9⟩:=hdep ⟨9,.data⟩ (by simp) rfl _ _ rfl rfl
    have g9:a.tmps.getD 18 undef=.string (((((⟨#[116,97,115,107,32]⟩:ByteArray)++b0)++⟨#[32,99,61]⟩)++b1)++⟨#[32,100,61]⟩):=by rw [gDe,q9,e9];rfl
    rw [e9] at q9
    clear e9
    obtain⟨_,q12,e12⟩:=hdep ⟨12,.data⟩ (by simp) rfl _ _ rfl rfl
    have g12:a.tmps.getD 21 undef=.string b2:=by rw [gDe,q12,e12];rfl
    rw [e12] at q12
    clear e12
    clear hfr hdep hsz
    generalize hK:(fun (a':Act) (w':World)=>_)=K
    go_simp
    rw [if_neg (by omega)]
    go_simp
    rw [← hK]
    exact⟨_,rfl,rfl,trivial,hG⟩
   ·cases ho
    obtain⟨_,q13,e13⟩:=hdep ⟨13,.data⟩ (by simp) rfl _ _ rfl rfl
    have g13:a.tmps.getD 22 undef=.string ((((((⟨#[116,97,115,107,32]⟩:ByteArray)++b0)++⟨#[32,99,61]⟩)++b1)++⟨#[32,100,61]⟩)++b2):=by rw [gDe,q13,e13];rfl
    rw [e13] at q13
    clear e13
    clear hfr hdep hsz
    generalize hK:(fun (a':Act) (w':World)=>_)=K
    go_simp
    rw [if_neg (by omega)]
    go_simp
    rw [← hK]
    exact⟨_,rfl,rfl,trivial,hG⟩
   ·cases ho
    have g:a.tmps.getD 1 undef=.pointer (some ⟨tb,0,none⟩):=by rw [gDe,hfr 1 (qak (by kernel_rfl))];rfl
    clear hfr hdep hsz
    generalize hK:(fun (a':Act) (w':World)=>_)=K
    go_simp
    rw [← hK]
    exact⟨_,rfl,rfl,trivial,hG⟩
   ·cases ho
    obtain⟨_,q15,e15⟩:=hdep ⟨15,.data⟩ (by simp) rfl _ _ rfl rfl
    have g15:a.tmps.getD 24 undef=.pointer (some ⟨tb,3,none⟩):=by rw [gDe,q15,e15];rfl
    rw [e15] at q15
    clear e15
    have hc:W.cell? ⟨tb,3,none⟩=some (.int .i64 x.t):=hG.2.2.2.1
    clear hfr hdep hsz
    generalize hK:(fun (a':Act) (w':World)=>_)=K
    go_simp
    rw [← hK]
    exact⟨_,rfl,rfl,trivial,hG⟩
   ·cases ho
    obtain⟨_,q16,e16⟩:=hdep ⟨16,.data⟩ (by simp) rfl _ _ rfl rfl
    have g16:a.tmps.getD 25 undef=.int .i64 x.t:=by rw [gDe,q16,e16];rfl
    rw [e16] at q16
    clear e16
    clear hfr hdep hsz
    generalize hK:(fun (a':Act) (w':World)=>_)=K
    go_simp
    refine (C3.out W hG).mono ?_
    rintro e W2 ⟨rfl,hb⟩
    show K _ _
    rw [← hK]
    exact⟨_,rfl,rfl,trivial,hb⟩
   ·cases ho
    obtain⟨_,q14,e14⟩:=hdep ⟨14,.data⟩ (by simp) rfl _ _ rfl rfl
    have g14:a.tmps.getD 23 undef=.string (((((((⟨#[116,97,115,107,32]⟩:ByteArray)++b0)++⟨#[32,99,61]⟩)++b1)++⟨#[32,100,61]⟩)++b2)++⟨#[32,116,61]⟩):=by rw [gDe,q14,e14];rfl
    rw [e14] at q14
    clear e14
    obtain⟨_,q17,e17⟩:=hdep ⟨17,.data⟩ (by simp) rfl _ _ rfl rfl
    have g17:a.tmps.getD 26 undef=.string b3:=by rw [gDe,q17,e17];rfl
    rw [e17] at q17
    clear e17
    clear hfr hdep hsz
    generalize hK:(fun (a':Act) (w':World)=>_)=K
    go_simp
    rw [if_neg (by omega)]
    go_simp
    rw [← hK]
    exact⟨_,rfl,rfl,trivial,hG⟩
   ·cases ho
    obtain⟨_,q18,e18⟩:=hdep ⟨18,.data⟩ (by simp) rfl _ _ rfl rfl
    have g18:a.tmps.getD 27 undef=.string ((((((((⟨#[116,97,115,107,32]⟩:ByteArray)++b0)++⟨#[32,99,61]⟩)++b1)++⟨#[32,100,61]⟩)++b2)++⟨#[32,116,61]⟩)++b3):=by rw [gDe,q18,e18];rfl
    rw [e18] at q18
    clear e18
    clear hfr hdep hsz
    generalize hK:(fun (a':Act) (w':World)=>_)=K
    go_simp
    rw [if_neg (by omega)]
    go_simp
    rw [← hK]
    exact⟨_,rfl,rfl,trivial,hG⟩
   ·cases ho
    have g:a.tmps.getD 1 undef=.pointer (some ⟨tb,0,none⟩):=by rw [gDe,hfr 1 (qak (by kernel_rfl))];rfl
    clear hfr hdep hsz
    generalize hK:(fun (a':Act) (w':World)=>_)=K
    go_simp
    rw [← hK]
    exact⟨_,rfl,rfl,trivial,hG⟩
   ·cases ho
    obtain⟨_,q20,e20⟩:=hdep ⟨20,.data⟩ (by simp) rfl _ _ rfl rfl
    have g20:a.tmps.getD 29 undef=.pointer (some ⟨tb,4,none⟩):=by rw [gDe,q20,e20];rfl
    rw [e20] at q20
    clear e20
    have hc:W.cell? ⟨tb,4,none⟩=some (.int .i64 x.p):=hG.2.2.2.2.1
    clear hfr hdep hsz
    generalize hK:(fun (a':Act) (w':World)=>_)=K
    go_simp
    rw [← hK]
    exact⟨_,rfl,rfl,trivial,hG⟩
   ·cases ho
    obtain⟨_,q21,e21⟩:=hdep ⟨21,.data⟩ (by simp) rfl _ _ rfl rfl
    have g21:a.tmps.getD 30 undef=.int .i64 x.p:=by rw [gDe,q21,e21];rfl
    rw [e21] at q21
    clear e21
    clear hfr hdep hsz
    generalize hK:(fun (a':Act) (w':World)=>_)=K
    go_simp
    refine (C4.out W hG).mono ?_
    rintro e W2 ⟨rfl,hb⟩
    show K _ _
    rw [← hK]
    exact⟨_,rfl,rfl,trivial,hb⟩
   ·cases ho
    obtain⟨_,q19,e19⟩:=hdep ⟨19,.data⟩ (by simp) rfl _ _ rfl rfl
    have g19:a.tmps.getD 28 undef=.string (((((((((⟨#[116,97,115,107,32]⟩:ByteArray)++b0)++⟨#[32,99,61]⟩)++b1)++⟨#[32,100,61]⟩)++b2)++⟨#[32,116,61]⟩)++b3)++⟨#[32,112,61]⟩):=by rw [gDe,q19,e19];rfl
    rw [e19] at q19
    clear e19
    obtain⟨_,q22,e22⟩:=hdep ⟨22,.data⟩ (by simp) rfl _ _ rfl rfl
    have g22:a.tmps.getD 31 undef=.string b4:=by rw [gDe,q22,e22];rfl
    rw [e22] at q22
    clear e22
    clear hfr hdep hsz
    generalize hK:(fun (a':Act) (w':World)=>_)=K
    go_simp
    rw [if_neg (by omega)]
    go_simp
    rw [← hK]
    exact⟨_,rfl,rfl,trivial,hG⟩
   ·cases ho
    obtain⟨_,q23,e23⟩:=hdep ⟨23,.data⟩ (by simp) rfl _ _ rfl rfl
    have g23:a.tmps.getD 32 undef=.string ((((((((((⟨#[116,97,115,107,32]⟩:ByteArray)++b0)++⟨#[32,99,61]⟩)++b1)++⟨#[32,100,61]⟩)++b2)++⟨#[32,116,61]⟩)++b3)++⟨#[32,112,61]⟩)++b4):=by rw [gDe,q23,e23];rfl
    rw [e23] at q23
    clear e23
    clear hfr hdep hsz
    generalize hK:(fun (a':Act) (w':World)=>_)=K
    go_simp
    rw [← hK]
    exact⟨_,rfl,rfl,trivial,hG⟩
  ·intro a W hd hsz hfr hall hG
   obtain⟨_,q3,e3⟩:=hall 24 _ 3 rfl rfl
   have f0:=hfr 0 (qak (by kernel_rfl))
   have f1:=hfr 1 (qak (by kernel_rfl))
   have f2:=hfr 2 (qak (by kernel_rfl))
   have f4:=hfr 4 (qak (by kernel_rfl))
   have f5:=hfr 5 (qak (by kernel_rfl))
   have f6:=hfr 6 (qak (by kernel_rfl))
   have f7:=hfr 7 (qak (by kernel_rfl))
   have f8:=hfr 8 (qak (by kernel_rfl))
   have f33:=hfr 33 (qak (by kernel_rfl))
   have f34:=hfr 34 (qak (by kernel_rfl))
   have f35:=hfr 35 (qak (by kernel_rfl))
   have f36:=hfr 36 (qak (by kernel_rfl))
   have f37:=hfr 37 (qak (by kernel_rfl))
   have f38:=hfr 38 (qak (by kernel_rfl))
   have f39:=hfr 39 (qak (by kernel_rfl))
   have f40:=hfr 40 (qak (by kernel_rfl))
   have f41:=hfr 41 (qak (by kernel_rfl))
   have f42:=hfr 42 (qak (by kernel_rfl))
   have f43:=hfr 43 (qak (by kernel_rfl))
   have f44:=hfr 44 (qak (by kernel_rfl))
   have f45:=hfr 45 (qak (by kernel_rfl))
   have f46:=hfr 46 (qak (by kernel_rfl))
   have f47:=hfr 47 (qak (by kernel_rfl))
   have f48:=hfr 48 (qak (by kernel_rfl))
   have f49:=hfr 49 (qak (by kernel_rfl))
   have f50:=hfr 50 (qak (by kernel_rfl))
   have f51:=hfr 51 (qak (by kernel_rfl))
   have f52:=hfr 52 (qak (by kernel_rfl))
   have f53:=hfr 53 (qak (by kernel_rfl))
   have f54:=hfr 54 (qak (by kernel_rfl))
   have f55:=hfr 55 (qak (by kernel_rfl))
   have f56:=hfr 56 (qak (by kernel_rfl))
   have f57:=hfr 57 (qak (by kernel_rfl))
   have f58:=hfr 58 (qak (by kernel_rfl))
   have f59:=hfr 59 (qak (by kernel_rfl))
   have f60:=hfr 60 (qak (by kernel_rfl))
   have f61:=hfr 61 (qak (by kernel_rfl))
   have f62:=hfr 62 (qak (by kernel_rfl))
   have f63:=hfr 63 (qak (by kernel_rfl))
   have f64:=hfr 64 (qak (by kernel_rfl))
   have f65:=hfr 65 (qak (by kernel_rfl))
   have f66:=hfr 66 (qak (by kernel_rfl))
   have f67:=hfr 67 (qak (by kernel_rfl))
   clear hfr hall
   have ha:a = { tmps:=a.tmps,defers:=[] }:=by cases a;simp at hd;subst hd;rfl
   rw [ha,arr_lit68 a.tmps hsz]
   rw [show a.tmps.getD 0 undef=.agg #[.int .i64 x.id,.int .i64 x.c,.int .i64 x.d,.int .i64 x.t,.int .i64 x.p,.slice A5 lc c5,.slice A6 lu c6] from by rw [gDe,f0];rfl]
   rw [show a.tmps.getD 1 undef=.pointer (some ⟨tb,0,none⟩) from by rw [gDe,f1];rfl]
   rw [show a.tmps.getD 2 undef=.string ⟨#[]⟩ from by rw [gDe,f2];rfl]
   rw [show a.tmps.getD 4 undef=undef from by rw [gDe,f4];rfl]
   rw [show a.tmps.getD 5 undef=undef from by rw [gDe,f5];rfl]
   rw [show a.tmps.getD 6 undef=.agg #[.int .i64 x.id,.int .i64 x.c,.int .i64 x.d,.int .i64 x.t,.int .i64 x.p,.slice A5 lc c5,.slice A6 lu c6] from by rw [gDe,f6];rfl]
   rw [show a.tmps.getD 7 undef=.int .i64 0 from by rw [gDe,f7];rfl]
   rw [show a.tmps.getD 8 undef=.bool false from by rw [gDe,f8];rfl]
   rw [show a.tmps.getD 33 undef=undef from by rw [gDe,f33];rfl]
   rw [show a.tmps.getD 34 undef=undef from by rw [gDe,f34];rfl]
   rw [show a.tmps.getD 35 undef=undef from by rw [gDe,f35];rfl]
   rw [show a.tmps.getD 36 undef=undef from by rw [gDe,f36];rfl]
   rw [show a.tmps.getD 37 undef=undef from by rw [gDe,f37];rfl]
   rw [show a.tmps.getD 38 undef=undef from by rw [gDe,f38];rfl]
   rw [show a.tmps.getD 39 undef=undef from by rw [gDe,f39];rfl]
   rw [show a.tmps.getD 40 undef=undef from by rw [gDe,f40];rfl]
   rw [show a.tmps.getD 41 undef=undef from by rw [gDe,f41];rfl]
   rw [show a.tmps.getD 42 undef=undef from by rw [gDe,f42];rfl]
   rw [show a.tmps.getD 43 undef=undef from by rw [gDe,f43];rfl]
   rw [show a.tmps.getD 44 undef=undef from by rw [gDe,f44];rfl]
   rw [show a.tmps.getD 45 undef=undef from by rw [gDe,f45];rfl]
   rw [show a.tmps.getD 46 undef=undef from by rw [gDe,f46];rfl]
   rw [show a.tmps.getD 47 undef=undef from by rw [gDe,f47];rfl]
   rw [show a.tmps.getD 48 undef=undef from by rw [gDe,f48];rfl]
   rw [show a.tmps.getD 49 undef=undef from by rw [gDe,f49];rfl]
   rw [show a.tmps.getD 50 undef=undef from by rw [gDe,f50];rfl]
   rw [show a.tmps.getD 51 undef=undef from by rw [gDe,f51];rfl]
   rw [show a.tmps.getD 52 undef=undef from by rw [gDe,f52];rfl]
   rw [show a.tmps.getD 53 undef=undef from by rw [gDe,f53];rfl]
   rw [show a.tmps.getD 54 undef=undef from by rw [gDe,f54];rfl]
   rw [show a.tmps.getD 55 undef=undef from by rw [gDe,f55];rfl]
   rw [show a.tmps.getD 56 undef=undef from by rw [gDe,f56];rfl]
   rw [show a.tmps.getD 57 undef=undef from by rw [gDe,f57];rfl]
   rw [show a.tmps.getD 58 undef=undef from by rw [gDe,f58];rfl]
   rw [show a.tmps.getD 59 undef=undef from by rw [gDe,f59];rfl]
   rw [show a.tmps.getD 60 undef=undef from by rw [gDe,f60];rfl]
   rw [show a.tmps.getD 61 undef=undef from by rw [gDe,f61];rfl]
   rw [show a.tmps.getD 62 undef=undef from by rw [gDe,f62];rfl]
   rw [show a.tmps.getD 63 undef=undef from by rw [gDe,f63];rfl]
   rw [show a.tmps.getD 64 undef=undef from by rw [gDe,f64];rfl]
   rw [show a.tmps.getD 65 undef=undef from by rw [gDe,f65];rfl]
   rw [show a.tmps.getD 66 undef=undef from by rw [gDe,f66];rfl]
   rw [show a.tmps.getD 67 undef=undef from by rw [gDe,f67];rfl]
   rw [show a.tmps.getD 3 undef=.string ((((((((((⟨#[116,97,115,107,32]⟩:ByteArray)++b0)++⟨#[32,99,61]⟩)++b1)++⟨#[32,100,61]⟩)++b2)++⟨#[32,116,61]⟩)++b3)++⟨#[32,112,61]⟩)++b4) from by rw [gDe,q3,e3];rfl]
   clear ha hd hsz q3 e3 f0 f1 f2 f4 f5 f6 f7 f8 f33 f34 f35 f36 f37 f38 f39 f40 f41 f42 f43 f44 f45 f46 f47 f48 f49 f50 f51 f52 f53 f54 f55 f56 f57 f58 f59 f60 f61 f62 f63 f64 f65 f66 f67
   go_wp2
   go_meet
   exact⟨rfl,rfl,rfl,hG⟩
 case rest=>
  obtain⟨rfl,rfl,rfl,hS3⟩:=hcut
  have z0:(⟨#[116,97,115,107,32]⟩:ByteArray).size=5:=rfl
  have z1:(⟨#[32,99,61]⟩:ByteArray).size=3:=rfl
  have z2:(⟨#[32,100,61]⟩:ByteArray).size=3:=rfl
  have z3:(⟨#[32,116,61]⟩:ByteArray).size=3:=rfl
  have z4:(⟨#[32,112,61]⟩:ByteArray).size=3:=rfl
  have z5:(⟨#[32,99,104,117,110,107,115,61]⟩:ByteArray).size=8:=rfl
  have z6:(⟨#[32,117,115,101,61]⟩:ByteArray).size=5:=rfl
  have sLN:LN.size≤122:=by rw [HLN.out];simp only [ByteArray.size_append];omega
  rw [← HLN.out]
  clear HLN C0 C1 C2 C3 C4 HS1 HS1d d0 d1 d2 d3 d4
  obtain⟨t0,t1,t2,t3,t4,t5,t6,HB⟩:=hS3
  have sLC:LC.size≤1600:=by
   rw [HLC.out]
   by_cases hl:0<lc
   ·rw [if_pos hl];simp only [ByteArray.size_append];omega
   ·rw [if_neg hl];omega
  clear z0 z1 z2 z3 z4 z5 z6
  have kk0:(9223372036854775807<LN.size+8)=False:=eq_false (by omega)
  have kk1:(9223372036854775807<LN.size+8+J5.size)=False:=eq_false (by omega)
  go_upto_if 36 with (fail)
  generalize hbc:decide (0<lc)=bc
  have HBC:=Lib.hid hbc
  clear hbc
  go_cut [3] from 68 (fun v3 wx=>v3=.string LC∧(wx.cell? ⟨tb,0,none⟩=some (.int .i64 x.id)∧wx.cell? ⟨tb,1,none⟩=some (.int .i64 x.c)∧wx.cell? ⟨tb,2,none⟩=some (.int .i64 x.d)∧wx.cell? ⟨tb,3,none⟩=some (.int .i64 x.t)∧wx.cell? ⟨tb,4,none⟩=some (.int .i64 x.p)∧wx.cell? ⟨tb,5,none⟩=some (.slice A5 lc c5)∧wx.cell? ⟨tb,6,none⟩=some (.slice A6 lu c6)∧Below tb w wx))
  case first=>
   cases bc with
   |true=>
    have HLC1:=Lib.hid (HLC.out.trans (if_pos (of_decide_eq_true HBC.out)))
    go_wp2_with (go_at_call 37;refine (HJ5.out _ (fun y hy=>by have:=HCH.out y hy;omega) (by omega) (HN5.out.below HB (by omega) |>.more (by have:=HB.size;omega))).mono ?_;rintro e w5 ⟨rfl,hb5⟩)
    go_meet
    exact⟨by rw [HLC1.out],qbf ⟨t0,t1,t2,t3,t4,t5,t6,HB⟩ hb5⟩
   |false=>
    have HLC1:=Lib.hid (HLC.out.trans (if_neg (of_decide_eq_false HBC.out)))
    go_wp2
    go_meet
    exact⟨by rw [HLC1.out],t0,t1,t2,t3,t4,t5,t6,HB⟩
  case rest=>
   obtain⟨rfl,hS4⟩:=hcut
   clear t0 t1 t2 t3 t4 t5 t6 HB
   obtain⟨t0,t1,t2,t3,t4,t5,t6,HB⟩:=hS4
   clear kk0 kk1 sLN sJ5 HJ5 HLC HBC HN5 HCH t0 t1 t2 t3 t4
   have kk0:(9223372036854775807<LC.size+5)=False:=eq_false (by omega)
   have kk1:(9223372036854775807<LC.size+5+J6.size)=False:=eq_false (by omega)
   have HUL:=Lib.hid hul
   go_upto_if 46 with (fail)
   generalize hbu:decide (0<lu)=bu
   have HBU:=Lib.hid hbu
   clear hbu
   go_cut [3] from 68 (fun v3 wx=>v3=.string LP∧Below tb w wx)
   case first=>
    cases bu with
    |true=>
     have hlu:=of_decide_eq_true HBU.out
     have hlu64:lu≤64:=by have:=HLL.out.2;omega
     have HLP1:=Lib.hid (HLP.out.trans (if_pos hlu))
     obtain⟨b6,o6,rfl,hb6,hc6⟩:=(HN6.out.below HB (by omega)) (by have:=HLL.out.2;omega)
     have HC6:=Lib.hid hc6
     clear hc6 HLP
     obtain⟨i0,hi0,hz0,hz1,hz2⟩:=info_parts infoL
     obtain⟨n0,hn0⟩:∃ n,n=wc.heap.size:=⟨_,rfl⟩
     have HB0:Hid (tb<n0):=Lib.hid (by rw [hn0];exact qaL t6)
     have HBZ:=Lib.hid hn0
     have HB1:Below n0 wc wc:=Below.refl _ _
     go_wp2
     go_loopw [4,5] (fun v4 v5 wr=>∃ (i:Nat),v5=.int .i64 i∧i≤lu∧wr.ownsRow n0 2 1 v4 i ((x.us.take i).map (Value.int .i64))∧wr.cell? ⟨tb,6,none⟩=some (.slice (some ⟨b6,o6,none⟩) lu c6)∧Below n0 wc wr) (fun _ v5 _=>lu - (RowKit.intOf v5).toNat)
     case atStart=>exact⟨0,rfl,Nat.zero_le _,World.ownsRow_nil _ _ _ _,t6,HB1⟩
     case round=>
      obtain⟨i,rfl,hi,hrow,ht6,hbw⟩:=hrel
      by_cases hil:i<lu
      ·obtain⟨y,hy⟩:∃ y,x.us[i]? = some y:=by
        have hlt:i<x.us.length:=by have:=HLL.out.2;omega
        exact⟨x.us[i],by simp [hlt]⟩
       have hcell:wr.cell? ⟨b6,o6+i,none⟩=some (.int .i64 y):=by
        have hlt:i<x.us.length:=by have:=HLL.out.2;omega
        have hyy:x.us[i]=y:=by simpa [hlt] using hy
        rw [← hyy]
        exact (hbw.cell (p:=⟨b6,o6+i,none⟩) (by have:=HB0.out;have:=htb;show b6<n0;omega)).trans (HC6.out i hlt)
       have HY:=Lib.hid hy
       have hnw:n0≤wr.heap.size:=by have:=hbw.size;omega
       have hlt6:i<x.us.length:=by have:=HLL.out.2;omega
       clear hy
       go_wp2_with (at_builtin;refine wpList_append_own _ rfl _ _ 49 rfl n0 2 i0 _ 1 8 Tryd.underlying49 hi0 hz0 hz1 hz2 rfl (by decide) _ _ _ rfl (hrow.alloc _) ⟨wr.heap.size,0,none⟩ 1 1 [.int .i64 y] rfl rfl (cell_one_new _ _ _) (by simp [Value.oneCell']) (by unfold maxLen;omega) (by omega) (by simp;omega) ?_;intro v' w2 hown' hgrow _)
       have hb2:Below n0 wc w2:=(hbw.alloc (by have:=hbw.size;omega) _).grown hgrow (by simp;have:=hbw.size;omega) (fun k e=>by have:=(hrow.lt k e).1;omega)
       have ht2:w2.cell? ⟨tb,6,none⟩=some (.slice (some ⟨b6,o6,none⟩) lu c6):=(hb2.cell (p:=⟨tb,6,none⟩) HB0.out).trans t6
       go_roundw
       case rel=>exact⟨i+1,by simp,hil,by rw [List.take_add_one,HY.out];simpa using hown',ht2,hb2⟩
       case measure=>simp [RowKit.intOf];omega
      ·have hie:Hid (i=lu):=Lib.hid (by omega)
       have hnl:Hid (i=x.us.length):=Lib.hid (by have:=HLL.out.2;omega)
       have hrow':wr.ownsRow n0 2 1 u4 x.us.length (x.us.map (Value.int .i64)):=by have:=hrow;rw [hnl.out,List.take_length] at this;exact this
       obtain⟨A,cap,hu4,_,_,hnr⟩:=nrow_own hrow'
       rw [HLL.out.2] at hu4
       subst hu4
       go_wp2_with (go_at_call 37;refine (HJ6.out _ A cap (fun y hy=>by have:=HUS.out y hy;omega) (by omega) hnr).mono ?_;rintro e w5 ⟨rfl,hb5⟩)
       go_meet
       have hnw:n0≤wr.heap.size:=by have:=hbw.size;omega
       have:=HB0.out
       exact⟨by rw [HLP1.out],(HB.trans (hbw.mono (by omega))).trans (hb5.mono (by omega))⟩
    |false=>
     have HLP1:=Lib.hid (HLP.out.trans (if_neg (of_decide_eq_false HBU.out)))
     go_wp2
     go_meet
     exact⟨by rw [HLP1.out],HB⟩
   case rest=>
    obtain⟨rfl,hS5⟩:=hcut
    go_wp2
    go_ret
    exact⟨rfl,by rw [htb];exact hS5⟩
noncomputable def lineT (x:Tk):ByteArray:=if rightE x.id x.c x.d x.t x.p x.ch x.us 256=0 then lineP x else ⟨#[]⟩
def headT (sets rel:Int):ByteArray:=((((⟨#[99,97,99,104,101,32]⟩:ByteArray)++digB sets)++⟨#[32]⟩)++digB rel)++⟨#[10]⟩
noncomputable def goT:ByteArray→List Tk→ByteArray
 |h,[]=>h
 |h,x::r=>goT ((h++lineT x)++⟨#[10]⟩) r
noncomputable def printT (sets rel:Int) (L:List Tk):ByteArray:=goT (headT sets rel) L
theorem goT_append (L M:List Tk):∀ h,goT h (L++M)=goT (goT h L) M:=by
 induction L with
 |nil=>intro h;rfl
 |cons x r ih=>intro h;exact ih _
theorem goT_succ {L:List Tk} {i:Nat} (hi:i<L.length) (h:ByteArray):goT h (L.take (i+1))=(goT h (L.take i)++lineT L[i])++⟨#[10]⟩:=by
 rw [List.take_add_one,List.getElem?_eq_getElem hi,goT_append]
 rfl
theorem lineT_size (x:Tk):(lineT x).size≤3100:=by
 unfold lineT
 split
 ·rename_i h
  obtain⟨h1,h2,h3,h4,h5,h6,h7⟩:=rightE_small (sets:=256) (by decide) h
  have d0:=qaY x.id (by omega) (by omega)
  have d1:=qaY x.c (by omega) (by omega)
  have d2:=qaY x.d (by omega) (by omega)
  have d3:=qaY x.t (by omega) (by omega)
  have d4:=qaY x.p (by omega) (by omega)
  have j5:=joinP_size (l:=x.ch) (fun y hy=>by have:=h5 y hy;omega)
  have j6:=joinP_size (l:=x.us) (fun y hy=>by have:=h7 y hy;omega)
  have z0:(⟨#[116,97,115,107,32]⟩:ByteArray).size=5:=rfl
  have z1:(⟨#[32,99,61]⟩:ByteArray).size=3:=rfl
  have z2:(⟨#[32,100,61]⟩:ByteArray).size=3:=rfl
  have z3:(⟨#[32,116,61]⟩:ByteArray).size=3:=rfl
  have z4:(⟨#[32,112,61]⟩:ByteArray).size=3:=rfl
  have z5:(⟨#[32,99,104,117,110,107,115,61]⟩:ByteArray).size=8:=rfl
  have z6:(⟨#[32,117,115,101,61]⟩:ByteArray).size=5:=rfl
  have hN:(lineN x).size≤122:=by unfold lineN;simp only [ByteArray.size_append];omega
  have hC:(lineC x).size≤1600:=by
   unfold lineC
   split
   ·simp only [ByteArray.size_append];omega
   ·omega
  unfold lineP
  split
  ·simp only [ByteArray.size_append];omega
  ·omega
 ·exact Nat.zero_le _
theorem goT_size (L:List Tk):∀ h,(goT h L).size≤h.size+L.length * 3101:=by
 induction L with
 |nil=>intro h;exact Nat.le_add_right _ _
 |cons x r ih=>
  intro h
  have h1:=ih ((h++lineT x)++⟨#[10]⟩)
  have h2:=lineT_size x
  have z:(⟨#[10]⟩:ByteArray).size=1:=rfl
  simp only [ByteArray.size_append,List.length_cons,goT] at h1 ⊢
  rw [Nat.succ_mul]
  omega
theorem headT_size (sets rel:Int) (h0:0≤sets∧sets≤256) (h1:0≤rel∧rel≤1000):(headT sets rel).size≤50:=by
 have d0:=qaY sets (by omega) (by omega)
 have d1:=qaY rel (by omega) (by omega)
 have z0:(⟨#[99,97,99,104,101,32]⟩:ByteArray).size=6:=rfl
 have z1:(⟨#[32]⟩:ByteArray).size=1:=rfl
 have z2:(⟨#[10]⟩:ByteArray).size=1:=rfl
 unfold headT
 simp only [ByteArray.size_append]
 omega
theorem tk_at {w:World} {A:Option Addr} {l:List Tk} (h:Kd.C kTk w A l.length l) (hl:0<l.length):∃ b off,A=some ⟨b,off,none⟩∧b<w.heap.size∧∀ j (hj:j<l.length),∃ A5 c5 A6 c6,
  w.cell? ⟨b,off+j * 7,none⟩=some (.int .i64 l[j].id)∧w.cell? ⟨b,off+j * 7+1,none⟩=some (.int .i64 l[j].c)∧w.cell? ⟨b,off+j * 7+2,none⟩=some (.int .i64 l[j].d)∧w.cell? ⟨b,off+j * 7+3,none⟩=some (.int .i64 l[j].t)∧w.cell? ⟨b,off+j * 7+4,none⟩=some (.int .i64 l[j].p) ∧
   w.cell? ⟨b,off+j * 7+5,none⟩=some (.slice A5 l[j].ch.length c5)∧w.cell? ⟨b,off+j * 7+6,none⟩=some (.slice A6 l[j].us.length c6)∧Kd.C (Kd.int .i64) w A5 l[j].ch.length l[j].ch∧l[j].ch.length≤c5∧Kd.C (Kd.int .i64) w A6 l[j].us.length l[j].us∧l[j].us.length≤c6:=by
 obtain⟨_,_,h⟩:=h
 obtain⟨ad,rfl,hc⟩:=h hl
 have hat:∀ j (hj:j<l.length),∃ A5 c5 A6 c6,(∀ i u,[Value.int .i64 l[j].id,.int .i64 l[j].c,.int .i64 l[j].d,.int .i64 l[j].t,.int .i64 l[j].p,.slice A5 l[j].ch.length c5,.slice A6 l[j].us.length c6][i]? = some u→w.cell? (ad.add (j * 7+i))=some u)∧l[j].ch.length≤c5∧Kd.C (Kd.int .i64) w A5 l[j].ch.length l[j].ch∧l[j].us.length≤c6∧Kd.C (Kd.int .i64) w A6 l[j].us.length l[j].us:=by
  intro j hj
  obtain⟨c,_,hk,hcell⟩:=hc j _ (List.getElem?_eq_getElem hj)
  obtain⟨A5,c5,A6,c6,rfl,g1,g5,g2,g6⟩:=kTk_open hk
  exact⟨A5,c5,A6,c6,hcell,g1,g5,g2,g6⟩
 obtain⟨_,_,_,_,h00,_⟩:=hat 0 hl
 have h00:=h00 0 _ rfl
 have hsp:=World.cell?_spot h00
 have hlt:=bLt w _ h00
 obtain⟨b,off,spot⟩:=ad
 have hs:spot=none:=by simpa [Addr.add] using hsp
 subst hs
 have hadd:∀ j,(⟨b,off,none⟩:Addr).add j=⟨b,off+j,none⟩:=fun j=>by unfold Addr.add;split<;>simp_all
 refine⟨b,off,rfl,by simpa [hadd] using hlt,fun i hi=>?_⟩
 obtain⟨A5,c5,A6,c6,g,e5,g5,e6,g6⟩:=hat i hi
 have g0:=g 0 _ rfl
 have g1:=g 1 _ rfl
 have g2:=g 2 _ rfl
 have g3:=g 3 _ rfl
 have g4:=g 4 _ rfl
 have q5:=g 5 _ rfl
 have q6:=g 6 _ rfl
 rw [hadd] at g0 g1 g2 g3 g4 q5 q6
 exact⟨A5,c5,A6,c6,g0,by rw [Nat.add_assoc];exact g1,by rw [Nat.add_assoc];exact g2,by rw [Nat.add_assoc];exact g3,by rw [Nat.add_assoc];exact g4,by rw [Nat.add_assoc];exact q5,by rw [Nat.add_assoc];exact q6,g5,e5,g6,e6⟩
theorem held3_below {w W w':World} {tb:Nat} {v0 v1 v2:Value} (h:W.cell? ⟨tb,0,none⟩=some v0∧W.cell? ⟨tb,1,none⟩=some v1∧W.cell? ⟨tb,2,none⟩=some v2∧Below tb w W) (hb:Below W.heap.size W w') :
  w'.cell? ⟨tb,0,none⟩=some v0∧w'.cell? ⟨tb,1,none⟩=some v1∧w'.cell? ⟨tb,2,none⟩=some v2∧Below tb w w':=by
 obtain⟨h0,h1,h2,h7⟩:=h
 have hl:=qaL h0
 have m:∀ i v,W.cell? ⟨tb,i,none⟩=some v→w'.cell? ⟨tb,i,none⟩=some v:=fun i v h=>(hb.cell (p:=⟨tb,i,none⟩) hl).trans h
 exact⟨m _ _ h0,m _ _ h1,m _ _ h2,h7.trans (hb.mono (Nat.le_of_lt hl))⟩
theorem checkE_small {sets rel:Int} {L:List Tk} (h:checkE sets rel L=0):(0≤sets∧sets≤256)∧(0≤rel∧rel≤1000)∧0<L.length∧L.length≤64:=by
 unfold checkE at h
 split at h
 ·rename_i h1
  split at h
  ·rename_i h2
   unfold inB at h1
   simp only [decide_eq_true_eq] at h1
   exact⟨h1.1,h1.2.1,by omega,h2⟩
  ·cases h
 ·cases h
theorem arr_lit35 (xs:Array Value) (h:xs.size=35):xs=List.toArray (xs.getD 0 undef::xs.getD 1 undef::xs.getD 2 undef::xs.getD 3 undef::xs.getD 4 undef::xs.getD 5 undef::xs.getD 6 undef::xs.getD 7 undef::xs.getD 8 undef::xs.getD 9 undef::xs.getD 10 undef::xs.getD 11 undef::xs.getD 12 undef::xs.getD 13 undef::xs.getD 14 undef::xs.getD 15 undef::xs.getD 16 undef::xs.getD 17 undef::xs.getD 18 undef::xs.getD 19 undef::xs.getD 20 undef::xs.getD 21 undef::xs.getD 22 undef::xs.getD 23 undef::xs.getD 24 undef::xs.getD 25 undef::xs.getD 26 undef::xs.getD 27 undef::xs.getD 28 undef::xs.getD 29 undef::xs.getD 30 undef::xs.getD 31 undef::xs.getD 32 undef::xs.getD 33 undef::xs.getD 34 undef::[]):=arr_range xs 35 h
theorem refPrint_any (HCK:CkSays) (HRT:RtSays) (sets rel:Int) (A:Option Addr) (cap:Nat) (L:List Tk) (w:World) (hL:L.length≤70000) (hb:∀ x ∈ L,x.ch.length≤1000000∧x.us.length≤1000000∧x.c≤9223372036854775807) (hC:Kd.C kTk w A L.length L) (hcap:L.length≤cap) :
  Calls Tryd.prog 10 #[.agg #[.int .i64 sets,.int .i64 rel,.slice A L.length cap]] w fun e w'=>
   e=.returned (.string (if checkE sets rel L=0 then printT sets rel L else ⟨#[]⟩))∧Below w.heap.size w w':=by
 obtain⟨n,hn⟩:∃ n,L.length=n:=⟨_,rfl⟩
 have hb0:=(Below.refl w.heap.size w).alloc (Nat.le_refl _) (.cells #[.int .i64 sets,.int .i64 rel,.slice A n cap] 32)
 have hn0:=heap_alloc_new w (.cells #[.int .i64 sets,.int .i64 rel,.slice A n cap] 32)
 have HCK1:=Lib.hid (HCK sets rel A cap L (w.alloc (.cells #[.int .i64 sets,.int .i64 rel,.slice A n cap] 32)) hL hb (Kd.C_below hC hb0) hcap)
 rw [hn] at HCK1 ⊢
 have HN:=Lib.hid hn
 have HP:Hid (∃ P,P=printT sets rel L):=Lib.hid ⟨_,rfl⟩
 obtain⟨P,HP⟩:=HP.out
 rw [← HP]
 have HP:=Lib.hid HP
 have HTK:=Lib.hid (fun h0=>tk_at hC h0)
 have HB2:=Lib.hid hb
 have HSM:=Lib.hid (fun h=>checkE_small (sets:=sets) (rel:=rel) (L:=L) h)
 generalize hE:checkE sets rel L=E at HCK1 HSM ⊢
 clear hE hL hb hC hcap hn
 by_cases hE0:E=0
 rotate_left
 ·rw [if_neg hE0]
  have hEb:(E == 0)=false:=by simpa using hE0
  clear hE0
  go_enter Tryd.func10,Tryd.ntmps10
  go_upto_region 1 with (fail)
  generalize w.alloc (.cells #[.int .i64 sets,.int .i64 rel,.slice A n cap] 32)=w0 at hb0 hn0 HCK1 ⊢
  obtain⟨t0,t1,t2,_⟩:=qaB hn0
  have HB:=Lib.hid hb0
  clear hb0 hn0
  go_wp2_with (go_at_call 16;refine HCK1.out.mono ?_;rintro e w1 ⟨rfl,hb1⟩)
  go_ret
  exact⟨rfl,HB.out.trans (hb1.mono HB.out.size)⟩
 subst hE0
 rw [if_pos rfl]
 obtain⟨hsets,hrel,hn0L,hn64⟩:=HSM.out rfl
 have d0:=qaY sets (by omega) (by omega)
 have d1:=qaY rel (by omega) (by omega)
 have hhs:=headT_size sets rel hsets hrel
 have HH:Hid (headT sets rel=((((⟨#[99,97,99,104,101,32]⟩:ByteArray)++digB sets)++⟨#[32]⟩)++digB rel)++⟨#[10]⟩):=Lib.hid rfl
 have HPG:Hid (P=goT (headT sets rel) L):=Lib.hid HP.out
 clear HP
 generalize headT sets rel=HD at hhs HH HPG
 have D0:=Lib.hid (fun W=>qaW sets (by omega) (by omega) W)
 have D1:=Lib.hid (fun W=>qaW rel (by omega) (by omega) W)
 rw [show (⟨(itoa sets).toArray⟩:ByteArray)=digB sets from rfl] at D0
 rw [show (⟨(itoa rel).toArray⟩:ByteArray)=digB rel from rfl] at D1
 generalize digB sets=b0 at d0 D0 HH
 generalize digB rel=b1 at d1 D1 HH
 clear HSM
 have HNL:=Lib.hid (show 0<n∧n≤64 by have:=HN.out;omega)
 clear hn0L hn64
 go_enter Tryd.func10,Tryd.ntmps10
 go_upto_region 1 with (fail)
 generalize w.alloc (.cells #[.int .i64 sets,.int .i64 rel,.slice A n cap] 32)=w0 at hb0 hn0 HCK1 ⊢
 obtain⟨tb,htb⟩:∃ z,w.heap.size=z:=⟨_,rfl⟩
 rw [htb] at hn0 ⊢
 obtain⟨t0,t1,t2,_⟩:=qaB hn0
 have HB:=Lib.hid (And.intro hb0 hn0)
 clear hb0 hn0
 go_upto_region 3 with (go_at_call 16;refine HCK1.out.mono ?_;rintro e w1 ⟨rfl,hb1⟩)
 have HS1:w1.cell? ⟨tb,0,none⟩=some (.int .i64 sets)∧w1.cell? ⟨tb,1,none⟩=some (.int .i64 rel)∧w1.cell? ⟨tb,2,none⟩=some (.slice A n cap)∧Below tb w w1:=held3_below (W:=w0) ⟨t0,t1,t2,by rw [← htb];exact HB.out.1⟩ hb1
 clear t0 t1 t2 hb1 HB HCK1
 have HS1d:w1.drew.cell? ⟨tb,0,none⟩=some (.int .i64 sets)∧w1.drew.cell? ⟨tb,1,none⟩=some (.int .i64 rel)∧w1.drew.cell? ⟨tb,2,none⟩=some (.slice A n cap)∧Below tb w w1.drew:=held3_below HS1 (Below.refl _ _).drew
 have C0:Hid (∀ (W:World),(W.cell? ⟨tb,0,none⟩=some (.int .i64 sets)∧W.cell? ⟨tb,1,none⟩=some (.int .i64 rel)∧W.cell? ⟨tb,2,none⟩=some (.slice A n cap)∧Below tb w W)→Calls Tryd.prog 17 #[.int .i64 sets] W fun e w'=>e=.returned (.string b0)∧(w'.cell? ⟨tb,0,none⟩=some (.int .i64 sets)∧w'.cell? ⟨tb,1,none⟩=some (.int .i64 rel)∧w'.cell? ⟨tb,2,none⟩=some (.slice A n cap)∧Below tb w w')):=Lib.hid (fun W h=>(D0.out W).mono fun e w' ⟨h1,h2⟩=>⟨h1,held3_below h h2⟩)
 have C1:Hid (∀ (W:World),(W.cell? ⟨tb,0,none⟩=some (.int .i64 sets)∧W.cell? ⟨tb,1,none⟩=some (.int .i64 rel)∧W.cell? ⟨tb,2,none⟩=some (.slice A n cap)∧Below tb w W)→Calls Tryd.prog 17 #[.int .i64 rel] W fun e w'=>e=.returned (.string b1)∧(w'.cell? ⟨tb,0,none⟩=some (.int .i64 sets)∧w'.cell? ⟨tb,1,none⟩=some (.int .i64 rel)∧w'.cell? ⟨tb,2,none⟩=some (.slice A n cap)∧Below tb w w')):=Lib.hid (fun W h=>(D1.out W).mono fun e w' ⟨h1,h2⟩=>⟨h1,held3_below h h2⟩)
 clear D0 D1
 go_cut [1,2,3] from 35 (fun v1 v2 v3 wx=>v1=.pointer (some ⟨tb,0,none⟩)∧v2=.string ⟨#[]⟩∧v3=.string (((((⟨#[99,97,99,104,101,32]⟩:ByteArray)++b0)++⟨#[32]⟩)++b1)++⟨#[10]⟩)∧(wx.cell? ⟨tb,0,none⟩=some (.int .i64 sets)∧wx.cell? ⟨tb,1,none⟩=some (.int .i64 rel)∧wx.cell? ⟨tb,2,none⟩=some (.slice A n cap)∧Below tb w wx))
 case first=>
  refine wp_region_facts (by kernel_rfl) (by kernel_rfl) (fun i v W=>match i with
    |0=>v=.pointer (some ⟨tb,0,none⟩)
    |1=>v=.int .i64 sets
    |2=>v=.string b0
    |3=>v=.string ((⟨#[99,97,99,104,101,32]⟩:ByteArray)++b0)
    |4=>v=.string (((⟨#[99,97,99,104,101,32]⟩:ByteArray)++b0)++⟨#[32]⟩)
    |5=>v=.pointer (some ⟨tb,1,none⟩)
    |6=>v=.int .i64 rel
    |7=>v=.string b1
    |8=>v=.string ((((⟨#[99,97,99,104,101,32]⟩:ByteArray)++b0)++⟨#[32]⟩)++b1)
    |9=>v=.string (((((⟨#[99,97,99,104,101,32]⟩:ByteArray)++b0)++⟨#[32]⟩)++b1)++⟨#[10]⟩)
    |_=>v=.string (((((⟨#[99,97,99,104,101,32]⟩:ByteArray)++b0)++⟨#[32]⟩)++b1)++⟨#[10]⟩)) (fun _ _=>True) (fun _ _ _ _ h _=>h) (fun W=>W.cell? ⟨tb,0,none⟩=some (.int .i64 sets)∧W.cell? ⟨tb,1,none⟩=some (.int .i64 rel)∧W.cell? ⟨tb,2,none⟩=some (.slice A n cap)∧Below tb w W) HS1d ?_ ?_
  ·intro i o a W ho hsz hfr hdep hG
   have hi:i<11:=(Array.getElem?_eq_some_iff.1 ho).1
   have hin:i=0∨i=1∨i=2∨i=3∨i=4∨i=5∨i=6∨i=7∨i=8∨i=9∨i=10:=by omega
   rcases hin with rfl|rfl|rfl|rfl|rfl|rfl|rfl|rfl|rfl|rfl|rfl
   ·cases ho
    have g:a.tmps.getD 1 undef=.pointer (some ⟨tb,0,none⟩):=by rw [gDe,hfr 1 (qak (by kernel_rfl))];rfl
    clear hfr hdep hsz
    generalize hK:(fun (a':Act) (w':World)=>_)=K
    go_simp
    rw [← hK]
    exact⟨_,rfl,rfl,trivial,hG⟩
   ·cases ho
    obtain⟨_,q0,e0⟩:=hdep ⟨0,.data⟩ (by simp) rfl _ _ rfl rfl
    have g0:a.tmps.getD 8 undef=.pointer (some ⟨tb,0,none⟩):=by rw [gDe,q0,e0];rfl
    rw [e0] at q0
    clear e0
    have hc:W.cell? ⟨tb,0,none⟩=some (.int .i64 sets):=hG.1
    clear hfr hdep hsz
    generalize hK:(fun (a':Act) (w':World)=>_)=K
    go_simp
    rw [← hK]
    exact⟨_,rfl,rfl,trivial,hG⟩
   ·cases ho
    obtain⟨_,q1,e1⟩:=hdep ⟨1,.data⟩ (by simp) rfl _ _ rfl rfl
    have g1:a.tmps.getD 9 undef=.int .i64 sets:=by rw [gDe,q1,e1];rfl
    rw [e1] at q1
    clear e1
    clear hfr hdep hsz
    generalize hK:(fun (a':Act) (w':World)=>_)=K
    go_simp
    refine (C0.out W hG).mono ?_
    rintro e W2 ⟨rfl,hb⟩
    show K _ _
    rw [← hK]
    exact⟨_,rfl,rfl,trivial,hb⟩
   ·cases ho
    obtain⟨_,q2,e2⟩:=hdep ⟨2,.data⟩ (by simp) rfl _ _ rfl rfl
    have g2:a.tmps.getD 10 undef=.string b0:=by rw [gDe,q2,e2];rfl
    rw [e2] at q2
    clear e2
    clear hfr hdep hsz
    generalize hK:(fun (a':Act) (w':World)=>_)=K
    go_simp
    rw [if_neg (by omega)]
    go_simp
    rw [← hK]
    exact⟨_,rfl,rfl,trivial,hG⟩
   ·cases ho
    obtain⟨_,q3,e3⟩:=hdep ⟨3,.data⟩ (by simp) rfl _ _ rfl rfl
    have g3:a.tmps.getD 11 undef=.string ((⟨#[99,97,99,104,101,32]⟩:ByteArray)++b0):=by rw [gDe,q3,e3];rfl
    rw [e3] at q3
    clear e3
    clear hfr hdep hsz
    generalize hK:(fun (a':Act) (w':World)=>_)=K
    go_simp
    rw [if_neg (by omega)]
    go_simp
    rw [← hK]
    exact⟨_,rfl,rfl,trivial,hG⟩
   ·cases ho
    have g:a.tmps.getD 1 undef=.pointer (some ⟨tb,0,none⟩):=by rw [gDe,hfr 1 (qak (by kernel_rfl))];rfl
    clear hfr hdep hsz
    generalize hK:(fun (a':Act) (w':World)=>_)=K
    go_simp
    rw [← hK]
    exact⟨_,rfl,rfl,trivial,hG⟩
   ·cases ho
    obtain⟨_,q5,e5⟩:=hdep ⟨5,.data⟩ (by simp) rfl _ _ rfl rfl
    have g5:a.tmps.getD 13 undef=.pointer (some ⟨tb,1,none⟩):=by rw [gDe,q5,e5];rfl
    rw [e5] at q5
    clear e5
    have hc:W.cell? ⟨tb,1,none⟩=some (.int .i64 rel):=hG.2.1
    clear hfr hdep hsz
    generalize hK:(fun (a':Act) (w':World)=>_)=K
    go_simp
    rw [← hK]
    exact⟨_,rfl,rfl,trivial,hG⟩
   ·cases ho
    obtain⟨_,q6,e6⟩:=hdep ⟨6,.data⟩ (by simp) rfl _ _ rfl rfl
    have g6:a.tmps.getD 14 undef=.int .i64 rel:=by rw [gDe,q6,e6];rfl
    rw [e6] at q6
    clear e6
    clear hfr hdep hsz
    generalize hK:(fun (a':Act) (w':World)=>_)=K
    go_simp
    refine (C1.out W hG).mono ?_
    rintro e W2 ⟨rfl,hb⟩
    show K _ _
    rw [← hK]
    exact⟨_,rfl,rfl,trivial,hb⟩
   ·cases ho
    obtain⟨_,q4,e4⟩:=hdep ⟨4,.data⟩ (by simp) rfl _ _ rfl rfl
    have g4:a.tmps.getD 12 undef=.string (((⟨#[99,97,99,104,101,32]⟩:ByteArray)++b0)++⟨#[32]⟩):=by rw [gDe,q4,e4];rfl
    rw [e4] at q4
    clear e4
    obtain⟨_,q7,e7⟩:=hdep ⟨7,.data⟩ (by simp) rfl _ _ rfl rfl
    have g7:a.tmps.getD 15 undef=.string b1:=by rw [gDe,q7,e7];rfl
    rw [e7] at q7
    clear e7
    clear hfr hdep hsz
    generalize hK:(fun (a':Act) (w':World)=>_)=K
    go_simp
    rw [if_neg (by omega)]
    go_simp
    rw [← hK]
    exact⟨_,rfl,rfl,trivial,hG⟩
   ·cases ho
    obtain⟨_,q8,e8⟩:=hdep ⟨8,.data⟩ (by simp) rfl _ _ rfl rfl
    have g8:a.tmps.getD 16 undef=.string ((((⟨#[99,97,99,104,101,32]⟩:ByteArray)++b0)++⟨#[32]⟩)++b1):=by rw [gDe,q8,e8];rfl
    rw [e8] at q8
    clear e8
    clear hfr hdep hsz
    generalize hK:(fun (a':Act) (w':World)=>_)=K
    go_simp
    rw [if_neg (by omega)]
    go_simp
    rw [← hK]
    exact⟨_,rfl,rfl,trivial,hG⟩
   ·cases ho
    obtain⟨_,q9,e9⟩:=hdep ⟨9,.data⟩ (by simp) rfl _ _ rfl rfl
    have g9:a.tmps.getD 17 undef=.string (((((⟨#[99,97,99,104,101,32]⟩:ByteArray)++b0)++⟨#[32]⟩)++b1)++⟨#[10]⟩):=by rw [gDe,q9,e9];rfl
    rw [e9] at q9
    clear e9
    clear hfr hdep hsz
    generalize hK:(fun (a':Act) (w':World)=>_)=K
    go_simp
    rw [← hK]
    exact⟨_,rfl,rfl,trivial,hG⟩
  ·intro a W hd hsz hfr hall hG
   obtain⟨_,q3,e3⟩:=hall 10 _ 3 rfl rfl
   have f0:=hfr 0 (qak (by kernel_rfl))
   have f1:=hfr 1 (qak (by kernel_rfl))
   have f2:=hfr 2 (qak (by kernel_rfl))
   have f4:=hfr 4 (qak (by kernel_rfl))
   have f5:=hfr 5 (qak (by kernel_rfl))
   have f6:=hfr 6 (qak (by kernel_rfl))
   have f7:=hfr 7 (qak (by kernel_rfl))
   have f18:=hfr 18 (qak (by kernel_rfl))
   have f19:=hfr 19 (qak (by kernel_rfl))
   have f20:=hfr 20 (qak (by kernel_rfl))
   have f21:=hfr 21 (qak (by kernel_rfl))
   have f22:=hfr 22 (qak (by kernel_rfl))
   have f23:=hfr 23 (qak (by kernel_rfl))
   have f24:=hfr 24 (qak (by kernel_rfl))
   have f25:=hfr 25 (qak (by kernel_rfl))
   have f26:=hfr 26 (qak (by kernel_rfl))
   have f27:=hfr 27 (qak (by kernel_rfl))
   have f28:=hfr 28 (qak (by kernel_rfl))
   have f29:=hfr 29 (qak (by kernel_rfl))
   have f30:=hfr 30 (qak (by kernel_rfl))
   have f31:=hfr 31 (qak (by kernel_rfl))
   have f32:=hfr 32 (qak (by kernel_rfl))
   have f33:=hfr 33 (qak (by kernel_rfl))
   have f34:=hfr 34 (qak (by kernel_rfl))
   clear hfr hall
   have ha:a = { tmps:=a.tmps,defers:=[] }:=by cases a;simp at hd;subst hd;rfl
   rw [ha,arr_lit35 a.tmps hsz]
   rw [show a.tmps.getD 0 undef=.agg #[.int .i64 sets,.int .i64 rel,.slice A n cap] from by rw [gDe,f0];rfl]
   rw [show a.tmps.getD 1 undef=.pointer (some ⟨tb,0,none⟩) from by rw [gDe,f1];rfl]
   rw [show a.tmps.getD 2 undef=.string ⟨#[]⟩ from by rw [gDe,f2];rfl]
   rw [show a.tmps.getD 4 undef=undef from by rw [gDe,f4];rfl]
   rw [show a.tmps.getD 5 undef=.agg #[.int .i64 sets,.int .i64 rel,.slice A n cap] from by rw [gDe,f5];rfl]
   rw [show a.tmps.getD 6 undef=.int .i64 0 from by rw [gDe,f6];rfl]
   rw [show a.tmps.getD 7 undef=.bool false from by rw [gDe,f7];rfl]
   rw [show a.tmps.getD 18 undef=undef from by rw [gDe,f18];rfl]
   rw [show a.tmps.getD 19 undef=undef from by rw [gDe,f19];rfl]
   rw [show a.tmps.getD 20 undef=undef from by rw [gDe,f20];rfl]
   rw [show a.tmps.getD 21 undef=undef from by rw [gDe,f21];rfl]
   rw [show a.tmps.getD 22 undef=undef from by rw [gDe,f22];rfl]
   rw [show a.tmps.getD 23 undef=undef from by rw [gDe,f23];rfl]
   rw [show a.tmps.getD 24 undef=undef from by rw [gDe,f24];rfl]
   rw [show a.tmps.getD 25 undef=undef from by rw [gDe,f25];rfl]
   rw [show a.tmps.getD 26 undef=undef from by rw [gDe,f26];rfl]
   rw [show a.tmps.getD 27 undef=undef from by rw [gDe,f27];rfl]
   rw [show a.tmps.getD 28 undef=undef from by rw [gDe,f28];rfl]
   rw [show a.tmps.getD 29 undef=undef from by rw [gDe,f29];rfl]
   rw [show a.tmps.getD 30 undef=undef from by rw [gDe,f30];rfl]
   rw [show a.tmps.getD 31 undef=undef from by rw [gDe,f31];rfl]
   rw [show a.tmps.getD 32 undef=undef from by rw [gDe,f32];rfl]
   rw [show a.tmps.getD 33 undef=undef from by rw [gDe,f33];rfl]
   rw [show a.tmps.getD 34 undef=undef from by rw [gDe,f34];rfl]
   rw [show a.tmps.getD 3 undef=.string (((((⟨#[99,97,99,104,101,32]⟩:ByteArray)++b0)++⟨#[32]⟩)++b1)++⟨#[10]⟩) from by rw [gDe,q3,e3];rfl]
   clear ha hd hsz q3 e3 f0 f1 f2 f4 f5 f6 f7 f18 f19 f20 f21 f22 f23 f24 f25 f26 f27 f28 f29 f30 f31 f32 f33 f34
   go_wp2
   go_meet
   exact⟨rfl,rfl,rfl,hG⟩
 case rest=>
  obtain⟨rfl,rfl,rfl,hS3⟩:=hcut
  rw [← HH.out]
  clear HH C0 C1 HS1 HS1d d0 d1
  obtain⟨t0,t1,t2,HB⟩:=hS3
  clear t0 t1
  go_wp2
  obtain⟨b,off,rfl,hbl,hat⟩:=HTK.out (by have:=HN.out;have:=HNL.out;omega)
  have HAT:=Lib.hid hat
  clear HTK hat
  obtain⟨n0,hn0⟩:∃ z,z=wc.heap.size:=⟨_,rfl⟩
  have HB0:Hid (tb<n0):=Lib.hid (by rw [hn0];exact qaL t2)
  have HBZ:=Lib.hid hn0
  have HB1:Below n0 wc wc:=Below.refl _ _
  clear hn0
  go_loopw [3,4] (fun v3 v4 wr=>∃ (i:Nat),v4=.int .i64 i∧i≤n∧v3=.string (goT HD (L.take i))∧Below n0 wc wr) (fun _ v4 _=>n - (RowKit.intOf v4).toNat)
  case atStart=>exact⟨0,rfl,Nat.zero_le _,rfl,HB1⟩
  case round=>
   obtain⟨i,rfl,hi,rfl,hbw⟩:=hrel
   have ht2:wr.cell? ⟨tb,2,none⟩=some (.slice (some ⟨b,off,none⟩) n cap):=(hbw.cell (p:=⟨tb,2,none⟩) HB0.out).trans t2
   have HSZ:=goT_size (L.take i) HD
   have hti:(L.take i).length≤64:=by have:=HN.out;have:=HNL.out;simp;omega
   have hsz:(goT HD (L.take i)).size≤210000:=by omega
   clear HSZ hti
   have HBW:=Lib.hid hbw
   have hn64:n≤64:=HNL.out.2
   have hnw:n0≤wr.heap.size:=by have:=hbw.size;have:=HBZ.out;omega
   clear hbw
   by_cases hil:i<n
   ·have hil':i<L.length:=by have:=HN.out;omega
    have HGS:=Lib.hid (goT_succ hil' HD)
    obtain⟨A5,c5,A6,c6,e0,e1,e2,e3,e4,e5,e6,g5,k5,g6,k6⟩:=HAT.out i hil'
    have hwr:Below w.heap.size w wr:=by
     have h1:Below w.heap.size w wc:=by rw [htb];exact HB
     exact h1.trans (HBW.out.mono (by have:=HB0.out;omega))
    have m:∀ j v,w.cell? ⟨b,j,none⟩=some v→wr.cell? ⟨b,j,none⟩=some v:=fun j v h=>(hwr.cell (p:=⟨b,j,none⟩) hbl).trans h
    have f0:=m _ _ e0
    have f1:=m _ _ e1
    have f2:=m _ _ e2
    have f3:=m _ _ e3
    have f4:=m _ _ e4
    have f5:=m _ _ e5
    have f6:=m _ _ e6
    clear e0 e1 e2 e3 e4 e5 e6 m
    obtain⟨x,hx⟩:∃ x,x=L[i]:=⟨_,rfl⟩
    have hbx:=HB2.out x (by rw [hx];exact List.getElem_mem _)
    rw [← hx] at f0 f1 f2 f3 f4 f5 f6 g5 k5 g6 k6 HGS
    have HLN:=Lib.hid (refLineT_any HRT x A5 c5 A6 c6 wr hbx.1 hbx.2.1 hbx.2.2 (Kd.C_below g5 hwr) k5 (Kd.C_below g6 hwr) k6)
    rw [show (if rightE x.id x.c x.d x.t x.p x.ch x.us 256=0 then lineP x else ⟨#[]⟩:ByteArray)=lineT x from rfl] at HLN
    have hlt:=lineT_size x
    generalize lineT x=T at HLN HGS hlt
    generalize goT HD (L.take i)=X at hsz HGS
    clear hx hbx g5 k5 g6 k6 hwr
    have kk0:(9223372036854775807<X.size+T.size)=False:=eq_false (by omega)
    have kk1:(9223372036854775807<X.size+T.size+1)=False:=eq_false (by omega)
    go_wp2_with (go_at_call 18;refine HLN.out.mono ?_;rintro e w5 ⟨rfl,hb5⟩)
    go_roundw
    case rel=>exact⟨i+1,by simp,hil,by rw [HGS.out],HBW.out.trans (hb5.mono hnw)⟩
    case measure=>simp [RowKit.intOf];omega
   ·have hie:Hid (i=n):=Lib.hid (by omega)
    have HTT:Hid (goT HD (L.take i)=P):=Lib.hid (by rw [hie.out,← HN.out,List.take_length,HPG.out])
    rw [HTT.out]
    go_wp2
    go_ret
    exact⟨rfl,by rw [htb];exact HB.trans (HBW.out.mono (by have:=HB0.out;omega))⟩
theorem digB_data (n:Int):(digB n).data.toList=itoa n:=by simp [digB]
theorem numP_dig {n most:Int} (h0:0≤n) (h:n≤most):numP (digB n) most=(n,true):=by
 have h1:=itoa_num n h0 most
 unfold numP
 rw [digB_data,if_pos (h1.2.2 h),h1.1]
 rw [Int.toNat_of_nonneg h0]
def nameW (name v:ByteArray):ByteArray:=(name++⟨#[61]⟩)++v
theorem nameW_data (name v:ByteArray):(nameW name v).data.toList=name.data.toList++61::v.data.toList:=by
 simp [nameW,ByteArray.data_append]
theorem indexByte_at {l:List UInt8} {k:Nat} (h:l[k]? = some 61) (hk:∀ (j:Nat),j<k→l[j]?≠some 61):Lib.indexByte l 61=(k:Int):=by
 rcases Int.lt_or_le (Lib.indexByte l 61) 0 with h1|h1
 ·have h2:=Lib.indexByte_ge l 61
  exact absurd h (Lib.indexByte_none (by omega) k)
 ·obtain⟨h2,h3⟩:=Lib.indexByte_some (o:=(Lib.indexByte l 61).toNat) (l:=l) (c:=61) (by omega)
  have:¬ (Lib.indexByte l 61).toNat<k:=fun h4=>hk _ h4 h2
  have:¬ k<(Lib.indexByte l 61).toNat:=fun h4=>h3 _ h4 h
  omega
theorem pairV_named (name v:ByteArray) (h:(61:UInt8) ∉ name.data.toList):pairV (nameW name v)=(name,v,true):=by
 have hi:Lib.indexByte (nameW name v).data.toList 61=(name.data.toList.length:Int):=by
  rw [nameW_data]
  refine indexByte_at (by simp) (fun j hj e=>?_)
  rw [List.getElem?_append_left hj] at e
  exact h (List.mem_of_getElem? e)
 have e1:(name.data.toList++61::v.data.toList).take name.data.toList.length=name.data.toList:=List.take_left
 have e2:(name.data.toList++61::v.data.toList).drop (name.data.toList.length+1)=v.data.toList:=by
  rw [show name.data.toList++61::v.data.toList=(name.data.toList++[61])++v.data.toList by simp]
  exact List.drop_left' (by simp)
 unfold pairV
 rw [hi,if_pos (by omega),nameW_data,Int.toNat_natCast,e1,e2]
theorem namedP_dig {name:ByteArray} {n most:Int} (hn:(61:UInt8) ∉ name.data.toList) (h0:0≤n) (h:n≤most):namedP (nameW name (digB n)) name most=(n,true):=by
 unfold namedP
 rw [pairV_named _ _ hn]
 simp only
 rw [numP_dig h0 h]
 simp
theorem qbb {name v nm:ByteArray} (hn:(61:UInt8) ∉ name.data.toList):isNamed (nameW name v) nm=decide (name=nm):=by
 unfold isNamed
 rw [pairV_named _ _ hn]
 simp
theorem isNamed_empty (nm:ByteArray):isNamed ByteArray.empty nm=false:=by
 unfold isNamed
 rw [pairV_empty]
 rfl
theorem numsP_join {l:List Int} {most:Int} (hl:l≠[]) (h:∀ y ∈ l,0≤y∧y≤most):numsP (joinP l) most=(l,true):=by
 cases l with
 |nil=>exact absurd rfl hl
 |cons x r=>
  have hc:commas (joinP (x::r))=digs (x::r):=split_join x r (fun y hy=>(h y hy).1) _ rfl
  have ha:AllNum (digs (x::r)) most:=by
   intro i z hz
   unfold digs at hz
   rw [List.getElem?_map] at hz
   cases hy:(x::r)[i]? with
   |none=>rw [hy] at hz;cases hz
   |some y=>
    rw [hy] at hz
    obtain rfl:=Option.some.inj hz
    have hm:=h y (List.mem_of_getElem? hy)
    simpa using (itoa_num y hm.1 most).2.2 hm.2
  have hn:∀ M:List Int,(∀ y ∈ M,0≤y)→numsOf (digs M)=M:=by
   intro M
   induction M with
   |nil=>intro _;rfl
   |cons y M ih=>
    intro hM
    have h1:=itoa_num y (hM y List.mem_cons_self) 0
    have h2:=ih (fun z hz=>hM z (List.mem_cons_of_mem _ hz))
    unfold numsOf digs at h2 ⊢
    rw [List.map_cons,List.map_cons,h2]
    simp only [h1.1]
    rw [Int.toNat_of_nonneg (hM y List.mem_cons_self)]
  unfold numsP
  rw [hc,if_pos ha,hn _ (fun y hy=>(h y hy).1)]
theorem rowP_join {name:ByteArray} {l:List Int} {most:Int} (hn:(61:UInt8) ∉ name.data.toList) (hl:l≠[]) (h:∀ y ∈ l,0≤y∧y≤most):rowP (nameW name (joinP l)) name most=(l,true):=by
 unfold rowP
 rw [qbb hn,decide_eq_true rfl,if_pos rfl,pairV_named _ _ hn]
 exact numsP_join hl h
theorem rowP_other {name nm v:ByteArray} {most:Int} (hn:(61:UInt8) ∉ name.data.toList) (h:name≠nm):rowP (nameW name v) nm most=([],true):=by
 unfold rowP
 rw [qbb hn,decide_eq_false h,if_neg (by decide)]
theorem rowP_empty (nm:ByteArray) (most:Int):rowP ByteArray.empty nm most=([],true):=by
 unfold rowP
 rw [isNamed_empty,if_neg (by decide)]
def taskW (x:Tk):List ByteArray:=
 [⟨#[116,97,115,107]⟩,digB x.id,nameW ⟨#[99]⟩ (digB x.c),nameW ⟨#[100]⟩ (digB x.d),nameW ⟨#[116]⟩ (digB x.t),nameW ⟨#[112]⟩ (digB x.p)]
  ++ ((if 0<x.ch.length then [nameW ⟨#[99,104,117,110,107,115]⟩ (joinP x.ch)] else [])++(if 0<x.us.length then [nameW ⟨#[117,115,101]⟩ (joinP x.us)] else []))
theorem qaX (L:List Wd) (k:Nat):nextP L k=((L.map (·.t))[k]?).getD ByteArray.empty:=by
 unfold nextP
 rw [List.getElem?_map]
 cases L[k]?<;>rfl
theorem taskG_words {L:List Wd} {x:Tk} (h:L.map (·.t)=taskW x) (hx:(1≤x.id∧x.id≤99)∧(1≤x.p∧x.p≤99)∧(1≤x.c∧x.c≤x.d∧x.d≤x.t∧x.t≤1073741824)∧(∀ y ∈ x.ch,1≤y∧y≤1073741824)∧(∀ y ∈ x.us,0≤y∧y<256)):taskG L=.ok x:=by
 obtain⟨h1,h2,h3,h4,h5⟩:=hx
 have hl:L.length=(taskW x).length:=by rw [← h,List.length_map]
 have n0:nextP L 0=⟨#[116,97,115,107]⟩:=by rw [qaX,h];rfl
 have n1:nextP L 1=digB x.id:=by rw [qaX,h];rfl
 have n2:nextP L 2=nameW ⟨#[99]⟩ (digB x.c):=by rw [qaX,h];rfl
 have n3:nextP L 3=nameW ⟨#[100]⟩ (digB x.d):=by rw [qaX,h];rfl
 have n4:nextP L 4=nameW ⟨#[116]⟩ (digB x.t):=by rw [qaX,h];rfl
 have n5:nextP L 5=nameW ⟨#[112]⟩ (digB x.p):=by rw [qaX,h];rfl
 have g1:=numP_dig (n:=x.id) (most:=99) (by omega) (by omega)
 have g2:=namedP_dig (name:=⟨#[99]⟩) (n:=x.c) (most:=1073741824) (by decide) (by omega) (by omega)
 have g3:=namedP_dig (name:=⟨#[100]⟩) (n:=x.d) (most:=1073741824) (by decide) (by omega) (by omega)
 have g4:=namedP_dig (name:=⟨#[116]⟩) (n:=x.t) (most:=1073741824) (by decide) (by omega) (by omega)
 have g5:=namedP_dig (name:=⟨#[112]⟩) (n:=x.p) (most:=99) (by decide) (by omega) (by omega)
 have key:∀ k7,rowP (nextP L 6) ⟨#[99,104,117,110,107,115]⟩ 1073741824=(x.ch,true)→rowK (nextP L 6) ⟨#[99,104,117,110,107,115]⟩ 6=k7→rowP (nextP L k7) ⟨#[117,115,101]⟩ 255=(x.us,true)→rowK (nextP L k7) ⟨#[117,115,101]⟩ k7=L.length→taskG L=.ok x:=by
  intro k7 e1 e2 e3 e4
  unfold taskG
  rw [n0,n1,n2,n3,n4,n5,g1,g2,g3,g4,g5,e1,e2,e3,e4]
  simp only [if_true]
 have c61:(61:UInt8) ∉ (⟨#[99,104,117,110,107,115]⟩:ByteArray).data.toList:=by decide
 have u61:(61:UInt8) ∉ (⟨#[117,115,101]⟩:ByteArray).data.toList:=by decide
 have hne:(⟨#[117,115,101]⟩:ByteArray)≠⟨#[99,104,117,110,107,115]⟩:=by decide
 by_cases hc:0<x.ch.length
 ·have hcn:x.ch≠[]:=by intro e;rw [e] at hc;exact absurd hc (by decide)
  have n6:nextP L 6=nameW ⟨#[99,104,117,110,107,115]⟩ (joinP x.ch):=by rw [qaX,h];unfold taskW;rw [if_pos hc];rfl
  have k6:rowK (nextP L 6) ⟨#[99,104,117,110,107,115]⟩ 6=7:=by
   unfold rowK;rw [n6,qbb c61,decide_eq_true rfl,if_pos rfl]
  by_cases hu:0<x.us.length
  ·have hun:x.us≠[]:=by intro e;rw [e] at hu;exact absurd hu (by decide)
   have n7:nextP L 7=nameW ⟨#[117,115,101]⟩ (joinP x.us):=by rw [qaX,h];unfold taskW;rw [if_pos hc,if_pos hu];rfl
   have hl8:L.length=8:=by rw [hl];unfold taskW;rw [if_pos hc,if_pos hu];rfl
   refine key 7 (by rw [n6];exact rowP_join c61 hcn (fun y hy=>by have:=h4 y hy;omega)) k6 (by rw [n7];exact rowP_join u61 hun (fun y hy=>by have:=h5 y hy;omega)) ?_
   unfold rowK;rw [n7,qbb u61,decide_eq_true rfl,if_pos rfl,hl8]
  ·have hun:x.us=[]:=by cases hx:x.us with
    |nil=>rfl
    |cons a r=>rw [hx] at hu;exact absurd (by simp) hu
   have n7:nextP L 7=ByteArray.empty:=by rw [qaX,h];unfold taskW;rw [if_pos hc,if_neg hu];rfl
   have hl8:L.length=7:=by rw [hl];unfold taskW;rw [if_pos hc,if_neg hu];rfl
   refine key 7 (by rw [n6];exact rowP_join c61 hcn (fun y hy=>by have:=h4 y hy;omega)) k6 (by rw [n7,rowP_empty,hun]) ?_
   unfold rowK;rw [n7,isNamed_empty,if_neg (by decide),hl8]
 ·have hcn:x.ch=[]:=by cases hx:x.ch with
   |nil=>rfl
   |cons a r=>rw [hx] at hc;exact absurd (by simp) hc
  by_cases hu:0<x.us.length
  ·have hun:x.us≠[]:=by intro e;rw [e] at hu;exact absurd hu (by decide)
   have n6:nextP L 6=nameW ⟨#[117,115,101]⟩ (joinP x.us):=by rw [qaX,h];unfold taskW;rw [if_neg hc,if_pos hu];rfl
   have hl8:L.length=7:=by rw [hl];unfold taskW;rw [if_neg hc,if_pos hu];rfl
   refine key 6 (by rw [n6,rowP_other u61 hne,hcn]) (by unfold rowK;rw [n6,qbb u61,decide_eq_false hne,if_neg (by decide)]) (by rw [n6];exact rowP_join u61 hun (fun y hy=>by have:=h5 y hy;omega)) ?_
   unfold rowK;rw [n6,qbb u61,decide_eq_true rfl,if_pos rfl,hl8]
  ·have hun:x.us=[]:=by cases hx:x.us with
    |nil=>rfl
    |cons a r=>rw [hx] at hu;exact absurd (by simp) hu
   have n6:nextP L 6=ByteArray.empty:=by rw [qaX,h];unfold taskW;rw [if_neg hc,if_neg hu];rfl
   have hl8:L.length=6:=by rw [hl];unfold taskW;rw [if_neg hc,if_neg hu];rfl
   refine key 6 (by rw [n6,rowP_empty,hcn]) (by unfold rowK;rw [n6,isNamed_empty,if_neg (by decide)]) (by rw [n6,rowP_empty,hun]) ?_
   unfold rowK;rw [n6,isNamed_empty,if_neg (by decide),hl8]
theorem headG_words {L:List Wd} {sets rel:Int} (h:L.map (·.t)=[⟨#[99,97,99,104,101]⟩,digB sets,digB rel]) (hs:0≤sets∧sets≤256) (hr:0≤rel∧rel≤1000):headG L=.ok (sets,rel):=by
 have hl:3=L.length:=by rw [← List.length_map (f:=(·.t)),h];rfl
 have n0:nextP L 0=⟨#[99,97,99,104,101]⟩:=by rw [qaX,h];rfl
 have n1:nextP L 1=digB sets:=by rw [qaX,h];rfl
 have n2:nextP L 2=digB rel:=by rw [qaX,h];rfl
 unfold headG
 rw [n0,n1,n2,numP_dig hs.1 hs.2,numP_dig hr.1 hr.2]
 simp only [if_true]
 rw [if_pos hl]
def text1:ByteArray:=⟨#[99,97,99,104,101,32,52,32,49,10,116,97,115,107,32,49,32,99,61,50,32,100,61,53,32,116,61,53]⟩
def text2:ByteArray:=⟨#[99,97,99,104,101,32,52,32,49,10,116,97,115,107,32,49,32,99,61,50,32,100,61,53,32,116,61,53,32,112,61,51,32,117,115,101,61,48,44,49]⟩
def head1:List Wd:=[⟨0,1,⟨#[99,97,99,104,101]⟩⟩,⟨6,1,⟨#[52]⟩⟩,⟨8,1,⟨#[49]⟩⟩]
def line1:List Wd:=[⟨10,2,⟨#[116,97,115,107]⟩⟩,⟨15,2,⟨#[49]⟩⟩,⟨17,2,⟨#[99,61,50]⟩⟩,⟨21,2,⟨#[100,61,53]⟩⟩,⟨25,2,⟨#[116,61,53]⟩⟩]
def line2:List Wd:=line1++[⟨29,2,⟨#[112,61,51]⟩⟩,⟨33,2,⟨#[117,115,101,61,48,44,49]⟩⟩]
theorem lns1:lns (textW text1)=[head1,line1]:=by kernel_rfl
theorem lns2:lns (textW text2)=[head1,line2]:=by kernel_rfl
theorem head1_says:headG head1=.ok (4,1):=headG_words (by kernel_rfl) (by decide) (by decide)
theorem line2_says:taskG line2=.ok ⟨1,2,5,5,3,[],[0,1]⟩:=taskG_words (by kernel_rfl) (by decide)
theorem line1_says:taskG line1=.error 28:=by
 have n0:nextP line1 0=⟨#[116,97,115,107]⟩:=by rfl
 have n1:nextP line1 1=digB 1:=by kernel_rfl
 have n2:nextP line1 2=nameW ⟨#[99]⟩ (digB 2):=by kernel_rfl
 have n3:nextP line1 3=nameW ⟨#[100]⟩ (digB 5):=by kernel_rfl
 have n4:nextP line1 4=nameW ⟨#[116]⟩ (digB 5):=by kernel_rfl
 have n5:nextP line1 5=ByteArray.empty:=by rfl
 have g5:(namedP ByteArray.empty ⟨#[112]⟩ 99).2=false:=by unfold namedP;rw [pairV_empty];rfl
 unfold taskG
 rw [n0,n1,n2,n3,n4,n5,numP_dig (by decide) (by decide),namedP_dig (by decide) (by decide) (by decide),namedP_dig (by decide) (by decide) (by decide),namedP_dig (by decide) (by decide) (by decide),g5]
 simp only [if_true]
 rw [if_neg (by decide)]
 have:wrongP line1 5=28:=by kernel_rfl
 rw [this]
theorem text1_says:parseP text1=(0,0,[],28,10):=by
 unfold parseP
 rw [lns1]
 simp only
 rw [head1_says]
 simp only
 unfold goP
 rw [line1_says]
theorem text2_says:parseP text2=(4,1,[⟨1,2,5,5,3,[],[0,1]⟩],40,0):=by
 unfold parseP
 rw [lns2]
 simp only
 rw [head1_says]
 simp only
 unfold goP
 rw [line2_says]
 simp only
 rw [if_pos (by decide)]
 unfold goP
 rw [if_neg (by decide)]
 rfl
theorem awake_any (m:Int) (w:World) (hm:w.cell? ⟨1,0,none⟩=some (.int .i64 m)) :
  Calls Tryd.prog 8 #[] w fun e w'=>e=.returned (.bool true)∧Below w.heap.size w w':=by
 have H1:Hid (Calls Tryd.prog 12 #[.string text1] w fun e w'=>(∃ A c,e=.returned (.tuple #[.agg #[.int .i64 0,.int .i64 0,.slice A 0 c],.int .i64 28,.int .i64 10]))∧Below w.heap.size w w'):=Lib.hid ((parse_any text1 (by decide) m w hm).mono (by
  intro e w' h
  rw [text1_says] at h
  obtain⟨⟨v,rfl,hR⟩,hb⟩:=h
  obtain⟨A,c,rfl,_,_⟩:=Kd.R_reads hR
  exact⟨⟨A,c,rfl⟩,hb⟩))
 have H2:Hid (∀ W:World,W.cell? ⟨1,0,none⟩=some (.int .i64 m)→Calls Tryd.prog 12 #[.string text2] W fun e w'=>(∃ b off c,e=.returned (.tuple #[.agg #[.int .i64 4,.int .i64 1,.slice (some ⟨b,off,none⟩) 1 c],.int .i64 40,.int .i64 0])∧w'.cell? ⟨b,off+4,none⟩=some (.int .i64 3))∧Below W.heap.size W w'):=Lib.hid (fun W hW=>(parse_any text2 (by decide) m W hW).mono (by
  intro e w' h
  rw [text2_says] at h
  obtain⟨⟨v,rfl,hR⟩,hb⟩:=h
  obtain⟨A,c,rfl,_,hC⟩:=Kd.R_reads hR
  obtain⟨b,off,rfl,_,hat⟩:=tk_at hC (by decide)
  obtain⟨_,_,_,_,_,_,_,_,h4,_⟩:=hat 0 (by decide)
  exact⟨⟨b,off,c,rfl,by simpa using h4⟩,hb⟩))
 have HM:=Lib.hid hm
 have hlt:=qaL hm
 go_enter Tryd.func8,Tryd.ntmps8
 go_upto_region 2 with (go_at_call 12;refine H1.out.mono ?_;rintro e w1 ⟨⟨A,c,rfl⟩,hb1⟩)
 have hb2:=hb1.alloc hb1.size (.cells #[.int .i64 0,.int .i64 0,.slice A 0 c] 32)
 generalize w1.alloc (.cells #[.int .i64 0,.int .i64 0,.slice A 0 c] 32)=w2 at hb2 ⊢
 have hm2:w2.cell? ⟨1,0,none⟩=some (.int .i64 m):=(hb2.cell (p:=⟨1,0,none⟩) hlt).trans HM.out
 have H3:=Lib.hid (H2.out w2 hm2)
 have HB2:=Lib.hid hb2
 clear hb1 hb2 hm2 hm
 go_upto_region 3 with (go_at_call 12;refine H3.out.mono ?_;rintro e w3 ⟨⟨b,off,c3,rfl,hp⟩,hb3⟩)
 have hb4:=(Below.refl w3.heap.size w3).alloc (Nat.le_refl _) (.cells #[.int .i64 4,.int .i64 1,.slice (some ⟨b,off,none⟩) 1 c3] 32)
 have hn4:=heap_alloc_new w3 (.cells #[.int .i64 4,.int .i64 1,.slice (some ⟨b,off,none⟩) 1 c3] 32)
 generalize w3.alloc (.cells #[.int .i64 4,.int .i64 1,.slice (some ⟨b,off,none⟩) 1 c3] 32)=w4 at hb4 hn4 ⊢
 obtain⟨_,_,t2,_⟩:=qaB hn4
 have hp4:w4.cell? ⟨b,off+4,none⟩=some (.int .i64 3):=(hb4.cell (p:=⟨b,off+4,none⟩) (qaL hp)).trans hp
 have HB4:Hid (Below w.heap.size w w4):=Lib.hid (HB2.out.trans ((hb3.trans (hb4.mono hb3.size)).mono HB2.out.size))
 clear hb3 hb4 hn4 hp H3
 go_wp2
 go_ret
 exact⟨rfl,HB4.out⟩
end Go.Proofs.YtcfknijdhmildaaDoor
end
section
namespace Go.Proofs.YtcfknijdhmildaaDoor.PParseReads
open Go.RowKit Go.Lib Go.Proofs.YtcfknijdhmildaaDoorW.PrintWords
theorem rtSays:RtSays:=by
 intro x sets A5 c5 A6 c6 W h5 h6 hc hr5 hc5 hr6 hc6
 obtain⟨k,hk⟩:=(right_f x.id x.c x.d x.t x.p x.ch x.us sets h5 h6 hc).rounds
 exact ostinatoref05_Right.calls k x.id x.c x.d x.t x.p A5 c5 x.ch A6 c6 x.us sets _ W hr5 hc5 hr6 hc6 hk
theorem sameTask_l1 (y0 y1 y2 y3 y4:Int) (ch us:List Int) (hl:us.length≤1000000):∀ (n i:Nat),i+n=us.length→Ev (fun k=>ostinatoref05_SameTask.l1 k (i:Int) y0 y1 y2 y3 y4 ch us y0 y1 y2 y3 y4 ch us) true:=by
 intro n
 induction n with
 |zero=>
  intro i hi
  exact Ev.step (fun k=>by rw [ostinatoref05_SameTask.l1]) (Ev.ifn (by omega) (Ev.now _))
 |succ n ih=>
  intro i hi
  refine Ev.step (fun k=>by rw [ostinatoref05_SameTask.l1]) (Ev.ifp (by omega) (Ev.ifp (by omega) (Ev.ifp (by omega) (Ev.ifp rfl ?_))))
  rw [qaQ i (by omega)]
  exact ih (i+1) (by omega)
theorem sameTask_l0 (y0 y1 y2 y3 y4:Int) (ch us:List Int) (hc:ch.length≤1000000) (hl:us.length≤1000000):∀ (n i:Nat),i+n=ch.length→Ev (fun k=>ostinatoref05_SameTask.l0 k (i:Int) y0 y1 y2 y3 y4 ch us y0 y1 y2 y3 y4 ch us) true:=by
 intro n
 induction n with
 |zero=>
  intro i hi
  exact Ev.step (fun k=>by rw [ostinatoref05_SameTask.l0]) (Ev.ifn (by omega) (by simpa using sameTask_l1 y0 y1 y2 y3 y4 ch us hl us.length 0 (by omega)))
 |succ n ih=>
  intro i hi
  refine Ev.step (fun k=>by rw [ostinatoref05_SameTask.l0]) (Ev.ifp (by omega) (Ev.ifp (by omega) (Ev.ifp (by omega) (Ev.ifp rfl ?_))))
  rw [qaQ i (by omega)]
  exact ih (i+1) (by omega)
theorem sameTask_f (y0 y1 y2 y3 y4:Int) (ch us:List Int) (hc:ch.length≤1000000) (hl:us.length≤1000000):Ev (fun k=>ostinatoref05_SameTask.f k y0 y1 y2 y3 y4 ch us y0 y1 y2 y3 y4 ch us) true:=by
 unfold ostinatoref05_SameTask.f
 refine Ev.ifp rfl (Ev.ifp rfl (Ev.ifp rfl (Ev.ifp rfl (Ev.ifp rfl (Ev.ifp rfl ?_)))))
 have e:((us.length:Int) != (us.length:Int))=false:=by simp
 rw [e]
 refine Ev.step (fun k=>by rw [ostinatoref05_SameTask.j0]) (Ev.ifn (by decide) ?_)
 simpa using sameTask_l0 y0 y1 y2 y3 y4 ch us hc hl ch.length 0 (by omega)
theorem sameTasks_l0 (L:List Tk) (hL:L.length≤70000) (hb:∀ x ∈ L,x.ch.length≤1000000∧x.us.length≤1000000):∀ (n i:Nat),i+n=L.length→Ev (fun k=>ostinatoref05_SameTasks.l0 k (L.map tkTo) (L.map tkTo) (i:Int)) true:=by
 intro n
 induction n with
 |zero=>
  intro i hi
  exact Ev.step (fun k=>by rw [ostinatoref05_SameTasks.l0]) (Ev.ifn (by simp;omega) (Ev.now _))
 |succ n ih=>
  intro i hi
  have hil:i<L.length:=by omega
  have hx:=hb L[i] (List.getElem_mem hil)
  refine Ev.step (fun k=>by rw [ostinatoref05_SameTasks.l0,rdT_nat hil]) (Ev.ifp (by simp;omega) (Ev.ifp (by omega) (Ev.ifp (by simp;omega) ?_)))
  refine Ev.bind (sameTask_f L[i].id L[i].c L[i].d L[i].t L[i].p L[i].ch L[i].us hx.1 hx.2) ?_
  refine Ev.ifp rfl ?_
  rw [qaQ i (by omega)]
  exact ih (i+1) (by omega)
theorem same_f (s r:Int) (L:List Tk) (hL:L.length≤70000) (hb:∀ x ∈ L,x.ch.length≤1000000∧x.us.length≤1000000):Ev (fun k=>ostinatoref05_Same.f k s r (L.map tkTo) s r (L.map tkTo)) true:=by
 have h:Ev (fun k=>ostinatoref05_SameTasks.f k (L.map tkTo) (L.map tkTo)) true:=by
  unfold ostinatoref05_SameTasks.f
  exact Ev.ifp rfl (by simpa using sameTasks_l0 L hL hb L.length 0 (by omega))
 unfold ostinatoref05_Same.f
 refine Ev.bind h ?_
 refine Ev.ifp rfl (Ev.ifp rfl ?_)
 have e:(r == r)=true:=by simp
 rw [e]
 exact Ev.now _
theorem goP_bounds (sets rel size:Int):∀ (r:List (List Wd)) (acc:List Tk),(∀ L ∈ r,∀ x ∈ L,x.t.size≤65536)→acc.length+r.length≤70000→(∀ x ∈ acc,x.ch.length≤1000000∧x.us.length≤1000000∧x.c≤9223372036854775807) →
  (goP sets rel size acc r).2.2.1.length≤70000∧∀ x ∈ (goP sets rel size acc r).2.2.1,x.ch.length≤1000000∧x.us.length≤1000000∧x.c≤9223372036854775807:=by
 intro r
 induction r with
 |nil=>
  intro acc _ hn hb
  unfold goP
  split
  ·exact⟨Nat.zero_le _,fun x hx=>by cases hx⟩
  ·exact⟨by show acc.length≤_;simp at hn;omega,hb⟩
 |cons L r ih=>
  intro acc hw hn hb
  unfold goP
  cases ht:taskG L with
  |error p=>exact⟨Nat.zero_le _,fun x hx=>by cases hx⟩
  |ok x=>
   simp only
   split
   ·refine ih (acc++[x]) (fun M hM=>hw M (List.mem_cons_of_mem _ hM)) (by simp at hn ⊢;omega) (fun z hz=>?_)
    rcases List.mem_append.1 hz with h|h
    ·exact hb z h
    ·rw [List.mem_singleton.1 h]
     exact taskG_bounds (hw L List.mem_cons_self) ht
   ·exact⟨Nat.zero_le _,fun x hx=>by cases hx⟩
end Go.Proofs.YtcfknijdhmildaaDoor.PParseReads
end
section
namespace Go.Proofs.YtcfknijdhmildaaDoor.PParseReads
open Go.RowKit Go.Proofs.YtcfknijdhmildaaDoorW.PrintWords Go.Proofs.YtcfknijdhmildaaDoorW.PrintLast Go.Proofs.YtcfknijdhmildaaDoorW.PrintMore
attribute [local go_sem] max2_int min2_int max_two min_two qa7 qa6 max_four min_four
set_option linter.unusedVariables false
set_option linter.unusedSimpArgs false
noncomputable section
def ostinatolaw07_short.f (a0:ByteArray) (a1:Int):Option (ByteArray):=if (a0.size:Int) > a1 then (if 0≤a1 then (if a1≤(a0.size:Int) then (some (a0.extract 0 (a1:Int).toNat)) else (none)) else (none)) else (some a0)
theorem ostinatolaw07_short.calls (a0:ByteArray) (a1:Int) (r:ByteArray) (w:World) (h:ostinatolaw07_short.f a0 a1=some r) :
  Calls Tryd.prog 9 #[.string a0,.int .i64 a1] w fun e w'=>e=.returned (.string r)∧Drawn0 w w':=by
 have H:(if (a0.size:Int) > a1 then (if 0≤a1 then (if a1≤(a0.size:Int) then (some (a0.extract 0 (a1:Int).toNat)) else (none)) else (none)) else (some a0))=some r:=h
 clear h
 by_cases c3:(a0.size:Int) > a1
 ·rw [if_pos c3] at H
  have c3b0:decide (a1<(a0.size:Int))=true:=decide_eq_true c3
  clear c3
  by_cases c4:0≤a1
  ·rw [if_pos c4] at H
   have c4b0:=eq_true c4
   have c4b1:decide (0≤a1)=true:=decide_eq_true c4
   clear c4
   by_cases c5:a1≤(a0.size:Int)
   ·rw [if_pos c5] at H
    have c5b0:=eq_true c5
    have c5b1:decide (a1≤(a0.size:Int))=true:=decide_eq_true c5
    clear c5
    obtain rfl:=Option.some.inj H
    go_enter Tryd.func9,Tryd.ntmps9
    go_wp2
    go_ret
    exact⟨by first|rfl|(simp;done)|(simp [*];done),by repeat (first|exact Drawn0.refl _|apply Drawn0.step)⟩
   ·rw [if_neg c5] at H
    exact absurd H (by simp)
  ·rw [if_neg c4] at H
   exact absurd H (by simp)
 ·rw [if_neg c3] at H
  have c3b0:decide (a1<(a0.size:Int))=false:=decide_eq_false c3
  clear c3
  obtain rfl:=Option.some.inj H
  go_enter Tryd.func9,Tryd.ntmps9
  go_wp2
  go_ret
  exact⟨by first|rfl|(simp;done)|(simp [*];done),by repeat (first|exact Drawn0.refl _|apply Drawn0.step)⟩
end
end Go.Proofs.YtcfknijdhmildaaDoor.PParseReads
end
section
namespace Go.Proofs.YtcfknijdhmildaaDoor.PParseReads
open Go.RowKit Go.Proofs.YtcfknijdhmildaaDoorW.PrintWords Go.Proofs.YtcfknijdhmildaaDoorW.PrintLast Go.Proofs.YtcfknijdhmildaaDoorW.PrintMore
attribute [local go_sem] max2_int min2_int max_two min_two qa7 qa6 max_four min_four
set_option linter.unusedVariables false
set_option linter.unusedSimpArgs false
noncomputable section
def ostinatoref05_rest.f (a0:Int) (a1:Int):Option (Int):=if a1=0 then (none) else (some (Int.tmod (wrap64 ((Int.tmod a0 a1)+a1)) a1))
theorem ostinatoref05_rest.calls (a0:Int) (a1:Int) (r:Int) (w:World) (h:ostinatoref05_rest.f a0 a1=some r) :
  Calls Tryd.prog 38 #[.int .i64 a0,.int .i64 a1] w fun e w'=>e=.returned (.int .i64 r)∧Drawn0 w w':=by
 have H:(if a1=0 then (none) else (some (Int.tmod (wrap64 ((Int.tmod a0 a1)+a1)) a1)))=some r:=h
 clear h
 by_cases c3:a1=0
 ·rw [if_pos c3] at H
  exact absurd H (by simp)
 ·rw [if_neg c3] at H
  have c3b0:(a1 == 0)=false:=beq_eq_false_iff_ne.mpr c3
  have c3b1:(a1 != 0)=true:=bne_iff_ne.mpr c3
  obtain rfl:=Option.some.inj H
  go_enter Tryd.func38,Tryd.ntmps38
  go_wp2
  go_ret
  exact⟨by first|rfl|(simp;done)|(simp [*];done),by repeat (first|exact Drawn0.refl _|apply Drawn0.step)⟩
end
end Go.Proofs.YtcfknijdhmildaaDoor.PParseReads
end
section
namespace Go.Proofs.YtcfknijdhmildaaDoor.PParseReads
open Go.RowKit Go.Proofs.YtcfknijdhmildaaDoorW.PrintWords Go.Proofs.YtcfknijdhmildaaDoorW.PrintLast Go.Proofs.YtcfknijdhmildaaDoorW.PrintMore
attribute [local go_sem] max2_int min2_int max_two min_two qa7 qa6 max_four min_four
set_option linter.unusedVariables false
set_option linter.unusedSimpArgs false
noncomputable section
mutual
def ostinatoref05_Num_task.l0:Nat→Int→Int→Int→Int→Int→Int→Int→Int→Int→List Int→Int→Int→Int→Int→Int→List Int→Option (Int × Int × Int × Int × Int × List Int × List Int)
 |0,_,_,_,_,_,_,_,_,_,_,_,_,_,_,_,_=>none
 |k+1,x2,x10,x12,x13,x115000,x115001,x115002,x115003,x115004,x115005,x122000,x122001,x122002,x122003,x122004,x122005=>if x13<x10 then (if 0≤(IntKind.u64.wrap (x13)) then (if (Go.bits .and .i64 (shr .i64 x115004 (IntKind.u64.wrap (x13))) 1)=1 then (if x122005.length<17592186044416 then (ostinatoref05_Num_task.l0 k x2 x10 x13 (wrap64 (x13+1)) x115000 x115001 x115002 x115003 x115004 x115005 x122000 x122001 x122002 x122003 x122004 (x122005++[wrap64 (x13 - x12)])) else (none)) else (ostinatoref05_Num_task.l0 k x2 x10 x12 (wrap64 (x13+1)) x115000 x115001 x115002 x115003 x115004 x115005 x122000 x122001 x122002 x122003 x122004 x122005)) else (none)) else (if x12 > 0 then (if x122005.length<17592186044416 then (ostinatoref05_Num_task.j1 k x2 x115000 x115001 x115002 x115003 x115004 x115005 x122000 x122001 x122002 x122003 x122004 (x122005++[wrap64 (x10 - x12)])) else (none)) else (ostinatoref05_Num_task.j1 k x2 x115000 x115001 x115002 x115003 x115004 x115005 x122000 x122001 x122002 x122003 x122004 x122005))
def ostinatoref05_Num_task.j1:Nat→Int→Int→Int→Int→Int→Int→List Int→Int→Int→Int→Int→Int→List Int→Option (Int × Int × Int × Int × Int × List Int × List Int)
 |0,_,_,_,_,_,_,_,_,_,_,_,_,_=>none
 |k+1,x2,x115000,x115001,x115002,x115003,x115004,x115005,x122000,x122001,x122002,x122003,x122004,x122005=>ostinatoref05_Num_task.l1 k x2 0 x115000 x115001 x115002 x115003 x115004 x115005 x122000 x122001 x122002 x122003 x122004 x122005 ([]:List Int)
def ostinatoref05_Num_task.l1:Nat→Int→Int→Int→Int→Int→Int→Int→List Int→Int→Int→Int→Int→Int→List Int→List Int→Option (Int × Int × Int × Int × Int × List Int × List Int)
 |0,_,_,_,_,_,_,_,_,_,_,_,_,_,_,_=>none
 |k+1,x2,x14,x115000,x115001,x115002,x115003,x115004,x115005,x122000,x122001,x122002,x122003,x122004,x122005,x122006=>if x14<(x115005.length:Int) then (if x14<5 then (if 0≤x14 then ((ostinatoref05_rest.f (rd x115005 x14) x2).bind fun t129=>(if x122006.length<17592186044416 then (ostinatoref05_Num_task.l1 k x2 (wrap64 (x14+1)) x115000 x115001 x115002 x115003 x115004 x115005 x122000 x122001 x122002 x122003 x122004 x122005 (x122006++[t129])) else (none))) else (none)) else (some (x122000,x122001,x122002,x122003,x122004,x122005,x122006))) else (some (x122000,x122001,x122002,x122003,x122004,x122005,x122006))
end
def ostinatoref05_Num_task.f (k:Nat) (a0_0:Int) (a0_1:Int) (a0_2:Int) (a0_3:Int) (a0_4:Int) (l0_5:List Int) (a1:Int) (a2:Int):Option (Int × Int × Int × Int × Int × List Int × List Int):=if 0≤(Go.bits .and .i64 a0_2 7) then (if (Go.bits .and .i64 a0_2 7)<8 then ((ostinatoref05_rest.f a0_1 (rd [4,5,6,8,10,12,20,24] (Go.bits .and .i64 a0_2 7))).bind fun t118=>((ostinatoref05_rest.f a0_0 (wrap64 (1+t118))).bind fun t119=>((ostinatoref05_rest.f a0_3 9).bind fun t120=>(ostinatoref05_Num_task.l0 k a2 (wrap64 (1+t119)) 0 1 a0_0 a0_1 a0_2 a0_3 a0_4 l0_5 (wrap64 (a1+1)) (wrap64 (1+t119)) (wrap64 (1+t118)) (rd [4,5,6,8,10,12,20,24] (Go.bits .and .i64 a0_2 7)) (wrap64 ((wrap64 (10 * (wrap64 (1+t120))))+a1)) ([]:List Int))))) else (none)) else (none)
def ostinatoref05_Num_task.T18:Bool × List (List Nat × List Nat):=(true,[([],[]),([0],[0]),([],[]),([2],[2]),([],[]),([3,4],[3,4]),([5],[5]),([],[]),([6,7],[6,7]),([8],[8]),([1,9,8],[1,9]),([0,1,2,3,4,5,6,7,8,9,10],[]),([11,10,10,0,1,2,3,4,5,6,7,8,9,10],[10,11])])
def ostinatoref05_Num_task.B18:List Nat:=[0,1,0,4,0,28,60,0,252,508,1023,2047,4095]
theorem ostinatoref05_Num_task.tab18:rtab .any (opsOf Tryd.f39 18)=ostinatoref05_Num_task.T18:=by kernel_rfl
theorem ostinatoref05_Num_task.bits18:waitsOk ostinatoref05_Num_task.T18.2 ostinatoref05_Num_task.B18=true:=by kernel_rfl
theorem ostinatoref05_Num_task.calls (k:Nat) (a0_0:Int) (a0_1:Int) (a0_2:Int) (a0_3:Int) (a0_4:Int) (A0_5:Option Addr) (c0_5:Nat) (l0_5:List Int) (a1:Int) (a2:Int) (r1:Int) (r2:Int) (r3:Int) (r4:Int) (r5:Int) (r6:List Int) (r7:List Int) (w:World) (hr0_5:Kd.C (Kd.int .i64) w A0_5 l0_5.length l0_5) (hc0_5:l0_5.length≤c0_5) (h:ostinatoref05_Num_task.f k a0_0 a0_1 a0_2 a0_3 a0_4 l0_5 a1 a2=some (r1,r2,r3,r4,r5,r6,r7)) :
  Calls Tryd.prog 39 #[.agg #[.int .i64 a0_0,.int .i64 a0_1,.int .i64 a0_2,.int .i64 a0_3,.int .i64 a0_4,.slice A0_5 l0_5.length c0_5],.int .i64 a1,.int .i64 a2] w fun e w'=>∃ v5_ v6_:Value,e=.returned (.agg #[.int .i64 r1,.int .i64 r2,.int .i64 r3,.int .i64 r4,.int .i64 r5,v5_,v6_])∧Kd.R (Kd.int .i64) 2 w' w.heap.size (fun _=>True) v5_ r6∧Kd.R (Kd.int .i64) 3 w' w.heap.size (fun _=>True) v6_ r7∧Below w.heap.size w w':=by
 have hu59:=Tryd.underlying59
 have hu52:=Tryd.underlying52
 have hu123:=Tryd.underlying123
 have HR0_5:=qah.mk hr0_5
 have HC0_5:=qah.mk hc0_5
 clear hr0_5 hc0_5
 have HB:=qah.mk (Below.refl w.heap.size w)
 have H:(if 0≤(Go.bits .and .i64 a0_2 7) then (if (Go.bits .and .i64 a0_2 7)<8 then ((ostinatoref05_rest.f a0_1 (rd [4,5,6,8,10,12,20,24] (Go.bits .and .i64 a0_2 7))).bind fun t118=>((ostinatoref05_rest.f a0_0 (wrap64 (1+t118))).bind fun t119=>((ostinatoref05_rest.f a0_3 9).bind fun t120=>(ostinatoref05_Num_task.l0 k a2 (wrap64 (1+t119)) 0 1 a0_0 a0_1 a0_2 a0_3 a0_4 l0_5 (wrap64 (a1+1)) (wrap64 (1+t119)) (wrap64 (1+t118)) (rd [4,5,6,8,10,12,20,24] (Go.bits .and .i64 a0_2 7)) (wrap64 ((wrap64 (10 * (wrap64 (1+t120))))+a1)) ([]:List Int))))) else (none)) else (none))=some (r1,r2,r3,r4,r5,r6,r7):=h
 clear h
 by_cases c4:0≤(Go.bits .and .i64 a0_2 7)
 ·rw [if_pos c4] at H
  have c4b0:decide (0≤(Go.bits .and .i64 a0_2 7))=true:=decide_eq_true c4
  clear c4
  by_cases c5:(Go.bits .and .i64 a0_2 7)<8
  ·rw [if_pos c5] at H
   have c5b0:decide ((Go.bits .and .i64 a0_2 7)<8)=true:=decide_eq_true c5
   clear c5
   replace H:=Option.bind_eq_some_iff.mp H
   obtain⟨t118,A60,H⟩:=H
   replace H:((ostinatoref05_rest.f a0_0 (wrap64 (1+t118))).bind fun t119=>((ostinatoref05_rest.f a0_3 9).bind fun t120=>(ostinatoref05_Num_task.l0 k a2 (wrap64 (1+t119)) 0 1 a0_0 a0_1 a0_2 a0_3 a0_4 l0_5 (wrap64 (a1+1)) (wrap64 (1+t119)) (wrap64 (1+t118)) (rd [4,5,6,8,10,12,20,24] (Go.bits .and .i64 a0_2 7)) (wrap64 ((wrap64 (10 * (wrap64 (1+t120))))+a1)) ([]:List Int))))=some (r1,r2,r3,r4,r5,r6,r7):=H
   have A6:=qah.mk A60
   clear A60
   replace H:=Option.bind_eq_some_iff.mp H
   obtain⟨t119,A70,H⟩:=H
   replace H:((ostinatoref05_rest.f a0_3 9).bind fun t120=>(ostinatoref05_Num_task.l0 k a2 (wrap64 (1+t119)) 0 1 a0_0 a0_1 a0_2 a0_3 a0_4 l0_5 (wrap64 (a1+1)) (wrap64 (1+t119)) (wrap64 (1+t118)) (rd [4,5,6,8,10,12,20,24] (Go.bits .and .i64 a0_2 7)) (wrap64 ((wrap64 (10 * (wrap64 (1+t120))))+a1)) ([]:List Int)))=some (r1,r2,r3,r4,r5,r6,r7):=H
   have A7:=qah.mk A70
   clear A70
   replace H:=Option.bind_eq_some_iff.mp H
   obtain⟨t120,A80,H⟩:=H
   replace H:(ostinatoref05_Num_task.l0 k a2 (wrap64 (1+t119)) 0 1 a0_0 a0_1 a0_2 a0_3 a0_4 l0_5 (wrap64 (a1+1)) (wrap64 (1+t119)) (wrap64 (1+t118)) (rd [4,5,6,8,10,12,20,24] (Go.bits .and .i64 a0_2 7)) (wrap64 ((wrap64 (10 * (wrap64 (1+t120))))+a1)) ([]:List Int))=some (r1,r2,r3,r4,r5,r6,r7):=H
   have A8:=qah.mk A80
   clear A80
   have H':=qah.mk H
   clear H
   go_enter Tryd.func39,Tryd.ntmps39
   go_wp2_with (first|((with_reducible refine qaJ (N:=3) rfl ?_);refine qaG ?hg (N:=3) ?hd (cs:=#[.int .i64 a0_0,.int .i64 a0_1,.int .i64 a0_2,.int .i64 a0_3,.int .i64 a0_4,.slice A0_5 l0_5.length c0_5]) (t:=59) ?hr ?_;(case hd=>rfl);(case hg=>rfl);(case hr=>first|(go_simp;done)|(go_simp;rfl));intro gb114 hg w9 hbox hb;have n0_:=qah.mk (qaw (by repeat (first|(with_reducible first|exact HB.out|apply qaj|apply qad|apply qai)|exact HB.out)) hb);have n1_:=qah.mk (hbox);have n2_:=qah.mk ((by rw [hg];exact (qao (by repeat (first|(with_reducible first|exact HB.out|apply qaj|apply qad|apply qai)|exact HB.out))):w.heap.size≤gb114));have n3_:=qah.mk ((by rw [hg];exact (qao (by repeat (first|(with_reducible first|exact HB.out|apply qaj|apply qad|apply qai)|exact HB.out))):w.heap.size≤gb114));clear HB;have HB:=n0_;have BK114:=n1_;have GW114:=n2_;have GE114:=n3_;clear n0_ n1_ n2_ n3_;clear hb hbox hg)|((with_reducible refine qaJ (N:=6) rfl ?_);refine qaG ?hg (N:=6) ?hd (cs:=#[.int .i64 0,.int .i64 0,.int .i64 0,.int .i64 0,.int .i64 0,.slice none 0 0,.slice none 0 0]) (t:=52) ?hr ?_;(case hd=>rfl);(case hg=>rfl);(case hr=>first|(go_simp;done)|(go_simp;rfl));intro gb115 hg w10 hbox hb;have n0_:=qah.mk (qax (g:=gb114) (o:=.cells #[.int .i64 a0_0,.int .i64 a0_1,.int .i64 a0_2,.int .i64 a0_3,.int .i64 a0_4,.slice A0_5 l0_5.length c0_5] 59 (0,0)) (by (with_reducible repeat (first|refine qae ?_ _|refine qag ?_|refine qac ?_ _));exact BK114.out) hb);have n1_:=qah.mk (qaw (by repeat (first|(with_reducible first|exact HB.out|apply qaj|apply qad|apply qai|refine qaf ?_ GE114.out)|exact HB.out)) hb);have n2_:=qah.mk (hbox);have n3_:=qah.mk ((by rw [hg];exact (qao (by repeat (first|(with_reducible first|exact HB.out|apply qaj|apply qad|apply qai|refine qaf ?_ GE114.out)|exact HB.out))):w.heap.size≤gb115));have n4_:=qah.mk ((by rw [hg];exact (qao (by repeat (first|(with_reducible first|exact HB.out|apply qaj|apply qad|apply qai|refine qaf ?_ GE114.out)|exact HB.out))):w.heap.size≤gb115));have n5_:=qah.mk ((by rw [hg];exact Nat.ne_of_lt (qaH (g:=gb114) (o:=.cells #[.int .i64 a0_0,.int .i64 a0_1,.int .i64 a0_2,.int .i64 a0_3,.int .i64 a0_4,.slice A0_5 l0_5.length c0_5] 59 (0,0)) (by (with_reducible repeat (first|refine qae ?_ _|refine qag ?_|refine qac ?_ _));exact BK114.out)):gb114≠gb115));have n6_:=qah.mk ((by rw [hg];exact Nat.ne_of_gt (qaH (g:=gb114) (o:=.cells #[.int .i64 a0_0,.int .i64 a0_1,.int .i64 a0_2,.int .i64 a0_3,.int .i64 a0_4,.slice A0_5 l0_5.length c0_5] 59 (0,0)) (by (with_reducible repeat (first|refine qae ?_ _|refine qag ?_|refine qac ?_ _));exact BK114.out)):gb115≠gb114));clear BK114;clear HB;have BK114:=n0_;have HB:=n1_;have BK115:=n2_;have GW115:=n3_;have GE115:=n4_;have NB114_115:=n5_;have NB115_114:=n6_;clear n0_ n1_ n2_ n3_ n4_ n5_ n6_;clear hb hbox hg)|((with_reducible refine qaJ (N:=7) rfl ?_);refine qaG ?hg (N:=7) ?hd (cs:=#[.int .i64 0,.int .i64 0,.int .i64 0,.int .i64 0,.int .i64 0,.int .i64 0,.int .i64 0,.int .i64 0]) (t:=123) ?hr ?_;(case hd=>rfl);(case hg=>rfl);(case hr=>first|(go_simp;done)|(go_simp;rfl));intro gb116 hg w11 hbox hb;have n0_:=qah.mk (qax (g:=gb114) (o:=.cells #[.int .i64 a0_0,.int .i64 a0_1,.int .i64 a0_2,.int .i64 a0_3,.int .i64 a0_4,.slice A0_5 l0_5.length c0_5] 59 (0,0)) (by (with_reducible repeat (first|refine qae ?_ _|refine qag ?_|refine qac ?_ _));exact BK114.out) hb);have n1_:=qah.mk (qax (g:=gb115) (o:=.cells #[.int .i64 0,.int .i64 0,.int .i64 0,.int .i64 0,.int .i64 0,.slice none 0 0,.slice none 0 0] 52 (0,0)) (by (with_reducible repeat (first|refine qae ?_ _|refine qag ?_|refine qac ?_ _));exact BK115.out) hb);have n2_:=qah.mk (qaw (by repeat (first|(with_reducible first|exact HB.out|apply qaj|apply qad|apply qai|refine qaf ?_ GE114.out|refine qaf ?_ GE115.out)|exact HB.out)) hb);have n3_:=qah.mk (hbox);have n4_:=qah.mk ((by rw [hg];exact (qao (by repeat (first|(with_reducible first|exact HB.out|apply qaj|apply qad|apply qai|refine qaf ?_ GE114.out|refine qaf ?_ GE115.out)|exact HB.out))):w.heap.size≤gb116));have n5_:=qah.mk ((by rw [hg];exact (qao (by repeat (first|(with_reducible first|exact HB.out|apply qaj|apply qad|apply qai|refine qaf ?_ GE114.out|refine qaf ?_ GE115.out)|exact HB.out))):w.heap.size≤gb116));have n6_:=qah.mk ((by rw [hg];exact Nat.ne_of_lt (qaH (g:=gb114) (o:=.cells #[.int .i64 a0_0,.int .i64 a0_1,.int .i64 a0_2,.int .i64 a0_3,.int .i64 a0_4,.slice A0_5 l0_5.length c0_5] 59 (0,0)) (by (with_reducible repeat (first|refine qae ?_ _|refine qag ?_|refine qac ?_ _));exact BK114.out)):gb114≠gb116));have n7_:=qah.mk ((by rw [hg];exact Nat.ne_of_gt (qaH (g:=gb114) (o:=.cells #[.int .i64 a0_0,.int .i64 a0_1,.int .i64 a0_2,.int .i64 a0_3,.int .i64 a0_4,.slice A0_5 l0_5.length c0_5] 59 (0,0)) (by (with_reducible repeat (first|refine qae ?_ _|refine qag ?_|refine qac ?_ _));exact BK114.out)):gb116≠gb114));have n8_:=qah.mk ((by rw [hg];exact Nat.ne_of_lt (qaH (g:=gb115) (o:=.cells #[.int .i64 0,.int .i64 0,.int .i64 0,.int .i64 0,.int .i64 0,.slice none 0 0,.slice none 0 0] 52 (0,0)) (by (with_reducible repeat (first|refine qae ?_ _|refine qag ?_|refine qac ?_ _));exact BK115.out)):gb115≠gb116));have n9_:=qah.mk ((by rw [hg];exact Nat.ne_of_gt (qaH (g:=gb115) (o:=.cells #[.int .i64 0,.int .i64 0,.int .i64 0,.int .i64 0,.int .i64 0,.slice none 0 0,.slice none 0 0] 52 (0,0)) (by (with_reducible repeat (first|refine qae ?_ _|refine qag ?_|refine qac ?_ _));exact BK115.out)):gb116≠gb115));clear BK114;clear BK115;clear HB;have BK114:=n0_;have BK115:=n1_;have HB:=n2_;have BK116:=n3_;have GW116:=n4_;have GE116:=n5_;have NB114_116:=n6_;have NB116_114:=n7_;have NB115_116:=n8_;have NB116_115:=n9_;clear n0_ n1_ n2_ n3_ n4_ n5_ n6_ n7_ n8_ n9_;clear hb hbox hg;have hnb12:=NB116_114.out;have hnc12:=NB114_116.out;have hnb13:=NB116_115.out;have hnc13:=NB115_116.out;have hcz14_0:w11.cell? ⟨gb116,0,none⟩=some (.int .i64 0):=(qab BK116.out 0).trans rfl;have hcz14_1:w11.cell? ⟨gb116,1,none⟩=some (.int .i64 0):=(qab BK116.out 1).trans rfl;have hcz14_2:w11.cell? ⟨gb116,2,none⟩=some (.int .i64 0):=(qab BK116.out 2).trans rfl;have hcz14_3:w11.cell? ⟨gb116,3,none⟩=some (.int .i64 0):=(qab BK116.out 3).trans rfl;have hcz14_4:w11.cell? ⟨gb116,4,none⟩=some (.int .i64 0):=(qab BK116.out 4).trans rfl;have hcz14_5:w11.cell? ⟨gb116,5,none⟩=some (.int .i64 0):=(qab BK116.out 5).trans rfl;have hcz14_6:w11.cell? ⟨gb116,6,none⟩=some (.int .i64 0):=(qab BK116.out 6).trans rfl;have hcz14_7:w11.cell? ⟨gb116,7,none⟩=some (.int .i64 0):=(qab BK116.out 7).trans rfl;have hfz14_0:=qaa BK116.out 0;have hfz14_1:=qaa BK116.out 1;have hfz14_2:=qaa BK116.out 2;have hfz14_3:=qaa BK116.out 3;have hfz14_4:=qaa BK116.out 4;have hfz14_5:=qaa BK116.out 5;have hfz14_6:=qaa BK116.out 6;have hfz14_7:=qaa BK116.out 7)|((with_reducible refine gate_store (t:=123) (p:=7) rfl ?_);refine store_event (t:=123) (p:=7) (v:=?vo_w15) (w1:=((((((((w11.setCell ⟨gb116,0,none⟩ (.int .i64 4)).setCell ⟨gb116,1,none⟩ (.int .i64 5)).setCell ⟨gb116,2,none⟩ (.int .i64 6)).setCell ⟨gb116,3,none⟩ (.int .i64 8)).setCell ⟨gb116,4,none⟩ (.int .i64 10)).setCell ⟨gb116,5,none⟩ (.int .i64 12)).setCell ⟨gb116,6,none⟩ (.int .i64 20)).setCell ⟨gb116,7,none⟩ (.int .i64 24))) ?hg ?ho ?hn ?hr ?_;(case ho=>rfl);(case hg=>rfl);(case hn=>rfl);(case hr=>first|(go_simp;done)|(go_simp;rfl));intro w15 hw;have n0_:qah (w15.heap[gb114]? = some (.cells #[.int .i64 a0_0,.int .i64 a0_1,.int .i64 a0_2,.int .i64 a0_3,.int .i64 a0_4,.slice A0_5 l0_5.length c0_5] 59 (0,0))):=⟨(by rw [hw];exact (by (with_reducible repeat (first|refine qae ?_ _|refine qag ?_|refine qac ?_ _));refine qay ?_ NB114_116.out _;(with_reducible repeat (first|refine qae ?_ _|refine qag ?_|refine qac ?_ _));refine qay ?_ NB114_116.out _;(with_reducible repeat (first|refine qae ?_ _|refine qag ?_|refine qac ?_ _));refine qay ?_ NB114_116.out _;(with_reducible repeat (first|refine qae ?_ _|refine qag ?_|refine qac ?_ _));refine qay ?_ NB114_116.out _;(with_reducible repeat (first|refine qae ?_ _|refine qag ?_|refine qac ?_ _));refine qay ?_ NB114_116.out _;(with_reducible repeat (first|refine qae ?_ _|refine qag ?_|refine qac ?_ _));refine qay ?_ NB114_116.out _;(with_reducible repeat (first|refine qae ?_ _|refine qag ?_|refine qac ?_ _));refine qay ?_ NB114_116.out _;(with_reducible repeat (first|refine qae ?_ _|refine qag ?_|refine qac ?_ _));refine qay ?_ NB114_116.out _;(with_reducible repeat (first|refine qae ?_ _|refine qag ?_|refine qac ?_ _));exact BK114.out))⟩;have n1_:qah (w15.heap[gb115]? = some (.cells #[.int .i64 0,.int .i64 0,.int .i64 0,.int .i64 0,.int .i64 0,.slice none 0 0,.slice none 0 0] 52 (0,0))):=⟨(by rw [hw];exact (by (with_reducible repeat (first|refine qae ?_ _|refine qag ?_|refine qac ?_ _));refine qay ?_ NB115_116.out _;(with_reducible repeat (first|refine qae ?_ _|refine qag ?_|refine qac ?_ _));refine qay ?_ NB115_116.out _;(with_reducible repeat (first|refine qae ?_ _|refine qag ?_|refine qac ?_ _));refine qay ?_ NB115_116.out _;(with_reducible repeat (first|refine qae ?_ _|refine qag ?_|refine qac ?_ _));refine qay ?_ NB115_116.out _;(with_reducible repeat (first|refine qae ?_ _|refine qag ?_|refine qac ?_ _));refine qay ?_ NB115_116.out _;(with_reducible repeat (first|refine qae ?_ _|refine qag ?_|refine qac ?_ _));refine qay ?_ NB115_116.out _;(with_reducible repeat (first|refine qae ?_ _|refine qag ?_|refine qac ?_ _));refine qay ?_ NB115_116.out _;(with_reducible repeat (first|refine qae ?_ _|refine qag ?_|refine qac ?_ _));refine qay ?_ NB115_116.out _;(with_reducible repeat (first|refine qae ?_ _|refine qag ?_|refine qac ?_ _));exact BK115.out))⟩;have n2_:qah (w15.heap[gb116]? = some (.cells #[.int .i64 4,.int .i64 5,.int .i64 6,.int .i64 8,.int .i64 10,.int .i64 12,.int .i64 20,.int .i64 24] 123 (0,0))):=⟨(by rw [hw];exact (by (with_reducible repeat (first|refine qae ?_ _|refine qag ?_|refine qac ?_ _));refine qaz (cs:=#[.int .i64 4,.int .i64 5,.int .i64 6,.int .i64 8,.int .i64 10,.int .i64 12,.int .i64 20,.int .i64 0]) ?_ 7 _ rfl;(with_reducible repeat (first|refine qae ?_ _|refine qag ?_|refine qac ?_ _));refine qaz (cs:=#[.int .i64 4,.int .i64 5,.int .i64 6,.int .i64 8,.int .i64 10,.int .i64 12,.int .i64 0,.int .i64 0]) ?_ 6 _ rfl;(with_reducible repeat (first|refine qae ?_ _|refine qag ?_|refine qac ?_ _));refine qaz (cs:=#[.int .i64 4,.int .i64 5,.int .i64 6,.int .i64 8,.int .i64 10,.int .i64 0,.int .i64 0,.int .i64 0]) ?_ 5 _ rfl;(with_reducible repeat (first|refine qae ?_ _|refine qag ?_|refine qac ?_ _));refine qaz (cs:=#[.int .i64 4,.int .i64 5,.int .i64 6,.int .i64 8,.int .i64 0,.int .i64 0,.int .i64 0,.int .i64 0]) ?_ 4 _ rfl;(with_reducible repeat (first|refine qae ?_ _|refine qag ?_|refine qac ?_ _));refine qaz (cs:=#[.int .i64 4,.int .i64 5,.int .i64 6,.int .i64 0,.int .i64 0,.int .i64 0,.int .i64 0,.int .i64 0]) ?_ 3 _ rfl;(with_reducible repeat (first|refine qae ?_ _|refine qag ?_|refine qac ?_ _));refine qaz (cs:=#[.int .i64 4,.int .i64 5,.int .i64 0,.int .i64 0,.int .i64 0,.int .i64 0,.int .i64 0,.int .i64 0]) ?_ 2 _ rfl;(with_reducible repeat (first|refine qae ?_ _|refine qag ?_|refine qac ?_ _));refine qaz (cs:=#[.int .i64 4,.int .i64 0,.int .i64 0,.int .i64 0,.int .i64 0,.int .i64 0,.int .i64 0,.int .i64 0]) ?_ 1 _ rfl;(with_reducible repeat (first|refine qae ?_ _|refine qag ?_|refine qac ?_ _));refine qaz (cs:=#[.int .i64 0,.int .i64 0,.int .i64 0,.int .i64 0,.int .i64 0,.int .i64 0,.int .i64 0,.int .i64 0]) ?_ 0 _ rfl;(with_reducible repeat (first|refine qae ?_ _|refine qag ?_|refine qac ?_ _));exact BK116.out))⟩;have n3_:qah (Below w.heap.size w w15):=⟨(by rw [hw];exact (by repeat (first|(with_reducible first|exact HB.out|apply qaj|apply qad|apply qai|refine qaf ?_ GE114.out|refine qaf ?_ GE115.out|refine qaf ?_ GE116.out)|exact HB.out)))⟩;clear hw;clear BK114;clear BK115;clear BK116;clear HB;have BK114:=n0_;have BK115:=n1_;have BK116:=n2_;have HB:=n3_;clear n0_ n1_ n2_ n3_;have hnb16:=NB114_115.out;have hnc16:=NB115_114.out;have hcz17_0:w15.cell? ⟨gb114,0,none⟩=some (.int .i64 a0_0):=(qab BK114.out 0).trans rfl;have hcz17_1:w15.cell? ⟨gb114,1,none⟩=some (.int .i64 a0_1):=(qab BK114.out 1).trans rfl;have hcz17_2:w15.cell? ⟨gb114,2,none⟩=some (.int .i64 a0_2):=(qab BK114.out 2).trans rfl;have hcz17_3:w15.cell? ⟨gb114,3,none⟩=some (.int .i64 a0_3):=(qab BK114.out 3).trans rfl;have hcz17_4:w15.cell? ⟨gb114,4,none⟩=some (.int .i64 a0_4):=(qab BK114.out 4).trans rfl;have hcz17_5:w15.cell? ⟨gb114,5,none⟩=some (.slice A0_5 l0_5.length c0_5):=(qab BK114.out 5).trans rfl;have hfz17_0:=qaa BK114.out 0;have hfz17_1:=qaa BK114.out 1;have hfz17_2:=qaa BK114.out 2;have hfz17_3:=qaa BK114.out 3;have hfz17_4:=qaa BK114.out 4;have hfz17_5:=qaa BK114.out 5;have hcz18_0:w15.cell? ⟨gb116,0,none⟩=some (.int .i64 4):=(qab BK116.out 0).trans rfl;have hcz18_1:w15.cell? ⟨gb116,1,none⟩=some (.int .i64 5):=(qab BK116.out 1).trans rfl;have hcz18_2:w15.cell? ⟨gb116,2,none⟩=some (.int .i64 6):=(qab BK116.out 2).trans rfl;have hcz18_3:w15.cell? ⟨gb116,3,none⟩=some (.int .i64 8):=(qab BK116.out 3).trans rfl;have hcz18_4:w15.cell? ⟨gb116,4,none⟩=some (.int .i64 10):=(qab BK116.out 4).trans rfl;have hcz18_5:w15.cell? ⟨gb116,5,none⟩=some (.int .i64 12):=(qab BK116.out 5).trans rfl;have hcz18_6:w15.cell? ⟨gb116,6,none⟩=some (.int .i64 20):=(qab BK116.out 6).trans rfl;have hcz18_7:w15.cell? ⟨gb116,7,none⟩=some (.int .i64 24):=(qab BK116.out 7).trans rfl;have hfz18_0:=qaa BK116.out 0;have hfz18_1:=qaa BK116.out 1;have hfz18_2:=qaa BK116.out 2;have hfz18_3:=qaa BK116.out 3;have hfz18_4:=qaa BK116.out 4;have hfz18_5:=qaa BK116.out 5;have hfz18_6:=qaa BK116.out 6;have hfz18_7:=qaa BK116.out 7;have p117:0≤(Go.bits .and .i64 a0_2 7:Int):=of_decide_eq_true (by first|(with_reducible assumption)|assumption);have q117:(Go.bits .and .i64 a0_2 7)<(8:Int):=of_decide_eq_true (by first|(with_reducible assumption)|assumption);have hx117:w15.cell? ⟨gb116,(Go.bits .and .i64 a0_2 7).toNat,none⟩=some (.int .i64 (rd [4,5,6,8,10,12,20,24] (Go.bits .and .i64 a0_2 7))):=arrRead (xs:=[4,5,6,8,10,12,20,24]) BK116.out (Go.bits .and .i64 a0_2 7) p117 q117;replace p117:=eq_true p117;replace q117:=eq_true q117)|((with_reducible refine qa8 (f:=38) rfl ?_);refine goesL_ (some 24) rfl rfl Tryd.func38 (by kernel_rfl) rfl #[.int .i64 a0_1,.int .i64 (rd [4,5,6,8,10,12,20,24] (Go.bits .and .i64 a0_2 7))] rfl (by (try simp only [List.map_toArray,List.map_cons,List.map_nil]);first|done|rfl|(simp only [List.length_drop,List.length_take];rfl)) ?_;(with_reducible refine (ostinatoref05_rest.calls a0_1 (rd [4,5,6,8,10,12,20,24] (Go.bits .and .i64 a0_2 7)) t118 _ A6.out).mono ?_);rintro e w' ⟨rfl,⟨nd,rfl⟩⟩;refine⟨_,rfl,?_⟩;(try (rw [drewN_self w15];generalize hq_:World.drewN w15 _=w15;have n0_:qah (w15.heap[gb114]? = some (.cells #[.int .i64 a0_0,.int .i64 a0_1,.int .i64 a0_2,.int .i64 a0_3,.int .i64 a0_4,.slice A0_5 l0_5.length c0_5] 59 (0,0))):=⟨by rw [← hq_];exact (by (with_reducible repeat (first|refine qae ?_ _|refine qag ?_|refine qac ?_ _));exact BK114.out)⟩;have n1_:qah (w15.heap[gb115]? = some (.cells #[.int .i64 0,.int .i64 0,.int .i64 0,.int .i64 0,.int .i64 0,.slice none 0 0,.slice none 0 0] 52 (0,0))):=⟨by rw [← hq_];exact (by (with_reducible repeat (first|refine qae ?_ _|refine qag ?_|refine qac ?_ _));exact BK115.out)⟩;have n2_:qah (w15.heap[gb116]? = some (.cells #[.int .i64 4,.int .i64 5,.int .i64 6,.int .i64 8,.int .i64 10,.int .i64 12,.int .i64 20,.int .i64 24] 123 (0,0))):=⟨by rw [← hq_];exact (by (with_reducible repeat (first|refine qae ?_ _|refine qag ?_|refine qac ?_ _));exact BK116.out)⟩;have n3_:qah (Below w.heap.size w w15):=⟨by rw [← hq_];exact (by repeat (first|(with_reducible first|exact HB.out|apply qaj|apply qad|apply qai|refine qaf ?_ GE114.out|refine qaf ?_ GE115.out|refine qaf ?_ GE116.out)|exact HB.out))⟩;clear BK114 BK115 BK116 HB hq_;have BK114:=n0_;have BK115:=n1_;have BK116:=n2_;have HB:=n3_;clear n0_ n1_ n2_ n3_));have hcz19_0:w15.cell? ⟨gb114,0,none⟩=some (.int .i64 a0_0):=(qab BK114.out 0).trans rfl;have hcz19_1:w15.cell? ⟨gb114,1,none⟩=some (.int .i64 a0_1):=(qab BK114.out 1).trans rfl;have hcz19_2:w15.cell? ⟨gb114,2,none⟩=some (.int .i64 a0_2):=(qab BK114.out 2).trans rfl;have hcz19_3:w15.cell? ⟨gb114,3,none⟩=some (.int .i64 a0_3):=(qab BK114.out 3).trans rfl;have hcz19_4:w15.cell? ⟨gb114,4,none⟩=some (.int .i64 a0_4):=(qab BK114.out 4).trans rfl;have hcz19_5:w15.cell? ⟨gb114,5,none⟩=some (.slice A0_5 l0_5.length c0_5):=(qab BK114.out 5).trans rfl;have hfz19_0:=qaa BK114.out 0;have hfz19_1:=qaa BK114.out 1;have hfz19_2:=qaa BK114.out 2;have hfz19_3:=qaa BK114.out 3;have hfz19_4:=qaa BK114.out 4;have hfz19_5:=qaa BK114.out 5)|((with_reducible refine qa8 (f:=38) rfl ?_);refine goesL_ (some 29) rfl rfl Tryd.func38 (by kernel_rfl) rfl #[.int .i64 a0_0,.int .i64 (wrap64 (1+t118))] rfl (by (try simp only [List.map_toArray,List.map_cons,List.map_nil]);first|done|rfl|(simp only [List.length_drop,List.length_take];rfl)) ?_;(with_reducible refine (ostinatoref05_rest.calls a0_0 (wrap64 (1+t118)) t119 _ A7.out).mono ?_);rintro e w' ⟨rfl,⟨nd,rfl⟩⟩;refine⟨_,rfl,?_⟩;(try (rw [drewN_self w15];generalize hq_:World.drewN w15 _=w15;have n0_:qah (w15.heap[gb114]? = some (.cells #[.int .i64 a0_0,.int .i64 a0_1,.int .i64 a0_2,.int .i64 a0_3,.int .i64 a0_4,.slice A0_5 l0_5.length c0_5] 59 (0,0))):=⟨by rw [← hq_];exact (by (with_reducible repeat (first|refine qae ?_ _|refine qag ?_|refine qac ?_ _));exact BK114.out)⟩;have n1_:qah (w15.heap[gb115]? = some (.cells #[.int .i64 0,.int .i64 0,.int .i64 0,.int .i64 0,.int .i64 0,.slice none 0 0,.slice none 0 0] 52 (0,0))):=⟨by rw [← hq_];exact (by (with_reducible repeat (first|refine qae ?_ _|refine qag ?_|refine qac ?_ _));exact BK115.out)⟩;have n2_:qah (w15.heap[gb116]? = some (.cells #[.int .i64 4,.int .i64 5,.int .i64 6,.int .i64 8,.int .i64 10,.int .i64 12,.int .i64 20,.int .i64 24] 123 (0,0))):=⟨by rw [← hq_];exact (by (with_reducible repeat (first|refine qae ?_ _|refine qag ?_|refine qac ?_ _));exact BK116.out)⟩;have n3_:qah (Below w.heap.size w w15):=⟨by rw [← hq_];exact (by repeat (first|(with_reducible first|exact HB.out|apply qaj|apply qad|apply qai|refine qaf ?_ GE114.out|refine qaf ?_ GE115.out|refine qaf ?_ GE116.out)|exact HB.out))⟩;clear BK114 BK115 BK116 HB hq_;have BK114:=n0_;have BK115:=n1_;have BK116:=n2_;have HB:=n3_;clear n0_ n1_ n2_ n3_));have hcz20_0:w15.cell? ⟨gb114,0,none⟩=some (.int .i64 a0_0):=(qab BK114.out 0).trans rfl;have hcz20_1:w15.cell? ⟨gb114,1,none⟩=some (.int .i64 a0_1):=(qab BK114.out 1).trans rfl;have hcz20_2:w15.cell? ⟨gb114,2,none⟩=some (.int .i64 a0_2):=(qab BK114.out 2).trans rfl;have hcz20_3:w15.cell? ⟨gb114,3,none⟩=some (.int .i64 a0_3):=(qab BK114.out 3).trans rfl;have hcz20_4:w15.cell? ⟨gb114,4,none⟩=some (.int .i64 a0_4):=(qab BK114.out 4).trans rfl;have hcz20_5:w15.cell? ⟨gb114,5,none⟩=some (.slice A0_5 l0_5.length c0_5):=(qab BK114.out 5).trans rfl;have hfz20_0:=qaa BK114.out 0;have hfz20_1:=qaa BK114.out 1;have hfz20_2:=qaa BK114.out 2;have hfz20_3:=qaa BK114.out 3;have hfz20_4:=qaa BK114.out 4;have hfz20_5:=qaa BK114.out 5)|((with_reducible refine qa8 (f:=38) rfl ?_);refine goesL_ (some 38) rfl rfl Tryd.func38 (by kernel_rfl) rfl #[.int .i64 a0_3,.int .i64 9] rfl (by (try simp only [List.map_toArray,List.map_cons,List.map_nil]);first|done|rfl|(simp only [List.length_drop,List.length_take];rfl)) ?_;(with_reducible refine (ostinatoref05_rest.calls a0_3 9 t120 _ A8.out).mono ?_);rintro e w' ⟨rfl,⟨nd,rfl⟩⟩;refine⟨_,rfl,?_⟩;(try (rw [drewN_self w15];generalize hq_:World.drewN w15 _=w15;have n0_:qah (w15.heap[gb114]? = some (.cells #[.int .i64 a0_0,.int .i64 a0_1,.int .i64 a0_2,.int .i64 a0_3,.int .i64 a0_4,.slice A0_5 l0_5.length c0_5] 59 (0,0))):=⟨by rw [← hq_];exact (by (with_reducible repeat (first|refine qae ?_ _|refine qag ?_|refine qac ?_ _));exact BK114.out)⟩;have n1_:qah (w15.heap[gb115]? = some (.cells #[.int .i64 0,.int .i64 0,.int .i64 0,.int .i64 0,.int .i64 0,.slice none 0 0,.slice none 0 0] 52 (0,0))):=⟨by rw [← hq_];exact (by (with_reducible repeat (first|refine qae ?_ _|refine qag ?_|refine qac ?_ _));exact BK115.out)⟩;have n2_:qah (w15.heap[gb116]? = some (.cells #[.int .i64 4,.int .i64 5,.int .i64 6,.int .i64 8,.int .i64 10,.int .i64 12,.int .i64 20,.int .i64 24] 123 (0,0))):=⟨by rw [← hq_];exact (by (with_reducible repeat (first|refine qae ?_ _|refine qag ?_|refine qac ?_ _));exact BK116.out)⟩;have n3_:qah (Below w.heap.size w w15):=⟨by rw [← hq_];exact (by repeat (first|(with_reducible first|exact HB.out|apply qaj|apply qad|apply qai|refine qaf ?_ GE114.out|refine qaf ?_ GE115.out|refine qaf ?_ GE116.out)|exact HB.out))⟩;clear BK114 BK115 BK116 HB hq_;have BK114:=n0_;have BK115:=n1_;have BK116:=n2_;have HB:=n3_;clear n0_ n1_ n2_ n3_)))|((with_reducible refine qaJ (N:=11) rfl ?_);refine qaG ?hg (N:=11) ?hd (cs:=#[.int .i64 0,.int .i64 0,.int .i64 0,.int .i64 0,.int .i64 0,.slice none 0 0,.slice none 0 0]) (t:=52) ?hr ?_;(case hd=>rfl);(case hg=>rfl);(case hr=>first|(go_simp;done)|(go_simp;rfl));intro gb121 hg w21 hbox hb;have n0_:=qah.mk (qax (g:=gb114) (o:=.cells #[.int .i64 a0_0,.int .i64 a0_1,.int .i64 a0_2,.int .i64 a0_3,.int .i64 a0_4,.slice A0_5 l0_5.length c0_5] 59 (0,0)) (by (with_reducible repeat (first|refine qae ?_ _|refine qag ?_|refine qac ?_ _));exact BK114.out) hb);have n1_:=qah.mk (qax (g:=gb115) (o:=.cells #[.int .i64 0,.int .i64 0,.int .i64 0,.int .i64 0,.int .i64 0,.slice none 0 0,.slice none 0 0] 52 (0,0)) (by (with_reducible repeat (first|refine qae ?_ _|refine qag ?_|refine qac ?_ _));exact BK115.out) hb);have n2_:=qah.mk (qax (g:=gb116) (o:=.cells #[.int .i64 4,.int .i64 5,.int .i64 6,.int .i64 8,.int .i64 10,.int .i64 12,.int .i64 20,.int .i64 24] 123 (0,0)) (by (with_reducible repeat (first|refine qae ?_ _|refine qag ?_|refine qac ?_ _));exact BK116.out) hb);have n3_:=qah.mk (qaw (by repeat (first|(with_reducible first|exact HB.out|apply qaj|apply qad|apply qai|refine qaf ?_ GE114.out|refine qaf ?_ GE115.out|refine qaf ?_ GE116.out)|exact HB.out)) hb);have n4_:=qah.mk (hbox);have n5_:=qah.mk ((by rw [hg];exact (qao (by repeat (first|(with_reducible first|exact HB.out|apply qaj|apply qad|apply qai|refine qaf ?_ GE114.out|refine qaf ?_ GE115.out|refine qaf ?_ GE116.out)|exact HB.out))):w.heap.size≤gb121));have n6_:=qah.mk ((by rw [hg];exact (qao (by repeat (first|(with_reducible first|exact HB.out|apply qaj|apply qad|apply qai|refine qaf ?_ GE114.out|refine qaf ?_ GE115.out|refine qaf ?_ GE116.out)|exact HB.out))):w.heap.size≤gb121));have n7_:=qah.mk ((by rw [hg];exact Nat.ne_of_lt (qaH (g:=gb114) (o:=.cells #[.int .i64 a0_0,.int .i64 a0_1,.int .i64 a0_2,.int .i64 a0_3,.int .i64 a0_4,.slice A0_5 l0_5.length c0_5] 59 (0,0)) (by (with_reducible repeat (first|refine qae ?_ _|refine qag ?_|refine qac ?_ _));exact BK114.out)):gb114≠gb121));have n8_:=qah.mk ((by rw [hg];exact Nat.ne_of_gt (qaH (g:=gb114) (o:=.cells #[.int .i64 a0_0,.int .i64 a0_1,.int .i64 a0_2,.int .i64 a0_3,.int .i64 a0_4,.slice A0_5 l0_5.length c0_5] 59 (0,0)) (by (with_reducible repeat (first|refine qae ?_ _|refine qag ?_|refine qac ?_ _));exact BK114.out)):gb121≠gb114));have n9_:=qah.mk ((by rw [hg];exact Nat.ne_of_lt (qaH (g:=gb115) (o:=.cells #[.int .i64 0,.int .i64 0,.int .i64 0,.int .i64 0,.int .i64 0,.slice none 0 0,.slice none 0 0] 52 (0,0)) (by (with_reducible repeat (first|refine qae ?_ _|refine qag ?_|refine qac ?_ _));exact BK115.out)):gb115≠gb121));have n10_:=qah.mk ((by rw [hg];exact Nat.ne_of_gt (qaH (g:=gb115) (o:=.cells #[.int .i64 0,.int .i64 0,.int .i64 0,.int .i64 0,.int .i64 0,.slice none 0 0,.slice none 0 0] 52 (0,0)) (by (with_reducible repeat (first|refine qae ?_ _|refine qag ?_|refine qac ?_ _));exact BK115.out)):gb121≠gb115));have n11_:=qah.mk ((by rw [hg];exact Nat.ne_of_lt (qaH (g:=gb116) (o:=.cells #[.int .i64 4,.int .i64 5,.int .i64 6,.int .i64 8,.int .i64 10,.int .i64 12,.int .i64 20,.int .i64 24] 123 (0,0)) (by (with_reducible repeat (first|refine qae ?_ _|refine qag ?_|refine qac ?_ _));exact BK116.out)):gb116≠gb121));have n12_:=qah.mk ((by rw [hg];exact Nat.ne_of_gt (qaH (g:=gb116) (o:=.cells #[.int .i64 4,.int .i64 5,.int .i64 6,.int .i64 8,.int .i64 10,.int .i64 12,.int .i64 20,.int .i64 24] 123 (0,0)) (by (with_reducible repeat (first|refine qae ?_ _|refine qag ?_|refine qac ?_ _));exact BK116.out)):gb121≠gb116));clear BK114;clear BK115;clear BK116;clear HB;have BK114:=n0_;have BK115:=n1_;have BK116:=n2_;have HB:=n3_;have BK121:=n4_;have GW121:=n5_;have GE121:=n6_;have NB114_121:=n7_;have NB121_114:=n8_;have NB115_121:=n9_;have NB121_115:=n10_;have NB116_121:=n11_;have NB121_116:=n12_;clear n0_ n1_ n2_ n3_ n4_ n5_ n6_ n7_ n8_ n9_ n10_ n11_ n12_;clear hb hbox hg;have hnb22:=NB121_114.out;have hnc22:=NB114_121.out;have hnb23:=NB121_115.out;have hnc23:=NB115_121.out;have hnb24:=NB121_116.out;have hnc24:=NB116_121.out;have hcz25_0:w21.cell? ⟨gb121,0,none⟩=some (.int .i64 0):=(qab BK121.out 0).trans rfl;have hcz25_1:w21.cell? ⟨gb121,1,none⟩=some (.int .i64 0):=(qab BK121.out 1).trans rfl;have hcz25_2:w21.cell? ⟨gb121,2,none⟩=some (.int .i64 0):=(qab BK121.out 2).trans rfl;have hcz25_3:w21.cell? ⟨gb121,3,none⟩=some (.int .i64 0):=(qab BK121.out 3).trans rfl;have hcz25_4:w21.cell? ⟨gb121,4,none⟩=some (.int .i64 0):=(qab BK121.out 4).trans rfl;have hcz25_5:w21.cell? ⟨gb121,5,none⟩=some (.slice none 0 0):=(qab BK121.out 5).trans rfl;have hcz25_6:w21.cell? ⟨gb121,6,none⟩=some (.slice none 0 0):=(qab BK121.out 6).trans rfl;have hfz25_0:=qaa BK121.out 0;have hfz25_1:=qaa BK121.out 1;have hfz25_2:=qaa BK121.out 2;have hfz25_3:=qaa BK121.out 3;have hfz25_4:=qaa BK121.out 4;have hfz25_5:=qaa BK121.out 5;have hfz25_6:=qaa BK121.out 6))
   go_loopg [12,13] k (fun kq v12 v13 w'=>∃ (x12_1:Int) (x13_1:Int) (x122005_1:List Int) (u122005:Value),v12=.int .i64 x12_1∧v13=.int .i64 x13_1∧qah (ostinatoref05_Num_task.l0 kq a2 (wrap64 (1+t119)) x12_1 x13_1 a0_0 a0_1 a0_2 a0_3 a0_4 l0_5 (wrap64 (a1+1)) (wrap64 (1+t119)) (wrap64 (1+t118)) (rd [4,5,6,8,10,12,20,24] (Go.bits .and .i64 a0_2 7)) (wrap64 ((wrap64 (10 * (wrap64 (1+t120))))+a1)) x122005_1=some (r1,r2,r3,r4,r5,r6,r7))∧qah (kq≤k)∧qah (Kd.R (Kd.int .i64) 2 w' w.heap.size (fun _=>True) u122005 x122005_1)∧qah (w'.heap[gb114]? = some (.cells #[.int .i64 a0_0,.int .i64 a0_1,.int .i64 a0_2,.int .i64 a0_3,.int .i64 a0_4,(.slice A0_5 l0_5.length c0_5)] 59 (0,0)))∧qah (w'.heap[gb115]? = some (.cells #[.int .i64 0,.int .i64 0,.int .i64 0,.int .i64 0,.int .i64 0,(.slice none 0 0),(.slice none 0 0)] 52 (0,0)))∧qah (w'.heap[gb116]? = some (.cells #[.int .i64 4,.int .i64 5,.int .i64 6,.int .i64 8,.int .i64 10,.int .i64 12,.int .i64 20,.int .i64 24] 123 (0,0)))∧qah (w'.heap[gb121]? = some (.cells #[.int .i64 (wrap64 (a1+1)),.int .i64 (wrap64 (1+t119)),.int .i64 (wrap64 (1+t118)),.int .i64 (rd [4,5,6,8,10,12,20,24] (Go.bits .and .i64 a0_2 7)),.int .i64 (wrap64 ((wrap64 (10 * (wrap64 (1+t120))))+a1)),u122005,(.slice none 0 0)] 52 (0,0)))∧qah (Below w.heap.size w w'))
   case atStart=>exact⟨(0),(1),(([]:List Int)),(.slice none 0 0),(by first|rfl|(simp;done)|(simp [*];done)),(by first|rfl|(simp;done)|(simp [*];done)),H',⟨Nat.le_refl _⟩,⟨by first|exact Kd.R_nil _ _ _ _ _|exact Kd.N_nil _ _ _ _ _|exact Kd.V_nil _ _ _ _ _|exact Kd.Q_nil _ _ _ _ _|exact Kd.S_nil _ _ _ _ _⟩,⟨by (with_reducible repeat (first|refine qae ?_ _|refine qag ?_|refine qac ?_ _));refine qay ?_ NB114_121.out _;(with_reducible repeat (first|refine qae ?_ _|refine qag ?_|refine qac ?_ _));refine qay ?_ NB114_121.out _;(with_reducible repeat (first|refine qae ?_ _|refine qag ?_|refine qac ?_ _));refine qay ?_ NB114_121.out _;(with_reducible repeat (first|refine qae ?_ _|refine qag ?_|refine qac ?_ _));refine qay ?_ NB114_121.out _;(with_reducible repeat (first|refine qae ?_ _|refine qag ?_|refine qac ?_ _));refine qay ?_ NB114_121.out _;(with_reducible repeat (first|refine qae ?_ _|refine qag ?_|refine qac ?_ _));refine qay ?_ NB114_121.out _;(with_reducible repeat (first|refine qae ?_ _|refine qag ?_|refine qac ?_ _));refine qay ?_ NB114_121.out _;(with_reducible repeat (first|refine qae ?_ _|refine qag ?_|refine qac ?_ _));exact BK114.out⟩,⟨by (with_reducible repeat (first|refine qae ?_ _|refine qag ?_|refine qac ?_ _));refine qay ?_ NB115_121.out _;(with_reducible repeat (first|refine qae ?_ _|refine qag ?_|refine qac ?_ _));refine qay ?_ NB115_121.out _;(with_reducible repeat (first|refine qae ?_ _|refine qag ?_|refine qac ?_ _));refine qay ?_ NB115_121.out _;(with_reducible repeat (first|refine qae ?_ _|refine qag ?_|refine qac ?_ _));refine qay ?_ NB115_121.out _;(with_reducible repeat (first|refine qae ?_ _|refine qag ?_|refine qac ?_ _));refine qay ?_ NB115_121.out _;(with_reducible repeat (first|refine qae ?_ _|refine qag ?_|refine qac ?_ _));refine qay ?_ NB115_121.out _;(with_reducible repeat (first|refine qae ?_ _|refine qag ?_|refine qac ?_ _));refine qay ?_ NB115_121.out _;(with_reducible repeat (first|refine qae ?_ _|refine qag ?_|refine qac ?_ _));exact BK115.out⟩,⟨by (with_reducible repeat (first|refine qae ?_ _|refine qag ?_|refine qac ?_ _));refine qay ?_ NB116_121.out _;(with_reducible repeat (first|refine qae ?_ _|refine qag ?_|refine qac ?_ _));refine qay ?_ NB116_121.out _;(with_reducible repeat (first|refine qae ?_ _|refine qag ?_|refine qac ?_ _));refine qay ?_ NB116_121.out _;(with_reducible repeat (first|refine qae ?_ _|refine qag ?_|refine qac ?_ _));refine qay ?_ NB116_121.out _;(with_reducible repeat (first|refine qae ?_ _|refine qag ?_|refine qac ?_ _));refine qay ?_ NB116_121.out _;(with_reducible repeat (first|refine qae ?_ _|refine qag ?_|refine qac ?_ _));refine qay ?_ NB116_121.out _;(with_reducible repeat (first|refine qae ?_ _|refine qag ?_|refine qac ?_ _));refine qay ?_ NB116_121.out _;(with_reducible repeat (first|refine qae ?_ _|refine qag ?_|refine qac ?_ _));exact BK116.out⟩,⟨by (with_reducible repeat (first|refine qae ?_ _|refine qag ?_|refine qac ?_ _));refine qaz (cs:=#[.int .i64 (wrap64 (a1+1)),.int .i64 (wrap64 (1+t119)),.int .i64 (wrap64 (1+t118)),.int .i64 (rd [4,5,6,8,10,12,20,24] (Go.bits .and .i64 a0_2 7)),.int .i64 (wrap64 ((wrap64 (10 * (wrap64 (1+t120))))+a1)),.slice none 0 0,.slice none 0 0]) ?_ 6 _ rfl;(with_reducible repeat (first|refine qae ?_ _|refine qag ?_|refine qac ?_ _));refine qaz (cs:=#[.int .i64 (wrap64 (a1+1)),.int .i64 (wrap64 (1+t119)),.int .i64 (wrap64 (1+t118)),.int .i64 (rd [4,5,6,8,10,12,20,24] (Go.bits .and .i64 a0_2 7)),.int .i64 (wrap64 ((wrap64 (10 * (wrap64 (1+t120))))+a1)),.slice none 0 0,.slice none 0 0]) ?_ 5 _ rfl;(with_reducible repeat (first|refine qae ?_ _|refine qag ?_|refine qac ?_ _));refine qaz (cs:=#[.int .i64 (wrap64 (a1+1)),.int .i64 (wrap64 (1+t119)),.int .i64 (wrap64 (1+t118)),.int .i64 (rd [4,5,6,8,10,12,20,24] (Go.bits .and .i64 a0_2 7)),.int .i64 0,.slice none 0 0,.slice none 0 0]) ?_ 4 _ rfl;(with_reducible repeat (first|refine qae ?_ _|refine qag ?_|refine qac ?_ _));refine qaz (cs:=#[.int .i64 (wrap64 (a1+1)),.int .i64 (wrap64 (1+t119)),.int .i64 (wrap64 (1+t118)),.int .i64 0,.int .i64 0,.slice none 0 0,.slice none 0 0]) ?_ 3 _ rfl;(with_reducible repeat (first|refine qae ?_ _|refine qag ?_|refine qac ?_ _));refine qaz (cs:=#[.int .i64 (wrap64 (a1+1)),.int .i64 (wrap64 (1+t119)),.int .i64 0,.int .i64 0,.int .i64 0,.slice none 0 0,.slice none 0 0]) ?_ 2 _ rfl;(with_reducible repeat (first|refine qae ?_ _|refine qag ?_|refine qac ?_ _));refine qaz (cs:=#[.int .i64 (wrap64 (a1+1)),.int .i64 0,.int .i64 0,.int .i64 0,.int .i64 0,.slice none 0 0,.slice none 0 0]) ?_ 1 _ rfl;(with_reducible repeat (first|refine qae ?_ _|refine qag ?_|refine qac ?_ _));refine qaz (cs:=#[.int .i64 0,.int .i64 0,.int .i64 0,.int .i64 0,.int .i64 0,.slice none 0 0,.slice none 0 0]) ?_ 0 _ rfl;(with_reducible repeat (first|refine qae ?_ _|refine qag ?_|refine qac ?_ _));exact BK121.out⟩,⟨by repeat (first|(with_reducible first|exact HB.out|apply qaj|apply qad|apply qai|refine qaf ?_ GE114.out|refine qaf ?_ GE115.out|refine qaf ?_ GE116.out|refine qaf ?_ GE121.out)|exact HB.out)⟩⟩
   case round=>
    clear H'
    try clear c1
    try clear p1
    try clear q1
    try clear hx1
    try clear c2
    try clear p2
    try clear c3
    try clear c4
    try clear c4b0
    try clear c5
    try clear c5b0
    try clear p6
    try clear p11
    try clear q11
    try clear hx11
    try clear c12
    try clear c13
    try clear c16
    try clear c22
    try clear c23
    try clear c24
    try clear hcz14_0
    try clear hcz14_1
    try clear hcz14_2
    try clear hcz14_3
    try clear hcz14_4
    try clear hcz14_5
    try clear hcz14_6
    try clear hcz14_7
    try clear hcz17_0
    try clear hcz17_1
    try clear hcz17_2
    try clear hcz17_3
    try clear hcz17_4
    try clear hcz17_5
    try clear hcz18_0
    try clear hcz18_1
    try clear hcz18_2
    try clear hcz18_3
    try clear hcz18_4
    try clear hcz18_5
    try clear hcz18_6
    try clear hcz18_7
    try clear hcz19_0
    try clear hcz19_1
    try clear hcz19_2
    try clear hcz19_3
    try clear hcz19_4
    try clear hcz19_5
    try clear hcz20_0
    try clear hcz20_1
    try clear hcz20_2
    try clear hcz20_3
    try clear hcz20_4
    try clear hcz20_5
    try clear hcz25_0
    try clear hcz25_1
    try clear hcz25_2
    try clear hcz25_3
    try clear hcz25_4
    try clear hcz25_5
    try clear hcz25_6
    try clear hfz14_0
    try clear hfz14_1
    try clear hfz14_2
    try clear hfz14_3
    try clear hfz14_4
    try clear hfz14_5
    try clear hfz14_6
    try clear hfz14_7
    try clear hfz17_0
    try clear hfz17_1
    try clear hfz17_2
    try clear hfz17_3
    try clear hfz17_4
    try clear hfz17_5
    try clear hfz18_0
    try clear hfz18_1
    try clear hfz18_2
    try clear hfz18_3
    try clear hfz18_4
    try clear hfz18_5
    try clear hfz18_6
    try clear hfz18_7
    try clear hfz19_0
    try clear hfz19_1
    try clear hfz19_2
    try clear hfz19_3
    try clear hfz19_4
    try clear hfz19_5
    try clear hfz20_0
    try clear hfz20_1
    try clear hfz20_2
    try clear hfz20_3
    try clear hfz20_4
    try clear hfz20_5
    try clear hfz25_0
    try clear hfz25_1
    try clear hfz25_2
    try clear hfz25_3
    try clear hfz25_4
    try clear hfz25_5
    try clear hfz25_6
    try clear p117
    try clear q117
    obtain⟨x12_1,x13_1,x122005_1,u122005,rfl,rfl,HA,HK1,HO_122005,BK114,BK115,BK116,BK121,HB⟩:=hrel
    cases gk with
    |zero=>exact absurd HA.out (by simp [ostinatoref05_Num_task.l0])
    |succ k1=>
     have H:=HA.out
     clear HA
     simp only [ostinatoref05_Num_task.l0] at H
     by_cases c26:x13_1<(wrap64 (1+t119))
     ·rw [if_pos c26] at H
      have c26b0:decide (x13_1<(wrap64 (1+t119)))=true:=decide_eq_true c26
      clear c26
      obtain⟨ji27,hji27⟩:∃ j_:Int,(IntKind.u64.wrap (x13_1))=j_:=⟨_,rfl⟩
      replace H:(if 0≤(ji27) then (if (Go.bits .and .i64 (shr .i64 a0_4 (ji27)) 1)=1 then (if x122005_1.length<17592186044416 then (ostinatoref05_Num_task.l0 k1 a2 (wrap64 (1+t119)) x13_1 (wrap64 (x13_1+1)) a0_0 a0_1 a0_2 a0_3 a0_4 l0_5 (wrap64 (a1+1)) (wrap64 (1+t119)) (wrap64 (1+t118)) (rd [4,5,6,8,10,12,20,24] (Go.bits .and .i64 a0_2 7)) (wrap64 ((wrap64 (10 * (wrap64 (1+t120))))+a1)) (x122005_1++[wrap64 (x13_1 - x12_1)])) else (none)) else (ostinatoref05_Num_task.l0 k1 a2 (wrap64 (1+t119)) x12_1 (wrap64 (x13_1+1)) a0_0 a0_1 a0_2 a0_3 a0_4 l0_5 (wrap64 (a1+1)) (wrap64 (1+t119)) (wrap64 (1+t118)) (rd [4,5,6,8,10,12,20,24] (Go.bits .and .i64 a0_2 7)) (wrap64 ((wrap64 (10 * (wrap64 (1+t120))))+a1)) x122005_1)) else (none))=some (r1,r2,r3,r4,r5,r6,r7):=by first|(rw [hji27] at H;exact H)|(simp only [hji27] at H ⊢;exact H)
      by_cases c28:0≤(ji27)
      ·rw [if_pos c28] at H
       have c28b0:=eq_true c28
       have c28b1:decide (0≤(ji27))=true:=decide_eq_true c28
       clear c28
       obtain⟨ji29,hji29⟩:∃ j_:Int,(shr .i64 a0_4 (ji27))=j_:=⟨_,rfl⟩
       replace H:(if (Go.bits .and .i64 (ji29) 1)=1 then (if x122005_1.length<17592186044416 then (ostinatoref05_Num_task.l0 k1 a2 (wrap64 (1+t119)) x13_1 (wrap64 (x13_1+1)) a0_0 a0_1 a0_2 a0_3 a0_4 l0_5 (wrap64 (a1+1)) (wrap64 (1+t119)) (wrap64 (1+t118)) (rd [4,5,6,8,10,12,20,24] (Go.bits .and .i64 a0_2 7)) (wrap64 ((wrap64 (10 * (wrap64 (1+t120))))+a1)) (x122005_1++[wrap64 (x13_1 - x12_1)])) else (none)) else (ostinatoref05_Num_task.l0 k1 a2 (wrap64 (1+t119)) x12_1 (wrap64 (x13_1+1)) a0_0 a0_1 a0_2 a0_3 a0_4 l0_5 (wrap64 (a1+1)) (wrap64 (1+t119)) (wrap64 (1+t118)) (rd [4,5,6,8,10,12,20,24] (Go.bits .and .i64 a0_2 7)) (wrap64 ((wrap64 (10 * (wrap64 (1+t120))))+a1)) x122005_1))=some (r1,r2,r3,r4,r5,r6,r7):=by first|(rw [hji29] at H;exact H)|(simp only [hji29] at H ⊢;exact H)
       have hji29_:(a0_4 / 2 ^ min (ji27).toNat 64)=ji29:=hji29
       have hji29z:(ji27)≤64→(a0_4 / 2 ^ (ji27).toNat)=ji29:=shr_small hji29
       by_cases c30:(Go.bits .and .i64 (ji29) 1)=1
       ·rw [if_pos c30] at H
        have c30b0:((Go.bits .and .i64 (ji29) 1) == 1)=true:=beq_iff_eq.mpr c30
        have c30b1:((Go.bits .and .i64 (ji29) 1) != 1)=false:=bne_eq_false_iff_eq.mpr c30
        clear c30
        by_cases c31:x122005_1.length<17592186044416
        ·rw [if_pos c31] at H
         have LMc31:=qah.mk c31
         clear c31
         obtain⟨y122,hy122⟩:∃ y_:List Int,y_=(x122005_1++[wrap64 (x13_1 - x12_1)]):=⟨_,rfl⟩
         replace H:(ostinatoref05_Num_task.l0 k1 a2 (wrap64 (1+t119)) x13_1 (wrap64 (x13_1+1)) a0_0 a0_1 a0_2 a0_3 a0_4 l0_5 (wrap64 (a1+1)) (wrap64 (1+t119)) (wrap64 (1+t118)) (rd [4,5,6,8,10,12,20,24] (Go.bits .and .i64 a0_2 7)) (wrap64 ((wrap64 (10 * (wrap64 (1+t120))))+a1)) y122)=some (r1,r2,r3,r4,r5,r6,r7):=by first|(rw [hy122];with_reducible exact H)|(have H2_:=(Option.bind_some _ _).symm.trans H;rw [hy122];with_reducible exact H2_)|(have H2_:=(Option.bind_some _ _).symm.trans H;with_reducible exact H2_)|with_reducible exact H|(rw [hy122];exact H)|exact H
         have Ny122:=qah.mk hy122
         clear hy122
         have H':=qah.mk H
         clear H
         have hnb32:=NB114_115.out
         have hnc32:=NB115_114.out
         have hnb33:=NB114_116.out
         have hnc33:=NB116_114.out
         have hnb34:=NB114_121.out
         have hnc34:=NB121_114.out
         have hcz35_0:wr.cell? ⟨gb114,0,none⟩=some (.int .i64 a0_0):=(qab BK114.out 0).trans rfl
         have hcz35_1:wr.cell? ⟨gb114,1,none⟩=some (.int .i64 a0_1):=(qab BK114.out 1).trans rfl
         have hcz35_2:wr.cell? ⟨gb114,2,none⟩=some (.int .i64 a0_2):=(qab BK114.out 2).trans rfl
         have hcz35_3:wr.cell? ⟨gb114,3,none⟩=some (.int .i64 a0_3):=(qab BK114.out 3).trans rfl
         have hcz35_4:wr.cell? ⟨gb114,4,none⟩=some (.int .i64 a0_4):=(qab BK114.out 4).trans rfl
         have hcz35_5:wr.cell? ⟨gb114,5,none⟩=some (.slice A0_5 l0_5.length c0_5):=(qab BK114.out 5).trans rfl
         have hfz35_0:=qaa BK114.out 0
         have hfz35_1:=qaa BK114.out 1
         have hfz35_2:=qaa BK114.out 2
         have hfz35_3:=qaa BK114.out 3
         have hfz35_4:=qaa BK114.out 4
         have hfz35_5:=qaa BK114.out 5
         have hnb36:=NB121_115.out
         have hnc36:=NB115_121.out
         have hnb37:=NB121_116.out
         have hnc37:=NB116_121.out
         have hcz38_0:wr.cell? ⟨gb121,0,none⟩=some (.int .i64 (wrap64 (a1+1))):=(qab BK121.out 0).trans rfl
         have hcz38_1:wr.cell? ⟨gb121,1,none⟩=some (.int .i64 (wrap64 (1+t119))):=(qab BK121.out 1).trans rfl
         have hcz38_2:wr.cell? ⟨gb121,2,none⟩=some (.int .i64 (wrap64 (1+t118))):=(qab BK121.out 2).trans rfl
         have hcz38_3:wr.cell? ⟨gb121,3,none⟩=some (.int .i64 (rd [4,5,6,8,10,12,20,24] (Go.bits .and .i64 a0_2 7))):=(qab BK121.out 3).trans rfl
         have hcz38_4:wr.cell? ⟨gb121,4,none⟩=some (.int .i64 (wrap64 ((wrap64 (10 * (wrap64 (1+t120))))+a1))):=(qab BK121.out 4).trans rfl
         have hcz38_5:wr.cell? ⟨gb121,5,none⟩=some (u122005):=(qab BK121.out 5).trans rfl
         have hcz38_6:wr.cell? ⟨gb121,6,none⟩=some (.slice none 0 0):=(qab BK121.out 6).trans rfl
         have hfz38_0:=qaa BK121.out 0
         have hfz38_1:=qaa BK121.out 1
         have hfz38_2:=qaa BK121.out 2
         have hfz38_3:=qaa BK121.out 3
         have hfz38_4:=qaa BK121.out 4
         have hfz38_5:=qaa BK121.out 5
         have hfz38_6:=qaa BK121.out 6
         go_wp2_with (first|((with_reducible refine gate_builtin (b:=.append) (xs:=#[.tmp 57,.tmp 61]) rfl ?_);at_builtin;refine Kd.R_append (Kd.int .i64) (w0:=w) w.heap.size rfl (.tmp 57) (.tmp 61) 49 2 (.int .i64 0) 8 rfl Tryd.underlying49 info2 rfl (by decide) (by omega) u122005 x122005_1 (wrap64 (x13_1 - x12_1)) [.int .i64 (wrap64 (x13_1 - x12_1))] (fun _=>True) (fun _=>False) rfl rfl ?aP (fun _ hk=>hk.elim) ?aF ?aO ?aB ?aS ?aL ?_;(case aP=>exact rfl);(case aB=>exact (by repeat (first|(with_reducible first|exact HB.out|apply qaj|apply qad|apply qai|refine qaf ?_ GE114.out|refine qaf ?_ GE115.out|refine qaf ?_ GE116.out|refine qaf ?_ GE121.out)|exact HB.out)));(case aF=>exact (fun _ _=>trivial));(case aO=>exact (by (with_reducible repeat (first|apply Kd.R_alloc|apply Kd.R_drewN|apply Kd.R_drew));exact HO_122005.out));(case aS=>exact (qao (by repeat (first|(with_reducible first|exact HB.out|apply qaj|apply qad|apply qai|refine qaf ?_ GE114.out|refine qaf ?_ GE115.out|refine qaf ?_ GE116.out|refine qaf ?_ GE121.out)|exact HB.out))));(case aL=>have:=LMc31.out;omega);intro v123 w39 ho hb hg hat;rw [← Ny122.out] at ho;have n0_:=qah.mk (qaM (g:=gb114) (o:=.cells #[.int .i64 a0_0,.int .i64 a0_1,.int .i64 a0_2,.int .i64 a0_3,.int .i64 a0_4,.slice A0_5 l0_5.length c0_5] 59 (0,0)) (by (with_reducible repeat (first|refine qae ?_ _|refine qag ?_|refine qac ?_ _));exact BK114.out) hg (Kd.R_ne HO_122005.out BK114.out (by decide)));have n1_:=qah.mk (qaM (g:=gb115) (o:=.cells #[.int .i64 0,.int .i64 0,.int .i64 0,.int .i64 0,.int .i64 0,.slice none 0 0,.slice none 0 0] 52 (0,0)) (by (with_reducible repeat (first|refine qae ?_ _|refine qag ?_|refine qac ?_ _));exact BK115.out) hg (Kd.R_ne HO_122005.out BK115.out (by decide)));have n2_:=qah.mk (qaM (g:=gb116) (o:=.cells #[.int .i64 4,.int .i64 5,.int .i64 6,.int .i64 8,.int .i64 10,.int .i64 12,.int .i64 20,.int .i64 24] 123 (0,0)) (by (with_reducible repeat (first|refine qae ?_ _|refine qag ?_|refine qac ?_ _));exact BK116.out) hg (Kd.R_ne HO_122005.out BK116.out (by decide)));have n3_:=qah.mk (qaM (g:=gb121) (o:=.cells #[.int .i64 (wrap64 (a1+1)),.int .i64 (wrap64 (1+t119)),.int .i64 (wrap64 (1+t118)),.int .i64 (rd [4,5,6,8,10,12,20,24] (Go.bits .and .i64 a0_2 7)),.int .i64 (wrap64 ((wrap64 (10 * (wrap64 (1+t120))))+a1)),u122005,.slice none 0 0] 52 (0,0)) (by (with_reducible repeat (first|refine qae ?_ _|refine qag ?_|refine qac ?_ _));exact BK121.out) hg (Kd.R_ne HO_122005.out BK121.out (by decide)));have n4_:=qah.mk (hb);have n5_:=qah.mk (ho);clear BK114;clear BK115;clear BK116;clear BK121;clear HB;clear HO_122005;have BK114:=n0_;have BK115:=n1_;have BK116:=n2_;have BK121:=n3_;have HB:=n4_;have HO124:=n5_;clear n0_ n1_ n2_ n3_ n4_ n5_;clear ho hb hg hat;obtain⟨Ao40,co40,eo40⟩:=Kd.R_slice HO124.out;subst eo40;have hcz41_0:w39.cell? ⟨gb121,0,none⟩=some (.int .i64 (wrap64 (a1+1))):=(qab BK121.out 0).trans rfl;have hcz41_1:w39.cell? ⟨gb121,1,none⟩=some (.int .i64 (wrap64 (1+t119))):=(qab BK121.out 1).trans rfl;have hcz41_2:w39.cell? ⟨gb121,2,none⟩=some (.int .i64 (wrap64 (1+t118))):=(qab BK121.out 2).trans rfl;have hcz41_3:w39.cell? ⟨gb121,3,none⟩=some (.int .i64 (rd [4,5,6,8,10,12,20,24] (Go.bits .and .i64 a0_2 7))):=(qab BK121.out 3).trans rfl;have hcz41_4:w39.cell? ⟨gb121,4,none⟩=some (.int .i64 (wrap64 ((wrap64 (10 * (wrap64 (1+t120))))+a1))):=(qab BK121.out 4).trans rfl;have hcz41_5:w39.cell? ⟨gb121,5,none⟩=some (u122005):=(qab BK121.out 5).trans rfl;have hcz41_6:w39.cell? ⟨gb121,6,none⟩=some (.slice none 0 0):=(qab BK121.out 6).trans rfl;have hfz41_0:=qaa BK121.out 0;have hfz41_1:=qaa BK121.out 1;have hfz41_2:=qaa BK121.out 2;have hfz41_3:=qaa BK121.out 3;have hfz41_4:=qaa BK121.out 4;have hfz41_5:=qaa BK121.out 5;have hfz41_6:=qaa BK121.out 6))
         go_roundg k1
         case measure=>have:=HK1.out;omega
         case rel=>exact⟨(x13_1),(wrap64 (x13_1+1)),(y122),(.slice Ao40 y122.length co40),(by first|rfl|(simp;done)|(simp [*];done)),(by first|rfl|(simp;done)|(simp [*];done)),H',⟨by have:=HK1.out;omega⟩,⟨by (with_reducible repeat (first|apply Kd.R_alloc|apply Kd.R_drewN|apply Kd.R_drew));exact Kd.R_mono (Kd.R_far (p:=⟨gb121,5,none⟩) (Kd.R_types HO124.out BK121.out (by decide)) (fun _ hk=>hk.2) (.slice Ao40 y122.length co40)) (fun _ hk=>trivial)⟩,⟨by (with_reducible repeat (first|refine qae ?_ _|refine qag ?_|refine qac ?_ _));refine qay ?_ NB114_121.out _;(with_reducible repeat (first|refine qae ?_ _|refine qag ?_|refine qac ?_ _));exact BK114.out⟩,⟨by (with_reducible repeat (first|refine qae ?_ _|refine qag ?_|refine qac ?_ _));refine qay ?_ NB115_121.out _;(with_reducible repeat (first|refine qae ?_ _|refine qag ?_|refine qac ?_ _));exact BK115.out⟩,⟨by (with_reducible repeat (first|refine qae ?_ _|refine qag ?_|refine qac ?_ _));refine qay ?_ NB116_121.out _;(with_reducible repeat (first|refine qae ?_ _|refine qag ?_|refine qac ?_ _));exact BK116.out⟩,⟨by (with_reducible repeat (first|refine qae ?_ _|refine qag ?_|refine qac ?_ _));refine qaz (cs:=#[.int .i64 (wrap64 (a1+1)),.int .i64 (wrap64 (1+t119)),.int .i64 (wrap64 (1+t118)),.int .i64 (rd [4,5,6,8,10,12,20,24] (Go.bits .and .i64 a0_2 7)),.int .i64 (wrap64 ((wrap64 (10 * (wrap64 (1+t120))))+a1)),u122005,.slice none 0 0]) ?_ 5 _ rfl;(with_reducible repeat (first|refine qae ?_ _|refine qag ?_|refine qac ?_ _));exact BK121.out⟩,⟨by repeat (first|(with_reducible first|exact HB.out|apply qaj|apply qad|apply qai|refine qaf ?_ GE114.out|refine qaf ?_ GE115.out|refine qaf ?_ GE116.out|refine qaf ?_ GE121.out)|exact HB.out)⟩⟩
        ·rw [if_neg c31] at H
         exact absurd H (by simp)
       ·rw [if_neg c30] at H
        have c30b0:((Go.bits .and .i64 (ji29) 1) == 1)=false:=beq_eq_false_iff_ne.mpr c30
        have c30b1:((Go.bits .and .i64 (ji29) 1) != 1)=true:=bne_iff_ne.mpr c30
        have H':=qah.mk H
        clear H
        have hnb42:=NB114_115.out
        have hnc42:=NB115_114.out
        have hnb43:=NB114_116.out
        have hnc43:=NB116_114.out
        have hnb44:=NB114_121.out
        have hnc44:=NB121_114.out
        have hcz45_0:wr.cell? ⟨gb114,0,none⟩=some (.int .i64 a0_0):=(qab BK114.out 0).trans rfl
        have hcz45_1:wr.cell? ⟨gb114,1,none⟩=some (.int .i64 a0_1):=(qab BK114.out 1).trans rfl
        have hcz45_2:wr.cell? ⟨gb114,2,none⟩=some (.int .i64 a0_2):=(qab BK114.out 2).trans rfl
        have hcz45_3:wr.cell? ⟨gb114,3,none⟩=some (.int .i64 a0_3):=(qab BK114.out 3).trans rfl
        have hcz45_4:wr.cell? ⟨gb114,4,none⟩=some (.int .i64 a0_4):=(qab BK114.out 4).trans rfl
        have hcz45_5:wr.cell? ⟨gb114,5,none⟩=some (.slice A0_5 l0_5.length c0_5):=(qab BK114.out 5).trans rfl
        have hfz45_0:=qaa BK114.out 0
        have hfz45_1:=qaa BK114.out 1
        have hfz45_2:=qaa BK114.out 2
        have hfz45_3:=qaa BK114.out 3
        have hfz45_4:=qaa BK114.out 4
        have hfz45_5:=qaa BK114.out 5
        go_wp2
        go_roundg k1
        case measure=>have:=HK1.out;omega
        case rel=>exact⟨(x12_1),(wrap64 (x13_1+1)),(x122005_1),(u122005),(by first|rfl|(simp;done)|(simp [*];done)),(by first|rfl|(simp;done)|(simp [*];done)),H',⟨by have:=HK1.out;omega⟩,⟨by (with_reducible repeat (first|apply Kd.R_alloc|apply Kd.R_drewN|apply Kd.R_drew));exact HO_122005.out⟩,⟨by (with_reducible repeat (first|refine qae ?_ _|refine qag ?_|refine qac ?_ _));exact BK114.out⟩,⟨by (with_reducible repeat (first|refine qae ?_ _|refine qag ?_|refine qac ?_ _));exact BK115.out⟩,⟨by (with_reducible repeat (first|refine qae ?_ _|refine qag ?_|refine qac ?_ _));exact BK116.out⟩,⟨by (with_reducible repeat (first|refine qae ?_ _|refine qag ?_|refine qac ?_ _));exact BK121.out⟩,⟨by repeat (first|(with_reducible first|exact HB.out|apply qaj|apply qad|apply qai|refine qaf ?_ GE114.out|refine qaf ?_ GE115.out|refine qaf ?_ GE116.out|refine qaf ?_ GE121.out)|exact HB.out)⟩⟩
      ·rw [if_neg c28] at H
       exact absurd H (by simp)
     ·rw [if_neg c26] at H
      have c26b0:decide (x13_1<(wrap64 (1+t119)))=false:=decide_eq_false c26
      clear c26
      have HC46:=qah.mk H
      clear H
      go_upto_if 66 with (fail)
      go_cut [] (fun wc=>∃ (kq:Nat) (x122005_45:List Int) (u122005:Value),qah (ostinatoref05_Num_task.j1 kq a2 a0_0 a0_1 a0_2 a0_3 a0_4 l0_5 (wrap64 (a1+1)) (wrap64 (1+t119)) (wrap64 (1+t118)) (rd [4,5,6,8,10,12,20,24] (Go.bits .and .i64 a0_2 7)) (wrap64 ((wrap64 (10 * (wrap64 (1+t120))))+a1)) x122005_45=some (r1,r2,r3,r4,r5,r6,r7))∧qah (kq≤k1)∧qah (Kd.R (Kd.int .i64) 2 wc w.heap.size (fun _=>True) u122005 x122005_45)∧qah (wc.heap[gb114]? = some (.cells #[.int .i64 a0_0,.int .i64 a0_1,.int .i64 a0_2,.int .i64 a0_3,.int .i64 a0_4,(.slice A0_5 l0_5.length c0_5)] 59 (0,0)))∧qah (wc.heap[gb115]? = some (.cells #[.int .i64 0,.int .i64 0,.int .i64 0,.int .i64 0,.int .i64 0,(.slice none 0 0),(.slice none 0 0)] 52 (0,0)))∧qah (wc.heap[gb116]? = some (.cells #[.int .i64 4,.int .i64 5,.int .i64 6,.int .i64 8,.int .i64 10,.int .i64 12,.int .i64 20,.int .i64 24] 123 (0,0)))∧qah (wc.heap[gb121]? = some (.cells #[.int .i64 (wrap64 (a1+1)),.int .i64 (wrap64 (1+t119)),.int .i64 (wrap64 (1+t118)),.int .i64 (rd [4,5,6,8,10,12,20,24] (Go.bits .and .i64 a0_2 7)),.int .i64 (wrap64 ((wrap64 (10 * (wrap64 (1+t120))))+a1)),u122005,(.slice none 0 0)] 52 (0,0)))∧qah (Below w.heap.size w wc))
      case first=>
       have H:=HC46.out
       clear HC46
       by_cases c47:x12_1 > 0
       ·rw [if_pos c47] at H
        have c47b0:decide (0<x12_1)=true:=decide_eq_true c47
        clear c47
        (first|rw [c47b0]|(simp only [qat,qau];rw [c47b0])|skip)
        by_cases c48:x122005_1.length<17592186044416
        ·rw [if_pos c48] at H
         have LMc48:=qah.mk c48
         clear c48
         obtain⟨y125,hy125⟩:∃ y_:List Int,y_=(x122005_1++[wrap64 ((wrap64 (1+t119)) - x12_1)]):=⟨_,rfl⟩
         replace H:(ostinatoref05_Num_task.j1 k1 a2 a0_0 a0_1 a0_2 a0_3 a0_4 l0_5 (wrap64 (a1+1)) (wrap64 (1+t119)) (wrap64 (1+t118)) (rd [4,5,6,8,10,12,20,24] (Go.bits .and .i64 a0_2 7)) (wrap64 ((wrap64 (10 * (wrap64 (1+t120))))+a1)) y125)=some (r1,r2,r3,r4,r5,r6,r7):=by first|(rw [hy125];with_reducible exact H)|(have H2_:=(Option.bind_some _ _).symm.trans H;rw [hy125];with_reducible exact H2_)|(have H2_:=(Option.bind_some _ _).symm.trans H;with_reducible exact H2_)|with_reducible exact H|(rw [hy125];exact H)|exact H
         have Ny125:=qah.mk hy125
         clear hy125
         have H':=qah.mk H
         clear H
         have hnb49:=NB121_114.out
         have hnc49:=NB114_121.out
         have hnb50:=NB121_115.out
         have hnc50:=NB115_121.out
         have hnb51:=NB121_116.out
         have hnc51:=NB116_121.out
         have hcz52_0:wr.cell? ⟨gb121,0,none⟩=some (.int .i64 (wrap64 (a1+1))):=(qab BK121.out 0).trans rfl
         have hcz52_1:wr.cell? ⟨gb121,1,none⟩=some (.int .i64 (wrap64 (1+t119))):=(qab BK121.out 1).trans rfl
         have hcz52_2:wr.cell? ⟨gb121,2,none⟩=some (.int .i64 (wrap64 (1+t118))):=(qab BK121.out 2).trans rfl
         have hcz52_3:wr.cell? ⟨gb121,3,none⟩=some (.int .i64 (rd [4,5,6,8,10,12,20,24] (Go.bits .and .i64 a0_2 7))):=(qab BK121.out 3).trans rfl
         have hcz52_4:wr.cell? ⟨gb121,4,none⟩=some (.int .i64 (wrap64 ((wrap64 (10 * (wrap64 (1+t120))))+a1))):=(qab BK121.out 4).trans rfl
         have hcz52_5:wr.cell? ⟨gb121,5,none⟩=some (u122005):=(qab BK121.out 5).trans rfl
         have hcz52_6:wr.cell? ⟨gb121,6,none⟩=some (.slice none 0 0):=(qab BK121.out 6).trans rfl
         have hfz52_0:=qaa BK121.out 0
         have hfz52_1:=qaa BK121.out 1
         have hfz52_2:=qaa BK121.out 2
         have hfz52_3:=qaa BK121.out 3
         have hfz52_4:=qaa BK121.out 4
         have hfz52_5:=qaa BK121.out 5
         have hfz52_6:=qaa BK121.out 6
         go_wp2_with (first|((with_reducible refine gate_builtin (b:=.append) (xs:=#[.tmp 68,.tmp 72]) rfl ?_);at_builtin;refine Kd.R_append (Kd.int .i64) (w0:=w) w.heap.size rfl (.tmp 68) (.tmp 72) 49 2 (.int .i64 0) 8 rfl Tryd.underlying49 info2 rfl (by decide) (by omega) u122005 x122005_1 (wrap64 ((wrap64 (1+t119)) - x12_1)) [.int .i64 (wrap64 ((wrap64 (1+t119)) - x12_1))] (fun _=>True) (fun _=>False) rfl rfl ?aP (fun _ hk=>hk.elim) ?aF ?aO ?aB ?aS ?aL ?_;(case aP=>exact rfl);(case aB=>exact (by repeat (first|(with_reducible first|exact HB.out|apply qaj|apply qad|apply qai|refine qaf ?_ GE114.out|refine qaf ?_ GE115.out|refine qaf ?_ GE116.out|refine qaf ?_ GE121.out)|exact HB.out)));(case aF=>exact (fun _ _=>trivial));(case aO=>exact (by (with_reducible repeat (first|apply Kd.R_alloc|apply Kd.R_drewN|apply Kd.R_drew));exact HO_122005.out));(case aS=>exact (qao (by repeat (first|(with_reducible first|exact HB.out|apply qaj|apply qad|apply qai|refine qaf ?_ GE114.out|refine qaf ?_ GE115.out|refine qaf ?_ GE116.out|refine qaf ?_ GE121.out)|exact HB.out))));(case aL=>have:=LMc48.out;omega);intro v126 w53 ho hb hg hat;rw [← Ny125.out] at ho;have n0_:=qah.mk (qaM (g:=gb114) (o:=.cells #[.int .i64 a0_0,.int .i64 a0_1,.int .i64 a0_2,.int .i64 a0_3,.int .i64 a0_4,.slice A0_5 l0_5.length c0_5] 59 (0,0)) (by (with_reducible repeat (first|refine qae ?_ _|refine qag ?_|refine qac ?_ _));exact BK114.out) hg (Kd.R_ne HO_122005.out BK114.out (by decide)));have n1_:=qah.mk (qaM (g:=gb115) (o:=.cells #[.int .i64 0,.int .i64 0,.int .i64 0,.int .i64 0,.int .i64 0,.slice none 0 0,.slice none 0 0] 52 (0,0)) (by (with_reducible repeat (first|refine qae ?_ _|refine qag ?_|refine qac ?_ _));exact BK115.out) hg (Kd.R_ne HO_122005.out BK115.out (by decide)));have n2_:=qah.mk (qaM (g:=gb116) (o:=.cells #[.int .i64 4,.int .i64 5,.int .i64 6,.int .i64 8,.int .i64 10,.int .i64 12,.int .i64 20,.int .i64 24] 123 (0,0)) (by (with_reducible repeat (first|refine qae ?_ _|refine qag ?_|refine qac ?_ _));exact BK116.out) hg (Kd.R_ne HO_122005.out BK116.out (by decide)));have n3_:=qah.mk (qaM (g:=gb121) (o:=.cells #[.int .i64 (wrap64 (a1+1)),.int .i64 (wrap64 (1+t119)),.int .i64 (wrap64 (1+t118)),.int .i64 (rd [4,5,6,8,10,12,20,24] (Go.bits .and .i64 a0_2 7)),.int .i64 (wrap64 ((wrap64 (10 * (wrap64 (1+t120))))+a1)),u122005,.slice none 0 0] 52 (0,0)) (by (with_reducible repeat (first|refine qae ?_ _|refine qag ?_|refine qac ?_ _));exact BK121.out) hg (Kd.R_ne HO_122005.out BK121.out (by decide)));have n4_:=qah.mk (hb);have n5_:=qah.mk (ho);clear BK114;clear BK115;clear BK116;clear BK121;clear HB;clear HO_122005;have BK114:=n0_;have BK115:=n1_;have BK116:=n2_;have BK121:=n3_;have HB:=n4_;have HO127:=n5_;clear n0_ n1_ n2_ n3_ n4_ n5_;clear ho hb hg hat;obtain⟨Ao54,co54,eo54⟩:=Kd.R_slice HO127.out;subst eo54;have hcz55_0:w53.cell? ⟨gb121,0,none⟩=some (.int .i64 (wrap64 (a1+1))):=(qab BK121.out 0).trans rfl;have hcz55_1:w53.cell? ⟨gb121,1,none⟩=some (.int .i64 (wrap64 (1+t119))):=(qab BK121.out 1).trans rfl;have hcz55_2:w53.cell? ⟨gb121,2,none⟩=some (.int .i64 (wrap64 (1+t118))):=(qab BK121.out 2).trans rfl;have hcz55_3:w53.cell? ⟨gb121,3,none⟩=some (.int .i64 (rd [4,5,6,8,10,12,20,24] (Go.bits .and .i64 a0_2 7))):=(qab BK121.out 3).trans rfl;have hcz55_4:w53.cell? ⟨gb121,4,none⟩=some (.int .i64 (wrap64 ((wrap64 (10 * (wrap64 (1+t120))))+a1))):=(qab BK121.out 4).trans rfl;have hcz55_5:w53.cell? ⟨gb121,5,none⟩=some (u122005):=(qab BK121.out 5).trans rfl;have hcz55_6:w53.cell? ⟨gb121,6,none⟩=some (.slice none 0 0):=(qab BK121.out 6).trans rfl;have hfz55_0:=qaa BK121.out 0;have hfz55_1:=qaa BK121.out 1;have hfz55_2:=qaa BK121.out 2;have hfz55_3:=qaa BK121.out 3;have hfz55_4:=qaa BK121.out 4;have hfz55_5:=qaa BK121.out 5;have hfz55_6:=qaa BK121.out 6))
         go_meet
         case rel=>exact⟨_,(y125),(.slice Ao54 y125.length co54),H',⟨by have:=HK1.out;first|omega|exact Nat.le_refl _⟩,⟨by (with_reducible repeat (first|apply Kd.R_alloc|apply Kd.R_drewN|apply Kd.R_drew));exact Kd.R_mono (Kd.R_far (p:=⟨gb121,5,none⟩) (Kd.R_types HO127.out BK121.out (by decide)) (fun _ hk=>hk.2) (.slice Ao54 y125.length co54)) (fun _ hk=>trivial)⟩,⟨by (with_reducible repeat (first|refine qae ?_ _|refine qag ?_|refine qac ?_ _));refine qay ?_ NB114_121.out _;(with_reducible repeat (first|refine qae ?_ _|refine qag ?_|refine qac ?_ _));exact BK114.out⟩,⟨by (with_reducible repeat (first|refine qae ?_ _|refine qag ?_|refine qac ?_ _));refine qay ?_ NB115_121.out _;(with_reducible repeat (first|refine qae ?_ _|refine qag ?_|refine qac ?_ _));exact BK115.out⟩,⟨by (with_reducible repeat (first|refine qae ?_ _|refine qag ?_|refine qac ?_ _));refine qay ?_ NB116_121.out _;(with_reducible repeat (first|refine qae ?_ _|refine qag ?_|refine qac ?_ _));exact BK116.out⟩,⟨by (with_reducible repeat (first|refine qae ?_ _|refine qag ?_|refine qac ?_ _));refine qaz (cs:=#[.int .i64 (wrap64 (a1+1)),.int .i64 (wrap64 (1+t119)),.int .i64 (wrap64 (1+t118)),.int .i64 (rd [4,5,6,8,10,12,20,24] (Go.bits .and .i64 a0_2 7)),.int .i64 (wrap64 ((wrap64 (10 * (wrap64 (1+t120))))+a1)),u122005,.slice none 0 0]) ?_ 5 _ rfl;(with_reducible repeat (first|refine qae ?_ _|refine qag ?_|refine qac ?_ _));exact BK121.out⟩,⟨by repeat (first|(with_reducible first|exact HB.out|apply qaj|apply qad|apply qai|refine qaf ?_ GE114.out|refine qaf ?_ GE115.out|refine qaf ?_ GE116.out|refine qaf ?_ GE121.out)|exact HB.out)⟩⟩
        ·rw [if_neg c48] at H
         exact absurd H (by simp)
       ·rw [if_neg c47] at H
        have c47b0:decide (0<x12_1)=false:=decide_eq_false c47
        clear c47
        (first|rw [c47b0]|(simp only [qat,qau];rw [c47b0])|skip)
        have H':=qah.mk H
        clear H
        go_wp2
        go_meet
        case rel=>exact⟨_,(x122005_1),(u122005),H',⟨by have:=HK1.out;first|omega|exact Nat.le_refl _⟩,⟨by (with_reducible repeat (first|apply Kd.R_alloc|apply Kd.R_drewN|apply Kd.R_drew));exact HO_122005.out⟩,⟨by (with_reducible repeat (first|refine qae ?_ _|refine qag ?_|refine qac ?_ _));exact BK114.out⟩,⟨by (with_reducible repeat (first|refine qae ?_ _|refine qag ?_|refine qac ?_ _));exact BK115.out⟩,⟨by (with_reducible repeat (first|refine qae ?_ _|refine qag ?_|refine qac ?_ _));exact BK116.out⟩,⟨by (with_reducible repeat (first|refine qae ?_ _|refine qag ?_|refine qac ?_ _));exact BK121.out⟩,⟨by repeat (first|(with_reducible first|exact HB.out|apply qaj|apply qad|apply qai|refine qaf ?_ GE114.out|refine qaf ?_ GE115.out|refine qaf ?_ GE116.out|refine qaf ?_ GE121.out)|exact HB.out)⟩⟩
      case rest=>
       clear HC46
       try clear c1
       try clear p1
       try clear q1
       try clear hx1
       try clear c2
       try clear p2
       try clear c3
       try clear c4
       try clear c4b0
       try clear c5
       try clear c5b0
       try clear p6
       try clear p11
       try clear q11
       try clear hx11
       try clear c12
       try clear c13
       try clear c16
       try clear c22
       try clear c23
       try clear c24
       try clear c26
       try clear c26b0
       try clear c28
       try clear c28b0
       try clear c28b1
       try clear c30
       try clear c30b0
       try clear c30b1
       try clear c31
       try clear c32
       try clear c33
       try clear c34
       try clear c36
       try clear c37
       try clear c38
       try clear c39
       try clear c42
       try clear c43
       try clear c44
       try clear c47
       try clear c47b0
       try clear c48
       try clear c49
       try clear c50
       try clear c51
       try clear hcz14_0
       try clear hcz14_1
       try clear hcz14_2
       try clear hcz14_3
       try clear hcz14_4
       try clear hcz14_5
       try clear hcz14_6
       try clear hcz14_7
       try clear hcz17_0
       try clear hcz17_1
       try clear hcz17_2
       try clear hcz17_3
       try clear hcz17_4
       try clear hcz17_5
       try clear hcz18_0
       try clear hcz18_1
       try clear hcz18_2
       try clear hcz18_3
       try clear hcz18_4
       try clear hcz18_5
       try clear hcz18_6
       try clear hcz18_7
       try clear hcz19_0
       try clear hcz19_1
       try clear hcz19_2
       try clear hcz19_3
       try clear hcz19_4
       try clear hcz19_5
       try clear hcz20_0
       try clear hcz20_1
       try clear hcz20_2
       try clear hcz20_3
       try clear hcz20_4
       try clear hcz20_5
       try clear hcz25_0
       try clear hcz25_1
       try clear hcz25_2
       try clear hcz25_3
       try clear hcz25_4
       try clear hcz25_5
       try clear hcz25_6
       try clear hcz35_0
       try clear hcz35_1
       try clear hcz35_2
       try clear hcz35_3
       try clear hcz35_4
       try clear hcz35_5
       try clear hcz38_0
       try clear hcz38_1
       try clear hcz38_2
       try clear hcz38_3
       try clear hcz38_4
       try clear hcz38_5
       try clear hcz38_6
       try clear hcz41_0
       try clear hcz41_1
       try clear hcz41_2
       try clear hcz41_3
       try clear hcz41_4
       try clear hcz41_5
       try clear hcz41_6
       try clear hcz45_0
       try clear hcz45_1
       try clear hcz45_2
       try clear hcz45_3
       try clear hcz45_4
       try clear hcz45_5
       try clear hcz52_0
       try clear hcz52_1
       try clear hcz52_2
       try clear hcz52_3
       try clear hcz52_4
       try clear hcz52_5
       try clear hcz52_6
       try clear hcz55_0
       try clear hcz55_1
       try clear hcz55_2
       try clear hcz55_3
       try clear hcz55_4
       try clear hcz55_5
       try clear hcz55_6
       try clear hfz14_0
       try clear hfz14_1
       try clear hfz14_2
       try clear hfz14_3
       try clear hfz14_4
       try clear hfz14_5
       try clear hfz14_6
       try clear hfz14_7
       try clear hfz17_0
       try clear hfz17_1
       try clear hfz17_2
       try clear hfz17_3
       try clear hfz17_4
       try clear hfz17_5
       try clear hfz18_0
       try clear hfz18_1
       try clear hfz18_2
       try clear hfz18_3
       try clear hfz18_4
       try clear hfz18_5
       try clear hfz18_6
       try clear hfz18_7
       try clear hfz19_0
       try clear hfz19_1
       try clear hfz19_2
       try clear hfz19_3
       try clear hfz19_4
       try clear hfz19_5
       try clear hfz20_0
       try clear hfz20_1
       try clear hfz20_2
       try clear hfz20_3
       try clear hfz20_4
       try clear hfz20_5
       try clear hfz25_0
       try clear hfz25_1
       try clear hfz25_2
       try clear hfz25_3
       try clear hfz25_4
       try clear hfz25_5
       try clear hfz25_6
       try clear hfz35_0
       try clear hfz35_1
       try clear hfz35_2
       try clear hfz35_3
       try clear hfz35_4
       try clear hfz35_5
       try clear hfz38_0
       try clear hfz38_1
       try clear hfz38_2
       try clear hfz38_3
       try clear hfz38_4
       try clear hfz38_5
       try clear hfz38_6
       try clear hfz41_0
       try clear hfz41_1
       try clear hfz41_2
       try clear hfz41_3
       try clear hfz41_4
       try clear hfz41_5
       try clear hfz41_6
       try clear hfz45_0
       try clear hfz45_1
       try clear hfz45_2
       try clear hfz45_3
       try clear hfz45_4
       try clear hfz45_5
       try clear hfz52_0
       try clear hfz52_1
       try clear hfz52_2
       try clear hfz52_3
       try clear hfz52_4
       try clear hfz52_5
       try clear hfz52_6
       try clear hfz55_0
       try clear hfz55_1
       try clear hfz55_2
       try clear hfz55_3
       try clear hfz55_4
       try clear hfz55_5
       try clear hfz55_6
       try clear p1
       try clear p11
       try clear p117
       try clear p2
       try clear p6
       try clear q1
       try clear q11
       try clear q117
       obtain⟨kq,x122005_45,u122005,HA,HJ45,HO_122005,BK114,BK115,BK116,BK121,HB⟩:=hcut
       cases kq with
       |zero=>exact absurd HA.out (by simp [ostinatoref05_Num_task.j1])
       |succ kj45=>
        have H:=HA.out
        clear HA
        simp only [ostinatoref05_Num_task.j1] at H
        have H':=qah.mk H
        clear H
        go_wp2
        go_loopg [14] kj45 (fun kq v14 w'=>∃ (x14_3:Int) (x122006_3:List Int) (u122006:Value),v14=.int .i64 x14_3∧qah (ostinatoref05_Num_task.l1 kq a2 x14_3 a0_0 a0_1 a0_2 a0_3 a0_4 l0_5 (wrap64 (a1+1)) (wrap64 (1+t119)) (wrap64 (1+t118)) (rd [4,5,6,8,10,12,20,24] (Go.bits .and .i64 a0_2 7)) (wrap64 ((wrap64 (10 * (wrap64 (1+t120))))+a1)) x122005_45 x122006_3=some (r1,r2,r3,r4,r5,r6,r7))∧qah (kq≤kj45)∧qah (Kd.R (Kd.int .i64) 2 w' w.heap.size (fun _=>True) u122005 x122005_45)∧qah (Kd.R (Kd.int .i64) 3 w' w.heap.size (fun _=>True) u122006 x122006_3)∧qah (w'.heap[gb114]? = some (.cells #[.int .i64 a0_0,.int .i64 a0_1,.int .i64 a0_2,.int .i64 a0_3,.int .i64 a0_4,(.slice A0_5 l0_5.length c0_5)] 59 (0,0)))∧qah (w'.heap[gb115]? = some (.cells #[.int .i64 0,.int .i64 0,.int .i64 0,.int .i64 0,.int .i64 0,(.slice none 0 0),(.slice none 0 0)] 52 (0,0)))∧qah (w'.heap[gb116]? = some (.cells #[.int .i64 4,.int .i64 5,.int .i64 6,.int .i64 8,.int .i64 10,.int .i64 12,.int .i64 20,.int .i64 24] 123 (0,0)))∧qah (w'.heap[gb121]? = some (.cells #[.int .i64 (wrap64 (a1+1)),.int .i64 (wrap64 (1+t119)),.int .i64 (wrap64 (1+t118)),.int .i64 (rd [4,5,6,8,10,12,20,24] (Go.bits .and .i64 a0_2 7)),.int .i64 (wrap64 ((wrap64 (10 * (wrap64 (1+t120))))+a1)),u122005,u122006] 52 (0,0)))∧qah (Below w.heap.size w w'))
        case atStart=>exact⟨(0),(([]:List Int)),(.slice none 0 0),(by first|rfl|(simp;done)|(simp [*];done)),H',⟨Nat.le_refl _⟩,⟨by (with_reducible repeat (first|apply Kd.R_alloc|apply Kd.R_drewN|apply Kd.R_drew));exact HO_122005.out⟩,⟨by first|exact Kd.R_nil _ _ _ _ _|exact Kd.N_nil _ _ _ _ _|exact Kd.V_nil _ _ _ _ _|exact Kd.Q_nil _ _ _ _ _|exact Kd.S_nil _ _ _ _ _⟩,⟨by (with_reducible repeat (first|refine qae ?_ _|refine qag ?_|refine qac ?_ _));exact BK114.out⟩,⟨by (with_reducible repeat (first|refine qae ?_ _|refine qag ?_|refine qac ?_ _));exact BK115.out⟩,⟨by (with_reducible repeat (first|refine qae ?_ _|refine qag ?_|refine qac ?_ _));exact BK116.out⟩,⟨by (with_reducible repeat (first|refine qae ?_ _|refine qag ?_|refine qac ?_ _));exact BK121.out⟩,⟨by repeat (first|(with_reducible first|exact HB.out|apply qaj|apply qad|apply qai|refine qaf ?_ GE114.out|refine qaf ?_ GE115.out|refine qaf ?_ GE116.out|refine qaf ?_ GE121.out)|exact HB.out)⟩⟩
        case round=>
         clear H'
         try clear c1
         try clear p1
         try clear q1
         try clear hx1
         try clear c2
         try clear p2
         try clear c3
         try clear c4
         try clear c4b0
         try clear c5
         try clear c5b0
         try clear p6
         try clear p11
         try clear q11
         try clear hx11
         try clear c12
         try clear c13
         try clear c16
         try clear c22
         try clear c23
         try clear c24
         try clear c26
         try clear c26b0
         try clear c28
         try clear c28b0
         try clear c28b1
         try clear c30
         try clear c30b0
         try clear c30b1
         try clear c31
         try clear c32
         try clear c33
         try clear c34
         try clear c36
         try clear c37
         try clear c38
         try clear c39
         try clear c42
         try clear c43
         try clear c44
         try clear c47
         try clear c47b0
         try clear c48
         try clear c49
         try clear c50
         try clear c51
         try clear hcz14_0
         try clear hcz14_1
         try clear hcz14_2
         try clear hcz14_3
         try clear hcz14_4
         try clear hcz14_5
         try clear hcz14_6
         try clear hcz14_7
         try clear hcz17_0
         try clear hcz17_1
         try clear hcz17_2
         try clear hcz17_3
         try clear hcz17_4
         try clear hcz17_5
         try clear hcz18_0
         try clear hcz18_1
         try clear hcz18_2
         try clear hcz18_3
         try clear hcz18_4
         try clear hcz18_5
         try clear hcz18_6
         try clear hcz18_7
         try clear hcz19_0
         try clear hcz19_1
         try clear hcz19_2
         try clear hcz19_3
         try clear hcz19_4
         try clear hcz19_5
         try clear hcz20_0
         try clear hcz20_1
         try clear hcz20_2
         try clear hcz20_3
         try clear hcz20_4
         try clear hcz20_5
         try clear hcz25_0
         try clear hcz25_1
         try clear hcz25_2
         try clear hcz25_3
         try clear hcz25_4
         try clear hcz25_5
         try clear hcz25_6
         try clear hcz35_0
         try clear hcz35_1
         try clear hcz35_2
         try clear hcz35_3
         try clear hcz35_4
         try clear hcz35_5
         try clear hcz38_0
         try clear hcz38_1
         try clear hcz38_2
         try clear hcz38_3
         try clear hcz38_4
         try clear hcz38_5
         try clear hcz38_6
         try clear hcz41_0
         try clear hcz41_1
         try clear hcz41_2
         try clear hcz41_3
         try clear hcz41_4
         try clear hcz41_5
         try clear hcz41_6
         try clear hcz45_0
         try clear hcz45_1
         try clear hcz45_2
         try clear hcz45_3
         try clear hcz45_4
         try clear hcz45_5
         try clear hcz52_0
         try clear hcz52_1
         try clear hcz52_2
         try clear hcz52_3
         try clear hcz52_4
         try clear hcz52_5
         try clear hcz52_6
         try clear hcz55_0
         try clear hcz55_1
         try clear hcz55_2
         try clear hcz55_3
         try clear hcz55_4
         try clear hcz55_5
         try clear hcz55_6
         try clear hfz14_0
         try clear hfz14_1
         try clear hfz14_2
         try clear hfz14_3
         try clear hfz14_4
         try clear hfz14_5
         try clear hfz14_6
         try clear hfz14_7
         try clear hfz17_0
         try clear hfz17_1
         try clear hfz17_2
         try clear hfz17_3
         try clear hfz17_4
         try clear hfz17_5
         try clear hfz18_0
         try clear hfz18_1
         try clear hfz18_2
         try clear hfz18_3
         try clear hfz18_4
         try clear hfz18_5
         try clear hfz18_6
         try clear hfz18_7
         try clear hfz19_0
         try clear hfz19_1
         try clear hfz19_2
         try clear hfz19_3
         try clear hfz19_4
         try clear hfz19_5
         try clear hfz20_0
         try clear hfz20_1
         try clear hfz20_2
         try clear hfz20_3
         try clear hfz20_4
         try clear hfz20_5
         try clear hfz25_0
         try clear hfz25_1
         try clear hfz25_2
         try clear hfz25_3
         try clear hfz25_4
         try clear hfz25_5
         try clear hfz25_6
         try clear hfz35_0
         try clear hfz35_1
         try clear hfz35_2
         try clear hfz35_3
         try clear hfz35_4
         try clear hfz35_5
         try clear hfz38_0
         try clear hfz38_1
         try clear hfz38_2
         try clear hfz38_3
         try clear hfz38_4
         try clear hfz38_5
         try clear hfz38_6
         try clear hfz41_0
         try clear hfz41_1
         try clear hfz41_2
         try clear hfz41_3
         try clear hfz41_4
         try clear hfz41_5
         try clear hfz41_6
         try clear hfz45_0
         try clear hfz45_1
         try clear hfz45_2
         try clear hfz45_3
         try clear hfz45_4
         try clear hfz45_5
         try clear hfz52_0
         try clear hfz52_1
         try clear hfz52_2
         try clear hfz52_3
         try clear hfz52_4
         try clear hfz52_5
         try clear hfz52_6
         try clear hfz55_0
         try clear hfz55_1
         try clear hfz55_2
         try clear hfz55_3
         try clear hfz55_4
         try clear hfz55_5
         try clear hfz55_6
         try clear p1
         try clear p11
         try clear p117
         try clear p2
         try clear p6
         try clear q1
         try clear q11
         try clear q117
         obtain⟨x14_3,x122006_3,u122006,rfl,HA,HK3,HO_122005,HO_122006,BK114,BK115,BK116,BK121,HB⟩:=hrel
         cases gk with
         |zero=>exact absurd HA.out (by simp [ostinatoref05_Num_task.l1])
         |succ k3=>
          have H:=HA.out
          clear HA
          simp only [ostinatoref05_Num_task.l1] at H
          by_cases c56:x14_3<(l0_5.length:Int)
          ·rw [if_pos c56] at H
           have c56b0:decide (x14_3<(l0_5.length:Int))=true:=decide_eq_true c56
           clear c56
           by_cases c57:x14_3<5
           ·rw [if_pos c57] at H
            have c57b0:decide (x14_3<5)=true:=decide_eq_true c57
            clear c57
            by_cases c58:0≤x14_3
            ·rw [if_pos c58] at H
             have c58b0:decide (0≤x14_3)=true:=decide_eq_true c58
             clear c58
             replace H:=Option.bind_eq_some_iff.mp H
             obtain⟨t129,A590,H⟩:=H
             replace H:(if x122006_3.length<17592186044416 then (ostinatoref05_Num_task.l1 k3 a2 (wrap64 (x14_3+1)) a0_0 a0_1 a0_2 a0_3 a0_4 l0_5 (wrap64 (a1+1)) (wrap64 (1+t119)) (wrap64 (1+t118)) (rd [4,5,6,8,10,12,20,24] (Go.bits .and .i64 a0_2 7)) (wrap64 ((wrap64 (10 * (wrap64 (1+t120))))+a1)) x122005_45 (x122006_3++[t129])) else (none))=some (r1,r2,r3,r4,r5,r6,r7):=H
             have A59:=qah.mk A590
             clear A590
             by_cases c60:x122006_3.length<17592186044416
             ·rw [if_pos c60] at H
              have LMc60:=qah.mk c60
              clear c60
              obtain⟨y130,hy130⟩:∃ y_:List Int,y_=(x122006_3++[t129]):=⟨_,rfl⟩
              replace H:(ostinatoref05_Num_task.l1 k3 a2 (wrap64 (x14_3+1)) a0_0 a0_1 a0_2 a0_3 a0_4 l0_5 (wrap64 (a1+1)) (wrap64 (1+t119)) (wrap64 (1+t118)) (rd [4,5,6,8,10,12,20,24] (Go.bits .and .i64 a0_2 7)) (wrap64 ((wrap64 (10 * (wrap64 (1+t120))))+a1)) x122005_45 y130)=some (r1,r2,r3,r4,r5,r6,r7):=by first|(rw [hy130];with_reducible exact H)|(have H2_:=(Option.bind_some _ _).symm.trans H;rw [hy130];with_reducible exact H2_)|(have H2_:=(Option.bind_some _ _).symm.trans H;with_reducible exact H2_)|with_reducible exact H|(rw [hy130];exact H)|exact H
              have Ny130:=qah.mk hy130
              clear hy130
              have H':=qah.mk H
              clear H
              have hnb61:=NB114_115.out
              have hnc61:=NB115_114.out
              have hnb62:=NB114_116.out
              have hnc62:=NB116_114.out
              have hnb63:=NB114_121.out
              have hnc63:=NB121_114.out
              have hcz64_0:wr.cell? ⟨gb114,0,none⟩=some (.int .i64 a0_0):=(qab BK114.out 0).trans rfl
              have hcz64_1:wr.cell? ⟨gb114,1,none⟩=some (.int .i64 a0_1):=(qab BK114.out 1).trans rfl
              have hcz64_2:wr.cell? ⟨gb114,2,none⟩=some (.int .i64 a0_2):=(qab BK114.out 2).trans rfl
              have hcz64_3:wr.cell? ⟨gb114,3,none⟩=some (.int .i64 a0_3):=(qab BK114.out 3).trans rfl
              have hcz64_4:wr.cell? ⟨gb114,4,none⟩=some (.int .i64 a0_4):=(qab BK114.out 4).trans rfl
              have hcz64_5:wr.cell? ⟨gb114,5,none⟩=some (.slice A0_5 l0_5.length c0_5):=(qab BK114.out 5).trans rfl
              have hfz64_0:=qaa BK114.out 0
              have hfz64_1:=qaa BK114.out 1
              have hfz64_2:=qaa BK114.out 2
              have hfz64_3:=qaa BK114.out 3
              have hfz64_4:=qaa BK114.out 4
              have hfz64_5:=qaa BK114.out 5
              try go_wp2
              have n0_:=qah.mk (Kd.R_drew HO_122005.out)
              have n1_:=qah.mk (Kd.R_drew HO_122006.out)
              have n2_:=qah.mk (qag BK114.out)
              have n3_:=qah.mk (qag BK115.out)
              have n4_:=qah.mk (qag BK116.out)
              have n5_:=qah.mk (qag BK121.out)
              have n6_:=qah.mk (qai HB.out)
              clear HO_122005
              clear HO_122006
              clear BK114
              clear BK115
              clear BK116
              clear BK121
              clear HB
              have HO_122005:=n0_
              have HO_122006:=n1_
              have BK114:=n2_
              have BK115:=n3_
              have BK116:=n4_
              have BK121:=n5_
              have HB:=n6_
              clear n0_ n1_ n2_ n3_ n4_ n5_ n6_
              have p128:0≤(x14_3:Int):=of_decide_eq_true (by first|(with_reducible assumption)|assumption)
              have q128:x14_3<(l0_5.length:Int):=of_decide_eq_true (by first|(with_reducible assumption)|assumption)
              obtain⟨ad128,e128,hx128_0⟩:=Kd.at_int HR0_5.out x14_3 p128 q128
              have hw128_0:=hx128_0
              cases e128
              replace hx128_0:=(HB.out.cell (bLt w _ hx128_0)).trans hx128_0
              replace p128:=eq_true p128
              replace q128:=eq_true q128
              refine start_ (n:=13) (S:=fun w'=>w'.cell? ⟨gb121,0,none⟩=some (.int .i64 (wrap64 (a1+1)))∧w'.cell? ⟨gb121,1,none⟩=some (.int .i64 (wrap64 (1+t119)))∧w'.cell? ⟨gb121,2,none⟩=some (.int .i64 (wrap64 (1+t118)))∧w'.cell? ⟨gb121,3,none⟩=some (.int .i64 (rd [4,5,6,8,10,12,20,24] (Go.bits .and .i64 a0_2 7)))∧w'.cell? ⟨gb121,4,none⟩=some (.int .i64 (wrap64 ((wrap64 (10 * (wrap64 (1+t120))))+a1)))∧w'.cell? ⟨gb121,5,none⟩=some (u122005)∧w'.cell? ⟨gb121,6,none⟩=some (u122006)∧w'.cell? ⟨gb114,0,none⟩=some (.int .i64 a0_0)∧w'.cell? ⟨gb114,1,none⟩=some (.int .i64 a0_1)∧w'.cell? ⟨gb114,2,none⟩=some (.int .i64 a0_2)∧w'.cell? ⟨gb114,3,none⟩=some (.int .i64 a0_3)∧w'.cell? ⟨gb114,4,none⟩=some (.int .i64 a0_4)∧w'.cell? ⟨gb114,5,none⟩=some (.slice (some ad128) l0_5.length c0_5)∧w'.cell? (ad128.add (x14_3).toNat)=some (.int .i64 (rd l0_5 x14_3))) (ds:=[12]) #[false,false,false,false,false,false,false,false,false,false,false,false,false] (by kernel_rfl) rfl rfl ⟨(qab BK121.out 0).trans rfl,(qab BK121.out 1).trans rfl,(qab BK121.out 2).trans rfl,(qab BK121.out 3).trans rfl,(qab BK121.out 4).trans rfl,(qab BK121.out 5).trans rfl,(qab BK121.out 6).trans rfl,(qab BK114.out 0).trans rfl,(qab BK114.out 1).trans rfl,(qab BK114.out 2).trans rfl,(qab BK114.out 3).trans rfl,(qab BK114.out 4).trans rfl,(qab BK114.out 5).trans rfl,((HB.out.cell (bLt w _ hw128_0)).trans hw128_0)⟩ (fun hHeld=>?_);refine qa2 ostinatoref05_Num_task.tab18 ostinatoref05_Num_task.bits18 (fun HT_ HW_=>?_)
              generalize wr.drew=w65 at HO_122005 HO_122006 BK114 BK115 BK116 BK121 HB hx128_0 hHeld ⊢
              refine qaC (i:=0) (N:=some 86) (v:=?_) (a':=?_) #[true,false,false,false,false,false,false,false,false,false,false,false,false] rfl rfl (qav HT_.out (by kernel_rfl)) (fun _ _ _ h=>h) (Or.inl ⟨by rfl,?_⟩) ?_ ?_
              rotate_left
              ·intro w'
               go_simp
               with_reducible rfl
              rotate_left
              ·simp only [Act.put,List.setIfInBounds_toArray,List.set_cons_zero,List.set_cons_succ,qat,qau]
               rfl
              refine qaC (i:=2) (N:=some 88) (v:=?_) (a':=?_) #[true,false,true,false,false,false,false,false,false,false,false,false,false] rfl rfl (qav HT_.out (by kernel_rfl)) (fun _ _ _ h=>h) (Or.inl ⟨by rfl,?_⟩) ?_ ?_
              rotate_left
              ·intro w'
               go_simp
               with_reducible rfl
              rotate_left
              ·simp only [Act.put,List.setIfInBounds_toArray,List.set_cons_zero,List.set_cons_succ,qat,qau]
               rfl
              refine qaC (i:=4) (N:=some 90) (v:=?_) (a':=?_) #[true,false,true,false,true,false,false,false,false,false,false,false,false] rfl rfl (qav HT_.out (by kernel_rfl)) (fun _ _ _ h=>h) (Or.inl ⟨by rfl,?_⟩) ?_ ?_
              rotate_left
              ·intro w'
               go_simp
               with_reducible rfl
              rotate_left
              ·simp only [Act.put,List.setIfInBounds_toArray,List.set_cons_zero,List.set_cons_succ,qat,qau]
               rfl
              refine qaC (i:=7) (N:=some 93) (v:=?_) (a':=?_) #[true,false,true,false,true,false,false,true,false,false,false,false,false] rfl rfl (qav HT_.out (by kernel_rfl)) (fun _ _ _ h=>h) (Or.inl ⟨by rfl,?_⟩) ?_ ?_
              rotate_left
              ·intro w'
               go_simp
               with_reducible rfl
              rotate_left
              ·simp only [Act.put,List.setIfInBounds_toArray,List.set_cons_zero,List.set_cons_succ,qat,qau]
               rfl
              refine qba (i:=1) (N:=some 87) (v:=?_) (a':=?_) #[true,true,true,false,true,false,false,true,false,false,false,false,false] rfl rfl (qaE HT_.out HW_.out (by kernel_rfl)) (fun _ _ _ h=>h) (Or.inl ⟨by rfl,?_⟩) hHeld ?_ ?_
              rotate_left
              ·rintro w' ⟨s0,s1,s2,s3,s4,s5,s6,s7,s8,s9,s10,s11,s12,s13⟩
               go_simp
               with_reducible rfl
              rotate_left
              ·simp only [Act.put,List.setIfInBounds_toArray,List.set_cons_zero,List.set_cons_succ,qat,qau]
               rfl
              refine qba (i:=3) (N:=some 89) (v:=?_) (a':=?_) #[true,true,true,true,true,false,false,true,false,false,false,false,false] rfl rfl (qaE HT_.out HW_.out (by kernel_rfl)) (fun _ _ _ h=>h) (Or.inl ⟨by rfl,?_⟩) hHeld ?_ ?_
              rotate_left
              ·rintro w' ⟨s0,s1,s2,s3,s4,s5,s6,s7,s8,s9,s10,s11,s12,s13⟩
               go_simp
               with_reducible rfl
              rotate_left
              ·simp only [Act.put,List.setIfInBounds_toArray,List.set_cons_zero,List.set_cons_succ,qat,qau]
               rfl
              refine qaC (i:=5) (N:=some 91) (v:=?_) (a':=?_) #[true,true,true,true,true,true,false,true,false,false,false,false,false] rfl rfl (qav HT_.out (by kernel_rfl)) (fun _ _ _ h=>h) (Or.inl ⟨by rfl,?_⟩) ?_ ?_
              rotate_left
              ·intro w'
               go_simp
               with_reducible rfl
              rotate_left
              ·simp only [Act.put,List.setIfInBounds_toArray,List.set_cons_zero,List.set_cons_succ,qat,qau]
               rfl
              refine qba (i:=6) (N:=some 92) (v:=?_) (a':=?_) #[true,true,true,true,true,true,true,true,false,false,false,false,false] rfl rfl (qaE HT_.out HW_.out (by kernel_rfl)) (fun _ _ _ h=>h) (Or.inl ⟨by rfl,?_⟩) hHeld ?_ ?_
              rotate_left
              ·rintro w' ⟨s0,s1,s2,s3,s4,s5,s6,s7,s8,s9,s10,s11,s12,s13⟩
               go_simp
               with_reducible rfl
              rotate_left
              ·simp only [Act.put,List.setIfInBounds_toArray,List.set_cons_zero,List.set_cons_succ,qat,qau]
               rfl
              refine one_ (i:=8) (N:=some 94) #[true,true,true,true,true,true,true,true,true,false,false,false,false] rfl rfl (one_of HT_.out (by kernel_rfl)) (by decide) (fun K hK=>?_)
              refine goes_ Tryd.func38 (by kernel_rfl) rfl #[.int .i64 (rd l0_5 x14_3),.int .i64 a2] (by rfl) rfl rfl (by (try simp only [List.map_toArray,List.map_cons,List.map_nil]);first|done|rfl|(simp only [List.length_drop,List.length_take];rfl)) ?_
              with_reducible refine (ostinatoref05_rest.calls (rd l0_5 x14_3) a2 t129 _ A59.out).mono ?_
              rintro e w' ⟨rfl,⟨nd,rfl⟩⟩
              refine⟨_,rfl,?_⟩
              refine hK.out _ _ ⟨(qab BK121.out 0).trans rfl,(qab BK121.out 1).trans rfl,(qab BK121.out 2).trans rfl,(qab BK121.out 3).trans rfl,(qab BK121.out 4).trans rfl,(qab BK121.out 5).trans rfl,(qab BK121.out 6).trans rfl,(qab BK114.out 0).trans rfl,(qab BK114.out 1).trans rfl,(qab BK114.out 2).trans rfl,(qab BK114.out 3).trans rfl,(qab BK114.out 4).trans rfl,(qab BK114.out 5).trans rfl,((HB.out.cell (bLt w _ hw128_0)).trans hw128_0)⟩ (fun hHeld=>?_)
              clear hK K
              refine norm_ (a':=?_) ?_ ?_
              rotate_left
              ·show Act.put _ (some 94) _=_
               simp only [Act.put,List.setIfInBounds_toArray,List.set_cons_zero,List.set_cons_succ,qat,qau]
               rfl
              refine one_ (i:=9) (N:=some 95) #[true,true,true,true,true,true,true,true,true,true,false,false,false] rfl rfl (one_of HT_.out (by kernel_rfl)) (by decide) (fun K hK=>?_)
              refine value_ (w1:=?_) (v:=?_) (by rfl) rfl ?_ ?_
              rotate_left 2
              ·go_simp
               constructor
               ·rfl
               ·rfl
              refine hK.out _ _ ⟨(qab (qac BK121.out _) 0).trans rfl,(qab (qac BK121.out _) 1).trans rfl,(qab (qac BK121.out _) 2).trans rfl,(qab (qac BK121.out _) 3).trans rfl,(qab (qac BK121.out _) 4).trans rfl,(qab (qac BK121.out _) 5).trans rfl,(qab (qac BK121.out _) 6).trans rfl,(qab (qac BK114.out _) 0).trans rfl,(qab (qac BK114.out _) 1).trans rfl,(qab (qac BK114.out _) 2).trans rfl,(qab (qac BK114.out _) 3).trans rfl,(qab (qac BK114.out _) 4).trans rfl,(qab (qac BK114.out _) 5).trans rfl,(World.cell?_alloc_lt _ _ _ (bLt _ _ (((HB.out.cell (bLt w _ hw128_0)).trans hw128_0)))).trans (((HB.out.cell (bLt w _ hw128_0)).trans hw128_0))⟩ (fun hHeld=>?_)
              clear hK K
              refine norm_ (a':=?_) ?_ ?_
              rotate_left
              ·show Act.put _ (some 95) _=_
               simp only [Act.put,List.setIfInBounds_toArray,List.set_cons_zero,List.set_cons_succ,qat,qau]
               rfl
              refine one_ (i:=10) (N:=some 96) #[true,true,true,true,true,true,true,true,true,true,true,false,false] rfl rfl (one_of HT_.out (by kernel_rfl)) (by decide) (fun K hK=>?_)
              refine Kd.R_append_step (Kd.int .i64) (w0:=w) w.heap.size (by rfl) (.tmp 87) (.tmp 95) 50 3 (.int .i64 0) 8 rfl Tryd.underlying50 info3 rfl (by decide) (by omega) u122006 x122006_3 t129 [.int .i64 t129] (fun _=>True) (fun _=>False) rfl rfl ?aP (fun _ hk=>hk.elim) ?aF ?aO ?aB ?aS ?aL ?_
              (case aP=>exact rfl)
              (case aB=>exact (by repeat (first|(with_reducible first|exact HB.out|apply qaj|apply qad|apply qai|refine qaf ?_ GE114.out|refine qaf ?_ GE115.out|refine qaf ?_ GE116.out|refine qaf ?_ GE121.out)|exact HB.out)))
              (case aF=>exact (fun _ _=>trivial))
              (case aO=>exact (by (with_reducible repeat (first|apply Kd.R_alloc|apply Kd.R_drewN|apply Kd.R_drew));exact HO_122006.out))
              (case aS=>exact (qao (by repeat (first|(with_reducible first|exact HB.out|apply qaj|apply qad|apply qai|refine qaf ?_ GE114.out|refine qaf ?_ GE115.out|refine qaf ?_ GE116.out|refine qaf ?_ GE121.out)|exact HB.out))))
              (case aL=>have:=LMc60.out;omega)
              intro v131 w66 ho hb hg hat
              rw [← Ny130.out] at ho
              have n0_:=qah.mk (Kd.R_over' (by (with_reducible repeat (first|apply Kd.R_alloc|apply Kd.R_drewN|apply Kd.R_drew));exact HO_122005.out) (Kd.R_typed (by (with_reducible repeat (first|apply Kd.R_alloc|apply Kd.R_drewN|apply Kd.R_drew));exact HO_122006.out)) (by decide) hg)
              have n1_:=qah.mk (qaM (g:=gb114) (o:=.cells #[.int .i64 a0_0,.int .i64 a0_1,.int .i64 a0_2,.int .i64 a0_3,.int .i64 a0_4,.slice (some ad128) l0_5.length c0_5] 59 (0,0)) (by (with_reducible repeat (first|refine qae ?_ _|refine qag ?_|refine qac ?_ _));exact BK114.out) hg (Kd.R_ne HO_122006.out BK114.out (by decide)))
              have n2_:=qah.mk (qaM (g:=gb115) (o:=.cells #[.int .i64 0,.int .i64 0,.int .i64 0,.int .i64 0,.int .i64 0,.slice none 0 0,.slice none 0 0] 52 (0,0)) (by (with_reducible repeat (first|refine qae ?_ _|refine qag ?_|refine qac ?_ _));exact BK115.out) hg (Kd.R_ne HO_122006.out BK115.out (by decide)))
              have n3_:=qah.mk (qaM (g:=gb116) (o:=.cells #[.int .i64 4,.int .i64 5,.int .i64 6,.int .i64 8,.int .i64 10,.int .i64 12,.int .i64 20,.int .i64 24] 123 (0,0)) (by (with_reducible repeat (first|refine qae ?_ _|refine qag ?_|refine qac ?_ _));exact BK116.out) hg (Kd.R_ne HO_122006.out BK116.out (by decide)))
              have n4_:=qah.mk (qaM (g:=gb121) (o:=.cells #[.int .i64 (wrap64 (a1+1)),.int .i64 (wrap64 (1+t119)),.int .i64 (wrap64 (1+t118)),.int .i64 (rd [4,5,6,8,10,12,20,24] (Go.bits .and .i64 a0_2 7)),.int .i64 (wrap64 ((wrap64 (10 * (wrap64 (1+t120))))+a1)),u122005,u122006] 52 (0,0)) (by (with_reducible repeat (first|refine qae ?_ _|refine qag ?_|refine qac ?_ _));exact BK121.out) hg (Kd.R_ne HO_122006.out BK121.out (by decide)))
              have n5_:=qah.mk (hb)
              have n6_:=qah.mk (ho)
              clear HO_122005
              clear BK114
              clear BK115
              clear BK116
              clear BK121
              clear HB
              clear HO_122006
              have HO_122005:=n0_
              have BK114:=n1_
              have BK115:=n2_
              have BK116:=n3_
              have BK121:=n4_
              have HB:=n5_
              have HO132:=n6_
              clear n0_ n1_ n2_ n3_ n4_ n5_ n6_
              clear ho hb hg hat
              obtain⟨Ao67,co67,eo67⟩:=Kd.R_slice HO132.out
              (first|subst eo67|(injection eo67 with f1_ f2_ f3_;have f4_:=f1_.symm;have f5_:=f3_.symm;clear f1_ f2_ f3_;subst f4_;subst f5_))
              refine hK.out _ _ ⟨(qab BK121.out 0).trans rfl,(qab BK121.out 1).trans rfl,(qab BK121.out 2).trans rfl,(qab BK121.out 3).trans rfl,(qab BK121.out 4).trans rfl,(qab BK121.out 5).trans rfl,(qab BK121.out 6).trans rfl,(qab BK114.out 0).trans rfl,(qab BK114.out 1).trans rfl,(qab BK114.out 2).trans rfl,(qab BK114.out 3).trans rfl,(qab BK114.out 4).trans rfl,(qab BK114.out 5).trans rfl,((HB.out.cell (bLt w _ hw128_0)).trans hw128_0)⟩ (fun hHeld=>?_)
              clear hK K
              refine norm_ (a':=?_) ?_ ?_
              rotate_left
              ·show Act.put _ (some 96) _=_
               simp only [Act.put,List.setIfInBounds_toArray,List.set_cons_zero,List.set_cons_succ,qat,qau]
               rfl
              refine qaC (i:=11) (N:=some 97) (v:=?_) (a':=?_) #[true,true,true,true,true,true,true,true,true,true,true,true,false] rfl rfl (qav HT_.out (by kernel_rfl)) (fun _ _ _ h=>h) (Or.inl ⟨by rfl,?_⟩) ?_ ?_
              rotate_left
              ·intro w'
               go_simp
               with_reducible rfl
              rotate_left
              ·simp only [Act.put,List.setIfInBounds_toArray,List.set_cons_zero,List.set_cons_succ,qat,qau]
               rfl
              refine last_ (i:=12) (N:=none) #[true,true,true,true,true,true,true,true,true,true,true,true,true] rfl rfl (one_of HT_.out (by kernel_rfl)) (by decide) (fun K hK=>?_)
              have hs68:w66.cell? ⟨gb121,6,none⟩=some (u122006):=(qab BK121.out 6).trans rfl
              have hfs68:=qaa BK121.out 6
              have hns68_0:=NB114_121.out
              have hns68_1:=NB115_121.out
              have hns68_2:=NB116_121.out
              have hms68_0:=NB121_114.out
              have hms68_1:=NB121_115.out
              have hms68_2:=NB121_116.out
              refine skip_ (w1:=?_) (by rfl) rfl ?_ ?_
              rotate_left
              ·go_simp
               rfl
              refine hK.out _ _ ?_
              clear hK K
              refine done_ (done_of HT_.out (by kernel_rfl)) ?_
              try go_wp2
              go_roundg k3
              case measure=>have:=HK1.out;have:=HJ45.out;have:=HK3.out;omega
              case rel=>exact⟨(wrap64 (x14_3+1)),(y130),(.slice Ao67 y130.length co67),(by first|rfl|(simp;done)|(simp [*];done)),H',⟨by have:=HK1.out;have:=HJ45.out;have:=HK3.out;omega⟩,⟨by (with_reducible repeat (first|apply Kd.R_alloc|apply Kd.R_drewN|apply Kd.R_drew));exact Kd.R_mono (Kd.R_far (p:=⟨gb121,6,none⟩) (Kd.R_types HO_122005.out BK121.out (by decide)) (fun _ hk=>hk.2) (.slice Ao67 y130.length co67)) (fun _ hk=>trivial)⟩,⟨by (with_reducible repeat (first|apply Kd.R_alloc|apply Kd.R_drewN|apply Kd.R_drew));exact Kd.R_mono (Kd.R_far (p:=⟨gb121,6,none⟩) (Kd.R_types HO132.out BK121.out (by decide)) (fun _ hk=>hk.2) (.slice Ao67 y130.length co67)) (fun _ hk=>trivial)⟩,⟨by (with_reducible repeat (first|refine qae ?_ _|refine qag ?_|refine qac ?_ _));refine qay ?_ NB114_121.out _;(with_reducible repeat (first|refine qae ?_ _|refine qag ?_|refine qac ?_ _));exact BK114.out⟩,⟨by (with_reducible repeat (first|refine qae ?_ _|refine qag ?_|refine qac ?_ _));refine qay ?_ NB115_121.out _;(with_reducible repeat (first|refine qae ?_ _|refine qag ?_|refine qac ?_ _));exact BK115.out⟩,⟨by (with_reducible repeat (first|refine qae ?_ _|refine qag ?_|refine qac ?_ _));refine qay ?_ NB116_121.out _;(with_reducible repeat (first|refine qae ?_ _|refine qag ?_|refine qac ?_ _));exact BK116.out⟩,⟨by (with_reducible repeat (first|refine qae ?_ _|refine qag ?_|refine qac ?_ _));refine qaz (cs:=#[.int .i64 (wrap64 (a1+1)),.int .i64 (wrap64 (1+t119)),.int .i64 (wrap64 (1+t118)),.int .i64 (rd [4,5,6,8,10,12,20,24] (Go.bits .and .i64 a0_2 7)),.int .i64 (wrap64 ((wrap64 (10 * (wrap64 (1+t120))))+a1)),u122005,u122006]) ?_ 6 _ rfl;(with_reducible repeat (first|refine qae ?_ _|refine qag ?_|refine qac ?_ _));exact BK121.out⟩,⟨by repeat (first|(with_reducible first|exact HB.out|apply qaj|apply qad|apply qai|refine qaf ?_ GE114.out|refine qaf ?_ GE115.out|refine qaf ?_ GE116.out|refine qaf ?_ GE121.out)|exact HB.out)⟩⟩
             ·rw [if_neg c60] at H
              exact absurd H (by simp)
            ·rw [if_neg c58] at H
             exact absurd H (by simp)
           ·rw [if_neg c57] at H
            have c57b0:decide (x14_3<5)=false:=decide_eq_false c57
            clear c57
            simp only [Option.some.injEq,Prod.mk.injEq] at H
            obtain⟨rfl,rfl,rfl,rfl,rfl,rfl,rfl⟩:=H
            have hnb69:=NB114_115.out
            have hnc69:=NB115_114.out
            have hnb70:=NB114_116.out
            have hnc70:=NB116_114.out
            have hnb71:=NB114_121.out
            have hnc71:=NB121_114.out
            have hcz72_0:wr.cell? ⟨gb114,0,none⟩=some (.int .i64 a0_0):=(qab BK114.out 0).trans rfl
            have hcz72_1:wr.cell? ⟨gb114,1,none⟩=some (.int .i64 a0_1):=(qab BK114.out 1).trans rfl
            have hcz72_2:wr.cell? ⟨gb114,2,none⟩=some (.int .i64 a0_2):=(qab BK114.out 2).trans rfl
            have hcz72_3:wr.cell? ⟨gb114,3,none⟩=some (.int .i64 a0_3):=(qab BK114.out 3).trans rfl
            have hcz72_4:wr.cell? ⟨gb114,4,none⟩=some (.int .i64 a0_4):=(qab BK114.out 4).trans rfl
            have hcz72_5:wr.cell? ⟨gb114,5,none⟩=some (.slice A0_5 l0_5.length c0_5):=(qab BK114.out 5).trans rfl
            have hfz72_0:=qaa BK114.out 0
            have hfz72_1:=qaa BK114.out 1
            have hfz72_2:=qaa BK114.out 2
            have hfz72_3:=qaa BK114.out 3
            have hfz72_4:=qaa BK114.out 4
            have hfz72_5:=qaa BK114.out 5
            have hnb73:=NB121_115.out
            have hnc73:=NB115_121.out
            have hnb74:=NB121_116.out
            have hnc74:=NB116_121.out
            have hcz75_0:wr.cell? ⟨gb121,0,none⟩=some (.int .i64 (wrap64 (a1+1))):=(qab BK121.out 0).trans rfl
            have hcz75_1:wr.cell? ⟨gb121,1,none⟩=some (.int .i64 (wrap64 (1+t119))):=(qab BK121.out 1).trans rfl
            have hcz75_2:wr.cell? ⟨gb121,2,none⟩=some (.int .i64 (wrap64 (1+t118))):=(qab BK121.out 2).trans rfl
            have hcz75_3:wr.cell? ⟨gb121,3,none⟩=some (.int .i64 (rd [4,5,6,8,10,12,20,24] (Go.bits .and .i64 a0_2 7))):=(qab BK121.out 3).trans rfl
            have hcz75_4:wr.cell? ⟨gb121,4,none⟩=some (.int .i64 (wrap64 ((wrap64 (10 * (wrap64 (1+t120))))+a1))):=(qab BK121.out 4).trans rfl
            have hcz75_5:wr.cell? ⟨gb121,5,none⟩=some (u122005):=(qab BK121.out 5).trans rfl
            have hcz75_6:wr.cell? ⟨gb121,6,none⟩=some (u122006):=(qab BK121.out 6).trans rfl
            have hfz75_0:=qaa BK121.out 0
            have hfz75_1:=qaa BK121.out 1
            have hfz75_2:=qaa BK121.out 2
            have hfz75_3:=qaa BK121.out 3
            have hfz75_4:=qaa BK121.out 4
            have hfz75_5:=qaa BK121.out 5
            have hfz75_6:=qaa BK121.out 6
            have hnb76:=NB115_116.out
            have hnc76:=NB116_115.out
            have hcz77_0:wr.cell? ⟨gb115,0,none⟩=some (.int .i64 0):=(qab BK115.out 0).trans rfl
            have hcz77_1:wr.cell? ⟨gb115,1,none⟩=some (.int .i64 0):=(qab BK115.out 1).trans rfl
            have hcz77_2:wr.cell? ⟨gb115,2,none⟩=some (.int .i64 0):=(qab BK115.out 2).trans rfl
            have hcz77_3:wr.cell? ⟨gb115,3,none⟩=some (.int .i64 0):=(qab BK115.out 3).trans rfl
            have hcz77_4:wr.cell? ⟨gb115,4,none⟩=some (.int .i64 0):=(qab BK115.out 4).trans rfl
            have hcz77_5:wr.cell? ⟨gb115,5,none⟩=some (.slice none 0 0):=(qab BK115.out 5).trans rfl
            have hcz77_6:wr.cell? ⟨gb115,6,none⟩=some (.slice none 0 0):=(qab BK115.out 6).trans rfl
            have hfz77_0:=qaa BK115.out 0
            have hfz77_1:=qaa BK115.out 1
            have hfz77_2:=qaa BK115.out 2
            have hfz77_3:=qaa BK115.out 3
            have hfz77_4:=qaa BK115.out 4
            have hfz77_5:=qaa BK115.out 5
            have hfz77_6:=qaa BK115.out 6
            obtain⟨Ao78,co78,eo78⟩:=Kd.R_slice HO_122005.out
            subst eo78
            obtain⟨Ao79,co79,eo79⟩:=Kd.R_slice HO_122006.out
            subst eo79
            go_wp2
            refine bodyPost_ret (results_cell_row rfl _ _ gb115 52 #[.int .i64 (wrap64 (a1+1)),.int .i64 (wrap64 (1+t119)),.int .i64 (wrap64 (1+t118)),.int .i64 (rd [4,5,6,8,10,12,20,24] (Go.bits .and .i64 a0_2 7)),.int .i64 (wrap64 ((wrap64 (10 * (wrap64 (1+t120))))+a1)),.slice Ao78 x122005_45.length co78,.slice Ao79 x122006_3.length co79] (0,0) _ rfl (by (with_reducible repeat (first|refine qae ?_ _|refine qag ?_|refine qac ?_ _));refine qaz (cs:=#[.int .i64 (wrap64 (a1+1)),.int .i64 (wrap64 (1+t119)),.int .i64 (wrap64 (1+t118)),.int .i64 (rd [4,5,6,8,10,12,20,24] (Go.bits .and .i64 a0_2 7)),.int .i64 (wrap64 ((wrap64 (10 * (wrap64 (1+t120))))+a1)),.slice Ao78 x122005_45.length co78,.slice none 0 0]) ?_ 6 _ rfl;(with_reducible repeat (first|refine qae ?_ _|refine qag ?_|refine qac ?_ _));refine qaz (cs:=#[.int .i64 (wrap64 (a1+1)),.int .i64 (wrap64 (1+t119)),.int .i64 (wrap64 (1+t118)),.int .i64 (rd [4,5,6,8,10,12,20,24] (Go.bits .and .i64 a0_2 7)),.int .i64 (wrap64 ((wrap64 (10 * (wrap64 (1+t120))))+a1)),.slice none 0 0,.slice none 0 0]) ?_ 5 _ rfl;(with_reducible repeat (first|refine qae ?_ _|refine qag ?_|refine qac ?_ _));refine qaz (cs:=#[.int .i64 (wrap64 (a1+1)),.int .i64 (wrap64 (1+t119)),.int .i64 (wrap64 (1+t118)),.int .i64 (rd [4,5,6,8,10,12,20,24] (Go.bits .and .i64 a0_2 7)),.int .i64 0,.slice none 0 0,.slice none 0 0]) ?_ 4 _ rfl;(with_reducible repeat (first|refine qae ?_ _|refine qag ?_|refine qac ?_ _));refine qaz (cs:=#[.int .i64 (wrap64 (a1+1)),.int .i64 (wrap64 (1+t119)),.int .i64 (wrap64 (1+t118)),.int .i64 0,.int .i64 0,.slice none 0 0,.slice none 0 0]) ?_ 3 _ rfl;(with_reducible repeat (first|refine qae ?_ _|refine qag ?_|refine qac ?_ _));refine qaz (cs:=#[.int .i64 (wrap64 (a1+1)),.int .i64 (wrap64 (1+t119)),.int .i64 0,.int .i64 0,.int .i64 0,.slice none 0 0,.slice none 0 0]) ?_ 2 _ rfl;(with_reducible repeat (first|refine qae ?_ _|refine qag ?_|refine qac ?_ _));refine qaz (cs:=#[.int .i64 (wrap64 (a1+1)),.int .i64 0,.int .i64 0,.int .i64 0,.int .i64 0,.slice none 0 0,.slice none 0 0]) ?_ 1 _ rfl;(with_reducible repeat (first|refine qae ?_ _|refine qag ?_|refine qac ?_ _));refine qaz (cs:=#[.int .i64 0,.int .i64 0,.int .i64 0,.int .i64 0,.int .i64 0,.slice none 0 0,.slice none 0 0]) ?_ 0 _ rfl;(with_reducible repeat (first|refine qae ?_ _|refine qag ?_|refine qac ?_ _));exact BK115.out) Tryd.underlying52 rfl (by kernel_rfl)) rfl ?_
            exact⟨_,_,by first|rfl|(simp [qaq,qap]<;>rfl)|(simp [bneNil,bneNilU]<;>rfl)|(simp [*,qaq,qap]<;>rfl),by (with_reducible repeat (first|apply Kd.R_alloc|apply Kd.R_drewN|apply Kd.R_drew));exact Kd.R_mono (Kd.R_far (p:=⟨gb115,6,none⟩) (Kd.R_far (p:=⟨gb115,5,none⟩) (Kd.R_far (p:=⟨gb115,4,none⟩) (Kd.R_far (p:=⟨gb115,3,none⟩) (Kd.R_far (p:=⟨gb115,2,none⟩) (Kd.R_far (p:=⟨gb115,1,none⟩) (Kd.R_far (p:=⟨gb115,0,none⟩) (Kd.R_types HO_122005.out BK115.out (by decide)) (fun _ hk=>hk.2) (.int .i64 (wrap64 (a1+1)))) (fun _ hk=>hk.2) (.int .i64 (wrap64 (1+t119)))) (fun _ hk=>hk.2) (.int .i64 (wrap64 (1+t118)))) (fun _ hk=>hk.2) (.int .i64 (rd [4,5,6,8,10,12,20,24] (Go.bits .and .i64 a0_2 7)))) (fun _ hk=>hk.2) (.int .i64 (wrap64 ((wrap64 (10 * (wrap64 (1+t120))))+a1)))) (fun _ hk=>hk.2) (.slice Ao78 x122005_45.length co78)) (fun _ hk=>hk.2) (.slice Ao79 x122006_3.length co79)) (fun _ hk=>trivial),by (with_reducible repeat (first|apply Kd.R_alloc|apply Kd.R_drewN|apply Kd.R_drew));exact Kd.R_mono (Kd.R_far (p:=⟨gb115,6,none⟩) (Kd.R_far (p:=⟨gb115,5,none⟩) (Kd.R_far (p:=⟨gb115,4,none⟩) (Kd.R_far (p:=⟨gb115,3,none⟩) (Kd.R_far (p:=⟨gb115,2,none⟩) (Kd.R_far (p:=⟨gb115,1,none⟩) (Kd.R_far (p:=⟨gb115,0,none⟩) (Kd.R_types HO_122006.out BK115.out (by decide)) (fun _ hk=>hk.2) (.int .i64 (wrap64 (a1+1)))) (fun _ hk=>hk.2) (.int .i64 (wrap64 (1+t119)))) (fun _ hk=>hk.2) (.int .i64 (wrap64 (1+t118)))) (fun _ hk=>hk.2) (.int .i64 (rd [4,5,6,8,10,12,20,24] (Go.bits .and .i64 a0_2 7)))) (fun _ hk=>hk.2) (.int .i64 (wrap64 ((wrap64 (10 * (wrap64 (1+t120))))+a1)))) (fun _ hk=>hk.2) (.slice Ao78 x122005_45.length co78)) (fun _ hk=>hk.2) (.slice Ao79 x122006_3.length co79)) (fun _ hk=>trivial),by repeat (first|(with_reducible first|exact HB.out|apply qaj|apply qad|apply qai|refine qaf ?_ GE114.out|refine qaf ?_ GE115.out|refine qaf ?_ GE116.out|refine qaf ?_ GE121.out)|exact HB.out)⟩
          ·rw [if_neg c56] at H
           have c56b0:decide (x14_3<(l0_5.length:Int))=false:=decide_eq_false c56
           clear c56
           simp only [Option.some.injEq,Prod.mk.injEq] at H
           obtain⟨rfl,rfl,rfl,rfl,rfl,rfl,rfl⟩:=H
           have hnb80:=NB114_115.out
           have hnc80:=NB115_114.out
           have hnb81:=NB114_116.out
           have hnc81:=NB116_114.out
           have hnb82:=NB114_121.out
           have hnc82:=NB121_114.out
           have hcz83_0:wr.cell? ⟨gb114,0,none⟩=some (.int .i64 a0_0):=(qab BK114.out 0).trans rfl
           have hcz83_1:wr.cell? ⟨gb114,1,none⟩=some (.int .i64 a0_1):=(qab BK114.out 1).trans rfl
           have hcz83_2:wr.cell? ⟨gb114,2,none⟩=some (.int .i64 a0_2):=(qab BK114.out 2).trans rfl
           have hcz83_3:wr.cell? ⟨gb114,3,none⟩=some (.int .i64 a0_3):=(qab BK114.out 3).trans rfl
           have hcz83_4:wr.cell? ⟨gb114,4,none⟩=some (.int .i64 a0_4):=(qab BK114.out 4).trans rfl
           have hcz83_5:wr.cell? ⟨gb114,5,none⟩=some (.slice A0_5 l0_5.length c0_5):=(qab BK114.out 5).trans rfl
           have hfz83_0:=qaa BK114.out 0
           have hfz83_1:=qaa BK114.out 1
           have hfz83_2:=qaa BK114.out 2
           have hfz83_3:=qaa BK114.out 3
           have hfz83_4:=qaa BK114.out 4
           have hfz83_5:=qaa BK114.out 5
           have hnb84:=NB121_115.out
           have hnc84:=NB115_121.out
           have hnb85:=NB121_116.out
           have hnc85:=NB116_121.out
           have hcz86_0:wr.cell? ⟨gb121,0,none⟩=some (.int .i64 (wrap64 (a1+1))):=(qab BK121.out 0).trans rfl
           have hcz86_1:wr.cell? ⟨gb121,1,none⟩=some (.int .i64 (wrap64 (1+t119))):=(qab BK121.out 1).trans rfl
           have hcz86_2:wr.cell? ⟨gb121,2,none⟩=some (.int .i64 (wrap64 (1+t118))):=(qab BK121.out 2).trans rfl
           have hcz86_3:wr.cell? ⟨gb121,3,none⟩=some (.int .i64 (rd [4,5,6,8,10,12,20,24] (Go.bits .and .i64 a0_2 7))):=(qab BK121.out 3).trans rfl
           have hcz86_4:wr.cell? ⟨gb121,4,none⟩=some (.int .i64 (wrap64 ((wrap64 (10 * (wrap64 (1+t120))))+a1))):=(qab BK121.out 4).trans rfl
           have hcz86_5:wr.cell? ⟨gb121,5,none⟩=some (u122005):=(qab BK121.out 5).trans rfl
           have hcz86_6:wr.cell? ⟨gb121,6,none⟩=some (u122006):=(qab BK121.out 6).trans rfl
           have hfz86_0:=qaa BK121.out 0
           have hfz86_1:=qaa BK121.out 1
           have hfz86_2:=qaa BK121.out 2
           have hfz86_3:=qaa BK121.out 3
           have hfz86_4:=qaa BK121.out 4
           have hfz86_5:=qaa BK121.out 5
           have hfz86_6:=qaa BK121.out 6
           have hnb87:=NB115_116.out
           have hnc87:=NB116_115.out
           have hcz88_0:wr.cell? ⟨gb115,0,none⟩=some (.int .i64 0):=(qab BK115.out 0).trans rfl
           have hcz88_1:wr.cell? ⟨gb115,1,none⟩=some (.int .i64 0):=(qab BK115.out 1).trans rfl
           have hcz88_2:wr.cell? ⟨gb115,2,none⟩=some (.int .i64 0):=(qab BK115.out 2).trans rfl
           have hcz88_3:wr.cell? ⟨gb115,3,none⟩=some (.int .i64 0):=(qab BK115.out 3).trans rfl
           have hcz88_4:wr.cell? ⟨gb115,4,none⟩=some (.int .i64 0):=(qab BK115.out 4).trans rfl
           have hcz88_5:wr.cell? ⟨gb115,5,none⟩=some (.slice none 0 0):=(qab BK115.out 5).trans rfl
           have hcz88_6:wr.cell? ⟨gb115,6,none⟩=some (.slice none 0 0):=(qab BK115.out 6).trans rfl
           have hfz88_0:=qaa BK115.out 0
           have hfz88_1:=qaa BK115.out 1
           have hfz88_2:=qaa BK115.out 2
           have hfz88_3:=qaa BK115.out 3
           have hfz88_4:=qaa BK115.out 4
           have hfz88_5:=qaa BK115.out 5
           have hfz88_6:=qaa BK115.out 6
           obtain⟨Ao89,co89,eo89⟩:=Kd.R_slice HO_122005.out
           subst eo89
           obtain⟨Ao90,co90,eo90⟩:=Kd.R_slice HO_122006.out
           subst eo90
           go_wp2
           refine bodyPost_ret (results_cell_row rfl _ _ gb115 52 #[.int .i64 (wrap64 (a1+1)),.int .i64 (wrap64 (1+t119)),.int .i64 (wrap64 (1+t118)),.int .i64 (rd [4,5,6,8,10,12,20,24] (Go.bits .and .i64 a0_2 7)),.int .i64 (wrap64 ((wrap64 (10 * (wrap64 (1+t120))))+a1)),.slice Ao89 x122005_45.length co89,.slice Ao90 x122006_3.length co90] (0,0) _ rfl (by (with_reducible repeat (first|refine qae ?_ _|refine qag ?_|refine qac ?_ _));refine qaz (cs:=#[.int .i64 (wrap64 (a1+1)),.int .i64 (wrap64 (1+t119)),.int .i64 (wrap64 (1+t118)),.int .i64 (rd [4,5,6,8,10,12,20,24] (Go.bits .and .i64 a0_2 7)),.int .i64 (wrap64 ((wrap64 (10 * (wrap64 (1+t120))))+a1)),.slice Ao89 x122005_45.length co89,.slice none 0 0]) ?_ 6 _ rfl;(with_reducible repeat (first|refine qae ?_ _|refine qag ?_|refine qac ?_ _));refine qaz (cs:=#[.int .i64 (wrap64 (a1+1)),.int .i64 (wrap64 (1+t119)),.int .i64 (wrap64 (1+t118)),.int .i64 (rd [4,5,6,8,10,12,20,24] (Go.bits .and .i64 a0_2 7)),.int .i64 (wrap64 ((wrap64 (10 * (wrap64 (1+t120))))+a1)),.slice none 0 0,.slice none 0 0]) ?_ 5 _ rfl;(with_reducible repeat (first|refine qae ?_ _|refine qag ?_|refine qac ?_ _));refine qaz (cs:=#[.int .i64 (wrap64 (a1+1)),.int .i64 (wrap64 (1+t119)),.int .i64 (wrap64 (1+t118)),.int .i64 (rd [4,5,6,8,10,12,20,24] (Go.bits .and .i64 a0_2 7)),.int .i64 0,.slice none 0 0,.slice none 0 0]) ?_ 4 _ rfl;(with_reducible repeat (first|refine qae ?_ _|refine qag ?_|refine qac ?_ _));refine qaz (cs:=#[.int .i64 (wrap64 (a1+1)),.int .i64 (wrap64 (1+t119)),.int .i64 (wrap64 (1+t118)),.int .i64 0,.int .i64 0,.slice none 0 0,.slice none 0 0]) ?_ 3 _ rfl;(with_reducible repeat (first|refine qae ?_ _|refine qag ?_|refine qac ?_ _));refine qaz (cs:=#[.int .i64 (wrap64 (a1+1)),.int .i64 (wrap64 (1+t119)),.int .i64 0,.int .i64 0,.int .i64 0,.slice none 0 0,.slice none 0 0]) ?_ 2 _ rfl;(with_reducible repeat (first|refine qae ?_ _|refine qag ?_|refine qac ?_ _));refine qaz (cs:=#[.int .i64 (wrap64 (a1+1)),.int .i64 0,.int .i64 0,.int .i64 0,.int .i64 0,.slice none 0 0,.slice none 0 0]) ?_ 1 _ rfl;(with_reducible repeat (first|refine qae ?_ _|refine qag ?_|refine qac ?_ _));refine qaz (cs:=#[.int .i64 0,.int .i64 0,.int .i64 0,.int .i64 0,.int .i64 0,.slice none 0 0,.slice none 0 0]) ?_ 0 _ rfl;(with_reducible repeat (first|refine qae ?_ _|refine qag ?_|refine qac ?_ _));exact BK115.out) Tryd.underlying52 rfl (by kernel_rfl)) rfl ?_
           exact⟨_,_,by first|rfl|(simp [qaq,qap]<;>rfl)|(simp [bneNil,bneNilU]<;>rfl)|(simp [*,qaq,qap]<;>rfl),by (with_reducible repeat (first|apply Kd.R_alloc|apply Kd.R_drewN|apply Kd.R_drew));exact Kd.R_mono (Kd.R_far (p:=⟨gb115,6,none⟩) (Kd.R_far (p:=⟨gb115,5,none⟩) (Kd.R_far (p:=⟨gb115,4,none⟩) (Kd.R_far (p:=⟨gb115,3,none⟩) (Kd.R_far (p:=⟨gb115,2,none⟩) (Kd.R_far (p:=⟨gb115,1,none⟩) (Kd.R_far (p:=⟨gb115,0,none⟩) (Kd.R_types HO_122005.out BK115.out (by decide)) (fun _ hk=>hk.2) (.int .i64 (wrap64 (a1+1)))) (fun _ hk=>hk.2) (.int .i64 (wrap64 (1+t119)))) (fun _ hk=>hk.2) (.int .i64 (wrap64 (1+t118)))) (fun _ hk=>hk.2) (.int .i64 (rd [4,5,6,8,10,12,20,24] (Go.bits .and .i64 a0_2 7)))) (fun _ hk=>hk.2) (.int .i64 (wrap64 ((wrap64 (10 * (wrap64 (1+t120))))+a1)))) (fun _ hk=>hk.2) (.slice Ao89 x122005_45.length co89)) (fun _ hk=>hk.2) (.slice Ao90 x122006_3.length co90)) (fun _ hk=>trivial),by (with_reducible repeat (first|apply Kd.R_alloc|apply Kd.R_drewN|apply Kd.R_drew));exact Kd.R_mono (Kd.R_far (p:=⟨gb115,6,none⟩) (Kd.R_far (p:=⟨gb115,5,none⟩) (Kd.R_far (p:=⟨gb115,4,none⟩) (Kd.R_far (p:=⟨gb115,3,none⟩) (Kd.R_far (p:=⟨gb115,2,none⟩) (Kd.R_far (p:=⟨gb115,1,none⟩) (Kd.R_far (p:=⟨gb115,0,none⟩) (Kd.R_types HO_122006.out BK115.out (by decide)) (fun _ hk=>hk.2) (.int .i64 (wrap64 (a1+1)))) (fun _ hk=>hk.2) (.int .i64 (wrap64 (1+t119)))) (fun _ hk=>hk.2) (.int .i64 (wrap64 (1+t118)))) (fun _ hk=>hk.2) (.int .i64 (rd [4,5,6,8,10,12,20,24] (Go.bits .and .i64 a0_2 7)))) (fun _ hk=>hk.2) (.int .i64 (wrap64 ((wrap64 (10 * (wrap64 (1+t120))))+a1)))) (fun _ hk=>hk.2) (.slice Ao89 x122005_45.length co89)) (fun _ hk=>hk.2) (.slice Ao90 x122006_3.length co90)) (fun _ hk=>trivial),by repeat (first|(with_reducible first|exact HB.out|apply qaj|apply qad|apply qai|refine qaf ?_ GE114.out|refine qaf ?_ GE115.out|refine qaf ?_ GE116.out|refine qaf ?_ GE121.out)|exact HB.out)⟩
  ·rw [if_neg c5] at H
   exact absurd H (by simp)
 ·rw [if_neg c4] at H
  exact absurd H (by simp)
end
end Go.Proofs.YtcfknijdhmildaaDoor.PParseReads
end
section
namespace Go.Proofs.YtcfknijdhmildaaDoor.PParseReads
open Go.RowKit Go.Proofs.YtcfknijdhmildaaDoorW.PrintWords Go.Proofs.YtcfknijdhmildaaDoorW.PrintLast Go.Proofs.YtcfknijdhmildaaDoorW.PrintMore
attribute [local go_sem] max2_int min2_int max_two min_two qa7 qa6 max_four min_four
set_option linter.unusedVariables false
set_option linter.unusedSimpArgs false
noncomputable section
def ostinatoref05_System_Made.l0:Nat→Int→Int→Int→List (S59)→Int→Int→List (S52)→Option (Int × Int × (List (S52)))
 |0,_,_,_,_,_,_,_=>none
 |k+1,x4,x134000,x134001,x134002,x137000,x137001,x137002=>if x4<(x134002.length:Int) then (if x4<6 then (if 0≤x4 then ((ostinatoref05_Num_task.f k ((qaK x134002 x4).f0) ((qaK x134002 x4).f1) ((qaK x134002 x4).f2) ((qaK x134002 x4).f3) ((qaK x134002 x4).f4) ((qaK x134002 x4).f5) x4 x137000).bind fun bt138=>(if x137002.length<1599289640401 then (ostinatoref05_System_Made.l0 k (wrap64 (x4+1)) x134000 x134001 x134002 x137000 x137001 (x137002++[(⟨bt138.1,bt138.2.1,bt138.2.2.1,bt138.2.2.2.1,bt138.2.2.2.2.1,bt138.2.2.2.2.2.1,bt138.2.2.2.2.2.2⟩:S52)])) else (none))) else (none)) else (if (x137002.length:Int)=0 then (some (x137000,x137001,(([(⟨1,1,4,4,10,([]:List Int),([]:List Int)⟩:S52)]:List (S52))))) else (some (x137000,x137001,x137002)))) else (if (x137002.length:Int)=0 then (some (x137000,x137001,(([(⟨1,1,4,4,10,([]:List Int),([]:List Int)⟩:S52)]:List (S52))))) else (some (x137000,x137001,x137002)))
def ostinatoref05_System_Made.f (k:Nat) (a0_0:Int) (a0_1:Int) (l0_2:List (S59)):Option (Int × Int × (List (S52))):=(ostinatoref05_rest.f a0_0 8).bind fun t135=>(ostinatoref05_System_Made.l0 k 0 a0_0 a0_1 l0_2 (wrap64 (1+t135)) (Go.bits .and .i64 a0_1 3) ([]:List (S52)))
def ostinatoref05_System_Made.T1:Bool × List (List Nat × List Nat):=(true,[([],[]),([0],[0]),([1],[1]),([2],[2]),([],[]),([4],[4]),([5],[5]),([3,6],[3,6]),([],[]),([8,7,2,0,1,2,3,4,5,6,7,8],[7,8])])
def ostinatoref05_System_Made.B1:List Nat:=[0,1,3,7,0,16,48,127,0,511]
theorem ostinatoref05_System_Made.tab1:rtab .any (opsOf Tryd.f19 1)=ostinatoref05_System_Made.T1:=by kernel_rfl
theorem ostinatoref05_System_Made.bits1:waitsOk ostinatoref05_System_Made.T1.2 ostinatoref05_System_Made.B1=true:=by kernel_rfl
def ostinatoref05_System_Made.T5:Bool × List (List Nat × List Nat):=(true,[([],[]),([0],[0]),([],[]),([2],[2]),([],[]),([3,4],[3,4]),([5],[5]),([],[]),([],[]),([8],[8]),([6,7,9],[6,7,9]),([10],[10]),([1,11,10],[1,11]),([0,1,2,3,4,5,6,7,8,9,10,11,12],[]),([13,12,12,0,1,2,3,4,5,6,7,8,9,10,11,12],[12,13])])
def ostinatoref05_System_Made.B5:List Nat:=[0,1,0,4,0,28,60,0,0,256,1020,2044,4095,8191,16383]
theorem ostinatoref05_System_Made.tab5:rtab .any (opsOf Tryd.f19 5)=ostinatoref05_System_Made.T5:=by kernel_rfl
theorem ostinatoref05_System_Made.bits5:waitsOk ostinatoref05_System_Made.T5.2 ostinatoref05_System_Made.B5=true:=by kernel_rfl
theorem ostinatoref05_System_Made.calls (k:Nat) (a0_0:Int) (a0_1:Int) (A0_2:Option Addr) (c0_2:Nat) (l0_2:List (S59)) (r1:Int) (r2:Int) (r3:List (S52)) (w:World) (hr0_2:Kd.C k59 w A0_2 l0_2.length l0_2) (hc0_2:l0_2.length≤c0_2) (h:ostinatoref05_System_Made.f k a0_0 a0_1 l0_2=some (r1,r2,r3)) :
  Calls Tryd.prog 19 #[.agg #[.int .i64 a0_0,.int .i64 a0_1,.slice A0_2 l0_2.length c0_2]] w fun e w'=>∃ v2_:Value,e=.returned (.agg #[.int .i64 r1,.int .i64 r2,v2_])∧Kd.S k52 52 w' w.heap.size (fun _=>True) v2_ r3∧Below w.heap.size w w':=by
 have hu57:=Tryd.underlying57
 have hu32:=Tryd.underlying32
 have hu59:=Tryd.underlying59
 have hu52:=Tryd.underlying52
 have HR0_2:=qah.mk hr0_2
 have HC0_2:=qah.mk hc0_2
 clear hr0_2 hc0_2
 have HB:=qah.mk (Below.refl w.heap.size w)
 have H:((ostinatoref05_rest.f a0_0 8).bind fun t135=>(ostinatoref05_System_Made.l0 k 0 a0_0 a0_1 l0_2 (wrap64 (1+t135)) (Go.bits .and .i64 a0_1 3) ([]:List (S52))))=some (r1,r2,r3):=h
 clear h
 replace H:=Option.bind_eq_some_iff.mp H
 obtain⟨t135,A20,H⟩:=H
 replace H:(ostinatoref05_System_Made.l0 k 0 a0_0 a0_1 l0_2 (wrap64 (1+t135)) (Go.bits .and .i64 a0_1 3) ([]:List (S52)))=some (r1,r2,r3):=H
 have A2:=qah.mk A20
 clear A20
 have H':=qah.mk H
 clear H
 go_enter Tryd.func19,Tryd.ntmps19
 try go_wp2_with (first|((with_reducible refine qaJ (N:=1) rfl ?_);refine qaG ?hg (N:=1) ?hd (cs:=#[.int .i64 a0_0,.int .i64 a0_1,.slice A0_2 l0_2.length c0_2]) (t:=57) ?hr ?_;(case hd=>rfl);(case hg=>rfl);(case hr=>first|(go_simp;done)|(go_simp;rfl));intro gb133 hg w3 hbox hb;have n0_:=qah.mk (qaw (by repeat (first|(with_reducible first|exact HB.out|apply qaj|apply qad|apply qai)|exact HB.out)) hb);have n1_:=qah.mk (hbox);have n2_:=qah.mk ((by rw [hg];exact (qao (by repeat (first|(with_reducible first|exact HB.out|apply qaj|apply qad|apply qai)|exact HB.out))):w.heap.size≤gb133));have n3_:=qah.mk ((by rw [hg];exact (qao (by repeat (first|(with_reducible first|exact HB.out|apply qaj|apply qad|apply qai)|exact HB.out))):w.heap.size≤gb133));clear HB;have HB:=n0_;have BK133:=n1_;have GW133:=n2_;have GE133:=n3_;clear n0_ n1_ n2_ n3_;clear hb hbox hg)|((with_reducible refine qaJ (N:=2) rfl ?_);refine qaG ?hg (N:=2) ?hd (cs:=#[.int .i64 0,.int .i64 0,.slice none 0 0]) (t:=32) ?hr ?_;(case hd=>rfl);(case hg=>rfl);(case hr=>first|(go_simp;done)|(go_simp;rfl));intro gb134 hg w4 hbox hb;have n0_:=qah.mk (qax (g:=gb133) (o:=.cells #[.int .i64 a0_0,.int .i64 a0_1,.slice A0_2 l0_2.length c0_2] 57 (0,0)) (by (with_reducible repeat (first|refine qae ?_ _|refine qag ?_|refine qac ?_ _));exact BK133.out) hb);have n1_:=qah.mk (qaw (by repeat (first|(with_reducible first|exact HB.out|apply qaj|apply qad|apply qai|refine qaf ?_ GE133.out)|exact HB.out)) hb);have n2_:=qah.mk (hbox);have n3_:=qah.mk ((by rw [hg];exact (qao (by repeat (first|(with_reducible first|exact HB.out|apply qaj|apply qad|apply qai|refine qaf ?_ GE133.out)|exact HB.out))):w.heap.size≤gb134));have n4_:=qah.mk ((by rw [hg];exact (qao (by repeat (first|(with_reducible first|exact HB.out|apply qaj|apply qad|apply qai|refine qaf ?_ GE133.out)|exact HB.out))):w.heap.size≤gb134));have n5_:=qah.mk ((by rw [hg];exact Nat.ne_of_lt (qaH (g:=gb133) (o:=.cells #[.int .i64 a0_0,.int .i64 a0_1,.slice A0_2 l0_2.length c0_2] 57 (0,0)) (by (with_reducible repeat (first|refine qae ?_ _|refine qag ?_|refine qac ?_ _));exact BK133.out)):gb133≠gb134));have n6_:=qah.mk ((by rw [hg];exact Nat.ne_of_gt (qaH (g:=gb133) (o:=.cells #[.int .i64 a0_0,.int .i64 a0_1,.slice A0_2 l0_2.length c0_2] 57 (0,0)) (by (with_reducible repeat (first|refine qae ?_ _|refine qag ?_|refine qac ?_ _));exact BK133.out)):gb134≠gb133));clear BK133;clear HB;have BK133:=n0_;have HB:=n1_;have BK134:=n2_;have GW134:=n3_;have GE134:=n4_;have NB133_134:=n5_;have NB134_133:=n6_;clear n0_ n1_ n2_ n3_ n4_ n5_ n6_;clear hb hbox hg))
 have n0_:=qah.mk (qag BK133.out)
 have n1_:=qah.mk (qag BK134.out)
 have n2_:=qah.mk (qai HB.out)
 clear BK133
 clear BK134
 clear HB
 have BK133:=n0_
 have BK134:=n1_
 have HB:=n2_
 clear n0_ n1_ n2_
 refine start_ (n:=10) (S:=fun w'=>w'.cell? ⟨gb133,0,none⟩=some (.int .i64 a0_0)∧w'.cell? ⟨gb133,1,none⟩=some (.int .i64 a0_1)∧w'.cell? ⟨gb133,2,none⟩=some (.slice A0_2 l0_2.length c0_2)) (ds:=[]) #[false,false,false,false,false,false,false,false,false,false] (by kernel_rfl) rfl rfl ⟨(qab BK133.out 0).trans rfl,(qab BK133.out 1).trans rfl,(qab BK133.out 2).trans rfl⟩ (fun hHeld=>?_);refine qa2 ostinatoref05_System_Made.tab1 ostinatoref05_System_Made.bits1 (fun HT_ HW_=>?_)
 generalize w4.drew=w5 at BK133 BK134 HB hHeld ⊢
 refine qaC (i:=0) (N:=some 5) (v:=?_) (a':=?_) #[true,false,false,false,false,false,false,false,false,false] rfl rfl (qav HT_.out (by kernel_rfl)) (fun _ _ _ h=>h) (Or.inl ⟨by rfl,?_⟩) ?_ ?_
 rotate_left
 ·intro w'
  go_simp
  with_reducible rfl
 rotate_left
 ·simp only [Act.put,List.setIfInBounds_toArray,List.set_cons_zero,List.set_cons_succ,qat,qau]
  rfl
 refine qaC (i:=4) (N:=some 9) (v:=?_) (a':=?_) #[true,false,false,false,true,false,false,false,false,false] rfl rfl (qav HT_.out (by kernel_rfl)) (fun _ _ _ h=>h) (Or.inl ⟨by rfl,?_⟩) ?_ ?_
 rotate_left
 ·intro w'
  go_simp
  with_reducible rfl
 rotate_left
 ·simp only [Act.put,List.setIfInBounds_toArray,List.set_cons_zero,List.set_cons_succ,qat,qau]
  rfl
 refine qba (i:=1) (N:=some 6) (v:=?_) (a':=?_) #[true,true,false,false,true,false,false,false,false,false] rfl rfl (qaE HT_.out HW_.out (by kernel_rfl)) (fun _ _ _ h=>h) (Or.inl ⟨by rfl,?_⟩) hHeld ?_ ?_
 rotate_left
 ·rintro w' ⟨s0,s1,s2⟩
  go_simp
  with_reducible rfl
 rotate_left
 ·simp only [Act.put,List.setIfInBounds_toArray,List.set_cons_zero,List.set_cons_succ,qat,qau]
  rfl
 refine qba (i:=5) (N:=some 10) (v:=?_) (a':=?_) #[true,true,false,false,true,true,false,false,false,false] rfl rfl (qaE HT_.out HW_.out (by kernel_rfl)) (fun _ _ _ h=>h) (Or.inl ⟨by rfl,?_⟩) hHeld ?_ ?_
 rotate_left
 ·rintro w' ⟨s0,s1,s2⟩
  go_simp
  with_reducible rfl
 rotate_left
 ·simp only [Act.put,List.setIfInBounds_toArray,List.set_cons_zero,List.set_cons_succ,qat,qau]
  rfl
 refine qaC (i:=6) (N:=some 11) (v:=?_) (a':=?_) #[true,true,false,false,true,true,true,false,false,false] rfl rfl (qav HT_.out (by kernel_rfl)) (fun _ _ _ h=>h) (Or.inl ⟨by rfl,?_⟩) ?_ ?_
 rotate_left
 ·intro w'
  go_simp
  with_reducible rfl
 rotate_left
 ·simp only [Act.put,List.setIfInBounds_toArray,List.set_cons_zero,List.set_cons_succ,qat,qau]
  rfl
 refine join_ (σ:=Nat) 1 #[true,true,true,true,true,true,true,true,true,false] (fun s_=>[(7,.int .i64 t135),(3,.pointer (some ⟨s_,0,none⟩)),(8,.int .i64 (wrap64 (1+t135))),(12,.agg #[.int .i64 (wrap64 (1+t135)),.int .i64 (Go.bits .and .i64 a0_1 3),.slice none 0 0])]) (fun s_ w'=>(w'.cell? ⟨gb133,0,none⟩=some (.int .i64 a0_0)∧w'.cell? ⟨gb133,1,none⟩=some (.int .i64 a0_1)∧w'.cell? ⟨gb133,2,none⟩=some (.slice A0_2 l0_2.length c0_2))∧(w'.heap[gb133]? = some (.cells #[.int .i64 a0_0,.int .i64 a0_1,.slice A0_2 l0_2.length c0_2] 57 (0,0)))∧(w'.heap[gb134]? = some (.cells #[.int .i64 0,.int .i64 0,.slice none 0 0] 32 (0,0)))∧(w'.heap[s_]? = some (.cells #[.int .i64 0,.int .i64 0,.slice none 0 0] 32 (0,0)))∧(w.heap.size≤s_)∧(w.heap.size≤s_)∧(gb133≠s_)∧(s_≠gb133)∧(gb134≠s_)∧(s_≠gb134)∧(Below w.heap.size w w')) ?_ ?_
 rotate_left
 ·intro hCont
  refine two_ (i:=2) (j:=8) (Ni:=some 7) (Nj:=some 3) #[true,true,true,false,true,true,true,false,false,false] #[true,true,false,false,true,true,true,false,true,false] rfl rfl rfl rfl (two_of HT_.out (by kernel_rfl)) (by decide) (by decide) (fun K hK=>?_) (fun K hK=>?_)
  ·skip
   refine goes_ Tryd.func38 (by kernel_rfl) rfl #[.int .i64 a0_0,.int .i64 8] (by rfl) rfl rfl (by (try simp only [List.map_toArray,List.map_cons,List.map_nil]);first|done|rfl|(simp only [List.length_drop,List.length_take];rfl)) ?_
   with_reducible refine (ostinatoref05_rest.calls a0_0 8 t135 _ A2.out).mono ?_
   rintro e w' ⟨rfl,⟨nd,rfl⟩⟩
   refine⟨_,rfl,?_⟩
   refine hK.out _ _ ⟨(qab BK133.out 0).trans rfl,(qab BK133.out 1).trans rfl,(qab BK133.out 2).trans rfl⟩ (fun hHeld=>?_)
   clear hK K
   refine norm_ (a':=?_) ?_ ?_
   rotate_left
   ·show Act.put _ (some 7) _=_
    simp only [Act.put,List.setIfInBounds_toArray,List.set_cons_zero,List.set_cons_succ,qat,qau]
    rfl
   refine qaC (i:=3) (N:=some 8) (v:=?_) (a':=?_) #[true,true,true,true,true,true,true,false,false,false] rfl rfl (qav HT_.out (by kernel_rfl)) (fun _ _ _ h=>h) (Or.inl ⟨by rfl,?_⟩) ?_ ?_
   rotate_left
   ·intro w'
    go_simp
    with_reducible rfl
   rotate_left
   ·simp only [Act.put,List.setIfInBounds_toArray,List.set_cons_zero,List.set_cons_succ,qat,qau]
    rfl
   refine qaC (i:=7) (N:=some 12) (v:=?_) (a':=?_) #[true,true,true,true,true,true,true,true,false,false] rfl rfl (qav HT_.out (by kernel_rfl)) (fun _ _ _ h=>h) (Or.inl ⟨by rfl,?_⟩) ?_ ?_
   rotate_left
   ·intro w'
    go_simp
    with_reducible rfl
   rotate_left
   ·simp only [Act.put,List.setIfInBounds_toArray,List.set_cons_zero,List.set_cons_succ,qat,qau]
    rfl
   refine one_ (i:=8) (N:=some 3) #[true,true,true,true,true,true,true,true,true,false] rfl rfl (one_of HT_.out (by kernel_rfl)) (by decide) (fun K hK=>?_)
   refine box_step ?hg (N:=3) ?hd (cs:=#[.int .i64 0,.int .i64 0,.slice none 0 0]) (t:=32) ?hr ?_;(case hd=>rfl);(case hg=>rfl);(case hr=>first|(go_simp;done)|(go_simp;rfl))
   intro gb136 hg w6 hbox hb
   have n0_:=qah.mk (qax (g:=gb133) (o:=.cells #[.int .i64 a0_0,.int .i64 a0_1,.slice A0_2 l0_2.length c0_2] 57 (0,0)) (by (with_reducible repeat (first|refine qae ?_ _|refine qag ?_|refine qac ?_ _));exact BK133.out) hb)
   have n1_:=qah.mk (qax (g:=gb134) (o:=.cells #[.int .i64 0,.int .i64 0,.slice none 0 0] 32 (0,0)) (by (with_reducible repeat (first|refine qae ?_ _|refine qag ?_|refine qac ?_ _));exact BK134.out) hb)
   have n2_:=qah.mk (qaw (by repeat (first|(with_reducible first|exact HB.out|apply qaj|apply qad|apply qai|refine qaf ?_ GE133.out|refine qaf ?_ GE134.out)|exact HB.out)) hb)
   have n3_:=qah.mk (hbox)
   have n4_:=qah.mk ((by rw [hg];exact (qao (by repeat (first|(with_reducible first|exact HB.out|apply qaj|apply qad|apply qai|refine qaf ?_ GE133.out|refine qaf ?_ GE134.out)|exact HB.out))):w.heap.size≤gb136))
   have n5_:=qah.mk ((by rw [hg];exact (qao (by repeat (first|(with_reducible first|exact HB.out|apply qaj|apply qad|apply qai|refine qaf ?_ GE133.out|refine qaf ?_ GE134.out)|exact HB.out))):w.heap.size≤gb136))
   have n6_:=qah.mk ((by rw [hg];exact Nat.ne_of_lt (qaH (g:=gb133) (o:=.cells #[.int .i64 a0_0,.int .i64 a0_1,.slice A0_2 l0_2.length c0_2] 57 (0,0)) (by (with_reducible repeat (first|refine qae ?_ _|refine qag ?_|refine qac ?_ _));exact BK133.out)):gb133≠gb136))
   have n7_:=qah.mk ((by rw [hg];exact Nat.ne_of_gt (qaH (g:=gb133) (o:=.cells #[.int .i64 a0_0,.int .i64 a0_1,.slice A0_2 l0_2.length c0_2] 57 (0,0)) (by (with_reducible repeat (first|refine qae ?_ _|refine qag ?_|refine qac ?_ _));exact BK133.out)):gb136≠gb133))
   have n8_:=qah.mk ((by rw [hg];exact Nat.ne_of_lt (qaH (g:=gb134) (o:=.cells #[.int .i64 0,.int .i64 0,.slice none 0 0] 32 (0,0)) (by (with_reducible repeat (first|refine qae ?_ _|refine qag ?_|refine qac ?_ _));exact BK134.out)):gb134≠gb136))
   have n9_:=qah.mk ((by rw [hg];exact Nat.ne_of_gt (qaH (g:=gb134) (o:=.cells #[.int .i64 0,.int .i64 0,.slice none 0 0] 32 (0,0)) (by (with_reducible repeat (first|refine qae ?_ _|refine qag ?_|refine qac ?_ _));exact BK134.out)):gb136≠gb134))
   clear BK133
   clear BK134
   clear HB
   have BK133:=n0_
   have BK134:=n1_
   have HB:=n2_
   have BK136:=n3_
   have GW136:=n4_
   have GE136:=n5_
   have NB133_136:=n6_
   have NB136_133:=n7_
   have NB134_136:=n8_
   have NB136_134:=n9_
   clear n0_ n1_ n2_ n3_ n4_ n5_ n6_ n7_ n8_ n9_
   clear hb hbox hg
   refine hK.out _ _ ⟨(qab BK133.out 0).trans rfl,(qab BK133.out 1).trans rfl,(qab BK133.out 2).trans rfl⟩ (fun hHeld=>?_)
   clear hK K
   refine norm_ (a':=?_) ?_ ?_
   rotate_left
   ·show Act.put _ (some 3) _=_
    simp only [Act.put,List.setIfInBounds_toArray,List.set_cons_zero,List.set_cons_succ,qat,qau]
    rfl
   exact norm_ (by simp only [putAll,Act.put,List.setIfInBounds_toArray,List.set_cons_zero,List.set_cons_succ]) (hCont (gb136) _ ⟨hHeld,(by (with_reducible repeat (first|refine qae ?_ _|refine qag ?_|refine qac ?_ _));exact BK133.out),(by (with_reducible repeat (first|refine qae ?_ _|refine qag ?_|refine qac ?_ _));exact BK134.out),(by (with_reducible repeat (first|refine qae ?_ _|refine qag ?_|refine qac ?_ _));exact BK136.out),GW136.out,GE136.out,NB133_136.out,NB136_133.out,NB134_136.out,NB136_134.out,(by repeat (first|(with_reducible first|exact HB.out|apply qaj|apply qad|apply qai|refine qaf ?_ GE133.out|refine qaf ?_ GE134.out|refine qaf ?_ GE136.out)|exact HB.out))⟩)
  ·skip
   refine box_step ?hg (N:=3) ?hd (cs:=#[.int .i64 0,.int .i64 0,.slice none 0 0]) (t:=32) ?hr ?_;(case hd=>rfl);(case hg=>rfl);(case hr=>first|(go_simp;done)|(go_simp;rfl))
   intro gb136 hg w6 hbox hb
   have n0_:=qah.mk (qax (g:=gb133) (o:=.cells #[.int .i64 a0_0,.int .i64 a0_1,.slice A0_2 l0_2.length c0_2] 57 (0,0)) (by (with_reducible repeat (first|refine qae ?_ _|refine qag ?_|refine qac ?_ _));exact BK133.out) hb)
   have n1_:=qah.mk (qax (g:=gb134) (o:=.cells #[.int .i64 0,.int .i64 0,.slice none 0 0] 32 (0,0)) (by (with_reducible repeat (first|refine qae ?_ _|refine qag ?_|refine qac ?_ _));exact BK134.out) hb)
   have n2_:=qah.mk (qaw (by repeat (first|(with_reducible first|exact HB.out|apply qaj|apply qad|apply qai|refine qaf ?_ GE133.out|refine qaf ?_ GE134.out)|exact HB.out)) hb)
   have n3_:=qah.mk (hbox)
   have n4_:=qah.mk ((by rw [hg];exact (qao (by repeat (first|(with_reducible first|exact HB.out|apply qaj|apply qad|apply qai|refine qaf ?_ GE133.out|refine qaf ?_ GE134.out)|exact HB.out))):w.heap.size≤gb136))
   have n5_:=qah.mk ((by rw [hg];exact (qao (by repeat (first|(with_reducible first|exact HB.out|apply qaj|apply qad|apply qai|refine qaf ?_ GE133.out|refine qaf ?_ GE134.out)|exact HB.out))):w.heap.size≤gb136))
   have n6_:=qah.mk ((by rw [hg];exact Nat.ne_of_lt (qaH (g:=gb133) (o:=.cells #[.int .i64 a0_0,.int .i64 a0_1,.slice A0_2 l0_2.length c0_2] 57 (0,0)) (by (with_reducible repeat (first|refine qae ?_ _|refine qag ?_|refine qac ?_ _));exact BK133.out)):gb133≠gb136))
   have n7_:=qah.mk ((by rw [hg];exact Nat.ne_of_gt (qaH (g:=gb133) (o:=.cells #[.int .i64 a0_0,.int .i64 a0_1,.slice A0_2 l0_2.length c0_2] 57 (0,0)) (by (with_reducible repeat (first|refine qae ?_ _|refine qag ?_|refine qac ?_ _));exact BK133.out)):gb136≠gb133))
   have n8_:=qah.mk ((by rw [hg];exact Nat.ne_of_lt (qaH (g:=gb134) (o:=.cells #[.int .i64 0,.int .i64 0,.slice none 0 0] 32 (0,0)) (by (with_reducible repeat (first|refine qae ?_ _|refine qag ?_|refine qac ?_ _));exact BK134.out)):gb134≠gb136))
   have n9_:=qah.mk ((by rw [hg];exact Nat.ne_of_gt (qaH (g:=gb134) (o:=.cells #[.int .i64 0,.int .i64 0,.slice none 0 0] 32 (0,0)) (by (with_reducible repeat (first|refine qae ?_ _|refine qag ?_|refine qac ?_ _));exact BK134.out)):gb136≠gb134))
   clear BK133
   clear BK134
   clear HB
   have BK133:=n0_
   have BK134:=n1_
   have HB:=n2_
   have BK136:=n3_
   have GW136:=n4_
   have GE136:=n5_
   have NB133_136:=n6_
   have NB136_133:=n7_
   have NB134_136:=n8_
   have NB136_134:=n9_
   clear n0_ n1_ n2_ n3_ n4_ n5_ n6_ n7_ n8_ n9_
   clear hb hbox hg
   refine hK.out _ _ ⟨(qab BK133.out 0).trans rfl,(qab BK133.out 1).trans rfl,(qab BK133.out 2).trans rfl⟩ (fun hHeld=>?_)
   clear hK K
   refine norm_ (a':=?_) ?_ ?_
   rotate_left
   ·show Act.put _ (some 3) _=_
    simp only [Act.put,List.setIfInBounds_toArray,List.set_cons_zero,List.set_cons_succ,qat,qau]
    rfl
   refine one_ (i:=2) (N:=some 7) #[true,true,true,false,true,true,true,false,true,false] rfl rfl (one_of HT_.out (by kernel_rfl)) (by decide) (fun K hK=>?_)
   refine goes_ Tryd.func38 (by kernel_rfl) rfl #[.int .i64 a0_0,.int .i64 8] (by rfl) rfl rfl (by (try simp only [List.map_toArray,List.map_cons,List.map_nil]);first|done|rfl|(simp only [List.length_drop,List.length_take];rfl)) ?_
   with_reducible refine (ostinatoref05_rest.calls a0_0 8 t135 _ A2.out).mono ?_
   rintro e w' ⟨rfl,⟨nd,rfl⟩⟩
   refine⟨_,rfl,?_⟩
   refine hK.out _ _ ⟨(qab BK133.out 0).trans rfl,(qab BK133.out 1).trans rfl,(qab BK133.out 2).trans rfl⟩ (fun hHeld=>?_)
   clear hK K
   refine norm_ (a':=?_) ?_ ?_
   rotate_left
   ·show Act.put _ (some 7) _=_
    simp only [Act.put,List.setIfInBounds_toArray,List.set_cons_zero,List.set_cons_succ,qat,qau]
    rfl
   refine qaC (i:=3) (N:=some 8) (v:=?_) (a':=?_) #[true,true,true,true,true,true,true,false,true,false] rfl rfl (qav HT_.out (by kernel_rfl)) (fun _ _ _ h=>h) (Or.inl ⟨by rfl,?_⟩) ?_ ?_
   rotate_left
   ·intro w'
    go_simp
    with_reducible rfl
   rotate_left
   ·simp only [Act.put,List.setIfInBounds_toArray,List.set_cons_zero,List.set_cons_succ,qat,qau]
    rfl
   refine qaC (i:=7) (N:=some 12) (v:=?_) (a':=?_) #[true,true,true,true,true,true,true,true,true,false] rfl rfl (qav HT_.out (by kernel_rfl)) (fun _ _ _ h=>h) (Or.inl ⟨by rfl,?_⟩) ?_ ?_
   rotate_left
   ·intro w'
    go_simp
    with_reducible rfl
   rotate_left
   ·simp only [Act.put,List.setIfInBounds_toArray,List.set_cons_zero,List.set_cons_succ,qat,qau]
    rfl
   exact norm_ (by simp only [putAll,Act.put,List.setIfInBounds_toArray,List.set_cons_zero,List.set_cons_succ]) (hCont (gb136) _ ⟨hHeld,(by (with_reducible repeat (first|refine qae ?_ _|refine qag ?_|refine qac ?_ _));exact BK133.out),(by (with_reducible repeat (first|refine qae ?_ _|refine qag ?_|refine qac ?_ _));exact BK134.out),(by (with_reducible repeat (first|refine qae ?_ _|refine qag ?_|refine qac ?_ _));exact BK136.out),GW136.out,GE136.out,NB133_136.out,NB136_133.out,NB134_136.out,NB136_134.out,(by repeat (first|(with_reducible first|exact HB.out|apply qaj|apply qad|apply qai|refine qaf ?_ GE133.out|refine qaf ?_ GE134.out|refine qaf ?_ GE136.out)|exact HB.out))⟩)
 rintro gb136 w7 ⟨hS_,h0_,h1_,h2_,h3_,h4_,h5_,h6_,h7_,h8_,h9_⟩
 have n0_:qah (w7.heap[gb133]? = some (.cells #[.int .i64 a0_0,.int .i64 a0_1,.slice A0_2 l0_2.length c0_2] 57 (0,0))):=⟨h0_⟩
 have n1_:qah (w7.heap[gb134]? = some (.cells #[.int .i64 0,.int .i64 0,.slice none 0 0] 32 (0,0))):=⟨h1_⟩
 have n2_:qah (w7.heap[gb136]? = some (.cells #[.int .i64 0,.int .i64 0,.slice none 0 0] 32 (0,0))):=⟨h2_⟩
 have n3_:qah (w.heap.size≤gb136):=⟨h3_⟩
 have n4_:qah (w.heap.size≤gb136):=⟨h4_⟩
 have n5_:qah (gb133≠gb136):=⟨h5_⟩
 have n6_:qah (gb136≠gb133):=⟨h6_⟩
 have n7_:qah (gb134≠gb136):=⟨h7_⟩
 have n8_:qah (gb136≠gb134):=⟨h8_⟩
 have n9_:qah (Below w.heap.size w w7):=⟨h9_⟩
 clear BK133
 clear BK134
 clear HB
 clear h0_ h1_ h2_ h3_ h4_ h5_ h6_ h7_ h8_ h9_
 have BK133:=n0_
 have BK134:=n1_
 have BK136:=n2_
 have GW136:=n3_
 have GE136:=n4_
 have NB133_136:=n5_
 have NB136_133:=n6_
 have NB134_136:=n7_
 have NB136_134:=n8_
 have HB:=n9_
 clear n0_ n1_ n2_ n3_ n4_ n5_ n6_ n7_ n8_ n9_
 have hHeld:w7.cell? ⟨gb133,0,none⟩=some (.int .i64 a0_0)∧w7.cell? ⟨gb133,1,none⟩=some (.int .i64 a0_1)∧w7.cell? ⟨gb133,2,none⟩=some (.slice A0_2 l0_2.length c0_2):=hS_
 refine norm_ (a':=?_) ?_ ?_
 rotate_left
 ·simp only [putAll,Act.put,List.setIfInBounds_toArray,List.set_cons_zero,List.set_cons_succ]
  rfl
 refine one_ (i:=9) (N:=none) #[true,true,true,true,true,true,true,true,true,true] rfl rfl (one_of HT_.out (by kernel_rfl)) (by decide) (fun K hK=>?_)
 have hs8:w7.cell? ⟨gb136,0,none⟩=some (.int .i64 0):=(qab BK136.out 0).trans rfl
 have hfs8:=qaa BK136.out 0
 have hns8_0:=NB133_136.out
 have hns8_1:=NB134_136.out
 have hms8_0:=NB136_133.out
 have hms8_1:=NB136_134.out
 have hs9:w7.cell? ⟨gb136,1,none⟩=some (.int .i64 0):=(qab BK136.out 1).trans rfl
 have hfs9:=qaa BK136.out 1
 have hns9_0:=NB133_136.out
 have hns9_1:=NB134_136.out
 have hms9_0:=NB136_133.out
 have hms9_1:=NB136_134.out
 have hs10:w7.cell? ⟨gb136,2,none⟩=some (.slice none 0 0):=(qab BK136.out 2).trans rfl
 have hfs10:=qaa BK136.out 2
 have hns10_0:=NB133_136.out
 have hns10_1:=NB134_136.out
 have hms10_0:=NB136_133.out
 have hms10_1:=NB136_134.out
 refine skip_ (w1:=?_) (by rfl) rfl ?_ ?_
 rotate_left
 ·go_simp
  rfl
 refine hK.out _ _ ⟨((cell_far (p:=⟨gb136,_,none⟩) NB133_136.out _).trans (((cell_far (p:=⟨gb136,_,none⟩) NB133_136.out _).trans (((cell_far (p:=⟨gb136,_,none⟩) NB133_136.out _).trans (hHeld.1)))))),((cell_far (p:=⟨gb136,_,none⟩) NB133_136.out _).trans (((cell_far (p:=⟨gb136,_,none⟩) NB133_136.out _).trans (((cell_far (p:=⟨gb136,_,none⟩) NB133_136.out _).trans (hHeld.2.1)))))),((cell_far (p:=⟨gb136,_,none⟩) NB133_136.out _).trans (((cell_far (p:=⟨gb136,_,none⟩) NB133_136.out _).trans (((cell_far (p:=⟨gb136,_,none⟩) NB133_136.out _).trans (hHeld.2.2))))))⟩ (fun hHeld=>?_)
 clear hK K
 refine done_ (done_of HT_.out (by kernel_rfl)) ?_
 try go_wp2
 go_loopg [4] k (fun kq v4 w'=>∃ (x4_1:Int) (x137002_1:List (S52)) (u137002:Value),v4=.int .i64 x4_1∧qah (ostinatoref05_System_Made.l0 kq x4_1 a0_0 a0_1 l0_2 (wrap64 (1+t135)) (Go.bits .and .i64 a0_1 3) x137002_1=some (r1,r2,r3))∧qah (kq≤k)∧qah (Kd.S k52 52 w' w.heap.size (fun _=>True) u137002 x137002_1)∧qah (w'.heap[gb133]? = some (.cells #[.int .i64 a0_0,.int .i64 a0_1,(.slice A0_2 l0_2.length c0_2)] 57 (0,0)))∧qah (w'.heap[gb134]? = some (.cells #[.int .i64 0,.int .i64 0,(.slice none 0 0)] 32 (0,0)))∧qah (w'.heap[gb136]? = some (.cells #[.int .i64 (wrap64 (1+t135)),.int .i64 (Go.bits .and .i64 a0_1 3),u137002] 32 (0,0)))∧qah (Below w.heap.size w w'))
 case atStart=>exact⟨(0),(([]:List (S52))),(.slice none 0 0),(by first|rfl|(simp;done)|(simp [*];done)),H',⟨Nat.le_refl _⟩,⟨by first|exact Kd.S_nil _ _ _ _ _|exact Kd.N_nil _ _ _ _ _|exact Kd.V_nil _ _ _ _ _|exact Kd.Q_nil _ _ _ _ _|exact Kd.R_nil _ _ _ _ _⟩,⟨by (with_reducible repeat (first|refine qae ?_ _|refine qag ?_|refine qac ?_ _));refine qay ?_ NB133_136.out _;(with_reducible repeat (first|refine qae ?_ _|refine qag ?_|refine qac ?_ _));refine qay ?_ NB133_136.out _;(with_reducible repeat (first|refine qae ?_ _|refine qag ?_|refine qac ?_ _));refine qay ?_ NB133_136.out _;(with_reducible repeat (first|refine qae ?_ _|refine qag ?_|refine qac ?_ _));exact BK133.out⟩,⟨by (with_reducible repeat (first|refine qae ?_ _|refine qag ?_|refine qac ?_ _));refine qay ?_ NB134_136.out _;(with_reducible repeat (first|refine qae ?_ _|refine qag ?_|refine qac ?_ _));refine qay ?_ NB134_136.out _;(with_reducible repeat (first|refine qae ?_ _|refine qag ?_|refine qac ?_ _));refine qay ?_ NB134_136.out _;(with_reducible repeat (first|refine qae ?_ _|refine qag ?_|refine qac ?_ _));exact BK134.out⟩,⟨by (with_reducible repeat (first|refine qae ?_ _|refine qag ?_|refine qac ?_ _));refine qaz (cs:=#[.int .i64 (wrap64 (1+t135)),.int .i64 (Go.bits .and .i64 a0_1 3),.slice none 0 0]) ?_ 2 _ rfl;(with_reducible repeat (first|refine qae ?_ _|refine qag ?_|refine qac ?_ _));refine qaz (cs:=#[.int .i64 (wrap64 (1+t135)),.int .i64 0,.slice none 0 0]) ?_ 1 _ rfl;(with_reducible repeat (first|refine qae ?_ _|refine qag ?_|refine qac ?_ _));refine qaz (cs:=#[.int .i64 0,.int .i64 0,.slice none 0 0]) ?_ 0 _ rfl;(with_reducible repeat (first|refine qae ?_ _|refine qag ?_|refine qac ?_ _));exact BK136.out⟩,⟨by repeat (first|(with_reducible first|exact HB.out|apply qaj|apply qad|apply qai|refine qaf ?_ GE133.out|refine qaf ?_ GE134.out|refine qaf ?_ GE136.out)|exact HB.out)⟩⟩
 case round=>
  clear H'
  try clear c1
  try clear p2
  try clear c3
  try clear p6
  obtain⟨x4_1,x137002_1,u137002,rfl,HA,HK1,HO_137002,BK133,BK134,BK136,HB⟩:=hrel
  cases gk with
  |zero=>exact absurd HA.out (by simp [ostinatoref05_System_Made.l0])
  |succ k1=>
   have H:=HA.out
   clear HA
   simp only [ostinatoref05_System_Made.l0] at H
   by_cases c11:x4_1<(l0_2.length:Int)
   ·rw [if_pos c11] at H
    have c11b0:decide (x4_1<(l0_2.length:Int))=true:=decide_eq_true c11
    clear c11
    by_cases c12:x4_1<6
    ·rw [if_pos c12] at H
     have c12b0:decide (x4_1<6)=true:=decide_eq_true c12
     clear c12
     by_cases c13:0≤x4_1
     ·rw [if_pos c13] at H
      have c13b0:decide (0≤x4_1)=true:=decide_eq_true c13
      clear c13
      replace H:=Option.bind_eq_some_iff.mp H
      obtain⟨⟨t138,t139,t140,t141,t142,t143,t146⟩,A140,H⟩:=H
      replace H:(if x137002_1.length<1599289640401 then (ostinatoref05_System_Made.l0 k1 (wrap64 (x4_1+1)) a0_0 a0_1 l0_2 (wrap64 (1+t135)) (Go.bits .and .i64 a0_1 3) (x137002_1++[(⟨t138,t139,t140,t141,t142,t143,t146⟩:S52)])) else (none))=some (r1,r2,r3):=H
      have A14:=qah.mk A140
      clear A140
      by_cases c15:x137002_1.length<1599289640401
      ·rw [if_pos c15] at H
       have LMc15:=qah.mk c15
       clear c15
       obtain⟨y149,hy149⟩:∃ y_:List (S52),y_=(x137002_1++[(⟨t138,t139,t140,t141,t142,t143,t146⟩:S52)]):=⟨_,rfl⟩
       replace H:(ostinatoref05_System_Made.l0 k1 (wrap64 (x4_1+1)) a0_0 a0_1 l0_2 (wrap64 (1+t135)) (Go.bits .and .i64 a0_1 3) y149)=some (r1,r2,r3):=by first|(rw [hy149];with_reducible exact H)|(have H2_:=(Option.bind_some _ _).symm.trans H;rw [hy149];with_reducible exact H2_)|(have H2_:=(Option.bind_some _ _).symm.trans H;with_reducible exact H2_)|with_reducible exact H|(rw [hy149];exact H)|exact H
       have Ny149:=qah.mk hy149
       clear hy149
       have H':=qah.mk H
       clear H
       have hnb16:=NB133_134.out
       have hnc16:=NB134_133.out
       have hnb17:=NB133_136.out
       have hnc17:=NB136_133.out
       have hcz18_0:wr.cell? ⟨gb133,0,none⟩=some (.int .i64 a0_0):=(qab BK133.out 0).trans rfl
       have hcz18_1:wr.cell? ⟨gb133,1,none⟩=some (.int .i64 a0_1):=(qab BK133.out 1).trans rfl
       have hcz18_2:wr.cell? ⟨gb133,2,none⟩=some (.slice A0_2 l0_2.length c0_2):=(qab BK133.out 2).trans rfl
       have hfz18_0:=qaa BK133.out 0
       have hfz18_1:=qaa BK133.out 1
       have hfz18_2:=qaa BK133.out 2
       try go_wp2
       have n0_:=qah.mk (Kd.S_drew HO_137002.out)
       have n1_:=qah.mk (qag BK133.out)
       have n2_:=qah.mk (qag BK134.out)
       have n3_:=qah.mk (qag BK136.out)
       have n4_:=qah.mk (qai HB.out)
       clear HO_137002
       clear BK133
       clear BK134
       clear BK136
       clear HB
       have HO_137002:=n0_
       have BK133:=n1_
       have BK134:=n2_
       have BK136:=n3_
       have HB:=n4_
       clear n0_ n1_ n2_ n3_ n4_
       have p137:0≤(x4_1:Int):=of_decide_eq_true (by first|(with_reducible assumption)|assumption)
       have q137:x4_1<(l0_2.length:Int):=of_decide_eq_true (by first|(with_reducible assumption)|assumption)
       obtain⟨ad137,A137_5,c137_5,e137,hx137_0,hx137_1,hx137_2,hx137_3,hx137_4,hx137_5,hl137_5,hi137_5⟩:=at_T59 HR0_2.out x4_1 p137 q137
       have hw137_5:=hx137_5
       have hw137_4:=hx137_4
       have hw137_3:=hx137_3
       have hw137_2:=hx137_2
       have hw137_1:=hx137_1
       have hw137_0:=hx137_0
       cases e137
       replace hx137_0:=(HB.out.cell (bLt w _ hx137_0)).trans hx137_0
       replace hx137_1:=(HB.out.cell (bLt w _ hx137_1)).trans hx137_1
       replace hx137_2:=(HB.out.cell (bLt w _ hx137_2)).trans hx137_2
       replace hx137_3:=(HB.out.cell (bLt w _ hx137_3)).trans hx137_3
       replace hx137_4:=(HB.out.cell (bLt w _ hx137_4)).trans hx137_4
       replace hx137_5:=(HB.out.cell (bLt w _ hx137_5)).trans hx137_5
       have HR137_5:=qah.mk hi137_5
       have HC137_5:=qah.mk hl137_5
       clear hi137_5 hl137_5
       replace p137:=eq_true p137
       replace q137:=eq_true q137
       refine start_ (n:=15) (S:=fun w'=>w'.cell? ⟨gb136,0,none⟩=some (.int .i64 (wrap64 (1+t135)))∧w'.cell? ⟨gb136,1,none⟩=some (.int .i64 (Go.bits .and .i64 a0_1 3))∧w'.cell? ⟨gb136,2,none⟩=some (u137002)∧w'.cell? ⟨gb133,0,none⟩=some (.int .i64 a0_0)∧w'.cell? ⟨gb133,1,none⟩=some (.int .i64 a0_1)∧w'.cell? ⟨gb133,2,none⟩=some (.slice (some ad137) l0_2.length c0_2)∧w'.cell? (ad137.add ((x4_1).toNat * 6))=some (.int .i64 ((qaK l0_2 x4_1).f0))∧w'.cell? ⟨(ad137.add ((x4_1).toNat * 6)).block,(ad137.add ((x4_1).toNat * 6)).off+1,none⟩=some (.int .i64 ((qaK l0_2 x4_1).f1))∧w'.cell? ⟨(ad137.add ((x4_1).toNat * 6)).block,(ad137.add ((x4_1).toNat * 6)).off+2,none⟩=some (.int .i64 ((qaK l0_2 x4_1).f2))∧w'.cell? ⟨(ad137.add ((x4_1).toNat * 6)).block,(ad137.add ((x4_1).toNat * 6)).off+3,none⟩=some (.int .i64 ((qaK l0_2 x4_1).f3))∧w'.cell? ⟨(ad137.add ((x4_1).toNat * 6)).block,(ad137.add ((x4_1).toNat * 6)).off+4,none⟩=some (.int .i64 ((qaK l0_2 x4_1).f4))∧w'.cell? ⟨(ad137.add ((x4_1).toNat * 6)).block,(ad137.add ((x4_1).toNat * 6)).off+5,none⟩=some (.slice A137_5 ((qaK l0_2 x4_1).f5).length c137_5)) (ds:=[14]) #[false,false,false,false,false,false,false,false,false,false,false,false,false,false,false] (by kernel_rfl) rfl rfl ⟨(qab BK136.out 0).trans rfl,(qab BK136.out 1).trans rfl,(qab BK136.out 2).trans rfl,(qab BK133.out 0).trans rfl,(qab BK133.out 1).trans rfl,(qab BK133.out 2).trans rfl,((HB.out.cell (bLt w _ hw137_0)).trans hw137_0),((HB.out.cell (bLt w _ hw137_1)).trans hw137_1),((HB.out.cell (bLt w _ hw137_2)).trans hw137_2),((HB.out.cell (bLt w _ hw137_3)).trans hw137_3),((HB.out.cell (bLt w _ hw137_4)).trans hw137_4),((HB.out.cell (bLt w _ hw137_5)).trans hw137_5)⟩ (fun hHeld=>?_);refine qa2 ostinatoref05_System_Made.tab5 ostinatoref05_System_Made.bits5 (fun HT_ HW_=>?_)
       generalize wr.drew=w19 at HO_137002 BK133 BK134 BK136 HB HR137_5 hx137_0 hx137_1 hx137_2 hx137_3 hx137_4 hx137_5 hHeld ⊢
       refine qaC (i:=0) (N:=some 24) (v:=?_) (a':=?_) #[true,false,false,false,false,false,false,false,false,false,false,false,false,false,false] rfl rfl (qav HT_.out (by kernel_rfl)) (fun _ _ _ h=>h) (Or.inl ⟨by rfl,?_⟩) ?_ ?_
       rotate_left
       ·intro w'
        go_simp
        with_reducible rfl
       rotate_left
       ·simp only [Act.put,List.setIfInBounds_toArray,List.set_cons_zero,List.set_cons_succ,qat,qau]
        rfl
       refine qaC (i:=2) (N:=some 26) (v:=?_) (a':=?_) #[true,false,true,false,false,false,false,false,false,false,false,false,false,false,false] rfl rfl (qav HT_.out (by kernel_rfl)) (fun _ _ _ h=>h) (Or.inl ⟨by rfl,?_⟩) ?_ ?_
       rotate_left
       ·intro w'
        go_simp
        with_reducible rfl
       rotate_left
       ·simp only [Act.put,List.setIfInBounds_toArray,List.set_cons_zero,List.set_cons_succ,qat,qau]
        rfl
       refine qaC (i:=4) (N:=some 28) (v:=?_) (a':=?_) #[true,false,true,false,true,false,false,false,false,false,false,false,false,false,false] rfl rfl (qav HT_.out (by kernel_rfl)) (fun _ _ _ h=>h) (Or.inl ⟨by rfl,?_⟩) ?_ ?_
       rotate_left
       ·intro w'
        go_simp
        with_reducible rfl
       rotate_left
       ·simp only [Act.put,List.setIfInBounds_toArray,List.set_cons_zero,List.set_cons_succ,qat,qau]
        rfl
       refine qaC (i:=7) (N:=some 31) (v:=?_) (a':=?_) #[true,false,true,false,true,false,false,true,false,false,false,false,false,false,false] rfl rfl (qav HT_.out (by kernel_rfl)) (fun _ _ _ h=>h) (Or.inl ⟨by rfl,?_⟩) ?_ ?_
       rotate_left
       ·intro w'
        go_simp
        with_reducible rfl
       rotate_left
       ·simp only [Act.put,List.setIfInBounds_toArray,List.set_cons_zero,List.set_cons_succ,qat,qau]
        rfl
       refine qaC (i:=8) (N:=some 32) (v:=?_) (a':=?_) #[true,false,true,false,true,false,false,true,true,false,false,false,false,false,false] rfl rfl (qav HT_.out (by kernel_rfl)) (fun _ _ _ h=>h) (Or.inl ⟨by rfl,?_⟩) ?_ ?_
       rotate_left
       ·intro w'
        go_simp
        with_reducible rfl
       rotate_left
       ·simp only [Act.put,List.setIfInBounds_toArray,List.set_cons_zero,List.set_cons_succ,qat,qau]
        rfl
       refine qba (i:=1) (N:=some 25) (v:=?_) (a':=?_) #[true,true,true,false,true,false,false,true,true,false,false,false,false,false,false] rfl rfl (qaE HT_.out HW_.out (by kernel_rfl)) (fun _ _ _ h=>h) (Or.inl ⟨by rfl,?_⟩) hHeld ?_ ?_
       rotate_left
       ·rintro w' ⟨s0,s1,s2,s3,s4,s5,s6,s7,s8,s9,s10,s11⟩
        go_simp
        with_reducible rfl
       rotate_left
       ·simp only [Act.put,List.setIfInBounds_toArray,List.set_cons_zero,List.set_cons_succ,qat,qau]
        rfl
       refine qba (i:=3) (N:=some 27) (v:=?_) (a':=?_) #[true,true,true,true,true,false,false,true,true,false,false,false,false,false,false] rfl rfl (qaE HT_.out HW_.out (by kernel_rfl)) (fun _ _ _ h=>h) (Or.inl ⟨by rfl,?_⟩) hHeld ?_ ?_
       rotate_left
       ·rintro w' ⟨s0,s1,s2,s3,s4,s5,s6,s7,s8,s9,s10,s11⟩
        go_simp
        with_reducible rfl
       rotate_left
       ·simp only [Act.put,List.setIfInBounds_toArray,List.set_cons_zero,List.set_cons_succ,qat,qau]
        rfl
       refine qaC (i:=5) (N:=some 29) (v:=?_) (a':=?_) #[true,true,true,true,true,true,false,true,true,false,false,false,false,false,false] rfl rfl (qav HT_.out (by kernel_rfl)) (fun _ _ _ h=>h) (Or.inl ⟨by rfl,?_⟩) ?_ ?_
       rotate_left
       ·intro w'
        go_simp
        with_reducible rfl
       rotate_left
       ·simp only [Act.put,List.setIfInBounds_toArray,List.set_cons_zero,List.set_cons_succ,qat,qau]
        rfl
       refine qba (i:=6) (N:=some 30) (v:=?_) (a':=?_) #[true,true,true,true,true,true,true,true,true,false,false,false,false,false,false] rfl rfl (qaE HT_.out HW_.out (by kernel_rfl)) (fun _ _ _ h=>h) (Or.inl ⟨by rfl,?_⟩) hHeld ?_ ?_
       rotate_left
       ·rintro w' ⟨s0,s1,s2,s3,s4,s5,s6,s7,s8,s9,s10,s11⟩
        go_simp
        with_reducible rfl
       rotate_left
       ·simp only [Act.put,List.setIfInBounds_toArray,List.set_cons_zero,List.set_cons_succ,qat,qau]
        rfl
       refine qba (i:=9) (N:=some 33) (v:=?_) (a':=?_) #[true,true,true,true,true,true,true,true,true,true,false,false,false,false,false] rfl rfl (qaE HT_.out HW_.out (by kernel_rfl)) (fun _ _ _ h=>h) (Or.inl ⟨by rfl,?_⟩) hHeld ?_ ?_
       rotate_left
       ·rintro w' ⟨s0,s1,s2,s3,s4,s5,s6,s7,s8,s9,s10,s11⟩
        go_simp
        with_reducible rfl
       rotate_left
       ·simp only [Act.put,List.setIfInBounds_toArray,List.set_cons_zero,List.set_cons_succ,qat,qau]
        rfl
       refine one_ (i:=10) (N:=some 34) #[true,true,true,true,true,true,true,true,true,true,true,false,false,false,false] rfl rfl (one_of HT_.out (by kernel_rfl)) (by decide) (fun K hK=>?_)
       refine goes_ Tryd.func39 (by kernel_rfl) rfl #[.agg #[.int .i64 ((qaK l0_2 x4_1).f0),.int .i64 ((qaK l0_2 x4_1).f1),.int .i64 ((qaK l0_2 x4_1).f2),.int .i64 ((qaK l0_2 x4_1).f3),.int .i64 ((qaK l0_2 x4_1).f4),.slice A137_5 ((qaK l0_2 x4_1).f5).length c137_5],.int .i64 x4_1,.int .i64 (wrap64 (1+t135))] (by rfl) rfl rfl (by (try simp only [List.map_toArray,List.map_cons,List.map_nil]);first|done|rfl|(simp only [List.length_drop,List.length_take];rfl)) ?_
       with_reducible refine (ostinatoref05_Num_task.calls k1 ((qaK l0_2 x4_1).f0) ((qaK l0_2 x4_1).f1) ((qaK l0_2 x4_1).f2) ((qaK l0_2 x4_1).f3) ((qaK l0_2 x4_1).f4) _ _ ((qaK l0_2 x4_1).f5) x4_1 (wrap64 (1+t135)) t138 t139 t140 t141 t142 t143 t146 _ ?side1 ?side2 A14.out).mono ?_
       (case side1=>repeat (first|exact (Kd.C_below HR137_5.out HB.out)|(with_reducible refine Kd.C_alloc ?_ _)|(with_reducible refine Kd.C_drewN ?_ _)|(with_reducible refine Kd.C_drew ?_)))
       (case side2=>exact HC137_5.out)
       rintro e w20 ⟨v144,v147,rfl,ho0,ho1,hb⟩
       refine⟨_,rfl,?_⟩
       have n0_:=qah.mk (Kd.S_mono (Kd.S_told (Kd.S_told (Kd.S_old (by (with_reducible repeat (first|apply Kd.S_alloc|apply Kd.S_drewN|apply Kd.S_drew));exact HO_137002.out) hb) (Kd.R_base ho0)) (Kd.R_base ho1)) (fun _ h_=>h_.1))
       have n1_:=qah.mk (Kd.R_lower ho0 (qao (by repeat (first|(with_reducible first|exact HB.out|apply qaj|apply qad|apply qai|refine qaf ?_ GE133.out|refine qaf ?_ GE134.out|refine qaf ?_ GE136.out)|exact HB.out))))
       have n2_:=qah.mk (Kd.R_lower ho1 (qao (by repeat (first|(with_reducible first|exact HB.out|apply qaj|apply qad|apply qai|refine qaf ?_ GE133.out|refine qaf ?_ GE134.out|refine qaf ?_ GE136.out)|exact HB.out))))
       have n3_:=qah.mk (qax (g:=gb133) (o:=.cells #[.int .i64 a0_0,.int .i64 a0_1,.slice (some ad137) l0_2.length c0_2] 57 (0,0)) (by (with_reducible repeat (first|refine qae ?_ _|refine qag ?_|refine qac ?_ _));exact BK133.out) hb)
       have n4_:=qah.mk (qax (g:=gb134) (o:=.cells #[.int .i64 0,.int .i64 0,.slice none 0 0] 32 (0,0)) (by (with_reducible repeat (first|refine qae ?_ _|refine qag ?_|refine qac ?_ _));exact BK134.out) hb)
       have n5_:=qah.mk (qax (g:=gb136) (o:=.cells #[.int .i64 (wrap64 (1+t135)),.int .i64 (Go.bits .and .i64 a0_1 3),u137002] 32 (0,0)) (by (with_reducible repeat (first|refine qae ?_ _|refine qag ?_|refine qac ?_ _));exact BK136.out) hb)
       have n6_:=qah.mk (qaw (by repeat (first|(with_reducible first|exact HB.out|apply qaj|apply qad|apply qai|refine qaf ?_ GE133.out|refine qaf ?_ GE134.out|refine qaf ?_ GE136.out)|exact HB.out)) hb)
       clear HO_137002
       clear BK133
       clear BK134
       clear BK136
       clear HB
       have HO_137002:=n0_
       have HO145:=n1_
       have HO148:=n2_
       have BK133:=n3_
       have BK134:=n4_
       have BK136:=n5_
       have HB:=n6_
       clear n0_ n1_ n2_ n3_ n4_ n5_ n6_
       (try clear hb)
       (try clear hb2)
       (try clear hk)
       (try clear hi)
       (try clear ho0)
       (try clear ho1)
       obtain⟨Ao22,co22,eo22⟩:=Kd.R_slice HO145.out
       (first|subst eo22|(injection eo22 with f1_ f2_ f3_;have f4_:=f1_.symm;have f5_:=f3_.symm;clear f1_ f2_ f3_;subst f4_;subst f5_))
       obtain⟨Ao23,co23,eo23⟩:=Kd.R_slice HO148.out
       (first|subst eo23|(injection eo23 with f1_ f2_ f3_;have f4_:=f1_.symm;have f5_:=f3_.symm;clear f1_ f2_ f3_;subst f4_;subst f5_))
       refine hK.out _ _ ⟨(qab BK136.out 0).trans rfl,(qab BK136.out 1).trans rfl,(qab BK136.out 2).trans rfl,(qab BK133.out 0).trans rfl,(qab BK133.out 1).trans rfl,(qab BK133.out 2).trans rfl,((HB.out.cell (bLt w _ hw137_0)).trans hw137_0),((HB.out.cell (bLt w _ hw137_1)).trans hw137_1),((HB.out.cell (bLt w _ hw137_2)).trans hw137_2),((HB.out.cell (bLt w _ hw137_3)).trans hw137_3),((HB.out.cell (bLt w _ hw137_4)).trans hw137_4),((HB.out.cell (bLt w _ hw137_5)).trans hw137_5)⟩ (fun hHeld=>?_)
       clear hK K
       refine norm_ (a':=?_) ?_ ?_
       rotate_left
       ·show Act.put _ (some 34) _=_
        simp only [Act.put,List.setIfInBounds_toArray,List.set_cons_zero,List.set_cons_succ,qat,qau]
        rfl
       refine one_ (i:=11) (N:=some 35) #[true,true,true,true,true,true,true,true,true,true,true,true,false,false,false] rfl rfl (one_of HT_.out (by kernel_rfl)) (by decide) (fun K hK=>?_)
       refine value_ (w1:=?_) (v:=?_) (by rfl) rfl ?_ ?_
       rotate_left 2
       ·go_simp
        constructor
        ·rfl
        ·rfl
       refine hK.out _ _ ⟨(qab (qac BK136.out _) 0).trans rfl,(qab (qac BK136.out _) 1).trans rfl,(qab (qac BK136.out _) 2).trans rfl,(qab (qac BK133.out _) 0).trans rfl,(qab (qac BK133.out _) 1).trans rfl,(qab (qac BK133.out _) 2).trans rfl,(World.cell?_alloc_lt _ _ _ (bLt _ _ (((HB.out.cell (bLt w _ hw137_0)).trans hw137_0)))).trans (((HB.out.cell (bLt w _ hw137_0)).trans hw137_0)),(World.cell?_alloc_lt _ _ _ (bLt _ _ (((HB.out.cell (bLt w _ hw137_1)).trans hw137_1)))).trans (((HB.out.cell (bLt w _ hw137_1)).trans hw137_1)),(World.cell?_alloc_lt _ _ _ (bLt _ _ (((HB.out.cell (bLt w _ hw137_2)).trans hw137_2)))).trans (((HB.out.cell (bLt w _ hw137_2)).trans hw137_2)),(World.cell?_alloc_lt _ _ _ (bLt _ _ (((HB.out.cell (bLt w _ hw137_3)).trans hw137_3)))).trans (((HB.out.cell (bLt w _ hw137_3)).trans hw137_3)),(World.cell?_alloc_lt _ _ _ (bLt _ _ (((HB.out.cell (bLt w _ hw137_4)).trans hw137_4)))).trans (((HB.out.cell (bLt w _ hw137_4)).trans hw137_4)),(World.cell?_alloc_lt _ _ _ (bLt _ _ (((HB.out.cell (bLt w _ hw137_5)).trans hw137_5)))).trans (((HB.out.cell (bLt w _ hw137_5)).trans hw137_5))⟩ (fun hHeld=>?_)
       clear hK K
       refine norm_ (a':=?_) ?_ ?_
       rotate_left
       ·show Act.put _ (some 35) _=_
        simp only [Act.put,List.setIfInBounds_toArray,List.set_cons_zero,List.set_cons_succ,qat,qau]
        rfl
       refine one_ (i:=12) (N:=some 36) #[true,true,true,true,true,true,true,true,true,true,true,true,true,false,false] rfl rfl (one_of HT_.out (by kernel_rfl)) (by decide) (fun K hK=>?_)
       refine Kd.S_append_step k52 (w0:=w) w.heap.size (by rfl) (.tmp 25) (.tmp 35) 30 52 (.agg #[(.int .i64 0),(.int .i64 0),(.int .i64 0),(.int .i64 0),(.int .i64 0),(.slice none 0 0),(.slice none 0 0)]) 88 rfl Tryd.underlying30 info52 rfl (by decide) (by omega) u137002 x137002_1 (⟨t138,t139,t140,t141,t142,t143,t146⟩:S52) [.int .i64 t138,.int .i64 t139,.int .i64 t140,.int .i64 t141,.int .i64 t142,.slice Ao22 t143.length co22,.slice Ao23 t146.length co23] (fun _=>True) (fun k_=>some k_=(.slice Ao22 t143.length co22:Value).ownBlock∨some k_=(.slice Ao23 t146.length co23:Value).ownBlock) rfl rfl ?aP (fun k_ hk_=>hk_.elim (fun h_=>((Kd.R_mono (ok':=fun k_=>((fun _=>True)) k_∧some k_≠(u137002:Value).ownBlock) (Kd.R_apart' (HO145.out) (Kd.S_typed HO_137002.out) (by decide)) (fun k_ hk=>⟨trivial,hk.2⟩))).1 k_ h_.symm) (fun h_=>((Kd.R_mono (ok':=fun k_=>((fun _=>True)) k_∧some k_≠(u137002:Value).ownBlock) (Kd.R_apart' (HO148.out) (Kd.S_typed HO_137002.out) (by decide)) (fun k_ hk=>⟨trivial,hk.2⟩))).1 k_ h_.symm)) ?aF ?aO ?aB ?aS ?aL ?_
       (case aP=>exact k52_mkM _ _ _ (⟨t138,t139,t140,t141,t142,t143,t146⟩:S52) (Kd.R_mono (Kd.R_tight rfl (Kd.R_mono (ok':=fun k_=>((fun _=>True)) k_∧some k_≠(u137002:Value).ownBlock) (Kd.R_apart' (HO145.out) (Kd.S_typed HO_137002.out) (by decide)) (fun k_ hk=>⟨trivial,hk.2⟩))) (fun _ h_=>Or.inl h_)) (Kd.R_mono (Kd.R_tight rfl (Kd.R_mono (ok':=fun k_=>((fun _=>True)) k_∧some k_≠(u137002:Value).ownBlock) (Kd.R_apart' (HO148.out) (Kd.S_typed HO_137002.out) (by decide)) (fun k_ hk=>⟨trivial,hk.2⟩))) (fun _ h_=>Or.inr (h_))))
       (case aB=>exact (by repeat (first|(with_reducible first|exact HB.out|apply qaj|apply qad|apply qai|refine qaf ?_ GE133.out|refine qaf ?_ GE134.out|refine qaf ?_ GE136.out)|exact HB.out)))
       (case aF=>exact (fun _ _=>trivial))
       (case aO=>exact (by (with_reducible repeat (first|apply Kd.S_alloc|apply Kd.S_drewN|apply Kd.S_drew));exact Kd.S_mono HO_137002.out (fun k_ hk=>⟨trivial,fun e_=>e_.elim (fun h_=>hk.1.2 h_) (fun h_=>hk.2 h_)⟩)))
       (case aS=>exact (qao (by repeat (first|(with_reducible first|exact HB.out|apply qaj|apply qad|apply qai|refine qaf ?_ GE133.out|refine qaf ?_ GE134.out|refine qaf ?_ GE136.out)|exact HB.out))))
       (case aL=>have:=LMc15.out;omega)
       intro v150 w21 ho hb hg hat
       rw [← Ny149.out] at ho
       have n0_:=qah.mk (qaM (g:=gb133) (o:=.cells #[.int .i64 a0_0,.int .i64 a0_1,.slice (some ad137) l0_2.length c0_2] 57 (0,0)) (by (with_reducible repeat (first|refine qae ?_ _|refine qag ?_|refine qac ?_ _));exact BK133.out) hg (Kd.S_ne HO_137002.out BK133.out (by decide)))
       have n1_:=qah.mk (qaM (g:=gb134) (o:=.cells #[.int .i64 0,.int .i64 0,.slice none 0 0] 32 (0,0)) (by (with_reducible repeat (first|refine qae ?_ _|refine qag ?_|refine qac ?_ _));exact BK134.out) hg (Kd.S_ne HO_137002.out BK134.out (by decide)))
       have n2_:=qah.mk (qaM (g:=gb136) (o:=.cells #[.int .i64 (wrap64 (1+t135)),.int .i64 (Go.bits .and .i64 a0_1 3),u137002] 32 (0,0)) (by (with_reducible repeat (first|refine qae ?_ _|refine qag ?_|refine qac ?_ _));exact BK136.out) hg (Kd.S_ne HO_137002.out BK136.out (by decide)))
       have n3_:=qah.mk (hb)
       have n4_:=qah.mk (ho)
       clear BK133
       clear BK134
       clear BK136
       clear HB
       clear HO_137002
       clear HO145
       clear HO148
       have BK133:=n0_
       have BK134:=n1_
       have BK136:=n2_
       have HB:=n3_
       have HO151:=n4_
       clear n0_ n1_ n2_ n3_ n4_
       clear ho hb hg hat
       obtain⟨Ao24,co24,eo24⟩:=Kd.S_slice HO151.out
       (first|subst eo24|(injection eo24 with f1_ f2_ f3_;have f4_:=f1_.symm;have f5_:=f3_.symm;clear f1_ f2_ f3_;subst f4_;subst f5_))
       refine hK.out _ _ ⟨(qab BK136.out 0).trans rfl,(qab BK136.out 1).trans rfl,(qab BK136.out 2).trans rfl,(qab BK133.out 0).trans rfl,(qab BK133.out 1).trans rfl,(qab BK133.out 2).trans rfl,((HB.out.cell (bLt w _ hw137_0)).trans hw137_0),((HB.out.cell (bLt w _ hw137_1)).trans hw137_1),((HB.out.cell (bLt w _ hw137_2)).trans hw137_2),((HB.out.cell (bLt w _ hw137_3)).trans hw137_3),((HB.out.cell (bLt w _ hw137_4)).trans hw137_4),((HB.out.cell (bLt w _ hw137_5)).trans hw137_5)⟩ (fun hHeld=>?_)
       clear hK K
       refine norm_ (a':=?_) ?_ ?_
       rotate_left
       ·show Act.put _ (some 36) _=_
        simp only [Act.put,List.setIfInBounds_toArray,List.set_cons_zero,List.set_cons_succ,qat,qau]
        rfl
       refine qaC (i:=13) (N:=some 37) (v:=?_) (a':=?_) #[true,true,true,true,true,true,true,true,true,true,true,true,true,true,false] rfl rfl (qav HT_.out (by kernel_rfl)) (fun _ _ _ h=>h) (Or.inl ⟨by rfl,?_⟩) ?_ ?_
       rotate_left
       ·intro w'
        go_simp
        with_reducible rfl
       rotate_left
       ·simp only [Act.put,List.setIfInBounds_toArray,List.set_cons_zero,List.set_cons_succ,qat,qau]
        rfl
       refine last_ (i:=14) (N:=none) #[true,true,true,true,true,true,true,true,true,true,true,true,true,true,true] rfl rfl (one_of HT_.out (by kernel_rfl)) (by decide) (fun K hK=>?_)
       have hs25:w21.cell? ⟨gb136,2,none⟩=some (u137002):=(qab BK136.out 2).trans rfl
       have hfs25:=qaa BK136.out 2
       have hns25_0:=NB133_136.out
       have hns25_1:=NB134_136.out
       have hms25_0:=NB136_133.out
       have hms25_1:=NB136_134.out
       refine skip_ (w1:=?_) (by rfl) rfl ?_ ?_
       rotate_left
       ·go_simp
        rfl
       refine hK.out _ _ ?_
       clear hK K
       refine done_ (done_of HT_.out (by kernel_rfl)) ?_
       try go_wp2
       go_roundg k1
       case measure=>have:=HK1.out;omega
       case rel=>exact⟨(wrap64 (x4_1+1)),(y149),(.slice Ao24 y149.length co24),(by first|rfl|(simp;done)|(simp [*];done)),H',⟨by have:=HK1.out;omega⟩,⟨by (with_reducible repeat (first|apply Kd.S_alloc|apply Kd.S_drewN|apply Kd.S_drew));exact Kd.S_mono (Kd.S_far (p:=⟨gb136,2,none⟩) (Kd.S_types HO151.out BK136.out (by decide)) (fun _ hk=>hk.2) (.slice Ao24 y149.length co24)) (fun _ hk=>trivial)⟩,⟨by (with_reducible repeat (first|refine qae ?_ _|refine qag ?_|refine qac ?_ _));refine qay ?_ NB133_136.out _;(with_reducible repeat (first|refine qae ?_ _|refine qag ?_|refine qac ?_ _));exact BK133.out⟩,⟨by (with_reducible repeat (first|refine qae ?_ _|refine qag ?_|refine qac ?_ _));refine qay ?_ NB134_136.out _;(with_reducible repeat (first|refine qae ?_ _|refine qag ?_|refine qac ?_ _));exact BK134.out⟩,⟨by (with_reducible repeat (first|refine qae ?_ _|refine qag ?_|refine qac ?_ _));refine qaz (cs:=#[.int .i64 (wrap64 (1+t135)),.int .i64 (Go.bits .and .i64 a0_1 3),u137002]) ?_ 2 _ rfl;(with_reducible repeat (first|refine qae ?_ _|refine qag ?_|refine qac ?_ _));exact BK136.out⟩,⟨by repeat (first|(with_reducible first|exact HB.out|apply qaj|apply qad|apply qai|refine qaf ?_ GE133.out|refine qaf ?_ GE134.out|refine qaf ?_ GE136.out)|exact HB.out)⟩⟩
      ·rw [if_neg c15] at H
       exact absurd H (by simp)
     ·rw [if_neg c13] at H
      exact absurd H (by simp)
    ·rw [if_neg c12] at H
     have c12b0:decide (x4_1<6)=false:=decide_eq_false c12
     clear c12
     by_cases c26:(x137002_1.length:Int)=0
     ·rw [if_pos c26] at H
      have c26b0:((x137002_1.length:Int) == 0)=true:=beq_iff_eq.mpr c26
      have c26b1:((x137002_1.length:Int) != 0)=false:=bne_eq_false_iff_eq.mpr c26
      clear c26
      obtain⟨y152,hy152⟩:∃ y_:List (S52),y_=(([(⟨1,1,4,4,10,([]:List Int),([]:List Int)⟩:S52)]:List (S52))):=⟨_,rfl⟩
      replace H:(some ((wrap64 (1+t135)),(Go.bits .and .i64 a0_1 3),y152))=some (r1,r2,r3):=by first|(rw [hy152];with_reducible exact H)|(have H2_:=(Option.bind_some _ _).symm.trans H;rw [hy152];with_reducible exact H2_)|(have H2_:=(Option.bind_some _ _).symm.trans H;with_reducible exact H2_)|with_reducible exact H|(rw [hy152];exact H)|exact H
      have Ny152:=qah.mk hy152
      clear hy152
      simp only [Option.some.injEq,Prod.mk.injEq] at H
      obtain⟨rfl,rfl,rfl⟩:=H
      have hnb27:=NB133_134.out
      have hnc27:=NB134_133.out
      have hnb28:=NB133_136.out
      have hnc28:=NB136_133.out
      have hcz29_0:wr.cell? ⟨gb133,0,none⟩=some (.int .i64 a0_0):=(qab BK133.out 0).trans rfl
      have hcz29_1:wr.cell? ⟨gb133,1,none⟩=some (.int .i64 a0_1):=(qab BK133.out 1).trans rfl
      have hcz29_2:wr.cell? ⟨gb133,2,none⟩=some (.slice A0_2 l0_2.length c0_2):=(qab BK133.out 2).trans rfl
      have hfz29_0:=qaa BK133.out 0
      have hfz29_1:=qaa BK133.out 1
      have hfz29_2:=qaa BK133.out 2
      have hnb30:=NB136_134.out
      have hnc30:=NB134_136.out
      have hcz31_0:wr.cell? ⟨gb136,0,none⟩=some (.int .i64 (wrap64 (1+t135))):=(qab BK136.out 0).trans rfl
      have hcz31_1:wr.cell? ⟨gb136,1,none⟩=some (.int .i64 (Go.bits .and .i64 a0_1 3)):=(qab BK136.out 1).trans rfl
      have hcz31_2:wr.cell? ⟨gb136,2,none⟩=some (u137002):=(qab BK136.out 2).trans rfl
      have hfz31_0:=qaa BK136.out 0
      have hfz31_1:=qaa BK136.out 1
      have hfz31_2:=qaa BK136.out 2
      obtain⟨Ao32,co32,eo32⟩:=Kd.S_slice HO_137002.out
      subst eo32
      go_wp2_with (first|((with_reducible refine qaJ (N:=43) rfl ?_);refine Kd.S_lit k52 _ 52 ?hg (N:=43) ?hd (xs:=([(⟨1,1,4,4,10,([]:List Int),([]:List Int)⟩:S52)]:List (S52))) (inner:=[.int .i64 1,.int .i64 1,.int .i64 4,.int .i64 4,.int .i64 10,.slice none 0 0,.slice none 0 0]) (ok:=fun _=>True) (okp:=fun _=>True) ?hr ?hp (fun _ hk=>hk) trivial (Below.refl _ _) (Nat.le_refl _) (by simp) ?_;(case hd=>rfl);(case hg=>rfl);(case hr=>first|(go_simp;done)|(go_simp;rfl));(case hp=>exact (Reps.c7 (show Kd.M k52 _ _ _ (⟨1,1,4,4,10,([]:List Int),([]:List Int)⟩:S52) [.int .i64 1,.int .i64 1,.int .i64 4,.int .i64 4,.int .i64 10,.slice none 0 0,.slice none 0 0] from (k52_mkM _ _ _ (⟨1,1,4,4,10,([]:List Int),([]:List Int)⟩:S52) (Kd.R_nil _ _ _ _ _) (Kd.R_nil _ _ _ _ _))) (Reps.none _ _)));intro v153 w33 ho34 hb hg_ hnew_;clear hg_ hnew_;(first|rw [← Ny152.out] at ho34|(simp only [Int.reduceToNat] at ho34;rw [← Ny152.out] at ho34));have n0_:=qah.mk (Kd.S_elder' (by (with_reducible repeat (first|apply Kd.S_alloc|apply Kd.S_drewN|apply Kd.S_drew));exact HO_137002.out) (Kd.S_base ho34) hb);have n1_:=qah.mk (Kd.S_lower (Kd.S_new' ho34 (Kd.S_lt (by (with_reducible repeat (first|apply Kd.S_alloc|apply Kd.S_drewN|apply Kd.S_drew));exact HO_137002.out))) (qao (by repeat (first|(with_reducible first|exact HB.out|apply qaj|apply qad|apply qai|refine qaf ?_ GE133.out|refine qaf ?_ GE134.out|refine qaf ?_ GE136.out)|exact HB.out))));have n2_:=qah.mk (qax (g:=gb133) (o:=.cells #[.int .i64 a0_0,.int .i64 a0_1,.slice A0_2 l0_2.length c0_2] 57 (0,0)) (by (with_reducible repeat (first|refine qae ?_ _|refine qag ?_|refine qac ?_ _));exact BK133.out) hb);have n3_:=qah.mk (qax (g:=gb134) (o:=.cells #[.int .i64 0,.int .i64 0,.slice none 0 0] 32 (0,0)) (by (with_reducible repeat (first|refine qae ?_ _|refine qag ?_|refine qac ?_ _));exact BK134.out) hb);have n4_:=qah.mk (qax (g:=gb136) (o:=.cells #[.int .i64 (wrap64 (1+t135)),.int .i64 (Go.bits .and .i64 a0_1 3),.slice Ao32 x137002_1.length co32] 32 (0,0)) (by (with_reducible repeat (first|refine qae ?_ _|refine qag ?_|refine qac ?_ _));exact BK136.out) hb);have n5_:=qah.mk (qaw (by repeat (first|(with_reducible first|exact HB.out|apply qaj|apply qad|apply qai|refine qaf ?_ GE133.out|refine qaf ?_ GE134.out|refine qaf ?_ GE136.out)|exact HB.out)) hb);clear HO_137002;clear BK133;clear BK134;clear BK136;clear HB;have HO_137002:=n0_;have HO154:=n1_;have BK133:=n2_;have BK134:=n3_;have BK136:=n4_;have HB:=n5_;clear n0_ n1_ n2_ n3_ n4_ n5_;clear hb ho34;obtain⟨Ao35,co35,eo35⟩:=Kd.S_slice HO154.out;subst eo35;have hcz36_0:w33.cell? ⟨gb136,0,none⟩=some (.int .i64 (wrap64 (1+t135))):=(qab BK136.out 0).trans rfl;have hcz36_1:w33.cell? ⟨gb136,1,none⟩=some (.int .i64 (Go.bits .and .i64 a0_1 3)):=(qab BK136.out 1).trans rfl;have hcz36_2:w33.cell? ⟨gb136,2,none⟩=some (.slice Ao32 x137002_1.length co32):=(qab BK136.out 2).trans rfl;have hfz36_0:=qaa BK136.out 0;have hfz36_1:=qaa BK136.out 1;have hfz36_2:=qaa BK136.out 2;have hcz37_0:w33.cell? ⟨gb134,0,none⟩=some (.int .i64 0):=(qab BK134.out 0).trans rfl;have hcz37_1:w33.cell? ⟨gb134,1,none⟩=some (.int .i64 0):=(qab BK134.out 1).trans rfl;have hcz37_2:w33.cell? ⟨gb134,2,none⟩=some (.slice none 0 0):=(qab BK134.out 2).trans rfl;have hfz37_0:=qaa BK134.out 0;have hfz37_1:=qaa BK134.out 1;have hfz37_2:=qaa BK134.out 2))
      refine bodyPost_ret (results_cell_row rfl _ _ gb134 32 #[.int .i64 (wrap64 (1+t135)),.int .i64 (Go.bits .and .i64 a0_1 3),.slice Ao35 y152.length co35] (0,0) _ rfl (by (with_reducible repeat (first|refine qae ?_ _|refine qag ?_|refine qac ?_ _));refine qaz (cs:=#[.int .i64 (wrap64 (1+t135)),.int .i64 (Go.bits .and .i64 a0_1 3),.slice none 0 0]) ?_ 2 _ rfl;(with_reducible repeat (first|refine qae ?_ _|refine qag ?_|refine qac ?_ _));refine qaz (cs:=#[.int .i64 (wrap64 (1+t135)),.int .i64 0,.slice none 0 0]) ?_ 1 _ rfl;(with_reducible repeat (first|refine qae ?_ _|refine qag ?_|refine qac ?_ _));refine qaz (cs:=#[.int .i64 0,.int .i64 0,.slice none 0 0]) ?_ 0 _ rfl;(with_reducible repeat (first|refine qae ?_ _|refine qag ?_|refine qac ?_ _));refine qay ?_ NB134_136.out _;(with_reducible repeat (first|refine qae ?_ _|refine qag ?_|refine qac ?_ _));exact BK134.out) Tryd.underlying32 rfl (by kernel_rfl)) rfl ?_
      exact⟨_,by first|rfl|(simp [qaq,qap]<;>rfl)|(simp [bneNil,bneNilU]<;>rfl)|(simp [*,qaq,qap]<;>rfl),by (with_reducible repeat (first|apply Kd.S_alloc|apply Kd.S_drewN|apply Kd.S_drew));exact Kd.S_mono (Kd.S_far (p:=⟨gb134,2,none⟩) (Kd.S_far (p:=⟨gb134,1,none⟩) (Kd.S_far (p:=⟨gb134,0,none⟩) (Kd.S_far (p:=⟨gb136,2,none⟩) (Kd.S_types (Kd.S_types HO154.out BK136.out (by decide)) BK134.out (by decide)) (fun _ hk=>hk.1.2) (.slice Ao35 y152.length co35)) (fun _ hk=>hk.2) (.int .i64 (wrap64 (1+t135)))) (fun _ hk=>hk.2) (.int .i64 (Go.bits .and .i64 a0_1 3))) (fun _ hk=>hk.2) (.slice Ao35 y152.length co35)) (fun _ hk=>trivial),by repeat (first|(with_reducible first|exact HB.out|apply qaj|apply qad|apply qai|refine qaf ?_ GE133.out|refine qaf ?_ GE134.out|refine qaf ?_ GE136.out)|exact HB.out)⟩
     ·rw [if_neg c26] at H
      have c26b0:((x137002_1.length:Int) == 0)=false:=beq_eq_false_iff_ne.mpr c26
      have c26b1:((x137002_1.length:Int) != 0)=true:=bne_iff_ne.mpr c26
      have c26b2:¬ (x137002_1=[]):=fun h_=>c26 (by rw [h_];rfl)
      simp only [Option.some.injEq,Prod.mk.injEq] at H
      obtain⟨rfl,rfl,rfl⟩:=H
      have hnb38:=NB133_134.out
      have hnc38:=NB134_133.out
      have hnb39:=NB133_136.out
      have hnc39:=NB136_133.out
      have hcz40_0:wr.cell? ⟨gb133,0,none⟩=some (.int .i64 a0_0):=(qab BK133.out 0).trans rfl
      have hcz40_1:wr.cell? ⟨gb133,1,none⟩=some (.int .i64 a0_1):=(qab BK133.out 1).trans rfl
      have hcz40_2:wr.cell? ⟨gb133,2,none⟩=some (.slice A0_2 l0_2.length c0_2):=(qab BK133.out 2).trans rfl
      have hfz40_0:=qaa BK133.out 0
      have hfz40_1:=qaa BK133.out 1
      have hfz40_2:=qaa BK133.out 2
      have hnb41:=NB136_134.out
      have hnc41:=NB134_136.out
      have hcz42_0:wr.cell? ⟨gb136,0,none⟩=some (.int .i64 (wrap64 (1+t135))):=(qab BK136.out 0).trans rfl
      have hcz42_1:wr.cell? ⟨gb136,1,none⟩=some (.int .i64 (Go.bits .and .i64 a0_1 3)):=(qab BK136.out 1).trans rfl
      have hcz42_2:wr.cell? ⟨gb136,2,none⟩=some (u137002):=(qab BK136.out 2).trans rfl
      have hfz42_0:=qaa BK136.out 0
      have hfz42_1:=qaa BK136.out 1
      have hfz42_2:=qaa BK136.out 2
      obtain⟨Ao43,co43,eo43⟩:=Kd.S_slice HO_137002.out
      subst eo43
      have hcz44_0:wr.cell? ⟨gb134,0,none⟩=some (.int .i64 0):=(qab BK134.out 0).trans rfl
      have hcz44_1:wr.cell? ⟨gb134,1,none⟩=some (.int .i64 0):=(qab BK134.out 1).trans rfl
      have hcz44_2:wr.cell? ⟨gb134,2,none⟩=some (.slice none 0 0):=(qab BK134.out 2).trans rfl
      have hfz44_0:=qaa BK134.out 0
      have hfz44_1:=qaa BK134.out 1
      have hfz44_2:=qaa BK134.out 2
      go_wp2
      refine bodyPost_ret (results_cell_row rfl _ _ gb134 32 #[.int .i64 (wrap64 (1+t135)),.int .i64 (Go.bits .and .i64 a0_1 3),.slice Ao43 x137002_1.length co43] (0,0) _ rfl (by (with_reducible repeat (first|refine qae ?_ _|refine qag ?_|refine qac ?_ _));refine qaz (cs:=#[.int .i64 (wrap64 (1+t135)),.int .i64 (Go.bits .and .i64 a0_1 3),.slice none 0 0]) ?_ 2 _ rfl;(with_reducible repeat (first|refine qae ?_ _|refine qag ?_|refine qac ?_ _));refine qaz (cs:=#[.int .i64 (wrap64 (1+t135)),.int .i64 0,.slice none 0 0]) ?_ 1 _ rfl;(with_reducible repeat (first|refine qae ?_ _|refine qag ?_|refine qac ?_ _));refine qaz (cs:=#[.int .i64 0,.int .i64 0,.slice none 0 0]) ?_ 0 _ rfl;(with_reducible repeat (first|refine qae ?_ _|refine qag ?_|refine qac ?_ _));exact BK134.out) Tryd.underlying32 rfl (by kernel_rfl)) rfl ?_
      exact⟨_,by first|rfl|(simp [qaq,qap]<;>rfl)|(simp [bneNil,bneNilU]<;>rfl)|(simp [*,qaq,qap]<;>rfl),by (with_reducible repeat (first|apply Kd.S_alloc|apply Kd.S_drewN|apply Kd.S_drew));exact Kd.S_mono (Kd.S_far (p:=⟨gb134,2,none⟩) (Kd.S_far (p:=⟨gb134,1,none⟩) (Kd.S_far (p:=⟨gb134,0,none⟩) (Kd.S_types HO_137002.out BK134.out (by decide)) (fun _ hk=>hk.2) (.int .i64 (wrap64 (1+t135)))) (fun _ hk=>hk.2) (.int .i64 (Go.bits .and .i64 a0_1 3))) (fun _ hk=>hk.2) (.slice Ao43 x137002_1.length co43)) (fun _ hk=>trivial),by repeat (first|(with_reducible first|exact HB.out|apply qaj|apply qad|apply qai|refine qaf ?_ GE133.out|refine qaf ?_ GE134.out|refine qaf ?_ GE136.out)|exact HB.out)⟩
   ·rw [if_neg c11] at H
    have c11b0:decide (x4_1<(l0_2.length:Int))=false:=decide_eq_false c11
    clear c11
    by_cases c45:(x137002_1.length:Int)=0
    ·rw [if_pos c45] at H
     have c45b0:((x137002_1.length:Int) == 0)=true:=beq_iff_eq.mpr c45
     have c45b1:((x137002_1.length:Int) != 0)=false:=bne_eq_false_iff_eq.mpr c45
     clear c45
     obtain⟨y155,hy155⟩:∃ y_:List (S52),y_=(([(⟨1,1,4,4,10,([]:List Int),([]:List Int)⟩:S52)]:List (S52))):=⟨_,rfl⟩
     replace H:(some ((wrap64 (1+t135)),(Go.bits .and .i64 a0_1 3),y155))=some (r1,r2,r3):=by first|(rw [hy155];with_reducible exact H)|(have H2_:=(Option.bind_some _ _).symm.trans H;rw [hy155];with_reducible exact H2_)|(have H2_:=(Option.bind_some _ _).symm.trans H;with_reducible exact H2_)|with_reducible exact H|(rw [hy155];exact H)|exact H
     have Ny155:=qah.mk hy155
     clear hy155
     simp only [Option.some.injEq,Prod.mk.injEq] at H
     obtain⟨rfl,rfl,rfl⟩:=H
     have hnb46:=NB133_134.out
     have hnc46:=NB134_133.out
     have hnb47:=NB133_136.out
     have hnc47:=NB136_133.out
     have hcz48_0:wr.cell? ⟨gb133,0,none⟩=some (.int .i64 a0_0):=(qab BK133.out 0).trans rfl
     have hcz48_1:wr.cell? ⟨gb133,1,none⟩=some (.int .i64 a0_1):=(qab BK133.out 1).trans rfl
     have hcz48_2:wr.cell? ⟨gb133,2,none⟩=some (.slice A0_2 l0_2.length c0_2):=(qab BK133.out 2).trans rfl
     have hfz48_0:=qaa BK133.out 0
     have hfz48_1:=qaa BK133.out 1
     have hfz48_2:=qaa BK133.out 2
     have hnb49:=NB136_134.out
     have hnc49:=NB134_136.out
     have hcz50_0:wr.cell? ⟨gb136,0,none⟩=some (.int .i64 (wrap64 (1+t135))):=(qab BK136.out 0).trans rfl
     have hcz50_1:wr.cell? ⟨gb136,1,none⟩=some (.int .i64 (Go.bits .and .i64 a0_1 3)):=(qab BK136.out 1).trans rfl
     have hcz50_2:wr.cell? ⟨gb136,2,none⟩=some (u137002):=(qab BK136.out 2).trans rfl
     have hfz50_0:=qaa BK136.out 0
     have hfz50_1:=qaa BK136.out 1
     have hfz50_2:=qaa BK136.out 2
     obtain⟨Ao51,co51,eo51⟩:=Kd.S_slice HO_137002.out
     subst eo51
     go_wp2_with (first|((with_reducible refine qaJ (N:=43) rfl ?_);refine Kd.S_lit k52 _ 52 ?hg (N:=43) ?hd (xs:=([(⟨1,1,4,4,10,([]:List Int),([]:List Int)⟩:S52)]:List (S52))) (inner:=[.int .i64 1,.int .i64 1,.int .i64 4,.int .i64 4,.int .i64 10,.slice none 0 0,.slice none 0 0]) (ok:=fun _=>True) (okp:=fun _=>True) ?hr ?hp (fun _ hk=>hk) trivial (Below.refl _ _) (Nat.le_refl _) (by simp) ?_;(case hd=>rfl);(case hg=>rfl);(case hr=>first|(go_simp;done)|(go_simp;rfl));(case hp=>exact (Reps.c7 (show Kd.M k52 _ _ _ (⟨1,1,4,4,10,([]:List Int),([]:List Int)⟩:S52) [.int .i64 1,.int .i64 1,.int .i64 4,.int .i64 4,.int .i64 10,.slice none 0 0,.slice none 0 0] from (k52_mkM _ _ _ (⟨1,1,4,4,10,([]:List Int),([]:List Int)⟩:S52) (Kd.R_nil _ _ _ _ _) (Kd.R_nil _ _ _ _ _))) (Reps.none _ _)));intro v156 w52 ho53 hb hg_ hnew_;clear hg_ hnew_;(first|rw [← Ny155.out] at ho53|(simp only [Int.reduceToNat] at ho53;rw [← Ny155.out] at ho53));have n0_:=qah.mk (Kd.S_elder' (by (with_reducible repeat (first|apply Kd.S_alloc|apply Kd.S_drewN|apply Kd.S_drew));exact HO_137002.out) (Kd.S_base ho53) hb);have n1_:=qah.mk (Kd.S_lower (Kd.S_new' ho53 (Kd.S_lt (by (with_reducible repeat (first|apply Kd.S_alloc|apply Kd.S_drewN|apply Kd.S_drew));exact HO_137002.out))) (qao (by repeat (first|(with_reducible first|exact HB.out|apply qaj|apply qad|apply qai|refine qaf ?_ GE133.out|refine qaf ?_ GE134.out|refine qaf ?_ GE136.out)|exact HB.out))));have n2_:=qah.mk (qax (g:=gb133) (o:=.cells #[.int .i64 a0_0,.int .i64 a0_1,.slice A0_2 l0_2.length c0_2] 57 (0,0)) (by (with_reducible repeat (first|refine qae ?_ _|refine qag ?_|refine qac ?_ _));exact BK133.out) hb);have n3_:=qah.mk (qax (g:=gb134) (o:=.cells #[.int .i64 0,.int .i64 0,.slice none 0 0] 32 (0,0)) (by (with_reducible repeat (first|refine qae ?_ _|refine qag ?_|refine qac ?_ _));exact BK134.out) hb);have n4_:=qah.mk (qax (g:=gb136) (o:=.cells #[.int .i64 (wrap64 (1+t135)),.int .i64 (Go.bits .and .i64 a0_1 3),.slice Ao51 x137002_1.length co51] 32 (0,0)) (by (with_reducible repeat (first|refine qae ?_ _|refine qag ?_|refine qac ?_ _));exact BK136.out) hb);have n5_:=qah.mk (qaw (by repeat (first|(with_reducible first|exact HB.out|apply qaj|apply qad|apply qai|refine qaf ?_ GE133.out|refine qaf ?_ GE134.out|refine qaf ?_ GE136.out)|exact HB.out)) hb);clear HO_137002;clear BK133;clear BK134;clear BK136;clear HB;have HO_137002:=n0_;have HO157:=n1_;have BK133:=n2_;have BK134:=n3_;have BK136:=n4_;have HB:=n5_;clear n0_ n1_ n2_ n3_ n4_ n5_;clear hb ho53;obtain⟨Ao54,co54,eo54⟩:=Kd.S_slice HO157.out;subst eo54;have hcz55_0:w52.cell? ⟨gb136,0,none⟩=some (.int .i64 (wrap64 (1+t135))):=(qab BK136.out 0).trans rfl;have hcz55_1:w52.cell? ⟨gb136,1,none⟩=some (.int .i64 (Go.bits .and .i64 a0_1 3)):=(qab BK136.out 1).trans rfl;have hcz55_2:w52.cell? ⟨gb136,2,none⟩=some (.slice Ao51 x137002_1.length co51):=(qab BK136.out 2).trans rfl;have hfz55_0:=qaa BK136.out 0;have hfz55_1:=qaa BK136.out 1;have hfz55_2:=qaa BK136.out 2;have hcz56_0:w52.cell? ⟨gb134,0,none⟩=some (.int .i64 0):=(qab BK134.out 0).trans rfl;have hcz56_1:w52.cell? ⟨gb134,1,none⟩=some (.int .i64 0):=(qab BK134.out 1).trans rfl;have hcz56_2:w52.cell? ⟨gb134,2,none⟩=some (.slice none 0 0):=(qab BK134.out 2).trans rfl;have hfz56_0:=qaa BK134.out 0;have hfz56_1:=qaa BK134.out 1;have hfz56_2:=qaa BK134.out 2))
     refine bodyPost_ret (results_cell_row rfl _ _ gb134 32 #[.int .i64 (wrap64 (1+t135)),.int .i64 (Go.bits .and .i64 a0_1 3),.slice Ao54 y155.length co54] (0,0) _ rfl (by (with_reducible repeat (first|refine qae ?_ _|refine qag ?_|refine qac ?_ _));refine qaz (cs:=#[.int .i64 (wrap64 (1+t135)),.int .i64 (Go.bits .and .i64 a0_1 3),.slice none 0 0]) ?_ 2 _ rfl;(with_reducible repeat (first|refine qae ?_ _|refine qag ?_|refine qac ?_ _));refine qaz (cs:=#[.int .i64 (wrap64 (1+t135)),.int .i64 0,.slice none 0 0]) ?_ 1 _ rfl;(with_reducible repeat (first|refine qae ?_ _|refine qag ?_|refine qac ?_ _));refine qaz (cs:=#[.int .i64 0,.int .i64 0,.slice none 0 0]) ?_ 0 _ rfl;(with_reducible repeat (first|refine qae ?_ _|refine qag ?_|refine qac ?_ _));refine qay ?_ NB134_136.out _;(with_reducible repeat (first|refine qae ?_ _|refine qag ?_|refine qac ?_ _));exact BK134.out) Tryd.underlying32 rfl (by kernel_rfl)) rfl ?_
     exact⟨_,by first|rfl|(simp [qaq,qap]<;>rfl)|(simp [bneNil,bneNilU]<;>rfl)|(simp [*,qaq,qap]<;>rfl),by (with_reducible repeat (first|apply Kd.S_alloc|apply Kd.S_drewN|apply Kd.S_drew));exact Kd.S_mono (Kd.S_far (p:=⟨gb134,2,none⟩) (Kd.S_far (p:=⟨gb134,1,none⟩) (Kd.S_far (p:=⟨gb134,0,none⟩) (Kd.S_far (p:=⟨gb136,2,none⟩) (Kd.S_types (Kd.S_types HO157.out BK136.out (by decide)) BK134.out (by decide)) (fun _ hk=>hk.1.2) (.slice Ao54 y155.length co54)) (fun _ hk=>hk.2) (.int .i64 (wrap64 (1+t135)))) (fun _ hk=>hk.2) (.int .i64 (Go.bits .and .i64 a0_1 3))) (fun _ hk=>hk.2) (.slice Ao54 y155.length co54)) (fun _ hk=>trivial),by repeat (first|(with_reducible first|exact HB.out|apply qaj|apply qad|apply qai|refine qaf ?_ GE133.out|refine qaf ?_ GE134.out|refine qaf ?_ GE136.out)|exact HB.out)⟩
    ·rw [if_neg c45] at H
     have c45b0:((x137002_1.length:Int) == 0)=false:=beq_eq_false_iff_ne.mpr c45
     have c45b1:((x137002_1.length:Int) != 0)=true:=bne_iff_ne.mpr c45
     have c45b2:¬ (x137002_1=[]):=fun h_=>c45 (by rw [h_];rfl)
     simp only [Option.some.injEq,Prod.mk.injEq] at H
     obtain⟨rfl,rfl,rfl⟩:=H
     have hnb57:=NB133_134.out
     have hnc57:=NB134_133.out
     have hnb58:=NB133_136.out
     have hnc58:=NB136_133.out
     have hcz59_0:wr.cell? ⟨gb133,0,none⟩=some (.int .i64 a0_0):=(qab BK133.out 0).trans rfl
     have hcz59_1:wr.cell? ⟨gb133,1,none⟩=some (.int .i64 a0_1):=(qab BK133.out 1).trans rfl
     have hcz59_2:wr.cell? ⟨gb133,2,none⟩=some (.slice A0_2 l0_2.length c0_2):=(qab BK133.out 2).trans rfl
     have hfz59_0:=qaa BK133.out 0
     have hfz59_1:=qaa BK133.out 1
     have hfz59_2:=qaa BK133.out 2
     have hnb60:=NB136_134.out
     have hnc60:=NB134_136.out
     have hcz61_0:wr.cell? ⟨gb136,0,none⟩=some (.int .i64 (wrap64 (1+t135))):=(qab BK136.out 0).trans rfl
     have hcz61_1:wr.cell? ⟨gb136,1,none⟩=some (.int .i64 (Go.bits .and .i64 a0_1 3)):=(qab BK136.out 1).trans rfl
     have hcz61_2:wr.cell? ⟨gb136,2,none⟩=some (u137002):=(qab BK136.out 2).trans rfl
     have hfz61_0:=qaa BK136.out 0
     have hfz61_1:=qaa BK136.out 1
     have hfz61_2:=qaa BK136.out 2
     obtain⟨Ao62,co62,eo62⟩:=Kd.S_slice HO_137002.out
     subst eo62
     have hcz63_0:wr.cell? ⟨gb134,0,none⟩=some (.int .i64 0):=(qab BK134.out 0).trans rfl
     have hcz63_1:wr.cell? ⟨gb134,1,none⟩=some (.int .i64 0):=(qab BK134.out 1).trans rfl
     have hcz63_2:wr.cell? ⟨gb134,2,none⟩=some (.slice none 0 0):=(qab BK134.out 2).trans rfl
     have hfz63_0:=qaa BK134.out 0
     have hfz63_1:=qaa BK134.out 1
     have hfz63_2:=qaa BK134.out 2
     go_wp2
     refine bodyPost_ret (results_cell_row rfl _ _ gb134 32 #[.int .i64 (wrap64 (1+t135)),.int .i64 (Go.bits .and .i64 a0_1 3),.slice Ao62 x137002_1.length co62] (0,0) _ rfl (by (with_reducible repeat (first|refine qae ?_ _|refine qag ?_|refine qac ?_ _));refine qaz (cs:=#[.int .i64 (wrap64 (1+t135)),.int .i64 (Go.bits .and .i64 a0_1 3),.slice none 0 0]) ?_ 2 _ rfl;(with_reducible repeat (first|refine qae ?_ _|refine qag ?_|refine qac ?_ _));refine qaz (cs:=#[.int .i64 (wrap64 (1+t135)),.int .i64 0,.slice none 0 0]) ?_ 1 _ rfl;(with_reducible repeat (first|refine qae ?_ _|refine qag ?_|refine qac ?_ _));refine qaz (cs:=#[.int .i64 0,.int .i64 0,.slice none 0 0]) ?_ 0 _ rfl;(with_reducible repeat (first|refine qae ?_ _|refine qag ?_|refine qac ?_ _));exact BK134.out) Tryd.underlying32 rfl (by kernel_rfl)) rfl ?_
     exact⟨_,by first|rfl|(simp [qaq,qap]<;>rfl)|(simp [bneNil,bneNilU]<;>rfl)|(simp [*,qaq,qap]<;>rfl),by (with_reducible repeat (first|apply Kd.S_alloc|apply Kd.S_drewN|apply Kd.S_drew));exact Kd.S_mono (Kd.S_far (p:=⟨gb134,2,none⟩) (Kd.S_far (p:=⟨gb134,1,none⟩) (Kd.S_far (p:=⟨gb134,0,none⟩) (Kd.S_types HO_137002.out BK134.out (by decide)) (fun _ hk=>hk.2) (.int .i64 (wrap64 (1+t135)))) (fun _ hk=>hk.2) (.int .i64 (Go.bits .and .i64 a0_1 3))) (fun _ hk=>hk.2) (.slice Ao62 x137002_1.length co62)) (fun _ hk=>trivial),by repeat (first|(with_reducible first|exact HB.out|apply qaj|apply qad|apply qai|refine qaf ?_ GE133.out|refine qaf ?_ GE134.out|refine qaf ?_ GE136.out)|exact HB.out)⟩
end
end Go.Proofs.YtcfknijdhmildaaDoor.PParseReads
end
