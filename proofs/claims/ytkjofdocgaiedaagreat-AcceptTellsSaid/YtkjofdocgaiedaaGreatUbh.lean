/- Texts AcdQ, StpP, AccQ, AccR, AcdE, AceA, AceB, AcdF, AceC, AceD, AceL, AceE, AceF, AcdC, NewO in one. Conditions: as each law names them. -/
import Derived.Deep.CutBlock
import Derived.Deep.DeepCutAuto
import Derived.Test.YtkjofdocgaiedaaGreatUab
import Derived.Test.YtkjofdocgaiedaaGreatUae
import Derived.Test.YtkjofdocgaiedaaGreatUaj
import Derived.Test.YtkjofdocgaiedaaGreatUax
import Derived.Test.YtkjofdocgaiedaaGreatUaz
import Derived.Test.YtkjofdocgaiedaaGreatUbb
import Derived.Test.YtkjofdocgaiedaaGreatUbd
import Derived.Test.YtkjofdocgaiedaaGreatUbe
import Derived.Test.YtkjofdocgaiedaaGreatUbf
import Derived.Test.YtkjofdocgaiedaaGreatUbg
set_option maxRecDepth 20000
set_option maxHeartbeats 8000000
namespace Go.Proofs.YtkjofdocgaiedaaGreat
section
open Go.RowKit Go.Maps
open MI SO BM DM WM AC
theorem zkC (w:World) (d:Nat) (F:Nat→Prop) (D:Dk) (hD:RefAt w d F D) (hfew:D.waits.length≤800000) :
  Calls Tryz.prog 24 #[.pointer (some ⟨d,0,none⟩)] w (RAOpenPost d F w (z3V D)):=by
 obtain⟨Post,hPost⟩:=zX1 (RAOpenPost d F w (z3V D));rw[← hPost];have HP:=hid hPost;have hop:=zkA w d F D hD hfew;clear hPost hD hfew;go_enter Tryz.func24,Tryz.ntmps24;go_wp2_with (at_builtin;refine z0A ?_;intro q hq);refine hop.mono ?_;intro e w1 hp;obtain⟨sv,rfl,ht⟩:=hp.side;clear hop hp
 cases ho:(opS D).2.1 with
 | none=>
   rw[ho] at ht;obtain⟨F',⟨rfl,hdk⟩,hk,hn⟩:=ht
   have fin:Post (.returned (.tuple #[.pointer none,.int .i64 (opS D).1])) w1:=by
    rw[HP.out,AC.openA_none ho];exact⟨_,rfl,F',⟨rfl,hdk⟩,hk,hn⟩
   have HF:=hid fin;have hc0:=SO.op_none ho;clear fin hdk hk hn ho;obtain⟨c,hc⟩:=zX1 ((opS D).1);rw[← hc] at hc0 HF ⊢;have q1:(c != 0)=true:=by simpa using hc0
   have q2:decide (c=0)=false:=decide_eq_false hc0;clear hc hc0;go_wp2_with (at_builtin;refine z0A ?_;intro q hq);exact HF.out
 | some S=>
   rw[ho] at ht;obtain⟨F',⟨sb,rfl,hst⟩,hk,hn⟩:=ht;rw[SO.op_code ho];obtain⟨hcnt,hpsok⟩:=hst.count;have hdead:=SO.op_dead ho;have hfw:=(zgS D S ho).few hcnt hdead;have hlt:=(RStoT.lives _ _ _ _).lt hst;have hn2:=heap_alloc_new w1 (.cells #[.pointer (some ⟨sb,0,none⟩)] 138);have hk2:=kal w1 (.cells #[.pointer (some ⟨sb,0,none⟩)] 138);obtain⟨w2,hw2⟩:=zX1 (w1.alloc (.cells #[.pointer (some ⟨sb,0,none⟩)] 138));rw[← hw2] at hn2 hk2;have hst2:=(RStoT.lives _ _ _ _).keep hst hk2 (fun _ _ x=>x);have hbx:=z0L hn2;have hac:RAcT w1.heap.size d (opS D).2.2 S w2 (fun k=>k=w1.heap.size∨F' k):=⟨sb,fun k=>k=w1.heap.size,F',⟨hn2,rfl,fun k e=>by rw[e];exact hbx⟩,hst2,fun i x y=>by have:=hlt i y;omega,rfl⟩;obtain⟨F1,F2,⟨wb,pv,Fl,h2⟩,hFe⟩:=id hst2;have L:RLook w2 w1.heap.size sb pv (.pointer (some ⟨wb,0,none⟩)) S:=⟨hn2,h2.head,h2.row,h2.ok⟩;have hpr:=zlA w2 _ sb pv _ S L (by omega);rw[hdead,if_neg (by decide)] at hpr;have hdk:RkT d (opS D).2.2 w2 F2:=RStoAt.diskAt ⟨wb,pv,Fl,h2⟩;have hkw:=hk.next hk2 (H:=F) (fun _ _ x=>x) (fun _ _ x=>x.elim);have hsz:=hk.size
   have HBad:=hid (show z8I S.ps=false→∀ W9,Keep (fun _=>False) w2 W9→Post (.returned (.tuple #[.pointer none,.int .i64 91])) W9 from fun h W9 hk9=>by
    rw[HP.out,AC.openA_bad ho hpsok.sorted h]
    exact⟨_,rfl,F2,⟨rfl,(RkT.lives _ _).keep hdk hk9 (fun _ _ x=>x)⟩,hkw.next hk9 (fun _ _ x=>x) (fun _ _ x=>x.elim),fun i x=>hn i (by rw[hFe];exact .inr x)⟩)
   have HGood:=hid (show z8I S.ps=true→∀ W9,Keep (fun _=>False) w2 W9→Post (.returned (.tuple #[.pointer (some ⟨w1.heap.size,0,none⟩),.int .i64 0])) W9 from fun h W9 hk9=>by
    obtain⟨b,vs,e⟩:=AC.openA_good ho hpsok.sorted h;rw[HP.out,e]
    exact⟨_,rfl,_,⟨w1.heap.size,rfl,(RAcT.lives _ _ _ _).keep hac hk9 (fun _ _ x=>x)⟩,hkw.next hk9 (fun _ _ x=>x) (fun _ _ x=>x.elim),fun i x=>x.elim (fun y=>.inr (by omega)) (fun y=>hn i y)⟩)
   have hlong:∀ p ∈ S.ps,p.1.length≤1000000∧p.2.length≤1000000:=fun p hp=>by have:=hpsok.each p hp;have h1:=this.2.1;have h2:=this.2.2;omega
   obtain⟨ps,hps⟩:=zX1 (S.ps);have hrow:=L.row;obtain⟨-,s1,-,-,-⟩:=zmE L.sto;obtain⟨ao,pc,hpv,-⟩:=hrow.form;subst hpv;rw[← hps] at hpr HBad HGood hlong hrow s1 hfw;obtain⟨n,hnn⟩:=zX1 (ps.length);rw[← hnn] at hrow s1 hfw;obtain⟨T,hT⟩:=zX1 (docB ps);rw[← hT] at hpr;have HR:=hid (zA1 hnn (zA1 hrow (zA1 hlong hT)));clear hst hst2 hac h2 L hdk hkw hFe hk hn hk2 hn2 hlt hcnt hpsok hdead hbx hsz hps hrow hnn hT hlong ho
   go_upto_region 5 with fail
   rw[← hw2];clear hw2;go_wp2_with (at_builtin;refine z0A ?_;intro q hq);refine hpr.mono ?_;rintro e w3 ⟨rfl,hk3⟩;clear hpr;have s1:=z0E hk3 _ _ s1;have hn4:=heap_alloc_new w3 (.cells (balC T) 28);have hk4:=kal w3 (.cells (balC T) 28)
   go_upto_region 6 with fail
   obtain⟨w4,hw4⟩:=zX1 (w3.alloc (.cells (balC T) 28));rw[← hw4] at hn4 hk4 ⊢;clear hw4;have s1:=z0E hk4 _ _ s1;have HK4:=hid (zA1 (hk3.nx hk4) hn4);clear hk3 hk4 hn4;go_wp2_with (at_builtin;refine z0A ?_;intro q hq)
   go_loopw [8] (fun iv wr=>∃ i:Nat,i≤n∧iv = .int .i64 i∧Hid (Keep (fun _=>False) w4 wr∧∀ j (hj:j<ps.length),j<i→z4E (docB ps) ps[j]=true)) (fun iv _=>n - (intOf iv).toNat)
   case atStart=>exact⟨0,Nat.zero_le _,rfl,hid ⟨Keep.refl _ _,fun j _ x=>by omega⟩⟩
   case round=>
    obtain⟨i,hi,rfl,HT⟩:=hrel;have s1:=z0E HT.out.1 _ _ s1
    by_cases him:i<n
    ·have q1:(i:Int)<n:=by omega
     have hil:i<ps.length:=by rw[← HR.out.1];exact him
     obtain⟨g,rfl,k0,k1⟩:=zrP (HR.out.2.1.keep (HK4.out.1.nx HT.out.1) (fun _ _ x=>x)) i hil;obtain⟨x,hx⟩:=zX1 (ps[i]);rw[← hx] at k0 k1;have hlx:=HR.out.2.2.1 x (by rw[hx];exact List.getElem_mem hil);have hn5:=heap_alloc_new wr (.cells #[.string (str x.1),.string (str x.2)] 140);have hk5:=kal wr (.cells #[.string (str x.1),.string (str x.2)] 140);obtain⟨w5,hw5⟩:=zX1 (wr.alloc (.cells #[.string (str x.1),.string (str x.2)] 140));rw[← hw5] at hn5 hk5;obtain⟨c0,c1,-,-⟩:=z4S hn5;have hg9:=zeQ w5 x.2 hlx.2;have HX:=hid (show (∃ h:i<ps.length,x=ps[i])∧Keep (fun _=>False) w4 w5 from⟨⟨hil,hx⟩,HT.out.1.nx hk5⟩);have HL:=hid hlx;clear hx hk5 hlx hn5 hil
     go_upto_region 10 with fail
     rw[← hw5];clear hw5 k0 k1 s1;go_wp2_with (at_builtin;refine z0A ?_;intro q hq);refine hg9.mono ?_;rintro e w6 ⟨hk6,hres⟩
     obtain⟨bb,ua,ul,uc,okb,rfl,hul,hd1⟩:∃ (bb:Bal) (ua:Option Addr) (ul uc:Nat) (okb:Bool),e = .returned (.tuple #[balV bb,.slice ua ul uc,.bool okb])∧ul≤1000000∧
       (z4E (docB ps) x=(okb && if x.1=pK then decide (ul=0) else (decide (z2Q x.1≠0) && (decide (ul≤100) && !less T bb)))):=by
      unfold z4E;rw[HR.out.2.2.2]
      cases hg:getB x.2 with
      | none=>rw[hg] at hres;exact⟨Bal.zero,none,0,0,false,hres,by decide,rfl⟩
      | some q=>
        rw[hg] at hres;obtain⟨ao',c',he,-⟩:=hres;have hql:q.2.length≤1000000:=by have h1:=getB_rest hg;have:=HL.out.2;omega
        refine⟨q.1,ao',_,c',true,he,hql,?_⟩;simp only[Bool.true_and,List.length_eq_zero_iff]
     have hn7:=heap_alloc_new w6 (.cells (balC bb) 28);have hk7:=kal w6 (.cells (balC bb) 28);have hs9:=fun w7=>zkN w7 x.1 HL.out.1;obtain⟨s,hs⟩:=zX1 (z2Q x.1);rw[← hs] at hd1;simp only[← hs] at hs9;have c0:=z0E hk6 _ _ c0
     go_upto_region 11 with fail
     obtain⟨w7,hw7⟩:=zX1 (w6.alloc (.cells (balC bb) 28));rw[← hw7] at hn7 hk7 ⊢;clear hw7;have c0:=z0E hk7 _ _ c0;have hs9:=hs9 w7;have HX2:=hid (zA1 hd1 (zA1 hn7 (HX.out.2.nx (hk6.next hk7 (H:=fun _=>False) (fun _ _ x=>x) (fun _ _ x=>x)))));clear hd1 hn7 hk6 hk7 hg9 hres c1 hs;go_wp2_with (at_builtin;refine z0A ?_;intro q hq);refine hs9.mono ?_;rintro e w8 ⟨rfl,hk8⟩;have c0:=z0E hk8 _ _ c0;have hn8:=hk8.get HX2.out.2.1 id;have hk48:=HX2.out.2.2.nx hk8;have hn4:=hk48.get HK4.out.2 id;obtain⟨t0,t1,-,-⟩:=z4S hn4;obtain⟨b0,b1,-,-⟩:=z4S hn8
     have hbad:=hid (show z4E (docB ps) x=false→∀ W9,Keep (fun _=>False) w8 W9→Post (.returned (.tuple #[.pointer none,.int .i64 91])) W9 from fun h W9 hk9=>by
      obtain⟨⟨hil,hx⟩,-⟩:=HX.out
      exact HBad.out (AC.docOk_no (by rw[hx];exact List.getElem_mem hil) h) W9 ((HK4.out.1.nx hk48).next hk9 (fun _ _ x=>x) (fun _ _ x=>x)))
     have hnext:=hid (show z4E (docB ps) x=true→∀ W9,Keep (fun _=>False) w8 W9→Keep (fun _=>False) w4 W9∧∀ j (hj:j<ps.length),j<i+1→z4E (docB ps) ps[j]=true from fun h W9 hk9=>by
      obtain⟨⟨hil,hx⟩,-⟩:=HX.out;refine⟨hk48.next hk9 (fun _ _ x=>x) (fun _ _ x=>x),fun j hj hji=>?_⟩
      rcases Nat.lt_or_eq_of_le (Nat.le_of_lt_succ hji) with y | y
      ·exact HT.out.2 j hj y
      ·subst y
       rw[← hx]
       exact h)
     have HD:=hid HX2.out.1;clear hs9 hn8 hn4 HX2 hk8 hk48
     cases okb with
     | false=>
       have fin:=hbad.out (by rw[HD.out];rfl) w8 (Keep.refl _ _);have HF:=hid fin;clear fin t0 t1 b0 b1 c0;go_wp2_with (at_builtin;refine z0A ?_;intro q hq);exact HF.out
     | true=>
       by_cases hp:x.1=pK
       ·have r1:((str x.1).toList == [112])=true:=by rw[z0Y,hp];rfl
        have r2:((str x.1).toList != [112])=false:=by rw[z0Y,hp];rfl
        by_cases hu:ul=0
        ·subst hu
         have HN:=hid (hnext.out (by rw[HD.out,if_pos hp];rfl) w8 (Keep.refl _ _));clear hp t0 t1 b0 b1;go_wp2_with (at_builtin;refine z0A ?_;intro q hq);go_roundw
         case rel=>exact⟨i+1,by omega,by go_num,HN⟩
         case measure=>simp[intOf];omega
        ·have r3:(0:Int)<(ul:Int):=by omega
         have HF:=hid (hbad.out (by rw[HD.out,if_pos hp];simpa using hu) w8 (Keep.refl _ _));clear hp hu t0 t1 b0 b1;go_wp2_with (at_builtin;refine z0A ?_;intro q hq);exact HF.out
       ·have r1:((str x.1).toList == [112])=false:=by rw[z0Y,beq_eq_false_iff_ne];exact hp
        have r2:((str x.1).toList != [112])=true:=by rw[bne,r1];rfl
        have HD2:=hid (show z4E (docB ps) x=(decide (s≠0) && (decide (ul≤100) && !less T bb)) from by rw[HD.out,if_neg hp,Bool.true_and]);clear hp HD
        by_cases hs0:s=0
        ·subst hs0
         have HF:=hid (hbad.out (by rw[HD2.out];rfl) w8 (Keep.refl _ _));clear t0 t1 b0 b1;go_wp2_with (at_builtin;refine z0A ?_;intro q hq);exact HF.out
        ·have r3:((s:Int) == 0)=false:=by simp;omega
         have r4:decide (s=0)=false:=decide_eq_false hs0
         by_cases hu:100<ul
         ·have r5:(100:Int)<(ul:Int):=by omega
          have HF:=hid (hbad.out (by rw[HD2.out,decide_eq_false (show ¬ ul≤100 by omega),Bool.false_and,Bool.and_false]) w8 (Keep.refl _ _));clear hs0 t0 t1 b0 b1;go_wp2_with (at_builtin;refine z0A ?_;intro q hq);exact HF.out
         ·have r5:decide ((100:Int)<(ul:Int))=false:=decide_eq_false (by omega)
          have r6:decide (100<ul)=false:=decide_eq_false (by omega);obtain⟨lb,hlb⟩:=zX1 (less T bb);have hls:=zlC w8 T bb;rw[← hlb] at hls;have HD3:=hid (show z4E (docB ps) x = !lb from by rw[HD2.out,decide_eq_true (show ul≤100 by omega),decide_eq_true (show s≠0 from hs0),hlb];rfl);clear hlb hu hs0 HD2;go_wp2_with (at_builtin;refine z0A ?_;intro q hq);refine hls.mono ?_;rintro e w9 ⟨rfl,hk9⟩;clear hls t0 t1 b0 b1 c0
          cases lb with
          | true=>
            have HF:=hid (hbad.out (by rw[HD3.out];rfl) w9 hk9);clear hk9;go_wp2_with (at_builtin;refine z0A ?_;intro q hq);exact HF.out
          | false=>
            have HN:=hid (hnext.out (by rw[HD3.out];rfl) w9 hk9);clear hk9;go_wp2_with (at_builtin;refine z0A ?_;intro q hq);go_roundw
            case rel=>exact⟨i+1,by omega,by go_num,HN⟩
            case measure=>simp[intOf];omega
    ·have q1:decide ((i:Int)<n)=false:=by simp;omega
     have q2:decide (i<n)=false:=decide_eq_false him;have HF:=hid (HGood.out (AC.docOk_yes fun j hj=>HT.out.2 j hj (by have:=HR.out.1;omega)) wr (HK4.out.1.next HT.out.1 (fun _ _ x=>x) (fun _ _ x=>x)));go_wp2_with (at_builtin;refine z0A ?_;intro q hq);exact HF.out
end
namespace SO
open Go.Proofs.YtkjofdocgaiedaaGreat MI BM DM WM
structure OnDisk (D:Dk) (G:Lg):Prop where
 calm:Calm D
 ok:Ok D
 h6:6≤D.safe.length
 dead:G.dead=false
 ep:WM.epoch D=G.ep
 epb:G.ep<4611686018427387904
 small:∀ r ∈ G.l,r.length≤1024
 fit:(flat G.l).length≤32 * half D
 area:∀ i,i<half D→z1O D (WM.first D G.ep+i)=z0Q (z1X (half D) G.l) i
theorem OnDisk.gone {D:Dk} {G:Lg} (h:OnDisk D G):WM.gone D G=false:=by unfold WM.gone;rw[h.dead,h.calm.2];rfl
theorem OnDisk.opens {D:Dk} {G:Lg} (h:OnDisk D G):z1S D=(0,some ⟨G.ep,G.l,G.l.length,false⟩,D):=zkU h.calm h.ok h.h6 h.ep h.small h.fit h.area
theorem zmK {D:Dk} (hc:Calm D) (ok:Ok D) (h6:6≤D.safe.length):∃ G D',z1S D=(0,some G,D')∧OnDisk D' G∧G.safe=G.l.length:=by
 obtain⟨D',h⟩:=zlL hc ok h6;refine⟨_,D',h.eq,⟨h.calm,h.ok,by rw[h.size];exact h6,rfl,?_,?_,h.small,by rw[z5G h.size];exact h.fit,fun i hi=>?_⟩,rfl⟩
 ·exact zeI hc.2 h.calm.2 (by omega) h.size fun i hi=>h.rest i fun j _=>by have:=zaK D (epoch D);omega
 ·rw[← z8L];exact zeJ D 2
 ·rw[z5G h.size] at hi ⊢
  have hf:WM.first D' (epoch D)=WM.first D (epoch D):=by unfold WM.first;rw[z5G h.size]
  rw[hf];exact h.area i hi
theorem OnDisk.sync {D:Dk} {G:Lg} (h:OnDisk D G):WM.z5I D G=(0,{ D with safe:=now D,waits:=[] },{ G with safe:=G.l.length })∧OnDisk { D with safe:=now D,waits:=[] } { G with safe:=G.l.length }:=by
 have hs:=z6S h.calm;have hl:({ D with safe:=now D,waits:=[] }:Dk).safe.length=D.safe.length:=z1H D;have hn:∀ p,z1O { D with safe:=now D,waits:=[] } p=z1O D p:=fun p=>z7I rfl rfl p;have hh:half { D with safe:=now D,waits:=[] }=half D:=z5G hl;have hf:∀ e,WM.first { D with safe:=now D,waits:=[] } e=WM.first D e:=fun e=>by unfold WM.first;rw[hh]
 refine⟨?_,⟨h.calm,?_,by rw[hl];exact h.h6,h.dead,?_,h.epb,h.small,by rw[hh];exact h.fit,fun i hi=>?_⟩⟩
 ·unfold WM.z5I
  rw[h.gone,hs];rfl
 ·have:=h.ok.sync
  rw[hs] at this;exact this
 ·have:=zeI (D:=D) (E:={ D with safe:=now D,waits:=[] }) h.calm.2 h.calm.2 (by have:=h.h6;omega) hl (fun i _=>hn i)
  rw[this];exact h.ep
 ·rw[hh] at hi ⊢
  rw[hf,hn];exact h.area i hi
theorem zlN (ep:Nat) (b:List UInt8):∀ k i (D:Dk),Ok D→Ok (lay ep b i k D).2
 | 0,_,_,h=>h
 | k+1,i,D,h=>by
   unfold lay;simp only;split
   ·exact zlN ep b k (i+1) _ (h.write _ _)
   ·exact h.write _ _
theorem zsW (ep:Nat) (b:List UInt8) (D:Dk) (h:Ok D):Ok (z2T ep b D).2:=by
 have h1:=zlN ep b (half D) 0 D h;unfold z2T;simp only;split
 ·exact h1
 ·split
  ·exact h1.sync
  ·split
   ·exact h1.sync.write _ _
   ·exact(h1.sync.write _ _).sync
theorem OnDisk.append {D:Dk} {G:Lg} (h:OnDisk D G) {b:List UInt8} (hb:b.length≤1024) :
  WM.append D G b=(5,D,G)∨((WM.append D G b).1=0∧(WM.append D G b).2.2 = { G with l:=G.l ++ [b] }∧OnDisk (WM.append D G b).2.1 { G with l:=G.l ++ [b] }):=by
 have hc:=zaR h.calm h.h6 h.dead h.fit hb;split at hc
 ·exact .inl hc
 ·rename_i hr
  right;obtain⟨c1,c2,c3,c4⟩:=hc;have hsn:=z4N G.l b;unfold room at hr;have hfit:(flat (G.l ++ [b])).length≤32 * half D:=by omega
  have hal:(z1X (half D) (G.l ++ [b])).length=32 * half D:=z2D hfit;have hal0:(z1X (half D) G.l).length=32 * half D:=z2D h.fit;have hA:WM.area D (G.l ++ [b])=z1X (half D) (G.l ++ [b]):=rfl;obtain⟨a1,-,-,a5⟩:=z4F G.ep (WM.area D (G.l ++ [b])) (((flat (G.l ++ [b])).length - 1) / 32 - (flat G.l).length / 32+1) ((flat G.l).length / 32) D h.h6 (by omega) hal
  have hr2:(WM.append D G b).2.1=(lay G.ep (WM.area D (G.l ++ [b])) ((flat G.l).length / 32) (((flat (G.l ++ [b])).length - 1) / 32 - (flat G.l).length / 32+1) D).2∧(WM.append D G b).1=(lay G.ep (WM.area D (G.l ++ [b])) ((flat G.l).length / 32) (((flat (G.l ++ [b])).length - 1) / 32 - (flat G.l).length / 32+1) D).1:=by
   unfold WM.append;rw[h.gone,if_neg (by simp),if_neg (by omega),if_neg (by unfold room;omega)];exact⟨rfl,rfl⟩
  obtain⟨r,hr0⟩:=zX1 (lay G.ep (WM.area D (G.l ++ [b])) ((flat G.l).length / 32) (((flat (G.l ++ [b])).length - 1) / 32 - (flat G.l).length / 32+1) D);rw[← hr0] at a1 a5 hr2;have hz:r.1=0:=by rw[← hr2.2];exact c1
  have hok:Ok (WM.append D G b).2.1:=by
   rw[hr2.1,hr0];exact zlN G.ep _ _ _ _ h.ok
  have hl:(WM.append D G b).2.1.safe.length=D.safe.length:=by rw[c4]
  have hh:half (WM.append D G b).2.1=half D:=z5G hl;have hf:∀ e,WM.first (WM.append D G b).2.1 e=WM.first D e:=fun e=>by unfold WM.first;rw[hh]
  have hnw:∀ p,p<2→z1O (WM.append D G b).2.1 p=z1O D p:=fun p hp=>by
   rw[hr2.1];exact(a5 hz p).2 fun j _ _=>by have:=zaK D G.ep;omega
  refine⟨c1,c2,c3,hok,by rw[hl];exact h.h6,h.dead,?_,h.epb,fun r hr=>?_,by rw[hh];exact hfit,fun i hi=>?_⟩
  ·rw[zeI h.calm.2 c3.2 (by have:=h.h6;omega) hl hnw];exact h.ep
  ·rcases List.mem_append.1 hr with x | x
   ·exact h.small r x
   ·simp at x;subst x;exact hb
  ·rw[hh] at hi ⊢
   rw[hf,hr2.1];obtain⟨b1,b2⟩:=a5 hz (WM.first D G.ep+i)
   by_cases hin:(flat G.l).length / 32≤i∧i<(flat G.l).length / 32+(((flat (G.l ++ [b])).length - 1) / 32 - (flat G.l).length / 32+1)
   ·exact b1 i hin.1 hin.2 rfl
   ·rw[b2 (fun j j1 j2=>by omega),h.area i hi]
    refine zgJ hal0 hal hi fun k hk=>?_;have hin':i<(flat G.l).length / 32∨((flat (G.l ++ [b])).length - 1) / 32<i:=by omega
    rcases hin' with q | q
    ·have hq1:32 * i+k<(flat G.l).length:=by omega
     have hq2:32 * i+k<(flat (G.l ++ [b])).length:=by omega
     rw[ziZ _ _ hq1,ziZ _ _ hq2];have he:flat (G.l ++ [b])=flat G.l ++ flat [b]:=by simp[flat]
     rw[he,List.getElem?_append_left hq1]
    ·have hq1:(flat G.l).length≤32 * i+k:=by omega
     have hq2:(flat (G.l ++ [b])).length≤32 * i+k:=by omega
     rw[zbK _ _ hq1 (by omega),zbK _ _ hq2 (by omega)]
theorem zqX {D:Dk} (hd:D.down=false) (h2:2≤D.safe.length) {n:Nat} (hn:n<4611686018427387904) (h:z1O D (n % 2)=z1B n):WM.head D (n % 2)=some n:=by
 have hlt:n % 2<2:=Nat.mod_lt _ (by decide);have hl:(z0H n).length≤10:=z4B 10 n;rw[zsT hd (by omega) _ h];have hg:=zfH [] (List.replicate (32 - (frame 1 (z0H n)).length) 0) 1 (z0H n) (by omega);simp only[List.nil_append,List.length_nil] at hg;have he:z1B n=frame 1 (z0H n) ++ List.replicate (32 - (frame 1 (z0H n)).length) 0:=rfl;rw[he,hg];have hu:=z5S (b:=z0H n) (at_:=0) (n:=n) (rest:=[]) (by omega) (by simp) (Nat.zero_le _);simp only[Nat.zero_add] at hu;simp only[hu];simp[hn]
theorem zrW {D:Dk} {i n:Nat} (hi:i<2) (h:WM.head D i=some n):n≤WM.epoch D:=by
 unfold WM.epoch;have:i=0∨i=1:=by omega
 rcases this with rfl | rfl <;> rw[h] <;> simp <;> omega
theorem znG {D:Dk} {n:Nat} (hd:D.down=false) (h2:2≤D.safe.length) (hn:n<4611686018427387904) (h:z1O D (n % 2)=z1B n) (ho:(WM.head D ((n+1) % 2)).getD 0≤n):WM.epoch D=n:=by
 have hh:=zqX hd h2 hn h;unfold WM.epoch;have:n % 2=0∨n % 2=1:=by omega
 rcases this with h0 | h0
 ·rw[h0] at hh
  rw[show (n+1) % 2=1 by omega] at ho;rw[hh];simp;omega
 ·rw[h0] at hh
  rw[show (n+1) % 2=0 by omega] at ho;rw[hh];simp;omega
theorem OnDisk.reset {D:Dk} {G:Lg} (h:OnDisk D G) (L:List (List UInt8)) (hL:∀ r ∈ L,r.length≤1024) :
  WM.reset D G L=(5,D,G)∨((WM.reset D G L).1=0∧(WM.reset D G L).2.2=⟨G.ep+1,L,L.length,false⟩∧OnDisk (WM.reset D G L).2.1 ⟨G.ep+1,L,L.length,false⟩):=by
 have hany:L.any (fun b=>decide (1024<b.length))=false:=by
  rw[List.any_eq_false];intro r hr;have:=hL r hr;simp;omega
 by_cases hf:32 * half D<(flat L).length∨G.ep+1=4611686018427387904
 ·left
  unfold WM.reset;rw[h.gone,if_neg (by simp),hany,if_neg (by simp),if_pos hf]
 ·right
  have hfit:(flat L).length≤32 * half D:=by omega
  have hal:(WM.area D L).length=32 * half D:=z2D hfit;obtain⟨c1,c2⟩:=zoN h.calm h.h6 (G.ep+1) (WM.area D L) hal (z7Z _);obtain⟨-,t2⟩:=ziI h.h6 (G.ep+1) (WM.area D L) hal (z7Z _);obtain⟨-,t3,t4,t5⟩:=t2 c1
  have hr:WM.reset D G L=(0,(z2T (G.ep+1) (WM.area D L) D).2,⟨G.ep+1,L,L.length,false⟩):=by
   unfold WM.reset;rw[h.gone,if_neg (by simp),hany,if_neg (by simp),if_neg hf];simp only;rw[if_pos c1]
  have hok:=zsW (G.ep+1) (WM.area D L) D h.ok;have hl:=zaS (G.ep+1) (WM.area D L) D;obtain⟨E,hE⟩:=zX1 ((z2T (G.ep+1) (WM.area D L) D).2);rw[← hE] at c2 t3 t4 t5 hok hl hr;rw[hr];have hh:half E=half D:=z5G hl;have hfi:∀ e,WM.first E e=WM.first D e:=fun e=>by unfold WM.first;rw[hh]
  have hepb:=h.epb;refine⟨rfl,rfl,⟨c2,hok,by rw[hl];exact h.h6,rfl,?_,by simp only;omega,hL,by rw[hh];exact hfit,fun i hi=>?_⟩⟩
  ·have h6:=h.h6
   refine znG c2.2 (show 2≤E.safe.length by omega) (show G.ep+1<4611686018427387904 by omega) t4 ?_;have hp:(G.ep+1+1) % 2<2:=Nat.mod_lt _ (by decide)
   have he:WM.head E ((G.ep+1+1) % 2)=WM.head D ((G.ep+1+1) % 2):=by
    refine zhO h.calm.2 c2.2 (by omega) (by omega) (t5 _ (by omega) fun j _=>?_);have:=zaK D (G.ep+1);omega
   rw[he]
   cases hx:WM.head D ((G.ep+1+1) % 2) with
   | none=>exact Nat.zero_le _
   | some n=>
     have:=zrW hp hx;rw[h.ep] at this;simp only[Option.getD_some];omega
  ·rw[hh] at hi ⊢
   rw[hfi];exact t3 i hi
structure Sound (D:Dk) (S:St):Prop where
 disk:OnDisk D S.g
 dead:S.dead=false
 okay:Okay S
 ok:PsOk S.ps
theorem znT {ps:List (Str×Str)} (h:∀ p ∈ ps,OkP p):∀ r ∈ cpL ps,r.length≤1024:=fun r hr=>by
 unfold cpL at hr;obtain⟨p,hp,rfl⟩:=List.mem_map.1 hr;have:=zgR (zaT (h p hp));simp at this;omega
theorem Sound.cp {D:Dk} {S:St} (h:Sound D S):Sound (cpS D S).2.1 (cpS D S).2.2∧(((cpS D S).1=5∧(cpS D S).2=(D,S))∨((cpS D S).1=0∧(cpS D S).2.2.g.safe=(cpS D S).2.2.g.l.length)):=by
 have hk:=zhF (D:=D) h.disk.h6 h.okay h.ok
 rcases h.disk.reset (cpL S.ps) (znT h.ok.each) with hr | ⟨h1,h2,h3⟩
 ·have e:cpS D S=(5,D,S):=by
   unfold cpS;rw[h.dead,if_neg (by simp),hr];show ((5:Int),D,(⟨S.g,S.ps,decide ((5:Int)=6)⟩:St))=_;rw[show decide ((5:Int)=6)=S.dead by rw[h.dead];rfl]
  rw[e];exact⟨h,.inl ⟨rfl,rfl⟩⟩
 ·have e:cpS D S=(0,(WM.reset D S.g (cpL S.ps)).2.1,⟨⟨S.g.ep+1,cpL S.ps,(cpL S.ps).length,false⟩,S.ps,false⟩):=by
   unfold cpS;rw[h.dead,if_neg (by simp),h2,h1];rfl
  rw[e] at hk ⊢;exact⟨⟨h3,rfl,hk,h.ok⟩,.inr ⟨rfl,rfl⟩⟩
theorem Sound.ap {D:Dk} {S:St} (h:Sound D S) {l:List Ch} (he:encE l=0) :
  ((apS D S (enc l)).1=5∧(apS D S (enc l)).2=(D,S))∨((apS D S (enc l)).1=0∧OnDisk (apS D S (enc l)).2.1 (apS D S (enc l)).2.2.g∧(apS D S (enc l)).2.2.dead=false):=by
 obtain⟨hl,-⟩:=wbytes l he;unfold apS
 rcases h.disk.append hl with hr | ⟨h1,h2,h3⟩
 ·left
  rw[hr];refine⟨rfl,?_⟩;show (D,(⟨S.g,S.ps,decide ((5:Int)=6)⟩:St))=_;rw[show decide ((5:Int)=6)=S.dead by rw[h.dead];rfl]
 ·right
  refine⟨h1,?_,by simp only;rw[h1];rfl⟩;simp only;rw[h2];exact h3
theorem Sound.do {D:Dk} {S:St} (h:Sound D S) (l:List Ch):Sound (doS D S l).2.1 (doS D S l).2.2:=by
 have hk:=zsF h.disk.h6 h.okay h.ok l;unfold doS at hk ⊢;rw[h.dead] at hk ⊢;simp only[Bool.false_eq_true,if_false] at hk ⊢
 by_cases he:encE l=0
 ·rw[if_neg (by omega)] at hk ⊢
  have hps:=intoS_ps D S (enc l)
  have key:OnDisk (z3D D S (enc l)).2.1 (z3D D S (enc l)).2.2.g∧(z3D D S (enc l)).2.2.dead=false:=by
   unfold z3D
   rcases h.ap he with ⟨a1,a2⟩ | ⟨a1,a2,a3⟩
   ·rw[if_pos a1,a2]
    simp only;obtain⟨hc,hcc⟩:=h.cp;split
    ·rename_i h0
     rcases hc.ap he with ⟨b1,b2⟩ | ⟨b1,b2,b3⟩
     ·rw[b2]
      exact⟨hc.disk,hc.dead⟩
     ·exact⟨b2,b3⟩
    ·exact⟨hc.disk,hc.dead⟩
   ·rw[if_neg (by omega)]
    exact⟨a2,a3⟩
  have hps2:PsOk (layL S.ps l):=h.ok.layL (z1N (wbytes l he).2).2;unfold zaE at hk ⊢
  by_cases h0:(z3D D S (enc l)).1=0
  ·rw[if_pos h0] at hk ⊢
   rw[hps] at hk ⊢;exact⟨key.1,key.2,hk,hps2⟩
  ·rw[if_neg h0] at hk ⊢
   exact⟨key.1,key.2,hk,by rw[hps];exact h.ok⟩
 ·rw[if_pos he]
  exact h
theorem Sound.sy {D:Dk} {S:St} (h:Sound D S):(syS D S).1=0∧Sound (syS D S).2.1 (syS D S).2.2∧(syS D S).2.1.waits = []∧(syS D S).2.2.ps=S.ps:=by
 obtain⟨h1,h2⟩:=h.disk.sync
 have e:syS D S=(0,{ D with safe:=now D,waits:=[] },⟨{ S.g with safe:=S.g.l.length },S.ps,false⟩):=by
  unfold syS;rw[h.dead,if_neg (by simp),h1];rfl
 have hk:=ztC D h.okay;rw[e] at hk ⊢;exact⟨rfl,⟨h2,rfl,hk,h.ok⟩,rfl,rfl⟩
theorem zmX:∀ (L:List (List UInt8)) (ps q:List (Str×Str)),PsOk ps→decL L ps=some q→PsOk q
 | [],ps,q,h,e=>by cases e;exact h
 | b :: L,ps,q,h,e=>by
   unfold decL at e
   cases hd:dec b with
   | none=>rw[hd] at e;cases e
   | some l=>
     rw[hd] at e;exact zmX L _ q (h.layL (dec_len hd).2) e
theorem zeA {D:Dk} (hc:Calm D) (ok:Ok D) (h6:6≤D.safe.length) (S:St) (h:(opS D).2.1=some S):Sound (opS D).2.2 S:=by
 obtain⟨G,D',e,hg,-⟩:=zmK hc ok h6;have hk:=zgS D S h;unfold opS at h ⊢;rw[e] at h ⊢;simp only at h ⊢
 cases hd:decL G.l [] with
 | none=>rw[hd] at h;cases h
 | some ps=>
   rw[hd] at h;cases h;exact⟨hg,rfl,hk,zmX _ _ _ PsOk.nil hd⟩
end SO
namespace AC
open Go.Proofs.YtkjofdocgaiedaaGreat MI SO BM DM WM
theorem z4J (n:Nat):(z0H n).length≤10:=z4B 10 n
theorem zdT (b:Bal):(putB b).length≤20:=by
 have h1:=z4J b.n;have h2:=z4J b.node.toNat;simp[putB];omega
theorem zgW (c:Ch):(encC c).length≤c.key.length+c.value.length+21:=by
 have h1:=z4J c.key.length;have h2:=z4J c.value.length;unfold encC;split <;> simp[SO.putB] <;> omega
theorem zkR {b:Bal}:right (z5K b)=true:=by
 have h:=zdT b;simp[right,z5K,z1G,pK];omega
theorem zkG {v:Vt} (hv:v.val.length≤100):right (z4X v)=true:=by
 have h:=zdT v.bal;have h2:=z6B v.slot;simp[right,z4X,z1G,pK,h2];omega
theorem zrI (b:Bal):encE (z5K b)=0∧(enc (z5K b)).length≤60:=by
 have h:=zdT b;have h1:=z4J 1;have h2:=zgW ⟨pK,putB b,false⟩
 have hl:(enc (z5K b)).length≤60:=by
  simp[enc,z5K,pK] at *;omega
 refine⟨?_,hl⟩;unfold encE;rw[zkR];simp only[if_true];rw[if_neg (by omega)]
theorem zqV {v:Vt} (hv:v.val.length≤100):encE (z4X v)=0∧(enc (z4X v)).length≤210:=by
 have h:=zdT v.bal;have h1:=z4J 2;have h2:=zgW ⟨pK,putB v.bal,false⟩;have h3:=zgW ⟨keyS v.slot,putB v.bal ++ v.val,false⟩;have h4:=z6B v.slot
 have hl:(enc (z4X v)).length≤210:=by
  simp[enc,z4X,pK] at *;omega
 refine⟨?_,hl⟩;unfold encE;rw[zkG hv];simp only[if_true];rw[if_neg (by omega)]
theorem ziL {D:Dk} {S:St} (h:Sound D S) {l:List Ch} (he:encE l=0) (hr:(flat S.g.l).length+((enc l).length+10)≤32 * half D) :
  (doA D S l).1=0∧Sound (doA D S l).2.1 (doA D S l).2.2∧(doA D S l).2.2.ps=layL S.ps l∧(flat (doA D S l).2.2.g.l).length=(flat S.g.l).length+((enc l).length+10)∧half (doA D S l).2.1=half D:=by
 have hc:=zaR h.disk.calm h.disk.h6 h.disk.dead h.disk.fit (wbytes l he).1;rw[if_neg (by unfold room;omega)] at hc;obtain⟨c1,c2,c3,c4⟩:=hc;have hap:(apS D S (enc l)).1=0:=c1
 have e:doS D S l=zaE (apS D S (enc l)) l:=by
  unfold doS;rw[h.dead];simp only[Bool.false_eq_true,if_false];rw[if_neg (by omega)];unfold z3D;rw[if_neg (by omega)]
 have h0:(doS D S l).1=0:=by rw[e];exact hap
 have hd:=h.do l;obtain⟨s1,s2,s3,s4⟩:=hd.sy
 have hps:(doS D S l).2.2.ps=layL S.ps l:=by
  rw[e];unfold zaE;rw[if_pos hap];rfl
 have hg:(doS D S l).2.2.g = { S.g with l:=S.g.l ++ [enc l] }:=by
  rw[e];unfold zaE;rw[if_pos hap];exact c2
 have hh:half (doS D S l).2.1=half D:=by
  rw[e];refine z5G ?_;show (WM.append D S.g (enc l)).2.1.safe.length=_;rw[c4]
 have ed:doA D S l=syS (doS D S l).2.1 (doS D S l).2.2:=by unfold doA;rw[if_pos h0]
 obtain⟨y1,-⟩:=hd.disk.sync
 have ey:syS (doS D S l).2.1 (doS D S l).2.2=(0,{ (doS D S l).2.1 with safe:=now (doS D S l).2.1,waits:=[] },⟨{ (doS D S l).2.2.g with safe:=(doS D S l).2.2.g.l.length },(doS D S l).2.2.ps,false⟩):=by
  unfold syS;rw[hd.dead,if_neg (by simp),y1];rfl
 rw[ed];refine⟨s1,s2,by rw[s4,hps],?_,?_⟩
 ·rw[ey]
  simp only;rw[hg];simp only;exact z4N _ _
 ·rw[ey,← hh]
  exact z5G (z1H _)
end AC
namespace AC
open Go.Proofs.YtkjofdocgaiedaaGreat MI SO BM DM WM
structure Room (H m:Nat) (D:Dk) (A:Ac):Prop where
 sound:Sound D A.s
 ok:AOk A
 half:WM.half D=H
 few:(flat A.s.g.l).length≤m
theorem zmU {D:Dk} {S:St} {l:List Ch} (h:Sound D S) (h0:(doA D S l).1=0):(doA D S l).2.1.waits = []:=by
 unfold doA at *;split
 ·exact(h.do l).sy.2.2.1
 ·rename_i h1
  rw[if_neg h1] at h0;exact absurd h0 h1
theorem Room.alive {H m:Nat} {D:Dk} {A:Ac} (h:Room H m D A):A.s.dead=false:=h.sound.dead
theorem Room.prep {H m:Nat} {D:Dk} {A:Ac} (h:Room H m D A) (hm:m+70≤32 * H) {b:Bal} (hb:OkB b) (hl:less b A.b=false) (k:Nat) :
  (z2U D A b k).1=(z7Y A.vs k,b,0)∧Room H (m+70) (z2U D A b k).2.1 (z2U D A b k).2.2∧(z2U D A b k).2.2.b=b∧(z2U D A b k).2.2.vs=A.vs:=by
 have hok:=h.ok.prep (D:=D) b hb.2 k;unfold z2U at hok ⊢;rw[if_neg (by rw[hb.1];decide),if_neg (by rw[h.alive];decide),if_neg (by rw[hl];decide)] at hok ⊢
 by_cases e:b=A.b
 ·rw[if_pos e] at hok ⊢
  exact⟨rfl,⟨h.sound,h.ok,h.half,show (flat A.s.g.l).length≤_ from by have:=h.few;omega⟩,e.symm,rfl⟩
 ·rw[if_neg e] at hok ⊢
  obtain⟨e1,e2⟩:=zrI b;obtain⟨r1,r2,r3,r4,r5⟩:=ziL h.sound e1 (by have:=h.few;rw[h.half];omega);rw[if_pos r1] at hok ⊢;exact⟨rfl,⟨r2,hok,by rw[r5];exact h.half,by simp only;rw[r4];have:=h.few;omega⟩,rfl,rfl⟩
theorem Room.accept {H m:Nat} {D:Dk} {A:Ac} (h:Room H m D A) (hm:m+220≤32 * H) {v:Vt} (hr:z6F v=true) (hn:v.bal.n<18446744073709551616) (hs:v.slot<18446744073709551616) (hl:less v.bal A.b=false) :
  (z0O D A v).1=(v.bal,0)∧Room H (m+220) (z0O D A v).2.1 (z0O D A v).2.2∧(z0O D A v).2.2.b=v.bal∧(z0O D A v).2.2.vs=insV A.vs v:=by
 have hok:=h.ok.accept (D:=D) v hn hs
 have hv:v.val.length≤100:=by
  simp only[z6F,Bool.and_eq_true,decide_eq_true_eq] at hr;exact hr.2.2
 unfold z0O at hok ⊢;rw[if_neg (by rw[hr];decide),if_neg (by rw[h.alive];decide),if_neg (by rw[hl];decide)] at hok ⊢;obtain⟨e1,e2⟩:=zqV hv;obtain⟨r1,r2,r3,r4,r5⟩:=ziL h.sound e1 (by have:=h.few;rw[h.half];omega);rw[if_pos r1] at hok ⊢;exact⟨rfl,⟨r2,hok,by rw[r5];exact h.half,by simp only;rw[r4];have:=h.few;omega⟩,rfl,rfl⟩
theorem Room.accept_still {H m:Nat} {D:Dk} {A:Ac} (h:Room H m D A) {v:Vt} (h0:(z0O D A v).1.2=0):(z0O D A v).2.1.waits = []:=by
 unfold z0O at *;split
 ·rename_i h1;rw[if_pos h1] at h0;exact absurd h0 (show ¬ (2:Int)=0 by decide)
 rename_i h1;rw[if_neg h1] at h0;split
 ·rename_i h2;rw[if_pos h2] at h0;exact absurd h0 (show ¬ (6:Int)=0 by decide)
 rename_i h2;rw[if_neg h2] at h0;split
 ·rename_i h3;rw[if_pos h3] at h0;exact absurd h0 (show ¬ (90:Int)=0 by decide)
 rename_i h3;rw[if_neg h3] at h0;split
 ·rename_i h4;exact zmU h.sound h4
 ·rename_i h4;rw[if_neg h4] at h0;exact absurd h0 h4
theorem Room.again {H m:Nat} {D:Dk} {A:Ac} (h:Room H m D A) (hw:D.waits = []):∃ S',DM.crash D []=D∧z3V D=(0,some ⟨S',A.b,A.vs⟩,D)∧Room H m D ⟨S',A.b,A.vs⟩:=by
 have hcr:DM.crash D []=D:=by
  obtain⟨sf,wt,lf,dn⟩:=D;have hc:=h.sound.disk.calm;simp only at hw;subst hw;obtain⟨c1,c2⟩:=hc;simp only at c1 c2;subst c1 c2;rfl
 have ho:=h.sound.disk.opens;have hk:=h.sound.okay h.sound.dead
 have hop:opS D=(0,some ⟨⟨A.s.g.ep,A.s.g.l,A.s.g.l.length,false⟩,A.s.ps,false⟩,D):=by
  unfold opS;rw[ho];simp only;rw[hk]
 have hps:=h.ok.ps h.alive;have hrd:rd A.s.ps=some (A.b,A.vs):=by rw[hps];exact ztW (h.ok.ok h.alive)
 have hs:=zeA h.sound.disk.calm h.sound.disk.ok h.sound.disk.h6 _ (by rw[hop]);rw[hop] at hs;refine⟨_,hcr,?_,⟨hs,⟨fun _=>h.ok.ok h.alive,fun _=>hps⟩,h.half,h.few⟩⟩;unfold z3V;rw[hop];simp only;rw[hrd]
theorem zhK {D:Dk} {A:Ac} (hd:A.s.dead=false) {v:Vt} (hr:z6F v=true) (hl:less v.bal A.b=true):z0O D A v=((A.b,90),D,A):=by
 unfold z0O;rw[if_neg (by rw[hr];decide),if_neg (by rw[hd];decide),if_pos hl]
theorem zkS {D:Dk} {A:Ac} {v:Vt} (hr:z6F v=false):z0O D A v=((Bal.zero,2),D,A):=by
 unfold z0O;rw[if_pos hr]
theorem zlR {D:Dk} {A:Ac} (hd:A.s.dead=false) {b:Bal} (hr:z2Z b=true) (hl:less b A.b=true) (k:Nat):z2U D A b k=(([],A.b,90),D,A):=by
 unfold z2U;rw[if_neg (by rw[hr];decide),if_neg (by rw[hd];decide),if_pos hl]
theorem Room.any {H m:Nat} {D:Dk} {A:Ac} (h:Room H m D A) (hm:m+220≤32 * H) (v:Vt) (hn:v.bal.n<18446744073709551616) (hs:v.slot<18446744073709551616):Room H (m+220) (z0O D A v).2.1 (z0O D A v).2.2∧
  (((z0O D A v).1.2=0∧(z0O D A v).2.2.vs=insV A.vs v∧z6F v=true)∨((z0O D A v).1.2≠0∧(z0O D A v).2.2.vs=A.vs)):=by
 have up:Room H (m+220) D A:=⟨h.sound,h.ok,h.half,by have:=h.few;omega⟩
 cases hr:z6F v with
 | false=>
   rw[zkS hr];exact⟨up,.inr ⟨show (2:Int)≠0 by decide,rfl⟩⟩
 | true=>
   cases hl:less v.bal A.b with
   | true=>
     rw[zhK h.alive hr hl];exact⟨up,.inr ⟨show (90:Int)≠0 by decide,rfl⟩⟩
   | false=>
     obtain⟨h1,h2,h3,h4⟩:=h.accept hm hr hn hs hl;exact⟨h2,.inl ⟨by rw[h1],h4,rfl⟩⟩
theorem zqP {b:Bal} (h:b=Bal.zero∨OkB b):less ⟨18446744073709551615,11⟩ b=false:=by
 rcases h with rfl | h
 ·decide
 ·obtain⟨h1,h2,h3⟩:=z1U.1 h.1
  have h4:=h.2;simp[less];omega
theorem zfX {v:Vt}:∀ {vs:List Vt},Rise vs→(insV vs v).Perm (v :: vs.filter fun u=>decide (u.slot≠v.slot))
 | [],_=>by simp[insV]
 | u :: vs,h=>by
   have h1:=List.pairwise_cons.1 h;unfold insV
   by_cases hlt:u.slot<v.slot
   ·rw[if_pos hlt,List.filter_cons,if_pos (by simp;omega)]
    exact((zfX h1.2).cons u).trans (List.Perm.swap v u _)
   ·rw[if_neg hlt]
    by_cases he:u.slot=v.slot
    ·rw[if_pos he,List.filter_cons,if_neg (by simpa using he)]
     refine List.Perm.cons v ?_;rw[List.filter_eq_self.2];intro x hx;have:=h1.1 x hx;simp;omega
    ·rw[if_neg he]
     refine List.Perm.cons v ?_;rw[List.filter_eq_self.2];intro x hx
     rcases List.mem_cons.1 hx with rfl | hx
     ·simpa using he
     ·have:=h1.1 x hx
      simp;omega
def zpY (last:List Vt) (v:Vt):List Vt:=last.filter (fun u=>decide (u.slot≠v.slot)) ++ [v]
theorem zjV {last vs:List Vt} {v:Vt} (h:last.Perm vs) (hr:Rise vs):(zpY last v).Perm (insV vs v):=by
 unfold zpY;refine List.perm_append_comm.trans ?_;exact((h.filter _).cons v).trans (zfX hr).symm
theorem zjR {vs:List Vt} (h:Rise vs):vs.Nodup:=h.imp fun {a b} hab e=>by rw[e] at hab;omega
theorem znN {last vs:List Vt} (h:last.Perm vs) (hr:Rise vs) (x:Vt) (hx:x ∈ vs):last.countP (fun y=>decide (x=y))=1:=by
 have h1:last.countP (fun y=>decide (x=y))=vs.countP (fun y=>decide (x=y)):=h.countP_eq _;rw[h1];have h2:=List.Nodup.count (zjR hr) (a:=x);rw[if_pos hx] at h2;rw[← h2,List.count];congr 1
 funext y
 by_cases hxy:x=y
 ·subst hxy
  simp
 ·rw[decide_eq_false hxy]
  exact(beq_eq_false_iff_ne.2 fun e=>hxy e.symm).symm
theorem zsZ {last vs:List Vt} (h:last.Perm vs) (k:Nat):last.countP (fun y=>decide (k≤y.slot))=(z7Y vs k).length:=by
 rw[h.countP_eq,List.countP_eq_length_filter];rfl
end AC
namespace AC
open Go.Proofs.YtkjofdocgaiedaaGreat MI SO BM DM WM
theorem zeW (D:Dk) (S:St):(syS D S).2.1.waits.length≤D.waits.length:=by
 unfold syS;split
 ·exact Nat.le_refl _
 ·exact zbH D S.g
theorem zfD {D:Dk} (h:D.safe.length≤2048) (S:St) (l:List Ch):(doA D S l).2.1.waits.length≤D.waits.length+5120:=by
 have h1:=zeX h S l;unfold doA;split
 ·exact Nat.le_trans (zeW _ _) h1
 ·exact h1
theorem zgY {D:Dk} (h:D.safe.length≤2048) (A:Ac) (b:Bal) (k:Nat):(z2U D A b k).2.1.waits.length≤D.waits.length+5120:=by
 have h1:=zfD h A.s (z5K b);unfold z2U
 repeat' split
 all_goals simp only
 all_goals omega
theorem z8M {D:Dk} (h:D.safe.length≤2048) (A:Ac) (v:Vt):(z0O D A v).2.1.waits.length≤D.waits.length+5120:=by
 have h1:=zfD h A.s (z4X v);unfold z0O
 repeat' split
 all_goals simp only
 all_goals omega
theorem zpI (b:Bal) (vs:List Vt):(encP b vs).length≤vs.length+1:=by
 unfold encP;rw[List.length_append,List.length_map];split <;> simp <;> omega
theorem AOk.few {A:Ac} (h:AOk A) (hd:A.s.dead=false):A.s.ps.length≤A.vs.length+1:=by
 rw[h.ps hd];exact zpI _ _
end AC
namespace AC
open Go.Proofs.YtkjofdocgaiedaaGreat MI SO BM DM WM
theorem z5Y:∀ (l:List Ch) (ps:List (Str×Str)),(layL ps l).length≤ps.length+l.length
 | [],ps=>by simp[layL]
 | c :: l,ps=>by
   have h1:=MI.lay1_len ps c;have h2:=z5Y l (lay1 ps c);have e:layL ps (c :: l)=layL (lay1 ps c) l:=rfl;rw[e,List.length_cons];omega
theorem zrU (D:Dk) (S:St) (l:List Ch):(doS D S l).2.2.ps.length≤S.ps.length+l.length:=by
 unfold doS;split
 ·simp only;omega
 ·split
  ·simp only;omega
  ·unfold zaE
   have h:=intoS_ps D S (enc l);simp only;split
   ·simp only
    rw[h];exact z5Y l S.ps
   ·rw[h];omega
theorem zsD (D:Dk) (S:St):(syS D S).2.2.ps=S.ps:=by unfold syS;split <;> rfl
theorem zsY (D:Dk) (S:St) (l:List Ch):(doA D S l).2.2.ps.length≤S.ps.length+l.length:=by
 have h:=zrU D S l;unfold doA;split
 ·rw[zsD];exact h
 ·exact h
theorem zhG (D:Dk) (A:Ac) (v:Vt):(z0O D A v).2.2.s.ps.length≤A.s.ps.length+2:=by
 have h:=zsY D A.s (z4X v);have e:(z4X v).length=2:=rfl;unfold z0O
 repeat' split
 all_goals simp only
 all_goals omega
structure Inv (k:Nat) (D:Dk) (o:Option Ac):Prop where
 waits:D.waits.length≤1024+6200 * k
 ok:∀ A,o=some A→AOk A∧A.s.ps.length≤128000+64 * k
end AC
section
open Go.RowKit Go.Maps
open MI SO BM DM WM AC
def PairA (W:World) (p:Nat) (D:Dk) (o:Option Ac) (w:World):Prop:=
 ∃ d m av rv A F G,Three W (BoxT p (zcB d m av rv) 40) A (AcP d D o av) F (RAcP m D o rv) G w
def PairD (W:World) (p:Nat) (D:Dk) (w:World):Prop:=
 ∃ d m av rv A F G,Three W (BoxT p (zcB d m av rv) 40) A (DkT d D) F (RkT m D) G w
theorem AcP.ptr {d:Nat} {D:Dk} {o:Option Ac} {av:Value} {w:World} {F:Nat→Prop} (h:AcP d D o av w F):∃ x,av = .pointer x∧x.isNone=o.isNone:=by
 cases o with
 | none=>exact⟨none,h.1,rfl⟩
 | some S=>obtain⟨b,e,-⟩:=h;exact⟨_,e,rfl⟩
theorem RAcP.ptr {d:Nat} {D:Dk} {o:Option Ac} {av:Value} {w:World} {F:Nat→Prop} (h:RAcP d D o av w F):∃ x,av = .pointer x∧x.isNone=o.isNone:=by
 cases o with
 | none=>exact⟨none,h.1,rfl⟩
 | some S=>obtain⟨b,e,-⟩:=h;exact⟨_,e,rfl⟩
theorem zkB (W w:World) (p:Nat) (D:Dk) (h:PairD W p D w) (hfew:D.waits.length≤800000) :
  Calls Tryz.prog 33 #[.pointer (some ⟨p,0,none⟩)] w fun e w'=>e = .returned (.bool true)∧PairA W p (z3V D).2.2 (z3V D).2.1 w':=by
 obtain⟨d,m,sv,rv,A,F,G,h⟩:=h;obtain⟨R,hR⟩:=zX1 (z3V D);have hop:=zbR w d F D h.two hfew;rw[← hR] at hop ⊢;obtain⟨h0,h1,h2,h3,hf,hb⟩:=z4D h.one.1;have H0:=hid (zA1 h (zA1 hR hfew));clear h hR hfew;go_enter Tryz.func33,Tryz.ntmps33;go_wp2_with (at_builtin;refine z0A ?_;intro q hq);refine hop.mono ?_;rintro e w1 ⟨sv1,rfl,ht⟩;obtain⟨F1,T1⟩:=H0.out.1.turn2 (BoxT.lives _ _ _) (RkT.lives _ _) ht;have hrop:=zkC w1 m G D T1.three H0.out.2.2;rw[← H0.out.2.1] at hrop;clear hop ht h0 h1 h2 h3 hf hb;obtain⟨h0,h1,h2,h3,hf,hb⟩:=z4D T1.one.1;have HT1:=hid T1;clear T1;go_wp2_with (at_builtin;refine z0A ?_;intro q hq);refine hrop.mono ?_;rintro e w2 ⟨rv1,rfl,ht⟩;obtain⟨G1,T2⟩:=HT1.out.turn3 (BoxT.lives _ _ _) (AcP.lives _ _ _ _) ht;clear hrop ht h0 h1 h2 h3 hf hb;obtain⟨h0,h1,h2,h3,hf,hb⟩:=z4D T2.one.1;obtain⟨x,rfl,hx⟩:=T2.two.ptr;obtain⟨y,rfl,hy⟩:=T2.three.ptr;have hk3:Keep (fun k=>k=p) w2 ((w2.setCell ⟨p,1,none⟩ (.pointer x)).setCell ⟨p,3,none⟩ (.pointer y)):=by refine Keep.setCell (Keep.setCell (Keep.refl _ _) (.inl ?_) _) (.inl ?_) _ <;> rfl
 have hh3:=z0C (z0C T2.one.1 1 (.pointer x)) 3 (.pointer y);obtain⟨A3,T3⟩:=T2.box (AcP.lives _ _ _ _) (RAcP.lives _ _ _ _) hk3 hh3;have HZ:=hid (show PairA W p R.2.2 R.2.1 _ from⟨d,m,.pointer x,.pointer y,A3,F1,G1,T3⟩);clear T2 hk3 hh3 T3;have hxy:x.isNone=y.isNone:=hx.trans hy.symm;have HXY:=hid hxy;clear hx hy hxy
 cases x with
 | none=>
   cases y with
   | none=>
     go_wp2_with (at_builtin;refine z0A ?_;intro q hq);go_ret;exact⟨by simp,HZ.out⟩
   | some y=>exact absurd HXY.out (by simp)
 | some x=>
   cases y with
   | none=>exact absurd HXY.out (by simp)
   | some y=>
     go_wp2_with (at_builtin;refine z0A ?_;intro q hq);go_ret;exact⟨by simp,HZ.out⟩
theorem zhS (w:World) (s:Nat) (h0:0<s) (h1:s≤2048) :
  Calls Tryz.prog 8 #[.int .i64 (s:Nat)] w fun e w'=>∃ p,e = .returned (.tuple #[.pointer (some ⟨p,0,none⟩),.bool true])∧PairA w p (z3V (DM.new s)).2.2 (z3V (DM.new s)).2.1 w':=by
 have hn:=znU w s h0 h1;clear h0;go_enter Tryz.func8,Tryz.ntmps8;go_wp2_with (at_builtin;refine z0A ?_;intro q hq);refine hn.mono ?_;rintro e w1 ⟨d,Pd,rfl,hD1,hk1,hP1⟩;have hr:=zsV w1 s (by have:=hD1.ok.pos;simp[DM.new] at this;omega) h1;have H1:=hid (zA1 hD1 (zA1 hk1 hP1));clear hD1 hk1 hP1;go_wp2_with (at_builtin;refine z0A ?_;intro q hq);refine hr.mono ?_;rintro e w2 ⟨m,Qd,rfl,hD2,hk2,hP2⟩;have H2:=hid (zA1 hD2 (zA1 hk2 hP2));clear hD2 hk2 hP2 hn hr;go_wp2_with (at_builtin;refine z0A ?_;intro q hq);have T2:=Two.make (T:=DkT d (DM.new s)) (U:=RkT m (DM.new s)) (w0:=w) H1.out.1 H1.out.2.2 H1.out.2.1 (DkT.lives _ _) H2.out.1 H2.out.2.2 H2.out.2.1;have hk3:=kal w2 (.cells (zcB d m (.pointer none) (.pointer none)) 40)
 have T3:=T2.and (DkT.lives _ _) (RkT.lives _ _) (V:=BoxT w2.heap.size (zcB d m (.pointer none) (.pointer none)) 40) (H:=fun k=>k=w2.heap.size)
  ⟨heap_alloc_new w2 _,rfl,fun k e=>by subst e;simp⟩ (fun k e=>by omega) hk3
 have hop:=zkB w _ w2.heap.size (DM.new s) ⟨d,m,.pointer none,.pointer none,_,_,_,T3.turn.turn⟩ (by simp[DM.new]);clear T2 hk3 T3;go_wp2_with (at_builtin;refine z0A ?_;intro q hq);refine hop.mono ?_;rintro e w4 ⟨rfl,hZ⟩;have HZ:=hid hZ;clear hZ;go_wp2_with (at_builtin;refine z0A ?_;intro q hq);go_ret2;exact⟨_,rfl,HZ.out⟩
end
section
open Go.ChangeShapes Go.WideShapes Go.RowKit Go.Deep
open MI SO BM DM WM AC
def U8R (cs:List Value) (u:UInt8):Prop:=cs = [.int .u8 (u.toNat:Int)]
abbrev Octs (w:World) (v:Value) (l:List UInt8):Prop:=SliceOf w 1 U8R v l
def BalsR (b:Bal):Prop:=b.n<18446744073709551616∧-9223372036854775808≤b.node∧b.node≤9223372036854775807
structure VtR (x:Vt):Prop where
 slot:x.slot<18446744073709551616
 bal:BalsR x.bal
def VoteR (w:World) (cs:List Value) (x:Vt):Prop:=∃ u,cs=z2H x u∧Octs w u x.val∧VtR x
abbrev VoteL (w:World) (v:Value) (l:List Vt):Prop:=SliceOf w 4 (VoteR w) v l
theorem Octs.cells {w:World} {ao:Option Addr} {n c:Nat} {l:List UInt8} (h:Octs w (.slice ao n c) l):n=l.length∧l.length≤c∧c≤maxLen∧Cells w ao l.length 1 (z0B l):=by
 obtain⟨ao',c',e,h1,h2,h3⟩:=h;cases e;refine⟨rfl,h1,h2,by rw[z0D];omega,fun hp=>?_⟩;obtain⟨ad,rfl,hi⟩:=h3 (by omega);refine⟨ad,rfl,fun t u hu=>?_⟩
 have ht:t<l.length:=by
  have:=(List.getElem?_eq_some_iff.1 hu).1;rw[z0D] at this;exact this
 obtain⟨cs,-,hR,hc⟩:=hi t ht
 have e:u = .int .u8 ((l[t]).toNat:Int):=by
  simp only[z0B,List.getElem?_map,List.getElem?_eq_getElem ht,Option.map_some,Option.some.injEq] at hu;exact hu.symm
 have:=hc 0 u (by rw[hR,e];rfl);rw[Nat.mul_one,Nat.add_zero] at this;exact this
section
variable {H:Type} {enc:TypeId×Value→H} {w:World} {base:Nat} {held:Bool} {fuel:Nat}
theorem ztN {a:Int} (h:(Lit.int .u8 a).wf=true):∃ u:UInt8,a=(u.toNat:Int):=by
 have hx:0≤a∧a≤255:=by simpa [Lit.wf,IntKind.min,IntKind.max,IntKind.signed,IntKind.bits] using h
 refine⟨UInt8.ofNat a.toNat,?_⟩;simp;omega
theorem zrZ {v:Value} {x:DataW H×List MemPlace} (h:DataW.trod enc Tryz.prog w base (fun _=>true) held fuel 29 [v]=some x):∃ l,Octs w v l:=
 zfN Tryz.underlying29 (by kernel_rfl) (fun _ _ _ _ h=>let ⟨n,h1,h2⟩:=zjL Tryz.underlying5 h;let ⟨u,hu⟩:=ztN h2;⟨u,by rw[h1,hu];rfl⟩) h
theorem znX {cs:List Value} {x:DataW H×List MemPlace} (h:DataW.trod enc Tryz.prog w base (fun _=>true) held fuel 28 cs=some x):∃ b:Bal,cs = [.int .u64 (b.n:Int),.int .i64 b.node]∧BalsR b:=by
 have hl:=zrQ Tryz.underlying28 h;have c2:Tryz.prog.cellsOf 28=2:=by kernel_rfl
 have c1:Tryz.prog.cellsOf 23=1:=by kernel_rfl
 have cb:Tryz.prog.cellsOf 3=1:=by kernel_rfl
 obtain⟨n0,y0,h0⟩:=z8D Tryz.underlying28 h 0 _ rfl;obtain⟨n1,y1,h1⟩:=z8D Tryz.underlying28 h 1 _ rfl;rw[c2] at hl
 match cs,hl with
 | [x0,x1],_=>
   simp[c1,cb] at h0 h1;obtain⟨a,e0,w0⟩:=zjL Tryz.underlying23 h0;obtain⟨b,e1,w1⟩:=zjL Tryz.underlying3 h1;obtain⟨q1,q2⟩:=zrS w0;obtain⟨q3,q4⟩:=ztV w1;simp only[List.cons.injEq,and_true] at e0 e1;subst e0 e1;refine⟨⟨a.toNat,b⟩,?_,by simp only;omega,q3,q4⟩;simp only;rw[Int.toNat_of_nonneg q1]
theorem zsB {cs:List Value} {x:DataW H×List MemPlace} (h:DataW.trod enc Tryz.prog w base (fun _=>true) held fuel 31 cs=some x):∃ v,VoteR w cs v:=by
 have hl:=zrQ Tryz.underlying31 h;have c4:Tryz.prog.cellsOf 31=4:=by kernel_rfl
 have c2:Tryz.prog.cellsOf 28=2:=by kernel_rfl
 have c1:Tryz.prog.cellsOf 23=1:=by kernel_rfl
 have cb:Tryz.prog.cellsOf 29=1:=by kernel_rfl
 obtain⟨n0,y0,h0⟩:=z8D Tryz.underlying31 h 0 _ rfl;obtain⟨n1,y1,h1⟩:=z8D Tryz.underlying31 h 1 _ rfl;obtain⟨n2,y2,h2⟩:=z8D Tryz.underlying31 h 2 _ rfl;rw[c4] at hl
 match cs,hl with
 | [x0,x1,x2,x3],_=>
   simp[c1,cb,c2] at h0 h1 h2;obtain⟨a,e0,w0⟩:=zjL Tryz.underlying23 h0;obtain⟨b,e1,hb⟩:=znX h1;obtain⟨l,hl⟩:=zrZ h2;obtain⟨q1,q2⟩:=zrS w0;simp only[List.cons.injEq,and_true] at e0 e1;obtain⟨e1,e2⟩:=e1;subst e0 e1 e2;refine⟨⟨a.toNat,b,l⟩,x3,?_,hl,by simp only;omega,hb⟩;unfold z2H;simp only;rw[Int.toNat_of_nonneg q1]
theorem rd_votes {v:Value} {x:DataW H×List MemPlace} (h:DataW.trod enc Tryz.prog w base (fun _=>true) held fuel 22 [v]=some x):∃ l,VoteL w v l:=
 zfN Tryz.underlying22 (by kernel_rfl) (fun _ _ _ _ h=>zsB h) h
end
end
section
open Go.ChangeShapes Go.WideShapes Go.RowKit Go.Deep
open MI SO BM DM WM AC
structure AAct where
 kind:Int
 n:Int
 v:Vt
 keep:List Int
instance:Inhabited AAct:=⟨⟨0,0,⟨0,Bal.zero,[]⟩,[]⟩⟩
abbrev aactL (x:AAct) (uv kv:Value):List Value:=[.int .i64 x.kind,.int .i64 x.n,.int .u64 (x.v.slot:Int),.int .u64 (x.v.bal.n:Int),.int .i64 x.v.bal.node,uv,kv]
structure AActR (w:World) (cs:List Value) (x:AAct):Prop where
 ex:∃ uv kv,cs=aactL x uv kv∧Octs w uv x.v.val∧Ints w kv x.keep
 v:VtR x.v
 kind : -9223372036854775808≤x.kind∧x.kind≤9223372036854775807
 n : -9223372036854775808≤x.n∧x.n≤9223372036854775807
abbrev AActs (w:World) (v:Value) (l:List AAct):Prop:=SliceOf w 7 (AActR w) v l
section
variable {H:Type} {enc:TypeId×Value→H} {w:World} {base:Nat} {held:Bool} {fuel:Nat}
end
end
section
open Go.RowKit Go.Maps
open MI SO BM DM WM AC
end
section
open Go.RowKit Go.Maps
open MI SO BM DM WM AC
def AC.longL (l:List AAct):Bool:=(l.take 60).any fun x=>decide (1000<x.v.val.length)
structure VlRel (w:World) (us:List Value) (i:Nat) (ov:Value) (wr:World):Prop where
 row:Row wr 29 1 ov i (us.take i)
 new:∀ k,ov.ownBlock=some k→w.heap.size≤k
 keep:Keep (fun _=>False) w wr
end
section
open Go.RowKit Go.Maps
open MI SO BM DM WM AC
section
variable {w0 w w':World} {T U V U' V':Thing} {F G H G' H' K:Nat→Prop}
theorem Three.to2 (h:Three w0 T F U G V H w) (LT:Lives T) (LV:Lives V) (h1:U' w' G') (hk:Keep G w w') (hn:∀ i,G' i→G i∨w.heap.size≤i):Three w0 T F U' G' V H w':=
 ⟨LT.keep h.one hk (fun i x y=>h.a12 i x y),h1,LV.keep h.three hk (fun i x y=>h.a23 i y x),fun i x y=>(hn i y).elim (h.a12 i x) (fun z=>by have:=LT.lt h.one i x;omega),h.a13,fun i x y=>(hn i x).elim (fun z=>h.a23 i z y) (fun z=>by have:=LV.lt h.three i y;omega),h.new1,fun i x=>(hn i x).elim (h.new2 i) (fun z=>Nat.le_trans h.keep.size z),h.new3,h.keep.next hk (fun _ _ x=>x) (fun k hk x=>by have:=h.new2 k x;omega)⟩
theorem Three.beside (h:Three w0 T F U G V H w) (LT:Lives T) (LU:Lives U) (LV:Lives V) (hk:Keep K w w') (n1:∀ i,F i→¬ K i) (n2:∀ i,G i→¬ K i) (n3:∀ i,H i→¬ K i) (hn:∀ i,K i→w0.heap.size≤i):Three w0 T F U G V H w':=
 ⟨LT.keep h.one hk n1,LU.keep h.two hk n2,LV.keep h.three hk n3,h.a12,h.a13,h.a23,h.new1,h.new2,h.new3,h.keep.next hk (fun _ _ x=>x) (fun k hk x=>by have:=hn k x;omega)⟩
end
structure Got (B0:Nat) (F3:Nat→Prop) (vs:List Vt) (b:Bal) (v:Value) (g:Nat) (us:List Value) (Fv:Nat→Prop) (wx:World):Prop where
 votes:Votes wx Fv v vs us
 fv:∀ k,Fv k→B0≤k∧k<wx.heap.size∧¬ F3 k
 box:wx.heap[g]?=some (.cells (balC b) 28 (0,0))
 new:B0≤g
theorem z6L {K:Nat→Prop} {w w':World} {k o:Nat} {x:Value} (hk:Keep K w w') (hn:¬ K k) (h:w.cell? ⟨k,o,none⟩=some x):w'.cell? ⟨k,o,none⟩=some x:=by
 cases hb:w.heap[k]? with
 | none=>simp[World.cell?,hb] at h
 | some ob=>
   have h2:=hk.get hb hn;unfold World.cell? at *;rw[h2];rw[hb] at h;exact h
theorem ztE (w:World) (b:Bal):(((w.alloc (.cells #[.int .u64 0,.int .i64 0] 28)).setCell ⟨w.heap.size,0,none⟩ (.int .u64 (b.n:Int))).setCell ⟨w.heap.size,1,none⟩ (.int .i64 b.node)).heap[w.heap.size]?=some (.cells (balC b) 28 (0,0))∧
  Keep (fun k=>k=w.heap.size) w (((w.alloc (.cells #[.int .u64 0,.int .i64 0] 28)).setCell ⟨w.heap.size,0,none⟩ (.int .u64 (b.n:Int))).setCell ⟨w.heap.size,1,none⟩ (.int .i64 b.node)):=by
 have h1:=heap_alloc_new w (.cells #[.int .u64 0,.int .i64 0] 28);have k1:=kal w (.cells #[.int .u64 0,.int .i64 0] 28);have h2:=z0C (z0C h1 0 (.int .u64 (b.n:Int))) 1 (.int .i64 b.node);obtain⟨-,g2,-⟩:=z3Z _ w.heap.size _ _ h1 (.int .u64 (b.n:Int)) (.int .i64 b.node);exact⟨h2,k1.next g2 (fun _ _ x=>x.elim) (fun _ _ x=>x)⟩
def PrRel (W:World) (p d m a r:Nat) (X G:Nat→Prop) (D RD:Dk) (A RA:Ac) (RV:List Vt) (rb:Bal) (act:Nat) (w1:World) (lv:Value) (g:Nat) (wx:World):Prop:=
 ∃ us Fv F3,Three W (BoxT p (zcB d m (.pointer (some ⟨a,0,none⟩)) (.pointer (some ⟨r,0,none⟩))) 40) X (AcP d RD (some RA) (.pointer (some ⟨a,0,none⟩))) F3 (RAcP m D (some A) (.pointer (some ⟨r,0,none⟩))) G wx∧Got w1.heap.size F3 RV rb lv g us Fv wx∧Apart us∧wx.heap[act]?=w1.heap[act]?
def PrRel2 (W:World) (p d m a r:Nat) (X:Nat→Prop) (RD:Dk) (RA:Ac) (RV:List Vt) (rb:Bal) (B1 B2:Nat) (lv:Value) (g:Nat) (lv2:Value) (g2:Nat) (wy:World):Prop:=
 ∃ us Fv F3 us2 Fv2 G3,Three W (BoxT p (zcB d m (.pointer (some ⟨a,0,none⟩)) (.pointer (some ⟨r,0,none⟩))) 40) X (AcP d RD (some RA) (.pointer (some ⟨a,0,none⟩))) F3 (RAcP m RD (some RA) (.pointer (some ⟨r,0,none⟩))) G3 wy∧Got B1 F3 RV rb lv g us Fv wy∧Apart us∧(∀ k,Fv k→¬ G3 k)∧Got B2 (fun _=>False) RV rb lv2 g2 us2 Fv2 wy
end
section
open Go.RowKit Go.Maps
open MI SO BM DM WM AC
def VS (p po k o0 o1 o2 o3:Nat) (ptr:Value) (v:Vt) (u:Value) (w:World):Prop:=
 w.cell? ⟨p,po,none⟩=some ptr∧w.cell? ⟨k,o0,none⟩=some (.int .u64 (v.slot:Int))∧w.cell? ⟨k,o1,none⟩=some (.int .u64 (v.bal.n:Int))∧w.cell? ⟨k,o2,none⟩=some (.int .i64 v.bal.node)∧w.cell? ⟨k,o3,none⟩=some u
theorem VS.keep {p po k o0 o1 o2 o3:Nat} {ptr:Value} {v:Vt} {u:Value} {K:Nat→Prop} {wa wb:World} (hk:Keep K wa wb) (h1:¬ K p) (h2:¬ K k) (h:VS p po k o0 o1 o2 o3 ptr v u wa):VS p po k o0 o1 o2 o3 ptr v u wb:=
 let ⟨a,b,c,d,e⟩:=h
 ⟨z6L hk h1 a,z6L hk h2 b,z6L hk h2 c,z6L hk h2 d,z6L hk h2 e⟩
def AcRel (W:World) (p d m a r:Nat) (X F G:Nat→Prop) (D RD:Dk) (A RA:Ac) (rb:Bal) (w0:World) (g:Nat) (wx:World):Prop:=
 ∃ F3,Three W (BoxT p (zcB d m (.pointer (some ⟨a,0,none⟩)) (.pointer (some ⟨r,0,none⟩))) 40) X (AcP d RD (some RA) (.pointer (some ⟨a,0,none⟩))) F3 (RAcP m D (some A) (.pointer (some ⟨r,0,none⟩))) G wx∧wx.heap[g]?=some (.cells (balC rb) 28 (0,0))∧w0.heap.size≤g∧Keep (fun k=>F k∨w0.heap.size≤k) w0 wx∧∀ k,F3 k→F k∨w0.heap.size≤k
def AcRel2 (W:World) (p d m a r:Nat) (X F3 G:Nat→Prop) (RD:Dk) (RA:Ac) (rb:Bal) (w0:World) (g:Nat) (wx:World):Prop:=
 ∃ G3,Three W (BoxT p (zcB d m (.pointer (some ⟨a,0,none⟩)) (.pointer (some ⟨r,0,none⟩))) 40) X (AcP d RD (some RA) (.pointer (some ⟨a,0,none⟩))) F3 (RAcP m RD (some RA) (.pointer (some ⟨r,0,none⟩))) G3 wx∧wx.heap[g]?=some (.cells (balC rb) 28 (0,0))∧w0.heap.size≤g∧Keep (fun k=>G k∨w0.heap.size≤k) w0 wx∧∀ k,G3 k→G k∨w0.heap.size≤k
theorem Octs.far {W w:World} {ao:Option Addr} {n c:Nat} {l:List UInt8} {F:Nat→Prop} (h:Octs W (.slice ao n c) l) (hk:Keep (fun _=>False) W w) (hF:∀ k,F k→W.heap.size≤k) :
  n=l.length∧n≤maxLen∧Cells w ao l.length 1 (z0B l)∧(0<l.length→∀ x,ao=some x→¬ F x.block)∧(0<l.length→∀ x,ao=some x→x.block<W.heap.size):=by
 obtain⟨h1,h2,h3,h4⟩:=h.cells
 have hb:0<l.length→∀ x,ao=some x→x.block<W.heap.size:=fun hp x hx=>by
  subst hx;exact h4.lt (by omega)
 exact⟨h1,by omega,h4.keep hk (fun _ _ x=>x),fun hp x hx hF'=>by have:=hb hp x hx;have:=hF _ hF';omega,hb⟩
end
namespace AC
open Go.Proofs.YtkjofdocgaiedaaGreat MI SO BM DM WM
def kA0:Ac:=⟨nS0,Bal.zero,[]⟩
def kV:Vt:=⟨3,⟨1,2⟩,[120]⟩
theorem k_op:(opS (DM.new 60))=(0,some nS0,DM.new 60):=by kernel_rfl
theorem zcG {D D':Dk} {S:St} {b:Bal} {vs:List Vt} (h:opS D=(0,some S,D')) (hr:rd S.ps=some (b,vs)):z3V D=(0,some ⟨S,b,vs⟩,D'):=by
 unfold z3V;rw[h];simp only;rw[hr]
theorem ztI:z3V (DM.new 60)=(0,some kA0,DM.new 60):=zcG k_op rfl
theorem ztL:WM.half (DM.new 60)=29:=by kernel_rfl
theorem zsR:Sound (DM.new 60) nS0:=by
 have hs:=zeA (D:=DM.new 60) ⟨rfl,rfl⟩ (Ok.new (by decide) (by decide)) (by decide) nS0 (by rw[k_op]);rw[k_op] at hs;exact hs
theorem zmQ:Room 29 0 (DM.new 60) kA0:=⟨zsR,⟨fun _=>⟨.inl rfl,List.Pairwise.nil,fun v hv=>by cases hv⟩,fun _=>rfl⟩,ztL,Nat.le_refl 0⟩
theorem k_go:∃ (D1:Dk) (A1:Ac) (D2:Dk) (A2 A3:Ac),z2U (DM.new 60) kA0 ⟨1,2⟩ 1=(([],⟨1,2⟩,0),D1,A1)∧z0O D1 A1 kV=((⟨1,2⟩,0),D2,A2)∧z2U D2 A2 ⟨1,1⟩ 1=(([],⟨1,2⟩,90),D2,A2)∧
  DM.crash D2 []=D2∧z3V D2=(0,some A3,D2)∧(z2U D2 A3 ⟨2,0⟩ 1).1=([kV],⟨2,0⟩,0)∧AOk A1∧AOk A2∧AOk A3∧A1.s.ps.length≤10∧A2.s.ps.length≤10∧A3.s.ps.length≤10∧D1.waits.length≤20000∧D2.waits.length≤20000:=by
 obtain⟨p1,p2,p3,p4⟩:=zmQ.prep (by decide) (b:=⟨1,2⟩) ⟨by decide,by decide⟩ (by decide) 1;obtain⟨R1,hR1⟩:=zX1 (z2U (DM.new 60) kA0 ⟨1,2⟩ 1);rw[← hR1] at p1 p2 p3 p4;obtain⟨a1,a2,a3,a4⟩:=p2.accept (by decide) (v:=kV) (by decide) (by decide) (by decide) (by rw[p3];decide);have st:=p2.accept_still (v:=kV) (by rw[a1]);obtain⟨R2,hR2⟩:=zX1 (z0O R1.2.1 R1.2.2 kV);rw[← hR2] at a1 a2 a3 a4 st;rw[p4] at a4;have l1:=zlR (D:=R2.2.1) a2.alive (b:=⟨1,1⟩) (by decide) (by rw[a3];decide) 1;rw[a3] at l1;obtain⟨S',g1,g2,g3⟩:=a2.again st;rw[a3,a4] at g2 g3;obtain⟨q1,-⟩:=g3.prep (by decide) (b:=⟨2,0⟩) ⟨by decide,by decide⟩ (show less ⟨2,0⟩ kV.bal=false by decide) 1;have w1:=zgY (D:=DM.new 60) (zmQ.sound.disk.ok.few) kA0 ⟨1,2⟩ 1;rw[← hR1] at w1;have w2:=z8M p2.sound.disk.ok.few R1.2.2 kV;rw[← hR2] at w2;have w0:(DM.new 60).waits.length=0:=rfl;have f1:=p2.ok.few p2.alive;have f2:=a2.ok.few a2.alive;have f3:=g3.ok.few g3.alive;rw[p4,show kA0.vs.length=0 from rfl] at f1;rw[a4,show (insV kA0.vs kV).length=1 from rfl] at f2;rw[show (insV kA0.vs kV).length=1 from rfl] at f3;refine⟨R1.2.1,R1.2.2,R2.2.1,R2.2.2,_,?_,?_,l1,g1,g2,?_,p2.ok,a2.ok,g3.ok,by omega,by omega,by omega,by omega,by omega⟩
 ·rw[← hR1]
  exact Prod.ext p1 rfl
 ·rw[← hR2]
  exact Prod.ext a1 rfl
 ·exact q1
end AC
section
open Go.RowKit
open MI SO DM BM WM AC
theorem zjG (n i:Nat) (h:i<n):DM.read (DM.new n) (i:Int)=(DM.blank,0):=by
 unfold DM.read;have h1:(DM.new n).down=false:=rfl;rw[h1,if_neg (by simp),if_neg (by simp[DM.new];omega)];have h2:now (DM.new n)=List.replicate n DM.blank:=rfl;rw[h2];simp[h]
theorem zlU (n ep h:Nat) (hh:∀ i,i<h→WM.first (DM.new n) ep+i<n):((List.range h).map fun i=>(DM.read (DM.new n) ((WM.first (DM.new n) ep+i:Nat):Int)).1).flatten=List.replicate (32 * h) 0:=by
 induction h with
 | zero=>rfl
 | succ h ih=>
   rw[List.range_succ,List.map_append,List.flatten_append,ih fun i hi=>hh i (by omega)];simp only[List.map_cons,List.map_nil,List.flatten_cons,List.flatten_nil,List.append_nil];rw[zjG n _ (hh h (by omega))];unfold DM.blank;rw[List.replicate_append_replicate];congr 1
theorem zjQ (n i:Nat) (h:i<n):WM.head (DM.new n) i=none:=by
 unfold WM.head;rw[zjG n i h];rw[show BM.get (DM.blank,(0:Int)).1 0=BM.Got.no 20 by kernel_rfl]
theorem zoZ (n:Nat) (h:6≤n):z1S (DM.new n)=(0,some ⟨0,[],0,false⟩,DM.new n):=by
 have hl:(DM.new n).safe.length=n:=by simp[DM.new]
 have he:epoch (DM.new n)=0:=by
  unfold epoch;rw[zjQ n 0 (by omega),zjQ n 1 (by omega)];rfl
 have hf:∀ i,i<half (DM.new n)→WM.first (DM.new n) 0+i<n:=fun i hi=>by
  have:=z3R (D:=DM.new n) 0 i (by omega) hi;omega
 have hb:WM.bytes (DM.new n) 0=List.replicate (32 * half (DM.new n)) 0:=zlU n 0 _ hf;have hs:=zfO [] (32 * half (DM.new n)) (32 * half (DM.new n)+1) (by simp) (by simp);simp only[flat,List.map_nil,List.flatten_nil,List.nil_append,List.length_nil] at hs
 have hw:wipe 0 (List.replicate (32 * half (DM.new n)) 0) 0 0 (half (DM.new n)) false (DM.new n)=(0,false,DM.new n):=by
  have hd:∀ j,dirty (List.replicate (32 * half (DM.new n)) 0) 0 j=false:=fun j=>by
   unfold dirty;rw[List.any_eq_false];intro k hk;simp only[Bool.and_eq_true,decide_eq_true_eq,not_and,Decidable.not_not];intro _;rw[List.getD_eq_getElem?_getD,List.getElem?_replicate];split <;> rfl
  have:=z8C 0 (List.replicate (32 * half (DM.new n)) 0) 0 (half (DM.new n)) 0 0 false (DM.new n) (fun j _ _=>hd j);rw[Nat.add_zero] at this;rw[this];rfl
 unfold z1S;rw[if_neg (by omega),if_neg (by simp[DM.new]),he,hb];simp only[List.length_replicate];rw[hs];simp only;rw[hw];simp
theorem znJ (n:Nat) (h:6≤n):opS (DM.new n)=(0,some nS0,DM.new n):=by
 unfold opS;rw[zoZ n h];rfl
theorem zmI (n:Nat) (h:6≤n):z3V (DM.new n)=(0,some kA0,DM.new n):=zcG (znJ n h) rfl
end
end Go.Proofs.YtkjofdocgaiedaaGreat
