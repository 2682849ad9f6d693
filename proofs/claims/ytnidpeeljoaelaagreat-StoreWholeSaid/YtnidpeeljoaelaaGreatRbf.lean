/- Texts StpA, StpB, StpC, StqD, StpD, StrA, StpJ, StqA, StpK, StpE, StpF, StpG, StpH, StpI, StpM, StpN, StpP in one. Conditions: as each law names them. -/
import Derived.BigQuiet
import Derived.Deep.CutBlock
import Derived.Deep.DeepCutAuto
import Derived.Test.YtnidpeeljoaelaaGreatRah
import Derived.Test.YtnidpeeljoaelaaGreatRaj
import Derived.Test.YtnidpeeljoaelaaGreatRar
import Derived.Test.YtnidpeeljoaelaaGreatRax
import Derived.Test.YtnidpeeljoaelaaGreatRay
import Derived.Test.YtnidpeeljoaelaaGreatRaz
import Derived.Test.YtnidpeeljoaelaaGreatRba
import Derived.Test.YtnidpeeljoaelaaGreatRbb
import Derived.Test.YtnidpeeljoaelaaGreatRbd
import Derived.Test.YtnidpeeljoaelaaGreatRbe
namespace Go.Proofs.YtnidpeeljoaelaaGreat
open Go.RowKit Go.Maps
open MI SO BM DM WM
theorem RStoTo.step {w1 w2 w':World} {b d:Nat} {F Fd F1 Fd1:Nat→Prop} {D':Dk} {S':St} (h:RStoTo b d F1 Fd1 w2 D' S' w') (hk:Keep (fun k=>F k∨Fd k) w1 w2) (h1:∀ k,F1 k→F k∨w1.heap.size≤k) (h2:∀ k,Fd1 k→Fd k∨w1.heap.size≤k):RStoTo b d F Fd w1 D' S' w':=by
 obtain⟨F2,Fd2,b1,b2,b3,b4⟩:=h
 have s:=hk.size
 refine⟨F2,Fd2,b1,hk.next b2 (fun _ _ x=>x) (fun k hk' x=>?_),fun k x=>?_,fun k x=>?_⟩
 ·rcases x with x | x
  ·rcases h1 k x with y | y
   ·exact .inl y
   ·omega
  ·rcases h2 k x with y | y
   ·exact .inr y
   ·omega
 ·rcases b3 k x with y | y
  ·exact h1 k y
  ·right;omega
 ·rcases b4 k x with y | y
  ·exact h2 k y
  ·right;omega
theorem RStoIs.told2 {w w2:World} {b d wb:Nat} {F Fd Fl:Nat→Prop} {D:Dk} {S:St} {pv:Value} (H:RStoIs w b d F Fd D S wb pv Fl) (x:Bool) (hk:Keep (fun k=>k=b) w w2) (hh:w2.heap[b]?=some (.cells (rstoCells (.pointer (some ⟨wb,0,none⟩)) pv x) 56 (0,0))):RStoTo b d F Fd w D { S with dead:=x } w2:=
 ⟨F,Fd,(H.tell x hk hh).at,hk.mono fun k _ e=>by subst e;exact .inl H.self,fun _ x=>.inl x,fun _ x=>.inl x⟩
set_option maxRecDepth 20000 in
set_option maxHeartbeats 1000000 in
theorem rdo_any (w:World) (b d:Nat) (F Fd:Nat→Prop) (D:Dk) (S:St) (H:RStoAt w b d F Fd D S) (ao:Option Addr) (n c:Nat) (l:List Ch) (hL:Chs w (.slice ao n c) l) (hn:n=l.length)
  (hap:0<n→∀ x,ao=some x→¬ F x.block∧¬ Fd x.block) (hm:S.dead=false→S.ps.length≤900000) (hfew:D.waits.length≤500000) :
  Calls Tryz.prog 20 #[.pointer (some ⟨b,0,none⟩),.slice ao n c] w fun e w'=>e = .returned (.int .i64 (doS D S l).1)∧RStoTo b d F Fd w (doS D S l).2.1 (doS D S l).2.2 w':=by
 obtain⟨R,hR⟩:∃ R,R=doS D S l:=⟨_,rfl⟩
 rw[← hR]
 have henc:=rencode_any w ao n c l hL hn
 have H0:=hid (And.intro H (And.intro hL (And.intro hn (And.intro hap (And.intro hm (And.intro hfew hR))))))
 obtain⟨wb,pv,Fl,HI⟩:=H
 obtain⟨i0,i1,i2,jf,jb⟩:=cells3i (show w.heap[b]?=some (.cells #[_,_,_] _ (0,0)) from HI.head)
 have HI:=hid HI
 clear hL hn hap hm hfew hR
 go_enter Tryz.func20,Tryz.ntmps20
 cases hdd:S.dead with
 | true=>
   rw[hdd] at i2
   have HZ:=hid (show R=(6,D,S) by rw[H0.out.2.2.2.2.2.2];unfold doS;rw[if_pos hdd])
   clear hdd henc
   go_wp2_with (at_builtin;refine stopAt ?_;intro q hq)
   go_ret
   rw[HZ.out]
   exact⟨rfl,H0.out.1.to⟩
 | false=>
   rw[hdd] at i2
   have HD:=hid hdd
   clear hdd
   go_wp2_with (at_builtin;refine stopAt ?_;intro q hq)
   refine henc.mono ?_
   rintro e w2 ⟨bv,rfl,hf⟩
   clear henc i0 i1 i2 jf jb
   by_cases hE:encE l=0
   ·have HB:=hid (wbytes l hE)
    rw[if_pos hE] at hf
    have HZ:=hid (show R=laidS (intoS D S (enc l)) l by rw[H0.out.2.2.2.2.2.2];unfold doS;rw[if_neg (by rw[HD.out];decide),if_neg (by omega)])
    simp only[hE]
    clear hE
    have hk:=hf.keep
    have hltw:=H0.out.1.ltw
    have HI2:=HI.out.keep hk (fun _ _ x=>x) (fun _ _ x=>x)
    obtain⟨i0,i1,i2,jf,jb⟩:=cells3i (show w2.heap[b]?=some (.cells #[_,_,_] _ (0,0)) from HI2.head)
    obtain⟨ba,bc,rfl,-,-,-,hba⟩:=hf.row.form
    have hnF:∀ x,ba=some x→w.heap.size≤x.block:=fun x e=>hf.own _ (hba x e).2
    have happ:=rappend_any' w2 wb d Fl Fd D S.g HI2.log ba (enc l).length bc (enc l) (Cells.of_row hf.row) (fun x _ e=>⟨fun y=>by have:=hltw _ (.inl (HI2.inl _ y).1);have:=hnF x e;omega,fun y=>by have:=hltw _ (.inr y);have:=hnF x e;omega⟩) (by have:=HB.out.1;omega) (by have:=H0.out.2.2.2.2.2.1;omega)
    obtain⟨Y,hY⟩:∃ Y,Y=WM.append D S.g (enc l):=⟨_,rfl⟩
    rw[← hY] at happ
    have HY:=hid hY
    have H2:=hid (And.intro HI2 (And.intro hf (And.intro hltw hnF)))
    clear hY hf hk hltw HI2 hba hnF
    go_wp2_with (at_builtin;refine stopAt ?_;intro q hq)
    refine happ.mono ?_
    rintro e w4 ⟨rfl,ht⟩
    obtain⟨Fl4,F4,Fd4,a1,a2,a3,a4⟩:=H2.out.1.logTo ht
    have HA:=hid (show apS D S (enc l)=(Y.1,Y.2.1,⟨Y.2.2,S.ps,decide (Y.1=6)⟩) by rw[HY.out];rfl)
    have H4:=hid (And.intro a1 (And.intro a2 (And.intro a3 a4)))
    clear happ ht a1 a2 a3 a4 i0 i1 i2 jf jb
    go_upto_if 26 with fail
    obtain⟨X,hX⟩:∃ X,X=intoS D S (enc l):=⟨_,rfl⟩
    have HX:=hid hX
    rw[← hX] at HZ
    clear hX
    go_cut [6] (fun ev wx=>ev = .int .i64 X.1∧Hid (∃ dd:Bool,RStoTo b d F Fd w X.2.1 { X.2.2 with dead:=dd } wx∧(dd || decide (X.1=6))=X.2.2.dead))
    case first=>
     by_cases h5:Y.1=5
     ·have q1:(Y.1 == 5)=true:=by simp[h5]
      have h5':=hid h5
      clear h5
      obtain⟨a1,a2,a3,a4⟩:=H4.out
      have hps:=H0.out.2.2.2.2.1 HD.out
      have hD2:=H0.out.2.2.2.2.2.1
      have hw8:=append_waits H0.out.1.diskAt.ok.few S.g (enc l)
      rw[← HY.out] at hw8
      have ed:({ S with g:=Y.2.2 }:St)=⟨Y.2.2,S.ps,decide (Y.1=6)⟩:=by
       rw[show decide (Y.1=6)=S.dead by rw[HD.out,h5'.out];rfl]
      have hck:=rcheck_any w4 b d F4 Fd4 Y.2.1 ⟨Y.2.2,S.ps,decide (Y.1=6)⟩ (by rw[← ed];exact a1.at) (fun _=>by simp only;omega) (by omega)
      obtain⟨C,hC⟩:∃ C,C=cpS Y.2.1 ⟨Y.2.2,S.ps,decide (Y.1=6)⟩:=⟨_,rfl⟩
      rw[← hC] at hck
      have HC:=hid hC
      have hrow:=H2.out.2.1.row.keep a2 (fun k e x=>by have:=H2.out.2.2.1 k x;have:=H2.out.2.1.own k e;omega)
      have H5:=hid (And.intro a1 (And.intro a2 (And.intro a3 (And.intro a4 (And.intro hw8 hrow)))))
      clear a1 a2 a3 a4 hw8 hps hD2 hC hrow ed
      go_wp2_with (at_builtin;refine stopAt ?_;intro q hq)
      refine hck.mono ?_
      rintro e w5 ⟨rfl,ht⟩
      have H6:=hid ht
      clear hck ht
      by_cases hc0:C.1=0
      ·have q2:(C.1 == 0)=true:=by simp[hc0]
       have h0:=hid hc0
       have h6:=H6.out
       obtain⟨F5,Fd5,b1,b2,b3,b4⟩:=h6
       have hcd:C.2.2.dead=false:=by rw[HC.out];exact cpS_dead (by rw[← HC.out];exact hc0)
       clear hc0
       obtain⟨wb5,pv5,Fl5,HI5⟩:=b1
       obtain⟨i0,i1,i2,jf,jb⟩:=cells3i (show w5.heap[b]?=some (.cells #[_,_,_] _ (0,0)) from HI5.head)
       have hbl:∀ x,ba=some x→(Value.slice ba (enc l).length bc).ownBlock=some x.block:=fun x e=>by
        obtain⟨ba',bc',e1,-,-,-,e2⟩:=H2.out.2.1.row.form
        cases e1
        exact(e2 x e).2
       have hf5:∀ k,(Value.slice ba (enc l).length bc).ownBlock=some k→¬ (F5 k∨Fd5 k):=fun k e x=>by
        have z1:=H2.out.2.1.own k e
        have z2:=H2.out.2.1.row.lt e
        have z3:=H5.out.2.2.1 k
        have z4:=H5.out.2.2.2.1 k
        have z5:=H2.out.2.2.1 k
        have z6:=H5.out.2.1.size
        rcases x with x | x
        ·rcases b3 k x with y | y
         ·rcases z3 y with y | y
          ·have:=z5 (.inl y);omega
          ·omega
         ·omega
        ·rcases b4 k x with y | y
         ·rcases z4 y with y | y
          ·have:=z5 (.inr y);omega
          ·omega
         ·omega
       have hrow5:=H5.out.2.2.2.2.2.keep b2 (fun k e x=>by
        have z1:=H2.out.2.1.own k e
        have z2:=H2.out.2.1.row.lt e
        have z5:=H2.out.2.2.1 k
        rcases x with x | x
        ·rcases H5.out.2.2.1 k x with y | y
         ·have:=z5 (.inl y);omega
         ·omega
        ·rcases H5.out.2.2.2.1 k x with y | y
         ·have:=z5 (.inr y);omega
         ·omega)
       have hwc:C.2.1.waits.length≤800000:=by
        have z2:=cpS_waits (H5.out.1.log.disk_.ok.few) (S:=⟨Y.2.2,S.ps,decide (Y.1=6)⟩)
        rw[← HC.out] at z2
        have:=H5.out.2.2.2.2.1
        have:=H0.out.2.2.2.2.2.1
        omega
       have happ:=rappend_any' w5 wb5 d Fl5 Fd5 C.2.1 C.2.2.g HI5.log ba (enc l).length bc (enc l) (Cells.of_row hrow5) (fun x _ e=>⟨fun y=>hf5 _ (hbl x e) (.inl (HI5.inl _ y).1),fun y=>hf5 _ (hbl x e) (.inr y)⟩) (by have:=HB.out.1;omega) hwc
       obtain⟨Z,hZ⟩:∃ Z,Z=WM.append C.2.1 C.2.2.g (enc l):=⟨_,rfl⟩
       rw[← hZ] at happ
       have HZ2:=hid hZ
       have H7:=hid (And.intro HI5 (And.intro hcd (And.intro b2 (And.intro b3 b4))))
       clear hZ hbl hf5 hrow5 hwc HI5 hcd b2 b3 b4
       go_wp2_with (at_builtin;refine stopAt ?_;intro q hq)
       refine happ.mono ?_
       rintro e w6 ⟨rfl,ht⟩
       obtain⟨Fl6,F6,Fd6,a1,a2,a3,a4⟩:=H7.out.1.logTo ht
       have H8:=hid (show RStoTo b d F5 Fd5 w5 Z.2.1 { C.2.2 with g:=Z.2.2 } w6 from⟨F6,Fd6,a1.at,a2,a3,a4⟩)
       clear happ ht a1 a2 a3 a4 i0 i1 i2 jf jb
       go_wp2_with (at_builtin;refine stopAt ?_;intro q hq)
       go_meet
       have e:X=(Z.1,Z.2.1,⟨Z.2.2,C.2.2.ps,decide (Z.1=6)⟩):=by
        rw[HX.out]
        unfold intoS
        rw[HA.out,if_pos h5'.out]
        simp only
        rw[← HC.out,if_pos h0.out]
        unfold apS
        rw[← HZ2.out]
       rw[e]
       refine⟨rfl,hid ⟨false,?_,rfl⟩⟩
       have h8:=H8.out
       rw[show ({ C.2.2 with g:=Z.2.2 }:St)=⟨Z.2.2,C.2.2.ps,false⟩ by show (⟨Z.2.2,C.2.2.ps,C.2.2.dead⟩:St)=_;rw[H7.out.2.1]] at h8
       exact((h8.step H7.out.2.2.1 H7.out.2.2.2.1 H7.out.2.2.2.2).step H5.out.2.1 H5.out.2.2.1 H5.out.2.2.2.1).since H2.out.2.1.keep
      ·have q2:(C.1 == 0)=false:=by simp[hc0]
       have h0:=hid hc0
       clear hc0
       go_wp2_with (at_builtin;refine stopAt ?_;intro q hq)
       go_meet
       have e:X=C:=by
        rw[HX.out]
        unfold intoS
        rw[HA.out,if_pos h5'.out]
        simp only
        rw[← HC.out,if_neg h0.out]
       rw[e]
       refine⟨rfl,hid ⟨C.2.2.dead,(H6.out.step H5.out.2.1 H5.out.2.2.1 H5.out.2.2.2.1).since H2.out.2.1.keep,?_⟩⟩
       rw[HC.out]
       exact cpS_dead6 _ _
     ·have q1:(Y.1 == 5)=false:=by simp[h5]
      have h5':=hid h5
      clear h5
      go_wp2_with (at_builtin;refine stopAt ?_;intro q hq)
      go_meet
      have e:X=(Y.1,Y.2.1,⟨Y.2.2,S.ps,decide (Y.1=6)⟩):=by
       rw[HX.out]
       unfold intoS
       rw[HA.out,if_neg h5'.out]
      rw[e]
      refine⟨rfl,hid ⟨false,?_,rfl⟩⟩
      have h4:=H4.out.1.at
      rw[show ({ S with g:=Y.2.2 }:St)=⟨Y.2.2,S.ps,false⟩ by rw[HD.out]] at h4
      exact(show RStoTo b d F Fd w2 Y.2.1 _ w4 from⟨F4,Fd4,h4,H4.out.2⟩).since H2.out.2.1.keep
    case rest=>
     obtain⟨rfl,HR⟩:=hcut
     obtain⟨dd,hr,hdd⟩:=HR.out
     have Hdd:=hid hdd
     clear hdd
     obtain⟨F9,Fd9,c1,c2,c3,c4⟩:=hr
     obtain⟨wb9,pv9,Fl9,HI9⟩:=c1
     by_cases hx0:X.1=0
     ·have q1:(X.1 == 0)=true:=by simp[hx0]
      have hps:X.2.2.ps=S.ps:=by rw[HX.out];exact intoS_ps _ _ _
      have e:R=(0,X.2.1,{ X.2.2 with ps:=layL S.ps l }):=by
       rw[HZ.out]
       unfold laidS
       rw[if_pos hx0,hx0,hps]
      have h0:=hid (And.intro hx0 e)
      clear hx0 e
      obtain⟨i0,i1,i2,jf,jb⟩:=cells3i (show wc.heap[b]?=some (.cells #[_,_,_] _ (0,0)) from HI9.head)
      obtain⟨pa9,pc9,rfl,-⟩:=HI9.row.form
      obtain⟨-,hL,hn,hap,hm,-⟩:=H0.out
      have hLc:Chs wc (.slice ao n c) l:=SliceOf.keepF hL c2 (fun hp x m c e y=>by
       cases e
       have:=hap (by omega) x rfl
       exact y.elim this.1 this.2)
      obtain⟨M,hM⟩:∃ M,M=X.2.2.ps.length:=⟨_,rfl⟩
      have hrow9:=HI9.row
      simp only at i1 hrow9
      rw[← hM] at i1 hrow9
      have hlay:=srlay_any wc pa9 M pc9 X.2.2.ps ao n c l hrow9 hM hLc hn (by
       have h2:=hm HD.out
       have h3:=(right_all HB.out.2).1
       rw[hps] at hM
       omega)
      rw[hps] at hlay
      have H7:=hid (And.intro HI9 (And.intro c2 (And.intro c3 (And.intro c4 (And.intro hps hM)))))
      clear hL hn hap hm hLc c2 c3 c4 hps HI9 hrow9 hM
      go_wp2_with (at_builtin;refine stopAt ?_;intro q hq)
      refine hlay.mono ?_
      rintro e w8 ⟨v8,rfl,hr8,hk8,ho8⟩
      have hh8:=hk8.get H7.out.1.head id
      obtain⟨a8,m8,rfl,-⟩:=hr8.form
      have hh9:=heap_setCell6 (show w8.heap[b]?=some (.cells #[_,_,_] _ (0,0)) from hh8) 1 (.slice a8 (layL S.ps l).length m8)
      have hk9:Keep (fun k=>k=b) w8 (w8.setCell ⟨b,1,none⟩ (.slice a8 (layL S.ps l).length m8)):=by refine Keep.setCell (Keep.refl _ _) (.inl ?_) _;rfl
      have H8:=hid (And.intro hr8 (And.intro hk8 (And.intro ho8 (And.intro hh8 (And.intro hh9 hk9)))))
      clear hlay hr8 hk8 ho8 hh9 hk9 i0 i1 i2 jf jb
      obtain⟨i0,i1,i2,jf,jb⟩:=cells3i (show w8.heap[b]?=some (.cells #[_,_,_] _ (0,0)) from hh8)
      clear hh8
      have htl:=rtold_any _ b _ _ dd H8.out.2.2.2.2.1 X.1
      go_wp2_with (at_builtin;refine stopAt ?_;intro q hq)
      refine htl.mono ?_
      rintro e w9 ⟨rfl,hh9,hk9⟩
      have H9:=hid (And.intro hh9 hk9)
      clear htl hh9 hk9 i0 i1 i2 jf jb
      go_wp2_with (at_builtin;refine stopAt ?_;intro q hq)
      go_ret
      obtain⟨HI9,c2,c3,c4,hps,hM⟩:=H7.out
      obtain⟨hr8,hk8,ho8,-,hh8,hk89⟩:=H8.out
      rw[h0.out.2]
      refine⟨by rw[h0.out.1];rfl,?_⟩
      obtain⟨F',h1,h2⟩:=HI9.laid (ps':=layL S.ps l) (pv':=.slice a8 (layL S.ps l).length m8) (hk8.next hk89 (fun _ _ x=>x.elim) (fun _ _ x=>x)) hh8 (hr8.keep hk89 (fun k e x=>by subst x;exact hr8.not_block H8.out.2.2.2.1 (by decide) e)) (fun k e=>by
       have:=ho8 k e
       rw[hM] at this
       exact this) (by
       have:=HI9.ok.layL (right_all HB.out.2).2
       simp only[hps] at this
       exact this)
      have hz:=h1.told2 _ H9.out.2 H9.out.1
      simp only at hz
      rw[Hdd.out] at hz
      refine(hz.step (F:=F9) (Fd:=Fd9) (w1:=wc) ((hk8.next hk89 (fun _ _ x=>x.elim) (fun k _ x=>x)).mono fun k _ x=>by subst x;exact .inl HI9.self) h2 (fun k x=>.inl x)).step c2 c3 c4
     ·have q1:(X.1 == 0)=false:=by simp[hx0]
      have e:R=X:=by
       rw[HZ.out]
       unfold laidS
       rw[if_neg hx0]
      have h0:=hid e
      clear hx0 e
      have htl:=rtold_any wc b _ _ _ HI9.head X.1
      have H7:=hid (And.intro HI9 (And.intro c2 (And.intro c3 c4)))
      clear HI9 c2 c3 c4
      go_wp2_with (at_builtin;refine stopAt ?_;intro q hq)
      refine htl.mono ?_
      rintro e w9 ⟨rfl,hh9,hk9⟩
      have H9:=hid (And.intro hh9 hk9)
      clear htl hh9 hk9
      go_wp2_with (at_builtin;refine stopAt ?_;intro q hq)
      go_ret
      rw[h0.out]
      refine⟨rfl,?_⟩
      have hz:=H7.out.1.told2 _ H9.out.2 H9.out.1
      simp only at hz
      rw[Hdd.out] at hz
      exact hz.step H7.out.2.1 H7.out.2.2.1 H7.out.2.2.2
   ·have HZ:=hid (show R=((encE l:Int),D,S) by rw[H0.out.2.2.2.2.2.2];unfold doS;rw[if_neg (by rw[HD.out];decide),if_pos hE])
    obtain⟨x,hx⟩:∃ x,x=encE l:=⟨_,rfl⟩
    rw[← hx] at hE HZ ⊢
    have q1:((x:Int) == 0)=false:=by simp;omega
    have q2:decide ((x:Int)=0)=false:=by simp;omega
    have q3:((x:Int) != 0)=true:=by simp;omega
    have hk:=hid hf.keep
    clear hf hx hE
    go_wp2_with (at_builtin;refine stopAt ?_;intro q hq)
    go_ret
    rw[HZ.out]
    exact⟨rfl,(H0.out.1.later hk.out).to.since hk.out⟩
end Go.Proofs.YtnidpeeljoaelaaGreat
namespace Go.Proofs.YtnidpeeljoaelaaGreat
open Go.RowKit Go.Maps
open MI SO BM DM WM
def SROpenTo (d:Nat) (Fd:Nat→Prop) (w:World) (R:Int×Option St×Dk) (e:Ending) (w':World):Prop:=
 match R.2.1 with
 | none=>e = .returned (.tuple #[.pointer none,.int .i64 R.1])∧RefTo d Fd w R.2.2 w'
 | some s=>∃ b F Fd',e = .returned (.tuple #[.pointer (some ⟨b,0,none⟩),.int .i64 R.1])∧RStoAt w' b d F Fd' R.2.2 s∧Keep Fd w w'∧(∀ k,F k→w.heap.size≤k)∧∀ k,Fd' k→Fd k∨w.heap.size≤k
structure ROpR (w3:World) (b wb:Nat) (L:List (List UInt8)) (i:Nat) (wr:World):Prop where
 keep:Keep (fun k=>k=b) w3 wr
 ex:∃ pv ps,wr.heap[b]?=some (.cells (rstoCells (.pointer (some ⟨wb,0,none⟩)) pv false) 56 (0,0))∧Row wr 49 2 pv ps.length (prsV ps)∧(∀ k,pv.ownBlock=some k→w3.heap.size≤k)∧
  decL (L.take i) []=some ps∧PsOk ps∧ps.length≤32 * i
set_option maxRecDepth 20000 in
set_option maxHeartbeats 1000000 in
theorem sropen_any (w:World) (d:Nat) (Fd:Nat→Prop) (D:Dk) (hD:RefAt w d Fd D) (hfew:D.waits.length≤800000) :
  Calls Tryz.prog 54 #[.pointer (some ⟨d,0,none⟩)] w (SROpenTo d Fd w (opS D)):=by
 have hop:=ropen_any w d Fd D hD hfew
 obtain⟨R,hR⟩:∃ R,R=opS D:=⟨_,rfl⟩
 rw[← hR]
 obtain⟨Post,hPost⟩:∃ Post,Post=SROpenTo d Fd w R:=⟨_,rfl⟩
 rw[← hPost]
 have H0:=hid (And.intro hD (And.intro hR hPost))
 clear hD hfew hR hPost
 go_enter Tryz.func54,Tryz.ntmps54
 go_wp2_with (at_builtin;refine stopAt ?_;intro q hq)
 refine hop.mono ?_
 intro e w1 hp
 unfold ROpenTo at hp
 cases hg:(openW D).2.1 with
 | none=>
   have e1:R=((openW D).1,none,(openW D).2.2):=by rw[H0.out.2.1];unfold opS;rw[hg]
   rw[hg] at hp
   obtain⟨rfl,hto⟩:=hp
   have HZ:=hid (And.intro e1 (And.intro hto (open_none hg)))
   have q1:((openW D).1 != 0)=true:=by simp[open_none hg]
   have q2:((openW D).1 == 0)=false:=by simp[open_none hg]
   obtain⟨z,hz⟩:∃ z,z=(openW D).1:=⟨_,rfl⟩
   rw[← hz] at q1 q2 HZ ⊢
   clear hto e1 hg hop hz
   go_wp2_with (at_builtin;refine stopAt ?_;intro q hq)
   rw[H0.out.2.2]
   unfold SROpenTo
   rw[HZ.out.1]
   exact⟨rfl,HZ.out.2.1⟩
 | some g=>
   rw[hg] at hp
   obtain⟨wb,Fl,Fd1,rfl,a1,a2,a3,a4⟩:=hp
   obtain⟨z0,z1,-⟩:=open_up hg
   have HG:=hid (And.intro hg (And.intro z0 z1))
   rw[z0]
   have H1:=hid (And.intro a1 (And.intro a2 (And.intro a3 a4)))
   clear hop hg z0 z1 a1 a2 a3 a4
   have hk3:Keep (fun _=>False) w1 (w1.alloc (.cells #[.pointer (some ⟨wb,0,none⟩),.slice none 0 0,.bool false] 56)):=(Keep.refl _ _).alloc _
   have hn3:=heap_alloc_new w1 (.cells #[.pointer (some ⟨wb,0,none⟩),.slice none 0 0,.bool false] 56)
   obtain⟨N,hN⟩:∃ N,N=g.l.length:=⟨_,rfl⟩
   have HN:=hid hN
   have hNb:N≤4000:=by rw[hN];exact H1.out.1.ok.count
   have hs3:(w1.alloc (.cells #[.pointer (some ⟨wb,0,none⟩),.slice none 0 0,.bool false] 56)).heap.size=w1.heap.size+1:=by simp
   have H3:=hid (And.intro hk3 (And.intro hn3 hs3))
   clear hk3 hn3 hN hs3
   go_wp2_with (at_builtin;refine stopAt ?_;intro q hq)
   obtain⟨w3,hw3⟩:∃ w3,w3=w1.alloc (.cells #[.pointer (some ⟨wb,0,none⟩),.slice none 0 0,.bool false] 56):=⟨_,rfl⟩
   rw[← hw3] at H3 ⊢
   clear hw3
   go_loopw [7] (fun iv wr=>∃ i:Nat,i≤N∧iv = .int .i64 i∧Hid (ROpR w3 w1.heap.size wb g.l i wr)) (fun iv _=>N - (intOf iv).toNat)
   case atStart=>exact⟨0,Nat.zero_le _,rfl,hid ⟨Keep.refl _ _,.slice none 0 0,[],H3.out.2.1,Row.nil _ _ _,fun k e=>by simp[Value.ownBlock] at e,rfl,PsOk.nil,Nat.le_refl _⟩⟩
   case round=>
    obtain⟨i,hi,rfl,HT⟩:=hrel
    have hkr:Keep (fun _=>False) w1 wr:=H3.out.1.next HT.out.keep (fun _ _ x=>x) (fun k hk x=>by omega)
    obtain⟨vl,vs,hlog⟩:=H1.out.1.keep hkr (fun _ _ x=>x) (fun _ _ x=>x)
    obtain⟨j0,j1,j2,j3,j4,jf,jb⟩:=cells5w (show wr.heap[wb]?=some (.cells #[_,_,_,_,_] _ (0,0)) from hlog.wal.head)
    have hrecs:=hlog.wal.recs
    obtain⟨ra,rc,rfl,-⟩:=hrecs.row.form
    have hKr:=hid hkr
    clear hlog hkr
    by_cases hin:i<N
    ·have h4:(i:Int)<N:=by omega
     have hil:i<g.l.length:=by rw[← HN.out];exact hin
     obtain⟨gr,ad2,c2,rfl,hc,hrow,hlc⟩:=hrecs.one i hil
     have hsm:=H1.out.1.ok.small _ (List.getElem_mem hil)
     have hdrop:g.l=g.l.take i ++ (g.l[i] :: g.l.drop (i+1)):=by rw[List.getElem_cons_drop,List.take_append_drop]
     have htk:g.l.take (i+1)=g.l.take i ++ [g.l[i]]:=by rw[List.take_add_one,List.getElem?_eq_getElem hil,Option.toList_some]
     obtain⟨x,hx⟩:∃ x,x=g.l[i]:=⟨_,rfl⟩
     rw[← hx] at hc hrow hlc hsm hdrop htk
     clear hx hrecs
     have hdec:=rdecode_any wr ad2 x.length c2 x (Cells.of_row hrow) hlc (by omega)
     rw[← HN.out] at j2
     have HS:=hid (And.intro hdrop (And.intro htk hil))
     clear hdrop htk hrow hlc hsm
     go_wp2_with (at_builtin;refine stopAt ?_;intro q hq)
     refine hdec.mono ?_
     intro e w6 hp
     unfold DecPost at hp
     obtain⟨hk6,hp⟩:=hp
     have HK:=hid hk6
     clear hdec hk6
     cases hdx:dec x with
     | none=>
       rw[hdx] at hp
       simp only at hp
       subst hp
       have e1:R=(50,none,(openW D).2.2):=by
        obtain⟨m,ps,-,-,-,h2,-⟩:=HT.out.ex
        rw[H0.out.2.1]
        unfold opS
        rw[HG.out.1]
        simp only
        rw[HS.out.1,decL_append,h2]
        simp only[decL]
        rw[hdx]
       have HZ:=hid e1
       clear e1 hdx hc
       go_wp2_with (at_builtin;refine stopAt ?_;intro q hq)
       rw[H0.out.2.2]
       unfold SROpenTo
       rw[HZ.out]
       refine⟨rfl,?_⟩
       have hk:=hKr.out.next HK.out (H:=fun _=>False) (fun _ _ x=>x) (fun _ _ x=>x)
       exact⟨Fd1,H1.out.1.disk_.keep hk (fun _ _ x=>x),H1.out.2.1.next hk (fun _ _ x=>x) (fun _ _ x=>x.elim),H1.out.2.2.2⟩
     | some l=>
       rw[hdx] at hp
       obtain⟨v,rfl,hrow,hown⟩:=hp
       obtain⟨la,lc,rfl,-,-,-,hla⟩:=hrow.form
       obtain⟨hl32,hlr⟩:=dec_len hdx
       have hch:=Chs.of_row hrow (fun c hc=>chOk_of (hlr c hc))
       obtain⟨pv,ps,hh,hpr,hpo,hdl,hok,hpl⟩:=HT.out.ex
       obtain⟨pa,pc,rfl,-⟩:=hpr.form
       have hh6:=HK.out.get hh id
       obtain⟨M,hM⟩:∃ M,M=ps.length:=⟨_,rfl⟩
       have hpr6:=hpr.keep HK.out (fun _ _ x=>x)
       rw[← hM] at hh6 hpr6
       obtain⟨i0,i1,i2,if0,ib⟩:=cells3i (show w6.heap[w1.heap.size]?=some (.cells #[_,_,_] _ (0,0)) from hh6)
       have hlay:=srlay_any w6 pa M pc ps la l.length lc l hpr6 hM hch rfl (by omega)
       have H7:=hid (And.intro hdl (And.intro hok (And.intro hpl (And.intro hdx (And.intro hl32 (And.intro hlr (And.intro hpo (And.intro hM hh6))))))))
       clear hrow hown hla hl32 hlr hch hpr hpo hdl hok hpl hh hh6 hM hpr6 hdx hc
       go_wp2_with (at_builtin;refine stopAt ?_;intro q hq)
       refine hlay.mono ?_
       rintro e w8 ⟨v8,rfl,hr8,hk8,ho8⟩
       have hh8:=hk8.get H7.out.2.2.2.2.2.2.2.2 id
       obtain⟨a8,m8,rfl,-⟩:=hr8.form
       have hh9:=heap_setCell6 (show w8.heap[w1.heap.size]?=some (.cells #[_,_,_] _ (0,0)) from hh8) 1 (.slice a8 (layL ps l).length m8)
       have hk9:Keep (fun k=>k=w1.heap.size) w8 (w8.setCell ⟨w1.heap.size,1,none⟩ (.slice a8 (layL ps l).length m8)):=by refine Keep.setCell (Keep.refl _ _) (.inl ?_) _;rfl
       have H8:=hid (And.intro hr8 (And.intro hk8 (And.intro ho8 (And.intro hh8 (And.intro hh9 hk9)))))
       clear hlay hr8 hk8 ho8 hh9 hk9 i0 i1 i2 if0 ib j0 j1 j2 j3 j4 jf jb
       obtain⟨i0,i1,i2,jf,jb⟩:=cells3i (show w8.heap[w1.heap.size]?=some (.cells #[_,_,_] _ (0,0)) from hh8)
       clear hh8
       go_wp2_with (at_builtin;refine stopAt ?_;intro q hq)
       go_roundw
       case rel=>exact⟨i+1,by omega,by go_num,hid (by
        obtain⟨hdl,hok,hpl,hdx,hl32,hlr,hpo,hM,hh6⟩:=H7.out
        obtain⟨hr8,hk8,ho8,hh8,hh9,hk9⟩:=H8.out
        have s3:=HT.out.keep.size
        have s6:=HK.out.size
        refine⟨((HT.out.keep.next HK.out (fun _ _ x=>x) (fun _ _ x=>x.elim)).next hk8 (fun _ _ x=>x) (fun _ _ x=>x.elim)).next hk9 (fun _ _ x=>x) (fun _ _ x=>x),_,layL ps l,hh9,hr8.keep hk9 (fun k e x=>by subst x;exact hr8.not_block hh8 (by decide) e),fun k e=>?_,?_,hok.layL hlr,?_⟩
        ·rcases ho8 k e with z | z
         ·omega
         ·rw[hM] at z;exact hpo k z
        ·rw[HS.out.2.1,decL_append,hdl]
         simp only[decL]
         rw[hdx]
        ·have:=layL_len l ps
         omega)⟩
       case measure=>simp[intOf];omega
    ·have h4:decide ((i:Int)<N)=false:=by simp;omega
     rw[← HN.out] at j2
     clear hrecs
     go_wp2_with (at_builtin;refine stopAt ?_;intro q hq)
     rw[H0.out.2.2]
     obtain⟨pv,ps,hh,hpr,hpo,hdl,hok,hpl⟩:=HT.out.ex
     obtain rfl:i=N:=by omega
     rw[HN.out,List.take_length] at hdl
     have e1:R=(0,some ⟨g,ps,false⟩,(openW D).2.2):=by
      rw[H0.out.2.1]
      unfold opS
      rw[HG.out.1]
      simp only
      rw[hdl]
     unfold SROpenTo
     rw[e1]
     obtain⟨hlog,hkw,hFl,hFd⟩:=H1.out
     have hk:=hKr.out
     have hlt1:=hlog.ltz
     have s0:=hkw.size
     have s1:=hk.size
     have s3:=H3.out.2.2
     refine⟨w1.heap.size,fun k=>Fl k∨pv.ownBlock=some k∨k=w1.heap.size,Fd1,rfl,RStoIs.at (wb:=wb) (pv:=pv) (Fl:=Fl) ⟨hh,hpr,hlog.keep hk (fun _ _ x=>x) (fun _ _ x=>x),fun k e=>⟨.inr (.inl e),?_,?_⟩,fun k x=>⟨.inl x,?_⟩,.inr (.inr rfl),fun k x=>?_,fun k x y=>?_,hok⟩,
      hkw.next hk (fun _ _ x=>x) (fun _ _ x=>x.elim),fun k x=>?_,hFd⟩
     ·intro x;have:=hlt1 k (.inl x);have:=hpo k e;omega
     ·have:=hpo k e;omega
     ·have:=hlt1 k (.inl x);omega
     ·rcases x with x | x | x
      ·have:=hlt1 k (.inl x);omega
      ·exact hpr.lt x
      ·subst x;exact heap_lt hh
     ·have:=hlt1 k (.inr y)
      rcases x with x | x | x
      ·exact hlog.apart_ k x y
      ·have:=hpo k x;omega
      ·omega
     ·rcases x with x | x | x
      ·exact hFl k x
      ·have:=hpo k x;omega
      ·omega
end Go.Proofs.YtnidpeeljoaelaaGreat
namespace Go.Proofs.YtnidpeeljoaelaaGreat
open Go.RowKit Go.Maps
open MI SO BM DM WM
end Go.Proofs.YtnidpeeljoaelaaGreat
namespace Go.Proofs.YtnidpeeljoaelaaGreat
open Go.RowKit Go.Maps
open MI SO BM DM WM
def DkT (d:Nat) (D:Dk):Thing:=fun w F=>DiskAt w d F D
def StoT (b d:Nat) (D:Dk) (S:St):Thing:=fun w F=>∃ F1 F2,StoAt w b d F1 F2 D S∧F=fun k=>F1 k∨F2 k
def SideP (d:Nat) (D:Dk) (o:Option St) (sv:Value):Thing:=fun w F=>
 match o with
 | none=>sv = .pointer none∧DkT d D w F
 | some S=>∃ b,sv = .pointer (some ⟨b,0,none⟩)∧StoT b d D S w F
theorem DkT.lives (d:Nat) (D:Dk):Lives (DkT d D):=⟨fun h hk hn=>DiskAt.keep h hk hn,fun h=>DiskAt.lt h⟩
theorem StoT.lives (b d:Nat) (D:Dk) (S:St):Lives (StoT b d D S):=
 ⟨fun ⟨F1,F2,h,e⟩ hk hn=>⟨F1,F2,h.keep hk (fun k x=>hn k (by rw[e];exact .inl x)) (fun k x=>hn k (by rw[e];exact .inr x)),e⟩,fun ⟨F1,F2,h,e⟩ k x=>h.ltw k (by rw[e] at x;exact x)⟩
theorem SideP.lives (d:Nat) (D:Dk) (o:Option St) (sv:Value):Lives (SideP d D o sv):=by
 cases o with
 | none=>exact⟨fun h hk hn=>⟨h.1,(DkT.lives d D).keep h.2 hk hn⟩,fun h=>(DkT.lives d D).lt h.2⟩
 | some S=>exact⟨fun ⟨b,h1,h2⟩ hk hn=>⟨b,h1,(StoT.lives b d D S).keep h2 hk hn⟩,fun ⟨b,_,h2⟩=>(StoT.lives b d D S).lt h2⟩
theorem StoTo.turns {b d:Nat} {F1 F2:Nat→Prop} {w w':World} {D:Dk} {S:St} (h:StoTo b d F1 F2 w D S w'):Turns (SideP d D (some S) (.pointer (some ⟨b,0,none⟩))) (fun k=>F1 k∨F2 k) w w':=by
 obtain⟨F',Fd',h1,h2,h3,h4⟩:=h
 exact⟨fun k=>F' k∨Fd' k,⟨b,rfl,F',Fd',h1,rfl⟩,h2,fun k x=>x.elim (fun y=>(h3 k y).imp .inl id) (fun y=>(h4 k y).imp .inr id)⟩
theorem SideP.disk {d:Nat} {D:Dk} {o:Option St} {sv:Value} {w:World} {F:Nat→Prop} (h:SideP d D o sv w F):∃ F',DkT d D w F'∧∀ k,F' k→F k:=by
 cases o with
 | none=>exact⟨F,h.2,fun _ x=>x⟩
 | some S=>
   obtain⟨b,-,F1,F2,h1,rfl⟩:=h
   exact⟨F2,h1.diskAt,fun _ x=>.inr x⟩
theorem SOpenTo.side {d:Nat} {Fd:Nat→Prop} {w w':World} {R:Int×Option St×Dk} {e:Ending} (h:SOpenTo d Fd w R e w'):∃ sv,e = .returned (.tuple #[sv,.int .i64 R.1])∧Turns (SideP d R.2.2 R.2.1 sv) Fd w w':=by
 obtain⟨r,o,D⟩:=R
 cases o with
 | none=>
   obtain⟨rfl,F',h1,h2,h3⟩:=h
   exact⟨_,rfl,F',⟨rfl,h1⟩,h2,h3⟩
 | some S=>
   obtain⟨b,F,Fd',rfl,h1,h2,h3,h4⟩:=h
   exact⟨_,rfl,fun k=>F k∨Fd' k,⟨b,rfl,F,Fd',h1,rfl⟩,h2,fun k x=>x.elim (fun y=>.inr (h3 k y)) (h4 k)⟩
end Go.Proofs.YtnidpeeljoaelaaGreat
namespace Go.Proofs.YtnidpeeljoaelaaGreat
open Go.RowKit Go.Maps
open MI SO BM DM WM
def BoxT (p:Nat) (cs:Array Value) (t:TypeId):Thing:=fun w F=>w.heap[p]?=some (.cells cs t (0,0))∧F p∧∀ k,F k→k<w.heap.size
def RkT (d:Nat) (D:Dk):Thing:=fun w F=>RefAt w d F D
def RStoT (b d:Nat) (D:Dk) (S:St):Thing:=fun w F=>∃ F1 F2,RStoAt w b d F1 F2 D S∧F=fun k=>F1 k∨F2 k
def SideR (d:Nat) (D:Dk) (o:Option St) (sv:Value):Thing:=fun w F=>
 match o with
 | none=>sv = .pointer none∧RkT d D w F
 | some S=>∃ b,sv = .pointer (some ⟨b,0,none⟩)∧RStoT b d D S w F
theorem BoxT.lives (p:Nat) (cs:Array Value) (t:TypeId):Lives (BoxT p cs t):=
 ⟨fun ⟨h1,h2,h3⟩ hk hn=>⟨hk.get h1 (hn _ h2),h2,fun k x=>Nat.lt_of_lt_of_le (h3 k x) hk.size⟩,fun h=>h.2.2⟩
theorem RkT.lives (d:Nat) (D:Dk):Lives (RkT d D):=⟨fun h hk hn=>RefAt.keep h hk hn,fun h=>RefAt.lt h⟩
theorem RStoT.lives (b d:Nat) (D:Dk) (S:St):Lives (RStoT b d D S):=
 ⟨fun ⟨F1,F2,h,e⟩ hk hn=>⟨F1,F2,h.keep hk (fun k x=>hn k (by rw[e];exact .inl x)) (fun k x=>hn k (by rw[e];exact .inr x)),e⟩,fun ⟨F1,F2,h,e⟩ k x=>h.ltw k (by rw[e] at x;exact x)⟩
theorem SideR.lives (d:Nat) (D:Dk) (o:Option St) (sv:Value):Lives (SideR d D o sv):=by
 cases o with
 | none=>exact⟨fun h hk hn=>⟨h.1,(RkT.lives d D).keep h.2 hk hn⟩,fun h=>(RkT.lives d D).lt h.2⟩
 | some S=>exact⟨fun ⟨b,h1,h2⟩ hk hn=>⟨b,h1,(RStoT.lives b d D S).keep h2 hk hn⟩,fun ⟨b,_,h2⟩=>(RStoT.lives b d D S).lt h2⟩
theorem RStoTo.turns {b d:Nat} {F1 F2:Nat→Prop} {w w':World} {D:Dk} {S:St} (h:RStoTo b d F1 F2 w D S w'):Turns (SideR d D (some S) (.pointer (some ⟨b,0,none⟩))) (fun k=>F1 k∨F2 k) w w':=by
 obtain⟨F',Fd',h1,h2,h3,h4⟩:=h
 exact⟨fun k=>F' k∨Fd' k,⟨b,rfl,F',Fd',h1,rfl⟩,h2,fun k x=>x.elim (fun y=>(h3 k y).imp .inl id) (fun y=>(h4 k y).imp .inr id)⟩
theorem SideR.disk {d:Nat} {D:Dk} {o:Option St} {sv:Value} {w:World} {F:Nat→Prop} (h:SideR d D o sv w F):∃ F',RkT d D w F'∧∀ k,F' k→F k:=by
 cases o with
 | none=>exact⟨F,h.2,fun _ x=>x⟩
 | some S=>
   obtain⟨b,-,F1,F2,h1,rfl⟩:=h
   exact⟨F2,h1.diskAt,fun _ x=>.inr x⟩
theorem SROpenTo.side {d:Nat} {Fd:Nat→Prop} {w w':World} {R:Int×Option St×Dk} {e:Ending} (h:SROpenTo d Fd w R e w'):∃ sv,e = .returned (.tuple #[sv,.int .i64 R.1])∧Turns (SideR d R.2.2 R.2.1 sv) Fd w w':=by
 obtain⟨r,o,D⟩:=R
 cases o with
 | none=>
   obtain⟨rfl,F',h1,h2,h3⟩:=h
   exact⟨_,rfl,F',⟨rfl,h1⟩,h2,h3⟩
 | some S=>
   obtain⟨b,F,Fd',rfl,h1,h2,h3,h4⟩:=h
   exact⟨_,rfl,fun k=>F k∨Fd' k,⟨b,rfl,F,Fd',h1,rfl⟩,h2,fun k x=>x.elim (fun y=>.inr (h3 k y)) (h4 k)⟩
theorem Three.shrink {w0 w:World} {T U V T' U' V':Thing} {F G H F' G' H':Nat→Prop} (h:Three w0 T F U G V H w) (h1:T' w F') (h2:U' w G') (h3:V' w H') (s1:∀ k,F' k→F k) (s2:∀ k,G' k→G k) (s3:∀ k,H' k→H k):Three w0 T' F' U' G' V' H' w:=
 ⟨h1,h2,h3,fun i x y=>h.a12 i (s1 i x) (s2 i y),fun i x y=>h.a13 i (s1 i x) (s3 i y),fun i x y=>h.a23 i (s2 i x) (s3 i y),fun i x=>h.new1 i (s1 i x),fun i x=>h.new2 i (s2 i x),fun i x=>h.new3 i (s3 i x),h.keep⟩
abbrev pairC (d m:Nat) (sv rv:Value):Array Value:=#[.pointer (some ⟨d,0,none⟩),sv,.pointer (some ⟨m,0,none⟩),rv]
def SO.Sim (D:Dk) (o o2:Option St):Prop:=o2=o∨∃ S,o=some S∧o2=some (markS D S)
theorem SO.Sim.refl (D:Dk) (o:Option St):Sim D o o:=.inl rfl
theorem SO.Sim.none {D:Dk} {o2:Option St} (h:Sim D none o2):o2=none:=h.elim id fun ⟨_,h,_⟩=>by cases h
theorem SO.Sim.some {D:Dk} {S:St} {o2:Option St} (h:Sim D (some S) o2):∃ S2,o2=Option.some S2∧(S2=S∨S2=markS D S):=by
 rcases h with h | ⟨S',h1,h2⟩
 ·exact⟨S,h,.inl rfl⟩
 ·cases h1;exact⟨_,h2,.inr rfl⟩
theorem SO.Sim.arm {D:Dk} {o o2:Option St} (h:Sim D o o2) (n:Int):Sim (DM.arm D n) o o2:=h.imp id fun ⟨S,h1,h2⟩=>⟨S,h1,h2⟩
theorem SO.Sim.mk {D:Dk} {S S2:St} (h:S2=S∨S2=markS D S):Sim D (Option.some S) (Option.some S2):=h.imp (fun h=>by rw[h]) fun h=>⟨S,rfl,by rw[h]⟩
theorem SO.mark_cases {D:Dk} {S S2:St} (h:S2=S∨S2=markS D S):S2=S∨(S.dead=false∧gone D S.g=true∧S2=⟨WM.mark D S.g,S.ps,false⟩):=by
 rcases h with h | h
 ·exact .inl h
 ·unfold markS at h
  split at h
  ·exact .inl h
  ·rename_i hd
   cases hg:gone D S.g with
   | false=>rw[mark_up hg] at h;exact .inl h
   | true=>exact .inr ⟨by simpa using hd,rfl,by rw[h];simp at hd;rw[hd]⟩
theorem SO.sim_do {D:Dk} {S S2:St} (h:S2=S∨S2=markS D S) (l:List Ch):(doS D S2 l).1=(doS D S l).1∧(doS D S2 l).2.1=(doS D S l).2.1∧Sim (doS D S l).2.1 (some (doS D S l).2.2) (some (doS D S2 l).2.2):=by
 rcases mark_cases h with rfl | ⟨hd,hg,e⟩
 ·exact⟨rfl,rfl,Sim.refl _ _⟩
 ·by_cases he:encE l=0
  ·have h1:doS D S2 l=doS D S l:=by
    have ha:∀ b,apS D S2 b=apS D S b:=fun b=>by
     subst e
     unfold apS WM.append
     simp only
     rw[if_pos hg,if_pos (by rw[gone_mark];exact hg),mark_mark]
    have hi:∀ b,intoS D S2 b=intoS D S b:=fun b=>by unfold intoS;rw[ha]
    unfold doS
    rw[hd,show S2.dead=false by rw[e]]
    simp only[Bool.false_eq_true,if_false]
    rw[if_neg (by omega),if_neg (by omega),hi]
   rw[h1]
   exact⟨rfl,rfl,Sim.refl _ _⟩
  ·have e1:∀ S:St,S.dead=false→doS D S l=((encE l:Int),D,S):=fun S hd=>by unfold doS;rw[hd];simp only[Bool.false_eq_true,if_false];rw[if_pos he]
   rw[e1 S hd,e1 S2 (by rw[e])]
   exact⟨rfl,rfl,Sim.mk h⟩
theorem SO.sim_sy {D:Dk} {S S2:St} (h:S2=S∨S2=markS D S):syS D S2=syS D S:=by
 rcases mark_cases h with rfl | ⟨hd,hg,e⟩
 ·rfl
 ·subst e
  unfold syS WM.syncW
  simp only[hd,Bool.false_eq_true,if_false]
  rw[if_pos hg,if_pos (by rw[gone_mark];exact hg),mark_mark]
theorem SO.sim_ps {D:Dk} {S S2:St} (h:S2=S∨S2=markS D S):S2.ps=S.ps∧S2.dead=S.dead∧S2.g.l=S.g.l∧S2.g.safe=S.g.safe∧gone D S2.g=gone D S.g:=by
 rcases mark_cases h with rfl | ⟨hd,hg,e⟩
 ·exact⟨rfl,rfl,rfl,rfl,rfl⟩
 ·subst e
  exact⟨rfl,hd.symm,rfl,rfl,gone_mark _ _⟩
def PairG (W:World) (p:Nat) (D:Dk) (o o2:Option St) (w:World):Prop:=
 ∃ d m sv rv A F G,Three W (BoxT p (pairC d m sv rv) 38) A (SideP d D o sv) F (SideR m D o2 rv) G w
def PairS (W:World) (p:Nat) (D:Dk) (o:Option St) (w:World):Prop:=∃ o2,Sim D o o2∧PairG W p D o o2 w
def PairB (W:World) (p:Nat) (D:Dk) (w:World):Prop:=
 ∃ d m sv rv A F G,Three W (BoxT p (pairC d m sv rv) 38) A (DkT d D) F (RkT m D) G w
theorem PairS.base {W w:World} {p:Nat} {D:Dk} {o:Option St} (h:PairS W p D o w):PairB W p D w:=by
 obtain⟨o2,-,d,m,sv,rv,A,F,G,h⟩:=h
 obtain⟨F',h2,s2⟩:=h.two.disk
 obtain⟨G',h3,s3⟩:=h.three.disk
 exact⟨d,m,sv,rv,A,F',G',h.shrink h.one h2 h3 (fun _ x=>x) s2 s3⟩
theorem PairS.later {W w w':World} {p:Nat} {D:Dk} {o:Option St} (h:PairS W p D o w) (hk:Keep (fun _=>False) w w'):PairS W p D o w':=by
 obtain⟨o2,hs,d,m,sv,rv,A,F,G,h⟩:=h
 exact⟨o2,hs,d,m,sv,rv,A,F,G,h.later (BoxT.lives _ _ _) (SideP.lives _ _ _ _) (SideR.lives _ _ _ _) hk⟩
theorem PairB.later {W w w':World} {p:Nat} {D:Dk} (h:PairB W p D w) (hk:Keep (fun _=>False) w w'):PairB W p D w':=by
 obtain⟨d,m,sv,rv,A,F,G,h⟩:=h
 exact⟨d,m,sv,rv,A,F,G,h.later (BoxT.lives _ _ _) (DkT.lives _ _) (RkT.lives _ _) hk⟩
theorem PairS.keep {W w:World} {p:Nat} {D:Dk} {o:Option St} (h:PairS W p D o w):Keep (fun _=>False) W w:=let ⟨_,_,_,_,_,_,_,_,_,h⟩:=h;h.keep
theorem Three.box {W w w':World} {p:Nat} {cs cs':Array Value} {t:TypeId} {U V:Thing} {A G H:Nat→Prop} (h:Three W (BoxT p cs t) A U G V H w) (LU:Lives U) (LV:Lives V) (hk:Keep (fun k=>k=p) w w') (hh:w'.heap[p]?=some (.cells cs' t (0,0))):∃ A',Three W (BoxT p cs' t) A' U G V H w':=
 h.turn1 LU LV ⟨A,⟨hh,h.one.2.1,fun k x=>Nat.lt_of_lt_of_le (h.one.2.2 k x) hk.size⟩,hk.mono fun k _ e=>by subst e;exact h.one.2.1,fun _ x=>.inl x⟩
theorem ptr_nil {d:Nat} {D:Dk} {o:Option St} {sv:Value} {w:World} {F:Nat→Prop} (h:SideP d D o sv w F):∃ x,sv = .pointer x∧(x.isNone=o.isNone):=by
 cases o with
 | none=>exact⟨none,h.1,rfl⟩
 | some S=>obtain⟨b,e,-⟩:=h;exact⟨_,e,rfl⟩
theorem rptr_nil {d:Nat} {D:Dk} {o:Option St} {sv:Value} {w:World} {F:Nat→Prop} (h:SideR d D o sv w F):∃ x,sv = .pointer x∧(x.isNone=o.isNone):=by
 cases o with
 | none=>exact⟨none,h.1,rfl⟩
 | some S=>obtain⟨b,e,-⟩:=h;exact⟨_,e,rfl⟩
set_option maxRecDepth 20000 in
set_option maxHeartbeats 1000000 in
theorem stopen_any (W w:World) (p:Nat) (D:Dk) (h:PairB W p D w) (hfew:D.waits.length≤800000) :
  Calls Tryz.prog 27 #[.pointer (some ⟨p,0,none⟩)] w fun e w'=>e = .returned (.bool true)∧PairS W p (opS D).2.2 (opS D).2.1 w':=by
 obtain⟨d,m,sv,rv,A,F,G,h⟩:=h
 obtain⟨R,hR⟩:∃ R,R=opS D:=⟨_,rfl⟩
 have hop:=sopen_any w d F D h.two hfew
 rw[← hR] at hop ⊢
 obtain⟨h0,h1,h2,h3,hf,hb⟩:=cells4 h.one.1
 have H0:=hid (And.intro h (And.intro hR hfew))
 clear h hR hfew
 go_enter Tryz.func27,Tryz.ntmps27
 go_wp2_with (at_builtin;refine stopAt ?_;intro q hq)
 refine hop.mono ?_
 intro e w1 hp
 obtain⟨sv1,rfl,ht⟩:=hp.side
 obtain⟨F1,T1⟩:=H0.out.1.turn2 (BoxT.lives _ _ _) (RkT.lives _ _) ht
 have hrop:=sropen_any w1 m G D T1.three H0.out.2.2
 rw[← H0.out.2.1] at hrop
 clear hop hp ht h0 h1 h2 h3 hf hb
 obtain⟨h0,h1,h2,h3,hf,hb⟩:=cells4 T1.one.1
 have HT1:=hid T1
 clear T1
 go_wp2_with (at_builtin;refine stopAt ?_;intro q hq)
 refine hrop.mono ?_
 intro e w2 hp
 obtain⟨rv1,rfl,ht⟩:=hp.side
 obtain⟨G1,T2⟩:=HT1.out.turn3 (BoxT.lives _ _ _) (SideP.lives _ _ _ _) ht
 clear hrop hp ht h0 h1 h2 h3 hf hb
 obtain⟨h0,h1,h2,h3,hf,hb⟩:=cells4 T2.one.1
 obtain⟨x,rfl,hx⟩:=ptr_nil T2.two
 obtain⟨y,rfl,hy⟩:=rptr_nil T2.three
 have hk3:Keep (fun k=>k=p) w2 ((w2.setCell ⟨p,1,none⟩ (.pointer x)).setCell ⟨p,3,none⟩ (.pointer y)):=by refine Keep.setCell (Keep.setCell (Keep.refl _ _) (.inl ?_) _) (.inl ?_) _ <;> rfl
 have hh3:=heap_setCell6 (heap_setCell6 T2.one.1 1 (.pointer x)) 3 (.pointer y)
 obtain⟨A3,T3⟩:=T2.box (SideP.lives _ _ _ _) (SideR.lives _ _ _ _) hk3 hh3
 have HZ:=hid (show PairS W p R.2.2 R.2.1 _ from⟨_,Sim.refl _ _,d,m,.pointer x,.pointer y,A3,F1,G1,T3⟩)
 clear T2 hk3 hh3 T3
 have hxy:x.isNone=y.isNone:=hx.trans hy.symm
 have HXY:=hid hxy
 clear hx hy hxy
 cases x with
 | none=>
   cases y with
   | none=>
     go_wp2_with (at_builtin;refine stopAt ?_;intro q hq)
     go_ret
     exact⟨by simp,HZ.out⟩
   | some y=>exact absurd HXY.out (by simp)
 | some x=>
   cases y with
   | none=>exact absurd HXY.out (by simp)
   | some y=>
     go_wp2_with (at_builtin;refine stopAt ?_;intro q hq)
     go_ret
     exact⟨by simp,HZ.out⟩
end Go.Proofs.YtnidpeeljoaelaaGreat
namespace Go.Proofs.YtnidpeeljoaelaaGreat
open Go.RowKit Go.Maps
open MI SO BM DM WM
theorem ty_lprs:SliceTy Tryz.prog 66 43 (.slice none 0 0) 1 24:=⟨by kernel_rfl,by kernel_rfl,rfl,by decide⟩
structure Stats (w:World) (B:Nat→Prop) (v:Value) (L:List (List (Str×Str))) (vs:List Value):Prop where
 row:Row w 43 1 v L.length vs
 own:∀ k,v.ownBlock=some k→B k
 each:∀ j (hj:j<L.length),∃ u,vs[j]?=some u∧Row w 49 2 u L[j].length (prsV L[j])∧∀ k,u.ownBlock=some k→B k∧v.ownBlock≠some k
 lt:∀ k,B k→k<w.heap.size
theorem Stats.keep {w w':World} {B G:Nat→Prop} {v:Value} {L:List (List (Str×Str))} {vs:List Value} (h:Stats w B v L vs) (hk:Keep G w w') (hG:∀ k,B k→¬ G k):Stats w' B v L vs:=
 ⟨h.row.keep hk fun k e=>hG k (h.own k e),h.own,fun j hj=>let ⟨u,h1,h2,h3⟩:=h.each j hj;⟨u,h1,h2.keep hk fun k e=>hG k (h3 k e).1,h3⟩,fun k x=>Nat.lt_of_lt_of_le (h.lt k x) hk.size⟩
theorem Stats.push {w1 wr w':World} {B:Nat→Prop} {v v' u:Value} {L:List (List (Str×Str))} {vs:List Value} {l:List (Str×Str)} (h:Stats w1 B v L vs) (hk1:Keep (fun _=>False) w1 wr)
  (hu:Row wr 49 2 u l.length (prsV l)) (hou:∀ k,u.ownBlock=some k→v.ownBlock≠some k∧(B k∨w1.heap.size≤k))
  (hr:Row w' 43 1 v' (L.length+1) (vs ++ [u])) (hk:Keep (fun k=>v.ownBlock=some k) wr w')
  (hv:∀ k,v'.ownBlock=some k→v.ownBlock=some k∨wr.heap.size≤k):∃ B',Stats w' B' v' (L ++ [l]) (vs ++ [u])∧Keep B w1 w'∧∀ k,B' k→B k∨w1.heap.size≤k:=by
 have hl:vs.length=L.length:=by have:=h.row.len;omega
 have hs1:=hk1.size
 have hs2:=hk.size
 have nov:∀ (x:Value) (n:Nat) (xs:List Value),Row wr 49 2 x n xs→∀ k,x.ownBlock=some k→v.ownBlock≠some k→v'.ownBlock≠some k:=by
  intro x n xs hx k e hne e'
  rcases hv k e' with z | z
  ·exact hne z
  ·have:=hx.lt e;omega
 refine⟨fun k=>B k∨u.ownBlock=some k∨v'.ownBlock=some k,⟨by simpa using hr,fun k e=>.inr (.inr e),fun j hj=>?_,fun k x=>?_⟩,hk1.next hk (fun _ _ x=>x.elim) (fun k _ e=>h.own k e),fun k x=>?_⟩
 ·by_cases hjl:j<L.length
  ·obtain⟨x,h1,h2,h3⟩:=h.each j hjl
   rw[List.getElem_append_left hjl]
   have h2':=h2.keep hk1 (fun _ _ x=>x)
   exact⟨x,by rw[List.getElem?_append_left (by omega)];exact h1,h2'.keep hk fun k e=>(h3 k e).2,fun k e=>⟨.inl (h3 k e).1,nov x _ _ h2' k e (h3 k e).2⟩⟩
  ·obtain rfl:j=L.length:=by simp at hj;omega
   rw[List.getElem_append_right (Nat.le_refl _)]
   simp only[Nat.sub_self,List.getElem_cons_zero]
   exact⟨u,by rw[List.getElem?_append_right (by omega)];simp[hl],hu.keep hk fun k e=>(hou k e).1,fun k e=>⟨.inr (.inl e),nov u _ _ hu k e (hou k e).1⟩⟩
 ·rcases x with x | x | x
  ·have:=h.lt k x;omega
  ·have:=hu.lt x;omega
  ·exact hr.lt x
 ·rcases x with x | x | x
  ·exact .inl x
  ·exact(hou k x).2
  ·rcases hv k x with z | z
   ·exact .inl (h.own k z)
   ·exact .inr (by omega)
def Shelf2 (w:World) (ao:Option Addr) (L:List (List (Str×Str))):Prop:=
 ∀ i (hi:i<L.length),∃ ad u c,ao=some ad∧w.cell? (ad.add i)=some (.slice u L[i].length c)∧Row w 49 2 (.slice u L[i].length c) L[i].length (prsV L[i])
theorem Shelf2.keep {w w':World} {ao:Option Addr} {L:List (List (Str×Str))} (h:Shelf2 w ao L) (hk:Keep (fun _=>False) w w'):Shelf2 w' ao L:=fun i hi=>by
 obtain⟨ad,u,c,rfl,h1,h2⟩:=h i hi
 exact⟨ad,u,c,rfl,cell_old hk _ _ h1,h2.keep hk (fun _ _ x=>x)⟩
theorem Stats.tail {w:World} {B:Nat→Prop} {ao:Option Addr} {n c:Nat} {L:List (List (Str×Str))} {vs:List Value} (h:Stats w B (.slice ao n c) L vs) (lo:Nat) (h1:lo≤n) (hn:n=L.length) (hc:n≤c):Shelf2 w (tailAt ao c lo 1) (L.drop lo):=fun i hi=>by
 subst hn
 rw[List.length_drop] at hi
 have hlt:lo+i<L.length:=by omega
 obtain⟨u,e1,e2,-⟩:=h.each (lo+i) hlt
 obtain⟨ua,uc,rfl,-⟩:=e2.form
 have hcs:=(Cells.of_row h.row).tail lo h1 hc (by decide)
 obtain⟨ad,ha,hcl⟩:=hcs.2 (by omega)
 rw[List.getElem_drop]
 exact⟨ad,ua,uc,ha,hcl i _ (by rw[List.getElem?_drop,Nat.mul_one];exact e1),e2⟩
set_option maxRecDepth 20000 in
theorem among_any (w:World) (ao:Option Addr) (n c:Nat) (L:List (List (Str×Str))) (hL:Shelf2 w ao L) (hn:n=L.length) (hnb:n≤1000000) (bo:Option Addr) (k d:Nat) (m:List (Str×Str)) (hm:Row w 49 2 (.slice bo k d) k (prsV m)) (hk:k=m.length) :
  Calls Tryz.prog 28 #[.slice ao n c,.slice bo k d] w fun e w'=>e = .returned (.bool (decide (m ∈ L)))∧Keep (fun _=>False) w w':=by
 obtain⟨E,hE⟩:∃ E,E=decide (m ∈ L):=⟨_,rfl⟩
 rw[← hE]
 have HE:=hid hE
 have H:=hid (And.intro hL (And.intro hn (And.intro hm hk)))
 clear hL hn hm hk hE
 go_enter Tryz.func28,Tryz.ntmps28
 go_wp2_with (at_builtin;refine stopAt ?_;intro q hq)
 go_loopw [5] (fun iv wr=>∃ i:Nat,i≤n∧iv = .int .i64 i∧Hid (Keep (fun _=>False) w wr∧∀ j (hj:j<L.length),j<i→L[j]≠m)) (fun iv _=>n - (intOf iv).toNat)
 case atStart=>exact⟨0,Nat.zero_le _,rfl,hid ⟨Keep.refl _ _,fun j _ x=>by omega⟩⟩
 case round=>
  obtain⟨i,hi,rfl,HK⟩:=hrel
  by_cases hin:i<n
  ·have h4:(i:Int)<n:=by omega
   have hil:i<L.length:=by rw[← H.out.2.1];exact hin
   obtain⟨ad,u,uc,rfl,a0,hr⟩:=(H.out.1.keep HK.out.1) i hil
   have hs:=rsame_any wr u bo L[i].length uc k d L[i] m hr (H.out.2.2.1.keep HK.out.1 (fun _ _ x=>x)) rfl H.out.2.2.2
   obtain⟨q,hq⟩:∃ q,q=L[i]:=⟨_,rfl⟩
   rw[← hq] at a0 hs
   obtain⟨z,hz⟩:∃ z,z=decide (q=m):=⟨_,rfl⟩
   rw[← hz] at hs
   obtain⟨ql,hql⟩:∃ ql,ql=q.length:=⟨_,rfl⟩
   rw[← hql] at hs a0
   have HQ:=hid (And.intro hq (And.intro hz hil))
   clear hq hz hql hr
   go_wp2_with (at_builtin;refine stopAt ?_;intro q hq)
   refine hs.mono ?_
   rintro e w3 ⟨rfl,hk3⟩
   have HK3:=hid (HK.out.1.next hk3 (H:=fun _=>False) (fun _ _ x=>x) (fun _ _ x=>x))
   clear hs hk3 a0
   cases z with
   | true=>
     have HT:=hid (show E=true by
      have h1:=HQ.out.2.1
      have h2:q=m:=by simpa using h1.symm
      rw[HE.out]
      refine decide_eq_true ?_
      rw[← h2,HQ.out.1]
      exact List.getElem_mem _)
     go_wp2_with (at_builtin;refine stopAt ?_;intro q hq)
     go_ret
     exact⟨by rw[HT.out];try rfl,HK3.out⟩
   | false=>
     have HN:=hid (show ∀ j (hj:j<L.length),j<i+1→L[j]≠m from fun j hj hji=>by
      rcases Nat.lt_or_eq_of_le (Nat.le_of_lt_succ hji) with h | h
      ·exact HK.out.2 j hj h
      ·subst h
       have h1:=HQ.out.2.1
       have h2:q≠m:=by simpa using h1.symm
       rw[← HQ.out.1]
       exact h2)
     go_wp2_with (at_builtin;refine stopAt ?_;intro q hq)
     go_roundw
     case rel=>exact⟨i+1,by omega,by go_num,hid ⟨HK3.out,HN.out⟩⟩
     case measure=>simp[intOf];omega
  ·have h4:decide ((i:Int)<n)=false:=by simp;omega
   have HF:=hid (show E=false by
    rw[HE.out]
    refine decide_eq_false fun hmem=>?_
    obtain⟨j,hj,hjm⟩:=List.getElem_of_mem hmem
    exact HK.out.2 j hj (by have:=H.out.2.1;omega) hjm)
   go_wp2_with (at_builtin;refine stopAt ?_;intro q hq)
   go_ret
   exact⟨by rw[HF.out];try rfl,HK.out.1⟩
def AndT (T E:Thing):Thing:=fun w F=>∃ A B,T w A∧E w B∧(∀ i,A i→¬ B i)∧F=fun k=>A k∨B k
theorem AndT.lives {T E:Thing} (LT:Lives T) (LE:Lives E):Lives (AndT T E):=
 ⟨fun ⟨A,B,h1,h2,h3,e⟩ hk hn=>⟨A,B,LT.keep h1 hk (fun i x=>hn i (by rw[e];exact .inl x)),LE.keep h2 hk (fun i x=>hn i (by rw[e];exact .inr x)),h3,e⟩,
  fun ⟨A,B,h1,h2,_,e⟩ i x=>by rw[e] at x;exact x.elim (LT.lt h1 i) (LE.lt h2 i)⟩
theorem AndT.turn1 {T T' E:Thing} {w w':World} {F:Nat→Prop} (LE:Lives E) (h:AndT T E w F) (t:∀ A,T w A→Turns T' A w w'):Turns (AndT T' E) F w w':=by
 obtain⟨A,B,h1,h2,h3,rfl⟩:=h
 obtain⟨A',a,b,c⟩:=t A h1
 refine⟨fun k=>A' k∨B k,⟨A',B,a,LE.keep h2 b (fun i x y=>h3 i y x),fun i x y=>?_,rfl⟩,b.mono fun _ _ x=>.inl x,fun i x=>?_⟩
 ·rcases c i x with z | z
  ·exact h3 i z y
  ·have:=LE.lt h2 i y;omega
 ·rcases x with x | x
  ·exact(c i x).imp .inl id
  ·exact .inl (.inr x)
theorem AndT.turn2 {T E E':Thing} {w w':World} {F:Nat→Prop} (LT:Lives T) (h:AndT T E w F) (t:∀ B,E w B→Turns E' B w w'):Turns (AndT T E') F w w':=by
 obtain⟨A,B,h1,h2,h3,rfl⟩:=h
 obtain⟨B',a,b,c⟩:=t B h2
 refine⟨fun k=>A k∨B' k,⟨A,B',LT.keep h1 b h3,a,fun i x y=>?_,rfl⟩,b.mono fun _ _ x=>.inr x,fun i x=>?_⟩
 ·rcases c i y with z | z
  ·exact h3 i x z
  ·have:=LT.lt h1 i x;omega
 ·rcases x with x | x
  ·exact .inl (.inl x)
  ·exact(c i x).imp .inr id
theorem AndT.turnB {T E':Thing} {w w':World} {A B B' F:Nat→Prop} (LT:Lives T) (h1:T w A) (h3:∀ i,A i→¬ B i) (e:F=fun k=>A k∨B k) (a:E' w' B') (b:Keep B w w') (c:∀ i,B' i→B i∨w.heap.size≤i):Turns (AndT T E') F w w':=by
 subst e
 refine⟨fun k=>A k∨B' k,⟨A,B',LT.keep h1 b h3,a,fun i x y=>?_,rfl⟩,b.mono fun _ _ x=>.inr x,fun i x=>?_⟩
 ·rcases c i y with z | z
  ·exact h3 i x z
  ·have:=LT.lt h1 i x;omega
 ·rcases x with x | x
  ·exact .inl (.inl x)
  ·exact(c i x).imp .inr id
theorem AndT.make {T E:Thing} {w w':World} {F G:Nat→Prop} (LT:Lives T) (h:T w F) (hk:Keep (fun _=>False) w w') (h2:E w' G) (hn:∀ k,G k→w.heap.size≤k):AndT T E w' (fun k=>F k∨G k):=
 ⟨F,G,LT.keep h hk (fun _ _ x=>x),h2,fun i x y=>by have:=LT.lt h i x;have:=hn i y;omega,rfl⟩
def StT (v:Value) (L:List (List (Str×Str))):Thing:=fun w B=>∃ vs,Stats w B v L vs
theorem StT.lives (v:Value) (L:List (List (Str×Str))):Lives (StT v L):=⟨fun ⟨vs,h⟩ hk hn=>⟨vs,h.keep hk hn⟩,fun ⟨_,h⟩=>h.lt⟩
end Go.Proofs.YtnidpeeljoaelaaGreat
namespace Go.Proofs.YtnidpeeljoaelaaGreat
open Go.RowKit Go.Maps
open MI SO BM DM WM
def HvPost (w:World) (e:Ending) (w':World):Prop:=∃ x:Bool,e = .returned (.bool x)∧Keep (fun _=>False) w w'
set_option maxRecDepth 20000 in
theorem sheavy_any (w:World) (ao:Option Addr) (n c:Nat) (l:List Ch) (h:Chs w (.slice ao n c) l) (hn:n=l.length) :
  Calls Tryz.prog 8 #[.slice ao n c] w (HvPost w):=by
 have H:=hid (And.intro h hn)
 clear h hn
 go_enter Tryz.func8,Tryz.ntmps8
 go_wp2_with (at_builtin;refine stopAt ?_;intro q hq)
 go_loopw [3,4] (fun nv iv wr=>∃ i t:Nat,iv = .int .i64 (i:Nat)∧nv = .int .i64 (t:Nat)∧t≤24001∧i≤n∧Hid (Keep (fun _=>False) w wr∧i≤t)) (fun _ iv _=>n - (intOf iv).toNat)
 case atStart=>exact⟨0,0,rfl,rfl,by omega,by omega,hid ⟨Keep.refl _ _,Nat.le_refl _⟩⟩
 case round=>
  obtain⟨i,t,rfl,rfl,ht1,hi,HR⟩:=hrel
  by_cases hin:i<n
  ·have hil:i<l.length:=by rw[← H.out.2];exact hin
   by_cases ht:t≤8000
   ·obtain⟨ad,rfl,k0,k1,k2,hok⟩:=H.out.1.get HR.out.1 i hil
    obtain⟨x,hx⟩:∃ x,x=l[i]:=⟨_,rfl⟩
    rw[← hx] at k0 k1 k2
    clear hx hok
    have q1:(i:Int)<(n:Int):=by omega
    have q2:(t:Int)≤8000:=by omega
    have hi9:i≤24001:=by have:=HR.out.2;omega
    go_wp2_with (at_builtin;refine stopAt ?_;intro q hq)
    go_quiet (fail)
    go_wp2_with (at_builtin;refine stopAt ?_;intro q hq)
    go_roundw
    case rel=>exact⟨i+1,t+(min x.key.length 8000+min x.value.length 8000+1),by go_num,by simp only[str_size];congr 1;omega,by omega,by omega,hid ⟨HR.out.1.drewN _,by have:=HR.out.2;omega⟩⟩
    case measure=>simp[intOf];omega
   ·have q1:(i:Int)<(n:Int):=by omega
    have q2:decide ((t:Int)≤8000)=false:=decide_eq_false (by omega)
    go_wp2_with (at_builtin;refine stopAt ?_;intro q hq)
    go_ret
    exact⟨_,rfl,HR.out.1⟩
  ·have q1:decide ((i:Int)<(n:Int))=false:=decide_eq_false (by omega)
   go_wp2_with (at_builtin;refine stopAt ?_;intro q hq)
   go_ret
   exact⟨_,rfl,HR.out.1⟩
end Go.Proofs.YtnidpeeljoaelaaGreat
namespace Go.Proofs.YtnidpeeljoaelaaGreat
open Go.ChangeShapes Go.WideShapes Go.RowKit Go.Deep
open MI SO BM DM WM
structure SAct where
 kind:Int
 n:Int
 list:List Ch
 keep:List Int
deriving Inhabited
def SActR (w:World) (cs:List Value) (x:SAct):Prop:=
 ∃ lv kv,cs = [.int .i64 x.kind,.int .i64 x.n,lv,kv]∧Chs w lv x.list∧Ints w kv x.keep∧(-9223372036854775808≤x.kind∧x.kind≤9223372036854775807)∧(-9223372036854775808≤x.n∧x.n≤9223372036854775807)
abbrev SActs (w:World) (v:Value) (l:List SAct):Prop:=SliceOf w 4 (SActR w) v l
def ChLR (w:World) (cs:List Value) (x:List Ch):Prop:=∃ lv,cs = [lv]∧Chs w lv x
abbrev ChLs (w:World) (v:Value) (l:List (List Ch)):Prop:=SliceOf w 1 (ChLR w) v l
section
variable {H:Type} {enc:TypeId×Value→H} {w:World} {base:Nat} {held:Bool} {fuel:Nat}
set_option maxRecDepth 20000 in
theorem rd_change {cs:List Value} {x:DataW H×List MemPlace} (h:DataW.trod enc Tryz.prog w base (fun _=>true) held fuel 51 cs=some x):∃ c,ChR cs c:=by
 have hl:=rd_len Tryz.underlying51 h
 have c3:Tryz.prog.cellsOf 51=3:=by kernel_rfl
 have c1:Tryz.prog.cellsOf 9=1:=by kernel_rfl
 have cb:Tryz.prog.cellsOf 4=1:=by kernel_rfl
 obtain⟨n0,y0,h0⟩:=rd_field Tryz.underlying51 h 0 _ rfl
 obtain⟨n1,y1,h1⟩:=rd_field Tryz.underlying51 h 1 _ rfl
 obtain⟨n2,y2,h2⟩:=rd_field Tryz.underlying51 h 2 _ rfl
 rw[c3] at hl
 match cs,hl with
 | [x0,x1,x2],_=>
   simp[c1,cb] at h0 h1 h2
   obtain⟨s0,e0,l0⟩:=rd_str Tryz.underlying9 h0
   obtain⟨s1,e1,l1⟩:=rd_str Tryz.underlying9 h1
   obtain⟨b,e2⟩:=rd_bool Tryz.underlying4 h2
   simp only[List.cons.injEq,and_true] at e0 e1 e2
   subst e0 e1 e2
   exact⟨⟨s0,s1,b⟩,rfl,l0,l1⟩
theorem rd_changes {v:Value} {x:DataW H×List MemPlace} (h:DataW.trod enc Tryz.prog w base (fun _=>true) held fuel 27 [v]=some x):∃ l,Chs w v l:=
 rd_sliceL Tryz.underlying27 (by kernel_rfl) (fun _ _ _ _ h=>rd_change h) h
theorem rd_chls {v:Value} {x:DataW H×List MemPlace} (h:DataW.trod enc Tryz.prog w base (fun _=>true) held fuel 64 [v]=some x):∃ l,ChLs w v l:=
 rd_sliceL Tryz.underlying64 (by kernel_rfl) (fun _ cs _ hl h=>by
  match cs,hl with
  | [c],_=>
    obtain⟨l,hl⟩:=rd_changes h
    exact⟨l,c,rfl,hl⟩) h
theorem rd_bools {v:Value} {x:DataW H×List MemPlace} (h:DataW.trod enc Tryz.prog w base (fun _=>true) held fuel 65 [v]=some x):∃ l,Bools w v l:=
 rd_sliceL Tryz.underlying65 (by kernel_rfl) (fun _ _ _ _ h=>rd_bool Tryz.underlying4 h) h
end
end Go.Proofs.YtnidpeeljoaelaaGreat
namespace Go.Proofs.YtnidpeeljoaelaaGreat
open Go.RowKit Go.Maps
open MI SO BM DM WM
structure One (w0:World) (T:Thing) (F:Nat→Prop) (w:World):Prop where
 one:T w F
 new:∀ i,F i→w0.heap.size≤i
 keep:Keep (fun _=>False) w0 w
theorem One.turn {w0 w w':World} {T T':Thing} {F:Nat→Prop} (h:One w0 T F w) (t:Turns T' F w w'):∃ F',One w0 T' F' w':=by
 obtain⟨F',h1,h2,h3⟩:=t
 exact⟨F',h1,fun i x=>(h3 i x).elim (h.new i) fun z=>Nat.le_trans h.keep.size z,h.keep.next h2 (fun _ _ x=>x) (fun i hi x=>absurd (h.new i x) (by omega))⟩
theorem One.later {w0 w w':World} {T:Thing} {F:Nat→Prop} (h:One w0 T F w) (LT:Lives T) (hk:Keep (fun _=>False) w w'):One w0 T F w':=⟨LT.keep h.one hk (fun _ _ x=>x),h.new,h.keep.next hk (fun _ _ x=>x) (fun _ _ x=>x)⟩
theorem One.shrink {w0 w:World} {T T':Thing} {F F':Nat→Prop} (h:One w0 T F w) (h1:T' w F') (s:∀ k,F' k→F k):One w0 T' F' w:=⟨h1,fun i x=>h.new i (s i x),h.keep⟩
def ncL:List Ch:=[⟨[97],[120],false⟩,⟨[98],[],true⟩]
def nS0:St:=⟨⟨0,[],0,false⟩,[],false⟩
def nD0:Dk:=DM.new 20
def nD1:Dk:=(doS nD0 nS0 ncL).2.1
def nS1:St:=⟨⟨0,[[2,1,97,0,1,120,1,98,1]],0,false⟩,[([97],[120])],false⟩
theorem n_open:opS nD0=(0,some nS0,nD0):=by kernel_rfl
theorem n_enc:enc ncL = [2,1,97,0,1,120,1,98,1]∧encE ncL=0:=by constructor <;> kernel_rfl
theorem n_do:doS nD0 nS0 ncL=(0,nD1,nS1):=by kernel_rfl
theorem n_crash:DM.crash nD1 []=nD0:=by kernel_rfl
theorem n_wait:waitS nD1 nS1=1∧markS nD1 nS1=nS1:=by constructor <;> kernel_rfl
theorem n_waits:nD0.waits.length≤500000∧nD1.waits.length≤500000:=by decide +kernel
theorem n_get:getS (told nS1) [97] = .tuple #[.string (str [120]),.bool true]∧getS (told nS1) [98] = .tuple #[.string (str []),.bool false]:=by constructor <;> kernel_rfl
theorem chs_two (w:World):Chs (w.alloc (.cells #[.string (str [97]),.string (str [120]),.bool false,.string (str [98]),.string (str []),.bool true] 51)) (.slice (some ⟨w.heap.size,0,none⟩) 2 2) ncL:=
 Chs.of_row ⟨rfl,.inr ⟨_,2,_,(0,0),rfl,heap_alloc_new w _,Free.zero _,Nat.le_refl _,by decide,rfl,rfl⟩⟩ (fun c hc=>by
  unfold ncL at hc
  simp at hc
  rcases hc with rfl | rfl <;> exact⟨by decide,by decide⟩)
set_option maxRecDepth 20000 in
set_option maxHeartbeats 2000000 in
theorem sknown_any (w:World):Calls Tryz.prog 9 #[] w fun e w'=>e = .returned (.bool true)∧Keep (fun _=>False) w w':=by
 have hc0:=chs_two w
 have hk0:Keep (fun _=>False) w (w.alloc (.cells #[.string (str [97]),.string (str [120]),.bool false,.string (str [98]),.string (str []),.bool true] 51)):=(Keep.refl _ _).alloc _
 have henc:=encode_any _ (some ⟨w.heap.size,0,none⟩) 2 2 ncL hc0 rfl
 unfold EncPost at henc
 rw[n_enc.1,n_enc.2] at henc
 simp only[if_true] at henc
 have H0:=hid (And.intro hc0 hk0)
 clear hc0 hk0
 go_enter Tryz.func9,Tryz.ntmps9
 go_wp2_with (at_builtin;refine stopAt ?_;intro q hq)
 refine henc.mono ?_
 rintro e w2 ⟨bv,rfl,hf⟩
 clear henc
 obtain⟨ba,bc,rfl,-⟩:=hf.row.form
 have hc2:Chs w2 (.slice (some ⟨w.heap.size,0,none⟩) 2 2) ncL:=SliceOf.keepF H0.out.1 hf.keep (fun _ _ _ _ _ x=>x)
 have hw2:w.heap.size<w2.heap.size:=Nat.lt_of_lt_of_le (by simp) hf.keep.size
 have hkw2:=H0.out.2.next hf.keep (H:=fun _=>False) (fun _ _ x=>x) (fun _ _ x=>x)
 have H2:=hid (And.intro hf.row (And.intro hc2 (And.intro hw2 hkw2)))
 clear hf hc2 hw2 hkw2
 go_wp2_with (at_builtin;refine stopAt ?_;intro q hq)
 refine(new_any w2 20 (by decide) (by decide)).mono ?_
 rintro e w3 ⟨d,Pd,rfl,hD,hk,hP⟩
 have L3:One w2 (DkT d nD0) Pd w3:=⟨hD,hP,hk⟩
 clear hD hk hP
 have ho:=sopen_any w3 d Pd nD0 L3.one (by have:=n_waits;omega)
 rw[n_open] at ho
 go_wp2_with (at_builtin;refine stopAt ?_;intro q hq)
 refine ho.mono ?_
 intro e w4 hp
 obtain⟨sv,rfl,ht⟩:=hp.side
 obtain⟨F4,L4⟩:=L3.turn ht
 clear ho hp ht L3
 obtain⟨b,rfl,F1,F2,hst,rfl⟩:=L4.one
 have hlt:=L4.keep.size
 have hn4:=L4.new
 have hdo:=sdo_any w4 b d F1 F2 nD0 nS0 hst (some ⟨w.heap.size,0,none⟩) 2 2 ncL (SliceOf.keepF H2.out.2.1 L4.keep (fun _ _ _ _ _ x=>x)) rfl (fun _ x hx=>by
  cases hx
  have:=H2.out.2.2.1
  exact⟨fun y=>by have:w2.heap.size≤w.heap.size:=hn4 _ (.inl y);omega,fun y=>by have:w2.heap.size≤w.heap.size:=hn4 _ (.inr y);omega⟩) (fun _=>by decide) (by have:=n_waits;omega)
 rw[n_do] at hdo
 clear hst hlt hn4
 go_wp2_with (at_builtin;refine stopAt ?_;intro q hq)
 refine hdo.mono ?_
 rintro e w5 ⟨rfl,ht⟩
 obtain⟨F5,L5⟩:=L4.turn ht.turns
 clear hdo ht L4
 obtain⟨b',e',F1,F2,hst,rfl⟩:=L5.one
 cases e'
 have hg:=sget_any w5 b d F1 F2 nD1 nS1 hst [97] (by decide)
 rw[n_get.1] at hg
 clear hst
 go_wp2_with (at_builtin;refine stopAt ?_;intro q hq)
 refine hg.mono ?_
 rintro e w6 ⟨rfl,hk⟩
 have L6:=L5.later (SideP.lives _ _ _ _) hk
 clear hg hk L5
 obtain⟨b',e',F1,F2,hst,hF⟩:=L6.one
 cases e'
 have hg:=sget_any w6 b d F1 F2 nD1 nS1 hst [98] (by decide)
 rw[n_get.2] at hg
 clear hst hF
 go_wp2_with (at_builtin;refine stopAt ?_;intro q hq)
 refine hg.mono ?_
 rintro e w7 ⟨rfl,hk⟩
 have L7:=L6.later (SideP.lives _ _ _ _) hk
 clear hg hk L6
 obtain⟨b',e',F1,F2,hst,hF⟩:=L7.one
 cases e'
 have hwt:=swait_any w7 b d F1 F2 nD1 nS1 hst
 rw[n_wait.1,n_wait.2] at hwt
 clear hst
 go_wp2_with (at_builtin;refine stopAt ?_;intro q hq)
 refine hwt.mono ?_
 rintro e w8 ⟨rfl,ht⟩
 have htt:=ht.turns
 rw[← hF] at htt
 obtain⟨F8,L8⟩:=L7.turn htt
 clear hwt ht htt L7 hF
 obtain⟨F8',hd8,s8⟩:=L8.one.disk
 have L8:=L8.shrink hd8 s8
 clear hd8 s8
 have hcr:=crash_any w8 d F8' nD1 none 0 0 [] L8.one ⟨rfl,fun h=>by omega⟩ (fun h=>by omega) (by decide) (by simp) (by have:=n_waits;omega)
 rw[n_crash] at hcr
 go_wp2_with (at_builtin;refine stopAt ?_;intro q hq)
 refine hcr.mono ?_
 rintro e w9 ⟨rfl,ht⟩
 obtain⟨F9,L9⟩:=L8.turn (T':=DkT d nD0) ht
 clear hcr ht L8
 have ho:=sopen_any w9 d F9 nD0 L9.one (by have:=n_waits;omega)
 rw[n_open] at ho
 go_wp2_with (at_builtin;refine stopAt ?_;intro q hq)
 refine ho.mono ?_
 intro e w10 hp
 obtain⟨sv,rfl,ht⟩:=hp.side
 obtain⟨F10,L10⟩:=L9.turn ht
 clear ho hp ht L9
 obtain⟨t,rfl,F1,F2,hst,hF⟩:=L10.one
 have hcs:=(Cells.of_row H2.out.1).keep L10.keep (fun _ _ x=>x)
 have hstr:(convert 80 9 (.slice ba 9 bc)).run Tryz.prog w10 = .ok (.string (str [2,1,97,0,1,120,1,98,1])) w10:=run_str (src:=80) (dst:=9) (c:=bc) Tryz.underlying80 Tryz.underlying5 Tryz.underlying9 hcs
 have hlen:=slen_any w10 t d F1 F2 nD0 nS0 hst
 have L10':=hid L10
 clear hcs hst hF L10
 have hk11:Keep (fun _=>False) w10 (w10.alloc (.cells #[.string (str []),.string (str []),.bool false] 51)):=(Keep.refl _ _).alloc _
 have hri:=right_any _ (some ⟨w10.heap.size,0,none⟩) 1 1 [⟨[],[],false⟩] (Chs.of_row (w:=w10.alloc (.cells #[.string (str []),.string (str []),.bool false] 51)) ⟨rfl,.inr ⟨_,1,_,(0,0),rfl,heap_alloc_new w10 _,Free.zero _,Nat.le_refl _,by decide,rfl,rfl⟩⟩ (fun c hc=>by
  simp at hc
  subst hc
  exact⟨by decide,by decide⟩)) rfl
 have hke:=hid (H2.out.2.2.2.next L10'.out.keep (H:=fun _=>False) (fun _ _ x=>x) (fun _ _ x=>x))
 have hK:=hid hk11
 clear hk11
 have q1:(str [2,1,97,0,1,120,1,98,1]).toList = [2,1,97,0,1,120,1,98,1]:=str_toList _
 have q2:(str [120]).toList = [120]:=str_toList _
 go_wp2_with (at_builtin;refine stopAt ?_;intro q hq)
 refine hlen.mono ?_
 rintro e w11 ⟨rfl,rfl⟩
 clear hlen
 go_wp2_with (at_builtin;refine stopAt ?_;intro q hq)
 refine hri.mono ?_
 rintro e w12 ⟨rfl,hk⟩
 have hZ:=hid (hke.out.next (hK.out.next hk (H:=fun _=>False) (fun _ _ x=>x) (fun _ _ x=>x)) (H:=fun _=>False) (fun _ _ x=>x) (fun _ _ x=>x))
 clear hri hk
 go_wp2_with (at_builtin;refine stopAt ?_;intro q hq)
 go_ret
 exact⟨rfl,hZ.out⟩
end Go.Proofs.YtnidpeeljoaelaaGreat
namespace Go.Proofs.YtnidpeeljoaelaaGreat
open Go.RowKit Go.Maps
open MI SO BM DM WM
set_option maxRecDepth 20000 in
set_option maxHeartbeats 1000000 in
theorem ststart_any (w:World) (s:Nat) (h0:0<s) (h1:s≤2048) :
  Calls Tryz.prog 7 #[.int .i64 (s:Nat)] w fun e w'=>∃ p,e = .returned (.tuple #[.pointer (some ⟨p,0,none⟩),.bool true])∧PairS w p (opS (DM.new s)).2.2 (opS (DM.new s)).2.1 w':=by
 have hn:=new_any w s h0 h1
 clear h0
 go_enter Tryz.func7,Tryz.ntmps7
 go_wp2_with (at_builtin;refine stopAt ?_;intro q hq)
 refine hn.mono ?_
 rintro e w1 ⟨d,Pd,rfl,hD1,hk1,hP1⟩
 have hr:=ref_new w1 s (by have:=hD1.ok.pos;simp[DM.new] at this;omega) h1
 have H1:=hid (And.intro hD1 (And.intro hk1 hP1))
 clear hD1 hk1 hP1
 go_wp2_with (at_builtin;refine stopAt ?_;intro q hq)
 refine hr.mono ?_
 rintro e w2 ⟨m,Qd,rfl,hD2,hk2,hP2⟩
 have H2:=hid (And.intro hD2 (And.intro hk2 hP2))
 clear hD2 hk2 hP2 hn hr
 go_wp2_with (at_builtin;refine stopAt ?_;intro q hq)
 have T2:=Two.make (T:=DkT d (DM.new s)) (U:=RkT m (DM.new s)) (w0:=w) H1.out.1 H1.out.2.2 H1.out.2.1 (DkT.lives _ _) H2.out.1 H2.out.2.2 H2.out.2.1
 have hk3:Keep (fun _=>False) w2 (w2.alloc (.cells (pairC d m (.pointer none) (.pointer none)) 38)):=(Keep.refl _ _).alloc _
 have T3:=T2.and (DkT.lives _ _) (RkT.lives _ _) (V:=BoxT w2.heap.size (pairC d m (.pointer none) (.pointer none)) 38) (H:=fun k=>k=w2.heap.size)
  ⟨heap_alloc_new w2 _,rfl,fun k e=>by subst e;simp⟩ (fun k e=>by omega) hk3
 have hop:=stopen_any w _ w2.heap.size (DM.new s) ⟨d,m,.pointer none,.pointer none,_,_,_,T3.turn.turn⟩ (by simp[DM.new])
 clear T2 hk3 T3
 go_wp2_with (at_builtin;refine stopAt ?_;intro q hq)
 refine hop.mono ?_
 rintro e w4 ⟨rfl,hZ⟩
 have HZ:=hid hZ
 clear hZ
 go_wp2_with (at_builtin;refine stopAt ?_;intro q hq)
 go_ret2
 exact⟨_,rfl,HZ.out⟩
end Go.Proofs.YtnidpeeljoaelaaGreat
namespace Go.Proofs.YtnidpeeljoaelaaGreat
open Go.RowKit Go.Maps
open MI SO BM DM WM
theorem Ints.cells {w:World} {v:Value} {l:List Int} (h:Ints w v l) :
  ∃ ao c,v = .slice ao l.length c∧l.length≤c∧c≤maxLen∧Cells w ao l.length 1 (intsV l)∧∀ z ∈ l,-9223372036854775808≤z∧z≤9223372036854775807:=by
 obtain⟨ao,c,rfl,h1,h2,h3⟩:=h
 refine⟨ao,c,rfl,h1,h2,⟨by simp[intsV_length],fun hp=>?_⟩,fun z hz=>?_⟩
 ·obtain⟨ad,rfl,h4⟩:=h3 (by omega)
  refine⟨ad,rfl,fun j u hu=>?_⟩
  have hj:j<l.length:=by have:=(List.getElem?_eq_some_iff.1 hu).1;rwa [intsV_length] at this
  obtain⟨cs,_,⟨rfl,_⟩,hc⟩:=h4 j hj
  have:=hc 0 _ rfl
  rw[Nat.mul_one,Nat.add_zero] at this
  rw[this]
  simpa [intsV,hj] using hu
 ·obtain⟨j,hj,rfl⟩:=List.getElem_of_mem hz
  obtain⟨ad,rfl,h4⟩:=h3 (by omega)
  obtain⟨cs,_,⟨_,h5⟩,_⟩:=h4 j hj
  exact h5
theorem Cells.lt {w:World} {x:Addr} {n size:Nat} {xs:List Value} (h:Cells w (some x) n size xs) (hp:0<n * size):x.block<w.heap.size:=by
 obtain⟨ad,had,hc⟩:=h.2 hp
 cases had
 have hl:0<xs.length:=by rw[h.1];exact hp
 have:=World.block_lt_of_cell? w _ (hc 0 _ (List.getElem?_eq_getElem hl))
 rwa [show (x.add 0)=x by simp[Addr.add]] at this
theorem Ints.far {W w:World} {ao:Option Addr} {n c:Nat} {l:List Int} {F:Nat→Prop} (h:Ints W (.slice ao n c) l) (hk:Keep (fun _=>False) W w) (hF:∀ k,F k→W.heap.size≤k) :
  n=l.length∧n≤maxLen∧Cells w ao n 1 (intsV l)∧(0<n→∀ x,ao=some x→¬ F x.block)∧∀ z ∈ l,-9223372036854775808≤z∧z≤9223372036854775807:=by
 obtain⟨ao',c',e,h1,h2,h3,h4⟩:=h.cells
 cases e
 refine⟨rfl,by omega,h3.keep hk (fun _ _ x=>x),fun hp x hx hF'=>?_,h4⟩
 subst hx
 have:=h3.lt (by omega)
 have:=hF _ hF'
 omega
end Go.Proofs.YtnidpeeljoaelaaGreat
namespace Go.Proofs.YtnidpeeljoaelaaGreat
open Go.RowKit Go.Maps
open MI SO BM DM WM
theorem StoAt.arm {w w':World} {b d:Nat} {F Fd:Nat→Prop} {D:Dk} {S:St} {n:Int} (H:StoAt w b d F Fd D S) (ht:DiskTo d Fd w (DM.arm D n) w'):StoTo b d F Fd w (DM.arm D n) S w':=by
 obtain⟨wb,mb,m,Fl,HI⟩:=H
 obtain⟨ga,ca,vl,vs,L⟩:=HI.log
 obtain⟨Fd',a1,a2,a3⟩:=ht
 refine⟨F,Fd',⟨wb,mb,m,Fl,⟨a2.get HI.head (HI.apart _ HI.self),MapAt.keep HI.map a2 (HI.apart _ HI.fm),⟨ga,ca,vl,vs,⟨L.wal.keep a2 (fun k x=>L.apart k x),a1,fun k x y=>?_⟩⟩,HI.get,HI.inl,HI.self,HI.fm,HI.ne,fun k x=>Nat.lt_of_lt_of_le (HI.lt k x) a2.size,fun k x y=>?_,HI.ok⟩⟩,a2.mono fun _ _ x=>.inr x,fun _ x=>.inl x,a3⟩
 ·rcases a3 k y with z | z
  ·exact L.apart k x z
  ·have:=L.wal.lt k x;omega
 ·rcases a3 k y with z | z
  ·exact HI.apart k x z
  ·have:=HI.lt k x;omega
theorem RStoAt.arm {w w':World} {b d:Nat} {F Fd:Nat→Prop} {D:Dk} {S:St} {n:Int} (H:RStoAt w b d F Fd D S) (ht:RefTo d Fd w (DM.arm D n) w'):RStoTo b d F Fd w (DM.arm D n) S w':=by
 obtain⟨wb,pv,Fl,HI⟩:=H
 obtain⟨vl,vs,L⟩:=HI.log
 obtain⟨Fd',a1,a2,a3⟩:=ht
 refine⟨F,Fd',⟨wb,pv,Fl,⟨a2.get HI.head (HI.apart _ HI.self),HI.row.keep a2 (fun k x=>HI.apart _ (HI.own k x).1),⟨vl,vs,⟨L.wal.keep a2 (fun k x=>L.apart k x),a1,fun k x y=>?_⟩⟩,HI.own,HI.inl,HI.self,fun k x=>Nat.lt_of_lt_of_le (HI.lt k x) a2.size,fun k x y=>?_,HI.ok⟩⟩,a2.mono fun _ _ x=>.inr x,fun _ x=>.inl x,a3⟩
 ·rcases a3 k y with z | z
  ·exact L.apart k x z
  ·have:=L.wal.lt k x;omega
 ·rcases a3 k y with z | z
  ·exact HI.apart k x z
  ·have:=HI.lt k x;omega
theorem SideP.arm {w:World} {d:Nat} {F:Nat→Prop} {D:Dk} {o:Option St} {sv:Value} (h:SideP d D o sv w F):∃ F',DiskAt w d F' D∧(∀ k,F' k→F k)∧∀ w' n,DiskTo d F' w (DM.arm D n) w'→Turns (SideP d (DM.arm D n) o sv) F w w':=by
 cases o with
 | none=>
   obtain⟨e,h1⟩:=h
   exact⟨F,h1,fun _ x=>x,fun w' n ⟨Fd',a1,a2,a3⟩=>⟨Fd',⟨e,a1⟩,a2,a3⟩⟩
 | some S=>
   obtain⟨b,rfl,F1,F2,h1,rfl⟩:=h
   exact⟨F2,h1.diskAt,fun _ x=>.inr x,fun w' n ht=>(h1.arm ht).turns⟩
theorem SideR.arm {w:World} {d:Nat} {F:Nat→Prop} {D:Dk} {o:Option St} {sv:Value} (h:SideR d D o sv w F):∃ F',RefAt w d F' D∧(∀ k,F' k→F k)∧∀ w' n,RefTo d F' w (DM.arm D n) w'→Turns (SideR d (DM.arm D n) o sv) F w w':=by
 cases o with
 | none=>
   obtain⟨e,h1⟩:=h
   exact⟨F,h1,fun _ x=>x,fun w' n ⟨Fd',a1,a2,a3⟩=>⟨Fd',⟨e,a1⟩,a2,a3⟩⟩
 | some S=>
   obtain⟨b,rfl,F1,F2,h1,rfl⟩:=h
   exact⟨F2,h1.diskAt,fun _ x=>.inr x,fun w' n ht=>(h1.arm ht).turns⟩
set_option maxRecDepth 20000 in
set_option maxHeartbeats 1000000 in
theorem stplay_arm (W w:World) (p:Nat) (D:Dk) (o:Option St) (n:Int) (lv kv:Value) (h:PairS W p D o w) (hn:n<9223372036854775808) :
  Calls Tryz.prog 15 #[.pointer (some ⟨p,0,none⟩),.agg #[.int .i64 6,.int .i64 n,lv,kv]] w fun e w'=>e = .returned (.bool true)∧PairS W p (DM.arm D n) o w':=by
 have hk1:Keep (fun _=>False) w (w.alloc (.cells #[.int .i64 6,.int .i64 n,lv,kv] 30)):=(Keep.refl _ _).alloc _
 have hg1:=heap_alloc_new w (.cells #[.int .i64 6,.int .i64 n,lv,kv] 30)
 have hbW:W.heap.size≤w.heap.size:=h.keep.size
 obtain⟨o2,hsim,d,m,sv,rv,A,F,G,h⟩:=h
 have hsim:=hid hsim
 have h1:=h.later (BoxT.lives _ _ _) (SideP.lives _ _ _ _) (SideR.lives _ _ _ _) hk1
 have hxl:∀ k,F k∨G k→k<w.heap.size:=fun k x=>x.elim ((SideP.lives _ _ _ _).lt h.two k) ((SideR.lives _ _ _ _).lt h.three k)
 have H0:=hid (And.intro hn (And.intro hg1 (And.intro h1 (And.intro hxl hbW))))
 clear h h1 hn hk1 hg1 hxl hbW
 go_enter Tryz.func15,Tryz.ntmps15
 go_wp2_with (at_builtin;refine stopAt ?_;intro q hq)
 obtain⟨w1,hw1⟩:∃ w1,w1=w.alloc (.cells #[.int .i64 6,.int .i64 n,lv,kv] 30):=⟨_,rfl⟩
 rw[← hw1] at H0 ⊢
 clear hw1
 obtain⟨h0,h1,h2,h3,hf,hb⟩:=cells4 H0.out.2.2.1.one.1
 obtain⟨i0,i1,i2,i3,if1,ib⟩:=cells4 H0.out.2.1
 go_wp2_with (at_builtin;refine stopAt ?_;intro q hq)
 have j0:=fun s:Later w1=>s.cell h0
 have j4:=fun s:Later w1=>s.cell i1
 (refine wp_region_tail 6 (by kernel_rfl) (by kernel_rfl) ?_;simp only[List.take_succ_cons,List.take_zero,List.drop_succ_cons,List.drop_zero];(repeat (go_big_quiet_step ((fail))));refine wpQuiet_nil ?_;rintro _ ⟨sq,rfl⟩)
 have hkeep:=sq.keep
 obtain⟨w2,hw2⟩:∃ w2,w2=sq.val:=⟨_,rfl⟩
 rw[← hw2] at hkeep ⊢
 clear hw2 sq j0 j4 h0 h1 h2 h3 hf hb i0 i1 i2 i3 if1 ib
 obtain⟨hn,hg1,h1,hxl,hbW⟩:=H0.out
 have T2:=h1.later (BoxT.lives _ _ _) (SideP.lives _ _ _ _) (SideR.lives _ _ _ _) hkeep
 obtain⟨F',hd,sF,harm⟩:=T2.two.arm
 have hcr:=arm_any w2 d F' D n hn hd
 have HT:=hid (And.intro T2 (And.intro (hkeep.get hg1 id) (And.intro sF harm)))
 clear hn hg1 h1 hxl hbW hkeep T2 sF harm hd
 go_wp2_with (at_builtin;refine stopAt ?_;intro q hq)
 refine hcr.mono ?_
 rintro e w3 ⟨rfl,ht⟩
 have hk3:Keep F' w2 w3:=let ⟨_,_,h,_⟩:=ht;h
 obtain⟨F3,T3⟩:=HT.out.1.turn2 (BoxT.lives _ _ _) (SideR.lives _ _ _ _) (HT.out.2.2.2 w3 n ht)
 have hg3:=hk3.get HT.out.2.1 (fun x=>by have:=H0.out.2.2.2.1 _ (.inl (HT.out.2.2.1 _ x));omega)
 obtain⟨h0,h1,h2,h3,hf,hb⟩:=cells4 T3.one.1
 obtain⟨i0,i1,i2,i3,if1,ib⟩:=cells4 hg3
 have HT3:=hid T3
 clear hcr ht hk3 T3 hg3 HT
 go_wp2_with (at_builtin;refine stopAt ?_;intro q hq)
 have j2:=fun s:Later w3=>s.cell h2
 have j4:=fun s:Later w3=>s.cell i1
 (refine wp_region_tail 6 (by kernel_rfl) (by kernel_rfl) ?_;simp only[List.take_succ_cons,List.take_zero,List.drop_succ_cons,List.drop_zero];(repeat (go_big_quiet_step ((fail))));refine wpQuiet_nil ?_;rintro _ ⟨sq,rfl⟩)
 have hkeep:=sq.keep
 obtain⟨w4,hw4⟩:∃ w4,w4=sq.val:=⟨_,rfl⟩
 rw[← hw4] at hkeep ⊢
 clear hw4 sq j2 j4 h0 h1 h2 h3 hf hb i0 i1 i2 i3 if1 ib
 have T4:=HT3.out.later (BoxT.lives _ _ _) (SideP.lives _ _ _ _) (SideR.lives _ _ _ _) hkeep
 obtain⟨G',hd,sG,harm⟩:=T4.three.arm
 have hcr:=ref_arm w4 m G' D n H0.out.1 hd
 have HT:=hid (And.intro T4 harm)
 clear hkeep T4 sG harm hd
 go_wp2_with (at_builtin;refine stopAt ?_;intro q hq)
 refine hcr.mono ?_
 rintro e w5 ⟨rfl,ht⟩
 obtain⟨G5,T5⟩:=HT.out.1.turn3 (BoxT.lives _ _ _) (SideP.lives _ _ _ _) (HT.out.2 w5 n ht)
 have HZ:=hid (show PairS W p (DM.arm D n) o w5 from⟨o2,hsim.out.arm n,d,m,sv,rv,A,F3,G5,T5⟩)
 clear hcr ht T5 HT
 go_wp2_with (at_builtin;refine stopAt ?_;intro q hq)
 go_ret
 exact⟨rfl,HZ.out⟩
end Go.Proofs.YtnidpeeljoaelaaGreat
namespace Go.Proofs.YtnidpeeljoaelaaGreat
open Go.RowKit Go.Maps
open MI SO BM DM WM
theorem Chs.far {W w:World} {ao:Option Addr} {n c:Nat} {l:List Ch} {F:Nat→Prop} (h:Chs W (.slice ao n c) l) (hk:Keep (fun _=>False) W w) (hF:∀ k,F k→W.heap.size≤k) :
  n=l.length∧Chs w (.slice ao n c) l∧(0<n→∀ x,ao=some x→¬ F x.block):=by
 have hn:n=l.length:=by obtain⟨ao',c',e,-⟩:=h;cases e;rfl
 refine⟨hn,SliceOf.keepF h hk (fun _ _ _ _ _ x=>x),fun hp x hx y=>?_⟩
 have:=h.lt (by omega) x hx
 have:=hF _ y
 omega
end Go.Proofs.YtnidpeeljoaelaaGreat
namespace Go.Proofs.YtnidpeeljoaelaaGreat
open Go.ChangeShapes Go.WideShapes Go.RowKit Go.Deep
open MI SO BM DM WM
theorem addr_add2 (a:Addr) (i j:Nat):(a.add i).add j=a.add (i+j):=by
 by_cases hi:i=0
 ·subst hi;simp[Addr.add]
 ·rw[add_pos a i (by omega)]
  by_cases hj:j=0
  ·subst hj;rw[Nat.add_zero,add_pos a i (by omega)];simp[Addr.add]
  ·rw[add_pos _ j (by omega),add_pos a (i+j) (by omega),Nat.add_assoc]
theorem SActs.row {w w':World} {ao:Option Addr} {m c:Nat} {l:List SAct} (h:SActs w (.slice ao m c) l) (hk:Keep (fun _=>False) w w') (i:Nat) (hi:i<l.length) :
  ∃ ad lv kv,ao=some ad∧(∀ j u,[Value.int .i64 l[i].kind,.int .i64 l[i].n,lv,kv][j]?=some u→w'.cell? ((ad.add (i * 4)).add j)=some u)∧Chs w lv l[i].list∧Ints w kv l[i].keep∧
   (-9223372036854775808≤l[i].kind∧l[i].kind≤9223372036854775807)∧(-9223372036854775808≤l[i].n∧l[i].n≤9223372036854775807):=by
 obtain⟨ao',c',hv,_,_,h3⟩:=h
 cases hv
 obtain⟨ad,rfl,h4⟩:=h3 (by omega)
 obtain⟨cs,_,⟨lv,kv,rfl,h5⟩,hc⟩:=h4 i hi
 refine⟨ad,lv,kv,rfl,fun j u hu=>?_,h5⟩
 rw[addr_add2]
 exact cell_old hk _ _ (hc j u hu)
theorem SActs.get {w w':World} {ao:Option Addr} {m c:Nat} {l:List SAct} (h:SActs w (.slice ao m c) l) (hk:Keep (fun _=>False) w w') (i:Nat) (hi:i<l.length) :
  ∃ ad lv kv,ao=some ad∧w'.cell? (ad.add (i * 4))=some (.int .i64 l[i].kind)∧w'.cell? { block:=(ad.add (i * 4)).block,off:=(ad.add (i * 4)).off+1 }=some (.int .i64 l[i].n)∧
   w'.cell? { block:=(ad.add (i * 4)).block,off:=(ad.add (i * 4)).off+2 }=some lv∧w'.cell? { block:=(ad.add (i * 4)).block,off:=(ad.add (i * 4)).off+3 }=some kv∧
   (∀ j u,[Value.int .i64 l[i].kind,.int .i64 l[i].n,lv,kv][j]?=some u→w'.cell? ((ad.add (i * 4)).add j)=some u)∧Chs w lv l[i].list∧Ints w kv l[i].keep∧
   (-9223372036854775808≤l[i].kind∧l[i].kind≤9223372036854775807)∧(-9223372036854775808≤l[i].n∧l[i].n≤9223372036854775807):=by
 obtain⟨ad,lv,kv,rfl,hc,h5⟩:=h.row hk i hi
 have h0:=hc 0 _ rfl
 have h1:=hc 1 _ rfl
 have h2:=hc 2 _ rfl
 have h3:=hc 3 _ rfl
 rw[add_pos _ _ (by decide)] at h1 h2 h3
 exact⟨ad,lv,kv,rfl,h0,h1,h2,h3,hc,h5⟩
abbrev sactV (x:SAct) (lv kv:Value):Value:=.agg #[.int .i64 x.kind,.int .i64 x.n,lv,kv]
def stepS (D:Dk) (o:Option St) (x:SAct):Dk×Option St:=
 if x.kind=5 then ((opS (DM.crash D x.keep)).2.2,(opS (DM.crash D x.keep)).2.1)
 else if x.kind=6 then (DM.arm D x.n,o)
 else match o with
 | none=>(D,none)
 | some S=>
   if x.kind=0∨x.kind=1∨x.kind=2 then ((doS D S x.list).2.1,some (doS D S x.list).2.2)
   else if x.kind=3 then ((syS D S).2.1,some (syS D S).2.2)
   else if x.kind=4 then ((cpS D S).2.1,some (cpS D S).2.2)
   else (D,some S)
def few (o:Option St) (n:Nat):Prop:=∀ S,o=some S→S.dead=false→S.ps.length≤n
end Go.Proofs.YtnidpeeljoaelaaGreat
namespace Go.Proofs.YtnidpeeljoaelaaGreat.SO
open Go.Proofs.YtnidpeeljoaelaaGreat MI BM DM WM
theorem append_spec {D:Dk} (h6:6≤D.safe.length) (G:Lg) (b:List UInt8) :
  ((WM.append D G b).1=0∧(WM.append D G b).2.2 = { G with l:=G.l ++ [b],dead:=false }∧(flat (G.l ++ [b])).length≤32 * half D∧b.length≤1024∧gone D G=false)∨(WM.append D G b).1=6∨(((WM.append D G b).1=3∨(WM.append D G b).1=5)∧(WM.append D G b).2=(D,G)∧gone D G=false):=by
 unfold WM.append
 split
 ·exact .inr (.inl rfl)
 ·rename_i hg
  have hg:gone D G=false:=by simpa using hg
  split
  ·exact .inr (.inr ⟨.inl rfl,rfl,hg⟩)
  ·rename_i h3
   split
   ·exact .inr (.inr ⟨.inr rfl,rfl,hg⟩)
   ·rename_i hr
    have hf:=flat_snoc G.l b
    unfold room at hr
    have hfit:(flat (G.l ++ [b])).length≤32 * half D:=by omega
    have ha:(area D (G.l ++ [b])).length=32 * half D:=areaH_length hfit
    obtain⟨-,-,h4,-⟩:=lay_waits_all G.ep (area D (G.l ++ [b])) (((flat (G.l ++ [b])).length - 1) / 32 - (flat G.l).length / 32+1) ((flat G.l).length / 32) D h6 (by omega) ha
    simp only
    by_cases h0:(lay G.ep (area D (G.l ++ [b])) ((flat G.l).length / 32) (((flat (G.l ++ [b])).length - 1) / 32 - (flat G.l).length / 32+1) D).1=0
    ·exact .inl ⟨h0,by rw[h0];rfl,hfit,by omega,hg⟩
    ·exact .inr (.inl (h4 h0))
theorem headSec_len (ep:Nat):(headSec ep).length=32:=by
 have h1:=putU_le 10 ep
 have h2:=frame_length 1 (putUint ep)
 have h3:(putUint ep).length≤10:=h1
 unfold headSec
 rw[List.length_append,List.length_replicate]
 omega
theorem reset_spec {D:Dk} (h6:6≤D.safe.length) (G:Lg) (L:List (List UInt8)) :
  ((WM.reset D G L).1=0∧(WM.reset D G L).2.2=⟨G.ep+1,L,L.length,false⟩∧(flat L).length≤32 * half D∧gone D G=false)∨(WM.reset D G L).1=6∨(((WM.reset D G L).1=3∨(WM.reset D G L).1=5)∧(WM.reset D G L).2=(D,G)∧gone D G=false):=by
 unfold WM.reset
 split
 ·exact .inr (.inl rfl)
 ·rename_i hg
  have hg:gone D G=false:=by simpa using hg
  split
  ·exact .inr (.inr ⟨.inl rfl,rfl,hg⟩)
  ·split
   ·exact .inr (.inr ⟨.inr rfl,rfl,hg⟩)
   ·rename_i hf
    have hfit:(flat L).length≤32 * half D:=by omega
    obtain⟨h1,-⟩:=turn_all h6 (G.ep+1) (area D L) (areaH_length hfit) (headSec_len _)
    simp only
    split
    ·rename_i h0;exact .inl ⟨rfl,rfl,hfit,hg⟩
    ·rename_i h0;exact .inr (.inl (h1 h0))
theorem lay1_end:∀ (q:List (Str×Str)) (k v:Str),(∀ p ∈ q,p.1<k)→lay1 q ⟨k,v,false⟩=q ++ [(k,v)]
 | [],k,v,_=>rfl
 | p :: q,k,v,h=>by
   unfold lay1
   rw[if_pos (h p (by simp)),lay1_end q k v (fun p hp=>h p (by simp[hp]))]
   rfl
theorem decL_cp:∀ (ps q:List (Str×Str)),Sorted (q ++ ps)→(∀ p ∈ ps,OkP p)→decL (cpL ps) q=some (q ++ ps)
 | [],q,_,_=>by simp[cpL,decL]
 | p :: ps,q,hs,ho=>by
   have hp:=ho p (by simp)
   have hr:=right_one hp
   have hl:=enc_len hr
   have hd:=enc_dec hr (by simp at hl;omega)
   show decL (enc [⟨p.1,p.2,false⟩] :: cpL ps) q=_
   unfold decL
   rw[hd]
   have e:layL q [⟨p.1,p.2,false⟩]=q ++ [p]:=by
    show lay1 q ⟨p.1,p.2,false⟩=_
    rw[lay1_end q p.1 p.2 (fun a ha=>(List.pairwise_append.1 hs).2.2 a ha p (by simp))]
   simp only
   rw[e,decL_cp ps (q ++ [p]) (by simpa using hs) (fun a ha=>ho a (by simp[ha]))]
   simp
theorem decL_len:∀ (L:List (List UInt8)) (ps q:List (Str×Str)),decL L ps=some q→q.length≤ps.length+32 * L.length
 | [],ps,q,h=>by cases h;simp
 | b :: L,ps,q,h=>by
   unfold decL at h
   cases hd:dec b with
   | none=>rw[hd] at h;cases h
   | some l=>
     rw[hd] at h
     have h1:=decL_len L _ q h
     have h2:=layL_len l ps
     have h3:=(dec_len hd).1
     simp only[List.length_cons]
     omega
def Okay (S:St):Prop:=S.dead=false→decL S.g.l []=some S.ps
def OkO (o:Option St):Prop:=∀ S,o=some S→Okay S
theorem Okay.few {S:St} (h:Okay S) (hl:S.g.l.length≤4000):S.dead=false→S.ps.length≤128000:=fun hd=>by
 have:=decL_len _ _ _ (h hd)
 simp at this
 omega
theorem Okay.mark {D:Dk} {S S2:St} (h:Okay S) (hs:S2=S∨S2=markS D S):Okay S2:=by
 obtain⟨h1,h2,h3,-⟩:=sim_ps hs
 intro hd
 rw[h1,h3]
 exact h (by rw[← h2];exact hd)
theorem okay_ap {D:Dk} (h6:6≤D.safe.length) {S:St} (h:Okay S) (hd:S.dead=false) {l:List Ch} (he:encE l=0) :
  ((apS D S (enc l)).1=0→(apS D S (enc l)).2.2.dead=false∧decL (apS D S (enc l)).2.2.g.l []=some (layL S.ps l))∧((apS D S (enc l)).1≠0→Okay (apS D S (enc l)).2.2):=by
 obtain⟨hl,hr⟩:=wbytes l he
 unfold apS
 rcases append_spec h6 S.g (enc l) with ⟨h0,h1,-⟩ | h1 | ⟨h0,h1,-⟩
 ·refine⟨fun _=>⟨by simp only;rw[h0];rfl,?_⟩,fun hne=>absurd h0 hne⟩
  simp only
  rw[h1]
  simp only
  rw[decL_append,h hd]
  simp only[decL]
  rw[enc_dec hr hl]
 ·refine⟨fun h0=>(by simp only at h0;rw[h1] at h0;cases h0),fun _ hd'=>?_⟩
  simp only at hd'
  rw[h1] at hd'
  cases hd'
 ·refine⟨fun h2=>(by simp only at h2;rcases h0 with h0 | h0 <;> rw[h0] at h2 <;> cases h2),fun _ _=>?_⟩
  simp only
  rw[h1]
  exact h hd
theorem okay_cp {D:Dk} (h6:6≤D.safe.length) {S:St} (h:Okay S) (hp:PsOk S.ps):Okay (cpS D S).2.2:=by
 unfold cpS
 split
 ·exact h
 ·rename_i hd
  rcases reset_spec h6 S.g (cpL S.ps) with ⟨h0,h1,-⟩ | h1 | ⟨h0,h1,-⟩
  ·intro _
   simp only
   rw[h1]
   exact decL_cp S.ps [] (by simpa using hp.sorted) hp.each
  ·intro hd'
   simp only at hd'
   rw[h1] at hd'
   cases hd'
  ·intro _
   simp only
   rw[h1]
   exact h (by simpa using hd)
theorem cpS_len (D:Dk) (S:St):(cpS D S).2.1.safe.length=D.safe.length:=by
 unfold cpS
 split
 ·rfl
 ·exact reset_len D S.g _
theorem okay_do {D:Dk} (h6:6≤D.safe.length) {S:St} (h:Okay S) (hp:PsOk S.ps) (l:List Ch):Okay (doS D S l).2.2:=by
 unfold doS
 split
 ·exact h
 ·rename_i hd
  have hd:S.dead=false:=by simpa using hd
  split
  ·exact h
  ·rename_i he
   have he:encE l=0:=by omega
   obtain⟨a1,a2⟩:=okay_ap h6 h hd he
   have hcp:=okay_cp (D:=D) h6 h hp
   have key:((intoS D S (enc l)).1=0→(intoS D S (enc l)).2.2.dead=false∧decL (intoS D S (enc l)).2.2.g.l []=some (layL S.ps l))∧((intoS D S (enc l)).1≠0→Okay (intoS D S (enc l)).2.2):=by
    unfold intoS
    split
    ·rename_i h5
     have hk:=a2 (by omega)
     have hps:(apS D S (enc l)).2.2.ps=S.ps:=rfl
     have h6':6≤(apS D S (enc l)).2.1.safe.length:=by
      show 6≤(WM.append D S.g (enc l)).2.1.safe.length
      rw[append_len];exact h6
     have hk2:=okay_cp h6' hk (by rw[hps];exact hp)
     split
     ·rename_i hc
      have hdd:=cpS_dead hc
      have:=okay_ap (D:=(cpS (apS D S (enc l)).2.1 (apS D S (enc l)).2.2).2.1) (by rw[cpS_len];exact h6') hk2 hdd he
      rw[cpS_ps,hps] at this
      exact this
     ·rename_i hc
      exact⟨fun h0=>absurd h0 hc,fun _=>hk2⟩
    ·exact⟨a1,a2⟩
   unfold laidS
   by_cases h0:(intoS D S (enc l)).1=0
   ·rw[if_pos h0]
    intro _
    simp only
    rw[intoS_ps]
    exact(key.1 h0).2
   ·rw[if_neg h0]
    exact key.2 h0
theorem okay_sy (D:Dk) {S:St} (h:Okay S):Okay (syS D S).2.2:=by
 unfold syS
 split
 ·exact h
 ·rename_i hd
  intro _
  have e:(WM.syncW D S.g).2.2.l=S.g.l:=by
   unfold WM.syncW
   split
   ·rfl
   ·simp only
    split <;> rfl
  simp only
  rw[e]
  exact h (by simpa using hd)
theorem okay_op (D:Dk):OkO (opS D).2.1:=by
 intro S hS _
 unfold opS at hS
 split at hS
 ·cases hS
 ·rename_i g hg
  split at hS
  ·cases hS
  ·rename_i ps hp
   cases hS
   exact hp
theorem okay_step {D:Dk} {o:Option St} (h6:o≠none→6≤D.safe.length) (h:OkO o) (hp:∀ S,o=some S→PsOk S.ps) (x:SAct):OkO (stepS D o x).2:=by
 unfold stepS
 split
 ·exact okay_op _
 ·split
  ·exact h
  ·cases o with
   | none=>intro S hS;cases hS
   | some S=>
     have h6:=h6 (by simp)
     have hS:=h S rfl
     have hP:=hp S rfl
     simp only
     split
     ·intro S' e;cases e;exact okay_do h6 hS hP _
     ·split
      ·intro S' e;cases e;exact okay_sy D hS
      ·split
       ·intro S' e;cases e;exact okay_cp h6 hS hP
       ·exact h
theorem doS_waits {D:Dk} (h:D.safe.length≤2048) (S:St) (l:List Ch):(doS D S l).2.1.waits.length≤D.waits.length+5120:=by
 have ha:∀ (D:Dk) (S:St) (b:List UInt8),D.safe.length≤2048→(apS D S b).2.1.waits.length≤D.waits.length+2048:=fun D S b h=>append_waits h S.g b
 have hi:(intoS D S (enc l)).2.1.waits.length≤D.waits.length+5120:=by
  have h1:=ha D S (enc l) h
  have hl:(apS D S (enc l)).2.1.safe.length≤2048:=by
   show (WM.append D S.g (enc l)).2.1.safe.length≤2048
   rw[append_len];exact h
  have h2:=cpS_waits hl (S:=(apS D S (enc l)).2.2)
  unfold intoS
  split
  ·split
   ·have h3:=ha (cpS (apS D S (enc l)).2.1 (apS D S (enc l)).2.2).2.1 (cpS (apS D S (enc l)).2.1 (apS D S (enc l)).2.2).2.2 (enc l) (by rw[cpS_len];exact hl)
    omega
   ·omega
  ·omega
 unfold doS
 split
 ·exact Nat.le_add_right _ _
 ·split
  ·exact Nat.le_add_right _ _
  ·exact hi
theorem syS_waits (D:Dk) (S:St):(syS D S).2.1.waits.length≤D.waits.length:=by
 unfold syS
 split
 ·exact Nat.le_refl _
 ·exact syncW_waits D S.g
theorem opS_waits {D:Dk} (h:D.safe.length≤2048):(opS D).2.2.waits.length≤D.waits.length+1024:=by
 have:=openW_waits h
 unfold opS
 split
 ·exact this
 ·split <;> exact this
theorem stepS_waits {D:Dk} (h:D.safe.length≤2048) (o:Option St) (x:SAct):(stepS D o x).1.waits.length≤D.waits.length+5120:=by
 unfold stepS
 split
 ·have:=opS_waits (D:=DM.crash D x.keep) (by simp[DM.crash,tear_length];exact h)
  have e:(DM.crash D x.keep).waits.length=0:=rfl
  simp only
  omega
 ·split
  ·exact Nat.le_add_right _ _
  ·cases o with
   | none=>exact Nat.le_add_right _ _
   | some S=>
     simp only
     split
     ·exact doS_waits h S _
     ·split
      ·exact Nat.le_trans (syS_waits D S) (Nat.le_add_right _ _)
      ·split
       ·exact Nat.le_trans (cpS_waits h) (by omega)
       ·exact Nat.le_add_right _ _
end Go.Proofs.YtnidpeeljoaelaaGreat.SO
namespace Go.Proofs.YtnidpeeljoaelaaGreat
open Go.RowKit Go.Maps
open MI SO BM DM WM
section
variable {P:Program} {o:Oper} {a:Act} {w:World} {K:Act→World→Prop} {Q:Exit→Act→World→Prop}
end
structure Facts2 (D:Dk) (S:St):Prop where
 size:6≤D.safe.length
 ok:PsOk S.ps
 count:S.g.l.length≤4000
 safe:S.g.safe≤S.g.l.length
 lg:LgOk (half D) S.g
theorem StoAt.facts {w:World} {b d:Nat} {F Fd:Nat→Prop} {D:Dk} {S:St} (h:StoAt w b d F Fd D S):Facts2 D S:=by
 have hok:=h.ok
 obtain⟨wb,mb,m,Fl,H⟩:=h
 have hl:=H.log.ok
 exact⟨by have:=hl.two;unfold half at this;omega,hok,hl.count,hl.safe,hl⟩
theorem PairS.facts {W w:World} {p:Nat} {D:Dk} {o:Option St} (h:PairS W p D o w):Ok D∧∀ S,o=some S→Facts2 D S:=by
 obtain⟨o2,-,d,m,sv,rv,A,F,G,h⟩:=h
 refine⟨?_,fun S e=>?_⟩
 ·obtain⟨F',h1,-⟩:=h.two.disk
  exact DiskAt.ok h1
 ·subst e
  obtain⟨b,-,F1,F2,h1,-⟩:=h.two
  exact h1.facts
theorem PairS.few {W w:World} {p:Nat} {D:Dk} {o:Option St} (h:PairS W p D o w) (ho:OkO o):few o 128000:=fun S e=>(ho S e).few (h.facts.2 S e).count
theorem PairS.step {W w:World} {p:Nat} {D:Dk} {o:Option St} (h:PairS W p D o w) (ho:OkO o) (x:SAct):OkO (stepS D o x).2∧(stepS D o x).1.waits.length≤D.waits.length+5120:=by
 refine⟨okay_step (fun hne=>?_) ho (fun S e=>(h.facts.2 S e).ok) x,stepS_waits h.facts.1.few o x⟩
 cases o with
 | none=>exact absurd rfl hne
 | some S=>exact(h.facts.2 S rfl).size
set_option maxRecDepth 20000 in
set_option maxHeartbeats 1000000 in
theorem swait_up (w:World) (b d:Nat) (F Fd:Nat→Prop) (D:Dk) (S:St) (H:StoAt w b d F Fd D S) (hd:S.dead=false) (hg:gone D S.g=false) :
  Calls Tryz.prog 16 #[.pointer (some ⟨b,0,none⟩)] w fun e w'=>e = .returned (.int .i64 ((S.g.l.length - S.g.safe:Nat):Int))∧Keep (fun _=>False) w w':=by
 have hr:=sready_st w b d F Fd D S H
 rw[hd] at hr
 simp only[Bool.false_eq_true,if_false] at hr
 have hf:=H.facts
 obtain⟨wb,mb,m,Fl,HI⟩:=H
 obtain⟨i0,i1,i2,jf,jb⟩:=cells3i (show w.heap[b]?=some (.cells #[_,_,_] _ (0,0)) from HI.head)
 obtain⟨rl,hrl⟩:∃ rl,rl=S.g.l.length:=⟨_,rfl⟩
 obtain⟨rs,hrs⟩:∃ rs,rs=S.g.safe:=⟨_,rfl⟩
 have h1:=hf.count
 have h2:=hf.safe
 rw[← hrl] at h1
 rw[← hrl,← hrs] at h2
 have HX:=hid (And.intro HI (And.intro hg (And.intro hrl hrs)))
 rw[← hrl,← hrs]
 have e1:(rl:Int) - (rs:Int)=((rl - rs:Nat):Int):=by omega
 have e2:IntKind.i64.wrap ((rl - rs:Nat):Int)=((rl - rs:Nat):Int):=by simp[IntKind.wrap,IntKind.signed,IntKind.bits];omega
 clear HI hd hg hf hrl hrs h1 h2
 go_enter Tryz.func16,Tryz.ntmps16
 go_wp2_with (at_builtin;refine stopAt ?_;intro q hq)
 refine hr.mono ?_
 rintro e w1 ⟨rfl,rfl⟩
 clear hr
 go_wp2_with (at_builtin;refine stopAt ?_;intro q hq)
 have j0:=fun s:Later w1=>s.cell i0
 clear i0 i1 i2 jf jb
 refine wp_region_pool [(4,fun v _=>∃ ao c,v = .slice ao rl c),(10,fun v _=>v = .int .i64 (rs:Nat))] (by kernel_rfl) (by kernel_rfl) ?_ ?_
 ·intro q hq v w1 w3 hk hx
  simp only[List.mem_cons,List.not_mem_nil,or_false] at hq
  rcases hq with rfl | rfl
  all_goals exact hx
 repeat (apply wpT_pure (by rfl);(intro K s;go_simp;exact id))
 refine wpT_made (by rfl) (by kernel_rfl) (fun s hs=>?_) (fun v hv K hK=>?_)
 ·go_simp
  obtain⟨HI,hg,hrl,hrs⟩:=HX.out
  refine(records_up s.val wb d Fl Fd D S.g (HI.log.later s.keep) hg).mono ?_
  rintro e w' ⟨v,rfl,⟨vs,hm⟩,hk⟩
  obtain⟨ao,c,e,-⟩:=hm.row.form
  exact⟨v,rfl,hk,ao,c,by rw[e,hrl]⟩
 obtain⟨s1,-,ao,c,rfl⟩:=hv
 go_simp
 refine hK _ ?_
 clear hK K s1
 repeat (apply wpT_pure (by rfl);(intro K s;go_simp;exact id))
 refine wpT_made (by rfl) (by kernel_rfl) (fun s hs=>?_) (fun v hv K hK=>?_)
 ·go_simp
  obtain⟨HI,hg,hrl,hrs⟩:=HX.out
  refine(safe_up s.val wb d Fl Fd D S.g (HI.log.later s.keep) hg).mono ?_
  rintro e w' ⟨rfl,rfl⟩
  rw[hrs]
  exact⟨rfl,Keep.refl _ _⟩
 obtain⟨s1,-,rfl⟩:=hv
 go_simp
 refine hK _ ?_
 clear hK K s1
 repeat (apply wpT_pure (by rfl);(intro K s;go_simp;exact id))
 refine wpT_nil ?_
 intro s hs
 have hk:=s.keep
 obtain⟨w2,hw2⟩:∃ w2,w2=s.val:=⟨_,rfl⟩
 rw[← hw2] at hk ⊢
 clear hw2 hs s j0
 go_wp2_with (at_builtin;refine stopAt ?_;intro q hq)
 go_ret
 exact⟨rfl,hk⟩
end Go.Proofs.YtnidpeeljoaelaaGreat
namespace Go.Proofs.YtnidpeeljoaelaaGreat.SO
open Go.Proofs.YtnidpeeljoaelaaGreat MI BM DM WM
structure OnDisk (D:Dk) (G:Lg):Prop where
 calm:Calm D
 ok:Ok D
 h6:6≤D.safe.length
 dead:G.dead=false
 ep:WM.epoch D=G.ep
 epb:G.ep<4611686018427387904
 small:∀ r ∈ G.l,r.length≤1024
 fit:(flat G.l).length≤32 * half D
 area:∀ i,i<half D→nowAt D (WM.first D G.ep+i)=secOf (areaH (half D) G.l) i
theorem OnDisk.gone {D:Dk} {G:Lg} (h:OnDisk D G):WM.gone D G=false:=by unfold WM.gone;rw[h.dead,h.calm.2];rfl
theorem opened_on {D:Dk} (hc:Calm D) (ok:Ok D) (h6:6≤D.safe.length):∃ G D',openW D=(0,some G,D')∧OnDisk D' G∧G.safe=G.l.length:=by
 obtain⟨D',h⟩:=open_calm hc ok h6
 refine⟨_,D',h.eq,⟨h.calm,h.ok,by rw[h.size];exact h6,rfl,?_,?_,h.small,by rw[half_eq h.size];exact h.fit,fun i hi=>?_⟩,rfl⟩
 ·exact epoch_eq hc.2 h.calm.2 (by omega) h.size fun i hi=>h.rest i fun j _=>by have:=first_ge D (epoch D);omega
 ·rw[← epTo_two];exact epTo_lt D 2
 ·rw[half_eq h.size] at hi ⊢
  have hf:WM.first D' (epoch D)=WM.first D (epoch D):=by unfold WM.first;rw[half_eq h.size]
  rw[hf]
  exact h.area i hi
theorem OnDisk.sync {D:Dk} {G:Lg} (h:OnDisk D G):WM.syncW D G=(0,{ D with safe:=now D,waits:=[] },{ G with safe:=G.l.length })∧OnDisk { D with safe:=now D,waits:=[] } { G with safe:=G.l.length }:=by
 have hs:=sync_calm h.calm
 have hl:({ D with safe:=now D,waits:=[] }:Dk).safe.length=D.safe.length:=now_length D
 have hn:∀ p,nowAt { D with safe:=now D,waits:=[] } p=nowAt D p:=fun p=>nowAt_flat rfl rfl p
 have hh:half { D with safe:=now D,waits:=[] }=half D:=half_eq hl
 have hf:∀ e,WM.first { D with safe:=now D,waits:=[] } e=WM.first D e:=fun e=>by unfold WM.first;rw[hh]
 refine⟨?_,⟨h.calm,?_,by rw[hl];exact h.h6,h.dead,?_,h.epb,h.small,by rw[hh];exact h.fit,fun i hi=>?_⟩⟩
 ·unfold WM.syncW
  rw[h.gone,hs]
  rfl
 ·have:=h.ok.sync
  rw[hs] at this
  exact this
 ·have:=epoch_eq (D:=D) (E:={ D with safe:=now D,waits:=[] }) h.calm.2 h.calm.2 (by have:=h.h6;omega) hl (fun i _=>hn i)
  rw[this];exact h.ep
 ·rw[hh] at hi ⊢
  rw[hf,hn]
  exact h.area i hi
theorem lay_ok (ep:Nat) (b:List UInt8):∀ k i (D:Dk),Ok D→Ok (lay ep b i k D).2
 | 0,_,_,h=>h
 | k+1,i,D,h=>by
   unfold lay
   simp only
   split
   ·exact lay_ok ep b k (i+1) _ (h.write _ _)
   ·exact h.write _ _
theorem turn_ok (ep:Nat) (b:List UInt8) (D:Dk) (h:Ok D):Ok (turnW ep b D).2:=by
 have h1:=lay_ok ep b (half D) 0 D h
 unfold turnW
 simp only
 split
 ·exact h1
 ·split
  ·exact h1.sync
  ·split
   ·exact h1.sync.write _ _
   ·exact(h1.sync.write _ _).sync
theorem OnDisk.append {D:Dk} {G:Lg} (h:OnDisk D G) {b:List UInt8} (hb:b.length≤1024) :
  WM.append D G b=(5,D,G)∨((WM.append D G b).1=0∧(WM.append D G b).2.2 = { G with l:=G.l ++ [b] }∧OnDisk (WM.append D G b).2.1 { G with l:=G.l ++ [b] }):=by
 have hc:=append_calm h.calm h.h6 h.dead h.fit hb
 split at hc
 ·exact .inl hc
 ·rename_i hr
  right
  obtain⟨c1,c2,c3,c4⟩:=hc
  have hsn:=flat_snoc G.l b
  unfold room at hr
  have hfit:(flat (G.l ++ [b])).length≤32 * half D:=by omega
  have hal:(areaH (half D) (G.l ++ [b])).length=32 * half D:=areaH_length hfit
  have hal0:(areaH (half D) G.l).length=32 * half D:=areaH_length h.fit
  have hA:WM.area D (G.l ++ [b])=areaH (half D) (G.l ++ [b]):=rfl
  obtain⟨a1,-,-,a5⟩:=lay_waits_all G.ep (WM.area D (G.l ++ [b])) (((flat (G.l ++ [b])).length - 1) / 32 - (flat G.l).length / 32+1) ((flat G.l).length / 32) D h.h6 (by omega) hal
  have hr2:(WM.append D G b).2.1=(lay G.ep (WM.area D (G.l ++ [b])) ((flat G.l).length / 32) (((flat (G.l ++ [b])).length - 1) / 32 - (flat G.l).length / 32+1) D).2∧(WM.append D G b).1=(lay G.ep (WM.area D (G.l ++ [b])) ((flat G.l).length / 32) (((flat (G.l ++ [b])).length - 1) / 32 - (flat G.l).length / 32+1) D).1:=by
   unfold WM.append
   rw[h.gone,if_neg (by simp),if_neg (by omega),if_neg (by unfold room;omega)]
   exact⟨rfl,rfl⟩
  obtain⟨r,hr0⟩:∃ r,r=lay G.ep (WM.area D (G.l ++ [b])) ((flat G.l).length / 32) (((flat (G.l ++ [b])).length - 1) / 32 - (flat G.l).length / 32+1) D:=⟨_,rfl⟩
  rw[← hr0] at a1 a5 hr2
  have hz:r.1=0:=by rw[← hr2.2];exact c1
  have hok:Ok (WM.append D G b).2.1:=by
   rw[hr2.1,hr0]
   exact lay_ok G.ep _ _ _ _ h.ok
  have hl:(WM.append D G b).2.1.safe.length=D.safe.length:=by rw[c4]
  have hh:half (WM.append D G b).2.1=half D:=half_eq hl
  have hf:∀ e,WM.first (WM.append D G b).2.1 e=WM.first D e:=fun e=>by unfold WM.first;rw[hh]
  have hnw:∀ p,p<2→nowAt (WM.append D G b).2.1 p=nowAt D p:=fun p hp=>by
   rw[hr2.1]
   exact(a5 hz p).2 fun j _ _=>by have:=first_ge D G.ep;omega
  refine⟨c1,c2,c3,hok,by rw[hl];exact h.h6,h.dead,?_,h.epb,fun r hr=>?_,by rw[hh];exact hfit,fun i hi=>?_⟩
  ·rw[epoch_eq h.calm.2 c3.2 (by have:=h.h6;omega) hl hnw];exact h.ep
  ·rcases List.mem_append.1 hr with x | x
   ·exact h.small r x
   ·simp at x;subst x;exact hb
  ·rw[hh] at hi ⊢
   rw[hf,hr2.1]
   obtain⟨b1,b2⟩:=a5 hz (WM.first D G.ep+i)
   by_cases hin:(flat G.l).length / 32≤i∧i<(flat G.l).length / 32+(((flat (G.l ++ [b])).length - 1) / 32 - (flat G.l).length / 32+1)
   ·exact b1 i hin.1 hin.2 rfl
   ·rw[b2 (fun j j1 j2=>by omega),h.area i hi]
    refine secOf_ext hal0 hal hi fun k hk=>?_
    have hin':i<(flat G.l).length / 32∨((flat (G.l ++ [b])).length - 1) / 32<i:=by omega
    rcases hin' with q | q
    ·have hq1:32 * i+k<(flat G.l).length:=by omega
     have hq2:32 * i+k<(flat (G.l ++ [b])).length:=by omega
     rw[area_get _ _ hq1,area_get _ _ hq2]
     have he:flat (G.l ++ [b])=flat G.l ++ flat [b]:=by simp[flat]
     rw[he,List.getElem?_append_left hq1]
    ·have hq1:(flat G.l).length≤32 * i+k:=by omega
     have hq2:(flat (G.l ++ [b])).length≤32 * i+k:=by omega
     rw[area_nought _ _ hq1 (by omega),area_nought _ _ hq2 (by omega)]
theorem head_new {D:Dk} (hd:D.down=false) (h2:2≤D.safe.length) {n:Nat} (hn:n<4611686018427387904) (h:nowAt D (n % 2)=headSec n):WM.head D (n % 2)=some n:=by
 have hlt:n % 2<2:=Nat.mod_lt _ (by decide)
 have hl:(putUint n).length≤10:=putU_le 10 n
 rw[head_at hd (by omega) _ h]
 have hg:=get_found [] (List.replicate (32 - (frame 1 (putUint n)).length) 0) 1 (putUint n) (by omega)
 simp only[List.nil_append,List.length_nil] at hg
 have he:headSec n=frame 1 (putUint n) ++ List.replicate (32 - (frame 1 (putUint n)).length) 0:=rfl
 rw[he,hg]
 have hu:=put_uint (b:=putUint n) (at_:=0) (n:=n) (rest:=[]) (by omega) (by simp) (Nat.zero_le _)
 simp only[Nat.zero_add] at hu
 simp only[hu]
 simp[hn]
theorem head_le {D:Dk} {i n:Nat} (hi:i<2) (h:WM.head D i=some n):n≤WM.epoch D:=by
 unfold WM.epoch
 have:i=0∨i=1:=by omega
 rcases this with rfl | rfl <;> rw[h] <;> simp <;> omega
theorem epoch_new {D:Dk} {n:Nat} (hd:D.down=false) (h2:2≤D.safe.length) (hn:n<4611686018427387904) (h:nowAt D (n % 2)=headSec n) (ho:(WM.head D ((n+1) % 2)).getD 0≤n):WM.epoch D=n:=by
 have hh:=head_new hd h2 hn h
 unfold WM.epoch
 have:n % 2=0∨n % 2=1:=by omega
 rcases this with h0 | h0
 ·rw[h0] at hh
  rw[show (n+1) % 2=1 by omega] at ho
  rw[hh];simp;omega
 ·rw[h0] at hh
  rw[show (n+1) % 2=0 by omega] at ho
  rw[hh];simp;omega
theorem OnDisk.reset {D:Dk} {G:Lg} (h:OnDisk D G) (L:List (List UInt8)) (hL:∀ r ∈ L,r.length≤1024) :
  WM.reset D G L=(5,D,G)∨((WM.reset D G L).1=0∧(WM.reset D G L).2.2=⟨G.ep+1,L,L.length,false⟩∧OnDisk (WM.reset D G L).2.1 ⟨G.ep+1,L,L.length,false⟩):=by
 have hany:L.any (fun b=>decide (1024<b.length))=false:=by
  rw[List.any_eq_false]
  intro r hr
  have:=hL r hr
  simp;omega
 by_cases hf:32 * half D<(flat L).length∨G.ep+1=4611686018427387904
 ·left
  unfold WM.reset
  rw[h.gone,if_neg (by simp),hany,if_neg (by simp),if_pos hf]
 ·right
  have hfit:(flat L).length≤32 * half D:=by omega
  have hal:(WM.area D L).length=32 * half D:=areaH_length hfit
  obtain⟨c1,c2⟩:=turn_calm h.calm h.h6 (G.ep+1) (WM.area D L) hal (headSec_len _)
  obtain⟨-,t2⟩:=turn_all h.h6 (G.ep+1) (WM.area D L) hal (headSec_len _)
  obtain⟨-,t3,t4,t5⟩:=t2 c1
  have hr:WM.reset D G L=(0,(turnW (G.ep+1) (WM.area D L) D).2,⟨G.ep+1,L,L.length,false⟩):=by
   unfold WM.reset
   rw[h.gone,if_neg (by simp),hany,if_neg (by simp),if_neg hf]
   simp only
   rw[if_pos c1]
  have hok:=turn_ok (G.ep+1) (WM.area D L) D h.ok
  have hl:=turnW_len (G.ep+1) (WM.area D L) D
  obtain⟨E,hE⟩:∃ E,E=(turnW (G.ep+1) (WM.area D L) D).2:=⟨_,rfl⟩
  rw[← hE] at c2 t3 t4 t5 hok hl hr
  rw[hr]
  have hh:half E=half D:=half_eq hl
  have hfi:∀ e,WM.first E e=WM.first D e:=fun e=>by unfold WM.first;rw[hh]
  have hepb:=h.epb
  refine⟨rfl,rfl,⟨c2,hok,by rw[hl];exact h.h6,rfl,?_,by simp only;omega,hL,by rw[hh];exact hfit,fun i hi=>?_⟩⟩
  ·have h6:=h.h6
   refine epoch_new c2.2 (show 2≤E.safe.length by omega) (show G.ep+1<4611686018427387904 by omega) t4 ?_
   have hp:(G.ep+1+1) % 2<2:=Nat.mod_lt _ (by decide)
   have he:WM.head E ((G.ep+1+1) % 2)=WM.head D ((G.ep+1+1) % 2):=by
    refine head_eq h.calm.2 c2.2 (by omega) (by omega) (t5 _ (by omega) fun j _=>?_)
    have:=first_ge D (G.ep+1)
    omega
   rw[he]
   cases hx:WM.head D ((G.ep+1+1) % 2) with
   | none=>exact Nat.zero_le _
   | some n=>
     have:=head_le hp hx
     rw[h.ep] at this
     simp only[Option.getD_some]
     omega
  ·rw[hh] at hi ⊢
   rw[hfi]
   exact t3 i hi
structure Sound (D:Dk) (S:St):Prop where
 disk:OnDisk D S.g
 dead:S.dead=false
 okay:Okay S
 ok:PsOk S.ps
theorem cpL_small {ps:List (Str×Str)} (h:∀ p ∈ ps,OkP p):∀ r ∈ cpL ps,r.length≤1024:=fun r hr=>by
 unfold cpL at hr
 obtain⟨p,hp,rfl⟩:=List.mem_map.1 hr
 have:=enc_len (right_one (h p hp))
 simp at this
 omega
theorem Sound.cp {D:Dk} {S:St} (h:Sound D S):Sound (cpS D S).2.1 (cpS D S).2.2∧(((cpS D S).1=5∧(cpS D S).2=(D,S))∨((cpS D S).1=0∧(cpS D S).2.2.g.safe=(cpS D S).2.2.g.l.length)):=by
 have hk:=okay_cp (D:=D) h.disk.h6 h.okay h.ok
 rcases h.disk.reset (cpL S.ps) (cpL_small h.ok.each) with hr | ⟨h1,h2,h3⟩
 ·have e:cpS D S=(5,D,S):=by
   unfold cpS
   rw[h.dead,if_neg (by simp),hr]
   show ((5:Int),D,(⟨S.g,S.ps,decide ((5:Int)=6)⟩:St))=_
   rw[show decide ((5:Int)=6)=S.dead by rw[h.dead];rfl]
  rw[e]
  exact⟨h,.inl ⟨rfl,rfl⟩⟩
 ·have e:cpS D S=(0,(WM.reset D S.g (cpL S.ps)).2.1,⟨⟨S.g.ep+1,cpL S.ps,(cpL S.ps).length,false⟩,S.ps,false⟩):=by
   unfold cpS
   rw[h.dead,if_neg (by simp),h2,h1]
   rfl
  rw[e] at hk ⊢
  exact⟨⟨h3,rfl,hk,h.ok⟩,.inr ⟨rfl,rfl⟩⟩
theorem Sound.ap {D:Dk} {S:St} (h:Sound D S) {l:List Ch} (he:encE l=0) :
  ((apS D S (enc l)).1=5∧(apS D S (enc l)).2=(D,S))∨((apS D S (enc l)).1=0∧OnDisk (apS D S (enc l)).2.1 (apS D S (enc l)).2.2.g∧(apS D S (enc l)).2.2.dead=false):=by
 obtain⟨hl,-⟩:=wbytes l he
 unfold apS
 rcases h.disk.append hl with hr | ⟨h1,h2,h3⟩
 ·left
  rw[hr]
  refine⟨rfl,?_⟩
  show (D,(⟨S.g,S.ps,decide ((5:Int)=6)⟩:St))=_
  rw[show decide ((5:Int)=6)=S.dead by rw[h.dead];rfl]
 ·right
  refine⟨h1,?_,by simp only;rw[h1];rfl⟩
  simp only
  rw[h2]
  exact h3
theorem Sound.do {D:Dk} {S:St} (h:Sound D S) (l:List Ch):Sound (doS D S l).2.1 (doS D S l).2.2:=by
 have hk:=okay_do h.disk.h6 h.okay h.ok l
 unfold doS at hk ⊢
 rw[h.dead] at hk ⊢
 simp only[Bool.false_eq_true,if_false] at hk ⊢
 by_cases he:encE l=0
 ·rw[if_neg (by omega)] at hk ⊢
  have hps:=intoS_ps D S (enc l)
  have key:OnDisk (intoS D S (enc l)).2.1 (intoS D S (enc l)).2.2.g∧(intoS D S (enc l)).2.2.dead=false:=by
   unfold intoS
   rcases h.ap he with ⟨a1,a2⟩ | ⟨a1,a2,a3⟩
   ·rw[if_pos a1,a2]
    simp only
    obtain⟨hc,hcc⟩:=h.cp
    split
    ·rename_i h0
     rcases hc.ap he with ⟨b1,b2⟩ | ⟨b1,b2,b3⟩
     ·rw[b2]
      exact⟨hc.disk,hc.dead⟩
     ·exact⟨b2,b3⟩
    ·exact⟨hc.disk,hc.dead⟩
   ·rw[if_neg (by omega)]
    exact⟨a2,a3⟩
  have hps2:PsOk (layL S.ps l):=h.ok.layL (right_all (wbytes l he).2).2
  unfold laidS at hk ⊢
  by_cases h0:(intoS D S (enc l)).1=0
  ·rw[if_pos h0] at hk ⊢
   rw[hps] at hk ⊢
   exact⟨key.1,key.2,hk,hps2⟩
  ·rw[if_neg h0] at hk ⊢
   exact⟨key.1,key.2,hk,by rw[hps];exact h.ok⟩
 ·rw[if_pos he]
  exact h
theorem Sound.sy {D:Dk} {S:St} (h:Sound D S):(syS D S).1=0∧Sound (syS D S).2.1 (syS D S).2.2∧(syS D S).2.1.waits = []∧(syS D S).2.2.ps=S.ps:=by
 obtain⟨h1,h2⟩:=h.disk.sync
 have e:syS D S=(0,{ D with safe:=now D,waits:=[] },⟨{ S.g with safe:=S.g.l.length },S.ps,false⟩):=by
  unfold syS
  rw[h.dead,if_neg (by simp),h1]
  rfl
 have hk:=okay_sy D h.okay
 rw[e] at hk ⊢
 exact⟨rfl,⟨h2,rfl,hk,h.ok⟩,rfl,rfl⟩
theorem decL_ok:∀ (L:List (List UInt8)) (ps q:List (Str×Str)),PsOk ps→decL L ps=some q→PsOk q
 | [],ps,q,h,e=>by cases e;exact h
 | b :: L,ps,q,h,e=>by
   unfold decL at e
   cases hd:dec b with
   | none=>rw[hd] at e;cases e
   | some l=>
     rw[hd] at e
     exact decL_ok L _ q (h.layL (dec_len hd).2) e
theorem sound_op {D:Dk} (hc:Calm D) (ok:Ok D) (h6:6≤D.safe.length) (S:St) (h:(opS D).2.1=some S):Sound (opS D).2.2 S:=by
 obtain⟨G,D',e,hg,-⟩:=opened_on hc ok h6
 have hk:=okay_op D S h
 unfold opS at h ⊢
 rw[e] at h ⊢
 simp only at h ⊢
 cases hd:decL G.l [] with
 | none=>rw[hd] at h;cases h
 | some ps=>
   rw[hd] at h
   cases h
   exact⟨hg,rfl,hk,decL_ok _ _ _ PsOk.nil hd⟩
end Go.Proofs.YtnidpeeljoaelaaGreat.SO
