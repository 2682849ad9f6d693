/- Texts RwG, RwH, RwI, Pur in one. Conditions: as each law names them. -/
import Derived.Deep.CutBlock
import Derived.Deep.DeepCutAuto
import Derived.Deep.RegionHeld3
import Derived.Test.YtkjofdocgaiedaaGreatJaa
import Derived.Test.YtkjofdocgaiedaaGreatJax
set_option maxRecDepth 20000
set_option maxHeartbeats 8000000
namespace Go.Proofs.YtkjofdocgaiedaaGreat
section
open Go.RowKit
open DM BM WM
structure RSt (w:World) (b d ep sf:Nat) (vl:Value) (dead:Bool) (Fd:Nat→Prop) (DX:Dk) (wX:World):Prop where
 keep:Keep (fun k=>Fd k∨k=b) w wX
 disk:∃ Fd',RefAt wX d Fd' DX∧∀ k,Fd' k→Fd k∨w.heap.size≤k
 head:wX.heap[b]?=some (.cells (z1V d ep vl sf dead) 119 (0,0))
structure RcRel (w:World) (b d ep sf:Nat) (L:List (List UInt8)) (i:Nat) (wr:World):Prop where
 new:∃ vl vs,wr.heap[b]?=some (.cells (z1V d ep vl sf false) 119 (0,0))∧Recs wr (fun k=>w.heap.size≤k) (fun k=>k=b) vl (L.take i) vs
 keep:Keep (fun k=>k=b) w wr
theorem RSt.later {w wX wY:World} {b d ep sf:Nat} {vl:Value} {dead:Bool} {Fd:Nat→Prop} {DX:Dk} (H:RSt w b d ep sf vl dead Fd DX wX) (hk:Keep (fun _=>False) wX wY):RSt w b d ep sf vl dead Fd DX wY:=by
 obtain⟨F',h1,h2⟩:=H.disk;exact⟨H.keep.next hk (fun _ _ x=>x) (fun _ _ x=>x.elim),⟨F',h1.keep hk fun _ _ x=>x,h2⟩,hk.get H.head id⟩
theorem ziA (w:World) (b d:Nat) (F Fd:Nat→Prop) (D:Dk) (G:Lg) (H:RLogAt w b d F Fd D G) (ao:Option Addr) (c:Nat) (L:List (List UInt8)) (_hL:Lists w ao L) (hap:∀ w',Keep (fun k=>F k∨Fd k) w w'→Lists w' ao L) (hn:L.length≤1000000000) (hfew:D.waits.length≤700000) :
  Calls Tryz.prog 116 #[.pointer (some ⟨b,0,none⟩),.slice ao L.length c] w fun e w'=>
   e = .returned (.int .i64 (WM.reset D G L).1)∧RLogTo b d F Fd w (WM.reset D G L).2.1 (WM.reset D G L).2.2 w':=by
 obtain⟨R,hR⟩:=zX1 (WM.reset D G L);rw[← hR];have HR:=hid hR;have hgo:=zjC w b d F Fd D G H;have hok:=H.ok;have hsml:=z4I H.diskOk;obtain⟨n,hnl⟩:=zX1 (L.length);have HN:=hid hnl;rw[← hnl] at hn ⊢;have HL0:=hid hap;clear hR _hL hnl hap
 cases hg:gone D G with
 | true=>
   rw[hg] at hgo;have hres:R=(6,D,WM.mark D G):=by rw[HR.out];unfold WM.reset;rw[if_pos hg]
   have HRes:=hid hres;clear hres hg hok hsml;go_enter Tryz.func116,Tryz.ntmps116;go_wp2_with (at_builtin;refine z0A ?_;intro q hq);refine hgo.mono ?_;rintro e w1 ⟨rfl,ht⟩;have HT:=hid ht;clear ht;go_wp2_with (at_builtin;refine z0A ?_;intro q hq);go_ret;rw[HRes.out];exact⟨rfl,HT.out⟩
 | false=>
   rw[hg,zoC hg] at hgo;have Hg:=hid hg;have Hok:=hid hok;have hep:=hok.ep;clear hg hok;go_enter Tryz.func116,Tryz.ntmps116;go_wp2_with (at_builtin;refine z0A ?_;intro q hq);refine hgo.mono ?_;rintro e w1 ⟨rfl,F1,Fd1,hL1,hk1,hF1,hFd1⟩;have H1:=hid (zA1 hL1 (zA1 hk1 (zA1 hF1 hFd1)));have hfr:=z9C w1 ao c L (HL0.out w1 hk1) (by have:=HN.out;omega);rw[← HN.out] at hfr;obtain⟨vl,vs,HL⟩:=hL1;have hh:=HL.wal.head;have hhead:=HL.wal.head;unfold z1V at hh;obtain⟨h0,h1,h2,h3,h4,hf,hb⟩:=z1L hh;obtain⟨adl,cl,rfl,-⟩:=HL.wal.recs.row.form;have HL:=hid HL;have Hhead:=hid hhead;clear hh hk1 hF1 hFd1 hhead
   have same:∀ (c:Int),R=(c,D,G)→∀ wX,Keep (fun _=>False) w1 wX→c=R.1∧RLogTo b d F Fd w R.2.1 R.2.2 wX:=fun c h wX hk=>by
    rw[h];exact⟨rfl,RLogTo.step H1.out.2.1 H1.out.2.2.1 H1.out.2.2.2 (H1.out.1.toLater hk)⟩
   have Same:=hid same;clear same;go_wp2_with (at_builtin;refine z0A ?_;intro q hq);refine hfr.mono ?_;intro e w2 hp;unfold FramesPost at hp
   by_cases hany:L.any (fun x=>decide (1024<x.length))=true
   ·rw[if_pos hany] at hp
    obtain⟨rfl,rfl⟩:=hp;have hS:=Same.out 3 (by rw[HR.out];unfold WM.reset;rw[Hg.out,if_neg (by simp),if_pos hany]) w2 (Keep.refl _ _);have HS:=hid hS;clear hS hany;go_wp2_with (at_builtin;refine z0A ?_;intro q hq);go_ret;rw[← HS.out.1];exact⟨rfl,HS.out.2⟩
   rw[if_neg hany] at hp
   by_cases hbig:65536<(flat L).length
   ·rw[if_pos hbig] at hp
    obtain⟨rfl,hk2⟩:=hp;have hS:=Same.out 5 (by rw[HR.out];unfold WM.reset;rw[Hg.out,if_neg (by simp),if_neg hany,if_pos (.inl (by omega))]) w2 hk2;have HS:=hid hS;clear hS hany hk2 hbig;go_wp2_with (at_builtin;refine z0A ?_;intro q hq);go_ret;rw[← HS.out.1];exact⟨rfl,HS.out.2⟩
   rw[if_neg hbig] at hp;obtain⟨v2,rfl,hf2⟩:=hp;obtain⟨fl,hfl⟩:=zX1 ((flat L).length);obtain⟨ad2,c2,hv2,-⟩:=hf2.row.form;rw[← hfl] at hv2;subst hv2;obtain⟨nn,hnn⟩:=zX1 (32 * half D);obtain⟨h,hhd⟩:=zX1 (half D);have g1:(32:Int) * (h:Int)=(nn:Int):=by omega
   have g2:=wi64 nn (by omega);obtain⟨ep1,hep1⟩:=zX1 (G.ep+1);have g3:(G.ep:Int)+1=(ep1:Int):=by omega
   have g4:=wu64 ep1 (by omega);have hhf:=z3U w2 d Fd1 D (HL.out.disk.keep hf2.keep fun _ _ x=>x);rw[← hhd] at hhf;have hh2:=hf2.keep.get Hhead.out id;clear h0 h1 h2 h3 h4 hf;obtain⟨h0,h1,h2,h3,h4,hf,hb2⟩:=z1L (show w2.heap[b]?=some (.cells #[_,_,_,_,_] _ (0,0)) from hh2);have Hf2:=hid hf2;have HE:=hid (zA1 hfl (zA1 hnn (zA1 hhd hep1)));have Hany:=hid hany;have hflb:fl≤65536:=by omega
   have hnnb:nn≤65536:=by omega
   clear hf2 hfl hnn hhd hep1 hany hbig hsml hh2
   by_cases hfull:nn<fl
   ·have hS:=Same.out 5 (by rw[HR.out];unfold WM.reset;rw[Hg.out,if_neg (by simp),if_neg Hany.out,if_pos (.inl (by have:=HE.out;omega))]) w2 Hf2.out.keep
    have HS:=hid hS;have t1:(nn:Int)<(fl:Int):=by omega
    clear hS;go_wp2_with (at_builtin;refine z0A ?_;intro q hq);refine hhf.mono ?_;rintro e w3 ⟨rfl,rfl⟩;go_wp2_with (at_builtin;refine z0A ?_;intro q hq);go_ret;rw[← HS.out.1];exact⟨rfl,HS.out.2⟩
   have t1:¬ (nn:Int)<(fl:Int):=by omega
   have t2:decide ((nn:Int)<(fl:Int))=false:=decide_eq_false t1;have t3:decide (nn<fl)=false:=decide_eq_false hfull
   by_cases hlast:ep1=4611686018427387904
   ·have hS:=Same.out 5 (by rw[HR.out];unfold WM.reset;rw[Hg.out,if_neg (by simp),if_neg Hany.out,if_pos (.inr (by have:=HE.out;omega))]) w2 Hf2.out.keep
    have HS:=hid hS;have t4:((ep1:Int) == 4611686018427387904)=true:=by rw[hlast];rfl
    clear hS;go_wp2_with (at_builtin;refine z0A ?_;intro q hq);refine hhf.mono ?_;rintro e w3 ⟨rfl,rfl⟩;go_wp2_with (at_builtin;refine z0A ?_;intro q hq);go_ret;rw[← HS.out.1];exact⟨rfl,HS.out.2⟩
   have t4:((ep1:Int) == 4611686018427387904)=false:=by simp;omega
   have t5:decide (ep1=4611686018427387904)=false:=decide_eq_false hlast
   have hres:R=if (z2N ep1 (z1A (half D) L) D).1=0 then (0,(z2N ep1 (z1A (half D) L) D).2,⟨ep1,L,L.length,false⟩) else ((z2N ep1 (z1A (half D) L) D).1,(z2N ep1 (z1A (half D) L) D).2,{ G with dead:=true }):=by
    obtain⟨a1,a2,a3,a4⟩:=HE.out;rw[HR.out];unfold WM.reset;rw[Hg.out,if_neg (by simp),if_neg Hany.out,if_neg (by omega),a4];rfl
   have HRes:=hid hres;clear hres Same;go_wp2_with (at_builtin;refine z0A ?_;intro q hq);refine hhf.mono ?_;rintro e w2 ⟨rfl,rfl⟩;go_wp2_with (at_builtin;refine z0A ?_;intro q hq);obtain⟨R1,hR1⟩:=zX1 (lay ep1 (z1A (half D) L) 0 h D);have hgd:G.dead=false:=by have h:=Hg.out;unfold gone at h;simp only[Bool.or_eq_false_iff] at h;exact h.1
   have htwo:2≤h:=by rw[HE.out.2.2.1];exact Hok.out.two
   have hbF:¬ Fd1 b:=HL.out.apart b HL.out.wal.self;have hFl:=HL.out.disk.lt;have hbl1:=HL.out.wal.lt b HL.out.wal.self
   have hsmall:∀ x ∈ L,x.length≤1024:=fun x hx=>by
    have h1:=Hany.out;rw[Bool.not_eq_true,List.any_eq_false] at h1;have:=h1 x hx;simp at this;exact this
   have hfit:(flat L).length≤32 * half D:=by have:=HE.out;omega
   have HSm:=hid (zA1 hsmall hfit)
   have hfull:∀ wX,Keep (fun _=>False) w2 wX→Calls Tryz.prog 114 #[.pointer (some ⟨b,0,none⟩),.slice ao n c] wX fun e w'=>∃ ad8 c8,e = .returned (.slice ad8 nn c8)∧
     (w'.cell? ⟨b,0,none⟩=some (.pointer (some ⟨d,0,none⟩))∧w'.cell? ⟨b,1,none⟩=some (.int .u64 (G.ep:Nat)))∧Hid (Fresh w2 (.slice ad8 nn c8) (z1A (half D) L) w'∧nn≤c8):=by
    intro wX hX;have b0:=h0;rw[← World.cell?_of_block (hX.block _ hb2 id)] at b0;have hf:=zfW wX b d Fd1 D b0 ((HL.out.disk.keep Hf2.out.keep fun _ _ x=>x).keep hX fun _ _ x=>x) ao c L (((HL0.out w1 H1.out.2.1).keep Hf2.out.keep).keep hX) (by have:=HN.out;omega) HSm.out.1 HSm.out.2;rw[← HN.out] at hf;refine hf.mono ?_;rintro e w' ⟨v,rfl,hfr⟩;obtain⟨ad8,c8,hv,hc8,-⟩:=hfr.row.form;have hal:(z1A (half D) L).length=nn:=by rw[z1P HSm.out.2,HE.out.2.1]
    rw[hal] at hv hc8;subst hv;have hk:=hX.nx hfr.keep;exact⟨ad8,c8,rfl,⟨by rw[World.cell?_of_block (hk.block _ hb2 id)];exact h0,by rw[World.cell?_of_block (hk.block _ hb2 id)];exact h1⟩,hid ⟨hfr.since hX,hc8⟩⟩
   have hhalf2:Calls Tryz.prog 132 #[.pointer (some ⟨d,0,none⟩)] w2.drew fun e w'=>e = .returned (.int .i64 (h:Nat))∧w'=w2.drew:=by
    rw[HE.out.2.2.1];exact z3U w2.drew d Fd1 D ((HL.out.disk.keep Hf2.out.keep fun _ _ x=>x).keep (Keep.refl (fun _=>False) _).drew fun _ _ x=>x)
   have hhalf3:∀ wX,Keep (fun _=>False) w2 wX→Calls Tryz.prog 132 #[.pointer (some ⟨d,0,none⟩)] wX fun e w'=>e = .returned (.int .i64 (h:Nat))∧w'=wX:=fun wX hX=>by
    rw[HE.out.2.2.1];exact z3U wX d Fd1 D ((HL.out.disk.keep Hf2.out.keep fun _ _ x=>x).keep hX fun _ _ x=>x)
   obtain⟨h9,hh9⟩:=zX1 (h - 1);have t6:(h:Int) - 1=(h9:Int):=by omega
   have t7:=wi64 h9 (by omega)
   have hlay:∀ wX ad8 c8,Fresh w2 (.slice ad8 nn c8) (z1A (half D) L) wX∧nn≤c8→Calls Tryz.prog 115 #[.pointer (some ⟨b,0,none⟩),.int .u64 (ep1:Nat),.slice ad8 nn c8,.int .i64 0,.int .i64 (h9:Nat)] wX fun e w'=>e = .returned (.int .i64 R1.1)∧
     (w'.cell? ⟨b,0,none⟩=some (.pointer (some ⟨d,0,none⟩))∧w'.cell? ⟨b,1,none⟩=some (.int .u64 (G.ep:Nat)))∧Hid (RSt w1 b d G.ep G.safe (.slice adl G.l.length cl) (decide (R1.1≠0)) Fd1 R1.2 w'):=by
    rintro wX ad8 c8 ⟨hfr,hc8⟩;have hX:=hfr.keep;have hal:(z1A (half D) L).length=nn:=by rw[z1P HSm.out.2,HE.out.2.1]
    have hk1X:=Hf2.out.keep.nx hX;have hcs:Cells wX ad8 nn 1 (z0C (z1A (half D) L)):=by have h:=Cells.of_row (show Row wX _ 1 (.slice ad8 nn c8) nn _ from hal ▸ hfr.row);exact h
    have hla:=ziU wX b d G.ep ep1 G.safe 0 h nn c8 (.slice adl G.l.length cl) G.dead Fd1 D (z1A (half D) L) ad8 (hk1X.get Hhead.out id) (HL.out.disk.keep hk1X fun _ _ x=>x) hbF hcs
     (fun x hx=>by
      have h1:=hfr.own x.block (by rw[hx];rfl);have h2:=Hf2.out.keep.size
      exact⟨fun y=>by have:=hFl _ y;omega,by omega⟩) HE.out.2.1 hc8 (Nat.zero_le _) (by have:=HE.out.2.2.1;omega) (h9:Int) (by omega) (by omega)
    rw[Nat.sub_zero,← hR1] at hla;refine hla.mono ?_;rintro e w' ⟨rfl,⟨Fd',hD',hF'⟩,hk',hh'⟩;rw[hgd,Bool.false_or] at hh';obtain⟨z0,z1,-⟩:=z1L (show w'.heap[b]?=some (.cells #[_,_,_,_,_] _ (0,0)) from hh');exact⟨rfl,⟨z0,z1⟩,hid ⟨hk1X.next hk' (fun _ _ x=>x.elim) (fun _ _ x=>x),⟨Fd',hD',fun k x=>(hF' k x).imp id fun y=>Nat.le_trans hk1X.size y⟩,hh'⟩⟩
   have HFull:=hid hfull;have HHalf:=hid hhalf3;have HLay:=hid hlay;have HR1:=hid hR1;have HGd:=hid hgd;clear hfull hhalf2 hhalf3 hlay hR1 hgd hsmall hfit hh9 hhf
   go_cut [7] (fun s7 wx=>s7 = .int .i64 R1.1∧Hid (RSt w1 b d G.ep G.safe (.slice adl G.l.length cl) (decide (R1.1≠0)) Fd1 R1.2 wx))
   case first=>
    go_region_held3 (fun w'=>w'.cell? ⟨b,0,none⟩=some (.pointer (some ⟨d,0,none⟩))∧w'.cell? ⟨b,1,none⟩=some (.int .u64 (G.ep:Nat)))
     (first | exact⟨h0,h1⟩ | assumption)
     (first
      | (go_simp;go_at_call 114;refine(HFull.out _ (Keep.refl _ _).drew).mono ?_;rintro e w3 ⟨ad8,c8,rfl,hz3,HF3⟩;go_simp)
      | (go_simp;go_at_call 132;refine(HHalf.out _ (by first | exact HF3.out.1.keep | exact(Keep.refl _ _).drew)).mono ?_;rintro e w4 ⟨rfl,rfl⟩;go_simp)
      | (go_simp;go_at_call 115;refine(HLay.out _ _ _ HF3.out).mono ?_;rintro e w5 ⟨rfl,hz5,HS5⟩;go_simp))
    all_goals (go_wp2_with (at_builtin;refine z0A ?_;intro q hq);go_meet;exact⟨rfl,HS5⟩)
   case rest=>
    obtain⟨rfl,HS⟩:=hcut;obtain⟨TW,hTW⟩:=zX1 (z2N ep1 (z1A (half D) L) D);have hTl:TW.2.safe.length=D.safe.length:=by rw[hTW,z8K]
    have hTe:TW=if R1.1≠0 then R1 else if (DM.sync R1.2).1≠0 then DM.sync R1.2 else
      if (DM.write (DM.sync R1.2).2 ((ep1 % 2:Nat):Int) (z0O ep1)).1≠0 then DM.write (DM.sync R1.2).2 ((ep1 % 2:Nat):Int) (z0O ep1) else DM.sync (DM.write (DM.sync R1.2).2 ((ep1 % 2:Nat):Int) (z0O ep1)).2:=by rw[hTW,HR1.out,HE.out.2.2.1];rfl
    have hR1w:R1.2.waits.length≤703000:=by rw[HR1.out];have:=z6Q ep1 (z1A (half D) L) h 0 D;omega
    rw[← hTW] at HRes
    have bad:∀ (c:Int) (DX:Dk) (wX:World) (dd:Bool),c≠0→TW=(c,DX)→RSt w1 b d G.ep G.safe (.slice adl G.l.length cl) dd Fd1 DX wX→c=R.1∧RLogTo b d F Fd w R.2.1 R.2.2 (wX.setCell ⟨b,4,none⟩ (.bool true)):=by
     intro c DX wX dd hc hT hst;have hRR:R=(c,DX,{ G with dead:=true }):=by rw[HRes.out,hT,if_neg hc]
     rw[hRR];rw[hT] at hTl;refine⟨rfl,RLogTo.step H1.out.2.1 H1.out.2.2.1 H1.out.2.2.2 ?_⟩;obtain⟨Fd',hD',hF'⟩:=hst.disk;have hFb:¬ Fd' b:=fun x=>(hF' b x).elim hbF fun y=>by omega
     have hk4:Keep (fun k=>k=b) wX (wX.setCell ⟨b,4,none⟩ (.bool true)):=kst;have hkk:Keep (fun k=>Fd1 k∨k=b) w1 (wX.setCell ⟨b,4,none⟩ (.bool true)):=hst.keep.next hk4 (fun _ _ x=>x) (fun _ _ x=>.inr x)
     have hw:RWalIs (wX.setCell ⟨b,4,none⟩ (.bool true)) b d F1 (half D) { G with dead:=true } (.slice adl G.l.length cl) vs:=
      HL.out.wal.head2 hkk (fun k x y=>y.elim (fun z=>absurd z (HL.out.apart k x)) id) rfl (by rw[z0B hst.head 4 (.bool true)];rfl) (HL.out.wal.ok.die true)
     rw[← z2Q hTl] at hw;refine⟨F1,Fd',⟨_,vs,hw,hD'.keep hk4 fun k x y=>by subst y;exact hFb x,fun k x y=>?_⟩,hkk.mono fun k _ x=>?_,fun _ x=>.inl x,hF'⟩
     ·rcases hF' k y with z | z
      ·exact HL.out.apart k x z
      ·have:=HL.out.wal.lt k x;omega
     ·rcases x with x | x
      ·exact .inr x
      ·subst x;exact .inl HL.out.wal.self
    have Bad:=hid bad;have HTe:=hid hTe;have HTl:=hid hTl;clear bad hTe hTl hTW;clear h0 h1 h2 h3 h4 hf;obtain⟨h0,h1,h2,h3,h4,hf,hbc⟩:=z1L (show wc.heap[b]?=some (.cells #[_,_,_,_,_] _ (0,0)) from HS.out.head)
    by_cases r0:R1.1=0
    rotate_left
    ·have hB:=Bad.out R1.1 R1.2 wc _ r0 (by rw[HTe.out,if_pos r0]) HS.out
     have HB:=hid hB;have u1:(R1.1 == 0)=false:=by simp[r0]
     have u2:(R1.1 != 0)=true:=by simp[r0]
     have u3:decide (R1.1=0)=false:=by simp[r0]
     clear hB r0;go_wp2_with (at_builtin;refine z0A ?_;intro q hq);go_ret;rw[← HB.out.1];exact⟨rfl,HB.out.2⟩
    have hS0:RSt w1 b d G.ep G.safe (.slice adl G.l.length cl) false Fd1 R1.2 wc:=by have h:=HS.out;rw[show decide (R1.1≠0)=false by simp[r0]] at h;exact h
    have HTa:=hid (show TW=if (DM.sync R1.2).1≠0 then DM.sync R1.2 else
      if (DM.write (DM.sync R1.2).2 ((ep1 % 2:Nat):Int) (z0O ep1)).1≠0 then DM.write (DM.sync R1.2).2 ((ep1 % 2:Nat):Int) (z0O ep1) else DM.sync (DM.write (DM.sync R1.2).2 ((ep1 % 2:Nat):Int) (z0O ep1)).2 by rw[HTe.out,if_neg (by simp[r0])])
    obtain⟨Fd2,hD2,hF2⟩:=hS0.disk;have hsy:=zeE wc d Fd2 R1.2 hD2 (by omega);obtain⟨Y,hY⟩:=zX1 (DM.sync R1.2);have hYw:Y.2.waits.length≤703000:=by rw[hY];have:=z5L R1.2;omega
    rw[← hY] at HTa hsy;have HS0:=hid hS0;have HF2:=hid hF2;rw[r0];clear hY hS0 hF2 hD2 HTe HS r0;go_wp2_with (at_builtin;refine z0A ?_;intro q hq);refine hsy.mono ?_;rintro e w3 ⟨rfl,ht3⟩
    have hS3:RSt w1 b d G.ep G.safe (.slice adl G.l.length cl) false Fd1 Y.2 w3:=by
     obtain⟨F3,g1,g2,g3⟩:=ht3;have hFb:¬ Fd2 b:=fun x=>(HF2.out b x).elim hbF fun y=>by omega
     exact⟨HS0.out.keep.next g2 (fun _ _ x=>x) (fun k hk x=>(HF2.out k x).elim .inl fun y=>by omega),⟨F3,g1,fun k x=>(g3 k x).elim (HF2.out k) fun y=>.inr (Nat.le_trans HS0.out.keep.size y)⟩,g2.get HS0.out.head hFb⟩
    have HS3:=hid hS3;clear ht3 h0 h1 h2 h3 h4 hf;obtain⟨h0,h1,h2,h3,h4,hf,hb3⟩:=z1L (show w3.heap[b]?=some (.cells #[_,_,_,_,_] _ (0,0)) from hS3.head);clear hS3
    by_cases y0:Y.1=0
    rotate_left
    ·have hB:=Bad.out Y.1 Y.2 w3 _ y0 (by rw[HTa.out,if_pos y0]) HS3.out
     have HB:=hid hB;have u1:(Y.1 == 0)=false:=by simp[y0]
     have u2:(Y.1 != 0)=true:=by simp[y0]
     have u3:decide (Y.1=0)=false:=by simp[y0]
     clear hB y0;go_wp2_with (at_builtin;refine z0A ?_;intro q hq);go_ret;rw[← HB.out.1];exact⟨rfl,HB.out.2⟩
    have HTb:=hid (show TW=if (DM.write Y.2 ((ep1 % 2:Nat):Int) (z0O ep1)).1≠0 then DM.write Y.2 ((ep1 % 2:Nat):Int) (z0O ep1) else DM.sync (DM.write Y.2 ((ep1 % 2:Nat):Int) (z0O ep1)).2 by rw[HTa.out,if_neg (by simp[y0])]);clear HTa;rw[y0];go_wp2_with (at_builtin;refine z0A ?_;intro q hq);refine(z6I w3 ep1 (by omega)).mono ?_;rintro e w4 ⟨v4,rfl,hf4⟩;obtain⟨ad4,c4,rfl,-⟩:=hf4.row.form;have hl4:=z5E ep1 (by omega);have HF4:=hid hf4;clear hf4;go_wp2_with (at_builtin;refine z0A ?_;intro q hq);refine(zkD w4 1 ad4 (z0I ep1).length c4 (z0I ep1) (Cells.of_row HF4.out.row) (by omega)).mono ?_;rintro e w5 ⟨v5,rfl,hf5⟩;obtain⟨ad5,c5,rfl,-⟩:=hf5.row.form;obtain⟨ff,hff⟩:=zX1 ((frame 1 (z0I ep1)).length);have hff2:ff≤20:=by rw[hff,z0V];omega
    rw[← hff];have hf35:Fresh w3 (.slice ad5 ff c5) (frame 1 (z0I ep1) ++ List.replicate 0 0) w5:=by rw[hff];simpa using hf5.since HF4.out.keep
    have H05:=hid hf35;have Hff:=hid hff;clear hf5 hf35 hff;go_wp2_with (at_builtin;refine z0A ?_;intro q hq)
    go_loopw [8] (fun ov wr=>∃ (j:Nat) (ad:Option Addr) (cv t:Nat),t=ff+j∧t≤32∧ov = .slice ad t cv∧Hid (Fresh w3 (.slice ad t cv) (frame 1 (z0I ep1) ++ List.replicate j 0) wr)) (fun ov _=>32 - (match ov with | .slice _ n _=>n | _=>0))
    case atStart=>exact⟨0,ad5,c5,ff,rfl,by omega,rfl,H05⟩
    case round=>
     clear H05;obtain⟨j,ad,cv,t,ht,htn,rfl,HI⟩:=hrel;have Ht:=hid ht;clear ht
     by_cases htl:t<32
     ·have s1:(t:Int)<32:=by omega
      go_wp2_with (at_builtin;refine z0A ?_;intro q hq)
      (refine hq.out ?_;clear hq q)
      have hnew:=heap_alloc_new wr (.cells #[.int .u8 0] 5);have hk6:=kal wr (.cells #[.int .u8 0] 5);obtain⟨w6,hw6⟩:=zX1 (wr.alloc (.cells #[.int .u8 0] 5));rw[← hw6] at hnew hk6 ⊢;clear hw6
      have hc1:Cells w6 (some ⟨wr.heap.size,0,none⟩) 1 1 (z0C [0]):=by
       have:=Cells.one (x:=0) (by decide) (show w6.heap[wr.heap.size]?=some (.cells #[.int .u8 ((0:Nat):Int)] 5 (0,0)) from hnew);exact this
      refine wpList_plain rfl (fun K hK=>?_);refine z0H (r:=[0]) _ _ rfl rfl (HI.out.later hk6) (some ⟨wr.heap.size,0,none⟩) 1 1 rfl hc1 (by have:=Hff.out;have:=Ht.out;simp;omega) ?_;intro v7 w7 hf7 _;have e7:(frame 1 (z0I ep1) ++ List.replicate j 0) ++ [0]=frame 1 (z0I ep1) ++ List.replicate (j+1) 0:=by rw[List.append_assoc,List.replicate_succ']
      rw[e7] at hf7;obtain⟨ad7,c7,hv7,-⟩:=hf7.row.form;have hl7:(frame 1 (z0I ep1) ++ List.replicate (j+1) 0).length=t+1:=by have:=Hff.out;have:=Ht.out;simp;omega
      rw[hl7] at hv7;subst hv7;refine hK _ _ ?_;clear hK K;have HZ:=hid hf7;clear hf7 e7 hl7 hc1 hnew hk6;go_wp2_with (at_builtin;refine z0A ?_;intro q hq);go_roundw
      case rel=>exact⟨j+1,ad7,c7,t+1,by have:=Ht.out;omega,by omega,rfl,HZ⟩
      case measure=>simp;omega
     ·obtain rfl:t=32:=by omega
      have s1:¬ ((32:Nat):Int)<32:=by omega
      have hsec:frame 1 (z0I ep1) ++ List.replicate j 0=z0O ep1:=by
       unfold z0O;have h2:=Hff.out;have h3:=Ht.out;rw[← h2,show j=32 - ff by omega]
      have hfr:=HI.out;rw[hsec] at hfr;have hSr:=HS3.out.later hfr.keep;obtain⟨Fdr,hD3,hFr⟩:=HS3.out.disk;have hDr:=hD3.keep hfr.keep (fun _ _ x=>x);have hD3l:=hD3.lt;clear h0 h1 h2 h3 h4 hf hsec;obtain⟨h0,h1,h2,h3,h4,hf,hbr⟩:=z1L (show wr.heap[b]?=some (.cells #[_,_,_,_,_] _ (0,0)) from hSr.head);have j0:=fun s:Later wr=>s.cell h0;have j1:=fun s:Later wr=>s.cell h1;obtain⟨m,hm⟩:=zX1 (ep1 % 2);have q3:((ep1:Int) % 2)=(m:Int):=by omega
      have q4:((ep1:Int).tmod 2)=(m:Int):=by rw[Int.tmod_eq_emod_of_nonneg (by omega)];exact q3
      have q5:=wi64 m (by omega);have hs13:=HS3.out.keep.size
      have hW:=fun s:Later wr=>zbG s.val d Fdr Y.2 (m:Int) ad 32 cv (z0O ep1) (hDr.keep s.keep fun _ _ x=>x)
       ((by have h:=Cells.of_row (show Row wr _ 1 (.slice ad 32 cv) 32 _ from(z7Q ep1 (by omega)) ▸ hfr.row);exact h:Cells wr ad 32 1 _).later s)
       (fun _ x hx y=>by
        have k1:=hfr.own x.block (by rw[hx];rfl);have:=hD3l _ y
        omega) (by omega) (by decide) (by omega)
      obtain⟨Z,hZ⟩:=zX1 (DM.write Y.2 (m:Int) (z0O ep1));have hZw:Z.2.waits.length≤703002:=by rw[hZ];have:=z2K Y.2 (m:Int) (z0O ep1);omega
      simp only[← hZ] at hW;have hTz:TW=if Z.1≠0 then Z else DM.sync Z.2:=by rw[HTb.out,← hm,← hZ]
      have HTz:=hid hTz;have HW:=hid hW;have HSr:=hid hSr;have HFr:=hid hFr;clear hW hZ hTz hSr hFr hDr hD3 hD3l hfr hm HTb h0 h1 h2 h3 h4 hf;go_wp2_with (at_builtin;refine z0A ?_;intro q hq)
      (refine z1M 12 (by kernel_rfl) (by kernel_rfl) ?_;simp only[List.take_succ_cons,List.take_zero,List.drop_succ_cons,List.drop_zero];(repeat (go_big_quiet_step ((fail))));refine wpQuiet_nil ?_;rintro _ ⟨sq,rfl⟩)
      clear j0 j1;go_wp2_with (at_builtin;refine z0A ?_;intro q hq);refine(HW.out sq).mono ?_;rintro e w6 ⟨rfl,ht6⟩
      have hS6:RSt w1 b d G.ep G.safe (.slice adl G.l.length cl) false Fd1 Z.2 w6:=by
       obtain⟨F3,g1,g2,g3⟩:=ht6;have hsq:=HSr.out.later sq.keep;have hFb:¬ Fdr b:=fun x=>(HFr.out b x).elim hbF fun y=>by omega
       exact⟨hsq.keep.next g2 (fun _ _ x=>x) (fun k hk x=>(HFr.out k x).elim .inl fun y=>by omega),⟨F3,g1,fun k x=>(g3 k x).elim (HFr.out k) fun y=>.inr (Nat.le_trans hsq.keep.size y)⟩,g2.get hsq.head hFb⟩
      have HS6:=hid hS6;obtain⟨h0,h1,h2,h3,h4,hf,hb6⟩:=z1L (show w6.heap[b]?=some (.cells #[_,_,_,_,_] _ (0,0)) from hS6.head);clear hS6 ht6
      by_cases z0:Z.1=0
      rotate_left
      ·have hB:=Bad.out Z.1 Z.2 w6 _ z0 (by rw[HTz.out,if_pos z0]) HS6.out
       have HB:=hid hB;have u1:(Z.1 == 0)=false:=by simp[z0]
       have u2:(Z.1 != 0)=true:=by simp[z0]
       have u3:decide (Z.1=0)=false:=by simp[z0]
       clear hB z0;go_wp2_with (at_builtin;refine z0A ?_;intro q hq);go_ret;rw[← HB.out.1];exact⟨rfl,HB.out.2⟩
      obtain⟨X,hX⟩:=zX1 (DM.sync Z.2);have HTx:=hid (show TW=X by rw[HTz.out,if_neg (by simp[z0]),hX]);obtain⟨Fd6,hD6,hF6⟩:=HS6.out.disk;have hsy:=zeE w6 d Fd6 Z.2 hD6 (by omega);rw[← hX] at hsy;have HF6:=hid hF6;rw[z0];clear hX hF6 hD6 HTz z0;go_wp2_with (at_builtin;refine z0A ?_;intro q hq);refine hsy.mono ?_;rintro e w8 ⟨rfl,ht8⟩
      have hS8:RSt w1 b d G.ep G.safe (.slice adl G.l.length cl) false Fd1 X.2 w8:=by
       obtain⟨F3,g1,g2,g3⟩:=ht8;have hFb:¬ Fd6 b:=fun x=>(HF6.out b x).elim hbF fun y=>by omega
       exact⟨HS6.out.keep.next g2 (fun _ _ x=>x) (fun k hk x=>(HF6.out k x).elim .inl fun y=>by omega),⟨F3,g1,fun k x=>(g3 k x).elim (HF6.out k) fun y=>.inr (Nat.le_trans HS6.out.keep.size y)⟩,g2.get HS6.out.head hFb⟩
      have HS8:=hid hS8;clear h0 h1 h2 h3 h4 hf;obtain⟨h0,h1,h2,h3,h4,hf,hb8⟩:=z1L (show w8.heap[b]?=some (.cells #[_,_,_,_,_] _ (0,0)) from hS8.head);clear hS8 ht8
      by_cases x0:X.1=0
      rotate_left
      ·have hB:=Bad.out X.1 X.2 w8 _ x0 (by rw[HTx.out]) HS8.out
       have HB:=hid hB;have u1:(X.1 == 0)=false:=by simp[x0]
       have u2:(X.1 != 0)=true:=by simp[x0]
       have u3:decide (X.1=0)=false:=by simp[x0]
       clear hB x0;go_wp2_with (at_builtin;refine z0A ?_;intro q hq);go_ret;rw[← HB.out.1];exact⟨rfl,HB.out.2⟩
      have hRR:R=(0,X.2,⟨ep1,L,L.length,false⟩):=by rw[HRes.out,HTx.out,if_pos x0]
      have hXl:X.2.safe.length=D.safe.length:=by have:=HTl.out;rw[HTx.out] at this;exact this
      have HRR:=hid (zA1 hRR hXl);rw[x0];clear hRR hXl x0;go_wp2_with (at_builtin;refine z0A ?_;intro q hq);have hk9:Keep (fun k=>k=b) w8 ((w8.setCell ⟨b,1,none⟩ (.int .u64 (ep1:Nat))).setCell ⟨b,2,none⟩ (.slice none 0 0)):=by refine Keep.setCell (Keep.setCell (Keep.refl _ _) (.inl ?_) _) (.inl ?_) _ <;> rfl
      have hh9:=z0B (z0B HS8.out.head 1 (.int .u64 (ep1:Nat))) 2 (.slice none 0 0);obtain⟨w9,hw9⟩:=zX1 ((w8.setCell ⟨b,1,none⟩ (.int .u64 (ep1:Nat))).setCell ⟨b,2,none⟩ (.slice none 0 0));rw[← hw9] at hk9 hh9 ⊢;clear hw9 h0 h1 h2 h3 h4 hf;have H9:=hid (show RcRel w8 b d ep1 G.safe L 0 w9 from⟨⟨.slice none 0 0,[],hh9,Recs.nil _ _ _⟩,hk9⟩);clear hk9 hh9
      have hkw8:Keep (fun k=>F k∨Fd k) w w8:=H1.out.2.1.next HS8.out.keep (fun _ _ x=>x) (fun k hk x=>by
       rcases x with x | x
       ·rcases H1.out.2.2.2 k x with z | z
        ·exact .inr z
        ·omega
       ·subst x
        rcases H1.out.2.2.1 k HL.out.wal.self with z | z
        ·exact .inl z
        ·omega)
      have hLs8:∀ wX,Keep (fun k=>k=b) w8 wX→Lists wX ao L:=fun wX hX=>HL0.out wX (hkw8.next hX (fun _ _ x=>x) (fun k hk x=>by
        subst x
        rcases H1.out.2.2.1 k HL.out.wal.self with z | z
        ·exact .inl z
        ·omega))
      have HLs8:=hid hLs8;have Hkw8:=hid hkw8;clear hkw8 hLs8
      go_loopw [10] (fun iv wx=>∃ i:Nat,i≤n∧iv = .int .i64 i∧Hid (RcRel w8 b d ep1 G.safe L i wx)) (fun iv _=>n - (intOf iv).toNat)
      case atStart=>exact⟨0,Nat.zero_le _,rfl,H9⟩
      case round=>
       clear H9;obtain⟨i,hi,rfl,HI⟩:=hrel;obtain⟨vli,vsi,hhi,hri⟩:=HI.out.new;obtain⟨adi,ci,rfl,-⟩:=hri.row.form;have hl1:(L.take i).length=i:=by rw[List.length_take];have:=HN.out;omega
       rw[hl1] at hhi;obtain⟨h0,h1,h2,h3,h4,hf,hbi⟩:=z1L (show wr.heap[b]?=some (.cells #[_,_,_,_,_] _ (0,0)) from hhi);have HRi:=hid (zA1 hhi (zA1 hri hl1));clear hhi hri
       by_cases hin:i<n
       ·have s2:(i:Int)<(n:Int):=by omega
        have hil:i<L.length:=by have:=HN.out;omega
        obtain⟨adl2,ao',c',rfl,hc,hc2,hcs⟩:=(HLs8.out wr HI.out.keep) i hil;obtain⟨x,hx⟩:=zX1 (L[i]);have htk:L.take (i+1)=L.take i ++ [x]:=by rw[List.take_succ_eq_append_getElem hil,hx]
        have hxs:=HSm.out.1 x (by rw[hx];exact List.getElem_mem hil);rw[← hx] at hc hc2 hcs;obtain⟨mm,hmm⟩:=zX1 (x.length);rw[← hmm] at hc hc2 hcs hxs;have HX:=hid (zA1 hcs (zA1 hmm htk));clear hx htk hcs hmm hl1;go_wp2_with (at_builtin;refine z0A ?_;intro q hq);refine z0G [131] (by kernel_rfl) (by kernel_rfl) ?_
        repeat (first | (apply z0F (by rfl);(intro K w';go_simp;exact id)) | (apply z0J (by rfl);(intro K;go_simp;exact id)))
        refine z1Q (by rfl) (by rfl) (fun K hK=>?_);go_simp;refine(zaJ wr.drew ao' mm c' x (HX.out.1.keep (Keep.refl (fun _=>False) _).drew fun _ _ x=>x) (by omega)).mono ?_;rintro e w4 ⟨v4,rfl,hf4⟩;obtain⟨ad4,c4,hv4,-⟩:=hf4.row.form;rw[← HX.out.2.1] at hv4;subst hv4;go_simp;refine hK _ _ (Pre.of_keep hf4.keep) ?_;clear hK K;have HF4:=hid hf4;clear hf4 h0 h1 h2 h3 h4 hf
        (refine z1Q (by rfl) (by rfl) (fun K hK=>?_);go_simp;refine hK _ _ (Pre.push _ rfl) ?_;clear hK K)
        obtain⟨w5,hw5⟩:=zX1 (w4.alloc (.cells #[.slice ad4 mm c4] 29));have hnew5:w5.heap[w4.heap.size]?=some (.cells #[.slice ad4 mm c4] 29):=by rw[hw5];exact heap_alloc_new w4 _
        have hk45:Keep (fun _=>False) w4 w5:=by rw[hw5];exact(Keep.refl _ _).alloc _
        rw[← hw5];clear hw5;have hk35:Keep (fun _=>False) wr w5:=(HF4.out.keep.undrew).next hk45 (fun _ _ x=>x) (fun _ _ x=>x);have hr5:=HRi.out.2.1.keep hk35 (fun _ _ _ x=>x);have hr5row:=hr5.row;rw[HRi.out.2.2] at hr5row;have H5:=hid (zA1 hk45 (zA1 hk35 hr5));refine z0M (by rfl) (by rfl) (fun K hK=>?_)
        refine z0R z5P _ _ rfl rfl hr5row (some ⟨w4.heap.size,0,none⟩) 1 1 [.slice ad4 mm c4] rfl
         ⟨rfl,fun _=>⟨_,rfl,fun j u hu=>by rw[z0K,Nat.zero_add,cell_of_row _ _ _ _ _ _ hnew5];simpa using hu⟩⟩ (by intro u hu;simp at hu;subst hu;rfl) (by unfold maxLen;omega) (by omega) ?_
        intro v6 w6 hr6 hk6 hv6;obtain⟨ad6,c6,rfl,-⟩:=hr6.form;refine hK _ _ ?_;clear hK K;have hcase:∀ k,(Value.slice adi i ci).ownBlock=some k→(Value.slice adi (List.take i L).length ci).ownBlock=some k:=fun k e=>by rw[← e];exact z1H _ _ _ _
        have hh6:=hk6.get (hk35.get HRi.out.1 id) (fun e=>(hr5.own b (hcase b e)).2 rfl);obtain⟨h0,h1,h2,h3,h4,hf,hb6⟩:=z1L (show w6.heap[b]?=some (.cells #[_,_,_,_,_] _ (0,0)) from hh6);have H6:=hid (zA1 hr6 (zA1 hk6 (zA1 hv6 (zA1 hh6 hcase))));clear hk45 hk35 hr5 hr5row hnew5 hr6 hk6 hv6 hh6 hcase
        repeat (apply z0F (by rfl);(intro K w';go_simp;exact id))
        (refine z0M (by rfl) (by rfl) (fun K hK=>?_);go_simp;refine hK _ _ ?_;clear hK K)
        refine z0T ?_;have hk7:Keep (fun k=>k=b) w6 (w6.setCell ⟨b,2,none⟩ (.slice ad6 (i+1) c6)):=kst;have hh7:=z0B H6.out.2.2.2.1 2 (.slice ad6 (i+1) c6);obtain⟨w7,hw7⟩:=zX1 (w6.setCell ⟨b,2,none⟩ (.slice ad6 (i+1) c6));rw[← hw7] at hk7 hh7 ⊢;clear hw7 h0 h1 h2 h3 h4 hf
        have HZ:=hid (show RcRel w8 b d ep1 G.safe L (i+1) w7 by
         obtain⟨a1,a2,a3⟩:=HRi.out;obtain⟨k45,k35,r5⟩:=H5.out;obtain⟨r6,k6,v6o,hh6,hcase⟩:=H6.out;have s8r:=HI.out.keep.size;have s35:=k35.size;have s56:=k6.size;have s34:wr.heap.size≤w4.heap.size:=HF4.out.keep.undrew.size;have s45:=k45.size;have hxl:=HX.out.2.1;refine⟨⟨.slice ad6 (i+1) c6,vsi ++ [.slice ad4 mm c4],by rw[hh7];rfl,?_⟩,?_⟩
         ·rw[HX.out.2.2]
          refine(r5.push (F':=fun k=>w8.heap.size≤k) (l:=x) (HF4.out.row.keep k45 (fun _ _ x=>x) |> fun h=>by rw[← hxl] at h ⊢;exact h) (fun k e=>?_) (by rw[a3];exact r6) (k6.mono fun k _ x=>hcase k x) (fun k x=>x) (fun k e=>?_)).keep hk7 (fun k _ h2 h3=>h2 h3)
          ·have e1:wr.drew.heap.size≤k:=HF4.out.own k e
           have e1':wr.heap.size≤k:=e1;refine⟨by omega,by omega,fun e'=>?_⟩;have:=a2.row.lt e';omega
          ·rcases v6o with ⟨_,h0⟩ | ⟨k',h2,h3⟩
           ·omega
           ·rw[e] at h2;cases h2
            rcases h3 with h3 | h3
            ·exact .inl (hcase k h3)
            ·exact .inr ⟨by omega,by omega,by omega⟩
         ·refine((HI.out.keep.next k35 (H:=fun k=>k=b) (fun _ _ x=>x) (fun _ _ x=>x.elim)).next k6 (H:=fun k=>k=b) (fun _ _ x=>x) (fun k hk x=>?_)).next hk7 (fun _ _ x=>x) (fun _ _ x=>x)
          have:=(r5.own k (hcase k x)).1
          omega)
        clear hk7 hh7;go_wp2_with (at_builtin;refine z0A ?_;intro q hq);go_roundw
        case rel=>exact⟨i+1,by omega,by go_num,HZ⟩
        case measure=>simp[intOf];omega
       ·obtain rfl:n=i:=by omega
        have s2:¬ (n:Int)<(n:Int):=by omega
        clear hl1;go_wp2_with (at_builtin;refine z0A ?_;intro q hq);go_ret;obtain⟨a1,a2,a3⟩:=HRi.out;obtain⟨hRR,hXl⟩:=HRR.out;have hk7:Keep (fun k=>k=b) wr (wr.setCell ⟨b,3,none⟩ (.int .i64 (n:Nat))):=kst;have hh7:=z0B a1 3 (.int .i64 (n:Nat));obtain⟨w7,hw7⟩:=zX1 (wr.setCell ⟨b,3,none⟩ (.int .i64 (n:Nat)));rw[← hw7] at hk7 hh7 ⊢;rw[hRR];refine⟨rfl,RLogTo.step H1.out.2.1 H1.out.2.2.1 H1.out.2.2.2 ?_⟩;have htl:L.take n=L:=by rw[HN.out,List.take_length]
        rw[htl] at a2;have hk87:Keep (fun k=>k=b) w8 w7:=HI.out.keep.next hk7 (fun _ _ x=>x) (fun _ _ x=>x);obtain⟨Fd',hD',hF'⟩:=HS8.out.disk;have hD8:=hD'.lt;have hFb:¬ Fd' b:=fun x=>(hF' b x).elim hbF fun y=>by omega
        have s18:=HS8.out.keep.size;have s8r:=HI.out.keep.size;have s87:=hk87.size;have hok:LgOk (half D) ⟨ep1,L,L.length,false⟩:=⟨HSm.out.2,Hok.out.two,Hok.out.few,by have:=of_decide_eq_false t5;show ep1<_;omega,HSm.out.1,Nat.le_refl _⟩
        have hw:RWalIs w7 b d (fun k=>k=b∨(w8.heap.size≤k∧k<w7.heap.size)) (half D) ⟨ep1,L,L.length,false⟩ (.slice adi (List.take n L).length ci) vsi:=by
         rw[htl];refine⟨?_,?_,.inl rfl,fun k x=>?_,hok⟩
         ·rw[hh7,← HN.out];rfl
         ·refine(a2.bound.mono (F':=fun k=>k=b∨(w8.heap.size≤k∧k<w7.heap.size)) (A':=fun k=>k=b) fun k h1 h2=>⟨.inr ⟨h1.1,by have:=hk7.size;omega⟩,h2⟩).keep hk7 (fun k _ h2 h3=>h2 h3)
         ·rcases x with x | x
          ·omega
          ·exact x.2
        rw[← z2Q hXl] at hw;refine⟨_,Fd',⟨_,_,hw,hD'.keep hk87 fun k x y=>by subst y;exact hFb x,fun k x y=>?_⟩,?_,fun k x=>?_,hF'⟩
        ·rcases x with x | x
         ·subst x;exact hFb y
         ·have:=hD8 k y;omega
        ·refine HS8.out.keep.next hk87 (fun k _ x=>?_) fun k _ x=>?_
         ·rcases x with x | x
          ·exact .inr x
          ·subst x;exact .inl HL.out.wal.self
         ·subst x;exact .inl HL.out.wal.self
        ·rcases x with x | x
         ·subst x;exact .inl HL.out.wal.self
         ·right;omega
end
section
open Go.RowKit
open DM BM WM
theorem z9Z (B:List UInt8) (i:Nat) (h:32 * i+32≤B.length):(z0Q B i).length=32:=by unfold z0Q;rw[List.length_take,List.length_drop];omega
theorem znE (B:List UInt8) (i k:Nat) (x:UInt8) (hk:k<32) (_h:32 * i+32≤B.length):z0Q (B.set (32 * i+k) x) i=(z0Q B i).set k x:=by
 unfold z0Q;rw[List.drop_set,if_neg (by omega),List.take_set];congr 1;omega
theorem z3N (B:List UInt8) (i k:Nat) (hk:k<32):(z0Q B i).getD k 0=B.getD (32 * i+k) 0:=by
 unfold z0Q;rw[List.getD_eq_getElem?_getD,List.getElem?_take,if_pos hk,List.getElem?_drop,List.getD_eq_getElem?_getD]
theorem zlP (B:List UInt8) (en i:Nat) (h:32 * i+32≤B.length):z0Q (mixA B en (32 * i)) i=z0Q B i:=by
 unfold z0Q mixA;have hl:((clean B en).take (32 * i)).length=32 * i:=by rw[List.length_take,z2S];omega
 rw[List.drop_append,hl,Nat.sub_self,List.drop_of_length_le (by omega),List.nil_append,List.drop_zero]
def WipedTo (w:World) (b d:Nat) (Fd:Nat→Prop) (Y:Int×Dk) (e:Ending) (w':World):Prop:=
 e = .returned (.tuple #[if Y.1=0 then .pointer (some ⟨b,0,none⟩) else .pointer none,.int .i64 Y.1])∧RefTo d Fd w Y.2 w'
structure WpRel (w:World) (d ep h:Nat) (Fd:Nat→Prop) (D:Dk) (B:List UInt8) (en i:Nat) (wf:Bool) (wr:World):Prop where
 ex:∃ F' D',WM.wipe ep B en 0 h false D=WM.wipe ep B en i (h - i) wf D'∧RefAt wr d F' D'∧(∀ k,F' k→Fd k∨w.heap.size≤k)∧D'.safe.length=D.safe.length∧D'.waits.length≤D.waits.length+i
 keep:Keep Fd w wr
theorem zkT (w:World) (b d ep en sf n c:Nat) (vl:Value) (dead:Bool) (Fd:Nat→Prop) (D:Dk) (B:List UInt8) (ao:Option Addr) (H:w.heap[b]?=some (.cells (z1V d ep vl sf dead) 119 (0,0)))
  (hD:RefAt w d Fd D) (hb:¬ Fd b) (hsrc:Cells w ao n 1 (z0C B)) (hap:∀ x,ao=some x→¬ Fd x.block) (hn:n=32 * half D) (hnc:n≤c) (_hen:en≤n) (hfew:D.waits.length≤800000) :
  Calls Tryz.prog 97 #[.pointer (some ⟨b,0,none⟩),.slice ao n c,.int .i64 (en:Nat)] w (WipedTo w b d Fd (z6H ep B en D)):=by
 have hfewD:=hD.ok.few;have hBl:B.length=n:=by have:=hsrc.1;rw[z0D] at this;omega
 obtain⟨h,hhd⟩:=zX1 (half D);have hh1023:h≤1023:=by rw[hhd];unfold half;omega
 obtain⟨Y,hY⟩:=zX1 (z6H ep B en D);obtain⟨Z,hZ⟩:=zX1 (WM.wipe ep B en 0 h false D);have hYZ:Y=if Z.1=0∧Z.2.1=true then DM.sync Z.2.2 else (Z.1,Z.2.2):=by rw[hY,hZ,hhd];rfl
 rw[← hY];obtain⟨Post,hPost⟩:=zX1 (WipedTo w b d Fd Y);rw[← hPost]
 have bad:∀ (cc:Int) (DX:Dk) (wX:World),cc≠0→Y=(cc,DX)→RefTo d Fd w DX wX→Post (.returned (.tuple #[.pointer none,.int .i64 cc])) wX:=fun cc DX wX h0 h1 h2=>by
  rw[hPost,h1];exact⟨by rw[if_neg h0],h2⟩
 have good:∀ (DX:Dk) (wX:World),Y=(0,DX)→RefTo d Fd w DX wX→Post (.returned (.tuple #[.pointer (some ⟨b,0,none⟩),.int .i64 0])) wX:=fun DX wX h1 h2=>by
  rw[hPost,h1];exact⟨by rw[if_pos rfl],h2⟩
 have Bad:=hid bad;have Good:=hid good;have HYZ:=hid (zA1 hYZ hZ);have HH:=hid (zA1 H (zA1 hsrc (zA1 hap (zA1 hn (zA1 hBl hhd)))));have H0:=hid (show WpRel w d ep h Fd D B en 0 false w from⟨⟨Fd,D,by rw[Nat.sub_zero],hD,fun _ x=>.inl x,rfl,by omega⟩,Keep.refl _ _⟩);have hblt:=z0N H;have hn2:n≤40000:=by omega
 clear bad good hYZ hZ hY hPost H hsrc hap hn hBl hhd hD;go_enter Tryz.func97,Tryz.ntmps97;go_wp2_with (at_builtin;refine z0A ?_;intro q hq)
 go_loopw [8,9,10,11,12,13] (fun fv iv _ _ _ _ wr=>∃ (i:Nat) (wf:Bool),i≤h∧iv = .int .i64 i∧fv = .bool wf∧Hid (WpRel w d ep h Fd D B en i wf wr)) (fun _ iv _ _ _ _ _=>h - (intOf iv).toNat)
 case atStart=>exact⟨0,false,Nat.zero_le _,rfl,rfl,H0⟩
 case round=>
  clear H0;obtain⟨i,wf,hi,rfl,rfl,HI⟩:=hrel;obtain⟨F',D',hl,hD',hF',hs',hw'⟩:=HI.out.ex;have hk:=HI.out.keep;have hh:=hk.get HH.out.1 hb;obtain⟨i0,i1,i2,i3,i4,if1,ib1⟩:=z1L (show wr.heap[b]?=some (.cells #[_,_,_,_,_] _ (0,0)) from hh);have hhf:=z3U wr d F' D' hD';rw[z2Q hs',← HH.out.2.2.2.2.2] at hhf;have HX:=hid (zA1 hl (zA1 hD' (zA1 hF' (zA1 hs' (zA1 hw' (zA1 hk hh))))));clear hl hD' hF' hs' hw' hk hh
  by_cases hih:i<h
  ·have s1:(i:Int)<(h:Int):=by omega
   obtain⟨p,hp⟩:=zX1 (32 * i);have g3:32 * (i:Int)=(p:Int):=by omega
   have g4:=wi64 p (by omega);obtain⟨p2,hp2⟩:=zX1 (p+32);have g5:(p:Int)+32=(p2:Int):=by omega
   have g6:=wi64 p2 (by omega);obtain⟨hH0,hsrc,hap,hn,hBl,hhd⟩:=HH.out;have hpn:p2≤n:=by omega
   have hsl:∀ w,(Instr.sliceAt 29 (.slice ao n c) (some (.int .i64 (p:Int))) (some (.int .i64 (p2:Int))) none).run Tryz.prog w = .ok (.slice (z1C ao c p 1) 32 (c - p)) w:=fun w=>by
    have h:=z1O (P:=Tryz.prog) z0U ao n c .i64 .i64 p p2 (by omega) (by omega) w;rw[show p2 - p=32 by omega] at h;exact h
   have hsrcr:=hsrc.keep HX.out.2.2.2.2.2.1 (fun x hx=>hap x hx);have hcs:=(Cells.tail hsrcr p (by omega) hnc (by decide)).take 32 (by omega)
   have hsec:List.take (32 * 1) (List.drop (p * 1) (z0C B))=z0C (z0Q B i):=by
    unfold z0Q;simp[z0C,List.map_take,List.map_drop,hp]
   rw[hsec] at hcs;have hcopy:=zaJ wr (z1C ao c p 1) 32 (c - p) (z0Q B i) hcs (by decide);have hsl32:=z9Z B i (by omega);have HP:=hid (zA1 hp (zA1 hpn (zA1 hBl hsl32)));generalize z1C ao c p 1=ta at *;clear hp hp2 hH0 hsrc hap hn hBl hhd hsrcr hcs hsec hsl32 hpn;go_wp2_with (at_builtin;refine z0A ?_;intro q hq);refine hhf.mono ?_;rintro e w2 ⟨rfl,rfl⟩;go_wp2_with (at_builtin;refine z0A ?_;intro q hq);refine hcopy.mono ?_;rintro e w3 ⟨v3,rfl,hf3⟩;have hr3:=hf3.row;rw[HP.out.2.2.2] at hr3;obtain⟨gs,cs,cur,fz,rfl,-⟩:=hr3.some (by decide);have hgs:=hf3.own gs rfl;have HF3:=hid hf3;have R0:=hid (show Row w3 5 1 (.slice (some ⟨gs,0,none⟩) 32 cs) 32 (z0C (z0Q (mixA B en (32 * i+0)) i))∧Keep (fun k=>k=gs) w3 w3 from⟨by rw[Nat.add_zero,zlP B en i (by have:=HP.out;omega)];exact hr3,Keep.refl _ _⟩);clear hf3 hr3 hcopy;go_wp2_with (at_builtin;refine z0A ?_;intro q hq)
   go_loopw [10,12] (fun dv kv wx=>∃ k:Nat,k≤32∧kv = .int .i64 k∧dv = .bool (z3O B en i k)∧Hid (Row wx 5 1 (.slice (some ⟨gs,0,none⟩) 32 cs) 32 (z0C (z0Q (mixA B en (32 * i+k)) i))∧Keep (fun k=>k=gs) w3 wx)) (fun _ kv _=>32 - (intOf kv).toNat)
   case atStart=>exact⟨0,Nat.zero_le _,rfl,rfl,R0⟩
   case round=>
    clear R0;obtain⟨k,hk,rfl,rfl,HK⟩:=hrel
    by_cases hk32:k<32
    ·have s2:(k:Int)<32:=by omega
     obtain⟨q,hq⟩:=zX1 (p+k);have q1:(p:Int)+(k:Int)=(q:Int):=by omega
     have q3:=wi64 q (by have:=HP.out;omega);obtain⟨u,hu⟩:=zX1 (B.getD q 0);have hrow:=HK.out.1;have hqi:32 * i+k=q:=by have:=HP.out;omega
     have hsm:32 * i+32≤(mixA B en q).length:=by rw[z5T];have:=HP.out;omega
     rw[hqi] at hrow
     have hc:wr.cell? ⟨gs,k,none⟩=some (.int .u8 (u.toNat:Int)):=by
      rw[hrow.cell k (by omega)];have hl:=z9Z (mixA B en q) i hsm;have hg:=z3N (mixA B en q) i k hk32;rw[hqi,z8J B en q q (Nat.le_refl _) (by have:=HP.out;omega),← hu,List.getD_eq_getElem?_getD,List.getElem?_eq_getElem (by omega)] at hg;simp only[Option.getD_some] at hg;rw[z0C,List.getElem?_map,List.getElem?_eq_getElem (by omega),hg];rfl
     have hfz:=hrow.frozen k (by omega);have hu256:=u.toNat_lt;have hu0:u=0↔u.toNat=0:=⟨fun h=>by rw[h];rfl,fun h=>UInt8.toNat_inj.1 h⟩;have HS:=hid (zA1 (z9V B en i k) (zA1 (zgB B en q (by have:=HP.out;omega)) (zA1 (zcP B en q) (zA1 hrow (zA1 hqi (zA1 hu hsm))))));have HU:=hid hu0;clear hq hu hrow hqi hu0 hsm;generalize hub:u.toNat=ub at *;clear hub
     have stay:(q<en∨ub=0)→Hid (z3O B en i (k+1)=z3O B en i k∧Row wr 5 1 (.slice (some ⟨gs,0,none⟩) 32 cs) 32 (z0C (z0Q (mixA B en (32 * i+(k+1))) i))):=fun h=>by
      obtain⟨z1,z2,z3,z4,z5,z6,z7⟩:=HS.out
      have e0:(clean B en).getD q 0=B.getD q 0:=by
       rw[z3]
       rcases h with h | h
       ·rw[if_pos h]
       ·split
        ·rfl
        ·rw[← z6];exact(HU.out.2 h).symm
      refine hid ⟨?_,?_⟩
      ·rw[z1,z5]
       rcases h with h | h
       ·rw[decide_eq_false (show ¬ en≤q by omega)];simp
       ·rw[← z6,HU.out.2 h];simp
      ·rw[show 32 * i+(k+1)=q+1 by omega,z2,e0]
       have hl:q<(mixA B en q).length:=by omega
       have hg:=z8J B en q q (Nat.le_refl _) (by have:=HP.out;omega);have h5:=ziI (mixA B en q) q hl;rw[hg] at h5;rw[h5];exact z4
     by_cases c1:q<en
     ·have HZ:=stay (.inl c1)
      have t1:decide ((en:Int)≤(q:Int))=false:=decide_eq_false (by omega);have t2:decide (en≤q)=false:=decide_eq_false (by omega);clear stay hc hfz;rw[← HZ.out.1];go_wp2_with (at_builtin;refine z0A ?_;intro q hq);go_roundw
      case rel=>exact⟨k+1,by omega,by go_num,by first | trivial | rfl,hid ⟨HZ.out.2,HK.out.2⟩⟩
      case measure=>simp[intOf];omega
     ·by_cases c2:ub=0
      ·have HZ:=stay (.inr c2)
       have t1:(en:Int)≤(q:Int):=by omega
       have t2:((ub:Int) != 0)=false:=by simp[c2]
       have t3:((ub:Int) == 0)=true:=by simp[c2]
       clear stay hfz;subst c2;rw[← HZ.out.1];go_wp2_with (at_builtin;refine z0A ?_;intro q hq);go_roundw
       case rel=>exact⟨k+1,by omega,by go_num,by first | trivial | rfl,hid ⟨HZ.out.2,HK.out.2⟩⟩
       case measure=>simp[intOf];omega
      ·have t1:(en:Int)≤(q:Int):=by omega
       have t2:((ub:Int) != 0)=true:=by simp;omega
       have t3:((ub:Int) == 0)=false:=by simp;omega
       clear stay;go_wp2_with (at_builtin;refine z0A ?_;intro q hq);have hkS:Keep (fun k=>k=gs) wr (wr.setCell ⟨gs,k,none⟩ (.int .u8 0)):=kst
       have HZ:=hid (show z3O B en i (k+1)=true∧Row (wr.setCell ⟨gs,k,none⟩ (.int .u8 0)) 5 1 (.slice (some ⟨gs,0,none⟩) 32 cs) 32 (z0C (z0Q (mixA B en (32 * i+(k+1))) i))∧Keep (fun k=>k=gs) w3 (wr.setCell ⟨gs,k,none⟩ (.int .u8 0)) by
        obtain⟨z1,z2,z3,z4,z5,z6,z7⟩:=HS.out;refine⟨?_,?_,HK.out.2.next hkS (fun _ _ x=>x) (fun _ _ x=>x)⟩
        ·rw[z1,z5]
         have hb0:B.getD q 0≠0:=fun e=>c2 (HU.out.1 (by rw[z6];exact e));have hen:en≤q:=by omega
         rw[decide_eq_true hen,decide_eq_true hb0];simp
        ·rw[show 32 * i+(k+1)=q+1 by omega,z2,z3,if_neg c1,← z5,znE _ i k 0 hk32 (by rw[z5];exact z7),z5]
         have h5:=z4.setOne k (by omega) (.int .u8 0) rfl;have h6:z0C ((z0Q (mixA B en q) i).set k 0)=(z0C (z0Q (mixA B en q) i)).set k (.int .u8 0):=(z5J _ k 0 (by decide)).symm;rw[h6]
         exact h5)
       go_roundw
       case rel=>exact⟨k+1,by omega,by go_num,by rw[HZ.out.1],hid HZ.out.2⟩
       case measure=>simp[intOf];omega
    ·obtain rfl:k=32:=by omega
     have s2:¬ ((32:Nat):Int)<32:=by omega
     have hdd:z3O B en i 32=dirty B en i:=rfl;rw[hdd];obtain⟨hl,hD',hF',hs',hw',hk',hh⟩:=HX.out;obtain⟨hrow,hkg⟩:=HK.out;rw[show 32 * i+32=(i+1) * 32 by omega,zjK] at hrow;have hs3:=HF3.out.keep.size;have hDl:=hD'.lt;have hkr:Keep (fun k=>k=gs∧False∨k=gs) w3 wr:=hkg.mono fun _ _ x=>.inr x;have hgF:¬ F' gs:=fun x=>by have:=hDl gs x;omega
     have hgb:b≠gs:=by omega
     have hDr:RefAt wr d F' D':=(hD'.keep HF3.out.keep fun _ _ x=>x).keep hkg fun k x y=>by subst y;exact hgF x
     have hhr:=hkg.get (HF3.out.keep.get hh id) hgb;have hkw:Keep Fd w wr:=(hk'.next HF3.out.keep (H:=Fd) (fun _ _ x=>x) (fun _ _ x=>x.elim)).next hkg (fun _ _ x=>x) (fun k hk x=>by have:=hk'.size;omega);obtain⟨j,hj⟩:∃ j,h - i=j+1:=⟨h - i - 1,by omega⟩;clear i0 i1 i2 i3 i4 if1 ib1;obtain⟨i0,i1,i2,i3,i4,if1,ib1⟩:=z1L (show wr.heap[b]?=some (.cells #[_,_,_,_,_] _ (0,0)) from hhr);have HX2:=hid (zA1 hl (zA1 hDr (zA1 hF' (zA1 hs' (zA1 hw' (zA1 hkw (zA1 hrow (zA1 hj (zA1 hgF hhr)))))))));clear hl hD' hF' hs' hw' hk' hh hrow hkg hs3 hDl hkr hgF hDr hhr hkw hj hdd HK HX
     cases hdi:dirty B en i with
     | false=>
       have HZ:=hid (show WpRel w d ep h Fd D B en (i+1) wf wr by
        obtain⟨hl,hDr,hF',hs',hw',hkw,hrow,hj,-,-⟩:=HX2.out;refine⟨⟨F',D',?_,hDr,hF',hs',by omega⟩,hkw⟩;rw[hl,hj,WM.wipe,hdi];simp only
        rw[if_neg (by simp),show h - (i+1)=j by omega])
       clear hdi;go_wp2_with (at_builtin;refine z0A ?_;intro q hq);go_roundw
       case rel=>exact⟨i+1,wf,by omega,by go_num,rfl,HZ⟩
       case measure=>simp[intOf];omega
     | true=>
       obtain⟨hl,hDr,hF',hs',hw',hkw,hrow,hj,hgF,hhr⟩:=HX2.out;obtain⟨q,hq⟩:=zX1 (WM.first D ep);have hq':q=WM.first D' ep:=by rw[hq,z4P hs']
       have hq2:q≤3000:=by
        rw[hq];unfold WM.first half;have:ep % 2=0∨ep % 2=1:=by omega
        rcases this with h | h <;> rw[h] <;> omega
       obtain⟨t,ht⟩:=zX1 (q+i);have g1:(q:Int)+(i:Int)=(t:Int):=by omega
       have g2:=wi64 t (by omega);have j0:=fun s:Later wr=>s.cell i0;have j1:=fun s:Later wr=>s.cell i1
       have HFi:=hid (show ∀ s:Later wr,Calls Tryz.prog 133 #[.pointer (some ⟨d,0,none⟩),.int .u64 (ep:Nat)] s.val fun e w'=>e = .returned (.int .i64 (q:Nat))∧Keep (fun _=>False) s.val w' from
        fun s=>by rw[hq'];exact(z9I s.val d F' D' (hDr.keep s.keep fun _ _ x=>x) ep).mono fun e w' ⟨h1,h2⟩=>⟨h1,by rw[h2];exact Keep.refl _ _⟩)
       have hW:=fun s:Later wr=>zbG s.val d F' D' (t:Int) (some ⟨gs,0,none⟩) 32 cs (z0Q (clean B en) i) (hDr.keep s.keep fun _ _ x=>x) ((by have h:=Cells.of_row hrow;exact h:Cells wr (some ⟨gs,0,none⟩) 32 1 _).later s) (fun _ x hx=>by cases hx;exact hgF) (by omega) (by decide) (by omega);obtain⟨W,hWd⟩:=zX1 (DM.write D' (t:Int) (z0Q (clean B en) i));simp only[← hWd] at hW
       have hst:WM.wipe ep B en i (h - i) wf D'=if W.1=0 then WM.wipe ep B en (i+1) j true W.2 else (W.1,true,W.2):=by
        rw[hj,WM.wipe,hdi,← hq',← ht,← hWd];rfl
       have hwl:W.2.safe.length=D.safe.length:=by rw[hWd,z2X];exact hs'
       have hww:W.2.waits.length≤D.waits.length+(i+1):=by rw[hWd];have:=z2K D' (t:Int) (z0Q (clean B en) i);omega
       have HW:=hid hW;have HX3:=hid (zA1 hl (zA1 hF' (zA1 hkw (zA1 hst (zA1 hwl (zA1 hww hj))))));clear hl hDr hF' hs' hw' hkw hrow hj hgF hhr hq hq' ht hW hWd hst hwl hww hdi i0 i1 i2 i3 i4;go_wp2_with (at_builtin;refine z0A ?_;intro q hq)
       (refine z1M 16 (by kernel_rfl) (by kernel_rfl) ?_;simp only[List.take_succ_cons,List.take_zero,List.drop_succ_cons,List.drop_zero];(repeat (go_big_quiet_step ((go_at_call 133;exact Later.call (HFi.out _)))));refine wpQuiet_nil ?_;rintro _ ⟨sq,rfl⟩)
       clear j0 j1;go_wp2_with (at_builtin;refine z0A ?_;intro q hq);refine(HW.out sq).mono ?_;rintro e w6 ⟨rfl,F3,t1,t2,t3⟩;obtain⟨hl,hF',hkw,hst,hwl,hww,hj⟩:=HX3.out;have hk6:Keep Fd w w6:=(hkw.next sq.keep (H:=Fd) (fun _ _ x=>x) (fun _ _ x=>x.elim)).next t2 (fun _ _ x=>x) (fun k hk' x=>(hF' k x).elim id fun y=>by omega);have hF6:∀ k,F3 k→Fd k∨w.heap.size≤k:=fun k x=>(t3 k x).elim (hF' k) fun y=>.inr (Nat.le_trans (Nat.le_trans hkw.size sq.keep.size) y)
       by_cases w0:W.1=0
       ·have HZ:=hid (show WpRel w d ep h Fd D B en (i+1) true w6 from⟨⟨F3,W.2,by rw[hl,hst,if_pos w0,show h - (i+1)=j by omega],t1,hF6,hwl,hww⟩,hk6⟩)
        rw[w0];clear hl hF' hkw hst hwl hww hj t1 t2 t3 hk6 hF6;go_wp2_with (at_builtin;refine z0A ?_;intro q hq);go_roundw
        case rel=>exact⟨i+1,true,by omega,by go_num,rfl,HZ⟩
        case measure=>simp[intOf];omega
       ·have hZ:Z=(W.1,true,W.2):=by rw[HYZ.out.2,hl,hst,if_neg w0]
        have hB:=Bad.out W.1 W.2 w6 w0 (by rw[HYZ.out.1,hZ,if_neg (fun h=>w0 h.1)]) ⟨F3,t1,hk6,hF6⟩;have HB:=hid hB;have u1:(W.1 == 0)=false:=by simp[w0]
        have u2:(W.1 != 0)=true:=by simp[w0]
        have u3:decide (W.1=0)=false:=by simp[w0]
        clear hl hF' hkw hst hwl hww hj t1 t2 t3 hk6 hF6 hZ hB w0;go_wp2_with (at_builtin;refine z0A ?_;intro q hq);exact HB.out
  ·obtain rfl:h=i:=by omega
   have s1:¬ (h:Int)<(h:Int):=by omega
   obtain⟨hl,hD',hF',hs',hw',hk',hh⟩:=HX.out;rw[Nat.sub_self] at hl;have hZ:Z=(0,wf,D'):=by rw[HYZ.out.2,hl];rfl
   cases wf with
   | false=>
     have hG:=Good.out D' wr (by rw[HYZ.out.1,hZ];simp) ⟨F',hD',hk',hF'⟩;have HG:=hid hG;clear hl hD' hF' hs' hw' hk' hh hZ hG;go_wp2_with (at_builtin;refine z0A ?_;intro q hq);refine hhf.mono ?_;rintro e w2 ⟨rfl,rfl⟩;go_wp2_with (at_builtin;refine z0A ?_;intro q hq);exact HG.out
   | true=>
     obtain⟨X,hX⟩:=zX1 (DM.sync D');have hYX:Y=X:=by rw[HYZ.out.1,hZ,hX];simp
     have hsy:=zeE wr d F' D' hD' (by omega);rw[← hX] at hsy;have HF:=hid (zA1 hF' hk');have HYX:=hid hYX;clear hl hD' hF' hs' hw' hk' hh hZ hX hYX;go_wp2_with (at_builtin;refine z0A ?_;intro q hq);refine hhf.mono ?_;rintro e w2 ⟨rfl,rfl⟩;go_wp2_with (at_builtin;refine z0A ?_;intro q hq);refine hsy.mono ?_;rintro e w3 ⟨rfl,ht3⟩;have hto:=RefTo.next HF.out.2 HF.out.1 ht3
     by_cases x0:X.1=0
     ·have HG:=hid (Good.out X.2 w3 (by rw[HYX.out,← x0]) hto)
      rw[x0];clear hto ht3 x0;go_wp2_with (at_builtin;refine z0A ?_;intro q hq);exact HG.out
     ·have HB:=hid (Bad.out X.1 X.2 w3 x0 HYX.out hto)
      have u1:(X.1 == 0)=false:=by simp[x0]
      have u2:(X.1 != 0)=true:=by simp[x0]
      have u3:decide (X.1=0)=false:=by simp[x0]
      clear hto ht3 x0;go_wp2_with (at_builtin;refine z0A ?_;intro q hq);exact HB.out
end
section
open Go.RowKit
open DM BM WM
def ROpenTo (d:Nat) (Fd:Nat→Prop) (w:World) (R:Int×Option Lg×Dk) (e:Ending) (w':World):Prop:=
 match R.2.1 with
 | none=>e = .returned (.tuple #[.pointer none,.int .i64 R.1])∧RefTo d Fd w R.2.2 w'
 | some g=>∃ b F Fd',e = .returned (.tuple #[.pointer (some ⟨b,0,none⟩),.int .i64 R.1])∧RLogAt w' b d F Fd' R.2.2 g∧Keep Fd w w'∧(∀ k,F k→w.heap.size≤k)∧∀ k,Fd' k→Fd k∨w.heap.size≤k
structure RScan (w:World) (b d ep:Nat) (bs:List UInt8) (a:Nat) (wr:World):Prop where
 ex:∃ (f:Nat) (L:List (List UInt8)) (vl:Value) (vs:List Value),scan bs (bs.length+1) 0=(L ++ (scan bs f a).1,(scan bs f a).2)∧a≤bs.length∧bs.length<a+f∧10 * L.length≤a∧
  wr.heap[b]?=some (.cells (z1V d ep vl 0 false) 119 (0,0))∧Recs wr (fun k=>w.heap.size≤k) (fun k=>k=b) vl L vs
 keep:Keep (fun k=>k=b) w wr
theorem zqH {D:Dk} {B:List UInt8} {L:List (List UInt8)} {ep en:Nat} (h6:6≤D.safe.length) (hd:D.down=false) (hep:ep=epoch D) (hB:B=WM.bytes D ep) (hs:scan B (B.length+1) 0=(L,en)) :
  z1U D=if (z6H ep B en D).1≠0 then ((z6H ep B en D).1,none,(z6H ep B en D).2) else (0,some ⟨ep,L,L.length,false⟩,(z6H ep B en D).2):=by
 unfold z1U;rw[if_neg (by omega),if_neg (by rw[hd];simp)];simp only;rw[← hep,← hB,hs];unfold z6H;simp only;generalize WM.wipe ep B en 0 (half D) false D=Z
 by_cases c1:Z.1=0
 ·rw[if_neg (by simp[c1])]
  by_cases c2:Z.2.1=true
  ·have e:(if Z.1=0∧Z.2.1=true then DM.sync Z.2.2 else (Z.1,Z.2.2))=DM.sync Z.2.2:=if_pos ⟨c1,c2⟩
   rw[if_pos c2,e]
  ·have e:(if Z.1=0∧Z.2.1=true then DM.sync Z.2.2 else (Z.1,Z.2.2))=(Z.1,Z.2.2):=if_neg (fun h=>c2 h.2)
   rw[if_neg c2,e,if_neg (by simp[c1])]
 ·have e:(if Z.1=0∧Z.2.1=true then DM.sync Z.2.2 else (Z.1,Z.2.2))=(Z.1,Z.2.2):=if_neg (fun h=>c1 h.1)
  rw[if_pos c1,e,if_pos c1]
structure RRead (w:World) (b d ep:Nat) (L:List (List UInt8)) (wr:World):Prop where
 ex:∃ (vl:Value) (vs:List Value),wr.heap[b]?=some (.cells (z1V d ep vl 0 false) 119 (0,0))∧Recs wr (fun k=>w.heap.size≤k) (fun k=>k=b) vl L vs
 keep:Keep (fun k=>k=b) w wr
theorem zmT (w:World) (d:Nat) (Fd:Nat→Prop) (D:Dk) (hD:RefAt w d Fd D) (hfew:D.waits.length≤800000) :
  Calls Tryz.prog 47 #[.pointer (some ⟨d,0,none⟩)] w (ROpenTo d Fd w (z1U D)):=by
 obtain⟨R,hR⟩:=zX1 (z1U D);rw[← hR]
 have no:∀ c,R=(c,none,D)→∀ w',Keep (fun _=>False) w w'→ROpenTo d Fd w R (.returned (.tuple #[.pointer none,.int .i64 c])) w':=fun c h w' hk=>by
  rw[h];exact⟨rfl,Fd,hD.keep hk fun _ _ x=>x,hk.mono fun _ _ x=>x.elim,fun _ x=>.inl x⟩
 obtain⟨Post,hPost⟩:=zX1 (ROpenTo d Fd w R);have HPost:=hid hPost;rw[← hPost] at no ⊢;have No:=hid no;have HR:=hid hR;have HD:=hid hD;clear no hR hPost;have hfewD:=HD.out.ok.few;obtain⟨vs0,vw0,hI⟩:=hD;have hdh:=hI.head;unfold z2J at hdh;obtain⟨d0,d1,d2,d3,df,db⟩:=z6F hdh;obtain⟨ads,caps,rfl,-⟩:=hI.safe.form;obtain⟨ns,hns⟩:=zX1 (D.safe.length);rw[← hns] at d0;clear hI hdh d1 d2
 by_cases h6:ns<6
 ·have hN:=No.out 40 (by rw[HR.out];unfold z1U;rw[if_pos (by omega)]) w (Keep.refl _ _)
  have HN:=hid hN;have q1:(ns:Int)<6:=by omega
  clear hN hns;go_enter Tryz.func47,Tryz.ntmps47;go_wp2_with (at_builtin;refine z0A ?_;intro q hq);exact HN.out
 cases hd:D.down with
 | true=>
   have hN:=No.out 6 (by rw[HR.out];unfold z1U;rw[if_neg (by omega),if_pos hd]) w (Keep.refl _ _);have HN:=hid hN;have q1:¬ (ns:Int)<6:=by omega
   rw[hd] at d3;clear hN hns;go_enter Tryz.func47,Tryz.ntmps47;go_wp2_with (at_builtin;refine z0A ?_;intro q hq);exact HN.out
 | false=>
   have q1:¬ (ns:Int)<6:=by omega
   rw[hd] at d3;have hns6:6≤D.safe.length:=by omega
   have Hns:=hid hns;clear hns;go_enter Tryz.func47,Tryz.ntmps47;go_wp2_with (at_builtin;refine z0A ?_;intro q hq);have hh1:=heap_alloc_new w (.cells #[.pointer (some ⟨d,0,none⟩),.int .u64 0,.slice none 0 0,.int .i64 0,.bool false] 119);have hk1:=kal w (.cells #[.pointer (some ⟨d,0,none⟩),.int .u64 0,.slice none 0 0,.int .i64 0,.bool false] 119);obtain⟨w1,hw1⟩:=zX1 (w.alloc (.cells #[.pointer (some ⟨d,0,none⟩),.int .u64 0,.slice none 0 0,.int .i64 0,.bool false] 119));obtain⟨b,hb⟩:=zX1 (w.heap.size);rw[← hw1] at hh1 hk1 ⊢;rw[← hb] at hh1 ⊢;have H0:=hid (show w1.heap[b]?=some (.cells (z1V d (epTo D 0) (.slice none 0 0) 0 false) 119 (0,0))∧Keep (fun _=>False) w w1 from⟨hh1,hk1⟩);have Hb:=hid hb;clear hw1 hh1 hk1 hb q1 d0 d3 df
   go_loopw [5,6,7] (fun iv _ _ wr=>∃ i:Nat,i≤2∧iv = .int .i64 i∧Hid (wr.heap[b]?=some (.cells (z1V d (epTo D i) (.slice none 0 0) 0 false) 119 (0,0))∧Keep (fun _=>False) w wr)) (fun iv _ _ _=>2 - (intOf iv).toNat)
   case atStart=>exact⟨0,by decide,rfl,H0⟩
   case round=>
    clear H0;obtain⟨i,hi,rfl,HI⟩:=hrel
    by_cases hi2:i<2
    ·have t1:(i:Int)<2:=by omega
     have hhead:=znD wr d Fd D i (HD.out.keep HI.out.2 fun _ _ x=>x) hd (by omega) hi2 (by omega);go_wp2_with (at_builtin;refine z0A ?_;intro q hq);refine hhead.mono ?_;clear hhead;rintro e w2 ⟨n,rfl,hn,hk2⟩;have hh2:=hk2.get HI.out.1 id;obtain⟨i0,i1,i2,i3,i4,if1,ib1⟩:=z1L (show w2.heap[b]?=some (.cells #[_,_,_,_,_] _ (0,0)) from hh2);have hk02:Keep (fun _=>False) w w2:=HI.out.2.next hk2 (fun _ _ x=>x) (fun _ _ x=>x);have H2:=hid (zA1 hh2 hk02);clear hh2 hk02 hk2
     cases hm:WM.head D i with
     | none=>
       have he:epTo D (i+1)=epTo D i:=by simp[epTo,hm]
       have HZ:=hid (show w2.heap[b]?=some (.cells (z1V d (epTo D (i+1)) (.slice none 0 0) 0 false) 119 (0,0))∧Keep (fun _=>False) w w2 by rw[he];exact H2.out);clear hm hn he;rw[show (none:Option Nat).isSome=false from rfl];go_wp2_with (at_builtin;refine z0A ?_;intro q hq);go_roundw
       case rel=>exact⟨i+1,by omega,by go_num,HZ⟩
       case measure=>simp[intOf];omega
     | some m=>
       have hnm:n=m:=hn m hm;have he:epTo D (i+1)=max (epTo D i) n:=by simp[epTo,hm,hnm]
       have He:=hid he;obtain⟨ep,hep⟩:=zX1 (epTo D i);rw[← hep] at i1 H2 He;clear hm hn he hnm hep;rw[show (some m:Option Nat).isSome=true from rfl]
       by_cases hgt:ep<n
       ·have t2:(ep:Int)<(n:Int):=by omega
        have He2:=hid (show epTo D (i+1)=n by rw[He.out];omega);go_wp2_with (at_builtin;refine z0A ?_;intro q hq);have hk3:Keep (fun k=>k=b) w2 (w2.setCell ⟨b,1,none⟩ (.int .u64 (n:Nat))):=kst;have hh3:=z0B H2.out.1 1 (.int .u64 (n:Nat))
        have HZ:=hid (show (w2.setCell ⟨b,1,none⟩ (.int .u64 (n:Nat))).heap[b]?=some (.cells (z1V d (epTo D (i+1)) (.slice none 0 0) 0 false) 119 (0,0))∧Keep (fun _=>False) w (w2.setCell ⟨b,1,none⟩ (.int .u64 (n:Nat))) by
         refine⟨by rw[hh3,He2.out];rfl,H2.out.2.next hk3 (fun _ _ x=>x) (fun k hk x=>by have:=Hb.out;omega)⟩)
        clear hk3 hh3;go_roundw
        case rel=>exact⟨i+1,by omega,by go_num,HZ⟩
        case measure=>simp[intOf];omega
       ·have t2:¬ (ep:Int)<(n:Int):=by omega
        have t3:decide ((ep:Int)<(n:Int))=false:=decide_eq_false t2;have t4:decide (ep<n)=false:=decide_eq_false hgt;have He2:=hid (show epTo D (i+1)=ep by rw[He.out];omega);have HZ:=hid (show w2.heap[b]?=some (.cells (z1V d (epTo D (i+1)) (.slice none 0 0) 0 false) 119 (0,0))∧Keep (fun _=>False) w w2 by rw[He2.out];exact H2.out);go_wp2_with (at_builtin;refine z0A ?_;intro q hq);go_roundw
        case rel=>exact⟨i+1,by omega,by go_num,HZ⟩
        case measure=>simp[intOf];omega
    ·obtain rfl:i=2:=by omega
     have t1:¬ ((2:Nat):Int)<2:=by omega
     obtain⟨hh2,hk2⟩:=HI.out;rw[z8S] at hh2;obtain⟨ep,hep⟩:=zX1 (epoch D);rw[← hep] at hh2;obtain⟨i0,i1,i2,i3,i4,if1,ib1⟩:=z1L (show wr.heap[b]?=some (.cells #[_,_,_,_,_] _ (0,0)) from hh2);have hby:=zlO wr d Fd D (HD.out.keep hk2 fun _ _ x=>x) hd hns6 ep (by omega);obtain⟨B,hB⟩:=zX1 (z2C D ep (half D));have hBl:B.length=32 * half D:=by rw[hB];exact z2O ep hns6 hd HD.out.ok _ (Nat.le_refl _)
     rw[← hB] at hby;have hh1023:half D≤1023:=by unfold half;omega
     obtain⟨nn,hnn⟩:=zX1 (B.length);have H2:=hid (zA1 hh2 (zA1 hk2 (zA1 hep (zA1 hB (zA1 hBl hnn)))));have hnn4:nn≤40000:=by omega
     clear hh2 hk2 hep hB hBl HI i2 i3 i4;go_wp2_with (at_builtin;refine z0A ?_;intro q hq);refine hby.mono ?_;rintro e w3 ⟨v3,rfl,hf3⟩;obtain⟨ad3,c3,hv3,hc3,-⟩:=hf3.row.form;rw[← hnn] at hv3 hc3;subst hv3;have hh3:=hf3.keep.get H2.out.1 id;have hkw3:Keep (fun _=>False) w w3:=H2.out.2.1.next hf3.keep (fun _ _ x=>x) (fun _ _ x=>x);have R0:=hid (show RScan w3 b d ep B 0 w3 from⟨⟨B.length+1,[],.slice none 0 0,[],rfl,Nat.zero_le _,by omega,Nat.zero_le _,hh3,Recs.nil _ _ _⟩,Keep.refl _ _⟩);have hcs3:Cells w3 ad3 nn 1 (z0C B):=by have h:=hf3.row;rw[← hnn] at h;exact Cells.of_row h
     have hbl3:=z0N hh3
     have hav:∀ x,ad3=some x→x.block≠b∧w.heap.size≤x.block:=fun x hx=>by
      have h1:=hf3.own x.block (by rw[hx];rfl);have:=z0N H2.out.1;have:=H2.out.2.1.size;omega
     have H3:=hid (zA1 hkw3 (zA1 hcs3 (zA1 hav (zA1 hc3 hnn))));clear hf3 hh3 hkw3 hcs3 hav hnn i0 i1 if1 hby;obtain⟨L,hL⟩:=zX1 ((scan B (B.length+1) 0).1);obtain⟨en,hen⟩:=zX1 ((scan B (B.length+1) 0).2);have HLe:=hid (show scan B (B.length+1) 0=(L,en) by rw[hL,hen]);have HLe2:=hid (zA1 hL hen);clear hL hen
     go_upto_block 3 with fail
     go_cut [9,10,11,12] (fun s9 s10 s11 s12 wx=>s9 = .int .i64 (en:Nat)∧Hid (RRead w3 b d ep L wx))
     case first=>
      go_wp2_with (at_builtin;refine z0A ?_;intro q hq)
      go_loopw [9,10,11,12] (fun av _ _ _ wr=>∃ a:Nat,av = .int .i64 a∧a≤nn∧Hid (RScan w3 b d ep B a wr)) (fun av _ _ _ _=>nn+10 - (intOf av).toNat)
      case atStart=>exact⟨0,rfl,Nat.zero_le _,R0⟩
      case round=>
       clear R0;obtain⟨a,rfl,han,HI⟩:=hrel;obtain⟨f,L1,vl,vs,hs,ha,hf,hc,hh,hrec⟩:=HI.out.ex;have hk:=HI.out.keep;have hget:=zjZ wr ad3 nn c3 a B (H3.out.2.1.keep hk fun x hx y=>(H3.out.2.2.1 x hx).1 y) han H3.out.2.2.2.1 (by omega);obtain⟨g,hg⟩:=zX1 (BM.get B a);rw[← hg] at hget;obtain⟨fp,hfp⟩:∃ fp,f=fp+1:=⟨f - 1,by omega⟩
       have out:(scan B f a=([],a))→∀ wX,Keep (fun _=>False) wr wX→a=en∧RRead w3 b d ep L wX:=fun h0 wX hX=>by
        rw[HLe.out,h0,List.append_nil] at hs;cases hs;exact⟨rfl,⟨⟨vl,vs,hX.get hh id,hrec.keep hX fun _ _ _ x=>x⟩,hk.next hX (fun _ _ x=>x) (fun _ _ x=>x.elim)⟩⟩
       have Out:=hid out;have HX:=hid (zA1 hs (zA1 ha (zA1 hf (zA1 hc (zA1 hh (zA1 hrec (zA1 hk (zA1 hg hfp))))))));clear hs ha hf hc hh hrec hk hg hfp HI out;go_wp2_with (at_builtin;refine z0A ?_;intro q hq);refine hget.mono ?_;clear hget;intro e w4 hp
       cases g with
       | no m=>
         obtain⟨rfl,hk4⟩:=hp;have hg:=HX.out.2.2.2.2.2.2.2.1;have hm0:=ziH hg.symm;have hz:scan B f a=([],a):=by rw[HX.out.2.2.2.2.2.2.2.2,scan,← hg]
         have u1:((m:Int) != 0)=true:=by simp;omega
         have u2:((m:Int) == 0)=false:=by simp;omega
         have hO:=fun wX (h:Keep (fun _=>False) w4 wX)=>Out.out hz wX (hk4.next h (fun _ _ x=>x) (fun _ _ x=>x));have HO:=hid hO;clear hm0 hz hg hO hk4;go_wp2_with (at_builtin;refine z0A ?_;intro q hq);go_meet;obtain⟨ha2,hO2⟩:=HO.out (w4.alloc (.cells #[.int .u8 0,.slice none 0 0] 177)) ((Keep.refl _ _).alloc _);exact⟨by rw[ha2],hid hO2⟩
       | yes k body q=>
         obtain⟨v,rfl,hf4⟩:=hp;obtain⟨ad4,c4,rfl,-⟩:=hf4.row.form;have hg:=HX.out.2.2.2.2.2.2.2.1;obtain⟨-,hq,hb1024,hqle⟩:=z5K hg.symm;have Hq:=hid (zA1 hq (zA1 hb1024 hqle));obtain⟨bl,hbl⟩:=zX1 (body.length);have hr4:=hf4.row;rw[← hbl] at hr4 ⊢;have Hbl:=hid hbl;have HF4:=hid (zA1 hr4 (zA1 hf4.keep hf4.own));clear hf4 hr4 hbl hq hb1024 hqle
         by_cases hk2:k=2
         rotate_left
         ·have hz:scan B f a=([],a):=by rw[HX.out.2.2.2.2.2.2.2.2,scan,← hg];simp[hk2]
          have u1:((k.toNat:Int) != 2)=true:=by
           have:k.toNat≠2:=fun e=>hk2 (UInt8.toNat_inj.1 e);simp;omega
          have hO:=fun wX (h:Keep (fun _=>False) w4 wX)=>Out.out hz wX (HF4.out.2.1.next h (fun _ _ x=>x) (fun _ _ x=>x));have HO:=hid hO;clear hz hg hO hk2;generalize k.toNat=kk at *;go_wp2_with (at_builtin;refine z0A ?_;intro q hq);go_meet;obtain⟨ha2,hO2⟩:=HO.out (w4.alloc (.cells #[.int .u8 (kk:Nat),.slice ad4 bl c4] 177)) ((Keep.refl _ _).alloc _);exact⟨by rw[ha2],hid hO2⟩
         ·subst hk2
          have hz:scan B f a=(body :: (scan B fp q).1,(scan B fp q).2):=by rw[HX.out.2.2.2.2.2.2.2.2,scan,← hg];rfl
          have Hz:=hid hz;clear hz hg Out;rw[show ((2:UInt8).toNat:Int)=2 from rfl];go_wp2_with (at_builtin;refine z0A ?_;intro q hq);obtain⟨w5,hw5⟩:=zX1 (w4.alloc (.cells #[.int .u8 2,.slice ad4 bl c4] 177));have hh5f:=heap_alloc_new w4 (.cells #[.int .u8 2,.slice ad4 bl c4] 177);have hk45:Keep (fun _=>False) w4 w5:=by rw[hw5];exact(Keep.refl _ _).alloc _
          rw[← hw5] at hh5f ⊢;clear hw5;obtain⟨a0,a1,af,-⟩:=z4O (show w5.heap[w4.heap.size]?=some (.cells #[_,_] _ (0,0)) from hh5f);obtain⟨hs,ha,hf,hc,hh,hrec,hk,-,hfp⟩:=HX.out;have hkr5:Keep (fun _=>False) wr w5:=HF4.out.2.1.next hk45 (fun _ _ x=>x) (fun _ _ x=>x);have hh5:=hkr5.get hh id;obtain⟨adl,cl,rfl,-⟩:=hrec.row.form;obtain⟨i0,i1,i2,i3,i4,if1,ib5⟩:=z1L (show w5.heap[b]?=some (.cells #[_,_,_,_,_] _ (0,0)) from hh5);have hr5:=hrec.keep hkr5 (fun _ _ _ x=>x);have H5:=hid (zA1 hh5 (zA1 hkr5 (zA1 hk45 hr5)));have hL1:10 * L1.length≤40000:=by omega
          clear hs ha hf hc hh hrec hk hfp hkr5 hh5 hh5f hk45 hr5;go_wp2_with (at_builtin;refine z0A ?_;intro q hq);refine z0G [] (by kernel_rfl) (by kernel_rfl) ?_
          repeat (first | (apply z0F (by rfl);(intro K w';go_simp;exact id)) | (apply z0J (by rfl);(intro K;go_simp;exact id)))
          (refine z1Q (by rfl) (by rfl) (fun K hK=>?_);go_simp;refine hK _ _ (Pre.push _ rfl) ?_;clear hK K)
          obtain⟨w6,hw6⟩:=zX1 ((w5.alloc (.cells #[.slice ad4 bl c4] 29)).drew);have hnew6:w6.heap[w5.heap.size]?=some (.cells #[.slice ad4 bl c4] 29):=by rw[hw6];exact heap_alloc_new w5 _
          have hk56:Keep (fun _=>False) w5 w6:=by rw[hw6];exact((Keep.refl _ _).alloc _).drew
          rw[← hw6];clear hw6;refine z0M (by rfl) (by rfl) (fun K hK=>?_);have hr6:=H5.out.2.2.2.keep hk56 (fun _ _ _ x=>x)
          refine z0R z5P _ _ rfl rfl hr6.row (some ⟨w5.heap.size,0,none⟩) 1 1 [.slice ad4 bl c4] rfl
           ⟨rfl,fun _=>⟨_,rfl,fun j u hu=>by rw[z0K,Nat.zero_add,cell_of_row _ _ _ _ _ _ hnew6];simpa using hu⟩⟩ (by intro u hu;simp at hu;subst hu;rfl) (by unfold maxLen;omega) (by omega) ?_
          intro v7 w7 hr7 hk7 hv7;obtain⟨ad7,c7,rfl,-⟩:=hr7.form;refine hK _ _ ?_;clear hK K;have hh7:=hk7.get (hk56.get H5.out.1 id) (fun e=>(hr6.own b e).2 rfl);clear i0 i1 i2 i3 i4 if1 ib5 a0 a1 af;obtain⟨i0,i1,i2,i3,i4,if1,ib7⟩:=z1L (show w7.heap[b]?=some (.cells #[_,_,_,_,_] _ (0,0)) from hh7);have H7:=hid (zA1 hr7 (zA1 hk7 (zA1 hv7 (zA1 hh7 (zA1 hk56 hr6)))));clear hr7 hk7 hv7 hh7 hk56 hr6 hnew6
          repeat (apply z0F (by rfl);(intro K w';go_simp;exact id))
          (refine z0M (by rfl) (by rfl) (fun K hK=>?_);go_simp;refine hK _ _ ?_;clear hK K)
          refine z0T ?_;go_wp2_with (at_builtin;refine z0A ?_;intro q hq);have hk8:Keep (fun k=>k=b) w7 (w7.setCell ⟨b,2,none⟩ (.slice ad7 (L1.length+1) c7)):=kst;have hh8:=z0B H7.out.2.2.2.1 2 (.slice ad7 (L1.length+1) c7);obtain⟨w8,hw8⟩:=zX1 (w7.setCell ⟨b,2,none⟩ (.slice ad7 (L1.length+1) c7));rw[← hw8] at hk8 hh8 ⊢;clear hw8
          have HZ:=hid (show q≤nn∧a<q∧RScan w3 b d ep B q w8 by
           obtain⟨y1,y2,y3,y4,y5,y6,y7,y8,y9⟩:=HX.out;obtain⟨z1,z2,z3,z4,z5,z6⟩:=H7.out;obtain⟨q1,q2,q3⟩:=Hq.out;obtain⟨f1,f2,f3⟩:=HF4.out;obtain⟨p1,p2,p3,p4⟩:=H5.out;have hb1:=Hbl.out;have hnn:=H3.out.2.2.2.2;have s1:=y7.size;have s2:=p2.size;have s3:=z5.size;have s4:=z2.size;have s5:=f2.size;have s6:=p3.size;refine⟨by omega,by omega,⟨fp,L1 ++ [body],.slice ad7 (L1.length+1) c7,vs ++ [.slice ad4 bl c4],?_,q3,by omega,by simp;omega,?_,?_⟩,?_⟩
           ·rw[y1,Hz.out,List.append_assoc];rfl
           ·rw[hh8];rfl
           ·refine(z6.push (by have:=(f1.keep p3 (fun _ _ x=>x)).keep z5 (fun _ _ x=>x);rw[hb1] at this ⊢;exact this) (F':=fun k=>w3.heap.size≤k) (fun k e=>?_) z1 z2 (fun k x=>x) (fun k e=>?_)).keep hk8 (fun k _ h2 h3=>h2 h3)
            ·have h1:=f3 k (by rw[← e];exact z1H _ _ _ _)
             refine⟨by omega,by omega,fun e'=>?_⟩;have:=y6.row.lt e';omega
            ·rcases z3 with ⟨_,h0⟩ | ⟨k',h2,h3⟩
             ·omega
             ·rw[e] at h2;cases h2
              rcases h3 with h3 | h3
              ·exact .inl h3
              ·exact .inr ⟨by omega,by omega,by omega⟩
           ·refine(((y7.next p2 (H:=fun k=>k=b) (fun _ _ x=>x) (fun _ _ x=>x.elim)).next z5 (H:=fun k=>k=b) (fun _ _ x=>x) (fun _ _ x=>x.elim)).next z2 (H:=fun k=>k=b) (fun _ _ x=>x) (fun k hk x=>?_)).next hk8 (fun _ _ x=>x) (fun _ _ x=>x)
            have:=(p4.own k x).1
            omega)
          clear hk8 hh8;go_roundw
          case rel=>exact⟨q,rfl,HZ.out.1,hid HZ.out.2.2⟩
          case measure=>have:=HZ.out;simp[intOf];omega
     case rest=>
      obtain⟨rfl,HD9⟩:=hcut;clear R0;obtain⟨vl,vs,hh9,hrec9⟩:=HD9.out.ex;have hk9:=HD9.out.keep;obtain⟨adl,cl,rfl,-⟩:=hrec9.row.form;obtain⟨i0,i1,i2,i3,i4,if1,ib9⟩:=z1L (show wc.heap[b]?=some (.cells #[_,_,_,_,_] _ (0,0)) from hh9);have H9:=hid (zA1 hh9 (zA1 hrec9 hk9));clear hh9 hrec9 hk9 HD9;go_wp2_with (at_builtin;refine z0A ?_;intro q hq);have hk10:Keep (fun k=>k=b) wc (wc.setCell ⟨b,3,none⟩ (.int .i64 (L.length:Nat))):=kst;have hh10:=z0B H9.out.1 3 (.int .i64 (L.length:Nat));obtain⟨w10,hw10⟩:=zX1 (wc.setCell ⟨b,3,none⟩ (.int .i64 (L.length:Nat)));rw[← hw10] at hk10 hh10 ⊢;clear hw10 i0 i1 i2 i3 i4 if1;obtain⟨hkw3,hcs3,hav,hc3,hnn⟩:=H3.out;have hb0:=Hb.out;have hk310:Keep (fun k=>k=b) w3 w10:=H9.out.2.2.next hk10 (fun _ _ x=>x) (fun _ _ x=>x);have hk010:Keep (fun _=>False) w w10:=hkw3.next hk310 (fun _ _ x=>x) (fun k hk x=>by omega);have hDl:=HD.out.lt;have hbF:¬ Fd b:=fun x=>by have:=hDl b x;omega
      obtain⟨sp1,sp2,sp3,sp4⟩:=z6V B (B.length+1) 0 (Nat.zero_le _);rw[HLe.out] at sp1 sp2 sp4;simp only at sp1 sp2 sp4;have hBl:=H2.out.2.2.2.2.1
      have hwd:=zkT w10 b d ep en L.length nn c3 (.slice adl L.length cl) false Fd D B ad3 (by rw[hh10];rfl) (HD.out.keep hk010 fun _ _ x=>x) hbF (hcs3.keep hk310 (fun x hx y=>(hav x hx).1 y)) (fun x hx y=>by
        have h1:=hDl _ y;have h2:=(hav x hx).2
        omega) (by omega) hc3 (by omega) hfew
      obtain⟨Y,hY⟩:=zX1 (z6H ep B en D);have hYl:Y.2.safe.length=D.safe.length:=by rw[hY];exact zgG _ _ _ _
      rw[← hY] at hwd
      have hRR:R=if Y.1≠0 then (Y.1,none,Y.2) else (0,some ⟨ep,L,L.length,false⟩,Y.2):=by
       rw[hY,HR.out];have h2:=zqH hns6 hd (en:=en) (L:=L) (B:=B) (ep:=ep) H2.out.2.2.1 (by rw[H2.out.2.2.2.1];rfl) HLe.out;exact h2
      have HX:=hid (zA1 hk310 (zA1 hk010 (zA1 hYl (zA1 hRR (zA1 sp1 (zA1 sp2 (zA1 sp4 (zA1 hh10 (zA1 hBl (zA1 hDl hk10))))))))));clear hk10 hh10 hk310 hk010 hY hYl hRR sp1 sp2 sp3 sp4 hBl hkw3 hcs3 hav hc3 hb0;go_wp2_with (at_builtin;refine z0A ?_;intro q hq);refine hwd.mono ?_;rintro e w11 ⟨rfl,Fd',hD11,hk11,hF11⟩;obtain⟨hk310,hk010,hYl,hRR,sp1,sp2,sp4,hh10,hBl,hDl,hkc10⟩:=HX.out;have hk011:Keep Fd w w11:=hk010.next hk11 (fun _ _ x=>x.elim) (fun _ _ x=>x);have hF011:∀ k,Fd' k→Fd k∨w.heap.size≤k:=fun k x=>(hF11 k x).imp id fun y=>Nat.le_trans hk010.size y
      by_cases y0:Y.1=0
      rotate_left
      ·rw[if_pos y0] at hRR
       have HF:=hid (show Post (.returned (.tuple #[.pointer none,.int .i64 Y.1])) w11 by rw[HPost.out,hRR];exact⟨rfl,Fd',hD11,hk011,hF011⟩);rw[if_neg y0];clear hkc10 hk310 hk010 hYl hRR sp1 sp2 sp4 hh10 hBl hDl hD11 hk11 hF11 hk011 hF011 y0;go_wp2_with (at_builtin;refine z0A ?_;intro q hq);exact HF.out
      ·rw[if_neg (by simp[y0])] at hRR
       have HF:=hid (show Post (.returned (.tuple #[.pointer (some ⟨b,0,none⟩),.int .i64 0])) w11 by
        rw[HPost.out,hRR];have hb0:=Hb.out;have s310:=hk310.size;have s03:=H3.out.1.size;have s1011:=hk11.size;have hbl10:=z0N hh10;have hrec:=(H9.out.2.1.bound.keep hkc10 (fun k _ h1 h2=>h1 h2));have hwl:=hkc10.size;refine⟨b,fun k=>w.heap.size≤k∧k<w10.heap.size,Fd',rfl,⟨.slice adl L.length cl,vs,?_,hD11,fun k h1 h2=>?_⟩,hk011,fun k h1=>h1.1,hF011⟩
        ·rw[z2Q hYl]
         refine⟨?_,(hrec.mono (F':=fun k=>w.heap.size≤k∧k<w10.heap.size) (A':=fun k=>k=b) (fun k h1 h2=>⟨⟨by omega,by omega⟩,h2⟩)).keep hk11 (fun k h1 _ h3=>by have:=hDl k h3;omega),⟨by omega,hbl10⟩,fun k h1=>Nat.lt_of_lt_of_le h1.2 s1011,?_⟩
         ·have h9:=hk11.get hh10 hbF
          rw[h9];rfl
         ·have he:=zdQ D 2
          rw[z8S,← H2.out.2.2.1] at he;exact⟨by show (flat L).length≤_;omega,by unfold half;omega,by unfold half;omega,he,sp4,Nat.le_refl _⟩
        ·rcases hF11 k h2 with h3 | h3
         ·have:=hDl k h3;omega
         ·omega)
       rw[if_pos y0,y0];clear hkc10 hk310 hk010 hYl hRR sp1 sp2 sp4 hh10 hBl hDl hD11 hk11 hF11 hk011 hF011 y0;go_wp2_with (at_builtin;refine z0A ?_;intro q hq);exact HF.out
end
section
open DM BM WM
def Calm (D:Dk):Prop:=D.left=none∧D.down=false
theorem z9N {D:Dk} (h:Calm D) (i:Nat) (hi:i<D.safe.length) (b:Sec) (hb:b.length=32):DM.write D (i:Int) b=(0,{ D with waits:=D.waits ++ [(i,b)] }):=by
 have ha:DM.act D=(true,D):=by unfold DM.act;rw[h.2,h.1];rfl
 unfold DM.write;rw[h.2,ha];rw[if_neg (by simp),if_neg (by omega)];simp[h.2]
theorem z6Y {D:Dk} (h:Calm D):DM.sync D=(0,{ D with safe:=now D,waits:=[] }):=by
 have ha:DM.act D=(true,D):=by unfold DM.act;rw[h.2,h.1];rfl
 unfold DM.sync;rw[ha];simp
theorem zdS (ep:Nat) (b:List UInt8) {s:Nat} (hs:6≤s) (hb:b.length=32 * ((s - 2) / 2)):∀ k i D,Calm D→D.safe.length=s→i+k≤(s - 2) / 2→(lay ep b i k D).1=0∧Calm (lay ep b i k D).2∧(lay ep b i k D).2.safe=D.safe
 | 0,i,D,hc,_,_=>⟨rfl,hc,rfl⟩
 | k+1,i,D,hc,hl,hik=>by
   have hh:half D=(s - 2) / 2:=by unfold half;rw[hl]
   have hw:=z9N hc (WM.first D ep+i) (z3R ep i (by omega) (by omega)) (z0Q b i) (by unfold z0Q;rw[List.length_take,List.length_drop];omega);unfold lay;rw[hw];simp only[if_true];exact zdS ep b hs hb k (i+1) { D with waits:=D.waits ++ [(WM.first D ep+i,z0Q b i)] } hc hl (by omega)
theorem zaW {D:Dk} {G:Lg} {b:List UInt8} (hc:Calm D) (h6:6≤D.safe.length) (hd:G.dead=false) (hf:(flat G.l).length≤32 * half D) (hb:b.length≤1024) :
  if room D G<b.length+10 then WM.append D G b=(5,D,G)
  else (WM.append D G b).1=0∧(WM.append D G b).2.2 = { G with l:=G.l ++ [b] }∧Calm (WM.append D G b).2.1∧(WM.append D G b).2.1.safe=D.safe:=by
 have hg:gone D G=false:=by unfold gone;rw[hd,hc.2];rfl
 split
 ·rename_i h
  unfold WM.append;rw[hg,if_neg (by simp),if_neg (by omega),if_pos h]
 ·rename_i h
  have hsn:=z3G G.l b;have hfit:(flat (G.l ++ [b])).length≤32 * half D:=by unfold room at h;omega
  have hal:(area D (G.l ++ [b])).length=32 * half D:=z1P hfit
  obtain⟨h1,h2,h3⟩:=zdS G.ep (area D (G.l ++ [b])) (s:=D.safe.length) h6 hal (((flat (G.l ++ [b])).length - 1) / 32 - (flat G.l).length / 32+1) ((flat G.l).length / 32) D hc rfl
   (by have:(D.safe.length - 2) / 2=half D:=rfl;omega)
  unfold WM.append;rw[hg,if_neg (by simp),if_neg (by omega),if_neg h];simp only;rw[h1];refine⟨rfl,?_,h2,h3⟩;obtain⟨ep,l,safe,dead⟩:=G;simp only at hd;subst hd;rfl
theorem zdK (D:Dk) (G:Lg) (b:List UInt8):(WM.append D G b).2.1.safe.length=D.safe.length:=by
 unfold WM.append;split
 ·rfl
 ·split
  ·rfl
  ·split
   ·rfl
   ·exact z6M _ _ _ _ _
theorem zlZ (D:Dk) (G:Lg) (L:List (List UInt8)):(WM.reset D G L).2.1.safe.length=D.safe.length:=by
 unfold WM.reset;split
 ·rfl
 ·split
  ·rfl
  ·split
   ·rfl
   ·simp only
    split <;> exact z8K _ _ _
namespace WM
open DM BM Go.Proofs.YtkjofdocgaiedaaGreat
def z1S (D:Dk) (p:Nat):Sec:=(now D).getD p []
theorem zqJ {D E:Dk} {i:Nat} {b:Sec} (hs:E.safe=D.safe) (hw:E.waits=D.waits ++ [(i,b)]):now E=(now D).set i b:=by
 unfold now;rw[hs,hw,z7V];rfl
theorem z9G {D E:Dk} {i:Nat} {b:Sec} (hs:E.safe=D.safe) (hw:E.waits=D.waits ++ [(i,b)]) (hi:i<D.safe.length) (p:Nat):z1S E p=if p=i then b else z1S D p:=by
 have hl:=z1G D;unfold z1S;rw[zqJ hs hw,List.getD_eq_getElem?_getD,List.getElem?_set]
 by_cases h:i=p
 ·subst h
  rw[if_pos rfl,if_pos (by omega),if_pos rfl];rfl
 ·rw[if_neg h,if_neg (fun e=>h e.symm),List.getD_eq_getElem?_getD]
theorem z7K {D E:Dk} (hs:E.safe=now D) (hw:E.waits = []) (p:Nat):z1S E p=z1S D p:=by
 unfold z1S now;rw[hs,hw];rfl
theorem z7H {D:Dk} (hd:D.down=false) (i:Nat) (hi:i<D.safe.length):DM.read D (i:Int)=(z1S D i,0):=by
 unfold DM.read z1S;rw[hd,if_neg (by simp),if_neg (by omega)];simp
theorem zfJ {D:Dk} (ok:Ok D) (i:Nat) (hi:i<D.safe.length):(z1S D i).length=32:=by
 have hl:=z1G D;have:=ok.now _ (List.getElem_mem (l:=now D) (n:=i) (by omega));unfold z1S;rw[List.getD_eq_getElem?_getD,List.getElem?_eq_getElem (by omega)];exact this
theorem zjH {D:Dk} {i:Nat} {b:Sec} (h:(DM.write D (i:Int) b).1=0):i<D.safe.length∧b.length=32∧(DM.write D (i:Int) b).2.safe=D.safe∧(DM.write D (i:Int) b).2.waits=D.waits ++ [(i,b)]:=by
 unfold DM.write at h ⊢;split at h
 ·cases h
 ·rename_i h1
  rw[if_neg h1];split at h
  ·cases h
  ·rename_i h2
   rw[if_neg h2];split at h
   ·rename_i h3
    rw[if_pos h3];refine⟨by omega,by omega,z1R D,?_⟩;show (DM.act D).2.waits ++ [((i:Int).toNat,b)]=_;rw[z2B];simp
   ·cases h
theorem zjL {D:Dk} {i:Nat} {b:Sec} (hi:i<D.safe.length) (hb:b.length=32) (h:(DM.write D (i:Int) b).1≠0):(DM.write D (i:Int) b).1=6∧(DM.write D (i:Int) b).2.safe=D.safe∧(DM.write D (i:Int) b).2.waits=D.waits:=by
 unfold DM.write at h ⊢;split
 ·exact⟨rfl,rfl,rfl⟩
 ·rename_i h1
  rw[if_neg h1] at h;rw[if_neg (by omega)] at h ⊢;split
  ·rename_i h3
   rw[if_pos h3] at h;exact absurd rfl h
  ·exact⟨rfl,z1R D,z2B D⟩
theorem zpF {D:Dk} (h:(DM.sync D).1=0):(DM.sync D).2.safe=now D∧(DM.sync D).2.waits = []:=by
 unfold DM.sync at h ⊢;split at h
 ·rename_i h3
  rw[if_pos h3];refine⟨?_,rfl⟩;show now (DM.act D).2=_;unfold now;rw[z1R,z2B]
 ·cases h
theorem zpE {D:Dk} (h:(DM.sync D).1≠0):(DM.sync D).1=6∧(DM.sync D).2.safe=D.safe∧(DM.sync D).2.waits=D.waits:=by
 unfold DM.sync at h ⊢;split
 ·rename_i h3
  rw[if_pos h3] at h;exact absurd rfl h
 ·exact⟨rfl,z1R D,z2B D⟩
theorem ziG {D E:Dk} (h:E.safe=D.safe) (ep:Nat):WM.first E ep=WM.first D ep:=by unfold WM.first half;rw[h]
theorem z5G {D E:Dk} (h:E.safe.length=D.safe.length):half E=half D:=by unfold half;rw[h]
theorem z4A (ep:Nat) (b:List UInt8):∀ k i (D:Dk),6≤D.safe.length→i+k≤half D→b.length=32 * half D→
  (lay ep b i k D).2.safe=D.safe∧(∃ ws,(lay ep b i k D).2.waits=D.waits ++ ws∧∀ x ∈ ws,∃ j,i≤j∧j<i+k∧x=(WM.first D ep+j,z0Q b j))∧((lay ep b i k D).1≠0→(lay ep b i k D).1=6)∧
  ((lay ep b i k D).1=0→∀ p,(∀ j,i≤j→j<i+k→p=WM.first D ep+j→z1S (lay ep b i k D).2 p=z0Q b j)∧((∀ j,i≤j→j<i+k→p≠WM.first D ep+j)→z1S (lay ep b i k D).2 p=z1S D p))
 | 0,i,D,_,_,_=>⟨rfl,⟨[],by simp[lay],by simp⟩,fun h=>absurd rfl h,fun _ p=>⟨fun j h1 h2=>by omega,fun _=>rfl⟩⟩
 | k+1,i,D,h6,hik,hb=>by
   have hfl:=z3R (D:=D) ep i h6 (by omega);have hsl:(z0Q b i).length=32:=by unfold z0Q;rw[List.length_take,List.length_drop];omega
   unfold lay;simp only
   by_cases h0:(DM.write D ((WM.first D ep+i:Nat):Int) (z0Q b i)).1=0
   ·rw[if_pos h0]
    obtain⟨_,_,w1,w2⟩:=zjH h0;have hn:=fun p=>z9G w1 w2 hfl p;have hF:=ziG w1 ep;have hH:half (DM.write D ((WM.first D ep+i:Nat):Int) (z0Q b i)).2=half D:=z5G (by rw[w1]);obtain⟨i1,⟨ws,i2,i3⟩,i4,i5⟩:=z4A ep b k (i+1) _ (by rw[w1];exact h6) (by rw[hH];omega) (by rw[hH];exact hb);generalize (DM.write D ((WM.first D ep+i:Nat):Int) (z0Q b i)).2=E at *;rw[hF] at i3 i5;refine⟨i1.trans w1,⟨(WM.first D ep+i,z0Q b i) :: ws,by rw[i2,w2];simp,fun x hx=>?_⟩,i4,fun h p=>?_⟩
    ·rcases List.mem_cons.1 hx with rfl | hx
     ·exact⟨i,Nat.le_refl _,by omega,rfl⟩
     ·obtain⟨j,j1,j2,j3⟩:=i3 x hx
      exact⟨j,by omega,by omega,j3⟩
    ·obtain⟨q1,q2⟩:=i5 h p
     refine⟨fun j j1 j2 j3=>?_,fun hne=>?_⟩
     ·by_cases hj:j=i
      ·subst hj
       rw[q2 (fun j' a1 a2 a3=>by omega),hn,if_pos j3]
      ·exact q1 j (by omega) (by omega) j3
     ·rw[q2 (fun j a1 a2=>hne j (by omega) (by omega)),hn,if_neg (hne i (Nat.le_refl _) (by omega))]
   ·rw[if_neg h0]
    obtain⟨w0,w1,w2⟩:=zjL hfl hsl h0;exact⟨w1,⟨[],by rw[w2,List.append_nil],by simp⟩,fun _=>w0,fun h=>absurd h h0⟩
theorem gd0 (l:List UInt8) (k:Nat):l.getD k 0=(l[k]?).getD 0:=List.getD_eq_getElem?_getD
theorem z3N (b:List UInt8) (i k:Nat) (hk:k<32):(z0Q b i)[k]?=b[32 * i+k]?:=by
 unfold z0Q;rw[List.getElem?_take,if_pos hk,List.getElem?_drop]
theorem z8R {b:List UInt8} {h:Nat} (hb:b.length=32 * h) {i:Nat} (hi:i<h):(z0Q b i).length=32:=by
 unfold z0Q;rw[List.length_take,List.length_drop];omega
theorem zfM {a b:List UInt8} {h i:Nat} (ha:a.length=32 * h) (hb:b.length=32 * h) (hi:i<h) (he:∀ k,k<32→a[32 * i+k]?=b[32 * i+k]?):z0Q a i=z0Q b i:=by
 apply List.ext_getElem?;intro k
 by_cases hk:k<32
 ·rw[z3N _ _ _ hk,z3N _ _ _ hk,he k hk]
 ·rw[List.getElem?_eq_none (by rw[z8R ha hi];omega),List.getElem?_eq_none (by rw[z8R hb hi];omega)]
theorem zgL (B:List UInt8) (en:Nat):(clean B en).length=B.length:=by unfold clean;rw[List.length_append,List.length_take,List.length_replicate];omega
theorem zgS {B:List UInt8} {en j:Nat} (hj:j<B.length):(clean B en)[j]?=some (if j<en then B.getD j 0 else 0):=by
 unfold clean
 by_cases h:j<en
 ·rw[List.getElem?_append_left (by rw[List.length_take];omega),List.getElem?_take,if_pos h,if_pos h,gd _ _ hj]
 ·rw[List.getElem?_append_right (by rw[List.length_take];omega),List.length_take,List.getElem?_replicate,if_pos (by omega),if_neg h]
theorem zqF {B:List UInt8} {en i:Nat} (h:dirty B en i=false) {k:Nat} (hk:k<32) (he:en≤32 * i+k):B.getD (32 * i+k) 0=0:=by
 unfold dirty at h;have h1:=List.any_eq_false.1 h k (List.mem_range.2 hk);simp only[Bool.and_eq_true,decide_eq_true_eq,not_and,Decidable.not_not] at h1;exact h1 he
theorem zlG {B:List UInt8} {en h i:Nat} (hb:B.length=32 * h) (hi:i<h) (hd:dirty B en i=false):z0Q (clean B en) i=z0Q B i:=
 zfM (by rw[zgL];exact hb) hb hi fun k hk=>by
  rw[zgS (by omega),gd B _ (by omega)];split
  ·rfl
  ·rw[zqF hd hk (by omega)]
theorem zgZ {B:List UInt8} {en h i:Nat} (hb:B.length=32 * h) (hi:i<h):dirty (clean B en) en i=false:=by
 unfold dirty;rw[List.any_eq_false];intro k hk;rw[List.mem_range] at hk;simp only[Bool.and_eq_true,decide_eq_true_eq,not_and,Decidable.not_not];intro he;rw[gd0,zgS (by omega),if_neg (by omega)];rfl
theorem zbT (ep:Nat) (B:List UInt8) (en:Nat):∀ k i wr (D:Dk),Calm D→Ok D→6≤D.safe.length→i+k≤half D→B.length=32 * half D→
  (wipe ep B en i k wr D).1=0∧Calm (wipe ep B en i k wr D).2.2∧Ok (wipe ep B en i k wr D).2.2∧(wipe ep B en i k wr D).2.2.safe=D.safe∧((wipe ep B en i k wr D).2.1=false→(wipe ep B en i k wr D).2.2=D)∧
  ∀ p,(∀ j,i≤j→j<i+k→p=WM.first D ep+j→z1S (wipe ep B en i k wr D).2.2 p=if dirty B en j then z0Q (clean B en) j else z1S D p)∧((∀ j,i≤j→j<i+k→p≠WM.first D ep+j)→z1S (wipe ep B en i k wr D).2.2 p=z1S D p)
 | 0,i,wr,D,hc,ok,_,_,_=>⟨rfl,hc,ok,rfl,fun _=>rfl,fun p=>⟨fun j h1 h2=>by omega,fun _=>rfl⟩⟩
 | k+1,i,wr,D,hc,ok,h6,hik,hb=>by
   have hfl:=z3R (D:=D) ep i h6 (by omega);have hcl:(clean B en).length=32 * half D:=by rw[zgL];exact hb
   have hsl:=z8R hcl (i:=i) (by omega);unfold wipe
   by_cases hd:dirty B en i=true
   ·rw[if_pos hd]
    have hw:=z9N hc (WM.first D ep+i) hfl (z0Q (clean B en) i) hsl;have hok:=ok.write ((WM.first D ep+i:Nat):Int) (z0Q (clean B en) i);simp only;rw[hw] at hok ⊢;simp only[if_true];obtain⟨E,hE⟩:∃ E:Dk,E = { D with waits:=D.waits ++ [(WM.first D ep+i,z0Q (clean B en) i)] }:=⟨_,rfl⟩;rw[← hE] at hok ⊢;have hEs:E.safe=D.safe:=by rw[hE]
    have hn:=fun p=>z9G (D:=D) (E:=E) hEs (by rw[hE]) hfl p;have hF:=ziG hEs ep;have hH:half E=half D:=z5G (by rw[hEs]);obtain⟨a1,a2,a3,a4,a5,a6⟩:=zbT ep B en k (i+1) true E (by rw[hE];exact hc) hok (by rw[hEs];exact h6) (by rw[hH];omega) (by rw[hH];exact hb);rw[hF] at a6;refine⟨a1,a2,a3,a4.trans hEs,fun h=>?_,fun p=>?_⟩
    ·exfalso
     have:∀ k i (D:Dk),(wipe ep B en i k true D).2.1=true:=by
      intro k
      induction k with
      | zero=>intro i D;rfl
      | succ k ih=>
        intro i D;unfold wipe;split
        ·simp only
         split
         ·exact ih _ _
         ·rfl
        ·exact ih _ _
     rw[this] at h;cases h
    ·obtain⟨q1,q2⟩:=a6 p
     refine⟨fun j j1 j2 j3=>?_,fun hne=>?_⟩
     ·by_cases hj:j=i
      ·subst hj
       rw[q2 (fun j' b1 b2 b3=>by omega),hn,if_pos j3,if_pos hd]
      ·have he:z1S E p=z1S D p:=by rw[hn,if_neg (by omega)]
       rw[q1 j (by omega) (by omega) j3,he]
     ·rw[q2 (fun j b1 b2=>hne j (by omega) (by omega)),hn,if_neg (hne i (Nat.le_refl _) (by omega))]
   ·rw[if_neg hd]
    obtain⟨a1,a2,a3,a4,a5,a6⟩:=zbT ep B en k (i+1) wr D hc ok h6 (by omega) hb;refine⟨a1,a2,a3,a4,a5,fun p=>?_⟩;obtain⟨q1,q2⟩:=a6 p;refine⟨fun j j1 j2 j3=>?_,fun hne=>q2 (fun j b1 b2=>hne j (by omega) (by omega))⟩
    by_cases hj:j=i
    ·subst hj
     rw[q2 (fun j' b1 b2 b3=>by omega),if_neg hd]
    ·exact q1 j (by omega) (by omega) j3
theorem zlW {D:Dk} (hd:D.down=false) (h6:6≤D.safe.length) (ep:Nat):WM.bytes D ep=((List.range (half D)).map fun i=>z1S D (WM.first D ep+i)).flatten:=by
 unfold WM.bytes;congr 1;apply List.map_congr_left;intro i hi;rw[List.mem_range] at hi;rw[z7H hd _ (z3R ep i h6 hi)]
theorem zfH (f:Nat→Sec) (hf:∀ i,(f i).length=32):∀ h,((List.range h).map f).flatten.length=32 * h∧∀ i k,i<h→k<32→((List.range h).map f).flatten[32 * i+k]?=(f i)[k]?
 | 0=>⟨rfl,fun i k h=>by omega⟩
 | h+1=>by
   obtain⟨h1,h2⟩:=zfH f hf h;rw[List.range_succ,List.map_append,List.flatten_append];simp only[List.map_cons,List.map_nil,List.flatten_cons,List.flatten_nil,List.append_nil];refine⟨by rw[List.length_append,h1,hf];omega,fun i k hi hk=>?_⟩
   by_cases hih:i<h
   ·rw[List.getElem?_append_left (by omega)]
    exact h2 i k hih hk
   ·have:i=h:=by omega
    subst this;rw[List.getElem?_append_right (by omega),h1];congr 1;omega
theorem zgW {D:Dk} (hd:D.down=false) (h6:6≤D.safe.length) (ok:Ok D) (ep:Nat):(WM.bytes D ep).length=32 * half D∧∀ i,i<half D→z0Q (WM.bytes D ep) i=z1S D (WM.first D ep+i):=by
 have hg:∀ h,h≤half D→((List.range h).map fun i=>z1S D (WM.first D ep+i))=(List.range h).map fun i=>if i<half D then z1S D (WM.first D ep+i) else List.replicate 32 0:=fun h hh=>by
  apply List.map_congr_left;intro i hi;rw[List.mem_range] at hi;rw[if_pos (by omega)]
 have hl:∀ i,(if i<half D then z1S D (WM.first D ep+i) else List.replicate 32 0:List UInt8).length=32:=fun i=>by
  split
  ·exact zfJ ok _ (z3R ep i h6 (by assumption))
  ·simp
 obtain⟨h1,h2⟩:=zfH _ hl (half D);rw[zlW hd h6,hg _ (Nat.le_refl _)];refine⟨h1,fun i hi=>?_⟩;apply List.ext_getElem?;intro k
 by_cases hk:k<32
 ·rw[z3N _ _ _ hk,h2 i k hi hk,if_pos hi]
 ·rw[List.getElem?_eq_none (by rw[z8R h1 hi];omega),List.getElem?_eq_none (by rw[zfJ ok _ (z3R ep i h6 hi)];omega)]
theorem zhA {D E:Dk} (hD:D.down=false) (hE:E.down=false) {i:Nat} (h1:i<D.safe.length) (h2:i<E.safe.length) (h:z1S E i=z1S D i):WM.head E i=WM.head D i:=by
 unfold WM.head;rw[z7H hD i h1,z7H hE i h2,h]
theorem zeD {D E:Dk} (hD:D.down=false) (hE:E.down=false) (h1:2≤D.safe.length) (h2:E.safe.length=D.safe.length) (h:∀ i,i<2→z1S E i=z1S D i):epoch E=epoch D:=by
 unfold epoch;rw[zhA hD hE (by omega) (by omega) (h 0 (by omega)),zhA hD hE (by omega) (by omega) (h 1 (by omega))]
theorem zaN (D:Dk) (ep:Nat):2≤WM.first D ep:=by unfold WM.first;omega
structure Opened (D D':Dk) (ep:Nat) (l:List (List UInt8)):Prop where
 eq:z1U D=(0,some ⟨ep,l,l.length,false⟩,D')
 calm:Calm D'
 ok:Ok D'
 size:D'.safe.length=D.safe.length
 area:∀ i,i<half D→z1S D' (WM.first D ep+i)=z0Q (z1A (half D) l) i
 rest:∀ p,(∀ i,i<half D→p≠WM.first D ep+i)→z1S D' p=z1S D p
 none:D.waits = []→D'.waits = []
 small:∀ r ∈ l,r.length≤1024
 fit:(flat l).length≤32 * half D
theorem znX {D:Dk} (hc:Calm D) (ok:Ok D) (h6:6≤D.safe.length) :
  ∃ D',Opened D D' (epoch D) (scan (WM.bytes D (epoch D)) ((WM.bytes D (epoch D)).length+1) 0).1:=by
 obtain⟨ep,hep⟩:=zX1 (epoch D);obtain⟨hbl,hbs⟩:=zgW hc.2 h6 ok ep;obtain⟨B,hB⟩:=zX1 (WM.bytes D ep);rw[← hB] at hbl hbs;obtain⟨s1,s2,s3,s4⟩:=z6V B (B.length+1) 0 (Nat.zero_le _);have hca:=zcJ hbl;obtain⟨r,hr⟩:=zX1 (scan B (B.length+1) 0);rw[← hr] at s1 s2 s3 s4 hca;obtain⟨a1,a2,a3,a4,a5,a6⟩:=zbT ep B r.2 (half D) 0 false D hc ok h6 (by omega) hbl;obtain⟨W,hW⟩:=zX1 (wipe ep B r.2 0 (half D) false D);rw[← hW] at a1 a2 a3 a4 a5 a6
 have har:∀ i,i<half D→z1S W.2.2 (WM.first D ep+i)=z0Q (z1A (half D) r.1) i:=fun i hi=>by
  rw[(a6 _).1 i (Nat.zero_le _) (by omega) rfl,← hca];split
  ·rfl
  ·rename_i hd
   rw[← hbs i hi,zlG hbl hi (by simpa using hd)]
 have hre:∀ p,(∀ i,i<half D→p≠WM.first D ep+i)→z1S W.2.2 p=z1S D p:=fun p hp=>(a6 p).2 fun j _ h2=>hp j (by omega)
 have hop:z1U D=if W.2.1 then (0,some ⟨ep,r.1,r.1.length,false⟩,(DM.sync W.2.2).2) else (0,some ⟨ep,r.1,r.1.length,false⟩,W.2.2):=by
  unfold z1U;rw[if_neg (by omega),if_neg (by simp[hc.2]),← hep,← hB];simp only;rw[← hr,← hW,a1,if_neg (by simp)];split
  ·rw[show (DM.sync W.2.2).1=0 by rw[z6Y a2],if_neg (by simp)]
  ·rfl
 rw[← hep,← hB,← hr];have hfit:(flat r.1).length≤32 * half D:=by omega
 by_cases hw:W.2.1=true
 ·rw[if_pos hw] at hop
  have hsy:=z6Y a2;have hok:=a3.sync;rw[hsy] at hop hok;have hn:=fun p=>z7K (D:=W.2.2) (E:={ W.2.2 with safe:=now W.2.2,waits:=[] }) rfl rfl p;refine⟨_,hop,a2,hok,by show (now W.2.2).length=_;rw[z1G,a4],fun i hi=>by rw[hn,har i hi],fun p hp=>by rw[hn,hre p hp],fun _=>rfl,s4,hfit⟩
 ·rw[if_neg hw] at hop
  refine⟨_,hop,a2,a3,by rw[a4],har,hre,fun h=>by rw[a5 (by simpa using hw)];exact h,s4,hfit⟩
theorem zlR {D:Dk} (hc:Calm D) (ok:Ok D) (h6:6≤D.safe.length) {ep:Nat} (hep:epoch D=ep) {l:List (List UInt8)} (hl:∀ r ∈ l,r.length≤1024) (hf:(flat l).length≤32 * half D)
  (ha:∀ i,i<half D→z1S D (WM.first D ep+i)=z0Q (z1A (half D) l) i):z1U D=(0,some ⟨ep,l,l.length,false⟩,D):=by
 obtain⟨hbl,hbs⟩:=zgW hc.2 h6 ok ep;have hal:=z1P hf
 have hB:WM.bytes D ep=z1A (half D) l:=by
  apply List.ext_getElem?;intro q
  by_cases hq:q<32 * half D
  ·have h1:=z3N (WM.bytes D ep) (q / 32) (q % 32) (by omega)
   have h2:=z3N (z1A (half D) l) (q / 32) (q % 32) (by omega);rw[hbs _ (by omega),ha _ (by omega),h2,show 32 * (q / 32)+q % 32=q by omega] at h1;exact h1.symm
  ·rw[List.getElem?_eq_none (by omega),List.getElem?_eq_none (by omega)]
 have hln:l.length<(z1A (half D) l).length+1:=by have:=zmF l;omega
 have hs:scan (z1A (half D) l) ((z1A (half D) l).length+1) 0=(l,(flat l).length):=by
  unfold z1A at hln ⊢;exact zgQ l _ _ hl hln
 have hd:∀ j,j<half D→dirty (z1A (half D) l) (flat l).length j=false:=fun j hj=>by
  have h1:z1A (half D) l=clean (z1A (half D) l) (flat l).length:=by
   unfold clean;rw[hal];show flat l ++ _=(flat l ++ _).take (flat l).length ++ _;rw[List.take_left]
  rw[h1];exact zgZ hal hj
 have hw:wipe ep (z1A (half D) l) (flat l).length 0 (half D) false D=(0,false,D):=by
  have:=z8W ep (z1A (half D) l) (flat l).length (half D) 0 0 false D (fun j _ h=>hd j (by omega));rw[Nat.add_zero] at this;rw[this];rfl
 unfold z1U;rw[if_neg (by omega),if_neg (by simp[hc.2]),hep,hB];simp only;rw[hs];simp only;rw[hw];simp
theorem ziJ {D:Dk} (h6:6≤D.safe.length) (ep:Nat) (b:List UInt8) (hb:b.length=32 * half D) (hh:(z0O ep).length=32) :
  ((z2N ep b D).1≠0→(z2N ep b D).1=6)∧((z2N ep b D).1=0→(z2N ep b D).2.waits = []∧(∀ i,i<half D→z1S (z2N ep b D).2 (WM.first D ep+i)=z0Q b i)∧z1S (z2N ep b D).2 (ep % 2)=z0O ep∧
    ∀ p,p≠ep % 2→(∀ i,i<half D→p≠WM.first D ep+i)→z1S (z2N ep b D).2 p=z1S D p):=by
 obtain⟨a1,-,a3,a4⟩:=z4A ep b (half D) 0 D h6 (by omega) hb;unfold z2N;generalize lay ep b 0 (half D) D=r at *;simp only
 by_cases h0:r.1=0
 ·rw[if_neg (by simpa using h0)]
  by_cases h1:(DM.sync r.2).1=0
  ·rw[if_neg (by simpa using h1)]
   obtain⟨s1,s2⟩:=zpF h1;have hn1:=fun p=>z7K s1 s2 p;have hsl:(DM.sync r.2).2.safe.length=D.safe.length:=by rw[z5W,a1]
   generalize (DM.sync r.2).2=y at *;have hep:ep % 2<y.safe.length:=by omega
   by_cases h2:(DM.write y ((ep % 2:Nat):Int) (z0O ep)).1=0
   ·rw[if_neg (by simpa using h2)]
    obtain⟨-,-,w1,w2⟩:=zjH h2;have hn2:=fun p=>z9G w1 w2 hep p;generalize (DM.write y ((ep % 2:Nat):Int) (z0O ep)).2=z at *;refine⟨fun h=>(zpE h).1,fun h=>?_⟩;obtain⟨t1,t2⟩:=zpF h;have hn3:=fun p=>z7K t1 t2 p;have hall:∀ p,z1S (DM.sync z).2 p=if p=ep % 2 then z0O ep else z1S r.2 p:=fun p=>by rw[hn3,hn2,hn1]
    have hfg:=zaN D ep;refine⟨t2,fun i hi=>?_,by rw[hall,if_pos rfl],fun p p1 p2=>?_⟩
    ·rw[hall,if_neg (by omega)]
     exact((a4 h0 _).1 i (Nat.zero_le _) (by omega) rfl)
    ·rw[hall,if_neg p1]
     exact(a4 h0 p).2 fun j _ hj=>p2 j (by omega)
   ·rw[if_pos (by simpa using h2)]
    exact⟨fun _=>(zjL hep hh h2).1,fun h=>absurd h h2⟩
  ·rw[if_pos (by simpa using h1)]
   exact⟨fun _=>(zpE h1).1,fun h=>absurd h h1⟩
 ·rw[if_pos (by simpa using h0)]
  exact⟨a3,fun h=>absurd h h0⟩
theorem znH {D:Dk} (hc:Calm D) (h6:6≤D.safe.length) (ep:Nat) (b:List UInt8) (hb:b.length=32 * half D) (hh:(z0O ep).length=32):(z2N ep b D).1=0∧Calm (z2N ep b D).2:=by
 obtain⟨l1,l2,l3⟩:=zdS ep b h6 hb (half D) 0 D hc rfl (by show 0+half D≤half D;omega);unfold z2N;simp only;rw[if_neg (by simpa using l1),z6Y l2];simp only;rw[if_neg (by simp)];have hsl:(now (lay ep b 0 (half D) D).2).length=D.safe.length:=by rw[z1G,l3]
 have hc2:Calm { (lay ep b 0 (half D) D).2 with safe:=now (lay ep b 0 (half D) D).2,waits:=[] }:=l2;rw[z9N hc2 (ep % 2) (by show ep % 2<(now _).length;omega) (z0O ep) hh];simp only;rw[if_neg (by simp)];rw[z6Y (D:={ (lay ep b 0 (half D) D).2 with safe:=now (lay ep b 0 (half D) D).2,waits:=[] ++ [(ep % 2,z0O ep)] }) l2];exact⟨rfl,l2⟩
theorem zkG (h:Nat) (l:List (List UInt8)) {q:Nat} (hq:q<(flat l).length):(z1A h l)[q]?=(flat l)[q]?:=by
 unfold z1A;rw[List.getElem?_append_left hq]
theorem zaT (h:Nat) (l:List (List UInt8)) {q:Nat} (hq:(flat l).length≤q) (hh:q<32 * h):(z1A h l)[q]?=some 0:=by
 unfold z1A;rw[List.getElem?_append_right hq,List.getElem?_replicate,if_pos (by omega)]
theorem ztA {D:Dk} (hd:D.down=false) {i:Nat} (hi:i<D.safe.length) (s:Sec) (h:z1S D i=s):WM.head D i=(match BM.get s 0 with
  | .no _=>none
  | .yes k body _=>if k≠1 then none else match uint body 0 with | .no _=>none | .yes n t=>if t=body.length∧n<4611686018427387904∧n % 2=i then some n else none):=by
 unfold WM.head;rw[z7H hd i hi,h];rfl
end WM
end
end Go.Proofs.YtkjofdocgaiedaaGreat
