/- Texts RwF, Wts, RwG, RwH, RwI in one. Conditions: as each law names them. -/
import Derived.Deep.CutBlock
import Derived.Deep.DeepCutAuto
import Derived.Deep.RegionHeld3
import Derived.Test.YtkjofdocgaiedaaGreatYav
import Derived.Test.YtkjofdocgaiedaaGreatYax
set_option maxRecDepth 20000
set_option maxHeartbeats 8000000
namespace Go.Proofs.YtkjofdocgaiedaaGreat
section
open Go.RowKit
open DM BM WM
theorem RefTo.next {d:Nat} {Fd F1:Nat→Prop} {w w1 w2:World} {D2:Dk} (hk:Keep Fd w w1) (hF:∀ k,F1 k→Fd k∨w.heap.size≤k) (h:RefTo d F1 w1 D2 w2):RefTo d Fd w D2 w2:=by
 obtain⟨F2,h1,h2,h3⟩:=h;exact⟨F2,h1,hk.next h2 (fun _ _ x=>x) (fun k hk' x=>(hF k x).elim id fun y=>by omega),fun k x=>(h3 k x).elim (hF k) fun y=>.inr (Nat.le_trans hk.size y)⟩
theorem RLogAt.disked {w w1:World} {b d:Nat} {F Fd:Nat→Prop} {D D1:Dk} {G:Lg} (H:RLogAt w b d F Fd D G) (hl:D1.safe.length=D.safe.length) (h:RefTo d Fd w D1 w1):RLogTo b d F Fd w D1 G w1:=by
 obtain⟨vl,vs,HL⟩:=H;obtain⟨Fd',hD,hk,hF⟩:=h;have hw:=HL.wal.keep hk fun k x y=>HL.apart k x y;rw[← z2W hl] at hw;refine⟨F,Fd',⟨vl,vs,hw,hD,fun k x y=>?_⟩,hk.mono fun _ _ x=>.inr x,fun _ x=>.inl x,hF⟩
 rcases hF k y with y | y
 ·exact HL.apart k x y
 ·have:=HL.wal.lt k x;omega
theorem RLogTo.step {w w1 w2:World} {b d:Nat} {F Fd F1 Fd1:Nat→Prop} {D2:Dk} {G2:Lg} (hk:Keep (fun k=>F k∨Fd k) w w1) (h1:∀ k,F1 k→F k∨w.heap.size≤k) (h2:∀ k,Fd1 k→Fd k∨w.heap.size≤k)
  (h:RLogTo b d F1 Fd1 w1 D2 G2 w2):RLogTo b d F Fd w D2 G2 w2:=by
 obtain⟨F2,Fd2,a1,a2,a3,a4⟩:=h;have s:=hk.size;refine⟨F2,Fd2,a1,hk.next a2 (fun _ _ x=>x) (fun k hk' x=>?_),fun k x=>?_,fun k x=>?_⟩
 ·rcases x with x | x
  ·rcases h1 k x with y | y
   ·exact .inl y
   ·omega
  ·rcases h2 k x with y | y
   ·exact .inr y
   ·omega
 ·rcases a3 k x with y | y
  ·exact h1 k y
  ·right;omega
 ·rcases a4 k x with y | y
  ·exact h2 k y
  ·right;omega
theorem znF (w:World) (b d:Nat) (F Fd:Nat→Prop) (D:Dk) (G:Lg) (H:RLogAt w b d F Fd D G) (hfew:D.waits.length≤900000) :
  Calls Tryz.prog 150 #[.pointer (some ⟨b,0,none⟩)] w fun e w'=>
   e = .returned (.int .i64 (WM.z4B D G).1)∧RLogTo b d F Fd w (WM.z4B D G).2.1 (WM.z4B D G).2.2 w':=by
 obtain⟨R,hR⟩:=zX1 (WM.z4B D G);rw[← hR];have HR:=hid hR;have hgo:=zfU w b d F Fd D G H;clear hR
 cases hg:gone D G with
 | true=>
   rw[hg] at hgo;have hres:R=(6,D,WM.mark D G):=by rw[HR.out];unfold WM.z4B;rw[if_pos hg]
   have HRes:=hid hres;clear hres hg;go_enter Tryz.func150,Tryz.ntmps150;go_wp2_with fail;refine hgo.mono ?_;rintro e w1 ⟨rfl,ht⟩;have HT:=hid ht;clear ht;go_wp2_with fail;go_ret;rw[HRes.out];exact⟨rfl,HT.out⟩
 | false=>
   rw[hg,zjF hg] at hgo;obtain⟨Y,hY⟩:=zX1 (DM.sync D);have hres:R=if Y.1=0 then (0,Y.2,{ G with safe:=G.l.length }) else (Y.1,Y.2,{ G with dead:=true }):=by rw[HR.out,hY];unfold WM.z4B;rw[hg];rfl
   have HRes:=hid hres;have Hg:=hid hg;clear hres hg;go_enter Tryz.func150,Tryz.ntmps150;go_wp2_with fail;refine hgo.mono ?_;rintro e w1 ⟨rfl,F1,Fd1,hL1,hk1,hF1,hFd1⟩;have H1:=hid (zA1 hL1 (zA1 hk1 (zA1 hF1 hFd1)));obtain⟨vl,vs,HL⟩:=hL1;have hh:=HL.wal.head;unfold z2A at hh;obtain⟨h0,h1,h2,h3,h4,hf,hb⟩:=z1O hh;have hsy:=zbO w1 d Fd1 D HL.disk (by omega);rw[← hY] at hsy;have hYl:Y.2.safe.length=D.safe.length:=by rw[hY];exact z6A D
   have HYl:=hid hYl;clear hh HL hk1 hF1 hFd1 hY hYl h1 h2 h3 h4;go_wp2_with fail;refine hsy.mono ?_;rintro e w2 ⟨rfl,ht2⟩;have hto:=RLogTo.step H1.out.2.1 H1.out.2.2.1 H1.out.2.2.2 (H1.out.1.disked HYl.out ht2);obtain⟨F2,Fd2,hL2,hk2,hF2,hFd2⟩:=hto;have H2:=hid (zA1 hL2 (zA1 hk2 (zA1 hF2 hFd2)));obtain⟨vl2,vs2,HL2⟩:=hL2;have hh2:=HL2.wal.head;unfold z2A at hh2;clear h0 hf;obtain⟨h0,h1,h2,h3,h4,hf,hb2⟩:=z1O hh2;obtain⟨adl,cl,rfl,-⟩:=HL2.wal.recs.row.form;clear hh2 HL2 hk2 hF2 hFd2 ht2
   by_cases hy:Y.1=0
   ·rw[if_pos hy] at HRes
    have hk3:Keep (fun k=>k=b) w2 (w2.setCell ⟨b,3,none⟩ (.int .i64 (G.l.length:Nat))):=kst
    have HZ:=hid (show RLogTo b d F Fd w Y.2 { G with safe:=G.l.length } (w2.setCell ⟨b,3,none⟩ (.int .i64 (G.l.length:Nat))) from
     RLogTo.step H2.out.2.1 H2.out.2.2.1 H2.out.2.2.2 (H2.out.1.set hk3 rfl ⟨H2.out.1.ok.fit,H2.out.1.ok.two,H2.out.1.ok.few,H2.out.1.ok.ep,H2.out.1.ok.small,Nat.le_refl _⟩ (fun vl h=>by rw[z0A h 3 (.int .i64 (G.l.length:Nat))];rfl)))
    rw[hy];clear hk3 hy;go_wp2_with fail;go_ret;rw[HRes.out];exact⟨rfl,HZ.out⟩
   ·rw[if_neg hy] at HRes
    have u1:(Y.1 == 0)=false:=by simp[hy]
    have u2:(Y.1 != 0)=true:=by simp[hy]
    have u3:decide (Y.1=0)=false:=by simp[hy]
    have hk3:Keep (fun k=>k=b) w2 (w2.setCell ⟨b,4,none⟩ (.bool true)):=kst
    have HZ:=hid (show RLogTo b d F Fd w Y.2 { G with dead:=true } (w2.setCell ⟨b,4,none⟩ (.bool true)) from
     RLogTo.step H2.out.2.1 H2.out.2.2.1 H2.out.2.2.2 (H2.out.1.set hk3 rfl (H2.out.1.ok.die true) (fun vl h=>by rw[z0A h 4 (.bool true)];rfl)))
    clear hk3 hy;go_wp2_with fail;go_ret;rw[HRes.out];exact⟨rfl,HZ.out⟩
end
section
open DM BM WM
theorem ziI {D:Dk} (h:D.safe.length≤2048):half D≤1023:=by unfold half;omega
theorem z8B {D:Dk} (h:D.safe.length≤2048) (G:Lg) (b:List UInt8):(WM.append D G b).2.1.waits.length≤D.waits.length+2048:=by
 have hh:=ziI h;unfold WM.append;split
 ·exact Nat.le_add_right _ _
 ·split
  ·exact Nat.le_add_right _ _
  ·split
   ·exact Nat.le_add_right _ _
   ·rename_i h3
    have h1:=z3V G.l b;have h2:=z7U G.ep (area D (G.l ++ [b])) (((flat (G.l ++ [b])).length - 1) / 32 - (flat G.l).length / 32+1) ((flat G.l).length / 32) D;unfold room at h3;simp only;omega
theorem zcE (D:Dk) (G:Lg):(WM.z4B D G).2.1.waits.length≤D.waits.length:=by
 unfold WM.z4B;split
 ·exact Nat.le_refl _
 ·have:=z5F D
  simp only;split <;> exact this
theorem zmQ {D:Dk} (h:D.safe.length≤2048) (ep:Nat) (b:List UInt8):(z2X ep b D).2.waits.length≤D.waits.length+1024:=by
 have hh:=ziI h;unfold z2X;have h1:=z7U ep b (half D) 0 D;generalize lay ep b 0 (half D) D=r at *;simp only;split
 ·omega
 ·have h2:=z5F r.2
  generalize DM.sync r.2=y at *;split
  ·omega
  ·have h3:=z2V y.2 ((ep % 2:Nat):Int) (z0R ep)
   generalize DM.write y.2 ((ep % 2:Nat):Int) (z0R ep)=z at *;split
   ·omega
   ·have h4:=z5F z.2
    omega
theorem zjD {D:Dk} (h:D.safe.length≤2048) (G:Lg) (L:List (List UInt8)):(WM.reset D G L).2.1.waits.length≤D.waits.length+1024:=by
 have h1:=zmQ h (G.ep+1) (area D L);unfold WM.reset;split
 ·exact Nat.le_add_right _ _
 ·split
  ·exact Nat.le_add_right _ _
  ·split
   ·exact Nat.le_add_right _ _
   ·simp only
    split <;> exact h1
theorem ziQ {D:Dk} (h:D.safe.length≤2048):(z2C D).2.2.waits.length≤D.waits.length+1024:=by
 have hh:=ziI h;unfold z2C;split
 ·exact Nat.le_add_right _ _
 ·split
  ·exact Nat.le_add_right _ _
  ·simp only
   have h1:=z8M (epoch D) (WM.bytes D (epoch D)) (scan (WM.bytes D (epoch D)) ((WM.bytes D (epoch D)).length+1) 0).2 (half D) 0 false D;generalize wipe (epoch D) (WM.bytes D (epoch D)) (scan (WM.bytes D (epoch D)) ((WM.bytes D (epoch D)).length+1) 0).2 0 (half D) false D=r at *;split
   ·exact Nat.le_trans h1 (by omega)
   ·split
    ·have h2:=z5F r.2.2
     split
     ·exact Nat.le_trans h2 (by omega)
     ·exact Nat.le_trans h2 (by omega)
    ·exact Nat.le_trans h1 (by omega)
end
section
open Go.RowKit
open DM BM WM
structure RSt (w:World) (b d ep sf:Nat) (vl:Value) (dead:Bool) (Fd:Nat→Prop) (DX:Dk) (wX:World):Prop where
 keep:Keep (fun k=>Fd k∨k=b) w wX
 disk:∃ Fd',RefAt wX d Fd' DX∧∀ k,Fd' k→Fd k∨w.heap.size≤k
 head:wX.heap[b]?=some (.cells (z2A d ep vl sf dead) 119 (0,0))
structure RcRel (w:World) (b d ep sf:Nat) (L:List (List UInt8)) (i:Nat) (wr:World):Prop where
 new:∃ vl vs,wr.heap[b]?=some (.cells (z2A d ep vl sf false) 119 (0,0))∧Recs wr (fun k=>w.heap.size≤k) (fun k=>k=b) vl (L.take i) vs
 keep:Keep (fun k=>k=b) w wr
theorem RSt.later {w wX wY:World} {b d ep sf:Nat} {vl:Value} {dead:Bool} {Fd:Nat→Prop} {DX:Dk} (H:RSt w b d ep sf vl dead Fd DX wX) (hk:Keep (fun _=>False) wX wY):RSt w b d ep sf vl dead Fd DX wY:=by
 obtain⟨F',h1,h2⟩:=H.disk;exact⟨H.keep.next hk (fun _ _ x=>x) (fun _ _ x=>x.elim),⟨F',h1.keep hk fun _ _ x=>x,h2⟩,hk.get H.head id⟩
theorem ziJ (w:World) (b d:Nat) (F Fd:Nat→Prop) (D:Dk) (G:Lg) (H:RLogAt w b d F Fd D G) (ao:Option Addr) (c:Nat) (L:List (List UInt8)) (_hL:Lists w ao L) (hap:∀ w',Keep (fun k=>F k∨Fd k) w w'→Lists w' ao L) (hn:L.length≤1000000000) (hfew:D.waits.length≤700000) :
  Calls Tryz.prog 116 #[.pointer (some ⟨b,0,none⟩),.slice ao L.length c] w fun e w'=>
   e = .returned (.int .i64 (WM.reset D G L).1)∧RLogTo b d F Fd w (WM.reset D G L).2.1 (WM.reset D G L).2.2 w':=by
 obtain⟨R,hR⟩:=zX1 (WM.reset D G L);rw[← hR];have HR:=hid hR;have hgo:=zfU w b d F Fd D G H;have hok:=H.ok;have hsml:=z5E H.diskOk;obtain⟨n,hnl⟩:=zX1 (L.length);have HN:=hid hnl;rw[← hnl] at hn ⊢;have HL0:=hid hap;clear hR _hL hnl hap
 cases hg:gone D G with
 | true=>
   rw[hg] at hgo;have hres:R=(6,D,WM.mark D G):=by rw[HR.out];unfold WM.reset;rw[if_pos hg]
   have HRes:=hid hres;clear hres hg hok hsml;go_enter Tryz.func116,Tryz.ntmps116;go_wp2_with fail;refine hgo.mono ?_;rintro e w1 ⟨rfl,ht⟩;have HT:=hid ht;clear ht;go_wp2_with fail;go_ret;rw[HRes.out];exact⟨rfl,HT.out⟩
 | false=>
   rw[hg,zjF hg] at hgo;have Hg:=hid hg;have Hok:=hid hok;have hep:=hok.ep;clear hg hok;go_enter Tryz.func116,Tryz.ntmps116;go_wp2_with fail;refine hgo.mono ?_;rintro e w1 ⟨rfl,F1,Fd1,hL1,hk1,hF1,hFd1⟩;have H1:=hid (zA1 hL1 (zA1 hk1 (zA1 hF1 hFd1)));have hfr:=zaJ w1 ao c L (HL0.out w1 hk1) (by have:=HN.out;omega);rw[← HN.out] at hfr;obtain⟨vl,vs,HL⟩:=hL1;have hh:=HL.wal.head;have hhead:=HL.wal.head;unfold z2A at hh;obtain⟨h0,h1,h2,h3,h4,hf,hb⟩:=z1O hh;obtain⟨adl,cl,rfl,-⟩:=HL.wal.recs.row.form;have HL:=hid HL;have Hhead:=hid hhead;clear hh hk1 hF1 hFd1 hhead
   have same:∀ (c:Int),R=(c,D,G)→∀ wX,Keep (fun _=>False) w1 wX→c=R.1∧RLogTo b d F Fd w R.2.1 R.2.2 wX:=fun c h wX hk=>by
    rw[h];exact⟨rfl,RLogTo.step H1.out.2.1 H1.out.2.2.1 H1.out.2.2.2 (H1.out.1.toLater hk)⟩
   have Same:=hid same;clear same;go_wp2_with fail;refine hfr.mono ?_;intro e w2 hp;unfold FramesPost at hp
   by_cases hany:L.any (fun x=>decide (1024<x.length))=true
   ·rw[if_pos hany] at hp
    obtain⟨rfl,rfl⟩:=hp;have hS:=Same.out 3 (by rw[HR.out];unfold WM.reset;rw[Hg.out,if_neg (by simp),if_pos hany]) w2 (Keep.refl _ _);have HS:=hid hS;clear hS hany;go_wp2_with fail;go_ret;rw[← HS.out.1];exact⟨rfl,HS.out.2⟩
   rw[if_neg hany] at hp
   by_cases hbig:65536<(flat L).length
   ·rw[if_pos hbig] at hp
    obtain⟨rfl,hk2⟩:=hp;have hS:=Same.out 5 (by rw[HR.out];unfold WM.reset;rw[Hg.out,if_neg (by simp),if_neg hany,if_pos (.inl (by omega))]) w2 hk2;have HS:=hid hS;clear hS hany hk2 hbig;go_wp2_with fail;go_ret;rw[← HS.out.1];exact⟨rfl,HS.out.2⟩
   rw[if_neg hbig] at hp;obtain⟨v2,rfl,hf2⟩:=hp;obtain⟨fl,hfl⟩:=zX1 ((flat L).length);obtain⟨ad2,c2,hv2,-⟩:=hf2.row.form;rw[← hfl] at hv2;subst hv2;obtain⟨nn,hnn⟩:=zX1 (32 * half D);obtain⟨h,hhd⟩:=zX1 (half D);have g1:(32:Int) * (h:Int)=(nn:Int):=by omega
   have g2:=wi64 nn (by omega);obtain⟨ep1,hep1⟩:=zX1 (G.ep+1);have g3:(G.ep:Int)+1=(ep1:Int):=by omega
   have g4:=wu64 ep1 (by omega);have hhf:=z4N w2 d Fd1 D (HL.out.disk.keep hf2.keep fun _ _ x=>x);rw[← hhd] at hhf;have hh2:=hf2.keep.get Hhead.out id;clear h0 h1 h2 h3 h4 hf;obtain⟨h0,h1,h2,h3,h4,hf,hb2⟩:=z1O (show w2.heap[b]?=some (.cells #[_,_,_,_,_] _ (0,0)) from hh2);have Hf2:=hid hf2;have HE:=hid (zA1 hfl (zA1 hnn (zA1 hhd hep1)));have Hany:=hid hany;have hflb:fl≤65536:=by omega
   have hnnb:nn≤65536:=by omega
   clear hf2 hfl hnn hhd hep1 hany hbig hsml hh2
   by_cases hfull:nn<fl
   ·have hS:=Same.out 5 (by rw[HR.out];unfold WM.reset;rw[Hg.out,if_neg (by simp),if_neg Hany.out,if_pos (.inl (by have:=HE.out;omega))]) w2 Hf2.out.keep
    have HS:=hid hS;have t1:(nn:Int)<(fl:Int):=by omega
    clear hS;go_wp2_with fail;refine hhf.mono ?_;rintro e w3 ⟨rfl,rfl⟩;go_wp2_with fail;go_ret;rw[← HS.out.1];exact⟨rfl,HS.out.2⟩
   have t1:¬ (nn:Int)<(fl:Int):=by omega
   have t2:decide ((nn:Int)<(fl:Int))=false:=decide_eq_false t1;have t3:decide (nn<fl)=false:=decide_eq_false hfull
   by_cases hlast:ep1=4611686018427387904
   ·have hS:=Same.out 5 (by rw[HR.out];unfold WM.reset;rw[Hg.out,if_neg (by simp),if_neg Hany.out,if_pos (.inr (by have:=HE.out;omega))]) w2 Hf2.out.keep
    have HS:=hid hS;have t4:((ep1:Int) == 4611686018427387904)=true:=by rw[hlast];rfl
    clear hS;go_wp2_with fail;refine hhf.mono ?_;rintro e w3 ⟨rfl,rfl⟩;go_wp2_with fail;go_ret;rw[← HS.out.1];exact⟨rfl,HS.out.2⟩
   have t4:((ep1:Int) == 4611686018427387904)=false:=by simp;omega
   have t5:decide (ep1=4611686018427387904)=false:=decide_eq_false hlast
   have hres:R=if (z2X ep1 (z1F (half D) L) D).1=0 then (0,(z2X ep1 (z1F (half D) L) D).2,⟨ep1,L,L.length,false⟩) else ((z2X ep1 (z1F (half D) L) D).1,(z2X ep1 (z1F (half D) L) D).2,{ G with dead:=true }):=by
    obtain⟨a1,a2,a3,a4⟩:=HE.out;rw[HR.out];unfold WM.reset;rw[Hg.out,if_neg (by simp),if_neg Hany.out,if_neg (by omega),a4];rfl
   have HRes:=hid hres;clear hres Same;go_wp2_with fail;refine hhf.mono ?_;rintro e w2 ⟨rfl,rfl⟩;go_wp2_with fail;obtain⟨R1,hR1⟩:=zX1 (lay ep1 (z1F (half D) L) 0 h D);have hgd:G.dead=false:=by have h:=Hg.out;unfold gone at h;simp only[Bool.or_eq_false_iff] at h;exact h.1
   have htwo:2≤h:=by rw[HE.out.2.2.1];exact Hok.out.two
   have hbF:¬ Fd1 b:=HL.out.apart b HL.out.wal.self;have hFl:=HL.out.disk.lt;have hbl1:=HL.out.wal.lt b HL.out.wal.self
   have hsmall:∀ x ∈ L,x.length≤1024:=fun x hx=>by
    have h1:=Hany.out;rw[Bool.not_eq_true,List.any_eq_false] at h1;have:=h1 x hx;simp at this;exact this
   have hfit:(flat L).length≤32 * half D:=by have:=HE.out;omega
   have HSm:=hid (zA1 hsmall hfit)
   have hfull:∀ wX,Keep (fun _=>False) w2 wX→Calls Tryz.prog 114 #[.pointer (some ⟨b,0,none⟩),.slice ao n c] wX fun e w'=>∃ ad8 c8,e = .returned (.slice ad8 nn c8)∧
     (w'.cell? ⟨b,0,none⟩=some (.pointer (some ⟨d,0,none⟩))∧w'.cell? ⟨b,1,none⟩=some (.int .u64 (G.ep:Nat)))∧Hid (Fresh w2 (.slice ad8 nn c8) (z1F (half D) L) w'∧nn≤c8):=by
    intro wX hX;have b0:=h0;rw[← World.cell?_of_block (hX.block _ hb2 id)] at b0;have hf:=zhP wX b d Fd1 D b0 ((HL.out.disk.keep Hf2.out.keep fun _ _ x=>x).keep hX fun _ _ x=>x) ao c L (((HL0.out w1 H1.out.2.1).keep Hf2.out.keep).keep hX) (by have:=HN.out;omega) HSm.out.1 HSm.out.2;rw[← HN.out] at hf;refine hf.mono ?_;rintro e w' ⟨v,rfl,hfr⟩;obtain⟨ad8,c8,hv,hc8,-⟩:=hfr.row.form;have hal:(z1F (half D) L).length=nn:=by rw[z1Y HSm.out.2,HE.out.2.1]
    rw[hal] at hv hc8;subst hv;have hk:=hX.nx hfr.keep;exact⟨ad8,c8,rfl,⟨by rw[World.cell?_of_block (hk.block _ hb2 id)];exact h0,by rw[World.cell?_of_block (hk.block _ hb2 id)];exact h1⟩,hid ⟨hfr.since hX,hc8⟩⟩
   have hhalf2:Calls Tryz.prog 132 #[.pointer (some ⟨d,0,none⟩)] w2.drew fun e w'=>e = .returned (.int .i64 (h:Nat))∧w'=w2.drew:=by
    rw[HE.out.2.2.1];exact z4N w2.drew d Fd1 D ((HL.out.disk.keep Hf2.out.keep fun _ _ x=>x).keep (Keep.refl (fun _=>False) _).drew fun _ _ x=>x)
   have hhalf3:∀ wX,Keep (fun _=>False) w2 wX→Calls Tryz.prog 132 #[.pointer (some ⟨d,0,none⟩)] wX fun e w'=>e = .returned (.int .i64 (h:Nat))∧w'=wX:=fun wX hX=>by
    rw[HE.out.2.2.1];exact z4N wX d Fd1 D ((HL.out.disk.keep Hf2.out.keep fun _ _ x=>x).keep hX fun _ _ x=>x)
   obtain⟨h9,hh9⟩:=zX1 (h - 1);have t6:(h:Int) - 1=(h9:Int):=by omega
   have t7:=wi64 h9 (by omega)
   have hlay:∀ wX ad8 c8,Fresh w2 (.slice ad8 nn c8) (z1F (half D) L) wX∧nn≤c8→Calls Tryz.prog 115 #[.pointer (some ⟨b,0,none⟩),.int .u64 (ep1:Nat),.slice ad8 nn c8,.int .i64 0,.int .i64 (h9:Nat)] wX fun e w'=>e = .returned (.int .i64 R1.1)∧
     (w'.cell? ⟨b,0,none⟩=some (.pointer (some ⟨d,0,none⟩))∧w'.cell? ⟨b,1,none⟩=some (.int .u64 (G.ep:Nat)))∧Hid (RSt w1 b d G.ep G.safe (.slice adl G.l.length cl) (decide (R1.1≠0)) Fd1 R1.2 w'):=by
    rintro wX ad8 c8 ⟨hfr,hc8⟩;have hX:=hfr.keep;have hal:(z1F (half D) L).length=nn:=by rw[z1Y HSm.out.2,HE.out.2.1]
    have hk1X:=Hf2.out.keep.nx hX;have hcs:Cells wX ad8 nn 1 (z0B (z1F (half D) L)):=by have h:=Cells.of_row (show Row wX _ 1 (.slice ad8 nn c8) nn _ from hal ▸ hfr.row);exact h
    have hla:=zkA wX b d G.ep ep1 G.safe 0 h nn c8 (.slice adl G.l.length cl) G.dead Fd1 D (z1F (half D) L) ad8 (hk1X.get Hhead.out id) (HL.out.disk.keep hk1X fun _ _ x=>x) hbF hcs
     (fun x hx=>by
      have h1:=hfr.own x.block (by rw[hx];rfl);have h2:=Hf2.out.keep.size
      exact⟨fun y=>by have:=hFl _ y;omega,by omega⟩) HE.out.2.1 hc8 (Nat.zero_le _) (by have:=HE.out.2.2.1;omega) (h9:Int) (by omega) (by omega)
    rw[Nat.sub_zero,← hR1] at hla;refine hla.mono ?_;rintro e w' ⟨rfl,⟨Fd',hD',hF'⟩,hk',hh'⟩;rw[hgd,Bool.false_or] at hh';obtain⟨z0,z1,-⟩:=z1O (show w'.heap[b]?=some (.cells #[_,_,_,_,_] _ (0,0)) from hh');exact⟨rfl,⟨z0,z1⟩,hid ⟨hk1X.next hk' (fun _ _ x=>x.elim) (fun _ _ x=>x),⟨Fd',hD',fun k x=>(hF' k x).imp id fun y=>Nat.le_trans hk1X.size y⟩,hh'⟩⟩
   have HFull:=hid hfull;have HHalf:=hid hhalf3;have HLay:=hid hlay;have HR1:=hid hR1;have HGd:=hid hgd;clear hfull hhalf2 hhalf3 hlay hR1 hgd hsmall hfit hh9 hhf
   go_cut [7] (fun s7 wx=>s7 = .int .i64 R1.1∧Hid (RSt w1 b d G.ep G.safe (.slice adl G.l.length cl) (decide (R1.1≠0)) Fd1 R1.2 wx))
   case first=>
    go_region_held3 (fun w'=>w'.cell? ⟨b,0,none⟩=some (.pointer (some ⟨d,0,none⟩))∧w'.cell? ⟨b,1,none⟩=some (.int .u64 (G.ep:Nat)))
     (first | exact⟨h0,h1⟩ | assumption)
     (first
      | (go_simp;go_at_call 114;refine(HFull.out _ (Keep.refl _ _).drew).mono ?_;rintro e w3 ⟨ad8,c8,rfl,hz3,HF3⟩;go_simp)
      | (go_simp;go_at_call 132;refine(HHalf.out _ (by first | exact HF3.out.1.keep | exact(Keep.refl _ _).drew)).mono ?_;rintro e w4 ⟨rfl,rfl⟩;go_simp)
      | (go_simp;go_at_call 115;refine(HLay.out _ _ _ HF3.out).mono ?_;rintro e w5 ⟨rfl,hz5,HS5⟩;go_simp))
    all_goals (go_wp2_with (at_builtin;refine z0H ?_;intro q hq);go_meet;exact⟨rfl,HS5⟩)
   case rest=>
    obtain⟨rfl,HS⟩:=hcut;obtain⟨TW,hTW⟩:=zX1 (z2X ep1 (z1F (half D) L) D);have hTl:TW.2.safe.length=D.safe.length:=by rw[hTW,z9L]
    have hTe:TW=if R1.1≠0 then R1 else if (DM.sync R1.2).1≠0 then DM.sync R1.2 else
      if (DM.write (DM.sync R1.2).2 ((ep1 % 2:Nat):Int) (z0R ep1)).1≠0 then DM.write (DM.sync R1.2).2 ((ep1 % 2:Nat):Int) (z0R ep1) else DM.sync (DM.write (DM.sync R1.2).2 ((ep1 % 2:Nat):Int) (z0R ep1)).2:=by rw[hTW,HR1.out,HE.out.2.2.1];rfl
    have hR1w:R1.2.waits.length≤703000:=by rw[HR1.out];have:=z7U ep1 (z1F (half D) L) h 0 D;omega
    rw[← hTW] at HRes
    have bad:∀ (c:Int) (DX:Dk) (wX:World) (dd:Bool),c≠0→TW=(c,DX)→RSt w1 b d G.ep G.safe (.slice adl G.l.length cl) dd Fd1 DX wX→c=R.1∧RLogTo b d F Fd w R.2.1 R.2.2 (wX.setCell ⟨b,4,none⟩ (.bool true)):=by
     intro c DX wX dd hc hT hst;have hRR:R=(c,DX,{ G with dead:=true }):=by rw[HRes.out,hT,if_neg hc]
     rw[hRR];rw[hT] at hTl;refine⟨rfl,RLogTo.step H1.out.2.1 H1.out.2.2.1 H1.out.2.2.2 ?_⟩;obtain⟨Fd',hD',hF'⟩:=hst.disk;have hFb:¬ Fd' b:=fun x=>(hF' b x).elim hbF fun y=>by omega
     have hk4:Keep (fun k=>k=b) wX (wX.setCell ⟨b,4,none⟩ (.bool true)):=kst;have hkk:Keep (fun k=>Fd1 k∨k=b) w1 (wX.setCell ⟨b,4,none⟩ (.bool true)):=hst.keep.next hk4 (fun _ _ x=>x) (fun _ _ x=>.inr x)
     have hw:RWalIs (wX.setCell ⟨b,4,none⟩ (.bool true)) b d F1 (half D) { G with dead:=true } (.slice adl G.l.length cl) vs:=
      HL.out.wal.head2 hkk (fun k x y=>y.elim (fun z=>absurd z (HL.out.apart k x)) id) rfl (by rw[z0A hst.head 4 (.bool true)];rfl) (HL.out.wal.ok.die true)
     rw[← z2W hTl] at hw;refine⟨F1,Fd',⟨_,vs,hw,hD'.keep hk4 fun k x y=>by subst y;exact hFb x,fun k x y=>?_⟩,hkk.mono fun k _ x=>?_,fun _ x=>.inl x,hF'⟩
     ·rcases hF' k y with z | z
      ·exact HL.out.apart k x z
      ·have:=HL.out.wal.lt k x;omega
     ·rcases x with x | x
      ·exact .inr x
      ·subst x;exact .inl HL.out.wal.self
    have Bad:=hid bad;have HTe:=hid hTe;have HTl:=hid hTl;clear bad hTe hTl hTW;clear h0 h1 h2 h3 h4 hf;obtain⟨h0,h1,h2,h3,h4,hf,hbc⟩:=z1O (show wc.heap[b]?=some (.cells #[_,_,_,_,_] _ (0,0)) from HS.out.head)
    by_cases r0:R1.1=0
    rotate_left
    ·have hB:=Bad.out R1.1 R1.2 wc _ r0 (by rw[HTe.out,if_pos r0]) HS.out
     have HB:=hid hB;have u1:(R1.1 == 0)=false:=by simp[r0]
     have u2:(R1.1 != 0)=true:=by simp[r0]
     have u3:decide (R1.1=0)=false:=by simp[r0]
     clear hB r0;go_wp2_with fail;go_ret;rw[← HB.out.1];exact⟨rfl,HB.out.2⟩
    have hS0:RSt w1 b d G.ep G.safe (.slice adl G.l.length cl) false Fd1 R1.2 wc:=by have h:=HS.out;rw[show decide (R1.1≠0)=false by simp[r0]] at h;exact h
    have HTa:=hid (show TW=if (DM.sync R1.2).1≠0 then DM.sync R1.2 else
      if (DM.write (DM.sync R1.2).2 ((ep1 % 2:Nat):Int) (z0R ep1)).1≠0 then DM.write (DM.sync R1.2).2 ((ep1 % 2:Nat):Int) (z0R ep1) else DM.sync (DM.write (DM.sync R1.2).2 ((ep1 % 2:Nat):Int) (z0R ep1)).2 by rw[HTe.out,if_neg (by simp[r0])])
    obtain⟨Fd2,hD2,hF2⟩:=hS0.disk;have hsy:=zbO wc d Fd2 R1.2 hD2 (by omega);obtain⟨Y,hY⟩:=zX1 (DM.sync R1.2);have hYw:Y.2.waits.length≤703000:=by rw[hY];have:=z5F R1.2;omega
    rw[← hY] at HTa hsy;have HS0:=hid hS0;have HF2:=hid hF2;rw[r0];clear hY hS0 hF2 hD2 HTe HS r0;go_wp2_with fail;refine hsy.mono ?_;rintro e w3 ⟨rfl,ht3⟩
    have hS3:RSt w1 b d G.ep G.safe (.slice adl G.l.length cl) false Fd1 Y.2 w3:=by
     obtain⟨F3,g1,g2,g3⟩:=ht3;have hFb:¬ Fd2 b:=fun x=>(HF2.out b x).elim hbF fun y=>by omega
     exact⟨HS0.out.keep.next g2 (fun _ _ x=>x) (fun k hk x=>(HF2.out k x).elim .inl fun y=>by omega),⟨F3,g1,fun k x=>(g3 k x).elim (HF2.out k) fun y=>.inr (Nat.le_trans HS0.out.keep.size y)⟩,g2.get HS0.out.head hFb⟩
    have HS3:=hid hS3;clear ht3 h0 h1 h2 h3 h4 hf;obtain⟨h0,h1,h2,h3,h4,hf,hb3⟩:=z1O (show w3.heap[b]?=some (.cells #[_,_,_,_,_] _ (0,0)) from hS3.head);clear hS3
    by_cases y0:Y.1=0
    rotate_left
    ·have hB:=Bad.out Y.1 Y.2 w3 _ y0 (by rw[HTa.out,if_pos y0]) HS3.out
     have HB:=hid hB;have u1:(Y.1 == 0)=false:=by simp[y0]
     have u2:(Y.1 != 0)=true:=by simp[y0]
     have u3:decide (Y.1=0)=false:=by simp[y0]
     clear hB y0;go_wp2_with fail;go_ret;rw[← HB.out.1];exact⟨rfl,HB.out.2⟩
    have HTb:=hid (show TW=if (DM.write Y.2 ((ep1 % 2:Nat):Int) (z0R ep1)).1≠0 then DM.write Y.2 ((ep1 % 2:Nat):Int) (z0R ep1) else DM.sync (DM.write Y.2 ((ep1 % 2:Nat):Int) (z0R ep1)).2 by rw[HTa.out,if_neg (by simp[y0])]);clear HTa;rw[y0];go_wp2_with fail;refine(z4L w3 ep1 (by omega)).mono ?_;rintro e w4 ⟨v4,rfl,hf4⟩;obtain⟨ad4,c4,rfl,-⟩:=hf4.row.form;have hl4:=z6F ep1 (by omega);have HF4:=hid hf4;clear hf4;go_wp2_with fail;refine(zkL w4 1 ad4 (z0J ep1).length c4 (z0J ep1) (Cells.of_row HF4.out.row) (by omega)).mono ?_;rintro e w5 ⟨v5,rfl,hf5⟩;obtain⟨ad5,c5,rfl,-⟩:=hf5.row.form;obtain⟨ff,hff⟩:=zX1 ((frame 1 (z0J ep1)).length);have hff2:ff≤20:=by rw[hff,z1B];omega
    rw[← hff];have hf35:Fresh w3 (.slice ad5 ff c5) (frame 1 (z0J ep1) ++ List.replicate 0 0) w5:=by rw[hff];simpa using hf5.since HF4.out.keep
    have H05:=hid hf35;have Hff:=hid hff;clear hf5 hf35 hff;go_wp2_with fail
    go_loopw [8] (fun ov wr=>∃ (j:Nat) (ad:Option Addr) (cv t:Nat),t=ff+j∧t≤32∧ov = .slice ad t cv∧Hid (Fresh w3 (.slice ad t cv) (frame 1 (z0J ep1) ++ List.replicate j 0) wr)) (fun ov _=>32 - (match ov with | .slice _ n _=>n | _=>0))
    case atStart=>exact⟨0,ad5,c5,ff,rfl,by omega,rfl,H05⟩
    case round=>
     clear H05;obtain⟨j,ad,cv,t,ht,htn,rfl,HI⟩:=hrel;have Ht:=hid ht;clear ht
     by_cases htl:t<32
     ·have s1:(t:Int)<32:=by omega
      go_wp2_with (at_builtin;refine z0H ?_;intro q hq)
      (refine hq.out ?_;clear hq q)
      have hnew:=heap_alloc_new wr (.cells #[.int .u8 0] 5);have hk6:=kal wr (.cells #[.int .u8 0] 5);obtain⟨w6,hw6⟩:=zX1 (wr.alloc (.cells #[.int .u8 0] 5));rw[← hw6] at hnew hk6 ⊢;clear hw6
      have hc1:Cells w6 (some ⟨wr.heap.size,0,none⟩) 1 1 (z0B [0]):=by
       have:=Cells.one (x:=0) (by decide) (show w6.heap[wr.heap.size]?=some (.cells #[.int .u8 ((0:Nat):Int)] 5 (0,0)) from hnew);exact this
      refine wpList_plain rfl (fun K hK=>?_);refine z0G (r:=[0]) _ _ rfl rfl (HI.out.later hk6) (some ⟨wr.heap.size,0,none⟩) 1 1 rfl hc1 (by have:=Hff.out;have:=Ht.out;simp;omega) ?_;intro v7 w7 hf7 _;have e7:(frame 1 (z0J ep1) ++ List.replicate j 0) ++ [0]=frame 1 (z0J ep1) ++ List.replicate (j+1) 0:=by rw[List.append_assoc,List.replicate_succ']
      rw[e7] at hf7;obtain⟨ad7,c7,hv7,-⟩:=hf7.row.form;have hl7:(frame 1 (z0J ep1) ++ List.replicate (j+1) 0).length=t+1:=by have:=Hff.out;have:=Ht.out;simp;omega
      rw[hl7] at hv7;subst hv7;refine hK _ _ ?_;clear hK K;have HZ:=hid hf7;clear hf7 e7 hl7 hc1 hnew hk6;go_wp2_with fail;go_roundw
      case rel=>exact⟨j+1,ad7,c7,t+1,by have:=Ht.out;omega,by omega,rfl,HZ⟩
      case measure=>simp;omega
     ·obtain rfl:t=32:=by omega
      have s1:¬ ((32:Nat):Int)<32:=by omega
      have hsec:frame 1 (z0J ep1) ++ List.replicate j 0=z0R ep1:=by
       unfold z0R;have h2:=Hff.out;have h3:=Ht.out;rw[← h2,show j=32 - ff by omega]
      have hfr:=HI.out;rw[hsec] at hfr;have hSr:=HS3.out.later hfr.keep;obtain⟨Fdr,hD3,hFr⟩:=HS3.out.disk;have hDr:=hD3.keep hfr.keep (fun _ _ x=>x);have hD3l:=hD3.lt;clear h0 h1 h2 h3 h4 hf hsec;obtain⟨h0,h1,h2,h3,h4,hf,hbr⟩:=z1O (show wr.heap[b]?=some (.cells #[_,_,_,_,_] _ (0,0)) from hSr.head);have j0:=fun s:Later wr=>s.cell h0;have j1:=fun s:Later wr=>s.cell h1;obtain⟨m,hm⟩:=zX1 (ep1 % 2);have q3:((ep1:Int) % 2)=(m:Int):=by omega
      have q4:((ep1:Int).tmod 2)=(m:Int):=by rw[Int.tmod_eq_emod_of_nonneg (by omega)];exact q3
      have q5:=wi64 m (by omega);have hs13:=HS3.out.keep.size
      have hW:=fun s:Later wr=>zcY s.val d Fdr Y.2 (m:Int) ad 32 cv (z0R ep1) (hDr.keep s.keep fun _ _ x=>x)
       ((by have h:=Cells.of_row (show Row wr _ 1 (.slice ad 32 cv) 32 _ from(z8R ep1 (by omega)) ▸ hfr.row);exact h:Cells wr ad 32 1 _).later s)
       (fun _ x hx y=>by
        have k1:=hfr.own x.block (by rw[hx];rfl);have:=hD3l _ y
        omega) (by omega) (by decide) (by omega)
      obtain⟨Z,hZ⟩:=zX1 (DM.write Y.2 (m:Int) (z0R ep1));have hZw:Z.2.waits.length≤703002:=by rw[hZ];have:=z2V Y.2 (m:Int) (z0R ep1);omega
      simp only[← hZ] at hW;have hTz:TW=if Z.1≠0 then Z else DM.sync Z.2:=by rw[HTb.out,← hm,← hZ]
      have HTz:=hid hTz;have HW:=hid hW;have HSr:=hid hSr;have HFr:=hid hFr;clear hW hZ hTz hSr hFr hDr hD3 hD3l hfr hm HTb h0 h1 h2 h3 h4 hf;go_wp2_with fail
      (refine z1D 12 (by kernel_rfl) (by kernel_rfl) ?_;simp only[List.take_succ_cons,List.take_zero,List.drop_succ_cons,List.drop_zero];(repeat (go_big_quiet_step ((fail))));refine wpQuiet_nil ?_;rintro _ ⟨sq,rfl⟩)
      clear j0 j1;go_wp2_with fail;refine(HW.out sq).mono ?_;rintro e w6 ⟨rfl,ht6⟩
      have hS6:RSt w1 b d G.ep G.safe (.slice adl G.l.length cl) false Fd1 Z.2 w6:=by
       obtain⟨F3,g1,g2,g3⟩:=ht6;have hsq:=HSr.out.later sq.keep;have hFb:¬ Fdr b:=fun x=>(HFr.out b x).elim hbF fun y=>by omega
       exact⟨hsq.keep.next g2 (fun _ _ x=>x) (fun k hk x=>(HFr.out k x).elim .inl fun y=>by omega),⟨F3,g1,fun k x=>(g3 k x).elim (HFr.out k) fun y=>.inr (Nat.le_trans hsq.keep.size y)⟩,g2.get hsq.head hFb⟩
      have HS6:=hid hS6;obtain⟨h0,h1,h2,h3,h4,hf,hb6⟩:=z1O (show w6.heap[b]?=some (.cells #[_,_,_,_,_] _ (0,0)) from hS6.head);clear hS6 ht6
      by_cases z0:Z.1=0
      rotate_left
      ·have hB:=Bad.out Z.1 Z.2 w6 _ z0 (by rw[HTz.out,if_pos z0]) HS6.out
       have HB:=hid hB;have u1:(Z.1 == 0)=false:=by simp[z0]
       have u2:(Z.1 != 0)=true:=by simp[z0]
       have u3:decide (Z.1=0)=false:=by simp[z0]
       clear hB z0;go_wp2_with fail;go_ret;rw[← HB.out.1];exact⟨rfl,HB.out.2⟩
      obtain⟨X,hX⟩:=zX1 (DM.sync Z.2);have HTx:=hid (show TW=X by rw[HTz.out,if_neg (by simp[z0]),hX]);obtain⟨Fd6,hD6,hF6⟩:=HS6.out.disk;have hsy:=zbO w6 d Fd6 Z.2 hD6 (by omega);rw[← hX] at hsy;have HF6:=hid hF6;rw[z0];clear hX hF6 hD6 HTz z0;go_wp2_with fail;refine hsy.mono ?_;rintro e w8 ⟨rfl,ht8⟩
      have hS8:RSt w1 b d G.ep G.safe (.slice adl G.l.length cl) false Fd1 X.2 w8:=by
       obtain⟨F3,g1,g2,g3⟩:=ht8;have hFb:¬ Fd6 b:=fun x=>(HF6.out b x).elim hbF fun y=>by omega
       exact⟨HS6.out.keep.next g2 (fun _ _ x=>x) (fun k hk x=>(HF6.out k x).elim .inl fun y=>by omega),⟨F3,g1,fun k x=>(g3 k x).elim (HF6.out k) fun y=>.inr (Nat.le_trans HS6.out.keep.size y)⟩,g2.get HS6.out.head hFb⟩
      have HS8:=hid hS8;clear h0 h1 h2 h3 h4 hf;obtain⟨h0,h1,h2,h3,h4,hf,hb8⟩:=z1O (show w8.heap[b]?=some (.cells #[_,_,_,_,_] _ (0,0)) from hS8.head);clear hS8 ht8
      by_cases x0:X.1=0
      rotate_left
      ·have hB:=Bad.out X.1 X.2 w8 _ x0 (by rw[HTx.out]) HS8.out
       have HB:=hid hB;have u1:(X.1 == 0)=false:=by simp[x0]
       have u2:(X.1 != 0)=true:=by simp[x0]
       have u3:decide (X.1=0)=false:=by simp[x0]
       clear hB x0;go_wp2_with fail;go_ret;rw[← HB.out.1];exact⟨rfl,HB.out.2⟩
      have hRR:R=(0,X.2,⟨ep1,L,L.length,false⟩):=by rw[HRes.out,HTx.out,if_pos x0]
      have hXl:X.2.safe.length=D.safe.length:=by have:=HTl.out;rw[HTx.out] at this;exact this
      have HRR:=hid (zA1 hRR hXl);rw[x0];clear hRR hXl x0;go_wp2_with fail;have hk9:Keep (fun k=>k=b) w8 ((w8.setCell ⟨b,1,none⟩ (.int .u64 (ep1:Nat))).setCell ⟨b,2,none⟩ (.slice none 0 0)):=by refine Keep.setCell (Keep.setCell (Keep.refl _ _) (.inl ?_) _) (.inl ?_) _ <;> rfl
      have hh9:=z0A (z0A HS8.out.head 1 (.int .u64 (ep1:Nat))) 2 (.slice none 0 0);obtain⟨w9,hw9⟩:=zX1 ((w8.setCell ⟨b,1,none⟩ (.int .u64 (ep1:Nat))).setCell ⟨b,2,none⟩ (.slice none 0 0));rw[← hw9] at hk9 hh9 ⊢;clear hw9 h0 h1 h2 h3 h4 hf;have H9:=hid (show RcRel w8 b d ep1 G.safe L 0 w9 from⟨⟨.slice none 0 0,[],hh9,Recs.nil _ _ _⟩,hk9⟩);clear hk9 hh9
      have hkw8:Keep (fun k=>F k∨Fd k) w w8:=H1.out.2.1.next HS8.out.keep (fun _ _ x=>x) (fun k hk x=>by
       rcases x with x | x
       ·rcases H1.out.2.2.2 k x with z | z
        ·exact .inr z
        ·omega
       ·subst x
        rcases H1.out.2.2.1 k HL.out.wal.self with z | z
        ·exact .inl z
        ·omega)
      have hLs8:∀ wX,Keep (fun k=>k=b) w8 wX→Lists wX ao L:=fun wX hX=>HL0.out wX (hkw8.next hX (fun _ _ x=>x) (fun k hk x=>by
        subst x
        rcases H1.out.2.2.1 k HL.out.wal.self with z | z
        ·exact .inl z
        ·omega))
      have HLs8:=hid hLs8;have Hkw8:=hid hkw8;clear hkw8 hLs8
      go_loopw [10] (fun iv wx=>∃ i:Nat,i≤n∧iv = .int .i64 i∧Hid (RcRel w8 b d ep1 G.safe L i wx)) (fun iv _=>n - (intOf iv).toNat)
      case atStart=>exact⟨0,Nat.zero_le _,rfl,H9⟩
      case round=>
       clear H9;obtain⟨i,hi,rfl,HI⟩:=hrel;obtain⟨vli,vsi,hhi,hri⟩:=HI.out.new;obtain⟨adi,ci,rfl,-⟩:=hri.row.form;have hl1:(L.take i).length=i:=by rw[List.length_take];have:=HN.out;omega
       rw[hl1] at hhi;obtain⟨h0,h1,h2,h3,h4,hf,hbi⟩:=z1O (show wr.heap[b]?=some (.cells #[_,_,_,_,_] _ (0,0)) from hhi);have HRi:=hid (zA1 hhi (zA1 hri hl1));clear hhi hri
       by_cases hin:i<n
       ·have s2:(i:Int)<(n:Int):=by omega
        have hil:i<L.length:=by have:=HN.out;omega
        obtain⟨adl2,ao',c',rfl,hc,hc2,hcs⟩:=(HLs8.out wr HI.out.keep) i hil;obtain⟨x,hx⟩:=zX1 (L[i]);have htk:L.take (i+1)=L.take i ++ [x]:=by rw[List.take_succ_eq_append_getElem hil,hx]
        have hxs:=HSm.out.1 x (by rw[hx];exact List.getElem_mem hil);rw[← hx] at hc hc2 hcs;obtain⟨mm,hmm⟩:=zX1 (x.length);rw[← hmm] at hc hc2 hcs hxs;have HX:=hid (zA1 hcs (zA1 hmm htk));clear hx htk hcs hmm hl1;go_wp2_with fail;refine z0F [131] (by kernel_rfl) (by kernel_rfl) ?_
        repeat (first | (apply z0E (by rfl);(intro K w';go_simp;exact id)) | (apply z0I (by rfl);(intro K;go_simp;exact id)))
        refine z1X (by rfl) (by rfl) (fun K hK=>?_);go_simp;refine(zbL wr.drew ao' mm c' x (HX.out.1.keep (Keep.refl (fun _=>False) _).drew fun _ _ x=>x) (by omega)).mono ?_;rintro e w4 ⟨v4,rfl,hf4⟩;obtain⟨ad4,c4,hv4,-⟩:=hf4.row.form;rw[← HX.out.2.1] at hv4;subst hv4;go_simp;refine hK _ _ (Pre.of_keep hf4.keep) ?_;clear hK K;have HF4:=hid hf4;clear hf4 h0 h1 h2 h3 h4 hf
        (refine z1X (by rfl) (by rfl) (fun K hK=>?_);go_simp;refine hK _ _ (Pre.push _ rfl) ?_;clear hK K)
        obtain⟨w5,hw5⟩:=zX1 (w4.alloc (.cells #[.slice ad4 mm c4] 29));have hnew5:w5.heap[w4.heap.size]?=some (.cells #[.slice ad4 mm c4] 29):=by rw[hw5];exact heap_alloc_new w4 _
        have hk45:Keep (fun _=>False) w4 w5:=by rw[hw5];exact(Keep.refl _ _).alloc _
        rw[← hw5];clear hw5;have hk35:Keep (fun _=>False) wr w5:=(HF4.out.keep.undrew).next hk45 (fun _ _ x=>x) (fun _ _ x=>x);have hr5:=HRi.out.2.1.keep hk35 (fun _ _ _ x=>x);have hr5row:=hr5.row;rw[HRi.out.2.2] at hr5row;have H5:=hid (zA1 hk45 (zA1 hk35 hr5));refine z0K (by rfl) (by rfl) (fun K hK=>?_)
        refine z0S z7E _ _ rfl rfl hr5row (some ⟨w4.heap.size,0,none⟩) 1 1 [.slice ad4 mm c4] rfl
         ⟨rfl,fun _=>⟨_,rfl,fun j u hu=>by rw[z0L,Nat.zero_add,cell_of_row _ _ _ _ _ _ hnew5];simpa using hu⟩⟩ (by intro u hu;simp at hu;subst hu;rfl) (by unfold maxLen;omega) (by omega) ?_
        intro v6 w6 hr6 hk6 hv6;obtain⟨ad6,c6,rfl,-⟩:=hr6.form;refine hK _ _ ?_;clear hK K;have hcase:∀ k,(Value.slice adi i ci).ownBlock=some k→(Value.slice adi (List.take i L).length ci).ownBlock=some k:=fun k e=>by rw[← e];exact z1A _ _ _ _
        have hh6:=hk6.get (hk35.get HRi.out.1 id) (fun e=>(hr5.own b (hcase b e)).2 rfl);obtain⟨h0,h1,h2,h3,h4,hf,hb6⟩:=z1O (show w6.heap[b]?=some (.cells #[_,_,_,_,_] _ (0,0)) from hh6);have H6:=hid (zA1 hr6 (zA1 hk6 (zA1 hv6 (zA1 hh6 hcase))));clear hk45 hk35 hr5 hr5row hnew5 hr6 hk6 hv6 hh6 hcase
        repeat (apply z0E (by rfl);(intro K w';go_simp;exact id))
        (refine z0K (by rfl) (by rfl) (fun K hK=>?_);go_simp;refine hK _ _ ?_;clear hK K)
        refine z0P ?_;have hk7:Keep (fun k=>k=b) w6 (w6.setCell ⟨b,2,none⟩ (.slice ad6 (i+1) c6)):=kst;have hh7:=z0A H6.out.2.2.2.1 2 (.slice ad6 (i+1) c6);obtain⟨w7,hw7⟩:=zX1 (w6.setCell ⟨b,2,none⟩ (.slice ad6 (i+1) c6));rw[← hw7] at hk7 hh7 ⊢;clear hw7 h0 h1 h2 h3 h4 hf
        have HZ:=hid (show RcRel w8 b d ep1 G.safe L (i+1) w7 by
         obtain⟨a1,a2,a3⟩:=HRi.out;obtain⟨k45,k35,r5⟩:=H5.out;obtain⟨r6,k6,v6o,hh6,hcase⟩:=H6.out;have s8r:=HI.out.keep.size;have s35:=k35.size;have s56:=k6.size;have s34:wr.heap.size≤w4.heap.size:=HF4.out.keep.undrew.size;have s45:=k45.size;have hxl:=HX.out.2.1;refine⟨⟨.slice ad6 (i+1) c6,vsi ++ [.slice ad4 mm c4],by rw[hh7];rfl,?_⟩,?_⟩
         ·rw[HX.out.2.2]
          refine(r5.push (F':=fun k=>w8.heap.size≤k) (l:=x) (HF4.out.row.keep k45 (fun _ _ x=>x) |> fun h=>by rw[← hxl] at h ⊢;exact h) (fun k e=>?_) (by rw[a3];exact r6) (k6.mono fun k _ x=>hcase k x) (fun k x=>x) (fun k e=>?_)).keep hk7 (fun k _ h2 h3=>h2 h3)
          ·have e1:wr.drew.heap.size≤k:=HF4.out.own k e
           have e1':wr.heap.size≤k:=e1;refine⟨by omega,by omega,fun e'=>?_⟩;have:=a2.row.lt e';omega
          ·rcases v6o with ⟨_,h0⟩ | ⟨k',h2,h3⟩
           ·omega
           ·rw[e] at h2;cases h2
            rcases h3 with h3 | h3
            ·exact .inl (hcase k h3)
            ·exact .inr ⟨by omega,by omega,by omega⟩
         ·refine((HI.out.keep.next k35 (H:=fun k=>k=b) (fun _ _ x=>x) (fun _ _ x=>x.elim)).next k6 (H:=fun k=>k=b) (fun _ _ x=>x) (fun k hk x=>?_)).next hk7 (fun _ _ x=>x) (fun _ _ x=>x)
          have:=(r5.own k (hcase k x)).1
          omega)
        clear hk7 hh7;go_wp2_with fail;go_roundw
        case rel=>exact⟨i+1,by omega,by go_num,HZ⟩
        case measure=>simp[intOf];omega
       ·obtain rfl:n=i:=by omega
        have s2:¬ (n:Int)<(n:Int):=by omega
        clear hl1;go_wp2_with fail;go_ret;obtain⟨a1,a2,a3⟩:=HRi.out;obtain⟨hRR,hXl⟩:=HRR.out;have hk7:Keep (fun k=>k=b) wr (wr.setCell ⟨b,3,none⟩ (.int .i64 (n:Nat))):=kst;have hh7:=z0A a1 3 (.int .i64 (n:Nat));obtain⟨w7,hw7⟩:=zX1 (wr.setCell ⟨b,3,none⟩ (.int .i64 (n:Nat)));rw[← hw7] at hk7 hh7 ⊢;rw[hRR];refine⟨rfl,RLogTo.step H1.out.2.1 H1.out.2.2.1 H1.out.2.2.2 ?_⟩;have htl:L.take n=L:=by rw[HN.out,List.take_length]
        rw[htl] at a2;have hk87:Keep (fun k=>k=b) w8 w7:=HI.out.keep.next hk7 (fun _ _ x=>x) (fun _ _ x=>x);obtain⟨Fd',hD',hF'⟩:=HS8.out.disk;have hD8:=hD'.lt;have hFb:¬ Fd' b:=fun x=>(hF' b x).elim hbF fun y=>by omega
        have s18:=HS8.out.keep.size;have s8r:=HI.out.keep.size;have s87:=hk87.size;have hok:LgOk (half D) ⟨ep1,L,L.length,false⟩:=⟨HSm.out.2,Hok.out.two,Hok.out.few,by have:=of_decide_eq_false t5;show ep1<_;omega,HSm.out.1,Nat.le_refl _⟩
        have hw:RWalIs w7 b d (fun k=>k=b∨(w8.heap.size≤k∧k<w7.heap.size)) (half D) ⟨ep1,L,L.length,false⟩ (.slice adi (List.take n L).length ci) vsi:=by
         rw[htl];refine⟨?_,?_,.inl rfl,fun k x=>?_,hok⟩
         ·rw[hh7,← HN.out];rfl
         ·refine(a2.bound.mono (F':=fun k=>k=b∨(w8.heap.size≤k∧k<w7.heap.size)) (A':=fun k=>k=b) fun k h1 h2=>⟨.inr ⟨h1.1,by have:=hk7.size;omega⟩,h2⟩).keep hk7 (fun k _ h2 h3=>h2 h3)
         ·rcases x with x | x
          ·omega
          ·exact x.2
        rw[← z2W hXl] at hw;refine⟨_,Fd',⟨_,_,hw,hD'.keep hk87 fun k x y=>by subst y;exact hFb x,fun k x y=>?_⟩,?_,fun k x=>?_,hF'⟩
        ·rcases x with x | x
         ·subst x;exact hFb y
         ·have:=hD8 k y;omega
        ·refine HS8.out.keep.next hk87 (fun k _ x=>?_) fun k _ x=>?_
         ·rcases x with x | x
          ·exact .inr x
          ·subst x;exact .inl HL.out.wal.self
         ·subst x;exact .inl HL.out.wal.self
        ·rcases x with x | x
         ·subst x;exact .inl HL.out.wal.self
         ·right;omega
end
section
open Go.RowKit
open DM BM WM
theorem zbB (B:List UInt8) (i:Nat) (h:32 * i+32≤B.length):(z0U B i).length=32:=by unfold z0U;rw[List.length_take,List.length_drop];omega
theorem zpU (B:List UInt8) (i k:Nat) (x:UInt8) (hk:k<32) (_h:32 * i+32≤B.length):z0U (B.set (32 * i+k) x) i=(z0U B i).set k x:=by
 unfold z0U;rw[List.drop_set,if_neg (by omega),List.take_set];congr 1;omega
theorem z4H (B:List UInt8) (i k:Nat) (hk:k<32):(z0U B i).getD k 0=B.getD (32 * i+k) 0:=by
 unfold z0U;rw[List.getD_eq_getElem?_getD,List.getElem?_take,if_pos hk,List.getElem?_drop,List.getD_eq_getElem?_getD]
theorem znI (B:List UInt8) (en i:Nat) (h:32 * i+32≤B.length):z0U (mixA B en (32 * i)) i=z0U B i:=by
 unfold z0U mixA;have hl:((clean B en).take (32 * i)).length=32 * i:=by rw[List.length_take,z3G];omega
 rw[List.drop_append,hl,Nat.sub_self,List.drop_of_length_le (by omega),List.nil_append,List.drop_zero]
def WipedTo (w:World) (b d:Nat) (Fd:Nat→Prop) (Y:Int×Dk) (e:Ending) (w':World):Prop:=
 e = .returned (.tuple #[if Y.1=0 then .pointer (some ⟨b,0,none⟩) else .pointer none,.int .i64 Y.1])∧RefTo d Fd w Y.2 w'
structure WpRel (w:World) (d ep h:Nat) (Fd:Nat→Prop) (D:Dk) (B:List UInt8) (en i:Nat) (wf:Bool) (wr:World):Prop where
 ex:∃ F' D',WM.wipe ep B en 0 h false D=WM.wipe ep B en i (h - i) wf D'∧RefAt wr d F' D'∧(∀ k,F' k→Fd k∨w.heap.size≤k)∧D'.safe.length=D.safe.length∧D'.waits.length≤D.waits.length+i
 keep:Keep Fd w wr
theorem zlY (w:World) (b d ep en sf n c:Nat) (vl:Value) (dead:Bool) (Fd:Nat→Prop) (D:Dk) (B:List UInt8) (ao:Option Addr) (H:w.heap[b]?=some (.cells (z2A d ep vl sf dead) 119 (0,0)))
  (hD:RefAt w d Fd D) (hb:¬ Fd b) (hsrc:Cells w ao n 1 (z0B B)) (hap:∀ x,ao=some x→¬ Fd x.block) (hn:n=32 * half D) (hnc:n≤c) (_hen:en≤n) (hfew:D.waits.length≤800000) :
  Calls Tryz.prog 97 #[.pointer (some ⟨b,0,none⟩),.slice ao n c,.int .i64 (en:Nat)] w (WipedTo w b d Fd (z7K ep B en D)):=by
 have hfewD:=hD.ok.few;have hBl:B.length=n:=by have:=hsrc.1;rw[z0D] at this;omega
 obtain⟨h,hhd⟩:=zX1 (half D);have hh1023:h≤1023:=by rw[hhd];unfold half;omega
 obtain⟨Y,hY⟩:=zX1 (z7K ep B en D);obtain⟨Z,hZ⟩:=zX1 (WM.wipe ep B en 0 h false D);have hYZ:Y=if Z.1=0∧Z.2.1=true then DM.sync Z.2.2 else (Z.1,Z.2.2):=by rw[hY,hZ,hhd];rfl
 rw[← hY];obtain⟨Post,hPost⟩:=zX1 (WipedTo w b d Fd Y);rw[← hPost]
 have bad:∀ (cc:Int) (DX:Dk) (wX:World),cc≠0→Y=(cc,DX)→RefTo d Fd w DX wX→Post (.returned (.tuple #[.pointer none,.int .i64 cc])) wX:=fun cc DX wX h0 h1 h2=>by
  rw[hPost,h1];exact⟨by rw[if_neg h0],h2⟩
 have good:∀ (DX:Dk) (wX:World),Y=(0,DX)→RefTo d Fd w DX wX→Post (.returned (.tuple #[.pointer (some ⟨b,0,none⟩),.int .i64 0])) wX:=fun DX wX h1 h2=>by
  rw[hPost,h1];exact⟨by rw[if_pos rfl],h2⟩
 have Bad:=hid bad;have Good:=hid good;have HYZ:=hid (zA1 hYZ hZ);have HH:=hid (zA1 H (zA1 hsrc (zA1 hap (zA1 hn (zA1 hBl hhd)))));have H0:=hid (show WpRel w d ep h Fd D B en 0 false w from⟨⟨Fd,D,by rw[Nat.sub_zero],hD,fun _ x=>.inl x,rfl,by omega⟩,Keep.refl _ _⟩);have hblt:=z0M H;have hn2:n≤40000:=by omega
 clear bad good hYZ hZ hY hPost H hsrc hap hn hBl hhd hD;go_enter Tryz.func97,Tryz.ntmps97;go_wp2_with fail
 go_loopw [8,9,10,11,12,13] (fun fv iv _ _ _ _ wr=>∃ (i:Nat) (wf:Bool),i≤h∧iv = .int .i64 i∧fv = .bool wf∧Hid (WpRel w d ep h Fd D B en i wf wr)) (fun _ iv _ _ _ _ _=>h - (intOf iv).toNat)
 case atStart=>exact⟨0,false,Nat.zero_le _,rfl,rfl,H0⟩
 case round=>
  clear H0;obtain⟨i,wf,hi,rfl,rfl,HI⟩:=hrel;obtain⟨F',D',hl,hD',hF',hs',hw'⟩:=HI.out.ex;have hk:=HI.out.keep;have hh:=hk.get HH.out.1 hb;obtain⟨i0,i1,i2,i3,i4,if1,ib1⟩:=z1O (show wr.heap[b]?=some (.cells #[_,_,_,_,_] _ (0,0)) from hh);have hhf:=z4N wr d F' D' hD';rw[z2W hs',← HH.out.2.2.2.2.2] at hhf;have HX:=hid (zA1 hl (zA1 hD' (zA1 hF' (zA1 hs' (zA1 hw' (zA1 hk hh))))));clear hl hD' hF' hs' hw' hk hh
  by_cases hih:i<h
  ·have s1:(i:Int)<(h:Int):=by omega
   obtain⟨p,hp⟩:=zX1 (32 * i);have g3:32 * (i:Int)=(p:Int):=by omega
   have g4:=wi64 p (by omega);obtain⟨p2,hp2⟩:=zX1 (p+32);have g5:(p:Int)+32=(p2:Int):=by omega
   have g6:=wi64 p2 (by omega);obtain⟨hH0,hsrc,hap,hn,hBl,hhd⟩:=HH.out;have hpn:p2≤n:=by omega
   have hsl:∀ w,(Instr.sliceAt 29 (.slice ao n c) (some (.int .i64 (p:Int))) (some (.int .i64 (p2:Int))) none).run Tryz.prog w = .ok (.slice (z1J ao c p 1) 32 (c - p)) w:=fun w=>by
    have h:=z1W (P:=Tryz.prog) z0W ao n c .i64 .i64 p p2 (by omega) (by omega) w;rw[show p2 - p=32 by omega] at h;exact h
   have hsrcr:=hsrc.keep HX.out.2.2.2.2.2.1 (fun x hx=>hap x hx);have hcs:=(Cells.tail hsrcr p (by omega) hnc (by decide)).take 32 (by omega)
   have hsec:List.take (32 * 1) (List.drop (p * 1) (z0B B))=z0B (z0U B i):=by
    unfold z0U;simp[z0B,List.map_take,List.map_drop,hp]
   rw[hsec] at hcs;have hcopy:=zbL wr (z1J ao c p 1) 32 (c - p) (z0U B i) hcs (by decide);have hsl32:=zbB B i (by omega);have HP:=hid (zA1 hp (zA1 hpn (zA1 hBl hsl32)));generalize z1J ao c p 1=ta at *;clear hp hp2 hH0 hsrc hap hn hBl hhd hsrcr hcs hsec hsl32 hpn;go_wp2_with fail;refine hhf.mono ?_;rintro e w2 ⟨rfl,rfl⟩;go_wp2_with fail;refine hcopy.mono ?_;rintro e w3 ⟨v3,rfl,hf3⟩;have hr3:=hf3.row;rw[HP.out.2.2.2] at hr3;obtain⟨gs,cs,cur,fz,rfl,-⟩:=hr3.some (by decide);have hgs:=hf3.own gs rfl;have HF3:=hid hf3;have R0:=hid (show Row w3 5 1 (.slice (some ⟨gs,0,none⟩) 32 cs) 32 (z0B (z0U (mixA B en (32 * i+0)) i))∧Keep (fun k=>k=gs) w3 w3 from⟨by rw[Nat.add_zero,znI B en i (by have:=HP.out;omega)];exact hr3,Keep.refl _ _⟩);clear hf3 hr3 hcopy;go_wp2_with (at_builtin;refine z0H ?_;intro q hq)
   go_loopw [10,12] (fun dv kv wx=>∃ k:Nat,k≤32∧kv = .int .i64 k∧dv = .bool (z4E B en i k)∧Hid (Row wx 5 1 (.slice (some ⟨gs,0,none⟩) 32 cs) 32 (z0B (z0U (mixA B en (32 * i+k)) i))∧Keep (fun k=>k=gs) w3 wx)) (fun _ kv _=>32 - (intOf kv).toNat)
   case atStart=>exact⟨0,Nat.zero_le _,rfl,rfl,R0⟩
   case round=>
    clear R0;obtain⟨k,hk,rfl,rfl,HK⟩:=hrel
    by_cases hk32:k<32
    ·have s2:(k:Int)<32:=by omega
     obtain⟨q,hq⟩:=zX1 (p+k);have q1:(p:Int)+(k:Int)=(q:Int):=by omega
     have q3:=wi64 q (by have:=HP.out;omega);obtain⟨u,hu⟩:=zX1 (B.getD q 0);have hrow:=HK.out.1;have hqi:32 * i+k=q:=by have:=HP.out;omega
     have hsm:32 * i+32≤(mixA B en q).length:=by rw[z6T];have:=HP.out;omega
     rw[hqi] at hrow
     have hc:wr.cell? ⟨gs,k,none⟩=some (.int .u8 (u.toNat:Int)):=by
      rw[hrow.cell k (by omega)];have hl:=zbB (mixA B en q) i hsm;have hg:=z4H (mixA B en q) i k hk32;rw[hqi,z9Z B en q q (Nat.le_refl _) (by have:=HP.out;omega),← hu,List.getD_eq_getElem?_getD,List.getElem?_eq_getElem (by omega)] at hg;simp only[Option.getD_some] at hg;rw[z0B,List.getElem?_map,List.getElem?_eq_getElem (by omega),hg];rfl
     have hfz:=hrow.frozen k (by omega);have hu256:=u.toNat_lt;have hu0:u=0↔u.toNat=0:=⟨fun h=>by rw[h];rfl,fun h=>UInt8.toNat_inj.1 h⟩;have HS:=hid (zA1 (zbA B en i k) (zA1 (zhT B en q (by have:=HP.out;omega)) (zA1 (zeH B en q) (zA1 hrow (zA1 hqi (zA1 hu hsm))))));have HU:=hid hu0;clear hq hu hrow hqi hu0 hsm;generalize hub:u.toNat=ub at *;clear hub
     have stay:(q<en∨ub=0)→Hid (z4E B en i (k+1)=z4E B en i k∧Row wr 5 1 (.slice (some ⟨gs,0,none⟩) 32 cs) 32 (z0B (z0U (mixA B en (32 * i+(k+1))) i))):=fun h=>by
      obtain⟨z1,z2,z3,z4,z5,z6,z7⟩:=HS.out
      have e0:(clean B en).getD q 0=B.getD q 0:=by
       rw[z3]
       rcases h with h | h
       ·rw[if_pos h]
       ·split
        ·rfl
        ·rw[← z6];exact(HU.out.2 h).symm
      refine hid ⟨?_,?_⟩
      ·rw[z1,z5]
       rcases h with h | h
       ·rw[decide_eq_false (show ¬ en≤q by omega)];simp
       ·rw[← z6,HU.out.2 h];simp
      ·rw[show 32 * i+(k+1)=q+1 by omega,z2,e0]
       have hl:q<(mixA B en q).length:=by omega
       have hg:=z9Z B en q q (Nat.le_refl _) (by have:=HP.out;omega);have h5:=zkP (mixA B en q) q hl;rw[hg] at h5;rw[h5];exact z4
     by_cases c1:q<en
     ·have HZ:=stay (.inl c1)
      have t1:decide ((en:Int)≤(q:Int))=false:=decide_eq_false (by omega);have t2:decide (en≤q)=false:=decide_eq_false (by omega);clear stay hc hfz;rw[← HZ.out.1];go_wp2_with fail;go_roundw
      case rel=>exact⟨k+1,by omega,by go_num,by first | trivial | rfl,hid ⟨HZ.out.2,HK.out.2⟩⟩
      case measure=>simp[intOf];omega
     ·by_cases c2:ub=0
      ·have HZ:=stay (.inr c2)
       have t1:(en:Int)≤(q:Int):=by omega
       have t2:((ub:Int) != 0)=false:=by simp[c2]
       have t3:((ub:Int) == 0)=true:=by simp[c2]
       clear stay hfz;subst c2;rw[← HZ.out.1];go_wp2_with fail;go_roundw
       case rel=>exact⟨k+1,by omega,by go_num,by first | trivial | rfl,hid ⟨HZ.out.2,HK.out.2⟩⟩
       case measure=>simp[intOf];omega
      ·have t1:(en:Int)≤(q:Int):=by omega
       have t2:((ub:Int) != 0)=true:=by simp;omega
       have t3:((ub:Int) == 0)=false:=by simp;omega
       clear stay;go_wp2_with fail;have hkS:Keep (fun k=>k=gs) wr (wr.setCell ⟨gs,k,none⟩ (.int .u8 0)):=kst
       have HZ:=hid (show z4E B en i (k+1)=true∧Row (wr.setCell ⟨gs,k,none⟩ (.int .u8 0)) 5 1 (.slice (some ⟨gs,0,none⟩) 32 cs) 32 (z0B (z0U (mixA B en (32 * i+(k+1))) i))∧Keep (fun k=>k=gs) w3 (wr.setCell ⟨gs,k,none⟩ (.int .u8 0)) by
        obtain⟨z1,z2,z3,z4,z5,z6,z7⟩:=HS.out;refine⟨?_,?_,HK.out.2.next hkS (fun _ _ x=>x) (fun _ _ x=>x)⟩
        ·rw[z1,z5]
         have hb0:B.getD q 0≠0:=fun e=>c2 (HU.out.1 (by rw[z6];exact e));have hen:en≤q:=by omega
         rw[decide_eq_true hen,decide_eq_true hb0];simp
        ·rw[show 32 * i+(k+1)=q+1 by omega,z2,z3,if_neg c1,← z5,zpU _ i k 0 hk32 (by rw[z5];exact z7),z5]
         have h5:=z4.setOne k (by omega) (.int .u8 0) rfl;have h6:z0B ((z0U (mixA B en q) i).set k 0)=(z0B (z0U (mixA B en q) i)).set k (.int .u8 0):=(z6I _ k 0 (by decide)).symm;rw[h6]
         exact h5)
       go_roundw
       case rel=>exact⟨k+1,by omega,by go_num,by rw[HZ.out.1],hid HZ.out.2⟩
       case measure=>simp[intOf];omega
    ·obtain rfl:k=32:=by omega
     have s2:¬ ((32:Nat):Int)<32:=by omega
     have hdd:z4E B en i 32=dirty B en i:=rfl;rw[hdd];obtain⟨hl,hD',hF',hs',hw',hk',hh⟩:=HX.out;obtain⟨hrow,hkg⟩:=HK.out;rw[show 32 * i+32=(i+1) * 32 by omega,zjW] at hrow;have hs3:=HF3.out.keep.size;have hDl:=hD'.lt;have hkr:Keep (fun k=>k=gs∧False∨k=gs) w3 wr:=hkg.mono fun _ _ x=>.inr x;have hgF:¬ F' gs:=fun x=>by have:=hDl gs x;omega
     have hgb:b≠gs:=by omega
     have hDr:RefAt wr d F' D':=(hD'.keep HF3.out.keep fun _ _ x=>x).keep hkg fun k x y=>by subst y;exact hgF x
     have hhr:=hkg.get (HF3.out.keep.get hh id) hgb;have hkw:Keep Fd w wr:=(hk'.next HF3.out.keep (H:=Fd) (fun _ _ x=>x) (fun _ _ x=>x.elim)).next hkg (fun _ _ x=>x) (fun k hk x=>by have:=hk'.size;omega);obtain⟨j,hj⟩:∃ j,h - i=j+1:=⟨h - i - 1,by omega⟩;clear i0 i1 i2 i3 i4 if1 ib1;obtain⟨i0,i1,i2,i3,i4,if1,ib1⟩:=z1O (show wr.heap[b]?=some (.cells #[_,_,_,_,_] _ (0,0)) from hhr);have HX2:=hid (zA1 hl (zA1 hDr (zA1 hF' (zA1 hs' (zA1 hw' (zA1 hkw (zA1 hrow (zA1 hj (zA1 hgF hhr)))))))));clear hl hD' hF' hs' hw' hk' hh hrow hkg hs3 hDl hkr hgF hDr hhr hkw hj hdd HK HX
     cases hdi:dirty B en i with
     | false=>
       have HZ:=hid (show WpRel w d ep h Fd D B en (i+1) wf wr by
        obtain⟨hl,hDr,hF',hs',hw',hkw,hrow,hj,-,-⟩:=HX2.out;refine⟨⟨F',D',?_,hDr,hF',hs',by omega⟩,hkw⟩;rw[hl,hj,WM.wipe,hdi];simp only
        rw[if_neg (by simp),show h - (i+1)=j by omega])
       clear hdi;go_wp2_with (at_builtin;refine z0H ?_;intro q hq);go_roundw
       case rel=>exact⟨i+1,wf,by omega,by go_num,rfl,HZ⟩
       case measure=>simp[intOf];omega
     | true=>
       obtain⟨hl,hDr,hF',hs',hw',hkw,hrow,hj,hgF,hhr⟩:=HX2.out;obtain⟨q,hq⟩:=zX1 (WM.first D ep);have hq':q=WM.first D' ep:=by rw[hq,z5L hs']
       have hq2:q≤3000:=by
        rw[hq];unfold WM.first half;have:ep % 2=0∨ep % 2=1:=by omega
        rcases this with h | h <;> rw[h] <;> omega
       obtain⟨t,ht⟩:=zX1 (q+i);have g1:(q:Int)+(i:Int)=(t:Int):=by omega
       have g2:=wi64 t (by omega);have j0:=fun s:Later wr=>s.cell i0;have j1:=fun s:Later wr=>s.cell i1
       have HFi:=hid (show ∀ s:Later wr,Calls Tryz.prog 133 #[.pointer (some ⟨d,0,none⟩),.int .u64 (ep:Nat)] s.val fun e w'=>e = .returned (.int .i64 (q:Nat))∧Keep (fun _=>False) s.val w' from
        fun s=>by rw[hq'];exact(zaD s.val d F' D' (hDr.keep s.keep fun _ _ x=>x) ep).mono fun e w' ⟨h1,h2⟩=>⟨h1,by rw[h2];exact Keep.refl _ _⟩)
       have hW:=fun s:Later wr=>zcY s.val d F' D' (t:Int) (some ⟨gs,0,none⟩) 32 cs (z0U (clean B en) i) (hDr.keep s.keep fun _ _ x=>x) ((by have h:=Cells.of_row hrow;exact h:Cells wr (some ⟨gs,0,none⟩) 32 1 _).later s) (fun _ x hx=>by cases hx;exact hgF) (by omega) (by decide) (by omega);obtain⟨W,hWd⟩:=zX1 (DM.write D' (t:Int) (z0U (clean B en) i));simp only[← hWd] at hW
       have hst:WM.wipe ep B en i (h - i) wf D'=if W.1=0 then WM.wipe ep B en (i+1) j true W.2 else (W.1,true,W.2):=by
        rw[hj,WM.wipe,hdi,← hq',← ht,← hWd];rfl
       have hwl:W.2.safe.length=D.safe.length:=by rw[hWd,z3M];exact hs'
       have hww:W.2.waits.length≤D.waits.length+(i+1):=by rw[hWd];have:=z2V D' (t:Int) (z0U (clean B en) i);omega
       have HW:=hid hW;have HX3:=hid (zA1 hl (zA1 hF' (zA1 hkw (zA1 hst (zA1 hwl (zA1 hww hj))))));clear hl hDr hF' hs' hw' hkw hrow hj hgF hhr hq hq' ht hW hWd hst hwl hww hdi i0 i1 i2 i3 i4;go_wp2_with fail
       (refine z1D 16 (by kernel_rfl) (by kernel_rfl) ?_;simp only[List.take_succ_cons,List.take_zero,List.drop_succ_cons,List.drop_zero];(repeat (go_big_quiet_step ((go_at_call 133;exact Later.call (HFi.out _)))));refine wpQuiet_nil ?_;rintro _ ⟨sq,rfl⟩)
       clear j0 j1;go_wp2_with fail;refine(HW.out sq).mono ?_;rintro e w6 ⟨rfl,F3,t1,t2,t3⟩;obtain⟨hl,hF',hkw,hst,hwl,hww,hj⟩:=HX3.out;have hk6:Keep Fd w w6:=(hkw.next sq.keep (H:=Fd) (fun _ _ x=>x) (fun _ _ x=>x.elim)).next t2 (fun _ _ x=>x) (fun k hk' x=>(hF' k x).elim id fun y=>by omega);have hF6:∀ k,F3 k→Fd k∨w.heap.size≤k:=fun k x=>(t3 k x).elim (hF' k) fun y=>.inr (Nat.le_trans (Nat.le_trans hkw.size sq.keep.size) y)
       by_cases w0:W.1=0
       ·have HZ:=hid (show WpRel w d ep h Fd D B en (i+1) true w6 from⟨⟨F3,W.2,by rw[hl,hst,if_pos w0,show h - (i+1)=j by omega],t1,hF6,hwl,hww⟩,hk6⟩)
        rw[w0];clear hl hF' hkw hst hwl hww hj t1 t2 t3 hk6 hF6;go_wp2_with fail;go_roundw
        case rel=>exact⟨i+1,true,by omega,by go_num,rfl,HZ⟩
        case measure=>simp[intOf];omega
       ·have hZ:Z=(W.1,true,W.2):=by rw[HYZ.out.2,hl,hst,if_neg w0]
        have hB:=Bad.out W.1 W.2 w6 w0 (by rw[HYZ.out.1,hZ,if_neg (fun h=>w0 h.1)]) ⟨F3,t1,hk6,hF6⟩;have HB:=hid hB;have u1:(W.1 == 0)=false:=by simp[w0]
        have u2:(W.1 != 0)=true:=by simp[w0]
        have u3:decide (W.1=0)=false:=by simp[w0]
        clear hl hF' hkw hst hwl hww hj t1 t2 t3 hk6 hF6 hZ hB w0;go_wp2_with fail;exact HB.out
  ·obtain rfl:h=i:=by omega
   have s1:¬ (h:Int)<(h:Int):=by omega
   obtain⟨hl,hD',hF',hs',hw',hk',hh⟩:=HX.out;rw[Nat.sub_self] at hl;have hZ:Z=(0,wf,D'):=by rw[HYZ.out.2,hl];rfl
   cases wf with
   | false=>
     have hG:=Good.out D' wr (by rw[HYZ.out.1,hZ];simp) ⟨F',hD',hk',hF'⟩;have HG:=hid hG;clear hl hD' hF' hs' hw' hk' hh hZ hG;go_wp2_with fail;refine hhf.mono ?_;rintro e w2 ⟨rfl,rfl⟩;go_wp2_with fail;exact HG.out
   | true=>
     obtain⟨X,hX⟩:=zX1 (DM.sync D');have hYX:Y=X:=by rw[HYZ.out.1,hZ,hX];simp
     have hsy:=zbO wr d F' D' hD' (by omega);rw[← hX] at hsy;have HF:=hid (zA1 hF' hk');have HYX:=hid hYX;clear hl hD' hF' hs' hw' hk' hh hZ hX hYX;go_wp2_with fail;refine hhf.mono ?_;rintro e w2 ⟨rfl,rfl⟩;go_wp2_with fail;refine hsy.mono ?_;rintro e w3 ⟨rfl,ht3⟩;have hto:=RefTo.next HF.out.2 HF.out.1 ht3
     by_cases x0:X.1=0
     ·have HG:=hid (Good.out X.2 w3 (by rw[HYX.out,← x0]) hto)
      rw[x0];clear hto ht3 x0;go_wp2_with fail;exact HG.out
     ·have HB:=hid (Bad.out X.1 X.2 w3 x0 HYX.out hto)
      have u1:(X.1 == 0)=false:=by simp[x0]
      have u2:(X.1 != 0)=true:=by simp[x0]
      have u3:decide (X.1=0)=false:=by simp[x0]
      clear hto ht3 x0;go_wp2_with fail;exact HB.out
end
section
open Go.RowKit
open DM BM WM
def ROpenTo (d:Nat) (Fd:Nat→Prop) (w:World) (R:Int×Option Lg×Dk) (e:Ending) (w':World):Prop:=
 match R.2.1 with
 | none=>e = .returned (.tuple #[.pointer none,.int .i64 R.1])∧RefTo d Fd w R.2.2 w'
 | some g=>∃ b F Fd',e = .returned (.tuple #[.pointer (some ⟨b,0,none⟩),.int .i64 R.1])∧RLogAt w' b d F Fd' R.2.2 g∧Keep Fd w w'∧(∀ k,F k→w.heap.size≤k)∧∀ k,Fd' k→Fd k∨w.heap.size≤k
structure RScan (w:World) (b d ep:Nat) (bs:List UInt8) (a:Nat) (wr:World):Prop where
 ex:∃ (f:Nat) (L:List (List UInt8)) (vl:Value) (vs:List Value),scan bs (bs.length+1) 0=(L ++ (scan bs f a).1,(scan bs f a).2)∧a≤bs.length∧bs.length<a+f∧10 * L.length≤a∧
  wr.heap[b]?=some (.cells (z2A d ep vl 0 false) 119 (0,0))∧Recs wr (fun k=>w.heap.size≤k) (fun k=>k=b) vl L vs
 keep:Keep (fun k=>k=b) w wr
theorem ztC {D:Dk} {B:List UInt8} {L:List (List UInt8)} {ep en:Nat} (h6:6≤D.safe.length) (hd:D.down=false) (hep:ep=epoch D) (hB:B=WM.bytes D ep) (hs:scan B (B.length+1) 0=(L,en)) :
  z2C D=if (z7K ep B en D).1≠0 then ((z7K ep B en D).1,none,(z7K ep B en D).2) else (0,some ⟨ep,L,L.length,false⟩,(z7K ep B en D).2):=by
 unfold z2C;rw[if_neg (by omega),if_neg (by rw[hd];simp)];simp only;rw[← hep,← hB,hs];unfold z7K;simp only;generalize WM.wipe ep B en 0 (half D) false D=Z
 by_cases c1:Z.1=0
 ·rw[if_neg (by simp[c1])]
  by_cases c2:Z.2.1=true
  ·have e:(if Z.1=0∧Z.2.1=true then DM.sync Z.2.2 else (Z.1,Z.2.2))=DM.sync Z.2.2:=if_pos ⟨c1,c2⟩
   rw[if_pos c2,e]
  ·have e:(if Z.1=0∧Z.2.1=true then DM.sync Z.2.2 else (Z.1,Z.2.2))=(Z.1,Z.2.2):=if_neg (fun h=>c2 h.2)
   rw[if_neg c2,e,if_neg (by simp[c1])]
 ·have e:(if Z.1=0∧Z.2.1=true then DM.sync Z.2.2 else (Z.1,Z.2.2))=(Z.1,Z.2.2):=if_neg (fun h=>c1 h.1)
  rw[if_pos c1,e,if_pos c1]
structure RRead (w:World) (b d ep:Nat) (L:List (List UInt8)) (wr:World):Prop where
 ex:∃ (vl:Value) (vs:List Value),wr.heap[b]?=some (.cells (z2A d ep vl 0 false) 119 (0,0))∧Recs wr (fun k=>w.heap.size≤k) (fun k=>k=b) vl L vs
 keep:Keep (fun k=>k=b) w wr
theorem zpD (w:World) (d:Nat) (Fd:Nat→Prop) (D:Dk) (hD:RefAt w d Fd D) (hfew:D.waits.length≤800000) :
  Calls Tryz.prog 47 #[.pointer (some ⟨d,0,none⟩)] w (ROpenTo d Fd w (z2C D)):=by
 obtain⟨R,hR⟩:=zX1 (z2C D);rw[← hR]
 have no:∀ c,R=(c,none,D)→∀ w',Keep (fun _=>False) w w'→ROpenTo d Fd w R (.returned (.tuple #[.pointer none,.int .i64 c])) w':=fun c h w' hk=>by
  rw[h];exact⟨rfl,Fd,hD.keep hk fun _ _ x=>x,hk.mono fun _ _ x=>x.elim,fun _ x=>.inl x⟩
 obtain⟨Post,hPost⟩:=zX1 (ROpenTo d Fd w R);have HPost:=hid hPost;rw[← hPost] at no ⊢;have No:=hid no;have HR:=hid hR;have HD:=hid hD;clear no hR hPost;have hfewD:=HD.out.ok.few;obtain⟨vs0,vw0,hI⟩:=hD;have hdh:=hI.head;unfold z1S at hdh;obtain⟨d0,d1,d2,d3,df,db⟩:=z2I hdh;obtain⟨ads,caps,rfl,-⟩:=hI.safe.form;obtain⟨ns,hns⟩:=zX1 (D.safe.length);rw[← hns] at d0;clear hI hdh d1 d2
 by_cases h6:ns<6
 ·have hN:=No.out 40 (by rw[HR.out];unfold z2C;rw[if_pos (by omega)]) w (Keep.refl _ _)
  have HN:=hid hN;have q1:(ns:Int)<6:=by omega
  clear hN hns;go_enter Tryz.func47,Tryz.ntmps47;go_wp2_with fail;exact HN.out
 cases hd:D.down with
 | true=>
   have hN:=No.out 6 (by rw[HR.out];unfold z2C;rw[if_neg (by omega),if_pos hd]) w (Keep.refl _ _);have HN:=hid hN;have q1:¬ (ns:Int)<6:=by omega
   rw[hd] at d3;clear hN hns;go_enter Tryz.func47,Tryz.ntmps47;go_wp2_with fail;exact HN.out
 | false=>
   have q1:¬ (ns:Int)<6:=by omega
   rw[hd] at d3;have hns6:6≤D.safe.length:=by omega
   have Hns:=hid hns;clear hns;go_enter Tryz.func47,Tryz.ntmps47;go_wp2_with fail;have hh1:=heap_alloc_new w (.cells #[.pointer (some ⟨d,0,none⟩),.int .u64 0,.slice none 0 0,.int .i64 0,.bool false] 119);have hk1:=kal w (.cells #[.pointer (some ⟨d,0,none⟩),.int .u64 0,.slice none 0 0,.int .i64 0,.bool false] 119);obtain⟨w1,hw1⟩:=zX1 (w.alloc (.cells #[.pointer (some ⟨d,0,none⟩),.int .u64 0,.slice none 0 0,.int .i64 0,.bool false] 119));obtain⟨b,hb⟩:=zX1 (w.heap.size);rw[← hw1] at hh1 hk1 ⊢;rw[← hb] at hh1 ⊢;have H0:=hid (show w1.heap[b]?=some (.cells (z2A d (epTo D 0) (.slice none 0 0) 0 false) 119 (0,0))∧Keep (fun _=>False) w w1 from⟨hh1,hk1⟩);have Hb:=hid hb;clear hw1 hh1 hk1 hb q1 d0 d3 df
   go_loopw [5,6,7] (fun iv _ _ wr=>∃ i:Nat,i≤2∧iv = .int .i64 i∧Hid (wr.heap[b]?=some (.cells (z2A d (epTo D i) (.slice none 0 0) 0 false) 119 (0,0))∧Keep (fun _=>False) w wr)) (fun iv _ _ _=>2 - (intOf iv).toNat)
   case atStart=>exact⟨0,by decide,rfl,H0⟩
   case round=>
    clear H0;obtain⟨i,hi,rfl,HI⟩:=hrel
    by_cases hi2:i<2
    ·have t1:(i:Int)<2:=by omega
     have hhead:=zoF wr d Fd D i (HD.out.keep HI.out.2 fun _ _ x=>x) hd (by omega) hi2 (by omega);go_wp2_with fail;refine hhead.mono ?_;clear hhead;rintro e w2 ⟨n,rfl,hn,hk2⟩;have hh2:=hk2.get HI.out.1 id;obtain⟨i0,i1,i2,i3,i4,if1,ib1⟩:=z1O (show w2.heap[b]?=some (.cells #[_,_,_,_,_] _ (0,0)) from hh2);have hk02:Keep (fun _=>False) w w2:=HI.out.2.next hk2 (fun _ _ x=>x) (fun _ _ x=>x);have H2:=hid (zA1 hh2 hk02);clear hh2 hk02 hk2
     cases hm:WM.head D i with
     | none=>
       have he:epTo D (i+1)=epTo D i:=by simp[epTo,hm]
       have HZ:=hid (show w2.heap[b]?=some (.cells (z2A d (epTo D (i+1)) (.slice none 0 0) 0 false) 119 (0,0))∧Keep (fun _=>False) w w2 by rw[he];exact H2.out);clear hm hn he;rw[show (none:Option Nat).isSome=false from rfl];go_wp2_with fail;go_roundw
       case rel=>exact⟨i+1,by omega,by go_num,HZ⟩
       case measure=>simp[intOf];omega
     | some m=>
       have hnm:n=m:=hn m hm;have he:epTo D (i+1)=max (epTo D i) n:=by simp[epTo,hm,hnm]
       have He:=hid he;obtain⟨ep,hep⟩:=zX1 (epTo D i);rw[← hep] at i1 H2 He;clear hm hn he hnm hep;rw[show (some m:Option Nat).isSome=true from rfl]
       by_cases hgt:ep<n
       ·have t2:(ep:Int)<(n:Int):=by omega
        have He2:=hid (show epTo D (i+1)=n by rw[He.out];omega);go_wp2_with fail;have hk3:Keep (fun k=>k=b) w2 (w2.setCell ⟨b,1,none⟩ (.int .u64 (n:Nat))):=kst;have hh3:=z0A H2.out.1 1 (.int .u64 (n:Nat))
        have HZ:=hid (show (w2.setCell ⟨b,1,none⟩ (.int .u64 (n:Nat))).heap[b]?=some (.cells (z2A d (epTo D (i+1)) (.slice none 0 0) 0 false) 119 (0,0))∧Keep (fun _=>False) w (w2.setCell ⟨b,1,none⟩ (.int .u64 (n:Nat))) by
         refine⟨by rw[hh3,He2.out];rfl,H2.out.2.next hk3 (fun _ _ x=>x) (fun k hk x=>by have:=Hb.out;omega)⟩)
        clear hk3 hh3;go_roundw
        case rel=>exact⟨i+1,by omega,by go_num,HZ⟩
        case measure=>simp[intOf];omega
       ·have t2:¬ (ep:Int)<(n:Int):=by omega
        have t3:decide ((ep:Int)<(n:Int))=false:=decide_eq_false t2;have t4:decide (ep<n)=false:=decide_eq_false hgt;have He2:=hid (show epTo D (i+1)=ep by rw[He.out];omega);have HZ:=hid (show w2.heap[b]?=some (.cells (z2A d (epTo D (i+1)) (.slice none 0 0) 0 false) 119 (0,0))∧Keep (fun _=>False) w w2 by rw[He2.out];exact H2.out);go_wp2_with fail;go_roundw
        case rel=>exact⟨i+1,by omega,by go_num,HZ⟩
        case measure=>simp[intOf];omega
    ·obtain rfl:i=2:=by omega
     have t1:¬ ((2:Nat):Int)<2:=by omega
     obtain⟨hh2,hk2⟩:=HI.out;rw[z9O] at hh2;obtain⟨ep,hep⟩:=zX1 (epoch D);rw[← hep] at hh2;obtain⟨i0,i1,i2,i3,i4,if1,ib1⟩:=z1O (show wr.heap[b]?=some (.cells #[_,_,_,_,_] _ (0,0)) from hh2);have hby:=znH wr d Fd D (HD.out.keep hk2 fun _ _ x=>x) hd hns6 ep (by omega);obtain⟨B,hB⟩:=zX1 (z2O D ep (half D));have hBl:B.length=32 * half D:=by rw[hB];exact z2Z ep hns6 hd HD.out.ok _ (Nat.le_refl _)
     rw[← hB] at hby;have hh1023:half D≤1023:=by unfold half;omega
     obtain⟨nn,hnn⟩:=zX1 (B.length);have H2:=hid (zA1 hh2 (zA1 hk2 (zA1 hep (zA1 hB (zA1 hBl hnn)))));have hnn4:nn≤40000:=by omega
     clear hh2 hk2 hep hB hBl HI i2 i3 i4;go_wp2_with fail;refine hby.mono ?_;rintro e w3 ⟨v3,rfl,hf3⟩;obtain⟨ad3,c3,hv3,hc3,-⟩:=hf3.row.form;rw[← hnn] at hv3 hc3;subst hv3;have hh3:=hf3.keep.get H2.out.1 id;have hkw3:Keep (fun _=>False) w w3:=H2.out.2.1.next hf3.keep (fun _ _ x=>x) (fun _ _ x=>x);have R0:=hid (show RScan w3 b d ep B 0 w3 from⟨⟨B.length+1,[],.slice none 0 0,[],rfl,Nat.zero_le _,by omega,Nat.zero_le _,hh3,Recs.nil _ _ _⟩,Keep.refl _ _⟩);have hcs3:Cells w3 ad3 nn 1 (z0B B):=by have h:=hf3.row;rw[← hnn] at h;exact Cells.of_row h
     have hbl3:=z0M hh3
     have hav:∀ x,ad3=some x→x.block≠b∧w.heap.size≤x.block:=fun x hx=>by
      have h1:=hf3.own x.block (by rw[hx];rfl);have:=z0M H2.out.1;have:=H2.out.2.1.size;omega
     have H3:=hid (zA1 hkw3 (zA1 hcs3 (zA1 hav (zA1 hc3 hnn))));clear hf3 hh3 hkw3 hcs3 hav hnn i0 i1 if1 hby;obtain⟨L,hL⟩:=zX1 ((scan B (B.length+1) 0).1);obtain⟨en,hen⟩:=zX1 ((scan B (B.length+1) 0).2);have HLe:=hid (show scan B (B.length+1) 0=(L,en) by rw[hL,hen]);have HLe2:=hid (zA1 hL hen);clear hL hen
     go_upto_block 3 with fail
     go_cut [9,10,11,12] (fun s9 s10 s11 s12 wx=>s9 = .int .i64 (en:Nat)∧Hid (RRead w3 b d ep L wx))
     case first=>
      go_wp2_with fail
      go_loopw [9,10,11,12] (fun av _ _ _ wr=>∃ a:Nat,av = .int .i64 a∧a≤nn∧Hid (RScan w3 b d ep B a wr)) (fun av _ _ _ _=>nn+10 - (intOf av).toNat)
      case atStart=>exact⟨0,rfl,Nat.zero_le _,R0⟩
      case round=>
       clear R0;obtain⟨a,rfl,han,HI⟩:=hrel;obtain⟨f,L1,vl,vs,hs,ha,hf,hc,hh,hrec⟩:=HI.out.ex;have hk:=HI.out.keep;have hget:=zkJ wr ad3 nn c3 a B (H3.out.2.1.keep hk fun x hx y=>(H3.out.2.2.1 x hx).1 y) han H3.out.2.2.2.1 (by omega);obtain⟨g,hg⟩:=zX1 (BM.get B a);rw[← hg] at hget;obtain⟨fp,hfp⟩:∃ fp,f=fp+1:=⟨f - 1,by omega⟩
       have out:(scan B f a=([],a))→∀ wX,Keep (fun _=>False) wr wX→a=en∧RRead w3 b d ep L wX:=fun h0 wX hX=>by
        rw[HLe.out,h0,List.append_nil] at hs;cases hs;exact⟨rfl,⟨⟨vl,vs,hX.get hh id,hrec.keep hX fun _ _ _ x=>x⟩,hk.next hX (fun _ _ x=>x) (fun _ _ x=>x.elim)⟩⟩
       have Out:=hid out;have HX:=hid (zA1 hs (zA1 ha (zA1 hf (zA1 hc (zA1 hh (zA1 hrec (zA1 hk (zA1 hg hfp))))))));clear hs ha hf hc hh hrec hk hg hfp HI out;go_wp2_with fail;refine hget.mono ?_;clear hget;intro e w4 hp
       cases g with
       | no m=>
         obtain⟨rfl,hk4⟩:=hp;have hg:=HX.out.2.2.2.2.2.2.2.1;have hm0:=zlR hg.symm;have hz:scan B f a=([],a):=by rw[HX.out.2.2.2.2.2.2.2.2,scan,← hg]
         have u1:((m:Int) != 0)=true:=by simp;omega
         have u2:((m:Int) == 0)=false:=by simp;omega
         have hO:=fun wX (h:Keep (fun _=>False) w4 wX)=>Out.out hz wX (hk4.next h (fun _ _ x=>x) (fun _ _ x=>x));have HO:=hid hO;clear hm0 hz hg hO hk4;go_wp2_with (at_builtin;refine z0H ?_;intro q hq);go_meet;obtain⟨ha2,hO2⟩:=HO.out (w4.alloc (.cells #[.int .u8 0,.slice none 0 0] 177)) ((Keep.refl _ _).alloc _);exact⟨by rw[ha2],hid hO2⟩
       | yes k body q=>
         obtain⟨v,rfl,hf4⟩:=hp;obtain⟨ad4,c4,rfl,-⟩:=hf4.row.form;have hg:=HX.out.2.2.2.2.2.2.2.1;obtain⟨-,hq,hb1024,hqle⟩:=z6J hg.symm;have Hq:=hid (zA1 hq (zA1 hb1024 hqle));obtain⟨bl,hbl⟩:=zX1 (body.length);have hr4:=hf4.row;rw[← hbl] at hr4 ⊢;have Hbl:=hid hbl;have HF4:=hid (zA1 hr4 (zA1 hf4.keep hf4.own));clear hf4 hr4 hbl hq hb1024 hqle
         by_cases hk2:k=2
         rotate_left
         ·have hz:scan B f a=([],a):=by rw[HX.out.2.2.2.2.2.2.2.2,scan,← hg];simp[hk2]
          have u1:((k.toNat:Int) != 2)=true:=by
           have:k.toNat≠2:=fun e=>hk2 (UInt8.toNat_inj.1 e);simp;omega
          have hO:=fun wX (h:Keep (fun _=>False) w4 wX)=>Out.out hz wX (HF4.out.2.1.next h (fun _ _ x=>x) (fun _ _ x=>x));have HO:=hid hO;clear hz hg hO hk2;generalize k.toNat=kk at *;go_wp2_with fail;go_meet;obtain⟨ha2,hO2⟩:=HO.out (w4.alloc (.cells #[.int .u8 (kk:Nat),.slice ad4 bl c4] 177)) ((Keep.refl _ _).alloc _);exact⟨by rw[ha2],hid hO2⟩
         ·subst hk2
          have hz:scan B f a=(body :: (scan B fp q).1,(scan B fp q).2):=by rw[HX.out.2.2.2.2.2.2.2.2,scan,← hg];rfl
          have Hz:=hid hz;clear hz hg Out;rw[show ((2:UInt8).toNat:Int)=2 from rfl];go_wp2_with fail;obtain⟨w5,hw5⟩:=zX1 (w4.alloc (.cells #[.int .u8 2,.slice ad4 bl c4] 177));have hh5f:=heap_alloc_new w4 (.cells #[.int .u8 2,.slice ad4 bl c4] 177);have hk45:Keep (fun _=>False) w4 w5:=by rw[hw5];exact(Keep.refl _ _).alloc _
          rw[← hw5] at hh5f ⊢;clear hw5;obtain⟨a0,a1,af,-⟩:=z5N (show w5.heap[w4.heap.size]?=some (.cells #[_,_] _ (0,0)) from hh5f);obtain⟨hs,ha,hf,hc,hh,hrec,hk,-,hfp⟩:=HX.out;have hkr5:Keep (fun _=>False) wr w5:=HF4.out.2.1.next hk45 (fun _ _ x=>x) (fun _ _ x=>x);have hh5:=hkr5.get hh id;obtain⟨adl,cl,rfl,-⟩:=hrec.row.form;obtain⟨i0,i1,i2,i3,i4,if1,ib5⟩:=z1O (show w5.heap[b]?=some (.cells #[_,_,_,_,_] _ (0,0)) from hh5);have hr5:=hrec.keep hkr5 (fun _ _ _ x=>x);have H5:=hid (zA1 hh5 (zA1 hkr5 (zA1 hk45 hr5)));have hL1:10 * L1.length≤40000:=by omega
          clear hs ha hf hc hh hrec hk hfp hkr5 hh5 hh5f hk45 hr5;go_wp2_with fail;refine z0F [] (by kernel_rfl) (by kernel_rfl) ?_
          repeat (first | (apply z0E (by rfl);(intro K w';go_simp;exact id)) | (apply z0I (by rfl);(intro K;go_simp;exact id)))
          (refine z1X (by rfl) (by rfl) (fun K hK=>?_);go_simp;refine hK _ _ (Pre.push _ rfl) ?_;clear hK K)
          obtain⟨w6,hw6⟩:=zX1 ((w5.alloc (.cells #[.slice ad4 bl c4] 29)).drew);have hnew6:w6.heap[w5.heap.size]?=some (.cells #[.slice ad4 bl c4] 29):=by rw[hw6];exact heap_alloc_new w5 _
          have hk56:Keep (fun _=>False) w5 w6:=by rw[hw6];exact((Keep.refl _ _).alloc _).drew
          rw[← hw6];clear hw6;refine z0K (by rfl) (by rfl) (fun K hK=>?_);have hr6:=H5.out.2.2.2.keep hk56 (fun _ _ _ x=>x)
          refine z0S z7E _ _ rfl rfl hr6.row (some ⟨w5.heap.size,0,none⟩) 1 1 [.slice ad4 bl c4] rfl
           ⟨rfl,fun _=>⟨_,rfl,fun j u hu=>by rw[z0L,Nat.zero_add,cell_of_row _ _ _ _ _ _ hnew6];simpa using hu⟩⟩ (by intro u hu;simp at hu;subst hu;rfl) (by unfold maxLen;omega) (by omega) ?_
          intro v7 w7 hr7 hk7 hv7;obtain⟨ad7,c7,rfl,-⟩:=hr7.form;refine hK _ _ ?_;clear hK K;have hh7:=hk7.get (hk56.get H5.out.1 id) (fun e=>(hr6.own b e).2 rfl);clear i0 i1 i2 i3 i4 if1 ib5 a0 a1 af;obtain⟨i0,i1,i2,i3,i4,if1,ib7⟩:=z1O (show w7.heap[b]?=some (.cells #[_,_,_,_,_] _ (0,0)) from hh7);have H7:=hid (zA1 hr7 (zA1 hk7 (zA1 hv7 (zA1 hh7 (zA1 hk56 hr6)))));clear hr7 hk7 hv7 hh7 hk56 hr6 hnew6
          repeat (apply z0E (by rfl);(intro K w';go_simp;exact id))
          (refine z0K (by rfl) (by rfl) (fun K hK=>?_);go_simp;refine hK _ _ ?_;clear hK K)
          refine z0P ?_;go_wp2_with fail;have hk8:Keep (fun k=>k=b) w7 (w7.setCell ⟨b,2,none⟩ (.slice ad7 (L1.length+1) c7)):=kst;have hh8:=z0A H7.out.2.2.2.1 2 (.slice ad7 (L1.length+1) c7);obtain⟨w8,hw8⟩:=zX1 (w7.setCell ⟨b,2,none⟩ (.slice ad7 (L1.length+1) c7));rw[← hw8] at hk8 hh8 ⊢;clear hw8
          have HZ:=hid (show q≤nn∧a<q∧RScan w3 b d ep B q w8 by
           obtain⟨y1,y2,y3,y4,y5,y6,y7,y8,y9⟩:=HX.out;obtain⟨z1,z2,z3,z4,z5,z6⟩:=H7.out;obtain⟨q1,q2,q3⟩:=Hq.out;obtain⟨f1,f2,f3⟩:=HF4.out;obtain⟨p1,p2,p3,p4⟩:=H5.out;have hb1:=Hbl.out;have hnn:=H3.out.2.2.2.2;have s1:=y7.size;have s2:=p2.size;have s3:=z5.size;have s4:=z2.size;have s5:=f2.size;have s6:=p3.size;refine⟨by omega,by omega,⟨fp,L1 ++ [body],.slice ad7 (L1.length+1) c7,vs ++ [.slice ad4 bl c4],?_,q3,by omega,by simp;omega,?_,?_⟩,?_⟩
           ·rw[y1,Hz.out,List.append_assoc];rfl
           ·rw[hh8];rfl
           ·refine(z6.push (by have:=(f1.keep p3 (fun _ _ x=>x)).keep z5 (fun _ _ x=>x);rw[hb1] at this ⊢;exact this) (F':=fun k=>w3.heap.size≤k) (fun k e=>?_) z1 z2 (fun k x=>x) (fun k e=>?_)).keep hk8 (fun k _ h2 h3=>h2 h3)
            ·have h1:=f3 k (by rw[← e];exact z1A _ _ _ _)
             refine⟨by omega,by omega,fun e'=>?_⟩;have:=y6.row.lt e';omega
            ·rcases z3 with ⟨_,h0⟩ | ⟨k',h2,h3⟩
             ·omega
             ·rw[e] at h2;cases h2
              rcases h3 with h3 | h3
              ·exact .inl h3
              ·exact .inr ⟨by omega,by omega,by omega⟩
           ·refine(((y7.next p2 (H:=fun k=>k=b) (fun _ _ x=>x) (fun _ _ x=>x.elim)).next z5 (H:=fun k=>k=b) (fun _ _ x=>x) (fun _ _ x=>x.elim)).next z2 (H:=fun k=>k=b) (fun _ _ x=>x) (fun k hk x=>?_)).next hk8 (fun _ _ x=>x) (fun _ _ x=>x)
            have:=(p4.own k x).1
            omega)
          clear hk8 hh8;go_roundw
          case rel=>exact⟨q,rfl,HZ.out.1,hid HZ.out.2.2⟩
          case measure=>have:=HZ.out;simp[intOf];omega
     case rest=>
      obtain⟨rfl,HD9⟩:=hcut;clear R0;obtain⟨vl,vs,hh9,hrec9⟩:=HD9.out.ex;have hk9:=HD9.out.keep;obtain⟨adl,cl,rfl,-⟩:=hrec9.row.form;obtain⟨i0,i1,i2,i3,i4,if1,ib9⟩:=z1O (show wc.heap[b]?=some (.cells #[_,_,_,_,_] _ (0,0)) from hh9);have H9:=hid (zA1 hh9 (zA1 hrec9 hk9));clear hh9 hrec9 hk9 HD9;go_wp2_with fail;have hk10:Keep (fun k=>k=b) wc (wc.setCell ⟨b,3,none⟩ (.int .i64 (L.length:Nat))):=kst;have hh10:=z0A H9.out.1 3 (.int .i64 (L.length:Nat));obtain⟨w10,hw10⟩:=zX1 (wc.setCell ⟨b,3,none⟩ (.int .i64 (L.length:Nat)));rw[← hw10] at hk10 hh10 ⊢;clear hw10 i0 i1 i2 i3 i4 if1;obtain⟨hkw3,hcs3,hav,hc3,hnn⟩:=H3.out;have hb0:=Hb.out;have hk310:Keep (fun k=>k=b) w3 w10:=H9.out.2.2.next hk10 (fun _ _ x=>x) (fun _ _ x=>x);have hk010:Keep (fun _=>False) w w10:=hkw3.next hk310 (fun _ _ x=>x) (fun k hk x=>by omega);have hDl:=HD.out.lt;have hbF:¬ Fd b:=fun x=>by have:=hDl b x;omega
      obtain⟨sp1,sp2,sp3,sp4⟩:=z7V B (B.length+1) 0 (Nat.zero_le _);rw[HLe.out] at sp1 sp2 sp4;simp only at sp1 sp2 sp4;have hBl:=H2.out.2.2.2.2.1
      have hwd:=zlY w10 b d ep en L.length nn c3 (.slice adl L.length cl) false Fd D B ad3 (by rw[hh10];rfl) (HD.out.keep hk010 fun _ _ x=>x) hbF (hcs3.keep hk310 (fun x hx y=>(hav x hx).1 y)) (fun x hx y=>by
        have h1:=hDl _ y;have h2:=(hav x hx).2
        omega) (by omega) hc3 (by omega) hfew
      obtain⟨Y,hY⟩:=zX1 (z7K ep B en D);have hYl:Y.2.safe.length=D.safe.length:=by rw[hY];exact zhG _ _ _ _
      rw[← hY] at hwd
      have hRR:R=if Y.1≠0 then (Y.1,none,Y.2) else (0,some ⟨ep,L,L.length,false⟩,Y.2):=by
       rw[hY,HR.out];have h2:=ztC hns6 hd (en:=en) (L:=L) (B:=B) (ep:=ep) H2.out.2.2.1 (by rw[H2.out.2.2.2.1];rfl) HLe.out;exact h2
      have HX:=hid (zA1 hk310 (zA1 hk010 (zA1 hYl (zA1 hRR (zA1 sp1 (zA1 sp2 (zA1 sp4 (zA1 hh10 (zA1 hBl (zA1 hDl hk10))))))))));clear hk10 hh10 hk310 hk010 hY hYl hRR sp1 sp2 sp3 sp4 hBl hkw3 hcs3 hav hc3 hb0;go_wp2_with fail;refine hwd.mono ?_;rintro e w11 ⟨rfl,Fd',hD11,hk11,hF11⟩;obtain⟨hk310,hk010,hYl,hRR,sp1,sp2,sp4,hh10,hBl,hDl,hkc10⟩:=HX.out;have hk011:Keep Fd w w11:=hk010.next hk11 (fun _ _ x=>x.elim) (fun _ _ x=>x);have hF011:∀ k,Fd' k→Fd k∨w.heap.size≤k:=fun k x=>(hF11 k x).imp id fun y=>Nat.le_trans hk010.size y
      by_cases y0:Y.1=0
      rotate_left
      ·rw[if_pos y0] at hRR
       have HF:=hid (show Post (.returned (.tuple #[.pointer none,.int .i64 Y.1])) w11 by rw[HPost.out,hRR];exact⟨rfl,Fd',hD11,hk011,hF011⟩);rw[if_neg y0];clear hkc10 hk310 hk010 hYl hRR sp1 sp2 sp4 hh10 hBl hDl hD11 hk11 hF11 hk011 hF011 y0;go_wp2_with fail;exact HF.out
      ·rw[if_neg (by simp[y0])] at hRR
       have HF:=hid (show Post (.returned (.tuple #[.pointer (some ⟨b,0,none⟩),.int .i64 0])) w11 by
        rw[HPost.out,hRR];have hb0:=Hb.out;have s310:=hk310.size;have s03:=H3.out.1.size;have s1011:=hk11.size;have hbl10:=z0M hh10;have hrec:=(H9.out.2.1.bound.keep hkc10 (fun k _ h1 h2=>h1 h2));have hwl:=hkc10.size;refine⟨b,fun k=>w.heap.size≤k∧k<w10.heap.size,Fd',rfl,⟨.slice adl L.length cl,vs,?_,hD11,fun k h1 h2=>?_⟩,hk011,fun k h1=>h1.1,hF011⟩
        ·rw[z2W hYl]
         refine⟨?_,(hrec.mono (F':=fun k=>w.heap.size≤k∧k<w10.heap.size) (A':=fun k=>k=b) (fun k h1 h2=>⟨⟨by omega,by omega⟩,h2⟩)).keep hk11 (fun k h1 _ h3=>by have:=hDl k h3;omega),⟨by omega,hbl10⟩,fun k h1=>Nat.lt_of_lt_of_le h1.2 s1011,?_⟩
         ·have h9:=hk11.get hh10 hbF
          rw[h9];rfl
         ·have he:=zfF D 2
          rw[z9O,← H2.out.2.2.1] at he;exact⟨by show (flat L).length≤_;omega,by unfold half;omega,by unfold half;omega,he,sp4,Nat.le_refl _⟩
        ·rcases hF11 k h2 with h3 | h3
         ·have:=hDl k h3;omega
         ·omega)
       rw[if_pos y0,y0];clear hkc10 hk310 hk010 hYl hRR sp1 sp2 sp4 hh10 hBl hDl hD11 hk11 hF11 hk011 hF011 y0;go_wp2_with fail;exact HF.out
end
end Go.Proofs.YtkjofdocgaiedaaGreat
