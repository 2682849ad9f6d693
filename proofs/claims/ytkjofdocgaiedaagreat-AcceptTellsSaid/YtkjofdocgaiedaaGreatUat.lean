/- Texts WalP, WalY, WalR in one. Conditions: as each law names them. -/
import Derived.BigRegion
import Derived.Shelf.Abstract
import Derived.Deep.RegionHeld3
import Derived.Deep.CutBlock
import Derived.Deep.DeepCutAuto
import Derived.Test.YtkjofdocgaiedaaGreatUab
import Derived.Test.YtkjofdocgaiedaaGreatUas
set_option maxRecDepth 20000
set_option maxHeartbeats 8000000
namespace Go.Proofs.YtkjofdocgaiedaaGreat
section
open Go.RowKit
open DM BM WM
theorem zhD (h:Nat) (l:List (List UInt8)) (body:List UInt8) (hf:(flat l).length+(body.length+10)≤32 * h) :
  splice (z0B (z1X h l)) (flat l).length (z0B (frame 2 body))=z0B (z1X h (l ++ [body])):=by
 rw[z4Y];congr 1;unfold z1X;rw[List.take_left,z5T,List.append_assoc];have e1:flat [body]=frame 2 body:=by simp[flat]
 rw[e1,List.drop_append,List.drop_of_length_le (by omega),List.nil_append,List.drop_replicate,z1D,List.length_append,z1D];congr 3;omega
theorem LogTo.since {b d:Nat} {F Fd:Nat→Prop} {w w1 w':World} {D':Dk} {G':Lg} (h:LogTo b d F Fd w1 D' G' w') (hk:Keep (fun _=>False) w w1):LogTo b d F Fd w D' G' w':=by
 obtain⟨F',Fd',h1,h2,h3,h4⟩:=h;exact⟨F',Fd',h1,hk.next h2 (fun _ _ x=>x.elim) (fun _ _ x=>x),fun k x=>(h3 k x).imp id fun y=>Nat.le_trans hk.size y,fun k x=>(h4 k x).imp id fun y=>Nat.le_trans hk.size y⟩
theorem LogAt.later {w w':World} {b d:Nat} {F Fd:Nat→Prop} {D:Dk} {G:Lg} (H:LogAt w b d F Fd D G) (hk:Keep (fun _=>False) w w'):LogAt w' b d F Fd D G:=H.keep hk (fun _ _ x=>x) (fun _ _ x=>x)
theorem LogAt.toLater {w w':World} {b d:Nat} {F Fd:Nat→Prop} {D:Dk} {G:Lg} (H:LogAt w b d F Fd D G) (hk:Keep (fun _=>False) w w'):LogTo b d F Fd w D G w':=(H.later hk).to.since hk
theorem zaA {P:Program} {o:Oper} {a:Act} {w w':World} {K:Act→World→Prop} {Q:Exit→Act→World→Prop} {t:TypeId} {v1 v2 v':Value}
  (s x:Operand) (hop:o.op=Op.call { callee:=Callee.builtin Builtin.append,args:=#[s,x],argTypes:=#[t,t] }) (h1:a.eval s=v1) (h2:a.eval x=v2)
  (hr:(Builtin.append_ #[t,t] o.type #[v1,v2]).run P w = .ok v' w') (hK:K (a.put o.dst v') w'):Oper.wp P o a w K Q:=by
 subst h1 h2;unfold Oper.wp;simp[execOp,hop,resolve,invoke,builtin,hr,Result.andThen];exact hK
theorem zbO {w0 w:World} {ty:TypeId} {g:Nat} {r:List UInt8} (hf:Fresh w0 (.slice (some ⟨g,0,none⟩) 0 0) [] w) (ao:Option Addr) (m c:Nat) (hsrc:Cells w ao m 1 (z0B r)) (hb:m≤140737488355328) :
  ∃ ad cap w',(Builtin.append_ #[29,29] ty #[.slice (some ⟨g,0,none⟩) 0 0,.slice ao m c]).run Tryz.prog w = .ok (.slice ad m cap) w'∧Fresh w0 (.slice ad m cap) r w'∧Keep (fun _=>False) w w':=by
 have hm:r.length=m:=by have:=hsrc.1;rw[z0D] at this;omega
 obtain⟨v',w',hr,h2,h3⟩:=z7N (P:=Tryz.prog) (w:=w) (ty:=ty) z0U g ao m c (z0B r) hsrc (by unfold maxLen;omega) (by omega)
 have hF:Fresh w0 v' r w':=by
  rcases h2 with ⟨rfl,rfl,rfl⟩ | ⟨h0,h1,h2⟩
  ·have:r = []:=List.eq_nil_of_length_eq_zero hm
   subst this;exact hf
  ·rw[← hm] at h1
   exact⟨h1,hf.keep.next h3 (fun _ _ x=>x) (fun _ _ x=>x),fun k hk=>by rw[h2] at hk;cases hk;exact hf.keep.size⟩
 obtain⟨ad,cap,hv,-⟩:=hF.row.form;rw[hm] at hv;subst hv;exact⟨ad,cap,w',hr,hF,h3⟩
theorem z7V (ep:Nat) (b:List UInt8):∀ k i D,(lay ep b i k D).2.safe.length=D.safe.length
 | 0,i,D=>rfl
 | k+1,i,D=>by
   rw[lay];split
   ·rw[z7V ep b k,z3K]
   ·rw[z3K]
theorem z8H (ep:Nat) (b:List UInt8):∀ k i D,(lay ep b i k D).2.waits.length≤D.waits.length+k
 | 0,i,D=>Nat.le_refl _
 | k+1,i,D=>by
   have h:=z2Y D ((WM.first D ep+i:Nat):Int) (z0Q b i);rw[lay];split
   ·have:=z8H ep b k (i+1) (DM.write D ((WM.first D ep+i:Nat):Int) (z0Q b i)).2
    omega
   ·omega
theorem zqU (w:World) (x b d ga ca ep en e2:Nat) (Fd:Nat→Prop) (D:Dk) (bs:List UInt8) (vl:Value) (sf e3:Nat) (dead:Bool) (hx:w.cell? ⟨x,0,none⟩=some (.pointer (some ⟨b,0,none⟩)))
  (H:w.heap[b]?=some (.cells (z0N d ep (half D) (.slice (some ⟨ga,0,none⟩) (32 * half D) ca) vl sf e3 dead) 164 (0,0))) (hD:DiskAt w d Fd D)
  (hrow:Row w 5 1 (.slice (some ⟨ga,0,none⟩) (32 * half D) ca) (32 * half D) (z0B bs)) (hb:¬ Fd b) (hga:¬ Fd ga) (hxF:¬ Fd x) (hlt:en<e2) (he2:e2≤32 * half D) (hfew:D.waits.length≤800000) :
  Calls Tryz.prog 104 #[.pointer (some ⟨b,0,none⟩),.int .i64 (en:Nat),.int .i64 (e2:Nat),.func (.func 105) #[] #[.pointer (some ⟨x,0,none⟩)]] w fun e w'=>
   e = .returned (.int .i64 (lay ep bs (en / 32) ((e2 - 1) / 32 - en / 32+1) D).1)∧DiskTo d Fd w (lay ep bs (en / 32) ((e2 - 1) / 32 - en / 32+1) D).2 w':=by
 have hh:=H;unfold z0N at hh;obtain⟨-,-,-,h3,-⟩:=z1F hh;have e1:(e2 - 1) / 32 - en / 32+1=((e2 - 1) / 32+1) - en / 32:=by omega
 rw[e1]
 refine zlP w b d 105 ga ca #[.pointer (some ⟨x,0,none⟩)] ep en (en / 32) ((e2 - 1) / 32+1) e2 Fd D bs hD rfl (fun i=>by omega) (by omega) (by omega) he2 hb hga h3 hrow
  (enters_of Tryz.func105 (by kernel_rfl) rfl) hfew ?_
 intro wr F' D' hk hD' hF' hs' hw' i hi ao c s hsrc hap;have hx':=hx;rw[← World.cell?_of_block (hk.block _ (World.block_lt_of_cell? _ _ hx) hxF)] at hx';have H':=hk.get H hb;rw[← z3J hs'] at H' hi;rw[← z5L hs'];exact zrG wr x b d ep F' D' _ vl sf e3 dead hx' H' hD' i hi ao c s hsrc hap hw'
theorem zaQ (w:World) (b d:Nat) (F Fd:Nat→Prop) (D:Dk) (G:Lg) (H:LogAt w b d F Fd D G) (ao:Option Addr) (n c:Nat) (body:List UInt8) (hsrc:Cells w ao n 1 (z0B body))
  (hap:∀ x,0<n→ao=some x→¬ F x.block∧¬ Fd x.block) (hn:n≤1000000000) (hfew:D.waits.length≤800000) :
  Calls Tryz.prog 53 #[.pointer (some ⟨b,0,none⟩),.slice ao n c] w fun e w'=>
   e = .returned (.int .i64 (WM.append D G body).1)∧LogTo b d F Fd w (WM.append D G body).2.1 (WM.append D G body).2.2 w':=by
 have hbl:body.length=n:=by have:=hsrc.1;rw[z0D] at this;omega
 have hk1:=kal w (.cells #[.pointer (some ⟨b,0,none⟩)] 101)
 have hx1:(w.alloc (.cells #[.pointer (some ⟨b,0,none⟩)] 101)).cell? ⟨w.heap.size,0,none⟩=some (.pointer (some ⟨b,0,none⟩)):=by
  rw[cell_of_row _ _ _ _ _ _ (heap_alloc_new w _)];rfl
 have HS:=hid (zA1 hsrc (zA1 hap hbl));have HH:=hid H;clear hsrc hap H
 by_cases hg:gone D G=true
 ·have hr:WM.append D G body=(6,D,WM.mark D G):=by unfold WM.append;rw[if_pos hg]
  have HR:=hid hr;clear hr;go_enter Tryz.func53,Tryz.ntmps53;go_wp2_with (at_builtin;refine z0A ?_;intro q hq);refine(z9O _ b d F Fd D G (HH.out.later hk1) hg).mono ?_;rintro e w2 ⟨rfl,ht⟩;have HT:=hid (ht.since hk1);clear ht;go_wp2_with (at_builtin;refine z0A ?_;intro q hq);go_ret;rw[HR.out];exact⟨rfl,HT.out⟩
 have hg:gone D G=false:=by simpa using hg
 by_cases hlong:1024<n
 ·have hr:WM.append D G body=(3,D,G):=by unfold WM.append;rw[hg];simp[hbl,hlong]
  have HR:=hid hr;clear hr;go_enter Tryz.func53,Tryz.ntmps53;go_wp2_with (at_builtin;refine z0A ?_;intro q hq);refine(z6C _ b d F Fd D G (HH.out.later hk1) hg).mono ?_;rintro e w2 ⟨rfl,rfl⟩;go_wp2_with (at_builtin;refine z0A ?_;intro q hq);refine(zjE _ 2 ao n c hlong).mono ?_;rintro e w3 ⟨rfl,rfl⟩;go_wp2_with (at_builtin;refine z0A ?_;intro q hq);go_ret;rw[HR.out];exact⟨rfl,HH.out.toLater hk1⟩
 have hput:=zgZ (w.alloc (.cells #[.pointer (some ⟨b,0,none⟩)] 101)) 2 ao n c body (HS.out.1.keep hk1 fun _ _ x=>x) (by omega);have HP:=hid hput;have hfl:(frame 2 body).length=n+10:=by rw[z1D,hbl]
 have HFL:=hid hfl;clear hput hfl
 by_cases hfull:room D G<n+10
 ·have hr:WM.append D G body=(5,D,G):=by unfold WM.append;rw[hg];simp[hbl,hlong,hfull]
  have HR:=hid hr;clear hr;go_enter Tryz.func53,Tryz.ntmps53;go_wp2_with (at_builtin;refine z0A ?_;intro q hq);refine(z6C _ b d F Fd D G (HH.out.later hk1) hg).mono ?_;rintro e w2 ⟨rfl,rfl⟩;go_wp2_with (at_builtin;refine z0A ?_;intro q hq);refine HP.out.mono ?_;rintro e w2 ⟨v,rfl,hf⟩;obtain⟨ad,cf,rfl,-⟩:=hf.row.form;rw[HFL.out];have hk2:=hk1.nx hf.keep;have hx2:=hx1;rw[← World.cell?_of_block (hf.keep.block _ (World.block_lt_of_cell? _ _ hx1) id)] at hx2;have HF:=hid hf;clear hf hx1;go_wp2_with (at_builtin;refine z0A ?_;intro q hq);refine(zlJ _ b d F Fd D G (HH.out.later hk2) hg).mono ?_;rintro e w3 ⟨rfl,rfl⟩;obtain⟨r,hr⟩:=zX1 (room D G);rw[← hr] at hfull ⊢;have q1:(r:Int)<((n+10:Nat):Int):=by omega
  go_wp2_with (at_builtin;refine z0A ?_;intro q hq);go_ret;rw[HR.out];exact⟨rfl,HH.out.toLater hk2.drew⟩
 have hroom:(flat G.l).length+(n+10)≤32 * half D:=by unfold room at hfull;omega
 have hr:WM.append D G body=((lay G.ep (area D (G.l ++ [body])) ((flat G.l).length / 32) (((flat (G.l ++ [body])).length - 1) / 32 - (flat G.l).length / 32+1) D).1,
   (lay G.ep (area D (G.l ++ [body])) ((flat G.l).length / 32) (((flat (G.l ++ [body])).length - 1) / 32 - (flat G.l).length / 32+1) D).2,
   {G with l:=G.l ++ [body],dead:=decide ((lay G.ep (area D (G.l ++ [body])) ((flat G.l).length / 32) (((flat (G.l ++ [body])).length - 1) / 32 - (flat G.l).length / 32+1) D).1≠0) }):=by
  unfold WM.append;rw[hg];simp[hbl,hlong,hfull]
 have HR:=hid hr;clear hr;go_enter Tryz.func53,Tryz.ntmps53;go_wp2_with (at_builtin;refine z0A ?_;intro q hq);refine(z6C _ b d F Fd D G (HH.out.later hk1) hg).mono ?_;rintro e w2 ⟨rfl,rfl⟩;go_wp2_with (at_builtin;refine z0A ?_;intro q hq);refine HP.out.mono ?_;rintro e w2 ⟨v,rfl,hf⟩;obtain⟨ad,cf,rfl,-⟩:=hf.row.form;rw[HFL.out];have hk2:=hk1.nx hf.keep;have hx2:=hx1;rw[← World.cell?_of_block (hf.keep.block _ (World.block_lt_of_cell? _ _ hx1) id)] at hx2;have hxl:w.heap.size<w2.heap.size:=World.block_lt_of_cell? _ _ hx2;have hfrow:=hf.row;have hfown:∀ k,(Value.slice ad (frame 2 body).length cf).ownBlock=some k→w.heap.size≤k:=fun k e=>Nat.le_trans hk1.size (hf.own k e);rw[HFL.out] at hfrow hfown;clear hf hx1 hk1 HP;obtain⟨m,hm⟩:=zX1 (n+10);rw[← hm] at hfrow hfown ⊢;have HM:=hid hm;clear hm;go_wp2_with (at_builtin;refine z0A ?_;intro q hq);refine(zlJ _ b d F Fd D G (HH.out.later hk2) hg).mono ?_;rintro e w3 ⟨rfl,rfl⟩;obtain⟨r,hr⟩:=zX1 (room D G);rw[← hr] at hfull ⊢;have hm:=HM.out;have q1:¬ ((r:Int)<(m:Int)):=by omega
 have q1':decide ((r:Int)<(m:Int))=false:=decide_eq_false q1;have q1'':decide (r<m)=false:=decide_eq_false (by omega);obtain⟨w3,hw3⟩:=zX1 (w2.drew);have hk3:Keep (fun _=>False) w w3:=by rw[hw3];exact hk2.drew
 have hfrow3:Row w3 5 1 (.slice ad m cf) m (z0B (frame 2 body)):=by rw[hw3];exact hfrow.keep (F:=fun _=>False) (Keep.refl _ _).drew (fun _ _ x=>x)
 have hx3:w3.cell? ⟨w.heap.size,0,none⟩=some (.pointer (some ⟨b,0,none⟩)):=by rw[hw3];exact hx2
 have hxl3:w.heap.size<w3.heap.size:=by rw[hw3];exact hxl
 rw[← hw3];clear hw3 hx2 hxl hfrow hk2 q1;obtain⟨ga,ca,vl,vs,HL⟩:=HH.out.later hk3;have hh:=HL.wal.head;have hhead:=HL.wal.head;unfold z0N at hh;obtain⟨h0,h1,h2,h3,h4,h5,h6,h7,hf,hb⟩:=z1F hh;obtain⟨ad2,ca2,hv2,hca1,hca2,-⟩:=HL.wal.area.form;simp at hv2;obtain⟨rfl,rfl⟩:=hv2;obtain⟨en,hen⟩:=zX1 ((flat G.l).length);rw[← hen] at h6 hroom;obtain⟨nn,hnn⟩:=zX1 (32 * half D);have har:=HL.wal.area;rw[← hnn] at h3 hca1 hroom har;obtain⟨g0,cap0,cur,fz,hv0,hg0,hfz0,hn0,hc0,hz0,ht0⟩:=har.some (by omega);simp at hv0;obtain⟨rfl,rfl⟩:=hv0
 have hs:∀ w,(Instr.sliceAt 29 (.slice (some ⟨ga,0,none⟩) nn ca) (some (.int .i64 (en:Int))) none none).run Tryz.prog w = .ok (.slice (some ⟨ga,en,none⟩) (nn - en) (ca - en)) w:=fun w=>by
  have h:=z1Q (P:=Tryz.prog) z0U (some ⟨ga,0,none⟩) nn ca .i64 en (by omega) w
  have e:z1E (some ⟨ga,0,none⟩) ca en 1=some ⟨ga,en,none⟩:=by
   unfold z1E;rw[if_neg (by omega)];simp[z0J]
  rw[e] at h;exact h
 have hfbl:(z0B (frame 2 body)).length=m:=by rw[z0D,HFL.out,hm]
 have hcp:=z5C (P:=Tryz.prog) (w:=w3.drew) (sT:=29) (ty:=3) z0U ga en (nn - en) (ca - en) cur 5 fz hg0 hfz0 ad m cf (z0B (frame 2 body)) m (Nat.min_eq_left (by omega))
  (Cells.of_row (hfrow3.keep (F:=fun _=>False) (Keep.refl _ _).drew (fun _ _ x=>x))) (by rw[hfbl,hz0];omega) (z1I _)
 have har2:=Row.spliced (w:=w3.drew) (har.keep (F:=fun _=>False) (Keep.refl _ _).drew (fun _ _ x=>x)) hg0 en (z0B (frame 2 body)) (by rw[hfbl];omega);rw[hen,zhD (half D) G.l body (by rw[hbl,← hen,← hnn];omega),← hen] at har2;have hgab:ga≠b:=fun e=>HL.wal.ne e.symm;have hgaF:=HL.wal.garea
 have hgax:ga≠w.heap.size:=fun e=>by
  have:=HH.out;obtain⟨_,_,_,_,h⟩:=this;have:=h.wal.lt ga hgaF;omega
 have hk4:Keep (fun k=>k=ga) w3 (w3.drew.setRow ga (splice cur.toList en (z0B (frame 2 body))).toArray):=by refine Keep.setRow (Keep.refl _ _).drew (.inl ?_) _;rfl
 have hk4':Keep (fun k=>k=ga) w3.drew (w3.drew.setRow ga (splice cur.toList en (z0B (frame 2 body))).toArray):=by refine Keep.setRow (Keep.refl _ _) (.inl ?_) _;rfl
 obtain⟨w4,hw4⟩:=zX1 (w3.drew.setRow ga (splice cur.toList en (z0B (frame 2 body))).toArray);rw[← hw4] at hcp har2 hk4 hk4';have hhead4:=hk4.get hhead (fun e=>hgab e.symm);have hx4:=hx3;rw[← World.cell?_of_block (hk4.block _ (World.block_lt_of_cell? _ _ hx3) (fun e=>hgax e.symm))] at hx4;have hfew:=hfew;obtain⟨i0,i1,i2,i3,i4,i5,i6,i7,if1,ib1⟩:=z1F (show w4.heap[b]?=some (.cells #[_,_,_,_,_,_,_,_] _ (0,0)) from hhead4);rw[← hen] at i6;rw[← hnn] at i3;have hlh:nn≤40000:=by have:=HL.wal.ok.few;omega
 obtain⟨e2,he2⟩:=zX1 (en+m);have q2:(en:Int)+(m:Int)=(e2:Int):=by omega
 have q3:=wi64 e2 (by omega);have HL:=hid HL;have HX:=hid (zA1 hhead4 (zA1 hk4 (zA1 har2 (zA1 hfrow3 (zA1 hk3 hfown)))));have HN:=hid (zA1 hen (zA1 hnn (zA1 he2 (zA1 hm hr))));clear hhead hhead4 hk4 hk4' har2 har hg0 hfz0 hz0 ht0 hw4 hfrow3 hk3 hfown hen hnn he2 hm hr hfbl hh;go_wp2_with (at_builtin;refine z0A ?_;intro q hq)
 go_region
 have hk5:Keep (fun k=>k=b) w4 (w4.setCell ⟨b,6,none⟩ (.int .i64 (e2:Int))):=kst;have hh5:=z0C HX.out.1 6 (.int .i64 (e2:Int));have hx5:=hx4
 have hbx:b≠w.heap.size:=fun e=>by
  have:=HL.out.wal.lt b HL.out.wal.self;obtain⟨_,_,_,_,h⟩:=HH.out;have:=h.wal.lt b h.wal.self;omega
 rw[← World.cell?_of_block (hk5.block _ (World.block_lt_of_cell? _ _ hx4) (fun e=>hbx e.symm))] at hx5;obtain⟨w5,hw5⟩:=zX1 (w4.setCell ⟨b,6,none⟩ (.int .i64 (e2:Int)));rw[← hw5] at hk5 hh5 hx5 ⊢;clear hw5 i0 i1 i2 i3 i4 i5 i6 i7 if1 ib1 h0 h1 h2 h3 h4 h5 h6 h7 hf hb hcp hs hx3 hx4;have hk35:Keep (fun k=>k=ga∨k=b) w3 w5:=HX.out.2.1.next hk5 (fun _ _ x=>.inl x) (fun _ _ x=>.inr x);obtain⟨adl,cl,hvl,-⟩:=HL.out.wal.recs.row.form;have HVL:=hid hvl;have Hk35:=hid hk35;have Hh5:=hid hh5;have hk45:=hid hk5;subst hvl;obtain⟨i0,i1,i2,i3,i4,i5,i6,i7,if1,ib1⟩:=z1F (show w5.heap[b]?=some (.cells #[_,_,_,_,_,_,_,_] _ (0,0)) from hh5);have hf6:Fresh w5 (.slice (some ⟨w5.heap.size,0,none⟩) 0 0) [] (w5.alloc (.cells #[] 5)).drew:=FreshU.later (z2X rfl rfl rfl (by unfold maxLen;decide)) (Keep.refl _ _).drew
 have hsrc5:Cells w5 ao n 1 (z0B body):=(HS.out.1.keep HX.out.2.2.2.2.1 fun _ _ x=>x).keep0 Hk35.out fun hp x hx y=>by
  obtain⟨ga',_,_,_,h⟩:=HH.out;obtain⟨y1,y2⟩:=HS.out.2.1 x (by omega) hx
  rcases y with y | y
  ·rw[y] at y1;exact y1 HL.out.wal.garea
  ·rw[y] at y1;exact y1 HL.out.wal.self
 obtain⟨ad7,c7,w7,hr7,hf7,hk67⟩:=zbO (ty:=29) hf6 ao n c (hsrc5.keep hf6.keep fun _ _ x=>x) (by omega);have hk58:Keep (fun _=>False) w5 (w7.alloc (.cells #[.slice ad7 n c7] 29)):=hf7.keep.alloc _;obtain⟨w8,hw8⟩:=zX1 (w7.alloc (.cells #[.slice ad7 n c7] 29));have hnew8:w8.heap[w7.heap.size]?=some (.cells #[.slice ad7 n c7] 29):=by rw[hw8];exact heap_alloc_new w7 _
 have hk78:Keep (fun _=>False) w7 w8:=by rw[hw8];exact(Keep.refl _ _).alloc _
 have hrec5:Recs w5 F (fun k=>k=b∨k=ga) (.slice adl G.l.length cl) G.l vs:=HL.out.wal.recs.keep Hk35.out (fun k _ h1 h2=>h1 (h2.elim .inr .inl));have hrec8:Recs w8 F (fun k=>k=b∨k=ga) (.slice adl G.l.length cl) G.l vs:=by rw[hw8];exact hrec5.keep hk58 (fun _ _ _ x=>x)
 obtain⟨v9,w9,hr9,hrow9,hk9,hv9,-⟩:=z5H (P:=Tryz.prog) (ty:=107) z9G hrec8.row (some ⟨w7.heap.size,0,none⟩) 1 1 [.slice ad7 n c7]
  ⟨rfl,fun _=>⟨_,rfl,fun j u hu=>by rw[z0J,Nat.zero_add,cell_of_row _ _ _ _ _ _ hnew8];simpa using hu⟩⟩ (by intro u hu;simp at hu;subst hu;rfl) (by have:=HL.out.wal.ok.count;unfold maxLen;omega) (by have:=HL.out.wal.ok.count;omega)
 obtain⟨ad9,c9,rfl,-⟩:=hrow9.form;rw[hw8] at hr9;have hk58':Keep (fun _=>False) w5 w8:=by rw[hw8];exact hk58
 have ha8:∀ p v,w5.cell? p=some v→w8.cell? p=some v:=fun p v h=>by
  rw[World.cell?_of_block (hk58'.block _ (World.block_lt_of_cell? _ _ h) id)];exact h
 have ha7:∀ p v,w5.cell? p=some v→w7.cell? p=some v:=fun p v h=>by
  rw[World.cell?_of_block (hf7.keep.block _ (World.block_lt_of_cell? _ _ h) id)];exact h
 have hbv:(Value.slice adl G.l.length cl).ownBlock≠some b:=fun e=>(hrec8.own b e).2 (.inl rfl)
 have hxv:(Value.slice adl G.l.length cl).ownBlock≠some w.heap.size:=fun e=>by
  have h1:=(hrec8.own _ e).1;obtain⟨_,_,_,_,h⟩:=HH.out;have:=h.wal.lt _ h1;omega
 have hbl8:b<w8.heap.size:=by have:=ib1;have:=hk58.size;rw[hw8];omega
 have hh8:w8.heap[b]?=w5.heap[b]?:=by rw[hw8];exact hk58.block b ib1 id
 have hh9:=hk9.get (hh8.trans Hh5.out) hbv
 have ha6:∀ p v,w5.cell? p=some v→(w5.alloc (.cells #[] 5)).drew.cell? p=some v:=fun p v h=>by
  rw[World.cell?_of_block (hf6.keep.block _ (World.block_lt_of_cell? _ _ h) id)];exact h
 have x6:=ha6 _ _ hx5;have y6:=ha6 _ _ i4;have x7:=ha7 _ _ hx5;have x8:=ha8 _ _ hx5;have x9:=x8;rw[← World.cell?_of_block (hk9.block _ (World.block_lt_of_cell? _ _ x8) hxv)] at x9;have y7:=ha7 _ _ i4;have y8:=ha8 _ _ i4;obtain⟨k0,k1,k2,k3,k4,k5,k6,k7,kf1,kb1⟩:=z1F (show w9.heap[b]?=some (.cells #[_,_,_,_,_,_,_,_] _ (0,0)) from hh9);rw[hw8] at x8 y8;have HY:=hid (zA1 hh9 (zA1 hk9 (zA1 hv9 (zA1 hrow9 (zA1 hrec8 (zA1 hf7 (zA1 hk78 hw8)))))));have HK67:=hid hk67;clear hk58' hh9 hk9 hv9 hrow9 hrec8 hf7 hk78 hk67 hnew8 hk58 ha8 ha7 ha6 hrec5 hsrc5 hf6 hbl8 hh8 hw8 hbv hxv;go_wp2_with (at_builtin;refine z0A ?_;intro q hq)
 go_cut [4] (fun s4 wx=>Hid (wx=w9.setCell ⟨b,4,none⟩ (.slice ad9 (G.l.length+1) c9)))
 case first=>
  refine Held.z3S (fun w'=>w'.cell? ⟨w.heap.size,0,none⟩=some (.pointer (some ⟨b,0,none⟩))) [55] [48,49] (by kernel_rfl) (by kernel_rfl) ?_
  repeat (apply Held.z0F (by rfl) (by exact hx5);(intro K w' hS;(try dsimp only at hS);go_simp;exact id))
  apply Held.z0I (by rfl) (by rfl) (by exact hx5)
  ·intro K
   go_simp;exact id
  refine Held.z0M (by decide) (by rfl) (by exact hx5) (fun K hK=>?_);go_simp;refine hK _ _ (fun _=>Pre.push _ rfl) (fun _=>x6) ?_;clear hK K
  repeat (apply Held.z0F (by rfl) (by exact x6);(intro K w' hS;(try dsimp only at hS);go_simp;exact id))
  refine Held.z0M (by decide) (by rfl) (by exact x6) (fun K hK=>?_);refine zaA _ _ rfl rfl rfl hr7 ?_;go_simp;refine hK _ _ (fun _=>Pre.of_keep HK67.out) (fun _=>x7) ?_;clear hK K
  repeat (apply Held.z0F (by rfl) (by exact x7);(intro K w' hS;(try dsimp only at hS);go_simp;exact id))
  refine Held.z0M (by decide) (by rfl) (by exact x7) (fun K hK=>?_);go_simp;refine hK _ _ (fun _=>Pre.push _ rfl) (fun _=>x8) ?_;clear hK K
  repeat (apply Held.z0F (by rfl) (by exact x8);(intro K w' hS;(try dsimp only at hS);go_simp;exact id))
  refine Held.z0M (by decide) (by rfl) (by exact x8) (fun K hK=>?_);refine zaA _ _ rfl rfl rfl hr9 ?_;go_simp;refine hK _ _ (fun h=>by cases h) (fun _=>x9) ?_;clear hK K
  repeat (apply Held.z0F (by rfl) (by exact x9);(intro K w' hS;(try dsimp only at hS);go_simp;exact id))
  refine Held.z0M (by decide) (by rfl) (by exact x9) (fun K hK=>?_);go_simp;refine hK _ _ (fun h=>by cases h) (fun h=>absurd rfl h) ?_;clear hK K;refine Held.z0S ?_;go_wp2_with (at_builtin;refine z0A ?_;intro q hq);go_meet;exact hid rfl
 case rest=>
  clear x6 y6 x7 x8 y7 y8 hr7 hr9 k0 k1 k2 k3 k4 k5 k6 k7 kf1 i0 i1 i2 i3 i4 i5 i6 i7 if1;obtain⟨w10,rfl⟩:=zX1 (wc);have hw10:=hcut.out;clear hcut;obtain⟨hh9,hk9,hv9,hrow9,hrec8,hf7,hk78,hw8⟩:=HY.out;have hk10:Keep (fun k=>k=b) w9 w10:=by rw[hw10];refine Keep.setCell (Keep.refl _ _) (.inl ?_) _;rfl
  have hh10:=z0C hh9 4 (.slice ad9 (G.l.length+1) c9);rw[← hw10] at hh10;have x10:=x9;rw[← World.cell?_of_block (hk10.block _ (World.block_lt_of_cell? _ _ x9) (fun e=>hbx e.symm))] at x10;clear x9 hw10;have hFw:∀ k,F k→k<w.heap.size:=by obtain⟨_,_,_,_,h⟩:=HH.out;exact h.wal.lt
  have hDw:∀ k,Fd k→k<w.heap.size:=by obtain⟨_,_,_,_,h⟩:=HH.out;exact h.disk.lt
  have hap:∀ k,F k→¬ Fd k:=by obtain⟨_,_,_,_,h⟩:=HH.out;exact h.apart
  have hFb:=HL.out.wal.self;have hFg:=HL.out.wal.garea;have hk03:=HX.out.2.2.2.2.1;have hk58:Keep (fun _=>False) w5 w8:=hf7.keep.next hk78 (fun _ _ x=>x) (fun _ _ x=>x);have hk38:Keep (fun k=>k=ga∨k=b) w3 w8:=Hk35.out.next hk58 (fun _ _ x=>x) (fun _ _ x=>x.elim);have hbv:∀ k,(Value.slice adl G.l.length cl).ownBlock=some k→F k∧¬ (k=b∨k=ga):=hrec8.own;have hk810:Keep (fun k=>(Value.slice adl G.l.length cl).ownBlock=some k∨k=b) w8 w10:=hk9.next hk10 (fun _ _ x=>.inl x) (fun _ _ x=>.inr x);have hk310:Keep (fun k=>F k) w3 w10:=hk38.next hk810 (fun k _ x=>by rcases x with rfl | rfl;exact hFg;exact hFb) (fun k _ x=>by rcases x with x | rfl;exact(hbv k x).1;exact hFb);have hk010:Keep (fun k=>F k∨Fd k) w w10:=hk03.next hk310 (fun _ _ x=>x.elim) (fun _ _ x=>.inl x);have s03:=hk03.size;have s35:=Hk35.out.size;have s58:=hk58.size;have s89:=hk9.size;have s910:=hk10.size
  have hrec9:Recs w9 (fun k=>F k∨(w3.heap.size≤k∧k<w10.heap.size)) (fun k=>k=b∨k=ga) (.slice ad9 (G.l.length+1) c9) (G.l ++ [body]) (vs ++ [.slice ad7 n c7]):=by
   refine hrec8.push (by have:=(hf7.row.keep hk78 (fun _ _ x=>x));exact this) (fun k e=>?_) hrow9 hk9 (fun k x=>.inl x) (fun k e=>?_)
   ·have h1:=hf7.own k e
    have h2:=hf7.row.lt e;have h3:=hk78.size;have h4:=hFw b hFb;have h5:=hFw ga hFg;refine⟨.inr ⟨by omega,by omega⟩,by rintro(rfl | rfl) <;> omega,fun e'=>?_⟩;have:=hFw k (hbv k e').1;omega
   ·rcases hv9 with ⟨_,h0⟩ | ⟨k',h1,h2⟩
    ·omega
    ·rw[e] at h1;cases h1
     rcases h2 with h2 | h2
     ·exact .inl h2
     ·have h4:=hFw b hFb
      have h5:=hFw ga hFg;have h6:=hrow9.lt e;refine .inr ⟨by omega,.inr ⟨by omega,by omega⟩,by rintro(rfl | rfl) <;> omega⟩
  obtain⟨hen,hnn,he2,hm,-⟩:=HN.out;have hgd:G.dead=false:=by unfold gone at hg;simp only[Bool.or_eq_false_iff] at hg;exact hg.1
  have hfl2:(flat (G.l ++ [body])).length=e2:=by rw[z4N,hbl];omega
  have hok1:LgOk (half D) { G with l:=G.l ++ [body] }:=by
   have k:=HL.out.wal.ok;refine⟨by show (flat (G.l ++ [body])).length≤_;omega,k.two,k.few,k.ep,?_,?_⟩
   ·intro x hx
    rcases List.mem_append.1 hx with hx | hx
    ·exact k.small x hx
    ·simp at hx;subst hx;omega
   ·have:=k.safe
    show G.safe≤(G.l ++ [body]).length;simp;omega
  have har10:Row w10 5 1 (.slice (some ⟨ga,0,none⟩) (32 * half D) ca) (32 * half D) (z0B (z1X (half D) (G.l ++ [body]))):=by
   have h:=HX.out.2.2.1;rw[hnn] at h
   have k45:Keep (fun k=>k=b) w4 w5:=by
    have:=hk45.out;exact this
   refine((h.keep k45 fun k e x=>?_).keep hk58 fun _ _ x=>x).keep hk810 fun k e x=>?_
   ·simp[Value.ownBlock] at e;subst e;exact hgab x
   ·simp[Value.ownBlock] at e;subst e
    rcases x with x | x
    ·exact(hbv _ x).2 (.inr rfl)
    ·exact hgab x
  have hwal10:WalIs w10 b d (fun k=>F k∨(w3.heap.size≤k∧k<w10.heap.size)) (half D) { G with l:=G.l ++ [body] } ga ca (.slice ad9 (G.l.length+1) c9) (vs ++ [.slice ad7 n c7]):=by
   refine⟨?_,har10,hrec9.keep hk10 (fun k _ h x=>h (.inl x)),.inl hFb,.inl hFg,fun e=>hgab e.symm,fun k x=>?_,hok1⟩
   ·rw[hh10]
    show some (Obj.cells _ _ _)=some (Obj.cells (z0N d G.ep (half D) _ _ G.safe (flat (G.l ++ [body])).length G.dead) _ _);rw[hfl2];rfl
   ·rcases x with x | x
    ·have:=hFw k x;omega
    ·exact x.2
  have hD10:DiskAt w10 d Fd D:=by
   obtain⟨_,_,_,_,h⟩:=HH.out;exact(h.disk.keep hk03 fun _ _ x=>x).keep hk310 fun k h1 h2=>hap k h2 h1
  have heach:=zqU w10.drew w.heap.size b d ga ca G.ep en e2 Fd D (z1X (half D) (G.l ++ [body])) (.slice ad9 (G.l.length+1) c9) G.safe e2 G.dead x10
   (by have:=hwal10.head;rw[show ({ G with l:=G.l ++ [body] }:Lg).l=G.l ++ [body] from rfl,hfl2] at this;exact this) (hD10.keep (Keep.refl (fun _=>False) _).drew fun _ _ x=>x)
   (har10.keep (Keep.refl (fun _=>False) _).drew fun _ _ x=>x) (fun x=>hap b hFb x) (fun x=>hap ga hFg x) (fun x=>by have:=hDw _ x;omega) (by omega) (by omega) hfew
  rw[hfl2,← hen] at HR;obtain⟨R,hR⟩:=zX1 (lay G.ep (z1X (half D) (G.l ++ [body])) (en / 32) ((e2 - 1) / 32 - en / 32+1) D);have hRa:lay G.ep (area D (G.l ++ [body])) (en / 32) ((e2 - 1) / 32 - en / 32+1) D=R:=hR.symm;rw[← hR] at heach;rw[hRa] at HR;obtain⟨i0,i1,i2,i3,i4,i5,i6,i7,if1,ib1⟩:=z1F (show w10.heap[b]?=some (.cells #[_,_,_,_,_,_,_,_] _ (0,0)) from hwal10.head);rw[show ({ G with l:=G.l ++ [body] }:Lg).l=G.l ++ [body] from rfl,hfl2] at i6;have hFdb:¬ Fd b:=fun x=>hap b hFb x;have hFdx:¬ Fd w.heap.size:=fun x=>by have:=hDw _ x;omega
  have hs11:∀ w11,Keep Fd w10.drew w11→w11.cell? ⟨w.heap.size,0,none⟩=some (.pointer (some ⟨b,0,none⟩))∧w11.cell? ⟨b,6,none⟩=some (.int .i64 (e2:Nat)):=fun w11 hk=>by
   constructor
   ·rw[World.cell?_of_block (hk.block _ (World.block_lt_of_cell? w10 _ x10) hFdx)];exact x10
   ·rw[World.cell?_of_block (hk.block _ (World.block_lt_of_cell? w10 _ i6) hFdb)];exact i6
  have hfails:∀ w11,Keep Fd w10.drew w11→Calls Tryz.prog 103 #[.pointer (some ⟨b,0,none⟩),.int .i64 R.1] w11 fun x w'=>x = .returned (.int .i64 R.1)∧(w'.cell? ⟨w.heap.size,0,none⟩=some (.pointer (some ⟨b,0,none⟩))∧w'.cell? ⟨b,6,none⟩=some (.int .i64 (e2:Nat)))∧Hid (w'=w11.setCell ⟨b,7,none⟩ (.bool (decide (R.1≠0)))):=by
   intro w11 hk;obtain⟨z1,z2⟩:=hs11 w11 hk;have h1:=hk.get (show w10.drew.heap[b]?=_ from hwal10.head) (fun x=>hap b hFb x);have h2:=z8U w11 b d _ _ _ _ _ _ _ h1 R.1;rw[show (({ G with l:=G.l ++ [body] }:Lg).dead || decide (R.1≠0))=decide (R.1≠0) by show (G.dead || _)=_;rw[hgd];rfl] at h2;refine h2.mono ?_;rintro e w' ⟨rfl,rfl⟩;exact⟨rfl,⟨(World.cell?_setCell_other _ _ _ _ (by simp)).trans z1,(World.cell?_setCell_other _ _ _ _ (by simp)).trans z2⟩,hid rfl⟩
  have Hw:=hid hwal10;have HFails:=hid hfails;have HEach:=hid heach;have HS11:=hid hs11;have HRl:=hid (show R.2.safe.length=D.safe.length by rw[hR];exact z7V _ _ _ _ _);have HS3:=hid (show w.heap.size≤w3.heap.size∧w3.heap.size≤w10.heap.size by omega);have HK:=hid (zA1 hk010 (zA1 hFw (zA1 hDw (zA1 hap hD10))));clear hwal10 hfails heach hs11 hk010 hFw hDw hap hD10 hk03 hk58 hk38 hbv hk810 hk310 s03 s35 s58 s89 s910 hrec9 hen hnn he2 hm hgd hfl2 hok1 har10 hR hRa hFb hFg hh10 hk10 hh9 hk9 hv9 hrow9 hrec8 hf7 hk78 hw8;go_wp2_with (at_builtin;refine z0A ?_;intro q hq)
  go_region_held3 (fun w'=>w'.cell? ⟨w.heap.size,0,none⟩=some (.pointer (some ⟨b,0,none⟩))∧w'.cell? ⟨b,6,none⟩=some (.int .i64 (e2:Nat)))
   (first | exact⟨x10,i6⟩ | assumption | (constructor <;> assumption))
   (first
    | (go_simp;go_at_call 104;refine HEach.out.mono ?_;rintro e w11 ⟨rfl,Fd',hD11,hk11,hF11⟩;obtain⟨z1,z2⟩:=HS11.out w11 hk11;have HW11:=hid (zA1 hD11 (zA1 hk11 hF11));clear hD11 hk11 hF11;go_simp)
    | (go_simp;go_at_call 103;refine(HFails.out _ (by first | exact HW11.out.2.1)).mono ?_;rintro e w12 ⟨rfl,hz12,HW12⟩;go_simp))
  go_wp2_with (at_builtin;refine z0A ?_;intro q hq);go_ret;rw[HR.out];refine⟨rfl,?_⟩;obtain⟨hD11,hk11,hF11⟩:=HW11.out;rw[HW12.out];obtain⟨hk010,hFw,hDw,hap,hD10⟩:=HK.out;obtain⟨s1,s2⟩:=HS3.out;have hk11':Keep Fd w10 w11:=⟨hk11.os,hk11.tape,hk11.output,hk11.size,hk11.block⟩;have hF11':∀ k,Fd' k→Fd k∨w10.heap.size≤k:=hF11
  have hw11:=Hw.out.keep hk11' (fun k x y=>by
   have:=hDw k y
   rcases x with x | x
   ·exact hap k x y
   ·omega)
  rw[← z3J HRl.out] at hw11
  have hlog:LogAt w11 b d _ Fd' R.2 { G with l:=G.l ++ [body] }:=⟨ga,ca,_,_,hw11,hD11,fun k x y=>by
   rcases hF11' k y with y | y
   ·have:=hDw k y
    rcases x with x | x
    ·exact hap k x y
    ·omega
   ·have:=Hw.out.lt k x
    omega⟩
  obtain⟨F2,Fd2,h1,h2,h3,h4⟩:=hlog.dead (decide (R.1≠0));have s3:=hk11'.size;refine⟨F2,Fd2,h1,?_,fun k x=>?_,fun k x=>?_⟩
  ·refine(hk010.next hk11' (H:=fun k=>F k∨Fd k) (fun _ _ x=>x) (fun _ _ x=>.inr x)).next h2 (fun _ _ x=>x) fun k hk x=>?_
   rcases x with (x | x) | x
   ·exact .inl x
   ·omega
   ·rcases hF11' k x with x | x
    ·exact .inr x
    ·omega
  ·rcases h3 k x with (x | x) | x
   ·exact .inl x
   ·right;omega
   ·right;omega
  ·rcases h4 k x with x | x
   ·rcases hF11' k x with x | x
    ·exact .inl x
    ·right;omega
   ·right;omega
end
section
open Go.RowKit
open DM BM WM
theorem z6D (D:Dk):(DM.sync D).2.safe.length=D.safe.length:=by
 unfold DM.sync;split
 ·show (DM.now (act D).2).length=_
  rw[z1H,z1P]
 ·rw[z1P]
theorem LogIs.next {w w1 w2:World} {b d:Nat} {F Fd F1 Fd1:Nat→Prop} {D2:Dk} {G2:Lg} (hk:Keep (fun k=>F k∨Fd k) w w1) (h1:∀ k,F1 k→F k∨w.heap.size≤k) (h2:∀ k,Fd1 k→Fd k∨w.heap.size≤k)
  (h:LogTo b d F1 Fd1 w1 D2 G2 w2):LogTo b d F Fd w D2 G2 w2:=by
 obtain⟨F2,Fd2,a1,a2,a3,a4⟩:=h;have s:=hk.size;refine⟨F2,Fd2,a1,hk.next a2 (fun _ _ x=>x) (fun k hk' x=>?_),fun k x=>?_,fun k x=>?_⟩
 ·rcases x with x | x
  ·rcases h1 k x with y | y
   ·exact .inl y
   ·omega
  ·rcases h2 k x with y | y
   ·exact .inr y
   ·omega
 ·rcases a3 k x with y | y
  ·exact h1 k y
  ·right;omega
 ·rcases a4 k x with y | y
  ·exact h2 k y
  ·right;omega
theorem LogAt.disked {w w1:World} {b d:Nat} {F Fd:Nat→Prop} {D D1:Dk} {G:Lg} (H:LogAt w b d F Fd D G) (hl:D1.safe.length=D.safe.length) (h:DiskTo d Fd w D1 w1):LogTo b d F Fd w D1 G w1:=by
 obtain⟨ga,ca,vl,vs,HL⟩:=H;obtain⟨Fd',hD,hk,hF⟩:=h;have hw:=HL.wal.keep hk fun k x y=>HL.apart k x y;rw[← z3J hl] at hw;refine⟨F,Fd',⟨ga,ca,vl,vs,hw,hD,fun k x y=>?_⟩,hk.mono fun _ _ x=>.inr x,fun _ x=>.inl x,hF⟩
 rcases hF k y with y | y
 ·exact HL.apart k x y
 ·have:=HL.wal.lt k x;omega
theorem WalIs.saved {w:World} {b d:Nat} {F:Nat→Prop} {h:Nat} {G:Lg} {ga ca:Nat} {vl:Value} {vs:List Value} (H:WalIs w b d F h G ga ca vl vs) :
  WalIs (w.setCell ⟨b,5,none⟩ (.int .i64 (G.l.length:Nat))) b d F h { G with safe:=G.l.length } ga ca vl vs:=by
 refine H.head' (by refine Keep.setCell (Keep.refl _ _) (.inl ?_) _;rfl) rfl ?_ ⟨H.ok.fit,H.ok.two,H.ok.few,H.ok.ep,H.ok.small,Nat.le_refl _⟩;rw[z0C H.head 5 (.int .i64 (G.l.length:Nat))];rfl
theorem LogAt.saved {w:World} {b d:Nat} {F Fd:Nat→Prop} {D:Dk} {G:Lg} (H:LogAt w b d F Fd D G):LogTo b d F Fd w D { G with safe:=G.l.length } (w.setCell ⟨b,5,none⟩ (.int .i64 (G.l.length:Nat))):=by
 obtain⟨ga,ca,vl,vs,h⟩:=H;have hk:Keep (fun k=>k=b) w (w.setCell ⟨b,5,none⟩ (.int .i64 (G.l.length:Nat))):=kst;exact⟨F,Fd,⟨ga,ca,vl,vs,h.wal.saved,h.disk.keep hk fun k e c=>by subst c;exact h.apart _ h.wal.self e,h.apart⟩,hk.mono fun i _ e=>by subst e;exact .inl h.wal.self,fun _ x=>.inl x,fun _ x=>.inl x⟩
theorem znH (w:World) (b d:Nat) (F Fd:Nat→Prop) (D:Dk) (G:Lg) (H:LogAt w b d F Fd D G) (hfew:D.waits.length≤900000) :
  Calls Tryz.prog 124 #[.pointer (some ⟨b,0,none⟩)] w fun e w'=>
   e = .returned (.int .i64 (WM.z5I D G).1)∧LogTo b d F Fd w (WM.z5I D G).2.1 (WM.z5I D G).2.2 w':=by
 by_cases hg:gone D G=true
 ·have hr:WM.z5I D G=(6,D,WM.mark D G):=by unfold WM.z5I;rw[if_pos hg]
  have HR:=hid hr;clear hr;go_enter Tryz.func124,Tryz.ntmps124;go_wp2_with (at_builtin;refine z0A ?_;intro q hq);refine(z9O _ b d F Fd D G H hg).mono ?_;rintro e w2 ⟨rfl,ht⟩;have HT:=hid ht;clear ht;go_wp2_with (at_builtin;refine z0A ?_;intro q hq);go_ret;rw[HR.out];exact⟨rfl,HT.out⟩
 have hg:gone D G=false:=by simpa using hg
 have HH:=hid H;obtain⟨ga,ca,vl,vs,HL⟩:=H;have hh:=HL.wal.head;unfold z0N at hh;obtain⟨h0,-,-,-,-,-,-,-,-⟩:=z1F hh;have hgd:G.dead=false:=by unfold gone at hg;simp only[Bool.or_eq_false_iff] at hg;exact hg.1
 have HL:=hid HL;have Hgd:=hid hgd;clear hh hgd;go_enter Tryz.func124,Tryz.ntmps124;go_wp2_with (at_builtin;refine z0A ?_;intro q hq);refine(z6C _ b d F Fd D G HH.out hg).mono ?_;rintro e w ⟨rfl,rfl⟩;go_wp2_with (at_builtin;refine z0A ?_;intro q hq);refine(zaG w d Fd D HL.out.disk (by omega)).mono ?_;rintro e w1 ⟨rfl,hto⟩;have ht1:=HH.out.disked (z6D D) hto;obtain⟨F1,Fd1,hL1,hk1,hF1,hFd1⟩:=ht1;obtain⟨ga1,ca1,vl1,vs1,HL1⟩:=hL1;have hh1:=HL1.wal.head;have hfl:=z8U w1 b d _ _ _ _ _ _ _ hh1 (DM.sync D).1;obtain⟨Y,hY⟩:=zX1 (DM.sync D);rw[← hY] at hfl HL1 ⊢;have HL1:=hid HL1;have HK1:=hid (zA1 hk1 (zA1 hF1 hFd1));have HFL:=hid hfl;have HY:=hid hY;clear hto h0 hh1 hfl hk1 hF1 hFd1 hY;go_wp2_with (at_builtin;refine z0A ?_;intro q hq);refine HFL.out.mono ?_;rintro e w3 ⟨rfl,hw3⟩;rw[Hgd.out,Bool.false_or] at hw3
 have ht3:LogTo b d F Fd w Y.2 { G with dead:=decide (Y.1≠0) } w3:=by
  rw[hw3];exact LogIs.next HK1.out.1 HK1.out.2.1 HK1.out.2.2 (LogAt.dead ⟨_,_,_,_,HL1.out⟩ _)
 clear hw3
 by_cases hy:Y.1=0
 ·have hr:WM.z5I D G=(0,Y.2,{ G with safe:=G.l.length }):=by unfold WM.z5I;rw[hg,← HY.out];simp[hy]
  have HR:=hid hr;clear hr;have e0:({ G with dead:=decide (Y.1≠0) }:Lg)=G:=by rw[hy];show ({ G with dead:=false }:Lg)=G;rw[← Hgd.out]
  rw[e0] at ht3;obtain⟨F3,Fd3,hL3,hk3,hF3,hFd3⟩:=ht3;have HL3:=hid hL3;obtain⟨ga3,ca3,vl3,vs3,hI3⟩:=hL3;have hh3:=hI3.wal.head;unfold z0N at hh3;obtain⟨i0,i1,i2,i3,i4,i5,i6,i7,if1,ib1⟩:=z1F hh3;obtain⟨adl,cl,rfl,-⟩:=hI3.wal.recs.row.form;have HK3:=hid (zA1 hk3 (zA1 hF3 hFd3));have HI3:=hid hI3;clear hh3 hk3 hF3 hFd3 hI3;rw[hy];go_wp2_with (at_builtin;refine z0A ?_;intro q hq);go_ret;rw[HR.out];exact⟨rfl,LogIs.next HK3.out.1 HK3.out.2.1 HK3.out.2.2 HL3.out.saved⟩
 ·have hr:WM.z5I D G=(Y.1,Y.2,{ G with dead:=true }):=by unfold WM.z5I;rw[hg,← HY.out];simp[hy]
  have HR:=hid hr;clear hr;have u1:(Y.1 == 0)=false:=by simp[hy]
  have u2:(Y.1 != 0)=true:=by simp[hy]
  have u3:decide (Y.1=0)=false:=by simp[hy]
  have e0:decide (Y.1≠0)=true:=by simp[hy]
  rw[e0] at ht3;have HT3:=hid ht3;clear ht3 hy e0;go_wp2_with (at_builtin;refine z0A ?_;intro q hq);go_ret;rw[HR.out];exact⟨rfl,HT3.out⟩
end
section
open Go.RowKit
open DM BM WM
def Made (w0:World) (v:Value) (L:List (List UInt8)) (w:World):Prop:=∃ vs,Recs w (fun k=>w0.heap.size≤k) (fun _=>False) v L vs
theorem Recs.one {w:World} {F A:Nat→Prop} {ad:Option Addr} {n c:Nat} {L:List (List UInt8)} {vs:List Value} (h:Recs w F A (.slice ad n c) L vs) (j:Nat) (hj:j<L.length) :
  ∃ g ad2 c2,ad=some ⟨g,0,none⟩∧w.cell? ⟨g,j,none⟩=some (.slice ad2 L[j].length c2)∧Row w 5 1 (.slice ad2 L[j].length c2) L[j].length (z0B L[j])∧L[j].length≤c2:=by
 obtain⟨u,h1,h2,-⟩:=h.each j hj;obtain⟨g,cap,hv,hc⟩:=h.row.getCell h1;obtain⟨ad2,c2,rfl,h3,-⟩:=h2.form;cases hv;exact⟨g,ad2,c2,rfl,hc,h2,h3⟩
theorem zlF (w:World) (b d:Nat) (F Fd:Nat→Prop) (D:Dk) (G:Lg) (H:LogAt w b d F Fd D G) (hg:gone D G=false) :
  Calls Tryz.prog 44 #[.pointer (some ⟨b,0,none⟩)] w fun e w'=>∃ v,e = .returned v∧Made w v G.l w'∧Keep (fun _=>False) w w':=by
 have HH:=hid H;obtain⟨ga,ca,vl,vs,HL⟩:=H;have hh:=HL.wal.head;unfold z0N at hh;obtain⟨h0,h1,h2,h3,h4,h5,h6,h7,hf,hb⟩:=z1F hh;have hcnt:=HL.wal.ok.count;have hsml:=hid HL.wal.ok.small;obtain⟨adl,cl,rfl,-⟩:=HL.wal.recs.row.form;have HR:=hid HL.wal.recs;have H0:=hid (show ∃ vs',Recs w (fun k=>w.heap.size≤k) (fun _=>False) (.slice none 0 0) (G.l.take 0) vs'∧Keep (fun _=>False) w w from⟨[],Recs.nil _ _ _,Keep.refl _ _⟩);clear hh HL h0 h1 h2 h3 h5 h6 h7 hf hb;go_enter Tryz.func44,Tryz.ntmps44;go_wp2_with (at_builtin;refine z0A ?_;intro q hq);refine(z6C w b d F Fd D G HH.out hg).mono ?_;rintro e w ⟨rfl,rfl⟩;go_wp2_with (at_builtin;refine z0A ?_;intro q hq)
 go_loopw [3,14] (fun ov iv wr=>∃ i:Nat,i≤G.l.length∧iv = .int .i64 i∧(∃ ad c,ov = .slice ad i c)∧Hid (∃ vs',Recs wr (fun k=>w.heap.size≤k) (fun _=>False) ov (G.l.take i) vs'∧Keep (fun _=>False) w wr)) (fun _ iv _=>G.l.length - (intOf iv).toNat)
 case atStart=>exact⟨0,Nat.zero_le _,rfl,⟨none,0,rfl⟩,H0⟩
 case round=>
  clear H0;obtain⟨i,hi,rfl,⟨ad,c,rfl⟩,HI⟩:=hrel
  by_cases hin:i<G.l.length
  ·obtain⟨vs',hr',hk'⟩:=HI.out
   obtain⟨g,ad2,c2,rfl,hc,hrow,hc2⟩:=(HR.out.keep hk' fun _ _ _ x=>x).one i hin;obtain⟨x,hx⟩:=zX1 (G.l[i]);have hxl:x.length≤1024:=by rw[hx];exact hsml.out _ (List.getElem_mem hin)
   rw[← hx] at hc hrow hc2;have hl1:(G.l.take i).length=i:=by rw[List.length_take];omega
   have HX:=hid (show G.l.take (i+1)=G.l.take i ++ [x] by rw[List.take_succ_eq_append_getElem hin,hx]);have q1:(i:Int)<(G.l.length:Int):=by omega
   have HRr:=hid (zA1 hr' (zA1 hk' (zA1 hrow (zA1 hc2 hl1))));clear hr' hk' hrow hc2 hx hl1;obtain⟨n,hn⟩:=zX1 (x.length);rw[← hn] at hc hxl HRr;have HN:=hid hn;clear hn;go_wp2_with (at_builtin;refine z0A ?_;intro q hq)
   (refine hq.out ?_;clear hq q)
   have hf6:Fresh wr (.slice (some ⟨wr.heap.size,0,none⟩) 0 0) [] (wr.alloc (.cells #[] 5)):=z2X rfl rfl rfl (by unfold maxLen;decide);obtain⟨w6,hw6⟩:=zX1 (wr.alloc (.cells #[] 5));rw[← hw6] at hf6 ⊢;clear hw6;have HF6:=hid hf6;clear hf6;refine wpList_plain rfl (fun K hK=>?_);refine z3B (r:=x) _ _ rfl rfl HF6.out _ n c2 rfl ((Cells.of_row HRr.out.2.2.1).keep HF6.out.keep (fun _ _ h=>h)) (by omega) ?_;intro v7 w7 hf7 hk7;obtain⟨ad7,c7,hv7,-⟩:=hf7.row.form;rw[← HN.out] at hv7;subst hv7;refine hK _ _ ?_;clear hK K;have HF7:=hid hf7;clear hf7 hk7;go_wp2_with (at_builtin;refine z0A ?_;intro q hq)
   (refine hq.out ?_;clear hq q)
   obtain⟨w8,hw8⟩:=zX1 (w7.alloc (.cells #[.slice ad7 n c7] 29));have hnew8:w8.heap[w7.heap.size]?=some (.cells #[.slice ad7 n c7] 29):=by rw[hw8];exact heap_alloc_new w7 _
   have hk78:Keep (fun _=>False) w7 w8:=by rw[hw8];exact(Keep.refl _ _).alloc _
   rw[← hw8];clear hw8;have H8:=hid (zA1 hnew8 hk78);clear hnew8 hk78;refine wpList_plain rfl (fun K hK=>?_);obtain⟨hr',hk',hrow,hc2,hl1⟩:=HRr.out;have hkr8:Keep (fun _=>False) wr w8:=HF7.out.keep.next H8.out.2 (fun _ _ x=>x) (fun _ _ x=>x);have hr8:=hr'.keep hkr8 (fun _ _ _ x=>x);have hrow8:=hr8.row;rw[hl1] at hrow8
   refine z0R z9G _ _ rfl rfl hrow8 (some ⟨w7.heap.size,0,none⟩) 1 1 [.slice ad7 n c7] rfl
    ⟨rfl,fun _=>⟨_,rfl,fun j u hu=>by rw[z0J,Nat.zero_add,cell_of_row _ _ _ _ _ _ H8.out.1];simpa using hu⟩⟩ (by intro u hu;simp at hu;subst hu;rfl) (by unfold maxLen;omega) (by omega) ?_
   intro v9 w9 hr9 hk9 hv9;obtain⟨ad9,c9,rfl,-⟩:=hr9.form;refine hK _ _ ?_;clear hK K
   have HZ:=hid (show ∃ vs',Recs w9 (fun k=>w.heap.size≤k) (fun _=>False) (.slice ad9 (i+1) c9) (G.l.take (i+1)) vs'∧Keep (fun _=>False) w w9 by
    have s1:=hk'.size;have s2:=hkr8.size;refine⟨vs' ++ [.slice ad7 n c7],?_,?_⟩
    ·rw[HX.out]
     refine hr8.push (HF7.out.row.keep H8.out.2 fun _ _ x=>x) (fun k e=>?_) (by rw[hl1];exact hr9) hk9 (fun k x=>x) (fun k e=>?_)
     ·have:=HF7.out.own k e
      refine⟨by omega,fun x=>x,fun e'=>?_⟩;have:=hr'.row.lt e';omega
     ·rcases hv9 with ⟨_,h0⟩ | ⟨k',h1,h2⟩
      ·omega
      ·rw[e] at h1;cases h1
       rcases h2 with h2 | h2
       ·exact .inl h2
       ·exact .inr ⟨by omega,by omega,fun x=>x⟩
    ·refine(hk'.nx hkr8).next hk9 (fun _ _ x=>x) fun k hk x=>?_
     have:=(hr'.own k x).1
     omega)
   clear hr' hk' hrow hc2 hl1 hkr8 hr8 hrow8 hr9 hk9 hv9 HRr HF7 H8;go_wp2_with (at_builtin;refine z0A ?_;intro q hq);go_roundw
   case rel=>exact⟨i+1,by omega,by go_num,⟨ad9,c9,rfl⟩,HZ⟩
   case measure=>simp[intOf];omega
  ·obtain rfl:i=G.l.length:=by omega
   have q1:¬ ((G.l.length:Int)<(G.l.length:Int)):=by omega
   go_wp2_with (at_builtin;refine z0A ?_;intro q hq);go_ret;obtain⟨vs',hr',hk'⟩:=HI.out;rw[List.take_length] at hr';exact⟨_,rfl,⟨vs',hr'⟩,hk'⟩
end
end Go.Proofs.YtkjofdocgaiedaaGreat
