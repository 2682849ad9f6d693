/- Texts WalT, WalL, WalX, WalH, WalG, WalW in one. Conditions: as each law names them. -/
import Derived.Test.YtkjofdocgaiedaaGreatUak
import Derived.Test.YtkjofdocgaiedaaGreatUan
import Derived.Test.YtkjofdocgaiedaaGreatUat
import Derived.Test.YtkjofdocgaiedaaGreatUau
set_option maxRecDepth 20000
set_option maxHeartbeats 8000000
namespace Go.Proofs.YtkjofdocgaiedaaGreat
section
open Go.RowKit
open DM BM WM
theorem zaX {P:Program} {ops:Array Oper} {o:Oper} {a:Act} {w w':World} {K:Act→World→Prop} {Q:Exit→Act→World→Prop} {E:Prop} {t tn:TypeId} {v1 v2 v':Value}
  (hg:o.guard=none) (s x:Operand) (hop:o.op=Op.call { callee:=Callee.builtin Builtin.append,args:=#[s,x],argTypes:=#[t,tn] }) (h1:a.eval s=v1) (h2:a.eval x=v2)
  (hr:(Builtin.append_ #[t,tn] o.type #[v1,v2]).run P w = .ok v' w') (hK:K (a.put o.dst v') w') :
  if Region.wanted o (yielded ops a.tmps)=true then Oper.wp P o a w K Q else E:=by
 have hw:Region.wanted o (yielded ops a.tmps)=true:=by simp[Region.wanted,hg]
 rw[if_pos hw];subst h1 h2;unfold Oper.wp;simp[execOp,hop,resolve,invoke,builtin,hr,Result.andThen];exact hK
theorem z7M (n:Nat) (hn:n<18446744073709551616):(z0H n).length≤10:=by
 obtain⟨s1,s2,-⟩:=z9P n hn;rw[(z9U n hn).1,List.length_append,z1T];simp;omega
theorem z7C (D:Dk):(DM.sync D).2.waits.length≤D.waits.length:=by
 unfold DM.sync;split
 ·simp
 ·rw[z1V];omega
theorem zbY (ep:Nat) (h:ep<18446744073709551616):(z1B ep).length=32:=by
 have:=z7M ep h;unfold z1B;rw[List.length_append,List.length_replicate,z1D];omega
def TurnTo (b d:Nat) (Fd:Nat→Prop) (w:World) (cs ns:Array Value) (R:Int×Dk) (e:Ending) (w':World):Prop:=
 e = .returned (.int .i64 R.1)∧∃ Fd',DiskAt w' d Fd' R.2∧Keep (fun k=>Fd k∨k=b) w w'∧(∀ k,Fd' k→Fd k∨w.heap.size≤k)∧w'.heap[b]?=some (.cells (if R.1=0 then ns else cs) 164 (0,0))
theorem zqD (w:World) (b d ga ca ep sf en:Nat) (Fd:Nat→Prop) (D:Dk) (bs:List UInt8) (vl:Value) (dead:Bool) (cs:List Value) (H:w.heap[b]?=some (.cells cs.toArray 164 (0,0))) (hcs:cs.length=8)
  (hD:DiskAt w d Fd D) (hrow:Row w 5 1 (.slice (some ⟨ga,0,none⟩) (32 * half D) ca) (32 * half D) (z0B bs)) (hb:¬ Fd b) (hga:¬ Fd ga) (hep:ep<4611686018427387905) (hfew:D.waits.length≤700000)
  (hvl:vl.oneCell'=true) :
  Calls Tryz.prog 143 #[.pointer (some ⟨b,0,none⟩),.agg (z0N d ep (half D) (.slice (some ⟨ga,0,none⟩) (32 * half D) ca) vl sf en dead)] w
   (TurnTo b d Fd w cs.toArray (z0N d ep (half D) (.slice (some ⟨ga,0,none⟩) (32 * half D) ca) vl sf en dead) (z2T ep bs D)):=by
 have hfewD:=hD.ok.few;have hhalf:half D≤1023:=by unfold half;omega
 have hlt:=hD.lt;have hrl:=hrow.lt (k:=ga) (by simp[Value.ownBlock]);have hbl:=z0L H;obtain⟨w1,hw1⟩:=zX1 (w.alloc (.cells (z0N d ep (half D) (.slice (some ⟨ga,0,none⟩) (32 * half D) ca) vl sf en dead) 164));have hk1:Keep (fun _=>False) w w1:=by rw[hw1];exact(Keep.refl _ _).alloc _
 have hh1:w1.heap[w.heap.size]?=some (.cells (z0N d ep (half D) (.slice (some ⟨ga,0,none⟩) (32 * half D) ca) vl sf en dead) 164):=by rw[hw1];exact heap_alloc_new w _
 have hD1:=hD.keep hk1 fun _ _ x=>x;have hrow1:=hrow.keep hk1 fun _ _ x=>x;have hF1:∀ k,Fd k→k≠w.heap.size:=fun k x=>by have:=hlt k x;omega
 obtain⟨n2,hn2⟩:=zX1 (w.heap.size);have hn2F:¬ Fd n2:=fun x=>hF1 n2 x hn2;have hbn:b≠n2:=by omega
 rw[← hn2] at hh1;obtain⟨Post,hPost⟩:=zX1 (TurnTo b d Fd w cs.toArray (z0N d ep (half D) (.slice (some ⟨ga,0,none⟩) (32 * half D) ca) vl sf en dead) (z2T ep bs D));rw[← hPost]
 have bad:∀ wX DX (c:Int),c≠0→z2T ep bs D=(c,DX)→DiskTo d Fd w1 DX wX→Post (.returned (.int .i64 c)) wX:=by
  intro wX DX c hc he ht;obtain⟨F',h1,h2,h3⟩:=ht.since hk1;rw[hPost,he];refine⟨rfl,F',h1,h2.mono fun _ _ x=>.inl x,h3,?_⟩;rw[if_neg hc];exact h2.get H hb
 have good:∀ wX wY DX,z2T ep bs D=(0,DX)→DiskTo d Fd w1 DX wX→wY=wX.setRow b (z0N d ep (half D) (.slice (some ⟨ga,0,none⟩) (32 * half D) ca) vl sf en dead)→Post (.returned (.int .i64 0)) wY:=by
  intro wX wY DX he ht hwY;obtain⟨F',h1,h2,h3⟩:=ht.since hk1;have hk:Keep (fun k=>k=b) wX wY:=by rw[hwY];refine Keep.setRow (Keep.refl _ _) (.inl ?_) _;rfl
  have hFb:¬ F' b:=fun x=>(h3 b x).elim hb fun y=>by omega
  rw[hPost,he];refine⟨rfl,F',h1.keep hk fun k x y=>by subst y;exact hFb x,h2.next hk (fun _ _ x=>.inl x) (fun _ _ x=>.inr x),h3,?_⟩;rw[if_pos rfl,hwY];exact setRow_heap wX b _ _ _ _ (h2.get H hb)
 clear hPost;have Bad:=hid bad;have Good:=hid good;clear bad good;obtain⟨nn,hnn⟩:=zX1 (32 * half D);obtain⟨i0,i1,i2,i3,i4,i5,i6,i7,if1,ib1⟩:=z1F (show w1.heap[n2]?=some (.cells #[_,_,_,_,_,_,_,_] _ (0,0)) from hh1)
 have heach:=zlP w1 n2 d 153 ga ca #[.pointer (some ⟨n2,0,none⟩)] ep 0 0 (half D) (32 * half D) Fd D bs hD1 rfl (fun i=>by omega) (Nat.zero_le _) (Nat.le_refl _) (Nat.le_refl _) hn2F hga i3 hrow1
  (enters_of Tryz.func153 (by kernel_rfl) rfl) (by omega) (by
   intro wr F' D' hk hD' hF' hs' hw' i hi ao c s hsrc hap;have H':=hk.get hh1 hn2F;rw[← z3J hs'] at H' hi;rw[← z5L hs']
   exact zqI wr n2 d ep F' D' _ vl sf en dead H' hD' i hi ao c s hsrc hap hw')
 rw[Nat.sub_zero] at heach;obtain⟨R,hR⟩:=zX1 (lay ep bs 0 (half D) D);rw[← hR,← hnn] at heach;rw[← hnn] at i3;have hRw:R.2.waits.length≤702000:=by rw[hR];have:=z8H ep bs (half D) 0 D;omega
 have HEach:=hid heach
 have HT:=hid (show z2T ep bs D=if R.1≠0 then R else if (DM.sync R.2).1≠0 then DM.sync R.2 else
   if (DM.write (DM.sync R.2).2 ((ep % 2:Nat):Int) (z1B ep)).1≠0 then DM.write (DM.sync R.2).2 ((ep % 2:Nat):Int) (z1B ep) else DM.sync (DM.write (DM.sync R.2).2 ((ep % 2:Nat):Int) (z1B ep)).2 by rw[hR];rfl)
 have HH:=hid (zA1 hh1 (zA1 hk1 (zA1 hn2F (zA1 hlt (zA1 hn2 hnn)))));have HB:=hid (zA1 H (zA1 hb (zA1 hbn hbl)));have hwc:z0N d ep (half D) (.slice (some ⟨ga,0,none⟩) (32 * half D) ca) vl sf en dead = #[.pointer (some ⟨d,0,none⟩),.int .u64 (ep:Nat),.int .i64 (half D:Nat),.slice (some ⟨ga,0,none⟩) nn ca,vl,.int .i64 (sf:Nat),.int .i64 (en:Nat),.bool dead]:=by rw[hnn];rfl
 clear heach hR hh1 hk1 hD hD1 hrow hrow1 hnn H;rw[hwc];rw[hwc] at hw1;go_enter Tryz.func143,Tryz.ntmps143;go_wp2_with (at_builtin;refine z0A ?_;intro q hq);rw[← hw1,← hn2];clear hw1 i0 i1 i2 i3 i4 i5 i6 i7 if1 ib1 hwc hn2;refine HEach.out.mono ?_;rintro e w2 ⟨rfl,ht2⟩;have HT2:=hid ht2;obtain⟨F2,hD2,hk2,hF2⟩:=ht2;have hh2:=hk2.get HH.out.1 hn2F;obtain⟨i0,i1,i2,i3,i4,i5,i6,i7,if1,ib1⟩:=z1F (show w2.heap[n2]?=some (.cells #[_,_,_,_,_,_,_,_] _ (0,0)) from hh2);have H2:=hid (zA1 hD2 (zA1 hk2 (zA1 hF2 hh2)));clear hD2 hk2 hF2 hh2
 by_cases r0:R.1=0
 rotate_left
 ·have hB:=Bad.out w2 R.2 R.1 r0 (by rw[HT.out,if_pos r0]) HT2.out
  have u1:(R.1 == 0)=false:=by simp[r0]
  have u3:decide (R.1=0)=false:=by simp[r0]
  have HB2:=hid hB;clear hB r0;go_wp2_with (at_builtin;refine z0A ?_;intro q hq);exact HB2.out
 have HTa:=hid (show z2T ep bs D=if (DM.sync R.2).1≠0 then DM.sync R.2 else
   if (DM.write (DM.sync R.2).2 ((ep % 2:Nat):Int) (z1B ep)).1≠0 then DM.write (DM.sync R.2).2 ((ep % 2:Nat):Int) (z1B ep) else DM.sync (DM.write (DM.sync R.2).2 ((ep % 2:Nat):Int) (z1B ep)).2 by rw[HT.out,if_neg (by simp[r0])])
 clear HT;rw[r0];go_wp2_with (at_builtin;refine z0A ?_;intro q hq);refine(zaG w2 d F2 R.2 H2.out.1 (by omega)).mono ?_;rintro e w3 ⟨rfl,ht3⟩;have ht13:=DiskTo.next H2.out.2.1 H2.out.2.2.1 ht3;have HT13:=hid ht13;obtain⟨F3,hD3,hk3,hF3⟩:=ht13;have hh3:=hk3.get HH.out.1 hn2F;clear i0 i1 i2 i3 i4 i5 i6 i7 if1 ib1 ht3 H2;obtain⟨i0,i1,i2,i3,i4,i5,i6,i7,if1,ib1⟩:=z1F (show w3.heap[n2]?=some (.cells #[_,_,_,_,_,_,_,_] _ (0,0)) from hh3);have H3:=hid (zA1 hD3 (zA1 hk3 (zA1 hF3 hh3)));clear hD3 hk3 hF3 hh3;obtain⟨Y,hY⟩:=zX1 (DM.sync R.2);have hYw:Y.2.waits.length≤702001:=by rw[hY];have:=z7C R.2;omega
 rw[← hY] at HTa H3 HT13 ⊢;clear hY
 by_cases y0:Y.1=0
 rotate_left
 ·have hB:=Bad.out w3 Y.2 Y.1 y0 (by rw[HTa.out,if_pos y0]) HT13.out
  have u1:(Y.1 == 0)=false:=by simp[y0]
  have u3:decide (Y.1=0)=false:=by simp[y0]
  have HB2:=hid hB;clear hB y0;go_wp2_with (at_builtin;refine z0A ?_;intro q hq);exact HB2.out
 have HTb:=hid (show z2T ep bs D=if (DM.write Y.2 ((ep % 2:Nat):Int) (z1B ep)).1≠0 then DM.write Y.2 ((ep % 2:Nat):Int) (z1B ep) else DM.sync (DM.write Y.2 ((ep % 2:Nat):Int) (z1B ep)).2 by rw[HTa.out,if_neg (by simp[y0])]);clear HTa;rw[y0];go_wp2_with (at_builtin;refine z0A ?_;intro q hq);refine(z4V w3 ep (by omega)).mono ?_;rintro e w4 ⟨v4,rfl,hf4⟩;obtain⟨ad4,c4,rfl,-⟩:=hf4.row.form;have hl4:=z7M ep (by omega);have HF4:=hid hf4;clear hf4;go_wp2_with (at_builtin;refine z0A ?_;intro q hq);refine(zgZ w4 1 ad4 (z0H ep).length c4 (z0H ep) (Cells.of_row HF4.out.row) (by omega)).mono ?_;rintro e w5 ⟨v5,rfl,hf5⟩;obtain⟨ad5,c5,rfl,-⟩:=hf5.row.form;obtain⟨fl,hfl⟩:=zX1 ((frame 1 (z0H ep)).length);have hfl2:fl≤20:=by rw[hfl,z1D];omega
 rw[← hfl];have hk35:Keep (fun _=>False) w3 w5:=HF4.out.keep.next hf5.keep (fun _ _ x=>x) (fun _ _ x=>x);have hf35:Fresh w3 (.slice ad5 fl c5) (frame 1 (z0H ep)) w5:=by rw[hfl];exact hf5.since HF4.out.keep
 have hn2l:=z0L HH.out.1;have hn2F3:¬ F3 n2:=fun x=>(H3.out.2.2.1 n2 x).elim hn2F fun y=>by omega
 have hF3l:∀ k,F3 k→k<w3.heap.size:=H3.out.1.lt;obtain⟨k,hk⟩:=zX1 (32 - fl);have q1:(32:Int) - (fl:Int)=(k:Int):=by omega
 have q2:=wi64 k (by omega);have hf5d:Fresh w3 (.slice ad5 fl c5) (frame 1 (z0H ep)) w5.drew:=hf35.later (Keep.refl _ _).drew;obtain⟨v6,w6,hr6,hf6,hk6,-⟩:=z6J (ty:=29) hf5d k (by rw[← hfl];omega);have hsec:frame 1 (z0H ep) ++ List.replicate k 0=z1B ep:=by unfold z1B;rw[← hfl,hk]
 rw[hsec] at hf6;have hl6:=zbY ep (by omega);obtain⟨ad6,c6,hv6,-⟩:=hf6.row.form;rw[hl6] at hv6;subst hv6;have hk36:Keep (fun _=>False) w3 w6:=hf6.keep;have z36:∀ p v,w3.cell? p=some v→w6.cell? p=some v:=fun p v h=>by rw[World.cell?_of_block (hk36.block _ (World.block_lt_of_cell? _ _ h) id)];exact h
 have z35:∀ p v,w3.cell? p=some v→w5.drew.cell? p=some v:=fun p v h=>by rw[World.cell?_of_block (hk35.drew.block _ (World.block_lt_of_cell? _ _ h) id)];exact h
 have a0:=z35 _ _ i0;have a1:=z35 _ _ i1;have b0:=z36 _ _ i0;have b1:=z36 _ _ i1;obtain⟨m,hm⟩:=zX1 (ep % 2);have q3:((ep:Int) % 2)=(m:Int):=by omega
 have q4:((ep:Int).tmod 2)=(m:Int):=by rw[Int.tmod_eq_emod_of_nonneg (by omega)];exact q3
 have q5:=wi64 m (by omega)
 have hW:=z8X w6 d F3 Y.2 (m:Int) ad6 32 c6 (z1B ep) (H3.out.1.keep hk36 fun _ _ x=>x) (by have h:=Cells.of_row (show Row w6 _ 1 (.slice ad6 32 c6) 32 _ from hl6 ▸ hf6.row);exact h)
  (fun _ x hx y=>by
   have h1:=hf6.own x.block (by rw[hx];rfl);have h2:=hF3l _ y
   omega) (by omega) (by decide) (by omega)
 rw[← hm] at HTb;obtain⟨Z,hZ⟩:=zX1 (DM.write Y.2 (m:Int) (z1B ep));have hZw:Z.2.waits.length≤702002:=by rw[hZ];have:=z2Y Y.2 (m:Int) (z1B ep);omega
 rw[← hZ] at HTb hW
 have hW2:Calls Tryz.prog 106 #[.pointer (some ⟨d,0,none⟩),.int .i64 (m:Int),.slice ad6 32 c6] w6 fun e w'=>e = .returned (.int .i64 Z.1)∧(w'.cell? ⟨n2,0,none⟩=some (.pointer (some ⟨d,0,none⟩))∧w'.cell? ⟨n2,1,none⟩=some (.int .u64 (ep:Nat)))∧Hid (DiskTo d Fd w1 Z.2 w'):=by
  refine hW.mono ?_;rintro e w' ⟨rfl,ht⟩;obtain⟨F',h1,h2,h3⟩:=ht;refine⟨rfl,⟨?_,?_⟩,hid (DiskTo.next (H3.out.2.1.next hk36 (H:=Fd) (fun _ _ x=>x) (fun _ _ x=>x.elim)) H3.out.2.2.1 ⟨F',h1,h2,h3⟩)⟩
  ·rw[World.cell?_of_block (h2.block _ (World.block_lt_of_cell? _ _ b0) hn2F3)];exact b0
  ·rw[World.cell?_of_block (h2.block _ (World.block_lt_of_cell? _ _ b1) hn2F3)];exact b1
 have HW:=hid hW2;have HZ:=hid hZ;clear hW hW2 hZ hm hf5d hsec hk36 z36 z35 hk hf35 hk35 hf5 hfl i0 i1 i2 i3 i4 i5 i6 i7 if1 ib1;go_wp2_with (at_builtin;refine z0A ?_;intro q hq)
 go_region_held3 (fun w'=>w'.cell? ⟨n2,0,none⟩=some (.pointer (some ⟨d,0,none⟩))∧w'.cell? ⟨n2,1,none⟩=some (.int .u64 (ep:Nat)))
  (first | exact⟨a0,a1⟩ | exact⟨b0,b1⟩ | assumption)
  (first
   | (refine zaX rfl _ _ rfl rfl rfl hr6 ?_)
   | (go_simp;go_at_call 106;refine HW.out.mono ?_;rintro e w7 ⟨rfl,hz7,HT7⟩;go_simp))
 clear a0 a1 b0 b1 hr6;obtain⟨F7,hD7,hk7,hF7⟩:=HT7.out;have hh7:=hk7.get HH.out.1 hn2F;obtain⟨i0,i1,i2,i3,i4,i5,i6,i7,if1,ib1⟩:=z1F (show w7.heap[n2]?=some (.cells #[_,_,_,_,_,_,_,_] _ (0,0)) from hh7);have H7:=hid (zA1 hD7 (zA1 hk7 (zA1 hF7 hh7)));clear hD7 hk7 hF7 hh7 hz7
 by_cases z0:Z.1=0
 rotate_left
 ·have hB:=Bad.out w7 Z.2 Z.1 z0 (by rw[HTb.out,if_pos z0]) HT7.out
  have u1:(Z.1 == 0)=false:=by simp[z0]
  have u3:decide (Z.1=0)=false:=by simp[z0]
  have HB2:=hid hB;clear hB z0;go_wp2_with (at_builtin;refine z0A ?_;intro q hq);exact HB2.out
 have HTc:=hid (show z2T ep bs D=DM.sync Z.2 by rw[HTb.out,if_neg (by simp[z0])]);clear HTb;rw[z0];go_wp2_with (at_builtin;refine z0A ?_;intro q hq);refine(zaG w7 d F7 Z.2 H7.out.1 (by omega)).mono ?_;rintro e w8 ⟨rfl,ht8⟩;have ht18:=DiskTo.next H7.out.2.1 H7.out.2.2.1 ht8;have HT18:=hid ht18;obtain⟨F8,hD8,hk8,hF8⟩:=ht18;have hh8:=hk8.get HH.out.1 hn2F;clear i0 i1 i2 i3 i4 i5 i6 i7 if1 ib1 ht8 H7;obtain⟨X,hX⟩:=zX1 (DM.sync Z.2);rw[← hX] at HTc HT18 ⊢;clear hX
 by_cases x0:X.1=0
 rotate_left
 ·have hB:=Bad.out w8 X.2 X.1 x0 HTc.out HT18.out
  have u1:(X.1 == 0)=false:=by simp[x0]
  have u3:decide (X.1=0)=false:=by simp[x0]
  have HB2:=hid hB;clear hB x0 hh8 hk8 hF8 hD8;go_wp2_with (at_builtin;refine z0A ?_;intro q hq);exact HB2.out
 have hb8:=hk8.get (HH.out.2.1.get HB.out.1 id) HB.out.2.1;obtain⟨i0,i1,i2,i3,i4,i5,i6,i7,if1,ib1⟩:=z1F (show w8.heap[n2]?=some (.cells #[_,_,_,_,_,_,_,_] _ (0,0)) from hh8);have hG:=Good.out w8 (w8.setRow b (z0N d ep (half D) (.slice (some ⟨ga,0,none⟩) (32 * half D) ca) vl sf en dead)) X.2 (by rw[HTc.out,← x0]) HT18.out rfl;have HG:=hid hG;have Hb8:=hid hb8;rw[x0];clear hG x0 hh8 hk8 hF8 hD8 hb8;go_wp2_with (first | (at_builtin;refine z0A ?_;intro q hq) | (refine z9W (.store 164 _ _) rfl ?_;intro q hq))
 (refine hq.out ?_;clear hq q)
 refine wpList_plain rfl (fun K hK=>?_);have hcsz:(z0N d ep (half D) (.slice (some ⟨ga,0,none⟩) (32 * half D) ca) vl sf en dead).toList = [.pointer (some ⟨d,0,none⟩),.int .u64 (ep:Nat),.int .i64 (half D:Nat),.slice (some ⟨ga,0,none⟩) (32 * half D) ca,vl,.int .i64 (sf:Nat),.int .i64 (en:Nat),.bool dead]:=rfl
 refine z3U 164 (.tmp 48) (.tmp 47) rfl b rfl [.pointer (some ⟨d,0,none⟩),.int .u64 (ep:Nat),.int .i64 (half D:Nat),.slice (some ⟨ga,0,none⟩) (32 * half D) ca,vl,.int .i64 (sf:Nat),.int .i64 (en:Nat),.bool dead] rfl 164 cs.toArray (0,0) Hb8.out (Free.zero _) (by simp[hcs]) (by
  intro u hu;simp at hu
  rcases hu with rfl | rfl | rfl | rfl | rfl | rfl | rfl | rfl <;> first | rfl | exact hvl) (by kernel_rfl) ?_
 refine hK _ _ ?_;clear hK K;go_wp2_with (at_builtin;refine z0A ?_;intro q hq);exact HG.out
end
section
open Go.RowKit
open DM BM WM
def Lists (w:World) (ao:Option Addr) (L:List (List UInt8)):Prop:=
 ∀ j (hj:j<L.length),∃ ad ao' c',ao=some ad∧w.cell? (ad.add j)=some (.slice ao' L[j].length c')∧L[j].length≤c'∧Cells w ao' L[j].length 1 (z0B L[j])
theorem Lists.keep {w w':World} {ao:Option Addr} {L:List (List UInt8)} (h:Lists w ao L) (hk:Keep (fun _=>False) w w'):Lists w' ao L:=fun j hj=>by
 obtain⟨ad,ao',c',h1,h2,h3,h4⟩:=h j hj;refine⟨ad,ao',c',h1,?_,h3,h4.keep hk fun _ _ x=>x⟩;rw[World.cell?_of_block (hk.block _ (World.block_lt_of_cell? w _ h2) id)];exact h2
theorem Recs.lists {w:World} {F A:Nat→Prop} {ad:Option Addr} {n c:Nat} {L:List (List UInt8)} {vs:List Value} (h:Recs w F A (.slice ad n c) L vs):Lists w ad L:=fun j hj=>by
 obtain⟨g,ad2,c2,rfl,hc,hrow,hc2⟩:=h.one j hj;exact⟨_,ad2,c2,rfl,by rw[z0J,Nat.zero_add];exact hc,hc2,Cells.of_row hrow⟩
theorem zqS (w:World) (b:Value) (ao:Option Addr) (c:Nat) (L:List (List UInt8)) (h:Lists w ao L) (hn:L.length≤1000000000) :
  Calls Tryz.prog 142 #[b,.slice ao L.length c] w fun e w'=>e = .returned (.int .i64 (if L.any (fun x=>decide (1024<x.length)) then 3 else 5))∧w'=w:=by
 obtain⟨n,hnl⟩:=zX1 (L.length);obtain⟨R,hR⟩:∃ R:Int,R=if L.any (fun x=>decide (1024<x.length)) then 3 else 5:=⟨_,rfl⟩
 rw[← hR];have HRR:=hid hR;clear hR;have H:=hid h;have HN:=hid hnl;rw[← hnl] at hn ⊢;clear h hnl;have H0:=hid (show ∀ x ∈ L.take 0,¬ 1024<x.length by simp);go_enter Tryz.func142,Tryz.ntmps142;go_wp2_with (at_builtin;refine z0A ?_;intro q hq)
 go_loopw [6,9] (fun _ iv wr=>∃ i:Nat,i≤n∧iv = .int .i64 i∧wr=w∧Hid (∀ x ∈ L.take i,¬ 1024<x.length)) (fun _ iv _=>n - (intOf iv).toNat)
 case atStart=>exact⟨0,Nat.zero_le _,rfl,rfl,H0⟩
 case round=>
  clear H0;obtain⟨i,hi,rfl,rfl,HI⟩:=hrel
  by_cases hin:i<n
  ·have hil:i<L.length:=by have:=HN.out;omega
   obtain⟨ad,ao',c',rfl,hc,hc2,-⟩:=H.out i hil;obtain⟨x,hx⟩:=zX1 (L[i]);rw[← hx] at hc hc2;obtain⟨m,hm⟩:=zX1 (x.length);rw[← hm] at hc;have q1:(i:Int)<(n:Int):=by omega
   by_cases hb:1024<m
   ·have hr:L.any (fun x=>decide (1024<x.length))=true:=by
     rw[List.any_eq_true];exact⟨x,by rw[hx];exact List.getElem_mem hil,by simp;omega⟩
    have HR:=hid hr;have q2:(1024:Int)<(m:Int):=by omega
    clear hr hx hm;go_wp2_with (at_builtin;refine z0A ?_;intro q hq);go_ret;rw[HRR.out,HR.out];exact⟨rfl,rfl⟩
   ·have HZ:=hid (show ∀ y ∈ L.take (i+1),¬ 1024<y.length by
     intro y hy;rw[List.take_succ_eq_append_getElem hil] at hy
     rcases List.mem_append.1 hy with hy | hy
     ·exact HI.out y hy
     ·simp at hy;subst hy;rw[← hx];omega)
    have q2:¬ (1024:Int)<(m:Int):=by omega
    have q3:decide ((1024:Int)<(m:Int))=false:=decide_eq_false q2;clear hx hm;go_wp2_with (at_builtin;refine z0A ?_;intro q hq);go_roundw
    case rel=>exact⟨i+1,by omega,by go_num,trivial,HZ⟩
    case measure=>simp[intOf];omega
  ·obtain rfl:i=n:=by omega
   have hr:L.any (fun x=>decide (1024<x.length))=false:=by
    rw[List.any_eq_false];intro x hx;have:=HI.out x (by rw[HN.out,List.take_length];exact hx);simpa using this
   have HR:=hid hr;clear hr;have q1:¬ ((i:Int)<(i:Int)):=by omega
   go_wp2_with (at_builtin;refine z0A ?_;intro q hq);go_ret;rw[HRR.out,HR.out];exact⟨rfl,rfl⟩
end
section
open Go.RowKit
open DM BM WM
theorem zfW (L:List (List UInt8)) (i:Nat):(flat (L.take i)).length≤(flat L).length:=by
 have h:flat L=flat (L.take i) ++ flat (L.drop i):=by rw[← z5T,List.take_append_drop]
 rw[h,List.length_append];omega
theorem Recs.bound {w:World} {F A:Nat→Prop} {v:Value} {L:List (List UInt8)} {vs:List Value} (h:Recs w F A v L vs):Recs w (fun k=>F k∧k<w.heap.size) A v L vs:=
 ⟨h.row,fun k e=>⟨⟨(h.own k e).1,h.row.lt e⟩,(h.own k e).2⟩,fun j hj=>let ⟨u,h1,h2,h3⟩:=h.each j hj;⟨u,h1,h2,fun k e=>⟨⟨(h3 k e).1,h2.lt e⟩,(h3 k e).2⟩⟩⟩
theorem z6G {w0 w:World} {a:Act} {K:Act→World→Prop} {Q:Exit→Act→World→Prop} {o:Oper} {l r:List UInt8} (s x:Operand)
  (ho:o.op = .call { callee:=.builtin .append,args:=#[s,x],argTypes:=#[29,29] })
  {v:Value} (hs:a.eval s=v) (hf:Fresh w0 v l w) (ao:Option Addr) (m c:Nat) (hx:a.eval x = .slice ao m c) (hsrc:Cells w ao m 1 (z0B r)) (hb:l.length+m≤140737488355328)
  (h:∀ v' w',Fresh w0 v' (l ++ r) w'→Keep (fun k=>v.ownBlock=some k) w w'→(∀ k,v'.ownBlock=some k→v.ownBlock=some k∨w.heap.size≤k)→K (a.put o.dst v') w'):o.wp Tryz.prog a w K Q:=by
 have hm:r.length=m:=by have:=hsrc.1;rw[z0D] at this;omega
 refine z0R z0U s x ho hs hf.row ao m c (z0B r) hx hsrc (z1I _) (by unfold maxLen;omega) (by omega) ?_;intro v2 w2 hr2 hk2 hv2
 have hown:∀ k,v2.ownBlock=some k→v.ownBlock=some k∨w.heap.size≤k:=by
  intro k hk
  rcases hv2 with ⟨h0,_⟩ | ⟨k',h1,h2⟩
  ·rw[h0] at hk;exact .inl hk
  ·rw[hk] at h1;cases h1
   exact h2.imp id fun e=>by omega
 refine h v2 w2 ⟨?_,?_,?_⟩ hk2 hown
 ·rw[z2I,List.length_append,hm];exact hr2
 ·exact hf.keep.next hk2 (fun i hi x=>x) (fun i hi x=>by have:=hf.own i x;omega)
 ·intro k hk
  rcases hown k hk with h2 | h2
  ·exact hf.own k h2
  ·have:=hf.keep.size;omega
theorem zaS (ep:Nat) (b:List UInt8) (D:Dk):(z2T ep b D).2.safe.length=D.safe.length:=by
 unfold z2T;simp only;split
 ·exact z7V _ _ _ _ _
 ·split
  ·rw[z6D,z7V]
  ·split
   ·rw[z3K,z6D,z7V]
   ·rw[z6D,z3K,z6D,z7V]
theorem WalIs.head2 {w w':World} {b d:Nat} {F K:Nat→Prop} {h:Nat} {G G':Lg} {ga ca:Nat} {vl:Value} {vs:List Value} (H:WalIs w b d F h G ga ca vl vs) (hk:Keep K w w') (hK:∀ k,F k→K k→k=b) (hl:G'.l=G.l)
  (hh:w'.heap[b]?=some (.cells (z0N d G'.ep h (.slice (some ⟨ga,0,none⟩) (32 * h) ca) vl G'.safe (flat G'.l).length G'.dead) 164 (0,0))) (ok:LgOk h G'):WalIs w' b d F h G' ga ca vl vs:=
 ⟨hh,by rw[hl];exact H.area.keep hk fun k e=>by simp[Value.ownBlock] at e;subst e;exact fun x=>H.ne (hK _ H.garea x).symm,by rw[hl];exact H.recs.keep hk fun k f e x=>e (.inl (hK k f x)),H.self,H.garea,H.ne,fun k x=>Nat.lt_of_lt_of_le (H.lt k x) hk.size,ok⟩
structure RstRel (w0:World) (nb d ep h:Nat) (va:Value) (sf en:Nat) (dead:Bool) (L:List (List UInt8)) (i:Nat) (bv:Value) (wr:World):Prop where
 keep:Keep (fun _=>False) w0 wr
 bytes:Fresh w0 bv (flat (L.take i)) wr
 off:∀ k,bv.ownBlock=some k→k≠nb
 new:∃ vl vs,wr.heap[nb]?=some (.cells (z0N d ep h va vl sf en dead) 164 (0,0))∧Recs wr (fun k=>w0.heap.size≤k) (fun k=>k=nb∨bv.ownBlock=some k) vl (L.take i) vs
 small:∀ x ∈ L.take i,x.length≤1024
 fit:(flat (L.take i)).length≤32 * h
theorem zkE (w:World) (b d:Nat) (F Fd:Nat→Prop) (D:Dk) (G:Lg) (H:LogAt w b d F Fd D G) (ao:Option Addr) (c:Nat) (L:List (List UInt8)) (hL:Lists w ao L) (hn:L.length≤1000000000) (hfew:D.waits.length≤700000) :
  Calls Tryz.prog 107 #[.pointer (some ⟨b,0,none⟩),.slice ao L.length c] w fun e w'=>
   e = .returned (.int .i64 (WM.reset D G L).1)∧LogTo b d F Fd w (WM.reset D G L).2.1 (WM.reset D G L).2.2 w':=by
 by_cases hg:gone D G=true
 ·have hr:WM.reset D G L=(6,D,WM.mark D G):=by unfold WM.reset;rw[if_pos hg]
  have HR:=hid hr;clear hr;go_enter Tryz.func107,Tryz.ntmps107;go_wp2_with (at_builtin;refine z0A ?_;intro q hq);refine(z9O _ b d F Fd D G H hg).mono ?_;rintro e w2 ⟨rfl,ht⟩;have HT:=hid ht;clear ht;go_wp2_with (at_builtin;refine z0A ?_;intro q hq);go_ret;rw[HR.out];exact⟨rfl,HT.out⟩
 have hg:gone D G=false:=by simpa using hg
 have HH:=hid H;obtain⟨ga,ca,vl,vs,HL⟩:=H;have hh:=HL.wal.head;have hfew1:=HL.wal.ok.few;have hep:=HL.wal.ok.ep;obtain⟨adl,cl,rfl,-⟩:=HL.wal.recs.row.form;have hgd:G.dead=false:=by unfold gone at hg;simp only[Bool.or_eq_false_iff] at hg;exact hg.1
 obtain⟨n,hnl⟩:=zX1 (L.length);have HLs:=hid hL;have HN:=hid hnl;rw[← hnl] at hn ⊢;obtain⟨ep1,hep1⟩:∃ e,e=G.ep+1:=⟨_,rfl⟩;have q1:(G.ep:Int)+1=(ep1:Int):=by omega
 have q2:=wu64 ep1 (by omega);obtain⟨en,hen⟩:=zX1 ((flat G.l).length);obtain⟨nn,hnn⟩:=zX1 (32 * half D);unfold z0N at hh;rw[← hen,← hnn,hgd] at hh;obtain⟨h0,h1,h2,h3,h4,h5,h6,h7,hf,hb⟩:=z1F hh;have HE:=hid (zA1 hep1 (zA1 hen (zA1 hnn hgd)));have Hh:=hid hh;have HL:=hid HL;clear hh hL hnl hep1 hen hnn hgd;go_enter Tryz.func107,Tryz.ntmps107;go_wp2_with (at_builtin;refine z0A ?_;intro q hq);refine(z6C w b d F Fd D G HH.out hg).mono ?_;rintro e w ⟨rfl,rfl⟩;go_wp2_with (first | (at_builtin;refine z0A ?_;intro q hq) | (refine z9W (.store 164 _ _) rfl ?_;intro q hq))
 (refine hq.out ?_;clear hq q)
 refine wpList_plain rfl (fun K hK=>?_)
 refine z3U 164 (.tmp 7) (.tmp 19) rfl w.heap.size rfl [.pointer (some ⟨d,0,none⟩),.int .u64 (G.ep:Nat),.int .i64 (half D:Nat),.slice (some ⟨ga,0,none⟩) nn ca,.slice adl G.l.length cl,.int .i64 (G.safe:Nat),.int .i64 (en:Nat),.bool false] rfl 164 _ (0,0) (heap_alloc_new w _) (Free.zero _) rfl (by
  intro u hu;simp at hu
  rcases hu with rfl | rfl | rfl | rfl | rfl | rfl | rfl | rfl <;> rfl) (by kernel_rfl) ?_
 refine hK _ _ ?_;clear hK K;obtain⟨nb,hnb⟩:=zX1 (w.heap.size);have hh2:=setRow_heap _ w.heap.size _ ([.pointer (some ⟨d,0,none⟩),.int .u64 (G.ep:Nat),.int .i64 (half D:Nat),.slice (some ⟨ga,0,none⟩) nn ca,.slice adl G.l.length cl,.int .i64 (G.safe:Nat),.int .i64 (en:Nat),.bool false]:List Value).toArray _ _ (heap_alloc_new w (.cells #[.pointer none,.int .u64 0,.int .i64 0,.slice none 0 0,.slice none 0 0,.int .i64 0,.int .i64 0,.bool false] 164))
 have hk2:Keep (fun _=>False) w ((w.alloc (.cells #[.pointer none,.int .u64 0,.int .i64 0,.slice none 0 0,.slice none 0 0,.int .i64 0,.int .i64 0,.bool false] 164)).setRow w.heap.size ([.pointer (some ⟨d,0,none⟩),.int .u64 (G.ep:Nat),.int .i64 (half D:Nat),.slice (some ⟨ga,0,none⟩) nn ca,.slice adl G.l.length cl,.int .i64 (G.safe:Nat),.int .i64 (en:Nat),.bool false]:List Value).toArray):=
  ((Keep.refl _ _).alloc _).setRow (.inr (Nat.le_refl _)) _
 obtain⟨w2,hw2⟩:=zX1 (((w.alloc (.cells #[.pointer none,.int .u64 0,.int .i64 0,.slice none 0 0,.slice none 0 0,.int .i64 0,.int .i64 0,.bool false] 164)).setRow w.heap.size ([.pointer (some ⟨d,0,none⟩),.int .u64 (G.ep:Nat),.int .i64 (half D:Nat),.slice (some ⟨ga,0,none⟩) nn ca,.slice adl G.l.length cl,.int .i64 (G.safe:Nat),.int .i64 (en:Nat),.bool false]:List Value).toArray));rw[← hw2] at hh2 hk2 ⊢;rw[← hnb] at hh2 ⊢;clear hw2;obtain⟨i0,i1,i2,i3,i4,i5,i6,i7,if1,ib1⟩:=z1F (show w2.heap[nb]?=some (.cells #[_,_,_,_,_,_,_,_] _ (0,0)) from hh2);have hbn:b≠nb:=by omega
 have hb2:=hk2.get Hh.out id;clear h0 h1 h2 h3 h4 h5 h6 h7 hf hb;obtain⟨h0,h1,h2,h3,h4,h5,h6,h7,hf,hb⟩:=z1F hb2;have H2:=hid (zA1 hh2 (zA1 hk2 hnb));clear hh2 hk2 hb2 hnb;go_wp2_with (at_builtin;refine z0A ?_;intro q hq)
 have hk3:Keep (fun _=>False) w (((w2.setCell ⟨nb,1,none⟩ (.int .u64 (ep1:Nat))).setCell ⟨nb,4,none⟩ (.slice none 0 0)).setCell ⟨nb,5,none⟩ (.int .i64 (n:Nat))):=by
  have e:=H2.out.2.2;exact(((H2.out.2.1).setCell (.inr (by show _≤nb;omega)) _).setCell (.inr (by show _≤nb;omega)) _).setCell (.inr (by show _≤nb;omega)) _
 have hh3:=z0C (z0C (z0C H2.out.1 1 (.int .u64 (ep1:Nat))) 4 (.slice none 0 0)) 5 (.int .i64 (n:Nat));obtain⟨w3,hw3⟩:=zX1 ((((w2.setCell ⟨nb,1,none⟩ (.int .u64 (ep1:Nat))).setCell ⟨nb,4,none⟩ (.slice none 0 0)).setCell ⟨nb,5,none⟩ (.int .i64 (n:Nat))));rw[← hw3] at hk3 hh3 ⊢;clear hw3 i0 i1 i2 i3 i4 i5 i6 i7 if1 ib1 h0 h1 h2 h3 h4 h5 h6 h7 hf hb
 have H0:=hid (show RstRel w nb d ep1 (half D) (.slice (some ⟨ga,0,none⟩) nn ca) n en false L 0 (.slice none 0 0) w3 from
  ⟨hk3,(Fresh.nil w3).since hk3,fun k e=>by simp[Value.ownBlock] at e,⟨.slice none 0 0,[],hh3,Recs.nil _ _ _⟩,by simp,by simp[flat]⟩)
 clear hk3 hh3
 go_loopw [6,9,10,11,32] (fun s6 _ _ _ iv wr=>∃ (i:Nat) (bv:Value),i≤n∧iv = .int .i64 i∧bv=s6∧Hid (RstRel w nb d ep1 (half D) (.slice (some ⟨ga,0,none⟩) nn ca) n en false L i bv wr)) (fun _ _ _ _ iv _=>n - (intOf iv).toNat)
 case atStart=>exact⟨0,_,Nat.zero_le _,rfl,rfl,H0⟩
 case round=>
  clear H0;obtain⟨i,bv,hi,rfl,rfl,HI⟩:=hrel
  by_cases hin:i<n
  ·have hil:i<L.length:=by have:=HN.out;omega
   obtain⟨ad,ao',c',rfl,hc,hc2,hcs⟩:=HLs.out i hil;rw[← World.cell?_of_block (HI.out.keep.block _ (World.block_lt_of_cell? w _ hc) id)] at hc;obtain⟨x,hx⟩:=zX1 (L[i]);rw[← hx] at hc hc2 hcs;have hxm:x ∈ L:=by rw[hx];exact List.getElem_mem hil
   have htk:L.take (i+1)=L.take i ++ [x]:=by rw[List.take_succ_eq_append_getElem hil,hx]
   obtain⟨m,hm⟩:=zX1 (x.length);rw[← hm] at hc hc2 hcs;have q3:(i:Int)<(n:Int):=by omega
   have HX:=hid (zA1 hcs (zA1 hm (zA1 hxm (zA1 htk hc2))));clear hcs hx hm hxm htk hc2
   by_cases hlong:1024<m
   ·have hr:WM.reset D G L=(3,D,G):=by
     unfold WM.reset;rw[hg]
     have:L.any (fun b=>decide (1024<b.length))=true:=by
      rw[List.any_eq_true];exact⟨x,HX.out.2.2.1,by have:=HX.out.2.1;simp;omega⟩
     simp[this]
    have HR:=hid hr;clear hr;go_wp2_with (at_builtin;refine z0A ?_;intro q hq);refine(zjE wr 2 ao' m c' hlong).mono ?_;rintro e w4 ⟨rfl,rfl⟩;go_wp2_with (at_builtin;refine z0A ?_;intro q hq);go_ret;rw[HR.out];exact⟨rfl,HH.out.toLater HI.out.keep⟩
   ·go_wp2_with (at_builtin;refine z0A ?_;intro q hq)
    refine(zgZ wr 2 ao' m c' x (HX.out.1.keep HI.out.keep fun _ _ h=>h) (by omega)).mono ?_;rintro e w4 ⟨v4,rfl,hf4⟩;have hfl4:(frame 2 x).length=m+10:=by rw[z1D,HX.out.2.1]
    obtain⟨ad4,c4,hv4,-⟩:=hf4.row.form;rw[hfl4] at hv4;subst hv4;have HF4:=hid hf4;have HFL:=hid hfl4;clear hf4 hfl4;go_wp2_with (at_builtin;refine z0A ?_;intro q hq)
    (refine hq.out ?_;clear hq q)
    refine wpList_plain rfl (fun K hK=>?_);refine z6G (r:=frame 2 x) _ _ rfl rfl (HI.out.bytes.later HF4.out.keep) ad4 (m+10) c4 rfl (by have h:=Cells.of_row (show Row w4 _ 1 (.slice ad4 (m+10) c4) (m+10) _ from HFL.out ▸ HF4.out.row);exact h) (by have:=HI.out.fit;omega) ?_;intro v5 w5 hf5 hk5 hv5own';have hv5own:∀ k,v5.ownBlock=some k→bv.ownBlock=some k∨wr.heap.size≤k:=fun k e=>(hv5own' k e).imp id fun h=>Nat.le_trans HF4.out.keep.size h;clear hv5own';have e5:flat (L.take i) ++ frame 2 x=flat (L.take (i+1)):=by rw[HX.out.2.2.2.1,z5T];simp[flat]
    rw[e5] at hf5;obtain⟨fl,hfl⟩:=zX1 ((flat (L.take (i+1))).length);obtain⟨ad5,c5,hv5,-⟩:=hf5.row.form;rw[← hfl] at hv5;subst hv5;refine hK _ _ ?_;clear hK K;have hk05:Keep (fun _=>False) w w5:=hf5.keep;have hb5:=hk05.get Hh.out id;obtain⟨h0,h1,h2,h3,h4,h5,h6,h7,hf,hb⟩:=z1F hb5;have hfl5:fl≤50000:=by rw[hfl,HX.out.2.2.2.1,z4N];have:=HI.out.fit;have:=HX.out.2.1;omega
    have H5:=hid (zA1 hf5 (zA1 hk5 (zA1 hk05 hfl)));clear hf5 hk5 hk05 hb5 hfl e5 h0 h1 h2 h4 h5 h6 h7
    by_cases hov:nn<fl
    ·have q4:(nn:Int)<(fl:Int):=by omega
     have hr:WM.reset D G L=((if L.any (fun x=>decide (1024<x.length)) then 3 else 5),D,G):=by
      unfold WM.reset;rw[hg];have h1:=zfW L (i+1);have h2:=H5.out.2.2.2;have h3:=HE.out.2.2.1
      by_cases h4:L.any (fun x=>decide (1024<x.length))=true
      ·simp[h4]
      ·have h5:32 * half D<(flat L).length∨G.ep+1=4611686018427387904:=.inl (by omega)
       rw[if_neg (by simp),if_neg h4,if_pos h5,if_neg h4]
     have hfull:=zqS w5 (.pointer (some ⟨b,0,none⟩)) (some ad) c L (HLs.out.keep H5.out.2.2.1) (by have:=HN.out;omega);obtain⟨R,hR⟩:∃ R:Int,R=if L.any (fun x=>decide (1024<x.length)) then 3 else 5:=⟨_,rfl⟩
     rw[← hR] at hr hfull;rw[← HN.out] at hfull;have HR:=hid hr;clear hr hR;go_wp2_with (at_builtin;refine z0A ?_;intro q hq);refine hfull.mono ?_;rintro e w6 ⟨rfl,rfl⟩;go_wp2_with (at_builtin;refine z0A ?_;intro q hq);go_ret;rw[HR.out];exact⟨rfl,HH.out.toLater H5.out.2.2.1⟩
    ·have q4:¬ (nn:Int)<(fl:Int):=by omega
     have q5:decide ((nn:Int)<(fl:Int))=false:=decide_eq_false q4;have q6:decide (nn<fl)=false:=decide_eq_false hov;obtain⟨vli,vsi,hnew,hrecs⟩:=HI.out.new;obtain⟨adi,ci,rfl,-⟩:=hrecs.row.form;have hl1:(L.take i).length=i:=by rw[List.length_take];omega
     have hk45:Keep (fun k=>bv.ownBlock=some k) wr w5:=HF4.out.keep.next H5.out.2.1 (fun _ _ x=>x.elim) (fun _ _ x=>x);have hnew5:=hk45.get hnew (fun e=>HI.out.off _ e rfl);have hrecs5:=hrecs.bound.keep hk45 (fun k _ h1 h2=>h1 (.inr h2));rw[hl1] at hnew5;have hs05:=HI.out.keep.size;have hs45:=hk45.size;have hnbl:=z0L hnew;have hnb0:=H2.out.2.2;have hnv5:∀ k,(Value.slice ad5 fl c5).ownBlock=some k→w.heap.size≤k:=H5.out.1.own;have hv5n:∀ k,(Value.slice ad5 fl c5).ownBlock=some k→bv.ownBlock=some k∨wr.heap.size≤k:=hv5own;obtain⟨i0,i1,i2,i3,i4,i5,i6,i7,if1,ib1⟩:=z1F (show w5.heap[nb]?=some (.cells #[_,_,_,_,_,_,_,_] _ (0,0)) from hnew5);have HM:=hid (zA1 hnew5 (zA1 hrecs5 (zA1 hl1 (zA1 hs05 (zA1 hs45 (zA1 hnbl (zA1 hnb0 (zA1 hnv5 hv5n))))))));clear hnew hrecs hk45 hnew5 hrecs5 hl1 hs05 hs45 hnbl hnb0 hnv5 hv5n;go_wp2_with (at_builtin;refine z0A ?_;intro q hq);refine z0G [62] (by kernel_rfl) (by kernel_rfl) ?_
     repeat (first | (apply z0F (by rfl);(intro K w';go_simp;exact id)) | (apply z0I (by rfl);(intro K;go_simp;exact id)))
     (refine z2G (by rfl) (by rfl) (fun K hK=>?_);go_simp;refine hK _ _ (Pre.push _ rfl) ?_;clear hK K)
     have hf6:Fresh w5 (.slice (some ⟨w5.heap.size,0,none⟩) 0 0) [] (w5.alloc (.cells #[] 5)).drew:=FreshU.later (z2X rfl rfl rfl (by unfold maxLen;decide)) (Keep.refl _ _).drew;obtain⟨w6,hw6⟩:=zX1 ((w5.alloc (.cells #[] 5)).drew);rw[← hw6] at hf6 ⊢;clear hw6;have HF6:=hid hf6;clear hf6 i0 i1 i2 i3 i4 i5 i6 i7 if1
     repeat (first | (apply z0F (by rfl);(intro K w';go_simp;exact id)) | (apply z0I (by rfl);(intro K;go_simp;exact id)))
     refine z2G (by rfl) (by rfl) (fun K hK=>?_);refine z3B (r:=x) _ _ rfl rfl HF6.out ao' m c' rfl ((HX.out.1.keep H5.out.2.2.1 fun _ _ x=>x).keep HF6.out.keep fun _ _ x=>x) (by omega) ?_;intro v7 w7 hf7 hk7;obtain⟨ad7,c7,hv7,-⟩:=hf7.row.form;rw[← HX.out.2.1] at hv7;subst hv7;refine hK _ _ (Pre.of_keep hk7) ?_;clear hK K;have HF7:=hid hf7;clear hf7 hk7;go_simp
     (refine z2G (by rfl) (by rfl) (fun K hK=>?_);go_simp;refine hK _ _ (Pre.push _ rfl) ?_;clear hK K)
     obtain⟨w8,hw8⟩:=zX1 (w7.alloc (.cells #[.slice ad7 m c7] 29));have hnew8:w8.heap[w7.heap.size]?=some (.cells #[.slice ad7 m c7] 29):=by rw[hw8];exact heap_alloc_new w7 _
     have hk78:Keep (fun _=>False) w7 w8:=by rw[hw8];exact(Keep.refl _ _).alloc _
     rw[← hw8];clear hw8;have hk58:Keep (fun _=>False) w5 w8:=HF7.out.keep.next hk78 (fun _ _ x=>x) (fun _ _ x=>x);have H8:=hid (zA1 hnew8 (zA1 hk78 hk58));clear hnew8 hk78 hk58;refine z0M (by rfl) (by rfl) (fun K hK=>?_);have hr8:=HM.out.2.1.keep H8.out.2.2 (fun _ _ _ x=>x);have hrow8:=hr8.row;rw[HM.out.2.2.1] at hrow8
     refine z0R z9G _ _ rfl rfl hrow8 (some ⟨w7.heap.size,0,none⟩) 1 1 [.slice ad7 m c7] rfl
      ⟨rfl,fun _=>⟨_,rfl,fun j u hu=>by rw[z0J,Nat.zero_add,cell_of_row _ _ _ _ _ _ H8.out.1];simpa using hu⟩⟩ (by intro u hu;simp at hu;subst hu;rfl) (by unfold maxLen;omega) (by omega) ?_
     intro v9 w9 hr9 hk9 hv9;obtain⟨ad9,c9,rfl,-⟩:=hr9.form;refine hK _ _ ?_;clear hK K;have hnbv:(Value.slice adi (List.take i L).length ci).ownBlock≠some nb:=fun e=>(HM.out.2.1.own nb e).2 (.inl rfl);have hh9:=hk9.get (H8.out.2.2.get HM.out.1 id) (fun e=>hnbv (by rw[← e];exact z1W _ _ _ _));obtain⟨i0,i1,i2,i3,i4,i5,i6,i7,if1,ib1⟩:=z1F (show w9.heap[nb]?=some (.cells #[_,_,_,_,_,_,_,_] _ (0,0)) from hh9);have H9:=hid (zA1 hr9 (zA1 hk9 (zA1 hv9 hh9)));clear hr9 hk9 hv9 hh9 hr8 hrow8 hnbv
     repeat (apply z0F (by rfl);(intro K w';go_simp;exact id))
     (refine z0M (by rfl) (by rfl) (fun K hK=>?_);go_simp;refine hK _ _ ?_;clear hK K)
     refine z0S ?_;have hk10:Keep (fun k=>k=nb) w9 (w9.setCell ⟨nb,4,none⟩ (.slice ad9 (i+1) c9)):=kst;have hh10:=z0C H9.out.2.2.2 4 (.slice ad9 (i+1) c9);obtain⟨w10,hw10⟩:=zX1 (w9.setCell ⟨nb,4,none⟩ (.slice ad9 (i+1) c9));rw[← hw10] at hk10 hh10 ⊢;clear hw10 i0 i1 i2 i3 i4 i5 i6 i7 if1
     have HZ:=hid (show RstRel w nb d ep1 (half D) (.slice (some ⟨ga,0,none⟩) nn ca) n en false L (i+1) (.slice ad5 fl c5) w10 by
      obtain⟨m1,m2,m3,m4,m5,m6,m7,m8,m9⟩:=HM.out;obtain⟨n1,n2,n3,n4⟩:=H9.out;obtain⟨o1,o2,o3⟩:=H8.out;have s58:=o3.size;have s89:=n2.size;have s910:=hk10.size;have s78:=o2.size;have hvl:∀ k,(Value.slice adi (List.take i L).length ci).ownBlock=some k→w.heap.size≤k∧k<wr.heap.size∧¬ (k=nb∨bv.ownBlock=some k):=fun k e=>⟨(m2.own k e).1.1,(m2.own k e).1.2,(m2.own k e).2⟩;have hcase:∀ k,(Value.slice adi i ci).ownBlock=some k→(Value.slice adi (List.take i L).length ci).ownBlock=some k:=fun k e=>by rw[← e];exact z1W _ _ _ _
      have hA':∀ k,(w.heap.size≤k∧k<wr.heap.size)→¬ (k=nb∨bv.ownBlock=some k)→w.heap.size≤k∧¬ (k=nb∨(Value.slice ad5 fl c5).ownBlock=some k):=fun k h1 h2=>by
       refine⟨h1.1,?_⟩;rintro(h3 | h3)
       ·exact h2 (.inl h3)
       ·rcases m9 k h3 with h4 | h4
        ·exact h2 (.inr h4)
        ·omega
      have v5l:∀ k,(Value.slice ad5 fl c5).ownBlock=some k→k<w5.heap.size:=fun k e=>H5.out.1.row.lt e
      have hk510:Keep (fun k=>(Value.slice adi (List.take i L).length ci).ownBlock=some k∨k=nb) w5 w10:=
       (o3.next n2 (H:=fun k=>(Value.slice adi (List.take i L).length ci).ownBlock=some k) (fun _ _ x=>x.elim) (fun _ _ x=>hcase _ x)).next hk10 (fun _ _ x=>.inl x) (fun _ _ x=>.inr x)
      refine⟨?_,⟨?_,?_,m8⟩,?_,⟨.slice ad9 (i+1) c9,vsi ++ [.slice ad7 m c7],?_,?_⟩,?_,?_⟩
      ·refine H5.out.2.2.1.next hk510 (fun _ _ x=>x) fun k hk x=>?_
       rcases x with x | x
       ·have:=(hvl k x).1;omega
       ·omega
      ·refine H5.out.1.row.keep hk510 fun k e x=>?_
       rcases x with x | x
       ·obtain⟨h1,h2,h3⟩:=hvl k x
        rcases m9 k e with h4 | h4
        ·exact h3 (.inr h4)
        ·omega
       ·rcases m9 k e with h4 | h4
        ·exact HI.out.off k h4 x
        ·omega
      ·refine H5.out.2.2.1.next hk510 (fun _ _ x=>x) fun k hk x=>?_
       rcases x with x | x
       ·have:=(hvl k x).1;omega
       ·omega
      ·intro k e x
       rcases m9 k e with h4 | h4
       ·exact HI.out.off k h4 x
       ·omega
      ·rw[hh10];rfl
      ·rw[HX.out.2.2.2.1]
       have h1:=(m2.keep o3 (fun _ _ _ x=>x)).mono hA';refine(h1.push (HF7.out.row.keep o2 fun _ _ x=>x) (F':=fun k=>w.heap.size≤k) (fun k e=>?_) ?_ (n2.mono fun k _ x=>hcase k x) (fun k x=>x) (fun k e=>?_)).keep hk10 (fun k _ h2 h3=>h2 (.inl h3))
       ·have h2:=HF7.out.own k e
        refine⟨by omega,?_,fun e'=>?_⟩
        ·rintro(h3 | h3)
         ·omega
         ·have:=v5l k h3;omega
        ·have:=(hvl k e').2.1;omega
       ·rw[m3];exact n1
       ·rcases n3 with ⟨_,h0⟩ | ⟨k',h2,h3⟩
        ·omega
        ·rw[e] at h2;cases h2
         rcases h3 with h3 | h3
         ·exact .inl (hcase k h3)
         ·refine .inr ⟨by omega,by omega,?_⟩
          rintro(h4 | h4)
          ·omega
          ·have:=v5l k h4;omega
      ·intro y hy
       rw[HX.out.2.2.2.1] at hy
       rcases List.mem_append.1 hy with hy | hy
       ·exact HI.out.small y hy
       ·simp at hy;subst hy;have:=HX.out.2.1;omega
      ·have h1:=H5.out.2.2.2
       have h2:=HE.out.2.2.1
       omega)
     clear hk10 hh10;go_wp2_with (at_builtin;refine z0A ?_;intro q hq);go_roundw
     case rel=>exact⟨i+1,_,by omega,by go_num,rfl,HZ⟩
     case measure=>simp[intOf];omega
  ·obtain rfl:n=i:=by omega
   have hlt:¬ (n:Int)<(n:Int):=by omega
   have HR0:=HI.out;have htl:L.take n=L:=by rw[HN.out,List.take_length]
   obtain⟨vl2,vs2,hnew,hrecs⟩:=HR0.new;have hbytes:=HR0.bytes;have hsmall:=HR0.small;have hfit:=HR0.fit;rw[htl] at hrecs hbytes hsmall hfit;have hkeep:=HR0.keep;have hoff:=HR0.off;clear HR0 HI
   have hany:L.any (fun b=>decide (1024<b.length))=false:=by
    rw[List.any_eq_false];intro x hx;have:=hsmall x hx;simpa using this
   obtain⟨adz,cz,rfl,-⟩:=hrecs.row.form;obtain⟨i0,i1,i2,i3,i4,i5,i6,i7,if1,ib1⟩:=z1F (show wr.heap[nb]?=some (.cells #[_,_,_,_,_,_,_,_] _ (0,0)) from hnew);obtain⟨h0,h1,h2,h3,h4,h5,h6,h7,hf,hb⟩:=z1F (hkeep.get Hh.out id);obtain⟨fl,hfl⟩:=zX1 ((flat L).length);obtain⟨ad5,c5,hv5,-⟩:=hbytes.row.form;rw[← hfl] at hv5;subst hv5;have HB:=hid (zA1 hnew (zA1 hrecs (zA1 hbytes (zA1 hsmall (zA1 hfit (zA1 hkeep (zA1 hoff (zA1 hany hfl))))))));clear hnew hrecs hbytes hsmall hkeep hoff hany htl
   by_cases hlast:ep1=4611686018427387904
   ·have hr:WM.reset D G L=(5,D,G):=by
     unfold WM.reset;have h5:32 * half D<(flat L).length∨G.ep+1=4611686018427387904:=.inr (by have:=HE.out.1;omega);rw[hg,if_neg (by simp),if_neg (by rw[HB.out.2.2.2.2.2.2.2.1];simp),if_pos h5]
    have HR:=hid hr;have q4:((ep1:Int) == 4611686018427387904)=true:=by rw[hlast];rfl
    clear hr hfl hfit;go_wp2_with (at_builtin;refine z0A ?_;intro q hq);go_ret;rw[HR.out];exact⟨rfl,HH.out.toLater HB.out.2.2.2.2.2.1⟩
   have hr:WM.reset D G L=if (z2T ep1 (z1X (half D) L) D).1=0 then (0,(z2T ep1 (z1X (half D) L) D).2,⟨ep1,L,L.length,false⟩) else ((z2T ep1 (z1X (half D) L) D).1,(z2T ep1 (z1X (half D) L) D).2,{ G with dead:=true }):=by
    have h6:=HE.out.1;unfold WM.reset;have h5:¬ (32 * half D<(flat L).length∨G.ep+1=4611686018427387904):=by omega
    rw[hg,if_neg (by simp),if_neg (by rw[HB.out.2.2.2.2.2.2.2.1];simp),if_neg h5,h6];rfl
   have HR:=hid hr;have q4:((ep1:Int) == 4611686018427387904)=false:=by simp;omega
   have q5:decide (ep1=4611686018427387904)=false:=decide_eq_false hlast;have hflnn:fl≤nn:=by have:=HE.out.2.2.1;omega
   have hnn2:nn≤40000:=by have:=HE.out.2.2.1;omega
   obtain⟨k,hk⟩:=zX1 (nn - fl);have q6:(nn:Int) - (fl:Int)=(k:Int):=by omega
   have q7:=wi64 k (by omega);have hk2:Keep (fun k=>k=nb) wr (wr.setCell ⟨nb,6,none⟩ (.int .i64 (fl:Nat))):=kst;have hh2:=z0C HB.out.1 6 (.int .i64 (fl:Nat));have HQ:=hid (zA1 hk2 (zA1 hh2 hk));clear hr hfl hfit hlast hflnn hk2 hh2 hk;go_wp2_with (at_builtin;refine z0A ?_;intro q hq)
   (refine hq.out ?_;clear hq q)
   obtain⟨w2,hw2⟩:=zX1 (wr.setCell ⟨nb,6,none⟩ (.int .i64 (fl:Nat)));obtain⟨hk2,hh2,hk⟩:=HQ.out;rw[← hw2] at hk2 hh2 ⊢;clear hw2;have hnb0:=H2.out.2.2;have hkw:=HB.out.2.2.2.2.2.1;have hnl:=z0L HB.out.1;have hkw2:Keep (fun _=>False) w w2:=hkw.next hk2 (fun _ _ x=>x) (fun k hk x=>by omega);have hoff:=HB.out.2.2.2.2.2.2.1;have hfl:=HB.out.2.2.2.2.2.2.2.2;have hf2:Fresh w (.slice ad5 fl c5) (flat L) w2:=⟨HB.out.2.2.1.row.keep hk2 fun k e x=>hoff k e x,hkw2,HB.out.2.2.1.own⟩;have hfit:=HB.out.2.2.2.2.1;have hnn3:=HE.out.2.2.1;obtain⟨v3,w3,hr3,hf3,hk3,hv3o⟩:=z6J (ty:=29) hf2 k (by omega);have har:flat L ++ List.replicate k 0=z1X (half D) L:=by unfold z1X;rw[hk,hnn3,hfl]
   rw[har] at hf3;have hal:(z1X (half D) L).length=nn:=by rw[z2D hfit,hnn3]
   have hrow3:=hf3.row;rw[hal] at hrow3;have htwo:2≤half D:=HH.out.ok.two;obtain⟨ga2,ca2,cur3,fz3,rfl,-⟩:=hrow3.some (by omega);have hh3:=hk3.get hh2 (fun e=>hoff nb e rfl);have hkw3:Keep (fun _=>False) w w3:=hf3.keep;have hg2:=hf3.own ga2 rfl;have hg2o:(Value.slice ad5 fl c5).ownBlock=some ga2∨w2.heap.size≤ga2:=hv3o ga2 rfl;have hs2:=hk2.size
   have hg2n:ga2≠nb:=fun e=>by
    subst e
    rcases hg2o with h | h
    ·exact hoff _ h rfl
    ·omega
   have HG:=hid (zA1 hg2o (zA1 hs2 hnl));have H3:=hid (zA1 hh3 (zA1 hkw3 (zA1 hrow3 (zA1 hk2 (zA1 hk3 (zA1 hg2 (zA1 hg2n hnb0)))))));refine wpList_plain rfl (fun K hK=>?_);refine Lib.wp_append_run _ _ _ _ _ rfl _ _ rfl rfl _ _ hr3 ?_;refine hK _ _ ?_;clear hg2o hs2 hv3o;clear hK K hk2 hh2 hk hkw hkw2 hoff hfl hf2 hfit hnn3 hr3 hf3 hk3 har hal hrow3 hh3 hkw3 hg2 hg2n i0 i1 i2 i3 i4 i5 i6 i7 if1 ib1 h0 h1 h2 h3 h4 h5 h6 h7 hf hb hnb0 hnl;obtain⟨i0,i1,i2,i3,i4,i5,i6,i7,if1,ib1⟩:=z1F (show w3.heap[nb]?=some (.cells #[_,_,_,_,_,_,_,_] _ (0,0)) from H3.out.1);have H4:=hid (zA1 (show Keep (fun k=>k=nb) w3 (w3.setCell ⟨nb,3,none⟩ (.slice (some ⟨ga2,0,none⟩) nn ca2)) by refine Keep.setCell (Keep.refl _ _) (.inl ?_) _;rfl) (z0C H3.out.1 3 (.slice (some ⟨ga2,0,none⟩) nn ca2)));go_wp2_with (at_builtin;refine z0A ?_;intro q hq);clear i0 i1 i2 i3 i4 i5 i6 i7 if1 ib1;obtain⟨w4,hw4⟩:=zX1 (w3.setCell ⟨nb,3,none⟩ (.slice (some ⟨ga2,0,none⟩) nn ca2));obtain⟨hk4,hh4⟩:=H4.out;clear H4;rw[← hw4] at hk4 hh4 ⊢;clear hw4;obtain⟨p1,p2,p3,p4,p5,p6,p7,p8⟩:=H3.out;obtain⟨e1,e2,e3,e4⟩:=HE.out;have hkw4:Keep (fun _=>False) w w4:=p2.next hk4 (fun _ _ x=>x) (fun k hk x=>by omega);have hr4:=p3.keep hk4 (fun k e x=>by simp[Value.ownBlock] at e;omega);have hb4:=hkw4.get Hh.out id;have hFw:∀ k,F k→k<w.heap.size:=by obtain⟨_,_,_,_,h⟩:=HH.out;exact h.wal.lt
   have hDw:∀ k,Fd k→k<w.heap.size:=by obtain⟨_,_,_,_,h⟩:=HH.out;exact h.disk.lt
   have hap:∀ k,F k→¬ Fd k:=by obtain⟨_,_,_,_,h⟩:=HH.out;exact h.apart
   have hFb:=HL.out.wal.self;have hD4:DiskAt w4 d Fd D:=by obtain⟨_,_,_,_,h⟩:=HH.out;exact h.disk.keep hkw4 fun _ _ x=>x
   rw[e3] at hr4
   have hturn:=zqD w4 b d ga2 ca2 ep1 n fl Fd D (z1X (half D) L) (.slice adz L.length cz) false [.pointer (some ⟨d,0,none⟩),.int .u64 (G.ep:Nat),.int .i64 (half D:Nat),.slice (some ⟨ga,0,none⟩) nn ca,.slice adl G.l.length cl,.int .i64 (G.safe:Nat),.int .i64 (en:Nat),.bool false] hb4 rfl hD4 hr4
    (fun x=>hap b hFb x) (fun x=>by have:=hDw _ x;omega) (by omega) hfew rfl
   obtain⟨R,hR⟩:=zX1 (z2T ep1 (z1X (half D) L) D);have hRl:R.2.safe.length=D.safe.length:=by rw[hR,zaS]
   rw[← hR] at hturn HR;rw[← e3] at hturn;have HT:=hid hturn;have H4:=hid (zA1 hk4 (zA1 hh4 (zA1 hkw4 (zA1 hr4 (zA1 hFw (zA1 hDw (zA1 hap (zA1 hFb hRl))))))));clear hk4 hh4 hkw4 hr4 hFw hDw hap hFb hRl hturn hR p1 p2 p3 p4 p5 p6 p7 p8 e1 e2 e3 e4 hb4 hD4;refine HT.out.mono ?_;rintro e w5 ⟨rfl,Fd',hD5,hk5,hF5,hh5⟩;have H5:=hid (zA1 hD5 (zA1 hk5 hF5))
   have hFb':¬ Fd' b:=fun x=>by
    rcases hF5 b x with y | y
    ·exact H4.out.2.2.2.2.2.2.1 b H4.out.2.2.2.2.2.2.2.1 y
    ·have h1:=H4.out.2.2.2.2.1 b H4.out.2.2.2.2.2.2.2.1
     have h2:=H4.out.2.2.1.size;omega
   clear hD5 hk5 hF5
   by_cases r0:R.1=0
   ·rw[if_pos r0] at hh5
    rw[r0];have hfl5:=z8U w5 b d _ _ _ _ _ _ _ hh5 0;have HF:=hid hfl5;have Hh5:=hid hh5;clear hh5 hfl5;go_wp2_with (at_builtin;refine z0A ?_;intro q hq);refine HF.out.mono ?_;rintro e w6 ⟨rfl,hw6⟩;have Hw6:=hid hw6;clear hw6;go_wp2_with (at_builtin;refine z0A ?_;intro q hq);go_ret;rw[HR.out,if_pos r0];refine⟨rfl,?_⟩;have hw6:=Hw6.out;rw[show (false || decide ((0:Int)≠0))=false from rfl] at hw6;have hk6:Keep (fun k=>k=b) w5 w6:=by rw[hw6];refine Keep.setCell (Keep.refl _ _) (.inl ?_) _;rfl
    have hh6:=z0C Hh5.out 7 (.bool false);rw[← hw6] at hh6;obtain⟨hk4,hh4,hkw4,hr4,hFw,hDw,hap,hFb,hRl⟩:=H4.out;obtain⟨p1,p2,p3,p4,p5,p6,p7,p8⟩:=H3.out;obtain⟨hD5,hk5,hF5⟩:=H5.out;obtain⟨g1,g2,g3⟩:=HG.out;obtain⟨e1,e2,e3,e4⟩:=HE.out;have s4:=hkw4.size;have s34:=hk4.size;have s23:=p5.size;have s45:=hk5.size;have s56:=hk6.size;have hbl:=hFw b hFb;have hok:LgOk (half D) ⟨ep1,L,L.length,false⟩:=⟨HB.out.2.2.2.2.1,HH.out.ok.two,HH.out.ok.few,by have:=of_decide_eq_false q5;show ep1<_;omega,HB.out.2.2.2.1,Nat.le_refl _⟩;have hk46:Keep (fun k=>Fd k∨k=b) w4 w6:=hk5.next hk6 (fun _ _ x=>x) (fun _ _ x=>.inr x);have hrec3:=(HB.out.2.1.bound.keep p4 (fun k _ h x=>h (.inl x))).keep p5 (fun k _ h x=>h (.inr x));have hrec4:=hrec3.keep hk4 (fun k _ h x=>h (.inl x))
    have hwal:WalIs w6 b d (fun k=>k=b∨(w.heap.size≤k∧k<w4.heap.size)) (half D) ⟨ep1,L,L.length,false⟩ ga2 ca2 (.slice adz L.length cz) vs2:=by
     refine⟨?_,?_,?_,.inl rfl,.inr ⟨p6,by have:=hr4.lt (k:=ga2) (by simp[Value.ownBlock]);omega⟩,by omega,fun k x=>?_,hok⟩
     ·rw[hh6,← HN.out,← e3,← HB.out.2.2.2.2.2.2.2.2];rfl
     ·refine hr4.keep hk46 fun k e x=>?_
      simp[Value.ownBlock] at e;subst e
      rcases x with x | x
      ·have:=hDw _ x;omega
      ·omega
     ·refine(hrec4.mono (F':=fun k=>k=b∨(w.heap.size≤k∧k<w4.heap.size)) (A':=fun k=>k=b∨k=ga2) fun k h1 h2=>?_).keep hk46 fun k h1 h2 h3=>?_
      ·refine⟨.inr ⟨h1.1,by omega⟩,?_⟩
       rintro(h3 | h3)
       ·omega
       ·subst h3
        rcases g1 with h4 | h4
        ·exact h2 (.inr h4)
        ·omega
      ·rcases h3 with h3 | h3
       ·have:=hDw k h3
        rcases h1 with h1 | h1
        ·exact h2 (.inl h1)
        ·omega
       ·exact h2 (.inl h3)
     ·rcases x with x | x
      ·omega
      ·omega
    rw[← z3J hRl] at hwal;refine⟨_,Fd',⟨ga2,ca2,_,_,hwal,hD5.keep hk6 fun k x y=>by subst y;exact hFb' x,fun k x y=>?_⟩,?_,fun k x=>?_,fun k x=>?_⟩
    ·rcases x with x | x
     ·subst x;exact hFb' y
     ·rcases hF5 k y with z | z
      ·have:=hDw k z;omega
      ·omega
    ·refine hkw4.next hk46 (fun _ _ x=>x.elim) fun k _ x=>?_
     rcases x with x | x
     ·exact .inr x
     ·subst x;exact .inl hFb
    ·rcases x with x | x
     ·subst x;exact .inl hFb
     ·exact .inr x.1
    ·rcases hF5 k x with z | z
     ·exact .inl z
     ·right;omega
   ·rw[if_neg r0] at hh5
    have hfl5:=z8U w5 b d G.ep (half D) (.slice (some ⟨ga,0,none⟩) nn ca) (.slice adl G.l.length cl) G.safe en false hh5 R.1;have HF:=hid hfl5;have Hh5:=hid hh5;clear hh5 hfl5;go_wp2_with (at_builtin;refine z0A ?_;intro q hq);refine HF.out.mono ?_;rintro e w6 ⟨rfl,hw6⟩;have Hw6:=hid hw6;clear hw6;go_wp2_with (at_builtin;refine z0A ?_;intro q hq);go_ret;rw[HR.out,if_neg r0];refine⟨rfl,?_⟩;have hw6:=Hw6.out;rw[show (false || decide (R.1≠0))=true by simp[r0]] at hw6;have hk6:Keep (fun k=>k=b) w5 w6:=by rw[hw6];refine Keep.setCell (Keep.refl _ _) (.inl ?_) _;rfl
    have hh6:=z0C Hh5.out 7 (.bool true);rw[← hw6] at hh6;obtain⟨hk4,hh4,hkw4,hr4,hFw,hDw,hap,hFb,hRl⟩:=H4.out;obtain⟨hD5,hk5,hF5⟩:=H5.out;obtain⟨e1,e2,e3,e4⟩:=HE.out;have s4:=hkw4.size;have hk46:Keep (fun k=>Fd k∨k=b) w4 w6:=hk5.next hk6 (fun _ _ x=>x) (fun _ _ x=>.inr x);have hk06:Keep (fun k=>Fd k∨k=b) w w6:=hkw4.next hk46 (fun _ _ x=>x.elim) (fun _ _ x=>x)
    have hwal:WalIs w6 b d F (half D) { G with dead:=true } ga ca (.slice adl G.l.length cl) vs:=by
     refine HL.out.wal.head2 hk06 (fun k x y=>y.elim (fun z=>absurd z (hap k x)) id) rfl ?_ (HH.out.ok.die true);rw[hh6,← e3];show _=some (Obj.cells (z0N d G.ep (half D) _ _ G.safe (flat G.l).length true) _ _);rw[← e2];rfl
    rw[← z3J hRl] at hwal;refine⟨F,Fd',⟨ga,ca,_,_,hwal,hD5.keep hk6 fun k x y=>by subst y;exact hFb' x,fun k x y=>?_⟩,hk06.mono fun k _ x=>?_,fun k x=>.inl x,fun k x=>?_⟩
    ·rcases hF5 k y with z | z
     ·exact hap k x z
     ·have:=hFw k x;omega
    ·rcases x with x | x
     ·exact .inr x
     ·subst x;exact .inl hFb
    ·rcases hF5 k x with z | z
     ·exact .inl z
     ·right;omega
end
section
open Go.RowKit
open DM BM WM
theorem zhV {l:List UInt8} {a m:Nat} (h:BM.get l a = .no m):m≠0:=by
 unfold BM.get at h
 repeat' split at h
 all_goals cases h
 all_goals decide
theorem zfS:∀ (f i v:Nat) {l:List UInt8} {a m:Nat},digits l a f i v = .no m→m≠0
 | 0,i,v,l,a,m,h=>by simp only[digits] at h;cases h;decide
 | f+1,i,v,l,a,m,h=>by
   rw[digits] at h;simp only at h
   repeat' split at h
   all_goals first | (cases h;done) | (cases h;decide) | exact zfS f _ _ h
theorem zmN {l:List UInt8} {a m:Nat} (h:BM.uint l a = .no m):m≠0:=by
 unfold BM.uint at h;split at h
 ·cases h;decide
 ·exact zfS _ _ _ h
def HeadPost (D:Dk) (i:Nat) (w:World) (e:Ending) (w':World):Prop:=
 ∃ n:Nat,e = .returned (.tuple #[.int .u64 (n:Nat),.bool (WM.head D i).isSome])∧(∀ m,WM.head D i=some m→n=m)∧Keep (fun _=>False) w w'
theorem z8Q (D:Dk) (i:Nat) (hd:D.down=false) (hi:i<D.safe.length) (ok:Ok D):(DM.read D (i:Int)).2=0∧(DM.read D (i:Int)).1.length=32:=by
 have h:DM.read D (i:Int)=((DM.now D).getD i [],0):=by
  unfold DM.read;rw[hd];simp;omega
 rw[h];refine⟨rfl,?_⟩;have hil:i<(DM.now D).length:=by rw[z1H];omega
 have:=ok.now _ (List.getElem_mem hil);simpa [List.getD,List.getElem?_eq_getElem hil] using this
theorem zpD (w:World) (d:Nat) (Fd:Nat→Prop) (D:Dk) (i:Nat) (hD:DiskAt w d Fd D) (hd:D.down=false) (hi:i<D.safe.length) (hi2:i<2) :
  Calls Tryz.prog 82 #[.pointer (some ⟨d,0,none⟩),.int .i64 (i:Nat)] w (HeadPost D i w):=by
 have hfew:=hD.ok.few;have hr:=ziP w d Fd D (i:Int) hD (by omega);obtain⟨r1,r2⟩:=z8Q D i hd hi hD.ok;rw[r1,r2] at hr;obtain⟨B,hB⟩:=zX1 ((DM.read D (i:Int)).1);rw[← hB] at hr r2;have HHd:=hid (show WM.head D i=match BM.get B 0 with | .no _=>none | .yes k body _=>if k≠1 then none else match BM.uint body 0 with | .no _=>none | .yes n t=>if t=body.length∧n<4611686018427387904∧n % 2=i then some n else none by rw[hB];rfl)
 have no:WM.head D i=none→∀ w',Keep (fun _=>False) w w'→∀ n:Nat,HeadPost D i w (.returned (.tuple #[.int .u64 (n:Nat),.bool false])) w':=fun h w' hk n=>
  ⟨n,by rw[h];rfl,fun m hm=>(by rw[h] at hm;cases hm),hk⟩
 have No:=hid no
 have yes:∀ n,WM.head D i=some n→∀ w',Keep (fun _=>False) w w'→HeadPost D i w (.returned (.tuple #[.int .u64 (n:Nat),.bool true])) w':=fun n h w' hk=>
  ⟨n,by rw[h];rfl,fun m hm=>(by rw[h] at hm;cases hm;rfl),hk⟩
 have Yes:=hid yes;have R2:=hid r2;obtain⟨Post,hPost⟩:=zX1 (HeadPost D i w);rw[← hPost] at No Yes ⊢;clear no yes hB r1 r2 hD hPost;go_enter Tryz.func82,Tryz.ntmps82;go_wp2_with (at_builtin;refine z0A ?_;intro q hq);refine hr.mono ?_;rintro e w1 ⟨v1,rfl,hrow1,hk1,hown1⟩;obtain⟨ad1,c1,rfl,hc1,-⟩:=hrow1.form;have hget:=zoA w1 ad1 32 c1 0 B (by have h:=Cells.of_row hrow1;exact h) (Nat.zero_le _) hc1 (by decide);have HK1:=hid hk1;clear hr hrow1 hk1 hown1 hc1;go_wp2_with (at_builtin;refine z0A ?_;intro q hq);obtain⟨gt,hgt⟩:=zX1 (BM.get B 0);rw[← hgt] at hget HHd;refine hget.mono ?_;clear hget;intro e w2 hp
 cases gt with
 | no m=>
   obtain⟨rfl,hk2⟩:=hp;have hm:=zhV hgt.symm;have hz:WM.head D i=none:=HHd.out;have hk12:Keep (fun _=>False) w w2:=HK1.out.next hk2 (fun _ _ x=>x) (fun _ _ x=>x);have u1:((m:Int) != 0)=true:=by simp;omega
   have u2:((m:Int) == 0)=false:=by simp;omega
   have hN:=fun w' (h:Keep (fun _=>False) w2 w')=>No.out hz w' (hk12.next h (fun _ _ x=>x) (fun _ _ x=>x)) 0;have HN:=hid hN;clear hgt hm hz hk12 hk2 hN;go_wp2_with (at_builtin;refine z0A ?_;intro q hq);refine HN.out _ ?_
   first | exact(Keep.refl _ _).alloc _ | exact(((Keep.refl _ _).alloc _).setCell (.inr (Nat.le_refl _)) _).setCell (.inr (Nat.le_refl _)) _
 | yes k body q=>
   obtain⟨v,rfl,hf2⟩:=hp;obtain⟨ad2,c2,rfl,hc2,-⟩:=hf2.row.form;obtain⟨-,-,hb1,-⟩:=z5N hgt.symm;have hk12:Keep (fun _=>False) w w2:=HK1.out.next hf2.keep (fun _ _ x=>x) (fun _ _ x=>x)
   by_cases hk:k=1
   rotate_left
   ·have hz:WM.head D i=none:=by rw[HHd.out];simp[hk]
    have u1:((k.toNat:Int) != 1)=true:=by
     have:k.toNat≠1:=fun e=>hk (UInt8.toNat_inj.1 e);simp;omega
    have hN:=fun w' (h:Keep (fun _=>False) w2 w')=>No.out hz w' (hk12.next h (fun _ _ x=>x) (fun _ _ x=>x)) 0;have HN:=hid hN;clear hgt hz hk12 hN hk hf2;generalize k.toNat=kk at *;go_wp2_with (at_builtin;refine z0A ?_;intro q hq);refine HN.out _ ?_
    first | exact(Keep.refl _ _).alloc _ | exact(((Keep.refl _ _).alloc _).setCell (.inr (Nat.le_refl _)) _).setCell (.inr (Nat.le_refl _)) _
   ·subst hk
    have HHe:=hid (show WM.head D i=match BM.uint body 0 with | .no _=>none | .yes n t=>if t=body.length∧n<4611686018427387904∧n % 2=i then some n else none by rw[HHd.out];simp);have HF2:=hid hf2;have HK12:=hid hk12;clear hgt hk12 hf2 HHd;rw[show ((1:UInt8).toNat:Int)=1 from rfl];go_wp2_with (at_builtin;refine z0A ?_;intro q hq);obtain⟨w3,hw3⟩:=zX1 (w2.alloc (.cells #[.int .u8 1,.slice ad2 body.length c2] 177));have hh3:w3.heap[w2.heap.size]?=some (.cells #[.int .u8 1,.slice ad2 body.length c2] 177):=by rw[hw3];exact heap_alloc_new w2 _
    have hk3:Keep (fun _=>False) w2 w3:=by rw[hw3];exact(Keep.refl _ _).alloc _
    rw[← hw3];clear hw3;refine(zaH w3 ad2 body.length c2 0 body ((Cells.of_row HF2.out.row).keep hk3 fun _ _ x=>x) (Nat.zero_le _) (by omega)).mono ?_;rintro e w4 ⟨rfl,hk4⟩;have hh4:=hk4.get hh3 id;obtain⟨a0,a1,af,-⟩:=z4W (show w4.heap[w2.heap.size]?=some (.cells #[_,_] _ (0,0)) from hh4);have HK4:=hid ((HK12.out.nx hk3).nx hk4);clear hh3 hk3 hk4 hh4;generalize hu:BM.uint body 0=un at *
    cases un with
    | no m=>
      have hm:=zmN hu;have hz:WM.head D i=none:=HHe.out;have u1:((m:Int) != 0)=true:=by simp;omega
      have u2:((m:Int) == 0)=false:=by simp;omega
      have u3:decide (m=0)=false:=by simp;omega
      have HN:=hid (No.out hz w4 HK4.out 0);clear hm hz hu;unfold numV;go_wp2_with (at_builtin;refine z0A ?_;intro q hq);exact HN.out
    | yes n t=>
      have hz:=HHe.out;simp only at hz;obtain⟨bl,hbl⟩:=zX1 (body.length);obtain⟨r,hr⟩:=zX1 (n % 2);rw[← hbl] at hz a1 ⊢;have q1:((n:Int) % 2)=(r:Int):=by omega
      have q2:((n:Int).tmod 2)=(r:Int):=by rw[Int.tmod_eq_emod_of_nonneg (by omega)];exact q1
      have q3:=wi64 r (by omega);rw[← hr] at hz;unfold numV
      by_cases c1:t=bl
      rotate_left
      ·have HN:=hid (No.out (by rw[hz,if_neg (fun h=>c1 h.1)]) w4 HK4.out n)
       have u1:((t:Int) == (bl:Int))=false:=by simp;omega
       have u2:decide (t=bl)=false:=decide_eq_false c1;clear hz hbl hr hu c1;go_wp2_with (at_builtin;refine z0A ?_;intro q hq);exact HN.out
      ·have u1:((t:Int) == (bl:Int))=true:=by simp;omega
       by_cases c2:n<4611686018427387904
       rotate_left
       ·have HN:=hid (No.out (by rw[hz,if_neg (fun h=>c2 h.2.1)]) w4 HK4.out n)
        have u3:decide ((n:Int)<4611686018427387904)=false:=decide_eq_false (by omega);have u4:decide (n<4611686018427387904)=false:=decide_eq_false c2;clear hz hbl hr hu c2 c1;go_wp2_with (at_builtin;refine z0A ?_;intro q hq);exact HN.out
       ·have u3:(n:Int)<4611686018427387904:=by omega
        by_cases c3:r=i
        rotate_left
        ·have HN:=hid (No.out (by rw[hz,if_neg (fun h=>c3 h.2.2)]) w4 HK4.out n)
         have u5:((r:Int) == (i:Int))=false:=by simp;omega
         have u6:decide (r=i)=false:=decide_eq_false c3;clear hz hbl hr hu c2 c1 c3;go_wp2_with (at_builtin;refine z0A ?_;intro q hq);exact HN.out
        ·have HN:=hid (Yes.out n (by rw[hz,if_pos ⟨c1,c2,c3⟩]) w4 HK4.out)
         have u5:((r:Int) == (i:Int))=true:=by simp;omega
         clear hz hbl hr hu c2 c1 c3;go_wp2_with (at_builtin;refine z0A ?_;intro q hq);exact HN.out
end
section
open Go.RowKit
open DM BM WM
structure ScanRel (w:World) (b d ep h ga:Nat) (va:Value) (bs:List UInt8) (wr:World):Prop where
 ex:∃ (f a:Nat) (L:List (List UInt8)) (vl:Value) (vs:List Value),scan bs (bs.length+1) 0=(L ++ (scan bs f a).1,(scan bs f a).2)∧a≤bs.length∧bs.length<a+f∧10 * L.length≤a∧
  wr.heap[b]?=some (.cells (z0N d ep h va vl 0 a false) 164 (0,0))∧Recs wr (fun k=>w.heap.size≤k) (fun k=>k=b∨k=ga) vl L vs
 keep:Keep (fun k=>k=b) w wr
def GotAt (wr:World) (s2 s3 s4:Value) (g:Got) (wx:World):Prop:=
 ∃ f c0 c1,s2 = .pointer (some ⟨f,0,none⟩)∧wx.heap[f]?=some (.cells #[c0,c1] 177 (0,0))∧Keep (fun _=>False) wr wx∧wr.heap.size≤f∧
  match g with
  | .no m=>s4 = .int .i64 (m:Nat)
  | .yes k body q=>∃ ad c,c0 = .int .u8 (k.toNat:Nat)∧c1 = .slice ad body.length c∧Row wx 5 1 c1 body.length (z0B body)∧(∀ j,c1.ownBlock=some j→wr.heap.size≤j∧j≠f)∧s3 = .int .i64 (q:Nat)∧s4 = .int .i64 0
theorem Keep.undrew {F:Nat→Prop} {a b:World} (h:Keep F a.drew b):Keep F a b:=⟨h.os,h.tape,h.output,h.size,h.block⟩
theorem znK {wr w2:World} (hk:Keep (fun _=>False) wr w2) (c0 c1:Value) :
  (w2.alloc (.cells #[c0,c1] 177)).heap[w2.heap.size]?=some (Obj.cells #[c0,c1] 177 (0,0))∧Keep (fun _=>False) wr (w2.alloc (.cells #[c0,c1] 177))∧wr.heap.size≤w2.heap.size∧Keep (fun _=>False) w2 (w2.alloc (.cells #[c0,c1] 177)):=
 ⟨heap_alloc_new w2 _,hk.alloc _,hk.size,(Keep.refl _ _).alloc _⟩
theorem zoH {wr w2:World} (hk:Keep (fun _=>False) (wr.alloc (.cells #[.int .u8 0,.slice none 0 0] 177)) w2) (c0 c1:Value) :
  ((w2.setCell ⟨wr.heap.size,0,none⟩ c0).setCell ⟨wr.heap.size,1,none⟩ c1).heap[wr.heap.size]?=some (Obj.cells #[c0,c1] 177 (0,0))∧Keep (fun _=>False) wr ((w2.setCell ⟨wr.heap.size,0,none⟩ c0).setCell ⟨wr.heap.size,1,none⟩ c1)∧
    Keep (fun k=>k=wr.heap.size) w2 ((w2.setCell ⟨wr.heap.size,0,none⟩ c0).setCell ⟨wr.heap.size,1,none⟩ c1):=by
 have h:=hk.get (heap_alloc_new wr _) id;have h2:=heap_setCell_same _ wr.heap.size 1 _ _ c1 (heap_setCell_same w2 wr.heap.size 0 _ _ c0 h);have hk2:Keep (fun k=>k=wr.heap.size) w2 ((w2.setCell ⟨wr.heap.size,0,none⟩ c0).setCell ⟨wr.heap.size,1,none⟩ c1):=by refine Keep.setCell (Keep.setCell (Keep.refl _ _) (.inl ?_) _) (.inl ?_) _ <;> rfl
 exact⟨h2,(((Keep.refl _ wr).alloc _).nx hk).next hk2 (fun _ _ x=>x) (fun k hk x=>by omega),hk2⟩
theorem zpU (w:World) (b d ep h ga ca nn:Nat) (bs:List UInt8) (H:w.heap[b]?=some (.cells (z0N d ep h (.slice (some ⟨ga,0,none⟩) nn ca) (.slice none 0 0) 0 0 false) 164 (0,0)))
  (hrow:Row w 5 1 (.slice (some ⟨ga,0,none⟩) nn ca) nn (z0B bs)) (hnn:nn≤40000) (hne:b≠ga) :
  Calls Tryz.prog 85 #[.pointer (some ⟨b,0,none⟩)] w fun e w'=>e = .returned (.tuple #[])∧Keep (fun k=>k=b) w w'∧
   ∃ vl vs,w'.heap[b]?=some (.cells (z0N d ep h (.slice (some ⟨ga,0,none⟩) nn ca) vl (scan bs (bs.length+1) 0).1.length (scan bs (bs.length+1) 0).2 false) 164 (0,0))∧Recs w' (fun k=>w.heap.size≤k) (fun k=>k=b∨k=ga) vl (scan bs (bs.length+1) 0).1 vs:=by
 have hbl:bs.length=nn:=by have:=hrow.1;rw[z0D] at this;omega
 have H0:=hid (show ScanRel w b d ep h ga (.slice (some ⟨ga,0,none⟩) nn ca) bs w from⟨⟨bs.length+1,0,[],.slice none 0 0,[],rfl,Nat.zero_le _,by omega,Nat.zero_le _,H,Recs.nil _ _ _⟩,Keep.refl _ _⟩);obtain⟨adx,cax,hvx,hnca,hca,-⟩:=hrow.form;simp at hvx;obtain⟨rfl,rfl⟩:=hvx;have HR:=hid hrow;have hblt:=z0L H;have hgalt:=hrow.lt (k:=ga) (by simp[Value.ownBlock]);clear H hrow;go_enter Tryz.func85,Tryz.ntmps85;go_wp2_with (at_builtin;refine z0A ?_;intro q hq)
 go_loopw [3] (fun _ wr=>Hid (ScanRel w b d ep h ga (.slice (some ⟨ga,0,none⟩) nn ca) bs wr)) (fun _ wr=>bs.length+10 - (intOf ((wr.cell? ⟨b,6,none⟩).getD undef)).toNat)
 case atStart=>exact H0
 case round=>
  clear H0;obtain⟨f,a,L,vl,vs,hs,ha,hf,hc,hh,hrec⟩:=hrel.out.ex;have hk:=hrel.out.keep;obtain⟨i0,i1,i2,i3,i4,i5,i6,i7,if1,ib1⟩:=z1F (show wr.heap[b]?=some (.cells #[_,_,_,_,_,_,_,_] _ (0,0)) from hh);have hbw:b≠wr.heap.size:=by omega
  have hbw2:wr.heap.size≠b:=by omega
  have hcells:∀ wX,Keep (fun _=>False) wr wX→Cells wX (some ⟨ga,0,none⟩) nn 1 (z0B bs):=fun wX hX=>((Cells.of_row HR.out).keep hk fun x hx y=>by cases hx;exact hne y.symm).keep hX fun _ _ x=>x;have hget:∀ wX,Keep (fun _=>False) wr wX→Calls Tryz.prog 126 #[.slice (some ⟨ga,0,none⟩) nn ca,.int .i64 (a:Nat)] wX (GetPost wX (BM.get bs a)):=fun wX hX=>zoA wX _ nn ca a bs (hcells wX hX) (by omega) hnca (by omega);have HX:=hid (zA1 hs (zA1 ha (zA1 hf (zA1 hc (zA1 hh (zA1 hrec hk))))));obtain⟨g,hg⟩:=zX1 (BM.get bs a);rw[← hg] at hget;have HGt:=hid hg;have HGet:=hid hget;clear hs hf hc hh hrec hk hcells hget hg hrel;go_wp2_with (at_builtin;refine z0A ?_;intro q hq)
  go_cut [2,3,4] (fun s2 s3 s4 wx=>Hid (GotAt wr s2 s3 s4 g wx))
  case first=>
   cases g with
   | no m=>
     have hget2:∀ wX,Keep (fun _=>False) wr wX→Calls Tryz.prog 126 #[.slice (some ⟨ga,0,none⟩) nn ca,.int .i64 (a:Nat)] wX fun e w'=>e = .returned (.tuple #[.agg #[.int .u8 0,.slice none 0 0],.int .i64 0,.int .i64 (m:Nat)])∧(w'.cell? ⟨b,3,none⟩=some (.slice (some ⟨ga,0,none⟩) nn ca)∧w'.cell? ⟨b,6,none⟩=some (.int .i64 (a:Nat)))∧Hid (Keep (fun _=>False) wX w')∧Hid (∀ g:Nat,wX.heap[g]?=some (Obj.cells #[.int .u8 0,.slice none 0 0] 177 (0,0))→w'.heap[g]?=some (Obj.cells #[.int .u8 0,.slice none 0 0] 177 (0,0))):=fun wX hX=>(HGet.out wX hX).mono fun e w' ⟨h1,h2⟩=>by
      have hk':=hX.nx h2;exact⟨h1,⟨by rw[World.cell?_of_block (hk'.block _ (World.block_lt_of_cell? _ _ i3) id)];exact i3,by rw[World.cell?_of_block (hk'.block _ (World.block_lt_of_cell? _ _ i6) id)];exact i6⟩,hid h2,hid fun g hg=>h2.get hg id⟩
     have HG2:=hid hget2;clear hget2
     go_region_held3 (fun w'=>w'.cell? ⟨b,3,none⟩=some (.slice (some ⟨ga,0,none⟩) nn ca)∧w'.cell? ⟨b,6,none⟩=some (.int .i64 (a:Nat)))
      (first | exact⟨i3,i6⟩ | assumption | go_keep)
      (first | (go_simp;go_at_call 126;refine(HG2.out _ (by first | exact(Keep.refl _ _).drew | exact(Keep.refl _ _).drew.alloc _ | exact((Keep.refl _ _).alloc _).drew)).mono ?_;rintro e w2 ⟨rfl,hz2,HK2,HZ3⟩;(first | (have hz9:w2.heap[wr.heap.size]?=some (Obj.cells #[.int .u8 0,.slice none 0 0] 177 (0,0)):=by(apply HZ3.out;exact heap_alloc_new wr _));(obtain⟨z0,z1,zf,zl⟩:=z4W hz9);(clear hz9) | skip);go_simp))
     all_goals (go_wp2_with (at_builtin;refine z0A ?_;intro q hq);go_meet)
     ·obtain⟨h1,h2,h3,-⟩:=znK (show Keep (fun _=>False) wr w2 from HK2.out.undrew) (.int .u8 0) (.slice none 0 0)
      exact hid ⟨_,_,_,rfl,h1,h2,h3,rfl⟩
     ·obtain⟨h1,h2,-⟩:=zoH (show Keep (fun _=>False) (wr.alloc (.cells #[.int .u8 0,.slice none 0 0] 177)) w2 from HK2.out.undrew) (.int .u8 0) (.slice none 0 0)
      exact hid ⟨_,_,_,rfl,h1,h2,Nat.le_refl _,rfl⟩
   | yes k body q=>
     have hget2:∀ wX,Keep (fun _=>False) wr wX→Calls Tryz.prog 126 #[.slice (some ⟨ga,0,none⟩) nn ca,.int .i64 (a:Nat)] wX fun e w'=>∃ ad c,e = .returned (.tuple #[.agg #[.int .u8 (k.toNat:Nat),.slice ad body.length c],.int .i64 (q:Nat),.int .i64 0])∧(w'.cell? ⟨b,3,none⟩=some (.slice (some ⟨ga,0,none⟩) nn ca)∧w'.cell? ⟨b,6,none⟩=some (.int .i64 (a:Nat)))∧Hid (Fresh wX (.slice ad body.length c) body w')∧Hid (∀ g:Nat,wX.heap[g]?=some (Obj.cells #[.int .u8 0,.slice none 0 0] 177 (0,0))→w'.heap[g]?=some (Obj.cells #[.int .u8 0,.slice none 0 0] 177 (0,0))):=fun wX hX=>(HGet.out wX hX).mono fun e w' ⟨v,h1,h2⟩=>by
      have hk':=hX.nx h2.keep;obtain⟨ad,c,rfl,-⟩:=h2.row.form;exact⟨ad,c,h1,⟨by rw[World.cell?_of_block (hk'.block _ (World.block_lt_of_cell? _ _ i3) id)];exact i3,by rw[World.cell?_of_block (hk'.block _ (World.block_lt_of_cell? _ _ i6) id)];exact i6⟩,hid h2,hid fun g hg=>h2.keep.get hg id⟩
     have HG2:=hid hget2;clear hget2;generalize hkk:k.toNat=kk at *;obtain⟨bl,hbl2⟩:=zX1 (body.length);rw[← hbl2] at HG2;have HBL:=hid (zA1 hkk hbl2);clear hkk hbl2
     go_region_held3 (fun w'=>w'.cell? ⟨b,3,none⟩=some (.slice (some ⟨ga,0,none⟩) nn ca)∧w'.cell? ⟨b,6,none⟩=some (.int .i64 (a:Nat)))
      (first | exact⟨i3,i6⟩ | assumption | go_keep)
      (first | (go_simp;go_at_call 126;refine(HG2.out _ (by first | exact(Keep.refl _ _).drew | exact(Keep.refl _ _).drew.alloc _ | exact((Keep.refl _ _).alloc _).drew)).mono ?_;rintro e w2 ⟨ad2,c2,rfl,hz2,HF2,HZ3⟩;(first | (have hz9:w2.heap[wr.heap.size]?=some (Obj.cells #[.int .u8 0,.slice none 0 0] 177 (0,0)):=by(apply HZ3.out;exact heap_alloc_new wr _));(obtain⟨z0,z1,zf,zl⟩:=z4W hz9);(clear hz9) | skip);go_simp))
     all_goals (go_wp2_with (at_builtin;refine z0A ?_;intro q hq);go_meet)
     ·obtain⟨h1,h2,h3,h4⟩:=znK (show Keep (fun _=>False) wr w2 from HF2.out.keep.undrew) (.int .u8 (kk:Nat)) (.slice ad2 bl c2)
      refine hid ⟨_,_,_,rfl,h1,h2,h3,ad2,c2,by rw[HBL.out.1],by rw[HBL.out.2],HF2.out.row.keep h4 (fun _ _ x=>x),fun j e=>⟨HF2.out.own j e,fun e2=>?_⟩,rfl,rfl⟩;have:=HF2.out.row.lt e;omega
     ·obtain⟨h1,h2,h3⟩:=zoH (show Keep (fun _=>False) (wr.alloc (.cells #[.int .u8 0,.slice none 0 0] 177)) w2 from HF2.out.keep.undrew) (.int .u8 (kk:Nat)) (.slice ad2 bl c2)
      have hsz:(wr.alloc (.cells #[.int .u8 0,.slice none 0 0] 177)).heap.size=wr.heap.size+1:=by simp
      have hown:∀ j,(Value.slice ad2 bl c2).ownBlock=some j→wr.heap.size+1≤j:=fun j e=>by have:(wr.alloc (.cells #[.int .u8 0,.slice none 0 0] 177)).heap.size≤j:=HF2.out.own j e;omega
      refine hid ⟨_,_,_,rfl,h1,h2,Nat.le_refl _,ad2,c2,by rw[HBL.out.1],by rw[HBL.out.2],HF2.out.row.keep h3 (fun j e x=>by have:=hown j e;omega),fun j e=>⟨by have:=hown j e;omega,by have:=hown j e;omega⟩,rfl,rfl⟩
  case rest=>
   obtain⟨f2,c0,c1,rfl,hh2,hk2,hlt2,hm⟩:=hcut.out;obtain⟨hs,ha',hf,hc,hh,hrec,hk⟩:=HX.out;obtain⟨a0,a1,af,hfl⟩:=z4W hh2;have hhc:=hk2.get hh id;have HM0:=hid i6;clear i0 i1 i2 i3 i4 i5 i6 i7 if1 hcut;obtain⟨i0,i1,i2,i3,i4,i5,i6,i7,if1,ib2⟩:=z1F (show wc.heap[b]?=some (.cells #[_,_,_,_,_,_,_,_] _ (0,0)) from hhc);obtain⟨fp,hfp⟩:∃ fp,f=fp+1:=⟨f - 1,by omega⟩;have hkc:Keep (fun k=>k=b) w wc:=hk.next hk2 (fun _ _ x=>x) (fun _ _ x=>x.elim);obtain⟨adl,cl,rfl,-⟩:=hrec.row.form
   have out:(scan bs f a=([],a))→∀ wX,wX=wc.setCell ⟨b,5,none⟩ (.int .i64 (L.length:Nat))→Keep (fun k=>k=b) w wX∧
     ∃ vl vs,wX.heap[b]?=some (.cells (z0N d ep h (.slice (some ⟨ga,0,none⟩) nn ca) vl (scan bs (bs.length+1) 0).1.length (scan bs (bs.length+1) 0).2 false) 164 (0,0))∧Recs wX (fun k=>w.heap.size≤k) (fun k=>k=b∨k=ga) vl (scan bs (bs.length+1) 0).1 vs:=by
    rintro h0 wX rfl;have hk5:Keep (fun k=>k=b) wc (wc.setCell ⟨b,5,none⟩ (.int .i64 (L.length:Nat))):=kst;rw[hs,h0,List.append_nil];refine⟨hkc.next hk5 (fun _ _ x=>x) (fun _ _ x=>x),_,vs,?_,(hrec.keep hk2 fun _ _ _ x=>x).keep hk5 fun k _ h1 h2=>h1 (.inl h2)⟩;rw[z0C hhc 5 (.int .i64 (L.length:Nat))];rfl
   have Out:=hid out;clear out
   cases g with
   | no m=>
     have hm0:=zhV HGt.out.symm;have hz:scan bs f a=([],a):=by rw[hfp,scan,← HGt.out]
     have u1:((m:Int) != 0)=true:=by simp;omega
     have u2:((m:Int) == 0)=false:=by simp;omega
     have HO:=hid (Out.out hz _ rfl);subst hm;clear hz hm0 hs hf hc hh hrec hk hh2 hk2 hhc hkc hfp;go_wp2_with (at_builtin;refine z0A ?_;intro q hq)
     go_end0
     exact⟨rfl,HO.out⟩
   | yes k body q=>
     obtain⟨ad2,c2,rfl,rfl,hrow2,hown2,rfl,rfl⟩:=hm;obtain⟨-,hq,hb1024,hqle⟩:=z5N HGt.out.symm;have HQ:=hid hq;clear hq
     by_cases hk2':k=2
     rotate_left
     ·have hz:scan bs f a=([],a):=by rw[hfp,scan,← HGt.out];simp[hk2']
      have u1:((k.toNat:Int) != 2)=true:=by
       have:k.toNat≠2:=fun e=>hk2' (UInt8.toNat_inj.1 e);simp;omega
      have HO:=hid (Out.out hz _ rfl);clear hz hs hf hc hh hrec hk hh2 hk2 hhc hkc hfp hk2' hrow2;generalize k.toNat=kk at *;go_wp2_with (at_builtin;refine z0A ?_;intro q hq)
      go_end0
      exact⟨rfl,HO.out⟩
     ·subst hk2'
      have hz:scan bs f a=(body :: (scan bs fp q).1,(scan bs fp q).2):=by rw[hfp,scan,← HGt.out];rfl
      have hrecc:=hrec.keep hk2 (fun _ _ _ x=>x);have hvb:=hrec.own;have hvl:∀ k,(Value.slice adl L.length cl).ownBlock=some k→k<wr.heap.size:=fun k e=>hrec.row.lt e;have HY:=hid (zA1 hs (zA1 hf (zA1 hc (zA1 hz (zA1 hhc (zA1 hkc (zA1 hrecc (zA1 hrow2 (zA1 hown2 (zA1 hvl (zA1 hk.size (zA1 hk2 hfp))))))))))));clear hs hf hc hh hrec hk hh2 hk2 hhc hkc hfp hz hrecc hvb hvl hrow2 hown2 Out;obtain⟨bl,hbl2⟩:=zX1 (body.length);rw[← hbl2] at a1 HY;have HB:=hid hbl2;clear hbl2;rw[show ((2:UInt8).toNat:Int)=2 from rfl] at a0;go_wp2_with (at_builtin;refine z0A ?_;intro q hq);refine z0G [] (by kernel_rfl) (by kernel_rfl) ?_
      repeat (first | (apply z0F (by rfl);(intro K w';go_simp;exact id)) | (apply z0I (by rfl);(intro K;go_simp;exact id)))
      (refine z2G (by rfl) (by rfl) (fun K hK=>?_);go_simp;refine hK _ _ (Pre.push _ rfl) ?_;clear hK K)
      obtain⟨w3,hw3⟩:=zX1 ((wc.alloc (.cells #[.slice ad2 bl c2] 29)).drew);have hnew3:w3.heap[wc.heap.size]?=some (.cells #[.slice ad2 bl c2] 29):=by rw[hw3];exact heap_alloc_new wc _
      have hk3:Keep (fun _=>False) wc w3:=by rw[hw3];exact((Keep.refl _ _).alloc _).drew
      rw[← hw3];clear hw3;refine z0M (by rfl) (by rfl) (fun K hK=>?_);obtain⟨y1,y2,y3,y4,y5,y6,y7,y8,y9,y10,y11,y12,y13⟩:=HY.out;have hr3:=y7.keep hk3 (fun _ _ _ x=>x)
      refine z0R z9G _ _ rfl rfl hr3.row (some ⟨wc.heap.size,0,none⟩) 1 1 [.slice ad2 bl c2] rfl
       ⟨rfl,fun _=>⟨_,rfl,fun j u hu=>by rw[z0J,Nat.zero_add,cell_of_row _ _ _ _ _ _ hnew3];simpa using hu⟩⟩ (by intro u hu;simp at hu;subst hu;rfl) (by unfold maxLen;omega) (by omega) ?_
      intro v4 w4 hr4 hk4 hv4;obtain⟨ad4,c4,rfl,-⟩:=hr4.form;refine hK _ _ ?_;clear hK K;have hh4:=hk4.get (hk3.get y5 id) (fun e=>(y7.own b e).2 (.inl rfl));clear i0 i1 i2 i3 i4 i5 i6 i7 if1 ib2 a0 a1 af;obtain⟨i0,i1,i2,i3,i4,i5,i6,i7,if1,ib2⟩:=z1F (show w4.heap[b]?=some (.cells #[_,_,_,_,_,_,_,_] _ (0,0)) from hh4);have H4:=hid (zA1 hr4 (zA1 hk4 (zA1 hv4 (zA1 hh4 (zA1 hk3 hr3)))));clear hr4 hk4 hv4 hh4 hk3 hr3 y1 y2 y3 y4 y5 y6 y7 y8 y9 y10 y11 y12 y13 hnew3
      repeat (apply z0F (by rfl);(intro K w';go_simp;exact id))
      (refine z0M (by rfl) (by rfl) (fun K hK=>?_);go_simp;refine hK _ _ ?_;clear hK K)
      refine z0S ?_;go_wp2_with (at_builtin;refine z0A ?_;intro q hq);have hk6:Keep (fun k=>k=b) w4 ((w4.setCell ⟨b,4,none⟩ (.slice ad4 (L.length+1) c4)).setCell ⟨b,6,none⟩ (.int .i64 (q:Nat))):=by refine Keep.setCell (Keep.setCell (Keep.refl _ _) (.inl ?_) _) (.inl ?_) _ <;> rfl
      have hh6:=z0C (z0C H4.out.2.2.2.1 4 (.slice ad4 (L.length+1) c4)) 6 (.int .i64 (q:Nat));obtain⟨w6,hw6⟩:=zX1 ((w4.setCell ⟨b,4,none⟩ (.slice ad4 (L.length+1) c4)).setCell ⟨b,6,none⟩ (.int .i64 (q:Nat)));rw[← hw6] at hk6 hh6 ⊢;clear hw6;obtain⟨y1,y2,y3,y4,y5,y6,y7,y8,y9,y10,y11,y12,y13⟩:=HY.out;obtain⟨z1,z2,z3,z4,z5,z6⟩:=H4.out;have hb1:=HB.out;have hq:=HQ.out;have s1:=y12.size;have s2:=z5.size;have s3:=z2.size
      have HZ:=hid (show ScanRel w b d ep h ga (.slice (some ⟨ga,0,none⟩) nn ca) bs w6 by
       refine⟨⟨fp,q,L ++ [body],.slice ad4 (L.length+1) c4,vs ++ [.slice ad2 bl c2],?_,hqle,by omega,by simp;omega,?_,?_⟩,?_⟩
       ·rw[y1,y4,List.append_assoc];rfl
       ·rw[hh6];rfl
       ·refine(z6.push (by have:=y8.keep z5 (fun _ _ x=>x);rw[hb1] at this ⊢;exact this) (F':=fun k=>w.heap.size≤k) (fun k e=>?_) z1 z2 (fun k x=>x) (fun k e=>?_)).keep hk6 (fun k _ h2 h3=>h2 (.inl h3))
        ·have h1:=(y9 k e).1
         refine⟨by omega,?_,fun e'=>?_⟩
         ·rintro(h3 | h3) <;> omega
         ·have:=y10 k e';omega
        ·rcases z3 with ⟨_,h0⟩ | ⟨k',h2,h3⟩
         ·omega
         ·rw[e] at h2;cases h2
          rcases h3 with h3 | h3
          ·exact .inl h3
          ·refine .inr ⟨by omega,by omega,?_⟩
           rintro(h4 | h4) <;> omega
       ·refine((y6.next z5 (H:=fun k=>k=b) (fun _ _ x=>x) (fun _ _ x=>x.elim)).next z2 (H:=fun k=>k=b) (fun _ _ x=>x) (fun k hk x=>?_)).next hk6 (fun _ _ x=>x) (fun _ _ x=>x)
        have:=(y7.own k x).1
        omega)
      clear hq;have hm6:w6.cell? ⟨b,6,none⟩=some (.int .i64 (q:Nat)):=by rw[cell_of_row _ _ _ _ _ _ hh6];simp[z0N]
      go_roundw
      case rel=>exact HZ
      case measure=>rw[hm6,HM0.out];have hq:=HQ.out;simp[intOf];omega
end
section
open Go.RowKit
open DM BM WM
def mixA (B:List UInt8) (en p:Nat):List UInt8:=(clean B en).take p ++ B.drop p
theorem z2O (B:List UInt8) (en:Nat):(clean B en).length=B.length:=by simp[clean];omega
theorem z5P (B:List UInt8) (en p:Nat):(mixA B en p).length=B.length:=by
 unfold mixA;rw[List.length_append,List.length_take,z2O,List.length_drop];omega
theorem zcZ (B:List UInt8) (en j:Nat):(clean B en).getD j 0=if j<en then B.getD j 0 else 0:=by
 unfold clean
 by_cases h:j<en
 ·rw[if_pos h]
  by_cases h2:j<B.length
  ·rw[List.getD_eq_getElem?_getD,List.getElem?_append_left (by rw[List.length_take];omega),List.getElem?_take,if_pos h,← List.getD_eq_getElem?_getD]
  ·rw[List.getD_eq_getElem?_getD,List.getElem?_eq_none (by simp;omega),List.getD_eq_getElem?_getD,List.getElem?_eq_none (by omega)]
 ·rw[if_neg h]
  rw[List.getD_eq_getElem?_getD]
  by_cases h2:j<B.length
  ·rw[List.getElem?_append_right (by rw[List.length_take];omega),List.getElem?_replicate]
   split <;> rfl
  ·rw[List.getElem?_eq_none (by simp;omega)];rfl
theorem z8S (B:List UInt8) (en p j:Nat) (hj:p≤j) (hp:p≤B.length):(mixA B en p).getD j 0=B.getD j 0:=by
 unfold mixA;have hl:((clean B en).take p).length=p:=by rw[List.length_take,z2O];omega
 rw[List.getD_eq_getElem?_getD,List.getElem?_append_right (by omega),hl,List.getElem?_drop,List.getD_eq_getElem?_getD,show p+(j - p)=j by omega]
theorem zfY (B:List UInt8) (en p:Nat) (hp:p<B.length):mixA B en (p+1)=(mixA B en p).set p ((clean B en).getD p 0):=by
 unfold mixA;have hcl:=z2O B en;have hl:((clean B en).take p).length=p:=by rw[List.length_take];omega
 rw[List.set_append_right _ _ (by omega),hl,Nat.sub_self,List.drop_eq_getElem_cons hp,List.set_cons_zero,List.take_add_one,List.getElem?_eq_getElem (by omega),Option.toList_some,List.append_assoc];congr 2;rw[List.getD_eq_getElem?_getD,List.getElem?_eq_getElem (by omega)];rfl
theorem ziC (l:List UInt8) (p:Nat) (h:p<l.length):l.set p (l.getD p 0)=l:=by
 rw[List.getD_eq_getElem?_getD,List.getElem?_eq_getElem h];exact List.set_getElem_self h
theorem znE (B:List UInt8) (en p:Nat) (h:p≤en):mixA B en p=B:=by
 unfold mixA clean;rw[List.take_append,List.take_take,Nat.min_eq_left h]
 by_cases h2:en≤B.length
 ·rw[List.length_take,Nat.min_eq_left h2,show p - en=0 by omega,List.take_zero,List.append_nil,List.take_append_drop]
 ·rw[List.length_take,List.take_replicate,show min (p - min en B.length) (B.length - en)=0 by omega,List.replicate_zero,List.append_nil,List.take_append_drop]
theorem zpV (B:List UInt8) (en:Nat):mixA B en B.length=clean B en:=by
 unfold mixA;rw[List.drop_length,List.append_nil,List.take_of_length_le (by rw[z2O];exact Nat.le_refl _)]
theorem ziO (B:List UInt8) (en i:Nat):z0Q (mixA B en ((i+1) * 32)) i=z0Q (clean B en) i:=by
 unfold z0Q mixA
 by_cases h:(i+1) * 32≤B.length
 ·have hl:((clean B en).take ((i+1) * 32)).length=(i+1) * 32:=by rw[List.length_take,z2O];omega
  rw[List.drop_append_of_le_length (by omega),List.take_append_of_le_length (by rw[List.length_drop];omega),List.drop_take,List.take_take];congr 1;omega
 ·have e:List.take ((i+1) * 32) (clean B en)=clean B en:=List.take_of_length_le (by rw[z2O];omega)
  rw[List.drop_of_length_le (by omega:B.length≤(i+1) * 32),List.append_nil,e]
def z3N (B:List UInt8) (en i j:Nat):Bool:=(List.range j).any fun k=>decide (en≤32 * i+k) && decide (B.getD (32 * i+k) 0≠0)
theorem z9Z (B:List UInt8) (en i j:Nat):z3N B en i (j+1)=(z3N B en i j || (decide (en≤32 * i+j) && decide (B.getD (32 * i+j) 0≠0))):=by
 simp[z3N,List.range_succ]
structure WipeRel (w:World) (ga ca nn:Nat) (B:List UInt8) (en i j:Nat) (wr:World):Prop where
 row:Row wr 5 1 (.slice (some ⟨ga,0,none⟩) nn ca) nn (z0B (mixA B en (i * 32+j)))
 keep:Keep (fun k=>k=ga) w wr
def Wiped (w:World) (d ga ca nn y:Nat) (Fd:Nat→Prop) (B:List UInt8) (en i:Nat) (wr0:Bool) (R:Int×Dk) (e:Ending) (w':World):Prop:=
 e = .returned (.int .i64 R.1)∧Keep (fun k=>Fd k∨k=ga∨k=y) w w'∧(∃ Fd',DiskAt w' d Fd' R.2∧∀ k,Fd' k→Fd k∨w.heap.size≤k)∧
  Row w' 5 1 (.slice (some ⟨ga,0,none⟩) nn ca) nn (z0B (mixA B en ((i+1) * 32)))∧w'.heap[y]?=some (.cells #[.bool (wr0 || dirty B en i)] 4 (0,0))
theorem zlV (w:World) (x y b d ga ca ep en nn i:Nat) (Fd:Nat→Prop) (D:Dk) (B:List UInt8) (vl:Value) (sf:Nat) (dead wr0:Bool) (hx:w.cell? ⟨x,0,none⟩=some (.pointer (some ⟨b,0,none⟩)))
  (hy:w.heap[y]?=some (.cells #[.bool wr0] 4 (0,0))) (H:w.heap[b]?=some (.cells (z0N d ep (half D) (.slice (some ⟨ga,0,none⟩) nn ca) vl sf en dead) 164 (0,0)))
  (hrow:Row w 5 1 (.slice (some ⟨ga,0,none⟩) nn ca) nn (z0B (mixA B en (i * 32)))) (hnn:nn=32 * half D) (hi:i<half D) (hD:DiskAt w d Fd D)
  (_hxF:¬ Fd x) (hyF:¬ Fd y) (_hbF:¬ Fd b) (hgF:¬ Fd ga) (hyx:y≠x) (hyb:y≠b) (hyg:y≠ga) (hgb:ga≠b) (hgx:ga≠x) (hfew:D.waits.length≤900000) :
  Calls Tryz.prog 128 #[.int .i64 (i:Nat),.slice (some ⟨ga,i * 32,none⟩) 32 (ca - i * 32),.pointer (some ⟨x,0,none⟩),.pointer (some ⟨y,0,none⟩)] w
   (Wiped w d ga ca nn y Fd B en i wr0 (if dirty B en i then DM.write D ((WM.first D ep+i:Nat):Int) (z0Q (clean B en) i) else (0,D))):=by
 have hBl:B.length=nn:=by have:=hrow.1;rw[z0D,z5P] at this;omega
 obtain⟨R,hR⟩:=zX1 (if dirty B en i then DM.write D ((WM.first D ep+i:Nat):Int) (z0Q (clean B en) i) else (0,D));rw[← hR];have HR:=hid hR;clear hR;have hfewD:=hD.ok.few;have hhalf:half D≤1023:=by unfold half;omega
 obtain⟨p,hp⟩:=zX1 (i * 32);have e1:(i:Int) * 32=(p:Int):=by omega
 have e2:=wi64 p (by omega);have H0:=hid (WipeRel.mk (w:=w) (ga:=ga) (ca:=ca) (nn:=nn) (B:=B) (en:=en) (i:=i) (j:=0) hrow (Keep.refl _ _));have HH:=hid (zA1 H (zA1 hx (zA1 hy hD)));have HP:=hid (zA1 hp (zA1 hBl hnn));rw[← hp];obtain⟨cc,hcc⟩:=zX1 (ca - p);rw[← hcc];clear hp hBl hrow hcc hnn H hx hy;go_enter Tryz.func128,Tryz.ntmps128;go_wp2_with (at_builtin;refine z0A ?_;intro q hq)
 go_loopw [7,8,11] (fun dv _ jv wr=>∃ j:Nat,j≤32∧jv = .int .i64 j∧dv = .bool (z3N B en i j)∧Hid (WipeRel w ga ca nn B en i j wr)) (fun _ _ jv _=>32 - (intOf jv).toNat)
 case atStart=>exact⟨0,Nat.zero_le _,rfl,rfl,H0⟩
 case round=>
  clear H0;obtain⟨j,hj,rfl,rfl,HI⟩:=hrel;obtain⟨h1,h2,h3,h4⟩:=HH.out;have hh:=HI.out.keep.get h1 (fun e=>hgb e.symm);obtain⟨i0,i1,i2,i3,i4,i5,i6,i7,if1,ib1⟩:=z1F (show wr.heap[b]?=some (.cells #[_,_,_,_,_,_,_,_] _ (0,0)) from hh);have hxr:=h2;rw[← World.cell?_of_block (HI.out.keep.block _ (World.block_lt_of_cell? _ _ h2) (fun e=>hgx e.symm))] at hxr;have Hhr:=hid hh;clear h1 h2 h3 h4 hh
  by_cases hj32:j<32
  ·obtain⟨hp,hBl,hnn⟩:=HP.out
   obtain⟨q,hq⟩:=zX1 (p+j);have hqn:q<nn:=by omega
   have hrow:=HI.out.row;rw[← hp,← hq] at hrow;obtain⟨u,hu⟩:=zX1 (B.getD q 0)
   have hc:wr.cell? ⟨ga,p+j,none⟩=some (.int .u8 (u.toNat:Int)):=by
    rw[← hq,hrow.cell q (by omega)];have hlt:q<(mixA B en q).length:=by rw[z5P];omega
    have hg:=z8S B en q q (Nat.le_refl _) (by omega);rw[List.getD_eq_getElem?_getD,List.getElem?_eq_getElem hlt] at hg;simp only[Option.getD_some] at hg;rw[z0B,List.getElem?_map,List.getElem?_eq_getElem hlt,hg,← hu];rfl
   have hfz:=hrow.frozen q (by omega);rw[hq] at hfz;have q1:(p:Int)+(j:Int)=(q:Int):=by omega
   have q2:(j:Int)<32:=by omega
   have q3:=wi64 q (by omega);have HS:=hid (zA1 (z9Z B en i j) (zA1 (zfY B en q (by omega)) (zA1 (zcZ B en q) (zA1 hrow (zA1 hq hu)))));have hu256:=u.toNat_lt;have hu0:u=0↔u.toNat=0:=⟨fun h=>by rw[h];rfl,fun h=>UInt8.toNat_inj.1 h⟩;have HU:=hid hu0;clear hp hBl hnn hrow hu hq hu0;generalize hub:u.toNat=ub at *;have HUB:=hid hub;clear hub
   have stay:(q<en∨ub=0)→Hid (z3N B en i (j+1)=z3N B en i j∧WipeRel w ga ca nn B en i (j+1) wr):=fun h=>by
    obtain⟨s1,s2,s3,s4,s5,s6⟩:=HS.out;have hp:=HP.out.1;have hqi:32 * i+j=q:=by omega
    have hqi2:i * 32+(j+1)=q+1:=by omega
    have e0:(clean B en).getD q 0=B.getD q 0:=by
     rw[s3]
     rcases h with h | h
     ·rw[if_pos h]
     ·split
      ·rfl
      ·rw[← s6];exact(HU.out.2 h).symm
    refine hid ⟨?_,?_,HI.out.keep⟩
    ·rw[s1,hqi]
     rcases h with h | h
     ·rw[decide_eq_false (show ¬ en≤q by omega)];simp
     ·rw[← s6,HU.out.2 h];simp
    ·rw[hqi2,s2,e0]
     have hl:q<(mixA B en q).length:=by rw[z5P];have:=HP.out.2.1;omega
     have hg:=z8S B en q q (Nat.le_refl _) (by have:=HP.out.2.1;omega);have h5:=ziC (mixA B en q) q hl;rw[hg] at h5;rw[h5];exact s4
   by_cases c1:q<en
   ·have HZ:=stay (.inl c1)
    have t1:decide ((en:Int)≤(q:Int))=false:=decide_eq_false (by omega);have t2:decide (en≤q)=false:=decide_eq_false (by omega);clear stay hc hfz;rw[← HZ.out.1];go_wp2_with (at_builtin;refine z0A ?_;intro q hq);go_roundw
    case rel=>exact⟨j+1,by omega,by go_num,by first | trivial | rfl,hid HZ.out.2⟩
    case measure=>simp[intOf];omega
   ·by_cases c2:ub=0
    ·have HZ:=stay (.inr c2)
     have t1:(en:Int)≤(q:Int):=by omega
     have t2:((ub:Int) != 0)=false:=by simp[c2]
     have t3:((ub:Int) == 0)=true:=by simp[c2]
     clear stay hfz;subst c2;rw[← HZ.out.1];go_wp2_with (at_builtin;refine z0A ?_;intro q hq);go_roundw
     case rel=>exact⟨j+1,by omega,by go_num,by first | trivial | rfl,hid HZ.out.2⟩
     case measure=>simp[intOf];omega
    ·have t1:(en:Int)≤(q:Int):=by omega
     have t2:((ub:Int) != 0)=true:=by simp;omega
     have t3:((ub:Int) == 0)=false:=by simp;omega
     clear stay;go_wp2_with (at_builtin;refine z0A ?_;intro q hq);have hkS:Keep (fun k=>k=ga) wr (wr.setCell ⟨ga,p+j,none⟩ (.int .u8 0)):=kst
     have HZ:=hid (show z3N B en i (j+1)=true∧WipeRel w ga ca nn B en i (j+1) (wr.setCell ⟨ga,p+j,none⟩ (.int .u8 0)) by
      obtain⟨s1,s2,s3,s4,s5,s6⟩:=HS.out;have hp:=HP.out.1;have hqi:32 * i+j=q:=by omega
      have hqi2:i * 32+(j+1)=q+1:=by omega
      refine⟨?_,?_,HI.out.keep.next hkS (fun _ _ x=>x) (fun _ _ x=>x)⟩
      ·rw[s1,hqi]
       have hb0:B.getD q 0≠0:=fun e=>c2 (HU.out.1 (by rw[s6];exact e));have hen:en≤q:=by omega
       rw[decide_eq_true hen,decide_eq_true hb0];simp
      ·rw[hqi2,s2,s3,if_neg c1]
       have h5:=s4.setOne q (by have:=HP.out.2;omega) (.int .u8 0) rfl;have h6:z0B ((mixA B en q).set q 0)=(z0B (mixA B en q)).set q (.int .u8 0):=(z5O _ q 0 (by decide)).symm;rw[h6,← s5]
       exact h5)
     go_roundw
     case rel=>exact⟨j+1,by omega,by go_num,by rw[HZ.out.1],hid HZ.out.2⟩
     case measure=>simp[intOf];omega
  ·obtain rfl:j=32:=by omega
   have hdd:z3N B en i 32=dirty B en i:=rfl;rw[hdd];obtain⟨h1,h2,h3,h4⟩:=HH.out;have hyr:=HI.out.keep.get h3 (fun e=>hyg e);have hDr:=h4.keep HI.out.keep (fun k e c=>by subst c;exact hgF e);have hrowr:=HI.out.row;rw[show i * 32+32=(i+1) * 32 by omega] at hrowr;have hkr:=HI.out.keep;have hylt:=z0L h3;clear h1 h2 h3 h4 hdd
   cases hdi:dirty B en i with
   | false=>
     have hr:R=(0,D):=by rw[HR.out,hdi];rfl
     have HW:=hid (show Wiped w d ga ca nn y Fd B en i wr0 R (.returned (.int .i64 0)) wr from
      ⟨by rw[hr],hkr.mono fun _ _ x=>.inr (.inl x),⟨Fd,by rw[hr];exact hDr,fun _ x=>.inl x⟩,hrowr,by rw[hyr,hdi,Bool.or_false]⟩)
     clear hr hyr hDr hrowr hkr hdi HI;go_wp2_with (at_builtin;refine z0A ?_;intro q hq);go_ret;exact HW.out
   | true=>
     have hr:R=DM.write D ((WM.first D ep+i:Nat):Int) (z0Q (clean B en) i):=by rw[HR.out,hdi];rfl
     have y0:wr.cell? ⟨y,0,none⟩=some (.bool wr0):=by rw[cell_of_row _ _ _ _ _ _ hyr];rfl
     have yf:∀ o,wr.frozen? ⟨y,o,none⟩=false:=fun o=>by simp[World.frozen?,hyr]
     have HX:=hid (zA1 hr (zA1 hyr (zA1 hDr (zA1 hrowr (zA1 hkr hdi)))));clear hr hyr hDr hrowr hkr hdi HI HR;go_wp2_with (at_builtin;refine z0A ?_;intro q hq);obtain⟨hr,hyr,hDr,hrowr,hkr,hdi⟩:=HX.out;have hk2:Keep (fun k=>k=y) wr (wr.setCell ⟨y,0,none⟩ (.bool true)):=kst;have hy2:=heap_setCell_same wr y 0 _ _ (.bool true) hyr;obtain⟨w2,hw2⟩:=zX1 (wr.setCell ⟨y,0,none⟩ (.bool true));rw[← hw2] at hk2 hy2 ⊢;clear hw2 y0 yf i0 i1 i2 i3 i4 i5 i6 i7 if1;have hx2:=hxr;rw[← World.cell?_of_block (hk2.block _ (World.block_lt_of_cell? _ _ hxr) (fun e=>hyx e.symm))] at hx2;have hh2:=hk2.get Hhr.out (fun e=>hyb e.symm);have hD2:=hDr.keep hk2 (fun k e c=>by subst c;exact hyF e);have hrow2:=hrowr.keep hk2 (fun k e c=>by simp[Value.ownBlock] at e;omega);obtain⟨i0,i1,i2,i3,i4,i5,i6,i7,if1,ib2⟩:=z1F (show w2.heap[b]?=some (.cells #[_,_,_,_,_,_,_,_] _ (0,0)) from hh2);have j0:=fun s:Later w2=>s.cell hx2;have j1:=fun s:Later w2=>s.cell i0;have j2:=fun s:Later w2=>s.cell i1
     have HF:=hid (show ∀ s:Later w2,Calls Tryz.prog 84 #[.pointer (some ⟨b,0,none⟩),.int .u64 (ep:Nat)] s.val fun e w'=>e = .returned (.int .i64 (2+ep % 2 * half D:Nat))∧Keep (fun _=>False) s.val w' from
      fun s=>(z7G s.val b d ep (half D) _ vl sf en dead (s.keep.get hh2 id) hhalf ep).mono fun e w' ⟨h1,h2⟩=>⟨h1,by rw[h2];exact Keep.refl _ _⟩)
     obtain⟨q,hq⟩:=zX1 (2+ep % 2 * half D)
     have hq2:q≤3000:=by
      have:ep % 2=0∨ep % 2=1:=by omega
      rcases this with h | h <;> rw[h] at hq <;> omega
     have hfi:WM.first D ep=q:=hq.symm;rw[hfi] at hr;rw[← hq] at HF;obtain⟨t,ht⟩:=zX1 (q+i);have g1:(q:Int)+(i:Int)=(t:Int):=by omega
     have g2:=wi64 t (by omega);rw[← ht] at hr;obtain⟨hp,hBl,hnn⟩:=HP.out
     have hcs:Cells w2 (some ⟨ga,p,none⟩) 32 1 (z0B (z0Q (clean B en) i)):=by
      obtain⟨adx,cax,hvx,hnca,-⟩:=hrow2.form;simp at hvx;obtain⟨rfl,rfl⟩:=hvx;have h:=(Cells.tail (Cells.of_row hrow2) (i * 32) (by omega) hnca (by decide)).take 32 (by omega)
      have e:z1E (some ⟨ga,0,none⟩) ca (i * 32) 1=some ⟨ga,p,none⟩:=by
       unfold z1E;rw[if_neg (by omega)];simp[z0J,hp]
      rw[e] at h
      have hsec:List.take (32 * 1) (List.drop (i * 32 * 1) (z0B (mixA B en ((i+1) * 32))))=z0B (z0Q (mixA B en ((i+1) * 32)) i):=by
       unfold z0Q;simp[z0B,List.map_take,List.map_drop,Nat.mul_comm]
      rw[hsec,ziO] at h;exact h
     have HW:=hid (show ∀ s:Later w2,Calls Tryz.prog 106 #[.pointer (some ⟨d,0,none⟩),.int .i64 (t:Nat),.slice (some ⟨ga,p,none⟩) 32 cc] s.val fun e w'=>e = .returned (.int .i64 R.1)∧DiskTo d Fd s.val R.2 w' from
      fun s=>by rw[hr];exact z8X s.val d Fd D (t:Int) _ 32 cc _ (hD2.keep s.keep fun _ _ x=>x) (hcs.later s) (fun _ x hx=>by cases hx;exact hgF) (by omega) (by decide) (by omega))
     have HZ:=hid (zA1 hk2 (zA1 hy2 (zA1 hrow2 (zA1 hkr hdi))));clear hr hyr hDr hrowr hkr hdi hk2 hy2 hrow2 hD2 hcs hh2 hx2 i0 i1 i2 i3 i4 i5 i6 i7 if1 ib2 hq hfi ht hp hBl hnn HX hxr;go_wp2_with (at_builtin;refine z0A ?_;intro q hq)
     (refine z2L 13 (by kernel_rfl) (by kernel_rfl) ?_;simp only[List.take_succ_cons,List.take_zero,List.drop_succ_cons,List.drop_zero];(repeat (go_big_quiet_step ((go_at_call 84;exact Later.call (HF.out _)))));refine wpQuiet_nil ?_;rintro _ ⟨sq,rfl⟩)
     clear j0 j1 j2;go_wp2_with (at_builtin;refine z0A ?_;intro q hq);refine(HW.out sq).mono ?_;rintro e w3 ⟨rfl,ht⟩;have HT:=hid (ht.since sq.keep);clear ht;go_wp2_with (at_builtin;refine z0A ?_;intro q hq);go_ret;obtain⟨hk2,hy2,hrow2,hkr,hdi⟩:=HZ.out;obtain⟨F',t1,t2,t3⟩:=HT.out;refine⟨rfl,((hkr.next hk2 (H:=fun k=>Fd k∨k=ga∨k=y) (fun _ _ x=>.inr (.inl x)) (fun _ _ x=>.inr (.inr x))).next t2 (fun _ _ x=>x) (fun _ _ x=>.inl x)),⟨F',t1,fun k x=>(t3 k x).imp id fun h=>Nat.le_trans (Nat.le_trans hkr.size hk2.size) h⟩,?_,?_⟩
     ·exact hrow2.keep t2 (fun k e x=>by simp[Value.ownBlock] at e;subst e;exact hgF x)
     ·rw[hdi,Bool.or_true]
      exact t2.get hy2 hyF
end
end Go.Proofs.YtkjofdocgaiedaaGreat
