/- Texts WalC in one. Conditions: as each law names them. -/
import Derived.Test.YtkjofdocgaiedaaGreatUaq
import Derived.Test.YtkjofdocgaiedaaGreatUar
set_option maxRecDepth 20000
set_option maxHeartbeats 8000000
namespace Go.Proofs.YtkjofdocgaiedaaGreat
section
open Go.RowKit
open DM BM WM
theorem Cells.later {w:World} {ao:Option Addr} {n size:Nat} {xs:List Value} (h:Cells w ao n size xs) (s:Later w):Cells s.val ao n size xs:=h.keep s.keep fun _ _ x=>x
theorem DiskTo.since {w w1 w':World} {d:Nat} {F:Nat→Prop} {D:Dk} (h:DiskTo d F w1 D w') (hk:Keep (fun _=>False) w w1):DiskTo d F w D w':=by
 obtain⟨F',h1,h2,h3⟩:=h;exact⟨F',h1,hk.next h2 (fun _ _ x=>x.elim) (fun _ _ x=>x),fun k x=>(h3 k x).imp id fun y=>Nat.le_trans hk.size y⟩
theorem zrG (w:World) (x b d ep:Nat) (Fd:Nat→Prop) (D:Dk) (va vl:Value) (sf en:Nat) (dead:Bool) (hx:w.cell? ⟨x,0,none⟩=some (.pointer (some ⟨b,0,none⟩)))
  (H:w.heap[b]?=some (.cells (z0N d ep (half D) va vl sf en dead) 164 (0,0))) (hD:DiskAt w d Fd D) (i:Nat) (hi:i<half D) (ao:Option Addr) (c:Nat) (bs:List UInt8) (hsrc:Cells w ao 32 1 (z0B bs))
  (hap:∀ x,ao=some x→¬ Fd x.block) (hfew:D.waits.length≤900000) :
  Calls Tryz.prog 105 #[.int .i64 (i:Nat),.slice ao 32 c,.pointer (some ⟨x,0,none⟩)] w fun e w'=>
   e = .returned (.int .i64 (DM.write D ((WM.first D ep+i:Nat):Int) bs).1)∧DiskTo d Fd w (DM.write D ((WM.first D ep+i:Nat):Int) bs).2 w':=by
 have hh:=H;unfold z0N at hh;obtain⟨h0,h1,h2,h3,h4,h5,h6,h7,hf,hb⟩:=z1F hh;have hfewD:=hD.ok.few;have hhalf:half D≤1023:=by unfold half;omega
 have j0:=fun s:Later w=>s.cell hx;have j1:=fun s:Later w=>s.cell h0;have j2:=fun s:Later w=>s.cell h1
 have HF:=hid (show ∀ s:Later w,Calls Tryz.prog 84 #[.pointer (some ⟨b,0,none⟩),.int .u64 (ep:Nat)] s.val fun e w'=>e = .returned (.int .i64 (2+ep % 2 * half D:Nat))∧Keep (fun _=>False) s.val w' from
  fun s=>(z7G s.val b d ep (half D) va vl sf en dead (s.keep.get H id) hhalf ep).mono fun e w' ⟨h1,h2⟩=>⟨h1,by rw[h2];exact Keep.refl _ _⟩)
 obtain⟨q,hq⟩:=zX1 (2+ep % 2 * half D)
 have hq2:q≤3000:=by
  have:ep % 2=0∨ep % 2=1:=by omega
  rcases this with h | h <;> rw[h] at hq <;> omega
 have hfi:WM.first D ep=q:=hq.symm;rw[hfi];rw[← hq] at HF;obtain⟨p,hp⟩:=zX1 (q+i);have e1:(q:Int)+(i:Int)=(p:Int):=by omega
 have e2:=wi64 p (by omega);rw[← hp]
 have HW:=hid (show ∀ s:Later w,Calls Tryz.prog 106 #[.pointer (some ⟨d,0,none⟩),.int .i64 (p:Nat),.slice ao 32 c] s.val fun e w'=>e = .returned (.int .i64 (DM.write D (p:Int) bs).1)∧DiskTo d Fd s.val (DM.write D (p:Int) bs).2 w' from
  fun s=>z8X s.val d Fd D (p:Int) ao 32 c bs (hD.keep s.keep fun _ _ x=>x) (hsrc.later s) (fun _=>hap) (by omega) (by decide) (by omega))
 clear hh H h0 h1 h2 h3 h4 h5 h6 h7 hf hb hx hsrc hap hD hq hp hfi;go_enter Tryz.func105,Tryz.ntmps105;go_wp2_with (at_builtin;refine z0A ?_;intro q hq)
 (refine z2L 13 (by kernel_rfl) (by kernel_rfl) ?_;simp only[List.take_succ_cons,List.take_zero,List.drop_succ_cons,List.drop_zero];(repeat (go_big_quiet_step ((go_at_call 84;exact Later.call (HF.out _)))));refine wpQuiet_nil ?_;rintro _ ⟨sq,rfl⟩)
 clear j0 j1 j2;go_wp2_with (at_builtin;refine z0A ?_;intro q hq);refine(HW.out sq).mono ?_;rintro e w2 ⟨rfl,ht⟩;have HT:=hid (ht.since sq.keep);clear ht;go_wp2_with (at_builtin;refine z0A ?_;intro q hq);go_ret;exact⟨rfl,HT.out⟩
theorem zqI (w:World) (b d ep:Nat) (Fd:Nat→Prop) (D:Dk) (va vl:Value) (sf en:Nat) (dead:Bool)
  (H:w.heap[b]?=some (.cells (z0N d ep (half D) va vl sf en dead) 164 (0,0))) (hD:DiskAt w d Fd D) (i:Nat) (hi:i<half D) (ao:Option Addr) (c:Nat) (bs:List UInt8) (hsrc:Cells w ao 32 1 (z0B bs))
  (hap:∀ x,ao=some x→¬ Fd x.block) (hfew:D.waits.length≤900000) :
  Calls Tryz.prog 153 #[.int .i64 (i:Nat),.slice ao 32 c,.pointer (some ⟨b,0,none⟩)] w fun e w'=>
   e = .returned (.int .i64 (DM.write D ((WM.first D ep+i:Nat):Int) bs).1)∧DiskTo d Fd w (DM.write D ((WM.first D ep+i:Nat):Int) bs).2 w':=by
 have hh:=H;unfold z0N at hh;obtain⟨h0,h1,h2,h3,h4,h5,h6,h7,hf,hb⟩:=z1F hh;have hfewD:=hD.ok.few;have hhalf:half D≤1023:=by unfold half;omega
 have j1:=fun s:Later w=>s.cell h0;have j2:=fun s:Later w=>s.cell h1
 have HF:=hid (show ∀ s:Later w,Calls Tryz.prog 84 #[.pointer (some ⟨b,0,none⟩),.int .u64 (ep:Nat)] s.val fun e w'=>e = .returned (.int .i64 (2+ep % 2 * half D:Nat))∧Keep (fun _=>False) s.val w' from
  fun s=>(z7G s.val b d ep (half D) va vl sf en dead (s.keep.get H id) hhalf ep).mono fun e w' ⟨h1,h2⟩=>⟨h1,by rw[h2];exact Keep.refl _ _⟩)
 obtain⟨q,hq⟩:=zX1 (2+ep % 2 * half D)
 have hq2:q≤3000:=by
  have:ep % 2=0∨ep % 2=1:=by omega
  rcases this with h | h <;> rw[h] at hq <;> omega
 have hfi:WM.first D ep=q:=hq.symm;rw[hfi];rw[← hq] at HF;obtain⟨p,hp⟩:=zX1 (q+i);have e1:(q:Int)+(i:Int)=(p:Int):=by omega
 have e2:=wi64 p (by omega);rw[← hp]
 have HW:=hid (show ∀ s:Later w,Calls Tryz.prog 106 #[.pointer (some ⟨d,0,none⟩),.int .i64 (p:Nat),.slice ao 32 c] s.val fun e w'=>e = .returned (.int .i64 (DM.write D (p:Int) bs).1)∧DiskTo d Fd s.val (DM.write D (p:Int) bs).2 w' from
  fun s=>z8X s.val d Fd D (p:Int) ao 32 c bs (hD.keep s.keep fun _ _ x=>x) (hsrc.later s) (fun _=>hap) (by omega) (by decide) (by omega))
 clear hh H h0 h1 h2 h3 h4 h5 h6 h7 hf hb hsrc hap hD hq hp hfi;go_enter Tryz.func153,Tryz.ntmps153;go_wp2_with (at_builtin;refine z0A ?_;intro q hq)
 (refine z2L 8 (by kernel_rfl) (by kernel_rfl) ?_;simp only[List.take_succ_cons,List.take_zero,List.drop_succ_cons,List.drop_zero];(repeat (go_big_quiet_step ((go_at_call 84;exact Later.call (HF.out _)))));refine wpQuiet_nil ?_;rintro _ ⟨sq,rfl⟩)
 clear j1 j2;go_wp2_with (at_builtin;refine z0A ?_;intro q hq);refine(HW.out sq).mono ?_;rintro e w2 ⟨rfl,ht⟩;have HT:=hid (ht.since sq.keep);clear ht;go_wp2_with (at_builtin;refine z0A ?_;intro q hq);go_ret;exact⟨rfl,HT.out⟩
theorem z3K (D:Dk) (a:Int) (b:Sec):(DM.write D a b).2.safe.length=D.safe.length:=by
 unfold DM.write;split
 ·rfl
 ·split
  ·rfl
  ·split
   ·show (act D).2.safe.length=_;rw[z1P]
   ·rw[z1P]
theorem z2Y (D:Dk) (a:Int) (b:Sec):(DM.write D a b).2.waits.length≤D.waits.length+1:=by
 unfold DM.write;split
 ·simp
 ·split
  ·simp
  ·split
   ·show ((act D).2.waits ++ [_]).length≤_;rw[z1V,List.length_append];simp
   ·rw[z1V];simp
theorem z3J {D D':Dk} (h:D'.safe.length=D.safe.length):half D'=half D:=by unfold half;rw[h]
theorem z5L {D D':Dk} (h:D'.safe.length=D.safe.length) (ep:Nat):WM.first D' ep=WM.first D ep:=by unfold WM.first;rw[z3J h]
theorem DiskTo.next {d:Nat} {Fd F1:Nat→Prop} {w w1 w2:World} {D2:Dk} (hk:Keep Fd w w1) (hF:∀ k,F1 k→Fd k∨w.heap.size≤k) (h:DiskTo d F1 w1 D2 w2):DiskTo d Fd w D2 w2:=by
 obtain⟨F2,h1,h2,h3⟩:=h;exact⟨F2,h1,hk.next h2 (fun _ _ x=>x) (fun k hk' x=>(hF k x).elim id fun y=>by omega),fun k x=>(h3 k x).elim (hF k) fun y=>.inr (Nat.le_trans hk.size y)⟩
theorem zlP (w:World) (b d fn ga ca:Nat) (caps:Array Value) (ep fr lo hi en:Nat) (Fd:Nat→Prop) (D:Dk) (bs:List UInt8) (hD:DiskAt w d Fd D)
  (hlo:lo=fr / 32) (hk:∀ i,i * 32<en↔i<hi) (hkl:lo≤hi) (hn:hi≤half D) (hen:en≤32 * half D)
  (hb:¬ Fd b) (hga:¬ Fd ga) (hc:w.cell? ⟨b,3,none⟩=some (.slice (some ⟨ga,0,none⟩) (32 * half D) ca)) (hrow:Row w 5 1 (.slice (some ⟨ga,0,none⟩) (32 * half D) ca) (32 * half D) (z0B bs))
  (hent:∀ args w,(callFunc fn args).run Tryz.prog w = .ok (.enter fn args) w) (hfew:D.waits.length≤800000)
  (hfn:∀ (wr:World) (F':Nat→Prop) (D':Dk),Keep Fd w wr→DiskAt wr d F' D'→(∀ k,F' k→Fd k∨w.heap.size≤k)→D'.safe.length=D.safe.length→D'.waits.length≤900000→
   ∀ (i:Nat) (_:i<half D) (ao:Option Addr) (c:Nat) (s:List UInt8),Cells wr ao 32 1 (z0B s)→(∀ x,ao=some x→¬ F' x.block)→
    Calls Tryz.prog fn (#[.int .i64 (i:Nat),.slice ao 32 c] ++ caps) wr fun e w'=>e = .returned (.int .i64 (DM.write D' ((WM.first D ep+i:Nat):Int) s).1)∧DiskTo d F' wr (DM.write D' ((WM.first D ep+i:Nat):Int) s).2 w') :
  Calls Tryz.prog 104 #[.pointer (some ⟨b,0,none⟩),.int .i64 (fr:Nat),.int .i64 (en:Nat),.func (.func fn) #[] caps] w fun e w'=>
   e = .returned (.int .i64 (lay ep bs lo (hi - lo) D).1)∧DiskTo d Fd w (lay ep bs lo (hi - lo) D).2 w':=by
 have hfewD:=hD.ok.few;have hhalf:half D≤1023:=by unfold half;omega
 obtain⟨ad,cap,had,hcap1,hcap2,-,-⟩:=hrow.form;simp at had;obtain⟨rfl,rfl⟩:=had;have hlt:=hrow.lt (k:=ga) (by simp[Value.ownBlock]);have hblt:b<w.heap.size:=World.block_lt_of_cell? w _ hc
 refine(ziQ w b fn caps fr lo hi en (32 * half D) ca (.slice (some ⟨ga,0,none⟩) (32 * half D) ca)
  (fun i wr=>lo≤i∧i≤hi∧∃ F' D',lay ep bs lo (hi - lo) D=lay ep bs i (hi - i) D'∧Keep Fd w wr∧DiskAt wr d F' D'∧(∀ k,F' k→Fd k∨w.heap.size≤k)∧D'.safe.length=D.safe.length∧D'.waits.length≤D.waits.length+(i - lo))
  (fun c wr=>c=(lay ep bs lo (hi - lo) D).1∧DiskTo d Fd w (lay ep bs lo (hi - lo) D).2 wr)
  hlo hk hkl (by omega) hcap1 hcap2 (by have h1:=(hk lo);omega) hen (by omega) (some ⟨ga,0,none⟩) rfl ?_ ?_ hent ?_).mono ?_
 ·rintro i wr ⟨_,_,F',D',_,hkp,_⟩
  rw[World.cell?_of_block (hkp.block b hblt hb)];exact hc
 ·exact⟨Nat.le_refl _,hkl,Fd,D,rfl,Keep.refl _ _,hD,fun _ x=>.inl x,rfl,by omega⟩
 ·rintro i wr hi1 hi2 ⟨_,_,F',D',hl,hkp,hD',hF',hs',hw'⟩
  have hrow':=hrow.keep hkp fun k e=>by simp[Value.ownBlock] at e;subst e;exact hga
  have hcs:=(Cells.tail (Cells.of_row hrow') (i * 32) (by omega) hcap1 (by decide)).take 32 (by omega)
  have hsec:List.take (32 * 1) (List.drop (i * 32 * 1) (z0B bs))=z0B (z0Q bs i):=by
   unfold z0Q;simp[z0B,List.map_take,List.map_drop,Nat.mul_comm]
  rw[hsec] at hcs;refine(hfn wr F' D' hkp hD' hF' hs' (by omega) i (by omega) _ (ca - i * 32) (z0Q bs i) hcs ?_).mono ?_
  ·intro x hx hx2
   have hbl:x.block=ga:=by
    unfold z1E at hx;split at hx
    ·cases hx;rfl
    ·simp at hx;subst hx;unfold Addr.add;split <;> rfl
   rw[hbl] at hx2
   rcases hF' _ hx2 with y | y
   ·exact hga y
   ·omega
  ·rintro e w' ⟨rfl,ht⟩
   obtain⟨j,hj⟩:∃ j,hi - i=j+1:=⟨hi - i - 1,by omega⟩
   have hst:lay ep bs i (hi - i) D'=if (DM.write D' ((WM.first D ep+i:Nat):Int) (z0Q bs i)).1=0 then lay ep bs (i+1) j (DM.write D' ((WM.first D ep+i:Nat):Int) (z0Q bs i)).2 else DM.write D' ((WM.first D ep+i:Nat):Int) (z0Q bs i):=by
    rw[hj,lay,z5L hs']
   refine⟨_,rfl,fun h0=>?_,fun h0=>?_⟩
   ·obtain⟨F2,h1,h2,h3⟩:=DiskTo.next hkp hF' ht
    refine⟨by omega,by omega,F2,_,?_,h2,h1,h3,by rw[z3K];exact hs',by have:=z2Y D' ((WM.first D ep+i:Nat):Int) (z0Q bs i);omega⟩;rw[hl,hst,if_pos h0,show hi - (i+1)=j by omega]
   ·rw[if_neg h0] at hst
    exact⟨by rw[hl,hst],by rw[hl,hst];exact DiskTo.next hkp hF' ht⟩
 ·rintro e w' ⟨c,rfl,h1,h2⟩
  by_cases h0:c=0
  ·obtain⟨_,_,F',D',hl,hkp,hD',hF',_,_⟩:=h1 h0
   rw[Nat.sub_self] at hl;subst h0;rw[hl];exact⟨rfl,F',hD',hkp,hF'⟩
  ·obtain⟨rfl,h3⟩:=h2 h0
   exact⟨rfl,h3⟩
end
end Go.Proofs.YtkjofdocgaiedaaGreat
