/- Texts AccY, AcdN, AccZ, AcdO, StpN, AcdB, AcdP in one. Conditions: as each law names them. -/
import Derived.Test.YtkjofdocgaiedaaGreatUah
import Derived.Test.YtkjofdocgaiedaaGreatUba
import Derived.Test.YtkjofdocgaiedaaGreatUbb
import Derived.Test.YtkjofdocgaiedaaGreatUbd
import Derived.Test.YtkjofdocgaiedaaGreatUbe
import Derived.Test.YtkjofdocgaiedaaGreatUbf
set_option maxRecDepth 20000
set_option maxHeartbeats 8000000
namespace Go.Proofs.YtkjofdocgaiedaaGreat
section
open Go.RowKit Go.Maps
open MI SO BM DM WM AC
def AccPost (a d:Nat) (F:Nat→Prop) (w:World) (R:(Bal×Int)×Dk×Ac) (e:Ending) (w':World):Prop:=
 ∃ F',e = .returned (.tuple #[balV R.1.1,.int .i64 R.1.2])∧AcT a d R.2.1 R.2.2 w' F'∧Keep F w w'∧∀ i,F' i→F i∨w.heap.size≤i
theorem z8V {a d:Nat} {D:Dk} {A:Ac} {F:Nat→Prop} {w w2:World} {g:Nat} {x0 x1:Value} (hT:AcT a d D A w F) (hk:Keep (fun _=>False) w w2) (hg:w.heap.size≤g) (h:w2.heap[g]?=some (.cells #[x0,x1] 28 (0,0))) (B:Bal) (c:Int) :
  (∀ j u,[Value.int .u64 (B.n:Int),.int .i64 B.node][j]?=some u→((w2.setCell ⟨g,0,none⟩ (.int .u64 (B.n:Int))).setCell ⟨g,1,none⟩ (.int .i64 B.node)).cell? ⟨g,j,none⟩=some u)∧
  AccPost a d F w ((B,c),D,A) (.returned (.tuple #[balV B,.int .i64 c])) ((w2.setCell ⟨g,0,none⟩ (.int .u64 (B.n:Int))).setCell ⟨g,1,none⟩ (.int .i64 B.node)):=by
 obtain⟨g1,g2,-⟩:=z3Z w2 g _ _ h (.int .u64 (B.n:Int)) (.int .i64 B.node);obtain⟨h1,h2,h3⟩:=Turns.shut0 (AcT.lives a d D A) hT hk hg g2;exact⟨g1,F,rfl,h1,h2,h3⟩
theorem zdR {a d:Nat} {D:Dk} {A:Ac} {F F9:Nat→Prop} {w w9:World} {g B:Nat} {x0 x1:Value} (hT:AcT a d D A w9 F9) (hk:Keep F w w9) (hF:∀ i,F i→i<w.heap.size) (h9:∀ i,F9 i→F i∨B≤i) (hgB:g<B) (hg:w.heap.size≤g)
  (h:w9.heap[g]?=some (.cells #[x0,x1] 28 (0,0))) (b:Bal) (c:Int) :
  (∀ j u,[Value.int .u64 (b.n:Int),.int .i64 b.node][j]?=some u→((w9.setCell ⟨g,0,none⟩ (.int .u64 (b.n:Int))).setCell ⟨g,1,none⟩ (.int .i64 b.node)).cell? ⟨g,j,none⟩=some u)∧
  AccPost a d F w ((b,c),D,A) (.returned (.tuple #[balV b,.int .i64 c])) ((w9.setCell ⟨g,0,none⟩ (.int .u64 (b.n:Int))).setCell ⟨g,1,none⟩ (.int .i64 b.node)):=by
 obtain⟨g1,g2,-⟩:=z3Z w9 g _ _ h (.int .u64 (b.n:Int)) (.int .i64 b.node);obtain⟨h1,h2,h3⟩:=Turns.shut (AcT.lives a d D A) hT hk hF h9 hgB hg g2;exact⟨g1,F9,rfl,h1,h2,h3⟩
theorem zpQ (w:World) (v:Vt) (hb:(AC.putB v.bal).length≤maxLen) (hv:(AC.putB v.bal ++ v.val).length≤maxLen) :
  Chs (w.alloc (.cells #[.string (str pK),.string (str (AC.putB v.bal)),.bool false,.string (str (keyS v.slot)),.string (str (AC.putB v.bal ++ v.val)),.bool false] 63)) (.slice (some ⟨w.heap.size,0,none⟩) 2 2) (z4X v):=
 Chs.of_row ⟨rfl,.inr ⟨_,2,_,(0,0),rfl,heap_alloc_new w _,Free.zero _,Nat.le_refl _,by decide,rfl,rfl⟩⟩ (fun c hc=>by
  unfold z4X at hc;simp only[List.mem_cons,List.not_mem_nil,or_false] at hc
  rcases hc with rfl | rfl
  ·exact⟨show pK.length≤maxLen by decide,hb⟩
  ·exact⟨show (keyS v.slot).length≤maxLen by rw[z6B];decide,hv⟩)
abbrev zfK (v:Vt) (u:Value):Array Value:=#[.int .u64 (v.slot:Int),.int .u64 (v.bal.n:Int),.int .i64 v.bal.node,u]
theorem zdM (w:World) (a d:Nat) (D:Dk) (A:Ac) (F:Nat→Prop) (H:AcT a d D A w F) (hO:AOk A) (hm:A.s.dead=false→A.s.ps.length≤900000) (hfew:D.waits.length≤490000) (v:Vt) (hn:v.bal.n<18446744073709551616) (hs:v.slot<18446744073709551616)
  (ua:Option Addr) (uc:Nat) (hc:Cells w ua v.val.length 1 (z0B v.val)) (hua:0<v.val.length→∀ x,ua=some x→¬ F x.block) :
  Calls Tryz.prog 10 #[.pointer (some ⟨a,0,none⟩),.agg (zfK v (.slice ua v.val.length uc))] w (AccPost a d F w (z0O D A v)):=by
 obtain⟨Post,hPost⟩:=zX1 (AccPost a d F w (z0O D A v));rw[← hPost];obtain⟨vl,hvl⟩:=zX1 (v.val.length);rw[← hvl] at hc hua ⊢;have hn1:=heap_alloc_new w (.cells (zfK v (.slice ua vl uc)) 31);have hk1:=kal w (.cells (zfK v (.slice ua vl uc)) 31);have hz1:(w.alloc (.cells (zfK v (.slice ua vl uc)) 31)).heap.size=w.heap.size+1:=by simp
 have hn2:=heap_alloc_new (w.alloc (.cells (zfK v (.slice ua vl uc)) 31)) (.cells #[.int .u64 0,.int .i64 0] 28);have hk2:Keep (fun _=>False) (w.alloc (.cells (zfK v (.slice ua vl uc)) 31)) ((w.alloc (.cells (zfK v (.slice ua vl uc)) 31)).alloc (.cells #[.int .u64 0,.int .i64 0] 28)):=(Keep.refl _ _).alloc _;rw[hz1] at hn2;have hn1b:=hk2.get hn1 id;have hk:=hk1.nx hk2;clear hk1 hk2 hn1 hz1;have HP:=hid hPost;have H0:=hid (zA1 H (zA1 hO (zA1 hm (zA1 hfew (zA1 hn (zA1 hs (zA1 hc (zA1 hua hvl))))))));clear hPost H hO hm hfew hn hs hc hua hvl;go_enter Tryz.func10,Tryz.ntmps10
 go_upto_region 1 with fail
 obtain⟨w1,hw1⟩:=zX1 ((w.alloc (.cells (zfK v (.slice ua vl uc)) 31)).alloc (.cells #[.int .u64 0,.int .i64 0] 28));rw[← hw1] at hn2 hn1b hk ⊢;clear hw1;obtain⟨sb,nv,X,Y,Z,hbox,hst,hvt,d1,d2,d3,hF⟩:=(AcT.lives a d D A).keep H0.out.1 hk (fun _ _ x=>x);obtain⟨p0,p1,p2,p3,p4,pf,pb⟩:=z2C hbox.1;obtain⟨b0,b1,b2,b3,bf,bb⟩:=z5F hn1b;have hrt:=z9Q w1 v.bal;have H1:=hid (zA1 hn2 (zA1 hk (zA1 hn1b (zA1 hbox (zA1 hst (zA1 hvt (zA1 d1 (zA1 d2 (zA1 d3 hF)))))))));clear hn2 hk hn1b hbox hst hvt d1 d2 d3 hF p0 p3 pf bf bb;obtain⟨rb,hrb⟩:=zX1 (z2Z v.bal);rw[← hrb] at hrt
 have hbad:(z6F v=false∧(rb=false∨(rb=true∧v.slot=0)∨(rb=true∧v.slot≠0∧100<vl)))∨(z6F v=true∧rb=true∧v.slot≠0∧vl≤100):=by
  unfold z6F;rw[← hrb,← H0.out.2.2.2.2.2.2.2.2]
  cases rb with
  | false=>exact .inl ⟨rfl,.inl rfl⟩
  | true=>
    by_cases h0:v.slot=0
    ·exact .inl ⟨by simp[h0],.inr (.inl ⟨rfl,h0⟩)⟩
    ·by_cases h1:vl≤100
     ·exact .inr ⟨by simp[h0,h1],rfl,h0,h1⟩
     ·exact .inl ⟨by simp[h1],.inr (.inr ⟨rfl,h0,by omega⟩)⟩
 have HR:=hid hrb;clear hrb;obtain⟨sl,hsl⟩:=zX1 (v.slot);rw[← hsl] at b0 hbad;have HSl:=hid hsl;clear hsl
 rcases hbad with ⟨hbad,hcs⟩ | ⟨hgood,rfl,hs0,hl1⟩
 ·have HB:=hid hbad
  clear hbad p1 p2 p4
  rcases hcs with rfl | ⟨rfl,hs0⟩ | ⟨rfl,hs0,hl1⟩
  ·go_wp2_with (at_builtin;refine z0A ?_;intro q hq)
   refine hrt.mono ?_;rintro e w2 ⟨rfl,hk2⟩;clear hrt;have r0:=hk2.get H1.out.1 id;have b0:=z0E hk2 _ _ b0;have b3:=z0E hk2 _ _ b3;have d0:w2.cell? ⟨w.heap.size+1,0,none⟩=some (.int .u64 0):=by simp[World.cell?,r0]
   have d1:w2.cell? ⟨w.heap.size+1,1,none⟩=some (.int .i64 0):=by simp[World.cell?,r0]
   have f0:∀ o,w2.frozen? ⟨w.heap.size+1,o,none⟩=false:=fun o=>by simp[World.frozen?,r0]
   have HK:=hid (zA1 hk2 r0);clear hk2 r0;go_wp2_with (at_builtin;refine z0A ?_;intro q hq);obtain⟨q1,q2⟩:=z8V H0.out.1 (H1.out.2.1.nx HK.out.1) (Nat.le_succ _) HK.out.2 Bal.zero 2;refine bodyPost_ret (z2E rfl _ _ (w.heap.size+1) rfl _ q1 _ Tryz.underlying28 rfl (by kernel_rfl)) rfl ?_;rw[HP.out,show z0O D A v=((Bal.zero,2),D,A) by unfold z0O;rw[if_pos HB.out]];exact q2
  ·subst hs0
   go_wp2_with (at_builtin;refine z0A ?_;intro q hq);refine hrt.mono ?_;rintro e w2 ⟨rfl,hk2⟩;clear hrt;have r0:=hk2.get H1.out.1 id;have b0:=z0E hk2 _ _ b0;have b3:=z0E hk2 _ _ b3;have d0:w2.cell? ⟨w.heap.size+1,0,none⟩=some (.int .u64 0):=by simp[World.cell?,r0]
   have d1:w2.cell? ⟨w.heap.size+1,1,none⟩=some (.int .i64 0):=by simp[World.cell?,r0]
   have f0:∀ o,w2.frozen? ⟨w.heap.size+1,o,none⟩=false:=fun o=>by simp[World.frozen?,r0]
   have HK:=hid (zA1 hk2 r0);clear hk2 r0;go_wp2_with (at_builtin;refine z0A ?_;intro q hq);obtain⟨q1,q2⟩:=z8V H0.out.1 (H1.out.2.1.nx HK.out.1) (Nat.le_succ _) HK.out.2 Bal.zero 2;refine bodyPost_ret (z2E rfl _ _ (w.heap.size+1) rfl _ q1 _ Tryz.underlying28 rfl (by kernel_rfl)) rfl ?_;rw[HP.out,show z0O D A v=((Bal.zero,2),D,A) by unfold z0O;rw[if_pos HB.out]];exact q2
  ·have t1:((sl:Int) == 0)=false:=by simp;omega
   have t2:(100:Int)<(vl:Int):=by omega
   have t3:decide (sl=0)=false:=decide_eq_false hs0;clear hs0;go_wp2_with (at_builtin;refine z0A ?_;intro q hq);refine hrt.mono ?_;rintro e w2 ⟨rfl,hk2⟩;clear hrt;have r0:=hk2.get H1.out.1 id;have b0:=z0E hk2 _ _ b0;have b3:=z0E hk2 _ _ b3;have d0:w2.cell? ⟨w.heap.size+1,0,none⟩=some (.int .u64 0):=by simp[World.cell?,r0]
   have d1:w2.cell? ⟨w.heap.size+1,1,none⟩=some (.int .i64 0):=by simp[World.cell?,r0]
   have f0:∀ o,w2.frozen? ⟨w.heap.size+1,o,none⟩=false:=fun o=>by simp[World.frozen?,r0]
   have HK:=hid (zA1 hk2 r0);clear hk2 r0;go_wp2_with (at_builtin;refine z0A ?_;intro q hq);obtain⟨q1,q2⟩:=z8V H0.out.1 (H1.out.2.1.nx HK.out.1) (Nat.le_succ _) HK.out.2 Bal.zero 2;refine bodyPost_ret (z2E rfl _ _ (w.heap.size+1) rfl _ q1 _ Tryz.underlying28 rfl (by kernel_rfl)) rfl ?_;rw[HP.out,show z0O D A v=((Bal.zero,2),D,A) by unfold z0O;rw[if_pos HB.out]];exact q2
 ·have t1:((sl:Int) == 0)=false:=by simp;omega
  have t2:decide ((100:Int)<(vl:Int))=false:=by simp;omega
  have t3:decide (sl=0)=false:=decide_eq_false hs0;have t4:decide (100<vl)=false:=decide_eq_false (by omega);have HG:=hid (zA1 hgood (zA1 hs0 hl1));clear hgood hs0 hl1;go_wp2_with (at_builtin;refine z0A ?_;intro q hq);refine hrt.mono ?_;rintro e w2 ⟨rfl,hk2⟩;clear hrt;have b0:=z0E hk2 _ _ b0;have b1:=z0E hk2 _ _ b1;have b2:=z0E hk2 _ _ b2;have b3:=z0E hk2 _ _ b3;have p1:=z0E hk2 _ _ p1;have p2:=z0E hk2 _ _ p2;have p4:=z0E hk2 _ _ p4;have r0:=hk2.get H1.out.1 id;obtain⟨dd,hdd⟩:=zX1 (A.s.dead);rw[← hdd] at p4;have HD:=hid hdd;clear hdd
  cases dd with
  | true=>
    have d0:w2.cell? ⟨w.heap.size+1,0,none⟩=some (.int .u64 0):=by simp[World.cell?,r0]
    have d1:w2.cell? ⟨w.heap.size+1,1,none⟩=some (.int .i64 0):=by simp[World.cell?,r0]
    have f0:∀ o,w2.frozen? ⟨w.heap.size+1,o,none⟩=false:=fun o=>by simp[World.frozen?,r0]
    have HK:=hid (zA1 hk2 r0);clear hk2 r0;go_wp2_with (at_builtin;refine z0A ?_;intro q hq);obtain⟨q1,q2⟩:=z8V H0.out.1 (H1.out.2.1.nx HK.out.1) (Nat.le_succ _) HK.out.2 Bal.zero 6;refine bodyPost_ret (z2E rfl _ _ (w.heap.size+1) rfl _ q1 _ Tryz.underlying28 rfl (by kernel_rfl)) rfl ?_;rw[HP.out,show z0O D A v=((Bal.zero,6),D,A) by unfold z0O;rw[if_neg (by rw[HG.out.1];decide),if_pos HD.out.symm]];exact q2
  | false=>
    obtain⟨lb,hlb⟩:=zX1 (less v.bal A.b);have HL1:=hid (fun s:Later w2=>show Calls Tryz.prog 36 #[balV v.bal,balV A.b] s.val fun e w'=>e = .returned (.bool lb)∧Keep (fun _=>False) s.val w' from by rw[hlb];exact z8F s.val v.bal A.b);have HLB:=hid hlb;have HK:=hid hk2;clear hlb hk2 r0
    go_upto_region 7 with fail
    clear t1 t2 t3 t4;have j0:=fun s:Later w2=>s.cell b1;have j1:=fun s:Later w2=>s.cell b2;have j2:=fun s:Later w2=>s.cell p1;have j3:=fun s:Later w2=>s.cell p2
    (refine z0X (by kernel_rfl) (by kernel_rfl) ?_;(repeat (go_big_quiet_step ((go_at_call 36;exact Later.call (HL1.out _)))));refine wpQuiet_nil ?_;rintro _ ⟨sq,rfl⟩)
    have hk3:=sq.keep;obtain⟨w3,hw3⟩:=zX1 (sq.val);rw[← hw3] at hk3 ⊢;clear hw3 sq j0 j1 j2 j3 HL1;have p1:=z0E hk3 _ _ p1;have p2:=z0E hk3 _ _ p2;have HK:=hid (HK.out.nx hk3);have r0:=HK.out.get H1.out.1 id
    cases lb with
    | true=>
      have d0:w3.cell? ⟨w.heap.size+1,0,none⟩=some (.int .u64 0):=by simp[World.cell?,r0]
      have d1:w3.cell? ⟨w.heap.size+1,1,none⟩=some (.int .i64 0):=by simp[World.cell?,r0]
      have f0:∀ o,w3.frozen? ⟨w.heap.size+1,o,none⟩=false:=fun o=>by simp[World.frozen?,r0]
      have R0:=hid r0;clear r0 b0 b1 b2 b3 p4 hk3;go_wp2_with (at_builtin;refine z0A ?_;intro q hq);obtain⟨q1,q2⟩:=z8V H0.out.1 (H1.out.2.1.nx HK.out) (Nat.le_succ _) R0.out A.b 90;refine bodyPost_ret (z2E rfl _ _ (w.heap.size+1) rfl _ q1 _ Tryz.underlying28 rfl (by kernel_rfl)) rfl ?_;rw[HP.out,show z0O D A v=((A.b,90),D,A) by unfold z0O;rw[if_neg (by rw[HG.out.1];decide),if_neg (by rw[← HD.out];decide),if_pos HLB.out.symm]];exact q2
    | false=>
      have x1:w3.drew.cell? ⟨w.heap.size,0,none⟩=some (.int .u64 (sl:Int))∧w3.drew.cell? ⟨w.heap.size,1,none⟩=some (.int .u64 (v.bal.n:Int))∧w3.drew.cell? ⟨w.heap.size,2,none⟩=some (.int .i64 v.bal.node)∧w3.drew.cell? ⟨w.heap.size,3,none⟩=some (.slice ua vl uc):=
       ⟨z0E hk3 _ _ b0,z0E hk3 _ _ b1,z0E hk3 _ _ b2,z0E hk3 _ _ b3⟩
      have hkd:Keep (fun _=>False) w1 w3.drew:=HK.out.drew;have HK:=hid hkd;clear hkd hk3 r0 b0 b1 b2 b3 p1 p2 p4
      go_upto_region 9 with fail
      have hOb:OkB v.bal:=⟨HR.out.symm,H0.out.2.2.2.2.1⟩;obtain⟨pv,hpv⟩:=zX1 (zqR v.bal);have hpr:=zgE w3.drew v.bal hOb;unfold zqR at hpr;obtain⟨w3d,hw3d⟩:=zX1 (w3.drew);refine Held.z3S (fun w'=>w'.cell? ⟨w.heap.size,0,none⟩=some (.int .u64 (sl:Int))∧w'.cell? ⟨w.heap.size,1,none⟩=some (.int .u64 (v.bal.n:Int))∧w'.cell? ⟨w.heap.size,2,none⟩=some (.int .i64 v.bal.node)∧w'.cell? ⟨w.heap.size,3,none⟩=some (.slice ua vl uc)) [60] [49,52,55,58] (by kernel_rfl) (by kernel_rfl) ?_;rw[← hw3d] at x1 hpr HK ⊢;clear hw3d hpv pv
      repeat (apply Held.z0F (by rfl) (by exact x1);(intro K w' hS;(try dsimp only at hS);go_simp;exact id))
      refine Held.z0M (by decide) (by rfl) (by exact x1) (fun K hK=>?_);go_simp;refine hpr.mono ?_;rintro e w4 ⟨rfl,hk4⟩;have x2:w4.cell? ⟨w.heap.size,0,none⟩=some (.int .u64 (sl:Int))∧w4.cell? ⟨w.heap.size,1,none⟩=some (.int .u64 (v.bal.n:Int))∧w4.cell? ⟨w.heap.size,2,none⟩=some (.int .i64 v.bal.node)∧w4.cell? ⟨w.heap.size,3,none⟩=some (.slice ua vl uc):=⟨z0E hk4 _ _ x1.1,z0E hk4 _ _ x1.2.1,z0E hk4 _ _ x1.2.2.1,z0E hk4 _ _ x1.2.2.2⟩;have HK4:=hid (HK.out.nx hk4);have hke:=zqE w4 sl (by rw[HSl.out];exact H0.out.2.2.2.2.2.1);go_simp;refine hK _ _ (fun h=>by cases h) (fun _=>x2) ?_;clear hK K x1 hpr hk4 HK
      repeat (apply Held.z0F (by rfl) (by exact x2);(intro K w' hS;(try dsimp only at hS);go_simp;exact id))
      refine Held.z0M (by decide) (by rfl) (by exact x2) (fun K hK=>?_);go_simp;refine hke.mono ?_;rintro e w5 ⟨rfl,hk5⟩;have x3:w5.cell? ⟨w.heap.size,0,none⟩=some (.int .u64 (sl:Int))∧w5.cell? ⟨w.heap.size,1,none⟩=some (.int .u64 (v.bal.n:Int))∧w5.cell? ⟨w.heap.size,2,none⟩=some (.int .i64 v.bal.node)∧w5.cell? ⟨w.heap.size,3,none⟩=some (.slice ua vl uc):=⟨z0E hk5 _ _ x2.1,z0E hk5 _ _ x2.2.1,z0E hk5 _ _ x2.2.2.1,z0E hk5 _ _ x2.2.2.2⟩;have HK5:=hid (HK4.out.nx hk5);have hpu:=ziT w5 v.bal hOb;go_simp;refine hK _ _ (fun h=>by cases h) (fun _=>x3) ?_;clear hK K x2 hke hk5 HK4
      repeat (apply Held.z0F (by rfl) (by exact x3);(intro K w' hS;(try dsimp only at hS);go_simp;exact id))
      refine Held.z0M (by decide) (by rfl) (by exact x3) (fun K hK=>?_);go_simp;refine hpu.mono ?_;rintro e w6 ⟨v6,rfl,hf6⟩;have x4:w6.cell? ⟨w.heap.size,0,none⟩=some (.int .u64 (sl:Int))∧w6.cell? ⟨w.heap.size,1,none⟩=some (.int .u64 (v.bal.n:Int))∧w6.cell? ⟨w.heap.size,2,none⟩=some (.int .i64 v.bal.node)∧w6.cell? ⟨w.heap.size,3,none⟩=some (.slice ua vl uc):=⟨z0E hf6.keep _ _ x3.1,z0E hf6.keep _ _ x3.2.1,z0E hf6.keep _ _ x3.2.2.1,z0E hf6.keep _ _ x3.2.2.2⟩;have HF6:=hid hf6;clear hf6;go_simp;refine hK _ _ (fun h=>by cases h) (fun _=>x4) ?_;clear hK K hpu
      repeat (apply Held.z0F (by rfl) (by exact x4);(intro K w' hS;(try dsimp only at hS);go_simp;exact id))
      refine Held.z0M (by decide) (by rfl) (by exact x4) (fun K hK=>?_);have hcs:=((H0.out.2.2.2.2.2.2.1.keep H1.out.2.1 (fun _ _ x=>x)).keep HK5.out (fun _ _ x=>x)).keep HF6.out.keep (fun _ _ x=>x);refine z0K _ _ rfl rfl HF6.out ua vl uc rfl hcs (by have h1:=AC.putB_len v.bal;have:=HG.out.2.2;omega) ?_;intro v7 w7 hf7 hk7;have hwb:w.heap.size<w5.heap.size:=World.block_lt_of_cell? w5 _ x3.1;have x5:w7.cell? ⟨w.heap.size,0,none⟩=some (.int .u64 (sl:Int))∧w7.cell? ⟨w.heap.size,1,none⟩=some (.int .u64 (v.bal.n:Int))∧w7.cell? ⟨w.heap.size,2,none⟩=some (.int .i64 v.bal.node)∧w7.cell? ⟨w.heap.size,3,none⟩=some (.slice ua vl uc):=⟨z0E hf7.keep _ _ x3.1,z0E hf7.keep _ _ x3.2.1,z0E hf7.keep _ _ x3.2.2.1,z0E hf7.keep _ _ x3.2.2.2⟩;refine hK _ _ (fun h=>by cases h) (fun _=>x5) ?_;clear hK K hcs hk7 x4 HF6;obtain⟨a7,c7,rfl,-⟩:=hf7.row.form;have hcv:=z3C (P:=Tryz.prog) Tryz.underlying29 Tryz.underlying5 Tryz.underlying9 (c:=c7) (Cells.of_row hf7.row);obtain⟨L,hL⟩:=zX1 ((AC.putB v.bal ++ v.val).length);rw[← hL] at hcv ⊢;have HK7:=hid (zA1 (HK5.out.nx hf7.keep) hL);clear hf7 hL x3 HK5
      repeat (apply Held.z0F (by rfl) (by exact x5);(intro K w' hS;(try dsimp only at hS);go_simp;exact id))
      refine Held.z0M (by decide) (by rfl) (by exact x5) (fun K hK=>?_);go_simp;refine hK _ _ (fun _=>Pre.refl _) (fun _=>x5) ?_;clear hK K hcv
      repeat (apply Held.z0F (by rfl) (by exact x5);(intro K w' hS;(try dsimp only at hS);go_simp;exact id))
      refine Held.z0M (by decide) (by rfl) (by exact x5) (fun K hK=>?_);go_simp;have hk8:=kal w7 (.cells #[.string (str pK),.string (str (AC.putB v.bal)),.bool false,.string (str (keyS sl)),.string (str (AC.putB v.bal ++ v.val)),.bool false] 63);have hch:=zpQ w7 v (by have:=AC.putB_len v.bal;unfold maxLen;omega) (by have h1:=AC.putB_len v.bal;have h2:=HG.out.2.2;have h3:=H0.out.2.2.2.2.2.2.2.2;rw[List.length_append];unfold maxLen;omega);rw[← HSl.out] at hch;obtain⟨w8,hw8⟩:=zX1 (w7.alloc (.cells #[.string (str pK),.string (str (AC.putB v.bal)),.bool false,.string (str (keyS sl)),.string (str (AC.putB v.bal ++ v.val)),.bool false] 63));rw[← hw8] at hk8 hch;have x6:w8.cell? ⟨w.heap.size,0,none⟩=some (.int .u64 (sl:Int))∧w8.cell? ⟨w.heap.size,1,none⟩=some (.int .u64 (v.bal.n:Int))∧w8.cell? ⟨w.heap.size,2,none⟩=some (.int .i64 v.bal.node)∧w8.cell? ⟨w.heap.size,3,none⟩=some (.slice ua vl uc):=⟨z0E hk8 _ _ x5.1,z0E hk8 _ _ x5.2.1,z0E hk8 _ _ x5.2.2.1,z0E hk8 _ _ x5.2.2.2⟩;have hk18:=HK7.out.1.nx hk8;refine hK _ _ (fun _=>Pre.push _ rfl) (fun _=>by rw[← hw8];exact x6) ?_;rw[← hw8];clear hK K x5 hk8 hw8
      repeat (apply Held.z0F (by rfl) (by exact x6);(intro K w' hS;(try dsimp only at hS);go_simp;exact id))
      have hFl:=(AcT.lives a d D A).lt H0.out.1;have hT8:=(TrioT.lives (BoxA.lives a (accC sb A.b nv A.s.dead) 86) (StoT.lives sb d D A.s) (VotesT.lives nv A.vs)).keep (show TrioT (BoxA a (accC sb A.b nv A.s.dead) 86) (StoT sb d D A.s) (VotesT nv A.vs) w1 F from⟨X,Y,Z,H1.out.2.2.2.1,H1.out.2.2.2.2.1,H1.out.2.2.2.2.2.1,H1.out.2.2.2.2.2.2.1,H1.out.2.2.2.2.2.2.2.1,H1.out.2.2.2.2.2.2.2.2.1,H1.out.2.2.2.2.2.2.2.2.2⟩) hk18 (fun _ _ x=>x)
      have hdo:=zmA w8 a sb d A.b nv A.vs D A.s F hT8 (some ⟨w7.heap.size,0,none⟩) 2 2 (z4X v) hch rfl (fun _ x hx y=>by
       cases hx;have h1:=hFl _ y;have h2:=HK7.out.1.size;have h3:=H1.out.2.1.size;simp only at h1
       omega) H0.out.2.2.1 H0.out.2.2.2.1
      have hcs:=z6U (D:=D) HD.out.symm (z4X v);obtain⟨E,hE⟩:=zX1 (doA D A.s (z4X v));rw[← hE] at hdo hcs;have HE:=hid (zA1 hE (zA1 hcs (zA1 hk18 hFl)));clear hE hcs hk18 hFl hT8 hch;refine Held.z0M (by decide) (by rfl) (by exact x6) (fun K hK=>?_);go_simp;refine hdo.mono ?_;rintro e w9 ⟨rfl,F9,T9,K9,N9⟩;have hs8:=HE.out.2.2.1.size;have hs1:=z0L H1.out.1;have hb9:=K9.get (HE.out.2.2.1.get H1.out.2.2.1 id) (fun x=>by have:=HE.out.2.2.2 _ x;omega);have r9:=K9.get (HE.out.2.2.1.get H1.out.1 id) (fun x=>by have:=HE.out.2.2.2 _ x;omega);have hkF:Keep F w w9:=(H1.out.2.1.nx HE.out.2.2.1).next K9 (fun _ _ x=>x.elim) (fun _ _ x=>x);have hcv9:Cells w9 ua vl 1 (z0B v.val):=(((H0.out.2.2.2.2.2.2.1.keep H1.out.2.1 (fun _ _ x=>x)).keep HE.out.2.2.1 (fun _ _ x=>x)).keep0 K9 (fun hp x hx=>H0.out.2.2.2.2.2.2.2.1 (by omega) x hx));obtain⟨y0,y1,y2,y3,yf,yb⟩:=z5F hb9;rw[← HSl.out] at y0;have hne:∀ i,F9 i→F i∨w.heap.size+1<i:=fun i x=>(N9 i x).imp id fun y=>by omega
      have H9:=hid (zA1 T9 (zA1 hkF (zA1 hne (zA1 r9 (zA1 hb9 hcv9)))));go_simp;refine hK _ _ (fun h=>by cases h) (fun _=>⟨y0,y1,y2,y3⟩) ?_;clear hK K T9 K9 N9 hs8 hs1 hkF hne hdo x6 hcv9 hb9;have x9:=zA1 y0 (zA1 y1 (zA1 y2 y3))
      repeat (apply Held.z0F (by rfl) (by exact x9);(intro K w' hS;(try dsimp only at hS);go_simp;exact id))
      refine Held.z0S ?_;clear x9
      have hE4:z0O D A v=if E.1=0 then ((v.bal,0),E.2.1,⟨E.2.2,v.bal,insV A.vs v⟩) else ((Bal.zero,E.1),E.2.1,⟨E.2.2,A.b,A.vs⟩):=by
       unfold z0O;rw[if_neg (by rw[HG.out.1];decide),if_neg (by rw[← HD.out];decide),if_neg (by rw[← HLB.out];decide),HE.out.1]
      have HE4:=hid hE4;clear hE4
      by_cases h0:E.1=0
      ·have q1:(E.1 != 0)=false:=by simp[h0]
       have hdd:E.2.2.dead=false:=by
        rcases HE.out.2.1 with ⟨-,-,h⟩ | ⟨h,-⟩ | ⟨h,-⟩
        ·exact h
        ·omega
        ·exact absurd h0 h
       have HE5:=hid (show z0O D A v=((v.bal,0),E.2.1,⟨E.2.2,v.bal,insV A.vs v⟩) by rw[HE4.out,if_pos h0]);clear HE4;obtain⟨X7,Y7,Z7,hb7,-,-,-,-,-,hF7⟩:=H9.out.1;obtain⟨p0,p1,p2,p3,p4,pf,pb⟩:=z2C hb7.1;have hX7:=hb7.2.1
       have hkz:Keep (fun k=>k=a) w9 ((w9.setCell ⟨a,1,none⟩ (.int .u64 (v.bal.n:Int))).setCell ⟨a,2,none⟩ (.int .i64 v.bal.node)):=by
        refine Keep.setCell (Keep.setCell (Keep.refl _ _) (.inl ?_) _) (.inl ?_) _ <;> rfl
       have haw:a<w.heap.size:=(AcT.lives a d D A).lt H0.out.1 a (by rw[H1.out.2.2.2.2.2.2.2.2.2];exact .inl H1.out.2.2.2.1.2.1);have haF:F a:=by rw[H1.out.2.2.2.2.2.2.2.2.2];exact .inl H1.out.2.2.2.1.2.1
       have T8:=TrioT.turn1 (T':=BoxA a (accC sb v.bal nv E.2.2.dead) 86) (StoT.lives _ _ _ _) (VotesT.lives _ _) H9.out.1 (fun X' hX'=>⟨X',⟨z0C (z0C hX'.1 1 (.int .u64 (v.bal.n:Int))) 2 (.int .i64 v.bal.node),hX'.2.1,fun k x=>Nat.lt_of_lt_of_le (hX'.2.2 k x) hkz.size⟩,hkz.mono fun k _ e=>by subst e;exact hX'.2.1,fun _ x=>.inl x⟩);obtain⟨F10,T10,-,N10⟩:=T8;have hg9:=z0L r9;have hb10:=hkz.get H9.out.2.2.2.2.1 (fun x=>by omega);have r10:=hkz.get r9 (fun x=>by omega);have hcv10:Cells ((w9.setCell ⟨a,1,none⟩ (.int .u64 (v.bal.n:Int))).setCell ⟨a,2,none⟩ (.int .i64 v.bal.node)) ua vl 1 (z0B v.val):=H9.out.2.2.2.2.2.keep0 hkz (fun hp x hx e=>H0.out.2.2.2.2.2.2.2.1 (by omega) x hx (by rw[e];exact haF));have hkF10:=H9.out.2.1.next hkz (H:=F) (fun _ _ x=>x) (fun k _ e=>by rw[e];exact haF);have hne10:∀ i,F10 i→F i∨w.heap.size+1<i:=fun i x=>(N10 i x).elim (H9.out.2.2.1 i) fun y=>.inr (by omega);obtain⟨w10,hw10⟩:=zX1 ((w9.setCell ⟨a,1,none⟩ (.int .u64 (v.bal.n:Int))).setCell ⟨a,2,none⟩ (.int .i64 v.bal.node));rw[← hw10] at T10 hb10 r10 hcv10 hkF10;obtain⟨X10,Y10,Z10,c1,c2,⟨⟨us,c3⟩,c4⟩,e1,e2,e3,hF10⟩:=T10;rw[hdd] at c1;have H10:=hid (zA1 c1 (zA1 c2 (zA1 c3 (zA1 c4 (zA1 e1 (zA1 e2 (zA1 e3 (zA1 hF10 (zA1 hb10 (zA1 r10 (zA1 hcv10 (zA1 hkF10 (zA1 hne10 (zA1 hdd (zA1 haw haF)))))))))))))));have HW10:=hid hw10;clear c1 c2 c3 c4 e1 e2 e3 hF10 hb10 r10 hcv10 hkF10 hne10 N10 hkz haw haF hX7 hb7 hF7 hg9 hdd h0 r9 hw10 p0 p3 p4 pb
       go_upto_region 13 with fail
       rw[← HW10.out];clear HW10 q1 p1 p2 pf y0 y1 y2 y3 yf yb;obtain⟨y0,y1,y2,y3,yf,yb⟩:=z5F H10.out.2.2.2.2.2.2.2.2.1;rw[← HSl.out] at y0;have hk11:=kal w10 (.cells #[] 5);have hf11:=Row.fresh w10 5 1;have hz11:(w10.alloc (.cells #[] 5)).heap.size=w10.heap.size+1:=by simp
       have H11:=hid (zA1 hk11 (zA1 hf11 hz11));have y3:=z0E hk11 _ _ y3;clear hk11 hf11 hz11 y0 y1 y2 yf yb;go_wp2_with (at_builtin;refine z0A ?_;intro q hq)
       (refine hq.out ?_;clear hq q)
       obtain⟨w11,hw11⟩:=zX1 (w10.alloc (.cells #[] 5));rw[← hw11] at H11 y3
       first | rw[← hw11] | skip
       clear hw11;refine wpList_plain rfl (fun K hK=>?_);refine z0R z0U (.tmp 73) (.tmp 75) rfl rfl H11.out.2.1 ua vl uc (z0B v.val) rfl (H10.out.2.2.2.2.2.2.2.2.2.2.1.keep H11.out.1 (fun _ _ x=>x)) (z1I _) (by have:=HG.out.2.2;unfold maxLen;omega) (by have:=HG.out.2.2;omega) ?_;intro v12 w12 hr12 hk12 hv12;refine hK _ _ ?_;clear hK K;obtain⟨a12,c12,rfl,-⟩:=hr12.form;rw[Nat.zero_add] at hr12 hv12 ⊢
       have hown12:∀ k,(Value.slice a12 vl c12).ownBlock=some k→w10.heap.size≤k:=fun k e=>by
        rcases hv12 with ⟨e1,-⟩ | ⟨k',h1,h2⟩
        ·rw[e1] at e
         have:=Option.some.inj e;simp only at this;omega
        ·rw[e] at h1
         cases h1
         rcases h2 with h2 | h2
         ·have:=Option.some.inj h2
          simp only at this;omega
         ·have:=H11.out.2.2;omega
       have hkw12:Keep (fun _=>False) w10 w12:=H11.out.1.next hk12 (fun _ _ x=>x) (fun k hk e=>by have e2:w10.heap.size=k:=Option.some.inj e;omega);have hb12:=hkw12.get H10.out.2.2.2.2.2.2.2.2.1 id;have H12:=hid (zA1 hr12 (zA1 hown12 (zA1 hkw12 hb12)));obtain⟨y0,y1,y2,y3,yf,yb⟩:=z5F hb12;clear hr12 hv12 hown12 hkw12 hb12 hk12 y0 y1 y2 yb;have hkz:Keep (fun k=>k=w.heap.size) w12 (w12.setCell ⟨w.heap.size,3,none⟩ (.slice a12 vl c12)):=kst;have hb13:=z0C H12.out.2.2.2 3 (.slice a12 vl c12);have hk13:=H12.out.2.2.1.next hkz (H:=fun k=>k=w.heap.size) (fun _ _ x=>x.elim) (fun _ _ x=>x)
       have hr13:=H12.out.1.keep hkz (fun k e x=>by
        have h1:=H12.out.2.1 k e;have h2:=z0L H10.out.2.2.2.2.2.2.2.2.1;have h3:k=w.heap.size:=x
        omega)
       obtain⟨w13,hw13⟩:=zX1 (w12.setCell ⟨w.heap.size,3,none⟩ (.slice a12 vl c12));rw[← hw13] at hb13 hk13 hr13;have H13:=hid (zA1 hb13 (zA1 hk13 (zA1 hr13 H12.out.2.1)));have HW13:=hid hw13;clear hkz hb13 hk13 hr13 hw13 H12
       go_upto_region 14 with fail
       rw[← HW13.out];clear HW13 y3 yf
       have hnF:¬ F10 w.heap.size:=fun x=>by
        rcases H10.out.2.2.2.2.2.2.2.2.2.2.2.2.1 _ x with y | y
        ·have:=HE.out.2.2.2 _ y;omega
        ·omega
       have hFe:=H10.out.2.2.2.2.2.2.2.1;have hbox13:=(BoxA.lives _ _ _).keep H10.out.1 H13.out.2.1 (fun i x e=>hnF (by rw[← e,hFe];exact .inl x));have hst13:=(StoT.lives _ _ _ _).keep H10.out.2.1 H13.out.2.1 (fun i x e=>hnF (by rw[← e,hFe];exact .inr (.inl x)));have hvt13:=H10.out.2.2.1.keep H13.out.2.1 (fun i x e=>hnF (by rw[← e,hFe];exact .inr (.inr x)));have hpl:=z9M w13 a sb v.bal nv false Z10 A.vs us sl hbox13.1 hvt13;obtain⟨pp,hpp⟩:=zX1 (z3M A.vs sl);have hple:=zbN A.vs sl;rw[← hpp] at hpl hple;obtain⟨ao,nc,rfl,hnc,hncm,-⟩:=hvt13.row.form;obtain⟨n,hnn⟩:=zX1 (A.vs.length);have hn6:n≤1000000:=by rw[hnn];exact(H0.out.2.1.lens HD.out.symm (H0.out.2.2.1 HD.out.symm)).2.2
       rw[← hnn] at hple hnc;obtain⟨y0,y1,y2,y3,yf,yb⟩:=z5F H13.out.1;rw[← HSl.out] at y0;have hb13:=hbox13.1;rw[← hnn] at hb13;obtain⟨p0,p1,p2,p3,p4,pf,pb⟩:=z2C hb13;have H14:=hid (zA1 hbox13 (zA1 hst13 (zA1 hvt13 (zA1 hnF (zA1 hpp (zA1 hple (zA1 hnn (zA1 hnc hncm))))))));clear hbox13 hst13 hvt13 hnF hFe hpp hncm hb13;go_wp2_with (at_builtin;refine z0A ?_;intro q hq);refine hpl.mono ?_;rintro e w14 ⟨rfl,rfl⟩;clear hpl
       by_cases hex:pp<n∧(A.vs[pp]?.map (·.slot))=some sl
       ·obtain⟨h1,h2⟩:=hex
        have hpl2:pp<A.vs.length:=by have:=H14.out.2.2.2.2.2.2.1;omega
        obtain⟨g',ua',uc',rfl,hcell,-⟩:=H14.out.2.2.1.get pp hpl2
        have hslot:A.vs[pp].slot=sl:=by
         rw[List.getElem?_eq_getElem hpl2] at h2;simpa using h2
        obtain⟨ov,hov⟩:=zX1 (A.vs[pp]);rw[← hov] at hcell hslot;have hfr:∀ j,j<4→w14.frozen? ⟨g',pp * 4+j,none⟩=false:=fun j hj=>H14.out.2.2.1.row.frozen (pp * 4+j) (by omega);have a0:=hcell 0 _ rfl;have a1:=hcell 1 _ rfl;have a2:=hcell 2 _ rfl;have a3:=hcell 3 _ rfl;have f0:=hfr 0 (by decide);have f1:=hfr 1 (by decide);have f2:=hfr 2 (by decide);have f3:=hfr 3 (by decide);rw[Nat.add_zero] at a0 f0;rw[hslot] at a0;have q1:(pp:Int)<(n:Int):=by omega
        have HC:=hid (zA1 hpl2 h2);clear hcell hfr hslot h2 hov
        go_upto_region 15 with fail
        go_quiet (fail)
        go_wp2_with (at_builtin;refine z0A ?_;intro q hq);refine z0G [] (by kernel_rfl) (by kernel_rfl) ?_
        repeat (first | (apply z0F (by rfl);(intro K w';go_simp;exact id)) | (apply z0I (by rfl);(intro K;go_simp;exact id)))
        (refine z0M (by rfl) (by rfl) (fun K hK=>?_);go_simp;refine hK _ _ ?_;clear hK K)
        refine z0S ?_;have hk15:Keep (fun _=>False) w14 (w14.drewN (nq+1)):=(Keep.refl _ _).drewN _;have hv15:=H14.out.2.2.1.keep hk15 (fun _ _ x=>x);obtain⟨w15,hw15⟩:=zX1 (w14.drewN (nq+1));have hrow17:=(((hv15.row.setAt (pp * 4) (.int .u64 (sl:Int))).setAt (pp * 4+1) (.int .u64 (v.bal.n:Int))).setAt (pp * 4+2) (.int .i64 v.bal.node)).setAt (pp * 4+3) (.slice a12 vl c12);rw[ziR _ _ _ _ _ _ (by rw[z4H hv15.len];have:=HC.out.1;omega)] at hrow17;rw[← hw15] at hk15 hv15 hrow17 ⊢
        have hkz:Keep (fun k=>k=g') w15 ((((w15.setCell ⟨g',pp * 4,none⟩ (.int .u64 (sl:Int))).setCell ⟨g',pp * 4+1,none⟩ (.int .u64 (v.bal.n:Int))).setCell ⟨g',pp * 4+2,none⟩ (.int .i64 v.bal.node)).setCell ⟨g',pp * 4+3,none⟩ (.slice a12 vl c12)):=by
         refine Keep.setCell (Keep.setCell (Keep.setCell (Keep.setCell (Keep.refl _ _) (.inl ?_) _) (.inl ?_) _) (.inl ?_) _) (.inl ?_) _ <;> rfl
        obtain⟨w17,hw17⟩:=zX1 ((((w15.setCell ⟨g',pp * 4,none⟩ (.int .u64 (sl:Int))).setCell ⟨g',pp * 4+1,none⟩ (.int .u64 (v.bal.n:Int))).setCell ⟨g',pp * 4+2,none⟩ (.int .i64 v.bal.node)).setCell ⟨g',pp * 4+3,none⟩ (.slice a12 vl c12));rw[← hw17] at hrow17 hkz ⊢;clear hw17 hw15 a0 a1 a2 a3 f0 f1 f2 f3 p0 p1 p2 p3 p4 pf pb y0 y1 y2 y3 yf yb;have hZg:Z10 g':=H14.out.2.2.1.own g' rfl;have hk17:=hk15.next hkz (H:=fun k=>k=g') (fun _ _ x=>x.elim) (fun _ _ x=>x);have hr17:=(H13.out.2.2.1.keep hk15 (fun _ _ x=>x))
        have hlt10:∀ i,F10 i→i<w10.heap.size:=fun i x=>by
         rw[H10.out.2.2.2.2.2.2.2.1] at x
         rcases x with x | x | x
         ·exact H10.out.1.2.2 i x
         ·exact(StoT.lives _ _ _ _).lt H10.out.2.1 i x
         ·exact H10.out.2.2.2.1 i x
        have hg10:g'<w10.heap.size:=H10.out.2.2.2.1 g' hZg;have hvp:=(hv15.mono (F':=fun k=>Z10 k∨w10.heap.size≤k) (fun k x=>.inl x)).put pp HC.out.1 v (.slice a12 vl c12) (by have:=H0.out.2.2.2.2.2.2.2.2;rw[← this];exact hr17) (fun k e=>⟨.inr (H13.out.2.2.2 k e),by have:=H13.out.2.2.2 k e;omega⟩) hkz (by rw[show z2H v (.slice a12 vl c12) = [.int .u64 (sl:Int),.int .u64 (v.bal.n:Int),.int .i64 v.bal.node,.slice a12 vl c12] by rw[HSl.out];rfl];exact hrow17)
        have hins:A.vs.set pp v=insV A.vs v:=by
         rw[z9J,← HSl.out,← H14.out.2.2.2.2.1,if_pos HC.out.2,List.set_eq_take_append_cons_drop,if_pos HC.out.1]
        rw[hins] at hvp;have hbx17:=(BoxA.lives _ _ _).keep H14.out.1 hk17 (fun i x e=>H10.out.2.2.2.2.2.1 i x (by rw[show i=g' from e];exact hZg));rw[← H10.out.2.2.2.2.2.2.2.2.2.2.2.2.2.1] at hbx17;have hFe:=H10.out.2.2.2.2.2.2.2.1;have hT17:=zfG (K:=fun k=>k=g') H10.out.2.2.2.2.1 H10.out.2.2.2.2.2.1 H10.out.2.2.2.2.2.2.1 hbx17 H14.out.2.1 hk17 (fun k y e=>H10.out.2.2.2.2.2.2.1 k y (by rw[show k=g' from e];exact hZg)) hvp (fun i x=>hlt10 i (by rw[hFe];exact .inl x)) (fun i x=>hlt10 i (by rw[hFe];exact .inr (.inl x)));have hne:∀ i,F10 i→F i∨w.heap.size+1<i:=H10.out.2.2.2.2.2.2.2.2.2.2.2.2.1;have hgw:=z0L H10.out.2.2.2.2.2.2.2.2.2.1
        have hkF17:Keep F w w17:=(H10.out.2.2.2.2.2.2.2.2.2.2.2.1.next H13.out.2.1 (fun _ _ x=>x) (fun k hk e=>by have e':k=w.heap.size:=e;omega)).next hk17 (fun _ _ x=>x) (fun k hk e=>by
         rcases hne k (by rw[hFe,show k=g' from e];exact .inr (.inr hZg)) with y | y
         ·exact y
         ·omega)
        have r17:=hk17.get (H13.out.2.1.get H10.out.2.2.2.2.2.2.2.2.2.1 (fun e=>by omega)) (fun e=>by
         rcases hne g' (by rw[hFe];exact .inr (.inr hZg)) with y | y
         ·have:=HE.out.2.2.2 _ y;omega
         ·omega)
        have HZ:=hid (zA1 hT17 (zA1 hkF17 (zA1 r17 (show ∀ i,(X10 i∨Y10 i∨((Z10 i∨w10.heap.size≤i)∧i<w17.heap.size))→F i∨w.heap.size+2≤i from fun i x=>by
         rcases x with x | x | ⟨x | x,-⟩
         ·exact(hne i (by rw[hFe];exact .inl x)).imp id fun y=>by omega
         ·exact(hne i (by rw[hFe];exact .inr (.inl x))).imp id fun y=>by omega
         ·exact(hne i (by rw[hFe];exact .inr (.inr x))).imp id fun y=>by omega
         ·exact .inr (by omega)))))
        have d0:w17.cell? ⟨w.heap.size+1,0,none⟩=some (.int .u64 0):=by simp[World.cell?,r17]
        have d1:w17.cell? ⟨w.heap.size+1,1,none⟩=some (.int .i64 0):=by simp[World.cell?,r17]
        have f0:∀ o,w17.frozen? ⟨w.heap.size+1,o,none⟩=false:=fun o=>by simp[World.frozen?,r17]
        obtain⟨-,p1,p2,-,-,-,-⟩:=z2C hbx17.1;clear hk15 hv15 hrow17 hkz hZg hk17 hr17 hlt10 hg10 hvp hins hbx17 hFe hT17 hne hgw hkF17 r17;go_wp2_with (at_builtin;refine z0A ?_;intro q hq);obtain⟨q1,q2⟩:=zdR (B:=w.heap.size+2) HZ.out.1 HZ.out.2.1 HE.out.2.2.2 HZ.out.2.2.2 (Nat.lt_succ_self _) (Nat.le_succ _) HZ.out.2.2.1 v.bal 0;refine bodyPost_ret (z2E rfl _ _ (w.heap.size+1) rfl _ q1 _ Tryz.underlying28 rfl (by kernel_rfl)) rfl ?_;rw[HP.out,HE5.out];exact q2
       ·have HX:=hid hex
        have cut:(∃ ov,ov.slot≠sl∧pp<n∧∃ h:pp<A.vs.length,A.vs[pp]=ov)∨¬ pp<n:=by
         by_cases h:pp<n
         ·left
          have h2:pp<A.vs.length:=by have:=H14.out.2.2.2.2.2.2.1;omega
          refine⟨A.vs[pp],fun e=>hex ⟨h,by rw[List.getElem?_eq_getElem h2];simp[e]⟩,h,h2,rfl⟩
         ·exact .inr h
        clear hex
        go_upto_region 15 with fail
        rcases cut with cut | cut
        case' inl=>
         obtain⟨ov,hslot,hpn,hpl2,hov⟩:=cut;obtain⟨g',ua',uc',rfl,hcell,-⟩:=H14.out.2.2.1.get pp hpl2;rw[hov] at hcell;have a0:=hcell 0 _ rfl;rw[Nat.add_zero] at a0;obtain⟨os,hos⟩:=zX1 (ov.slot);rw[← hos] at a0 hslot;have q1:(pp:Int)<(n:Int):=by omega
         have q2:((os:Int) == (sl:Int))=false:=by simp;omega
         have q3:decide (os=sl)=false:=decide_eq_false hslot;clear hcell hov hos hslot
         go_quiet (fail)
         go_upto_region 18 with fail
         clear a0 q1 q2 q3 hpl2 hpn ua' uc'
        case' inr=>
         have hpn:=cut;have q1:decide ((pp:Int)<(n:Int))=false:=by simp;omega
         have q2:decide (pp<n)=false:=decide_eq_false hpn;have q3:decide (pp<A.vs.length)=false:=decide_eq_false (by have:=H14.out.2.2.2.2.2.2.1;omega)
         go_quiet (fail)
         go_upto_region 18 with fail
         clear q1 q2 q3 hpn cut
        all_goals
         have hk15:Keep (fun _=>False) w14 (w14.drewN nq):=(Keep.refl _ _).drewN _;obtain⟨w15,hw15⟩:=zX1 (w14.drewN nq);rw[← hw15] at hk15 ⊢;clear hw15 nq y0 y1 y2 y3 yf yb p0 p1 p2 p3 p4 pf pb;have hbx15:=(BoxA.lives _ _ _).keep H14.out.1 hk15 (fun _ _ x=>x);have hvt15:=H14.out.2.2.1.keep hk15 (fun _ _ x=>x);have hk16:=kal w15 (.cells #[.int .u64 0,.int .u64 0,.int .i64 0,.slice none 0 0] 31);have hn16:=heap_alloc_new w15 (.cells #[.int .u64 0,.int .u64 0,.int .i64 0,.slice none 0 0] 31);have hbx16:=(BoxA.lives _ _ _).keep hbx15 hk16 (fun _ _ x=>x);have H16:=hid (zA1 hk15 (zA1 hvt15 (zA1 hk16 (zA1 hn16 hbx16))));obtain⟨p0,p1,p2,p3,p4,pf,pb⟩:=z2C hbx15.1;clear hk15 hbx15 hvt15 hk16 hn16 hbx16 p0 p1 p2 p4 pf pb;go_wp2_with (at_builtin;refine z0A ?_;intro q hq)
         (refine hq.out ?_;clear hq q)
         obtain⟨w16,hw16⟩:=zX1 (w15.alloc (.cells #[.int .u64 0,.int .u64 0,.int .i64 0,.slice none 0 0] 31));rw[← hw16] at H16
         first | rw[← hw16] | skip
         clear hw16;have hn16:=H16.out.2.2.2.1;have hvt16:=H16.out.2.1.keep H16.out.2.2.1 (fun _ _ x=>x);have hnl:=H14.out.2.2.2.2.2.2.1;refine wpList_plain rfl (fun K hK=>?_)
         refine z0R z3E (.tmp 117) (.tmp 119) rfl rfl hvt16.row (some ⟨w15.heap.size,0,none⟩) 1 1 (z2H ⟨0,Bal.zero,[]⟩ (.slice none 0 0)) rfl
          ⟨rfl,fun _=>⟨_,rfl,fun t u hu=>by rw[z0J,Nat.zero_add,cell_of_row _ _ _ _ _ _ hn16];simpa [z2H,Bal.zero] using hu⟩⟩ (fun u hu=>by simp[z2H] at hu;rcases hu with rfl | rfl | rfl | rfl <;> rfl) (by unfold maxLen;omega) (by omega) ?_
         intro v17 w17 hr17 hk17 hv17;refine hK _ _ ?_;clear hK K hn16
         have hlt10:∀ i,F10 i→i<w10.heap.size:=fun i x=>by
          rw[H10.out.2.2.2.2.2.2.2.1] at x
          rcases x with x | x | x
          ·exact H10.out.1.2.2 i x
          ·exact(StoT.lives _ _ _ _).lt H10.out.2.1 i x
          ·exact H10.out.2.2.2.1 i x
         have hFe:=H10.out.2.2.2.2.2.2.2.1;have hXa:X10 a:=H10.out.1.2.1;have ha10:=hlt10 a (by rw[hFe];exact .inl hXa);have hs16:w10.heap.size≤w16.heap.size:=by have h1:=H13.out.2.1.size;have h2:=H16.out.1.size;have h3:=H16.out.2.2.1.size;omega
         have hnZ:∀ k,hvt16.row.1=hvt16.row.1→Z10 k→¬ X10 k:=fun k _ x y=>H10.out.2.2.2.2.2.1 k y x;obtain⟨g2,cap,cur,fz,rfl,-,-,hc1,hc2,-⟩:=hr17.some (by omega)
         have hg2:Z10 g2∨w14.heap.size≤g2:=by
          rcases hv17 with ⟨-,h⟩ | ⟨k,h1,h2⟩
          ·omega
          ·have e:g2=k:=Option.some.inj h1
           subst e
           rcases h2 with h2 | h2
           ·exact .inl (hvt16.own _ h2)
           ·exact .inr (by have h4:=H16.out.1.size;have h5:=H16.out.2.2.1.size;omega)
         have hvp:=hvt16.push (x:=⟨0,Bal.zero,[]⟩) (u:=.slice none 0 0) (F':=fun k=>Z10 k∨w10.heap.size≤k) (Row.nil _ _ _) (fun k e=>by simp[Value.ownBlock] at e) hr17 hk17 (fun k x=>.inl x) (fun k e=>by
          have e2:g2=k:=Option.some.inj e;subst e2;refine⟨hg2.imp id fun h=>by have:=H13.out.2.1.size;omega,?_⟩
          rcases hv17 with ⟨-,h⟩ | ⟨k,h1,h2⟩
          ·omega
          ·have e:g2=k:=Option.some.inj h1
           subst e
           exact h2.imp id fun h=>by omega)
         have hown16:=hvt16.own;have hb17:=hk17.get H16.out.2.2.2.2.1 (fun e=>H10.out.2.2.2.2.2.1 a hXa (hown16 a e));have hkz:Keep (fun k=>k=a) w17 (w17.setCell ⟨a,3,none⟩ (.slice (some ⟨g2,0,none⟩) (A.vs.length+1) cap)):=kst;have hb18:=z0C hb17 3 (.slice (some ⟨g2,0,none⟩) (A.vs.length+1) cap)
         have hv18:=hvp.keep hkz (fun k x e=>by
          have e':k=a:=e;subst e'
          rcases x with x | x
          ·exact H10.out.2.2.2.2.2.1 k hXa x
          ·omega)
         have hk18:Keep (fun k=>X10 k∨Z10 k) w14 (w17.setCell ⟨a,3,none⟩ (.slice (some ⟨g2,0,none⟩) (A.vs.length+1) cap)):=
          (((H16.out.1.nx H16.out.2.2.1)).next hk17 (fun _ _ x=>x.elim) (fun k _ e=>.inr (hown16 k e))).next hkz (fun _ _ x=>x) (fun k _ e=>by rw[show k=a from e];exact .inl hXa)
         obtain⟨p0,p1,p2,p3,p4,pf,pb⟩:=z2C hb17;have H17:=hid (zA1 hg2 (zA1 hb18 (zA1 hv18 (zA1 hk18 (zA1 hlt10 (zA1 hXa (zA1 ha10 (zA1 hc1 (zA1 hc2 hnl)))))))));obtain⟨w18,hw18⟩:=zX1 (w17.setCell ⟨a,3,none⟩ (.slice (some ⟨g2,0,none⟩) (A.vs.length+1) cap));rw[← hw18] at H17;clear hg2 hb18 hv18 hk18 hlt10 hXa ha10 hc1 hc2 hnl hkz hvp hown16 hb17 hr17 hk17 hv17 hvt16 hFe hs16 hnZ p0 p1 p2 p4 pb;have HW18:=hid hw18;clear hw18
         go_upto_region 19 with fail
         rw[← HW18.out];clear HW18 p3 pf;obtain⟨p0,p1,p2,p3,p4,pf,pb⟩:=z2C H17.out.2.1;obtain⟨N,hN⟩:=zX1 (A.vs.length+1);have hv18:=H17.out.2.2.1;have hc1:=H17.out.2.2.2.2.2.2.2.1;have hc2:=H17.out.2.2.2.2.2.2.2.2.1;have hnl:=H17.out.2.2.2.2.2.2.2.2.2;have hple:=H14.out.2.2.2.2.2.1;rw[← hN] at p3 hv18 hc1;obtain⟨q,hq⟩:=zX1 (pp+1);have e1:(pp:Int)+1=(q:Nat):=by omega
         have z1:=wi64 q (by omega);obtain⟨od,hod⟩:=zX1 (if cap=q then 0 else q * 4);obtain⟨os,hos⟩:=zX1 (if cap=pp then 0 else pp * 4);obtain⟨dl,hdl⟩:=zX1 (N - q);obtain⟨dc,hdc⟩:=zX1 (cap - q);obtain⟨sn,hsn⟩:=zX1 (N - pp);obtain⟨sc,hsc⟩:=zX1 (cap - pp);have hslA:=fun w=>z1Q (P:=Tryz.prog) z3E (some ⟨g2,0,none⟩) N cap .i64 q (by omega) w;have hslB:=fun w=>z1Q (P:=Tryz.prog) z3E (some ⟨g2,0,none⟩) N cap .i64 pp (by omega) w
         have hrow18:Row w18 31 4 (.slice (some ⟨g2,0,none⟩) N cap) N (z0P (A.vs ++ [⟨0,Bal.zero,[]⟩]) (us ++ [.slice none 0 0])):=by
          have h:=hv18.row
          rwa [List.length_append,List.length_singleton,← hN] at h
         have hkd:Keep (fun _=>False) w18 w18.drew:=(Keep.refl _ _).drew;have hrow18:=hrow18.keep hkd (fun _ _ x=>x);have hts:=((Cells.of_row hrow18).tail pp (by omega) (by omega) (by decide)).take (n - pp) (by omega);rw[zgM] at hslA hslB hts;have hulen:=H14.out.2.2.1.len;have hvl:(z0P A.vs us).length=n * 4:=by rw[z4H hulen,← hnl]
         rw[z5Z hulen,copied _ _ _ _ (by rw[hvl];omega)] at hts;rw[← hod,← hdl,← hdc] at hslA;rw[← hos,← hsn,← hsc] at hslB;rw[← hos] at hts;obtain⟨gx,cx,cur,fz,hvx,hgx,hfz,-,-,hsz,-⟩:=hrow18.some (by omega);cases hvx;have hcl:((z0P A.vs us).drop (pp * 4)).length=(n - pp) * 4:=by rw[List.length_drop,hvl];omega
         have hfit:od+((z0P A.vs us).drop (pp * 4)).length≤N * 4:=by rw[hcl,hod];split <;> omega
         have hsplice:∀ L:List Value,splice L od ((z0P A.vs us).drop (pp * 4))=splice L (pp * 4+4) ((z0P A.vs us).drop (pp * 4)):=fun L=>by
          by_cases hcq:cap=q
          ·have e:(z0P A.vs us).drop (pp * 4) = []:=List.drop_of_length_le (by rw[hvl];omega)
           rw[e,zcV,zcV]
          ·rw[hod,if_neg hcq,hq,show (pp+1) * 4=pp * 4+4 by omega]
         have hsp:=hrow18.spliced hgx od _ hfit;have hone:∀ u ∈ (z0P A.vs us).drop (pp * 4),u.oneCell'=true:=fun u hu=>H14.out.2.2.1.one u (List.mem_of_mem_drop hu);have hmin:min sn dl=n - pp:=by omega
         have HS:=hid (zA1 hsp (zA1 hsplice (zA1 hkd (zA1 hcl hN))));have hN':=hN.symm;have HQ:=hid (zA1 hq (zA1 hdl (zA1 hod hsn)));have hszf:od+((z0P A.vs us).drop (pp * 4)).length≤cur.size:=by rw[hsz];exact Nat.le_trans hfit (Nat.mul_le_mul_right _ hc1)
         have HN':=hid hN';clear hN' hsp hsplice hkd hcl hfit hrow18 hod hos hdl hdc hsn hsc hvl hulen hv18 hq hN;refine z0G [] (by kernel_rfl) (by kernel_rfl) ?_
         repeat (first | (apply z0F (by rfl);(intro K w';go_simp;exact id)) | (apply z0I (by rfl);(intro K;go_simp;exact id)))
         refine z0M (by rfl) (by rfl) (fun K hK=>?_);refine zsE z3E (.tmp 129) (.tmp 135) rfl g2 od dl dc cur 31 fz rfl hgx hfz (some ⟨g2,os,none⟩) sn sc rfl _ (n - pp) hmin hts hszf hone ?_;refine hK _ _ ?_;clear hK K
         repeat (first | (apply z0F (by rfl);(intro K w';go_simp;exact id)) | (apply z0I (by rfl);(intro K;go_simp;exact id)))
         refine z0S ?_;have hk19:Keep (fun k=>k=g2) w18 (w18.drew.setRow g2 (splice cur.toList od ((z0P A.vs us).drop (pp * 4))).toArray):=HS.out.2.2.1.next (Keep.setRow (F:=fun k=>k=g2) (Keep.refl _ _) (.inl rfl) _) (fun _ _ x=>x.elim) (fun _ _ x=>x);have hrow19:=HS.out.1;obtain⟨w19,hw19⟩:=zX1 (w18.drew.setRow g2 (splice cur.toList od ((z0P A.vs us).drop (pp * 4))).toArray);rw[← hw19] at hk19 hrow19;rw[HS.out.2.1] at hrow19;obtain⟨xs,hxs⟩:=zX1 (splice (z0P (A.vs ++ [⟨0,Bal.zero,[]⟩]) (us ++ [.slice none 0 0])) (pp * 4+4) ((z0P A.vs us).drop (pp * 4)));rw[← hxs] at hrow19;have hxl:xs.length=N * 4:=hrow19.len;have hppN:pp<N:=by have:=HS.out.2.2.2.2;omega
         have hcell:∀ j,j<4→∃ u,w19.cell? ⟨g2,pp * 4+j,none⟩=some u:=fun j hj=>⟨_,by rw[hrow19.cell (pp * 4+j) (by omega),List.getElem?_eq_getElem (by omega)]⟩;have hfr:∀ j,j<4→w19.frozen? ⟨g2,pp * 4+j,none⟩=false:=fun j hj=>hrow19.frozen (pp * 4+j) (by omega);obtain⟨u0,a0⟩:=hcell 0 (by decide);obtain⟨u1,a1⟩:=hcell 1 (by decide);obtain⟨u2,a2⟩:=hcell 2 (by decide);obtain⟨u3,a3⟩:=hcell 3 (by decide);have f0:=hfr 0 (by decide);have f1:=hfr 1 (by decide);have f2:=hfr 2 (by decide);have f3:=hfr 3 (by decide);rw[Nat.add_zero] at a0 f0
         have hne2:a≠g2:=fun e=>by
          rcases H17.out.1 with x | x
          ·exact H10.out.2.2.2.2.2.1 a H17.out.2.2.2.2.2.1 (by rw[e];exact x)
          ·have h1:=H17.out.2.2.2.2.2.2.1;have h2:=H13.out.2.1.size;omega
         have hb19:=hk19.get H17.out.2.1 hne2
         have hg2w:w.heap.size≠g2:=fun e=>by
          rcases H17.out.1 with x | x
          ·exact H14.out.2.2.2.1 (by rw[H10.out.2.2.2.2.2.2.2.1,e];exact .inr (.inr x))
          ·have h1:=z0L H10.out.2.2.2.2.2.2.2.2.1;have h2:=H13.out.2.1.size;omega
         have hnK:¬ (X10 w.heap.size∨Z10 w.heap.size):=fun x=>by
          have hFe:=H10.out.2.2.2.2.2.2.2.1
          rcases x with x | x
          ·exact H14.out.2.2.2.1 (by rw[hFe];exact .inl x)
          ·exact H14.out.2.2.2.1 (by rw[hFe];exact .inr (.inr x))
         have hbv:=hk19.get (H17.out.2.2.2.1.get H13.out.1 hnK) hg2w;rw[HN'.out] at hb19;obtain⟨p0,p1,p2,p3,p4,pf,pb⟩:=z2C hb19;obtain⟨y0,y1,y2,y3,yf,yb⟩:=z5F hbv;rw[← HSl.out] at y0;have H19:=hid (zA1 hk19 (zA1 hrow19 (zA1 hxs (zA1 hb19 hxl))));have HW19:=hid hw19;clear hk19 hrow19 hxs hb19 hxl hcell hfr hne2 hbv hg2w hnK hw19 hslA hslB
         go_upto_region 20 with fail
         rw[← HW19.out];clear HW19;refine z0G [] (by kernel_rfl) (by kernel_rfl) ?_
         repeat (first | (apply z0F (by rfl);(intro K w';go_simp;exact id)) | (apply z0I (by rfl);(intro K;go_simp;exact id)))
         (refine z0M (by rfl) (by rfl) (fun K hK=>?_);go_simp;refine hK _ _ ?_;clear hK K)
         refine z0S ?_;have hrow20:=(((H19.out.2.1.setAt (pp * 4) (.int .u64 (sl:Int))).setAt (pp * 4+1) (.int .u64 (v.bal.n:Int))).setAt (pp * 4+2) (.int .i64 v.bal.node)).setAt (pp * 4+3) (.slice a12 vl c12)
         have hkz:Keep (fun k=>k=g2) w19 ((((w19.setCell ⟨g2,pp * 4,none⟩ (.int .u64 (sl:Int))).setCell ⟨g2,pp * 4+1,none⟩ (.int .u64 (v.bal.n:Int))).setCell ⟨g2,pp * 4+2,none⟩ (.int .i64 v.bal.node)).setCell ⟨g2,pp * 4+3,none⟩ (.slice a12 vl c12)).drew:=by
          refine Keep.drew (Keep.setCell (Keep.setCell (Keep.setCell (Keep.setCell (Keep.refl _ _) (.inl ?_) _) (.inl ?_) _) (.inl ?_) _) (.inl ?_) _) <;> rfl
         have hrow20:=hrow20.keep (show Keep (fun _=>False) _ ((((w19.setCell ⟨g2,pp * 4,none⟩ (.int .u64 (sl:Int))).setCell ⟨g2,pp * 4+1,none⟩ (.int .u64 (v.bal.n:Int))).setCell ⟨g2,pp * 4+2,none⟩ (.int .i64 v.bal.node)).setCell ⟨g2,pp * 4+3,none⟩ (.slice a12 vl c12)).drew from(Keep.refl _ _).drew) (fun _ _ x=>x);obtain⟨w20,hw20⟩:=zX1 (((((w19.setCell ⟨g2,pp * 4,none⟩ (.int .u64 (sl:Int))).setCell ⟨g2,pp * 4+1,none⟩ (.int .u64 (v.bal.n:Int))).setCell ⟨g2,pp * 4+2,none⟩ (.int .i64 v.bal.node)).setCell ⟨g2,pp * 4+3,none⟩ (.slice a12 vl c12)).drew);rw[← hw20] at hrow20 hkz ⊢;clear hw20 a0 a1 a2 a3 f0 f1 f2 f3 p0 p1 p2 p3 p4 pf pb y0 y1 y2 y3 yf yb;have hFe:=H10.out.2.2.2.2.2.2.2.1;rw[ziR _ _ _ _ _ _ (by rw[H19.out.2.2.2.2];omega),H19.out.2.2.1,HS.out.2.2.2.2] at hrow20;have hk1820:=H19.out.1.next hkz (H:=fun k=>k=g2) (fun _ _ x=>x) (fun _ _ x=>x);have hk1418:=H17.out.2.2.2.1;have hlt10:=H17.out.2.2.2.2.1;have hown:=H13.out.2.2.2
         have hcells:Row w18 5 1 (.slice a12 vl c12) v.val.length (z0B v.val):=by
          rw[← H0.out.2.2.2.2.2.2.2.2]
          exact H13.out.2.2.1.keep hk1418 (fun k e x=>by
           have h1:=hown k e;have h2:=hlt10 k (by rw[hFe];exact x.elim .inl fun y=>.inr (.inr y))
           omega)
         have hvp:=H17.out.2.2.1.ins H14.out.2.2.1.len pp (by have:=H14.out.2.2.2.2.2.1;have:=H14.out.2.2.2.2.2.2.1;omega) v (.slice a12 vl c12) hcells (fun k e=>⟨.inr (hown k e),by
          have h1:=hown k e;have h2:=H13.out.2.2.1.lt e
          rcases H17.out.1 with x | x
          ·have:=hlt10 g2 (by rw[hFe];exact .inr (.inr x));omega
          ·omega⟩) hk1820 (by rw[show z2H v (.slice a12 vl c12) = [.int .u64 (sl:Int),.int .u64 (v.bal.n:Int),.int .i64 v.bal.node,.slice a12 vl c12] by rw[HSl.out];rfl];exact hrow20)
         have hins:A.vs.take pp ++ v :: A.vs.drop pp=insV A.vs v:=by
          rw[z9J,← HSl.out,← H14.out.2.2.2.2.1,if_neg];intro e;refine HX.out ⟨?_,e⟩;have h2:=H14.out.2.2.2.2.2.2.1
          rcases Nat.lt_or_ge pp A.vs.length with h | h
          ·omega
          ·rw[List.getElem?_eq_none h] at e;cases e
         rw[hins] at hvp
         have hne2:a≠g2:=fun e=>by
          rcases H17.out.1 with x | x
          ·exact H10.out.2.2.2.2.2.1 a H17.out.2.2.2.2.2.1 (by rw[e];exact x)
          ·have h1:=H17.out.2.2.2.2.2.2.1;have h2:=H13.out.2.1.size;omega
         have hb20:=hkz.get H19.out.2.2.2.1 hne2;rw[← H10.out.2.2.2.2.2.2.2.2.2.2.2.2.2.1,HS.out.2.2.2.2] at hb20;have hs1420:=hk1418.size;have hs1820:=hk1820.size;have hs1014:=H13.out.2.1.size
         have hk1420:Keep (fun k=>X10 k∨Z10 k) w14 w20:=hk1418.next hk1820 (fun _ _ x=>x) (fun k hk e=>by
          have e':k=g2:=e
          rcases H17.out.1 with x | x
          ·rw[e'];exact .inr x
          ·omega)
         have hne:∀ i,F10 i→F i∨w.heap.size+1<i:=H10.out.2.2.2.2.2.2.2.2.2.2.2.2.1;have hgw:=z0L H10.out.2.2.2.2.2.2.2.2.2.1;have hbx20:BoxA a (accC sb v.bal (.slice (some ⟨g2,0,none⟩) (A.vs.length+1) cap) E.2.2.dead) 86 w20 X10:=⟨hb20,H10.out.1.2.1,fun k x=>Nat.lt_of_lt_of_le (hlt10 k (by rw[hFe];exact .inl x)) (by omega)⟩;have hT20:=zfG (K:=fun k=>X10 k∨Z10 k) H10.out.2.2.2.2.1 H10.out.2.2.2.2.2.1 H10.out.2.2.2.2.2.2.1 hbx20 H14.out.2.1 hk1420 (fun k y e=>e.elim (fun z=>H10.out.2.2.2.2.1 k z y) (fun z=>H10.out.2.2.2.2.2.2.1 k y z)) hvp (fun i x=>hlt10 i (by rw[hFe];exact .inl x)) (fun i x=>hlt10 i (by rw[hFe];exact .inr (.inl x)))
         have hkF20:Keep F w w20:=(H10.out.2.2.2.2.2.2.2.2.2.2.2.1.next H13.out.2.1 (fun _ _ x=>x) (fun k hk e=>by have e':k=w.heap.size:=e;omega)).next hk1420 (fun _ _ x=>x) (fun k hk e=>by
          rcases hne k (by rw[hFe];exact e.elim .inl fun y=>.inr (.inr y)) with y | y
          ·exact y
          ·omega)
         have r20:=hk1420.get (H13.out.2.1.get H10.out.2.2.2.2.2.2.2.2.2.1 (fun e=>by omega)) (fun e=>by
          rcases hne (w.heap.size+1) (by rw[hFe];exact e.elim .inl fun y=>.inr (.inr y)) with y | y
          ·have:=HE.out.2.2.2 _ y;omega
          ·omega)
         have HZ:=hid (zA1 hT20 (zA1 hkF20 (zA1 r20 (show ∀ i,(X10 i∨Y10 i∨((Z10 i∨w10.heap.size≤i)∧i<w20.heap.size))→F i∨w.heap.size+2≤i from fun i x=>by
          rcases x with x | x | ⟨x | x,-⟩
          ·exact(hne i (by rw[hFe];exact .inl x)).imp id fun y=>by omega
          ·exact(hne i (by rw[hFe];exact .inr (.inl x))).imp id fun y=>by omega
          ·exact(hne i (by rw[hFe];exact .inr (.inr x))).imp id fun y=>by omega
          ·exact .inr (by omega)))))
         have d0:w20.cell? ⟨w.heap.size+1,0,none⟩=some (.int .u64 0):=by simp[World.cell?,r20]
         have d1:w20.cell? ⟨w.heap.size+1,1,none⟩=some (.int .i64 0):=by simp[World.cell?,r20]
         have f0:∀ o,w20.frozen? ⟨w.heap.size+1,o,none⟩=false:=fun o=>by simp[World.frozen?,r20]
         obtain⟨-,p1,p2,-,-,-,-⟩:=z2C hbx20.1;clear hrow20 hkz hFe hk1820 hk1418 hlt10 hown hcells hvp hins hne2 hb20 hs1420 hs1820 hs1014 hk1420 hne hgw hbx20 hT20 hkF20 r20;go_wp2_with (at_builtin;refine z0A ?_;intro q hq);obtain⟨q1,q2⟩:=zdR (B:=w.heap.size+2) HZ.out.1 HZ.out.2.1 HE.out.2.2.2 HZ.out.2.2.2 (Nat.lt_succ_self _) (Nat.le_succ _) HZ.out.2.2.1 v.bal 0;refine bodyPost_ret (z2E rfl _ _ (w.heap.size+1) rfl _ q1 _ Tryz.underlying28 rfl (by kernel_rfl)) rfl ?_;rw[HP.out,HE5.out];exact q2
      ·have q1:(E.1 != 0)=true:=by simpa using h0
       have q2:decide (E.1=0)=false:=decide_eq_false h0;have d0:w9.cell? ⟨w.heap.size+1,0,none⟩=some (.int .u64 0):=by simp[World.cell?,r9]
       have d1:w9.cell? ⟨w.heap.size+1,1,none⟩=some (.int .i64 0):=by simp[World.cell?,r9]
       have f0:∀ o,w9.frozen? ⟨w.heap.size+1,o,none⟩=false:=fun o=>by simp[World.frozen?,r9]
       have H0':=hid h0;clear r9 h0 y0 y1 y2 y3;go_wp2_with (at_builtin;refine z0A ?_;intro q hq);obtain⟨q1,q2⟩:=zdR (a:=a) (d:=d) (D:=E.2.1) (A:=⟨E.2.2,A.b,A.vs⟩) (B:=w.heap.size+2) ⟨sb,nv,H9.out.1⟩ H9.out.2.1 HE.out.2.2.2 (fun i x=>(H9.out.2.2.1 i x).imp id fun y=>by omega) (Nat.lt_succ_self _) (Nat.le_succ _) H9.out.2.2.2.1 Bal.zero E.1;refine bodyPost_ret (z2E rfl _ _ (w.heap.size+1) rfl _ q1 _ Tryz.underlying28 rfl (by kernel_rfl)) rfl ?_;rw[HP.out,HE4.out,if_neg H0'.out];exact q2
end
section
open Go.RowKit Go.Maps
open MI SO BM DM WM AC
def RAccPost (a d:Nat) (F:Nat→Prop) (w:World) (R:(Bal×Int)×Dk×Ac) (e:Ending) (w':World):Prop:=
 ∃ F',e = .returned (.tuple #[balV R.1.1,.int .i64 R.1.2])∧RAcT a d R.2.1 R.2.2.s w' F'∧Keep F w w'∧∀ i,F' i→F i∨w.heap.size≤i
end
section
open Go.RowKit Go.Maps
open MI SO BM DM WM AC
def TrimPost (a d:Nat) (F:Nat→Prop) (w:World) (R:(Nat×Int)×Dk×Ac) (e:Ending) (w':World):Prop:=
 e = .returned (.tuple #[.int .i64 (R.1.1:Nat),.int .i64 R.1.2])∧Turns (AcT a d R.2.1 R.2.2) F w w'
structure TrimIn (w:World) (vs:List Vt) (k i:Nat) (lv:Value) (wr:World):Prop where
 keep:Keep (fun _=>False) w wr
 row:Row wr 63 3 lv (cutV (vs.take i) k).length (chsV (zgF (cutV (vs.take i) k)))
 own:∀ j,lv.ownBlock=some j→w.heap.size≤j
end
section
open Go.RowKit Go.Maps
open MI SO BM DM WM AC
def RTrimPost (a d:Nat) (F:Nat→Prop) (w:World) (R:(Nat×Int)×Dk×Ac) (e:Ending) (w':World):Prop:=
 e = .returned (.tuple #[.int .i64 (R.1.1:Nat),.int .i64 R.1.2])∧Turns (RAcT a d R.2.1 R.2.2.s) F w w'
def AC.cutI (vs:List Vt) (k i:Nat):List Vt:=(vs.take i).filter fun v=>decide (v.slot≤k)
structure RTrimIn (w:World) (vs:List Vt) (k i:Nat) (lv:Value) (wr:World):Prop where
 keep:Keep (fun _=>False) w wr
 row:Row wr 63 3 lv (cutI vs k i).length (chsV (zgF (cutI vs k i)))
 own:∀ j,lv.ownBlock=some j→w.heap.size≤j
end
section
open Go.RowKit Go.Maps
open MI SO BM DM WM
section
variable {P:Program} {o:Oper} {a:Act} {w:World} {K:Act→World→Prop} {Q:Exit→Act→World→Prop}
end
structure ztK (D:Dk) (S:St):Prop where
 size:6≤D.safe.length
 ok:PsOk S.ps
 count:S.g.l.length≤4000
 safe:S.g.safe≤S.g.l.length
 lg:LgOk (half D) S.g
theorem StoAt.facts {w:World} {b d:Nat} {F Fd:Nat→Prop} {D:Dk} {S:St} (h:StoAt w b d F Fd D S):ztK D S:=by
 have hok:=h.ok;obtain⟨wb,mb,m,Fl,H⟩:=h;have hl:=H.log.ok;exact⟨by have:=hl.two;unfold half at this;omega,hok,hl.count,hl.safe,hl⟩
end
section
open Go.RowKit Go.Maps Go.Shelf
open MI SO BM DM WM AC
attribute [local go_sem] Oper.semAt_some
def AcP (d:Nat) (D:Dk) (o:Option Ac) (av:Value):Thing:=fun w F=>
 match o with
 | none=>av = .pointer none∧DkT d D w F
 | some A=>∃ a,av = .pointer (some ⟨a,0,none⟩)∧AcT a d D A w F
theorem AcP.lives (d:Nat) (D:Dk) (o:Option Ac) (av:Value):Lives (AcP d D o av):=by
 cases o with
 | none=>exact⟨fun h hk hn=>⟨h.1,(DkT.lives d D).keep h.2 hk hn⟩,fun h=>(DkT.lives d D).lt h.2⟩
 | some A=>exact⟨fun ⟨b,h1,h2⟩ hk hn=>⟨b,h1,(AcT.lives b d D A).keep h2 hk hn⟩,fun ⟨b,_,h2⟩=>(AcT.lives b d D A).lt h2⟩
theorem AcT.disk {a d:Nat} {D:Dk} {A:Ac} {w:World} {F:Nat→Prop} (h:AcT a d D A w F):∃ F',DkT d D w F'∧∀ k,F' k→F k:=by
 obtain⟨sb,nv,X,Y,Z,-,⟨F1,F2,h1,hY⟩,-,-,-,-,hF⟩:=h;exact⟨F2,h1.diskAt,fun k x=>by rw[hF,hY];exact .inr (.inl (.inr x))⟩
def AOpenPost (d:Nat) (F:Nat→Prop) (w:World) (R:Int×Option Ac×Dk) (e:Ending) (w':World):Prop:=
 ∃ av,e = .returned (.tuple #[av,.int .i64 R.1])∧Turns (AcP d R.2.2 R.2.1 av) F w w'
theorem AC.rdL_append:∀ (ps qs:List (Str×Str)) (st:Bal×List Vt),rdL st (ps ++ qs)=match rdL st ps with | none=>none | some s=>rdL s qs
 | [],_,_=>rfl
 | p :: ps,qs,st=>by
   simp only[List.cons_append,rdL]
   cases rd1 st p with
   | none=>rfl
   | some s=>exact AC.rdL_append ps qs s
theorem SO.op_code {D:Dk} {S:St} (h:(opS D).2.1=some S):(opS D).1=0:=by
 unfold opS at *;split at h
 ·cases h
 ·split at h
  ·cases h
  ·rfl
theorem SO.op_dead {D:Dk} {S:St} (h:(opS D).2.1=some S):S.dead=false:=by
 unfold opS at h;split at h
 ·cases h
 ·split at h
  ·cases h
  ·cases h
   rfl
theorem SO.op_none {D:Dk} (h:(opS D).2.1=none):(opS D).1≠0:=by
 unfold opS at *;split
 ·rename_i ho
  exact open_none ho
 ·rename_i ho
  split
  ·show (50:Int)≠0
   decide
  ·rename_i hd
   rw[ho] at h;simp only at h;rw[hd] at h;cases h
structure RIn (w4:World) (a b:Nat) (pre:List (Str×Str)) (W:World):Prop where
 ex:∃ st nv us,rdL (Bal.zero,[]) pre=some st∧W.heap[a]?=some (.cells (accC b st.1 nv false) 86 (0,0))∧Votes W (fun k=>w4.heap.size≤k) nv st.2 us
 keep:Keep (fun k=>k=a) w4 W
theorem AC.rdL_len:∀ {ps:List (Str×Str)} {st st':Bal×List Vt},rdL st ps=some st'→st'.2.length≤st.2.length+ps.length
 | [],st,st',h=>by cases h;simp
 | p :: ps,st,st',h=>by
   unfold rdL at h
   cases h1:rd1 st p with
   | none=>rw[h1] at h;cases h
   | some s=>
     rw[h1] at h;have h2:=AC.rdL_len (st:=s) h
     have h3:s.2.length≤st.2.length+1:=by
      rcases zdQ h1 with ⟨-,-,e,-⟩ | ⟨-,-,v,e,-⟩
      ·rw[e];omega
      ·rw[e];simp
     simp only[List.length_cons];omega
theorem Votes.turn {w w':World} {F:Nat→Prop} {v:Value} {vs:List Vt} {us:List Value} {r:Option Nat} (h:Votes w F v vs us) (hk:Keep (fun k=>r=some k) w w') (hr:∀ k,r=some k→∃ o:Obj,w.heap[k]?=some o∧o.isCells=false):Votes w' F v vs us:=
 ⟨h.row.turn hk hr,h.len,h.own,fun j hj=>let ⟨h2,h3⟩:=h.each j hj;⟨h2.turn hk hr,h3⟩⟩
theorem RIn.turn {w4:World} {a b:Nat} {pre:List (Str×Str)} {W W':World} {r:Option Nat} {B:Nat} (h:RIn w4 a b pre W) (hB:w4.heap.size≤B) (hk:Keep (fun k=>r=some k) W W') (h1:∀ k,r=some k→B≤k) (hr:∀ k,r=some k→∃ o:Obj,W.heap[k]?=some o∧o.isCells=false):RIn w4 a b pre W':=by
 obtain⟨⟨st,nv,us,e1,e2,e3⟩,k1⟩:=h;exact⟨⟨st,nv,us,e1,zaJ e2 hk hr,e3.turn hk hr⟩,k1.next hk (fun _ _ x=>x) (fun k hk x=>by have:=h1 k x;omega)⟩
structure ROut (w5:World) (a r2 r3:Nat) (ps:List (Str×Str)) (W:World):Prop where
 bad:rdL (Bal.zero,[]) ps=none
 c2:W.heap[r2]?=some (.cells #[.pointer none] 36 (0,0))
 c3:W.heap[r3]?=some (.cells #[.int .i64 91] 33 (0,0))
 keep:Keep (fun k=>k=a∨k=r2∨k=r3) w5 W
theorem ROut.turn {w5:World} {a r2 r3:Nat} {ps:List (Str×Str)} {W W':World} {r:Option Nat} {B:Nat} (h:ROut w5 a r2 r3 ps W) (hB:w5.heap.size≤B) (hk:Keep (fun k=>r=some k) W W') (h1:∀ k,r=some k→B≤k) (hr:∀ k,r=some k→∃ o:Obj,W.heap[k]?=some o∧o.isCells=false):ROut w5 a r2 r3 ps W':=
 ⟨h.bad,zaJ h.c2 hk hr,zaJ h.c3 hk hr,h.keep.next hk (fun _ _ x=>x) (fun k hk x=>by have:=h1 k x;omega)⟩
theorem AC.rdL_bad {ps:List (Str×Str)} {p:Str×Str} {st:Bal×List Vt} {s0:Bal×List Vt} (h:rdL s0 ps=some st) (hp:rd1 st p=none):rdL s0 (ps ++ [p])=none:=by
 rw[AC.rdL_append,h];simp only[rdL,hp]
theorem AC.rdL_next {ps:List (Str×Str)} {p:Str×Str} {st st':Bal×List Vt} {s0:Bal×List Vt} (h:rdL s0 ps=some st) (hp:rd1 st p=some st'):rdL s0 (ps ++ [p])=some st':=by
 rw[AC.rdL_append,h];simp only[rdL,hp]
theorem zbR (w:World) (d:Nat) (F:Nat→Prop) (D:Dk) (hD:DiskAt w d F D) (hfew:D.waits.length≤800000) :
  Calls Tryz.prog 23 #[.pointer (some ⟨d,0,none⟩)] w (AOpenPost d F w (z3V D)):=by
 obtain⟨Post,hPost⟩:=zX1 (AOpenPost d F w (z3V D));rw[← hPost];refine(callsIn_wide (n:=5)).1 ?_;refine callsIn_of_wp_marks Tryz.func23 rfl trivial ?_ rfl;simp only[Tryz.ntmps23,List.size_toArray,List.length_cons,List.length_nil,Nat.reduceAdd,Nat.reduceSub,Array.replicate_succ,Array.replicate_zero,List.push_toArray,List.append_toArray,List.nil_append,List.cons_append];have hk1:=kal w (.cells #[.pointer none] 36);have hz1:(w.alloc (.cells #[.pointer none] 36)).heap.size=w.heap.size+1:=by simp
 have hn1:=heap_alloc_new w (.cells #[.pointer none] 36);have hn:=heap_alloc_new (w.alloc (.cells #[.pointer none] 36)) (.cells #[.int .i64 0] 33);have hk2:Keep (fun _=>False) (w.alloc (.cells #[.pointer none] 36)) ((w.alloc (.cells #[.pointer none] 36)).alloc (.cells #[.int .i64 0] 33)):=(Keep.refl _ _).alloc _;have hn2:=hk2.get hn1 id;rw[hz1] at hn;have hk:=hk1.nx hk2;obtain⟨w1,hw1⟩:=zX1 ((w.alloc (.cells #[.pointer none] 36)).alloc (.cells #[.int .i64 0] 33));rw[← hw1] at hn hn2 hk;have hop:=zlW w1 d F D (DiskAt.keep hD hk (fun _ _ x=>x)) hfew;have hFl:=DiskAt.lt hD;have H1:=hid (zA1 hn (zA1 hn2 (zA1 hk (zA1 hFl hPost))));clear hk1 hk2 hz1 hn1 hn hn2 hk hD hfew hFl hPost;refine wpIn_wide.2 ?_
 go_upto_region 1 with fail
 rw[← hw1];clear hw1;go_wp2_with (at_builtin;refine z0A ?_;intro q hq);refine hop.mono ?_;intro e w2 hp;clear hop;have hop:=zgS D;obtain⟨sv,rfl,F2,hs2,hk2,hN2⟩:=hp.side;clear hp;obtain⟨hn,hn2,hk,hFl,hPost⟩:=H1.out;have hz:=z0L hn;have r2:=hk2.get hn2 (fun x=>by have:=hFl _ x;omega);have r3:=hk2.get hn (fun x=>by have:=hFl _ x;omega);have hkF:=hk.next hk2 (H:=F) (fun _ _ x=>x.elim) (fun _ _ x=>x);have hNF:∀ i,F2 i→F i∨w.heap.size+2≤i:=fun i x=>(hN2 i x).imp id fun y=>by omega
 clear hn hn2 hk hk2 hN2
 cases ho:(opS D).2.1 with
 | none=>
   rw[ho] at hs2;obtain⟨rfl,hdk⟩:=hs2;have hc0:=SO.op_none ho;have hE:z3V D=((opS D).1,none,(opS D).2.2):=by unfold z3V;rw[ho]
   have HE:=hid (zA1 hE (zA1 hdk (zA1 hkF (zA1 hNF (zA1 r2 (zA1 r3 hPost))))));obtain⟨c,hc⟩:=zX1 ((opS D).1);rw[← hc] at hc0 HE ⊢;have q1:(c != 0)=true:=by simpa using hc0
   have d2:w2.cell? ⟨w.heap.size,0,none⟩=some (.pointer none):=by simp[World.cell?,r2]
   have d3:w2.cell? ⟨w.heap.size+1,0,none⟩=some (.int .i64 0):=by simp[World.cell?,r3]
   have f2:w2.frozen? ⟨w.heap.size,0,none⟩=false:=by simp[World.frozen?,r2]
   have f3:w2.frozen? ⟨w.heap.size+1,0,none⟩=false:=by simp[World.frozen?,r3]
   clear hc hc0 hE hdk hkF hNF r2 r3 hz hPost hop;go_wp2_with (at_builtin;refine z0A ?_;intro q hq);obtain⟨hE,hdk,hkF,hNF,r2,r3,hPost⟩:=HE.out;have g2:=z0C r2 0 (.pointer none);have k2:Keep (fun k=>k=w.heap.size) w2 (w2.setCell ⟨w.heap.size,0,none⟩ (.pointer none)):=kst;have g3:=z0C (k2.get r3 (fun x=>by omega)) 0 (.int .i64 c);have k3:Keep (fun k=>k=w.heap.size+1) (w2.setCell ⟨w.heap.size,0,none⟩ (.pointer none)) ((w2.setCell ⟨w.heap.size,0,none⟩ (.pointer none)).setCell ⟨w.heap.size+1,0,none⟩ (.int .i64 c)):=kst;have g4:=k3.get g2 (fun x=>by omega);have hn2:∀ i,F2 i→i≠w.heap.size∧i≠w.heap.size+1:=fun i x=>(hNF i x).elim (fun y=>by have:=hFl i y;omega) (fun y=>by omega);refine⟨_,z7E rfl _ _ w.heap.size (w.heap.size+1) rfl rfl none c (by simp[World.cell?,g4]) (by simp[World.cell?,g3]) (by kernel_rfl) (by kernel_rfl),?_⟩;rw[hPost,hE];exact⟨_,rfl,F2,⟨rfl,(DkT.lives _ _).keep ((DkT.lives _ _).keep hdk k2 (fun i x=>(hn2 i x).1)) k3 (fun i x=>(hn2 i x).2)⟩,(hkF.next k2 (fun _ _ x=>x) (fun k hk e=>by omega)).next k3 (fun _ _ x=>x) (fun k hk e=>by omega),fun i x=>(hNF i x).imp id fun y=>by omega⟩
 | some S=>
   rw[ho] at hs2;obtain⟨b,rfl,F1,Fd,hst,hF2⟩:=hs2;have hc0:=SO.op_code ho;have hOk:=hop S ho;have hps:=hst.ok;have hfw:=hOk.few hst.facts.count;have hdead:=SO.op_dead ho
   have hE:z3V D=match rd S.ps with | none=>(91,none,(opS D).2.2) | some (b,vs)=>(0,some ⟨S,b,vs⟩,(opS D).2.2):=by
    unfold z3V;rw[ho];rfl
   rw[hc0];have hn3:=heap_alloc_new w2 (.cells #[.pointer (some ⟨b,0,none⟩),.int .u64 0,.int .i64 0,.slice none 0 0,.bool false] 86);have hk3:=kal w2 (.cells #[.pointer (some ⟨b,0,none⟩),.int .u64 0,.int .i64 0,.slice none 0 0,.bool false] 86);have hz3:(w2.alloc (.cells #[.pointer (some ⟨b,0,none⟩),.int .u64 0,.int .i64 0,.slice none 0 0,.bool false] 86)).heap.size=w2.heap.size+1:=by simp
   obtain⟨w3,hw3⟩:=zX1 (w2.alloc (.cells #[.pointer (some ⟨b,0,none⟩),.int .u64 0,.int .i64 0,.slice none 0 0,.bool false] 86));rw[← hw3] at hn3 hk3 hz3;have hn4:=heap_alloc_new w3 (.cells #[.pointer (some ⟨w2.heap.size,0,none⟩)] 36);have hk4:=kal w3 (.cells #[.pointer (some ⟨w2.heap.size,0,none⟩)] 36);have hz4:(w3.alloc (.cells #[.pointer (some ⟨w2.heap.size,0,none⟩)] 36)).heap.size=w3.heap.size+1:=by simp
   obtain⟨w4,hw4⟩:=zX1 (w3.alloc (.cells #[.pointer (some ⟨w2.heap.size,0,none⟩)] 36));rw[← hw4] at hn4 hk4 hz4;rw[hz3] at hn4 hz4;have hst4:=(hst.later hk3).later hk4;have hall:=zjA w4 b d F1 Fd (opS D).2.2 S hst4 (fun h=>by have:=hfw h;omega);have htold:told S=S.ps:=by unfold told;rw[hdead];rfl
   rw[htold] at hall;have H4:=hid (zA1 (hk4.get hn3 id) (zA1 hn4 (zA1 (hk3.nx hk4) (zA1 hst4 (zA1 hE (zA1 hkF (zA1 hNF (zA1 r2 (zA1 r3 (zA1 hPost (zA1 hps (zA1 hfw (zA1 hdead (zA1 hF2 (zA1 hz hz4)))))))))))))));have HW4:=hid (zA1 hw3 hw4);have HLt:=hid hst.ltw;clear hn3 hk3 hz3 hn4 hk4 hz4 hst hst4 hE hkF hNF r2 r3 hPost hps hfw hdead htold hF2 hz hc0 hOk hop hw3 hw4
   go_upto_region 5 with fail
   rw[← HW4.out.1,← HW4.out.2];clear HW4;go_wp2_with (at_builtin;refine z0A ?_;intro q hq);refine hall.mono ?_;rintro e w5 ⟨v,rfl,hs,hk5⟩;obtain⟨hbig,f,caps,rfl,hent,hseq⟩:=hs;have H5:=hid (zA1 hbig (zA1 hent (zA1 hseq hk5)));clear hall hbig hent hseq hk5;have hq:∀ w,(binOp .eql 134 (.func (.func f) #[] caps) .nilFunc).run Tryz.prog w = .ok (.bool false) w:=fun _=>rfl;go_wp2_with (at_builtin;refine z0A ?_;intro q hq);have hn5r2:=(H4.out.2.2.1.nx H5.out.2.2.2).get H4.out.2.2.2.2.2.2.2.1 id;have hn5r3:=(H4.out.2.2.1.nx H5.out.2.2.2).get H4.out.2.2.2.2.2.2.2.2.1 id;have hn5a:=H5.out.2.2.2.get H4.out.1 id;have hn5p:=H5.out.2.2.2.get H4.out.2.1 id;have HN:=hid (zA1 hn5r2 (zA1 hn5r3 (zA1 hn5a hn5p)));have hz4:=H4.out.2.2.2.2.2.2.2.2.2.2.2.2.2.2.2;have hz45:=H5.out.2.2.2.size;have hw12:=z0L H4.out.2.2.2.2.2.2.2.2.1;clear hn5r2 hn5r3 hn5a hn5p hq
   have hKst:∀ k,F1 k∨Fd k→¬ (k=w.heap.size∨k=w.heap.size+1∨w2.heap.size≤k):=fun k x=>by
    have h1:=HLt.out k x;have h2:=H4.out.2.2.2.2.2.2.1 k (by rw[H4.out.2.2.2.2.2.2.2.2.2.2.2.2.2.1];exact x)
    rcases h2 with h2 | h2
    ·have:=hFl k h2;omega
    ·omega
   have hKf:∀ W9,Keep (fun k=>k=w.heap.size∨k=w.heap.size+1∨w2.heap.size≤k) w4 W9→Keep F w W9:=fun W9 h=>
    (H4.out.2.2.2.2.2.1.next H4.out.2.2.1 (fun _ _ x=>x) (fun _ _ x=>x.elim)).next h (fun _ _ x=>x) (fun k hk x=>by omega)
   have hNf:∀ i,F1 i∨Fd i→F i∨w.heap.size≤i:=fun i x=>(H4.out.2.2.2.2.2.2.1 i (by rw[H4.out.2.2.2.2.2.2.2.2.2.2.2.2.2.1];exact x)).imp id fun y=>by omega
   have HBad:=hid (show rd S.ps=none→∀ W9,Keep (fun k=>k=w.heap.size∨k=w.heap.size+1∨w2.heap.size≤k) w4 W9→Post (.returned (.tuple #[.pointer none,.int .i64 91])) W9 from fun h W9 hk=>by
    rw[H4.out.2.2.2.2.2.2.2.2.2.1,H4.out.2.2.2.2.1,h]
    exact⟨_,rfl,Fd,⟨rfl,DiskAt.keep H4.out.2.2.2.1.diskAt hk (fun k x=>hKst k (.inr x))⟩,hKf W9 hk,fun i x=>hNf i (.inr x)⟩)
   have HGood:=hid (show ∀ b9 vs9,rd S.ps=some (b9,vs9)→∀ W9 nv us,W9.heap[w2.heap.size]?=some (.cells (accC b b9 nv false) 86 (0,0))→Votes W9 (fun k=>w5.heap.size≤k) nv vs9 us→
    Keep (fun k=>k=w.heap.size∨k=w.heap.size+1∨w2.heap.size≤k) w4 W9→Post (.returned (.tuple #[.pointer (some ⟨w2.heap.size,0,none⟩),.int .i64 0])) W9 from fun b9 vs9 h W9 nv us hb hv hk=>by
    rw[H4.out.2.2.2.2.2.2.2.2.2.1,H4.out.2.2.2.2.1,h];refine⟨_,rfl,fun k=>k=w2.heap.size∨(F1 k∨Fd k)∨(w5.heap.size≤k∧k<W9.heap.size),⟨_,rfl,b,nv,fun k=>k=w2.heap.size,fun k=>F1 k∨Fd k,_,⟨by rw[H4.out.2.2.2.2.2.2.2.2.2.2.2.2.1];exact hb,rfl,fun k e=>by rw[e];exact z0L hb⟩,⟨F1,Fd,H4.out.2.2.2.1.keep hk (fun k x=>hKst k (.inl x)) (fun k x=>hKst k (.inr x)),rfl⟩,⟨⟨us,hv.lts⟩,fun k x=>x.2⟩,fun k e x=>?_,fun k e x=>?_,fun k x y=>?_,rfl⟩,hKf W9 hk,fun i x=>?_⟩
    ·subst e;exact hKst _ x (.inr (.inr (Nat.le_refl _)))
    ·have h1:k=w2.heap.size:=e
     have h2:=x.1;omega
    ·have h1:=HLt.out k x
     have h2:=y.1;omega
    ·rcases x with x | x | x
     ·exact .inr (by omega)
     ·exact hNf i x
     ·exact .inr (by have:=x.1;omega))
   clear hKst hKf hNf;refine(wpIn_wide (n:=5)).1 ?_
   refine' wpIn_rangeFunc_ownF rfl (by omega) (gf:=f) (lb:=caps) rfl trivial H5.out.2.1 (H5.out.2.2.1 4 w5 (by omega) (Keep.refl _ _)) (fun h k=>h.tr k) (fun W l o o' hl _ _ _=>z3O W l o' (.inr hl)) (Below.refl _ _) (fun _=>rfl)
    (fun pre W=>RIn w5 w2.heap.size b (pre.map Subtype.val) W) (fun cc pre W=>cc = .ret∧ROut w5 w2.heap.size w.heap.size (w.heap.size+1) (pre.map Subtype.val) W) (z7K fun s W W' r h hk h1 hr=>h.turn (Nat.le_refl _) hk h1 hr)
    (fun cc=>z7K fun s W W' r h hk h1 hr=>⟨h.1,h.2.turn (Nat.le_refl _) hk h1 hr⟩)
    ⟨⟨(Bal.zero,[]),.slice none 0 0,[],rfl,HN.out.2.2.1,Votes.nil _ _⟩,Keep.refl _ _⟩ _ ?assign ?body ?done ?stop
   case assign=>
    intro l x W K hK;simp only[encP]
    gi_wp2
    exact hK
   case body=>
    rintro l pre ⟨x,hx⟩ W hR hlt;obtain⟨qs,hqs⟩:=zX1 (pre.map Subtype.val);have hql:qs.length=pre.length:=by rw[hqs,List.length_map]
    have HQ:=hid (show List.map Subtype.val (pre ++ [(⟨x,hx⟩:InP S.ps)])=qs ++ [x] by rw[hqs];simp);rw[← hqs] at hR;rw[← hql] at hlt;clear hqs hql;obtain⟨⟨st,nv,us,e1,e2,e3⟩,hkW⟩:=hR;have hlen:=AC.rdL_len e1;have hpl:=H4.out.2.2.2.2.2.2.2.2.2.2.2.1 H4.out.2.2.2.2.2.2.2.2.2.2.2.2.1;have hsw:=hkW.size;have hok:=H4.out.2.2.2.2.2.2.2.2.2.2.1.each x hx;obtain⟨o1,o2,o3⟩:=hok;have hrd:=zlY W w2.heap.size b w5.heap.size (by omega) hsw st nv us x.1 x.2 e2 e3 (by omega) (by omega) (by simp only[List.length_nil,Nat.zero_add] at hlen;omega);have b1:=hkW.get HN.out.2.2.2 (fun x=>by omega);have b2:=hkW.get HN.out.1 (fun x=>by omega);have b3:=hkW.get HN.out.2.1 (fun x=>by omega);have c6:W.cell? ⟨w2.heap.size+1,0,none⟩=some (.pointer (some ⟨w2.heap.size,0,none⟩)):=by simp[World.cell?,b1]
    have HB:=hid (zA1 e1 (zA1 e2 (zA1 e3 (zA1 hkW (zA1 b2 (zA1 b3 hx))))));have hxp:(fun p:InP S.ps=>p.1) ⟨x,hx⟩=x:=rfl;simp only;clear e1 e2 e3 hkW b1 b2 b3 hlen hpl o1 o2 o3 hlt hxp
    gi_wp2
    refine⟨trivial,(CallsIn.inRound l (callsIn_wide.2 hrd)).mono ?_⟩;rintro e W2 ⟨hk2,hres⟩;clear hrd;obtain⟨e1,e2,e3,hkW,b2,b3,-⟩:=HB.out;have hnr2:¬ (w.heap.size=w2.heap.size∨nv.ownBlock=some w.heap.size):=fun x=>x.elim (fun y=>by omega) (fun y=>by have:w5.heap.size≤w.heap.size:=e3.own _ y;omega);have hnr3:¬ (w.heap.size+1=w2.heap.size∨nv.ownBlock=some (w.heap.size+1)):=fun x=>x.elim (fun y=>by omega) (fun y=>by have:w5.heap.size≤w.heap.size+1:=e3.own _ y;omega);have b2:=hk2.get b2 hnr2;have b3:=hk2.get b3 hnr3
    have hoth:KeepsOthers W W2:=zeO hk2 (fun k h=>by
     rcases h with rfl | h
     ·exact⟨_,_,_,e2⟩
     ·obtain⟨-,⟨h0,-⟩ | ⟨g,cap,cur,fz,h0,hg,-⟩⟩:=e3.row
      ·rw[h0] at h;simp[Value.ownBlock] at h
      ·rw[h0] at h;simp[Value.ownBlock] at h;subst h;exact⟨_,_,_,hg⟩)
    have hkK:Keep (fun k=>k<w4.heap.size∨w5.heap.size≤k) W W2:=hk2.mono fun k _ h=>h.elim (fun y=>.inl (by omega)) (fun y=>.inr (e3.own _ y));have hk5:Keep (fun k=>k=w2.heap.size) w5 W2:=hkW.next hk2 (fun _ _ x=>x) (fun k hk h=>h.elim id fun y=>by have:w5.heap.size≤k:=e3.own _ y;omega)
    cases hr1:rd1 st x with
    | none=>
      have hbad:=AC.rdL_bad e1 hr1;rw[show rd1 st (x.1,x.2)=none from hr1] at hres;subst hres;have d2:W2.cell? ⟨w.heap.size,0,none⟩=some (.pointer none):=by simp[World.cell?,b2]
      have d3:W2.cell? ⟨w.heap.size+1,0,none⟩=some (.int .i64 0):=by simp[World.cell?,b3]
      have f2:W2.frozen? ⟨w.heap.size,0,none⟩=false:=by simp[World.frozen?,b2]
      have f3:W2.frozen? ⟨w.heap.size+1,0,none⟩=false:=by simp[World.frozen?,b3]
      have HC:=hid (zA1 hbad (zA1 b2 (zA1 b3 (zA1 hoth (zA1 hkK hk5)))));clear e1 e2 e3 hkW b2 b3 hnr2 hnr3 hoth hkK hk5 hk2 hbad hr1
      gi_wp2
      obtain⟨hbad,b2,b3,hoth,hkK,hk5⟩:=HC.out;rw[← HQ.out] at hbad;have g2:=z0C b2 0 (.pointer none);have k2:Keep (fun k=>k=w.heap.size) W2 (W2.setCell ⟨w.heap.size,0,none⟩ (.pointer none)):=kst;have g3:=z0C (k2.get b3 (fun x=>by omega)) 0 (.int .i64 91);have k3:Keep (fun k=>k=w.heap.size+1) (W2.setCell ⟨w.heap.size,0,none⟩ (.pointer none)) ((W2.setCell ⟨w.heap.size,0,none⟩ (.pointer none)).setCell ⟨w.heap.size+1,0,none⟩ (.int .i64 91)):=kst;have g4:=k3.get g2 (fun x=>by omega);obtain⟨-,-,-,-,c2,c3,-⟩:=HB.out;refine⟨⟨Nat.le_trans hoth.size (Nat.le_trans k2.size k3.size),fun k o h hc=>?_⟩,rfl,⟨hbad,g4,g3,(hk5.next k2 (H:=fun k=>k=w2.heap.size∨k=w.heap.size∨k=w.heap.size+1) (fun _ _ x=>.inl x) (fun _ _ x=>.inr (.inl x))).next k3 (fun _ _ x=>x) (fun _ _ x=>.inr (.inr x))⟩⟩;refine k3.get (k2.get (hoth.same k o h hc) (fun e=>?_)) (fun e=>?_)
      ·subst e;rw[c2] at h;cases h;cases hc
      ·subst e;rw[c3] at h;cases h;cases hc
    | some st'=>
      rw[show rd1 st (x.1,x.2)=some st' from hr1] at hres;obtain⟨rfl,nv',us',g1,g2⟩:=hres;have HC:=hid (show RIn w5 w2.heap.size b (qs ++ [x]) W2 from⟨⟨st',nv',us',AC.rdL_next e1 hr1,g1,g2⟩,hk5⟩);have HD:=hid (zA1 hoth hkK);clear e1 e2 e3 hkW b2 b3 hnr2 hnr3 hoth hkK hk5 hk2 hr1 g1 g2
      gi_wp2
      have hz:=HC.out;rw[← HQ.out] at hz;exact⟨HD.out.1,HD.out.2,hz⟩
   case done=>
    rintro Db xs W hD rfl hR hK;rw[List.attach_map_subtype_val] at hR;obtain⟨⟨st,nv,us,e1,e2,e3⟩,hkW⟩:=hR;obtain⟨ao,nc,rfl,hnc,hncm,-⟩:=e3.row.form;obtain⟨n,hn⟩:=zX1 (st.2.length);have hlen:=AC.rdL_len e1;have hpl:=H4.out.2.2.2.2.2.2.2.2.2.2.2.1 H4.out.2.2.2.2.2.2.2.2.2.2.2.2.1;have hn6:n≤200000:=by simp only[List.length_nil,Nat.zero_add] at hlen;omega
    have b1:=hkW.get HN.out.2.2.2 (fun x=>by omega);have b2:=hkW.get HN.out.1 (fun x=>by omega);have b3:=hkW.get HN.out.2.1 (fun x=>by omega);have c6:W.cell? ⟨w2.heap.size+1,0,none⟩=some (.pointer (some ⟨w2.heap.size,0,none⟩)):=by simp[World.cell?,b1]
    have e2':=e2;rw[← hn] at e2';obtain⟨p0,p1,p2,p3,p4,pf,pb⟩:=z2C e2';have HB:=hid (zA1 e1 (zA1 e2 (zA1 e3 (zA1 hkW (zA1 b2 (zA1 b3 (zA1 hK (zA1 hD (zA1 hn (zA1 b1 trivial))))))))));clear e1 e2 e3 hkW b1 b2 b3 hK hD hn e2' hlen hpl p0 p4 pf pb hnc;go_wp2_with (at_builtin;refine z0A ?_;intro q hq)
    go_loopw [36] (fun iv wr=>∃ i:Nat,i≤n∧iv = .int .i64 i∧Hid (Keep (fun _=>False) W wr∧∀ j (hj:j<st.2.length),j<i→less st.1 st.2[j].bal=false)) (fun iv _=>n - (intOf iv).toNat)
    case atStart=>exact⟨0,Nat.zero_le _,rfl,hid ⟨Keep.refl _ _,fun j _ x=>by omega⟩⟩
    case round=>
     obtain⟨i,hi,rfl,HR⟩:=hrel;have c6:=z0E HR.out.1 _ _ c6;have p1:=z0E HR.out.1 _ _ p1;have p2:=z0E HR.out.1 _ _ p2
     by_cases hin:i<n
     ·have q1:(i:Int)<(n:Int):=by omega
      have hil:i<st.2.length:=by have:=HB.out.2.2.2.2.2.2.2.2.1;omega
      obtain⟨g',ua,uc,rfl,hcell,-⟩:=(HB.out.2.2.1.keep HR.out.1 (fun _ _ x=>x)).get i hil;obtain⟨x,hx⟩:=zX1 (st.2[i]);rw[← hx] at hcell;obtain⟨xl,hxl⟩:=zX1 (x.val.length);have a0:=hcell 0 _ rfl;have a1:=hcell 1 _ rfl;have a2:=hcell 2 _ rfl;have a3:=hcell 3 _ rfl;rw[Nat.add_zero] at a0;rw[← hxl] at a3;have HX:=hid (show ∃ h:i<st.2.length,x=st.2[i] from⟨hil,hx⟩);clear hcell hx hxl hil
      go_upto_region 13 with fail
      have hn2:=heap_alloc_new wr (.cells #[.int .u64 (x.slot:Int),.int .u64 (x.bal.n:Int),.int .i64 x.bal.node,.slice ua xl uc] 31);have hk2:=kal wr (.cells #[.int .u64 (x.slot:Int),.int .u64 (x.bal.n:Int),.int .i64 x.bal.node,.slice ua xl uc] 31);obtain⟨w6,hw6⟩:=zX1 (wr.alloc (.cells #[.int .u64 (x.slot:Int),.int .u64 (x.bal.n:Int),.int .i64 x.bal.node,.slice ua xl uc] 31));rw[← hw6] at hn2 hk2 ⊢;clear hw6 a0 a1 a2 a3;obtain⟨a0,a1,a2,a3,af,ab⟩:=z5F hn2;obtain⟨lb,hlb⟩:=zX1 (less st.1 x.bal);have HL1:=hid (fun s:Later w6=>show Calls Tryz.prog 36 #[balV st.1,balV x.bal] s.val fun e w'=>e = .returned (.bool lb)∧Keep (fun _=>False) s.val w' from by rw[hlb];exact z8F s.val st.1 x.bal);have HLB:=hid hlb;have j0:=fun s:Later w6=>s.cell (z0E hk2 _ _ c6);have j1:=fun s:Later w6=>s.cell (z0E hk2 _ _ p1);have j2:=fun s:Later w6=>s.cell (z0E hk2 _ _ p2);have j3:=fun s:Later w6=>s.cell a1;have j4:=fun s:Later w6=>s.cell a2;have HK:=hid (HR.out.1.nx hk2);clear hlb hk2 hn2 a0 a3 af ab
      (refine z0X (by kernel_rfl) (by kernel_rfl) ?_;(repeat (go_big_quiet_step ((go_at_call 36;exact Later.call (HL1.out _)))));refine wpQuiet_nil ?_;rintro _ ⟨sq,rfl⟩)
      have hk3:=sq.keep;obtain⟨w7,hw7⟩:=zX1 (sq.val);rw[← hw7] at hk3 ⊢;clear hw7 sq j0 j1 j2 j3 j4 HL1;have HK:=hid (HK.out.nx hk3);clear hk3
      cases lb with
      | true=>
        have b2:=HK.out.get HB.out.2.2.2.2.1 id;have b3:=HK.out.get HB.out.2.2.2.2.2.1 id;have d2:w7.cell? ⟨w.heap.size,0,none⟩=some (.pointer none):=by simp[World.cell?,b2]
        have d3:w7.cell? ⟨w.heap.size+1,0,none⟩=some (.int .i64 0):=by simp[World.cell?,b3]
        have f2:w7.frozen? ⟨w.heap.size,0,none⟩=false:=by simp[World.frozen?,b2]
        have f3:w7.frozen? ⟨w.heap.size+1,0,none⟩=false:=by simp[World.frozen?,b3]
        have H7:=hid (zA1 b2 b3);clear b2 b3;go_wp2_with (at_builtin;refine z0A ?_;intro q hq);have hD:=HB.out.2.2.2.2.2.2.2.1;have g2:=z0C H7.out.1 0 (.pointer none);have k2:Keep (fun k=>k=w.heap.size) w7 (w7.setCell ⟨w.heap.size,0,none⟩ (.pointer none)):=kst;have g3:=z0C (k2.get H7.out.2 (fun x=>by omega)) 0 (.int .i64 91);have k3:Keep (fun k=>k=w.heap.size+1) (w7.setCell ⟨w.heap.size,0,none⟩ (.pointer none)) ((w7.setCell ⟨w.heap.size,0,none⟩ (.pointer none)).setCell ⟨w.heap.size+1,0,none⟩ (.int .i64 91)):=kst;have g4:=k3.get g2 (fun x=>by omega);have hK8:=k3.get (k2.get (HK.out.get HB.out.2.2.2.2.2.2.1 id) (fun x=>by omega)) (fun x=>by omega);obtain⟨w8,hw8⟩:=zX1 ((w7.setCell ⟨w.heap.size,0,none⟩ (.pointer none)).setCell ⟨w.heap.size+1,0,none⟩ (.int .i64 91));rw[← hw8] at g3 g4 k3 hK8 ⊢;have hkD:=z3O (K:=fun k=>k=Db) w8 Db (.deferred none) rfl;have g5:=hkD.get g3 (fun x=>by omega);have g6:=hkD.get g4 (fun x=>by omega);refine⟨by simp,.inl ⟨_,_,rfl,run_takeDeferred hK8,?_⟩⟩;refine⟨_,z7E rfl _ _ w.heap.size (w.heap.size+1) rfl rfl none 91 (by simp[World.cell?,g6]) (by simp[World.cell?,g5]) (by kernel_rfl) (by kernel_rfl),HBad.out ?_ _ ?_⟩
        ·obtain⟨h1,h2⟩:=HX.out
         unfold rd;rw[HB.out.1];simp only;rw[if_pos];exact List.any_eq_true.2 ⟨x,by rw[h2];exact List.getElem_mem _,HLB.out.symm⟩
        ·exact((((H5.out.2.2.2.next HB.out.2.2.2.1 (fun _ _ x=>x.elim) (fun k _ e=>.inr (.inr (by rw[show k=w2.heap.size from e];exact Nat.le_refl _)))).next HK.out (fun _ _ x=>x) (fun _ _ x=>x.elim)).next k2 (fun _ _ x=>x) (fun _ _ e=>.inl e)).next k3 (fun _ _ x=>x) (fun _ _ e=>.inr (.inl e))).next hkD (fun _ _ x=>x) (fun k _ e=>.inr (.inr (by rw[show k=Db from e];omega)))
      | false=>
        have HZ:=hid (show Keep (fun _=>False) W w7∧∀ j (hj:j<st.2.length),j<i+1→less st.1 st.2[j].bal=false from⟨HK.out,fun j hj hji=>by
         rcases Nat.lt_or_eq_of_le (Nat.le_of_lt_succ hji) with y | y
         ·exact HR.out.2 j hj y
         ·subst y
          obtain⟨h1,h2⟩:=HX.out;rw[← h2]
          exact HLB.out.symm⟩)
        go_wp2_with (at_builtin;refine z0A ?_;intro q hq);go_roundw
        case rel=>exact⟨i+1,by omega,by go_num,HZ⟩
        case measure=>simp[intOf];omega
     ·have q1:decide ((i:Int)<(n:Int))=false:=by simp;omega
      have q2:decide (i<n)=false:=decide_eq_false hin;have b2:=HR.out.1.get HB.out.2.2.2.2.1 id;have b3:=HR.out.1.get HB.out.2.2.2.2.2.1 id;have d2:wr.cell? ⟨w.heap.size,0,none⟩=some (.pointer none):=by simp[World.cell?,b2]
      have d3:wr.cell? ⟨w.heap.size+1,0,none⟩=some (.int .i64 0):=by simp[World.cell?,b3]
      have f2:wr.frozen? ⟨w.heap.size,0,none⟩=false:=by simp[World.frozen?,b2]
      have f3:wr.frozen? ⟨w.heap.size+1,0,none⟩=false:=by simp[World.frozen?,b3]
      have H7:=hid (zA1 b2 b3);clear b2 b3;go_wp2_with (at_builtin;refine z0A ?_;intro q hq);have hD:=HB.out.2.2.2.2.2.2.2.1;have g2:=z0C H7.out.1 0 (.pointer (some ⟨w2.heap.size,0,none⟩));have k2:Keep (fun k=>k=w.heap.size) wr (wr.setCell ⟨w.heap.size,0,none⟩ (.pointer (some ⟨w2.heap.size,0,none⟩))):=kst;have g3:=z0C (k2.get H7.out.2 (fun x=>by omega)) 0 (.int .i64 0);have k3:Keep (fun k=>k=w.heap.size+1) (wr.setCell ⟨w.heap.size,0,none⟩ (.pointer (some ⟨w2.heap.size,0,none⟩))) ((wr.setCell ⟨w.heap.size,0,none⟩ (.pointer (some ⟨w2.heap.size,0,none⟩))).setCell ⟨w.heap.size+1,0,none⟩ (.int .i64 0)):=kst;have g4:=k3.get g2 (fun x=>by omega);have hK8:=k3.get (k2.get (HR.out.1.get HB.out.2.2.2.2.2.2.1 id) (fun x=>by omega)) (fun x=>by omega);obtain⟨w8,hw8⟩:=zX1 ((wr.setCell ⟨w.heap.size,0,none⟩ (.pointer (some ⟨w2.heap.size,0,none⟩))).setCell ⟨w.heap.size+1,0,none⟩ (.int .i64 0));rw[← hw8] at g3 g4 k3 hK8 ⊢;have hkD:=z3O (K:=fun k=>k=Db) w8 Db (.deferred none) rfl;have g5:=hkD.get g3 (fun x=>by omega);have g6:=hkD.get g4 (fun x=>by omega)
      have hkz:Keep (fun k=>k=w.heap.size∨k=w.heap.size+1∨k=Db) W (w8.putObj Db (.deferred none)):=
       (((HR.out.1.next k2 (H:=fun k=>k=w.heap.size∨k=w.heap.size+1∨k=Db) (fun _ _ x=>x.elim) (fun _ _ e=>.inl e)).next k3 (fun _ _ x=>x) (fun _ _ e=>.inr (.inl e))).next hkD (fun _ _ x=>x) (fun _ _ e=>.inr (.inr e)))
      have hnb:∀ k,w5.heap.size≤k→k≠Db→¬ (k=w.heap.size∨k=w.heap.size+1∨k=Db):=fun k h1 h2=>by omega
      refine⟨by simp,.inl ⟨_,_,rfl,run_takeDeferred hK8,?_⟩⟩;refine⟨_,z7E rfl _ _ w.heap.size (w.heap.size+1) rfl rfl (some ⟨w2.heap.size,0,none⟩) 0 (by simp[World.cell?,g6]) (by simp[World.cell?,g5]) (by kernel_rfl) (by kernel_rfl),HGood.out st.1 st.2 ?_ _ _ us (hkz.get HB.out.2.1 (fun x=>by omega)) ?_ ?_⟩
      ·unfold rd
       rw[HB.out.1];simp only;rw[if_neg];intro h;obtain⟨v,hv,h2⟩:=List.any_eq_true.1 h;obtain⟨j,hj,e⟩:=List.mem_iff_getElem.1 hv;have:=HR.out.2 j hj (by have:=HB.out.2.2.2.2.2.2.2.2.1;omega);rw[e] at this;rw[this] at h2;cases h2
      ·exact(((HB.out.2.2.1.keep HR.out.1 (fun _ _ x=>x)).keep k2 (fun k x e=>by have h1:w5.heap.size≤k:=x;have h2:k=w.heap.size:=e;omega)).keep k3 (fun k x e=>by have h1:w5.heap.size≤k:=x;have h2:k=w.heap.size+1:=e;omega)).turn (r:=some Db) (hkD.mono fun k _ e=>by subst e;rfl) (fun k e=>by cases e;exact⟨_,hK8,rfl⟩)
      ·exact(H5.out.2.2.2.next HB.out.2.2.2.1 (fun _ _ x=>x.elim) (fun k _ e=>.inr (.inr (by rw[show k=w2.heap.size from e];exact Nat.le_refl _)))).next hkz (fun _ _ x=>x) (fun k _ e=>e.elim .inl fun e=>e.elim (fun e=>.inr (.inl e)) fun e=>.inr (.inr (by omega)))
   case stop=>
    rintro Db cc pre W hD hpre ⟨rfl,hR⟩ hK
    have hbad:rdL (Bal.zero,[]) S.ps=none:=by
     obtain⟨t,ht⟩:=hpre;have h2:=congrArg (List.map Subtype.val) ht;rw[List.attach_map_subtype_val,List.map_append] at h2;rw[← h2,AC.rdL_append,hR.bad]
    have hrd:rd S.ps=none:=by unfold rd;rw[hbad]
    have hkD:=z3O (K:=fun k=>k=Db) W Db (.deferred none) rfl;have hDl:=hR.keep.size;have g5:=hkD.get hR.c3 (fun x=>by omega);have g6:=hkD.get hR.c2 (fun x=>by omega);have hbk:=HBad.out hrd (W.putObj Db (.deferred none)) ((H5.out.2.2.2.next hR.keep (H:=fun k=>k=w.heap.size∨k=w.heap.size+1∨w2.heap.size≤k) (fun _ _ x=>x.elim) (fun k _ e=>e.elim (fun e=>.inr (.inr (by omega))) fun e=>e.elim .inl fun e=>.inr (.inl e))).next hkD (fun _ _ x=>x) (fun k _ e=>.inr (.inr (by rw[show k=Db from e];omega))));have HZ:=hid (zA1 hbk (zA1 g5 (zA1 g6 hK)));clear hbk g5 g6 hK hkD hDl hrd hbad hpre hR;refine wpIn_wide.2 ?_;go_wp2_with (at_builtin;refine z0A ?_;intro q hq);obtain⟨hbk,g5,g6,hK⟩:=HZ.out;refine⟨by simp,.inl ⟨_,_,rfl,run_takeDeferred hK,?_⟩⟩;exact⟨_,z7E rfl _ _ w.heap.size (w.heap.size+1) rfl rfl none 91 (by simp[World.cell?,g6]) (by simp[World.cell?,g5]) (by kernel_rfl) (by kernel_rfl),hbk⟩
end
section
open Go.RowKit Go.Maps
open MI SO BM DM WM AC
def RAcP (d:Nat) (D:Dk) (o:Option Ac) (rv:Value):Thing:=fun w F=>
 match o with
 | none=>rv = .pointer none∧RkT d D w F
 | some A=>∃ a,rv = .pointer (some ⟨a,0,none⟩)∧RAcT a d D A.s w F
theorem RAcP.lives (d:Nat) (D:Dk) (o:Option Ac) (rv:Value):Lives (RAcP d D o rv):=by
 cases o with
 | none=>exact⟨fun h hk hn=>⟨h.1,(RkT.lives d D).keep h.2 hk hn⟩,fun h=>(RkT.lives d D).lt h.2⟩
 | some A=>exact⟨fun ⟨b,h1,h2⟩ hk hn=>⟨b,h1,(RAcT.lives b d D A.s).keep h2 hk hn⟩,fun ⟨b,_,h2⟩=>(RAcT.lives b d D A.s).lt h2⟩
def RAOpenPost (d:Nat) (F:Nat→Prop) (w:World) (R:Int×Option Ac×Dk) (e:Ending) (w':World):Prop:=
 ∃ rv,e = .returned (.tuple #[rv,.int .i64 R.1])∧Turns (RAcP d R.2.2 R.2.1 rv) F w w'
theorem RStoT.count {b d:Nat} {D:Dk} {S:St} {w:World} {F:Nat→Prop} (h:RStoT b d D S w F):S.g.l.length≤4000∧PsOk S.ps:=by
 obtain⟨F1,F2,⟨wb,pv,Fl,H⟩,-⟩:=h;obtain⟨vl,vs,L⟩:=H.log;exact⟨L.wal.ok.count,H.ok⟩
theorem AC.openA_none {D:Dk} (ho:(opS D).2.1=none):z3V D=((opS D).1,none,(opS D).2.2):=by unfold z3V;rw[ho]
theorem AC.openA_bad {D:Dk} {S:St} (ho:(opS D).2.1=some S) (hs:Sorted S.ps) (h:z8I S.ps=false):z3V D=(91,none,(opS D).2.2):=by
 rw[zeT hs] at h;unfold z3V;rw[ho];simp only
 cases hr:rd S.ps with
 | none=>rfl
 | some st=>rw[hr] at h;cases h
theorem AC.openA_good {D:Dk} {S:St} (ho:(opS D).2.1=some S) (hs:Sorted S.ps) (h:z8I S.ps=true):∃ b vs,z3V D=(0,some ⟨S,b,vs⟩,(opS D).2.2):=by
 rw[zeT hs] at h;unfold z3V;rw[ho];simp only
 cases hr:rd S.ps with
 | none=>rw[hr] at h;cases h
 | some st=>exact⟨st.1,st.2,rfl⟩
theorem AC.docOk_no {ps:List (Str×Str)} {x:Str×Str} (hx:x ∈ ps) (h:z4E (docB ps) x=false):z8I ps=false:=by
 unfold z8I;rw[List.all_eq_false];exact⟨x,hx,by rw[h];decide⟩
theorem AC.docOk_yes {ps:List (Str×Str)} (h:∀ j (hj:j<ps.length),z4E (docB ps) ps[j]=true):z8I ps=true:=by
 unfold z8I;rw[List.all_eq_true];intro x hx;obtain⟨j,hj,rfl⟩:=List.mem_iff_getElem.1 hx;exact h j hj
end
end Go.Proofs.YtkjofdocgaiedaaGreat
