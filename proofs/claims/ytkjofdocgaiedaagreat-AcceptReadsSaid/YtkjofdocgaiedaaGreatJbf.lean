/- Texts AccW, AcdM, AccY, AcdN, AccZ, AcdO, StpN in one. Conditions: as each law names them. -/
import Derived.Deep.CutBlock
import Derived.Deep.DeepCutAuto
import Derived.Test.YtkjofdocgaiedaaGreatJah
import Derived.Test.YtkjofdocgaiedaaGreatJaz
import Derived.Test.YtkjofdocgaiedaaGreatJba
import Derived.Test.YtkjofdocgaiedaaGreatJbd
import Derived.Test.YtkjofdocgaiedaaGreatJbe
set_option maxRecDepth 20000
set_option maxHeartbeats 8000000
namespace Go.Proofs.YtkjofdocgaiedaaGreat
section
open Go.RowKit Go.Maps
open MI SO BM DM WM AC
def PrepPost (a d:Nat) (F:Nat→Prop) (w:World) (R:(List Vt×Bal×Int)×Dk×Ac) (e:Ending) (w':World):Prop:=
 ∃ v us Fv F',e = .returned (.tuple #[v,balV R.1.2.1,.int .i64 R.1.2.2])∧AcT a d R.2.1 R.2.2 w' F'∧Keep F w w'∧(∀ i,F' i→F i∨w.heap.size≤i)∧Votes w' Fv v R.1.1 us∧(∀ k,Fv k→w.heap.size≤k∧¬ F' k)∧Apart us
theorem Turns.shut {T:Thing} {w w9 w10:World} {F F9:Nat→Prop} {g B:Nat} (LT:Lives T) (hT:T w9 F9) (hk:Keep F w w9) (hF:∀ i,F i→i<w.heap.size) (h9:∀ i,F9 i→F i∨B≤i) (hgB:g<B) (hg:w.heap.size≤g) (hkz:Keep (fun k=>k=g) w9 w10) :
  T w10 F9∧Keep F w w10∧∀ i,F9 i→F i∨w.heap.size≤i:=
 ⟨LT.keep hT hkz fun i x e=>by
  have e':i=g:=e
  rcases h9 i x with y | y
  ·have:=hF i y;omega
  ·omega,hk.next hkz (fun _ _ x=>x) (fun k hk x=>by omega),fun i x=>(h9 i x).imp id fun y=>by omega⟩
theorem Turns.shut0 {T:Thing} {w w9 w10:World} {F:Nat→Prop} {g:Nat} (LT:Lives T) (hT:T w F) (hk:Keep (fun _=>False) w w9) (hg:w.heap.size≤g) (hkz:Keep (fun k=>k=g) w9 w10) :
  T w10 F∧Keep F w w10∧∀ i,F i→F i∨w.heap.size≤i:=
 ⟨LT.keep hT (hk.next hkz (H:=fun _=>False) (fun _ _ x=>x) (fun k hk x=>by omega)) (fun _ _ x=>x),(hk.next hkz (H:=fun _=>False) (fun _ _ x=>x) (fun k hk x=>by omega)).mono (fun _ _ x=>x.elim),fun i x=>.inl x⟩
theorem AC.AOk.lens {A:Ac} (h:AOk A) (hd:A.s.dead=false) (hm:A.s.ps.length≤900000):Rise A.vs∧(∀ v ∈ A.vs,v.val.length≤1000)∧A.vs.length≤1000000:=by
 have hok:=h.ok hd;refine⟨hok.rise,fun v hv=>by have:=(hok.each v hv).val;omega,?_⟩;have h2:=h.ps hd;rw[h2] at hm;unfold AC.encP at hm;rw[List.length_append,List.length_map] at hm;omega
theorem zcA {a d:Nat} {D:Dk} {A:Ac} {F:Nat→Prop} {w w2:World} {g:Nat} {x0 x1:Value} (hT:AcT a d D A w F) (hk:Keep (fun _=>False) w w2) (hg:w.heap.size≤g) (h:w2.heap[g]?=some (.cells #[x0,x1] 28 (0,0))) (B:Bal) (c:Int) :
  (∀ j u,[Value.int .u64 (B.n:Int),.int .i64 B.node][j]?=some u→((w2.setCell ⟨g,0,none⟩ (.int .u64 (B.n:Int))).setCell ⟨g,1,none⟩ (.int .i64 B.node)).cell? ⟨g,j,none⟩=some u)∧
  PrepPost a d F w (([],B,c),D,A) (.returned (.tuple #[.slice none 0 0,balV B,.int .i64 c])) ((w2.setCell ⟨g,0,none⟩ (.int .u64 (B.n:Int))).setCell ⟨g,1,none⟩ (.int .i64 B.node)):=by
 obtain⟨g1,g2,-⟩:=z5F w2 g _ _ h (.int .u64 (B.n:Int)) (.int .i64 B.node);obtain⟨h1,h2,h3⟩:=Turns.shut0 (AcT.lives a d D A) hT hk hg g2;exact⟨g1,.slice none 0 0,[],fun _=>False,F,rfl,h1,h2,h3,Votes.nil _ _,fun _ x=>x.elim,Apart.nil⟩
theorem zgH {a d:Nat} {D:Dk} {A:Ac} {F F9:Nat→Prop} {w w9:World} {g B:Nat} {x0 x1:Value} (hT:AcT a d D A w9 F9) (hk:Keep F w w9) (hF:∀ i,F i→i<w.heap.size) (h9:∀ i,F9 i→F i∨B≤i) (hgB:g<B) (hg:w.heap.size≤g)
  (h:w9.heap[g]?=some (.cells #[x0,x1] 28 (0,0))) (v:Value) (vs:List Vt) (us:List Value) (Fv:Nat→Prop) (hv:Votes w9 Fv v vs us) (hFv:∀ k,Fv k→g<k∧¬ F9 k) (hap:Apart us) (b:Bal) (c:Int) :
  (∀ j u,[Value.int .u64 (b.n:Int),.int .i64 b.node][j]?=some u→((w9.setCell ⟨g,0,none⟩ (.int .u64 (b.n:Int))).setCell ⟨g,1,none⟩ (.int .i64 b.node)).cell? ⟨g,j,none⟩=some u)∧
  PrepPost a d F w ((vs,b,c),D,A) (.returned (.tuple #[v,balV b,.int .i64 c])) ((w9.setCell ⟨g,0,none⟩ (.int .u64 (b.n:Int))).setCell ⟨g,1,none⟩ (.int .i64 b.node)):=by
 obtain⟨g1,g2,-⟩:=z5F w9 g _ _ h (.int .u64 (b.n:Int)) (.int .i64 b.node);obtain⟨h1,h2,h3⟩:=Turns.shut (AcT.lives a d D A) hT hk hF h9 hgB hg g2;exact⟨g1,v,us,Fv,F9,rfl,h1,h2,h3,hv.keep g2 (fun k x e=>by have:=(hFv k x).1;have e':k=g:=e;omega),fun k x=>⟨by have:=(hFv k x).1;omega,(hFv k x).2⟩,hap⟩
structure PrepIn (w:World) (a d:Nat) (D:Dk) (A:Ac) (F:Nat→Prop) (b:Bal) (k:Nat) (g:Nat) (wx:World):Prop where
 ex:∃ D' A' F',z2Y D A b k=((z7L A'.vs k,b,0),D',A')∧A'.b=b∧A'.s.dead=false∧A'.vs=A.vs∧AcT a d D' A' wx F'∧∀ i,F' i→F i∨g<i
 keep:Keep F w wx
 box:wx.heap[w.heap.size]?=some (.cells (balC b) 28 (0,0))
 res:wx.heap[g]?=some (.cells #[.int .u64 0,.int .i64 0] 28 (0,0))
theorem zrA (w:World) (b:Bal) (hb:(AC.putB b).length≤maxLen):Chs (w.alloc (.cells #[.string (str pK),.string (str (AC.putB b)),.bool false] 63)) (.slice (some ⟨w.heap.size,0,none⟩) 1 1) (z5I b):=
 Chs.of_row ⟨rfl,.inr ⟨_,1,_,(0,0),rfl,heap_alloc_new w _,Free.zero _,Nat.le_refl _,by decide,rfl,rfl⟩⟩ (fun c hc=>by
  unfold z5I at hc;simp at hc;subst hc
  exact⟨show pK.length≤maxLen by decide,hb⟩)
theorem AC.putB_len (b:Bal):(AC.putB b).length≤20:=by
 have h1:=zbI b.n;have h2:=zbI b.node.toNat;unfold AC.putB;rw[List.length_append];omega
theorem zbK (w:World) (a d:Nat) (D:Dk) (A:Ac) (F:Nat→Prop) (H:AcT a d D A w F) (hO:AOk A) (hm:A.s.dead=false→A.s.ps.length≤900000) (hfew:D.waits.length≤490000) (b:Bal) (hb:b.n<18446744073709551616) (k:Nat) :
  Calls Tryz.prog 11 #[.pointer (some ⟨a,0,none⟩),balV b,.int .u64 (k:Int)] w (PrepPost a d F w (z2Y D A b k)):=by
 obtain⟨Post,hPost⟩:=zX1 (PrepPost a d F w (z2Y D A b k));rw[← hPost];have hn1:=heap_alloc_new w (.cells (balC b) 28);have hk1:=kal w (.cells (balC b) 28);have hz1:(w.alloc (.cells (balC b) 28)).heap.size=w.heap.size+1:=by simp
 have hn:=heap_alloc_new (w.alloc (.cells (balC b) 28)) (.cells #[.int .u64 0,.int .i64 0] 28);have hk2:Keep (fun _=>False) (w.alloc (.cells (balC b) 28)) ((w.alloc (.cells (balC b) 28)).alloc (.cells #[.int .u64 0,.int .i64 0] 28)):=(Keep.refl _ _).alloc _;have hz2:((w.alloc (.cells (balC b) 28)).alloc (.cells #[.int .u64 0,.int .i64 0] 28)).heap.size=w.heap.size+2:=by simp
 rw[hz1] at hn;have hn1b:=hk2.get hn1 id;have hk:=hk1.nx hk2;clear hk1 hk2 hn1 hz1;have HP:=hid hPost;have H0:=hid (zA1 H (zA1 hO (zA1 hm (zA1 hfew hb))));clear hPost H hO hm hfew hb;go_enter Tryz.func11,Tryz.ntmps11
 go_upto_region 1 with fail
 obtain⟨w1,hw1⟩:=zX1 ((w.alloc (.cells (balC b) 28)).alloc (.cells #[.int .u64 0,.int .i64 0] 28));rw[← hw1] at hn hn1b hk hz2 ⊢;clear hw1;obtain⟨g,hg⟩:=zX1 (w.heap.size+1);rw[← hg] at hn ⊢;have LA:=AcT.lives a d D A;have HA1:=LA.keep H0.out.1 hk (fun _ _ x=>x);obtain⟨sb,nv,X,Y,Z,hbox,hst,hvt,d1,d2,d3,hF⟩:=HA1;obtain⟨p0,p1,p2,p3,p4,pf,pb⟩:=z1Z hbox.1;have b0:w1.cell? ⟨w.heap.size,0,none⟩=some (.int .u64 (b.n:Int)):=by simp[World.cell?,hn1b]
 have b1:w1.cell? ⟨w.heap.size,1,none⟩=some (.int .i64 b.node):=by simp[World.cell?,hn1b]
 have hrt:=z9L w1 b;have H1:=hid (zA1 hn (zA1 hk (zA1 hg (zA1 hz2 (zA1 hn1b (zA1 hbox (zA1 hst (zA1 hvt (zA1 d1 (zA1 d2 (zA1 d3 hF)))))))))));clear hn hk hg hz2 hn1b hbox hst hvt d1 d2 d3 hF p0 p3 pf LA;obtain⟨rb,hrb⟩:=zX1 (z3B b);rw[← hrb] at hrt;have HR:=hid hrb;clear hrb;go_wp2_with (at_builtin;refine z0A ?_;intro q hq);refine hrt.mono ?_;rintro e w2 ⟨rfl,hk2⟩;clear hrt;have b0:=z0E hk2 _ _ b0;have b1:=z0E hk2 _ _ b1;have p1:=z0E hk2 _ _ p1;have p2:=z0E hk2 _ _ p2;have p4:=z0E hk2 _ _ p4;have r0:=hk2.get H1.out.1 id
 cases rb with
 | false=>
   have d0:w2.cell? ⟨g,0,none⟩=some (.int .u64 0):=by simp[World.cell?,r0]
   have d1:w2.cell? ⟨g,1,none⟩=some (.int .i64 0):=by simp[World.cell?,r0]
   have f0:∀ o,w2.frozen? ⟨g,o,none⟩=false:=fun o=>by simp[World.frozen?,r0]
   have HK:=hid hk2;have R0:=hid r0;clear hk2 r0;go_wp2_with (at_builtin;refine z0A ?_;intro q hq);obtain⟨q1,q2⟩:=zcA H0.out.1 (H1.out.2.1.nx HK.out) (by have:=H1.out.2.2.1;omega) R0.out Bal.zero 2;refine bodyPost_ret (z4R rfl _ _ g rfl _ q1 _ Tryz.underlying28 rfl (by kernel_rfl)) rfl ?_;have hE:z2Y D A b k=(([],Bal.zero,2),D,A):=by unfold z2Y;rw[if_pos HR.out.symm]
   rw[HP.out,hE];exact q2
 | true=>
   have hR2:=HR.out;obtain⟨dd,hdd⟩:=zX1 (A.s.dead);rw[← hdd] at p4;have HD:=hid hdd;clear hdd hR2
   cases dd with
   | true=>
     have d0:w2.cell? ⟨g,0,none⟩=some (.int .u64 0):=by simp[World.cell?,r0]
     have d1:w2.cell? ⟨g,1,none⟩=some (.int .i64 0):=by simp[World.cell?,r0]
     have f0:∀ o,w2.frozen? ⟨g,o,none⟩=false:=fun o=>by simp[World.frozen?,r0]
     have HK:=hid hk2;have R0:=hid r0;clear hk2 r0;go_wp2_with (at_builtin;refine z0A ?_;intro q hq);obtain⟨q1,q2⟩:=zcA H0.out.1 (H1.out.2.1.nx HK.out) (by have:=H1.out.2.2.1;omega) R0.out Bal.zero 6;refine bodyPost_ret (z4R rfl _ _ g rfl _ q1 _ Tryz.underlying28 rfl (by kernel_rfl)) rfl ?_;have hE:z2Y D A b k=(([],Bal.zero,6),D,A):=by unfold z2Y;rw[if_neg (by rw[← HR.out];decide),if_pos HD.out.symm]
     rw[HP.out,hE];exact q2
   | false=>
     obtain⟨lb,hlb⟩:=zX1 (less b A.b);have HL1:=hid (fun s:Later w2=>show Calls Tryz.prog 36 #[balV b,balV A.b] s.val fun e w'=>e = .returned (.bool lb)∧Keep (fun _=>False) s.val w' from by rw[hlb];exact z8E s.val b A.b);have HLB:=hid hlb;have HK:=hid hk2;clear hlb hk2 r0
     go_upto_region 7 with fail
     have j0:=fun s:Later w2=>s.cell b0;have j1:=fun s:Later w2=>s.cell b1;have j2:=fun s:Later w2=>s.cell p1;have j3:=fun s:Later w2=>s.cell p2
     (refine z0W (by kernel_rfl) (by kernel_rfl) ?_;(repeat (go_big_quiet_step ((go_at_call 36;exact Later.call (HL1.out _)))));refine wpQuiet_nil ?_;rintro _ ⟨sq,rfl⟩)
     have hk3:=sq.keep;obtain⟨w3,hw3⟩:=zX1 (sq.val);rw[← hw3] at hk3 ⊢;clear hw3 sq j0 j1 j2 j3 HL1;have b0:=z0E hk3 _ _ b0;have b1:=z0E hk3 _ _ b1;have p1:=z0E hk3 _ _ p1;have p2:=z0E hk3 _ _ p2;have hk13:=HK.out.nx hk3;have r0:=hk13.get H1.out.1 id;have HK:=hid hk13;clear hk3 hk13 p4
     cases lb with
     | true=>
       have d0:w3.cell? ⟨g,0,none⟩=some (.int .u64 0):=by simp[World.cell?,r0]
       have d1:w3.cell? ⟨g,1,none⟩=some (.int .i64 0):=by simp[World.cell?,r0]
       have f0:∀ o,w3.frozen? ⟨g,o,none⟩=false:=fun o=>by simp[World.frozen?,r0]
       have R0:=hid r0;clear r0;go_wp2_with (at_builtin;refine z0A ?_;intro q hq);refine z0G [] (by kernel_rfl) (by kernel_rfl) ?_
       repeat (first | (apply z0F (by rfl);(intro K w';go_simp;exact id)) | (apply z0J (by rfl);(intro K;go_simp;exact id)))
       (refine z0M (by rfl) (by rfl) (fun K hK=>?_);go_simp;refine hK _ _ ?_;clear hK K)
       repeat (first | (apply z0F (by rfl);(intro K w';go_simp;exact id)) | (apply z0J (by rfl);(intro K;go_simp;exact id)))
       refine z0T ?_;go_wp2_with (at_builtin;refine z0A ?_;intro q hq);obtain⟨q1,q2⟩:=zcA H0.out.1 (H1.out.2.1.nx HK.out).drew (by have:=H1.out.2.2.1;omega) R0.out A.b 90;refine bodyPost_ret (z4R rfl _ _ g rfl _ q1 _ Tryz.underlying28 rfl (by kernel_rfl)) rfl ?_;have hE:z2Y D A b k=(([],A.b,90),D,A):=by unfold z2Y;rw[if_neg (by rw[← HR.out];decide),if_neg (by rw[← HD.out];decide),if_pos HLB.out.symm]
       rw[HP.out,hE];exact q2
     | false=>
       obtain⟨lc,hlc⟩:=zX1 (less A.b b);have HL2:=hid (fun s:Later w3=>show Calls Tryz.prog 36 #[balV A.b,balV b] s.val fun e w'=>e = .returned (.bool lc)∧Keep (fun _=>False) s.val w' from by rw[hlc];exact z8E s.val A.b b);have HLC:=hid hlc;clear hlc r0
       go_upto_region 9 with fail
       have j0:=fun s:Later w3=>s.cell b0;have j1:=fun s:Later w3=>s.cell b1;have j2:=fun s:Later w3=>s.cell p1;have j3:=fun s:Later w3=>s.cell p2
       (refine z0W (by kernel_rfl) (by kernel_rfl) ?_;(repeat (go_big_quiet_step ((go_at_call 36;exact Later.call (HL2.out _)))));refine wpQuiet_nil ?_;rintro _ ⟨sq,rfl⟩)
       have hk4:=sq.keep;obtain⟨w4,hw4⟩:=zX1 (sq.val);rw[← hw4] at hk4 ⊢;clear hw4 sq j0 j1 j2 j3 HL2;have b0:=z0E hk4 _ _ b0;have b1:=z0E hk4 _ _ b1;have HK:=hid (HK.out.nx hk4);clear hk4 p1 p2
       go_upto_if 41 with fail
       go_cut [9] (fun v wx=>Hid (PrepIn w a d D A F b k g wx))
       case first=>
        cases lc with
        | false=>
          have hE:z2Y D A b k=((z7L A.vs k,b,0),D,A):=by unfold z2Y;rw[if_neg (by rw[← HR.out];decide),if_neg (by rw[← HD.out];decide),if_neg (by rw[← HLB.out];decide),if_pos (z9A HLB.out.symm HLC.out.symm)]
          have hkw:=H1.out.2.1.nx HK.out
          have HZ:=hid (show PrepIn w a d D A F b k g w4 from
           ⟨⟨D,A,F,hE,(z9A HLB.out.symm HLC.out.symm).symm,HD.out.symm,rfl,(AcT.lives a d D A).keep H0.out.1 hkw (fun _ _ x=>x),fun i x=>.inl x⟩,hkw.mono (fun _ _ x=>x.elim),HK.out.get H1.out.2.2.2.2.1 id,HK.out.get H1.out.1 id⟩)
          clear hE hkw;go_wp2_with (at_builtin;refine z0A ?_;intro q hq);go_meet;exact HZ
        | true=>
          have hOb:OkB b:=⟨HR.out.symm,H0.out.2.2.2.2⟩;have hpr:=zfE w4 b hOb;unfold zpP at hpr;clear hOb;go_wp2_with (at_builtin;refine z0A ?_;intro q hq);refine hpr.mono ?_;rintro e w5 ⟨rfl,hk5⟩;clear hpr;have hk6:=kal w5 (.cells #[.string (str pK),.string (str (AC.putB b)),.bool false] 63);have hkw6:=(HK.out.nx hk5).nx hk6;have LT:=TrioT.lives (BoxA.lives a (accC sb A.b nv A.s.dead) 86) (StoT.lives sb d D A.s) (VotesT.lives nv A.vs);have hT6:=LT.keep (show TrioT (BoxA a (accC sb A.b nv A.s.dead) 86) (StoT sb d D A.s) (VotesT nv A.vs) w1 F from⟨X,Y,Z,H1.out.2.2.2.2.2.1,H1.out.2.2.2.2.2.2.1,H1.out.2.2.2.2.2.2.2.1,H1.out.2.2.2.2.2.2.2.2.1,H1.out.2.2.2.2.2.2.2.2.2.1,H1.out.2.2.2.2.2.2.2.2.2.2.1,H1.out.2.2.2.2.2.2.2.2.2.2.2⟩) hkw6 (fun _ _ x=>x);have hFl:=(AcT.lives a d D A).lt H0.out.1
          have hdo:=zmZ _ a sb d A.b nv A.vs D A.s F hT6 (some ⟨w5.heap.size,0,none⟩) 1 1 (z5I b) (zrA w5 b (by have:=AC.putB_len b;unfold maxLen;omega)) rfl (fun _ x hx y=>by
           cases hx;have h1:=hFl _ y;have h2:=H1.out.2.1.size;have h3:=HK.out.size;have h4:=hk5.size;simp only at h1
           omega) H0.out.2.2.1 H0.out.2.2.2.1
          have hcs:=z6R (D:=D) HD.out.symm (z5I b);obtain⟨E,hE⟩:=zX1 (doA D A.s (z5I b));rw[← hE] at hdo hcs;have HE:=hid (zA1 hE (zA1 hcs (zA1 hkw6 hFl)));clear hE hcs hkw6 hFl hk6 hk5 hT6 LT;go_wp2_with (at_builtin;refine z0A ?_;intro q hq);refine hdo.mono ?_;rintro e w7 ⟨rfl,F7,T7,K7,N7⟩;clear hdo;have hz1:=H1.out.2.2.2.1;have hs6:=HE.out.2.2.1.size;have r7:=K7.get (HE.out.2.2.1.get H1.out.1 id) (fun x=>by have:=HE.out.2.2.2 _ x;have:=H1.out.2.2.1;omega);have x7:=K7.get (HE.out.2.2.1.get H1.out.2.2.2.2.1 id) (fun x=>by have:=HE.out.2.2.2 _ x;omega);have hkF:Keep F w w7:=(H1.out.2.1.nx HE.out.2.2.1).next K7 (fun _ _ x=>x.elim) (fun _ _ x=>x);have hne:∀ i,F7 i→F i∨g<i:=fun i x=>(N7 i x).imp id fun y=>by have:=H1.out.2.2.1;omega
          have H7:=hid (zA1 T7 (zA1 hkF (zA1 hne (zA1 r7 x7))));clear T7 K7 N7 x7 hkF hne hz1 hs6
          have hE4:z2Y D A b k=if E.1=0 then ((z7L A.vs k,b,0),E.2.1,⟨E.2.2,b,A.vs⟩) else (([],Bal.zero,E.1),E.2.1,⟨E.2.2,A.b,A.vs⟩):=by
           unfold z2Y;rw[if_neg (by rw[← HR.out];decide),if_neg (by rw[← HD.out];decide),if_neg (by rw[← HLB.out];decide),if_neg (fun e=>by have:=HLC.out;rw[e,zbB] at this;cases this),HE.out.1]
          have HE4:=hid hE4;clear hE4
          by_cases h0:E.1=0
          ·have q1:(E.1 != 0)=false:=by simp[h0]
           have hdd:E.2.2.dead=false:=by
            rcases HE.out.2.1 with ⟨-,-,h⟩ | ⟨h,-⟩ | ⟨h,-⟩
            ·exact h
            ·omega
            ·exact absurd h0 h
           obtain⟨X7,Y7,Z7,hb7,hs7,hv7,a1,a2,a3,hF7⟩:=H7.out.1;obtain⟨p0,p1,p2,p3,p4,pf,pb⟩:=z1Z hb7.1;have xb:=H7.out.2.2.2.2;have b0:w7.cell? ⟨w.heap.size,0,none⟩=some (.int .u64 (b.n:Int)):=by simp[World.cell?,xb]
           have b1:w7.cell? ⟨w.heap.size,1,none⟩=some (.int .i64 b.node):=by simp[World.cell?,xb]
           have g1:=z0B hb7.1 1 (.int .u64 (b.n:Int));have g2:=z0B g1 2 (.int .i64 b.node)
           have hkz:Keep (fun k=>k=a) w7 ((w7.setCell ⟨a,1,none⟩ (.int .u64 (b.n:Int))).setCell ⟨a,2,none⟩ (.int .i64 b.node)):=by
            refine Keep.setCell (Keep.setCell (Keep.refl _ _) (.inl ?_) _) (.inl ?_) _ <;> rfl
           have haX:F7 a:=by rw[hF7];exact .inl hb7.2.1
           have haw:a<w.heap.size:=by have:=H1.out.2.2.2.2.2.1;exact(AcT.lives a d D A).lt H0.out.1 a (by rw[H1.out.2.2.2.2.2.2.2.2.2.2.2];exact .inl this.2.1)
           have T8:=TrioT.turn1 (T':=BoxA a (accC sb b nv E.2.2.dead) 86) (StoT.lives _ _ _ _) (VotesT.lives _ _) H7.out.1 (fun X' hX'=>⟨X',⟨z0B (z0B hX'.1 1 (.int .u64 (b.n:Int))) 2 (.int .i64 b.node),hX'.2.1,fun k x=>Nat.lt_of_lt_of_le (hX'.2.2 k x) hkz.size⟩,hkz.mono fun k _ e=>by subst e;exact hX'.2.1,fun _ x=>.inl x⟩);obtain⟨F8,U8,K8,N8⟩:=T8
           have HZ:=hid (show PrepIn w a d D A F b k g ((w7.setCell ⟨a,1,none⟩ (.int .u64 (b.n:Int))).setCell ⟨a,2,none⟩ (.int .i64 b.node)) from
            ⟨⟨E.2.1,⟨E.2.2,b,A.vs⟩,F8,by rw[HE4.out,if_pos h0],rfl,hdd,rfl,⟨sb,nv,U8⟩,fun i x=>(N8 i x).elim (H7.out.2.2.1 i) fun y=>.inr (by have:=z0N r7;omega)⟩,
              H7.out.2.1.next hkz (fun _ _ x=>x) (fun k hk e=>by rw[e];exact H1.out.2.2.2.2.2.2.2.2.2.2.2 ▸ .inl H1.out.2.2.2.2.2.1.2.1),hkz.get xb (fun e=>by omega),hkz.get r7 (fun e=>by have:=H1.out.2.2.1;omega)⟩)
           clear p0 p3 p4 pb xb g1 g2 hkz haX haw U8 K8 N8 hb7 hs7 hv7 a1 a2 a3 hF7 hdd r7;go_wp2_with (at_builtin;refine z0A ?_;intro q hq);go_meet;exact HZ
          ·have q1:(E.1 != 0)=true:=by simpa using h0
           have q2:decide (E.1=0)=false:=decide_eq_false h0;have d0:w7.cell? ⟨g,0,none⟩=some (.int .u64 0):=by simp[World.cell?,r7]
           have d1:w7.cell? ⟨g,1,none⟩=some (.int .i64 0):=by simp[World.cell?,r7]
           have f0:∀ o,w7.frozen? ⟨g,o,none⟩=false:=fun o=>by simp[World.frozen?,r7]
           have H0':=hid h0;clear r7 h0;go_wp2_with (at_builtin;refine z0A ?_;intro q hq);obtain⟨q1,q2⟩:=zgH (a:=a) (d:=d) (D:=E.2.1) (A:=⟨E.2.2,A.b,A.vs⟩) (B:=g+1) ⟨sb,nv,H7.out.1⟩ H7.out.2.1 HE.out.2.2.2 (fun i x=>(H7.out.2.2.1 i x).imp id fun y=>by omega) (Nat.lt_succ_self _) (by have:=H1.out.2.2.1;omega) H7.out.2.2.2.1 (.slice none 0 0) [] [] (fun _=>False) (Votes.nil _ _) (fun _ x=>x.elim) Apart.nil Bal.zero E.1;refine bodyPost_ret (z4R rfl _ _ g rfl _ q1 _ Tryz.underlying28 rfl (by kernel_rfl)) rfl ?_;rw[HP.out,HE4.out,if_neg H0'.out];exact q2
       case rest=>
        have hgg:=H1.out.2.2.1;subst hgg;obtain⟨⟨D',A',F',hE,hAb,hAd,hAv,hT,hN⟩,hkw,hbx,hrs⟩:=hcut.out;obtain⟨sb',nv',X',Y',Z',hbox,hst,⟨⟨us,hvt⟩,hvl⟩,e1,e2,e3,hF'⟩:=hT;obtain⟨l1,l2,l3⟩:=H0.out.2.1.lens HD.out.symm (H0.out.2.2.1 HD.out.symm);rw[← hAv] at l1 l2 l3;have hkd:Keep (fun _=>False) wc wc.drew:=(Keep.refl _ _).drew;have hvo:=z9W wc.drew a sb' A'.b nv' A'.s.dead Z' A'.vs us k (hkd.get hbox.1 id) (hvt.keep hkd (fun _ _ x=>x)) l1 l2 l3;rw[hAd] at hvo;simp only[Bool.false_eq_true,if_false] at hvo
        have x1:wc.drew.cell? ⟨w.heap.size,0,none⟩=some (.int .u64 (b.n:Int))∧wc.drew.cell? ⟨w.heap.size,1,none⟩=some (.int .i64 b.node):=by
         have:=hkd.get hbx id;simp[World.cell?,this]
        have HC:=hid hcut.out;have HW:=hid (zA1 (show AcT a d D' A' wc F' from⟨sb',nv',X',Y',Z',hbox,hst,⟨⟨us,hvt⟩,hvl⟩,e1,e2,e3,hF'⟩) (zA1 hkw (zA1 hbx (zA1 hrs (zA1 hE (zA1 hN hkd))))));clear hcut hbox hst hvt hvl e1 e2 e3 hF' hE hAb hAd hAv hN hkw hbx hrs l1 l2 l3 hkd b0 b1
        go_upto_region 14 with fail
        refine Held.z3Q (fun w'=>w'.cell? ⟨w.heap.size,0,none⟩=some (.int .u64 (b.n:Int))∧w'.cell? ⟨w.heap.size,1,none⟩=some (.int .i64 b.node)) [] [58] (by kernel_rfl) (by kernel_rfl) ?_
        repeat (apply Held.z0F (by rfl) (by exact x1);(intro K w' hS;(try dsimp only at hS);go_simp;exact id))
        refine Held.z0M (by decide) (by rfl) (by exact x1) (fun K hK=>?_);go_simp;refine hvo.mono ?_;rintro e w2' ⟨v,us2,Fv,rfl,hv2,hFv,hk2,hap2⟩;have HAp:=hid hap2;clear hap2;obtain⟨va,vc,rfl,-⟩:=hv2.row.form;have x2:w2'.cell? ⟨w.heap.size,0,none⟩=some (.int .u64 (b.n:Int))∧w2'.cell? ⟨w.heap.size,1,none⟩=some (.int .i64 b.node):=⟨z0E hk2 _ _ x1.1,z0E hk2 _ _ x1.2⟩;have hkw2:=HW.out.2.2.2.2.2.2.nx hk2;have hrs2:=hkw2.get HW.out.2.2.2.1 id;have d0:w2'.cell? ⟨w.heap.size+1,0,none⟩=some (.int .u64 0):=by simp[World.cell?,hrs2]
        have d1:w2'.cell? ⟨w.heap.size+1,1,none⟩=some (.int .i64 0):=by simp[World.cell?,hrs2]
        have f0:∀ o,w2'.frozen? ⟨w.heap.size+1,o,none⟩=false:=fun o=>by simp[World.frozen?,hrs2]
        have hbx2:=hkw2.get HW.out.2.2.1 id;have hg2:=H1.out.2.2.1;have HV:=hid (zA1 hv2 (zA1 hFv (zA1 hkw2 (zA1 hrs2 (zA1 hbx2 hg2)))));go_simp;refine hK _ _ (fun h=>by cases h) (fun _=>x2) ?_;clear hK K x1 hvo hk2 hv2 hFv hkw2 hrs2 hbx2 hg2
        repeat (apply Held.z0F (by rfl) (by exact x2);(intro K w' hS;(try dsimp only at hS);go_simp;exact id))
        refine Held.z0M (by decide) (by rfl) (by exact x2) (fun K hK=>?_);go_simp
        have x3:((w2'.setCell ⟨w.heap.size+1,0,none⟩ (.int .u64 (b.n:Int))).setCell ⟨w.heap.size+1,1,none⟩ (.int .i64 b.node)).cell? ⟨w.heap.size,0,none⟩=some (.int .u64 (b.n:Int))∧((w2'.setCell ⟨w.heap.size+1,0,none⟩ (.int .u64 (b.n:Int))).setCell ⟨w.heap.size+1,1,none⟩ (.int .i64 b.node)).cell? ⟨w.heap.size,1,none⟩=some (.int .i64 b.node):=by
         obtain⟨-,g2,-⟩:=z5F w2' (w.heap.size+1) _ _ HV.out.2.2.2.1 (.int .u64 (b.n:Int)) (.int .i64 b.node);have:=g2.get HV.out.2.2.2.2.1 (fun e=>by have:=HV.out.2.2.2.2.2;omega);simp[World.cell?,this]
        refine hK _ _ (fun h=>by cases h) (fun _=>x3) ?_;clear hK K x2
        repeat (apply Held.z0F (by rfl) (by exact x3);(intro K w' hS;(try dsimp only at hS);go_simp;exact id))
        refine Held.z0T ?_;go_wp2_with (at_builtin;refine z0A ?_;intro q hq);obtain⟨hT,hkw,hbx,hrs,hE,hN,hkd⟩:=HW.out;obtain⟨hv2,hFv,hkw2,hrs2,hbx2,hg2⟩:=HV.out;have hFl:=(AcT.lives a d D A).lt H0.out.1
        obtain⟨q1,q2⟩:=zgH (a:=a) (d:=d) (D:=D') (A:=A') (B:=w.heap.size+2) ((AcT.lives a d D' A').keep hT hkw2 (fun _ _ x=>x)) (hkw.next hkw2 (fun _ _ x=>x) (fun _ _ x=>x.elim)) hFl hN (Nat.lt_succ_self _) (by omega) hrs2 (.slice va (z7L A'.vs k).length vc) _ us2 Fv hv2 (fun i x=>by
         have h1:=hFv i x;have h2:wc.heap.size≤i:=h1
         exact⟨Nat.lt_of_lt_of_le (z0N hrs) h2,fun y=>by have:=(AcT.lives a d D' A').lt hT i y;omega⟩) HAp.out b 0
        refine bodyPost_ret (z4R rfl _ _ (w.heap.size+1) rfl _ q1 _ Tryz.underlying28 rfl (by kernel_rfl)) rfl ?_;rw[HP.out,hE];exact q2
end
section
open Go.RowKit Go.Maps
open MI SO BM DM WM AC
def RPrepPost (a d:Nat) (F:Nat→Prop) (w:World) (R:(List Vt×Bal×Int)×Dk×Ac) (e:Ending) (w':World):Prop:=
 ∃ v us Fv F',e = .returned (.tuple #[v,balV R.1.2.1,.int .i64 R.1.2.2])∧RAcT a d R.2.1 R.2.2.s w' F'∧Keep F w w'∧(∀ i,F' i→F i∨w.heap.size≤i)∧Votes w' Fv v R.1.1 us∧∀ k,Fv k→w.heap.size≤k∧¬ F' k
structure RPrepIn (w:World) (a d:Nat) (D:Dk) (A:Ac) (F:Nat→Prop) (b:Bal) (k:Nat) (g:Nat) (wx:World):Prop where
 ex:∃ D' A' F',z2Y D A b k=((z7L A'.vs k,b,0),D',A')∧A'.s.dead=false∧A'.vs=A.vs∧RAcT a d D' A'.s wx F'∧∀ i,F' i→F i∨g<i
 keep:Keep F w wx
 box:wx.heap[w.heap.size]?=some (.cells (balC b) 28 (0,0))
 res:wx.heap[g]?=some (.cells #[.int .u64 0,.int .i64 0] 28 (0,0))
end
section
open Go.RowKit Go.Maps
open MI SO BM DM WM AC
def AccPost (a d:Nat) (F:Nat→Prop) (w:World) (R:(Bal×Int)×Dk×Ac) (e:Ending) (w':World):Prop:=
 ∃ F',e = .returned (.tuple #[balV R.1.1,.int .i64 R.1.2])∧AcT a d R.2.1 R.2.2 w' F'∧Keep F w w'∧∀ i,F' i→F i∨w.heap.size≤i
theorem z8H {a d:Nat} {D:Dk} {A:Ac} {F:Nat→Prop} {w w2:World} {g:Nat} {x0 x1:Value} (hT:AcT a d D A w F) (hk:Keep (fun _=>False) w w2) (hg:w.heap.size≤g) (h:w2.heap[g]?=some (.cells #[x0,x1] 28 (0,0))) (B:Bal) (c:Int) :
  (∀ j u,[Value.int .u64 (B.n:Int),.int .i64 B.node][j]?=some u→((w2.setCell ⟨g,0,none⟩ (.int .u64 (B.n:Int))).setCell ⟨g,1,none⟩ (.int .i64 B.node)).cell? ⟨g,j,none⟩=some u)∧
  AccPost a d F w ((B,c),D,A) (.returned (.tuple #[balV B,.int .i64 c])) ((w2.setCell ⟨g,0,none⟩ (.int .u64 (B.n:Int))).setCell ⟨g,1,none⟩ (.int .i64 B.node)):=by
 obtain⟨g1,g2,-⟩:=z5F w2 g _ _ h (.int .u64 (B.n:Int)) (.int .i64 B.node);obtain⟨h1,h2,h3⟩:=Turns.shut0 (AcT.lives a d D A) hT hk hg g2;exact⟨g1,F,rfl,h1,h2,h3⟩
theorem zdZ {a d:Nat} {D:Dk} {A:Ac} {F F9:Nat→Prop} {w w9:World} {g B:Nat} {x0 x1:Value} (hT:AcT a d D A w9 F9) (hk:Keep F w w9) (hF:∀ i,F i→i<w.heap.size) (h9:∀ i,F9 i→F i∨B≤i) (hgB:g<B) (hg:w.heap.size≤g)
  (h:w9.heap[g]?=some (.cells #[x0,x1] 28 (0,0))) (b:Bal) (c:Int) :
  (∀ j u,[Value.int .u64 (b.n:Int),.int .i64 b.node][j]?=some u→((w9.setCell ⟨g,0,none⟩ (.int .u64 (b.n:Int))).setCell ⟨g,1,none⟩ (.int .i64 b.node)).cell? ⟨g,j,none⟩=some u)∧
  AccPost a d F w ((b,c),D,A) (.returned (.tuple #[balV b,.int .i64 c])) ((w9.setCell ⟨g,0,none⟩ (.int .u64 (b.n:Int))).setCell ⟨g,1,none⟩ (.int .i64 b.node)):=by
 obtain⟨g1,g2,-⟩:=z5F w9 g _ _ h (.int .u64 (b.n:Int)) (.int .i64 b.node);obtain⟨h1,h2,h3⟩:=Turns.shut (AcT.lives a d D A) hT hk hF h9 hgB hg g2;exact⟨g1,F9,rfl,h1,h2,h3⟩
theorem zpT (w:World) (v:Vt) (hb:(AC.putB v.bal).length≤maxLen) (hv:(AC.putB v.bal ++ v.val).length≤maxLen) :
  Chs (w.alloc (.cells #[.string (str pK),.string (str (AC.putB v.bal)),.bool false,.string (str (keyS v.slot)),.string (str (AC.putB v.bal ++ v.val)),.bool false] 63)) (.slice (some ⟨w.heap.size,0,none⟩) 2 2) (z5N v):=
 Chs.of_row ⟨rfl,.inr ⟨_,2,_,(0,0),rfl,heap_alloc_new w _,Free.zero _,Nat.le_refl _,by decide,rfl,rfl⟩⟩ (fun c hc=>by
  unfold z5N at hc;simp only[List.mem_cons,List.not_mem_nil,or_false] at hc
  rcases hc with rfl | rfl
  ·exact⟨show pK.length≤maxLen by decide,hb⟩
  ·exact⟨show (keyS v.slot).length≤maxLen by rw[z5U];decide,hv⟩)
abbrev zgV (v:Vt) (u:Value):Array Value:=#[.int .u64 (v.slot:Int),.int .u64 (v.bal.n:Int),.int .i64 v.bal.node,u]
theorem zrI (w:World) (a d:Nat) (D:Dk) (A:Ac) (F:Nat→Prop) (H:AcT a d D A w F) (hO:AOk A) (hm:A.s.dead=false→A.s.ps.length≤900000) (hfew:D.waits.length≤490000) (v:Vt) (hn:v.bal.n<18446744073709551616) (hs:v.slot<18446744073709551616)
  (ua:Option Addr) (uc:Nat) (hc:Cells w ua v.val.length 1 (z0C v.val)) (hua:0<v.val.length→∀ x,ua=some x→¬ F x.block) :
  Calls Tryz.prog 10 #[.pointer (some ⟨a,0,none⟩),.agg (zgV v (.slice ua v.val.length uc))] w (AccPost a d F w (z1B D A v)):=by
 obtain⟨Post,hPost⟩:=zX1 (AccPost a d F w (z1B D A v));rw[← hPost];obtain⟨vl,hvl⟩:=zX1 (v.val.length);rw[← hvl] at hc hua ⊢;have hn1:=heap_alloc_new w (.cells (zgV v (.slice ua vl uc)) 31);have hk1:=kal w (.cells (zgV v (.slice ua vl uc)) 31);have hz1:(w.alloc (.cells (zgV v (.slice ua vl uc)) 31)).heap.size=w.heap.size+1:=by simp
 have hn2:=heap_alloc_new (w.alloc (.cells (zgV v (.slice ua vl uc)) 31)) (.cells #[.int .u64 0,.int .i64 0] 28);have hk2:Keep (fun _=>False) (w.alloc (.cells (zgV v (.slice ua vl uc)) 31)) ((w.alloc (.cells (zgV v (.slice ua vl uc)) 31)).alloc (.cells #[.int .u64 0,.int .i64 0] 28)):=(Keep.refl _ _).alloc _;rw[hz1] at hn2;have hn1b:=hk2.get hn1 id;have hk:=hk1.nx hk2;clear hk1 hk2 hn1 hz1;have HP:=hid hPost;have H0:=hid (zA1 H (zA1 hO (zA1 hm (zA1 hfew (zA1 hn (zA1 hs (zA1 hc (zA1 hua hvl))))))));clear hPost H hO hm hfew hn hs hc hua hvl;go_enter Tryz.func10,Tryz.ntmps10
 go_upto_region 1 with fail
 obtain⟨w1,hw1⟩:=zX1 ((w.alloc (.cells (zgV v (.slice ua vl uc)) 31)).alloc (.cells #[.int .u64 0,.int .i64 0] 28));rw[← hw1] at hn2 hn1b hk ⊢;clear hw1;obtain⟨sb,nv,X,Y,Z,hbox,hst,hvt,d1,d2,d3,hF⟩:=(AcT.lives a d D A).keep H0.out.1 hk (fun _ _ x=>x);obtain⟨p0,p1,p2,p3,p4,pf,pb⟩:=z1Z hbox.1;obtain⟨b0,b1,b2,b3,bf,bb⟩:=z7Z hn1b;have hrt:=z9L w1 v.bal;have H1:=hid (zA1 hn2 (zA1 hk (zA1 hn1b (zA1 hbox (zA1 hst (zA1 hvt (zA1 d1 (zA1 d2 (zA1 d3 hF)))))))));clear hn2 hk hn1b hbox hst hvt d1 d2 d3 hF p0 p3 pf bf bb;obtain⟨rb,hrb⟩:=zX1 (z3B v.bal);rw[← hrb] at hrt
 have hbad:(z9R v=false∧(rb=false∨(rb=true∧v.slot=0)∨(rb=true∧v.slot≠0∧100<vl)))∨(z9R v=true∧rb=true∧v.slot≠0∧vl≤100):=by
  unfold z9R;rw[← hrb,← H0.out.2.2.2.2.2.2.2.2]
  cases rb with
  | false=>exact .inl ⟨rfl,.inl rfl⟩
  | true=>
    by_cases h0:v.slot=0
    ·exact .inl ⟨by simp[h0],.inr (.inl ⟨rfl,h0⟩)⟩
    ·by_cases h1:vl≤100
     ·exact .inr ⟨by simp[h0,h1],rfl,h0,h1⟩
     ·exact .inl ⟨by simp[h1],.inr (.inr ⟨rfl,h0,by omega⟩)⟩
 have HR:=hid hrb;clear hrb;obtain⟨sl,hsl⟩:=zX1 (v.slot);rw[← hsl] at b0 hbad;have HSl:=hid hsl;clear hsl
 rcases hbad with ⟨hbad,hcs⟩ | ⟨hgood,rfl,hs0,hl1⟩
 ·have HB:=hid hbad
  clear hbad p1 p2 p4
  rcases hcs with rfl | ⟨rfl,hs0⟩ | ⟨rfl,hs0,hl1⟩
  ·go_wp2_with (at_builtin;refine z0A ?_;intro q hq)
   refine hrt.mono ?_;rintro e w2 ⟨rfl,hk2⟩;clear hrt;have r0:=hk2.get H1.out.1 id;have b0:=z0E hk2 _ _ b0;have b3:=z0E hk2 _ _ b3;have d0:w2.cell? ⟨w.heap.size+1,0,none⟩=some (.int .u64 0):=by simp[World.cell?,r0]
   have d1:w2.cell? ⟨w.heap.size+1,1,none⟩=some (.int .i64 0):=by simp[World.cell?,r0]
   have f0:∀ o,w2.frozen? ⟨w.heap.size+1,o,none⟩=false:=fun o=>by simp[World.frozen?,r0]
   have HK:=hid (zA1 hk2 r0);clear hk2 r0;go_wp2_with (at_builtin;refine z0A ?_;intro q hq);obtain⟨q1,q2⟩:=z8H H0.out.1 (H1.out.2.1.nx HK.out.1) (Nat.le_succ _) HK.out.2 Bal.zero 2;refine bodyPost_ret (z2I rfl _ _ (w.heap.size+1) rfl _ q1 _ Tryz.underlying28 rfl (by kernel_rfl)) rfl ?_;rw[HP.out,show z1B D A v=((Bal.zero,2),D,A) by unfold z1B;rw[if_pos HB.out]];exact q2
  ·subst hs0
   go_wp2_with (at_builtin;refine z0A ?_;intro q hq);refine hrt.mono ?_;rintro e w2 ⟨rfl,hk2⟩;clear hrt;have r0:=hk2.get H1.out.1 id;have b0:=z0E hk2 _ _ b0;have b3:=z0E hk2 _ _ b3;have d0:w2.cell? ⟨w.heap.size+1,0,none⟩=some (.int .u64 0):=by simp[World.cell?,r0]
   have d1:w2.cell? ⟨w.heap.size+1,1,none⟩=some (.int .i64 0):=by simp[World.cell?,r0]
   have f0:∀ o,w2.frozen? ⟨w.heap.size+1,o,none⟩=false:=fun o=>by simp[World.frozen?,r0]
   have HK:=hid (zA1 hk2 r0);clear hk2 r0;go_wp2_with (at_builtin;refine z0A ?_;intro q hq);obtain⟨q1,q2⟩:=z8H H0.out.1 (H1.out.2.1.nx HK.out.1) (Nat.le_succ _) HK.out.2 Bal.zero 2;refine bodyPost_ret (z2I rfl _ _ (w.heap.size+1) rfl _ q1 _ Tryz.underlying28 rfl (by kernel_rfl)) rfl ?_;rw[HP.out,show z1B D A v=((Bal.zero,2),D,A) by unfold z1B;rw[if_pos HB.out]];exact q2
  ·have t1:((sl:Int) == 0)=false:=by simp;omega
   have t2:(100:Int)<(vl:Int):=by omega
   have t3:decide (sl=0)=false:=decide_eq_false hs0;clear hs0;go_wp2_with (at_builtin;refine z0A ?_;intro q hq);refine hrt.mono ?_;rintro e w2 ⟨rfl,hk2⟩;clear hrt;have r0:=hk2.get H1.out.1 id;have b0:=z0E hk2 _ _ b0;have b3:=z0E hk2 _ _ b3;have d0:w2.cell? ⟨w.heap.size+1,0,none⟩=some (.int .u64 0):=by simp[World.cell?,r0]
   have d1:w2.cell? ⟨w.heap.size+1,1,none⟩=some (.int .i64 0):=by simp[World.cell?,r0]
   have f0:∀ o,w2.frozen? ⟨w.heap.size+1,o,none⟩=false:=fun o=>by simp[World.frozen?,r0]
   have HK:=hid (zA1 hk2 r0);clear hk2 r0;go_wp2_with (at_builtin;refine z0A ?_;intro q hq);obtain⟨q1,q2⟩:=z8H H0.out.1 (H1.out.2.1.nx HK.out.1) (Nat.le_succ _) HK.out.2 Bal.zero 2;refine bodyPost_ret (z2I rfl _ _ (w.heap.size+1) rfl _ q1 _ Tryz.underlying28 rfl (by kernel_rfl)) rfl ?_;rw[HP.out,show z1B D A v=((Bal.zero,2),D,A) by unfold z1B;rw[if_pos HB.out]];exact q2
 ·have t1:((sl:Int) == 0)=false:=by simp;omega
  have t2:decide ((100:Int)<(vl:Int))=false:=by simp;omega
  have t3:decide (sl=0)=false:=decide_eq_false hs0;have t4:decide (100<vl)=false:=decide_eq_false (by omega);have HG:=hid (zA1 hgood (zA1 hs0 hl1));clear hgood hs0 hl1;go_wp2_with (at_builtin;refine z0A ?_;intro q hq);refine hrt.mono ?_;rintro e w2 ⟨rfl,hk2⟩;clear hrt;have b0:=z0E hk2 _ _ b0;have b1:=z0E hk2 _ _ b1;have b2:=z0E hk2 _ _ b2;have b3:=z0E hk2 _ _ b3;have p1:=z0E hk2 _ _ p1;have p2:=z0E hk2 _ _ p2;have p4:=z0E hk2 _ _ p4;have r0:=hk2.get H1.out.1 id;obtain⟨dd,hdd⟩:=zX1 (A.s.dead);rw[← hdd] at p4;have HD:=hid hdd;clear hdd
  cases dd with
  | true=>
    have d0:w2.cell? ⟨w.heap.size+1,0,none⟩=some (.int .u64 0):=by simp[World.cell?,r0]
    have d1:w2.cell? ⟨w.heap.size+1,1,none⟩=some (.int .i64 0):=by simp[World.cell?,r0]
    have f0:∀ o,w2.frozen? ⟨w.heap.size+1,o,none⟩=false:=fun o=>by simp[World.frozen?,r0]
    have HK:=hid (zA1 hk2 r0);clear hk2 r0;go_wp2_with (at_builtin;refine z0A ?_;intro q hq);obtain⟨q1,q2⟩:=z8H H0.out.1 (H1.out.2.1.nx HK.out.1) (Nat.le_succ _) HK.out.2 Bal.zero 6;refine bodyPost_ret (z2I rfl _ _ (w.heap.size+1) rfl _ q1 _ Tryz.underlying28 rfl (by kernel_rfl)) rfl ?_;rw[HP.out,show z1B D A v=((Bal.zero,6),D,A) by unfold z1B;rw[if_neg (by rw[HG.out.1];decide),if_pos HD.out.symm]];exact q2
  | false=>
    obtain⟨lb,hlb⟩:=zX1 (less v.bal A.b);have HL1:=hid (fun s:Later w2=>show Calls Tryz.prog 36 #[balV v.bal,balV A.b] s.val fun e w'=>e = .returned (.bool lb)∧Keep (fun _=>False) s.val w' from by rw[hlb];exact z8E s.val v.bal A.b);have HLB:=hid hlb;have HK:=hid hk2;clear hlb hk2 r0
    go_upto_region 7 with fail
    clear t1 t2 t3 t4;have j0:=fun s:Later w2=>s.cell b1;have j1:=fun s:Later w2=>s.cell b2;have j2:=fun s:Later w2=>s.cell p1;have j3:=fun s:Later w2=>s.cell p2
    (refine z0W (by kernel_rfl) (by kernel_rfl) ?_;(repeat (go_big_quiet_step ((go_at_call 36;exact Later.call (HL1.out _)))));refine wpQuiet_nil ?_;rintro _ ⟨sq,rfl⟩)
    have hk3:=sq.keep;obtain⟨w3,hw3⟩:=zX1 (sq.val);rw[← hw3] at hk3 ⊢;clear hw3 sq j0 j1 j2 j3 HL1;have p1:=z0E hk3 _ _ p1;have p2:=z0E hk3 _ _ p2;have HK:=hid (HK.out.nx hk3);have r0:=HK.out.get H1.out.1 id
    cases lb with
    | true=>
      have d0:w3.cell? ⟨w.heap.size+1,0,none⟩=some (.int .u64 0):=by simp[World.cell?,r0]
      have d1:w3.cell? ⟨w.heap.size+1,1,none⟩=some (.int .i64 0):=by simp[World.cell?,r0]
      have f0:∀ o,w3.frozen? ⟨w.heap.size+1,o,none⟩=false:=fun o=>by simp[World.frozen?,r0]
      have R0:=hid r0;clear r0 b0 b1 b2 b3 p4 hk3;go_wp2_with (at_builtin;refine z0A ?_;intro q hq);obtain⟨q1,q2⟩:=z8H H0.out.1 (H1.out.2.1.nx HK.out) (Nat.le_succ _) R0.out A.b 90;refine bodyPost_ret (z2I rfl _ _ (w.heap.size+1) rfl _ q1 _ Tryz.underlying28 rfl (by kernel_rfl)) rfl ?_;rw[HP.out,show z1B D A v=((A.b,90),D,A) by unfold z1B;rw[if_neg (by rw[HG.out.1];decide),if_neg (by rw[← HD.out];decide),if_pos HLB.out.symm]];exact q2
    | false=>
      have x1:w3.drew.cell? ⟨w.heap.size,0,none⟩=some (.int .u64 (sl:Int))∧w3.drew.cell? ⟨w.heap.size,1,none⟩=some (.int .u64 (v.bal.n:Int))∧w3.drew.cell? ⟨w.heap.size,2,none⟩=some (.int .i64 v.bal.node)∧w3.drew.cell? ⟨w.heap.size,3,none⟩=some (.slice ua vl uc):=
       ⟨z0E hk3 _ _ b0,z0E hk3 _ _ b1,z0E hk3 _ _ b2,z0E hk3 _ _ b3⟩
      have hkd:Keep (fun _=>False) w1 w3.drew:=HK.out.drew;have HK:=hid hkd;clear hkd hk3 r0 b0 b1 b2 b3 p1 p2 p4
      go_upto_region 9 with fail
      have hOb:OkB v.bal:=⟨HR.out.symm,H0.out.2.2.2.2.1⟩;obtain⟨pv,hpv⟩:=zX1 (zpP v.bal);have hpr:=zfE w3.drew v.bal hOb;unfold zpP at hpr;obtain⟨w3d,hw3d⟩:=zX1 (w3.drew);refine Held.z3Q (fun w'=>w'.cell? ⟨w.heap.size,0,none⟩=some (.int .u64 (sl:Int))∧w'.cell? ⟨w.heap.size,1,none⟩=some (.int .u64 (v.bal.n:Int))∧w'.cell? ⟨w.heap.size,2,none⟩=some (.int .i64 v.bal.node)∧w'.cell? ⟨w.heap.size,3,none⟩=some (.slice ua vl uc)) [60] [49,52,55,58] (by kernel_rfl) (by kernel_rfl) ?_;rw[← hw3d] at x1 hpr HK ⊢;clear hw3d hpv pv
      repeat (apply Held.z0F (by rfl) (by exact x1);(intro K w' hS;(try dsimp only at hS);go_simp;exact id))
      refine Held.z0M (by decide) (by rfl) (by exact x1) (fun K hK=>?_);go_simp;refine hpr.mono ?_;rintro e w4 ⟨rfl,hk4⟩;have x2:w4.cell? ⟨w.heap.size,0,none⟩=some (.int .u64 (sl:Int))∧w4.cell? ⟨w.heap.size,1,none⟩=some (.int .u64 (v.bal.n:Int))∧w4.cell? ⟨w.heap.size,2,none⟩=some (.int .i64 v.bal.node)∧w4.cell? ⟨w.heap.size,3,none⟩=some (.slice ua vl uc):=⟨z0E hk4 _ _ x1.1,z0E hk4 _ _ x1.2.1,z0E hk4 _ _ x1.2.2.1,z0E hk4 _ _ x1.2.2.2⟩;have HK4:=hid (HK.out.nx hk4);have hke:=zrD w4 sl (by rw[HSl.out];exact H0.out.2.2.2.2.2.1);go_simp;refine hK _ _ (fun h=>by cases h) (fun _=>x2) ?_;clear hK K x1 hpr hk4 HK
      repeat (apply Held.z0F (by rfl) (by exact x2);(intro K w' hS;(try dsimp only at hS);go_simp;exact id))
      refine Held.z0M (by decide) (by rfl) (by exact x2) (fun K hK=>?_);go_simp;refine hke.mono ?_;rintro e w5 ⟨rfl,hk5⟩;have x3:w5.cell? ⟨w.heap.size,0,none⟩=some (.int .u64 (sl:Int))∧w5.cell? ⟨w.heap.size,1,none⟩=some (.int .u64 (v.bal.n:Int))∧w5.cell? ⟨w.heap.size,2,none⟩=some (.int .i64 v.bal.node)∧w5.cell? ⟨w.heap.size,3,none⟩=some (.slice ua vl uc):=⟨z0E hk5 _ _ x2.1,z0E hk5 _ _ x2.2.1,z0E hk5 _ _ x2.2.2.1,z0E hk5 _ _ x2.2.2.2⟩;have HK5:=hid (HK4.out.nx hk5);have hpu:=zjI w5 v.bal hOb;go_simp;refine hK _ _ (fun h=>by cases h) (fun _=>x3) ?_;clear hK K x2 hke hk5 HK4
      repeat (apply Held.z0F (by rfl) (by exact x3);(intro K w' hS;(try dsimp only at hS);go_simp;exact id))
      refine Held.z0M (by decide) (by rfl) (by exact x3) (fun K hK=>?_);go_simp;refine hpu.mono ?_;rintro e w6 ⟨v6,rfl,hf6⟩;have x4:w6.cell? ⟨w.heap.size,0,none⟩=some (.int .u64 (sl:Int))∧w6.cell? ⟨w.heap.size,1,none⟩=some (.int .u64 (v.bal.n:Int))∧w6.cell? ⟨w.heap.size,2,none⟩=some (.int .i64 v.bal.node)∧w6.cell? ⟨w.heap.size,3,none⟩=some (.slice ua vl uc):=⟨z0E hf6.keep _ _ x3.1,z0E hf6.keep _ _ x3.2.1,z0E hf6.keep _ _ x3.2.2.1,z0E hf6.keep _ _ x3.2.2.2⟩;have HF6:=hid hf6;clear hf6;go_simp;refine hK _ _ (fun h=>by cases h) (fun _=>x4) ?_;clear hK K hpu
      repeat (apply Held.z0F (by rfl) (by exact x4);(intro K w' hS;(try dsimp only at hS);go_simp;exact id))
      refine Held.z0M (by decide) (by rfl) (by exact x4) (fun K hK=>?_);have hcs:=((H0.out.2.2.2.2.2.2.1.keep H1.out.2.1 (fun _ _ x=>x)).keep HK5.out (fun _ _ x=>x)).keep HF6.out.keep (fun _ _ x=>x);refine z0H _ _ rfl rfl HF6.out ua vl uc rfl hcs (by have h1:=AC.putB_len v.bal;have:=HG.out.2.2;omega) ?_;intro v7 w7 hf7 hk7;have hwb:w.heap.size<w5.heap.size:=World.block_lt_of_cell? w5 _ x3.1;have x5:w7.cell? ⟨w.heap.size,0,none⟩=some (.int .u64 (sl:Int))∧w7.cell? ⟨w.heap.size,1,none⟩=some (.int .u64 (v.bal.n:Int))∧w7.cell? ⟨w.heap.size,2,none⟩=some (.int .i64 v.bal.node)∧w7.cell? ⟨w.heap.size,3,none⟩=some (.slice ua vl uc):=⟨z0E hf7.keep _ _ x3.1,z0E hf7.keep _ _ x3.2.1,z0E hf7.keep _ _ x3.2.2.1,z0E hf7.keep _ _ x3.2.2.2⟩;refine hK _ _ (fun h=>by cases h) (fun _=>x5) ?_;clear hK K hcs hk7 x4 HF6;obtain⟨a7,c7,rfl,-⟩:=hf7.row.form;have hcv:=z3D (P:=Tryz.prog) Tryz.underlying29 Tryz.underlying5 Tryz.underlying9 (c:=c7) (Cells.of_row hf7.row);obtain⟨L,hL⟩:=zX1 ((AC.putB v.bal ++ v.val).length);rw[← hL] at hcv ⊢;have HK7:=hid (zA1 (HK5.out.nx hf7.keep) hL);clear hf7 hL x3 HK5
      repeat (apply Held.z0F (by rfl) (by exact x5);(intro K w' hS;(try dsimp only at hS);go_simp;exact id))
      refine Held.z0M (by decide) (by rfl) (by exact x5) (fun K hK=>?_);go_simp;refine hK _ _ (fun _=>Pre.refl _) (fun _=>x5) ?_;clear hK K hcv
      repeat (apply Held.z0F (by rfl) (by exact x5);(intro K w' hS;(try dsimp only at hS);go_simp;exact id))
      refine Held.z0M (by decide) (by rfl) (by exact x5) (fun K hK=>?_);go_simp;have hk8:=kal w7 (.cells #[.string (str pK),.string (str (AC.putB v.bal)),.bool false,.string (str (keyS sl)),.string (str (AC.putB v.bal ++ v.val)),.bool false] 63);have hch:=zpT w7 v (by have:=AC.putB_len v.bal;unfold maxLen;omega) (by have h1:=AC.putB_len v.bal;have h2:=HG.out.2.2;have h3:=H0.out.2.2.2.2.2.2.2.2;rw[List.length_append];unfold maxLen;omega);rw[← HSl.out] at hch;obtain⟨w8,hw8⟩:=zX1 (w7.alloc (.cells #[.string (str pK),.string (str (AC.putB v.bal)),.bool false,.string (str (keyS sl)),.string (str (AC.putB v.bal ++ v.val)),.bool false] 63));rw[← hw8] at hk8 hch;have x6:w8.cell? ⟨w.heap.size,0,none⟩=some (.int .u64 (sl:Int))∧w8.cell? ⟨w.heap.size,1,none⟩=some (.int .u64 (v.bal.n:Int))∧w8.cell? ⟨w.heap.size,2,none⟩=some (.int .i64 v.bal.node)∧w8.cell? ⟨w.heap.size,3,none⟩=some (.slice ua vl uc):=⟨z0E hk8 _ _ x5.1,z0E hk8 _ _ x5.2.1,z0E hk8 _ _ x5.2.2.1,z0E hk8 _ _ x5.2.2.2⟩;have hk18:=HK7.out.1.nx hk8;refine hK _ _ (fun _=>Pre.push _ rfl) (fun _=>by rw[← hw8];exact x6) ?_;rw[← hw8];clear hK K x5 hk8 hw8
      repeat (apply Held.z0F (by rfl) (by exact x6);(intro K w' hS;(try dsimp only at hS);go_simp;exact id))
      have hFl:=(AcT.lives a d D A).lt H0.out.1;have hT8:=(TrioT.lives (BoxA.lives a (accC sb A.b nv A.s.dead) 86) (StoT.lives sb d D A.s) (VotesT.lives nv A.vs)).keep (show TrioT (BoxA a (accC sb A.b nv A.s.dead) 86) (StoT sb d D A.s) (VotesT nv A.vs) w1 F from⟨X,Y,Z,H1.out.2.2.2.1,H1.out.2.2.2.2.1,H1.out.2.2.2.2.2.1,H1.out.2.2.2.2.2.2.1,H1.out.2.2.2.2.2.2.2.1,H1.out.2.2.2.2.2.2.2.2.1,H1.out.2.2.2.2.2.2.2.2.2⟩) hk18 (fun _ _ x=>x)
      have hdo:=zmZ w8 a sb d A.b nv A.vs D A.s F hT8 (some ⟨w7.heap.size,0,none⟩) 2 2 (z5N v) hch rfl (fun _ x hx y=>by
       cases hx;have h1:=hFl _ y;have h2:=HK7.out.1.size;have h3:=H1.out.2.1.size;simp only at h1
       omega) H0.out.2.2.1 H0.out.2.2.2.1
      have hcs:=z6R (D:=D) HD.out.symm (z5N v);obtain⟨E,hE⟩:=zX1 (doA D A.s (z5N v));rw[← hE] at hdo hcs;have HE:=hid (zA1 hE (zA1 hcs (zA1 hk18 hFl)));clear hE hcs hk18 hFl hT8 hch;refine Held.z0M (by decide) (by rfl) (by exact x6) (fun K hK=>?_);go_simp;refine hdo.mono ?_;rintro e w9 ⟨rfl,F9,T9,K9,N9⟩;have hs8:=HE.out.2.2.1.size;have hs1:=z0N H1.out.1;have hb9:=K9.get (HE.out.2.2.1.get H1.out.2.2.1 id) (fun x=>by have:=HE.out.2.2.2 _ x;omega);have r9:=K9.get (HE.out.2.2.1.get H1.out.1 id) (fun x=>by have:=HE.out.2.2.2 _ x;omega);have hkF:Keep F w w9:=(H1.out.2.1.nx HE.out.2.2.1).next K9 (fun _ _ x=>x.elim) (fun _ _ x=>x);have hcv9:Cells w9 ua vl 1 (z0C v.val):=(((H0.out.2.2.2.2.2.2.1.keep H1.out.2.1 (fun _ _ x=>x)).keep HE.out.2.2.1 (fun _ _ x=>x)).keep0 K9 (fun hp x hx=>H0.out.2.2.2.2.2.2.2.1 (by omega) x hx));obtain⟨y0,y1,y2,y3,yf,yb⟩:=z7Z hb9;rw[← HSl.out] at y0;have hne:∀ i,F9 i→F i∨w.heap.size+1<i:=fun i x=>(N9 i x).imp id fun y=>by omega
      have H9:=hid (zA1 T9 (zA1 hkF (zA1 hne (zA1 r9 (zA1 hb9 hcv9)))));go_simp;refine hK _ _ (fun h=>by cases h) (fun _=>⟨y0,y1,y2,y3⟩) ?_;clear hK K T9 K9 N9 hs8 hs1 hkF hne hdo x6 hcv9 hb9;have x9:=zA1 y0 (zA1 y1 (zA1 y2 y3))
      repeat (apply Held.z0F (by rfl) (by exact x9);(intro K w' hS;(try dsimp only at hS);go_simp;exact id))
      refine Held.z0T ?_;clear x9
      have hE4:z1B D A v=if E.1=0 then ((v.bal,0),E.2.1,⟨E.2.2,v.bal,insV A.vs v⟩) else ((Bal.zero,E.1),E.2.1,⟨E.2.2,A.b,A.vs⟩):=by
       unfold z1B;rw[if_neg (by rw[HG.out.1];decide),if_neg (by rw[← HD.out];decide),if_neg (by rw[← HLB.out];decide),HE.out.1]
      have HE4:=hid hE4;clear hE4
      by_cases h0:E.1=0
      ·have q1:(E.1 != 0)=false:=by simp[h0]
       have hdd:E.2.2.dead=false:=by
        rcases HE.out.2.1 with ⟨-,-,h⟩ | ⟨h,-⟩ | ⟨h,-⟩
        ·exact h
        ·omega
        ·exact absurd h0 h
       have HE5:=hid (show z1B D A v=((v.bal,0),E.2.1,⟨E.2.2,v.bal,insV A.vs v⟩) by rw[HE4.out,if_pos h0]);clear HE4;obtain⟨X7,Y7,Z7,hb7,-,-,-,-,-,hF7⟩:=H9.out.1;obtain⟨p0,p1,p2,p3,p4,pf,pb⟩:=z1Z hb7.1;have hX7:=hb7.2.1
       have hkz:Keep (fun k=>k=a) w9 ((w9.setCell ⟨a,1,none⟩ (.int .u64 (v.bal.n:Int))).setCell ⟨a,2,none⟩ (.int .i64 v.bal.node)):=by
        refine Keep.setCell (Keep.setCell (Keep.refl _ _) (.inl ?_) _) (.inl ?_) _ <;> rfl
       have haw:a<w.heap.size:=(AcT.lives a d D A).lt H0.out.1 a (by rw[H1.out.2.2.2.2.2.2.2.2.2];exact .inl H1.out.2.2.2.1.2.1);have haF:F a:=by rw[H1.out.2.2.2.2.2.2.2.2.2];exact .inl H1.out.2.2.2.1.2.1
       have T8:=TrioT.turn1 (T':=BoxA a (accC sb v.bal nv E.2.2.dead) 86) (StoT.lives _ _ _ _) (VotesT.lives _ _) H9.out.1 (fun X' hX'=>⟨X',⟨z0B (z0B hX'.1 1 (.int .u64 (v.bal.n:Int))) 2 (.int .i64 v.bal.node),hX'.2.1,fun k x=>Nat.lt_of_lt_of_le (hX'.2.2 k x) hkz.size⟩,hkz.mono fun k _ e=>by subst e;exact hX'.2.1,fun _ x=>.inl x⟩);obtain⟨F10,T10,-,N10⟩:=T8;have hg9:=z0N r9;have hb10:=hkz.get H9.out.2.2.2.2.1 (fun x=>by omega);have r10:=hkz.get r9 (fun x=>by omega);have hcv10:Cells ((w9.setCell ⟨a,1,none⟩ (.int .u64 (v.bal.n:Int))).setCell ⟨a,2,none⟩ (.int .i64 v.bal.node)) ua vl 1 (z0C v.val):=H9.out.2.2.2.2.2.keep0 hkz (fun hp x hx e=>H0.out.2.2.2.2.2.2.2.1 (by omega) x hx (by rw[e];exact haF));have hkF10:=H9.out.2.1.next hkz (H:=F) (fun _ _ x=>x) (fun k _ e=>by rw[e];exact haF);have hne10:∀ i,F10 i→F i∨w.heap.size+1<i:=fun i x=>(N10 i x).elim (H9.out.2.2.1 i) fun y=>.inr (by omega);obtain⟨w10,hw10⟩:=zX1 ((w9.setCell ⟨a,1,none⟩ (.int .u64 (v.bal.n:Int))).setCell ⟨a,2,none⟩ (.int .i64 v.bal.node));rw[← hw10] at T10 hb10 r10 hcv10 hkF10;obtain⟨X10,Y10,Z10,c1,c2,⟨⟨us,c3⟩,c4⟩,e1,e2,e3,hF10⟩:=T10;rw[hdd] at c1;have H10:=hid (zA1 c1 (zA1 c2 (zA1 c3 (zA1 c4 (zA1 e1 (zA1 e2 (zA1 e3 (zA1 hF10 (zA1 hb10 (zA1 r10 (zA1 hcv10 (zA1 hkF10 (zA1 hne10 (zA1 hdd (zA1 haw haF)))))))))))))));have HW10:=hid hw10;clear c1 c2 c3 c4 e1 e2 e3 hF10 hb10 r10 hcv10 hkF10 hne10 N10 hkz haw haF hX7 hb7 hF7 hg9 hdd h0 r9 hw10 p0 p3 p4 pb
       go_upto_region 13 with fail
       rw[← HW10.out];clear HW10 q1 p1 p2 pf y0 y1 y2 y3 yf yb;obtain⟨y0,y1,y2,y3,yf,yb⟩:=z7Z H10.out.2.2.2.2.2.2.2.2.1;rw[← HSl.out] at y0;have hk11:=kal w10 (.cells #[] 5);have hf11:=Row.fresh w10 5 1;have hz11:(w10.alloc (.cells #[] 5)).heap.size=w10.heap.size+1:=by simp
       have H11:=hid (zA1 hk11 (zA1 hf11 hz11));have y3:=z0E hk11 _ _ y3;clear hk11 hf11 hz11 y0 y1 y2 yf yb;go_wp2_with (at_builtin;refine z0A ?_;intro q hq)
       (refine hq.out ?_;clear hq q)
       obtain⟨w11,hw11⟩:=zX1 (w10.alloc (.cells #[] 5));rw[← hw11] at H11 y3
       first | rw[← hw11] | skip
       clear hw11;refine wpList_plain rfl (fun K hK=>?_);refine z0R z0U (.tmp 73) (.tmp 75) rfl rfl H11.out.2.1 ua vl uc (z0C v.val) rfl (H10.out.2.2.2.2.2.2.2.2.2.2.1.keep H11.out.1 (fun _ _ x=>x)) (z1F _) (by have:=HG.out.2.2;unfold maxLen;omega) (by have:=HG.out.2.2;omega) ?_;intro v12 w12 hr12 hk12 hv12;refine hK _ _ ?_;clear hK K;obtain⟨a12,c12,rfl,-⟩:=hr12.form;rw[Nat.zero_add] at hr12 hv12 ⊢
       have hown12:∀ k,(Value.slice a12 vl c12).ownBlock=some k→w10.heap.size≤k:=fun k e=>by
        rcases hv12 with ⟨e1,-⟩ | ⟨k',h1,h2⟩
        ·rw[e1] at e
         have:=Option.some.inj e;simp only at this;omega
        ·rw[e] at h1
         cases h1
         rcases h2 with h2 | h2
         ·have:=Option.some.inj h2
          simp only at this;omega
         ·have:=H11.out.2.2;omega
       have hkw12:Keep (fun _=>False) w10 w12:=H11.out.1.next hk12 (fun _ _ x=>x) (fun k hk e=>by have e2:w10.heap.size=k:=Option.some.inj e;omega);have hb12:=hkw12.get H10.out.2.2.2.2.2.2.2.2.1 id;have H12:=hid (zA1 hr12 (zA1 hown12 (zA1 hkw12 hb12)));obtain⟨y0,y1,y2,y3,yf,yb⟩:=z7Z hb12;clear hr12 hv12 hown12 hkw12 hb12 hk12 y0 y1 y2 yb;have hkz:Keep (fun k=>k=w.heap.size) w12 (w12.setCell ⟨w.heap.size,3,none⟩ (.slice a12 vl c12)):=kst;have hb13:=z0B H12.out.2.2.2 3 (.slice a12 vl c12);have hk13:=H12.out.2.2.1.next hkz (H:=fun k=>k=w.heap.size) (fun _ _ x=>x.elim) (fun _ _ x=>x)
       have hr13:=H12.out.1.keep hkz (fun k e x=>by
        have h1:=H12.out.2.1 k e;have h2:=z0N H10.out.2.2.2.2.2.2.2.2.1;have h3:k=w.heap.size:=x
        omega)
       obtain⟨w13,hw13⟩:=zX1 (w12.setCell ⟨w.heap.size,3,none⟩ (.slice a12 vl c12));rw[← hw13] at hb13 hk13 hr13;have H13:=hid (zA1 hb13 (zA1 hk13 (zA1 hr13 H12.out.2.1)));have HW13:=hid hw13;clear hkz hb13 hk13 hr13 hw13 H12
       go_upto_region 14 with fail
       rw[← HW13.out];clear HW13 y3 yf
       have hnF:¬ F10 w.heap.size:=fun x=>by
        rcases H10.out.2.2.2.2.2.2.2.2.2.2.2.2.1 _ x with y | y
        ·have:=HE.out.2.2.2 _ y;omega
        ·omega
       have hFe:=H10.out.2.2.2.2.2.2.2.1;have hbox13:=(BoxA.lives _ _ _).keep H10.out.1 H13.out.2.1 (fun i x e=>hnF (by rw[← e,hFe];exact .inl x));have hst13:=(StoT.lives _ _ _ _).keep H10.out.2.1 H13.out.2.1 (fun i x e=>hnF (by rw[← e,hFe];exact .inr (.inl x)));have hvt13:=H10.out.2.2.1.keep H13.out.2.1 (fun i x e=>hnF (by rw[← e,hFe];exact .inr (.inr x)));have hpl:=z9M w13 a sb v.bal nv false Z10 A.vs us sl hbox13.1 hvt13;obtain⟨pp,hpp⟩:=zX1 (z3L A.vs sl);have hple:=zbM A.vs sl;rw[← hpp] at hpl hple;obtain⟨ao,nc,rfl,hnc,hncm,-⟩:=hvt13.row.form;obtain⟨n,hnn⟩:=zX1 (A.vs.length);have hn6:n≤1000000:=by rw[hnn];exact(H0.out.2.1.lens HD.out.symm (H0.out.2.2.1 HD.out.symm)).2.2
       rw[← hnn] at hple hnc;obtain⟨y0,y1,y2,y3,yf,yb⟩:=z7Z H13.out.1;rw[← HSl.out] at y0;have hb13:=hbox13.1;rw[← hnn] at hb13;obtain⟨p0,p1,p2,p3,p4,pf,pb⟩:=z1Z hb13;have H14:=hid (zA1 hbox13 (zA1 hst13 (zA1 hvt13 (zA1 hnF (zA1 hpp (zA1 hple (zA1 hnn (zA1 hnc hncm))))))));clear hbox13 hst13 hvt13 hnF hFe hpp hncm hb13;go_wp2_with (at_builtin;refine z0A ?_;intro q hq);refine hpl.mono ?_;rintro e w14 ⟨rfl,rfl⟩;clear hpl
       by_cases hex:pp<n∧(A.vs[pp]?.map (·.slot))=some sl
       ·obtain⟨h1,h2⟩:=hex
        have hpl2:pp<A.vs.length:=by have:=H14.out.2.2.2.2.2.2.1;omega
        obtain⟨g',ua',uc',rfl,hcell,-⟩:=H14.out.2.2.1.get pp hpl2
        have hslot:A.vs[pp].slot=sl:=by
         rw[List.getElem?_eq_getElem hpl2] at h2;simpa using h2
        obtain⟨ov,hov⟩:=zX1 (A.vs[pp]);rw[← hov] at hcell hslot;have hfr:∀ j,j<4→w14.frozen? ⟨g',pp * 4+j,none⟩=false:=fun j hj=>H14.out.2.2.1.row.frozen (pp * 4+j) (by omega);have a0:=hcell 0 _ rfl;have a1:=hcell 1 _ rfl;have a2:=hcell 2 _ rfl;have a3:=hcell 3 _ rfl;have f0:=hfr 0 (by decide);have f1:=hfr 1 (by decide);have f2:=hfr 2 (by decide);have f3:=hfr 3 (by decide);rw[Nat.add_zero] at a0 f0;rw[hslot] at a0;have q1:(pp:Int)<(n:Int):=by omega
        have HC:=hid (zA1 hpl2 h2);clear hcell hfr hslot h2 hov
        go_upto_region 15 with fail
        go_quiet (fail)
        go_wp2_with (at_builtin;refine z0A ?_;intro q hq);refine z0G [] (by kernel_rfl) (by kernel_rfl) ?_
        repeat (first | (apply z0F (by rfl);(intro K w';go_simp;exact id)) | (apply z0J (by rfl);(intro K;go_simp;exact id)))
        (refine z0M (by rfl) (by rfl) (fun K hK=>?_);go_simp;refine hK _ _ ?_;clear hK K)
        refine z0T ?_;have hk15:Keep (fun _=>False) w14 (w14.drewN (nq+1)):=(Keep.refl _ _).drewN _;have hv15:=H14.out.2.2.1.keep hk15 (fun _ _ x=>x);obtain⟨w15,hw15⟩:=zX1 (w14.drewN (nq+1));have hrow17:=(((hv15.row.setAt (pp * 4) (.int .u64 (sl:Int))).setAt (pp * 4+1) (.int .u64 (v.bal.n:Int))).setAt (pp * 4+2) (.int .i64 v.bal.node)).setAt (pp * 4+3) (.slice a12 vl c12);rw[zjD _ _ _ _ _ _ (by rw[z4C hv15.len];have:=HC.out.1;omega)] at hrow17;rw[← hw15] at hk15 hv15 hrow17 ⊢
        have hkz:Keep (fun k=>k=g') w15 ((((w15.setCell ⟨g',pp * 4,none⟩ (.int .u64 (sl:Int))).setCell ⟨g',pp * 4+1,none⟩ (.int .u64 (v.bal.n:Int))).setCell ⟨g',pp * 4+2,none⟩ (.int .i64 v.bal.node)).setCell ⟨g',pp * 4+3,none⟩ (.slice a12 vl c12)):=by
         refine Keep.setCell (Keep.setCell (Keep.setCell (Keep.setCell (Keep.refl _ _) (.inl ?_) _) (.inl ?_) _) (.inl ?_) _) (.inl ?_) _ <;> rfl
        obtain⟨w17,hw17⟩:=zX1 ((((w15.setCell ⟨g',pp * 4,none⟩ (.int .u64 (sl:Int))).setCell ⟨g',pp * 4+1,none⟩ (.int .u64 (v.bal.n:Int))).setCell ⟨g',pp * 4+2,none⟩ (.int .i64 v.bal.node)).setCell ⟨g',pp * 4+3,none⟩ (.slice a12 vl c12));rw[← hw17] at hrow17 hkz ⊢;clear hw17 hw15 a0 a1 a2 a3 f0 f1 f2 f3 p0 p1 p2 p3 p4 pf pb y0 y1 y2 y3 yf yb;have hZg:Z10 g':=H14.out.2.2.1.own g' rfl;have hk17:=hk15.next hkz (H:=fun k=>k=g') (fun _ _ x=>x.elim) (fun _ _ x=>x);have hr17:=(H13.out.2.2.1.keep hk15 (fun _ _ x=>x))
        have hlt10:∀ i,F10 i→i<w10.heap.size:=fun i x=>by
         rw[H10.out.2.2.2.2.2.2.2.1] at x
         rcases x with x | x | x
         ·exact H10.out.1.2.2 i x
         ·exact(StoT.lives _ _ _ _).lt H10.out.2.1 i x
         ·exact H10.out.2.2.2.1 i x
        have hg10:g'<w10.heap.size:=H10.out.2.2.2.1 g' hZg;have hvp:=(hv15.mono (F':=fun k=>Z10 k∨w10.heap.size≤k) (fun k x=>.inl x)).put pp HC.out.1 v (.slice a12 vl c12) (by have:=H0.out.2.2.2.2.2.2.2.2;rw[← this];exact hr17) (fun k e=>⟨.inr (H13.out.2.2.2 k e),by have:=H13.out.2.2.2 k e;omega⟩) hkz (by rw[show z2U v (.slice a12 vl c12) = [.int .u64 (sl:Int),.int .u64 (v.bal.n:Int),.int .i64 v.bal.node,.slice a12 vl c12] by rw[HSl.out];rfl];exact hrow17)
        have hins:A.vs.set pp v=insV A.vs v:=by
         rw[z9O,← HSl.out,← H14.out.2.2.2.2.1,if_pos HC.out.2,List.set_eq_take_append_cons_drop,if_pos HC.out.1]
        rw[hins] at hvp;have hbx17:=(BoxA.lives _ _ _).keep H14.out.1 hk17 (fun i x e=>H10.out.2.2.2.2.2.1 i x (by rw[show i=g' from e];exact hZg));rw[← H10.out.2.2.2.2.2.2.2.2.2.2.2.2.2.1] at hbx17;have hFe:=H10.out.2.2.2.2.2.2.2.1;have hT17:=zfK (K:=fun k=>k=g') H10.out.2.2.2.2.1 H10.out.2.2.2.2.2.1 H10.out.2.2.2.2.2.2.1 hbx17 H14.out.2.1 hk17 (fun k y e=>H10.out.2.2.2.2.2.2.1 k y (by rw[show k=g' from e];exact hZg)) hvp (fun i x=>hlt10 i (by rw[hFe];exact .inl x)) (fun i x=>hlt10 i (by rw[hFe];exact .inr (.inl x)));have hne:∀ i,F10 i→F i∨w.heap.size+1<i:=H10.out.2.2.2.2.2.2.2.2.2.2.2.2.1;have hgw:=z0N H10.out.2.2.2.2.2.2.2.2.2.1
        have hkF17:Keep F w w17:=(H10.out.2.2.2.2.2.2.2.2.2.2.2.1.next H13.out.2.1 (fun _ _ x=>x) (fun k hk e=>by have e':k=w.heap.size:=e;omega)).next hk17 (fun _ _ x=>x) (fun k hk e=>by
         rcases hne k (by rw[hFe,show k=g' from e];exact .inr (.inr hZg)) with y | y
         ·exact y
         ·omega)
        have r17:=hk17.get (H13.out.2.1.get H10.out.2.2.2.2.2.2.2.2.2.1 (fun e=>by omega)) (fun e=>by
         rcases hne g' (by rw[hFe];exact .inr (.inr hZg)) with y | y
         ·have:=HE.out.2.2.2 _ y;omega
         ·omega)
        have HZ:=hid (zA1 hT17 (zA1 hkF17 (zA1 r17 (show ∀ i,(X10 i∨Y10 i∨((Z10 i∨w10.heap.size≤i)∧i<w17.heap.size))→F i∨w.heap.size+2≤i from fun i x=>by
         rcases x with x | x | ⟨x | x,-⟩
         ·exact(hne i (by rw[hFe];exact .inl x)).imp id fun y=>by omega
         ·exact(hne i (by rw[hFe];exact .inr (.inl x))).imp id fun y=>by omega
         ·exact(hne i (by rw[hFe];exact .inr (.inr x))).imp id fun y=>by omega
         ·exact .inr (by omega)))))
        have d0:w17.cell? ⟨w.heap.size+1,0,none⟩=some (.int .u64 0):=by simp[World.cell?,r17]
        have d1:w17.cell? ⟨w.heap.size+1,1,none⟩=some (.int .i64 0):=by simp[World.cell?,r17]
        have f0:∀ o,w17.frozen? ⟨w.heap.size+1,o,none⟩=false:=fun o=>by simp[World.frozen?,r17]
        obtain⟨-,p1,p2,-,-,-,-⟩:=z1Z hbx17.1;clear hk15 hv15 hrow17 hkz hZg hk17 hr17 hlt10 hg10 hvp hins hbx17 hFe hT17 hne hgw hkF17 r17;go_wp2_with (at_builtin;refine z0A ?_;intro q hq);obtain⟨q1,q2⟩:=zdZ (B:=w.heap.size+2) HZ.out.1 HZ.out.2.1 HE.out.2.2.2 HZ.out.2.2.2 (Nat.lt_succ_self _) (Nat.le_succ _) HZ.out.2.2.1 v.bal 0;refine bodyPost_ret (z2I rfl _ _ (w.heap.size+1) rfl _ q1 _ Tryz.underlying28 rfl (by kernel_rfl)) rfl ?_;rw[HP.out,HE5.out];exact q2
       ·have HX:=hid hex
        have cut:(∃ ov,ov.slot≠sl∧pp<n∧∃ h:pp<A.vs.length,A.vs[pp]=ov)∨¬ pp<n:=by
         by_cases h:pp<n
         ·left
          have h2:pp<A.vs.length:=by have:=H14.out.2.2.2.2.2.2.1;omega
          refine⟨A.vs[pp],fun e=>hex ⟨h,by rw[List.getElem?_eq_getElem h2];simp[e]⟩,h,h2,rfl⟩
         ·exact .inr h
        clear hex
        go_upto_region 15 with fail
        rcases cut with cut | cut
        case' inl=>
         obtain⟨ov,hslot,hpn,hpl2,hov⟩:=cut;obtain⟨g',ua',uc',rfl,hcell,-⟩:=H14.out.2.2.1.get pp hpl2;rw[hov] at hcell;have a0:=hcell 0 _ rfl;rw[Nat.add_zero] at a0;obtain⟨os,hos⟩:=zX1 (ov.slot);rw[← hos] at a0 hslot;have q1:(pp:Int)<(n:Int):=by omega
         have q2:((os:Int) == (sl:Int))=false:=by simp;omega
         have q3:decide (os=sl)=false:=decide_eq_false hslot;clear hcell hov hos hslot
         go_quiet (fail)
         go_upto_region 18 with fail
         clear a0 q1 q2 q3 hpl2 hpn ua' uc'
        case' inr=>
         have hpn:=cut;have q1:decide ((pp:Int)<(n:Int))=false:=by simp;omega
         have q2:decide (pp<n)=false:=decide_eq_false hpn;have q3:decide (pp<A.vs.length)=false:=decide_eq_false (by have:=H14.out.2.2.2.2.2.2.1;omega)
         go_quiet (fail)
         go_upto_region 18 with fail
         clear q1 q2 q3 hpn cut
        all_goals
         have hk15:Keep (fun _=>False) w14 (w14.drewN nq):=(Keep.refl _ _).drewN _;obtain⟨w15,hw15⟩:=zX1 (w14.drewN nq);rw[← hw15] at hk15 ⊢;clear hw15 nq y0 y1 y2 y3 yf yb p0 p1 p2 p3 p4 pf pb;have hbx15:=(BoxA.lives _ _ _).keep H14.out.1 hk15 (fun _ _ x=>x);have hvt15:=H14.out.2.2.1.keep hk15 (fun _ _ x=>x);have hk16:=kal w15 (.cells #[.int .u64 0,.int .u64 0,.int .i64 0,.slice none 0 0] 31);have hn16:=heap_alloc_new w15 (.cells #[.int .u64 0,.int .u64 0,.int .i64 0,.slice none 0 0] 31);have hbx16:=(BoxA.lives _ _ _).keep hbx15 hk16 (fun _ _ x=>x);have H16:=hid (zA1 hk15 (zA1 hvt15 (zA1 hk16 (zA1 hn16 hbx16))));obtain⟨p0,p1,p2,p3,p4,pf,pb⟩:=z1Z hbx15.1;clear hk15 hbx15 hvt15 hk16 hn16 hbx16 p0 p1 p2 p4 pf pb;go_wp2_with (at_builtin;refine z0A ?_;intro q hq)
         (refine hq.out ?_;clear hq q)
         obtain⟨w16,hw16⟩:=zX1 (w15.alloc (.cells #[.int .u64 0,.int .u64 0,.int .i64 0,.slice none 0 0] 31));rw[← hw16] at H16
         first | rw[← hw16] | skip
         clear hw16;have hn16:=H16.out.2.2.2.1;have hvt16:=H16.out.2.1.keep H16.out.2.2.1 (fun _ _ x=>x);have hnl:=H14.out.2.2.2.2.2.2.1;refine wpList_plain rfl (fun K hK=>?_)
         refine z0R z5B (.tmp 117) (.tmp 119) rfl rfl hvt16.row (some ⟨w15.heap.size,0,none⟩) 1 1 (z2U ⟨0,Bal.zero,[]⟩ (.slice none 0 0)) rfl
          ⟨rfl,fun _=>⟨_,rfl,fun t u hu=>by rw[z0K,Nat.zero_add,cell_of_row _ _ _ _ _ _ hn16];simpa [z2U,Bal.zero] using hu⟩⟩ (fun u hu=>by simp[z2U] at hu;rcases hu with rfl | rfl | rfl | rfl <;> rfl) (by unfold maxLen;omega) (by omega) ?_
         intro v17 w17 hr17 hk17 hv17;refine hK _ _ ?_;clear hK K hn16
         have hlt10:∀ i,F10 i→i<w10.heap.size:=fun i x=>by
          rw[H10.out.2.2.2.2.2.2.2.1] at x
          rcases x with x | x | x
          ·exact H10.out.1.2.2 i x
          ·exact(StoT.lives _ _ _ _).lt H10.out.2.1 i x
          ·exact H10.out.2.2.2.1 i x
         have hFe:=H10.out.2.2.2.2.2.2.2.1;have hXa:X10 a:=H10.out.1.2.1;have ha10:=hlt10 a (by rw[hFe];exact .inl hXa);have hs16:w10.heap.size≤w16.heap.size:=by have h1:=H13.out.2.1.size;have h2:=H16.out.1.size;have h3:=H16.out.2.2.1.size;omega
         have hnZ:∀ k,hvt16.row.1=hvt16.row.1→Z10 k→¬ X10 k:=fun k _ x y=>H10.out.2.2.2.2.2.1 k y x;obtain⟨g2,cap,cur,fz,rfl,-,-,hc1,hc2,-⟩:=hr17.some (by omega)
         have hg2:Z10 g2∨w14.heap.size≤g2:=by
          rcases hv17 with ⟨-,h⟩ | ⟨k,h1,h2⟩
          ·omega
          ·have e:g2=k:=Option.some.inj h1
           subst e
           rcases h2 with h2 | h2
           ·exact .inl (hvt16.own _ h2)
           ·exact .inr (by have h4:=H16.out.1.size;have h5:=H16.out.2.2.1.size;omega)
         have hvp:=hvt16.push (x:=⟨0,Bal.zero,[]⟩) (u:=.slice none 0 0) (F':=fun k=>Z10 k∨w10.heap.size≤k) (Row.nil _ _ _) (fun k e=>by simp[Value.ownBlock] at e) hr17 hk17 (fun k x=>.inl x) (fun k e=>by
          have e2:g2=k:=Option.some.inj e;subst e2;refine⟨hg2.imp id fun h=>by have:=H13.out.2.1.size;omega,?_⟩
          rcases hv17 with ⟨-,h⟩ | ⟨k,h1,h2⟩
          ·omega
          ·have e:g2=k:=Option.some.inj h1
           subst e
           exact h2.imp id fun h=>by omega)
         have hown16:=hvt16.own;have hb17:=hk17.get H16.out.2.2.2.2.1 (fun e=>H10.out.2.2.2.2.2.1 a hXa (hown16 a e));have hkz:Keep (fun k=>k=a) w17 (w17.setCell ⟨a,3,none⟩ (.slice (some ⟨g2,0,none⟩) (A.vs.length+1) cap)):=kst;have hb18:=z0B hb17 3 (.slice (some ⟨g2,0,none⟩) (A.vs.length+1) cap)
         have hv18:=hvp.keep hkz (fun k x e=>by
          have e':k=a:=e;subst e'
          rcases x with x | x
          ·exact H10.out.2.2.2.2.2.1 k hXa x
          ·omega)
         have hk18:Keep (fun k=>X10 k∨Z10 k) w14 (w17.setCell ⟨a,3,none⟩ (.slice (some ⟨g2,0,none⟩) (A.vs.length+1) cap)):=
          (((H16.out.1.nx H16.out.2.2.1)).next hk17 (fun _ _ x=>x.elim) (fun k _ e=>.inr (hown16 k e))).next hkz (fun _ _ x=>x) (fun k _ e=>by rw[show k=a from e];exact .inl hXa)
         obtain⟨p0,p1,p2,p3,p4,pf,pb⟩:=z1Z hb17;have H17:=hid (zA1 hg2 (zA1 hb18 (zA1 hv18 (zA1 hk18 (zA1 hlt10 (zA1 hXa (zA1 ha10 (zA1 hc1 (zA1 hc2 hnl)))))))));obtain⟨w18,hw18⟩:=zX1 (w17.setCell ⟨a,3,none⟩ (.slice (some ⟨g2,0,none⟩) (A.vs.length+1) cap));rw[← hw18] at H17;clear hg2 hb18 hv18 hk18 hlt10 hXa ha10 hc1 hc2 hnl hkz hvp hown16 hb17 hr17 hk17 hv17 hvt16 hFe hs16 hnZ p0 p1 p2 p4 pb;have HW18:=hid hw18;clear hw18
         go_upto_region 19 with fail
         rw[← HW18.out];clear HW18 p3 pf;obtain⟨p0,p1,p2,p3,p4,pf,pb⟩:=z1Z H17.out.2.1;obtain⟨N,hN⟩:=zX1 (A.vs.length+1);have hv18:=H17.out.2.2.1;have hc1:=H17.out.2.2.2.2.2.2.2.1;have hc2:=H17.out.2.2.2.2.2.2.2.2.1;have hnl:=H17.out.2.2.2.2.2.2.2.2.2;have hple:=H14.out.2.2.2.2.2.1;rw[← hN] at p3 hv18 hc1;obtain⟨q,hq⟩:=zX1 (pp+1);have e1:(pp:Int)+1=(q:Nat):=by omega
         have z1:=wi64 q (by omega);obtain⟨od,hod⟩:=zX1 (if cap=q then 0 else q * 4);obtain⟨os,hos⟩:=zX1 (if cap=pp then 0 else pp * 4);obtain⟨dl,hdl⟩:=zX1 (N - q);obtain⟨dc,hdc⟩:=zX1 (cap - q);obtain⟨sn,hsn⟩:=zX1 (N - pp);obtain⟨sc,hsc⟩:=zX1 (cap - pp);have hslA:=fun w=>z1T (P:=Tryz.prog) z5B (some ⟨g2,0,none⟩) N cap .i64 q (by omega) w;have hslB:=fun w=>z1T (P:=Tryz.prog) z5B (some ⟨g2,0,none⟩) N cap .i64 pp (by omega) w
         have hrow18:Row w18 31 4 (.slice (some ⟨g2,0,none⟩) N cap) N (z0S (A.vs ++ [⟨0,Bal.zero,[]⟩]) (us ++ [.slice none 0 0])):=by
          have h:=hv18.row
          rwa [List.length_append,List.length_singleton,← hN] at h
         have hkd:Keep (fun _=>False) w18 w18.drew:=(Keep.refl _ _).drew;have hrow18:=hrow18.keep hkd (fun _ _ x=>x);have hts:=((Cells.of_row hrow18).tail pp (by omega) (by omega) (by decide)).take (n - pp) (by omega);rw[zgJ] at hslA hslB hts;have hulen:=H14.out.2.2.1.len;have hvl:(z0S A.vs us).length=n * 4:=by rw[z4C hulen,← hnl]
         rw[z7Y hulen,copied _ _ _ _ (by rw[hvl];omega)] at hts;rw[← hod,← hdl,← hdc] at hslA;rw[← hos,← hsn,← hsc] at hslB;rw[← hos] at hts;obtain⟨gx,cx,cur,fz,hvx,hgx,hfz,-,-,hsz,-⟩:=hrow18.some (by omega);cases hvx;have hcl:((z0S A.vs us).drop (pp * 4)).length=(n - pp) * 4:=by rw[List.length_drop,hvl];omega
         have hfit:od+((z0S A.vs us).drop (pp * 4)).length≤N * 4:=by rw[hcl,hod];split <;> omega
         have hsplice:∀ L:List Value,splice L od ((z0S A.vs us).drop (pp * 4))=splice L (pp * 4+4) ((z0S A.vs us).drop (pp * 4)):=fun L=>by
          by_cases hcq:cap=q
          ·have e:(z0S A.vs us).drop (pp * 4) = []:=List.drop_of_length_le (by rw[hvl];omega)
           rw[e,zdC,zdC]
          ·rw[hod,if_neg hcq,hq,show (pp+1) * 4=pp * 4+4 by omega]
         have hsp:=hrow18.spliced hgx od _ hfit;have hone:∀ u ∈ (z0S A.vs us).drop (pp * 4),u.oneCell'=true:=fun u hu=>H14.out.2.2.1.one u (List.mem_of_mem_drop hu);have hmin:min sn dl=n - pp:=by omega
         have HS:=hid (zA1 hsp (zA1 hsplice (zA1 hkd (zA1 hcl hN))));have hN':=hN.symm;have HQ:=hid (zA1 hq (zA1 hdl (zA1 hod hsn)));have hszf:od+((z0S A.vs us).drop (pp * 4)).length≤cur.size:=by rw[hsz];exact Nat.le_trans hfit (Nat.mul_le_mul_right _ hc1)
         have HN':=hid hN';clear hN' hsp hsplice hkd hcl hfit hrow18 hod hos hdl hdc hsn hsc hvl hulen hv18 hq hN;refine z0G [] (by kernel_rfl) (by kernel_rfl) ?_
         repeat (first | (apply z0F (by rfl);(intro K w';go_simp;exact id)) | (apply z0J (by rfl);(intro K;go_simp;exact id)))
         refine z0M (by rfl) (by rfl) (fun K hK=>?_);refine zsV z5B (.tmp 129) (.tmp 135) rfl g2 od dl dc cur 31 fz rfl hgx hfz (some ⟨g2,os,none⟩) sn sc rfl _ (n - pp) hmin hts hszf hone ?_;refine hK _ _ ?_;clear hK K
         repeat (first | (apply z0F (by rfl);(intro K w';go_simp;exact id)) | (apply z0J (by rfl);(intro K;go_simp;exact id)))
         refine z0T ?_;have hk19:Keep (fun k=>k=g2) w18 (w18.drew.setRow g2 (splice cur.toList od ((z0S A.vs us).drop (pp * 4))).toArray):=HS.out.2.2.1.next (Keep.setRow (F:=fun k=>k=g2) (Keep.refl _ _) (.inl rfl) _) (fun _ _ x=>x.elim) (fun _ _ x=>x);have hrow19:=HS.out.1;obtain⟨w19,hw19⟩:=zX1 (w18.drew.setRow g2 (splice cur.toList od ((z0S A.vs us).drop (pp * 4))).toArray);rw[← hw19] at hk19 hrow19;rw[HS.out.2.1] at hrow19;obtain⟨xs,hxs⟩:=zX1 (splice (z0S (A.vs ++ [⟨0,Bal.zero,[]⟩]) (us ++ [.slice none 0 0])) (pp * 4+4) ((z0S A.vs us).drop (pp * 4)));rw[← hxs] at hrow19;have hxl:xs.length=N * 4:=hrow19.len;have hppN:pp<N:=by have:=HS.out.2.2.2.2;omega
         have hcell:∀ j,j<4→∃ u,w19.cell? ⟨g2,pp * 4+j,none⟩=some u:=fun j hj=>⟨_,by rw[hrow19.cell (pp * 4+j) (by omega),List.getElem?_eq_getElem (by omega)]⟩;have hfr:∀ j,j<4→w19.frozen? ⟨g2,pp * 4+j,none⟩=false:=fun j hj=>hrow19.frozen (pp * 4+j) (by omega);obtain⟨u0,a0⟩:=hcell 0 (by decide);obtain⟨u1,a1⟩:=hcell 1 (by decide);obtain⟨u2,a2⟩:=hcell 2 (by decide);obtain⟨u3,a3⟩:=hcell 3 (by decide);have f0:=hfr 0 (by decide);have f1:=hfr 1 (by decide);have f2:=hfr 2 (by decide);have f3:=hfr 3 (by decide);rw[Nat.add_zero] at a0 f0
         have hne2:a≠g2:=fun e=>by
          rcases H17.out.1 with x | x
          ·exact H10.out.2.2.2.2.2.1 a H17.out.2.2.2.2.2.1 (by rw[e];exact x)
          ·have h1:=H17.out.2.2.2.2.2.2.1;have h2:=H13.out.2.1.size;omega
         have hb19:=hk19.get H17.out.2.1 hne2
         have hg2w:w.heap.size≠g2:=fun e=>by
          rcases H17.out.1 with x | x
          ·exact H14.out.2.2.2.1 (by rw[H10.out.2.2.2.2.2.2.2.1,e];exact .inr (.inr x))
          ·have h1:=z0N H10.out.2.2.2.2.2.2.2.2.1;have h2:=H13.out.2.1.size;omega
         have hnK:¬ (X10 w.heap.size∨Z10 w.heap.size):=fun x=>by
          have hFe:=H10.out.2.2.2.2.2.2.2.1
          rcases x with x | x
          ·exact H14.out.2.2.2.1 (by rw[hFe];exact .inl x)
          ·exact H14.out.2.2.2.1 (by rw[hFe];exact .inr (.inr x))
         have hbv:=hk19.get (H17.out.2.2.2.1.get H13.out.1 hnK) hg2w;rw[HN'.out] at hb19;obtain⟨p0,p1,p2,p3,p4,pf,pb⟩:=z1Z hb19;obtain⟨y0,y1,y2,y3,yf,yb⟩:=z7Z hbv;rw[← HSl.out] at y0;have H19:=hid (zA1 hk19 (zA1 hrow19 (zA1 hxs (zA1 hb19 hxl))));have HW19:=hid hw19;clear hk19 hrow19 hxs hb19 hxl hcell hfr hne2 hbv hg2w hnK hw19 hslA hslB
         go_upto_region 20 with fail
         rw[← HW19.out];clear HW19;refine z0G [] (by kernel_rfl) (by kernel_rfl) ?_
         repeat (first | (apply z0F (by rfl);(intro K w';go_simp;exact id)) | (apply z0J (by rfl);(intro K;go_simp;exact id)))
         (refine z0M (by rfl) (by rfl) (fun K hK=>?_);go_simp;refine hK _ _ ?_;clear hK K)
         refine z0T ?_;have hrow20:=(((H19.out.2.1.setAt (pp * 4) (.int .u64 (sl:Int))).setAt (pp * 4+1) (.int .u64 (v.bal.n:Int))).setAt (pp * 4+2) (.int .i64 v.bal.node)).setAt (pp * 4+3) (.slice a12 vl c12)
         have hkz:Keep (fun k=>k=g2) w19 ((((w19.setCell ⟨g2,pp * 4,none⟩ (.int .u64 (sl:Int))).setCell ⟨g2,pp * 4+1,none⟩ (.int .u64 (v.bal.n:Int))).setCell ⟨g2,pp * 4+2,none⟩ (.int .i64 v.bal.node)).setCell ⟨g2,pp * 4+3,none⟩ (.slice a12 vl c12)).drew:=by
          refine Keep.drew (Keep.setCell (Keep.setCell (Keep.setCell (Keep.setCell (Keep.refl _ _) (.inl ?_) _) (.inl ?_) _) (.inl ?_) _) (.inl ?_) _) <;> rfl
         have hrow20:=hrow20.keep (show Keep (fun _=>False) _ ((((w19.setCell ⟨g2,pp * 4,none⟩ (.int .u64 (sl:Int))).setCell ⟨g2,pp * 4+1,none⟩ (.int .u64 (v.bal.n:Int))).setCell ⟨g2,pp * 4+2,none⟩ (.int .i64 v.bal.node)).setCell ⟨g2,pp * 4+3,none⟩ (.slice a12 vl c12)).drew from(Keep.refl _ _).drew) (fun _ _ x=>x);obtain⟨w20,hw20⟩:=zX1 (((((w19.setCell ⟨g2,pp * 4,none⟩ (.int .u64 (sl:Int))).setCell ⟨g2,pp * 4+1,none⟩ (.int .u64 (v.bal.n:Int))).setCell ⟨g2,pp * 4+2,none⟩ (.int .i64 v.bal.node)).setCell ⟨g2,pp * 4+3,none⟩ (.slice a12 vl c12)).drew);rw[← hw20] at hrow20 hkz ⊢;clear hw20 a0 a1 a2 a3 f0 f1 f2 f3 p0 p1 p2 p3 p4 pf pb y0 y1 y2 y3 yf yb;have hFe:=H10.out.2.2.2.2.2.2.2.1;rw[zjD _ _ _ _ _ _ (by rw[H19.out.2.2.2.2];omega),H19.out.2.2.1,HS.out.2.2.2.2] at hrow20;have hk1820:=H19.out.1.next hkz (H:=fun k=>k=g2) (fun _ _ x=>x) (fun _ _ x=>x);have hk1418:=H17.out.2.2.2.1;have hlt10:=H17.out.2.2.2.2.1;have hown:=H13.out.2.2.2
         have hcells:Row w18 5 1 (.slice a12 vl c12) v.val.length (z0C v.val):=by
          rw[← H0.out.2.2.2.2.2.2.2.2]
          exact H13.out.2.2.1.keep hk1418 (fun k e x=>by
           have h1:=hown k e;have h2:=hlt10 k (by rw[hFe];exact x.elim .inl fun y=>.inr (.inr y))
           omega)
         have hvp:=H17.out.2.2.1.ins H14.out.2.2.1.len pp (by have:=H14.out.2.2.2.2.2.1;have:=H14.out.2.2.2.2.2.2.1;omega) v (.slice a12 vl c12) hcells (fun k e=>⟨.inr (hown k e),by
          have h1:=hown k e;have h2:=H13.out.2.2.1.lt e
          rcases H17.out.1 with x | x
          ·have:=hlt10 g2 (by rw[hFe];exact .inr (.inr x));omega
          ·omega⟩) hk1820 (by rw[show z2U v (.slice a12 vl c12) = [.int .u64 (sl:Int),.int .u64 (v.bal.n:Int),.int .i64 v.bal.node,.slice a12 vl c12] by rw[HSl.out];rfl];exact hrow20)
         have hins:A.vs.take pp ++ v :: A.vs.drop pp=insV A.vs v:=by
          rw[z9O,← HSl.out,← H14.out.2.2.2.2.1,if_neg];intro e;refine HX.out ⟨?_,e⟩;have h2:=H14.out.2.2.2.2.2.2.1
          rcases Nat.lt_or_ge pp A.vs.length with h | h
          ·omega
          ·rw[List.getElem?_eq_none h] at e;cases e
         rw[hins] at hvp
         have hne2:a≠g2:=fun e=>by
          rcases H17.out.1 with x | x
          ·exact H10.out.2.2.2.2.2.1 a H17.out.2.2.2.2.2.1 (by rw[e];exact x)
          ·have h1:=H17.out.2.2.2.2.2.2.1;have h2:=H13.out.2.1.size;omega
         have hb20:=hkz.get H19.out.2.2.2.1 hne2;rw[← H10.out.2.2.2.2.2.2.2.2.2.2.2.2.2.1,HS.out.2.2.2.2] at hb20;have hs1420:=hk1418.size;have hs1820:=hk1820.size;have hs1014:=H13.out.2.1.size
         have hk1420:Keep (fun k=>X10 k∨Z10 k) w14 w20:=hk1418.next hk1820 (fun _ _ x=>x) (fun k hk e=>by
          have e':k=g2:=e
          rcases H17.out.1 with x | x
          ·rw[e'];exact .inr x
          ·omega)
         have hne:∀ i,F10 i→F i∨w.heap.size+1<i:=H10.out.2.2.2.2.2.2.2.2.2.2.2.2.1;have hgw:=z0N H10.out.2.2.2.2.2.2.2.2.2.1;have hbx20:BoxA a (accC sb v.bal (.slice (some ⟨g2,0,none⟩) (A.vs.length+1) cap) E.2.2.dead) 86 w20 X10:=⟨hb20,H10.out.1.2.1,fun k x=>Nat.lt_of_lt_of_le (hlt10 k (by rw[hFe];exact .inl x)) (by omega)⟩;have hT20:=zfK (K:=fun k=>X10 k∨Z10 k) H10.out.2.2.2.2.1 H10.out.2.2.2.2.2.1 H10.out.2.2.2.2.2.2.1 hbx20 H14.out.2.1 hk1420 (fun k y e=>e.elim (fun z=>H10.out.2.2.2.2.1 k z y) (fun z=>H10.out.2.2.2.2.2.2.1 k y z)) hvp (fun i x=>hlt10 i (by rw[hFe];exact .inl x)) (fun i x=>hlt10 i (by rw[hFe];exact .inr (.inl x)))
         have hkF20:Keep F w w20:=(H10.out.2.2.2.2.2.2.2.2.2.2.2.1.next H13.out.2.1 (fun _ _ x=>x) (fun k hk e=>by have e':k=w.heap.size:=e;omega)).next hk1420 (fun _ _ x=>x) (fun k hk e=>by
          rcases hne k (by rw[hFe];exact e.elim .inl fun y=>.inr (.inr y)) with y | y
          ·exact y
          ·omega)
         have r20:=hk1420.get (H13.out.2.1.get H10.out.2.2.2.2.2.2.2.2.2.1 (fun e=>by omega)) (fun e=>by
          rcases hne (w.heap.size+1) (by rw[hFe];exact e.elim .inl fun y=>.inr (.inr y)) with y | y
          ·have:=HE.out.2.2.2 _ y;omega
          ·omega)
         have HZ:=hid (zA1 hT20 (zA1 hkF20 (zA1 r20 (show ∀ i,(X10 i∨Y10 i∨((Z10 i∨w10.heap.size≤i)∧i<w20.heap.size))→F i∨w.heap.size+2≤i from fun i x=>by
          rcases x with x | x | ⟨x | x,-⟩
          ·exact(hne i (by rw[hFe];exact .inl x)).imp id fun y=>by omega
          ·exact(hne i (by rw[hFe];exact .inr (.inl x))).imp id fun y=>by omega
          ·exact(hne i (by rw[hFe];exact .inr (.inr x))).imp id fun y=>by omega
          ·exact .inr (by omega)))))
         have d0:w20.cell? ⟨w.heap.size+1,0,none⟩=some (.int .u64 0):=by simp[World.cell?,r20]
         have d1:w20.cell? ⟨w.heap.size+1,1,none⟩=some (.int .i64 0):=by simp[World.cell?,r20]
         have f0:∀ o,w20.frozen? ⟨w.heap.size+1,o,none⟩=false:=fun o=>by simp[World.frozen?,r20]
         obtain⟨-,p1,p2,-,-,-,-⟩:=z1Z hbx20.1;clear hrow20 hkz hFe hk1820 hk1418 hlt10 hown hcells hvp hins hne2 hb20 hs1420 hs1820 hs1014 hk1420 hne hgw hbx20 hT20 hkF20 r20;go_wp2_with (at_builtin;refine z0A ?_;intro q hq);obtain⟨q1,q2⟩:=zdZ (B:=w.heap.size+2) HZ.out.1 HZ.out.2.1 HE.out.2.2.2 HZ.out.2.2.2 (Nat.lt_succ_self _) (Nat.le_succ _) HZ.out.2.2.1 v.bal 0;refine bodyPost_ret (z2I rfl _ _ (w.heap.size+1) rfl _ q1 _ Tryz.underlying28 rfl (by kernel_rfl)) rfl ?_;rw[HP.out,HE5.out];exact q2
      ·have q1:(E.1 != 0)=true:=by simpa using h0
       have q2:decide (E.1=0)=false:=decide_eq_false h0;have d0:w9.cell? ⟨w.heap.size+1,0,none⟩=some (.int .u64 0):=by simp[World.cell?,r9]
       have d1:w9.cell? ⟨w.heap.size+1,1,none⟩=some (.int .i64 0):=by simp[World.cell?,r9]
       have f0:∀ o,w9.frozen? ⟨w.heap.size+1,o,none⟩=false:=fun o=>by simp[World.frozen?,r9]
       have H0':=hid h0;clear r9 h0 y0 y1 y2 y3;go_wp2_with (at_builtin;refine z0A ?_;intro q hq);obtain⟨q1,q2⟩:=zdZ (a:=a) (d:=d) (D:=E.2.1) (A:=⟨E.2.2,A.b,A.vs⟩) (B:=w.heap.size+2) ⟨sb,nv,H9.out.1⟩ H9.out.2.1 HE.out.2.2.2 (fun i x=>(H9.out.2.2.1 i x).imp id fun y=>by omega) (Nat.lt_succ_self _) (Nat.le_succ _) H9.out.2.2.2.1 Bal.zero E.1;refine bodyPost_ret (z2I rfl _ _ (w.heap.size+1) rfl _ q1 _ Tryz.underlying28 rfl (by kernel_rfl)) rfl ?_;rw[HP.out,HE4.out,if_neg H0'.out];exact q2
end
section
open Go.RowKit Go.Maps
open MI SO BM DM WM AC
def RAccPost (a d:Nat) (F:Nat→Prop) (w:World) (R:(Bal×Int)×Dk×Ac) (e:Ending) (w':World):Prop:=
 ∃ F',e = .returned (.tuple #[balV R.1.1,.int .i64 R.1.2])∧RAcT a d R.2.1 R.2.2.s w' F'∧Keep F w w'∧∀ i,F' i→F i∨w.heap.size≤i
end
section
open Go.RowKit Go.Maps
open MI SO BM DM WM AC
def TrimPost (a d:Nat) (F:Nat→Prop) (w:World) (R:(Nat×Int)×Dk×Ac) (e:Ending) (w':World):Prop:=
 e = .returned (.tuple #[.int .i64 (R.1.1:Nat),.int .i64 R.1.2])∧Turns (AcT a d R.2.1 R.2.2) F w w'
structure TrimIn (w:World) (vs:List Vt) (k i:Nat) (lv:Value) (wr:World):Prop where
 keep:Keep (fun _=>False) w wr
 row:Row wr 63 3 lv (cutV (vs.take i) k).length (chsV (zfZ (cutV (vs.take i) k)))
 own:∀ j,lv.ownBlock=some j→w.heap.size≤j
end
section
open Go.RowKit Go.Maps
open MI SO BM DM WM AC
def RTrimPost (a d:Nat) (F:Nat→Prop) (w:World) (R:(Nat×Int)×Dk×Ac) (e:Ending) (w':World):Prop:=
 e = .returned (.tuple #[.int .i64 (R.1.1:Nat),.int .i64 R.1.2])∧Turns (RAcT a d R.2.1 R.2.2.s) F w w'
def AC.cutI (vs:List Vt) (k i:Nat):List Vt:=(vs.take i).filter fun v=>decide (v.slot≤k)
structure RTrimIn (w:World) (vs:List Vt) (k i:Nat) (lv:Value) (wr:World):Prop where
 keep:Keep (fun _=>False) w wr
 row:Row wr 63 3 lv (cutI vs k i).length (chsV (zfZ (cutI vs k i)))
 own:∀ j,lv.ownBlock=some j→w.heap.size≤j
end
section
open Go.RowKit Go.Maps
open MI SO BM DM WM
section
variable {P:Program} {o:Oper} {a:Act} {w:World} {K:Act→World→Prop} {Q:Exit→Act→World→Prop}
end
structure ztT (D:Dk) (S:St):Prop where
 size:6≤D.safe.length
 ok:PsOk S.ps
 count:S.g.l.length≤4000
 safe:S.g.safe≤S.g.l.length
 lg:LgOk (half D) S.g
theorem StoAt.facts {w:World} {b d:Nat} {F Fd:Nat→Prop} {D:Dk} {S:St} (h:StoAt w b d F Fd D S):ztT D S:=by
 have hok:=h.ok;obtain⟨wb,mb,m,Fl,H⟩:=h;have hl:=H.log.ok;exact⟨by have:=hl.two;unfold half at this;omega,hok,hl.count,hl.safe,hl⟩
end
end Go.Proofs.YtkjofdocgaiedaaGreat
