/- Texts AccJ, AccK, AccL, AccV, AccX, AcdA, AccW, AccZ, StpN, AccP, AcdB, GrM, OncP, Quo, Star, Recs in one. Conditions: as each law names them. -/
import Derived.Defers
import Derived.Deep.CutBlock
import Derived.Deep.DeepCutAuto
import Derived.Laws.BitsAllLaws
import Derived.Test.YtkhddpiopbmhjaaGreatUaa
import Derived.Test.YtkhddpiopbmhjaaGreatUad
import Derived.Test.YtkhddpiopbmhjaaGreatUah
import Derived.Test.YtkhddpiopbmhjaaGreatUaj
import Derived.Test.YtkhddpiopbmhjaaGreatUak
import Derived.Test.YtkhddpiopbmhjaaGreatUao
import Derived.Test.YtkhddpiopbmhjaaGreatUaz
import Derived.Test.YtkhddpiopbmhjaaGreatUbb
set_option maxRecDepth 20000
set_option maxHeartbeats 8000000
namespace Go.Proofs.YtkhddpiopbmhjaaGreat
section
open Go.RowKit Go.Maps
open MI SO BM DM WM AC
theorem zlQ(u:FrameMode)(w:World)(ba be a sb:Nat)(b:Bal)(nv:Value)(dead:Bool)(e:Int)(ha:w.cell? ⟨ba,0,none⟩=some (.pointer (some ⟨a,0,none⟩)))(he:w.cell? ⟨be,0,none⟩=some (.int .i64 e))(hh:w.heap[a]?=some (.cells (accC sb b nv dead) 152 (0,0))):CallsD Tryz.prog 121 #[.pointer (some ⟨ba,0,none⟩),.pointer (some ⟨be,0,none⟩)] u w λr u' w'=>u'=u/\(r = .returned (.tuple #[])/\w'.heap[a]?=some (.cells (accC sb b nv (dead || decide (e=6))) 152 (0,0))/\Keep (λk=>k=a) w w'):=by
 obtain⟨k0,k1,k2,k3,k4,kf,kb⟩:=z0I hh;have HH:=hid hh;clear hh k0 k1 k2 k3;have hk:∀ (w1:World) (v:Value),Keep zF w w1->w1.heap[a]?=some (.cells (accC sb b nv dead) 152 (0,0))->(w1.setCell ⟨a,4,none⟩ v).heap[a]?=some (.cells #[.pointer (some ⟨sb,0,none⟩),.int .u64 (b.n:Int),.int .i64 b.node,nv,v] 152 (0,0))/\Keep (λk=>k=a) w (w1.setCell ⟨a,4,none⟩ v):=λw1 v h1 h2=> ⟨z0A h2 4 v,h1.next (show Keep (λk=>k=a) w1 _ from by refine Keep.setCell (Keep.refl _ _) (.inl ?_) _;rfl) zE zI⟩;have HK:=hid hk;clear hk
 go_enter_d Tryz.func121,Tryz.ntmps121
 go_wp2_with fail;have j0:=λs:Later w=>s.cell ha;have j1:=λs:Later w=>s.cell he;have j2:=λs:Later w=>s.cell k4;have fin:∀ (w1:World) (x:Bool),Keep zF w w1->x=(dead || decide (e=6))->(w1.setCell ⟨a,4,none⟩ (.bool x)).heap[a]?=some (.cells (accC sb b nv (dead || decide (e=6))) 152 (0,0))/\Keep (λk=>k=a) w (w1.setCell ⟨a,4,none⟩ (.bool x)):=λw1 x h1 hx=>by{rw[<-hx];exact HK.o w1 (.bool x) h1 (h1.get HH.o id)};have HF:=hid fin;clear fin ha he k4;cases dead with | true=>{(refine z1D 11 (by kernel_rfl) (by kernel_rfl) ?_;simp only[List.take_succ_cons,List.take_zero,List.drop_succ_cons,List.drop_zero];(repeat (go_big_quiet_step ((fail))));refine wpQuiet_nil ?_;rintro _ ⟨sq,rfl⟩);have hk1:=sq.keep;obtain⟨w1,hw1⟩:=zX1 (sq.val);rw[<-hw1] at hk1 |-;clear hw1 sq j0 j1 j2;have hh1:=hk1.get HH.o id;have d4:w1.cell? ⟨a,4,none⟩=some (.bool true):=by{simp[World.cell?,hh1]};have f4:w1.frozen? ⟨a,4,none⟩=false:=by{simp[World.frozen?,hh1]};have HZ:=hid (HF.o w1 true hk1 rfl);clear hk1 hh1 kf;go_wp2_with fail;(go_end0);exact⟨rfl,HZ.o⟩} | false=>{obtain⟨z,hz⟩:=zX1 (decide (e=6));have hz2:(e == 6)=z:=by{rw[hz];by_cases h:e=6 <;> simp[h]};have HZ0:=hid hz;have hz3:=hz.symm;clear hz;(refine z1D 11 (by kernel_rfl) (by kernel_rfl) ?_;simp only[List.take_succ_cons,List.take_zero,List.drop_succ_cons,List.drop_zero];(repeat (go_big_quiet_step ((fail))));refine wpQuiet_nil ?_;rintro _ ⟨sq,rfl⟩);have hk1:=sq.keep;obtain⟨w1,hw1⟩:=zX1 (sq.val);rw[<-hw1] at hk1 |-;clear hw1 sq j0 j1 j2;have hh1:=hk1.get HH.o id;have d4:w1.cell? ⟨a,4,none⟩=some (.bool false):=by{simp[World.cell?,hh1]};have f4:w1.frozen? ⟨a,4,none⟩=false:=by{simp[World.frozen?,hh1]};have HZ:=hid (HF.o w1 z hk1 (by rw[HZ0.o,Bool.false_or]));clear hk1 hh1 kf hz2 hz3;go_wp2_with fail;(go_end0);exact⟨rfl,HZ.o⟩}
theorem AC.doA_dead(D:Dk)(S:St)(l:List Ch):(doA D S l).2.2.dead=(S.dead || decide ((doA D S l).1=6)):=by
 cases hd:S.dead with | true=>{have e:doS D S l=(6,D,S):=by{unfold doS;rw[hd];rfl};have e2:doA D S l=(6,D,S):=by{unfold doA;rw[e];rfl};rw[e2];exact hd} | false=>{rcases z8H (D:=D) hd l with ⟨h1,h2,h3⟩ | ⟨h1,h2⟩ | ⟨h1,h2,h3,h4⟩;{rw[h3,h1];rfl};{rw[h2,h1];rfl};{rw[h4,decide_eq_false h2];rfl}}
theorem StoTo.turnsT{b d:Nat}{F1 F2:Nat->Prop}{w w':World}{D:Dk}{S:St}(h:StoTo b d F1 F2 w D S w'):Turns (StoT b d D S) (λk=>F1 k∨F2 k) w w':=by
 obtain⟨F',Fd',h1,h2,h3,h4⟩:=h;exact⟨λk=>F' k∨Fd' k,⟨F',Fd',h1,rfl⟩,h2,λk x=>x.elim (λy=>(h3 k y).imp .inl id) (λy=>(h4 k y).imp .inr id)⟩
theorem zmJ{fn:Func}{t:Tmp}{ty:TypeId}(h:fn.results = #[.cell t ty])(tm:Array Value)(w:World)(g:Nat)(ht:tm.getD t undef = .pointer (some ⟨g,0,none⟩))(e:Int)(hc:w.cell? ⟨g,0,none⟩=some (.int .i64 e))(ha:(isAgg ty).run Tryz.prog w = .ok false w):(results fn tm).run Tryz.prog w = .ok (.int .i64 e) w:=by
 have ht':tm[t]?.getD undef = .pointer (some ⟨g,0,none⟩):=by{simpa using ht};simp[results,h,ht',asAddr,loadVar,Sem.run_bind,ha,go_sem,hc]
theorem ztG{a sb d:Nat}{b:Bal}{nv:Value}{vs:List Vt}{D':Dk}{S':St}{dd dd':Bool}{F:Nat->Prop}{w w5 w6:World}(T5:Turns (TrioT (BoxA a (accC sb b nv dd) 152) (StoT sb d D' S') (VotesT nv vs)) F w w5)(hh6:w6.heap[a]?=some (.cells (accC sb b nv dd') 152 (0,0)))(hk6:Keep (λk=>k=a) w5 w6):Turns (TrioT (BoxA a (accC sb b nv dd') 152) (StoT sb d D' S') (VotesT nv vs)) F w w6:=
 T5.trans λF' h=>TrioT.turn1 (StoT.lives _ _ _ _) (VotesT.lives _ _) h λX hX=>⟨X,⟨hh6,hX.2.1,λk x=>Nat.lt_of_lt_of_le (hX.2.2 k x) hk6.size⟩,hk6.mono λk _ e=>by subst e;exact hX.2.1,λ_ x=>.inl x⟩
theorem Turns.aside{T:Thing}{F:Nat->Prop}{w w1 w2:World}{q p:Nat}(LT:Lives T)(h:∃ F',T w1 F'/\Keep F w w1/\(∀ i,F' i->F i∨w.heap.size<=i)/\¬ F' q/\¬ F' p)(hk:Keep (λk=>k=q) w1 w2)(hq:w.heap.size<=q):∃ F',T w2 F'/\Keep F w w2/\(∀ i,F' i->F i∨w.heap.size<=i)/\¬ F' q/\¬ F' p:=by
 obtain⟨F',a,b,c,d,e⟩:=h;exact⟨F',LT.keep a hk (λk x e=>d (e ▸ x)),b.next hk zI (λk hk e=>by omega),c,d,e⟩
theorem zqN(w:World)(a sb d:Nat)(b:Bal)(nv:Value)(vs:List Vt)(D:Dk)(S:St)(F:Nat→Prop)(H:TrioT (BoxA a (accC sb b nv S.dead) 152) (StoT sb d D S) (VotesT nv vs) w F)(ao:Option Addr)(n c:Nat)(l:List Ch)(hL:Chs w (.slice ao n c) l)(hn:n=l.length)(hap:0<n→∀ x,ao=some x→¬ F x.block)(hm:S.dead=false→S.ps.length≤900000)(hfew:FitS D S l):Calls Tryz.prog 89 #[.pointer (some ⟨a,0,none⟩),.slice ao n c] w fun e w'=>e = .returned (.int .i64 (doA D S l).1)∧
   Turns (TrioT (BoxA a (accC sb b nv (doA D S l).2.2.dead) 152) (StoT sb d (doA D S l).2.1 (doA D S l).2.2) (VotesT nv vs)) F w w':=by
 have hfw:=hfew.1;obtain⟨E,hE⟩:=zX1 (doA D S l);rw[← hE];have HE:=hid hE;clear hE;have hmf:∀ (fn:Fn) (first cap:Array Value) (w:World),(Instr.makeFunc fn first cap).run Tryz.prog w = .ok (.func fn first cap) w:=fun _ _ _ _=>rfl;have LT:=TrioT.lives (BoxA.lives a (accC sb b nv S.dead) 152) (StoT.lives sb d D S) (VotesT.lives nv vs);have hFl:=LT.lt H;have hn1:=heap_alloc_new w (.cells #[.pointer (some ⟨a,0,none⟩)] 83);have hk1:=kal w (.cells #[.pointer (some ⟨a,0,none⟩)] 83);have hz1:(w.alloc (.cells #[.pointer (some ⟨a,0,none⟩)] 83)).heap.size=w.heap.size+1:=by simp
 have hn2:=heap_alloc_new (w.alloc (.cells #[.pointer (some ⟨a,0,none⟩)] 83)) (.cells #[.int .i64 0] 33);have hk2:Keep zF (w.alloc (.cells #[.pointer (some ⟨a,0,none⟩)] 83)) ((w.alloc (.cells #[.pointer (some ⟨a,0,none⟩)] 83)).alloc (.cells #[.int .i64 0] 33)):=(Keep.refl _ _).alloc _;rw[hz1] at hn2;have hn1b:=hk2.get hn1 id;have hk:=hk1.nx hk2
 go_enter_defers Tryz.func89,Tryz.ntmps89
 have HN:=hid hn;clear hn
 go_upto_region 2 with fail
 obtain⟨w1,hw1⟩:=zX1 ((w.alloc (.cells #[.pointer (some ⟨a,0,none⟩)] 83)).alloc (.cells #[.int .i64 0] 33));rw[← hw1] at hn2 hn1b hk ⊢;clear hw1 hn1 hk1 hk2 hz1 hmf;have H1:=LT.keep H hk zI;obtain⟨X,Y,Z,hbox,⟨F1,F2,hsa,hY⟩,hvt,d1,d2,d3,hF⟩:=H1;have hdo:=y0X w1 sb d F1 F2 D S hsa ao n c l (SliceOf.keepF hL hk (fun _ _ _ _ _ x=>x)) HN.o (fun hp x hx=>⟨fun y=>hap hp x hx (by rw[hF,hY];exact .inr (.inl (.inl y))),fun y=>hap hp x hx (by rw[hF,hY];exact .inr (.inl (.inr y)))⟩) hm (by omega);have hof:D.safe.length≤2048:=(DiskAt.ok hsa.diskAt).few;have hwt:=zrN hof S l;obtain⟨R,hR⟩:=zX1 (doS D S l);have hE:=HE.o;have hEd:=doA_dead D S l;have hEr:E=if R.1=0 then syS R.2.1 R.2.2 else R:=by rw[hE,hR];rfl
 rw[← hE] at hEd;rw[← hR] at hdo hwt;clear hR hE hm hap hL hof LT H;have c1:w1.cell? ⟨w.heap.size,0,none⟩=some (.pointer (some ⟨a,0,none⟩)):=by simp[World.cell?,hn1b]
 obtain⟨k0,-⟩:=z0I hbox.1;have HQ:=zB13 hbox hvt d1 d2 d3 hF hn1b hn2 hk hY hEr hEd hwt hFl;clear hbox hsa hvt d1 d2 d3 hF hn1b hn2 hk hY hEr hEd hwt hFl;go_wp2_with fail;refine hdo.mono ?_;rintro e w2 ⟨rfl,ht⟩;clear hdo c1 k0;obtain⟨hbox,hvt,d1,d2,d3,hF,hn1b,hn2,hk,hY,hEr,hEd,hwt,hFl⟩:=HQ.o;have htt:=ht.turnsT;rw[← hY] at htt;have T2:=TrioT.turnY (BoxA.lives _ _ _) (VotesT.lives _ _) hbox hvt d1 d2 d3 hF htt;have hw1z:w.heap.size+1<w1.heap.size:=z0J hn2;obtain⟨F',T2a,T2b,T2c⟩:=T2;have g1:=T2b.get hn1b (fun x=>by have:=hFl _ x;omega);have g2:=T2b.get hn2 (fun x=>by have:=hFl _ x;omega);have f2:w2.frozen? ⟨w.heap.size+1,0,none⟩=false:=by simp[World.frozen?,g2]
 have e2:w2.cell? ⟨w.heap.size+1,0,none⟩=some (.int .i64 0):=by simp[World.cell?,g2]
 have g3:=z0A g2 0 (.int .i64 R.1);have hk3:Keep (fun k=>k=w.heap.size+1) w2 (w2.setCell ⟨w.heap.size+1,0,none⟩ (.int .i64 R.1)):=kst;have g1b:=hk3.get g1 (fun x=>by omega);obtain⟨w3,hw3⟩:=zX1 (w2.setCell ⟨w.heap.size+1,0,none⟩ (.int .i64 R.1));have hF'n:∀ k,F' k→k<w.heap.size∨w1.heap.size≤k:=fun k x=>(T2c k x).imp (hFl k) id;have H2:=zB4 T2a T2b T2c hF'n hw1z;rw[← hw3] at g3 hk3 g1b;have HW3:=hid hw3;have H3:=zB2 g3 hk3 g1b;clear hbox hvt d1 d2 d3 hF hn1b hn2 hk hY hEr hEd hwt hFl htt ht T2a T2b T2c g1 g2 g3 hk3 g1b hw3 hF'n hw1z
 go_upto_region 3 with fail
 rw[← HW3.o];clear HW3 f2 e2;have hk0:=HQ.x9
 have T3:=hid (show ∃ F',TrioT (BoxA a (accC sb b nv S.dead) 152) (StoT sb d R.2.1 R.2.2) (VotesT nv vs) w3 F'∧Keep F w w3∧(∀ i,F' i→F i∨w.heap.size≤i)∧¬ F' (w.heap.size+1)∧¬ F' w.heap.size from
  Turns.aside (TrioT.lives (BoxA.lives _ _ _) (StoT.lives _ _ _ _) (VotesT.lives _ _)) ⟨F',H2.x1,hk0.next H2.x2 zE zI,fun i x=>(H2.x3 i x).imp id fun y=>Nat.le_trans hk0.size y,fun x=>by
   have h1:=H2.x4 _ x;have h2:=H2.y4
   omega,fun x=>by
   have h1:=H2.x4 _ x;have h2:=H2.y4
   omega⟩ H3.x2 (Nat.le_succ _))
 clear hk0;have g3:=H3.x1;have e3:w3.cell? ⟨w.heap.size+1,0,none⟩=some (.int .i64 R.1):=by simp[World.cell?,g3]
 have f3:w3.frozen? ⟨w.heap.size+1,0,none⟩=false:=by simp[World.frozen?,g3]
 clear g3
 by_cases h0:R.1=0
 ·have q1:(R.1 == 0)=true:=by simpa using h0
  have q2:decide (R.1=0)=true:=decide_eq_true h0
  have hE2:E=syS R.2.1 R.2.2:=by
   have:=HQ.x11;rw[if_pos h0] at this;exact this
  obtain⟨F3,T3a,T3b,T3c,T3d,T3e⟩:=T3.out;have hz3:w.heap.size+1<w3.heap.size:=z0J H3.x1;obtain⟨X3,Y3,Z3,hbox,⟨F1',F2',hsa,hY⟩,hvt,d1,d2,d3,hF⟩:=T3a;have hsy:=zrQ w3 sb d F1' F2' R.2.1 R.2.2 hsa (by have:=HQ.x13;omega);rw[← hE2] at hsy;obtain⟨k0,-⟩:=z0I hbox.1
  have c1:w3.cell? ⟨w.heap.size,0,none⟩=some (.pointer (some ⟨a,0,none⟩)):=by
   have:=H3.y2;simp[World.cell?,this]
  have H4:=zB11 hbox hvt d1 d2 d3 hF hY T3b T3c T3d T3e hz3;clear h0 hE2 T3b T3c T3d T3e hsa hvt d1 d2 d3 hF hY hbox hz3;go_wp2_with fail;refine hsy.mono ?_;rintro e w4 ⟨rfl,ht⟩;clear hsy k0 c1 e3 f3 q1 q2;obtain⟨hbox,hvt,d1,d2,d3,hF,hY,T3b,T3c,T3d,T3e,hz3⟩:=H4.o;have htt:=ht.turnsT;rw[← hY] at htt;obtain⟨F4,T4a,T4b,T4c⟩:=TrioT.turnY (BoxA.lives _ _ _) (VotesT.lives _ _) hbox hvt d1 d2 d3 hF htt;have g4a:=T4b.get H3.y2 T3e;have g4:=T4b.get H3.x1 T3d;have e4:w4.cell? ⟨w.heap.size+1,0,none⟩=some (.int .i64 R.1):=by simp[World.cell?,g4]
  have f4:w4.frozen? ⟨w.heap.size+1,0,none⟩=false:=by simp[World.frozen?,g4]
  have hk5:Keep (fun k=>k=w.heap.size+1) w4 (w4.setCell ⟨w.heap.size+1,0,none⟩ (.int .i64 E.1)):=kst;have g5:=z0A g4 0 (.int .i64 E.1);have g5a:=hk5.get g4a (fun x=>by omega);have hT:=Turns.aside (TrioT.lives (BoxA.lives _ _ _) (StoT.lives _ _ _ _) (VotesT.lives _ _)) ⟨F4,T4a,T3b.next T4b zI (fun k hk x=>(T3c k x).elim id fun y=>absurd y (by omega)),fun i x=>(T4c i x).elim (fun y=>T3c i y) fun y=>.inr (by have:=T3b.size;omega),fun x=>(T4c _ x).elim T3d fun y=>by omega,fun x=>(T4c _ x).elim T3e fun y=>by omega⟩ hk5 (Nat.le_succ _);obtain⟨w5,hw5⟩:=zX1 (w4.setCell ⟨w.heap.size+1,0,none⟩ (.int .i64 E.1));rw[← hw5] at g5 g5a hT;have TZ:=hid hT;have GZ:=hid (show w5.heap[w.heap.size]?=some (.cells #[.pointer (some ⟨a,0,none⟩)] 83 (0,0))∧w5.heap[w.heap.size+1]?=some (.cells #[.int .i64 E.1] 33 (0,0))∧True from⟨g5a,g5,trivial⟩);have HW5:=hid hw5;clear htt ht T4a T4b T4c g4 g4a hk5 g5 g5a hT hw5 hbox hvt d1 d2 d3 hF hY T3b T3c T3d T3e hz3
  go_upto_region 5 with fail
  rw[← HW5.o]
  have e5:w5.cell? ⟨w.heap.size+1,0,none⟩=some (.int .i64 E.1):=by
   have:=GZ.out.2.1;simp[World.cell?,this]
  have f5:w5.frozen? ⟨w.heap.size+1,0,none⟩=false:=by
   have:=GZ.out.2.1;simp[World.frozen?,this]
  clear e4 f4 HW5;go_wp2_with fail;have g6:=z0A GZ.out.2.1 0 (.int .i64 E.1);have hk6:Keep (fun k=>k=w.heap.size+1) w5 (w5.setCell ⟨w.heap.size+1,0,none⟩ (.int .i64 E.1)):=kst;obtain⟨F6,T6,K6,N6,Q6,-⟩:=Turns.aside (TrioT.lives (BoxA.lives _ _ _) (StoT.lives _ _ _ _) (VotesT.lives _ _)) TZ.out hk6 (Nat.le_succ _);have g6a:=hk6.get GZ.out.1 (fun x=>by omega);have hb6:(w5.setCell ⟨w.heap.size+1,0,none⟩ (.int .i64 E.1)).heap[a]?=some (.cells (accC sb b nv S.dead) 152 (0,0)):=let ⟨_,_,_,h,_⟩:=T6;h.1;obtain⟨w6,hw6⟩:=zX1 (w5.setCell ⟨w.heap.size+1,0,none⟩ (.int .i64 E.1));rw[← hw6] at g6 T6 K6 g6a hb6 ⊢;have cB1:w6.cell? ⟨w.heap.size,0,none⟩=some (.pointer (some ⟨a,0,none⟩)):=by simp[World.cell?,g6a]
  have cB2:w6.cell? ⟨w.heap.size+1,0,none⟩=some (.int .i64 E.1):=by simp[World.cell?,g6]
  refine leaves_cons (f:=121) (args:=#[.pointer (some ⟨w.heap.size,0,none⟩),.pointer (some ⟨w.heap.size+1,0,none⟩)]) (by simp) (by simp[go_sem]) ?_;refine(zlQ .returning w6 w.heap.size (w.heap.size+1) a sb b nv S.dead E.1 cB1 cB2 hb6).mono ?_;rintro e u' w7 ⟨rfl,rfl,hh7,hk7⟩;have hEd:=HQ.x12;rw[← hEd] at hh7
  have ha:a<w.heap.size:=by
   have h1:=HQ.x1.2.1;have h2:=HQ.y13;exact h2 a (by rw[HQ.x6];exact .inl h1)
  have cB:w7.cell? ⟨w.heap.size+1,0,none⟩=some (.int .i64 E.1):=by
   have:=hk7.get g6 (fun x=>by omega);simp[World.cell?,this]
  exact⟨_,zmJ rfl _ _ (w.heap.size+1) rfl E.1 cB (by kernel_rfl),rfl,ztG ⟨F6,T6,K6,N6⟩ hh7 hk7⟩
 ·have q1:(R.1 == 0)=false:=by simpa using h0
  have q2:decide (R.1=0)=false:=decide_eq_false h0
  have hE2:E=R:=by
   have:=HQ.x11;rw[if_neg h0] at this;exact this
  have e3b:=e3;rw[← hE2] at e3 q1 q2;have TZ:=hid (show ∃ F',TrioT (BoxA a (accC sb b nv S.dead) 152) (StoT sb d E.2.1 E.2.2) (VotesT nv vs) w3 F'∧Keep F w w3∧(∀ i,F' i→F i∨w.heap.size≤i)∧¬ F' (w.heap.size+1)∧¬ F' w.heap.size from by rw[hE2];exact T3.out);have GZ:=hid (show w3.heap[w.heap.size]?=some (.cells #[.pointer (some ⟨a,0,none⟩)] 83 (0,0))∧w3.heap[w.heap.size+1]?=some (.cells #[.int .i64 E.1] 33 (0,0))∧True from⟨H3.y2,by rw[hE2];exact H3.x1,trivial⟩);have HE2:=hid hE2;rw[← hE2];clear hE2 h0 e3b;go_wp2_with fail;have g6:=z0A GZ.out.2.1 0 (.int .i64 E.1);have hk6:Keep (fun k=>k=w.heap.size+1) w3 (w3.setCell ⟨w.heap.size+1,0,none⟩ (.int .i64 E.1)):=kst;obtain⟨F6,T6,K6,N6,Q6,-⟩:=Turns.aside (TrioT.lives (BoxA.lives _ _ _) (StoT.lives _ _ _ _) (VotesT.lives _ _)) TZ.out hk6 (Nat.le_succ _);have g6a:=hk6.get GZ.out.1 (fun x=>by omega);have hb6:(w3.setCell ⟨w.heap.size+1,0,none⟩ (.int .i64 E.1)).heap[a]?=some (.cells (accC sb b nv S.dead) 152 (0,0)):=let ⟨_,_,_,h,_⟩:=T6;h.1;obtain⟨w6,hw6⟩:=zX1 (w3.setCell ⟨w.heap.size+1,0,none⟩ (.int .i64 E.1));rw[← hw6] at g6 T6 K6 g6a hb6 ⊢;have cB1:w6.cell? ⟨w.heap.size,0,none⟩=some (.pointer (some ⟨a,0,none⟩)):=by simp[World.cell?,g6a]
  have cB2:w6.cell? ⟨w.heap.size+1,0,none⟩=some (.int .i64 E.1):=by simp[World.cell?,g6]
  refine leaves_cons (f:=121) (args:=#[.pointer (some ⟨w.heap.size,0,none⟩),.pointer (some ⟨w.heap.size+1,0,none⟩)]) (by simp) (by simp[go_sem]) ?_;refine(zlQ .returning w6 w.heap.size (w.heap.size+1) a sb b nv S.dead E.1 cB1 cB2 hb6).mono ?_;rintro e u' w7 ⟨rfl,rfl,hh7,hk7⟩;have hEd:=HQ.x12;rw[← hEd] at hh7
  have ha:a<w.heap.size:=by
   have h1:=HQ.x1.2.1;have h2:=HQ.y13;exact h2 a (by rw[HQ.x6];exact .inl h1)
  have cB:w7.cell? ⟨w.heap.size+1,0,none⟩=some (.int .i64 E.1):=by
   have:=hk7.get g6 (fun x=>by omega);simp[World.cell?,this]
  exact⟨_,zmJ rfl _ _ (w.heap.size+1) rfl E.1 cB (by kernel_rfl),rfl,ztG ⟨F6,T6,K6,N6⟩ hh7 hk7⟩
end
section
open Go.RowKit Go.Maps
open MI SO BM DM WM AC
theorem z0N{P:Program}{fn:Func}{t u:Tmp}{ty:TypeId}(h:fn.results = #[.cell t ty,.tmp u])(tmps:Array Value)(w:World)(g:Nat)(ht:tmps.getD t undef = .pointer (some ⟨g,0,none⟩))(cs:List Value)(hc:∀ j u,cs[j]?=some u->w.cell? ⟨g,j,none⟩=some u)(d:TypeDesc)(hu:P.underlying ty=some d)(hd:(match d with | .struct _ | .array _ _=>true | _=>false)=true)(hi:(P.info? ty).map (·.size)=some cs.length):(results fn tmps).run P w = .ok (.tuple #[.agg cs.toArray,tmps.getD u undef]) w:=by
 have hl:=run_loadCells_list (P:=P) w ⟨g,0,none⟩ cs (λj v hv=>by rw[z0R,Nat.zero_add];exact hc j v hv);cases hq:P.info? ty with | none=>{simp[hq] at hi} | some i=>{have hs:i.size=cs.length:=by{simpa [hq] using hi};have hagg:(isAgg ty).run P w = .ok true w:=by{unfold isAgg;rw[Sem.run_bind,run_underlying hu w];cases d <;> simp_all};have hr:(loadVar ty ⟨g,0,none⟩).run P w = .ok (.agg cs.toArray) w:=by{simp[loadVar,Sem.run_bind,hagg,sizeOf,typeInfo,hq,hs,hl]};have ht':tmps[t]?.getD undef = .pointer (some ⟨g,0,none⟩):=by{simpa using ht};simp[results,h,ht',asAddr,hr]}
theorem z5X{P:Program}{fn:Func}{s t u:Tmp}{ty:TypeId}(h:fn.results = #[.tmp s,.cell t ty,.tmp u])(tmps:Array Value)(w:World)(g:Nat)(ht:tmps.getD t undef = .pointer (some ⟨g,0,none⟩))(cs:List Value)(hc:∀ j u,cs[j]?=some u->w.cell? ⟨g,j,none⟩=some u)(d:TypeDesc)(hu:P.underlying ty=some d)(hd:(match d with | .struct _ | .array _ _=>true | _=>false)=true)(hi:(P.info? ty).map (·.size)=some cs.length):(results fn tmps).run P w = .ok (.tuple #[tmps.getD s undef,.agg cs.toArray,tmps.getD u undef]) w:=by
 have hl:=run_loadCells_list (P:=P) w ⟨g,0,none⟩ cs (λj v hv=>by rw[z0R,Nat.zero_add];exact hc j v hv);cases hq:P.info? ty with | none=>{simp[hq] at hi} | some i=>{have hs:i.size=cs.length:=by{simpa [hq] using hi};have hagg:(isAgg ty).run P w = .ok true w:=by{unfold isAgg;rw[Sem.run_bind,run_underlying hu w];cases d <;> simp_all};have hr:(loadVar ty ⟨g,0,none⟩).run P w = .ok (.agg cs.toArray) w:=by{simp[loadVar,Sem.run_bind,hagg,sizeOf,typeInfo,hq,hs,hl]};have ht':tmps[t]?.getD undef = .pointer (some ⟨g,0,none⟩):=by{simpa using ht};simp[results,h,ht',asAddr,hr]}
end
section
open Go.RowKit Go.Maps
open MI SO BM DM WM AC
theorem znO{P:Program}{fn:Func}{t u:Tmp}{ty tz:TypeId}(h:fn.results = #[.cell t ty,.cell u tz])(tm:Array Value)(w:World)(g k:Nat)(ht:tm.getD t undef = .pointer (some ⟨g,0,none⟩))(hu:tm.getD u undef = .pointer (some ⟨k,0,none⟩))(x:Option Addr)(y:Int)(hx:w.cell? ⟨g,0,none⟩=some (.pointer x))(hy:w.cell? ⟨k,0,none⟩=some (.int .i64 y))(ha:(isAgg ty).run P w = .ok false w)(hb:(isAgg tz).run P w = .ok false w):(results fn tm).run P w = .ok (.tuple #[.pointer x,.int .i64 y]) w:=by
 have ht':tm[t]?.getD undef = .pointer (some ⟨g,0,none⟩):=by{simpa using ht};have hu':tm[u]?.getD undef = .pointer (some ⟨k,0,none⟩):=by{simpa using hu};simp[results,h,ht',hu',asAddr,loadVar,Sem.run_bind,ha,hb,go_sem,hx,hy]
end
section
open Go.RowKit Go.Maps
open MI SO BM DM WM AC
def GetBPost(w:World)(s:Str)(e:Ending)(w':World):Prop:=Keep (fun _=>False) w w'∧match getB s with
 | some (b,rest)=>∃ u,e = .returned (.tuple #[balV b,u,.bool true])∧Row w' 5 1 u rest.length (z0B rest)∧∀ k,u.ownBlock=some k→w.heap.size≤k
 | none=>∃ (n d:Nat) (ua:Option Addr) (k c:Nat),e = .returned (.tuple #[.agg #[.int .u64 (n:Int),.int .i64 (d:Int)],.slice ua k c,.bool false])
theorem z4P(w1:World)(g:Nat)(a b:Value)(h:w1.heap[g]?=some (.cells #[a,b] 32 (0,0)))(c d:Value):(∀ j u,[c,d][j]?=some u->((w1.setCell ⟨g,0,none⟩ c).setCell ⟨g,1,none⟩ d).cell? ⟨g,j,none⟩=some u)/\Keep (λk=>k=g) w1 ((w1.setCell ⟨g,0,none⟩ c).setCell ⟨g,1,none⟩ d)/\
   ((w1.setCell ⟨g,0,none⟩ c).setCell ⟨g,1,none⟩ d).heap[g]?=some (.cells #[c,d] 32 (0,0)):=by
 have g1:=z0A h 0 c;have g2:=z0A g1 1 d;refine⟨λj u hu=>?_,?_,g2⟩;{rw[cell_of_row _ _ _ _ _ _ g2];simpa using hu};{refine Keep.setCell (Keep.setCell (Keep.refl _ _) (.inl ?_) _) (.inl ?_) _ <;> rfl}
end
section
open Go.RowKit Go.Maps
open MI SO BM DM WM AC
theorem Row.setAt{w:World}{e:TypeId}{size g n cap:Nat}{xs:List Value}(h:Row w e size (.slice (.some ⟨g,0,none⟩) n cap) n xs)(i:Nat)(u:Value):Row (w.setCell ⟨g,i,none⟩ u) e size (.slice (.some ⟨g,0,none⟩) n cap) n (xs.set i u):=by
 obtain⟨h0,h⟩:=h;rcases h with ⟨hv,_⟩ | ⟨g',cap',cur,fz,hv,hg,hf,h1,h2,h3,h4⟩;{cases hv};{cases hv;refine⟨by simpa using h0,.inr ⟨g,cap,cur.setIfInBounds i u,fz,rfl,?_,by simpa using hf,h1,h2,by simpa using h3,?_⟩⟩;{simp[World.setCell];rw[Array.getElem?_modify];simp[hg]};{rw[<-h4];simp only[Array.toList_setIfInBounds];rw[List.take_set]}}
def put4(l:List Value)(p:Nat)(y:List Value):List Value:=l.take p ++ y ++ l.drop (p+4)
theorem zlU(l:List Value)(p:Nat)(a b c d:Value)(hp:p+4<=l.length):(((l.set p a).set (p+1) b).set (p+2) c).set (p+3) d=put4 l p [a,b,c,d]:=by
 unfold put4;apply List.ext_getElem?;intro j;simp only[List.getElem?_set,List.length_set];by_cases h:j<p;{rw[if_neg (by omega),if_neg (by omega),if_neg (by omega),if_neg (by omega),List.append_assoc,List.getElem?_append_left (by simp;omega),List.getElem?_take_of_lt h]}
 ·by_cases h4:j<p+4
  ·obtain⟨k,rfl⟩:∃ k,j=p+k:=⟨j - p,by omega⟩
   have hk:k<4:=by{omega};rw[List.getElem?_append_left (by simp;omega),List.getElem?_append_right (by simp;omega)];simp only[List.length_take,Nat.min_eq_left (show p<=l.length by omega),Nat.add_sub_cancel_left]
   match k,hk with
   | 0,_=>simp;omega
   | 1,_=>simp;omega
   | 2,_=>simp;omega
   | 3,_=>simp;omega
  {rw[if_neg (by omega),if_neg (by omega),if_neg (by omega),if_neg (by omega),List.getElem?_append_right (by simp;omega),List.getElem?_drop];congr 1;simp;omega}
theorem zyI(xs z y:List Value)(p:Nat)(hz:z.length=4)(hp:p<=xs.length):put4 (splice (xs ++ z) (p+4) (xs.drop p)) p y=xs.take p ++ y ++ xs.drop p:=by
 unfold put4 splice;have h1:((xs ++ z).take (p+4)).length=p+4:=by{simp;omega};rw[List.append_assoc,List.take_append_of_le_length (by omega),List.drop_append,h1,Nat.sub_self,List.drop_zero,List.drop_of_length_le (by omega),List.nil_append];rw[List.take_take,Nat.min_eq_left (by omega),List.take_append_of_le_length hp];have h2:(xs ++ z).drop (p+4+(xs.drop p).length) = []:=List.drop_of_length_le (by simp;omega);rw[h2,List.append_nil,List.append_assoc]
theorem z7O{vs ws:List Vt}{us ts:List Value}(h:us.length=vs.length):z1A (vs ++ ws) (us ++ ts)=z1A vs us ++ z1A ws ts:=by
 unfold z1A;rw[List.zip_append h.symm];simp
theorem z7A{vs:List Vt}{us:List Value}(h:us.length=vs.length)(p:Nat)(hp:p<=vs.length):(z1A vs us).take (p * 4)=z1A (vs.take p) (us.take p)/\(z1A vs us).drop (p * 4)=z1A (vs.drop p) (us.drop p):=by
 have e:z1A vs us=z1A (vs.take p) (us.take p) ++ z1A (vs.drop p) (us.drop p):=by{rw[<-z7O (by simp[h]),List.take_append_drop,List.take_append_drop]};have hl:(z1A (vs.take p) (us.take p)).length=p * 4:=by{rw[z5G (by simp[h])];simp;omega};rw[e];exact⟨by rw[List.take_append_of_le_length (by omega),List.take_of_length_le (by omega)],by rw[List.drop_append_of_le_length (by omega),List.drop_of_length_le (by omega),List.nil_append]⟩
theorem zpP{vs:List Vt}{us:List Value}(h:us.length=vs.length)(p:Nat)(hp:p<vs.length)(x:Vt)(u:Value):put4 (z1A vs us) (p * 4) (z3A x u)=z1A (vs.set p x) (us.set p u):=by
 unfold put4;rw[(z7A h p (by omega)).1,show p * 4+4=(p+1) * 4 by omega,(z7A h (p+1) (by omega)).2];have e:z1A (vs.set p x) (us.set p u)=z1A (vs.take p ++ x :: vs.drop (p+1)) (us.take p ++ u :: us.drop (p+1)):=by{rw[List.set_eq_take_append_cons_drop,if_pos hp,List.set_eq_take_append_cons_drop,if_pos (by omega)]};rw[e,z7O (by simp[h]),List.append_assoc];rfl
theorem zpG{vs:List Vt}{us:List Value}(h:us.length=vs.length)(p:Nat)(hp:p<=vs.length)(x:Vt)(u:Value):(z1A vs us).take (p * 4) ++ z3A x u ++ (z1A vs us).drop (p * 4)=z1A (vs.take p ++ x :: vs.drop p) (us.take p ++ u :: us.drop p):=by
 rw[(z7A h p hp).1,(z7A h p hp).2,z7O (by simp[h]),List.append_assoc];rfl
theorem Votes.re{w1 w3:World}{F:Nat->Prop}{g m cap:Nat}{vs VS:List Vt}{us US:List Value}(h:Votes w1 F (.slice (some ⟨g,0,none⟩) m cap) vs us)(hk:Keep (λk=>k=g) w1 w3)(hr:Row w3 109 4 (.slice (some ⟨g,0,none⟩) m cap) VS.length (z1A VS US))(hlen:US.length=VS.length)(he:∀ j (hj:j<VS.length),(∃ i,∃ hi:i<vs.length,VS[j]=vs[i]/\US.getD j undef=us.getD i undef)∨(Row w1 5 1 (US.getD j undef) VS[j].val.length (z0B VS[j].val)/\∀ k,(US.getD j undef).ownBlock=some k->F k/\k≠g)):Votes w3 F (.slice (some ⟨g,0,none⟩) m cap) VS US:=by
 have hg:(Value.slice (some ⟨g,0,none⟩) m cap).ownBlock=some g:=rfl;refine⟨hr,hlen,h.own,λj hj=>?_⟩;rcases he j hj with ⟨i,hi,e1,e2⟩ | ⟨h2,h3⟩;{obtain⟨h2,h3⟩:=h.each i hi;rw[e1,e2];exact⟨h2.keep hk λk e x=>by{have x':k=g:=x;subst x';exact(h3 k e).2 hg},h3⟩};{exact⟨h2.keep hk λk e x=>(h3 k e).2 x,λk e=>⟨(h3 k e).1,λx=>by{rw[hg] at x;exact(h3 k e).2 (Option.some.inj x).symm}⟩⟩}
theorem Votes.put{w1 w3:World}{F:Nat->Prop}{g m cap:Nat}{vs:List Vt}{us:List Value}(h:Votes w1 F (.slice (some ⟨g,0,none⟩) m cap) vs us)(p:Nat)(hp:p<vs.length)(x:Vt)(u:Value)(hu:Row w1 5 1 u x.val.length (z0B x.val))(hou:∀ k,u.ownBlock=some k->F k/\k≠g)(hk:Keep (λk=>k=g) w1 w3)(hr:Row w3 109 4 (.slice (some ⟨g,0,none⟩) m cap) vs.length (put4 (z1A vs us) (p * 4) (z3A x u))):Votes w3 F (.slice (some ⟨g,0,none⟩) m cap) (vs.set p x) (us.set p u):=by
 rw[zpP h.len p hp] at hr;refine h.re hk (by rw[List.length_set];exact hr) (by rw[List.length_set,List.length_set];exact h.len) λj hj=>?_;rw[List.length_set] at hj;by_cases e:j=p;{subst e;right;have e2:(us.set j u).getD j undef=u:=by{rw[List.getD_eq_getElem?_getD,List.getElem?_set_self (by rw[h.len];exact hp)];rfl};rw[e2];simp only[List.getElem_set_self];exact⟨hu,hou⟩};{left;refine⟨j,hj,by rw[List.getElem_set_ne (λx=>e x.symm)],?_⟩;simp only[List.getD_eq_getElem?_getD];rw[List.getElem?_set_ne (λx=>e x.symm)]}
theorem Votes.ins{w1 w3:World}{F:Nat->Prop}{g m cap:Nat}{vs:List Vt}{us:List Value}{z:Vt}{zu:Value}(h:Votes w1 F (.slice (some ⟨g,0,none⟩) m cap) (vs ++ [z]) (us ++ [zu]))(hlen:us.length=vs.length)(p:Nat)(hp:p<=vs.length)(x:Vt)(u:Value)(hu:Row w1 5 1 u x.val.length (z0B x.val))(hou:∀ k,u.ownBlock=some k->F k/\k≠g)(hk:Keep (λk=>k=g) w1 w3)(hr:Row w3 109 4 (.slice (some ⟨g,0,none⟩) m cap) (vs.length+1) (put4 (splice (z1A (vs ++ [z]) (us ++ [zu])) (p * 4+4) ((z1A vs us).drop (p * 4))) (p * 4) (z3A x u))):Votes w3 F (.slice (some ⟨g,0,none⟩) m cap) (vs.take p ++ x :: vs.drop p) (us.take p ++ u :: us.drop p):=by
 rw[z9L hlen,zyI _ _ _ _ (by simp[z3A]) (by rw[z5G hlen];omega),zpG hlen p hp] at hr;have hVl:(vs.take p ++ x :: vs.drop p).length=vs.length+1:=by{simp;omega};have hget:∀ i,i<vs.length->(us ++ [zu]).getD i undef=us.getD i undef:=λi hi=>by{simp only[List.getD_eq_getElem?_getD];rw[List.getElem?_append_left (by rw[hlen];exact hi)]};refine h.re hk (by rw[hVl];exact hr) (by simp[hlen]) λj hj=>?_;rw[hVl] at hj;rcases Nat.lt_trichotomy j p with e | e | e;{left;refine⟨j,by simp;omega,?_,?_⟩;{rw[List.getElem_append_left (by simp;omega),List.getElem_append_left (by omega)];simp};{rw[hget j (by omega)];simp only[List.getD_eq_getElem?_getD];rw[List.getElem?_append_left (by simp;omega),List.getElem?_take_of_lt e]}};{subst e;right;have e2:(us.take j ++ u :: us.drop j).getD j undef=u:=by{simp only[List.getD_eq_getElem?_getD];rw[List.getElem?_append_right (by simp;omega)];simp[show min j us.length=j by omega]};have e3:(vs.take j ++ x :: vs.drop j)[j]=x:=by{rw[List.getElem_append_right (by simp;omega)];simp[show min j vs.length=j by omega]};rw[e2,e3];exact⟨hu,hou⟩};{left;obtain⟨i,rfl⟩:∃ i,j=i+1:=⟨j - 1,by omega⟩;refine⟨i,by simp;omega,?_,?_⟩;{rw[List.getElem_append_right (by simp;omega),List.getElem_append_left (by omega)];simp only[List.length_take,show i+1 - min p vs.length=(i - p)+1 by omega,List.getElem_cons_succ,List.getElem_drop];congr 1;omega};{rw[hget i (by omega)];simp only[List.getD_eq_getElem?_getD];rw[List.getElem?_append_right (by simp;omega)];simp only[List.length_take,show i+1 - min p us.length=(i - p)+1 by omega,List.getElem?_cons_succ,List.getElem?_drop];congr 2;omega}}
theorem Votes.lts{w:World}{F:Nat->Prop}{v:Value}{vs:List Vt}{us:List Value}(h:Votes w F v vs us):Votes w (λk=>F k/\k<w.heap.size) v vs us:=
 ⟨h.row,h.len,λk e=>⟨h.own k e,h.row.lt e⟩,λj hj=>let ⟨h2,h3⟩:=h.each j hj;⟨h2,λk e=>⟨⟨(h3 k e).1,h2.lt e⟩,(h3 k e).2⟩⟩⟩
theorem zqE(g cap lo size:Nat):z1T (some ⟨g,0,none⟩) cap lo size=some ⟨g,if cap=lo then 0 else lo * size,none⟩:=by
 unfold z1T;split;{rfl};{simp only[Option.map_some];rw[z0R,Nat.zero_add]}
theorem zfF(l:List Value)(i:Nat):splice l i []=l:=by simp[splice]
theorem copied(xs z:List Value)(p m:Nat)(hx:xs.length=p+m):((xs ++ z).drop p).take m=xs.drop p:=by
 rw[List.drop_append_of_le_length (by omega),List.take_append_of_le_length (by simp;omega),List.take_of_length_le (by simp;omega)]
theorem zhQ{w10 w13 w17:World}{a d sb:Nat}{D:Dk}{S:St}{b:Bal}{nv':Value}{vs':List Vt}{us':List Value}{X Y Z K:Nat->Prop}(e1:∀ i,X i->¬ Y i)(e2:∀ i,X i->¬ Z i)(e3:∀ i,Y i->¬ Z i)(hbx:BoxA a (accC sb b nv' S.dead) 152 w17 X)(hst:StoT sb d D S w13 Y)(hk:Keep K w13 w17)(hK:∀ k,Y k->¬ K k)(hv:Votes w17 (λk=>Z k∨w10.heap.size<=k) nv' vs' us')(lX:∀ i,X i->i<w10.heap.size)(lY:∀ i,Y i->i<w10.heap.size):AcT a d D ⟨S,b,vs'⟩ w17 (λk=>X k∨Y k∨((Z k∨w10.heap.size<=k)/\k<w17.heap.size)):=
 ⟨sb,nv',X,Y,_,hbx,(StoT.lives _ _ _ _).keep hst hk hK,⟨⟨us',hv.lts⟩,λk x=>x.2⟩,e1,λi x y=>y.1.elim (e2 i x) λz=>by have:=lX i x;omega,λi x y=>y.1.elim (e3 i x) λz=>by have:=lY i x;omega,rfl⟩
theorem Votes.one{w:World}{F:Nat->Prop}{v:Value}{vs:List Vt}{us:List Value}(h:Votes w F v vs us):∀ x ∈ z1A vs us,x.oneCell'=true:=λx hx=>by
 unfold z1A at hx;obtain⟨p,hp,hx⟩:=List.mem_flatMap.1 hx;simp only[z3A,List.mem_cons,List.not_mem_nil,or_false] at hx;rcases hx with rfl | rfl | rfl | rfl;{rfl};{rfl};{rfl};{obtain⟨j,hj,e⟩:=List.mem_iff_getElem.1 hp;have hj2:j<vs.length:=by{rw[List.length_zip] at hj;omega};obtain⟨h2,-⟩:=h.each j hj2;have e2:us.getD j undef=p.2:=by{rw[<-e,List.getElem_zip,List.getD_eq_getElem?_getD,List.getElem?_eq_getElem (by rw[h.len];exact hj2)];rfl};rw[e2] at h2;obtain⟨ad,cap,e3,-⟩:=h2.form;rw[e3];rfl}
theorem z1B{w:World}{b:Nat}{T:TypeId}{a0 a1 a2 a3:Value}(H:w.heap[b]?=some (.cells #[a0,a1,a2,a3] T (0,0))):w.cell? ⟨b,0,none⟩=some a0/\w.cell? ⟨b,1,none⟩=some a1/\w.cell? ⟨b,2,none⟩=some a2/\w.cell? ⟨b,3,none⟩=some a3/\(∀ o,w.frozen? ⟨b,o,none⟩=false)/\b<w.heap.size:=by
 refine⟨?_,?_,?_,?_,?_,z0J H⟩ <;> simp[World.cell?,World.frozen?,H]
end
section
open Go.RowKit Go.Maps
open MI SO BM DM WM AC
def ReadPost(w:World)(a sb B:Nat)(nv:Value)(st:Bal×List Vt)(p:Str×Str)(e:Ending)(w':World):Prop:=
 Keep (fun k=>k=a∨nv.ownBlock=some k) w w'∧match rd1 st p with
 | none=>e = .returned (.bool false)
 | some st'=>e = .returned (.bool true)∧∃ nv' us',w'.heap[a]?=some (.cells (accC sb st'.1 nv' false) 152 (0,0))∧Votes w' (fun k=>B≤k) nv' st'.2 us'
theorem z2J{w:World}{b:Nat}{T:TypeId}{a0 a1:Value}(H:w.heap[b]?=some (.cells #[a0,a1] T (0,0))):w.cell? ⟨b,0,none⟩=some a0/\w.cell? ⟨b,1,none⟩=some a1/\(∀ o,w.frozen? ⟨b,o,none⟩=false)/\b<w.heap.size:=by
 refine⟨?_,?_,?_,z0J H⟩ <;> simp[World.cell?,World.frozen?,H]
end
section
open Go.RowKit Go.Maps
open MI SO BM DM WM AC
def PrepPost(a d:Nat)(F:Nat→Prop)(w:World)(R:(List Vt×Bal×Int)×Dk×Ac)(e:Ending)(w':World):Prop:=
 ∃ v us Fv F',e = .returned (.tuple #[v,balV R.1.2.1,.int .i64 R.1.2.2])∧AcT a d R.2.1 R.2.2 w' F'∧Keep F w w'∧(∀ i,F' i→F i∨w.heap.size≤i)∧Votes w' Fv v R.1.1 us∧(∀ k,Fv k→w.heap.size≤k∧¬ F' k)∧Apart us
theorem Turns.shut{T:Thing}{w w9 w10:World}{F F9:Nat->Prop}{g B:Nat}(LT:Lives T)(hT:T w9 F9)(hk:Keep F w w9)(hF:∀ i,F i->i<w.heap.size)(h9:∀ i,F9 i->F i∨B<=i)(hgB:g<B)(hg:w.heap.size<=g)(hkz:Keep (λk=>k=g) w9 w10):T w10 F9/\Keep F w w10/\∀ i,F9 i->F i∨w.heap.size<=i:=
 ⟨LT.keep hT hkz λi x e=>by{have e':i=g:=e;rcases h9 i x with y | y;{have:=hF i y;omega};{omega}},hk.next hkz zI (λk hk x=>by omega),λi x=>(h9 i x).imp id λy=>by omega⟩
theorem Turns.shut0{T:Thing}{w w9 w10:World}{F:Nat->Prop}{g:Nat}(LT:Lives T)(hT:T w F)(hk:Keep zF w w9)(hg:w.heap.size<=g)(hkz:Keep (λk=>k=g) w9 w10):T w10 F/\Keep F w w10/\∀ i,F i->F i∨w.heap.size<=i:=
 ⟨LT.keep hT (hk.next hkz (H:=λ_=>False) zI (λk hk x=>by omega)) zI,(hk.next hkz (H:=λ_=>False) zI (λk hk x=>by omega)).mono zE,λi x=>.inl x⟩
theorem AC.AOk.lens{A:Ac}(h:AOk A)(hd:A.s.dead=false)(hm:A.s.ps.length<=900000):Rise A.vs/\(∀ v ∈ A.vs,v.val.length<=1000)/\A.vs.length<=1000000:=by
 have hok:=h.ok hd;refine⟨hok.rise,λv hv=>by have:=(hok.each v hv).val;omega,?_⟩;have h2:=h.ps hd;rw[h2] at hm;unfold AC.encP at hm;rw[List.length_append,List.length_map] at hm;omega
theorem zdV{a d:Nat}{D:Dk}{A:Ac}{F:Nat->Prop}{w w2:World}{g:Nat}{x0 x1:Value}(hT:AcT a d D A w F)(hk:Keep zF w w2)(hg:w.heap.size<=g)(h:w2.heap[g]?=some (.cells #[x0,x1] 32 (0,0)))(B:Bal)(c:Int):(∀ j u,[Value.int .u64 (B.n:Int),.int .i64 B.node][j]?=some u->((w2.setCell ⟨g,0,none⟩ (.int .u64 (B.n:Int))).setCell ⟨g,1,none⟩ (.int .i64 B.node)).cell? ⟨g,j,none⟩=some u)/\
  PrepPost a d F w (([],B,c),D,A) (.returned (.tuple #[.slice none 0 0,balV B,.int .i64 c])) ((w2.setCell ⟨g,0,none⟩ (.int .u64 (B.n:Int))).setCell ⟨g,1,none⟩ (.int .i64 B.node)):=by
 obtain⟨g1,g2,-⟩:=z4P w2 g _ _ h (.int .u64 (B.n:Int)) (.int .i64 B.node);obtain⟨h1,h2,h3⟩:=Turns.shut0 (AcT.lives a d D A) hT hk hg g2;exact⟨g1,.slice none 0 0,[],λ_=>False,F,rfl,h1,h2,h3,Votes.nil _ _,λ_ x=>x.elim,Apart.nil⟩
theorem zjB{a d:Nat}{D:Dk}{A:Ac}{F F9:Nat->Prop}{w w9:World}{g B:Nat}{x0 x1:Value}(hT:AcT a d D A w9 F9)(hk:Keep F w w9)(hF:∀ i,F i->i<w.heap.size)(h9:∀ i,F9 i->F i∨B<=i)(hgB:g<B)(hg:w.heap.size<=g)(h:w9.heap[g]?=some (.cells #[x0,x1] 32 (0,0)))(v:Value)(vs:List Vt)(us:List Value)(Fv:Nat->Prop)(hv:Votes w9 Fv v vs us)(hFv:∀ k,Fv k->g<k/\¬ F9 k)(hap:Apart us)(b:Bal)(c:Int):(∀ j u,[Value.int .u64 (b.n:Int),.int .i64 b.node][j]?=some u->((w9.setCell ⟨g,0,none⟩ (.int .u64 (b.n:Int))).setCell ⟨g,1,none⟩ (.int .i64 b.node)).cell? ⟨g,j,none⟩=some u)/\
  PrepPost a d F w ((vs,b,c),D,A) (.returned (.tuple #[v,balV b,.int .i64 c])) ((w9.setCell ⟨g,0,none⟩ (.int .u64 (b.n:Int))).setCell ⟨g,1,none⟩ (.int .i64 b.node)):=by
 obtain⟨g1,g2,-⟩:=z4P w9 g _ _ h (.int .u64 (b.n:Int)) (.int .i64 b.node);obtain⟨h1,h2,h3⟩:=Turns.shut (AcT.lives a d D A) hT hk hF h9 hgB hg g2;exact⟨g1,v,us,Fv,F9,rfl,h1,h2,h3,hv.keep g2 (λk x e=>by have:=(hFv k x).1;have e':k=g:=e;omega),λk x=>⟨by have:=(hFv k x).1;omega,(hFv k x).2⟩,hap⟩
structure PrepIn (w:World) (a d:Nat) (D:Dk) (A:Ac) (F:Nat→Prop) (b:Bal) (k:Nat) (g:Nat) (wx:World):Prop where
 ex:∃ D' A' F',z1X D A b k=((zbZ A'.vs k,b,0),D',A')∧A'.b=b∧A'.s.dead=false∧A'.vs=A.vs∧AcT a d D' A' wx F'∧∀ i,F' i→F i∨g<i
 keep:Keep F w wx
 box:wx.heap[w.heap.size]?=some (.cells (balC b) 32 (0,0))
 res:wx.heap[g]?=some (.cells #[.int .u64 0,.int .i64 0] 32 (0,0))
theorem zvV(w:World)(b:Bal)(hb:(AC.putB b).length<=maxLen):Chs (w.alloc (.cells #[.string (str pK),.string (str (AC.putB b)),.bool false] 161)) (.slice (some ⟨w.heap.size,0,none⟩) 1 1) (z6B b):=
 Chs.of_row ⟨rfl,.inr ⟨_,1,_,(0,0),rfl,heap_alloc_new w _,Free.zero _,Nat.le_refl _,by decide,rfl,rfl⟩⟩ (λc hc=>by{unfold z6B at hc;simp at hc;subst hc;exact⟨show pK.length<=maxLen by decide,hb⟩})
theorem AC.putB_len(b:Bal):(AC.putB b).length<=20:=by
 have h1:=z5Y b.n;have h2:=z5Y b.node.toNat;unfold AC.putB;rw[List.length_append];omega
theorem zhW(w:World)(a d:Nat)(D:Dk)(A:Ac)(F:Nat->Prop)(H:AcT a d D A w F)(hO:AOk A)(hm:A.s.dead=false->A.s.ps.length<=900000)(b:Bal)(hfew:FitS D A.s (z6B b))(hb:b.n<18446744073709551616)(k:Nat):Calls Tryz.prog 42 #[.pointer (some ⟨a,0,none⟩),balV b,.int .u64 (k:Int)] w (PrepPost a d F w (z1X D A b k)):=by
 obtain⟨Post,hPost⟩:=zX1 (PrepPost a d F w (z1X D A b k));rw[<-hPost];have hn1:=heap_alloc_new w (.cells (balC b) 32);have hk1:=kal w (.cells (balC b) 32);have hz1:(w.alloc (.cells (balC b) 32)).heap.size=w.heap.size+1:=by{simp};have hn:=heap_alloc_new (w.alloc (.cells (balC b) 32)) (.cells #[.int .u64 0,.int .i64 0] 32);have hk2:Keep zF (w.alloc (.cells (balC b) 32)) ((w.alloc (.cells (balC b) 32)).alloc (.cells #[.int .u64 0,.int .i64 0] 32)):=(Keep.refl _ _).alloc _;have hz2:((w.alloc (.cells (balC b) 32)).alloc (.cells #[.int .u64 0,.int .i64 0] 32)).heap.size=w.heap.size+2:=by{simp};rw[hz1] at hn;have hn1b:=hk2.get hn1 id;have hk:=hk1.nx hk2;clear hk1 hk2 hn1 hz1;have HP:=hid hPost;have H0:=zB4 H hO hm hfew hb;clear hPost H hO hm hfew hb
 go_in
 go_upto_region 1 with fail
 obtain⟨w1,hw1⟩:=zX1 ((w.alloc (.cells (balC b) 32)).alloc (.cells #[.int .u64 0,.int .i64 0] 32));rw[<-hw1] at hn hn1b hk hz2 |-;clear hw1;obtain⟨g,hg⟩:=zX1 (w.heap.size+1);rw[<-hg] at hn |-;have LA:=AcT.lives a d D A;have HA1:=LA.keep H0.x1 hk zI;obtain⟨sb,nv,X,Y,Z,hbox,hst,hvt,d1,d2,d3,hF⟩:=HA1;obtain⟨p0,p1,p2,p3,p4,pf,pb⟩:=z0I hbox.1;have b0:w1.cell? ⟨w.heap.size,0,none⟩=some (.int .u64 (b.n:Int)):=by{simp[World.cell?,hn1b]};have b1:w1.cell? ⟨w.heap.size,1,none⟩=some (.int .i64 b.node):=by{simp[World.cell?,hn1b]};have hrt:=z8X w1 b;have H1:=zB11 hn hk hg hz2 hn1b hbox hst hvt d1 d2 d3 hF;clear hn hk hg hz2 hn1b hbox hst hvt d1 d2 d3 hF p0 p3 pf LA;obtain⟨rb,hrb⟩:=zX1 (z3O b);rw[<-hrb] at hrt;have HR:=hid hrb;clear hrb;go_wp2_with fail;refine hrt.mono ?_;rintro e w2 ⟨rfl,hk2⟩;clear hrt;have b0:=z0D hk2 _ _ b0;have b1:=z0D hk2 _ _ b1;have p1:=z0D hk2 _ _ p1;have p2:=z0D hk2 _ _ p2;have p4:=z0D hk2 _ _ p4;have r0:=hk2.get H1.x1 id;cases rb with
 | false=>
   have d0:w2.cell? ⟨g,0,none⟩=some (.int .u64 0):=by{simp[World.cell?,r0]};have d1:w2.cell? ⟨g,1,none⟩=some (.int .i64 0):=by{simp[World.cell?,r0]};have f0:∀ o,w2.frozen? ⟨g,o,none⟩=false:=λo=>by{simp[World.frozen?,r0]};have HK:=hid hk2;have R0:=hid r0;clear hk2 r0;go_wp2_with fail;obtain⟨q1,q2⟩:=zdV H0.x1 (H1.x2.nx HK.o) (by have:=H1.x3;omega) R0.out Bal.zero 2;refine bodyPost_ret (z5X rfl _ _ g rfl _ q1 _ Tryz.underlying32 rfl (by kernel_rfl)) rfl ?_;have hE:z1X D A b k=(([],Bal.zero,2),D,A):=by{unfold z1X;rw[if_pos HR.o.symm]};rw[HP.o,hE];exact q2
 | true=>
   have hR2:=HR.o;obtain⟨dd,hdd⟩:=zX1 (A.s.dead);rw[<-hdd] at p4;have HD:=hid hdd;clear hdd hR2;cases dd with
   | true=>
     have d0:w2.cell? ⟨g,0,none⟩=some (.int .u64 0):=by{simp[World.cell?,r0]};have d1:w2.cell? ⟨g,1,none⟩=some (.int .i64 0):=by{simp[World.cell?,r0]};have f0:∀ o,w2.frozen? ⟨g,o,none⟩=false:=λo=>by{simp[World.frozen?,r0]};have HK:=hid hk2;have R0:=hid r0;clear hk2 r0;go_wp2_with fail;obtain⟨q1,q2⟩:=zdV H0.x1 (H1.x2.nx HK.o) (by have:=H1.x3;omega) R0.out Bal.zero 6;refine bodyPost_ret (z5X rfl _ _ g rfl _ q1 _ Tryz.underlying32 rfl (by kernel_rfl)) rfl ?_;have hE:z1X D A b k=(([],Bal.zero,6),D,A):=by{unfold z1X;rw[if_neg (by rw[<-HR.o];decide),if_pos HD.o.symm]};rw[HP.o,hE];exact q2
   | false=>
     obtain⟨lb,hlb⟩:=zX1 (less b A.b);have HL1:=hid (λs:Later w2=>show Calls Tryz.prog 88 #[balV b,balV A.b] s.val λe w'=>e = .returned (.bool lb)/\Keep zF s.val w' from by rw[hlb];exact z9Z s.val b A.b);have HLB:=hid hlb;have HK:=hid hk2;clear hlb hk2 r0
     go_upto_region 7 with fail
     have j0:=λs:Later w2=>s.cell b0;have j1:=λs:Later w2=>s.cell b1;have j2:=λs:Later w2=>s.cell p1;have j3:=λs:Later w2=>s.cell p2
     (refine z0V (by kernel_rfl) (by kernel_rfl) ?_;(repeat (go_big_quiet_step ((go_at_call 88;exact Later.call (HL1.o _)))));refine wpQuiet_nil ?_;rintro _ ⟨sq,rfl⟩)
     have hk3:=sq.keep;obtain⟨w3,hw3⟩:=zX1 (sq.val);rw[<-hw3] at hk3 |-;clear hw3 sq j0 j1 j2 j3 HL1;have b0:=z0D hk3 _ _ b0;have b1:=z0D hk3 _ _ b1;have p1:=z0D hk3 _ _ p1;have p2:=z0D hk3 _ _ p2;have hk13:=HK.o.nx hk3;have r0:=hk13.get H1.x1 id;have HK:=hid hk13;clear hk3 hk13 p4;cases lb with
     | true=>
       have d0:w3.cell? ⟨g,0,none⟩=some (.int .u64 0):=by{simp[World.cell?,r0]};have d1:w3.cell? ⟨g,1,none⟩=some (.int .i64 0):=by{simp[World.cell?,r0]};have f0:∀ o,w3.frozen? ⟨g,o,none⟩=false:=λo=>by{simp[World.frozen?,r0]};have R0:=hid r0;clear r0;go_wp2_with fail;refine z0F [] (by kernel_rfl) (by kernel_rfl) ?_
       repeat (first | (apply z0C (by rfl);(intro K w';go_simp;exact id)) | (apply z0L (by rfl);(intro K;go_simp;exact id)))
       (refine z0G (by rfl) (by rfl) (λK hK=>?_);go_simp;refine hK _ _ ?_;clear hK K)
       repeat (first | (apply z0C (by rfl);(intro K w';go_simp;exact id)) | (apply z0L (by rfl);(intro K;go_simp;exact id)))
       refine z0P ?_;go_wp2_with fail;obtain⟨q1,q2⟩:=zdV H0.x1 (H1.x2.nx HK.o).drew (by have:=H1.x3;omega) R0.out A.b 90;refine bodyPost_ret (z5X rfl _ _ g rfl _ q1 _ Tryz.underlying32 rfl (by kernel_rfl)) rfl ?_;have hE:z1X D A b k=(([],A.b,90),D,A):=by{unfold z1X;rw[if_neg (by rw[<-HR.o];decide),if_neg (by rw[<-HD.o];decide),if_pos HLB.o.symm]};rw[HP.o,hE];exact q2
     | false=>
       obtain⟨lc,hlc⟩:=zX1 (less A.b b);have HL2:=hid (λs:Later w3=>show Calls Tryz.prog 88 #[balV A.b,balV b] s.val λe w'=>e = .returned (.bool lc)/\Keep zF s.val w' from by rw[hlc];exact z9Z s.val A.b b);have HLC:=hid hlc;clear hlc r0
       go_upto_region 9 with fail
       have j0:=λs:Later w3=>s.cell b0;have j1:=λs:Later w3=>s.cell b1;have j2:=λs:Later w3=>s.cell p1;have j3:=λs:Later w3=>s.cell p2
       (refine z0V (by kernel_rfl) (by kernel_rfl) ?_;(repeat (go_big_quiet_step ((go_at_call 88;exact Later.call (HL2.o _)))));refine wpQuiet_nil ?_;rintro _ ⟨sq,rfl⟩)
       have hk4:=sq.keep;obtain⟨w4,hw4⟩:=zX1 (sq.val);rw[<-hw4] at hk4 |-;clear hw4 sq j0 j1 j2 j3 HL2;have b0:=z0D hk4 _ _ b0;have b1:=z0D hk4 _ _ b1;have HK:=hid (HK.o.nx hk4);clear hk4 p1 p2
       go_upto_if 41 with fail
       go_cut [9] (λv wx=>zH (PrepIn w a d D A F b k g wx))
       case first=>(cases lc with | false=>{have hE:z1X D A b k=((zbZ A.vs k,b,0),D,A):=by{unfold z1X;rw[if_neg (by rw[<-HR.o];decide),if_neg (by rw[<-HD.o];decide),if_neg (by rw[<-HLB.o];decide),if_pos (zbE HLB.o.symm HLC.o.symm)]};have hkw:=H1.x2.nx HK.o;have HZ:=hid (show PrepIn w a d D A F b k g w4 from ⟨⟨D,A,F,hE,(zbE HLB.o.symm HLC.o.symm).symm,HD.o.symm,rfl,(AcT.lives a d D A).keep H0.x1 hkw zI,λi x=>.inl x⟩,hkw.mono zE,HK.o.get H1.x5 id,HK.o.get H1.x1 id⟩);clear hE hkw;go_wp2_with fail;go_meet;exact HZ} | true=>{have hOb:OkB b:=⟨HR.o.symm,H0.y4⟩;have hpr:=ziO w4 b hOb;unfold zvK at hpr;clear hOb;go_wp2_with fail;refine hpr.mono ?_;rintro e w5 ⟨rfl,hk5⟩;clear hpr;have hk6:=kal w5 (.cells #[.string (str pK),.string (str (AC.putB b)),.bool false] 161);have hkw6:=(HK.o.nx hk5).nx hk6;have LT:=TrioT.lives (BoxA.lives a (accC sb A.b nv A.s.dead) 152) (StoT.lives sb d D A.s) (VotesT.lives nv A.vs);have hT6:=LT.keep (show TrioT (BoxA a (accC sb A.b nv A.s.dead) 152) (StoT sb d D A.s) (VotesT nv A.vs) w1 F from⟨X,Y,Z,H1.x6,H1.x7,H1.x8,H1.x9,H1.x10,H1.x11,H1.y11⟩) hkw6 zI;have hFl:=(AcT.lives a d D A).lt H0.x1;have hdo:=zqN _ a sb d A.b nv A.vs D A.s F hT6 (some ⟨w5.heap.size,0,none⟩) 1 1 (z6B b) (zvV w5 b (by have:=AC.putB_len b;unfold maxLen;omega)) rfl (λ_ x hx y=>by{cases hx;have h1:=hFl _ y;have h2:=H1.x2.size;have h3:=HK.o.size;have h4:=hk5.size;simp only at h1;omega}) H0.x3 H0.x4;(have hcs:=z8H (D:=D) HD.o.symm (z6B b);obtain⟨E,hE⟩:=zX1 (doA D A.s (z6B b));rw[<-hE] at hdo hcs;have HE:=zB3 hE hcs hkw6 hFl;clear hE hcs hkw6 hFl hk6 hk5 hT6 LT;go_wp2_with fail;refine hdo.mono ?_;rintro e w7 ⟨rfl,F7,T7,K7,N7⟩;clear hdo;have hz1:=H1.x4;have hs6:=HE.x3.size;have r7:=K7.get (HE.x3.get H1.x1 id) (λx=>by have:=HE.y3 _ x;have:=H1.x3;omega);have x7:=K7.get (HE.x3.get H1.x5 id) (λx=>by have:=HE.y3 _ x;omega);have hkF:Keep F w w7:=(H1.x2.nx HE.x3).next K7 zE zI;have hne:∀ i,F7 i->F i∨g<i:=λi x=>(N7 i x).imp id λy=>by have:=H1.x3;omega);have H7:=zB4 T7 hkF hne r7 x7;clear T7 K7 N7 x7 hkF hne hz1 hs6;have hE4:z1X D A b k=if E.1=0 then ((zbZ A.vs k,b,0),E.2.1,⟨E.2.2,b,A.vs⟩) else (([],Bal.zero,E.1),E.2.1,⟨E.2.2,A.b,A.vs⟩):=by{unfold z1X;rw[if_neg (by rw[<-HR.o];decide),if_neg (by rw[<-HD.o];decide),if_neg (by rw[<-HLB.o];decide),if_neg (λe=>by have:=HLC.o;rw[e,z5T] at this;cases this),HE.x1]};have HE4:=hid hE4;clear hE4;by_cases h0:E.1=0;{have q1:(E.1 != 0)=false:=by{simp[h0]};have hdd:E.2.2.dead=false:=by{rcases HE.x2 with ⟨-,-,h⟩ | ⟨h,-⟩ | ⟨h,-⟩;{exact h};{omega};{exact absurd h0 h}};obtain⟨X7,Y7,Z7,hb7,hs7,hv7,a1,a2,a3,hF7⟩:=H7.x1;obtain⟨p0,p1,p2,p3,p4,pf,pb⟩:=z0I hb7.1;have xb:=H7.y4;have b0:w7.cell? ⟨w.heap.size,0,none⟩=some (.int .u64 (b.n:Int)):=by{simp[World.cell?,xb]};have b1:w7.cell? ⟨w.heap.size,1,none⟩=some (.int .i64 b.node):=by{simp[World.cell?,xb]};have g1:=z0A hb7.1 1 (.int .u64 (b.n:Int));have g2:=z0A g1 2 (.int .i64 b.node);have hkz:Keep (λk=>k=a) w7 ((w7.setCell ⟨a,1,none⟩ (.int .u64 (b.n:Int))).setCell ⟨a,2,none⟩ (.int .i64 b.node)):=by{refine Keep.setCell (Keep.setCell (Keep.refl _ _) (.inl ?_) _) (.inl ?_) _ <;> rfl};have haX:F7 a:=by{rw[hF7];exact .inl hb7.2.1};have haw:a<w.heap.size:=by{have:=H1.x6;exact(AcT.lives a d D A).lt H0.x1 a (by rw[H1.y11];exact .inl this.2.1)};have T8:=TrioT.turn1 (T':=BoxA a (accC sb b nv E.2.2.dead) 152) (StoT.lives _ _ _ _) (VotesT.lives _ _) H7.x1 (λX' hX'=>⟨X',⟨z0A (z0A hX'.1 1 (.int .u64 (b.n:Int))) 2 (.int .i64 b.node),hX'.2.1,λk x=>Nat.lt_of_lt_of_le (hX'.2.2 k x) hkz.size⟩,hkz.mono λk _ e=>by subst e;exact hX'.2.1,λ_ x=>.inl x⟩);obtain⟨F8,U8,K8,N8⟩:=T8;have HZ:=hid (show PrepIn w a d D A F b k g ((w7.setCell ⟨a,1,none⟩ (.int .u64 (b.n:Int))).setCell ⟨a,2,none⟩ (.int .i64 b.node)) from ⟨⟨E.2.1,⟨E.2.2,b,A.vs⟩,F8,by rw[HE4.o,if_pos h0],rfl,hdd,rfl,⟨sb,nv,U8⟩,λi x=>(N8 i x).elim (H7.x3 i) λy=>.inr (by have:=z0J r7;omega)⟩,H7.x2.next hkz zI (λk hk e=>by rw[e];exact H1.y11 ▸ .inl H1.x6.2.1),hkz.get xb (λe=>by omega),hkz.get r7 (λe=>by have:=H1.x3;omega)⟩);clear p0 p3 p4 pb xb g1 g2 hkz haX haw U8 K8 N8 hb7 hs7 hv7 a1 a2 a3 hF7 hdd r7;go_wp2_with fail;go_meet;exact HZ};{have q1:(E.1 != 0)=true:=by{simpa using h0};have q2:decide (E.1=0)=false:=decide_eq_false h0;have d0:w7.cell? ⟨g,0,none⟩=some (.int .u64 0):=by{simp[World.cell?,r7]};have d1:w7.cell? ⟨g,1,none⟩=some (.int .i64 0):=by{simp[World.cell?,r7]};have f0:∀ o,w7.frozen? ⟨g,o,none⟩=false:=λo=>by{simp[World.frozen?,r7]};have H0':=hid h0;clear r7 h0;go_wp2_with fail;obtain⟨q1,q2⟩:=zjB (a:=a) (d:=d) (D:=E.2.1) (A:=⟨E.2.2,A.b,A.vs⟩) (B:=g+1) ⟨sb,nv,H7.x1⟩ H7.x2 HE.y3 (λi x=>(H7.x3 i x).imp id λy=>by omega) (Nat.lt_succ_self _) (by have:=H1.x3;omega) H7.x4 (.slice none 0 0) [] [] zF (Votes.nil _ _) (λ_ x=>x.elim) Apart.nil Bal.zero E.1;refine bodyPost_ret (z5X rfl _ _ g rfl _ q1 _ Tryz.underlying32 rfl (by kernel_rfl)) rfl ?_;rw[HP.o,HE4.o,if_neg H0'.o];exact q2}})
       case rest=>(have hgg:=H1.x3;subst hgg;obtain⟨⟨D',A',F',hE,hAb,hAd,hAv,hT,hN⟩,hkw,hbx,hrs⟩:=hcut.out;obtain⟨sb',nv',X',Y',Z',hbox,hst,⟨⟨us,hvt⟩,hvl⟩,e1,e2,e3,hF'⟩:=hT;obtain⟨l1,l2,l3⟩:=H0.x2.lens HD.o.symm (H0.x3 HD.o.symm);rw[<-hAv] at l1 l2 l3;have hkd:Keep zF wc wc.drew:=(Keep.refl _ _).drew;have hvo:=ziH wc.drew a sb' A'.b nv' A'.s.dead Z' A'.vs us k (hkd.get hbox.1 id) (hvt.keep hkd zI) l1 l2 l3;rw[hAd] at hvo;simp only[Bool.false_eq_true,if_false] at hvo;have x1:wc.drew.cell? ⟨w.heap.size,0,none⟩=some (.int .u64 (b.n:Int))/\wc.drew.cell? ⟨w.heap.size,1,none⟩=some (.int .i64 b.node):=by{have:=hkd.get hbx id;simp[World.cell?,this]};have HC:=hid hcut.out;have HW:=zB6 (show AcT a d D' A' wc F' from⟨sb',nv',X',Y',Z',hbox,hst,⟨⟨us,hvt⟩,hvl⟩,e1,e2,e3,hF'⟩) hkw hbx hrs hE hN hkd;clear hcut hbox hst hvt hvl e1 e2 e3 hF' hE hAb hAd hAv hN hkw hbx hrs l1 l2 l3 hkd b0 b1;(go_upto_region 14 with fail);refine Held.z2C (λw'=>w'.cell? ⟨w.heap.size,0,none⟩=some (.int .u64 (b.n:Int))/\w'.cell? ⟨w.heap.size,1,none⟩=some (.int .i64 b.node)) [] [58] (by kernel_rfl) (by kernel_rfl) ?_;(repeat (apply Twin.z0C (by rfl) (by exact x1);(intro K w' hS;(try dsimp only at hS);go_simp;exact id)));refine Twin.z0G (by decide) (by rfl) (by exact x1) (λK hK=>?_);go_simp;refine hvo.mono ?_;rintro e w2' ⟨v,us2,Fv,rfl,hv2,hFv,hk2,hap2⟩;have HAp:=hid hap2;clear hap2;obtain⟨va,vc,rfl,-⟩:=hv2.row.form;have x2:w2'.cell? ⟨w.heap.size,0,none⟩=some (.int .u64 (b.n:Int))/\w2'.cell? ⟨w.heap.size,1,none⟩=some (.int .i64 b.node):=⟨z0D hk2 _ _ x1.1,z0D hk2 _ _ x1.2⟩;have hkw2:=HW.y6.nx hk2;have hrs2:=hkw2.get HW.x4 id;have d0:w2'.cell? ⟨w.heap.size+1,0,none⟩=some (.int .u64 0):=by{simp[World.cell?,hrs2]};have d1:w2'.cell? ⟨w.heap.size+1,1,none⟩=some (.int .i64 0):=by{simp[World.cell?,hrs2]};have f0:∀ o,w2'.frozen? ⟨w.heap.size+1,o,none⟩=false:=λo=>by{simp[World.frozen?,hrs2]};have hbx2:=hkw2.get HW.x3 id;have hg2:=H1.x3;have HV:=zB5 hv2 hFv hkw2 hrs2 hbx2 hg2;go_simp;refine hK _ _ (λh=>by cases h) (λ_=>x2) ?_;clear hK K x1 hvo hk2 hv2 hFv hkw2 hrs2 hbx2 hg2;(repeat (apply Twin.z0C (by rfl) (by exact x2);(intro K w' hS;(try dsimp only at hS);go_simp;exact id)));refine Twin.z0G (by decide) (by rfl) (by exact x2) (λK hK=>?_);go_simp;have x3:((w2'.setCell ⟨w.heap.size+1,0,none⟩ (.int .u64 (b.n:Int))).setCell ⟨w.heap.size+1,1,none⟩ (.int .i64 b.node)).cell? ⟨w.heap.size,0,none⟩=some (.int .u64 (b.n:Int))/\((w2'.setCell ⟨w.heap.size+1,0,none⟩ (.int .u64 (b.n:Int))).setCell ⟨w.heap.size+1,1,none⟩ (.int .i64 b.node)).cell? ⟨w.heap.size,1,none⟩=some (.int .i64 b.node):=by{obtain⟨-,g2,-⟩:=z4P w2' (w.heap.size+1) _ _ HV.x4 (.int .u64 (b.n:Int)) (.int .i64 b.node);have:=g2.get HV.x5 (λe=>by have:=HV.y5;omega);simp[World.cell?,this]};refine hK _ _ (λh=>by cases h) (λ_=>x3) ?_;clear hK K x2;(repeat (apply Twin.z0C (by rfl) (by exact x3);(intro K w' hS;(try dsimp only at hS);go_simp;exact id)));refine Twin.z0P ?_;go_wp2_with fail;obtain⟨hT,hkw,hbx,hrs,hE,hN,hkd⟩:=HW.o;obtain⟨hv2,hFv,hkw2,hrs2,hbx2,hg2⟩:=HV.o;have hFl:=(AcT.lives a d D A).lt H0.x1;obtain⟨q1,q2⟩:=zjB (a:=a) (d:=d) (D:=D') (A:=A') (B:=w.heap.size+2) ((AcT.lives a d D' A').keep hT hkw2 zI) (hkw.next hkw2 zI zE) hFl hN (Nat.lt_succ_self _) (by omega) hrs2 (.slice va (zbZ A'.vs k).length vc) _ us2 Fv hv2 (λi x=>by{have h1:=hFv i x;have h2:wc.heap.size<=i:=h1;exact⟨Nat.lt_of_lt_of_le (z0J hrs) h2,λy=>by have:=(AcT.lives a d D' A').lt hT i y;omega⟩}) HAp.o b 0;refine bodyPost_ret (z5X rfl _ _ (w.heap.size+1) rfl _ q1 _ Tryz.underlying32 rfl (by kernel_rfl)) rfl ?_;rw[HP.o,hE];exact q2)
end
section
open Go.RowKit Go.Maps
open MI SO BM DM WM AC
def TrimPost(a d:Nat)(F:Nat→Prop)(w:World)(R:(Nat×Int)×Dk×Ac)(e:Ending)(w':World):Prop:=
 e = .returned (.tuple #[.int .i64 (R.1.1:Nat),.int .i64 R.1.2])∧Turns (AcT a d R.2.1 R.2.2) F w w'
structure TrimIn (w:World) (vs:List Vt) (k i:Nat) (lv:Value) (wr:World):Prop where
 keep:Keep (fun _=>False) w wr
 row:Row wr 161 3 lv (cutV (vs.take i) k).length (chsV (zjV (cutV (vs.take i) k)))
 own:∀ j,lv.ownBlock=some j→w.heap.size≤j
end
section
open Go.RowKit Go.Maps
open MI SO BM DM WM
section
variable {P:Program} {o:Oper} {a:Act} {w:World} {K:Act→World→Prop} {Q:Exit→Act→World→Prop}
end
structure Facts2 (D:Dk) (S:St):Prop where
 size:6≤D.safe.length
 ok:PsOk S.ps
 count:S.g.l.length≤4000
 safe:S.g.safe≤S.g.l.length
 lg:LgOk (half D) S.g
end
namespace AC
open Go.Proofs.YtkhddpiopbmhjaaGreat MI SO BM DM WM
def docB(ps:List (Str×Str)):Bal:=match AL.get ps pK with
 | none=>Bal.zero
 | some v=>match getB v with
   | none=>Bal.zero
   | some (b,_)=>b
def docV1(k:Nat)(p:Str×Str):Option Vt:=match getB p.2 with
 | none=>none
 | some (b,rest)=>if 0<zpW p.1∧k≤zpW p.1 then some ⟨zpW p.1,b,rest⟩ else none
def docV(ps:List (Str×Str))(k:Nat):List Vt:=ps.filterMap (docV1 k)
def y2L(top:Bal)(p:Str×Str):Bool:=match getB p.2 with
 | none=>false
 | some (b,rest)=>if p.1=pK then decide (rest = []) else (decide (zpW p.1≠0) && (decide (rest.length≤100) && !less top b))
def docOk(ps:List (Str×Str)):Bool:=ps.all (y2L (docB ps))
end AC
section
open Go.RowKit Go.Maps Go.Shelf
open MI SO BM DM WM AC
attribute [local go_sem] Oper.semAt_some
def AcP(d:Nat)(D:Dk)(o:Option Ac)(av:Value):Thing:=fun w F=>
 match o with
 | none=>av = .pointer none∧DkT d D w F
 | some A=>∃ a,av = .pointer (some ⟨a,0,none⟩)∧AcT a d D A w F
theorem AcP.lives(d:Nat)(D:Dk)(o:Option Ac)(av:Value):Lives (AcP d D o av):=by
 cases o with | none=>{exact⟨λh hk hn=>⟨h.1,(DkT.lives d D).keep h.2 hk hn⟩,λh=>(DkT.lives d D).lt h.2⟩} | some A=>{exact⟨λ⟨b,h1,h2⟩ hk hn=>⟨b,h1,(AcT.lives b d D A).keep h2 hk hn⟩,λ⟨b,_,h2⟩=>(AcT.lives b d D A).lt h2⟩}
def AOpenPost(d:Nat)(F:Nat→Prop)(w:World)(R:Int×Option Ac×Dk)(e:Ending)(w':World):Prop:=
 ∃ av,e = .returned (.tuple #[av,.int .i64 R.1])∧Turns (AcP d R.2.2 R.2.1 av) F w w'
structure RIn (w4:World) (a b:Nat) (pre:List (Str×Str)) (W:World):Prop where
 ex:∃ st nv us,rdL (Bal.zero,[]) pre=some st∧W.heap[a]?=some (.cells (accC b st.1 nv false) 152 (0,0))∧Votes W (fun k=>w4.heap.size≤k) nv st.2 us
 keep:Keep (fun k=>k=a) w4 W
structure ROut (w5:World) (a r2 r3:Nat) (ps:List (Str×Str)) (W:World):Prop where
 bad:rdL (Bal.zero,[]) ps=none
 c2:W.heap[r2]?=some (.cells #[.pointer none] 83 (0,0))
 c3:W.heap[r3]?=some (.cells #[.int .i64 91] 33 (0,0))
 keep:Keep (fun k=>k=a∨k=r2∨k=r3) w5 W
end
namespace GR
open Go.Proofs.YtkhddpiopbmhjaaGreat MI SO BM DM WM AC RM
structure Qm where
 kind:Int
 nodes:Int
 one:Int
 two:Int
 sites:List Int
def zuK(q:Qm):Int:=
 if q.nodes<1∨12<q.nodes then 2
 else if q.kind=1 then if 1≤q.one∧q.one≤q.nodes∧1≤q.two∧q.two≤q.nodes then if q.one+q.two≤q.nodes then 80 else 0 else 2
 else if q.kind=2 then if (1≤q.one∧q.one≤q.nodes∧1≤q.two∧q.two≤q.nodes)∧q.one * q.two=q.nodes then 0 else 2
 else if q.kind=3 then if (q.sites.length:Int)=q.nodes∧∀ s ∈ q.sites,0≤s∧s<12 then 0 else 2
 else 2
def ones(set n:Nat):Nat:=((List.range n).filter fun i=>set.testBit i).length
def y0G(q:Qm)(set:Nat)(s:Int):Bool:=(List.range q.nodes.toNat).all fun i=>!decide (q.sites.getD i (-1)=s) || set.testBit i
def y0U(q:Qm)(set:Nat)(s:Int):Bool:=(List.range q.nodes.toNat).any fun i=>decide (q.sites.getD i (-1)=s) && set.testBit i
def zuO(q:Qm)(set at_:Nat)(column:Bool):Bool:=(List.range q.nodes.toNat).all fun i=>!decide ((if column then i % q.two.toNat else i / q.two.toNat)=at_) || set.testBit i
def zcO(q:Qm)(set:Nat):Bool:=
 if zuK q≠0 then false
 else if q.kind=1 then decide (q.one≤ones set q.nodes.toNat)
 else if q.kind=2 then (List.range q.one.toNat).any fun r=>zuO q set r false
 else q.sites.all fun s=>y0U q set s
def z9P(q:Qm)(set:Nat):Bool:=
 if zuK q≠0 then false
 else if q.kind=1 then decide (q.two≤ones set q.nodes.toNat)
 else if q.kind=2 then (List.range q.two.toNat).any fun c=>zuO q set c true
 else q.sites.any fun s=>y0G q set s
def three:Qm:=⟨1,3,2,2,[]⟩
def Vt.zero:Vt:=⟨0,Bal.zero,[]⟩
structure Pr where
 b:Bal
 frm:Nat
 set:Nat
 musts:List (Nat×(Vt×Int))
 slots:List (Nat×(Vt×Nat))
def z9V(q:Qm)(n:Int):Bool:=decide (0≤n) && decide (n<q.nodes)
def z9Y(b:Bal):Nat→List Vt→Bool
 | _,[]=>true
 | last,v :: l=>(decide (last<v.slot) && (z3O v.bal && (less v.bal b && decide (v.val.length≤100)))) && z9Y b v.slot l
def zzO(node:Int)(m:List (Nat×(Vt×Int)))(v:Vt):List (Nat×(Vt×Int)):=match AL.get m v.slot with
 | none=>AL.put m v.slot (v,node)
 | some u=>if less v.bal u.1.bal || (decide (v.bal=u.1.bal) && decide (u.2<node)) then m else AL.put m v.slot (v,node)
def bit(set:Nat)(n:Int):Nat:=set ||| 2 ^ n.toNat
def newP(b:Bal)(frm:Nat):Pr:=⟨b,frm,0,[],[]⟩
def z2N(q:Qm)(p:Pr)(node:Int)(l:List Vt):Int×Pr:=
 if z9V q node=false then (2,p)
 else if z9Y p.b (p.frm - 1) l=false then (91,p)
 else if p.set.testBit node.toNat then (0,p)
 else (0,{ p with set:=bit p.set node,musts:=l.foldl (zzO node) p.musts })
def z2B(q:Qm)(p:Pr):Bool:=zcO q p.set
def topP(p:Pr):Nat:=p.musts.foldl (fun t x=>max t x.1) 0
def z2U(p:Pr)(at_:Nat)(own:List UInt8):Vt:=⟨at_,p.b,match AL.get p.musts at_ with | some u=>u.1.val | none=>own⟩
def z7S(q:Qm)(p:Pr)(at_:Nat)(own:List UInt8):(Vt×Int)×Pr:=
 if z2B q p=false then ((Vt.zero,100),p)
 else if at_<p.frm then ((Vt.zero,2),p)
 else match AL.get p.slots at_ with
  | some s=>((s.1,0),p)
  | none=>if 100<(z2U p at_ own).val.length then ((Vt.zero,3),p) else ((z2U p at_ own,0),{ p with slots:=AL.put p.slots at_ (z2U p at_ own,0) })
def upd{α:Type}(l:List (Nat×α))(x:Nat)(f:α→α):List (Nat×α):=l.map fun p=>if p.1=x then (p.1,f p.2) else p
def accP(q:Qm)(p:Pr)(node:Int)(at_:Nat):Int×Pr:=
 if z9V q node=false then (2,p)
 else match AL.get p.slots at_ with
  | none=>(4,p)
  | some _=>(0,{ p with slots:=upd p.slots at_ fun s=>(s.1,bit s.2 node) })
def z3F(q:Qm)(p:Pr)(at_:Nat):Option (List UInt8):=match AL.get p.slots at_ with
 | none=>none
 | some s=>if z9P q s.2 then some s.1.val else none
structure Cl where
 id:Nat
 num:Nat
 busy:Bool
 rep:List UInt8
def z3R(l:List Cl)(id:Nat):Option Nat:=l.findIdx? fun c=>decide (c.id=id)
def useC(l:List Cl)(at_:Nat)(c:Cl):List Cl:=l.eraseIdx at_ ++ [c]
def z2W(l:List Cl)(id num:Nat):(Nat×List UInt8×Int)×List Cl:=
 if num=0 then ((0,[],2),l)
 else match z3R l id with
  | none=>((1,[],0),l ++ [⟨id,num,true,[]⟩])
  | some i=>match l[i]? with
    | none=>((0,[],0),l)
    | some c=>if num<c.num then ((0,[],70),l)
      else if c.num=num then if c.busy then ((3,[],0),useC l i c) else ((2,c.rep,0),useC l i c)
      else ((1,[],0),useC l i ⟨id,num,true,[]⟩)
def endC(l:List Cl)(id num:Nat)(rep:List UInt8):Int×List Cl:=
 if 200<rep.length then (3,l)
 else match z3R l id with
  | none=>(4,l)
  | some i=>match l[i]? with
    | none=>(4,l)
    | some c=>if c.num≠num∨c.busy=false then (4,l) else (0,useC l i ⟨id,num,false,rep⟩)
structure Ask where
 rd:Bool
 id:Nat
 num:Nat
 blk:Int
 data:List UInt8
def Ask.zero:Ask:=⟨false,0,0,0,[]⟩
def askB(a:Ask):List UInt8:=z0H (if a.rd then 2 else 1) ++ (z0H a.id ++ (z0H a.num ++ (z0H a.blk.toNat ++ (if a.rd then [] else z0H a.data.length ++ a.data))))
def okK(a:Ask):Bool:=!(decide (a.num=0) || (decide (a.blk<0) || (decide (65535<a.blk) || (decide (64<a.data.length) || (a.rd && decide (0<a.data.length))))))
def encK(a:Ask):Option (List UInt8):=if okK a then some (askB a) else none
def decK(l:List UInt8):Option Ask:=
 let k:=uS l (0,0)
 let i:=uS l k.2
 let n:=uS l i.2
 let b:=uS l n.2
 let d:=if k.1=2 then (([]:List UInt8),b.2) else bS l 64 b.2
 if d.2.2≠0∨d.2.1<l.length∨k.1<1∨2<k.1∨n.1=0∨65535<b.1 then none
 else some ⟨decide (k.1=2),i.1,n.1,(b.1:Int),d.1⟩
structure Sd where
 id:Nat
 num:Nat
 slot:Nat
 data:List UInt8
structure Mb where
 up:Bool
 D:Dk
 A:Ac
 seen:Nat
 p:Option Pr
 b:Bal
 frm:Nat
 next:Nat
 asks:List (Nat×List UInt8)
 log:RM.Lg
 data:List (Nat×List UInt8)
 tab:List Cl
 said:List Sd
def noAc:Ac:=⟨⟨⟨0,[],0,false⟩,[],false⟩,Bal.zero,[]⟩
def zaW(D:Dk):Mb:=⟨false,D,noAc,0,none,Bal.zero,0,0,[],⟨0,[]⟩,[],[],[]⟩
def z7P(D:Dk):Mb:=match (zkX D).2.1 with
 | some A=>{ zaW (zkX D).2.2 with up:=true,A:=A }
 | none=>zaW (zkX D).2.2
def ziD(m:Mb)(e:Int):Mb:=if e=6 then zaW m.D else m
def do2(s:List (Nat×List UInt8)×List Cl)(v:List UInt8):Option (List UInt8)×List (Nat×List UInt8)×List Cl:=match decK v with
 | none=>(none,s)
 | some a=>let r:=z2W s.2 a.id a.num
   if r.1.2.2≠0 then (none,s.1,r.2)
   else if r.1.1≠1 then (some r.1.2.1,s.1,r.2)
   else let out:=if a.rd then (AL.get s.1 a.blk.toNat).getD [] else []
    (some out,if a.rd then s.1 else AL.put s.1 a.blk.toNat a.data,(endC r.2 a.id a.num out).2)
def doM(m:Mb)(v:List UInt8):Option (List UInt8)×Mb:=((do2 (m.data,m.tab) v).1,{ m with data:=(do2 (m.data,m.tab) v).2.1,tab:=(do2 (m.data,m.tab) v).2.2 })
def sayM(m:Mb)(e:Ent):Mb:=
 let r:=doM m e.2
 match r.1 with
 | none=>r.2
 | some out=>match AL.get r.2.asks e.1,decK e.2 with
   | some b,some a=>if b=e.2 then { r.2 with said:=r.2.said ++ [⟨a.id,a.num,e.1,out⟩] } else r.2
   | _,_=>r.2
def appN:Nat→Mb→Mb
 | 0,m=>m
 | k+1,m=>match RM.apply m.log with
   | (none,_)=>m
   | (some e,g)=>appN k (sayM { m with log:=g } e)
def z2H(g:RM.Lg):Nat:=g.l.length - below g.l (g.ap+1)
def z2Y(m:Mb):Mb:=appN (z2H m.log) m
structure Ml where
 kind:Int
 frm:Int
 to_:Int
 b:Bal
 vs:List Vt
structure Gr where
 q:Qm
 ms:List Mb
 l:List Ml
def z3N(g:Gr)(m:Ml):Gr:=if g.l.length<200 then { g with l:=g.l ++ [m] } else g
def z1P(g:Gr)(n:Nat)(m:Ml):Nat→Gr
 | 0=>g
 | k+1=>if k=n then z1P g n m k else z3N (z1P g n m k) { m with frm:=n,to_:=k }
def z1H(g:Gr)(n:Nat)(m:Ml):Gr:=z1P g n m g.ms.length
def setG(g:Gr)(n:Nat)(m:Mb):Gr:={ g with ms:=g.ms.set n m }
def z1U(s:Nat):List Vt:=[⟨s,Bal.zero,[]⟩]
def getG(g:Gr)(n:Nat):Mb:=g.ms.getD n (zaW ⟨[],[],none,false⟩)
def z7F(g:Gr)(n:Int):Int:=if n<0∨g.ms.length≤n.toNat then 2 else if (getG g n.toNat).up then 0 else 6
def z1S(g:Gr)(n:Nat)(p:Pr)(s:Nat):Gr:=
 let m:=getG g n
 match z3F g.q p s with
 | none=>g
 | some v=>if s≤m.log.ap∨z4H m.log s 1≠[] then g
   else if (learn m.log s v).1≠0 then setG g n { m with log:=(learn m.log s v).2 }
   else let g2:=z1H (setG g n { m with log:=(learn m.log s v).2 }) n ⟨5,0,0,m.b,[⟨s,Bal.zero,v⟩]⟩
    setG g2 n (z2Y (getG g2 n))
def z9O(g:Gr)(n:Nat)(p:Pr)(v:Vt):Gr:=
 let m:=getG g n
 let r:=z0T m.D m.A v
 if r.1.2≠0 then setG g n (ziD { m with D:=r.2.1,A:=r.2.2,p:=none,asks:=[] } r.1.2)
 else let p2:=(accP g.q p n v.slot).2
  z1S (z1H (setG g n { m with D:=r.2.1,A:=r.2.2,p:=some p2 }) n ⟨3,0,0,m.b,[v]⟩) n p2 v.slot
def zgK(g:Gr)(n:Nat):Nat→Nat→Gr
 | 0,_=>g
 | k+1,s=>match (getG g n).p with
   | none=>g
   | some p=>let r:=z7S g.q p s []
     zgK (z9O (setG g n { getG g n with p:=some r.2 }) n r.2 r.1.1) n k (s+1)
def z2T(g:Gr)(n:Nat)(p:Pr):Gr:=
 let m:=getG g n
 let next:=max m.frm (topP p+1)
 zgK (setG g n { m with next:=next }) n (next - m.frm) m.frm
def z7Q(g:Gr)(at_:Int):(Bal×Int)×Gr:=
 if z7F g at_≠0 then ((Bal.zero,z7F g at_),g)
 else
  let n:=at_.toNat
  let m:=getG g n
  let b:Bal:=⟨max m.seen m.A.prom.n+1,at_⟩
  let frm:=RM.next m.log
  let r:=z1X m.D m.A b frm
  if r.1.2.2≠0 then ((Bal.zero,r.1.2.2),setG g n (ziD { m with D:=r.2.1,A:=r.2.2 } r.1.2.2))
  else
   let p:=(z2N g.q (newP b frm) at_ r.1.1).2
   let g2:=z1H (setG g n { m with D:=r.2.1,A:=r.2.2,p:=some p,b:=b,frm:=frm,next:=frm,asks:=[] }) n ⟨1,0,0,b,z1U frm⟩
   ((b,0),if z2B g.q p then z2T g2 n p else g2)
def askG(g:Gr)(at_:Int)(a:Ask):(Nat×Int)×Gr:=
 match encK a with
 | none=>((0,2),g)
 | some b=>if z7F g at_≠0 then ((0,z7F g at_),g)
   else
    let n:=at_.toNat
    let m:=getG g n
    match m.p with
    | none=>((0,100),g)
    | some p=>if z2B g.q p=false then ((0,100),g)
      else
       let r:=z7S g.q p m.next b
       let g2:=z9O (setG g n { m with next:=m.next+1,p:=some r.2,asks:=AL.put m.asks m.next b }) n r.2 r.1.1
       if (getG g2 n).up=false then ((0,6),g2)
       else if (getG g2 n).p.isNone then ((0,100),g2)
       else ((m.next,0),g2)
def fetchG(g:Gr)(at_ peer:Int):Int×Gr:=
 if z7F g peer=2 then (2,g)
 else if z7F g at_≠0 then (z7F g at_,g)
 else (0,z3N g ⟨6,at_,peer,Bal.zero,z1U (RM.next (getG g at_.toNat).log)⟩)
def zaA(g:Gr)(m:Ml)(kind:Int)(vs:List Vt):Gr:=z3N g ⟨kind,m.to_,m.frm,m.b,vs⟩
def z6N(g:Gr)(n:Nat)(m:Ml)(vs:List Vt)(b:Bal)(e:Int):Gr:=
 let g:=setG g n (ziD (getG g n) e)
 if e=0 then zaA g m (m.kind+1) vs else if e=90 then zaA g { m with b:=b } 8 [] else g
def z0M(g:Gr)(m:Ml):Gr:=
 let n:=m.to_.toNat
 let x:={ getG g n with seen:=max (getG g n).seen m.b.n }
 let g:=setG g n x
 let v:=m.vs.headD Vt.zero
 if m.kind=1 then
  let r:=z1X x.D x.A m.b v.slot
  z6N (setG g n { x with D:=r.2.1,A:=r.2.2 }) n m r.1.1 r.1.2.1 r.1.2.2
 else if m.kind=2 then match x.p with
  | none=>g
  | some p=>if x.b=m.b∧z2B g.q p=false then
     let p2:=(z2N g.q p m.frm m.vs).2
     let g:=setG g n { x with p:=some p2 }
     if z2B g.q p2 then z2T g n p2 else g
    else g
 else if m.kind=3 then
  let r:=z0T x.D x.A v
  z6N (setG g n { x with D:=r.2.1,A:=r.2.2 }) n m (z1U v.slot) r.1.1 r.1.2
 else if m.kind=4 then match x.p with
  | none=>g
  | some p=>if x.b=m.b then
     let p2:=(accP g.q p m.frm v.slot).2
     z1S (setG g n { x with p:=some p2 }) n p2 v.slot
    else g
 else if m.kind=6 then
  let l:=(z4H x.log v.slot 8).map fun e=>(⟨e.1,Bal.zero,e.2⟩:Vt)
  if l = [] then g else zaA g m 7 l
 else if m.kind=5∨m.kind=7 then setG g n (z2Y { x with log:=m.vs.foldl (fun k v=>(learn k v.slot v.val).2) x.log })
 else g
def z6A(g:Gr)(at_:Int):Bool×Gr:=
 if at_<0 then (false,g) else match g.l[at_.toNat]? with
  | none=>(false,g)
  | some m=>(true,let g:={ g with l:=g.l.eraseIdx at_.toNat };if (getG g m.to_.toNat).up then z0M g m else g)
def dropG(g:Gr)(at_:Int):Bool×Gr:=
 if at_<0∨g.l.length≤at_.toNat then (false,g) else (true,{ g with l:=g.l.eraseIdx at_.toNat })
def twiceG(g:Gr)(at_:Int):Bool×Gr:=
 if at_<0 then (false,g) else match g.l[at_.toNat]? with
  | none=>(false,g)
  | some m=>if 200≤g.l.length then (false,g) else (true,z3N g m)
def crashG(g:Gr)(at_:Int)(keep:List Int):Int×Gr:=
 if at_<0∨g.ms.length≤at_.toNat then (2,g) else (0,setG g at_.toNat (z7P (DM.crash (getG g at_.toNat).D keep)))
def newG(q:Qm)(sectors:Nat):Gr:=⟨q,List.replicate q.nodes.toNat (z7P (DM.new sectors)),[]⟩
def z1V:Nat→Gr→Nat×Gr
 | 0,g=>(0,g)
 | k+1,g=>if (z6A g 0).1 then ((z1V k (z6A g 0).2).1+1,(z1V k (z6A g 0).2).2) else (0,g)
def blocksG(g:Gr)(n:Int):List (Str×Str):=
 if z7F g n≠0 then [] else ((getG g n.toNat).data.map fun p=>(be4 p.1,p.2)).mergeSort fun p q=>decide (p.1≤q.1)
end GR
namespace GR
open Go.Proofs.YtkhddpiopbmhjaaGreat MI SO BM DM WM AC RM
def UniqC(l:List Cl):Prop:=l.Pairwise fun a b=>a.id≠b.id
theorem z8P(c:Cl)(l:List Cl)(x:Nat):z3R (c :: l) x=if c.id=x then some 0 else (z3R l x).map (· + 1):=by
 unfold z3R;rw[List.findIdx?_cons];by_cases h:c.id=x <;> simp[h]
theorem z6C{l:List Cl}{x i:Nat}(h:z3R l x=some i):∃ h:i<l.length,l[i].id=x:=by
 induction l generalizing i with | nil=>{simp[z3R] at h} | cons c l ih=>{rw[z8P] at h;by_cases e:c.id=x;{rw[if_pos e] at h;cases h;exact⟨by simp,e⟩};{rw[if_neg e] at h;obtain⟨j,hj,rfl⟩:=Option.map_eq_some_iff.1 h;obtain⟨h1,h2⟩:=ih hj;exact⟨by simpa using h1,by simpa using h2⟩}}
theorem zjF{l:List Cl}{x:Nat}:z3R l x=none↔∀ c ∈ l,c.id≠x:=by
 unfold z3R;simp
theorem zpL(l:List Cl)(c:Cl)(x:Nat):z3R (l ++ [c]) x=(z3R l x).or (if c.id=x then some l.length else none):=by
 induction l with | nil=>{rw[List.nil_append,z8P];by_cases h:c.id=x <;> simp[h,z3R]} | cons d l ih=>{rw[List.cons_append,z8P,z8P,ih];by_cases h:d.id=x;{rw[if_pos h,if_pos h];rfl};{rw[if_neg h,if_neg h];cases z3R l x with | some i=>{rfl} | none=>{by_cases h2:c.id=x <;> simp[h2]}}}
def posN(l:List Cl):Nat→List (Nat×Nat)
 | 0=>[]
 | k+1=>match l[k]? with
   | some c=>AL.put (posN l k) c.id k
   | none=>posN l k
theorem zjG{l:List Cl}{k:Nat}(h:k<l.length):posN l (k+1)=AL.put (posN l k) l[k].id k:=by
 rw[posN,List.getElem?_eq_getElem h]
theorem zgI{l:List Cl}(hu:UniqC l):∀ k,k<=l.length->∀ x,AL.get (posN l k) x=z3R (l.take k) x
 | 0,_,x=>by simp[posN,AL.get,z3R]
 | k+1,hk,x=>by{have h:k<l.length:=hk;rw[zjG h,List.take_succ_eq_append_getElem h,zpL];by_cases e:x=l[k].id;{subst e;rw[AL.z3G,if_pos rfl,zjF.2 λc hc=>?_];{simp;omega};{obtain⟨j,hj,rfl⟩:=List.getElem_of_mem hc;simp only[List.length_take] at hj;rw[List.getElem_take];exact List.pairwise_iff_getElem.1 hu j k (by omega) h (by omega)}};{rw[AL.z3M _ _ e,if_neg (λy=>e y.symm),zgI hu k (by omega) x];cases z3R (l.take k) x <;> rfl}}
theorem zdO(l:List Cl):∀ k,(posN l k).length<=k
 | 0=>Nat.le_refl _
 | k+1=>by{have ih:=zdO l k;rw[posN];split;{have:=List.length_filter_le (λp=>!decide (p.1=(by assumption:Cl).id)) (posN l k);simp only[AL.put,AL.del,List.length_append,List.length_singleton];omega};{omega}}
theorem UniqC.use{l:List Cl}(h:UniqC l){i:Nat}{c:Cl}(hc:∀ d ∈ l.eraseIdx i,d.id≠c.id):UniqC (useC l i c):=
 List.pairwise_append.2 ⟨h.sublist (List.eraseIdx_sublist l i),List.pairwise_singleton _ _,λa ha b hb=>by{simp only[List.mem_singleton] at hb;subst hb;exact hc a ha}⟩
theorem UniqC.same{l:List Cl}(h:UniqC l){i:Nat}{c:Cl}(hi:i<l.length)(hc:c.id=l[i].id):UniqC (useC l i c):=h.use λd hd=>by
 rw[hc];obtain⟨j,hj,hji,rfl⟩:=List.mem_eraseIdx_iff_getElem.1 hd;rcases Nat.lt_or_gt_of_ne hji with x | x;{exact List.pairwise_iff_getElem.1 h j i hj hi x};{exact λe=>List.pairwise_iff_getElem.1 h i j hi hj x e.symm}
theorem UniqC.new{l:List Cl}(h:UniqC l){c:Cl}(hc:z3R l c.id=none):UniqC (l ++ [c]):=
 List.pairwise_append.2 ⟨h,List.pairwise_singleton _ _,λa ha b hb=>by{simp only[List.mem_singleton] at hb;subst hb;exact zjF.1 hc a ha}⟩
theorem UniqC.begin{l:List Cl}(h:UniqC l)(id num:Nat):UniqC (z2W l id num).2:=by
 unfold z2W;split;{exact h};{split;{rename_i hf;exact h.new hf};{rename_i i hf;obtain⟨hi,e⟩:=z6C hf;rw[List.getElem?_eq_getElem hi];simp only;split;{exact h};{split;{split <;> exact h.same hi rfl};{exact h.same hi e.symm}}}}
theorem UniqC.fin{l:List Cl}(h:UniqC l)(id num:Nat)(rep:List UInt8):UniqC (endC l id num rep).2:=by
 unfold endC;split;{exact h};{split;{exact h};{rename_i i hf;obtain⟨hi,e⟩:=z6C hf;rw[List.getElem?_eq_getElem hi];simp only;split;{exact h};{exact h.same hi e.symm}}}
end GR
section
open Go.RowKit Go.Maps
open MI SO BM DM WM AC GR
abbrev quoC(q:Qm)(sv:Value):Array Value:=#[.int .i64 q.kind,.int .i64 q.nodes,.int .i64 q.one,.int .i64 q.two,sv]
def SitesC(w:World)(q:Qm)(sa:Option Addr)(sn:Nat):Prop:=Cells w sa sn 1 (q.sites.map fun s=>Value.int .i64 s)∧sn=q.sites.length
structure QOk (q:Qm):Prop where
 right:zuK q=0
 lo:1≤q.nodes
 hi:q.nodes≤12
 asks:∀ (w:World) (sa:Option Addr) (sn sc:Nat),SitesC w q sa sn→Calls Tryz.prog 83 #[.agg (quoC q (.slice sa sn sc))] w fun e w'=>e = .returned (.int .i64 0)∧Keep (fun _=>False) w w'
 first:∀ (w:World) (sa:Option Addr) (sn sc:Nat),SitesC w q sa sn→∀ set:Nat,set<4294967296→Calls Tryz.prog 94 #[.agg (quoC q (.slice sa sn sc)),.int .u32 (set:Int)] w fun e w'=>e = .returned (.bool (zcO q set))∧Keep (fun _=>False) w w'
 second:∀ (w:World) (sa:Option Addr) (sn sc:Nat),SitesC w q sa sn→∀ set:Nat,set<4294967296→Calls Tryz.prog 141 #[.agg (quoC q (.slice sa sn sc)),.int .u32 (set:Int)] w fun e w'=>e = .returned (.bool (z9P q set))∧Keep (fun _=>False) w w'
theorem y1I(set:Nat):ones set 3=pop8 (set % 8):=by
 have h:ones set 3=ones (set % 8) 3:=by{unfold ones;congr 1;refine List.filter_congr λi hi=>?_;have hi:i<3:=List.mem_range.1 hi;rw[show (8:Nat)=2 ^ 3 from rfl,Nat.testBit_mod_two_pow];simp[hi]};rw[h];have key:∀ m,m<8->ones m 3=pop8 m:=by{decide};exact key _ (Nat.mod_lt _ (by decide))
theorem and7(set:Nat)(h:set<4294967296):bits .and .u32 (set:Int) 7=((set % 8:Nat):Int):=by
 have e:=u32_and_nat set 7 h (by decide);rw[show (7:Nat)=2 ^ 3 - 1 from rfl,Nat.and_two_pow_sub_one_eq_mod] at e;exact e
theorem zkM(w:World)(sa:Option Addr)(sn sc:Nat):Calls Tryz.prog 83 #[.agg (quoC three (.slice sa sn sc))] w λe w'=>e = .returned (.int .i64 0)/\Keep zF w w':=by
 have hk:=kal w (.cells (quoC three (.slice sa sn sc)) 28);obtain⟨w1,hw1⟩:=zX1 (w.alloc (.cells (quoC three (.slice sa sn sc)) 28));have hb:=heap_alloc_new w (.cells (quoC three (.slice sa sn sc)) 28);rw[<-hw1] at hk hb;obtain⟨p0,p1,p2,p3,p4,pf,pb⟩:=z0I hb;have HK:=hid hk;clear hk hb pb;unfold three at p0 p1 p2 p3 hw1 |-
 go_in
 go_upto_region 1 with fail
 rw[<-hw1];clear hw1;go_wp2_with fail;go_ret;exact⟨rfl,HK.o⟩
theorem y0Y(w:World)(sa:Option Addr)(sn sc:Nat)(set:Nat)(hset:set<4294967296):Calls Tryz.prog 94 #[.agg (quoC three (.slice sa sn sc)),.int .u32 (set:Int)] w λe w'=>e = .returned (.bool (zcO three set))/\Keep zF w w':=by
 have hk:=kal w (.cells (quoC three (.slice sa sn sc)) 28);obtain⟨w1,hw1⟩:=zX1 (w.alloc (.cells (quoC three (.slice sa sn sc)) 28));have hb:=heap_alloc_new w (.cells (quoC three (.slice sa sn sc)) 28);rw[<-hw1] at hk hb;have hq:=zkM w1 sa sn sc;have ha:=and7 set hset;obtain⟨m,hm⟩:=zX1 (set % 8);have hm8:m<8:=by{omega};rw[<-hm] at ha;obtain⟨r,hr⟩:=zX1 (zcO three set);have hr2:r=decide (2<=pop8 m):=by{rw[hr];unfold zcO;rw[if_neg (by decide),if_pos (show three.kind=1 from rfl),show three.nodes.toNat=3 from rfl,y1I,<-hm];exact decide_eq_decide.2 (show (2:Int)<=(pop8 m:Nat)↔_ by omega)};rw[<-hr];have HR:=hid hr2;have HK:=zB2 hk hb hm8;obtain⟨p0,p1,p2,p3,p4,pf,pb⟩:=z0I hb;clear hk hb pb hm hr hr2 hset hm8 pf;unfold three at p0 p1 p2 p3 hw1 hq |-
 go_in
 go_upto_region 1 with fail
 rw[<-hw1];clear hw1;go_wp2_with (at_builtin;refine z0Q ?_;intro q hq);refine hq.mono ?_;rintro e w2 ⟨rfl,hk2⟩;obtain⟨p0,p1,p2,p3,p4,pf,pb⟩:=z0I (hk2.get HK.x2 id);have H2:=hid hk2;unfold three at p0 p1 p2 p3;clear hk2 hq pf pb;go_wp2_with fail;have q2:=λs:Later w2=>s.cell p2;have h8:=λs:Later w2=>zjI s.val m HK.y2
 (refine z0V (by kernel_rfl) (by kernel_rfl) ?_;(repeat (go_big_quiet_step ((go_at_call 124;exact Later.call (h8 _)))));refine wpQuiet_nil ?_;rintro _ ⟨sq,rfl⟩)
 go_wp2_with fail;go_ret;refine⟨?_,(HK.x1.next H2.o zI zI).next sq.keep zI zI⟩;rw[HR.o,<-(show decide ((2:Int)<=((pop8 m:Nat):Int))=decide (2<=pop8 m) from decide_eq_decide.2 (by omega))];rfl
theorem zwK(w:World)(sa:Option Addr)(sn sc:Nat)(set:Nat)(hset:set<4294967296):Calls Tryz.prog 141 #[.agg (quoC three (.slice sa sn sc)),.int .u32 (set:Int)] w λe w'=>e = .returned (.bool (z9P three set))/\Keep zF w w':=by
 have hk:=kal w (.cells (quoC three (.slice sa sn sc)) 28);obtain⟨w1,hw1⟩:=zX1 (w.alloc (.cells (quoC three (.slice sa sn sc)) 28));have hb:=heap_alloc_new w (.cells (quoC three (.slice sa sn sc)) 28);rw[<-hw1] at hk hb;have hq:=zkM w1 sa sn sc;have ha:=and7 set hset;obtain⟨m,hm⟩:=zX1 (set % 8);have hm8:m<8:=by{omega};rw[<-hm] at ha;obtain⟨r,hr⟩:=zX1 (z9P three set);have hr2:r=decide (2<=pop8 m):=by{rw[hr];unfold z9P;rw[if_neg (by decide),if_pos (show three.kind=1 from rfl),show three.nodes.toNat=3 from rfl,y1I,<-hm];exact decide_eq_decide.2 (show (2:Int)<=(pop8 m:Nat)↔_ by omega)};rw[<-hr];have HR:=hid hr2;have HK:=zB2 hk hb hm8;obtain⟨p0,p1,p2,p3,p4,pf,pb⟩:=z0I hb;clear hk hb pb hm hr hr2 hset hm8 pf;unfold three at p0 p1 p2 p3 hw1 hq |-
 go_in
 go_upto_region 1 with fail
 rw[<-hw1];clear hw1;go_wp2_with (at_builtin;refine z0Q ?_;intro q hq);refine hq.mono ?_;rintro e w2 ⟨rfl,hk2⟩;obtain⟨p0,p1,p2,p3,p4,pf,pb⟩:=z0I (hk2.get HK.x2 id);have H2:=hid hk2;unfold three at p0 p1 p2 p3;clear hk2 hq pf pb;go_wp2_with fail;have q3:=λs:Later w2=>s.cell p3;have h8:=λs:Later w2=>zjI s.val m HK.y2
 (refine z0V (by kernel_rfl) (by kernel_rfl) ?_;(repeat (go_big_quiet_step ((go_at_call 124;exact Later.call (h8 _)))));refine wpQuiet_nil ?_;rintro _ ⟨sq,rfl⟩)
 go_wp2_with fail;go_ret;refine⟨?_,(HK.x1.next H2.o zI zI).next sq.keep zI zI⟩;rw[HR.o,<-(show decide ((2:Int)<=((pop8 m:Nat):Int))=decide (2<=pop8 m) from decide_eq_decide.2 (by omega))];rfl
theorem z8O:QOk three:=⟨rfl,by decide,by decide,λw sa sn sc _=>zkM w sa sn sc,λw sa sn sc _ set h=>y0Y w sa sn sc set h,λw sa sn sc _ set h=>zwK w sa sn sc set h⟩
end
section
open Go.RowKit
abbrev Th:={ T:Thing // Lives T }
def Star:List Th→Thing
 | []=>fun w F=>∀ k,F k→k<w.heap.size
 | T :: l=>fun w F=>∃ X Y,T.1 w X∧Star l w Y∧(∀ i,X i→¬ Y i)∧F=fun k=>X k∨Y k
theorem Star.lives:∀ (l:List Th),Lives (Star l)
 | []=>⟨λh hk _ k x=>Nat.lt_of_lt_of_le (h k x) hk.size,λh=>h⟩
 | T :: l=>
   ⟨λ⟨X,Y,x,y,d,e⟩ hk hn=>⟨X,Y,T.2.keep x hk (λi z=>hn i (by rw[e];exact .inl z)),(Star.lives l).keep y hk (λi z=>hn i (by rw[e];exact .inr z)),d,e⟩,λ⟨X,Y,x,y,_,e⟩ i z=>by rw[e] at z;exact z.elim (T.2.lt x i) ((Star.lives l).lt y i)⟩
theorem Star.opn{w:World}:∀ {l:List Th} (n:Nat) {T:Th} {F:Nat->Prop},Star l w F->l[n]?=some T->∃ X,T.1 w X/\(∀ i,X i->F i)/\(∀ j U,j≠n->l[j]?=some U->∃ Z,U.1 w Z/\(∀ i,Z i->F i)/\∀ i,X i->¬ Z i)/\
  ∀ w' (T':Th),Turns T'.1 X w w'->Turns (Star (l.set n T')) F w w'
 | [],n,_,_,_,hn=>by simp at hn
 | U :: l,0,_,_,⟨X,Y,x,y,d,e⟩,hn=>by{simp only[List.getElem?_cons_zero,Option.some.injEq] at hn;subst hn e;refine⟨X,x,λ_ z=>.inl z,λj V hj hV=>?_,λw' T' ⟨X',p,q,r⟩=>?_⟩;{obtain⟨k,rfl⟩:∃ k,j=k+1:=⟨j - 1,by omega⟩;obtain⟨Z,z,hz,-⟩:=Star.opn k y (by simpa using hV);exact⟨Z,z,λi u=>.inr (hz i u),λi u v=>d i u (hz i v)⟩};{refine⟨λk=>X' k∨Y k,⟨X',Y,p,(Star.lives l).keep y q (λi u v=>d i v u),λi u v=>?_,rfl⟩,q.mono λ_ _ u=>.inl u,λi u=>u.elim (λu=>(r i u).imp .inl id) λu=>.inl (.inr u)⟩;rcases r i u with z | z;{exact d i z v};{have:=(Star.lives l).lt y i v;omega}}}
 | U :: l,n+1,_,_,⟨X,Y,x,y,d,e⟩,hn=>by
   subst e;obtain⟨Z,z,hz,ho,t⟩:=Star.opn n y (by simpa using hn);refine⟨Z,z,λi u=>.inr (hz i u),λj V hj hV=>?_,λw' T' ht=>?_⟩
   ·match j with
    | 0=>
      simp only[List.getElem?_cons_zero,Option.some.injEq] at hV;subst hV;exact⟨X,x,λ_ u=>.inl u,λi u v=>d i v (hz i u)⟩
    | j+1=>
      obtain⟨Q,a,b,c⟩:=ho j V (by omega) (by simpa using hV);exact⟨Q,a,λi u=>.inr (b i u),c⟩
   {obtain⟨Y',p,q,r⟩:=t w' T' ht;refine⟨λk=>X k∨Y' k,⟨X,Y',U.2.keep x q (λi u v=>d i u v),p,λi u v=>?_,rfl⟩,q.mono λ_ _ u=>.inr u,λi u=>u.elim (λu=>.inl (.inl u)) λu=>(r i u).imp .inr id⟩;rcases r i v with z | z;{exact d i u z};{have:=U.2.lt x i u;omega}}
section
variable {T U:Th} {l:List Th} {w0 w w':World} {F F0 G X:Nat→Prop}
theorem Turns.still{T:Thing}(LT:Lives T)(h:Turns T F0 w0 w)(hk:Keep zF w w'):Turns T F0 w0 w':=h.trans λ_ a=>Turns.later LT a hk
def z4W(p:Nat)(cs:Array Value)(t:TypeId):Th:=⟨BoxA p cs t,BoxA.lives _ _ _⟩
theorem Turns.put{p i:Nat}{cs:Array Value}{t:TypeId}(h:BoxA p cs t w X)(v:Value):Turns (z4W p (cs.setIfInBounds i v) t).1 X w (w.setCell ⟨p,i,none⟩ v):=by
 have hk:Keep (λk=>k=p) w (w.setCell ⟨p,i,none⟩ v):=kst;exact⟨X,⟨heap_setCell_same w p i _ _ _ h.1,h.2.1,λk x=>Nat.lt_of_lt_of_le (h.2.2 k x) hk.size⟩,hk.mono λk _ e=>by subst e;exact h.2.1,λ_ x=>.inl x⟩
end
end
section
open Go.RowKit Go.Maps
structure Rk (α:Type) where
 ty:TypeId
 size:Nat
 val:α→Value→List Value
 byt:α→List UInt8
 fit:∀ a u,(val a u).length=size
section
variable {α:Type} {K:Rk α} {w w' wr:World} {F F' G:Nat→Prop} {v v' u:Value} {xs:List α} {us:List Value} {x:α}
def rcsV(K:Rk α)(xs:List α)(us:List Value):List Value:=(xs.zip us).flatMap fun p=>K.val p.1 p.2
theorem z4N{xs ys:List α}{us vs:List Value}(h:us.length=xs.length):rcsV K (xs ++ ys) (us ++ vs)=rcsV K xs us ++ rcsV K ys vs:=by
 unfold rcsV;rw[List.zip_append h.symm,List.flatMap_append]
theorem z4L:∀ {xs:List α} {us:List Value},us.length=xs.length->(rcsV K xs us).length=xs.length * K.size
 | [],_,_=>by simp[rcsV]
 | x :: xs,[],h=>by simp at h
 | x :: xs,u :: us,h=>by{have e:rcsV K (x :: xs) (u :: us)=K.val x u ++ rcsV K xs us:=rfl;rw[e,List.length_append,z4L (by simpa using h),K.fit,List.length_cons,Nat.add_mul,Nat.one_mul,Nat.add_comm]}
theorem zcJ{xs:List α}{us:List Value}(h:us.length=xs.length)(i:Nat)(hi:i<xs.length)(j:Nat)(hj:j<K.size):(rcsV K xs us)[i * K.size+j]?=(K.val xs[i] (us.getD i undef))[j]?:=by
 have e1:xs=xs.take i ++ (xs[i] :: xs.drop (i+1)):=by{simp};have e2:us=us.take i ++ (us.getD i undef :: us.drop (i+1)):=by{have:us.getD i undef=us[i]'(by omega):=by{simp[List.getD_eq_getElem?_getD,List.getElem?_eq_getElem (show i<us.length by omega)]};rw[this];simp};have hl:(us.take i).length=(xs.take i).length:=by{simp[h]};have e3:rcsV K xs us=rcsV K (xs.take i) (us.take i) ++ (K.val xs[i] (us.getD i undef) ++ rcsV K (xs.drop (i+1)) (us.drop (i+1))):=by{(conv=>lhs;rw[e1,e2]);rw[z4N hl];rfl};have h4:(rcsV K (xs.take i) (us.take i)).length=i * K.size:=by{rw[z4L hl];simp;rw[Nat.min_eq_left (by omega)]};rw[e3,List.getElem?_append_right (by omega),h4,Nat.add_sub_cancel_left,List.getElem?_append_left (by rw[K.fit];exact hj)]
structure Rcs (K:Rk α) (w:World) (F:Nat→Prop) (v:Value) (xs:List α) (us:List Value):Prop where
 row:Row w K.ty K.size v xs.length (rcsV K xs us)
 len:us.length=xs.length
 own:∀ k,v.ownBlock=some k→F k
 each:∀ j (hj:j<xs.length),Row w 5 1 (us.getD j undef) (K.byt xs[j]).length (z0B (K.byt xs[j]))∧∀ k,(us.getD j undef).ownBlock=some k→F k∧v.ownBlock≠some k
theorem Rcs.keep(h:Rcs K w F v xs us)(hk:Keep G w w')(hG:∀ k,F k->¬ G k):Rcs K w' F v xs us:=
 ⟨h.row.keep hk λk e=>hG k (h.own k e),h.len,h.own,λj hj=>let ⟨h2,h3⟩:=h.each j hj;⟨h2.keep hk λk e=>hG k (h3 k e).1,h3⟩⟩
theorem Rcs.nil(K:Rk α)(w:World)(F:Nat->Prop):Rcs K w F (.slice none 0 0) [] []:=
 ⟨Row.nil _ _ _,rfl,λk e=>by simp[Value.ownBlock] at e,λj hj=>by simp at hj⟩
theorem Rcs.push(h:Rcs K wr F v xs us)(hu:Row wr 5 1 u (K.byt x).length (z0B (K.byt x)))(hou:∀ k,u.ownBlock=some k->F' k/\v.ownBlock≠some k)(hr:Row w' K.ty K.size v' (xs.length+1) (rcsV K xs us ++ K.val x u))(hk:Keep (λk=>v.ownBlock=some k) wr w')(hF:∀ k,F k->F' k)(hv:∀ k,v'.ownBlock=some k->F' k/\(v.ownBlock=some k∨wr.heap.size<=k)):Rcs K w' F' v' (xs ++ [x]) (us ++ [u]):=by
 have nov:∀ (y:Value) (n:Nat) (l:List Value),Row wr 5 1 y n l->∀ k,y.ownBlock=some k->v.ownBlock≠some k->v'.ownBlock≠some k:=by{intro y n l hy k e hne e';rcases (hv k e').2 with z | z;{exact hne z};{have:=hy.lt e;omega}};refine⟨by rw[z4N h.len,show rcsV K [x] [u]=K.val x u from List.append_nil _];simpa using hr,by simp[h.len],λk e=>(hv k e).1,λj hj=>?_⟩;by_cases hjl:j<xs.length;{obtain⟨h2,h3⟩:=h.each j hjl;have e:(us ++ [u]).getD j undef=us.getD j undef:=by{simp only[List.getD_eq_getElem?_getD];rw[List.getElem?_append_left (by rw[h.len];exact hjl)]};rw[List.getElem_append_left hjl,e];exact⟨h2.keep hk λk e=>(h3 k e).2,λk e=>⟨hF k (h3 k e).1,nov _ _ _ h2 k e (h3 k e).2⟩⟩};{obtain rfl:j=xs.length:=by{simp at hj;omega};have e:(us ++ [u]).getD xs.length undef=u:=by{simp only[List.getD_eq_getElem?_getD];rw[List.getElem?_append_right (by rw[h.len];exact Nat.le_refl _),h.len];simp};rw[List.getElem_append_right (Nat.le_refl _),e];simp only[Nat.sub_self,List.getElem_cons_zero];exact⟨hu.keep hk λk e=>(hou k e).2,λk e=>⟨(hou k e).1,nov u _ _ hu k e (hou k e).2⟩⟩}
theorem Rcs.get{ao:Option Addr}{n c:Nat}(h:Rcs K w F (.slice ao n c) xs us)(hs:0<K.size)(i:Nat)(hi:i<xs.length):∃ g ua uc,ao=some ⟨g,0,none⟩/\us.getD i undef = .slice ua (K.byt xs[i]).length uc/\(∀ j z,(K.val xs[i] (.slice ua (K.byt xs[i]).length uc))[j]?=some z->w.cell? ⟨g,i * K.size+j,none⟩=some z)/\Row w 5 1 (.slice ua (K.byt xs[i]).length uc) (K.byt xs[i]).length (z0B (K.byt xs[i])):=by
 obtain⟨h2,-⟩:=h.each i hi;obtain⟨ua,uc,e,-⟩:=h2.form;have hl:∀ j,j<K.size->∃ z,(K.val xs[i] (us.getD i undef))[j]?=some z:=λj hj=>⟨_,List.getElem?_eq_getElem (by rw[K.fit];exact hj)⟩;obtain⟨z0,hz0⟩:=hl 0 hs;obtain⟨g,cap,hv,-⟩:=h.row.getCell (show (rcsV K xs us)[i * K.size+0]?=some z0 by rw[zcJ h.len i hi 0 hs];exact hz0);cases hv;refine⟨g,ua,uc,rfl,e,λj z hz=>?_,by rw[<-e];exact h2⟩;have hj:j<K.size:=by{have:=(List.getElem?_eq_some_iff.1 hz).1;rw[K.fit] at this;exact this};obtain⟨g',cap',hv',hc⟩:=h.row.getCell (show (rcsV K xs us)[i * K.size+j]?=some z by rw[zcJ h.len i hi j hj,e];exact hz);cases hv';exact hc
def zrS(K:Rk α)(v:Value)(xs:List α):Th:=⟨fun w F=>(∃ us,Rcs K w F v xs us)∧∀ k,F k→k<w.heap.size,
 ⟨fun ⟨⟨us,h⟩,h2⟩ hk hn=>⟨⟨us,h.keep hk hn⟩,fun k x=>Nat.lt_of_lt_of_le (h2 k x) hk.size⟩,fun h=>h.2⟩⟩
end
def Reads(P:World→Prop)(w:World)(Z:Nat→Prop):Prop:=(∀ i,Z i→i<w.heap.size)∧∀ w' G,Keep G w w'→(∀ i,Z i→¬ G i)→P w'
theorem Reads.now{P:World->Prop}{w:World}{Z:Nat->Prop}(h:Reads P w Z):P w:=h.2 w zF (Keep.refl _ _) zI
def y1Y(P:World→Prop):Th:=⟨Reads P,⟨fun h hk hn=>⟨fun i z=>Nat.lt_of_lt_of_le (h.1 i z) hk.size,fun w' _G hG hz=>h.2 w' _ (hk.trans hG) fun i z x=>x.elim (hn i z) (hz i z)⟩,fun h=>h.1⟩⟩
end
end Go.Proofs.YtkhddpiopbmhjaaGreat
