/- Texts AcdL, AccW, AcdM in one. Conditions: as each law names them. -/
import Derived.Deep.CutBlock
import Derived.Deep.DeepCutAuto
import Derived.Test.YtkjofdocgaiedaaGreatQbe
import Derived.Test.YtkjofdocgaiedaaGreatQbf
import Derived.Test.YtkjofdocgaiedaaGreatQbg
set_option maxRecDepth 20000
set_option maxHeartbeats 8000000
namespace Go.Proofs.YtkjofdocgaiedaaGreat
section
open Go.RowKit Go.Maps MI SO BM DM WM AC
theorem RStoTo.turnsR {b d:Nat} {F1 F2:Nat->Prop} {w w':World} {D:Dk} {S:St} (h:RStoTo b d F1 F2 w D S w'):Turns (RStoT b d D S) (λk=>F1 k∨F2 k) w w':=by
 obtain⟨F',Fd',h1,h2,h3,h4⟩:=h;exact⟨λk=>F' k∨Fd' k,⟨F',Fd',h1,rfl⟩,h2,λk x=>x.elim (λy=>(h3 k y).imp .inl id) (λy=>(h4 k y).imp .inr id)⟩
theorem RAcT.turn {a sb d:Nat} {D':Dk} {S':St} {X Y F:Nat->Prop} {w w':World} (hb:BoxA a #[.pointer (some ⟨sb,0,none⟩)] 138 w X) (hd:∀ i,X i->¬ Y i) (hF:F=λk=>X k∨Y k)
  (ht:Turns (RStoT sb d D' S') Y w w'):Turns (RAcT a d D' S') F w w':=by
 obtain⟨Y',h1,hk,hn⟩:=ht;refine⟨λk=>X k∨Y' k,⟨sb,X,Y',(BoxA.lives _ _ _).keep hb hk hd,h1,λi x y=>?_,rfl⟩,hk.mono (λi _ x=>by rw[hF];exact .inr x),λi x=>?_⟩;{rcases hn i y with z | z;{exact hd i x z};{have:=(BoxA.lives _ _ _).lt hb i x;omega}};{rw[hF];rcases x with x | x;{exact .inl (.inl x)};{exact(hn i x).imp .inr id}}
theorem zhZ (w:World) (a d:Nat) (D:Dk) (S:St) (F:Nat->Prop) (H:RAcT a d D S w F)
  (ao:Option Addr) (n c:Nat) (l:List Ch) (hL:Chs w (.slice ao n c) l) (hn:n=l.length) (hap:0<n->∀ x,ao=some x->¬ F x.block) (hm:S.dead=false->S.ps.length<=900000) (hfew:D.waits.length<=490000) :
  Calls Tryz.prog 74 #[.pointer (some ⟨a,0,none⟩),.slice ao n c] w λe w'=>e = .returned (.int .i64 (doA D S l).1)/\Turns (RAcT a d (doA D S l).2.1 (doA D S l).2.2) F w w':=by
 obtain⟨E,hE⟩:=zX1 (doA D S l);rw[<-hE];have HE:=hid hE;clear hE;obtain⟨sb,X,Y,hbox,⟨F1,F2,hsa,hY⟩,hd,hF⟩:=H;have hdo:=zoN w sb d F1 F2 D S hsa ao n c l hL hn (λhp x hx=>⟨λy=>hap hp x hx (by rw[hF,hY];exact .inr (.inl y)),λy=>hap hp x hx (by rw[hF,hY];exact .inr (.inr y))⟩) hm (by omega);have hof:D.safe.length<=2048:=by{obtain⟨_,_,_,h⟩:=hsa;exact h.log.diskOk.few};(have hwt:=z9R hof S l;obtain⟨R,hR⟩:=zX1 (doS D S l);have hE:=HE.out;have hEr:E=if R.1=0 then syS R.2.1 R.2.2 else R:=by rw[hE,hR];rfl);rw[<-hR] at hdo hwt;obtain⟨k0,-,-⟩:=z6F hbox.1;have HQ:=hid (zA1 hbox (zA1 hd (zA1 hF (zA1 hY (zA1 hEr hwt)))));clear hbox hd hF hY hEr hwt hof hR hE hap hL hm hsa HE hn;go_enter Tryz.func74,Tryz.ntmps74;go_wp2_with fail;refine hdo.mono ?_;rintro e w2 ⟨rfl,ht⟩;obtain⟨hbox,hd,hF,hY,hEr,hwt⟩:=HQ.out;have htt:=ht.turnsR;rw[<-hY] at htt;have T2:=RAcT.turn hbox hd hF htt;clear htt ht hdo hbox hd hY k0;by_cases h0:R.1=0;{have q1:(R.1 == 0)=true:=by{simpa using h0};have q2:decide (R.1=0)=true:=decide_eq_true h0;rw[if_pos h0] at hEr;obtain⟨F3,⟨sb3,X3,Y3,hbox3,⟨G1,G2,hsa3,hY3⟩,hd3,hF3⟩,T2b,T2c⟩:=T2;have hsy:=zpD w2 sb3 d G1 G2 R.2.1 R.2.2 hsa3 (by omega);rw[<-hEr] at hsy;obtain⟨k0,-,-⟩:=z6F hbox3.1;have H3:=hid (zA1 hbox3 (zA1 hd3 (zA1 hF3 (zA1 hY3 (zA1 T2b T2c)))));have HR0:=hid h0;clear hbox3 hd3 hF3 hY3 T2b T2c hsa3 h0 hEr hwt hF;go_wp2_with fail;refine hsy.mono ?_;rintro e w4 ⟨rfl,ht4⟩;obtain⟨hbox3,hd3,hF3,hY3,T2b,T2c⟩:=H3.out;have htt:=ht4.turnsR;rw[<-hY3] at htt;have T4:=hid (show Turns (RAcT a d E.2.1 E.2.2) F w w4 from by{obtain⟨F5,h5,k5,n5⟩:=RAcT.turn hbox3 hd3 hF3 htt;have s2:=T2b.size;exact⟨F5,h5,T2b.next k5 zI (λi hi x=>(T2c i x).elim id λy=>by omega),λi x=>(n5 i x).elim (T2c i) λy=>.inr (by omega)⟩});clear htt hbox3 hd3 hF3 hY3 T2b T2c ht4 hsy;go_wp2_with fail;go_ret;exact⟨rfl,T4.out⟩};{have q1:(R.1 == 0)=false:=by{simpa using h0};have q2:decide (R.1=0)=false:=decide_eq_false h0;rw[if_neg h0] at hEr;have T4:=hid (zA1 T2 hEr);clear T2 hEr hwt hF h0;go_wp2_with fail;go_ret;obtain⟨T2,hEr⟩:=T4.out;rw[hEr];exact⟨rfl,T2⟩}
def PrepPost (a d:Nat) (F:Nat→Prop) (w:World) (R:(List Vt×Bal×Int)×Dk×Ac) (e:Ending) (w':World):Prop:=
 ∃ v us Fv F',e = .returned (.tuple #[v,balV R.1.2.1,.int .i64 R.1.2.2])∧AcT a d R.2.1 R.2.2 w' F'∧Keep F w w'∧(∀ i,F' i→F i∨w.heap.size≤i)∧Votes w' Fv v R.1.1 us∧(∀ k,Fv k→w.heap.size≤k∧¬ F' k)∧Apart us
theorem Turns.shut {T:Thing} {w w9 w10:World} {F F9:Nat->Prop} {g B:Nat} (LT:Lives T) (hT:T w9 F9) (hk:Keep F w w9) (hF:∀ i,F i->i<w.heap.size) (h9:∀ i,F9 i->F i∨B<=i) (hgB:g<B) (hg:w.heap.size<=g) (hkz:Keep (λk=>k=g) w9 w10) :
  T w10 F9/\Keep F w w10/\∀ i,F9 i->F i∨w.heap.size<=i:=
 ⟨LT.keep hT hkz λi x e=>by{have e':i=g:=e;rcases h9 i x with y | y;{have:=hF i y;omega};{omega}},hk.next hkz zI (λk hk x=>by omega),λi x=>(h9 i x).imp id λy=>by omega⟩
theorem Turns.shut0 {T:Thing} {w w9 w10:World} {F:Nat->Prop} {g:Nat} (LT:Lives T) (hT:T w F) (hk:Keep zF w w9) (hg:w.heap.size<=g) (hkz:Keep (λk=>k=g) w9 w10) :
  T w10 F/\Keep F w w10/\∀ i,F i->F i∨w.heap.size<=i:=
 ⟨LT.keep hT (hk.next hkz (H:=λ_=>False) zI (λk hk x=>by omega)) zI,(hk.next hkz (H:=λ_=>False) zI (λk hk x=>by omega)).mono zE,λi x=>.inl x⟩
theorem AC.AOk.lens {A:Ac} (h:AOk A) (hd:A.s.dead=false) (hm:A.s.ps.length<=900000):Rise A.vs/\(∀ v ∈ A.vs,v.val.length<=1000)/\A.vs.length<=1000000:=by
 have hok:=h.ok hd;refine⟨hok.rise,λv hv=>by have:=(hok.each v hv).val;omega,?_⟩;have h2:=h.ps hd;rw[h2] at hm;unfold AC.encP at hm;rw[List.length_append,List.length_map] at hm;omega
theorem zcL {a d:Nat} {D:Dk} {A:Ac} {F:Nat->Prop} {w w2:World} {g:Nat} {x0 x1:Value} (hT:AcT a d D A w F) (hk:Keep zF w w2) (hg:w.heap.size<=g) (h:w2.heap[g]?=some (.cells #[x0,x1] 28 (0,0))) (B:Bal) (c:Int) :
  (∀ j u,[Value.int .u64 (B.n:Int),.int .i64 B.node][j]?=some u->((w2.setCell ⟨g,0,none⟩ (.int .u64 (B.n:Int))).setCell ⟨g,1,none⟩ (.int .i64 B.node)).cell? ⟨g,j,none⟩=some u)/\
  PrepPost a d F w (([],B,c),D,A) (.returned (.tuple #[.slice none 0 0,balV B,.int .i64 c])) ((w2.setCell ⟨g,0,none⟩ (.int .u64 (B.n:Int))).setCell ⟨g,1,none⟩ (.int .i64 B.node)):=by
 obtain⟨g1,g2,-⟩:=z2M w2 g _ _ h (.int .u64 (B.n:Int)) (.int .i64 B.node);obtain⟨h1,h2,h3⟩:=Turns.shut0 (AcT.lives a d D A) hT hk hg g2;exact⟨g1,.slice none 0 0,[],λ_=>False,F,rfl,h1,h2,h3,Votes.nil _ _,λ_ x=>x.elim,Apart.nil⟩
theorem zgU {a d:Nat} {D:Dk} {A:Ac} {F F9:Nat->Prop} {w w9:World} {g B:Nat} {x0 x1:Value} (hT:AcT a d D A w9 F9) (hk:Keep F w w9) (hF:∀ i,F i->i<w.heap.size) (h9:∀ i,F9 i->F i∨B<=i) (hgB:g<B) (hg:w.heap.size<=g)
  (h:w9.heap[g]?=some (.cells #[x0,x1] 28 (0,0))) (v:Value) (vs:List Vt) (us:List Value) (Fv:Nat->Prop) (hv:Votes w9 Fv v vs us) (hFv:∀ k,Fv k->g<k/\¬ F9 k) (hap:Apart us) (b:Bal) (c:Int) :
  (∀ j u,[Value.int .u64 (b.n:Int),.int .i64 b.node][j]?=some u->((w9.setCell ⟨g,0,none⟩ (.int .u64 (b.n:Int))).setCell ⟨g,1,none⟩ (.int .i64 b.node)).cell? ⟨g,j,none⟩=some u)/\
  PrepPost a d F w ((vs,b,c),D,A) (.returned (.tuple #[v,balV b,.int .i64 c])) ((w9.setCell ⟨g,0,none⟩ (.int .u64 (b.n:Int))).setCell ⟨g,1,none⟩ (.int .i64 b.node)):=by
 obtain⟨g1,g2,-⟩:=z2M w9 g _ _ h (.int .u64 (b.n:Int)) (.int .i64 b.node);obtain⟨h1,h2,h3⟩:=Turns.shut (AcT.lives a d D A) hT hk hF h9 hgB hg g2;exact⟨g1,v,us,Fv,F9,rfl,h1,h2,h3,hv.keep g2 (λk x e=>by have:=(hFv k x).1;have e':k=g:=e;omega),λk x=>⟨by have:=(hFv k x).1;omega,(hFv k x).2⟩,hap⟩
structure PrepIn (w:World) (a d:Nat) (D:Dk) (A:Ac) (F:Nat→Prop) (b:Bal) (k:Nat) (g:Nat) (wx:World):Prop where
 ex:∃ D' A' F',z1R D A b k=((z5I A'.vs k,b,0),D',A')∧A'.b=b∧A'.s.dead=false∧A'.vs=A.vs∧AcT a d D' A' wx F'∧∀ i,F' i→F i∨g<i
 keep:Keep F w wx
 box:wx.heap[w.heap.size]?=some (.cells (balC b) 28 (0,0))
 res:wx.heap[g]?=some (.cells #[.int .u64 0,.int .i64 0] 28 (0,0))
theorem zlI (w:World) (b:Bal) (hb:(AC.putB b).length<=maxLen):Chs (w.alloc (.cells #[.string (str pK),.string (str (AC.putB b)),.bool false] 63)) (.slice (some ⟨w.heap.size,0,none⟩) 1 1) (z4Q b):=
 Chs.of_row ⟨rfl,.inr ⟨_,1,_,(0,0),rfl,heap_alloc_new w _,Free.zero _,Nat.le_refl _,by decide,rfl,rfl⟩⟩ (λc hc=>by{unfold z4Q at hc;simp at hc;subst hc;exact⟨show pK.length<=maxLen by decide,hb⟩})
theorem AC.putB_len (b:Bal):(AC.putB b).length<=20:=by
 have h1:=zcR b.n;have h2:=zcR b.node.toNat;unfold AC.putB;rw[List.length_append];omega
theorem z7S (w:World) (a d:Nat) (D:Dk) (A:Ac) (F:Nat->Prop) (H:AcT a d D A w F) (hO:AOk A) (hm:A.s.dead=false->A.s.ps.length<=900000) (hfew:D.waits.length<=490000) (b:Bal) (hb:b.n<18446744073709551616) (k:Nat) :
  Calls Tryz.prog 11 #[.pointer (some ⟨a,0,none⟩),balV b,.int .u64 (k:Int)] w (PrepPost a d F w (z1R D A b k)):=by
 obtain⟨Post,hPost⟩:=zX1 (PrepPost a d F w (z1R D A b k));rw[<-hPost];have hn1:=heap_alloc_new w (.cells (balC b) 28);have hk1:=kal w (.cells (balC b) 28);have hz1:(w.alloc (.cells (balC b) 28)).heap.size=w.heap.size+1:=by{simp};have hn:=heap_alloc_new (w.alloc (.cells (balC b) 28)) (.cells #[.int .u64 0,.int .i64 0] 28);have hk2:Keep zF (w.alloc (.cells (balC b) 28)) ((w.alloc (.cells (balC b) 28)).alloc (.cells #[.int .u64 0,.int .i64 0] 28)):=(Keep.refl _ _).alloc _;have hz2:((w.alloc (.cells (balC b) 28)).alloc (.cells #[.int .u64 0,.int .i64 0] 28)).heap.size=w.heap.size+2:=by{simp};rw[hz1] at hn;have hn1b:=hk2.get hn1 id;have hk:=hk1.nx hk2;clear hk1 hk2 hn1 hz1;have HP:=hid hPost;have H0:=hid (zA1 H (zA1 hO (zA1 hm (zA1 hfew hb))));clear hPost H hO hm hfew hb;go_enter Tryz.func11,Tryz.ntmps11
 go_upto_region 1 with fail
 obtain⟨w1,hw1⟩:=zX1 ((w.alloc (.cells (balC b) 28)).alloc (.cells #[.int .u64 0,.int .i64 0] 28));rw[<-hw1] at hn hn1b hk hz2 |-;clear hw1;obtain⟨g,hg⟩:=zX1 (w.heap.size+1);rw[<-hg] at hn |-;have LA:=AcT.lives a d D A;have HA1:=LA.keep H0.out.1 hk zI;obtain⟨sb,nv,X,Y,Z,hbox,hst,hvt,d1,d2,d3,hF⟩:=HA1;obtain⟨p0,p1,p2,p3,p4,pf,pb⟩:=z1W hbox.1;have b0:w1.cell? ⟨w.heap.size,0,none⟩=some (.int .u64 (b.n:Int)):=by{simp[World.cell?,hn1b]};have b1:w1.cell? ⟨w.heap.size,1,none⟩=some (.int .i64 b.node):=by{simp[World.cell?,hn1b]};have hrt:=zaH w1 b;have H1:=hid (zA1 hn (zA1 hk (zA1 hg (zA1 hz2 (zA1 hn1b (zA1 hbox (zA1 hst (zA1 hvt (zA1 d1 (zA1 d2 (zA1 d3 hF)))))))))));clear hn hk hg hz2 hn1b hbox hst hvt d1 d2 d3 hF p0 p3 pf LA;obtain⟨rb,hrb⟩:=zX1 (z2P b);rw[<-hrb] at hrt;have HR:=hid hrb;clear hrb;go_wp2_with fail;refine hrt.mono ?_;rintro e w2 ⟨rfl,hk2⟩;clear hrt;have b0:=z0D hk2 _ _ b0;have b1:=z0D hk2 _ _ b1;have p1:=z0D hk2 _ _ p1;have p2:=z0D hk2 _ _ p2;have p4:=z0D hk2 _ _ p4;have r0:=hk2.get H1.out.1 id;cases rb with
 | false=>
   have d0:w2.cell? ⟨g,0,none⟩=some (.int .u64 0):=by{simp[World.cell?,r0]};have d1:w2.cell? ⟨g,1,none⟩=some (.int .i64 0):=by{simp[World.cell?,r0]};have f0:∀ o,w2.frozen? ⟨g,o,none⟩=false:=λo=>by{simp[World.frozen?,r0]};have HK:=hid hk2;have R0:=hid r0;clear hk2 r0;go_wp2_with fail;obtain⟨q1,q2⟩:=zcL H0.out.1 (H1.out.2.1.nx HK.out) (by have:=H1.out.2.2.1;omega) R0.out Bal.zero 2;refine bodyPost_ret (z2I rfl _ _ g rfl _ q1 _ Tryz.underlying28 rfl (by kernel_rfl)) rfl ?_;have hE:z1R D A b k=(([],Bal.zero,2),D,A):=by{unfold z1R;rw[if_pos HR.out.symm]};rw[HP.out,hE];exact q2
 | true=>
   have hR2:=HR.out;obtain⟨dd,hdd⟩:=zX1 (A.s.dead);rw[<-hdd] at p4;have HD:=hid hdd;clear hdd hR2;cases dd with
   | true=>
     have d0:w2.cell? ⟨g,0,none⟩=some (.int .u64 0):=by{simp[World.cell?,r0]};have d1:w2.cell? ⟨g,1,none⟩=some (.int .i64 0):=by{simp[World.cell?,r0]};have f0:∀ o,w2.frozen? ⟨g,o,none⟩=false:=λo=>by{simp[World.frozen?,r0]};have HK:=hid hk2;have R0:=hid r0;clear hk2 r0;go_wp2_with fail;obtain⟨q1,q2⟩:=zcL H0.out.1 (H1.out.2.1.nx HK.out) (by have:=H1.out.2.2.1;omega) R0.out Bal.zero 6;refine bodyPost_ret (z2I rfl _ _ g rfl _ q1 _ Tryz.underlying28 rfl (by kernel_rfl)) rfl ?_;have hE:z1R D A b k=(([],Bal.zero,6),D,A):=by{unfold z1R;rw[if_neg (by rw[<-HR.out];decide),if_pos HD.out.symm]};rw[HP.out,hE];exact q2
   | false=>
     obtain⟨lb,hlb⟩:=zX1 (less b A.b);have HL1:=hid (λs:Later w2=>show Calls Tryz.prog 36 #[balV b,balV A.b] s.val λe w'=>e = .returned (.bool lb)/\Keep zF s.val w' from by rw[hlb];exact z9G s.val b A.b);have HLB:=hid hlb;have HK:=hid hk2;clear hlb hk2 r0
     go_upto_region 7 with fail
     have j0:=λs:Later w2=>s.cell b0;have j1:=λs:Later w2=>s.cell b1;have j2:=λs:Later w2=>s.cell p1;have j3:=λs:Later w2=>s.cell p2
     (refine z0W (by kernel_rfl) (by kernel_rfl) ?_;(repeat (go_big_quiet_step ((go_at_call 36;exact Later.call (HL1.out _)))));refine wpQuiet_nil ?_;rintro _ ⟨sq,rfl⟩)
     have hk3:=sq.keep;obtain⟨w3,hw3⟩:=zX1 (sq.val);rw[<-hw3] at hk3 |-;clear hw3 sq j0 j1 j2 j3 HL1;have b0:=z0D hk3 _ _ b0;have b1:=z0D hk3 _ _ b1;have p1:=z0D hk3 _ _ p1;have p2:=z0D hk3 _ _ p2;have hk13:=HK.out.nx hk3;have r0:=hk13.get H1.out.1 id;have HK:=hid hk13;clear hk3 hk13 p4;cases lb with
     | true=>
       have d0:w3.cell? ⟨g,0,none⟩=some (.int .u64 0):=by{simp[World.cell?,r0]};have d1:w3.cell? ⟨g,1,none⟩=some (.int .i64 0):=by{simp[World.cell?,r0]};have f0:∀ o,w3.frozen? ⟨g,o,none⟩=false:=λo=>by{simp[World.frozen?,r0]};have R0:=hid r0;clear r0;go_wp2_with fail;refine z0F [] (by kernel_rfl) (by kernel_rfl) ?_
       repeat (first | (apply z0E (by rfl);(intro K w';go_simp;exact id)) | (apply z0J (by rfl);(intro K;go_simp;exact id)))
       (refine z0G (by rfl) (by rfl) (λK hK=>?_);go_simp;refine hK _ _ ?_;clear hK K)
       repeat (first | (apply z0E (by rfl);(intro K w';go_simp;exact id)) | (apply z0J (by rfl);(intro K;go_simp;exact id)))
       refine z0O ?_;go_wp2_with fail;obtain⟨q1,q2⟩:=zcL H0.out.1 (H1.out.2.1.nx HK.out).drew (by have:=H1.out.2.2.1;omega) R0.out A.b 90;refine bodyPost_ret (z2I rfl _ _ g rfl _ q1 _ Tryz.underlying28 rfl (by kernel_rfl)) rfl ?_;have hE:z1R D A b k=(([],A.b,90),D,A):=by{unfold z1R;rw[if_neg (by rw[<-HR.out];decide),if_neg (by rw[<-HD.out];decide),if_pos HLB.out.symm]};rw[HP.out,hE];exact q2
     | false=>
       obtain⟨lc,hlc⟩:=zX1 (less A.b b);have HL2:=hid (λs:Later w3=>show Calls Tryz.prog 36 #[balV A.b,balV b] s.val λe w'=>e = .returned (.bool lc)/\Keep zF s.val w' from by rw[hlc];exact z9G s.val A.b b);have HLC:=hid hlc;clear hlc r0
       go_upto_region 9 with fail
       have j0:=λs:Later w3=>s.cell b0;have j1:=λs:Later w3=>s.cell b1;have j2:=λs:Later w3=>s.cell p1;have j3:=λs:Later w3=>s.cell p2
       (refine z0W (by kernel_rfl) (by kernel_rfl) ?_;(repeat (go_big_quiet_step ((go_at_call 36;exact Later.call (HL2.out _)))));refine wpQuiet_nil ?_;rintro _ ⟨sq,rfl⟩)
       have hk4:=sq.keep;obtain⟨w4,hw4⟩:=zX1 (sq.val);rw[<-hw4] at hk4 |-;clear hw4 sq j0 j1 j2 j3 HL2;have b0:=z0D hk4 _ _ b0;have b1:=z0D hk4 _ _ b1;have HK:=hid (HK.out.nx hk4);clear hk4 p1 p2
       go_upto_if 41 with fail
       go_cut [9] (λv wx=>Hid (PrepIn w a d D A F b k g wx))
       case first=>(cases lc with | false=>{have hE:z1R D A b k=((z5I A.vs k,b,0),D,A):=by{unfold z1R;rw[if_neg (by rw[<-HR.out];decide),if_neg (by rw[<-HD.out];decide),if_neg (by rw[<-HLB.out];decide),if_pos (zaO HLB.out.symm HLC.out.symm)]};have hkw:=H1.out.2.1.nx HK.out;have HZ:=hid (show PrepIn w a d D A F b k g w4 from ⟨⟨D,A,F,hE,(zaO HLB.out.symm HLC.out.symm).symm,HD.out.symm,rfl,(AcT.lives a d D A).keep H0.out.1 hkw zI,λi x=>.inl x⟩,hkw.mono zE,HK.out.get H1.out.2.2.2.2.1 id,HK.out.get H1.out.1 id⟩);clear hE hkw;go_wp2_with fail;go_meet;exact HZ} | true=>{have hOb:OkB b:=⟨HR.out.symm,H0.out.2.2.2.2⟩;have hpr:=zgW w4 b hOb;unfold zuB at hpr;clear hOb;go_wp2_with fail;refine hpr.mono ?_;rintro e w5 ⟨rfl,hk5⟩;clear hpr;have hk6:=kal w5 (.cells #[.string (str pK),.string (str (AC.putB b)),.bool false] 63);have hkw6:=(HK.out.nx hk5).nx hk6;have LT:=TrioT.lives (BoxA.lives a (accC sb A.b nv A.s.dead) 86) (StoT.lives sb d D A.s) (VotesT.lives nv A.vs);have hT6:=LT.keep (show TrioT (BoxA a (accC sb A.b nv A.s.dead) 86) (StoT sb d D A.s) (VotesT nv A.vs) w1 F from⟨X,Y,Z,H1.out.2.2.2.2.2.1,H1.out.2.2.2.2.2.2.1,H1.out.2.2.2.2.2.2.2.1,H1.out.2.2.2.2.2.2.2.2.1,H1.out.2.2.2.2.2.2.2.2.2.1,H1.out.2.2.2.2.2.2.2.2.2.2.1,H1.out.2.2.2.2.2.2.2.2.2.2.2⟩) hkw6 zI;have hFl:=(AcT.lives a d D A).lt H0.out.1;have hdo:=zqK _ a sb d A.b nv A.vs D A.s F hT6 (some ⟨w5.heap.size,0,none⟩) 1 1 (z4Q b) (zlI w5 b (by have:=AC.putB_len b;unfold maxLen;omega)) rfl (λ_ x hx y=>by{cases hx;have h1:=hFl _ y;have h2:=H1.out.2.1.size;have h3:=HK.out.size;have h4:=hk5.size;simp only at h1;omega}) H0.out.2.2.1 H0.out.2.2.2.1;(have hcs:=z5G (D:=D) HD.out.symm (z4Q b);obtain⟨E,hE⟩:=zX1 (doA D A.s (z4Q b));rw[<-hE] at hdo hcs;have HE:=hid (zA1 hE (zA1 hcs (zA1 hkw6 hFl)));clear hE hcs hkw6 hFl hk6 hk5 hT6 LT;go_wp2_with fail;refine hdo.mono ?_;rintro e w7 ⟨rfl,F7,T7,K7,N7⟩;clear hdo;have hz1:=H1.out.2.2.2.1;have hs6:=HE.out.2.2.1.size;have r7:=K7.get (HE.out.2.2.1.get H1.out.1 id) (λx=>by have:=HE.out.2.2.2 _ x;have:=H1.out.2.2.1;omega);have x7:=K7.get (HE.out.2.2.1.get H1.out.2.2.2.2.1 id) (λx=>by have:=HE.out.2.2.2 _ x;omega);have hkF:Keep F w w7:=(H1.out.2.1.nx HE.out.2.2.1).next K7 zE zI;have hne:∀ i,F7 i->F i∨g<i:=λi x=>(N7 i x).imp id λy=>by have:=H1.out.2.2.1;omega);have H7:=hid (zA1 T7 (zA1 hkF (zA1 hne (zA1 r7 x7))));clear T7 K7 N7 x7 hkF hne hz1 hs6;have hE4:z1R D A b k=if E.1=0 then ((z5I A.vs k,b,0),E.2.1,⟨E.2.2,b,A.vs⟩) else (([],Bal.zero,E.1),E.2.1,⟨E.2.2,A.b,A.vs⟩):=by{unfold z1R;rw[if_neg (by rw[<-HR.out];decide),if_neg (by rw[<-HD.out];decide),if_neg (by rw[<-HLB.out];decide),if_neg (λe=>by have:=HLC.out;rw[e,zcH] at this;cases this),HE.out.1]};have HE4:=hid hE4;clear hE4;by_cases h0:E.1=0;{have q1:(E.1 != 0)=false:=by{simp[h0]};have hdd:E.2.2.dead=false:=by{rcases HE.out.2.1 with ⟨-,-,h⟩ | ⟨h,-⟩ | ⟨h,-⟩;{exact h};{omega};{exact absurd h0 h}};obtain⟨X7,Y7,Z7,hb7,hs7,hv7,a1,a2,a3,hF7⟩:=H7.out.1;obtain⟨p0,p1,p2,p3,p4,pf,pb⟩:=z1W hb7.1;have xb:=H7.out.2.2.2.2;have b0:w7.cell? ⟨w.heap.size,0,none⟩=some (.int .u64 (b.n:Int)):=by{simp[World.cell?,xb]};have b1:w7.cell? ⟨w.heap.size,1,none⟩=some (.int .i64 b.node):=by{simp[World.cell?,xb]};have g1:=z0A hb7.1 1 (.int .u64 (b.n:Int));have g2:=z0A g1 2 (.int .i64 b.node);have hkz:Keep (λk=>k=a) w7 ((w7.setCell ⟨a,1,none⟩ (.int .u64 (b.n:Int))).setCell ⟨a,2,none⟩ (.int .i64 b.node)):=by{refine Keep.setCell (Keep.setCell (Keep.refl _ _) (.inl ?_) _) (.inl ?_) _ <;> rfl};have haX:F7 a:=by{rw[hF7];exact .inl hb7.2.1};have haw:a<w.heap.size:=by{have:=H1.out.2.2.2.2.2.1;exact(AcT.lives a d D A).lt H0.out.1 a (by rw[H1.out.2.2.2.2.2.2.2.2.2.2.2];exact .inl this.2.1)};have T8:=TrioT.turn1 (T':=BoxA a (accC sb b nv E.2.2.dead) 86) (StoT.lives _ _ _ _) (VotesT.lives _ _) H7.out.1 (λX' hX'=>⟨X',⟨z0A (z0A hX'.1 1 (.int .u64 (b.n:Int))) 2 (.int .i64 b.node),hX'.2.1,λk x=>Nat.lt_of_lt_of_le (hX'.2.2 k x) hkz.size⟩,hkz.mono λk _ e=>by subst e;exact hX'.2.1,λ_ x=>.inl x⟩);obtain⟨F8,U8,K8,N8⟩:=T8;have HZ:=hid (show PrepIn w a d D A F b k g ((w7.setCell ⟨a,1,none⟩ (.int .u64 (b.n:Int))).setCell ⟨a,2,none⟩ (.int .i64 b.node)) from ⟨⟨E.2.1,⟨E.2.2,b,A.vs⟩,F8,by rw[HE4.out,if_pos h0],rfl,hdd,rfl,⟨sb,nv,U8⟩,λi x=>(N8 i x).elim (H7.out.2.2.1 i) λy=>.inr (by have:=z0M r7;omega)⟩,H7.out.2.1.next hkz zI (λk hk e=>by rw[e];exact H1.out.2.2.2.2.2.2.2.2.2.2.2 ▸ .inl H1.out.2.2.2.2.2.1.2.1),hkz.get xb (λe=>by omega),hkz.get r7 (λe=>by have:=H1.out.2.2.1;omega)⟩);clear p0 p3 p4 pb xb g1 g2 hkz haX haw U8 K8 N8 hb7 hs7 hv7 a1 a2 a3 hF7 hdd r7;go_wp2_with fail;go_meet;exact HZ};{have q1:(E.1 != 0)=true:=by{simpa using h0};have q2:decide (E.1=0)=false:=decide_eq_false h0;have d0:w7.cell? ⟨g,0,none⟩=some (.int .u64 0):=by{simp[World.cell?,r7]};have d1:w7.cell? ⟨g,1,none⟩=some (.int .i64 0):=by{simp[World.cell?,r7]};have f0:∀ o,w7.frozen? ⟨g,o,none⟩=false:=λo=>by{simp[World.frozen?,r7]};have H0':=hid h0;clear r7 h0;go_wp2_with fail;obtain⟨q1,q2⟩:=zgU (a:=a) (d:=d) (D:=E.2.1) (A:=⟨E.2.2,A.b,A.vs⟩) (B:=g+1) ⟨sb,nv,H7.out.1⟩ H7.out.2.1 HE.out.2.2.2 (λi x=>(H7.out.2.2.1 i x).imp id λy=>by omega) (Nat.lt_succ_self _) (by have:=H1.out.2.2.1;omega) H7.out.2.2.2.1 (.slice none 0 0) [] [] zF (Votes.nil _ _) (λ_ x=>x.elim) Apart.nil Bal.zero E.1;refine bodyPost_ret (z2I rfl _ _ g rfl _ q1 _ Tryz.underlying28 rfl (by kernel_rfl)) rfl ?_;rw[HP.out,HE4.out,if_neg H0'.out];exact q2}})
       case rest=>(have hgg:=H1.out.2.2.1;subst hgg;obtain⟨⟨D',A',F',hE,hAb,hAd,hAv,hT,hN⟩,hkw,hbx,hrs⟩:=hcut.out;obtain⟨sb',nv',X',Y',Z',hbox,hst,⟨⟨us,hvt⟩,hvl⟩,e1,e2,e3,hF'⟩:=hT;obtain⟨l1,l2,l3⟩:=H0.out.2.1.lens HD.out.symm (H0.out.2.2.1 HD.out.symm);rw[<-hAv] at l1 l2 l3;have hkd:Keep zF wc wc.drew:=(Keep.refl _ _).drew;have hvo:=zbD wc.drew a sb' A'.b nv' A'.s.dead Z' A'.vs us k (hkd.get hbox.1 id) (hvt.keep hkd zI) l1 l2 l3;rw[hAd] at hvo;simp only[Bool.false_eq_true,if_false] at hvo;have x1:wc.drew.cell? ⟨w.heap.size,0,none⟩=some (.int .u64 (b.n:Int))/\wc.drew.cell? ⟨w.heap.size,1,none⟩=some (.int .i64 b.node):=by{have:=hkd.get hbx id;simp[World.cell?,this]};have HC:=hid hcut.out;have HW:=hid (zA1 (show AcT a d D' A' wc F' from⟨sb',nv',X',Y',Z',hbox,hst,⟨⟨us,hvt⟩,hvl⟩,e1,e2,e3,hF'⟩) (zA1 hkw (zA1 hbx (zA1 hrs (zA1 hE (zA1 hN hkd))))));clear hcut hbox hst hvt hvl e1 e2 e3 hF' hE hAb hAd hAv hN hkw hbx hrs l1 l2 l3 hkd b0 b1;(go_upto_region 14 with fail);refine Held.z2W (λw'=>w'.cell? ⟨w.heap.size,0,none⟩=some (.int .u64 (b.n:Int))/\w'.cell? ⟨w.heap.size,1,none⟩=some (.int .i64 b.node)) [] [58] (by kernel_rfl) (by kernel_rfl) ?_;(repeat (apply Twin.z0E (by rfl) (by exact x1);(intro K w' hS;(try dsimp only at hS);go_simp;exact id)));refine Twin.z0G (by decide) (by rfl) (by exact x1) (λK hK=>?_);go_simp;refine hvo.mono ?_;rintro e w2' ⟨v,us2,Fv,rfl,hv2,hFv,hk2,hap2⟩;have HAp:=hid hap2;clear hap2;obtain⟨va,vc,rfl,-⟩:=hv2.row.form;have x2:w2'.cell? ⟨w.heap.size,0,none⟩=some (.int .u64 (b.n:Int))/\w2'.cell? ⟨w.heap.size,1,none⟩=some (.int .i64 b.node):=⟨z0D hk2 _ _ x1.1,z0D hk2 _ _ x1.2⟩;have hkw2:=HW.out.2.2.2.2.2.2.nx hk2;have hrs2:=hkw2.get HW.out.2.2.2.1 id;have d0:w2'.cell? ⟨w.heap.size+1,0,none⟩=some (.int .u64 0):=by{simp[World.cell?,hrs2]};have d1:w2'.cell? ⟨w.heap.size+1,1,none⟩=some (.int .i64 0):=by{simp[World.cell?,hrs2]};have f0:∀ o,w2'.frozen? ⟨w.heap.size+1,o,none⟩=false:=λo=>by{simp[World.frozen?,hrs2]};have hbx2:=hkw2.get HW.out.2.2.1 id;have hg2:=H1.out.2.2.1;have HV:=hid (zA1 hv2 (zA1 hFv (zA1 hkw2 (zA1 hrs2 (zA1 hbx2 hg2)))));go_simp;refine hK _ _ (λh=>by cases h) (λ_=>x2) ?_;clear hK K x1 hvo hk2 hv2 hFv hkw2 hrs2 hbx2 hg2;(repeat (apply Twin.z0E (by rfl) (by exact x2);(intro K w' hS;(try dsimp only at hS);go_simp;exact id)));refine Twin.z0G (by decide) (by rfl) (by exact x2) (λK hK=>?_);go_simp;have x3:((w2'.setCell ⟨w.heap.size+1,0,none⟩ (.int .u64 (b.n:Int))).setCell ⟨w.heap.size+1,1,none⟩ (.int .i64 b.node)).cell? ⟨w.heap.size,0,none⟩=some (.int .u64 (b.n:Int))/\((w2'.setCell ⟨w.heap.size+1,0,none⟩ (.int .u64 (b.n:Int))).setCell ⟨w.heap.size+1,1,none⟩ (.int .i64 b.node)).cell? ⟨w.heap.size,1,none⟩=some (.int .i64 b.node):=by{obtain⟨-,g2,-⟩:=z2M w2' (w.heap.size+1) _ _ HV.out.2.2.2.1 (.int .u64 (b.n:Int)) (.int .i64 b.node);have:=g2.get HV.out.2.2.2.2.1 (λe=>by have:=HV.out.2.2.2.2.2;omega);simp[World.cell?,this]};refine hK _ _ (λh=>by cases h) (λ_=>x3) ?_;clear hK K x2;(repeat (apply Twin.z0E (by rfl) (by exact x3);(intro K w' hS;(try dsimp only at hS);go_simp;exact id)));refine Twin.z0O ?_;go_wp2_with fail;obtain⟨hT,hkw,hbx,hrs,hE,hN,hkd⟩:=HW.out;obtain⟨hv2,hFv,hkw2,hrs2,hbx2,hg2⟩:=HV.out;have hFl:=(AcT.lives a d D A).lt H0.out.1;obtain⟨q1,q2⟩:=zgU (a:=a) (d:=d) (D:=D') (A:=A') (B:=w.heap.size+2) ((AcT.lives a d D' A').keep hT hkw2 zI) (hkw.next hkw2 zI zE) hFl hN (Nat.lt_succ_self _) (by omega) hrs2 (.slice va (z5I A'.vs k).length vc) _ us2 Fv hv2 (λi x=>by{have h1:=hFv i x;have h2:wc.heap.size<=i:=h1;exact⟨Nat.lt_of_lt_of_le (z0M hrs) h2,λy=>by have:=(AcT.lives a d D' A').lt hT i y;omega⟩}) HAp.out b 0;refine bodyPost_ret (z2I rfl _ _ (w.heap.size+1) rfl _ q1 _ Tryz.underlying28 rfl (by kernel_rfl)) rfl ?_;rw[HP.out,hE];exact q2)
def RPrepPost (a d:Nat) (F:Nat→Prop) (w:World) (R:(List Vt×Bal×Int)×Dk×Ac) (e:Ending) (w':World):Prop:=
 ∃ v us Fv F',e = .returned (.tuple #[v,balV R.1.2.1,.int .i64 R.1.2.2])∧RAcT a d R.2.1 R.2.2.s w' F'∧Keep F w w'∧(∀ i,F' i→F i∨w.heap.size≤i)∧Votes w' Fv v R.1.1 us∧∀ k,Fv k→w.heap.size≤k∧¬ F' k
theorem zaQ {a d:Nat} {D:Dk} {A:Ac} {F:Nat->Prop} {w w2:World} {g:Nat} {x0 x1:Value} (hT:RAcT a d D A.s w F) (hk:Keep zF w w2) (hg:w.heap.size<=g) (h:w2.heap[g]?=some (.cells #[x0,x1] 28 (0,0))) (B:Bal) (c:Int) :
  (∀ j u,[Value.int .u64 (B.n:Int),.int .i64 B.node][j]?=some u->((w2.setCell ⟨g,0,none⟩ (.int .u64 (B.n:Int))).setCell ⟨g,1,none⟩ (.int .i64 B.node)).cell? ⟨g,j,none⟩=some u)/\
  RPrepPost a d F w (([],B,c),D,A) (.returned (.tuple #[.slice none 0 0,balV B,.int .i64 c])) ((w2.setCell ⟨g,0,none⟩ (.int .u64 (B.n:Int))).setCell ⟨g,1,none⟩ (.int .i64 B.node)):=by
 obtain⟨g1,g2,-⟩:=z2M w2 g _ _ h (.int .u64 (B.n:Int)) (.int .i64 B.node);obtain⟨h1,h2,h3⟩:=Turns.shut0 (RAcT.lives a d D A.s) hT hk hg g2;exact⟨g1,.slice none 0 0,[],λ_=>False,F,rfl,h1,h2,h3,Votes.nil _ _,λ_ x=>x.elim⟩
theorem zeN {a d:Nat} {D:Dk} {A:Ac} {F F9:Nat->Prop} {w w9:World} {g B:Nat} {x0 x1:Value} (hT:RAcT a d D A.s w9 F9) (hk:Keep F w w9) (hF:∀ i,F i->i<w.heap.size) (h9:∀ i,F9 i->F i∨B<=i) (hgB:g<B) (hg:w.heap.size<=g)
  (h:w9.heap[g]?=some (.cells #[x0,x1] 28 (0,0))) (v:Value) (vs:List Vt) (us:List Value) (Fv:Nat->Prop) (hv:Votes w9 Fv v vs us) (hFv:∀ k,Fv k->g<k/\¬ F9 k) (b:Bal) (c:Int) :
  (∀ j u,[Value.int .u64 (b.n:Int),.int .i64 b.node][j]?=some u->((w9.setCell ⟨g,0,none⟩ (.int .u64 (b.n:Int))).setCell ⟨g,1,none⟩ (.int .i64 b.node)).cell? ⟨g,j,none⟩=some u)/\
  RPrepPost a d F w ((vs,b,c),D,A) (.returned (.tuple #[v,balV b,.int .i64 c])) ((w9.setCell ⟨g,0,none⟩ (.int .u64 (b.n:Int))).setCell ⟨g,1,none⟩ (.int .i64 b.node)):=by
 obtain⟨g1,g2,-⟩:=z2M w9 g _ _ h (.int .u64 (b.n:Int)) (.int .i64 b.node);obtain⟨h1,h2,h3⟩:=Turns.shut (RAcT.lives a d D A.s) hT hk hF h9 hgB hg g2;exact⟨g1,v,us,Fv,F9,rfl,h1,h2,h3,hv.keep g2 (λk x e=>by have:=(hFv k x).1;have e':k=g:=e;omega),λk x=>⟨by have:=(hFv k x).1;omega,(hFv k x).2⟩⟩
structure RPrepIn (w:World) (a d:Nat) (D:Dk) (A:Ac) (F:Nat→Prop) (b:Bal) (k:Nat) (g:Nat) (wx:World):Prop where
 ex:∃ D' A' F',z1R D A b k=((z5I A'.vs k,b,0),D',A')∧A'.s.dead=false∧A'.vs=A.vs∧RAcT a d D' A'.s wx F'∧∀ i,F' i→F i∨g<i
 keep:Keep F w wx
 box:wx.heap[w.heap.size]?=some (.cells (balC b) 28 (0,0))
 res:wx.heap[g]?=some (.cells #[.int .u64 0,.int .i64 0] 28 (0,0))
theorem AC.encP_few {b:Bal} {vs:List Vt} (h:vs.length<=890000):(encP b vs).length<=900000:=by
 unfold encP;rw[List.length_append,List.length_map];split <;> simp <;> omega
theorem AC.AOk.vsfew {A:Ac} (h:AOk A) (hd:A.s.dead=false) (hm:A.s.ps.length<=890000):A.vs.length<=890000:=by
 rw[h.ps hd] at hm;unfold encP at hm;rw[List.length_append,List.length_map] at hm;omega
theorem zeP (w:World) (a d:Nat) (D:Dk) (A:Ac) (F:Nat→Prop) (H:RAcT a d D A.s w F) (hO:AOk A) (hm:A.s.ps.length≤890000) (hfew:D.waits.length≤490000) (b:Bal) (hb:b.n<18446744073709551616) (k:Nat) :
  Calls Tryz.prog 29 #[.pointer (some ⟨a,0,none⟩),balV b,.int .u64 (k:Int)] w (RPrepPost a d F w (z1R D A b k)):=by
 obtain⟨Post,hPost⟩:=zX1 (RPrepPost a d F w (z1R D A b k));rw[← hPost];have hn1:=heap_alloc_new w (.cells (balC b) 28);have hk1:=kal w (.cells (balC b) 28);have hz1:(w.alloc (.cells (balC b) 28)).heap.size=w.heap.size+1:=by simp
 have hn:=heap_alloc_new (w.alloc (.cells (balC b) 28)) (.cells #[.int .u64 0,.int .i64 0] 28);have hk2:Keep (fun _=>False) (w.alloc (.cells (balC b) 28)) ((w.alloc (.cells (balC b) 28)).alloc (.cells #[.int .u64 0,.int .i64 0] 28)):=(Keep.refl _ _).alloc _;have hz2:((w.alloc (.cells (balC b) 28)).alloc (.cells #[.int .u64 0,.int .i64 0] 28)).heap.size=w.heap.size+2:=by simp
 rw[hz1] at hn;have hn1b:=hk2.get hn1 id;have hk:=hk1.nx hk2;clear hk1 hk2 hn1 hz1;have HP:=hid hPost;obtain⟨sb,pv,wp,hlk⟩:=H.look
 have hPl:(if A.s.dead then Bal.zero else docB A.s.ps)=A.prom:=by
  unfold Ac.prom
  cases hd:A.s.dead with
  | true=>rfl
  | false=>simp only[Bool.false_eq_true,if_false];rw[hO.ps hd];exact zbJ (hO.ok hd)
 have H0:=hid (zA1 H (zA1 hO (zA1 hm (zA1 hfew hb))));have hlk1:=hlk.keep hk;have hpm:=z8J _ a sb pv wp A.s hlk1 (by omega);rw[hPl] at hpm;clear hPost H hO hm hfew hb hlk;go_enter Tryz.func29,Tryz.ntmps29
 go_upto_region 1 with fail
 obtain⟨w1,hw1⟩:=zX1 ((w.alloc (.cells (balC b) 28)).alloc (.cells #[.int .u64 0,.int .i64 0] 28));rw[← hw1] at hn hn1b hk hz2 hpm hlk1 ⊢;clear hw1;obtain⟨g,hg⟩:=zX1 (w.heap.size+1);rw[← hg] at hn ⊢;have HLk:=hid hlk1;have H1:=hid (zA1 hn (zA1 hk (zA1 hg (zA1 hz2 hn1b))));obtain⟨p,hp⟩:=zX1 (A.prom);rw[← hp] at hpm;have Hp:=hid hp;clear hn hk hg hz2 hn1b hlk1 hPl hp;go_wp2_with (at_builtin;refine z0H ?_;intro q hq);refine hpm.mono ?_;rintro e w2 ⟨rfl,hk2⟩;clear hpm;have hn3:=heap_alloc_new w2 (.cells (balC p) 28);have hk3:=kal w2 (.cells (balC p) 28);have hz3:(w2.alloc (.cells (balC p) 28)).heap.size=w2.heap.size+1:=by simp
 go_upto_region 2 with fail
 obtain⟨w3,hw3⟩:=zX1 (w2.alloc (.cells (balC p) 28));rw[← hw3] at hn3 hk3 hz3 ⊢;clear hw3;obtain⟨q,hq⟩:=zX1 (w2.heap.size);rw[← hq] at hn3 hz3 ⊢;have hk13:=hk2.nx hk3;have L3:=HLk.out.keep hk13;obtain⟨m0,-,-⟩:=z6F L3.box;obtain⟨-,-,s2,-,-⟩:=zaB L3.sto;obtain⟨b0,b1,-,-⟩:=z1B (hk13.get H1.out.2.2.2.2 id);obtain⟨c0,c1,-,-⟩:=z1B hn3;have hrt:=zdB w3 b;obtain⟨rb,hrb⟩:=zX1 (z2P b);rw[← hrb] at hrt;have HR:=hid hrb;have H3:=hid (zA1 hk13 (zA1 hn3 (zA1 hq (zA1 hz3 L3))));clear hrb hk2 hk3 hn3 hq hz3 hk13 L3;go_wp2_with fail;refine hrt.mono ?_;rintro e w4 ⟨rfl,hk4⟩;clear hrt;have b0:=z0D hk4 _ _ b0;have b1:=z0D hk4 _ _ b1;have c0:=z0D hk4 _ _ c0;have c1:=z0D hk4 _ _ c1;have m0:=z0D hk4 _ _ m0;have s2:=z0D hk4 _ _ s2;have hk14:=H3.out.1.nx hk4;have r0:=hk14.get H1.out.1 id;have HK:=hid hk14;clear hk14 hk4
 cases rb with
 | false=>
   obtain⟨d0,d1,f0,-⟩:=z1B r0;have R0:=hid r0;clear r0;go_wp2_with fail;obtain⟨q1,q2⟩:=zaQ H0.out.1 (H1.out.2.1.nx HK.out) (by have:=H1.out.2.2.1;omega) R0.out Bal.zero 2;refine bodyPost_ret (z2I rfl _ _ g rfl _ q1 _ Tryz.underlying28 rfl (by kernel_rfl)) rfl ?_;have hE:z1R D A b k=(([],Bal.zero,2),D,A):=by unfold z1R;rw[if_pos HR.out.symm]
   rw[HP.out,hE];exact q2
 | true=>
   obtain⟨dd,hdd⟩:=zX1 (A.s.dead);rw[← hdd] at s2;have HD:=hid hdd;clear hdd
   cases dd with
   | true=>
     obtain⟨d0,d1,f0,-⟩:=z1B r0;have R0:=hid r0;clear r0;go_wp2_with fail;obtain⟨q1,q2⟩:=zaQ H0.out.1 (H1.out.2.1.nx HK.out) (by have:=H1.out.2.2.1;omega) R0.out Bal.zero 6;refine bodyPost_ret (z2I rfl _ _ g rfl _ q1 _ Tryz.underlying28 rfl (by kernel_rfl)) rfl ?_;have hE:z1R D A b k=(([],Bal.zero,6),D,A):=by unfold z1R;rw[if_neg (by rw[← HR.out];decide),if_pos HD.out.symm]
     rw[HP.out,hE];exact q2
   | false=>
     have hpb:p=A.b:=by rw[Hp.out];unfold Ac.prom;rw[← HD.out];rfl
     obtain⟨lb,hlb⟩:=zX1 (less b p);have hls:=zaK w4 b p;rw[← hlb] at hls;have HLB:=hid (show lb=less b A.b by rw[hlb,hpb]);have HPB:=hid hpb;clear hlb r0 hpb
     go_upto_region 7 with fail
     go_wp2_with fail;refine hls.mono ?_;rintro e w5 ⟨rfl,hk5⟩;clear hls;have b0:=z0D hk5 _ _ b0;have b1:=z0D hk5 _ _ b1;have c0:=z0D hk5 _ _ c0;have c1:=z0D hk5 _ _ c1;have m0:=z0D hk5 _ _ m0;have hk15:=HK.out.nx hk5;have r0:=hk15.get H1.out.1 id;have HK:=hid hk15;clear hk15 hk5 s2
     cases lb with
     | true=>
       obtain⟨d0,d1,f0,-⟩:=z1B r0;have R0:=hid r0;clear r0;go_wp2_with fail;refine z0F [] (by kernel_rfl) (by kernel_rfl) ?_
       repeat (first | (apply z0E (by rfl);(intro K w';go_simp;exact id)) | (apply z0J (by rfl);(intro K;go_simp;exact id)))
       (refine z0G (by rfl) (by rfl) (fun K hK=>?_);go_simp;refine hK _ _ ?_;clear hK K)
       repeat (first | (apply z0E (by rfl);(intro K w';go_simp;exact id)) | (apply z0J (by rfl);(intro K;go_simp;exact id)))
       refine z0O ?_;go_wp2_with fail;obtain⟨q1,q2⟩:=zaQ H0.out.1 (H1.out.2.1.nx HK.out).drew (by have:=H1.out.2.2.1;omega) R0.out p 90;refine bodyPost_ret (z2I rfl _ _ g rfl _ q1 _ Tryz.underlying28 rfl (by kernel_rfl)) rfl ?_;have hE:z1R D A b k=(([],A.b,90),D,A):=by unfold z1R;rw[if_neg (by rw[← HR.out];decide),if_neg (by rw[← HD.out];decide),if_pos HLB.out.symm]
       rw[HP.out,hE,← HPB.out];exact q2
     | false=>
       have R5:=hid r0;have X5:=hid (HK.out.get H1.out.2.2.2.2 id);clear r0 m0;obtain⟨m0,-,-⟩:=z6F (H3.out.2.2.2.2.keep (show Keep (fun _=>False) w3 w3 from Keep.refl _ _)).box;clear m0;have L5:=HLk.out.keep HK.out;obtain⟨m0,-,-⟩:=z6F L5.box;have HL5:=hid L5;clear L5
       have cut:b=p∨(b.n=p.n∧b.node≠p.node)∨b.n≠p.n:=by
        by_cases h1:b.n=p.n
        ·by_cases h2:b.node=p.node
         ·exact .inl (by cases b;cases p;simp only at h1 h2;rw[h1,h2])
         ·exact .inr (.inl ⟨h1,h2⟩)
        ·exact .inr (.inr h1)
       rcases cut with rfl | ⟨e1,e2⟩ | e1
       case' inl=>
        have hE:z1R D A b k=((z5I A.vs k,b,0),D,A):=by unfold z1R;rw[if_neg (by rw[← HR.out];decide),if_neg (by rw[← HD.out];decide),if_neg (by rw[← HLB.out];decide),if_pos HPB.out]
        have hkw:=H1.out.2.1.nx HK.out;obtain⟨wc,hwc⟩:=zX1 (w5)
        have HZ:=hid (show RPrepIn w a d D A F b k g wc from by
         rw[hwc]
         exact⟨⟨D,A,F,hE,HD.out.symm,rfl,(RAcT.lives a d D A.s).keep H0.out.1 hkw (fun _ _ x=>x),fun i x=>.inl x⟩,hkw.mono (fun _ _ x=>x.elim),X5.out,R5.out⟩)
        have HWC:=hid hwc;clear hE hkw hwc
        go_upto_region 13 with fail
        rw[← HWC.out]
       case' inr.inl=>
        rw[← e1] at c0;have HNE:=hid (show b≠p from fun e=>e2 (by rw[e]))
        go_upto_if 36 with fail
        clear e1 e2
       case' inr.inr=>
        have e3:¬ (b.n:Int)=(p.n:Int):=by omega
        have HNE:=hid (show b≠p from fun e=>e1 (by rw[e]))
        go_upto_if 36 with fail
        clear e1 e3
       case' inr.inl | inr.inr=>
        clear c0 c1;go_simp;have hOb:OkB b:=⟨HR.out.symm,H0.out.2.2.2.2⟩;have hpr:=zcU w5 b hOb;clear hOb;go_wp2_with fail;refine hpr.mono ?_;rintro e w6 ⟨v6,rfl,hf6⟩;obtain⟨ao6,m6,rfl,-⟩:=hf6.row.form;have hcv:=z2N (P:=Tryz.prog) Tryz.underlying29 Tryz.underlying5 Tryz.underlying9 (c:=m6) (Cells.of_row hf6.row);have m0:=z0D hf6.keep _ _ m0;have HK6:=hid (HK.out.nx hf6.keep);have hk7:=kal w6 (.cells #[.string (str pK),.string (str (AC.putB b)),.bool false] 63);have hkw7:=HK6.out.nx hk7;have hkw17:=H1.out.2.1.nx hkw7;have hT7:=(RAcT.lives a d D A.s).keep H0.out.1 hkw17 (fun _ _ x=>x);have hFl:=(RAcT.lives a d D A.s).lt H0.out.1
        have hdo:=zhZ _ a d D A.s F hT7 (some ⟨w6.heap.size,0,none⟩) 1 1 (z4Q b) (zlI w6 b (by have:=AC.putB_len b;unfold maxLen;omega)) rfl (fun _ x hx y=>by
         cases hx;have h1:=hFl _ y;have h2:=H1.out.2.1.size;have h3:=HK6.out.size;simp only at h1
         omega) (fun _=>by have:=H0.out.2.2.1;omega) H0.out.2.2.2.1
        have hcs:=z5G (D:=D) HD.out.symm (z4Q b);obtain⟨E,hE⟩:=zX1 (doA D A.s (z4Q b));rw[← hE] at hdo hcs;have hpk:str pK=({ data:=#[112] }:ByteArray):=rfl;rw[hpk] at hdo;have HE:=hid (zA1 hE (zA1 hcs (zA1 hkw7 hFl)));clear hE hcs hkw7 hFl hk7 hT7 hkw17 hpk;obtain⟨pl,hpl⟩:=zX1 ((AC.putB b).length);rw[← hpl] at hcv ⊢;obtain⟨sx,hsx⟩:=zX1 (str (AC.putB b));rw[← hsx] at hcv hdo;have HSX:=hid hsx;clear hpr hf6 hpl b0 b1 hsx;go_wp2_with fail;refine hdo.mono ?_;rintro e w7 ⟨rfl,F7,T7,K7,N7⟩;clear hdo hcv;rw[HSX.out,← (show str pK=({ data:=#[112] }:ByteArray) from rfl)] at K7 N7;have hz1:=H1.out.2.2.2.1;have hs6:=HE.out.2.2.1.size;have r7:=K7.get (HE.out.2.2.1.get H1.out.1 id) (fun x=>by have:=HE.out.2.2.2 _ x;have:=H1.out.2.2.1;omega);have x7:=K7.get (HE.out.2.2.1.get H1.out.2.2.2.2 id) (fun x=>by have:=HE.out.2.2.2 _ x;omega);have hkF:Keep F w w7:=(H1.out.2.1.nx HE.out.2.2.1).next K7 (fun _ _ x=>x.elim) (fun _ _ x=>x);have hne:∀ i,F7 i→F i∨g<i:=fun i x=>(N7 i x).imp id fun y=>by have:=H1.out.2.2.1;omega
        have H7:=hid (zA1 T7 (zA1 hkF (zA1 hne (zA1 r7 x7))))
        have hE4:z1R D A b k=if E.1=0 then ((z5I A.vs k,b,0),E.2.1,⟨E.2.2,b,A.vs⟩) else (([],Bal.zero,E.1),E.2.1,⟨E.2.2,A.b,A.vs⟩):=by
         unfold z1R;rw[if_neg (by rw[← HR.out];decide),if_neg (by rw[← HD.out];decide),if_neg (by rw[← HLB.out];decide),if_neg (fun e=>HNE.out (by rw[HPB.out];exact e)),HE.out.1]
        have HE4:=hid hE4;clear T7 K7 N7 x7 hkF hne hz1 hs6 hE4 m0
        by_cases h0:E.1=0
       case' pos | pos=>
        have q1:(E.1 != 0)=false:=by simp[h0]
        have hdd:E.2.2.dead=false:=by
         rcases HE.out.2.1 with ⟨-,-,h⟩ | ⟨h,-⟩ | ⟨h,-⟩
         ·exact h
         ·omega
         ·exact absurd h0 h
        obtain⟨wc,hwc⟩:=zX1 (w7)
        have HZ:=hid (show RPrepIn w a d D A F b k g wc from by
         rw[hwc]
         exact⟨⟨E.2.1,⟨E.2.2,b,A.vs⟩,F7,by rw[HE4.out,if_pos h0],hdd,rfl,H7.out.1,H7.out.2.2.1⟩,H7.out.2.1,H7.out.2.2.2.2,H7.out.2.2.2.1⟩)
        have HWC:=hid hwc;clear hdd h0 r7 hwc
        go_upto_region 13 with fail
        rw[← HWC.out]
       case' neg | neg=>
        have q1:(E.1 != 0)=true:=by simpa using h0
        have q2:decide (E.1=0)=false:=decide_eq_false h0;obtain⟨d0,d1,f0,-⟩:=z1B r7;have H0':=hid h0;clear r7 h0;go_wp2_with fail;obtain⟨q1,q2⟩:=zeN (a:=a) (d:=d) (D:=E.2.1) (A:=⟨E.2.2,A.b,A.vs⟩) (B:=g+1) H7.out.1 H7.out.2.1 HE.out.2.2.2 (fun i x=>(H7.out.2.2.1 i x).imp id fun y=>by omega) (Nat.lt_succ_self _) (by have:=H1.out.2.2.1;omega) H7.out.2.2.2.1 (.slice none 0 0) [] [] (fun _=>False) (Votes.nil _ _) (fun _ x=>x.elim) Bal.zero E.1;refine bodyPost_ret (z2I rfl _ _ g rfl _ q1 _ Tryz.underlying28 rfl (by kernel_rfl)) rfl ?_;rw[HP.out,HE4.out,if_neg H0'.out];exact q2
       all_goals
        clear HWC HK;have hgg:=H1.out.2.2.1;obtain⟨⟨D',A',F',hE,hAd,hAv,hT,hN⟩,hkw,hbx,hrs⟩:=HZ.out;obtain⟨sb',pv',wp',hlk⟩:=hT.look;have hkd:Keep (fun _=>False) wc wc.drew:=(Keep.refl _ _).drew
        have hO':AOk A':=by
         have:=AOk.prep (D:=D) H0.out.2.1 b H0.out.2.2.2.2 k;rw[hE] at this;exact this
        have hvo:=z8V wc.drew a sb' pv' wp' A'.s k (hlk.keep hkd) (by
         rw[hO'.ps hAd]
         exact encP_few (by rw[hAv];exact AOk.vsfew H0.out.2.1 HD.out.symm H0.out.2.2.1))
        rw[hAd] at hvo;simp only[Bool.false_eq_true,if_false] at hvo;rw[hO'.ps hAd,zfC (hO'.ok hAd)] at hvo
        have x1:wc.drew.cell? ⟨w.heap.size,0,none⟩=some (.int .u64 (b.n:Int))∧wc.drew.cell? ⟨w.heap.size,1,none⟩=some (.int .i64 b.node):=by
         have:=hkd.get hbx id;simp[World.cell?,this]
        have HW:=hid (zA1 hT (zA1 hkw (zA1 hbx (zA1 hrs (zA1 hE (zA1 hN (zA1 hkd hgg)))))));clear HZ hE hAd hAv hN hkw hbx hrs hkd hlk hgg hO' hT;refine Held.z2W (fun w'=>w'.cell? ⟨w.heap.size,0,none⟩=some (.int .u64 (b.n:Int))∧w'.cell? ⟨w.heap.size,1,none⟩=some (.int .i64 b.node)) [] [51] (by kernel_rfl) (by kernel_rfl) ?_
        repeat (apply Twin.z0E (by rfl) (by exact x1);(intro K w' hS;(try dsimp only at hS);go_simp;exact id))
        refine Twin.z0G (by decide) (by rfl) (by exact x1) (fun K hK=>?_);go_simp;refine hvo.mono ?_;rintro e w2' ⟨v,us2,Fv,rfl,hv2,hFv,hk2⟩;obtain⟨va,vc,rfl,-⟩:=hv2.row.form;have x2:w2'.cell? ⟨w.heap.size,0,none⟩=some (.int .u64 (b.n:Int))∧w2'.cell? ⟨w.heap.size,1,none⟩=some (.int .i64 b.node):=⟨z0D hk2 _ _ x1.1,z0D hk2 _ _ x1.2⟩;have hkw2:=HW.out.2.2.2.2.2.2.1.nx hk2;have hrs2:=hkw2.get HW.out.2.2.2.1 id;obtain⟨d0,d1,f0,-⟩:=z1B hrs2;have hbx2:=hkw2.get HW.out.2.2.1 id;have HV:=hid (zA1 hv2 (zA1 hFv (zA1 hkw2 (zA1 hrs2 (zA1 hbx2 HW.out.2.2.2.2.2.2.2)))));go_simp;refine hK _ _ (fun h=>by cases h) (fun _=>x2) ?_;clear hK K x1 hvo hk2 hv2 hFv hkw2 hrs2 hbx2
        repeat (apply Twin.z0E (by rfl) (by exact x2);(intro K w' hS;(try dsimp only at hS);go_simp;exact id))
        refine Twin.z0G (by decide) (by rfl) (by exact x2) (fun K hK=>?_);go_simp
        have x3:((w2'.setCell ⟨g,0,none⟩ (.int .u64 (b.n:Int))).setCell ⟨g,1,none⟩ (.int .i64 b.node)).cell? ⟨w.heap.size,0,none⟩=some (.int .u64 (b.n:Int))∧((w2'.setCell ⟨g,0,none⟩ (.int .u64 (b.n:Int))).setCell ⟨g,1,none⟩ (.int .i64 b.node)).cell? ⟨w.heap.size,1,none⟩=some (.int .i64 b.node):=by
         obtain⟨-,g2,-⟩:=z2M w2' g _ _ HV.out.2.2.2.1 (.int .u64 (b.n:Int)) (.int .i64 b.node);have:=g2.get HV.out.2.2.2.2.1 (fun e=>by have:=HV.out.2.2.2.2.2;omega);simp[World.cell?,this]
        refine hK _ _ (fun h=>by cases h) (fun _=>x3) ?_;clear hK K x2
        repeat (apply Twin.z0E (by rfl) (by exact x3);(intro K w' hS;(try dsimp only at hS);go_simp;exact id))
        refine Twin.z0O ?_;go_wp2_with fail;obtain⟨hT,hkw,hbx,hrs,hE,hN,hkd,hgg⟩:=HW.out;obtain⟨hv2,hFv,hkw2,hrs2,hbx2,hg2⟩:=HV.out;have hFl:=(RAcT.lives a d D A.s).lt H0.out.1
        obtain⟨q1,q2⟩:=zeN (a:=a) (d:=d) (D:=D') (A:=A') (B:=g+1) ((RAcT.lives a d D' A'.s).keep hT hkw2 (fun _ _ x=>x)) (hkw.next hkw2 (fun _ _ x=>x) (fun _ _ x=>x.elim)) hFl hN (Nat.lt_succ_self _) (by omega) hrs2 (.slice va (z5I A'.vs k).length vc) _ us2 Fv hv2 (fun i x=>by
         have h1:=hFv i x;have h2:wc.heap.size≤i:=h1
         exact⟨Nat.lt_of_lt_of_le (z0M hrs) h2,fun y=>by have:=(RAcT.lives a d D' A'.s).lt hT i y;omega⟩) b 0
        refine bodyPost_ret (z2I rfl _ _ g rfl _ q1 _ Tryz.underlying28 rfl (by kernel_rfl)) rfl ?_;rw[HP.out,hE];exact q2
end
end Go.Proofs.YtkjofdocgaiedaaGreat
