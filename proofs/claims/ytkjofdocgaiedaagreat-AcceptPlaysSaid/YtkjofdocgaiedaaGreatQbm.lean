/- Texts AcdD, AceI2, AceI in one. Conditions: as each law names them. -/
import Derived.Lib.SlBytesConst
import Derived.Test.YtkjofdocgaiedaaGreatQah
import Derived.Test.YtkjofdocgaiedaaGreatQaj
import Derived.Test.YtkjofdocgaiedaaGreatQbc
import Derived.Test.YtkjofdocgaiedaaGreatQbi
import Derived.Test.YtkjofdocgaiedaaGreatQbj
import Derived.Test.YtkjofdocgaiedaaGreatQbk
import Derived.Test.YtkjofdocgaiedaaGreatQbl
set_option maxRecDepth 20000
set_option maxHeartbeats 8000000
namespace Go.Proofs.YtkjofdocgaiedaaGreat
section
open Go.RowKit Go.Maps MI SO BM DM WM AC
theorem One.stay {w0 w w':World} {T T':Thing} {F:Nat->Prop} (h:One w0 T F w) (t:Turns T' F w w'):∃ F',One w0 T' F' w'/\∀ (g:Nat) (o:Obj),w.heap[g]?=some o->¬ F g->w'.heap[g]?=some o/\¬ F' g:=by
 obtain⟨F',h1,h2,h3⟩:=t;exact⟨F',⟨h1,λi x=>(h3 i x).elim (h.new i) λz=>Nat.le_trans h.keep.size z,h.keep.next h2 zI (λi hi x=>absurd (h.new i x) (by omega))⟩,λg o hg hn=>⟨h2.get hg hn,λx=>(h3 g x).elim hn λy=>by have:=z0M hg;omega⟩⟩
theorem z8E (w:World):Calls Tryz.prog 9 #[] w λe w'=>e = .returned (.bool true)/\Keep zF w w':=by
 obtain⟨D1,A1,D2,A2,A3,g1,g2,g3,g4,g5,g6,r1,r2,r3,n1,n2,n3,q1,q2⟩:=k_go;have HG:=hid (zA1 g1 (zA1 g2 (zA1 g3 (zA1 g4 (zA1 g5 (zA1 g6 (zA1 r1 (zA1 r2 r3))))))));have HW:=hid (zA1 n1 (zA1 n2 (zA1 n3 (zA1 q1 q2))));clear g1 g2 g3 g4 g5 g6 r1 r2 r3 n1 n2 n3 q1 q2;go_enter Tryz.func9,Tryz.ntmps9;go_wp2_with fail;refine(zqH w 60 (by decide) (by decide)).mono ?_;rintro e w3 ⟨d,Pd,rfl,hD,hk,hP⟩;have L3:One w (DkT d (DM.new 60)) Pd w3:=⟨hD,hP,hk⟩;clear hD hk hP;have ho:=zcE w3 d Pd (DM.new 60) L3.one (by decide +kernel);unfold AOpenPost at ho;rw[zwN] at ho;go_wp2_with fail;refine ho.mono ?_;rintro e w4 ⟨av,rfl,ht⟩;obtain⟨F4,L4⟩:=L3.turn ht;clear ho ht L3;obtain⟨a,rfl,hT⟩:=L4.one;have L4:One w (AcT a d (DM.new 60) kA0) F4 w4:=⟨hT,L4.new,L4.keep⟩;clear hT;have hpr:=z7S w4 a d (DM.new 60) kA0 F4 L4.one zoI.ok (λ_=>by decide) (by decide +kernel) ⟨1,2⟩ (by decide) 1;unfold PrepPost at hpr;rw[HG.out.1] at hpr;have hpr:Calls Tryz.prog 11 #[.pointer (some ⟨a,0,none⟩),.agg #[.int .u64 1,.int .i64 2],.int .u64 1] w4 _:=hpr;go_wp2_with fail;refine hpr.mono ?_;rintro e w5 ⟨v5,us5,Fv5,F5,he,hT,hk,hN,hv,-⟩;have he:e = .returned (.tuple #[v5,.agg #[.int .u64 1,.int .i64 2],.int .i64 0]):=he;subst he;obtain⟨a5,c5,rfl,-⟩:=hv.row.form;obtain⟨F5,L5,-⟩:=L4.stay (T':=AcT a d D1 A1) ⟨F5,hT,hk,hN⟩;clear hpr hT hk hN hv L4;simp only[List.length_nil];have hk6:=kal w5 (.cells #[.int .u64 1,.int .i64 2] 28);have hn6:=heap_alloc_new w5 (.cells #[.int .u64 1,.int .i64 2] 28);have hz6:(w5.alloc (.cells #[.int .u64 1,.int .i64 2] 28)).heap.size=w5.heap.size+1:=by simp
 go_upto_region 6 with fail
 obtain⟨w6,hw6⟩:=zX1 (w5.alloc (.cells #[.int .u64 1,.int .i64 2] 28));rw[<-hw6] at hk6 hn6 hz6 |-;clear hw6;have L6:=L5.later (AcT.lives _ _ _ _) hk6;have hF6:=(AcT.lives _ _ _ _).lt L5.one;have hk7:=kal w6 (.cells #[.int .u8 120] 5 (1,2));have hn7:=heap_alloc_new w6 (.cells #[.int .u8 120] 5 (1,2));have L7:=L6.later (AcT.lives _ _ _ _) hk7;have hF7:=(AcT.lives _ _ _ _).lt L6.one;have hac:=zfT _ a d D1 A1 F5 L7.one HG.out.2.2.2.2.2.2.1 (λ_=>by have:=HW.out.1;omega) (by have:=HW.out.2.2.2.1;omega) kV (by decide) (by decide) (some ⟨w6.heap.size,0,none⟩) 1 ⟨rfl,λ_=>⟨_,rfl,λt u hu=>by rw[z0L,Nat.zero_add,cell_of_row _ _ _ _ _ _ hn7];simpa [kV,z0B] using hu⟩⟩ (λ_ x hx y=>by cases hx;have:=hF7 _ y;simp only at this;omega);unfold AccPost at hac;rw[HG.out.2.1] at hac;have hac:Calls Tryz.prog 10 #[.pointer (some ⟨a,0,none⟩),.agg #[.int .u64 3,.int .u64 1,.int .i64 2,.slice (some ⟨w6.heap.size,0,none⟩) 1 1]] _ _:=hac;have HB:=hid (zA1 hn6 (zA1 hk7 (zA1 hF6 hz6)));have HL7:=hid L7;have hcv:(convert 29 29 (.slice (some ⟨w6.heap.size,0,none⟩) 1 1)).run Tryz.prog (w6.alloc (.cells #[.int .u8 120] 5)) = .ok (.slice (some ⟨w6.heap.size,0,none⟩) 1 1) (w6.alloc (.cells #[.int .u8 120] 5 (1,2))):=Lib.run_convert_bytes_const w6 29 5 #[.int .u8 120] 1 1 Tryz.underlying29 Tryz.underlying5;clear hn6 hk6 hz6 L5 L6 hF6 hk7 hn7 L7 hF7;go_wp2_with fail;refine hac.mono ?_;rintro e w8 ⟨F8,he,hT,hk,hN⟩;have he:e = .returned (.tuple #[.agg #[.int .u64 1,.int .i64 2],.int .i64 0]):=he;subst he;obtain⟨F8,L8,S8⟩:=HL7.out.stay (T':=AcT a d D2 A2) ⟨F8,hT,hk,hN⟩;have b8:=S8 w5.heap.size _ (HB.out.2.1.get HB.out.1 id) (λy=>by have:=HB.out.2.2.1 _ y;omega);clear hac hT hk hN S8 hcv HL7;have hk9:=kal w8 (.cells #[.int .u64 1,.int .i64 2] 28);have L9:=L8.later (AcT.lives _ _ _ _) hk9;have b9:=hk9.get b8.1 id;have hpr:=z7S _ a d D2 A2 F8 L9.one HG.out.2.2.2.2.2.2.2.1 (λ_=>by have:=HW.out.2.1;omega) (by have:=HW.out.2.2.2.2;omega) ⟨1,1⟩ (by decide) 1;unfold PrepPost at hpr;rw[HG.out.2.2.1] at hpr;have hpr:Calls Tryz.prog 11 #[.pointer (some ⟨a,0,none⟩),.agg #[.int .u64 1,.int .i64 1],.int .u64 1] _ _:=hpr;have HL9:=hid (zA1 L9 (zA1 b9 b8.2));clear L8 L9 b8 b9 hk9;go_wp2_with fail;refine hpr.mono ?_;rintro e w10 ⟨v10,us10,Fv10,F10,he,hT,hk,hN,hv,-⟩;have he:e = .returned (.tuple #[v10,.agg #[.int .u64 1,.int .i64 2],.int .i64 90]):=he;subst he;obtain⟨a10,c10,rfl,-⟩:=hv.row.form;simp only[List.length_nil];obtain⟨F10,L10,S10⟩:=HL9.out.1.stay (T':=AcT a d D2 A2) ⟨F10,hT,hk,hN⟩;have b10:=S10 w5.heap.size _ HL9.out.2.1 HL9.out.2.2;clear hpr hT hk hN hv S10 HL9;have hk11:=kal w10 (.cells #[.int .u64 1,.int .i64 2] 28);have hn11:=heap_alloc_new w10 (.cells #[.int .u64 1,.int .i64 2] 28);have L11:=L10.later (AcT.lives _ _ _ _) hk11;have hFl:=(AcT.lives _ _ _ _).lt L10.one;have b11:=hk11.get b10.1 id;obtain⟨F11,hd11,s11⟩:=L11.one.disk;have L11:=L11.shrink hd11 s11;have hn11b:¬ F11 w10.heap.size:=λy=>by{have:=hFl _ (s11 _ y);omega};have hb11b:¬ F11 w5.heap.size:=λy=>b10.2 (s11 _ y);have hcr:=zgN _ d F11 D2 none 0 0 [] L11.one ⟨rfl,λh=>by omega⟩ (λh=>by omega) (by decide) (by simp) (by have:=HW.out.2.2.2.2;omega);rw[HG.out.2.2.2.1] at hcr;have HL11:=hid (zA1 L11 (zA1 b11 (zA1 hn11 (zA1 hn11b hb11b))));clear L10 L11 b10 b11 hn11 hk11 hd11 s11 hn11b hb11b hFl;go_wp2_with fail;refine hcr.mono ?_;rintro e w12 ⟨rfl,ht⟩;obtain⟨F12,L12,S12⟩:=HL11.out.1.stay (T':=DkT d D2) ht;have b12:=S12 w5.heap.size _ HL11.out.2.1 HL11.out.2.2.2.2;have c12:=S12 w10.heap.size _ HL11.out.2.2.1 HL11.out.2.2.2.1;clear hcr ht HL11 S12;have ho:=zcE w12 d F12 D2 L12.one (by have:=HW.out.2.2.2.2;omega);unfold AOpenPost at ho;rw[HG.out.2.2.2.2.1] at ho;go_wp2_with fail;refine ho.mono ?_;rintro e w13 ⟨av,rfl,ht⟩;obtain⟨F13,L13,S13⟩:=L12.stay ht;have b13:=S13 w5.heap.size _ b12.1 b12.2;have c13:=S13 w10.heap.size _ c12.1 c12.2;clear ho ht L12 S13 b12 c12;obtain⟨a',rfl,hT⟩:=L13.one;have L13:One w (AcT a' d D2 A3) F13 w13:=⟨hT,L13.new,L13.keep⟩;clear hT;have hpr:=z7S w13 a' d D2 A3 F13 L13.one HG.out.2.2.2.2.2.2.2.2 (λ_=>by have:=HW.out.2.2.1;omega) (by have:=HW.out.2.2.2.2;omega) ⟨2,0⟩ (by decide) 1;unfold PrepPost at hpr;rw[HG.out.2.2.2.2.2.1] at hpr;have hpr:Calls Tryz.prog 11 #[.pointer (some ⟨a',0,none⟩),.agg #[.int .u64 2,.int .i64 0],.int .u64 1] _ _:=hpr;have HL13:=hid (zA1 L13 (zA1 b13 c13));clear L13 b13 c13;go_wp2_with fail;refine hpr.mono ?_;rintro e w14 ⟨v14,us14,Fv14,F14,he,hT,hk,hN,hv,-⟩;have he:e = .returned (.tuple #[v14,.agg #[.int .u64 2,.int .i64 0],.int .i64 0]):=he;subst he;obtain⟨a14,c14,rfl,-⟩:=hv.row.form;obtain⟨F14,L14,S14⟩:=HL13.out.1.stay (T':=AcT a' d (z1R D2 A3 ⟨2,0⟩ 1).2.1 (z1R D2 A3 ⟨2,0⟩ 1).2.2) ⟨F14,hT,hk,hN⟩;have b14:=S14 w5.heap.size _ HL13.out.2.1.1 HL13.out.2.1.2;have c14':=S14 w10.heap.size _ HL13.out.2.2.1 HL13.out.2.2.2;clear hpr hT hk hN S14 HL13;have hk15:=kal w14 (.cells #[.int .u64 2,.int .i64 0] 28);obtain⟨g,ua,uc,rfl,hcell,hrow⟩:=hv.get 0 (by decide);have x0:=z0D hk15 _ _ (hcell 0 _ rfl);have x3:=z0D hk15 _ _ (hcell 3 _ rfl);have hrow:=hrow.keep hk15 zI;have y6:=hk15.get b14.1 id;have y11:=hk15.get c14'.1 id;have hkz:=L14.keep.nx hk15;obtain⟨w15,hw15⟩:=zX1 (w14.alloc (.cells #[.int .u64 2,.int .i64 0] 28));rw[<-hw15] at x0 x3 hrow y6 y11 hkz;replace x0:w15.cell? ⟨g,0,none⟩=some (.int .u64 3):=x0;replace x3:w15.cell? ⟨g,3,none⟩=some (.slice ua 1 uc):=x3;replace hrow:Row w15 5 1 (.slice ua 1 uc) 1 (z0B [120]):=hrow;have z6:w15.cell? ⟨w5.heap.size,0,none⟩=some (.int .u64 1):=by{simp[World.cell?,y6]};have z11:w15.cell? ⟨w10.heap.size,1,none⟩=some (.int .i64 2):=by{simp[World.cell?,y11]};have hcv:=z2N (P:=Tryz.prog) Tryz.underlying29 Tryz.underlying5 Tryz.underlying9 (c:=uc) (Cells.of_row hrow);have q:((str [120]).toList == [120])=true:=by{rw[z1C];rfl};have HK:=hid hkz;clear hk15 hcell hv L14 b14 c14' y6 y11 hkz hrow;simp only[List.length_cons,List.length_nil,Nat.zero_add]
 go_upto_region 13 with fail
 rw[<-hw15];clear hw15;go_wp2_with fail;go_ret;exact⟨rfl,HK.out⟩
theorem ziW (w:World) (a sb:Nat) (b:Bal) (nv:Value) (k:Nat) (hh:w.heap[a]?=some (.cells (accC sb b nv true) 86 (0,0))) :
  Calls Tryz.prog 14 #[.pointer (some ⟨a,0,none⟩),.int .u64 (k:Int)] w (VotesPost w []):=by
 obtain⟨k0,k1,k2,k3,k4,kf,kb⟩:=z1W hh;clear hh;go_enter Tryz.func14,Tryz.ntmps14;go_wp2_with fail;go_ret;exact⟨_,[],λ_=>False,rfl,Votes.nil _ _,λ_ x=>x.elim,Keep.refl _ _⟩
theorem znT (w:World) (a d:Nat) (D:Dk) (A:Ac) (F:Nat->Prop) (H:AcT a d D A w F) (hO:AOk A) (hm:A.s.ps.length<=890000) (k:Nat) :
  Calls Tryz.prog 14 #[.pointer (some ⟨a,0,none⟩),.int .u64 (k:Int)] w (VotesPost w (A.votes k)):=by
 obtain⟨sb,nv,X,Y,Z,hbox,-,⟨⟨us,hvt⟩,-⟩,-⟩:=H;unfold Ac.votes;cases hd:A.s.dead with | true=>{have h1:=hbox.1;rw[hd] at h1;exact ziW w a sb A.b nv k h1} | false=>{obtain⟨l1,l2,l3⟩:=hO.lens hd (Nat.le_trans hm (by decide));have h:=ziX w a sb A.b nv A.s.dead Z A.vs us k hbox.1 hvt l1 l2 l3;rw[hd] at h;exact h}
theorem zpL (w:World) (a d:Nat) (D:Dk) (A:Ac) (F:Nat->Prop) (H:RAcT a d D A.s w F) (hO:AOk A) (hm:A.s.ps.length<=890000) :
  Calls Tryz.prog 25 #[.pointer (some ⟨a,0,none⟩)] w λe w'=>e = .returned (balV A.prom)/\Keep zF w w':=by
 obtain⟨sb,pv,wp,L⟩:=H.look;have h:=z8J w a sb pv wp A.s L (Nat.le_trans hm (by decide));have e:(if A.s.dead then Bal.zero else docB A.s.ps)=A.prom:=by{unfold Ac.prom;cases hd:A.s.dead with | true=>{rfl} | false=>{simp only[Bool.false_eq_true,if_false];rw[hO.ps hd,zbJ (hO.ok hd)]}};rw[e] at h;exact h
theorem zoC (w:World) (a d:Nat) (D:Dk) (A:Ac) (F:Nat->Prop) (H:RAcT a d D A.s w F) (hO:AOk A) (hm:A.s.ps.length<=890000) (k:Nat) :
  Calls Tryz.prog 26 #[.pointer (some ⟨a,0,none⟩),.int .u64 (k:Int)] w (VotesPost w (A.votes k)):=by
 obtain⟨sb,pv,wp,L⟩:=H.look;have h:=z8V w a sb pv wp A.s k L (Nat.le_trans hm (by decide));have e:(if A.s.dead then [] else docV A.s.ps k)=A.votes k:=by{unfold Ac.votes;cases hd:A.s.dead with | true=>{rfl} | false=>{simp only[Bool.false_eq_true,if_false];rw[hO.ps hd,zfC (hO.ok hd)]}};rw[e] at h;exact h
theorem AC.Ac.votes_len {A:Ac} (hO:AOk A) (hm:A.s.ps.length<=890000) (k:Nat):(A.votes k).length<=1000000:=by
 unfold Ac.votes;cases hd:A.s.dead with | true=>{exact Nat.zero_le _} | false=>{obtain⟨-,-,l3⟩:=hO.lens hd (Nat.le_trans hm (by decide));exact Nat.le_trans (List.length_filter_le _ _) l3}
def VtsR (l:List Vt) (v:Value) (w:World):Prop:=∃ ao n c,v = .slice ao n c∧n=l.length∧VotesC w ao l
theorem VtsR.keep {l:List Vt} {v:Value} {w w':World} (h:VtsR l v w) (hk:Keep zF w w'):VtsR l v w':=let ⟨ao,n,c,a,b,d⟩:=h;⟨ao,n,c,a,b,d.keep hk⟩
theorem VotesPost.rel {l:List Vt} {w w':World} {e:Ending} (h:VotesPost w l e w'):∃ v,e = .returned v/\VtsR l v w'/\Keep zF w w':=by
 obtain⟨v,us,Fv,rfl,hv,-,hk⟩:=h;obtain⟨ao,c,rfl,-⟩:=hv.row.form;exact⟨_,rfl,⟨ao,_,c,rfl,rfl,hv.read⟩,hk⟩
structure APl (W:World) (p k:Nat) (wr:World):Prop where
 ex:∃ D o,PairA W p D o wr∧AC.Inv (k+1) D o
theorem APl.start {w w1:World} {p s:Nat} (h:PairA w p (z2T (DM.new s)).2.2 (z2T (DM.new s)).2.1 w1) (hs:s<=2048):APl w p 0 w1:=
 ⟨_,_,h,AC.Inv.open (by simp[DM.new];exact hs) (Nat.zero_le _) (λA e=>by rw[e] at h;exact h.count)⟩
theorem APl.later {W w w':World} {p k:Nat} (h:APl W p k w) (hk:Keep zF w w'):APl W p k w':=let ⟨⟨D,o,a,b⟩⟩:=h;⟨⟨D,o,a.later hk,b⟩⟩
theorem ziL (w:World) (a:Int) (ha : -9223372036854775808≤a) (hb:a≤9223372036854775807) (v:Value) (l:List AAct) (hl:AActs w v l) (from_:Nat) :
  Calls Tryz.prog 6 #[.int .i64 a,v,.int .u64 (from_:Int)] w fun e w'=>e = .returned (.bool true)∧Keep (fun _=>False) w w':=by
 obtain⟨ao,c,rfl,hlc,hcm⟩:=hl.form;have hlo:=zpA w _ l hl;have HL:=hid hl;clear hl hcm;obtain⟨m,hm⟩:=zX1 (l.length);obtain⟨lb,hlb⟩:=zX1 (longL l);rw[← hm] at HL hlc hlo ⊢;rw[← hlb] at hlo;have Hm:=hid (zA1 hm hlb);clear hm hlb
 by_cases big:120<a∧a≤2048
 ·obtain⟨g1,g2⟩:=big
  clear hlo;go_enter Tryz.func6,Tryz.ntmps6;go_wp2_with fail;refine(z8E w).mono ?_;rintro e w1 ⟨rfl,hk1⟩;go_wp2_with fail;go_ret;exact⟨by rfl,hk1⟩
 ·have big':¬ 120<a∨(120<a∧¬ a≤2048):=by omega
  cases lb with
  | true=>
    clear big
    rcases big' with g1 | ⟨g0,g1⟩
    all_goals
     go_enter Tryz.func6,Tryz.ntmps6;go_wp2_with fail;refine hlo.mono ?_;rintro e w1 ⟨rfl,hk1⟩;have HK:=hid hk1;clear hk1;go_wp2_with fail;refine(z8E _).mono ?_;rintro e w2 ⟨rfl,hk2⟩;have HZ:=hid (HK.out.nx hk2);clear hk2;go_wp2_with fail;go_ret;exact⟨by rfl,HZ.out⟩
  | false=>
    by_cases none_:a<1∨2048<a
    ·have N1:=hid (fun w=>zgJ w a none_)
     have n1':a<1∨(¬ a<1∧2048<a):=by omega
     clear none_ big
     rcases big' with g1 | ⟨g0,g1⟩
     all_goals rcases n1' with n1 | ⟨n0,n1⟩
     all_goals
      first
      | (exfalso;omega)
      | (go_enter Tryz.func6,Tryz.ntmps6
         go_wp2_with fail;refine hlo.mono ?_;rintro e w1 ⟨rfl,hk1⟩;have HK:=hid hk1;clear hk1;go_wp2_with fail;refine(N1.out _).mono ?_;rintro e w2 ⟨rfl,rfl⟩;go_wp2_with fail;refine(z8E _).mono ?_;rintro e w3 ⟨rfl,hk3⟩;have HZ:=hid (HK.out.nx hk3);clear hk3;go_wp2_with fail;go_ret
         exact⟨by rfl,HZ.out⟩)
    ·obtain⟨n,rfl⟩:∃ n:Nat,(n:Int)=a:=⟨a.toNat,by omega⟩
     have n1:0<n:=by omega
     have n2:n≤120:=by omega
     have g1:¬ 120<(n:Int):=by omega
     clear big big' none_ ha hb;go_enter Tryz.func6,Tryz.ntmps6;go_wp2_with fail;refine hlo.mono ?_;rintro e w1 ⟨rfl,hk1⟩;have HK1:=hid hk1;clear hk1 hlo;go_wp2_with fail;refine(ziN w1 n n1 (by omega)).mono ?_;rintro e w2 ⟨p,rfl,hP1⟩;have HR1:=hid (APl.start hP1 (by omega));clear hP1;go_wp2_with fail
     go_loopw [9] (fun i wr=>∃ k:Nat,k≤m∧k≤50∧i = .int .i64 k∧Hid (APl w1 p k wr)) (fun i _=>50 - (intOf i).toNat)
     case atStart=>exact⟨0,Nat.zero_le _,Nat.zero_le _,rfl,HR1⟩
     case round=>
      clear HR1;obtain⟨k,hk,hk50,rfl,HR⟩:=hrel
      by_cases hgo:k<m∧k<50
      ·have h2:(k:Int)<m:=by omega
       have h1:(k:Int)<50:=by omega
       have hkl:k<l.length:=by rw[← Hm.out.1];exact hgo.1
       obtain⟨D,o,hP,hI⟩:=HR.out.ex;have hk1r:=HK1.out.nx hP.keep;obtain⟨ad,uv,kv,rfl,hrow,hAR,hu,hkv⟩:=HL.out.row hk1r k hkl;have hval:=AC.longL_get Hm.out.2.symm k hkl (by omega);have hpl:=zrI w1 wr p D o l[k] uv kv (k+1) hP (SliceOf.keepF hu HK1.out (fun _ _ _ _ h x=>x)) (SliceOf.keepF hkv HK1.out (fun _ _ _ _ h x=>x)) hAR.v hAR.n.2 hval hI (by omega);have HQ:=hid (zA1 hI (zA1 hP.ok.few hAR.v));have Hrow:=hid hrow;obtain⟨R,hR⟩:=zX1 (stepA D o l[k]);have HRe:=hid hR;rw[← hR] at hpl;have hgo1:=hgo.1;have hgo2:=hgo.2;clear hP hk1r hrow hAR hu hkv hval hI hR hgo;go_wp2_with (first | (at_builtin;refine z0H ?_;intro q hq) | (refine z5H (.load 76 _) rfl ?_;intro q hq))
       (refine hq.out ?_;clear hq q)
       refine wpList_plain rfl (fun K hK=>?_);refine zjA 76 (.tmp 53) rfl (ad.add (k * 7)) rfl _ (fun j u hu=>Hrow.out j u hu) _ Tryz.underlying76 rfl (by kernel_rfl) ?_;refine hK _ _ ?_;clear hK K;go_wp2_with fail;refine hpl.mono ?_;rintro e w3 ⟨rfl,hP3⟩;clear hpl;obtain⟨D3,o3⟩:=R
       have hI3:AC.Inv (k+2) D3 o3:=by
        have h:=HQ.out.1.step HQ.out.2.1 HQ.out.2.2 (fun A e=>by rw[← HRe.out] at e;simp only at e;rw[e] at hP3;exact hP3.count);rw[← HRe.out] at h;exact h
       have HA:=hid (show APl w1 p (k+1) w3 from⟨⟨D3,o3,hP3,hI3⟩⟩);clear HRe
       go_upto_region 14 with fail
       cases o3 with
       | none=>
         obtain⟨d,mm,sv,rv,X,F,G,h⟩:=hP3;obtain⟨rfl,-⟩:=h.two;obtain⟨rfl,-⟩:=h.three;obtain⟨-,h1',-,h3,-,-⟩:=z2A h.one.1;clear h hI3;have j1:=fun s:Later w3=>s.cell h1';have j3:=fun s:Later w3=>s.cell h3;clear h1' h3
         (refine z0W (by kernel_rfl) (by kernel_rfl) ?_;(repeat (go_big_quiet_step ((fail))));refine wpQuiet_nil ?_;rintro _ ⟨sq,rfl⟩)
         have HZ:=hid (HA.out.later sq.keep);obtain⟨w4,hw4⟩:=zX1 (sq.val);rw[← hw4] at HZ ⊢;clear hw4 sq j1 j3;go_wp2_with (at_builtin;refine z0H ?_;intro q hq);go_roundw
         case rel=>exact⟨k+1,by omega,by omega,by go_num,HZ⟩
         case measure=>simp[intOf];omega
       | some A3=>
         obtain⟨b1,b2,b3⟩:=hI3.few (by omega);obtain⟨d,mm,av,rv,X,F,G,h⟩:=hP3;obtain⟨ap,rfl,hac⟩:=h.two;obtain⟨rp,rfl,hrc⟩:=h.three;obtain⟨-,h1',-,h3,-,-⟩:=z2A h.one.1;obtain⟨pb,hpb⟩:=zX1 (A3.prom);obtain⟨VL,hVL⟩:=zX1 (A3.votes from_);have hvlen:=AC.Ac.votes_len b3 b1 from_;have HS:=hid (zA1 hac (zA1 hrc (zA1 b1 (zA1 b3 (zA1 hpb (zA1 hVL hvlen))))));clear h hI3 b1 b2 b3 hac hrc hpb hVL hvlen;have j1:=fun s:Later w3=>s.cell h1';have j3:=fun s:Later w3=>s.cell h3;clear h1' h3;refine z8N [(10,fun v _=>v=balV pb),(15,fun v _=>v=balV pb),(23,fun v w'=>VtsR VL v w'),(29,fun v w'=>VtsR VL v w'),(30,fun v _=>v = .bool true)] (by kernel_rfl) (by kernel_rfl) ?_ ?_
         ·intro q hq v w1 w3 hk hx
          simp only[List.mem_cons,List.not_mem_nil,or_false] at hq
          rcases hq with rfl | rfl | rfl | rfl | rfl
          ·exact hx
          ·exact hx
          ·exact VtsR.keep hx hk
          ·exact VtsR.keep hx hk
          ·exact hx
         repeat (apply z3U (by rfl);(intro K s;go_simp;exact id))
         refine z4X (by rfl) (by kernel_rfl) (fun s hs=>?_) (fun v hv K hK=>?_)
         ·go_simp
          refine(zgB s.val ap d D3 A3 F ((AcT.lives _ _ _ _).keep HS.out.1 s.keep (fun _ _ x=>x))).mono ?_;rintro e w' ⟨rfl,hk⟩;rw[← HS.out.2.2.2.2.1];exact⟨rfl,hk⟩
         obtain⟨s1,-,rfl⟩:=hv;go_simp;refine hK _ ?_;clear hK K s1
         repeat (apply z3U (by rfl);(intro K s;go_simp;exact id))
         refine z4X (by rfl) (by kernel_rfl) (fun s hs=>?_) (fun v hv K hK=>?_)
         ·go_simp
          refine(zpL s.val rp mm D3 A3 G ((RAcT.lives _ _ _ _).keep HS.out.2.1 s.keep (fun _ _ x=>x)) HS.out.2.2.2.1 HS.out.2.2.1).mono ?_;rintro e w' ⟨rfl,hk⟩;rw[← HS.out.2.2.2.2.1];exact⟨rfl,hk⟩
         obtain⟨s1,-,rfl⟩:=hv;go_simp;refine hK _ ?_;clear hK K s1
         repeat (apply z3U (by rfl);(intro K s;go_simp;exact id))
         refine z4X (by rfl) (by kernel_rfl) (fun s hs=>?_) (fun v hv K hK=>?_)
         ·go_simp
          refine(znT s.val ap d D3 A3 F ((AcT.lives _ _ _ _).keep HS.out.1 s.keep (fun _ _ x=>x)) HS.out.2.2.2.1 HS.out.2.2.1 from_).mono ?_;intro e w' hp;obtain⟨v,rfl,hr,hk⟩:=hp.rel;rw[← HS.out.2.2.2.2.2.1] at hr;exact⟨v,rfl,hk,hr⟩
         obtain⟨s1,-,⟨ao1,n1',c1,rfl,-⟩⟩:=hv;go_simp;refine hK _ ?_;clear hK K s1
         repeat (apply z3U (by rfl);(intro K s;go_simp;exact id))
         refine z4X (by rfl) (by kernel_rfl) (fun s hs=>?_) (fun v hv K hK=>?_)
         ·go_simp
          refine(zoC s.val rp mm D3 A3 G ((RAcT.lives _ _ _ _).keep HS.out.2.1 s.keep (fun _ _ x=>x)) HS.out.2.2.2.1 HS.out.2.2.1 from_).mono ?_;intro e w' hp;obtain⟨v,rfl,hr,hk⟩:=hp.rel;rw[← HS.out.2.2.2.2.2.1] at hr;exact⟨v,rfl,hk,hr⟩
         obtain⟨s1,-,⟨ao2,n2',c2,rfl,-⟩⟩:=hv;go_simp;refine hK _ ?_;clear hK K s1
         repeat (apply z3U (by rfl);(intro K s;go_simp;exact id))
         refine z4X (by rfl) (by kernel_rfl) (fun s hs=>?_) (fun v hv K hK=>?_)
         ·go_simp
          have m1:=hs (23,fun w'=>VtsR VL (.slice ao1 n1' c1) w') (by simp) (by kernel_rfl);have m2:=hs (29,fun w'=>VtsR VL (.slice ao2 n2' c2) w') (by simp) (by kernel_rfl);obtain⟨ao',n',c',e,q1,q2⟩:=m1;cases e;obtain⟨ao',n',c',e,r1,r2⟩:=m2;cases e;refine(ziA s.val ao1 n1' c1 ao2 n2' c2 VL VL q2 r2 q1 r1 (by rw[q1,HS.out.2.2.2.2.2.1];exact Nat.le_trans HS.out.2.2.2.2.2.2 (by decide))).mono ?_;rintro e w' ⟨rfl,hk⟩;exact⟨by simp,hk⟩
         obtain⟨s1,-,rfl⟩:=hv;go_simp;refine hK _ ?_;clear hK K s1
         repeat (apply z3U (by rfl);(intro K s;go_simp;exact id))
         refine zpU ?_;intro s hs;have HZ:=hid (HA.out.later s.keep);obtain⟨w4,hw4⟩:=zX1 (s.val);rw[← hw4] at HZ ⊢;clear hw4 hs s j1 j3;go_wp2_with fail;go_roundw
         case rel=>exact⟨k+1,by omega,by omega,by go_num,HZ⟩
         case measure=>simp[intOf];omega
      ·obtain⟨D,o,hP,-⟩:=HR.out.ex
       have HZ:=hid (HK1.out.nx hP.keep);clear hP;have cut:(¬ (k:Int)<m)∨((k:Int)<m∧¬ (k:Int)<50):=by omega
       clear hgo
       rcases cut with c1 | ⟨c0,c1⟩
       all_goals
        go_wp2_with fail;refine(z8E _).mono ?_;rintro e w4 ⟨rfl,hk4⟩;have HZ2:=hid (HZ.out.nx hk4);clear hk4;go_wp2_with fail;go_ret;exact⟨by rfl,HZ2.out⟩
theorem zuY (w:World) (a:Int) (ha : -9223372036854775808<=a) (hb:a<=9223372036854775807) (v:Value) (l:List AAct) (hl:AActs w v l) (f:Int) (h0:0<=f) (_:f<=18446744073709551615) :
  Calls Tryz.prog 6 #[.int .i64 a,v,.int .u64 f] w λe w'=>e = .returned (.bool true)/\Keep zF w w':=by
 have h:=ziL w a ha hb v l hl f.toNat;rw[Int.toNat_of_nonneg h0] at h;exact h
end
end Go.Proofs.YtkjofdocgaiedaaGreat
