/- Texts AcdD, AceI2, AceR in one. Conditions: as each law names them. -/
import Derived.Lib.SlBytesConst
import Derived.Test.YtkjofdocgaiedaaGreatJah
import Derived.Test.YtkjofdocgaiedaaGreatJaj
import Derived.Test.YtkjofdocgaiedaaGreatJba
import Derived.Test.YtkjofdocgaiedaaGreatJbd
import Derived.Test.YtkjofdocgaiedaaGreatJbf
import Derived.Test.YtkjofdocgaiedaaGreatJbg
set_option maxRecDepth 20000
set_option maxHeartbeats 8000000
namespace Go.Proofs.YtkjofdocgaiedaaGreat
section
open Go.RowKit Go.Maps
open MI SO BM DM WM AC
theorem One.stay {w0 w w':World} {T T':Thing} {F:Nat→Prop} (h:One w0 T F w) (t:Turns T' F w w'):∃ F',One w0 T' F' w'∧∀ (g:Nat) (o:Obj),w.heap[g]?=some o→¬ F g→w'.heap[g]?=some o∧¬ F' g:=by
 obtain⟨F',h1,h2,h3⟩:=t;exact⟨F',⟨h1,fun i x=>(h3 i x).elim (h.new i) fun z=>Nat.le_trans h.keep.size z,h.keep.next h2 (fun _ _ x=>x) (fun i hi x=>absurd (h.new i x) (by omega))⟩,fun g o hg hn=>⟨h2.get hg hn,fun x=>(h3 g x).elim hn fun y=>by have:=z0N hg;omega⟩⟩
theorem z7J (w:World):Calls Tryz.prog 9 #[] w fun e w'=>e = .returned (.bool true)∧Keep (fun _=>False) w w':=by
 obtain⟨D1,A1,D2,A2,A3,g1,g2,g3,g4,g5,g6,r1,r2,r3,n1,n2,n3,q1,q2⟩:=k_go;have HG:=hid (zA1 g1 (zA1 g2 (zA1 g3 (zA1 g4 (zA1 g5 (zA1 g6 (zA1 r1 (zA1 r2 r3))))))));have HW:=hid (zA1 n1 (zA1 n2 (zA1 n3 (zA1 q1 q2))));clear g1 g2 g3 g4 g5 g6 r1 r2 r3 n1 n2 n3 q1 q2;go_enter Tryz.func9,Tryz.ntmps9;go_wp2_with (at_builtin;refine z0A ?_;intro q hq);refine(zoV w 60 (by decide) (by decide)).mono ?_;rintro e w3 ⟨d,Pd,rfl,hD,hk,hP⟩;have L3:One w (DkT d (DM.new 60)) Pd w3:=⟨hD,hP,hk⟩;clear hD hk hP;have ho:=zbQ w3 d Pd (DM.new 60) L3.one (by decide +kernel);unfold AOpenPost at ho;rw[ztR] at ho;go_wp2_with (at_builtin;refine z0A ?_;intro q hq);refine ho.mono ?_;rintro e w4 ⟨av,rfl,ht⟩;obtain⟨F4,L4⟩:=L3.turn ht;clear ho ht L3;obtain⟨a,rfl,hT⟩:=L4.one;have L4:One w (AcT a d (DM.new 60) kA0) F4 w4:=⟨hT,L4.new,L4.keep⟩;clear hT;have hpr:=zbK w4 a d (DM.new 60) kA0 F4 L4.one znG.ok (fun _=>by decide) (by decide +kernel) ⟨1,2⟩ (by decide) 1;unfold PrepPost at hpr;rw[HG.out.1] at hpr;have hpr:Calls Tryz.prog 11 #[.pointer (some ⟨a,0,none⟩),.agg #[.int .u64 1,.int .i64 2],.int .u64 1] w4 _:=hpr;go_wp2_with (at_builtin;refine z0A ?_;intro q hq);refine hpr.mono ?_;rintro e w5 ⟨v5,us5,Fv5,F5,he,hT,hk,hN,hv,-⟩;have he:e = .returned (.tuple #[v5,.agg #[.int .u64 1,.int .i64 2],.int .i64 0]):=he;subst he;obtain⟨a5,c5,rfl,-⟩:=hv.row.form;obtain⟨F5,L5,-⟩:=L4.stay (T':=AcT a d D1 A1) ⟨F5,hT,hk,hN⟩;clear hpr hT hk hN hv L4;simp only[List.length_nil];have hk6:=kal w5 (.cells #[.int .u64 1,.int .i64 2] 28);have hn6:=heap_alloc_new w5 (.cells #[.int .u64 1,.int .i64 2] 28);have hz6:(w5.alloc (.cells #[.int .u64 1,.int .i64 2] 28)).heap.size=w5.heap.size+1:=by simp
 go_upto_region 6 with fail
 obtain⟨w6,hw6⟩:=zX1 (w5.alloc (.cells #[.int .u64 1,.int .i64 2] 28));rw[← hw6] at hk6 hn6 hz6 ⊢;clear hw6;have L6:=L5.later (AcT.lives _ _ _ _) hk6;have hF6:=(AcT.lives _ _ _ _).lt L5.one;have hk7:=kal w6 (.cells #[.int .u8 120] 5 (1,2));have hn7:=heap_alloc_new w6 (.cells #[.int .u8 120] 5 (1,2));have L7:=L6.later (AcT.lives _ _ _ _) hk7;have hF7:=(AcT.lives _ _ _ _).lt L6.one
 have hac:=zrI _ a d D1 A1 F5 L7.one HG.out.2.2.2.2.2.2.1 (fun _=>by have:=HW.out.1;omega) (by have:=HW.out.2.2.2.1;omega) kV (by decide) (by decide) (some ⟨w6.heap.size,0,none⟩) 1
  ⟨rfl,fun _=>⟨_,rfl,fun t u hu=>by rw[z0K,Nat.zero_add,cell_of_row _ _ _ _ _ _ hn7];simpa [kV,z0C] using hu⟩⟩ (fun _ x hx y=>by cases hx;have:=hF7 _ y;simp only at this;omega)
 unfold AccPost at hac;rw[HG.out.2.1] at hac;have hac:Calls Tryz.prog 10 #[.pointer (some ⟨a,0,none⟩),.agg #[.int .u64 3,.int .u64 1,.int .i64 2,.slice (some ⟨w6.heap.size,0,none⟩) 1 1]] _ _:=hac;have HB:=hid (zA1 hn6 (zA1 hk7 (zA1 hF6 hz6)));have HL7:=hid L7;have hcv:(convert 29 29 (.slice (some ⟨w6.heap.size,0,none⟩) 1 1)).run Tryz.prog (w6.alloc (.cells #[.int .u8 120] 5)) = .ok (.slice (some ⟨w6.heap.size,0,none⟩) 1 1) (w6.alloc (.cells #[.int .u8 120] 5 (1,2))):=Lib.run_convert_bytes_const w6 29 5 #[.int .u8 120] 1 1 Tryz.underlying29 Tryz.underlying5;clear hn6 hk6 hz6 L5 L6 hF6 hk7 hn7 L7 hF7;go_wp2_with (at_builtin;refine z0A ?_;intro q hq);refine hac.mono ?_;rintro e w8 ⟨F8,he,hT,hk,hN⟩;have he:e = .returned (.tuple #[.agg #[.int .u64 1,.int .i64 2],.int .i64 0]):=he;subst he;obtain⟨F8,L8,S8⟩:=HL7.out.stay (T':=AcT a d D2 A2) ⟨F8,hT,hk,hN⟩;have b8:=S8 w5.heap.size _ (HB.out.2.1.get HB.out.1 id) (fun y=>by have:=HB.out.2.2.1 _ y;omega);clear hac hT hk hN S8 hcv HL7;have hk9:=kal w8 (.cells #[.int .u64 1,.int .i64 2] 28);have L9:=L8.later (AcT.lives _ _ _ _) hk9;have b9:=hk9.get b8.1 id;have hpr:=zbK _ a d D2 A2 F8 L9.one HG.out.2.2.2.2.2.2.2.1 (fun _=>by have:=HW.out.2.1;omega) (by have:=HW.out.2.2.2.2;omega) ⟨1,1⟩ (by decide) 1;unfold PrepPost at hpr;rw[HG.out.2.2.1] at hpr;have hpr:Calls Tryz.prog 11 #[.pointer (some ⟨a,0,none⟩),.agg #[.int .u64 1,.int .i64 1],.int .u64 1] _ _:=hpr;have HL9:=hid (zA1 L9 (zA1 b9 b8.2));clear L8 L9 b8 b9 hk9;go_wp2_with (at_builtin;refine z0A ?_;intro q hq);refine hpr.mono ?_;rintro e w10 ⟨v10,us10,Fv10,F10,he,hT,hk,hN,hv,-⟩;have he:e = .returned (.tuple #[v10,.agg #[.int .u64 1,.int .i64 2],.int .i64 90]):=he;subst he;obtain⟨a10,c10,rfl,-⟩:=hv.row.form;simp only[List.length_nil];obtain⟨F10,L10,S10⟩:=HL9.out.1.stay (T':=AcT a d D2 A2) ⟨F10,hT,hk,hN⟩;have b10:=S10 w5.heap.size _ HL9.out.2.1 HL9.out.2.2;clear hpr hT hk hN hv S10 HL9;have hk11:=kal w10 (.cells #[.int .u64 1,.int .i64 2] 28);have hn11:=heap_alloc_new w10 (.cells #[.int .u64 1,.int .i64 2] 28);have L11:=L10.later (AcT.lives _ _ _ _) hk11;have hFl:=(AcT.lives _ _ _ _).lt L10.one;have b11:=hk11.get b10.1 id;obtain⟨F11,hd11,s11⟩:=L11.one.disk;have L11:=L11.shrink hd11 s11;have hn11b:¬ F11 w10.heap.size:=fun y=>by have:=hFl _ (s11 _ y);omega
 have hb11b:¬ F11 w5.heap.size:=fun y=>b10.2 (s11 _ y);have hcr:=zoQ _ d F11 D2 none 0 0 [] L11.one ⟨rfl,fun h=>by omega⟩ (fun h=>by omega) (by decide) (by simp) (by have:=HW.out.2.2.2.2;omega);rw[HG.out.2.2.2.1] at hcr;have HL11:=hid (zA1 L11 (zA1 b11 (zA1 hn11 (zA1 hn11b hb11b))));clear L10 L11 b10 b11 hn11 hk11 hd11 s11 hn11b hb11b hFl;go_wp2_with (at_builtin;refine z0A ?_;intro q hq);refine hcr.mono ?_;rintro e w12 ⟨rfl,ht⟩;obtain⟨F12,L12,S12⟩:=HL11.out.1.stay (T':=DkT d D2) ht;have b12:=S12 w5.heap.size _ HL11.out.2.1 HL11.out.2.2.2.2;have c12:=S12 w10.heap.size _ HL11.out.2.2.1 HL11.out.2.2.2.1;clear hcr ht HL11 S12;have ho:=zbQ w12 d F12 D2 L12.one (by have:=HW.out.2.2.2.2;omega);unfold AOpenPost at ho;rw[HG.out.2.2.2.2.1] at ho;go_wp2_with (at_builtin;refine z0A ?_;intro q hq);refine ho.mono ?_;rintro e w13 ⟨av,rfl,ht⟩;obtain⟨F13,L13,S13⟩:=L12.stay ht;have b13:=S13 w5.heap.size _ b12.1 b12.2;have c13:=S13 w10.heap.size _ c12.1 c12.2;clear ho ht L12 S13 b12 c12;obtain⟨a',rfl,hT⟩:=L13.one;have L13:One w (AcT a' d D2 A3) F13 w13:=⟨hT,L13.new,L13.keep⟩;clear hT;have hpr:=zbK w13 a' d D2 A3 F13 L13.one HG.out.2.2.2.2.2.2.2.2 (fun _=>by have:=HW.out.2.2.1;omega) (by have:=HW.out.2.2.2.2;omega) ⟨2,0⟩ (by decide) 1;unfold PrepPost at hpr;rw[HG.out.2.2.2.2.2.1] at hpr;have hpr:Calls Tryz.prog 11 #[.pointer (some ⟨a',0,none⟩),.agg #[.int .u64 2,.int .i64 0],.int .u64 1] _ _:=hpr;have HL13:=hid (zA1 L13 (zA1 b13 c13));clear L13 b13 c13;go_wp2_with (at_builtin;refine z0A ?_;intro q hq);refine hpr.mono ?_;rintro e w14 ⟨v14,us14,Fv14,F14,he,hT,hk,hN,hv,-⟩;have he:e = .returned (.tuple #[v14,.agg #[.int .u64 2,.int .i64 0],.int .i64 0]):=he;subst he;obtain⟨a14,c14,rfl,-⟩:=hv.row.form;obtain⟨F14,L14,S14⟩:=HL13.out.1.stay (T':=AcT a' d (z2Y D2 A3 ⟨2,0⟩ 1).2.1 (z2Y D2 A3 ⟨2,0⟩ 1).2.2) ⟨F14,hT,hk,hN⟩;have b14:=S14 w5.heap.size _ HL13.out.2.1.1 HL13.out.2.1.2;have c14':=S14 w10.heap.size _ HL13.out.2.2.1 HL13.out.2.2.2;clear hpr hT hk hN S14 HL13;have hk15:=kal w14 (.cells #[.int .u64 2,.int .i64 0] 28);obtain⟨g,ua,uc,rfl,hcell,hrow⟩:=hv.get 0 (by decide);have x0:=z0E hk15 _ _ (hcell 0 _ rfl);have x3:=z0E hk15 _ _ (hcell 3 _ rfl);have hrow:=hrow.keep hk15 (fun _ _ x=>x);have y6:=hk15.get b14.1 id;have y11:=hk15.get c14'.1 id;have hkz:=L14.keep.nx hk15;obtain⟨w15,hw15⟩:=zX1 (w14.alloc (.cells #[.int .u64 2,.int .i64 0] 28));rw[← hw15] at x0 x3 hrow y6 y11 hkz;replace x0:w15.cell? ⟨g,0,none⟩=some (.int .u64 3):=x0;replace x3:w15.cell? ⟨g,3,none⟩=some (.slice ua 1 uc):=x3;replace hrow:Row w15 5 1 (.slice ua 1 uc) 1 (z0C [120]):=hrow;have z6:w15.cell? ⟨w5.heap.size,0,none⟩=some (.int .u64 1):=by simp[World.cell?,y6]
 have z11:w15.cell? ⟨w10.heap.size,1,none⟩=some (.int .i64 2):=by simp[World.cell?,y11]
 have hcv:=z3D (P:=Tryz.prog) Tryz.underlying29 Tryz.underlying5 Tryz.underlying9 (c:=uc) (Cells.of_row hrow);have q:((str [120]).toList == [120])=true:=by rw[z0X];rfl
 have HK:=hid hkz;clear hk15 hcell hv L14 b14 c14' y6 y11 hkz hrow;simp only[List.length_cons,List.length_nil,Nat.zero_add]
 go_upto_region 13 with fail
 rw[← hw15];clear hw15;go_wp2_with (at_builtin;refine z0A ?_;intro q hq);go_ret;exact⟨rfl,HK.out⟩
end
section
open Go.RowKit Go.Maps
open MI SO BM DM WM AC
theorem ziB (w:World) (a sb:Nat) (b:Bal) (nv:Value) (k:Nat) (hh:w.heap[a]?=some (.cells (accC sb b nv true) 86 (0,0))) :
  Calls Tryz.prog 14 #[.pointer (some ⟨a,0,none⟩),.int .u64 (k:Int)] w (VotesPost w []):=by
 obtain⟨k0,k1,k2,k3,k4,kf,kb⟩:=z1Z hh;clear hh;go_enter Tryz.func14,Tryz.ntmps14;go_wp2_with (at_builtin;refine z0A ?_;intro q hq);go_ret;exact⟨_,[],fun _=>False,rfl,Votes.nil _ _,fun _ x=>x.elim,Keep.refl _ _⟩
theorem zkR (w:World) (a d:Nat) (D:Dk) (A:Ac) (F:Nat→Prop) (H:AcT a d D A w F) (hO:AOk A) (hm:A.s.ps.length≤890000) (k:Nat) :
  Calls Tryz.prog 14 #[.pointer (some ⟨a,0,none⟩),.int .u64 (k:Int)] w (VotesPost w (A.votes k)):=by
 obtain⟨sb,nv,X,Y,Z,hbox,-,⟨⟨us,hvt⟩,-⟩,-⟩:=H;unfold Ac.votes
 cases hd:A.s.dead with
 | true=>
   have h1:=hbox.1;rw[hd] at h1;exact ziB w a sb A.b nv k h1
 | false=>
   obtain⟨l1,l2,l3⟩:=hO.lens hd (Nat.le_trans hm (by decide));have h:=zhH w a sb A.b nv A.s.dead Z A.vs us k hbox.1 hvt l1 l2 l3;rw[hd] at h;exact h
theorem znS (w:World) (a d:Nat) (D:Dk) (A:Ac) (F:Nat→Prop) (H:RAcT a d D A.s w F) (hO:AOk A) (hm:A.s.ps.length≤890000) :
  Calls Tryz.prog 25 #[.pointer (some ⟨a,0,none⟩)] w fun e w'=>e = .returned (balV A.prom)∧Keep (fun _=>False) w w':=by
 obtain⟨sb,pv,wp,L⟩:=H.look;have h:=zdI w a sb pv wp A.s L (Nat.le_trans hm (by decide))
 have e:(if A.s.dead then Bal.zero else docB A.s.ps)=A.prom:=by
  unfold Ac.prom
  cases hd:A.s.dead with
  | true=>rfl
  | false=>simp only[Bool.false_eq_true,if_false];rw[hO.ps hd,ziQ (hO.ok hd)]
 rw[e] at h;exact h
theorem zkP (w:World) (a d:Nat) (D:Dk) (A:Ac) (F:Nat→Prop) (H:RAcT a d D A.s w F) (hO:AOk A) (hm:A.s.ps.length≤890000) (k:Nat) :
  Calls Tryz.prog 26 #[.pointer (some ⟨a,0,none⟩),.int .u64 (k:Int)] w (VotesPost w (A.votes k)):=by
 obtain⟨sb,pv,wp,L⟩:=H.look;have h:=zhV w a sb pv wp A.s k L (Nat.le_trans hm (by decide))
 have e:(if A.s.dead then [] else docV A.s.ps k)=A.votes k:=by
  unfold Ac.votes
  cases hd:A.s.dead with
  | true=>rfl
  | false=>simp only[Bool.false_eq_true,if_false];rw[hO.ps hd,zqR (hO.ok hd)]
 rw[e] at h;exact h
theorem AC.Ac.votes_len {A:Ac} (hO:AOk A) (hm:A.s.ps.length≤890000) (k:Nat):(A.votes k).length≤1000000:=by
 unfold Ac.votes
 cases hd:A.s.dead with
 | true=>exact Nat.zero_le _
 | false=>
   obtain⟨-,-,l3⟩:=hO.lens hd (Nat.le_trans hm (by decide));exact Nat.le_trans (List.length_filter_le _ _) l3
def VtsR (l:List Vt) (v:Value) (w:World):Prop:=∃ ao n c,v = .slice ao n c∧n=l.length∧VotesC w ao l
theorem VotesPost.rel {l:List Vt} {w w':World} {e:Ending} (h:VotesPost w l e w'):∃ v,e = .returned v∧VtsR l v w'∧Keep (fun _=>False) w w':=by
 obtain⟨v,us,Fv,rfl,hv,-,hk⟩:=h;obtain⟨ao,c,rfl,-⟩:=hv.row.form;exact⟨_,rfl,⟨ao,_,c,rfl,rfl,hv.read⟩,hk⟩
end
section
open Go.RowKit Go.Maps
open MI SO BM DM WM AC
theorem StoT.disk {sb d:Nat} {D:Dk} {S:St} {w:World} {F:Nat→Prop} (h:StoT sb d D S w F):∃ F',DkT d D w F'∧∀ k,F' k→F k:=by
 obtain⟨F1,F2,h1,rfl⟩:=h;exact⟨F2,h1.diskAt,fun k x=>.inr x⟩
theorem RStoT.disk {sb d:Nat} {D:Dk} {S:St} {w:World} {F:Nat→Prop} (h:RStoT sb d D S w F):∃ F',RkT d D w F'∧∀ k,F' k→F k:=by
 obtain⟨F1,F2,h1,rfl⟩:=h;exact⟨F2,h1.diskAt,fun k x=>.inr x⟩
theorem Two.shrink {w0 w:World} {T U T' U':Thing} {F G F' G':Nat→Prop} (h:Two w0 T F U G w) (h1:T' w F') (h2:U' w G') (s1:∀ k,F' k→F k) (s2:∀ k,G' k→G k):Two w0 T' F' U' G' w:=
 ⟨h1,h2,fun i x y=>h.apart i (s1 i x) (s2 i y),fun i x=>h.new1 i (s1 i x),fun i x=>h.new2 i (s2 i x),h.keep⟩
structure RdRel (W:World) (sb d rb m k:Nat) (wr:World):Prop where
 ex:∃ D S F G,Two W (StoT sb d D S) F (RStoT rb m D S) G wr∧S.ps.length≤k∧D.waits.length≤5120 * k
theorem ztC (w:World) (v:Value) (l:List Ch) (hl:Chs w v l) :
  Calls Tryz.prog 5 #[v] w fun e w'=>e = .returned (.bool true)∧Keep (fun _=>False) w w':=by
 obtain⟨ao,c,rfl,hlc,hcm⟩:=hl.form;have HL:=hid hl;clear hl hcm;obtain⟨m,hm⟩:=zX1 (l.length);rw[← hm] at HL hlc ⊢;have Hm:=hid hm;clear hm;go_enter Tryz.func5,Tryz.ntmps5;go_wp2_with (at_builtin;refine z0A ?_;intro q hq);refine(zoV w 300 (by decide) (by decide)).mono ?_;rintro e w1 ⟨d,Pd,rfl,hD1,hk1,hP1⟩;have H1:=hid (zA1 hD1 (zA1 hk1 hP1));clear hD1 hk1 hP1;go_wp2_with (at_builtin;refine z0A ?_;intro q hq);refine(zsW w1 300 (by decide) (by decide)).mono ?_;rintro e w2 ⟨mm,Qd,rfl,hD2,hk2,hP2⟩;have T2:=Two.make (T:=DkT d (DM.new 300)) (U:=RkT mm (DM.new 300)) (w0:=w) H1.out.1 H1.out.2.2 H1.out.2.1 (DkT.lives _ _) hD2 hP2 hk2;have hop:=zfX w2 d Pd (DM.new 300) T2.one (by decide +kernel);rw[zsB 300 (by decide)] at hop;have HT2:=hid T2;clear H1 hD2 hk2 hP2 T2;go_wp2_with (at_builtin;refine z0A ?_;intro q hq);refine hop.mono ?_;intro e w3 hp;obtain⟨sv,rfl,ht⟩:=hp.side;obtain⟨F3,T3⟩:=HT2.out.turn1 (RkT.lives _ _) ht;obtain⟨sb,rfl,hst⟩:=T3.one;have T3:Two w (StoT sb d (DM.new 300) nS0) F3 (RkT mm (DM.new 300)) Qd w3:=⟨hst,T3.two,T3.apart,T3.new1,T3.new2,T3.keep⟩;have hop:=zdA w3 mm Qd (DM.new 300) T3.two (by decide +kernel);rw[zsB 300 (by decide)] at hop;have HT3:=hid T3;clear hp ht hst T3 HT2;go_wp2_with (at_builtin;refine z0A ?_;intro q hq);refine hop.mono ?_;intro e w4 hp;obtain⟨rv,rfl,ht⟩:=hp.side;obtain⟨G4,T4⟩:=HT3.out.turn2 (StoT.lives _ _ _ _) ht;obtain⟨rb,rfl,hst⟩:=T4.two;have T4:Two w (StoT sb d (DM.new 300) nS0) F3 (RStoT rb mm (DM.new 300) nS0) G4 w4:=⟨T4.one,hst,T4.apart,T4.new1,T4.new2,T4.keep⟩;have HR0:=hid (RdRel.mk (k:=0) ⟨_,_,_,_,T4,by decide,Nat.zero_le _⟩);clear hop hp ht hst T4 HT3;go_wp2_with (at_builtin;refine z0A ?_;intro q hq)
 go_loopw [11] (fun i wr=>∃ k:Nat,k≤m∧k≤20∧i = .int .i64 k∧Hid (RdRel w sb d rb mm k wr)) (fun i _=>20 - (intOf i).toNat)
 case atStart=>exact⟨0,Nat.zero_le _,Nat.zero_le _,rfl,HR0⟩
 case round=>
  clear HR0;obtain⟨k,hk,hk20,rfl,HR⟩:=hrel
  by_cases hgo:k<m∧k<20
  ·have h2:(k:Int)<m:=by omega
   have h1:(k:Int)<20:=by omega
   have hkl:k<l.length:=by rw[← Hm.out];exact hgo.1
   obtain⟨D,S,F,G,hT,hps,hw⟩:=HR.out.ex;obtain⟨ad,rfl,a0,a1,a2,hok⟩:=HL.out.get hT.keep k hkl;obtain⟨x,hx⟩:=zX1 (l[k]);rw[← hx] at a0 a1 a2 hok;have hgo1:=hgo.1;have hgo2:=hgo.2;have hs1:=z2A x.key;have hs2:=z2A x.value;obtain⟨kl,hkl2⟩:=zX1 (x.key.length);obtain⟨vl,hvl2⟩:=zX1 (x.value.length);rw[← hkl2] at hs1;rw[← hvl2] at hs2;have HQ:=hid (zA1 hT (zA1 hps (zA1 hw hok)));clear hx hT hps hw hok hgo hkl2 hvl2
   by_cases hbig:1000<kl∨1000<vl
   ·have HK:=hid HQ.out.1.keep
    have cut:1000<kl∨(¬ 1000<kl∧1000<vl):=by omega
    clear hbig
    rcases cut with c1 | ⟨c0,c1⟩
    ·have q1:(1000:Int)<(kl:Int):=by omega
     go_wp2_with (at_builtin;refine z0A ?_;intro q hq);refine(z7J _).mono ?_;rintro e w5 ⟨rfl,hk5⟩;have HZ:=hid (HK.out.nx hk5);clear hk5;go_wp2_with (at_builtin;refine z0A ?_;intro q hq);go_ret;exact⟨by rfl,HZ.out⟩
    ·have q1:(1000:Int)<(vl:Int):=by omega
     have q2:decide ((1000:Int)<(kl:Int))=false:=decide_eq_false (by omega);have q3:decide (1000<kl)=false:=decide_eq_false c0;go_wp2_with (at_builtin;refine z0A ?_;intro q hq);refine(z7J _).mono ?_;rintro e w5 ⟨rfl,hk5⟩;have HZ:=hid (HK.out.nx hk5);clear hk5;go_wp2_with (at_builtin;refine z0A ?_;intro q hq);go_ret;exact⟨by rfl,HZ.out⟩
   ·have q1:decide ((1000:Int)<(kl:Int))=false:=decide_eq_false (by omega)
    have q2:decide (1000<kl)=false:=decide_eq_false (by omega);have q3:decide ((1000:Int)<(vl:Int))=false:=decide_eq_false (by omega);have q4:decide (1000<vl)=false:=decide_eq_false (by omega);clear hbig;have hn5:=heap_alloc_new wr (.cells #[.string (str x.key),.string (str x.value),.bool x.gone] 63);have hk5:=kal wr (.cells #[.string (str x.key),.string (str x.value),.bool x.gone] 63);have HN5:=hid (zA1 hn5 hk5);clear hn5 hk5
    go_upto_region 13 with fail
    obtain⟨w5,hw5⟩:=zX1 (wr.alloc (.cells #[.string (str x.key),.string (str x.value),.bool x.gone] 63));rw[← hw5] at HN5 ⊢;clear hw5 a0 a1 a2 hs1 hs2;obtain⟨hn5,hk5⟩:=HN5.out;have T5:=HQ.out.1.later (StoT.lives _ _ _ _) (RStoT.lives _ _ _ _) hk5
    have hch:∀ w',Keep (fun k=>k≠wr.heap.size) w5 w'→Chs w' (.slice (some ⟨wr.heap.size,0,none⟩) 1 1) [x]:=fun w' hkk=>by
     have hb:=hkk.get hn5 (fun e=>e rfl);refine⟨some ⟨wr.heap.size,0,none⟩,1,rfl,Nat.le_refl _,by decide,fun _=>⟨_,rfl,fun i hi=>?_⟩⟩;have e:i=0:=by simp at hi;omega
     subst e;refine⟨chV x,rfl,⟨rfl,HQ.out.2.2.2⟩,fun j u hu=>?_⟩;rw[z0K,Nat.zero_add,Nat.zero_mul,Nat.zero_add]
     match j,hu with
     | 0,hu=>simp[chV] at hu;subst hu;simp[World.cell?,hb]
     | 1,hu=>simp[chV] at hu;subst hu;simp[World.cell?,hb]
     | 2,hu=>simp[chV] at hu;subst hu;simp[World.cell?,hb]
     | j+3,hu=>simp[chV] at hu
    have hls:=(StoT.lives _ _ _ _).lt HQ.out.1.one;have hlr:=(RStoT.lives _ _ _ _).lt HQ.out.1.two;obtain⟨F1,F2,hst,hFe⟩:=T5.one
    have hdo:=zoB w5 sb d F1 F2 D S hst (some ⟨wr.heap.size,0,none⟩) 1 1 [x] (hch w5 (Keep.refl _ _)) rfl (fun _ y hy=>by
     cases hy
     exact⟨fun z=>by have:=hls wr.heap.size (by rw[hFe];exact .inl z);omega,fun z=>by have:=hls wr.heap.size (by rw[hFe];exact .inr z);omega⟩) (fun _=>by have:=HQ.out.2.1;omega) (by have:=HQ.out.2.2.1;omega)
    have H5:=hid (zA1 T5 (zA1 hch (zA1 hFe (zA1 hls hlr))));clear hn5 hk5 T5 hch hst hFe hls hlr;go_wp2_with (at_builtin;refine z0A ?_;intro q hq);refine hdo.mono ?_;rintro e w6 ⟨rfl,ht⟩;have htt:=ht.turnsT;rw[← H5.out.2.2.1] at htt;have hk6:Keep F w5 w6:=let ⟨_,_,h,_⟩:=htt;h;obtain⟨F6,T6⟩:=H5.out.1.turn1 (RStoT.lives _ _ _ _) htt;obtain⟨G1,G2,hst,hGe⟩:=T6.two
    have hdo:=zsT w6 rb mm G1 G2 D S hst (some ⟨wr.heap.size,0,none⟩) 1 1 [x] (H5.out.2.1 w6 (hk6.mono fun k _ y e=>by have:=H5.out.2.2.2.1 k y;omega)) rfl (fun _ y hy=>by
     cases hy
     exact⟨fun z=>by have:=H5.out.2.2.2.2 wr.heap.size (by rw[hGe];exact .inl z);omega,fun z=>by have:=H5.out.2.2.2.2 wr.heap.size (by rw[hGe];exact .inr z);omega⟩) (fun _=>by have:=HQ.out.2.1;omega) (by have:=HQ.out.2.2.1;omega)
    have H6:=hid (zA1 T6 hGe);clear ht htt hk6 T6 hst hGe;go_wp2_with (at_builtin;refine z0A ?_;intro q hq);refine hdo.mono ?_;rintro e w7 ⟨rfl,ht⟩;have htt:=ht.turnsR;rw[← H6.out.2] at htt;obtain⟨G7,T7⟩:=H6.out.1.turn2 (StoT.lives _ _ _ _) htt
    have HZ:=hid (show RdRel w sb d rb mm (k+1) w7 from⟨_,_,_,_,T7,by
     have h1:=zsL D S [x];have h2:=HQ.out.2.1;simp only[List.length_singleton] at h1
     omega,by
     obtain⟨Fq,hq,-⟩:=HQ.out.1.one.disk;have h1:=zbY (DiskAt.ok hq).few S [x];have h2:=HQ.out.2.2.1
     omega⟩)
    clear ht htt T7 hdo H6;go_wp2_with (at_builtin;refine z0A ?_;intro q hq);go_roundw
    case rel=>exact⟨k+1,by omega,by omega,by go_num,HZ⟩
    case measure=>simp[intOf];omega
  ·obtain⟨D,S,F,G,hT,hps,hw⟩:=HR.out.ex
   obtain⟨F1,hd1,s1⟩:=hT.one.disk;obtain⟨G1,hd2,s2⟩:=hT.two.disk;have T1:=hT.shrink hd1 hd2 s1 s2;have hop:=zbQ wr d F1 D T1.one (by omega);have HT1:=hid (zA1 T1 (show D.waits.length≤800000 by omega));have cut:(¬ (k:Int)<m)∨((k:Int)<m∧¬ (k:Int)<20):=by omega
   clear hgo hT hps hw hd1 hd2 s1 s2 T1
   rcases cut with c1 | ⟨c0,c1⟩
   all_goals (
    go_upto_region 15 with fail
    go_wp2_with (at_builtin;refine z0A ?_;intro q hq);refine hop.mono ?_;rintro e w5 ⟨av,rfl,ht⟩;obtain⟨F5,T5⟩:=HT1.out.1.turn1 (RkT.lives _ _) ht;have hop2:=zkL w5 mm G1 D T5.two HT1.out.2;have HT5:=hid T5;clear ht T5 hop;go_wp2_with (at_builtin;refine z0A ?_;intro q hq);refine hop2.mono ?_;rintro e w6 ⟨rv,rfl,ht⟩;obtain⟨G6,T6⟩:=HT5.out.turn2 (AcP.lives _ _ _ _) ht;clear ht hop2;obtain⟨R,hR⟩:=zX1 (z4E D);rw[← hR] at T6 ⊢;obtain⟨rc,o,RD⟩:=R
    cases o with
    | none=>
      obtain⟨rfl,-⟩:=T6.one;obtain⟨rfl,-⟩:=T6.two;have HK:=hid T6.keep;clear T6 hR;go_wp2_with (at_builtin;refine z0A ?_;intro q hq);refine(z7J _).mono ?_;rintro e w7 ⟨rfl,hk7⟩;have HZ:=hid (HK.out.nx hk7);clear hk7;go_wp2_with (at_builtin;refine z0A ?_;intro q hq);go_ret;exact⟨by rfl,HZ.out⟩
    | some A=>
      obtain⟨a,rfl,hac⟩:=T6.one;obtain⟨r,rfl,hrc⟩:=T6.two;have hsome:(z4E D).2.1=some A:=by rw[← hR]
      obtain⟨o1,o2,o3⟩:=zpS (fun S e=>(ztB e).sorted) hsome
      have hcnt:A.s.g.l.length≤4000:=by
       obtain⟨sb',X,Y,-,h2,-⟩:=id hrc;exact h2.count.1
      have hps:A.s.ps.length≤890000:=Nat.le_trans ((zcC D A.s o3).few hcnt o2) (by decide);obtain⟨pb,hpb⟩:=zX1 (A.prom);obtain⟨VL,hVL⟩:=zX1 (A.votes 0);have hvlen:=AC.Ac.votes_len o1 hps 0;have hp1:=zeI w6 a d RD A F5 hac;rw[← hpb] at hp1;have HS:=hid (zA1 hac (zA1 hrc (zA1 o1 (zA1 hps (zA1 hpb (zA1 hVL (zA1 hvlen T6.keep)))))));clear T6 hR hsome o1 o2 o3 hcnt hps hpb hVL hvlen hac hrc;go_wp2_with (at_builtin;refine z0A ?_;intro q hq);refine hp1.mono ?_;rintro e w7 ⟨rfl,hk7⟩;have hp2:=znS w7 r mm RD A G6 ((RAcT.lives _ _ _ _).keep HS.out.2.1 hk7 (fun _ _ x=>x)) HS.out.2.2.1 HS.out.2.2.2.1;rw[← HS.out.2.2.2.2.1] at hp2;have H7:=hid hk7;clear hk7 hp1;go_wp2_with (at_builtin;refine z0A ?_;intro q hq);refine hp2.mono ?_;rintro e w8 ⟨rfl,hk8⟩;have hk68:=H7.out.nx hk8;have hp3:=zkR w8 a d RD A F5 ((AcT.lives _ _ _ _).keep HS.out.1 hk68 (fun _ _ x=>x)) HS.out.2.2.1 HS.out.2.2.2.1 0;rw[← HS.out.2.2.2.2.2.1] at hp3;have H8:=hid hk68;clear hk8 hk68 hp2;go_wp2_with (at_builtin;refine z0A ?_;intro q hq);refine hp3.mono ?_;intro e w9 hpost;obtain⟨v1,rfl,⟨ao1,n1,c1',rfl,hn1,hv1⟩,hk9⟩:=hpost.rel;have hk69:=H8.out.nx hk9;have hp4:=zkP w9 r mm RD A G6 ((RAcT.lives _ _ _ _).keep HS.out.2.1 hk69 (fun _ _ x=>x)) HS.out.2.2.1 HS.out.2.2.2.1 0;rw[← HS.out.2.2.2.2.2.1] at hp4;have H9:=hid (zA1 hk69 (zA1 hv1 hn1));clear hk9 hk69 hpost hp3 hv1 hn1;go_wp2_with (at_builtin;refine z0A ?_;intro q hq);refine hp4.mono ?_;intro e w10 hpost;obtain⟨v2,rfl,⟨ao2,n2,c2',rfl,hn2,hv2⟩,hk10⟩:=hpost.rel;have hsm:=zoZ w10 ao1 n1 c1' ao2 n2 c2' VL VL (H9.out.2.1.keep hk10) hv2 H9.out.2.2 hn2 (by rw[H9.out.2.2,HS.out.2.2.2.2.2.1];exact Nat.le_trans HS.out.2.2.2.2.2.2.1 (by decide));rw[decide_eq_true rfl] at hsm;have H10:=hid (H9.out.1.nx hk10);clear hk10 hpost hp4 hv2 hn2;go_wp2_with (at_builtin;refine z0A ?_;intro q hq);refine hsm.mono ?_;rintro e w11 ⟨rfl,hk11⟩;have H11:=hid (HS.out.2.2.2.2.2.2.2.nx (H10.out.next hk11 (H:=fun _=>False) (fun _ _ x=>x) (fun _ _ x=>x)));clear hk11 hsm;go_wp2_with (at_builtin;refine z0A ?_;intro q hq);refine(z7J _).mono ?_;rintro e w12 ⟨rfl,hk12⟩;have HZ:=hid (H11.out.nx hk12);clear hk12;go_wp2_with (at_builtin;refine z0A ?_;intro q hq);go_ret
      exact⟨by rfl,HZ.out⟩)
end
end Go.Proofs.YtkjofdocgaiedaaGreat
