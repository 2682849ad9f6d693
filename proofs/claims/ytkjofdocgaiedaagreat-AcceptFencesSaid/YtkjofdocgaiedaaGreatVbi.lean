/- Texts AcdD, AceI2, AceK, AceP in one. Conditions: as each law names them. -/
import Derived.Lib.SlBytesConst
import Derived.Test.YtkjofdocgaiedaaGreatVah
import Derived.Test.YtkjofdocgaiedaaGreatVaj
import Derived.Test.YtkjofdocgaiedaaGreatVbb
import Derived.Test.YtkjofdocgaiedaaGreatVbf
import Derived.Test.YtkjofdocgaiedaaGreatVbg
import Derived.Test.YtkjofdocgaiedaaGreatVbh
set_option maxRecDepth 20000
set_option maxHeartbeats 8000000
namespace Go.Proofs.YtkjofdocgaiedaaGreat
section
open Go.RowKit Go.Maps
open MI SO BM DM WM AC
theorem One.stay {w0 w w':World} {T T':Thing} {F:Nat→Prop} (h:One w0 T F w) (t:Turns T' F w w'):∃ F',One w0 T' F' w'∧∀ (g:Nat) (o:Obj),w.heap[g]?=some o→¬ F g→w'.heap[g]?=some o∧¬ F' g:=by
 obtain⟨F',h1,h2,h3⟩:=t;exact⟨F',⟨h1,fun i x=>(h3 i x).elim (h.new i) fun z=>Nat.le_trans h.keep.size z,h.keep.next h2 (fun _ _ x=>x) (fun i hi x=>absurd (h.new i x) (by omega))⟩,fun g o hg hn=>⟨h2.get hg hn,fun x=>(h3 g x).elim hn fun y=>by have:=z0H hg;omega⟩⟩
theorem zcM (w:World):Calls Tryz.prog 9 #[] w fun e w'=>e = .returned (.bool true)∧Keep (fun _=>False) w w':=by
 obtain⟨D1,A1,D2,A2,A3,g1,g2,g3,g4,g5,g6,r1,r2,r3,n1,n2,n3,q1,q2⟩:=k_go;have HG:=hid (zA1 g1 (zA1 g2 (zA1 g3 (zA1 g4 (zA1 g5 (zA1 g6 (zA1 r1 (zA1 r2 r3))))))));have HW:=hid (zA1 n1 (zA1 n2 (zA1 n3 (zA1 q1 q2))));clear g1 g2 g3 g4 g5 g6 r1 r2 r3 n1 n2 n3 q1 q2;go_enter Tryz.func9,Tryz.ntmps9;go_wp2_with fail;refine(znN w 60 (by decide) (by decide)).mono ?_;rintro e w3 ⟨d,Pd,rfl,hD,hk,hP⟩;have L3:One w (DkT d (DM.new 60)) Pd w3:=⟨hD,hP,hk⟩;clear hD hk hP;have ho:=zbP w3 d Pd (DM.new 60) L3.one (by decide +kernel);unfold AOpenPost at ho;rw[ztI] at ho;go_wp2_with fail;refine ho.mono ?_;rintro e w4 ⟨av,rfl,ht⟩;obtain⟨F4,L4⟩:=L3.turn ht;clear ho ht L3;obtain⟨a,rfl,hT⟩:=L4.one;have L4:One w (AcT a d (DM.new 60) kA0) F4 w4:=⟨hT,L4.new,L4.keep⟩;clear hT;have hpr:=z4O w4 a d (DM.new 60) kA0 F4 L4.one zoO.ok (fun _=>by decide) (by decide +kernel) ⟨1,2⟩ (by decide) 1;unfold PrepPost at hpr;rw[HG.out.1] at hpr;have hpr:Calls Tryz.prog 11 #[.pointer (some ⟨a,0,none⟩),.agg #[.int .u64 1,.int .i64 2],.int .u64 1] w4 _:=hpr;go_wp2_with fail;refine hpr.mono ?_;rintro e w5 ⟨v5,us5,Fv5,F5,he,hT,hk,hN,hv,-⟩;have he:e = .returned (.tuple #[v5,.agg #[.int .u64 1,.int .i64 2],.int .i64 0]):=he;subst he;obtain⟨a5,c5,rfl,-⟩:=hv.row.form;obtain⟨F5,L5,-⟩:=L4.stay (T':=AcT a d D1 A1) ⟨F5,hT,hk,hN⟩;clear hpr hT hk hN hv L4;simp only[List.length_nil];have hk6:=kal w5 (.cells #[.int .u64 1,.int .i64 2] 28);have hn6:=heap_alloc_new w5 (.cells #[.int .u64 1,.int .i64 2] 28);have hz6:(w5.alloc (.cells #[.int .u64 1,.int .i64 2] 28)).heap.size=w5.heap.size+1:=by simp
 go_upto_region 6 with fail
 obtain⟨w6,hw6⟩:=zX1 (w5.alloc (.cells #[.int .u64 1,.int .i64 2] 28));rw[← hw6] at hk6 hn6 hz6 ⊢;clear hw6;have L6:=L5.later (AcT.lives _ _ _ _) hk6;have hF6:=(AcT.lives _ _ _ _).lt L5.one;have hk7:=kal w6 (.cells #[.int .u8 120] 5 (1,2));have hn7:=heap_alloc_new w6 (.cells #[.int .u8 120] 5 (1,2));have L7:=L6.later (AcT.lives _ _ _ _) hk7;have hF7:=(AcT.lives _ _ _ _).lt L6.one
 have hac:=zeM _ a d D1 A1 F5 L7.one HG.out.2.2.2.2.2.2.1 (fun _=>by have:=HW.out.1;omega) (by have:=HW.out.2.2.2.1;omega) kV (by decide) (by decide) (some ⟨w6.heap.size,0,none⟩) 1
  ⟨rfl,fun _=>⟨_,rfl,fun t u hu=>by rw[z0N,Nat.zero_add,cell_of_row _ _ _ _ _ _ hn7];simpa [kV,z0B] using hu⟩⟩ (fun _ x hx y=>by cases hx;have:=hF7 _ y;simp only at this;omega)
 unfold AccPost at hac;rw[HG.out.2.1] at hac;have hac:Calls Tryz.prog 10 #[.pointer (some ⟨a,0,none⟩),.agg #[.int .u64 3,.int .u64 1,.int .i64 2,.slice (some ⟨w6.heap.size,0,none⟩) 1 1]] _ _:=hac;have HB:=hid (zA1 hn6 (zA1 hk7 (zA1 hF6 hz6)));have HL7:=hid L7;have hcv:(convert 29 29 (.slice (some ⟨w6.heap.size,0,none⟩) 1 1)).run Tryz.prog (w6.alloc (.cells #[.int .u8 120] 5)) = .ok (.slice (some ⟨w6.heap.size,0,none⟩) 1 1) (w6.alloc (.cells #[.int .u8 120] 5 (1,2))):=Lib.run_convert_bytes_const w6 29 5 #[.int .u8 120] 1 1 Tryz.underlying29 Tryz.underlying5;clear hn6 hk6 hz6 L5 L6 hF6 hk7 hn7 L7 hF7;go_wp2_with fail;refine hac.mono ?_;rintro e w8 ⟨F8,he,hT,hk,hN⟩;have he:e = .returned (.tuple #[.agg #[.int .u64 1,.int .i64 2],.int .i64 0]):=he;subst he;obtain⟨F8,L8,S8⟩:=HL7.out.stay (T':=AcT a d D2 A2) ⟨F8,hT,hk,hN⟩;have b8:=S8 w5.heap.size _ (HB.out.2.1.get HB.out.1 id) (fun y=>by have:=HB.out.2.2.1 _ y;omega);clear hac hT hk hN S8 hcv HL7;have hk9:=kal w8 (.cells #[.int .u64 1,.int .i64 2] 28);have L9:=L8.later (AcT.lives _ _ _ _) hk9;have b9:=hk9.get b8.1 id;have hpr:=z4O _ a d D2 A2 F8 L9.one HG.out.2.2.2.2.2.2.2.1 (fun _=>by have:=HW.out.2.1;omega) (by have:=HW.out.2.2.2.2;omega) ⟨1,1⟩ (by decide) 1;unfold PrepPost at hpr;rw[HG.out.2.2.1] at hpr;have hpr:Calls Tryz.prog 11 #[.pointer (some ⟨a,0,none⟩),.agg #[.int .u64 1,.int .i64 1],.int .u64 1] _ _:=hpr;have HL9:=hid (zA1 L9 (zA1 b9 b8.2));clear L8 L9 b8 b9 hk9;go_wp2_with fail;refine hpr.mono ?_;rintro e w10 ⟨v10,us10,Fv10,F10,he,hT,hk,hN,hv,-⟩;have he:e = .returned (.tuple #[v10,.agg #[.int .u64 1,.int .i64 2],.int .i64 90]):=he;subst he;obtain⟨a10,c10,rfl,-⟩:=hv.row.form;simp only[List.length_nil];obtain⟨F10,L10,S10⟩:=HL9.out.1.stay (T':=AcT a d D2 A2) ⟨F10,hT,hk,hN⟩;have b10:=S10 w5.heap.size _ HL9.out.2.1 HL9.out.2.2;clear hpr hT hk hN hv S10 HL9;have hk11:=kal w10 (.cells #[.int .u64 1,.int .i64 2] 28);have hn11:=heap_alloc_new w10 (.cells #[.int .u64 1,.int .i64 2] 28);have L11:=L10.later (AcT.lives _ _ _ _) hk11;have hFl:=(AcT.lives _ _ _ _).lt L10.one;have b11:=hk11.get b10.1 id;obtain⟨F11,hd11,s11⟩:=L11.one.disk;have L11:=L11.shrink hd11 s11;have hn11b:¬ F11 w10.heap.size:=fun y=>by have:=hFl _ (s11 _ y);omega
 have hb11b:¬ F11 w5.heap.size:=fun y=>b10.2 (s11 _ y);have hcr:=zmM _ d F11 D2 none 0 0 [] L11.one ⟨rfl,fun h=>by omega⟩ (fun h=>by omega) (by decide) (by simp) (by have:=HW.out.2.2.2.2;omega);rw[HG.out.2.2.2.1] at hcr;have HL11:=hid (zA1 L11 (zA1 b11 (zA1 hn11 (zA1 hn11b hb11b))));clear L10 L11 b10 b11 hn11 hk11 hd11 s11 hn11b hb11b hFl;go_wp2_with fail;refine hcr.mono ?_;rintro e w12 ⟨rfl,ht⟩;obtain⟨F12,L12,S12⟩:=HL11.out.1.stay (T':=DkT d D2) ht;have b12:=S12 w5.heap.size _ HL11.out.2.1 HL11.out.2.2.2.2;have c12:=S12 w10.heap.size _ HL11.out.2.2.1 HL11.out.2.2.2.1;clear hcr ht HL11 S12;have ho:=zbP w12 d F12 D2 L12.one (by have:=HW.out.2.2.2.2;omega);unfold AOpenPost at ho;rw[HG.out.2.2.2.2.1] at ho;go_wp2_with fail;refine ho.mono ?_;rintro e w13 ⟨av,rfl,ht⟩;obtain⟨F13,L13,S13⟩:=L12.stay ht;have b13:=S13 w5.heap.size _ b12.1 b12.2;have c13:=S13 w10.heap.size _ c12.1 c12.2;clear ho ht L12 S13 b12 c12;obtain⟨a',rfl,hT⟩:=L13.one;have L13:One w (AcT a' d D2 A3) F13 w13:=⟨hT,L13.new,L13.keep⟩;clear hT;have hpr:=z4O w13 a' d D2 A3 F13 L13.one HG.out.2.2.2.2.2.2.2.2 (fun _=>by have:=HW.out.2.2.1;omega) (by have:=HW.out.2.2.2.2;omega) ⟨2,0⟩ (by decide) 1;unfold PrepPost at hpr;rw[HG.out.2.2.2.2.2.1] at hpr;have hpr:Calls Tryz.prog 11 #[.pointer (some ⟨a',0,none⟩),.agg #[.int .u64 2,.int .i64 0],.int .u64 1] _ _:=hpr;have HL13:=hid (zA1 L13 (zA1 b13 c13));clear L13 b13 c13;go_wp2_with fail;refine hpr.mono ?_;rintro e w14 ⟨v14,us14,Fv14,F14,he,hT,hk,hN,hv,-⟩;have he:e = .returned (.tuple #[v14,.agg #[.int .u64 2,.int .i64 0],.int .i64 0]):=he;subst he;obtain⟨a14,c14,rfl,-⟩:=hv.row.form;obtain⟨F14,L14,S14⟩:=HL13.out.1.stay (T':=AcT a' d (z2M D2 A3 ⟨2,0⟩ 1).2.1 (z2M D2 A3 ⟨2,0⟩ 1).2.2) ⟨F14,hT,hk,hN⟩;have b14:=S14 w5.heap.size _ HL13.out.2.1.1 HL13.out.2.1.2;have c14':=S14 w10.heap.size _ HL13.out.2.2.1 HL13.out.2.2.2;clear hpr hT hk hN S14 HL13;have hk15:=kal w14 (.cells #[.int .u64 2,.int .i64 0] 28);obtain⟨g,ua,uc,rfl,hcell,hrow⟩:=hv.get 0 (by decide);have x0:=z0D hk15 _ _ (hcell 0 _ rfl);have x3:=z0D hk15 _ _ (hcell 3 _ rfl);have hrow:=hrow.keep hk15 (fun _ _ x=>x);have y6:=hk15.get b14.1 id;have y11:=hk15.get c14'.1 id;have hkz:=L14.keep.nx hk15;obtain⟨w15,hw15⟩:=zX1 (w14.alloc (.cells #[.int .u64 2,.int .i64 0] 28));rw[← hw15] at x0 x3 hrow y6 y11 hkz;replace x0:w15.cell? ⟨g,0,none⟩=some (.int .u64 3):=x0;replace x3:w15.cell? ⟨g,3,none⟩=some (.slice ua 1 uc):=x3;replace hrow:Row w15 5 1 (.slice ua 1 uc) 1 (z0B [120]):=hrow;have z6:w15.cell? ⟨w5.heap.size,0,none⟩=some (.int .u64 1):=by simp[World.cell?,y6]
 have z11:w15.cell? ⟨w10.heap.size,1,none⟩=some (.int .i64 2):=by simp[World.cell?,y11]
 have hcv:=z3J (P:=Tryz.prog) Tryz.underlying29 Tryz.underlying5 Tryz.underlying9 (c:=uc) (Cells.of_row hrow);have q:((str [120]).toList == [120])=true:=by rw[z0Y];rfl
 have HK:=hid hkz;clear hk15 hcell hv L14 b14 c14' y6 y11 hkz hrow;simp only[List.length_cons,List.length_nil,Nat.zero_add]
 go_upto_region 13 with fail
 rw[← hw15];clear hw15;go_wp2_with fail;go_ret;exact⟨rfl,HK.out⟩
end
section
open Go.RowKit Go.Maps
open MI SO BM DM WM AC
theorem zhR (w:World) (a sb:Nat) (b:Bal) (nv:Value) (k:Nat) (hh:w.heap[a]?=some (.cells (accC sb b nv true) 86 (0,0))) :
  Calls Tryz.prog 14 #[.pointer (some ⟨a,0,none⟩),.int .u64 (k:Int)] w (VotesPost w []):=by
 obtain⟨k0,k1,k2,k3,k4,kf,kb⟩:=z1W hh;clear hh;go_enter Tryz.func14,Tryz.ntmps14;go_wp2_with fail;go_ret;exact⟨_,[],fun _=>False,rfl,Votes.nil _ _,fun _ x=>x.elim,Keep.refl _ _⟩
theorem zcO (w:World) (a d:Nat) (D:Dk) (A:Ac) (F:Nat→Prop) (H:AcT a d D A w F) (hO:AOk A) (hm:A.s.ps.length≤890000) (k:Nat) :
  Calls Tryz.prog 14 #[.pointer (some ⟨a,0,none⟩),.int .u64 (k:Int)] w (VotesPost w (A.votes k)):=by
 obtain⟨sb,nv,X,Y,Z,hbox,-,⟨⟨us,hvt⟩,-⟩,-⟩:=H;unfold Ac.votes
 cases hd:A.s.dead with
 | true=>
   have h1:=hbox.1;rw[hd] at h1;exact zhR w a sb A.b nv k h1
 | false=>
   obtain⟨l1,l2,l3⟩:=hO.lens hd (Nat.le_trans hm (by decide));have h:=zhA w a sb A.b nv A.s.dead Z A.vs us k hbox.1 hvt l1 l2 l3;rw[hd] at h;exact h
theorem AC.Ac.votes_len {A:Ac} (hO:AOk A) (hm:A.s.ps.length≤890000) (k:Nat):(A.votes k).length≤1000000:=by
 unfold Ac.votes
 cases hd:A.s.dead with
 | true=>exact Nat.zero_le _
 | false=>
   obtain⟨-,-,l3⟩:=hO.lens hd (Nat.le_trans hm (by decide));exact Nat.le_trans (List.length_filter_le _ _) l3
def VtsR (l:List Vt) (v:Value) (w:World):Prop:=∃ ao n c,v = .slice ao n c∧n=l.length∧VotesC w ao l
theorem VotesPost.rel {l:List Vt} {w w':World} {e:Ending} (h:VotesPost w l e w'):∃ v,e = .returned v∧VtsR l v w'∧Keep (fun _=>False) w w':=by
 obtain⟨v,us,Fv,rfl,hv,-,hk⟩:=h;obtain⟨ao,c,rfl,-⟩:=hv.row.form;exact⟨_,rfl,⟨ao,_,c,rfl,rfl,hv.read⟩,hk⟩
end
section
open Go.RowKit Go.Maps
open MI SO BM DM WM AC
structure VKept (W wr:World) (vv:Value) (vs:List Vt) (us:List Value):Prop where
 row:Row wr 31 4 vv vs.length (z0R vs us)
 len:us.length=vs.length
 each:∀ j (hj:j<vs.length),∃ ua uc,us.getD j undef = .slice ua vs[j].val.length uc∧vs[j].val.length≤uc∧uc≤maxLen∧Cells W ua vs[j].val.length 1 (z0B vs[j].val)
theorem VKept.nil (W wr:World):VKept W wr (.slice none 0 0) [] []:=⟨Row.nil _ _ _,rfl,fun j hj=>by simp at hj⟩
theorem VKept.keep {W wr wx:World} {vv:Value} {vs:List Vt} {us:List Value} {K:Nat→Prop} (h:VKept W wr vv vs us) (hk:Keep K wr wx) (hn:∀ k,vv.ownBlock=some k→¬ K k):VKept W wx vv vs us:=
 ⟨h.row.keep hk hn,h.len,h.each⟩
structure KH (W:World) (p tb:Nat) (vv:Value) (top:Bal) (vs:List Vt) (D1:Dk) (A1:Ac) (D2:Dk) (A2:Ac) (d m a r:Nat) (X F G:Nat→Prop) (wr:World):Prop where
 three:Three W (BoxT p (zdS d m (.pointer (some ⟨a,0,none⟩)) (.pointer (some ⟨r,0,none⟩))) 40) X (AcP d D1 (some A1) (.pointer (some ⟨a,0,none⟩))) F (RAcP m D2 (some A2) (.pointer (some ⟨r,0,none⟩))) G wr
 votes:∃ us,VKept W wr vv vs us
 far:∀ k,k=tb∨vv.ownBlock=some k→W.heap.size≤k∧¬ X k∧¬ F k∧¬ G k
 apart:vv.ownBlock≠some tb
 top:wr.heap[tb]?=some (.cells (balC top) 28 (0,0))
section
variable {W wr wx:World} {p tb:Nat} {vv:Value} {top:Bal} {vs:List Vt} {D1 D2 D':Dk} {A1 A2 A':Ac} {d m a r:Nat} {X F F' G G' K:Nat→Prop}
theorem KH.lt (h:KH W p tb vv top vs D1 A1 D2 A2 d m a r X F G wr) (k:Nat) (hk:k=tb∨vv.ownBlock=some k):k<wr.heap.size:=by
 rcases hk with rfl | hk
 ·exact z0H h.top
 ·obtain⟨us,hv⟩:=h.votes
  exact hv.row.lt hk
theorem KH.box (h:KH W p tb vv top vs D1 A1 D2 A2 d m a r X F G wr):p<wr.heap.size∧X p∧¬ F p∧¬ G p:=⟨z0H h.three.one.1,h.three.one.2.1,fun y=>h.three.a12 p h.three.one.2.1 y,fun y=>h.three.a13 p h.three.one.2.1 y⟩
theorem KH.old (h:KH W p tb vv top vs D1 A1 D2 A2 d m a r X F G wr) (k:Nat) (hk:X k∨F k∨G k):k<wr.heap.size:=
 hk.elim (h.three.one.2.2 k) fun x=>x.elim ((AcP.lives _ _ _ _).lt h.three.two k) ((RAcP.lives _ _ _ _).lt h.three.three k)
theorem KH.later (h:KH W p tb vv top vs D1 A1 D2 A2 d m a r X F G wr) (hk:Keep (fun _=>False) wr wx):KH W p tb vv top vs D1 A1 D2 A2 d m a r X F G wx:=
 ⟨h.three.later (BoxT.lives _ _ _) (AcP.lives _ _ _ _) (RAcP.lives _ _ _ _) hk,let ⟨us,hv⟩:=h.votes;⟨us,hv.keep hk (fun _ _ x=>x)⟩,h.far,h.apart,hk.get h.top id⟩
theorem KH.beside {g:Nat} (h:KH W p tb vv top vs D1 A1 D2 A2 d m a r X F G wr) (hk:Keep (fun k=>k=g) wr wx) (hg:W.heap.size≤g∧¬ X g∧¬ F g∧¬ G g) (h1:g≠tb) (h2:vv.ownBlock≠some g):KH W p tb vv top vs D1 A1 D2 A2 d m a r X F G wx:=
 ⟨h.three.beside (BoxT.lives _ _ _) (AcP.lives _ _ _ _) (RAcP.lives _ _ _ _) hk (fun i x e=>hg.2.1 (by rw[← show i=g from e];exact x)) (fun i x e=>hg.2.2.1 (by rw[← show i=g from e];exact x)) (fun i x e=>hg.2.2.2 (by rw[← show i=g from e];exact x)) (fun i e=>by rw[show i=g from e];exact hg.1),
  let ⟨us,hv⟩:=h.votes;⟨us,hv.keep hk (fun k e x=>h2 (by rw[← show k=g from x];exact e))⟩,h.far,h.apart,hk.get h.top (fun e=>h1 e.symm)⟩
theorem KH.to2 (h:KH W p tb vv top vs D1 A1 D2 A2 d m a r X F G wr) (h1:AcT a d D' A' wx F') (hk:Keep F wr wx) (hn:∀ i,F' i→F i∨wr.heap.size≤i):KH W p tb vv top vs D' A' D2 A2 d m a r X F' G wx:=by
 refine⟨h.three.to2 (BoxT.lives _ _ _) (RAcP.lives _ _ _ _) ⟨a,rfl,h1⟩ hk hn,?_,fun k x=>?_,h.apart,hk.get h.top (h.far tb (.inl rfl)).2.2.1⟩
 ·obtain⟨us,hv⟩:=h.votes
  exact⟨us,hv.keep hk fun k e=>(h.far k (.inr e)).2.2.1⟩
 ·obtain⟨h2,h3,h4,h5⟩:=h.far k x
  refine⟨h2,h3,fun y=>?_,h5⟩
  rcases hn k y with z | z
  ·exact h4 z
  ·have:=h.lt k x;omega
theorem KH.set (h:KH W p tb vv top vs D1 A1 D2 A2 d m a r X F G wr) {top':Bal} (hk:Keep (fun k=>k=tb) wr wx) (hh:wx.heap[tb]?=some (.cells (balC top') 28 (0,0))):KH W p tb vv top' vs D1 A1 D2 A2 d m a r X F G wx:=by
 obtain⟨f1,f2,f3,f4⟩:=h.far tb (.inl rfl)
 exact⟨h.three.beside (BoxT.lives _ _ _) (AcP.lives _ _ _ _) (RAcP.lives _ _ _ _) hk (fun i x e=>f2 (by rw[← show i=tb from e];exact x)) (fun i x e=>f3 (by rw[← show i=tb from e];exact x)) (fun i x e=>f4 (by rw[← show i=tb from e];exact x)) (fun i e=>by rw[show i=tb from e];exact f1),
  let ⟨us,hv⟩:=h.votes;⟨us,hv.keep hk (fun k e x=>h.apart (by rw[← show k=tb from x];exact e))⟩,h.far,h.apart,hh⟩
end
def PS (p po k:Nat) (ptr:Value) (v:Vt) (w:World):Prop:=
 w.cell? ⟨p,po,none⟩=some ptr∧w.cell? ⟨k,0,none⟩=some (.int .u64 (v.slot:Int))∧w.cell? ⟨k,1,none⟩=some (.int .u64 (v.bal.n:Int))∧w.cell? ⟨k,2,none⟩=some (.int .i64 v.bal.node)
theorem PS.keep {p po k:Nat} {ptr:Value} {v:Vt} {K:Nat→Prop} {wa wb:World} (hk:Keep K wa wb) (h1:¬ K p) (h2:¬ K k) (h:PS p po k ptr v wa):PS p po k ptr v wb:=
 let ⟨a,b,c,d⟩:=h
 ⟨z2K hk h1 a,z2K hk h2 b,z2K hk h2 c,z2K hk h2 d⟩
end
section
open Go.RowKit Go.Maps
open MI SO BM DM WM AC
def BS (p k:Nat) (ptr:Value) (b:Bal) (w:World):Prop:=
 w.cell? ⟨p,1,none⟩=some ptr∧w.cell? ⟨k,0,none⟩=some (.int .u64 (b.n:Int))∧w.cell? ⟨k,1,none⟩=some (.int .i64 b.node)
theorem BS.keep {p k:Nat} {ptr:Value} {b:Bal} {K:Nat→Prop} {wa wb:World} (hk:Keep K wa wb) (h1:¬ K p) (h2:¬ K k) (h:BS p k ptr b wa):BS p k ptr b wb:=
 let ⟨a,b,c⟩:=h
 ⟨z2K hk h1 a,z2K hk h2 b,z2K hk h2 c⟩
theorem AC.safe_new (n:Nat):(DM.new n).safe.length=n:=by simp[DM.new]
theorem AC.half_new (n:Nat):WM.half (DM.new n)=(n - 2) / 2:=by unfold WM.half;rw[safe_new]
theorem AC.fen_n {k:Nat} (h:k<20):8+8 * k≤890000∧1024+10240 * (k+1)≤490000∧1024+10240 * (k+1)≤1024+10240 * (k+1+1)∧8+8 * k≤8+8 * (k+1)∧70+290 * k≤70+290 * (k+1)∧70+290 * k+220+70≤70+290 * (k+1)∧70+290 * k+220≤32 * 199∧70+290 * k+220+70≤32 * 199:=by omega
theorem AC.fen_g {x y z m n c r:Nat} (a:x≤y+n) (b:y≤z+c) (h:z≤m) (e:m+(c+n)≤r):x≤r:=by omega
theorem AC.fen_h (k:Nat):1024+10240 * (k+1)+(5120+5120)≤1024+10240 * (k+1+1):=by omega
theorem AC.fen_i (k:Nat):8+8 * k+(2+1)≤8+8 * (k+1):=by omega
theorem AC.fen_m (k:Nat):∀ x y z:Nat,x≤y+5120→y≤z+5120→z≤1024+10240 * (k+1)→x≤1024+10240 * (k+1+1):=fun _ _ _ a b c=>AC.fen_g a b c (AC.fen_h k)
theorem AC.fen_l (k:Nat):∀ x y z:Nat,x≤y+1→y≤z+2→z≤8+8 * k→x≤8+8 * (k+1):=fun _ _ _ a b c=>AC.fen_g a b c (AC.fen_i k)
theorem AC.room400:Room 199 0 (DM.new 400) kA0:=by
 have hs:Sound (DM.new 400) nS0:=by
  have hs:=zeD (D:=DM.new 400) ⟨rfl,rfl⟩ (Ok.new (by decide) (by decide)) (by rw[safe_new];decide) nS0 (by rw[zoW 400 (by decide)]);rw[zoW 400 (by decide)] at hs;exact hs
 exact⟨hs,⟨fun _=>⟨.inl rfl,List.Pairwise.nil,fun v hv=>by cases hv⟩,fun _=>rfl⟩,by rw[half_new],Nat.le_refl 0⟩
def FRel (W:World) (p tb:Nat) (top:Bal) (D':Dk) (A':Ac) (D2:Dk) (A2:Ac) (d m a r:Nat) (X F G:Nat→Prop) (rb:Bal) (w0:World) (g:Nat) (wx:World):Prop:=
 ∃ F3,KH W p tb (.slice none 0 0) top [] D' A' D2 A2 d m a r X F3 G wx∧wx.heap[g]?=some (.cells (balC rb) 28 (0,0))∧w0.heap.size≤g∧Keep (fun k=>F k∨w0.heap.size≤k) w0 wx∧(∀ k,F3 k→F k∨w0.heap.size≤k)∧¬ F3 g
structure FLoop (W:World) (p tb k:Nat) (wr:World):Prop where
 ex:∃ top D A D2 A2 d m a r X F G,KH W p tb (.slice none 0 0) top [] D A D2 A2 d m a r X F G wr∧Room 199 (70+290 * k) D A∧A.b=top∧D.waits.length≤1024+10240 * (k+1)∧A.s.ps.length≤8+8 * k
theorem zrT (w:World) (b:Bal) (hbR:BalsR b) (v:Value) (l:List Vt) (hl:VoteL w v l) :
  Calls Tryz.prog 4 #[balV b,v] w fun e w'=>e = .returned (.bool true)∧Keep (fun _=>False) w w':=by
 obtain⟨ao,c,rfl,hlc,hcm⟩:=hl.form;obtain⟨m,hm⟩:=zX1 (l.length);rw[← hm] at hl hlc ⊢;have HL:=hid hl;have Hm:=hid hm;have hn1:=heap_alloc_new w (.cells (balC b) 28);have hk1:=kal w (.cells (balC b) 28);have HN1:=hid (zA1 hn1 hk1);have HbR:=hid hbR;clear hl hcm hm hn1 hk1 hbR;go_enter Tryz.func4,Tryz.ntmps4
 go_upto_region 1 with fail
 obtain⟨w1,hw1⟩:=zX1 (w.alloc (.cells (balC b) 28));rw[← hw1] at HN1 ⊢;clear hw1;obtain⟨bx,hbx⟩:=zX1 (w.heap.size);rw[← hbx] at HN1 ⊢;have HBX:=hid hbx;clear hbx;go_wp2_with fail;refine(zgZ w1 400 (by decide) (by decide)).mono ?_;rintro e w2 ⟨p,rfl,hP2⟩;rw[znE 400 (by decide)] at hP2;obtain⟨d,mm,av,rv,X,F,G,h⟩:=hP2;obtain⟨a,rfl,-⟩:=h.two;obtain⟨r,rfl,-⟩:=h.three;have hbx1:=z0H HN1.out.1
 have K2:KH w p bx (.slice none 0 0) b [] (DM.new 400) kA0 (DM.new 400) kA0 d mm a r X F G w2:=
  ⟨⟨h.one,h.two,h.three,h.a12,h.a13,h.a23,fun i x=>by have:=h.new1 i x;have:=HN1.out.2.size;omega,fun i x=>by have:=h.new2 i x;have:=HN1.out.2.size;omega,fun i x=>by have:=h.new3 i x;have:=HN1.out.2.size;omega,HN1.out.2.next h.keep (fun _ _ x=>x) (fun _ _ x=>x)⟩,
   ⟨[],VKept.nil _ _⟩,fun k x=>by
    rcases x with rfl | x
    ·exact⟨by have:=HBX.out;omega,fun y=>by have:=h.new1 _ y;omega,fun y=>by have:=h.new2 _ y;omega,fun y=>by have:=h.new3 _ y;omega⟩
    ·simp[Value.ownBlock] at x,by simp[Value.ownBlock],h.keep.get HN1.out.1 id⟩
 have HK2:=hid K2;clear K2 h hbx1;obtain⟨R,hR⟩:=zX1 (z2M (DM.new 400) kA0 b 1);obtain⟨⟨RV,rb,rc⟩,RD,RA⟩:=R;have HR:=hid hR;clear hR
 go_upto_region 4 with fail
 go_cut [7,8,9] (fun lv gv ev wx=>∃ g:Nat,gv = .pointer (some ⟨g,0,none⟩)∧ev = .int .i64 rc∧Hid (FRel w p bx b RD RA (DM.new 400) kA0 d mm a r X F G rb w2 g wx))
 case first=>
  obtain⟨-,h1,-,-,-,-⟩:=z2Y HK2.out.three.one.1;obtain⟨t0,t1,-,-⟩:=z1L HK2.out.top;have HS:=hid (show BS p bx (.pointer (some ⟨a,0,none⟩)) b w2 from⟨h1,t0,t1⟩);clear h1 t0 t1;have x1:BS p bx (.pointer (some ⟨a,0,none⟩)) b w2.drew:=HS.out;have hkd:Keep (fun _=>False) w2 w2.drew:=(Keep.refl _ _).drew;have HK0:=hid (HK2.out);have HVb:=hid (show ¬ F bx∧bx<w2.heap.size from⟨(HK2.out.far bx (.inl rfl)).2.2.1,z0H HK2.out.top⟩);refine Twin.z5L (BS p bx (.pointer (some ⟨a,0,none⟩)) b) [] [34,35] 5 10 (by kernel_rfl) (by kernel_rfl) (by rfl) (by kernel_rfl) ?_ ?_
  ·obtain⟨wd,hwd⟩:=zX1 (w2.drew)
   rw[← hwd] at x1 hkd ⊢;have hwds:wd.heap.size=w2.heap.size:=by rw[hwd];rfl
   clear hwd;obtain⟨w5,hw5⟩:=zX1 (wd);have x2:=x1;have hk05:=hkd;have hz5:=hwds;rw[← hw5] at x2 hk05 hz5 ⊢;clear hw5;have C1:=HK0.out.later hk05;obtain⟨a',e,hac⟩:=C1.three.two;cases e;have hcr:=z4O w5 a d (DM.new 400) kA0 F hac room400.ok (fun _=>by decide) (by simp[DM.new]) b HbR.out.1 1;rw[← HR.out] at hcr;have HC:=hid C1;clear C1 hac
   repeat (apply Twin.z0E (by rfl) (by exact x2);(intro K w' hS;obtain⟨s1,s2,s3⟩:=hS;go_simp;exact id))
   refine Twin.z0G (by decide) (by rfl) (by exact x2) (fun K hK=>?_);go_simp;refine hcr.mono ?_;rintro e w6 ⟨lv,us,Fv,F6,rfl,hT,hkc,hN,-,-,-⟩;have C2:=HC.out.to2 hT hkc hN;have x3:=BS.keep hkc (fun y=>HC.out.box.2.2.1 y) (fun y=>HVb.out.1 y) x2;have hs56:=hkc.size;have htb:=z0H HK0.out.top;have hWs:=HK0.out.three.keep.size;have hvbs:=HVb.out.2;have hpl:=HK0.out.box.1;go_simp;refine hK _ _ (fun h=>by cases h) x3 ?_;clear hK K x2
   repeat (apply Twin.z0E (by rfl) (by exact x3);(intro K w' hS;obtain⟨s1,s2,s3⟩:=hS;go_simp;exact id))
   have hk7:=kal w6 (.cells #[.int .u64 0,.int .i64 0] 28);have hn7:=heap_alloc_new w6 (.cells #[.int .u64 0,.int .i64 0] 28);have x4:=BS.keep hk7 id id x3;obtain⟨hbx,hk8⟩:=zhS w6 rb;refine Twin.z0G (by decide) (by rfl) (by exact x3) (fun K hK=>?_);go_simp;refine hK _ _ (fun _=>Pre.alloc (Pre.refl _) _) x4 ?_;clear hK K;obtain⟨w7,hw7⟩:=zX1 (w6.alloc (.cells #[.int .u64 0,.int .i64 0] 28));rw[← hw7] at hn7 x4 hbx hk8 ⊢;clear hw7;obtain⟨d0,d1,f0,-⟩:=z1L hn7
   repeat (apply Twin.z0E (by rfl) (by exact x4);(intro K w' hS;obtain⟨s1,s2,s3⟩:=hS;go_simp;exact id))
   obtain⟨wz,hwz⟩:=zX1 ((w7.setCell ⟨w6.heap.size,0,none⟩ (.int .u64 (rb.n:Int))).setCell ⟨w6.heap.size,1,none⟩ (.int .i64 rb.node));rw[← hwz] at hbx hk8;have x5:=BS.keep hk8 (fun e=>by have e2:p=w6.heap.size:=e;omega) (fun e=>by have e2:bx=w6.heap.size:=e;omega) x3
   have hF6:¬ F6 (w6.heap.size):=fun y=>by
    have h1:=(AcT.lives _ _ _ _).lt hT _ y
    rcases hN _ y with z | z
    ·have:=HK0.out.old _ (.inr (.inl z));omega
    ·omega
   have C3:=C2.beside hk8 ⟨by omega,fun y=>by have:=HK0.out.old _ (.inl y);omega,hF6,fun y=>by have:=HK0.out.old _ (.inr (.inr y));omega⟩ (by omega) (by simp[Value.ownBlock]);have hkz:Keep (fun k=>F k∨w2.heap.size≤k) w2 wz:=(hk05.next hkc (H:=fun k=>F k∨w2.heap.size≤k) (fun _ _ x=>x.elim) (fun _ _ x=>.inl x)).next hk8 (fun _ _ x=>x) (fun k _ e=>.inr (by have e2:k=w6.heap.size:=e;omega));have HZ:=hid (show FRel w p bx b RD RA (DM.new 400) kA0 d mm a r X F G rb w2 (w6.heap.size) wz from⟨F6,C3,hbx,by omega,hkz,fun k x=>(hN k x).imp id fun y=>by omega,hF6⟩);refine Twin.z0G (by decide) (by rfl) (by exact x4) (fun K hK=>?_);go_simp;rw[← hwz];refine hK _ _ (fun h=>by cases h) x5 ?_;clear hK K hwz
   repeat (apply Twin.z0E (by rfl) (by exact x5);(intro K w' hS;obtain⟨s1,s2,s3⟩:=hS;go_simp;exact id))
   refine Twin.z0Q ?_;clear x3 x4 hk7 x5 hn7 hbx hk8 d0 d1 f0 hT hkc hN hcr hkz C2 C3 hF6 hs56 hpl hk05 htb hWs hvbs;go_wp2_with fail;go_meet;exact⟨w6.heap.size,rfl,rfl,HZ⟩
  ·simp only[List.take_succ_cons,List.take_zero,List.drop_succ_cons,List.drop_zero,List.cons_append,List.nil_append]
   obtain⟨wd,hwd⟩:=zX1 (w2.drew);rw[← hwd] at x1 hkd ⊢;have hwds:wd.heap.size=w2.heap.size:=by rw[hwd];rfl
   clear hwd;have hk0:=kal wd (.cells #[.int .u64 0,.int .i64 0] 28);have hn0:(wd.alloc (.cells #[.int .u64 0,.int .i64 0] 28)).heap[w2.heap.size]?=some (.cells #[.int .u64 0,.int .i64 0] 28 (0,0)):=by rw[← hwds];exact heap_alloc_new wd (.cells #[.int .u64 0,.int .i64 0] 28)
   have hz5:(wd.alloc (.cells #[.int .u64 0,.int .i64 0] 28)).heap.size=w2.heap.size+1:=by simp[hwds]
   have x2:=BS.keep hk0 id id x1;refine Twin.z0G (by decide) (by rfl) (by exact x1) (fun K hK=>?_);go_simp;refine hK _ _ (fun _=>Pre.alloc (Pre.refl _) _) x2 ?_;clear hK K;obtain⟨w5,hw5⟩:=zX1 (wd.alloc (.cells #[.int .u64 0,.int .i64 0] 28));rw[← hw5] at hk0 hn0 x2 hz5 ⊢;clear hw5;have hk05:=hkd.nx hk0;have C1:=HK0.out.later hk05;obtain⟨a',e,hac⟩:=C1.three.two;cases e;have hcr:=z4O w5 a d (DM.new 400) kA0 F hac room400.ok (fun _=>by decide) (by simp[DM.new]) b HbR.out.1 1;rw[← HR.out] at hcr;have HC:=hid C1;clear C1 hac
   repeat (apply Twin.z0E (by rfl) (by exact x2);(intro K w' hS;obtain⟨s1,s2,s3⟩:=hS;go_simp;exact id))
   refine Twin.z0G (by decide) (by rfl) (by exact x2) (fun K hK=>?_);go_simp;refine hcr.mono ?_;rintro e w6 ⟨lv,us,Fv,F6,rfl,hT,hkc,hN,-,-,-⟩;have C2:=HC.out.to2 hT hkc hN;have x3:=BS.keep hkc (fun y=>HC.out.box.2.2.1 y) (fun y=>HVb.out.1 y) x2;have hs56:=hkc.size;have htb:=z0H HK0.out.top;have hWs:=HK0.out.three.keep.size;have hvbs:=HVb.out.2;have hpl:=HK0.out.box.1;go_simp;refine hK _ _ (fun h=>by cases h) x3 ?_;clear hK K x2
   repeat (apply Twin.z0E (by rfl) (by exact x3);(intro K w' hS;obtain⟨s1,s2,s3⟩:=hS;go_simp;exact id))
   have hn7:=hkc.get hn0 (fun y=>by have:=HK0.out.old _ (.inr (.inl y));omega);obtain⟨d0,d1,f0,-⟩:=z1L hn7;obtain⟨-,hk8,-⟩:=z3B w6 w2.heap.size _ _ hn7 (.int .u64 (rb.n:Int)) (.int .i64 rb.node);have hbx:=z0A (z0A hn7 0 (.int .u64 (rb.n:Int))) 1 (.int .i64 rb.node);obtain⟨wz,hwz⟩:=zX1 ((w6.setCell ⟨w2.heap.size,0,none⟩ (.int .u64 (rb.n:Int))).setCell ⟨w2.heap.size,1,none⟩ (.int .i64 rb.node));rw[← hwz] at hbx hk8;have x5:=BS.keep hk8 (fun e=>by have e2:p=w2.heap.size:=e;omega) (fun e=>by have e2:bx=w2.heap.size:=e;omega) x3
   have hF6:¬ F6 (w2.heap.size):=fun y=>by
    have h1:=(AcT.lives _ _ _ _).lt hT _ y
    rcases hN _ y with z | z
    ·have:=HK0.out.old _ (.inr (.inl z));omega
    ·omega
   have C3:=C2.beside hk8 ⟨by omega,fun y=>by have:=HK0.out.old _ (.inl y);omega,hF6,fun y=>by have:=HK0.out.old _ (.inr (.inr y));omega⟩ (by omega) (by simp[Value.ownBlock]);have hkz:Keep (fun k=>F k∨w2.heap.size≤k) w2 wz:=(hk05.next hkc (H:=fun k=>F k∨w2.heap.size≤k) (fun _ _ x=>x.elim) (fun _ _ x=>.inl x)).next hk8 (fun _ _ x=>x) (fun k _ e=>.inr (by have e2:k=w2.heap.size:=e;omega));have HZ:=hid (show FRel w p bx b RD RA (DM.new 400) kA0 d mm a r X F G rb w2 (w2.heap.size) wz from⟨F6,C3,hbx,by omega,hkz,fun k x=>(hN k x).imp id fun y=>by omega,hF6⟩);refine Twin.z0G (by decide) (by rfl) (by exact x3) (fun K hK=>?_);go_simp;rw[← hwz];refine hK _ _ (fun h=>by cases h) x5 ?_;clear hK K hwz
   repeat (apply Twin.z0E (by rfl) (by exact x5);(intro K w' hS;obtain⟨s1,s2,s3⟩:=hS;go_simp;exact id))
   refine Twin.z0Q ?_;clear x3 hn0 hk0 x5 hn7 hbx hk8 d0 d1 f0 hT hkc hN hcr hkz C2 C3 hF6 hs56 hpl hk05 htb hWs hvbs;go_wp2_with fail;go_meet;exact⟨w2.heap.size,rfl,rfl,HZ⟩
 case rest=>
  obtain⟨w3,rfl⟩:=zX1 (wc);obtain⟨g,rfl,rfl,HG⟩:=hcut;obtain⟨F3,K3,hgb,hgn,hk3,hF3,-⟩:=HG.out;obtain⟨t0,t1,-,-⟩:=z1L K3.top;obtain⟨c0,c1,-,-⟩:=z1L hgb;have hrt:=zbS w3 b
  cases hrb:z2C b with
  | false=>
    have e:=AC.zpE (D:=DM.new 400) (A:=kA0) hrb 1;rw[← HR.out] at e;obtain⟨⟨e1,e2⟩,-⟩:(RV = []∧rb=Bal.zero∧rc=2)∧True:=⟨by simpa using congrArg (fun x=>(x.1.1,x.1.2.1,x.1.2.2)) e,trivial⟩;obtain⟨rfl,rfl⟩:=e2;rw[hrb] at hrt;have HK:=hid K3.three.keep;have c0:w3.cell? ⟨g,0,none⟩=some (.int .u64 0):=c0;have c1:w3.cell? ⟨g,1,none⟩=some (.int .i64 0):=c1;clear K3 hgb hgn hk3 hF3 HG e e1 hrb;go_wp2_with fail;refine hrt.mono ?_;rintro e w4 ⟨rfl,hk4⟩;have c0:=z0D hk4 _ _ c0;have c1:=z0D hk4 _ _ c1;have HK4:=hid (HK.out.nx hk4);clear hk4 hrt t0 t1;go_wp2_with fail;refine(zcM _).mono ?_;rintro e w5 ⟨rfl,hk5⟩;have HZ:=hid (HK4.out.nx hk5);clear hk5;go_wp2_with fail;go_ret;exact⟨by rfl,HZ.out⟩
  | true=>
    have hOb:OkB b:=⟨hrb,HbR.out.1⟩
    have hlz:less b Bal.zero=false:=by
     cases h:less b Bal.zero with
     | false=>rfl
     | true=>exact absurd (zcQ h (AC.zgG hrb)) (by rw[z6F];decide)
    obtain⟨p1,p2,p3,p4⟩:=room400.prep (by decide) hOb hlz 1;rw[← HR.out] at p1 p2 p3 p4;simp only at p1 p2 p3 p4;obtain⟨rfl,rfl⟩:rb=b∧rc=0:=by simpa using congrArg (fun x=>(x.2.1,x.2.2)) p1
    have hw3:RD.waits.length≤1024+10240 * (0+1):=by
     have h:=z7U (D:=DM.new 400) (by rw[safe_new];decide) kA0 rb 1;rw[← HR.out] at h;have h2:(DM.new 400).waits.length=0:=rfl;simp only at h;omega
    have hps3:RA.s.ps.length≤8+8 * 0:=by
     have h:=zeZ (DM.new 400) kA0 rb 1;rw[← HR.out] at h;have h2:kA0.s.ps.length=0:=rfl;simp only at h;omega
    have H3:=hid (zA1 K3 (zA1 p2 (zA1 p3 (zA1 hw3 hps3))));rw[hrb] at hrt;clear hOb hlz p1 p2 p3 p4 hw3 hps3 K3 hgb hgn hk3 hF3 HG hrb c0 c1;go_wp2_with fail;refine hrt.mono ?_;rintro e w4 ⟨rfl,hk4⟩;have t0:=z0D hk4 _ _ t0;have t1:=z0D hk4 _ _ t1;have hn5:=heap_alloc_new w4 (.cells (balC rb) 28);have hk5:=kal w4 (.cells (balC rb) 28);have HN5:=hid (zA1 hn5 (zA1 hk5 hk4));clear hn5 hk5 hk4 hrt
    go_upto_region 10 with fail
    obtain⟨w5,hw5⟩:=zX1 (w4.alloc (.cells (balC rb) 28));rw[← hw5] at HN5 ⊢;clear hw5 t0 t1;obtain⟨tb,htb⟩:=zX1 (w4.heap.size);rw[← htb] at HN5 ⊢
    have HR0:=hid (show FLoop w p tb 0 w5 from by
     obtain⟨K3,p2,p3,hw3,hps3⟩:=H3.out;have K4:=K3.later HN5.out.2.2;have K5:=K4.later HN5.out.2.1;refine⟨rb,RD,RA,DM.new 400,kA0,d,mm,a,r,X,F3,G,⟨K5.three,⟨[],VKept.nil _ _⟩,fun k x=>?_,by simp[Value.ownBlock],HN5.out.1⟩,p2,p3,hw3,hps3⟩
     rcases x with rfl | x
     ·have hs:=K4.three.keep.size
      exact⟨by omega,fun y=>by have:=K4.old _ (.inl y);omega,fun y=>by have:=K4.old _ (.inr (.inl y));omega,fun y=>by have:=K4.old _ (.inr (.inr y));omega⟩
     ·simp[Value.ownBlock] at x)
    clear htb HN5 H3 HK2 HR HbR HBX HN1;go_wp2_with fail
    go_loopw [11] (fun iv wr=>∃ k:Nat,k≤m∧k≤20∧iv = .int .i64 k∧Hid (FLoop w p tb k wr)) (fun iv _=>20 - (intOf iv).toNat)
    case atStart=>exact⟨0,Nat.zero_le _,Nat.zero_le _,rfl,HR0⟩
    case round=>
     clear HR0;obtain⟨k,hk,hk20,rfl,HK⟩:=hrel
     by_cases hgo:k<m∧k<20
     ·have h2:(k:Int)<m:=by omega
      have h1:(k:Int)<20:=by omega
      have hkl:k<l.length:=by rw[← Hm.out];exact hgo.1
      obtain⟨top,D,A,D2,A2,d,mm,a,r,X,F,G,hC,hRoom,hAb,hwt,hps⟩:=HK.out.ex;obtain⟨ad,cs,rfl,-,⟨u,rfl,hu,hvt⟩,k0,kr⟩:=HL.out.at hC.three.keep k hkl;have a0:=k0 _ rfl;have a1:=kr 1 _ (by decide) rfl;have a2:=kr 2 _ (by decide) rfl;have a3:=kr 3 _ (by decide) rfl;obtain⟨uo,uc,rfl,-⟩:=hu.form;obtain⟨xv,hxv⟩:=zX1 (l[k]);rw[← hxv] at a0 a1 a2 a3 hu hvt;obtain⟨ul,hul⟩:=zX1 (xv.val.length);rw[← hul] at a3 hu;have hrt:=fun w'=>zbS w' xv.bal;have HC:=hid (zA1 hC (zA1 hRoom (zA1 hAb (zA1 hwt (zA1 hps (zA1 hu hvt))))));have HUL:=hid hul;have hgo1:=hgo.1;have hgo2:=hgo.2;have hn6:=heap_alloc_new wr (.cells #[.int .u64 (xv.slot:Int),.int .u64 (xv.bal.n:Int),.int .i64 xv.bal.node,.slice uo ul uc] 31);have hk6:=kal wr (.cells #[.int .u64 (xv.slot:Int),.int .u64 (xv.bal.n:Int),.int .i64 xv.bal.node,.slice uo ul uc] 31);have HN6:=hid (zA1 hn6 hk6);clear hC hRoom hAb hwt hps hu hvt k0 kr hxv hul hgo hn6 hk6
      go_upto_region 14 with fail
      obtain⟨w6,hw6⟩:=zX1 (wr.alloc (.cells #[.int .u64 (xv.slot:Int),.int .u64 (xv.bal.n:Int),.int .i64 xv.bal.node,.slice uo ul uc] 31));rw[← hw6] at HN6 ⊢;clear hw6 a0 a1 a2 a3;obtain⟨vb,hvb⟩:=zX1 (wr.heap.size);rw[← hvb] at HN6 ⊢;have HVb:=hid (show tb<vb∧∀ k,X k∨F k∨G k→k<vb from⟨by rw[hvb];exact z0H HC.out.1.top,by rw[hvb];exact HC.out.1.old⟩);clear hvb;obtain⟨c0,c1,c2,c3,-,-⟩:=z4Y HN6.out.1;have hrt:=hrt w6
      cases hrb:z2C xv.bal with
      | false=>
        rw[hrb] at hrt;have K6:=hid (HC.out.1.later HN6.out.2);clear hrb;go_wp2_with fail;refine hrt.mono ?_;rintro e w7 ⟨rfl,hk7⟩;have HZ:=hid (show FLoop w p tb (k+1) w7 from⟨⟨top,D,A,D2,A2,d,mm,a,r,X,F,G,K6.out.later hk7,⟨HC.out.2.1.sound,HC.out.2.1.ok,HC.out.2.1.half,Nat.le_trans HC.out.2.1.few (by omega)⟩,HC.out.2.2.1,Nat.le_trans HC.out.2.2.2.1 (by omega),Nat.le_trans HC.out.2.2.2.2.1 (by omega)⟩⟩);clear hk7 hrt;go_wp2_with fail;go_roundw
        case rel=>exact⟨k+1,by omega,by omega,by go_num,HZ⟩
        case measure=>simp[intOf];omega
      | true=>
        rw[hrb] at hrt;have K6:=hid (HC.out.1.later HN6.out.2);have HRb:=hid hrb;clear hrb
        by_cases hbad:xv.slot=0∨100<ul
        ·obtain⟨sl,hsl⟩:=zX1 (xv.slot)
         rw[← hsl] at hbad c0;have HSl:=hid hsl;clear hsl;have cut:sl=0∨(sl≠0∧100<ul):=by omega
         clear hbad
         rcases cut with rfl | ⟨h0,h1⟩
         ·go_wp2_with (at_builtin;refine z0I ?_;intro q hq)
          refine hrt.mono ?_;rintro e w7 ⟨rfl,hk7⟩;have c0:=z0D hk7 _ _ c0;have HZ:=hid (show FLoop w p tb (k+1) w7 from⟨⟨top,D,A,D2,A2,d,mm,a,r,X,F,G,K6.out.later hk7,⟨HC.out.2.1.sound,HC.out.2.1.ok,HC.out.2.1.half,Nat.le_trans HC.out.2.1.few (by omega)⟩,HC.out.2.2.1,Nat.le_trans HC.out.2.2.2.1 (by omega),Nat.le_trans HC.out.2.2.2.2.1 (by omega)⟩⟩);clear hk7 hrt;go_wp2_with fail;go_roundw
          case rel=>exact⟨k+1,by omega,by omega,by go_num,HZ⟩
          case measure=>simp[intOf];omega
         ·have q1:((sl:Int) == 0)=false:=by simp;omega
          have q2:decide (sl=0)=false:=decide_eq_false h0;have q3:(100:Int)<(ul:Int):=by omega
          go_wp2_with fail;refine hrt.mono ?_;rintro e w7 ⟨rfl,hk7⟩;have c0:=z0D hk7 _ _ c0;have c3:=z0D hk7 _ _ c3;have HZ:=hid (show FLoop w p tb (k+1) w7 from⟨⟨top,D,A,D2,A2,d,mm,a,r,X,F,G,K6.out.later hk7,⟨HC.out.2.1.sound,HC.out.2.1.ok,HC.out.2.1.half,Nat.le_trans HC.out.2.1.few (by omega)⟩,HC.out.2.2.1,Nat.le_trans HC.out.2.2.2.1 (by omega),Nat.le_trans HC.out.2.2.2.2.1 (by omega)⟩⟩);clear hk7 hrt;go_wp2_with fail;go_roundw
          case rel=>exact⟨k+1,by omega,by omega,by go_num,HZ⟩
          case measure=>simp[intOf];omega
        ·have hs0:xv.slot≠0:=fun e=>hbad (.inl e)
         have h100:ul≤100:=by omega
         have HRv:=hid (show z5E xv=true from by
          have:=HUL.out;simp only[z5E,HRb.out,Bool.true_and,Bool.and_eq_true,decide_eq_true_eq]
          exact⟨hs0,by omega⟩)
         have q1:((xv.slot:Int) == 0)=false:=by simp;omega
         have q2:decide (xv.slot=0)=false:=decide_eq_false hs0;have q3:decide ((100:Int)<(ul:Int))=false:=decide_eq_false (by omega);have q4:decide (100<ul)=false:=decide_eq_false (by omega);clear hbad hs0;go_wp2_with fail;refine hrt.mono ?_;rintro e w7 ⟨rfl,hk7⟩;have c0:=z0D hk7 _ _ c0;have c1:=z0D hk7 _ _ c1;have c2:=z0D hk7 _ _ c2;have c3:=z0D hk7 _ _ c3;have K7:=hid (zA1 (K6.out.later hk7) (hk7.get HN6.out.1 id));obtain⟨-,h1p,-,-,-,-⟩:=z2Y K7.out.1.three.one.1;have hvo:=zcO w7 a d D A F (let ⟨x,e,h⟩:=K7.out.1.three.two;by cases e;exact h) HC.out.2.1.ok (by have:=HC.out.2.2.2.2.1;omega) 1;obtain⟨VL,hVL⟩:=zX1 (A.votes 1);rw[← hVL] at hvo;have HVL:=hid hVL;clear hk7 hrt hVL
         go_upto_region 15 with fail
         clear q1 q2 q3 q4;go_wp2_with fail;refine hvo.mono ?_;intro e w8 hpost;obtain⟨v1,us1,Fv1,rfl,hv1,hFv1,hk8⟩:=hpost;obtain⟨ao1,c1',rfl,-⟩:=hv1.row.form;obtain⟨n1,hn1⟩:=zX1 (VL.length);rw[← hn1] at hv1 ⊢;have hs78:=hk8.size;have K8:=hid (zA1 (K7.out.1.later hk8) (zA1 (hk8.get K7.out.2 id) (zA1 hv1.young (zA1 hn1 (zA1 hFv1 hs78)))));clear hvo hk8 hv1 hn1 hFv1 hs78 c0 c1 c2 c3 h1p;obtain⟨c0,c1,c2,c3,-,-⟩:=z4Y K8.out.2.1;obtain⟨t0,t1,-,-⟩:=z1L K8.out.1.top;have hls:=zcV w8 xv.bal top;obtain⟨lb,hlb⟩:=zX1 (less xv.bal top);rw[← hlb] at hls;have HLB:=hid hlb;clear hlb
         go_upto_region 16 with fail
         go_wp2_with fail;refine hls.mono ?_;rintro e w9 ⟨rfl,hk9⟩;have hs89:=hk9.size;have K9:=hid (zA1 (K8.out.1.later hk9) (zA1 (hk9.get K8.out.2.1 id) (zA1 (K8.out.2.2.1.keep hk9 (fun _ _ x=>x)) hs89)));have c0:=z0D hk9 _ _ c0;have c1:=z0D hk9 _ _ c1;have c2:=z0D hk9 _ _ c2;have c3:=z0D hk9 _ _ c3;clear hls hk9 t0 t1 hs89;obtain⟨R,hR⟩:=zX1 (z0O D A xv);obtain⟨⟨rb1,rc1⟩,D1,A1⟩:=R;have HR:=hid hR;clear hR;obtain⟨hkk1,hkk2,hkk3,hkk4,hkk5,hkk6,hkk9,hkk10⟩:=AC.fen_n hgo2;have hkk7:=AC.fen_m k;have hkk8:=AC.fen_l k;have HI:=hid (show AOk A∧A.s.ps.length≤890000∧D.waits.length≤490000∧D.safe.length≤2048 from⟨HC.out.2.1.ok,Nat.le_trans HC.out.2.2.2.2.1 hkk1,Nat.le_trans HC.out.2.2.2.1 hkk2,HC.out.2.1.sound.disk.ok.few⟩)
         have HI1:=hid (show AOk A1∧A1.s.ps.length≤890000∧D1.waits.length≤490000∧D1.safe.length≤2048∧A1.s.ps.length≤A.s.ps.length+2∧D1.waits.length≤D.waits.length+5120 from by
          have h1:=HI.out.1.accept (D:=D) xv HC.out.2.2.2.2.2.2.bal.1 HC.out.2.2.2.2.2.2.slot;have h2:=zhX D A xv;have h3:=z8Y HI.out.2.2.2 A xv;obtain⟨q,-⟩:=HC.out.2.1.any (by omega) xv HC.out.2.2.2.2.2.2.bal.1 HC.out.2.2.2.2.2.2.slot;rw[← HR.out] at h1 h2 h3 q;simp only at h1 h2 h3 q;have:=HC.out.2.2.2.2.1;have:=HC.out.2.2.2.1
          exact⟨h1,by omega,by omega,q.sound.disk.ok.few,h2,h3⟩)
         obtain⟨-,h1p,-,-,-,-⟩:=z2Y K9.out.1.three.one.1;have HS:=hid (show VS p 1 vb 0 1 2 3 (.pointer (some ⟨a,0,none⟩)) xv (.slice uo ul uc) w9 from⟨h1p,c0,c1,c2,c3⟩);have HFv:=hid (show ¬ F vb∧vb<w9.heap.size from⟨fun y=>by have:=HVb.out.2 _ (.inr (.inl y));omega,z0H K9.out.2.1⟩);have HV7:=hid (show vb<w7.heap.size from z0H K7.out.2);clear h1p c0 c1 c2 c3
         go_upto_region 17 with fail
         go_cut [15,16] (fun gv ev wx=>∃ g:Nat,gv = .pointer (some ⟨g,0,none⟩)∧ev = .int .i64 rc1∧Hid (FRel w p tb top D1 A1 D2 A2 d mm a r X F G rb1 w9 g wx))
         case first=>
          have x1:VS p 1 vb 0 1 2 3 (.pointer (some ⟨a,0,none⟩)) xv (.slice uo ul uc) w9.drew:=HS.out;have hkd:Keep (fun _=>False) w9 w9.drew:=(Keep.refl _ _).drew;have HK0:=hid (K9.out.1);have HVb:=hid (HFv.out);refine Twin.z5L (VS p 1 vb 0 1 2 3 (.pointer (some ⟨a,0,none⟩)) xv (.slice uo ul uc)) [] [96,97] 5 9 (by kernel_rfl) (by kernel_rfl) (by rfl) (by kernel_rfl) ?_ ?_
          ·obtain⟨wd,hwd⟩:=zX1 (w9.drew)
           rw[← hwd] at x1 hkd ⊢;have hwds:wd.heap.size=w9.heap.size:=by rw[hwd];rfl
           clear hwd;obtain⟨w5,hw5⟩:=zX1 (wd);have x2:=x1;have hk05:=hkd;have hz5:=hwds;rw[← hw5] at x2 hk05 hz5 ⊢;clear hw5;have C1:=HK0.out.later hk05;obtain⟨a',e,hac⟩:=C1.three.two;cases e;have hcr:=zeM w5 a d D A F hac HI.out.1 (fun _=>Nat.le_trans HI.out.2.1 (by decide)) HI.out.2.2.1 xv HC.out.2.2.2.2.2.2.bal.1 HC.out.2.2.2.2.2.2.slot uo uc (HC.out.2.2.2.2.2.1.far C1.three.keep C1.three.new2).2.2.1 (HC.out.2.2.2.2.2.1.far C1.three.keep C1.three.new2).2.2.2.1;rw[← HUL.out] at hcr;rw[← HR.out] at hcr;have HC:=hid C1;clear C1 hac
           repeat (apply Twin.z0E (by rfl) (by exact x2);(intro K w' hS;obtain⟨s1,s2,s3,s4,s5⟩:=hS;go_simp;exact id))
           refine Twin.z0G (by decide) (by rfl) (by exact x2) (fun K hK=>?_);go_simp;refine hcr.mono ?_;rintro e w6 ⟨F6,rfl,hT,hkc,hN⟩;have C2:=HC.out.to2 hT hkc hN;have x3:=VS.keep hkc (fun y=>HC.out.box.2.2.1 y) (fun y=>HVb.out.1 y) x2;have hs56:=hkc.size;have htb:=z0H HK0.out.top;have hWs:=HK0.out.three.keep.size;have hvbs:=HVb.out.2;have hpl:=HK0.out.box.1;go_simp;refine hK _ _ (fun h=>by cases h) x3 ?_;clear hK K x2
           repeat (apply Twin.z0E (by rfl) (by exact x3);(intro K w' hS;obtain⟨s1,s2,s3,s4,s5⟩:=hS;go_simp;exact id))
           have hk7:=kal w6 (.cells #[.int .u64 0,.int .i64 0] 28);have hn7:=heap_alloc_new w6 (.cells #[.int .u64 0,.int .i64 0] 28);have x4:=VS.keep hk7 id id x3;obtain⟨hbx,hk8⟩:=zhS w6 rb1;refine Twin.z0G (by decide) (by rfl) (by exact x3) (fun K hK=>?_);go_simp;refine hK _ _ (fun _=>Pre.alloc (Pre.refl _) _) x4 ?_;clear hK K;obtain⟨w7,hw7⟩:=zX1 (w6.alloc (.cells #[.int .u64 0,.int .i64 0] 28));rw[← hw7] at hn7 x4 hbx hk8 ⊢;clear hw7;obtain⟨d0,d1,f0,-⟩:=z1L hn7
           repeat (apply Twin.z0E (by rfl) (by exact x4);(intro K w' hS;obtain⟨s1,s2,s3,s4,s5⟩:=hS;go_simp;exact id))
           obtain⟨wz,hwz⟩:=zX1 ((w7.setCell ⟨w6.heap.size,0,none⟩ (.int .u64 (rb1.n:Int))).setCell ⟨w6.heap.size,1,none⟩ (.int .i64 rb1.node));rw[← hwz] at hbx hk8;have x5:=VS.keep hk8 (fun e=>by have e2:p=w6.heap.size:=e;omega) (fun e=>by have e2:vb=w6.heap.size:=e;omega) x3
           have hF6:¬ F6 (w6.heap.size):=fun y=>by
            have h1:=(AcT.lives _ _ _ _).lt hT _ y
            rcases hN _ y with z | z
            ·have:=HK0.out.old _ (.inr (.inl z));omega
            ·omega
           have C3:=C2.beside hk8 ⟨by omega,fun y=>by have:=HK0.out.old _ (.inl y);omega,hF6,fun y=>by have:=HK0.out.old _ (.inr (.inr y));omega⟩ (by omega) (by simp[Value.ownBlock]);have hkz:Keep (fun k=>F k∨w9.heap.size≤k) w9 wz:=(hk05.next hkc (H:=fun k=>F k∨w9.heap.size≤k) (fun _ _ x=>x.elim) (fun _ _ x=>.inl x)).next hk8 (fun _ _ x=>x) (fun k _ e=>.inr (by have e2:k=w6.heap.size:=e;omega));have HZ:=hid (show FRel w p tb top D1 A1 D2 A2 d mm a r X F G rb1 w9 (w6.heap.size) wz from⟨F6,C3,hbx,by omega,hkz,fun k x=>(hN k x).imp id fun y=>by omega,hF6⟩);refine Twin.z0G (by decide) (by rfl) (by exact x4) (fun K hK=>?_);go_simp;rw[← hwz];refine hK _ _ (fun h=>by cases h) x5 ?_;clear hK K hwz
           repeat (apply Twin.z0E (by rfl) (by exact x5);(intro K w' hS;obtain⟨s1,s2,s3,s4,s5⟩:=hS;go_simp;exact id))
           refine Twin.z0Q ?_;clear x3 x4 hk7 x5 hn7 hbx hk8 d0 d1 f0 hT hkc hN hcr hkz C2 C3 hF6 hs56 hpl hk05 htb hWs hvbs;go_wp2_with fail;go_meet;exact⟨w6.heap.size,rfl,rfl,HZ⟩
          ·simp only[List.take_succ_cons,List.take_zero,List.drop_succ_cons,List.drop_zero,List.cons_append,List.nil_append]
           obtain⟨wd,hwd⟩:=zX1 (w9.drew);rw[← hwd] at x1 hkd ⊢;have hwds:wd.heap.size=w9.heap.size:=by rw[hwd];rfl
           clear hwd;have hk0:=kal wd (.cells #[.int .u64 0,.int .i64 0] 28);have hn0:(wd.alloc (.cells #[.int .u64 0,.int .i64 0] 28)).heap[w9.heap.size]?=some (.cells #[.int .u64 0,.int .i64 0] 28 (0,0)):=by rw[← hwds];exact heap_alloc_new wd (.cells #[.int .u64 0,.int .i64 0] 28)
           have hz5:(wd.alloc (.cells #[.int .u64 0,.int .i64 0] 28)).heap.size=w9.heap.size+1:=by simp[hwds]
           have x2:=VS.keep hk0 id id x1;refine Twin.z0G (by decide) (by rfl) (by exact x1) (fun K hK=>?_);go_simp;refine hK _ _ (fun _=>Pre.alloc (Pre.refl _) _) x2 ?_;clear hK K;obtain⟨w5,hw5⟩:=zX1 (wd.alloc (.cells #[.int .u64 0,.int .i64 0] 28));rw[← hw5] at hk0 hn0 x2 hz5 ⊢;clear hw5;have hk05:=hkd.nx hk0;have C1:=HK0.out.later hk05;obtain⟨a',e,hac⟩:=C1.three.two;cases e;have hcr:=zeM w5 a d D A F hac HI.out.1 (fun _=>Nat.le_trans HI.out.2.1 (by decide)) HI.out.2.2.1 xv HC.out.2.2.2.2.2.2.bal.1 HC.out.2.2.2.2.2.2.slot uo uc (HC.out.2.2.2.2.2.1.far C1.three.keep C1.three.new2).2.2.1 (HC.out.2.2.2.2.2.1.far C1.three.keep C1.three.new2).2.2.2.1;rw[← HUL.out] at hcr;rw[← HR.out] at hcr;have HC:=hid C1;clear C1 hac
           repeat (apply Twin.z0E (by rfl) (by exact x2);(intro K w' hS;obtain⟨s1,s2,s3,s4,s5⟩:=hS;go_simp;exact id))
           refine Twin.z0G (by decide) (by rfl) (by exact x2) (fun K hK=>?_);go_simp;refine hcr.mono ?_;rintro e w6 ⟨F6,rfl,hT,hkc,hN⟩;have C2:=HC.out.to2 hT hkc hN;have x3:=VS.keep hkc (fun y=>HC.out.box.2.2.1 y) (fun y=>HVb.out.1 y) x2;have hs56:=hkc.size;have htb:=z0H HK0.out.top;have hWs:=HK0.out.three.keep.size;have hvbs:=HVb.out.2;have hpl:=HK0.out.box.1;go_simp;refine hK _ _ (fun h=>by cases h) x3 ?_;clear hK K x2
           repeat (apply Twin.z0E (by rfl) (by exact x3);(intro K w' hS;obtain⟨s1,s2,s3,s4,s5⟩:=hS;go_simp;exact id))
           have hn7:=hkc.get hn0 (fun y=>by have:=HK0.out.old _ (.inr (.inl y));omega);obtain⟨d0,d1,f0,-⟩:=z1L hn7;obtain⟨-,hk8,-⟩:=z3B w6 w9.heap.size _ _ hn7 (.int .u64 (rb1.n:Int)) (.int .i64 rb1.node);have hbx:=z0A (z0A hn7 0 (.int .u64 (rb1.n:Int))) 1 (.int .i64 rb1.node);obtain⟨wz,hwz⟩:=zX1 ((w6.setCell ⟨w9.heap.size,0,none⟩ (.int .u64 (rb1.n:Int))).setCell ⟨w9.heap.size,1,none⟩ (.int .i64 rb1.node));rw[← hwz] at hbx hk8;have x5:=VS.keep hk8 (fun e=>by have e2:p=w9.heap.size:=e;omega) (fun e=>by have e2:vb=w9.heap.size:=e;omega) x3
           have hF6:¬ F6 (w9.heap.size):=fun y=>by
            have h1:=(AcT.lives _ _ _ _).lt hT _ y
            rcases hN _ y with z | z
            ·have:=HK0.out.old _ (.inr (.inl z));omega
            ·omega
           have C3:=C2.beside hk8 ⟨by omega,fun y=>by have:=HK0.out.old _ (.inl y);omega,hF6,fun y=>by have:=HK0.out.old _ (.inr (.inr y));omega⟩ (by omega) (by simp[Value.ownBlock]);have hkz:Keep (fun k=>F k∨w9.heap.size≤k) w9 wz:=(hk05.next hkc (H:=fun k=>F k∨w9.heap.size≤k) (fun _ _ x=>x.elim) (fun _ _ x=>.inl x)).next hk8 (fun _ _ x=>x) (fun k _ e=>.inr (by have e2:k=w9.heap.size:=e;omega));have HZ:=hid (show FRel w p tb top D1 A1 D2 A2 d mm a r X F G rb1 w9 (w9.heap.size) wz from⟨F6,C3,hbx,by omega,hkz,fun k x=>(hN k x).imp id fun y=>by omega,hF6⟩);refine Twin.z0G (by decide) (by rfl) (by exact x3) (fun K hK=>?_);go_simp;rw[← hwz];refine hK _ _ (fun h=>by cases h) x5 ?_;clear hK K hwz
           repeat (apply Twin.z0E (by rfl) (by exact x5);(intro K w' hS;obtain⟨s1,s2,s3,s4,s5⟩:=hS;go_simp;exact id))
           refine Twin.z0Q ?_;clear x3 hn0 hk0 x5 hn7 hbx hk8 d0 d1 f0 hT hkc hN hcr hkz C2 C3 hF6 hs56 hpl hk05 htb hWs hvbs;go_wp2_with fail;go_meet;exact⟨w9.heap.size,rfl,rfl,HZ⟩
         case rest=>
          obtain⟨wa,rfl⟩:=zX1 (wc);obtain⟨g1,rfl,rfl,HG⟩:=hcut;obtain⟨Fa,Ka,hg1,hg1n,hka,hFa,hFag⟩:=HG.out;have hvb9:=hka.get K9.out.2.1 (fun x=>x.elim HFv.out.1 (fun y=>by have:=HFv.out.2;omega));have hsa:w9.heap.size≤wa.heap.size:=hka.size
          have hv1a:=K9.out.2.2.1.keep hka (fun k x z=>by
           have h1:=K8.out.2.2.2.2.1 k x.1;have h2:=HV7.out;have h3:=K9.out.2.2.2
           rcases z with z | z
           ·have:=HVb.out.2 _ (.inr (.inl z));omega
           ·have:=x.2;omega)
          have hvbl:=HFv.out.2;have HA:=hid (zA1 Ka (zA1 hg1 (zA1 hg1n (zA1 hvb9 (zA1 hv1a (zA1 hsa (zA1 hFa (zA1 hvbl hFag))))))));clear Ka hg1 hg1n hka hFa hvb9 hsa hv1a hvbl hFag HS HG;obtain⟨R,hR⟩:=zX1 (z2M D1 A1 xv.bal 1);obtain⟨⟨RV2,rb2,rc2⟩,D3,A3⟩:=R;have HRA:=hid HR.out;clear HR;have HR:=hid hR;clear hR;obtain⟨-,h1p,-,-,-,-⟩:=z2Y HA.out.1.three.one.1;obtain⟨c0,c1,c2,c3,-,-⟩:=z4Y HA.out.2.2.2.1;have HS:=hid (show PS p 1 vb (.pointer (some ⟨a,0,none⟩)) xv wa from⟨h1p,c0,c1,c2⟩);have HFw:=hid (show ¬ Fa vb∧vb<wa.heap.size from⟨fun y=>(HA.out.2.2.2.2.2.2.1 vb y).elim HFv.out.1 (fun z=>by have:=HA.out.2.2.2.2.2.2.2.1;omega),by have:=HA.out.2.2.2.2.2.1;have:=HA.out.2.2.2.2.2.2.2.1;omega⟩);clear h1p c0 c1 c2 c3
          go_upto_region 18 with fail
          go_cut [17,18,19] (fun lv gv ev wx=>∃ g:Nat,gv = .pointer (some ⟨g,0,none⟩)∧ev = .int .i64 rc2∧Hid (FRel w p tb top D3 A3 D2 A2 d mm a r X Fa G rb2 wa g wx))
          case first=>
           have x1:PS p 1 vb (.pointer (some ⟨a,0,none⟩)) xv wa.drew:=HS.out;have hkd:Keep (fun _=>False) wa wa.drew:=(Keep.refl _ _).drew;have HK0:=hid (HA.out.1);have HVb:=hid (HFw.out);refine Twin.z5L (PS p 1 vb (.pointer (some ⟨a,0,none⟩)) xv) [] [105,107] 6 11 (by kernel_rfl) (by kernel_rfl) (by rfl) (by kernel_rfl) ?_ ?_
           ·obtain⟨wd,hwd⟩:=zX1 (wa.drew)
            rw[← hwd] at x1 hkd ⊢;have hwds:wd.heap.size=wa.heap.size:=by rw[hwd];rfl
            clear hwd;obtain⟨w5,hw5⟩:=zX1 (wd);have x2:=x1;have hk05:=hkd;have hz5:=hwds;rw[← hw5] at x2 hk05 hz5 ⊢;clear hw5;have C1:=HK0.out.later hk05;obtain⟨a',e,hac⟩:=C1.three.two;cases e;have hcr:=z4O w5 a d D1 A1 Fa hac HI1.out.1 (fun _=>Nat.le_trans HI1.out.2.1 (by decide)) HI1.out.2.2.1 xv.bal HC.out.2.2.2.2.2.2.bal.1 1;rw[← HR.out] at hcr;have HC:=hid C1;clear C1 hac
            repeat (apply Twin.z0E (by rfl) (by exact x2);(intro K w' hS;obtain⟨s1,s2,s3,s4⟩:=hS;go_simp;exact id))
            refine Twin.z0G (by decide) (by rfl) (by exact x2) (fun K hK=>?_);go_simp;refine hcr.mono ?_;rintro e w6 ⟨lv,us,Fv,F6,rfl,hT,hkc,hN,-,-,-⟩;have C2:=HC.out.to2 hT hkc hN;have x3:=PS.keep hkc (fun y=>HC.out.box.2.2.1 y) (fun y=>HVb.out.1 y) x2;have hs56:=hkc.size;have htb:=z0H HK0.out.top;have hWs:=HK0.out.three.keep.size;have hvbs:=HVb.out.2;have hpl:=HK0.out.box.1;go_simp;refine hK _ _ (fun h=>by cases h) x3 ?_;clear hK K x2
            repeat (apply Twin.z0E (by rfl) (by exact x3);(intro K w' hS;obtain⟨s1,s2,s3,s4⟩:=hS;go_simp;exact id))
            have hk7:=kal w6 (.cells #[.int .u64 0,.int .i64 0] 28);have hn7:=heap_alloc_new w6 (.cells #[.int .u64 0,.int .i64 0] 28);have x4:=PS.keep hk7 id id x3;obtain⟨hbx,hk8⟩:=zhS w6 rb2;refine Twin.z0G (by decide) (by rfl) (by exact x3) (fun K hK=>?_);go_simp;refine hK _ _ (fun _=>Pre.alloc (Pre.refl _) _) x4 ?_;clear hK K;obtain⟨w7,hw7⟩:=zX1 (w6.alloc (.cells #[.int .u64 0,.int .i64 0] 28));rw[← hw7] at hn7 x4 hbx hk8 ⊢;clear hw7;obtain⟨d0,d1,f0,-⟩:=z1L hn7
            repeat (apply Twin.z0E (by rfl) (by exact x4);(intro K w' hS;obtain⟨s1,s2,s3,s4⟩:=hS;go_simp;exact id))
            obtain⟨wz,hwz⟩:=zX1 ((w7.setCell ⟨w6.heap.size,0,none⟩ (.int .u64 (rb2.n:Int))).setCell ⟨w6.heap.size,1,none⟩ (.int .i64 rb2.node));rw[← hwz] at hbx hk8;have x5:=PS.keep hk8 (fun e=>by have e2:p=w6.heap.size:=e;omega) (fun e=>by have e2:vb=w6.heap.size:=e;omega) x3
            have hF6:¬ F6 (w6.heap.size):=fun y=>by
             have h1:=(AcT.lives _ _ _ _).lt hT _ y
             rcases hN _ y with z | z
             ·have:=HK0.out.old _ (.inr (.inl z));omega
             ·omega
            have C3:=C2.beside hk8 ⟨by omega,fun y=>by have:=HK0.out.old _ (.inl y);omega,hF6,fun y=>by have:=HK0.out.old _ (.inr (.inr y));omega⟩ (by omega) (by simp[Value.ownBlock]);have hkz:Keep (fun k=>Fa k∨wa.heap.size≤k) wa wz:=(hk05.next hkc (H:=fun k=>Fa k∨wa.heap.size≤k) (fun _ _ x=>x.elim) (fun _ _ x=>.inl x)).next hk8 (fun _ _ x=>x) (fun k _ e=>.inr (by have e2:k=w6.heap.size:=e;omega));have HZ:=hid (show FRel w p tb top D3 A3 D2 A2 d mm a r X Fa G rb2 wa (w6.heap.size) wz from⟨F6,C3,hbx,by omega,hkz,fun k x=>(hN k x).imp id fun y=>by omega,hF6⟩);refine Twin.z0G (by decide) (by rfl) (by exact x4) (fun K hK=>?_);go_simp;rw[← hwz];refine hK _ _ (fun h=>by cases h) x5 ?_;clear hK K hwz
            repeat (apply Twin.z0E (by rfl) (by exact x5);(intro K w' hS;obtain⟨s1,s2,s3,s4⟩:=hS;go_simp;exact id))
            refine Twin.z0Q ?_;clear x3 x4 hk7 x5 hn7 hbx hk8 d0 d1 f0 hT hkc hN hcr hkz C2 C3 hF6 hs56 hpl hk05 htb hWs hvbs;go_wp2_with fail;go_meet;exact⟨w6.heap.size,rfl,rfl,HZ⟩
           ·simp only[List.take_succ_cons,List.take_zero,List.drop_succ_cons,List.drop_zero,List.cons_append,List.nil_append]
            obtain⟨wd,hwd⟩:=zX1 (wa.drew);rw[← hwd] at x1 hkd ⊢;have hwds:wd.heap.size=wa.heap.size:=by rw[hwd];rfl
            clear hwd;have hk0:=kal wd (.cells #[.int .u64 0,.int .i64 0] 28);have hn0:(wd.alloc (.cells #[.int .u64 0,.int .i64 0] 28)).heap[wa.heap.size]?=some (.cells #[.int .u64 0,.int .i64 0] 28 (0,0)):=by rw[← hwds];exact heap_alloc_new wd (.cells #[.int .u64 0,.int .i64 0] 28)
            have hz5:(wd.alloc (.cells #[.int .u64 0,.int .i64 0] 28)).heap.size=wa.heap.size+1:=by simp[hwds]
            have x2:=PS.keep hk0 id id x1;refine Twin.z0G (by decide) (by rfl) (by exact x1) (fun K hK=>?_);go_simp;refine hK _ _ (fun _=>Pre.alloc (Pre.refl _) _) x2 ?_;clear hK K;obtain⟨w5,hw5⟩:=zX1 (wd.alloc (.cells #[.int .u64 0,.int .i64 0] 28));rw[← hw5] at hk0 hn0 x2 hz5 ⊢;clear hw5;have hk05:=hkd.nx hk0;have C1:=HK0.out.later hk05;obtain⟨a',e,hac⟩:=C1.three.two;cases e;have hcr:=z4O w5 a d D1 A1 Fa hac HI1.out.1 (fun _=>Nat.le_trans HI1.out.2.1 (by decide)) HI1.out.2.2.1 xv.bal HC.out.2.2.2.2.2.2.bal.1 1;rw[← HR.out] at hcr;have HC:=hid C1;clear C1 hac
            repeat (apply Twin.z0E (by rfl) (by exact x2);(intro K w' hS;obtain⟨s1,s2,s3,s4⟩:=hS;go_simp;exact id))
            refine Twin.z0G (by decide) (by rfl) (by exact x2) (fun K hK=>?_);go_simp;refine hcr.mono ?_;rintro e w6 ⟨lv,us,Fv,F6,rfl,hT,hkc,hN,-,-,-⟩;have C2:=HC.out.to2 hT hkc hN;have x3:=PS.keep hkc (fun y=>HC.out.box.2.2.1 y) (fun y=>HVb.out.1 y) x2;have hs56:=hkc.size;have htb:=z0H HK0.out.top;have hWs:=HK0.out.three.keep.size;have hvbs:=HVb.out.2;have hpl:=HK0.out.box.1;go_simp;refine hK _ _ (fun h=>by cases h) x3 ?_;clear hK K x2
            repeat (apply Twin.z0E (by rfl) (by exact x3);(intro K w' hS;obtain⟨s1,s2,s3,s4⟩:=hS;go_simp;exact id))
            have hn7:=hkc.get hn0 (fun y=>by have:=HK0.out.old _ (.inr (.inl y));omega);obtain⟨d0,d1,f0,-⟩:=z1L hn7;obtain⟨-,hk8,-⟩:=z3B w6 wa.heap.size _ _ hn7 (.int .u64 (rb2.n:Int)) (.int .i64 rb2.node);have hbx:=z0A (z0A hn7 0 (.int .u64 (rb2.n:Int))) 1 (.int .i64 rb2.node);obtain⟨wz,hwz⟩:=zX1 ((w6.setCell ⟨wa.heap.size,0,none⟩ (.int .u64 (rb2.n:Int))).setCell ⟨wa.heap.size,1,none⟩ (.int .i64 rb2.node));rw[← hwz] at hbx hk8;have x5:=PS.keep hk8 (fun e=>by have e2:p=wa.heap.size:=e;omega) (fun e=>by have e2:vb=wa.heap.size:=e;omega) x3
            have hF6:¬ F6 (wa.heap.size):=fun y=>by
             have h1:=(AcT.lives _ _ _ _).lt hT _ y
             rcases hN _ y with z | z
             ·have:=HK0.out.old _ (.inr (.inl z));omega
             ·omega
            have C3:=C2.beside hk8 ⟨by omega,fun y=>by have:=HK0.out.old _ (.inl y);omega,hF6,fun y=>by have:=HK0.out.old _ (.inr (.inr y));omega⟩ (by omega) (by simp[Value.ownBlock]);have hkz:Keep (fun k=>Fa k∨wa.heap.size≤k) wa wz:=(hk05.next hkc (H:=fun k=>Fa k∨wa.heap.size≤k) (fun _ _ x=>x.elim) (fun _ _ x=>.inl x)).next hk8 (fun _ _ x=>x) (fun k _ e=>.inr (by have e2:k=wa.heap.size:=e;omega));have HZ:=hid (show FRel w p tb top D3 A3 D2 A2 d mm a r X Fa G rb2 wa (wa.heap.size) wz from⟨F6,C3,hbx,by omega,hkz,fun k x=>(hN k x).imp id fun y=>by omega,hF6⟩);refine Twin.z0G (by decide) (by rfl) (by exact x3) (fun K hK=>?_);go_simp;rw[← hwz];refine hK _ _ (fun h=>by cases h) x5 ?_;clear hK K hwz
            repeat (apply Twin.z0E (by rfl) (by exact x5);(intro K w' hS;obtain⟨s1,s2,s3,s4⟩:=hS;go_simp;exact id))
            refine Twin.z0Q ?_;clear x3 hn0 hk0 x5 hn7 hbx hk8 d0 d1 f0 hT hkc hN hcr hkz C2 C3 hF6 hs56 hpl hk05 htb hWs hvbs;go_wp2_with fail;go_meet;exact⟨wa.heap.size,rfl,rfl,HZ⟩
          case rest=>
           obtain⟨wb,rfl⟩:=zX1 (wc);obtain⟨g2,rfl,rfl,HG⟩:=hcut;obtain⟨Fb,Kb,hg2,hg2n,hkb,hFb,-⟩:=HG.out;have hA7:=HA.out.2.2.2.2.2.2;have hvbb:=hkb.get HA.out.2.2.2.1 (fun x=>x.elim HFw.out.1 (fun y=>by have:=HFw.out.2;omega));have hg1b:=hkb.get HA.out.2.1 (fun x=>x.elim hA7.2.2 (fun y=>by have:=z0H HA.out.2.1;omega))
           have hv1b:=HA.out.2.2.2.2.1.keep hkb (fun k x z=>by
            have h1:=K8.out.2.2.2.2.1 k x.1;have h2:=HV7.out;have h3:=K9.out.2.2.2;have h4:=HA.out.2.2.2.2.2.1
            rcases z with z | z
            ·rcases hA7.1 k z with y | y
             ·have:=HVb.out.2 _ (.inr (.inl y));omega
             ·have:=x.2;omega
            ·have:=x.2;omega)
           have HB:=hid (zA1 Kb (zA1 hg2 (zA1 hvbb (zA1 hg1b (zA1 hv1b trivial)))));clear Kb hg2 hg2n hkb hFb hA7 hvbb hg1b hv1b HG HS
           cases lb with
           | true=>
             have hl1:less xv.bal A.b=true:=by rw[HC.out.2.2.1];exact HLB.out.symm
             have e1:=HRA.out.trans (AC.zaS (D:=D) HC.out.2.1.alive HRv.out hl1);obtain⟨⟨rfl,rfl⟩,y3,y4⟩:(rb1=A.b∧rc1=90)∧D1=D∧A1=A:=by simpa [Prod.mk.injEq] using e1
             have y3:=y3.symm;have y4:=y4.symm;subst y3 y4;have e2:=HR.out.trans (AC.zfF (D:=D) HC.out.2.1.alive HRb.out hl1 1);obtain⟨⟨-,rfl,rfl⟩,y3,y4⟩:(RV2 = []∧rb2=A.b∧rc2=90)∧D3=D∧A3=A:=by simpa [Prod.mk.injEq] using e2
             have y3:=y3.symm;have y4:=y4.symm;subst y3 y4;obtain⟨t0,t1,-,-⟩:=z1L HB.out.1.top;have hab:=HC.out.2.2.1;obtain⟨b0,b1,-,-⟩:=z1L (show wb.heap[g1]?=some (.cells (balC top) 28 (0,0)) from by rw[← hab];exact HB.out.2.2.2.1);obtain⟨d0,d1,-,-⟩:=z1L (show wb.heap[g2]?=some (.cells (balC top) 28 (0,0)) from by rw[← hab];exact HB.out.2.1);obtain⟨-,h1p,-,-,-,-⟩:=z2Y HB.out.1.three.one.1;have hvo:=zcO wb a d D A Fb (let ⟨x,e,h⟩:=HB.out.1.three.two;by cases e;exact h) HC.out.2.1.ok HI.out.2.1 1;rw[← HVL.out] at hvo;clear hl1 e1 e2 hab
             go_upto_region 19 with fail
             go_wp2_with fail;refine hvo.mono ?_;intro e w11 hpost;obtain⟨v2,rfl,⟨ao2,n2,c2',rfl,hn2,hv2⟩,hk11⟩:=hpost.rel;have hsm:=zlS w11 ao2 n2 c2' ao1 n1 c1' VL VL hv2 ((HB.out.2.2.2.2.1.keep hk11 (fun _ _ x=>x)).read) hn2 K8.out.2.2.2.1 (by rw[hn2,HVL.out];exact Nat.le_trans (AC.Ac.votes_len HC.out.2.1.ok HI.out.2.1 1) (by decide));rw[decide_eq_true rfl] at hsm;have HK11:=hid hk11;clear hvo hpost hk11 hv2 hn2 t0 t1 b0 b1 d0 d1 h1p;go_wp2_with fail;refine hsm.mono ?_;rintro e w12 ⟨rfl,hk12⟩;have KZ:=hid (HB.out.1.later (HK11.out.nx hk12));have HPm:=hid (show A.prom=top from by unfold Ac.prom;rw[HC.out.2.1.alive];exact HC.out.2.2.1);have HFin:=hid (show Room 199 (70+290 * (k+1)) D A∧A.b=top∧D.waits.length≤1024+10240 * (k+1+1)∧A.s.ps.length≤8+8 * (k+1) from⟨⟨HC.out.2.1.sound,HC.out.2.1.ok,HC.out.2.1.half,Nat.le_trans HC.out.2.1.few hkk5⟩,HC.out.2.2.1,Nat.le_trans HC.out.2.2.2.1 hkk3,Nat.le_trans HC.out.2.2.2.2.1 hkk4⟩);clear hsm hk12;obtain⟨-,h1p,-,-,-,-⟩:=z2Y KZ.out.three.one.1;obtain⟨t0,t1,-,-⟩:=z1L KZ.out.top
             have HPr:=hid (fun s:Later w12=>show Calls Tryz.prog 16 #[.pointer (some ⟨a,0,none⟩)] s.val fun e w'=>e = .returned (balV top)∧Keep (fun _=>False) s.val w' from by
              have h:=z8O s.val a d D A Fb ((AcT.lives _ _ _ _).keep (let ⟨x,e,h⟩:=KZ.out.three.two;by cases e;exact h) s.keep (fun _ _ x=>x));rw[HPm.out] at h
              exact h)
             have j1:=fun s:Later w12=>s.cell h1p;have j2:=fun s:Later w12=>s.cell t0;have j3:=fun s:Later w12=>s.cell t1;clear h1p t0 t1
             go_upto_region 25 with fail
             (refine z0P (by kernel_rfl) (by kernel_rfl) ?_;(repeat (go_big_quiet_step ((go_at_call 16;exact Later.call (HPr.out _)))));refine wpQuiet_nil ?_;rintro _ ⟨sq,rfl⟩)
             have HZ:=hid (show FLoop w p tb (k+1) sq.val from⟨⟨top,D,A,D2,A2,d,mm,a,r,X,Fb,G,KZ.out.later sq.keep,HFin.out⟩⟩);obtain⟨wz9,hwz9⟩:=zX1 (sq.val);rw[← hwz9] at HZ ⊢;clear hwz9 sq j1 j2 j3 HPr;go_wp2_with fail;go_roundw
             case rel=>exact⟨k+1,by omega,by omega,by go_num,HZ⟩
             case measure=>simp[intOf];omega
           | false=>
             have hl1:less xv.bal A.b=false:=by rw[HC.out.2.2.1];exact HLB.out.symm
             obtain⟨r1,r2,r3,r4⟩:=HC.out.2.1.accept hkk9 HRv.out HC.out.2.2.2.2.2.2.bal.1 HC.out.2.2.2.2.2.2.slot hl1;rw[← HRA.out] at r1 r2 r3 r4;simp only at r1 r2 r3 r4;obtain⟨rfl,rfl⟩:rb1=xv.bal∧rc1=0:=by simpa [Prod.mk.injEq] using r1
             obtain⟨s1,s2,s3,s4⟩:=r2.prep hkk10 (b:=xv.bal) ⟨HRb.out,HC.out.2.2.2.2.2.2.bal.1⟩ (by rw[r3];exact z6F _) 1;rw[← HR.out] at s1 s2 s3 s4;simp only at s1 s2 s3 s4;obtain⟨-,rfl,rfl⟩:RV2=z9A A1.vs 1∧rb2=xv.bal∧rc2=0:=by simpa [Prod.mk.injEq] using s1
             have HFin:=hid (show Room 199 (70+290 * (k+1)) D3 A3∧A3.b=xv.bal∧D3.waits.length≤1024+10240 * (k+1+1)∧A3.s.ps.length≤8+8 * (k+1) from by
              have h2:=zeZ D1 A1 xv.bal 1;have h3:=z7U HI1.out.2.2.2.1 A1 xv.bal 1;rw[← HR.out] at h2 h3;simp only at h2 h3
              exact⟨⟨s2.sound,s2.ok,s2.half,Nat.le_trans s2.few hkk6⟩,s3,hkk7 _ _ _ h3 HI1.out.2.2.2.2.2 HC.out.2.2.2.1,hkk8 _ _ _ h2 HI1.out.2.2.2.2.1 HC.out.2.2.2.2.1⟩)
             have HPm:=hid (show A3.prom=xv.bal from by unfold Ac.prom;rw[s2.alive];exact s3);obtain⟨t0,t1,tf,-⟩:=z1L HB.out.1.top;obtain⟨b0,b1,-,-⟩:=z1L HB.out.2.2.2.1;obtain⟨d0,d1,-,-⟩:=z1L HB.out.2.1;obtain⟨c0,c1,c2,c3,-,-⟩:=z4Y HB.out.2.2.1;obtain⟨-,hk14,-⟩:=z3B wb tb _ _ HB.out.1.top (.int .u64 (xv.bal.n:Int)) (.int .i64 xv.bal.node);have hbx14:=z0A (z0A HB.out.1.top 0 (.int .u64 (xv.bal.n:Int))) 1 (.int .i64 xv.bal.node);have HN14:=hid (zA1 hk14 hbx14);clear hl1 r1 r2 r3 r4 s1 s2 s3 s4 hk14 hbx14
             go_upto_region 25 with fail
             obtain⟨w12,hw12⟩:=zX1 ((wb.setCell ⟨tb,0,none⟩ (.int .u64 (xv.bal.n:Int))).setCell ⟨tb,1,none⟩ (.int .i64 xv.bal.node));rw[← hw12] at HN14 ⊢;clear hw12 t0 t1 tf b0 b1 d0 d1 c0 c1 c2 c3;have KZ:=hid (HB.out.1.set HN14.out.1 HN14.out.2);obtain⟨-,h1p,-,-,-,-⟩:=z2Y KZ.out.three.one.1;obtain⟨t0,t1,-,-⟩:=z1L KZ.out.top
             have HPr:=hid (fun s:Later w12=>show Calls Tryz.prog 16 #[.pointer (some ⟨a,0,none⟩)] s.val fun e w'=>e = .returned (balV xv.bal)∧Keep (fun _=>False) s.val w' from by
              have h:=z8O s.val a d D3 A3 Fb ((AcT.lives _ _ _ _).keep (let ⟨x,e,h⟩:=KZ.out.three.two;by cases e;exact h) s.keep (fun _ _ x=>x));rw[HPm.out] at h
              exact h)
             have j1:=fun s:Later w12=>s.cell h1p;have j2:=fun s:Later w12=>s.cell t0;have j3:=fun s:Later w12=>s.cell t1;clear h1p t0 t1
             (refine z0P (by kernel_rfl) (by kernel_rfl) ?_;(repeat (go_big_quiet_step ((go_at_call 16;exact Later.call (HPr.out _)))));refine wpQuiet_nil ?_;rintro _ ⟨sq,rfl⟩)
             have HZ:=hid (show FLoop w p tb (k+1) sq.val from⟨⟨xv.bal,D3,A3,D2,A2,d,mm,a,r,X,Fb,G,KZ.out.later sq.keep,HFin.out⟩⟩);obtain⟨wz9,hwz9⟩:=zX1 (sq.val);rw[← hwz9] at HZ ⊢;clear hwz9 sq j1 j2 j3 HPr;go_wp2_with fail;go_roundw
             case rel=>exact⟨k+1,by omega,by omega,by go_num,HZ⟩
             case measure=>simp[intOf];omega
     ·obtain⟨top,D,A,D2,A2,d,mm,a,r,X,F,G,hC,-⟩:=HK.out.ex
      have HZ:=hid hC.three.keep;have cut:(¬ (k:Int)<m)∨((k:Int)<m∧¬ (k:Int)<20):=by omega
      clear hgo hC
      rcases cut with c1 | ⟨c0,c1⟩
      all_goals
       go_wp2_with fail;refine(zcM _).mono ?_;rintro e w4 ⟨rfl,hk4⟩;have HZ2:=hid (HZ.out.nx hk4);clear hk4;go_wp2_with fail;go_ret;exact⟨by rfl,HZ2.out⟩
end
end Go.Proofs.YtkjofdocgaiedaaGreat
