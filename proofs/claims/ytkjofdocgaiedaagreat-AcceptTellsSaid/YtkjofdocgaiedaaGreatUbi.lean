/- Texts AcdD, AceI2, AceK, AceP, AceQ in one. Conditions: as each law names them. -/
import Derived.Lib.SlBytesConst
import Derived.BigQuiet
import Derived.Test.YtkjofdocgaiedaaGreatUah
import Derived.Test.YtkjofdocgaiedaaGreatUaj
import Derived.Test.YtkjofdocgaiedaaGreatUbb
import Derived.Test.YtkjofdocgaiedaaGreatUbf
import Derived.Test.YtkjofdocgaiedaaGreatUbg
import Derived.Test.YtkjofdocgaiedaaGreatUbh
set_option maxRecDepth 20000
set_option maxHeartbeats 8000000
namespace Go.Proofs.YtkjofdocgaiedaaGreat
section
open Go.RowKit Go.Maps
open MI SO BM DM WM AC
theorem One.stay {w0 w w':World} {T T':Thing} {F:Nat→Prop} (h:One w0 T F w) (t:Turns T' F w w'):∃ F',One w0 T' F' w'∧∀ (g:Nat) (o:Obj),w.heap[g]?=some o→¬ F g→w'.heap[g]?=some o∧¬ F' g:=by
 obtain⟨F',h1,h2,h3⟩:=t;exact⟨F',⟨h1,fun i x=>(h3 i x).elim (h.new i) fun z=>Nat.le_trans h.keep.size z,h.keep.next h2 (fun _ _ x=>x) (fun i hi x=>absurd (h.new i x) (by omega))⟩,fun g o hg hn=>⟨h2.get hg hn,fun x=>(h3 g x).elim hn fun y=>by have:=z0L hg;omega⟩⟩
theorem zdA (w:World):Calls Tryz.prog 9 #[] w fun e w'=>e = .returned (.bool true)∧Keep (fun _=>False) w w':=by
 obtain⟨D1,A1,D2,A2,A3,g1,g2,g3,g4,g5,g6,r1,r2,r3,n1,n2,n3,q1,q2⟩:=k_go;have HG:=hid (zA1 g1 (zA1 g2 (zA1 g3 (zA1 g4 (zA1 g5 (zA1 g6 (zA1 r1 (zA1 r2 r3))))))));have HW:=hid (zA1 n1 (zA1 n2 (zA1 n3 (zA1 q1 q2))));clear g1 g2 g3 g4 g5 g6 r1 r2 r3 n1 n2 n3 q1 q2;go_enter Tryz.func9,Tryz.ntmps9;go_wp2_with (at_builtin;refine z0A ?_;intro q hq);refine(znU w 60 (by decide) (by decide)).mono ?_;rintro e w3 ⟨d,Pd,rfl,hD,hk,hP⟩;have L3:One w (DkT d (DM.new 60)) Pd w3:=⟨hD,hP,hk⟩;clear hD hk hP;have ho:=zbR w3 d Pd (DM.new 60) L3.one (by decide +kernel);unfold AOpenPost at ho;rw[ztI] at ho;go_wp2_with (at_builtin;refine z0A ?_;intro q hq);refine ho.mono ?_;rintro e w4 ⟨av,rfl,ht⟩;obtain⟨F4,L4⟩:=L3.turn ht;clear ho ht L3;obtain⟨a,rfl,hT⟩:=L4.one;have L4:One w (AcT a d (DM.new 60) kA0) F4 w4:=⟨hT,L4.new,L4.keep⟩;clear hT;have hpr:=z8E w4 a d (DM.new 60) kA0 F4 L4.one zmQ.ok (fun _=>by decide) (by decide +kernel) ⟨1,2⟩ (by decide) 1;unfold PrepPost at hpr;rw[HG.out.1] at hpr;have hpr:Calls Tryz.prog 11 #[.pointer (some ⟨a,0,none⟩),.agg #[.int .u64 1,.int .i64 2],.int .u64 1] w4 _:=hpr;go_wp2_with (at_builtin;refine z0A ?_;intro q hq);refine hpr.mono ?_;rintro e w5 ⟨v5,us5,Fv5,F5,he,hT,hk,hN,hv,-⟩;have he:e = .returned (.tuple #[v5,.agg #[.int .u64 1,.int .i64 2],.int .i64 0]):=he;subst he;obtain⟨a5,c5,rfl,-⟩:=hv.row.form;obtain⟨F5,L5,-⟩:=L4.stay (T':=AcT a d D1 A1) ⟨F5,hT,hk,hN⟩;clear hpr hT hk hN hv L4;simp only[List.length_nil];have hk6:=kal w5 (.cells #[.int .u64 1,.int .i64 2] 28);have hn6:=heap_alloc_new w5 (.cells #[.int .u64 1,.int .i64 2] 28);have hz6:(w5.alloc (.cells #[.int .u64 1,.int .i64 2] 28)).heap.size=w5.heap.size+1:=by simp
 go_upto_region 6 with fail
 obtain⟨w6,hw6⟩:=zX1 (w5.alloc (.cells #[.int .u64 1,.int .i64 2] 28));rw[← hw6] at hk6 hn6 hz6 ⊢;clear hw6;have L6:=L5.later (AcT.lives _ _ _ _) hk6;have hF6:=(AcT.lives _ _ _ _).lt L5.one;have hk7:=kal w6 (.cells #[.int .u8 120] 5 (1,2));have hn7:=heap_alloc_new w6 (.cells #[.int .u8 120] 5 (1,2));have L7:=L6.later (AcT.lives _ _ _ _) hk7;have hF7:=(AcT.lives _ _ _ _).lt L6.one
 have hac:=zdM _ a d D1 A1 F5 L7.one HG.out.2.2.2.2.2.2.1 (fun _=>by have:=HW.out.1;omega) (by have:=HW.out.2.2.2.1;omega) kV (by decide) (by decide) (some ⟨w6.heap.size,0,none⟩) 1
  ⟨rfl,fun _=>⟨_,rfl,fun t u hu=>by rw[z0J,Nat.zero_add,cell_of_row _ _ _ _ _ _ hn7];simpa [kV,z0B] using hu⟩⟩ (fun _ x hx y=>by cases hx;have:=hF7 _ y;simp only at this;omega)
 unfold AccPost at hac;rw[HG.out.2.1] at hac;have hac:Calls Tryz.prog 10 #[.pointer (some ⟨a,0,none⟩),.agg #[.int .u64 3,.int .u64 1,.int .i64 2,.slice (some ⟨w6.heap.size,0,none⟩) 1 1]] _ _:=hac;have HB:=hid (zA1 hn6 (zA1 hk7 (zA1 hF6 hz6)));have HL7:=hid L7;have hcv:(convert 29 29 (.slice (some ⟨w6.heap.size,0,none⟩) 1 1)).run Tryz.prog (w6.alloc (.cells #[.int .u8 120] 5)) = .ok (.slice (some ⟨w6.heap.size,0,none⟩) 1 1) (w6.alloc (.cells #[.int .u8 120] 5 (1,2))):=Lib.run_convert_bytes_const w6 29 5 #[.int .u8 120] 1 1 Tryz.underlying29 Tryz.underlying5;clear hn6 hk6 hz6 L5 L6 hF6 hk7 hn7 L7 hF7;go_wp2_with (at_builtin;refine z0A ?_;intro q hq);refine hac.mono ?_;rintro e w8 ⟨F8,he,hT,hk,hN⟩;have he:e = .returned (.tuple #[.agg #[.int .u64 1,.int .i64 2],.int .i64 0]):=he;subst he;obtain⟨F8,L8,S8⟩:=HL7.out.stay (T':=AcT a d D2 A2) ⟨F8,hT,hk,hN⟩;have b8:=S8 w5.heap.size _ (HB.out.2.1.get HB.out.1 id) (fun y=>by have:=HB.out.2.2.1 _ y;omega);clear hac hT hk hN S8 hcv HL7;have hk9:=kal w8 (.cells #[.int .u64 1,.int .i64 2] 28);have L9:=L8.later (AcT.lives _ _ _ _) hk9;have b9:=hk9.get b8.1 id;have hpr:=z8E _ a d D2 A2 F8 L9.one HG.out.2.2.2.2.2.2.2.1 (fun _=>by have:=HW.out.2.1;omega) (by have:=HW.out.2.2.2.2;omega) ⟨1,1⟩ (by decide) 1;unfold PrepPost at hpr;rw[HG.out.2.2.1] at hpr;have hpr:Calls Tryz.prog 11 #[.pointer (some ⟨a,0,none⟩),.agg #[.int .u64 1,.int .i64 1],.int .u64 1] _ _:=hpr;have HL9:=hid (zA1 L9 (zA1 b9 b8.2));clear L8 L9 b8 b9 hk9;go_wp2_with (at_builtin;refine z0A ?_;intro q hq);refine hpr.mono ?_;rintro e w10 ⟨v10,us10,Fv10,F10,he,hT,hk,hN,hv,-⟩;have he:e = .returned (.tuple #[v10,.agg #[.int .u64 1,.int .i64 2],.int .i64 90]):=he;subst he;obtain⟨a10,c10,rfl,-⟩:=hv.row.form;simp only[List.length_nil];obtain⟨F10,L10,S10⟩:=HL9.out.1.stay (T':=AcT a d D2 A2) ⟨F10,hT,hk,hN⟩;have b10:=S10 w5.heap.size _ HL9.out.2.1 HL9.out.2.2;clear hpr hT hk hN hv S10 HL9;have hk11:=kal w10 (.cells #[.int .u64 1,.int .i64 2] 28);have hn11:=heap_alloc_new w10 (.cells #[.int .u64 1,.int .i64 2] 28);have L11:=L10.later (AcT.lives _ _ _ _) hk11;have hFl:=(AcT.lives _ _ _ _).lt L10.one;have b11:=hk11.get b10.1 id;obtain⟨F11,hd11,s11⟩:=L11.one.disk;have L11:=L11.shrink hd11 s11;have hn11b:¬ F11 w10.heap.size:=fun y=>by have:=hFl _ (s11 _ y);omega
 have hb11b:¬ F11 w5.heap.size:=fun y=>b10.2 (s11 _ y);have hcr:=zoT _ d F11 D2 none 0 0 [] L11.one ⟨rfl,fun h=>by omega⟩ (fun h=>by omega) (by decide) (by simp) (by have:=HW.out.2.2.2.2;omega);rw[HG.out.2.2.2.1] at hcr;have HL11:=hid (zA1 L11 (zA1 b11 (zA1 hn11 (zA1 hn11b hb11b))));clear L10 L11 b10 b11 hn11 hk11 hd11 s11 hn11b hb11b hFl;go_wp2_with (at_builtin;refine z0A ?_;intro q hq);refine hcr.mono ?_;rintro e w12 ⟨rfl,ht⟩;obtain⟨F12,L12,S12⟩:=HL11.out.1.stay (T':=DkT d D2) ht;have b12:=S12 w5.heap.size _ HL11.out.2.1 HL11.out.2.2.2.2;have c12:=S12 w10.heap.size _ HL11.out.2.2.1 HL11.out.2.2.2.1;clear hcr ht HL11 S12;have ho:=zbR w12 d F12 D2 L12.one (by have:=HW.out.2.2.2.2;omega);unfold AOpenPost at ho;rw[HG.out.2.2.2.2.1] at ho;go_wp2_with (at_builtin;refine z0A ?_;intro q hq);refine ho.mono ?_;rintro e w13 ⟨av,rfl,ht⟩;obtain⟨F13,L13,S13⟩:=L12.stay ht;have b13:=S13 w5.heap.size _ b12.1 b12.2;have c13:=S13 w10.heap.size _ c12.1 c12.2;clear ho ht L12 S13 b12 c12;obtain⟨a',rfl,hT⟩:=L13.one;have L13:One w (AcT a' d D2 A3) F13 w13:=⟨hT,L13.new,L13.keep⟩;clear hT;have hpr:=z8E w13 a' d D2 A3 F13 L13.one HG.out.2.2.2.2.2.2.2.2 (fun _=>by have:=HW.out.2.2.1;omega) (by have:=HW.out.2.2.2.2;omega) ⟨2,0⟩ (by decide) 1;unfold PrepPost at hpr;rw[HG.out.2.2.2.2.2.1] at hpr;have hpr:Calls Tryz.prog 11 #[.pointer (some ⟨a',0,none⟩),.agg #[.int .u64 2,.int .i64 0],.int .u64 1] _ _:=hpr;have HL13:=hid (zA1 L13 (zA1 b13 c13));clear L13 b13 c13;go_wp2_with (at_builtin;refine z0A ?_;intro q hq);refine hpr.mono ?_;rintro e w14 ⟨v14,us14,Fv14,F14,he,hT,hk,hN,hv,-⟩;have he:e = .returned (.tuple #[v14,.agg #[.int .u64 2,.int .i64 0],.int .i64 0]):=he;subst he;obtain⟨a14,c14,rfl,-⟩:=hv.row.form;obtain⟨F14,L14,S14⟩:=HL13.out.1.stay (T':=AcT a' d (z2U D2 A3 ⟨2,0⟩ 1).2.1 (z2U D2 A3 ⟨2,0⟩ 1).2.2) ⟨F14,hT,hk,hN⟩;have b14:=S14 w5.heap.size _ HL13.out.2.1.1 HL13.out.2.1.2;have c14':=S14 w10.heap.size _ HL13.out.2.2.1 HL13.out.2.2.2;clear hpr hT hk hN S14 HL13;have hk15:=kal w14 (.cells #[.int .u64 2,.int .i64 0] 28);obtain⟨g,ua,uc,rfl,hcell,hrow⟩:=hv.get 0 (by decide);have x0:=z0E hk15 _ _ (hcell 0 _ rfl);have x3:=z0E hk15 _ _ (hcell 3 _ rfl);have hrow:=hrow.keep hk15 (fun _ _ x=>x);have y6:=hk15.get b14.1 id;have y11:=hk15.get c14'.1 id;have hkz:=L14.keep.nx hk15;obtain⟨w15,hw15⟩:=zX1 (w14.alloc (.cells #[.int .u64 2,.int .i64 0] 28));rw[← hw15] at x0 x3 hrow y6 y11 hkz;replace x0:w15.cell? ⟨g,0,none⟩=some (.int .u64 3):=x0;replace x3:w15.cell? ⟨g,3,none⟩=some (.slice ua 1 uc):=x3;replace hrow:Row w15 5 1 (.slice ua 1 uc) 1 (z0B [120]):=hrow;have z6:w15.cell? ⟨w5.heap.size,0,none⟩=some (.int .u64 1):=by simp[World.cell?,y6]
 have z11:w15.cell? ⟨w10.heap.size,1,none⟩=some (.int .i64 2):=by simp[World.cell?,y11]
 have hcv:=z3C (P:=Tryz.prog) Tryz.underlying29 Tryz.underlying5 Tryz.underlying9 (c:=uc) (Cells.of_row hrow);have q:((str [120]).toList == [120])=true:=by rw[z0Y];rfl
 have HK:=hid hkz;clear hk15 hcell hv L14 b14 c14' y6 y11 hkz hrow;simp only[List.length_cons,List.length_nil,Nat.zero_add]
 go_upto_region 13 with fail
 rw[← hw15];clear hw15;go_wp2_with (at_builtin;refine z0A ?_;intro q hq);go_ret;exact⟨rfl,HK.out⟩
end
section
open Go.RowKit Go.Maps
open MI SO BM DM WM AC
def VtsR (l:List Vt) (v:Value) (w:World):Prop:=∃ ao n c,v = .slice ao n c∧n=l.length∧VotesC w ao l
end
section
open Go.RowKit Go.Maps
open MI SO BM DM WM AC
structure VKept (W wr:World) (vv:Value) (vs:List Vt) (us:List Value):Prop where
 row:Row wr 31 4 vv vs.length (z0P vs us)
 len:us.length=vs.length
 each:∀ j (hj:j<vs.length),∃ ua uc,us.getD j undef = .slice ua vs[j].val.length uc∧vs[j].val.length≤uc∧uc≤maxLen∧Cells W ua vs[j].val.length 1 (z0B vs[j].val)
theorem VKept.read {W wr:World} {ao:Option Addr} {n c:Nat} {vs:List Vt} {us:List Value} (h:VKept W wr (.slice ao n c) vs us) (hk:Keep (fun _=>False) W wr):VotesC wr ao vs:=fun i hi=>by
 obtain⟨ua,uc,e,h1,h2,h3⟩:=h.each i hi;obtain⟨g,cap,hv,-⟩:=h.row.getCell (show (z0P vs us)[i * 4+0]?=some (.int .u64 (vs[i].slot:Int)) by rw[z4L h.len i hi 0 (by decide)];rfl);cases hv;refine⟨⟨g,0,none⟩,ua,uc,rfl,fun j u hu=>?_,h1,h2,h3.keep hk (fun _ _ x=>x)⟩;have hj:j<4:=(List.getElem?_eq_some_iff.1 hu).1;have h4:=z4L h.len i hi j hj;rw[e,hu] at h4;obtain⟨g',cap',hv',hc'⟩:=h.row.getCell h4;cases hv';rw[z0J,z0J,Nat.zero_add];exact hc'
theorem VKept.push {W wr wx:World} {vv v':Value} {vs:List Vt} {us:List Value} {x:Vt} {ua:Option Addr} {uc:Nat} (h:VKept W wr vv vs us) (hr:Row wx 31 4 v' (vs.length+1) (z0P vs us ++ z2H x (.slice ua x.val.length uc))) (h1:x.val.length≤uc) (h2:uc≤maxLen) (h3:Cells W ua x.val.length 1 (z0B x.val)):VKept W wx v' (vs ++ [x]) (us ++ [.slice ua x.val.length uc]):=by
 refine⟨by rw[z5Z h.len];simpa using hr,by simp[h.len],fun j hj=>?_⟩;rw[List.length_append,List.length_singleton] at hj
 rcases Nat.lt_or_eq_of_le (Nat.le_of_lt_succ hj) with y | y
 ·rw[List.getD_eq_getElem?_getD,List.getElem?_append_left (by rw[h.len];exact y),← List.getD_eq_getElem?_getD]
  rw[List.getElem_append_left y];exact h.each j y
 ·subst y
  rw[List.getD_eq_getElem?_getD,List.getElem?_append_right (by rw[h.len];exact Nat.le_refl _),h.len,Nat.sub_self];rw[List.getElem_append_right (Nat.le_refl _)];simp only[Nat.sub_self,List.getElem_cons_zero];exact⟨ua,uc,rfl,h1,h2,h3⟩
theorem VKept.nil (W wr:World):VKept W wr (.slice none 0 0) [] []:=⟨Row.nil _ _ _,rfl,fun j hj=>by simp at hj⟩
theorem VKept.keep {W wr wx:World} {vv:Value} {vs:List Vt} {us:List Value} {K:Nat→Prop} (h:VKept W wr vv vs us) (hk:Keep K wr wx) (hn:∀ k,vv.ownBlock=some k→¬ K k):VKept W wx vv vs us:=
 ⟨h.row.keep hk hn,h.len,h.each⟩
structure KH (W:World) (p tb:Nat) (vv:Value) (top:Bal) (vs:List Vt) (D1:Dk) (A1:Ac) (D2:Dk) (A2:Ac) (d m a r:Nat) (X F G:Nat→Prop) (wr:World):Prop where
 three:Three W (BoxT p (zcB d m (.pointer (some ⟨a,0,none⟩)) (.pointer (some ⟨r,0,none⟩))) 40) X (AcP d D1 (some A1) (.pointer (some ⟨a,0,none⟩))) F (RAcP m D2 (some A2) (.pointer (some ⟨r,0,none⟩))) G wr
 votes:∃ us,VKept W wr vv vs us
 far:∀ k,k=tb∨vv.ownBlock=some k→W.heap.size≤k∧¬ X k∧¬ F k∧¬ G k
 apart:vv.ownBlock≠some tb
 top:wr.heap[tb]?=some (.cells (balC top) 28 (0,0))
section
variable {W wr wx:World} {p tb:Nat} {vv:Value} {top:Bal} {vs:List Vt} {D1 D2 D':Dk} {A1 A2 A':Ac} {d m a r:Nat} {X F F' G G' K:Nat→Prop}
end
def PS (p po k:Nat) (ptr:Value) (v:Vt) (w:World):Prop:=
 w.cell? ⟨p,po,none⟩=some ptr∧w.cell? ⟨k,0,none⟩=some (.int .u64 (v.slot:Int))∧w.cell? ⟨k,1,none⟩=some (.int .u64 (v.bal.n:Int))∧w.cell? ⟨k,2,none⟩=some (.int .i64 v.bal.node)
end
section
open Go.RowKit Go.Maps
open MI SO BM DM WM AC
def BS (p k:Nat) (ptr:Value) (b:Bal) (w:World):Prop:=
 w.cell? ⟨p,1,none⟩=some ptr∧w.cell? ⟨k,0,none⟩=some (.int .u64 (b.n:Int))∧w.cell? ⟨k,1,none⟩=some (.int .i64 b.node)
theorem AC.safe_new (n:Nat):(DM.new n).safe.length=n:=by simp[DM.new]
theorem AC.half_new (n:Nat):WM.half (DM.new n)=(n - 2) / 2:=by unfold WM.half;rw[safe_new]
theorem AC.room400:Room 199 0 (DM.new 400) kA0:=by
 have hs:Sound (DM.new 400) nS0:=by
  have hs:=zeA (D:=DM.new 400) ⟨rfl,rfl⟩ (Ok.new (by decide) (by decide)) (by rw[safe_new];decide) nS0 (by rw[znJ 400 (by decide)]);rw[znJ 400 (by decide)] at hs;exact hs
 exact⟨hs,⟨fun _=>⟨.inl rfl,List.Pairwise.nil,fun v hv=>by cases hv⟩,fun _=>rfl⟩,by rw[half_new],Nat.le_refl 0⟩
def FRel (W:World) (p tb:Nat) (top:Bal) (D':Dk) (A':Ac) (D2:Dk) (A2:Ac) (d m a r:Nat) (X F G:Nat→Prop) (rb:Bal) (w0:World) (g:Nat) (wx:World):Prop:=
 ∃ F3,KH W p tb (.slice none 0 0) top [] D' A' D2 A2 d m a r X F3 G wx∧wx.heap[g]?=some (.cells (balC rb) 28 (0,0))∧w0.heap.size≤g∧Keep (fun k=>F k∨w0.heap.size≤k) w0 wx∧(∀ k,F3 k→F k∨w0.heap.size≤k)∧¬ F3 g
structure FLoop (W:World) (p tb k:Nat) (wr:World):Prop where
 ex:∃ top D A D2 A2 d m a r X F G,KH W p tb (.slice none 0 0) top [] D A D2 A2 d m a r X F G wr∧Room 199 (70+290 * k) D A∧A.b=top∧D.waits.length≤1024+10240 * (k+1)∧A.s.ps.length≤8+8 * k
end
section
open Go.RowKit Go.Maps
open MI SO BM DM WM AC
structure KV (W:World) (p:Nat) (vv:Value) (vs:List Vt) (D1:Dk) (A1:Ac) (D2:Dk) (A2:Ac) (d m a r:Nat) (X F G:Nat→Prop) (wr:World):Prop where
 three:Three W (BoxT p (zcB d m (.pointer (some ⟨a,0,none⟩)) (.pointer (some ⟨r,0,none⟩))) 40) X (AcP d D1 (some A1) (.pointer (some ⟨a,0,none⟩))) F (RAcP m D2 (some A2) (.pointer (some ⟨r,0,none⟩))) G wr
 votes:∃ us,VKept W wr vv vs us
 far:∀ k,vv.ownBlock=some k→W.heap.size≤k∧¬ X k∧¬ F k∧¬ G k
section
variable {W wr wx:World} {p:Nat} {vv:Value} {vs:List Vt} {D1 D2 D':Dk} {A1 A2 A':Ac} {d m a r:Nat} {X F F' G G' K:Nat→Prop}
theorem KV.lt (h:KV W p vv vs D1 A1 D2 A2 d m a r X F G wr) (k:Nat) (hk:vv.ownBlock=some k):k<wr.heap.size:=by
 obtain⟨us,hv⟩:=h.votes;exact hv.row.lt hk
theorem KV.box (h:KV W p vv vs D1 A1 D2 A2 d m a r X F G wr):p<wr.heap.size∧X p∧¬ F p∧¬ G p:=⟨z0L h.three.one.1,h.three.one.2.1,fun y=>h.three.a12 p h.three.one.2.1 y,fun y=>h.three.a13 p h.three.one.2.1 y⟩
theorem KV.old (h:KV W p vv vs D1 A1 D2 A2 d m a r X F G wr) (k:Nat) (hk:X k∨F k∨G k):k<wr.heap.size:=
 hk.elim (h.three.one.2.2 k) fun x=>x.elim ((AcP.lives _ _ _ _).lt h.three.two k) ((RAcP.lives _ _ _ _).lt h.three.three k)
theorem KV.later (h:KV W p vv vs D1 A1 D2 A2 d m a r X F G wr) (hk:Keep (fun _=>False) wr wx):KV W p vv vs D1 A1 D2 A2 d m a r X F G wx:=
 ⟨h.three.later (BoxT.lives _ _ _) (AcP.lives _ _ _ _) (RAcP.lives _ _ _ _) hk,let ⟨us,hv⟩:=h.votes;⟨us,hv.keep hk (fun _ _ x=>x)⟩,h.far⟩
theorem KV.beside {g:Nat} (h:KV W p vv vs D1 A1 D2 A2 d m a r X F G wr) (hk:Keep (fun k=>k=g) wr wx) (hg:W.heap.size≤g∧¬ X g∧¬ F g∧¬ G g) (h2:vv.ownBlock≠some g):KV W p vv vs D1 A1 D2 A2 d m a r X F G wx:=
 ⟨h.three.beside (BoxT.lives _ _ _) (AcP.lives _ _ _ _) (RAcP.lives _ _ _ _) hk (fun i x e=>hg.2.1 (by rw[← show i=g from e];exact x)) (fun i x e=>hg.2.2.1 (by rw[← show i=g from e];exact x)) (fun i x e=>hg.2.2.2 (by rw[← show i=g from e];exact x)) (fun i e=>by rw[show i=g from e];exact hg.1),
  let ⟨us,hv⟩:=h.votes;⟨us,hv.keep hk (fun k e x=>h2 (by rw[← show k=g from x];exact e))⟩,h.far⟩
theorem KV.to2 (h:KV W p vv vs D1 A1 D2 A2 d m a r X F G wr) (h1:AcT a d D' A' wx F') (hk:Keep F wr wx) (hn:∀ i,F' i→F i∨wr.heap.size≤i):KV W p vv vs D' A' D2 A2 d m a r X F' G wx:=by
 refine⟨h.three.to2 (BoxT.lives _ _ _) (RAcP.lives _ _ _ _) ⟨a,rfl,h1⟩ hk hn,?_,fun k x=>?_⟩
 ·obtain⟨us,hv⟩:=h.votes
  exact⟨us,hv.keep hk fun k e=>(h.far k e).2.2.1⟩
 ·obtain⟨h2,h3,h4,h5⟩:=h.far k x
  refine⟨h2,h3,fun y=>?_,h5⟩
  rcases hn k y with z | z
  ·exact h4 z
  ·have:=h.lt k x;omega
theorem KV.other (h:KV W p vv vs D1 A1 D2 A2 d m a r X F G wr) {vv':Value} {vs':List Vt} (hv:∃ us,VKept W wr vv' vs' us) (hn:∀ k,vv'.ownBlock=some k→W.heap.size≤k∧¬ X k∧¬ F k∧¬ G k):KV W p vv' vs' D1 A1 D2 A2 d m a r X F G wr:=⟨h.three,hv,hn⟩
theorem KV.grow (h:KV W p vv vs D1 A1 D2 A2 d m a r X F G wr) (hk:Keep K wr wx) (hK:∀ k,K k→W.heap.size≤k∧¬ X k∧¬ F k∧¬ G k) (hv:∀ k,vv.ownBlock=some k→¬ K k):KV W p vv vs D1 A1 D2 A2 d m a r X F G wx:=
 ⟨h.three.beside (BoxT.lives _ _ _) (AcP.lives _ _ _ _) (RAcP.lives _ _ _ _) hk (fun i x e=>(hK i e).2.1 x) (fun i x e=>(hK i e).2.2.1 x) (fun i x e=>(hK i e).2.2.2 x) (fun i e=>(hK i e).1),let ⟨us,h2⟩:=h.votes;⟨us,h2.keep hk hv⟩,h.far⟩
end
theorem z6T {P:Program} {t e:TypeId} {z:Value} {size bytes:Nat} (T:SliceTy P t e z size bytes) (ao:Option Addr) (n cap:Nat) (k k':IntKind) (lo hi:Nat) (h1:lo≤hi) (h2:hi≤cap) (w:World) :
  (Instr.sliceAt t (.slice ao n cap) (some (.int k (lo:Int))) (some (.int k' (hi:Int))) none).run P w = .ok (.slice (z1E ao cap lo size) (hi - lo) (cap - lo)) w:=by
 obtain⟨ht,hinfo,hzs,hpos⟩:=T
 obtain⟨i,hi',hsize⟩:∃ i,P.info? e=some i∧i.size=size:=by
  cases hq:P.info? e with
  | none=>simp[hq] at hinfo
  | some i=>simp[hq] at hinfo;exact⟨i,rfl,hinfo.2.1⟩
 subst hsize;have h0:(0:Int)≤(hi:Int)∧(hi:Int)≤(cap:Int):=by omega
 have h3:(0:Int)≤(lo:Int)∧(lo:Int)≤(hi:Int):=by omega
 simp[Instr.sliceAt,Instr.slice,run_underlying ht,Instr.sliceBounds,Instr.sliceBound,asIntOf,h0,h1,h2,h3,sizeOf,typeInfo,hi',z1E]
theorem VotesC.at1 {w:World} {ao:Option Addr} {l:List Vt} (h:VotesC w ao l) {i:Nat} (hi:i<l.length) {c:Nat} (hc:l.length≤c):VotesC w (z1E ao c i 4) [l[i]]:=fun j hj=>by
 have hj0:j=0:=by simpa using hj
 subst hj0;obtain⟨ad,ua,uc,e,h1,h2,h3,h4⟩:=h i hi;refine⟨ad.add (i * 4),ua,uc,?_,fun t u hu=>?_,h2,h3,h4⟩
 ·unfold z1E
  rw[if_neg (by omega),e];rfl
 ·exact h1 t u hu
def TRel (W:World) (p:Nat) (lv:Value) (vs:List Vt) (D':Dk) (A':Ac) (D2:Dk) (A2:Ac) (d m a r:Nat) (X F G:Nat→Prop) (w0 wx:World):Prop:=
 ∃ F3,KV W p lv vs D' A' D2 A2 d m a r X F3 G wx∧Keep (fun k=>F k∨w0.heap.size≤k) w0 wx∧w0.heap.size≤wx.heap.size
structure TLoop (W:World) (p k:Nat) (lv:Value) (wr:World):Prop where
 ex:∃ vs D A D2 A2 d m a r X F G,KV W p lv vs D A D2 A2 d m a r X F G wr∧Room 199 (220 * k) D A∧vs.Perm A.vs∧vs.length≤k∧D.waits.length≤1024+5120 * k∧A.s.ps.length≤8+2 * k
def TIn (W w9:World) (nv:Value) (next:List Vt) (wr:World):Prop:=
 Keep (fun b=>w9.heap.size≤b) w9 wr∧(∃ us,VKept W wr nv next us)∧∀ b,nv.ownBlock=some b→w9.heap.size≤b
theorem AC.tell_n {k:Nat} (h:k<20):8+2 * k≤890000∧1024+5120 * k≤490000∧220 * k+220≤32 * 199∧220 * k+220≤220 * (k+1):=by omega
theorem AC.tell_w {k x y:Nat} (h:x≤y+5120) (h2:y≤1024+5120 * k):x≤1024+5120 * (k+1):=Nat.le_trans h (Nat.le_trans (Nat.add_le_add_right h2 _) (by rw[Nat.mul_succ];exact Nat.le_of_eq (Nat.add_assoc _ _ _)))
theorem zsA {p:Vt→Bool} (vs:List Vt) (q:Nat) (hq:q<vs.length) (h:p vs[q]=false):(vs.take (q+1)).filter p=(vs.take q).filter p:=by
 rw[List.take_add_one,List.getElem?_eq_getElem hq,List.filter_append];simp[h]
theorem zqK {p:Vt→Bool} (vs:List Vt) (q:Nat) (hq:q<vs.length) (h:p vs[q]=true):(vs.take (q+1)).filter p=(vs.take q).filter p ++ [vs[q]]:=by
 rw[List.take_add_one,List.getElem?_eq_getElem hq,List.filter_append];simp[h]
theorem VKept.at {W wr:World} {ao:Option Addr} {n c:Nat} {vs:List Vt} {us:List Value} (h:VKept W wr (.slice ao n c) vs us) (q:Nat) (hq:q<vs.length):∃ ad ua uc,ao=some ad∧wr.cell? (ad.add (q * 4))=some (.int .u64 (vs[q].slot:Int))∧
  wr.cell? { block:=(ad.add (q * 4)).block,off:=(ad.add (q * 4)).off+1 }=some (.int .u64 (vs[q].bal.n:Int))∧wr.cell? { block:=(ad.add (q * 4)).block,off:=(ad.add (q * 4)).off+2 }=some (.int .i64 vs[q].bal.node)∧
  wr.cell? { block:=(ad.add (q * 4)).block,off:=(ad.add (q * 4)).off+3 }=some (.slice ua vs[q].val.length uc)∧vs[q].val.length≤uc∧uc≤maxLen∧Cells W ua vs[q].val.length 1 (z0B vs[q].val):=by
 obtain⟨ua,uc,e,h1,h2,h3⟩:=h.each q hq
 have hg:∀ j,j<4→∀ u,(z2H vs[q] (.slice ua vs[q].val.length uc))[j]?=some u→∃ ad,ao=some ad∧wr.cell? ((ad.add (q * 4)).add j)=some u:=fun j hj u hu=>by
  have h4:=z4L h.len q hq j hj;rw[e,hu] at h4;obtain⟨g',cap',hv',hc'⟩:=h.row.getCell h4;cases hv';exact⟨_,rfl,by rw[z0J,z0J,Nat.zero_add];exact hc'⟩
 obtain⟨ad,rfl,k0⟩:=hg 0 (by decide) _ rfl;obtain⟨_,e1,k1⟩:=hg 1 (by decide) _ rfl;cases e1;obtain⟨_,e1,k2⟩:=hg 2 (by decide) _ rfl;cases e1;obtain⟨_,e1,k3⟩:=hg 3 (by decide) _ rfl;cases e1;rw[show ∀ a:Addr,a.add 0=a from fun a=>by simp[Addr.add]] at k0;rw[zgT _ _ (by decide)] at k1 k2 k3;exact⟨ad,ua,uc,rfl,k0,k1,k2,k3,h1,h2,h3⟩
theorem zdB {p:Vt→Bool} (vs:List Vt) (q:Nat) (hq:q<vs.length):(vs.take (q+1)).countP p=(vs.take q).countP p+(if p vs[q] then 1 else 0):=by
 rw[List.take_add_one,List.getElem?_eq_getElem hq,List.countP_append];simp[List.countP_cons]
theorem zsO (w:World) (v:Value) (l:List Vt) (hl:VoteL w v l) (f:Nat) :
  Calls Tryz.prog 3 #[v,.int .u64 (f:Int)] w fun e w'=>e = .returned (.bool true)∧Keep (fun _=>False) w w':=by
 obtain⟨ao,c,rfl,hlc,hcm⟩:=hl.form;obtain⟨m,hm⟩:=zX1 (l.length);rw[← hm] at hl hlc ⊢;have HL:=hid hl;have Hm:=hid hm;clear hl hcm hm;go_enter Tryz.func3,Tryz.ntmps3;go_wp2_with (at_builtin;refine z0A ?_;intro q hq);refine(zhS w 400 (by decide) (by decide)).mono ?_;rintro e w2 ⟨p,rfl,hP2⟩;rw[zmI 400 (by decide)] at hP2;obtain⟨d,mm,av,rv,X,F,G,h⟩:=hP2;obtain⟨a,rfl,-⟩:=h.two;obtain⟨r,rfl,-⟩:=h.three;have HR0:=hid (show TLoop w p 0 (.slice none 0 0) w2 from⟨[],DM.new 400,kA0,DM.new 400,kA0,d,mm,a,r,X,F,G,⟨h,⟨[],VKept.nil _ _⟩,fun k x=>by simp[Value.ownBlock] at x⟩,room400,List.Perm.refl _,Nat.le_refl _,by simp[DM.new],by decide⟩);clear h;go_wp2_with (at_builtin;refine z0A ?_;intro q hq)
 go_loopw [7,8] (fun lv iv wr=>∃ k:Nat,k≤m∧k≤20∧iv = .int .i64 k∧Hid (TLoop w p k lv wr)) (fun _ iv _=>20 - (intOf iv).toNat)
 case atStart=>exact⟨0,Nat.zero_le _,Nat.zero_le _,rfl,HR0⟩
 case round=>
  clear HR0;obtain⟨k,hk,hk20,rfl,HK⟩:=hrel
  by_cases hgo:k<m∧k<20
  ·have h2:(k:Int)<m:=by omega
   have h1:(k:Int)<20:=by omega
   have hkl:k<l.length:=by rw[← Hm.out];exact hgo.1
   obtain⟨vs,D,A,D2,A2,d,mm,a,r,X,F,G,hC,hRoom,hPm,hvl,hwt,hps⟩:=HK.out.ex;obtain⟨ad,cs,rfl,-,⟨u,rfl,hu,hvt⟩,k0,kr⟩:=HL.out.at hC.three.keep k hkl;have a0:=k0 _ rfl;have a1:=kr 1 _ (by decide) rfl;have a2:=kr 2 _ (by decide) rfl;have a3:=kr 3 _ (by decide) rfl;obtain⟨uo,uc,rfl,-⟩:=hu.form;obtain⟨xv,hxv⟩:=zX1 (l[k]);rw[← hxv] at a0 a1 a2 a3 hu hvt;obtain⟨ul,hul⟩:=zX1 (xv.val.length);rw[← hul] at a3 hu;have HC:=hid (zA1 hC (zA1 hRoom (zA1 hPm (zA1 hvl (zA1 hwt (zA1 hps (zA1 hu hvt)))))));have HUL:=hid hul;have hgo1:=hgo.1;have hgo2:=hgo.2;have hn6:=heap_alloc_new wr (.cells #[.int .u64 (xv.slot:Int),.int .u64 (xv.bal.n:Int),.int .i64 xv.bal.node,.slice uo ul uc] 31);have hk6:=kal wr (.cells #[.int .u64 (xv.slot:Int),.int .u64 (xv.bal.n:Int),.int .i64 xv.bal.node,.slice uo ul uc] 31);have HN6:=hid (zA1 hn6 hk6);clear hC hRoom hPm hvl hwt hps hu hvt k0 kr hxv hul hgo hn6 hk6
   go_upto_region 9 with fail
   obtain⟨wv,hw6⟩:=zX1 (wr.alloc (.cells #[.int .u64 (xv.slot:Int),.int .u64 (xv.bal.n:Int),.int .i64 xv.bal.node,.slice uo ul uc] 31));rw[← hw6] at HN6 ⊢;clear hw6 a0 a1 a2 a3;obtain⟨vb,hvb⟩:=zX1 (wr.heap.size);rw[← hvb] at HN6 ⊢;have HVb:=hid (show (∀ k,X k∨F k∨G k→k<vb)∧∀ k,u7.ownBlock=some k→k<vb from⟨by rw[hvb];exact HC.out.1.old,by rw[hvb];exact HC.out.1.lt⟩);clear hvb;obtain⟨c0,c1,c2,c3,-,-⟩:=z5F HN6.out.1;have K6:=hid (HC.out.1.later HN6.out.2)
   by_cases hlong:1000<ul
   ·have q3:(1000:Int)<(ul:Int):=by omega
    have HZ:=hid K6.out.three.keep;go_wp2_with (at_builtin;refine z0A ?_;intro q hq);refine(zdA _).mono ?_;rintro e w7 ⟨rfl,hk7⟩;have HZ2:=hid (HZ.out.nx hk7);clear hk7;go_wp2_with (at_builtin;refine z0A ?_;intro q hq);go_ret;exact⟨by rfl,HZ2.out⟩
   ·have q3:decide ((1000:Int)<(ul:Int))=false:=decide_eq_false (by omega)
    have q4:decide (1000<ul)=false:=decide_eq_false (by omega);obtain⟨R,hR⟩:=zX1 (z0O D A xv);obtain⟨⟨rb,rc⟩,D1,A1⟩:=R;have HR:=hid hR;clear hR hlong;obtain⟨hkk1,hkk2,hkk3,hkk4⟩:=AC.tell_n hgo2;have HI:=hid (show AOk A∧A.s.ps.length≤890000∧D.waits.length≤490000∧D.safe.length≤2048 from⟨HC.out.2.1.ok,Nat.le_trans HC.out.2.2.2.2.2.1 hkk1,Nat.le_trans HC.out.2.2.2.2.1 hkk2,HC.out.2.1.sound.disk.ok.few⟩)
    have HI1:=hid (show Room 199 (220 * (k+1)) D1 A1∧D1.waits.length≤1024+5120 * (k+1)∧A1.s.ps.length≤8+2 * (k+1)∧((rc=0∧A1.vs=insV A.vs xv)∨(rc≠0∧A1.vs=A.vs)) from by
     have h2:=zhG D A xv;have h3:=z8M HI.out.2.2.2 A xv;obtain⟨q,q2⟩:=HC.out.2.1.any hkk3 xv HC.out.2.2.2.2.2.2.2.bal.1 HC.out.2.2.2.2.2.2.2.slot;rw[← HR.out] at h2 h3 q q2;simp only at h2 h3 q q2;have:=HC.out.2.2.2.2.2.1;refine⟨⟨q.sound,q.ok,q.half,Nat.le_trans q.few hkk4⟩,AC.tell_w h3 HC.out.2.2.2.2.1,by omega,?_⟩
     rcases q2 with ⟨x,y,-⟩ | ⟨x,y⟩
     ·exact .inl ⟨x,y⟩
     ·exact .inr ⟨x,y⟩)
    obtain⟨-,h1p,-,-,-,-⟩:=z4D K6.out.three.one.1;have HS:=hid (show VS p 1 vb 0 1 2 3 (.pointer (some ⟨a,0,none⟩)) xv (.slice uo ul uc) wv from⟨h1p,c0,c1,c2,c3⟩);have HFv:=hid (show ¬ F vb∧vb<wv.heap.size from⟨fun y=>by have:=HVb.out.1 _ (.inr (.inl y));omega,z0L HN6.out.1⟩);clear h1p c0 c1 c2 c3 hkk1 hkk2 hkk3 hkk4;obtain⟨-,-,-,d3,-,-⟩:=z5F HN6.out.1
    go_upto_region 11 with fail
    clear q3 q4 d3
    go_cut [10,11] (fun gv ev wx=>∃ g:Nat,gv = .pointer (some ⟨g,0,none⟩)∧ev = .int .i64 rc∧Hid (TRel w p u7 vs D1 A1 D2 A2 d mm a r X F G wv wx))
    case first=>
     have HVb2:=hid (show True∧∀ k,u7.ownBlock=some k→k<wv.heap.size from⟨trivial,fun k e=>by have:=HVb.out.2 k e;have:=HFv.out.2;omega⟩);have x1:VS p 1 vb 0 1 2 3 (.pointer (some ⟨a,0,none⟩)) xv (.slice uo ul uc) wv.drew:=HS.out;have hkd:Keep (fun _=>False) wv wv.drew:=(Keep.refl _ _).drew;have HK0:=hid (K6.out);have HVb1:=hid (HFv.out);refine Twin.zcD (VS p 1 vb 0 1 2 3 (.pointer (some ⟨a,0,none⟩)) xv (.slice uo ul uc)) [] [55,56] 5 9 (by kernel_rfl) (by kernel_rfl) (by rfl) (by kernel_rfl) ?_ ?_
     ·obtain⟨wd,hwd⟩:=zX1 (wv.drew)
      rw[← hwd] at x1 hkd ⊢;have hwds:wd.heap.size=wv.heap.size:=by rw[hwd];rfl
      clear hwd;obtain⟨w5,hw5⟩:=zX1 (wd);have x2:=x1;have hk05:=hkd;have hz5:=hwds;rw[← hw5] at x2 hk05 hz5 ⊢;clear hw5;have C1:=HK0.out.later hk05;obtain⟨a',e,hac⟩:=C1.three.two;cases e;have hcr:=zdM w5 a d D A F hac HI.out.1 (fun _=>Nat.le_trans HI.out.2.1 (by decide)) HI.out.2.2.1 xv HC.out.2.2.2.2.2.2.2.bal.1 HC.out.2.2.2.2.2.2.2.slot uo uc (HC.out.2.2.2.2.2.2.1.far C1.three.keep C1.three.new2).2.2.1 (HC.out.2.2.2.2.2.2.1.far C1.three.keep C1.three.new2).2.2.2.1;rw[← HUL.out] at hcr;rw[← HR.out] at hcr;have HC:=hid C1;clear C1 hac
      repeat (apply Twin.z0F (by rfl) (by exact x2);(intro K w' hS;obtain⟨s1,s2,s3,s4,s5⟩:=hS;go_simp;exact id))
      refine Twin.z0M (by decide) (by rfl) (by exact x2) (fun K hK=>?_);go_simp;refine hcr.mono ?_;rintro e w6 ⟨F6,rfl,hT,hkc,hN⟩;have C2:=HC.out.to2 hT hkc hN;have x3:=VS.keep hkc (fun y=>HC.out.box.2.2.1 y) (fun y=>HVb1.out.1 y) x2;have hs56:=hkc.size;have hWs:=HK0.out.three.keep.size;have hvbs:=HVb1.out.2;have hpl:=HK0.out.box.1;go_simp;refine hK _ _ (fun h=>by cases h) x3 ?_;clear hK K x2
      repeat (apply Twin.z0F (by rfl) (by exact x3);(intro K w' hS;obtain⟨s1,s2,s3,s4,s5⟩:=hS;go_simp;exact id))
      have hk7:=kal w6 (.cells #[.int .u64 0,.int .i64 0] 28);have hn7:=heap_alloc_new w6 (.cells #[.int .u64 0,.int .i64 0] 28);have x4:=VS.keep hk7 id id x3;obtain⟨hbx,hk8⟩:=ztE w6 rb;refine Twin.z0M (by decide) (by rfl) (by exact x3) (fun K hK=>?_);go_simp;refine hK _ _ (fun _=>Pre.alloc (Pre.refl _) _) x4 ?_;clear hK K;obtain⟨w7,hw7⟩:=zX1 (w6.alloc (.cells #[.int .u64 0,.int .i64 0] 28));rw[← hw7] at hn7 x4 hbx hk8 ⊢;clear hw7;obtain⟨d0,d1,f0,-⟩:=z4S hn7
      repeat (apply Twin.z0F (by rfl) (by exact x4);(intro K w' hS;obtain⟨s1,s2,s3,s4,s5⟩:=hS;go_simp;exact id))
      obtain⟨wz,hwz⟩:=zX1 ((w7.setCell ⟨w6.heap.size,0,none⟩ (.int .u64 (rb.n:Int))).setCell ⟨w6.heap.size,1,none⟩ (.int .i64 rb.node));rw[← hwz] at hbx hk8;have x5:=VS.keep hk8 (fun e=>by have e2:p=w6.heap.size:=e;omega) (fun e=>by have e2:vb=w6.heap.size:=e;omega) x3
      have hF6:¬ F6 (w6.heap.size):=fun y=>by
       have h1:=(AcT.lives _ _ _ _).lt hT _ y
       rcases hN _ y with z | z
       ·have:=HK0.out.old _ (.inr (.inl z));omega
       ·omega
      have C3:=C2.beside hk8 ⟨by omega,fun y=>by have:=HK0.out.old _ (.inl y);omega,hF6,fun y=>by have:=HK0.out.old _ (.inr (.inr y));omega⟩ (fun y=>by have:=HVb2.out.2 _ y;omega);have hkz:Keep (fun k=>F k∨wv.heap.size≤k) wv wz:=(hk05.next hkc (H:=fun k=>F k∨wv.heap.size≤k) (fun _ _ x=>x.elim) (fun _ _ x=>.inl x)).next hk8 (fun _ _ x=>x) (fun k _ e=>.inr (by have e2:k=w6.heap.size:=e;omega));have HZ:=hid (show TRel w p u7 vs D1 A1 D2 A2 d mm a r X F G wv wz from⟨F6,C3,hkz,hkz.size⟩);refine Twin.z0M (by decide) (by rfl) (by exact x4) (fun K hK=>?_);go_simp;rw[← hwz];refine hK _ _ (fun h=>by cases h) x5 ?_;clear hK K hwz
      repeat (apply Twin.z0F (by rfl) (by exact x5);(intro K w' hS;obtain⟨s1,s2,s3,s4,s5⟩:=hS;go_simp;exact id))
      refine Twin.z0S ?_;clear x3 x4 hk7 x5 hn7 hbx hk8 d0 d1 f0 hT hkc hN hcr hkz C2 C3 hF6 hs56 hpl hk05 hWs hvbs;go_wp2_with (at_builtin;refine z0A ?_;intro q hq);go_meet;exact⟨w6.heap.size,rfl,rfl,HZ⟩
     ·simp only[List.take_succ_cons,List.take_zero,List.drop_succ_cons,List.drop_zero,List.cons_append,List.nil_append]
      obtain⟨wd,hwd⟩:=zX1 (wv.drew);rw[← hwd] at x1 hkd ⊢;have hwds:wd.heap.size=wv.heap.size:=by rw[hwd];rfl
      clear hwd;have hk0:=kal wd (.cells #[.int .u64 0,.int .i64 0] 28);have hn0:(wd.alloc (.cells #[.int .u64 0,.int .i64 0] 28)).heap[wv.heap.size]?=some (.cells #[.int .u64 0,.int .i64 0] 28 (0,0)):=by rw[← hwds];exact heap_alloc_new wd (.cells #[.int .u64 0,.int .i64 0] 28)
      have hz5:(wd.alloc (.cells #[.int .u64 0,.int .i64 0] 28)).heap.size=wv.heap.size+1:=by simp[hwds]
      have x2:=VS.keep hk0 id id x1;refine Twin.z0M (by decide) (by rfl) (by exact x1) (fun K hK=>?_);go_simp;refine hK _ _ (fun _=>Pre.alloc (Pre.refl _) _) x2 ?_;clear hK K;obtain⟨w5,hw5⟩:=zX1 (wd.alloc (.cells #[.int .u64 0,.int .i64 0] 28));rw[← hw5] at hk0 hn0 x2 hz5 ⊢;clear hw5;have hk05:=hkd.nx hk0;have C1:=HK0.out.later hk05;obtain⟨a',e,hac⟩:=C1.three.two;cases e;have hcr:=zdM w5 a d D A F hac HI.out.1 (fun _=>Nat.le_trans HI.out.2.1 (by decide)) HI.out.2.2.1 xv HC.out.2.2.2.2.2.2.2.bal.1 HC.out.2.2.2.2.2.2.2.slot uo uc (HC.out.2.2.2.2.2.2.1.far C1.three.keep C1.three.new2).2.2.1 (HC.out.2.2.2.2.2.2.1.far C1.three.keep C1.three.new2).2.2.2.1;rw[← HUL.out] at hcr;rw[← HR.out] at hcr;have HC:=hid C1;clear C1 hac
      repeat (apply Twin.z0F (by rfl) (by exact x2);(intro K w' hS;obtain⟨s1,s2,s3,s4,s5⟩:=hS;go_simp;exact id))
      refine Twin.z0M (by decide) (by rfl) (by exact x2) (fun K hK=>?_);go_simp;refine hcr.mono ?_;rintro e w6 ⟨F6,rfl,hT,hkc,hN⟩;have C2:=HC.out.to2 hT hkc hN;have x3:=VS.keep hkc (fun y=>HC.out.box.2.2.1 y) (fun y=>HVb1.out.1 y) x2;have hs56:=hkc.size;have hWs:=HK0.out.three.keep.size;have hvbs:=HVb1.out.2;have hpl:=HK0.out.box.1;go_simp;refine hK _ _ (fun h=>by cases h) x3 ?_;clear hK K x2
      repeat (apply Twin.z0F (by rfl) (by exact x3);(intro K w' hS;obtain⟨s1,s2,s3,s4,s5⟩:=hS;go_simp;exact id))
      have hn7:=hkc.get hn0 (fun y=>by have:=HK0.out.old _ (.inr (.inl y));omega);obtain⟨d0,d1,f0,-⟩:=z4S hn7;obtain⟨-,hk8,-⟩:=z3Z w6 wv.heap.size _ _ hn7 (.int .u64 (rb.n:Int)) (.int .i64 rb.node);have hbx:=z0C (z0C hn7 0 (.int .u64 (rb.n:Int))) 1 (.int .i64 rb.node);obtain⟨wz,hwz⟩:=zX1 ((w6.setCell ⟨wv.heap.size,0,none⟩ (.int .u64 (rb.n:Int))).setCell ⟨wv.heap.size,1,none⟩ (.int .i64 rb.node));rw[← hwz] at hbx hk8;have x5:=VS.keep hk8 (fun e=>by have e2:p=wv.heap.size:=e;omega) (fun e=>by have e2:vb=wv.heap.size:=e;omega) x3
      have hF6:¬ F6 (wv.heap.size):=fun y=>by
       have h1:=(AcT.lives _ _ _ _).lt hT _ y
       rcases hN _ y with z | z
       ·have:=HK0.out.old _ (.inr (.inl z));omega
       ·omega
      have C3:=C2.beside hk8 ⟨by omega,fun y=>by have:=HK0.out.old _ (.inl y);omega,hF6,fun y=>by have:=HK0.out.old _ (.inr (.inr y));omega⟩ (fun y=>by have:=HVb2.out.2 _ y;omega);have hkz:Keep (fun k=>F k∨wv.heap.size≤k) wv wz:=(hk05.next hkc (H:=fun k=>F k∨wv.heap.size≤k) (fun _ _ x=>x.elim) (fun _ _ x=>.inl x)).next hk8 (fun _ _ x=>x) (fun k _ e=>.inr (by have e2:k=wv.heap.size:=e;omega));have HZ:=hid (show TRel w p u7 vs D1 A1 D2 A2 d mm a r X F G wv wz from⟨F6,C3,hkz,hkz.size⟩);refine Twin.z0M (by decide) (by rfl) (by exact x3) (fun K hK=>?_);go_simp;rw[← hwz];refine hK _ _ (fun h=>by cases h) x5 ?_;clear hK K hwz
      repeat (apply Twin.z0F (by rfl) (by exact x5);(intro K w' hS;obtain⟨s1,s2,s3,s4,s5⟩:=hS;go_simp;exact id))
      refine Twin.z0S ?_;clear x3 hn0 hk0 x5 hn7 hbx hk8 d0 d1 f0 hT hkc hN hcr hkz C2 C3 hF6 hs56 hpl hk05 hWs hvbs;go_wp2_with (at_builtin;refine z0A ?_;intro q hq);go_meet;exact⟨wv.heap.size,rfl,rfl,HZ⟩
    case rest=>
     obtain⟨wa,rfl⟩:=zX1 (wc);obtain⟨g1,rfl,rfl,HG⟩:=hcut;obtain⟨Fa,Ka,hka,hsa⟩:=HG.out;have hvba:=hka.get HN6.out.1 (fun x=>x.elim HFv.out.1 (fun y=>by have:=HFv.out.2;omega));have HA:=hid (zA1 Ka (zA1 hvba (show (∀ k,X k∨Fa k∨G k→k<wa.heap.size)∧(∀ k,u7.ownBlock=some k→k<wa.heap.size)∧vb<wa.heap.size∧w.heap.size≤wa.heap.size from⟨Ka.old,Ka.lt,z0L hvba,Ka.three.keep.size⟩)));clear Ka hka hsa hvba HG HS
     by_cases hr0:rc=0
     ·subst hr0
      obtain⟨us0,hv0⟩:=HA.out.1.votes;obtain⟨lo,lc,rfl,-⟩:=hv0.row.form;obtain⟨n,hn⟩:=zX1 (vs.length);rw[← hn] at HA ⊢;have hn20:n≤20:=by have:=HC.out.2.2.2.1;omega
      have Hn:=hid hn;have HT0:=hid (show TIn w wa (.slice none 0 0) ((vs.take 0).filter fun u=>decide (u.slot≠xv.slot)) wa from⟨Keep.refl _ _,⟨[],VKept.nil _ _⟩,fun b e=>by simp[Value.ownBlock] at e⟩);clear hv0 hn;go_wp2_with (at_builtin;refine z0A ?_;intro q hq)
      go_loopw [12,13] (fun nv iv wr=>∃ q:Nat,q≤n∧iv = .int .i64 q∧Hid (TIn w wa nv ((vs.take q).filter fun u=>decide (u.slot≠xv.slot)) wr)) (fun _ iv _=>n - (intOf iv).toNat)
      case atStart=>exact⟨0,Nat.zero_le _,rfl,HT0⟩
      case round=>
       clear HT0;obtain⟨q,hq,rfl,HQ⟩:=hrel;have HKq:=hid (show KV w p (.slice lo n lc) vs D1 A1 D2 A2 d mm a r X Fa G wr from HA.out.1.grow HQ.out.1 (fun k y=>⟨by have:=HA.out.2.2.2.2.2;omega,fun z=>by have:=HA.out.2.2.1 k (.inl z);omega,fun z=>by have:=HA.out.2.2.1 k (.inr (.inl z));omega,fun z=>by have:=HA.out.2.2.1 k (.inr (.inr z));omega⟩) (fun k e y=>by have:=HA.out.2.2.2.1 k e;omega));have hvbq:=HQ.out.1.get HA.out.2.1 (fun y=>by have:=HA.out.2.2.2.2.1;omega);obtain⟨c0,c1,c2,c3,-,-⟩:=z5F hvbq;obtain⟨usn,hvn⟩:=HQ.out.2.1;obtain⟨no,nc,rfl,-⟩:=hvn.row.form;obtain⟨nn,hnn⟩:=zX1 (((vs.take q).filter fun u=>decide (u.slot≠xv.slot)).length);have hnr:=hvn.row;rw[← hnn] at hnr HQ ⊢
       have hnn20:nn≤20:=by
        have h:=List.length_filter_le (fun u=>decide (u.slot≠xv.slot)) (vs.take q);have h2:=List.length_take_le q vs;omega
       have HV:=hid (zA1 hvn (zA1 hnr hnn));clear hvn hnr hnn hvbq
       by_cases hqn:q<n
       ·have q1:(q:Int)<n:=by omega
        have hql:q<vs.length:=by rw[← Hn.out];exact hqn
        obtain⟨usq,hvq⟩:=HKq.out.votes;obtain⟨ad,ya,yc,rfl,b0,b1,b2,b3,y1,y2,y3⟩:=hvq.at q hql;obtain⟨yv,hyv⟩:=zX1 (vs[q]);rw[← hyv] at b0 b1 b2 b3 y1 y3;obtain⟨yl,hyl⟩:=zX1 (yv.val.length);rw[← hyl] at b3 y1 y3;obtain⟨ys,hys⟩:=zX1 (yv.slot);rw[← hys] at b0;obtain⟨xs,hxs⟩:=zX1 (xv.slot);rw[← hxs] at c0;have HY:=hid (zA1 hyv (zA1 hyl (zA1 hys (zA1 hxs hvq))));have HSz:=hid (zA1 (zsA (p:=fun u=>decide (u.slot≠xv.slot)) vs q hql) (zqK (p:=fun u=>decide (u.slot≠xv.slot)) vs q hql));have HY3:=hid y3;clear hyv hyl hys hxs hvq c1 c2 c3 y3
        by_cases hse:ys=xs
        ·subst hse
         have HZ:=hid (show TIn w wa (.slice no nn nc) ((vs.take (q+1)).filter fun u=>decide (u.slot≠xv.slot)) (wr) from by
          rw[HSz.out.1 (decide_eq_false (fun h=>h (by rw[← HY.out.1];exact HY.out.2.2.1.symm.trans HY.out.2.2.2.1)))]
          exact HQ.out)
         go_upto_region 17 with fail
         go_quiet (fail)
         have HZ2:=hid (show TIn w wa (.slice no nn nc) ((vs.take (q+1)).filter fun u=>decide (u.slot≠xv.slot)) (wr.drewN nq) from⟨HZ.out.1.next ((Keep.refl (fun _=>False) _).drewN nq) (fun _ _ x=>x) (fun _ _ x=>x.elim),let ⟨us,h⟩:=HZ.out.2.1;⟨us,h.keep ((Keep.refl (fun _=>False) _).drewN nq) (fun _ _ x=>x)⟩,HZ.out.2.2⟩);clear b0 b1 b2 b3 c0;go_wp2_with (at_builtin;refine z0A ?_;intro q hq);go_roundw
         case rel=>exact⟨q+1,by omega,by go_num,HZ2⟩
         case measure=>simp[intOf];omega
        ·have q2:((ys:Int) == (xs:Int))=false:=by simp;omega
         have q3:decide (ys=xs)=false:=decide_eq_false hse;have q4:(ys == xs)=false:=by simp[hse]
         go_upto_region 17 with fail
         go_quiet (fail)
         have hkd:Keep (fun _=>False) wr (wr.drewN nq):=(Keep.refl _ _).drewN nq;obtain⟨w9,hw9⟩:=zX1 (wr.drewN nq);have b0:=z0E hkd _ _ b0;have b1:=z0E hkd _ _ b1;have b2:=z0E hkd _ _ b2;have b3:=z0E hkd _ _ b3;rw[← hw9] at hkd b0 b1 b2 b3 ⊢;clear hw9;have hn10:=heap_alloc_new w9 (.cells #[.int .u64 (ys:Int),.int .u64 (yv.bal.n:Int),.int .i64 yv.bal.node,.slice ya yl yc] 31);have hk10:=kal w9 (.cells #[.int .u64 (ys:Int),.int .u64 (yv.bal.n:Int),.int .i64 yv.bal.node,.slice ya yl yc] 31);have H10:=hid (zA1 hn10 (zA1 (hkd.nx hk10) hk10));clear hn10 hk10 hkd c0;go_wp2_with (at_builtin;refine z0A ?_;intro q hq)
         (refine hq.out ?_;clear hq q)
         obtain⟨w10,hw10⟩:=zX1 (w9.alloc (.cells #[.int .u64 (ys:Int),.int .u64 (yv.bal.n:Int),.int .i64 yv.bal.node,.slice ya yl yc] 31));rw[← hw10] at H10
         first | rw[← hw10] | skip
         clear hw10 b0 b1 b2 b3;obtain⟨hn10,hk10,hk10'⟩:=H10.out;refine wpList_plain rfl (fun K hK=>?_)
         refine z0R z3E (.tmp 76) (.tmp 81) rfl rfl (HV.out.2.1.keep hk10 (fun _ _ x=>x)) (some ⟨w9.heap.size,0,none⟩) 1 1 [.int .u64 (ys:Int),.int .u64 (yv.bal.n:Int),.int .i64 yv.bal.node,.slice ya yl yc] rfl
          ⟨rfl,fun _=>⟨_,rfl,fun t u hu=>by rw[z0J,Nat.zero_add,cell_of_row _ _ _ _ _ _ hn10];simpa using hu⟩⟩ (fun u hu=>by simp at hu;rcases hu with rfl | rfl | rfl | rfl <;> rfl) (by unfold maxLen;omega) (by omega) ?_
         intro v11 w11 hr11 hk11 hv11;refine hK _ _ ?_;clear hK K
         have HZ:=hid (show TIn w wa v11 ((vs.take (q+1)).filter fun u=>decide (u.slot≠xv.slot)) w11 from by
          have hsz:=HQ.out.1.size;have hsz2:=hk10.size;have hsz3:=z0L hn10;refine⟨(HQ.out.1.next hk10 (fun _ _ x=>x) (fun _ _ x=>x.elim)).next hk11 (fun _ _ x=>x) (fun k _ e=>HQ.out.2.2 k e),?_,fun b e=>?_⟩
          ·rw[HSz.out.2 (decide_eq_true (fun e=>hse (by rw[HY.out.2.2.1,HY.out.2.2.2.1,HY.out.1];exact e))),← HY.out.1]
           have hvk:=VKept.push (wr:=w10) (x:=yv) (HV.out.1.keep hk10 (fun _ _ x=>x)) (ua:=ya) (uc:=yc) (v':=v11) (wx:=w11) (by rw[← HV.out.2.2];have h1:=HY.out.2.2.1;have h2:=HY.out.2.1;unfold z2H;rw[← h1,← h2];exact hr11) (by rw[← HY.out.2.1];exact y1) y2 (by rw[← HY.out.2.1];exact HY3.out);exact⟨_,hvk⟩
          ·rcases hv11 with ⟨_,h0⟩ | ⟨k',h1,h2⟩
           ·omega
           ·rw[e] at h1
            cases h1
            rcases h2 with h2 | h2
            ·exact HQ.out.2.2 _ h2
            ·omega)
         clear hn10 hk10 hk10' hr11 hk11 hv11 H10;go_wp2_with (at_builtin;refine z0A ?_;intro q hq);go_roundw
         case rel=>exact⟨q+1,by omega,by go_num,HZ⟩
         case measure=>simp[intOf];omega
       ·have q1:¬ (q:Int)<n:=by omega
        have hqn':q=n:=by omega
        have HT:=hid (show vs.take q=vs from by rw[hqn',Hn.out];exact List.take_length);have hn10:=heap_alloc_new wr (.cells #[.int .u64 (xv.slot:Int),.int .u64 (xv.bal.n:Int),.int .i64 xv.bal.node,.slice uo ul uc] 31);have hk10:=kal wr (.cells #[.int .u64 (xv.slot:Int),.int .u64 (xv.bal.n:Int),.int .i64 xv.bal.node,.slice uo ul uc] 31);have H10:=hid (zA1 hn10 hk10);clear hn10 hk10 hqn';go_wp2_with (at_builtin;refine z0A ?_;intro q hq)
        (refine hq.out ?_;clear hq q)
        obtain⟨w10,hw10⟩:=zX1 (wr.alloc (.cells #[.int .u64 (xv.slot:Int),.int .u64 (xv.bal.n:Int),.int .i64 xv.bal.node,.slice uo ul uc] 31));rw[← hw10] at H10
        first | rw[← hw10] | skip
        clear hw10 c0 c1 c2 c3;obtain⟨hn10,hk10⟩:=H10.out;refine wpList_plain rfl (fun K hK=>?_)
        refine z0R z3E (.tmp 83) (.tmp 85) rfl rfl (HV.out.2.1.keep hk10 (fun _ _ x=>x)) (some ⟨wr.heap.size,0,none⟩) 1 1 (z2H xv (.slice uo ul uc)) rfl
         ⟨rfl,fun _=>⟨_,rfl,fun t u hu=>by rw[z0J,Nat.zero_add,cell_of_row _ _ _ _ _ _ hn10];simpa [z2H] using hu⟩⟩ (fun u hu=>by simp[z2H] at hu;rcases hu with rfl | rfl | rfl | rfl <;> rfl) (by unfold maxLen;omega) (by omega) ?_
        intro v11 w11 hr11 hk11 hv11;refine hK _ _ ?_;clear hK K
        have HZ:=hid (show TLoop w p (k+1) v11 w11 from by
         have hfar:=HC.out.2.2.2.2.2.2.1.far (F:=fun _=>False) (Keep.refl _ w) (fun _ x=>x.elim);obtain⟨hlc1,hlc2,hlc3,-⟩:=Octs.cells HC.out.2.2.2.2.2.2.1;have hvk:=VKept.push (wr:=w10) (x:=xv) (HV.out.1.keep hk10 (fun _ _ x=>x)) (ua:=uo) (uc:=uc) (v':=v11) (wx:=w11) (by rw[← HV.out.2.2,← HUL.out];exact hr11) hlc2 hlc3 hfar.2.2.1;rw[HT.out] at hvk;have hsz:=HQ.out.1.size;have hsz2:=hk10.size
         have hnew:∀ b,v11.ownBlock=some b→wa.heap.size≤b:=fun b e=>by
          rcases hv11 with ⟨_,h0⟩ | ⟨k',h1,h2⟩
          ·omega
          ·rw[e] at h1
           cases h1
           rcases h2 with h2 | h2
           ·exact HQ.out.2.2 _ h2
           ·omega
         have hkz:Keep (fun b=>wa.heap.size≤b) wa w11:=(HQ.out.1.next hk10 (fun _ _ x=>x) (fun _ _ x=>x.elim)).next hk11 (fun _ _ x=>x) (fun k _ e=>HQ.out.2.2 k e);have far:∀ k,wa.heap.size≤k→w.heap.size≤k∧¬ X k∧¬ Fa k∧¬ G k:=fun k y=>⟨by have:=HA.out.2.2.2.2.2;omega,fun z=>by have:=HA.out.2.2.1 k (.inl z);omega,fun z=>by have:=HA.out.2.2.1 k (.inr (.inl z));omega,fun z=>by have:=HA.out.2.2.1 k (.inr (.inr z));omega⟩
         have hvsA:A1.vs=insV A.vs xv:=by
          rcases HI1.out.2.2.2 with ⟨-,x⟩ | ⟨x,-⟩
          ·exact x
          ·exact absurd rfl x
         refine⟨zpY vs xv,D1,A1,D2,A2,d,mm,a,r,X,Fa,G,(HA.out.1.grow hkz far (fun k e y=>by have:=HA.out.2.2.2.1 k e;omega)).other ⟨_,hvk⟩ (fun k e=>far k (hnew k e)),HI1.out.1,?_,?_,HI1.out.2.1,HI1.out.2.2.1⟩
         ·rw[hvsA]
          exact zjV HC.out.2.2.1 (HC.out.2.1.ok.ok HC.out.2.1.alive).rise
         ·have h:=List.length_filter_le (fun u=>decide (u.slot≠xv.slot)) vs
          have:=HC.out.2.2.2.1;unfold zpY;rw[List.length_append,List.length_singleton]
          omega)
        clear hn10 hk10 hr11 hk11 hv11 H10;go_wp2_with (at_builtin;refine z0A ?_;intro q hq);go_roundw
        case rel=>exact⟨k+1,by omega,by omega,by go_num,HZ⟩
        case measure=>simp[intOf];omega
     ·have qz:(rc == 0)=false:=by simpa using hr0
      have qz2:decide (rc=0)=false:=decide_eq_false hr0
      have HZ:=hid (show TLoop w p (k+1) u7 wa from by
       have hvsA:A1.vs=A.vs:=by
        rcases HI1.out.2.2.2 with ⟨x,-⟩ | ⟨-,x⟩
        ·exact absurd x hr0
        ·exact x
       exact⟨vs,D1,A1,D2,A2,d,mm,a,r,X,Fa,G,HA.out.1,HI1.out.1,by rw[hvsA];exact HC.out.2.2.1,Nat.le_succ_of_le HC.out.2.2.2.1,HI1.out.2.1,HI1.out.2.2.1⟩)
      clear hr0;go_wp2_with (at_builtin;refine z0A ?_;intro q hq);go_roundw
      case rel=>exact⟨k+1,by omega,by omega,by go_num,HZ⟩
      case measure=>simp[intOf];omega
  ·obtain⟨vs,D,A,D2,A2,d,mm,a,r,X,F,G,hC,hRoom,hPm,hvl,hwt,hps⟩:=HK.out.ex
   have cut:(¬ (k:Int)<m)∨((k:Int)<m∧¬ (k:Int)<20):=by omega
   obtain⟨R,hR⟩:=zX1 (z2U D A ⟨18446744073709551615,11⟩ f);obtain⟨⟨RV,rb,rc⟩,D1,A1⟩:=R;have hvs:=hRoom.ok.ok hRoom.alive
   have hRV:RV=z7Y A.vs f∧rc=0:=by
    obtain⟨p1,-⟩:=hRoom.prep (by omega) (b:=⟨18446744073709551615,11⟩) ⟨by decide,by decide⟩ (zqP hvs.bal) f;rw[← hR] at p1;simp only[Prod.mk.injEq] at p1;exact⟨p1.1,p1.2.2⟩
   obtain⟨hRV,rfl⟩:=hRV;have hpr:=z8E wr a d D A F (let ⟨x,e,h⟩:=hC.three.two;by cases e;exact h) hRoom.ok (fun _=>by omega) (by omega) ⟨18446744073709551615,11⟩ (by decide) f;rw[← hR] at hpr;obtain⟨usv,hv⟩:=hC.votes;obtain⟨lo,lc,rfl,hlc1,-⟩:=hv.row.form;obtain⟨n,hn⟩:=zX1 (vs.length);rw[← hn] at hlc1 ⊢;obtain⟨-,h1p,-,-,-,-⟩:=z4D hC.three.one.1
   have HV:=hid (show RV.length≤20∧n≤20∧n≤lc∧n=vs.length∧RV.length=(vs.countP fun y=>decide (f≤y.slot))∧(∀ i (hi:i<RV.length),f≤RV[i].slot∧vs.countP (fun y=>decide (RV[i]=y))=1)∧Rise RV from by
    have h1:RV.length≤A.vs.length:=by rw[hRV];exact List.length_filter_le _ _
    have h2:=hPm.length_eq;refine⟨by omega,by omega,hlc1,hn,by rw[hRV];exact(zsZ hPm f).symm,fun i hi=>?_,by rw[hRV];exact hvs.rise.filter _⟩;have hm:RV[i] ∈ z7Y A.vs f:=by rw[← hRV];exact List.getElem_mem hi
    have hm2:=List.mem_filter.1 hm
    exact⟨of_decide_eq_true hm2.2,znN hPm hvs.rise _ hm2.1⟩)
   have HC:=hid hC;clear hgo hC hRoom hPm hvl hwt hps hvs hRV hR hv hlc1 hn HK HL Hm hk hk20 hlc
   rcases cut with c1 | ⟨c0,c1⟩
   all_goals
    go_wp2_with (at_builtin;refine z0A ?_;intro q hq);refine hpr.mono ?_;rintro e w3 ⟨mv,us3,Fv3,F3,rfl,hT3,hk3,hN3,hV3,-⟩;obtain⟨mo,mc,rfl,hmc1,-⟩:=hV3.row.form;obtain⟨N,hN⟩:=zX1 (RV.length);simp only at hmc1 hV3 hT3;rw[← hN] at hmc1 ⊢;have K3:=HC.out.to2 hT3 hk3 hN3;have H3:=hid (zA1 K3 (zA1 hV3 (zA1 hmc1 hN)));clear K3 hV3 hT3 hk3 hN3 hpr hmc1 hN
    go_upto_region 22 with fail
    obtain⟨wb,hwb⟩:=zX1 (w3.alloc (.cells #[.int .u64 (rb.n:Int),.int .i64 rb.node] 28));have hkb:Keep (fun _=>False) w3 wb:=by rw[hwb];exact(Keep.refl _ _).alloc _
    rw[← hwb]
    have H4:=hid (show VotesC wb mo RV∧VotesC wb lo vs∧Keep (fun _=>False) w wb∧N≤mc∧N=RV.length from by
     have K4:=H3.out.1.later hkb;obtain⟨us4,h4⟩:=K4.votes;have h5:=h4.read K4.three.keep
     exact⟨H3.out.2.1.read.keep hkb,h5,K4.three.keep,H3.out.2.2.1,H3.out.2.2.2⟩)
    clear hwb H3 hkb HC h1p;go_wp2_with (at_builtin;refine z0A ?_;intro q hq)
    go_loopw [17,18] (fun nv iv wr=>∃ i:Nat,i≤N∧iv = .int .i64 i∧nv = .int .i64 i∧Hid (Keep (fun _=>False) wb wr)) (fun _ iv _=>N - (intOf iv).toNat)
    case atStart=>exact⟨0,Nat.zero_le _,rfl,rfl,hid (Keep.refl _ _)⟩
    case round=>
     obtain⟨i,hi,rfl,rfl,HI⟩:=hrel;have hN20:N≤20:=by have:=H4.out.2.2.2.2;have:=HV.out.1;omega
     have hn20:=HV.out.2.1
     by_cases hiN:i<N
     ·have q1:(i:Int)<N:=by omega
      have hil:i<RV.length:=by rw[← H4.out.2.2.2.2];exact hiN
      obtain⟨ad,ya,yc,rfl,b0,-⟩:=(H4.out.1.keep HI.out).get i hil;obtain⟨sl,hsl⟩:=zX1 (RV[i].slot);rw[← hsl] at b0;have hfs:f≤sl:=by rw[hsl];exact(HV.out.2.2.2.2.2.1 i hil).1
      have t5:decide ((sl:Int)<(f:Int))=false:=decide_eq_false (by omega);have t6:decide (sl<f)=false:=decide_eq_false (by omega);have HSl:=hid hsl;clear hsl
      go_upto_region 26 with fail
      go_cut [129] (fun tv wx=>tv = .bool false∧Hid (Keep (fun _=>False) wr wx))
      case first=>
       by_cases hi0:i=0
       ·have t2:decide (0<i)=false:=decide_eq_false (by omega)
        have t3:decide ((0:Int)<(i:Int))=false:=decide_eq_false (by omega);clear hi0
        go_quiet (fail)
        go_wp2_with (at_builtin;refine z0A ?_;intro q hq);go_meet;exact⟨rfl,hid ((Keep.refl _ _).drewN _)⟩
       ·have t2:decide (0<i)=true:=decide_eq_true (by omega)
        have t3:decide ((0:Int)<(i:Int))=true:=decide_eq_true (by omega);obtain⟨e,he⟩:=zX1 (i - 1);have wq:IntKind.i64.wrap ((i:Int) - 1)=(e:Int):=by rw[show ((i:Int) - 1)=(e:Int) by omega];simp[IntKind.wrap,IntKind.signed,IntKind.bits];omega
        have q7:(e:Int)<N:=by omega
        have hel:e<RV.length:=by omega
        obtain⟨ad',ya',yc',e1,x0,-⟩:=(H4.out.1.keep HI.out).get e hel;cases e1;obtain⟨tl,htl⟩:=zX1 (RV[e].slot);rw[← htl] at x0;have hlt:tl<sl:=by rw[htl,HSl.out];exact List.pairwise_iff_getElem.1 HV.out.2.2.2.2.2.2 e i hel hil (by omega)
        have t7:decide ((sl:Int)≤(tl:Int))=false:=decide_eq_false (by omega);have t8:decide (sl≤tl)=false:=decide_eq_false (by omega);clear hi0 he htl hlt
        go_quiet (fail)
        go_wp2_with (at_builtin;refine z0A ?_;intro q hq);go_meet;exact⟨rfl,hid ((Keep.refl _ _).drewN _)⟩
      case rest=>
       obtain⟨w9,rfl⟩:=zX1 (wc);obtain⟨rfl,HK9⟩:=hcut;have HI9:=hid (HI.out.nx HK9.out);clear b0 t5 t6 HK9;go_wp2_with (at_builtin;refine z0A ?_;intro q hq)
       go_loopw [17,19] (fun nv kv wx=>∃ q:Nat,q≤n∧kv = .int .i64 q∧(∃ z:Nat,nv = .int .i64 z∧Hid (z=i+(vs.take q).countP (fun y=>decide (RV[i]=y))))∧Hid (Keep (fun _=>False) wb wx)) (fun _ kv _=>n - (intOf kv).toNat)
       case atStart=>exact⟨0,Nat.zero_le _,rfl,⟨i,rfl,hid (by simp)⟩,HI9⟩
       case round=>
        clear HI9;obtain⟨q,hq,rfl,⟨z,rfl,HZc⟩,HQ⟩:=hrel
        by_cases hqn:q<n
        ·have q2:(q:Int)<n:=by omega
         have hql:q<vs.length:=by rw[← HV.out.2.2.2.1];exact hqn
         have hz40:z≤40:=by
          have h:=HZc.out;have h1:=List.countP_le_length (p:=fun y=>decide (RV[i]=y)) (l:=vs.take q);have h2:=List.length_take_le q vs;omega
         obtain⟨i1,hi1⟩:=zX1 (i+1);obtain⟨q9,hq9⟩:=zX1 (q+1);have ei:(i:Int)+1=(i1:Nat):=by omega
         have eq:(q:Int)+1=(q9:Nat):=by omega
         have w1:=wi64 i1 (by omega);have w2:=wi64 q9 (by omega);have hs1:=fun w=>z6T (P:=Tryz.prog) z3E (some ad) N mc .i64 .i64 i i1 (by omega) (by have:=H4.out.2.2.2.1;omega) w;have hs2:=fun w=>z6T (P:=Tryz.prog) z3E lo n lc .i64 .i64 q q9 (by omega) (by have:=HV.out.2.2.1;omega) w;rw[show i1 - i=1 by omega] at hs1;rw[show q9 - q=1 by omega] at hs2;obtain⟨ta,hta⟩:=zX1 (z1E (some ad) mc i 4);obtain⟨tb,htb⟩:=zX1 (z1E lo lc q 4);obtain⟨ca,hca⟩:=zX1 (mc - i);obtain⟨cb,hcb⟩:=zX1 (lc - q);rw[← hta,← hca] at hs1;rw[← htb,← hcb] at hs2
         have HSame:=hid (show ∀ wx,Keep (fun _=>False) wr wx→Calls Tryz.prog 12 #[.slice ta 1 ca,.slice tb 1 cb] wx fun e w'=>e = .returned (.bool (decide (RV[i]=vs[q])))∧Keep (fun _=>False) wx w' from fun wx hkx=>by
          have hkk:=HQ.out.nx hkx;have h:=znD wx ta 1 ca tb 1 cb [RV[i]] [vs[q]] (by rw[hta];exact(H4.out.1.keep hkk).at1 hil (by rw[← H4.out.2.2.2.2];exact H4.out.2.2.2.1)) (by rw[htb];exact(H4.out.2.1.keep hkk).at1 hql (by rw[← HV.out.2.2.2.1];exact HV.out.2.2.1)) rfl rfl (by decide)
          simpa using h)
         have HTk:=hid (zdB (p:=fun y=>decide (RV[i]=y)) vs q hql);obtain⟨sm,hsm⟩:=zX1 (decide (RV[i]=vs[q]));rw[← hsm] at HSame HTk;have HQ9:=hid (zA1 hi1 hq9);clear hta htb hca hcb hsm hi1 hq9
         go_upto_region 31 with fail
         refine z0G [] (by kernel_rfl) (by kernel_rfl) ?_
         repeat (first | (apply z0F (by rfl);(intro K w';go_simp;exact id)) | (apply z0I (by rfl);(intro K;go_simp;exact id)))
         refine z0M (by rfl) (by rfl) (fun K hK=>?_);go_simp;refine(HSame.out _ (Keep.refl _ _).drew).mono ?_;rintro e w5 ⟨rfl,hk5⟩;refine hK _ _ ?_;clear hK K hs1 hs2 ei eq w1 w2
         repeat (apply z0F (by rfl);(intro K w';go_simp;exact id))
         refine z0S ?_;have HZ:=hid (HQ.out.nx ((Keep.refl (fun _=>False) wr).drew.next hk5 (H:=fun _=>False) (fun _ _ x=>x) (fun _ _ x=>x)));clear hk5
         cases sm with
         | true=>
           go_wp2_with (at_builtin;refine z0A ?_;intro q hq);go_roundw
           case rel=>exact⟨q+1,by omega,by go_num,⟨z+1,by go_num,hid (by have h1:=HTk.out;have h2:=HZc.out;simp only[if_true] at h1;omega)⟩,HZ⟩
           case measure=>simp[intOf];omega
         | false=>
           go_wp2_with (at_builtin;refine z0A ?_;intro q hq);go_roundw
           case rel=>exact⟨q+1,by omega,by go_num,⟨z,rfl,hid (by have h1:=HTk.out;have h2:=HZc.out;simp only[Bool.false_eq_true,if_false] at h1;omega)⟩,HZ⟩
           case measure=>simp[intOf];omega
        ·have q2:¬ (q:Int)<n:=by omega
         have hz:z=i+1:=by
          have h:=HZc.out;rw[show vs.take q=vs from by rw[show q=vs.length by have:=HV.out.2.2.2.1;omega];exact List.take_length,(HV.out.2.2.2.2.2.1 i hil).2] at h;exact h
         subst hz;go_wp2_with (at_builtin;refine z0A ?_;intro q hq);go_roundw
         case rel=>exact⟨i+1,by omega,by go_num,by go_num,HQ⟩
         case measure=>simp[intOf];omega
     ·have q1:¬ (i:Int)<N:=by omega
      have hiN':i=N:=by omega
      subst hiN';go_wp2_with (at_builtin;refine z0A ?_;intro q hq)
      go_loopw [20,21] (fun nv kv wx=>∃ q:Nat,q≤n∧kv = .int .i64 q∧(∃ z:Nat,nv = .int .i64 z∧Hid (z=(vs.take q).countP (fun y=>decide (f≤y.slot))))∧Hid (Keep (fun _=>False) wb wx)) (fun _ kv _=>n - (intOf kv).toNat)
      case atStart=>exact⟨0,Nat.zero_le _,rfl,⟨0,rfl,hid (by simp)⟩,HI⟩
      case round=>
       clear HI;obtain⟨q,hq,rfl,⟨z,rfl,HZc⟩,HQ⟩:=hrel
       by_cases hqn:q<n
       ·have q2:(q:Int)<n:=by omega
        have hql:q<vs.length:=by rw[← HV.out.2.2.2.1];exact hqn
        have hz40:z≤40:=by
         have h:=HZc.out;have h1:=List.countP_le_length (p:=fun y=>decide (f≤y.slot)) (l:=vs.take q);have h2:=List.length_take_le q vs;omega
        obtain⟨ad,ya,yc,rfl,b0,-⟩:=(H4.out.2.1.keep HQ.out).get q hql;have HTk:=hid (zdB (p:=fun y=>decide (f≤y.slot)) vs q hql);obtain⟨sl,hsl⟩:=zX1 (vs[q].slot);rw[← hsl] at b0 HTk;clear hsl
        by_cases hfs:f≤sl
        ·have t1:(f:Int)≤(sl:Int):=by omega
         go_wp2_with (at_builtin;refine z0A ?_;intro q hq);go_roundw
         case rel=>exact⟨q+1,by omega,by go_num,⟨z+1,by go_num,hid (by have h1:=HTk.out;have h2:=HZc.out;rw[if_pos (decide_eq_true hfs)] at h1;omega)⟩,HQ⟩
         case measure=>simp[intOf];omega
        ·have t1:¬ (f:Int)≤(sl:Int):=by omega
         go_wp2_with (at_builtin;refine z0A ?_;intro q hq);go_roundw
         case rel=>exact⟨q+1,by omega,by go_num,⟨z,rfl,hid (by have h1:=HTk.out;have h2:=HZc.out;rw[if_neg (by simpa using hfs)] at h1;omega)⟩,HQ⟩
         case measure=>simp[intOf];omega
       ·have q2:¬ (q:Int)<n:=by omega
        have hz:z=i:=by
         have h:=HZc.out;rw[show vs.take q=vs from by rw[show q=vs.length by have:=HV.out.2.2.2.1;omega];exact List.take_length,← HV.out.2.2.2.2.1,← H4.out.2.2.2.2] at h;exact h
        subst hz;have HZ:=hid (H4.out.2.2.1.nx HQ.out);go_wp2_with (at_builtin;refine z0A ?_;intro q hq);refine(zdA _).mono ?_;rintro e w7 ⟨rfl,hk7⟩;have HZ2:=hid (HZ.out.nx hk7);clear hk7;go_wp2_with (at_builtin;refine z0A ?_;intro q hq);go_ret;exact⟨by rfl,HZ2.out⟩
end
end Go.Proofs.YtkjofdocgaiedaaGreat
