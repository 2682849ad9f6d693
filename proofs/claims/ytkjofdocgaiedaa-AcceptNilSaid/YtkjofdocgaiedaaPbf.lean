/- Texts AcdD, AcdG in one. Conditions: as each law names them. -/
import Derived.Lib.SlBytesConst
import Derived.Test.YtkjofdocgaiedaaPaj
import Derived.Test.YtkjofdocgaiedaaPbc
import Derived.Test.YtkjofdocgaiedaaPbd
import Derived.Test.YtkjofdocgaiedaaPbe
namespace Go.Proofs.Ytkjofdocgaiedaa
open Go.RowKit Go.Maps
open MI SO BM DM WM AC
theorem One.stay {w0 w w':World} {T T':Thing} {F:Nat→Prop} (h:One w0 T F w) (t:Turns T' F w w'):∃ F',One w0 T' F' w'∧∀ (g:Nat) (o:Obj),w.heap[g]?=some o→¬ F g→w'.heap[g]?=some o∧¬ F' g:=by
 obtain⟨F',h1,h2,h3⟩:=t
 exact⟨F',⟨h1,fun i x=>(h3 i x).elim (h.new i) fun z=>Nat.le_trans h.keep.size z,h.keep.next h2 (fun _ _ x=>x) (fun i hi x=>absurd (h.new i x) (by omega))⟩,fun g o hg hn=>⟨h2.get hg hn,fun x=>(h3 g x).elim hn fun y=>by have:=heap_lt hg;omega⟩⟩
set_option maxRecDepth 20000 in
set_option maxHeartbeats 4000000 in
theorem aknown_any (w:World):Calls Try.prog 9 #[] w fun e w'=>e = .returned (.bool true)∧Keep (fun _=>False) w w':=by
 obtain⟨D1,A1,D2,A2,A3,g1,g2,g3,g4,g5,g6,r1,r2,r3,n1,n2,n3,q1,q2⟩:=k_go
 have HG:=hid (And.intro g1 (And.intro g2 (And.intro g3 (And.intro g4 (And.intro g5 (And.intro g6 (And.intro r1 (And.intro r2 r3))))))))
 have HW:=hid (And.intro n1 (And.intro n2 (And.intro n3 (And.intro q1 q2))))
 clear g1 g2 g3 g4 g5 g6 r1 r2 r3 n1 n2 n3 q1 q2
 go_enter Try.func9,Try.ntmps9
 go_wp2_with (at_builtin;refine stopAt ?_;intro q hq)
 refine(new_any w 60 (by decide) (by decide)).mono ?_
 rintro e w3 ⟨d,Pd,rfl,hD,hk,hP⟩
 have L3:One w (DkT d (DM.new 60)) Pd w3:=⟨hD,hP,hk⟩
 clear hD hk hP
 have ho:=aopen_any w3 d Pd (DM.new 60) L3.one (by decide +kernel)
 unfold AOpenPost at ho
 rw[k_open] at ho
 go_wp2_with (at_builtin;refine stopAt ?_;intro q hq)
 refine ho.mono ?_
 rintro e w4 ⟨av,rfl,ht⟩
 obtain⟨F4,L4⟩:=L3.turn ht
 clear ho ht L3
 obtain⟨a,rfl,hT⟩:=L4.one
 have L4:One w (AcT a d (DM.new 60) kA0) F4 w4:=⟨hT,L4.new,L4.keep⟩
 clear hT
 have hpr:=aprep_any w4 a d (DM.new 60) kA0 F4 L4.one k_room.ok (fun _=>by decide) (by decide +kernel) ⟨1,2⟩ (by decide) 1
 unfold PrepPost at hpr
 rw[HG.out.1] at hpr
 have hpr:Calls Try.prog 10 #[.pointer (some ⟨a,0,none⟩),.agg #[.int .u64 1,.int .i64 2],.int .u64 1] w4 _:=hpr
 go_wp2_with (at_builtin;refine stopAt ?_;intro q hq)
 refine hpr.mono ?_
 rintro e w5 ⟨v5,us5,Fv5,F5,he,hT,hk,hN,hv,-⟩
 have he:e = .returned (.tuple #[v5,.agg #[.int .u64 1,.int .i64 2],.int .i64 0]):=he
 subst he
 obtain⟨a5,c5,rfl,-⟩:=hv.row.form
 obtain⟨F5,L5,-⟩:=L4.stay (T':=AcT a d D1 A1) ⟨F5,hT,hk,hN⟩
 clear hpr hT hk hN hv L4
 simp only[List.length_nil]
 have hk6:Keep (fun _=>False) w5 (w5.alloc (.cells #[.int .u64 1,.int .i64 2] 24)):=(Keep.refl _ _).alloc _
 have hn6:=heap_alloc_new w5 (.cells #[.int .u64 1,.int .i64 2] 24)
 have hz6:(w5.alloc (.cells #[.int .u64 1,.int .i64 2] 24)).heap.size=w5.heap.size+1:=by simp
 go_upto_region 6 with fail
 obtain⟨w6,hw6⟩:∃ w6,w6=w5.alloc (.cells #[.int .u64 1,.int .i64 2] 24):=⟨_,rfl⟩
 rw[← hw6] at hk6 hn6 hz6 ⊢
 clear hw6
 have L6:=L5.later (AcT.lives _ _ _ _) hk6
 have hF6:=(AcT.lives _ _ _ _).lt L5.one
 have hk7:Keep (fun _=>False) w6 (w6.alloc (.cells #[.int .u8 120] 5 (1,2))):=(Keep.refl _ _).alloc _
 have hn7:=heap_alloc_new w6 (.cells #[.int .u8 120] 5 (1,2))
 have L7:=L6.later (AcT.lives _ _ _ _) hk7
 have hF7:=(AcT.lives _ _ _ _).lt L6.one
 have hac:=aacc_any _ a d D1 A1 F5 L7.one HG.out.2.2.2.2.2.2.1 (fun _=>by have:=HW.out.1;omega) (by have:=HW.out.2.2.2.1;omega) kV (by decide) (by decide) (some ⟨w6.heap.size,0,none⟩) 1
  ⟨rfl,fun _=>⟨_,rfl,fun t u hu=>by rw[addr_add,Nat.zero_add,cell_of_row _ _ _ _ _ _ hn7];simpa [kV,bytesV] using hu⟩⟩ (fun _ x hx y=>by cases hx;have:=hF7 _ y;simp only at this;omega)
 unfold AccPost at hac
 rw[HG.out.2.1] at hac
 have hac:Calls Try.prog 11 #[.pointer (some ⟨a,0,none⟩),.agg #[.int .u64 3,.int .u64 1,.int .i64 2,.slice (some ⟨w6.heap.size,0,none⟩) 1 1]] _ _:=hac
 have HB:=hid (And.intro hn6 (And.intro hk7 (And.intro hF6 hz6)))
 have HL7:=hid L7
 have hcv:(convert 29 29 (.slice (some ⟨w6.heap.size,0,none⟩) 1 1)).run Try.prog (w6.alloc (.cells #[.int .u8 120] 5)) = .ok (.slice (some ⟨w6.heap.size,0,none⟩) 1 1) (w6.alloc (.cells #[.int .u8 120] 5 (1,2))):=Lib.run_convert_bytes_const w6 29 5 #[.int .u8 120] 1 1 Try.underlying29 Try.underlying5
 clear hn6 hk6 hz6 L5 L6 hF6 hk7 hn7 L7 hF7
 go_wp2_with (at_builtin;refine stopAt ?_;intro q hq)
 refine hac.mono ?_
 rintro e w8 ⟨F8,he,hT,hk,hN⟩
 have he:e = .returned (.tuple #[.agg #[.int .u64 1,.int .i64 2],.int .i64 0]):=he
 subst he
 obtain⟨F8,L8,S8⟩:=HL7.out.stay (T':=AcT a d D2 A2) ⟨F8,hT,hk,hN⟩
 have b8:=S8 w5.heap.size _ (HB.out.2.1.get HB.out.1 id) (fun y=>by have:=HB.out.2.2.1 _ y;omega)
 clear hac hT hk hN S8 hcv HL7
 have hk9:Keep (fun _=>False) w8 (w8.alloc (.cells #[.int .u64 1,.int .i64 2] 24)):=(Keep.refl _ _).alloc _
 have L9:=L8.later (AcT.lives _ _ _ _) hk9
 have b9:=hk9.get b8.1 id
 have hpr:=aprep_any _ a d D2 A2 F8 L9.one HG.out.2.2.2.2.2.2.2.1 (fun _=>by have:=HW.out.2.1;omega) (by have:=HW.out.2.2.2.2;omega) ⟨1,1⟩ (by decide) 1
 unfold PrepPost at hpr
 rw[HG.out.2.2.1] at hpr
 have hpr:Calls Try.prog 10 #[.pointer (some ⟨a,0,none⟩),.agg #[.int .u64 1,.int .i64 1],.int .u64 1] _ _:=hpr
 have HL9:=hid (And.intro L9 (And.intro b9 b8.2))
 clear L8 L9 b8 b9 hk9
 go_wp2_with (at_builtin;refine stopAt ?_;intro q hq)
 refine hpr.mono ?_
 rintro e w10 ⟨v10,us10,Fv10,F10,he,hT,hk,hN,hv,-⟩
 have he:e = .returned (.tuple #[v10,.agg #[.int .u64 1,.int .i64 2],.int .i64 90]):=he
 subst he
 obtain⟨a10,c10,rfl,-⟩:=hv.row.form
 simp only[List.length_nil]
 obtain⟨F10,L10,S10⟩:=HL9.out.1.stay (T':=AcT a d D2 A2) ⟨F10,hT,hk,hN⟩
 have b10:=S10 w5.heap.size _ HL9.out.2.1 HL9.out.2.2
 clear hpr hT hk hN hv S10 HL9
 have hk11:Keep (fun _=>False) w10 (w10.alloc (.cells #[.int .u64 1,.int .i64 2] 24)):=(Keep.refl _ _).alloc _
 have hn11:=heap_alloc_new w10 (.cells #[.int .u64 1,.int .i64 2] 24)
 have L11:=L10.later (AcT.lives _ _ _ _) hk11
 have hFl:=(AcT.lives _ _ _ _).lt L10.one
 have b11:=hk11.get b10.1 id
 obtain⟨F11,hd11,s11⟩:=L11.one.disk
 have L11:=L11.shrink hd11 s11
 have hn11b:¬ F11 w10.heap.size:=fun y=>by have:=hFl _ (s11 _ y);omega
 have hb11b:¬ F11 w5.heap.size:=fun y=>b10.2 (s11 _ y)
 have hcr:=crash_any _ d F11 D2 none 0 0 [] L11.one ⟨rfl,fun h=>by omega⟩ (fun h=>by omega) (by decide) (by simp) (by have:=HW.out.2.2.2.2;omega)
 rw[HG.out.2.2.2.1] at hcr
 have HL11:=hid (And.intro L11 (And.intro b11 (And.intro hn11 (And.intro hn11b hb11b))))
 clear L10 L11 b10 b11 hn11 hk11 hd11 s11 hn11b hb11b hFl
 go_wp2_with (at_builtin;refine stopAt ?_;intro q hq)
 refine hcr.mono ?_
 rintro e w12 ⟨rfl,ht⟩
 obtain⟨F12,L12,S12⟩:=HL11.out.1.stay (T':=DkT d D2) ht
 have b12:=S12 w5.heap.size _ HL11.out.2.1 HL11.out.2.2.2.2
 have c12:=S12 w10.heap.size _ HL11.out.2.2.1 HL11.out.2.2.2.1
 clear hcr ht HL11 S12
 have ho:=aopen_any w12 d F12 D2 L12.one (by have:=HW.out.2.2.2.2;omega)
 unfold AOpenPost at ho
 rw[HG.out.2.2.2.2.1] at ho
 go_wp2_with (at_builtin;refine stopAt ?_;intro q hq)
 refine ho.mono ?_
 rintro e w13 ⟨av,rfl,ht⟩
 obtain⟨F13,L13,S13⟩:=L12.stay ht
 have b13:=S13 w5.heap.size _ b12.1 b12.2
 have c13:=S13 w10.heap.size _ c12.1 c12.2
 clear ho ht L12 S13 b12 c12
 obtain⟨a',rfl,hT⟩:=L13.one
 have L13:One w (AcT a' d D2 A3) F13 w13:=⟨hT,L13.new,L13.keep⟩
 clear hT
 have hpr:=aprep_any w13 a' d D2 A3 F13 L13.one HG.out.2.2.2.2.2.2.2.2 (fun _=>by have:=HW.out.2.2.1;omega) (by have:=HW.out.2.2.2.2;omega) ⟨2,0⟩ (by decide) 1
 unfold PrepPost at hpr
 rw[HG.out.2.2.2.2.2.1] at hpr
 have hpr:Calls Try.prog 10 #[.pointer (some ⟨a',0,none⟩),.agg #[.int .u64 2,.int .i64 0],.int .u64 1] _ _:=hpr
 have HL13:=hid (And.intro L13 (And.intro b13 c13))
 clear L13 b13 c13
 go_wp2_with (at_builtin;refine stopAt ?_;intro q hq)
 refine hpr.mono ?_
 rintro e w14 ⟨v14,us14,Fv14,F14,he,hT,hk,hN,hv,-⟩
 have he:e = .returned (.tuple #[v14,.agg #[.int .u64 2,.int .i64 0],.int .i64 0]):=he
 subst he
 obtain⟨a14,c14,rfl,-⟩:=hv.row.form
 obtain⟨F14,L14,S14⟩:=HL13.out.1.stay (T':=AcT a' d (prepA D2 A3 ⟨2,0⟩ 1).2.1 (prepA D2 A3 ⟨2,0⟩ 1).2.2) ⟨F14,hT,hk,hN⟩
 have b14:=S14 w5.heap.size _ HL13.out.2.1.1 HL13.out.2.1.2
 have c14':=S14 w10.heap.size _ HL13.out.2.2.1 HL13.out.2.2.2
 clear hpr hT hk hN S14 HL13
 have hk15:Keep (fun _=>False) w14 (w14.alloc (.cells #[.int .u64 2,.int .i64 0] 24)):=(Keep.refl _ _).alloc _
 obtain⟨g,ua,uc,rfl,hcell,hrow⟩:=hv.get 0 (by decide)
 have x0:=cell_old hk15 _ _ (hcell 0 _ rfl)
 have x3:=cell_old hk15 _ _ (hcell 3 _ rfl)
 have hrow:=hrow.keep hk15 (fun _ _ x=>x)
 have y6:=hk15.get b14.1 id
 have y11:=hk15.get c14'.1 id
 have hkz:=L14.keep.next hk15 (H:=fun _=>False) (fun _ _ x=>x) (fun _ _ x=>x)
 obtain⟨w15,hw15⟩:∃ w15,w15=w14.alloc (.cells #[.int .u64 2,.int .i64 0] 24):=⟨_,rfl⟩
 rw[← hw15] at x0 x3 hrow y6 y11 hkz
 replace x0:w15.cell? ⟨g,0,none⟩=some (.int .u64 3):=x0
 replace x3:w15.cell? ⟨g,3,none⟩=some (.slice ua 1 uc):=x3
 replace hrow:Row w15 5 1 (.slice ua 1 uc) 1 (bytesV [120]):=hrow
 have z6:w15.cell? ⟨w5.heap.size,0,none⟩=some (.int .u64 1):=by simp[World.cell?,y6]
 have z11:w15.cell? ⟨w10.heap.size,1,none⟩=some (.int .i64 2):=by simp[World.cell?,y11]
 have hcv:=run_str (P:=Try.prog) Try.underlying29 Try.underlying5 Try.underlying9 (c:=uc) (Cells.of_row hrow)
 have q:((str [120]).toList == [120])=true:=by rw[str_toList];rfl
 have HK:=hid hkz
 clear hk15 hcell hv L14 b14 c14' y6 y11 hkz hrow
 simp only[List.length_cons,List.length_nil,Nat.zero_add]
 go_upto_region 13 with fail
 rw[← hw15]
 clear hw15
 go_wp2_with (at_builtin;refine stopAt ?_;intro q hq)
 go_ret
 exact⟨rfl,HK.out⟩
end Go.Proofs.Ytkjofdocgaiedaa
namespace Go.Proofs.Ytkjofdocgaiedaa
open Go.RowKit
open MI SO BM DM WM AC
set_option maxRecDepth 20000 in
theorem aballots_walk (w:World) (a:Bal) (_:BalsR a) (b:Bal) (_:BalsR b) (c:Bal) (_:BalsR c):Calls Try.prog 3 #[balV a,balV b,balV c] w fun e w'=>e = .returned (.bool true)∧Keep (fun _=>False) w w':=aballots_walk_of aknown_any w a b c
set_option maxRecDepth 20000 in
theorem anil_walk (w:World) (v:Vt) (u:Value) (_:Octs w u v.val) (_:VtR v):Calls Try.prog 4 #[.agg (voteV v u).toArray] w fun e w'=>e = .returned (.bool true)∧Keep (fun _=>False) w w':=anil_walk_of aknown_any w v u
end Go.Proofs.Ytkjofdocgaiedaa
