/- Texts Get, Wal, WalE, GetR in one. Conditions: as each law names them. -/
import Derived.Deep.CutBlock
import Derived.Test.YtkjofdocgaiedaaGreatUaa
import Derived.Test.YtkjofdocgaiedaaGreatUaj
import Derived.Test.YtkjofdocgaiedaaGreatUak
set_option maxRecDepth 20000
set_option maxHeartbeats 8000000
namespace Go.Proofs.YtkjofdocgaiedaaGreat
section
open Go.RowKit
open BM
theorem z4W {w:World} {b:Nat} {T:TypeId} {a0 a1:Value} (H:w.heap[b]?=some (.cells #[a0,a1] T (0,0))) :
  w.cell? ⟨b,0,none⟩=some a0∧w.cell? ⟨b,1,none⟩=some a1∧(∀ o,w.frozen? ⟨b,o,none⟩=false)∧b<w.heap.size:=by
 refine⟨?_,?_,?_,z0L H⟩ <;> simp[World.cell?,World.frozen?,H]
theorem zgH {P:Program} {fn:Func} {t u v:Tmp} {ty:TypeId} (h:fn.results = #[.cell t ty,.tmp u,.tmp v]) (tmps:Array Value) (w:World) (g:Nat) (ht:tmps.getD t undef = .pointer (some ⟨g,0,none⟩)) (cs:List Value)
  (hc:∀ j u,cs[j]?=some u→w.cell? ⟨g,j,none⟩=some u) (d:TypeDesc)
  (hu:P.underlying ty=some d) (hd:(match d with | .struct _ | .array _ _=>true | _=>false)=true) (hi:(P.info? ty).map (·.size)=some cs.length) :
  (results fn tmps).run P w = .ok (.tuple #[.agg cs.toArray,tmps.getD u undef,tmps.getD v undef]) w:=by
 have hl:=run_loadCells_list (P:=P) w ⟨g,0,none⟩ cs (fun j v hv=>by rw[z0J,Nat.zero_add];exact hc j v hv)
 cases hq:P.info? ty with
 | none=>simp[hq] at hi
 | some i=>
   have hs:i.size=cs.length:=by simpa [hq] using hi
   have hagg:(isAgg ty).run P w = .ok true w:=by
    unfold isAgg;rw[Sem.run_bind,run_underlying hu w];cases d <;> simp_all
   have hr:(loadVar ty ⟨g,0,none⟩).run P w = .ok (.agg cs.toArray) w:=by
    simp[loadVar,Sem.run_bind,hagg,sizeOf,typeInfo,hq,hs,hl]
   have ht':tmps[t]?.getD undef = .pointer (some ⟨g,0,none⟩):=by simpa using ht
   simp[results,h,ht',asAddr,hr]
theorem z3H {wX:World} {fn:Func} {g:Nat} {Q:Ending→World→Prop} {tmps:Array Value} (hres:fn.results = #[.cell 4 177,.tmp 5,.tmp 6]) (h4:tmps.getD 4 undef = .pointer (some ⟨g,0,none⟩))
  (c0 c1:Value) (hA:wX.heap[g]?=some (.cells #[c0,c1] 177 (0,0))) (v0 v1 e5 e6:Value) (h5:tmps.getD 5 undef=e5) (h6:tmps.getD 6 undef=e6)
  (hq:∀ w5,Keep (fun k=>k=g) wX w5→Q (.returned (.tuple #[.agg #[v0,v1],e5,e6])) w5) :
  bodyPost Tryz.prog fn Q Exit.ret { tmps:=tmps,defers:=[] } ((wX.setCell ⟨g,0,none⟩ v0).setCell ⟨g,1,none⟩ v1):=by
 have hB4:=heap_setCell_same wX g 0 _ _ v0 hA;have hB5:=heap_setCell_same (wX.setCell ⟨g,0,none⟩ v0) g 1 _ _ v1 hB4
 have k5:Keep (fun k=>k=g) wX ((wX.setCell ⟨g,0,none⟩ v0).setCell ⟨g,1,none⟩ v1):=by
  refine Keep.setCell (Keep.setCell (Keep.refl _ _) (.inl ?_) _) (.inl ?_) _ <;> rfl
 generalize (wX.setCell ⟨g,0,none⟩ v0).setCell ⟨g,1,none⟩ v1=w5 at *;refine bodyPost_ret (zgH hres _ _ g h4 [v0,v1] ?_ _ Tryz.underlying177 rfl (by kernel_rfl)) rfl ?_
 ·intro j u hu
  rw[cell_of_row _ _ _ _ _ _ hB5];simpa using hu
 ·subst h5 h6
  exact hq w5 k5
def GetPost (w:World) (g:Got) (e:Ending) (w':World):Prop:=
 match g with
 | .no m=>e = .returned (.tuple #[.agg #[.int .u8 0,.slice none 0 0],.int .i64 0,.int .i64 (m:Nat)])∧Keep (fun _=>False) w w'
 | .yes k body q=>∃ v,e = .returned (.tuple #[.agg #[.int .u8 (k.toNat:Nat),v],.int .i64 (q:Nat),.int .i64 0])∧Fresh w v body w'
theorem zfT (l:List UInt8) (a j:Nat):val4 (l.drop a) j=val4 l (a+j):=by
 simp[val4,List.getD_eq_getElem?_getD,List.getElem?_drop,Nat.add_assoc]
theorem ziM (l:List UInt8) (a d:Nat) (hd:d=l.length - a) (ha:a≤l.length):BM.get l a =
  if d=0 then .no 10
  else if l.getD a 0≠167 then .no 20
  else if d<6 then .no 10
  else if 1024<val4 l (a+2) then .no 3
  else if d<10+val4 l (a+2) then .no 10
  else if val4 l (a+(6+val4 l (a+2)))≠crc ((l.drop a).take (6+val4 l (a+2))) then .no 21
  else .yes (l.getD (a+1) 0) ((l.drop (a+6)).take (val4 l (a+2))) (a+(10+val4 l (a+2))):=by
 unfold BM.get;rw[if_neg (show ¬ l.length<a by omega)];have e1:(l.length=a)=(d=0):=propext (by omega);have e2:(l.length<a+6)=(d<6):=propext (by omega);have e3:(l.length<a+(10+val4 l (a+2)))=(d<10+val4 l (a+2)):=propext (by omega);have e4:a+6+val4 l (a+2)=a+(6+val4 l (a+2)):=by omega
 simp only[e1,e2,e3,e4]
theorem zoA (w:World) (ao:Option Addr) (n c a:Nat) (l:List UInt8) (h:Cells w ao n 1 (z0B l)) (ha:a≤n) (hnc:n≤c) (hn:n≤1000000000) :
  Calls Tryz.prog 126 #[.slice ao n c,.int .i64 a] w (GetPost w (BM.get l a)):=by
 have hl:l.length=n:=by have:=h.1;rw[z0D] at this;omega
 have hA:=heap_alloc_new w (.cells #[.int .u8 0,.slice none 0 0] 177);have kA:=kal w (.cells #[.int .u8 0,.slice none 0 0] 177);have zA:w.heap.size<(w.alloc (.cells #[.int .u8 0,.slice none 0 0] 177)).heap.size:=by simp
 obtain⟨d,hd⟩:=zX1 (n - a);have hs:=fun w=>z1Q (P:=Tryz.prog) z0U ao n c .i64 a ha w;rw[← hd] at hs
 have H:=hid (show ∀ w',Keep (fun _=>False) w w'→Cells w' (z1E ao c a 1) d 1 (z0B (l.drop a)) by
  intro w' hk;have:=(h.tail a ha hnc (by decide)).keep hk (fun _ _ x=>x);rw[← hd] at this
  simpa [z0B,List.map_drop] using this)
 obtain⟨G,hG⟩:=zX1 (BM.get l a);rw[← hG];rw[ziM l a d (by omega) (by omega)] at hG;have HD:=hid (zA1 hd (zA1 hl (zA1 ha hnc)));have t0:decide ((a:Int)<0)=false:=decide_eq_false (by omega);have t3:decide ((n:Int)<(a:Int))=false:=decide_eq_false (by omega);have t2:decide (n<a)=false:=decide_eq_false (by omega);have bd:d≤1000000000:=by omega
 generalize z1E ao c a 1=ta at *;obtain⟨rc,hrc⟩:=zX1 (c - a);rw[← hrc] at hs;have hdc:=hid (show d≤rc by omega);clear h ha hnc hl hrc hd;go_enter Tryz.func126,Tryz.ntmps126
 go_upto_region 1 with fail
 obtain⟨w1,hw1⟩:=zX1 (w.alloc (.cells #[.int .u8 0,.slice none 0 0] 177));rw[← hw1] at hA kA zA ⊢;clear hw1;obtain⟨a0,a1,af,-⟩:=z4W hA;have HX:=hid (zA1 hA kA);clear hA kA
 by_cases h1:d=0
 ·rw[if_pos h1] at hG
  have HG:=hid hG;clear hG;have u1:((d:Int) == 0)=true:=by simp[h1]
  clear h1;go_wp2_with (at_builtin;refine z0A ?_;intro q hq);obtain⟨hX1,hX2⟩:=HX.out;refine z3H (g:=w.heap.size) (by rfl) (by rfl) _ _ hX1 _ _ _ _ (by rfl) (by rfl) ?_;intro w5 k5;rw[HG.out];exact⟨by rfl,hX2.next k5 (fun _ _ x=>x) (fun i hi x=>by omega)⟩
 rw[if_neg h1] at hG;have u1:((d:Int) == 0)=false:=by simp;omega
 obtain⟨ad,had,-⟩:=(H.out w (Keep.refl _ _)).2 (by omega);subst had
 have hc:=hid (show ∀ w',Keep (fun _=>False) w w'→∀ j,j<d→w'.cell? (ad.add j)=some (.int .u8 ((l.getD (a+j) 0).toNat:Int)) by
  intro w' hk j hj;obtain⟨ad2,e2,hc2⟩:=(H.out w' hk).2 (by omega);cases e2;refine hc2 j _ ?_;have h1:=HD.out;have hjl:a+j<l.length:=by omega
  simp[z0B,List.getElem?_drop,hjl])
 have d0:(0:Int)<(d:Int):=by omega
 have x0:=hc.out w1 HX.out.2 0 (by omega);obtain⟨m,hm⟩:=zX1 (l.getD a 0);rw[Nat.add_zero,← hm,show ad.add 0=ad by cases ad;rfl] at x0;rw[← hm] at hG
 by_cases h2:m≠167
 ·rw[if_pos h2] at hG
  have HG:=hid hG;clear hG
  have u2:((m.toNat:Int) != 167)=true:=by
   have:m.toNat≠167:=fun e=>h2 (UInt8.toNat_inj.1 e);simp;omega
  clear hm h2;generalize m.toNat=mm at *;go_wp2_with (at_builtin;refine z0A ?_;intro q hq);obtain⟨hX1,hX2⟩:=HX.out;refine z3H (g:=w.heap.size) (by rfl) (by rfl) _ _ hX1 _ _ _ _ (by rfl) (by rfl) ?_;intro w5 k5;rw[HG.out];exact⟨by rfl,hX2.next k5 (fun _ _ x=>x) (fun i hi x=>by omega)⟩
 rw[if_neg h2] at hG;have h2':m=167:=Classical.byContradiction h2;rw[h2'] at x0;clear hm h2 h2' m;have x0':w1.cell? ad=some (.int .u8 167):=x0;clear x0
 by_cases h3:d<6
 ·rw[if_pos h3] at hG
  have HG:=hid hG;clear hG;have u3:(d:Int)<6:=by omega
  go_wp2_with (at_builtin;refine z0A ?_;intro q hq);obtain⟨hX1,hX2⟩:=HX.out;refine z3H (g:=w.heap.size) (by rfl) (by rfl) _ _ hX1 _ _ _ _ (by rfl) (by rfl) ?_;intro w5 k5;rw[HG.out];exact⟨by rfl,hX2.next k5 (fun _ _ x=>x) (fun i hi x=>by omega)⟩
 rw[if_neg h3] at hG;have u3:decide ((d:Int)<6)=false:=decide_eq_false (by omega);have u4:decide (d<6)=false:=decide_eq_false h3;have hdl:=hid (show (l.drop a).length=d by have h1:=HD.out;rw[List.length_drop];omega);have hfx:=hid (fun (wx:World) (k:Keep (fun _=>False) w wx) (j:Nat) (hj:j+4≤d)=>zoB wx (some ad) d rc j (l.drop a) (H.out wx k) hj hdc.out bd);obtain⟨q,hq⟩:=zX1 (val4 l (a+2));have hq32:q<4294967296:=by rw[hq];exact znQ _ _
 have HQ:=hid hq;rw[← hq] at hG;clear hq;have HG0:=hid hG;clear hG;go_wp2_with (at_builtin;refine z0A ?_;intro q hq);have hG:=HG0.out;clear HG0;refine(hfx.out w1 HX.out.2 2 (by omega)).mono ?_;rintro e2 w2 ⟨rfl,hk2⟩;rw[zfT,← HQ.out];have HX2:=hid (zA1 (hk2.get HX.out.1 id) (HX.out.2.next hk2 (fun _ _ x=>x) (fun _ _ x=>x)));clear a0 a1 af HX x0' hk2;obtain⟨a0,a1,af,-⟩:=z4W HX2.out.1;have HX:=HX2;clear HX2
 by_cases h4:1024<q
 ·rw[if_pos h4] at hG
  have HG:=hid hG;clear hG;have u5:(1024:Int)<(q:Int):=by omega
  go_wp2_with (at_builtin;refine z0A ?_;intro q hq);obtain⟨hX1,hX2⟩:=HX.out;refine z3H (g:=w.heap.size) (by rfl) (by rfl) _ _ hX1 _ _ _ _ (by rfl) (by rfl) ?_;intro w5 k5;rw[HG.out];exact⟨by rfl,hX2.next k5 (fun _ _ x=>x) (fun i hi x=>by omega)⟩
 rw[if_neg h4] at hG;have u5:decide ((1024:Int)<(q:Int))=false:=decide_eq_false (by omega);have u6:decide (1024<q)=false:=decide_eq_false h4;obtain⟨en,hen⟩:=zX1 (6+q);obtain⟨en4,hen4⟩:=zX1 (en+4);have v1:=wi64 q (by omega);have v2:(6:Int)+(q:Int)=(en:Int):=by omega
 have v3:=wi64 en (by omega);have v4:(en:Int)+4=(en4:Int):=by omega
 have v5:=wi64 en4 (by omega);rw[← hen,show 10+q=en4 by omega] at hG;have HE:=hid (zA1 hen hen4);have q1024:=hid (show q≤1024 by omega);have en9:en4≤2000:=by omega
 clear hen hen4 h4
 by_cases h5:d<en4
 ·rw[if_pos h5] at hG
  have HG:=hid hG;clear hG;have u7:(d:Int)<(en4:Int):=by omega
  go_wp2_with (at_builtin;refine z0A ?_;intro q hq);obtain⟨hX1,hX2⟩:=HX.out;refine z3H (g:=w.heap.size) (by rfl) (by rfl) _ _ hX1 _ _ _ _ (by rfl) (by rfl) ?_;intro w5 k5;rw[HG.out];exact⟨by rfl,hX2.next k5 (fun _ _ x=>x) (fun i hi x=>by omega)⟩
 rw[if_neg h5] at hG;have u7:decide ((d:Int)<(en4:Int))=false:=decide_eq_false (by omega);have u8:decide (d<en4)=false:=decide_eq_false h5;obtain⟨sv,hsv⟩:=zX1 (val4 l (a+en));obtain⟨cr,hcr⟩:=zX1 (crc ((l.drop a).take en));rw[← hsv,← hcr] at hG;have HS:=hid (zA1 hsv hcr);clear hsv hcr;have HG0:=hid hG;clear hG;go_wp2_with (at_builtin;refine z0A ?_;intro q hq);refine(hfx.out w2 HX.out.2 en (by have:=HE.out;omega)).mono ?_;rintro e3 w3 ⟨rfl,hk3⟩;rw[zfT];have HX2:=hid (zA1 (hk3.get HX.out.1 id) (HX.out.2.next hk3 (fun _ _ x=>x) (fun _ _ x=>x)));clear a0 a1 af HX hk3;obtain⟨a0,a1,af,-⟩:=z4W HX2.out.1;have HX:=HX2;clear HX2;have hs2:=fun w=>zaW (P:=Tryz.prog) z0U (some ad) d rc .i64 en (by have h1:=HE.out;have h2:=hdc.out;omega) w;rw[← HS.out.1];go_wp2_with (at_builtin;refine z0A ?_;intro q hq);obtain⟨w4,hw4⟩:=zX1 (w3.alloc (.cells #[.slice (some ad) en rc] 29));have k4:Keep (fun _=>False) w3 w4:=by rw[hw4];exact(Keep.refl _ _).alloc _
 have hc4:w4.cell? ⟨w3.heap.size,0,none⟩=some (.slice (some ad) en rc):=by
  rw[hw4,cell_of_row _ _ _ _ _ _ (heap_alloc_new w3 _)];rfl
 rw[← hw4];clear hw4;have HX2:=hid (zA1 (k4.get HX.out.1 id) (HX.out.2.next k4 (fun _ _ x=>x) (fun _ _ x=>x)));clear a0 a1 af HX k4;have HX:=HX2;clear HX2
 refine(znB w4 w3.heap.size (some ad) en rc ((l.drop a).take en) hc4 (by
  have h1:=(H.out w4 HX.out.2).take en (by have h1:=HE.out;omega)
  simpa [z0B,List.map_take] using h1) (by omega)).mono ?_
 rintro e5 w5 ⟨rfl,rfl⟩;rw[← HS.out.2];clear hc4;obtain⟨a0,a1,af,-⟩:=z4W HX.out.1
 by_cases h6:sv≠cr
 ·have HG:=hid (show G=_ by rw[HG0.out,if_pos h6])
  have u9:((sv:Int) != (cr:Int))=true:=by simp;omega
  clear HG0 h6;go_wp2_with (at_builtin;refine z0A ?_;intro q hq);obtain⟨hX1,hX2⟩:=HX.out;refine z3H (g:=w.heap.size) (by rfl) (by rfl) _ _ hX1 _ _ _ _ (by rfl) (by rfl) ?_;intro w5 k5;rw[HG.out];exact⟨by rfl,hX2.next k5 (fun _ _ x=>x) (fun i hi x=>by omega)⟩
 have HG:=hid (show G=_ by rw[HG0.out,if_neg h6]);obtain rfl:sv=cr:=by omega
 clear HG0 h6;have y1:=hc.out w5 HX.out.2 1 (by omega);have d1:(1:Int)<(d:Int):=by omega
 obtain⟨kk,hkk⟩:=zX1 ((l.getD (a+1) 0).toNat);rw[← hkk] at y1;have HKK:=hid hkk;clear hkk;have y2:=y1;simp[Addr.add] at y2;have hs3:∀ w,(Instr.sliceAt 29 (.slice (some ad) d rc) (some (.int .i64 6)) (some (.int .i64 (en:Int))) none).run Tryz.prog w = .ok (.slice (z1E (some ad) rc 6 1) (en - 6) (rc - 6)) w:=fun w=>z1R (P:=Tryz.prog) z0U (some ad) d rc .i64 .i64 6 en (by have h1:=HE.out;omega) (by have h1:=HE.out;have h2:=hdc.out;omega) w;go_wp2_with (at_builtin;refine z0A ?_;intro q hq);refine z0G [83] (by kernel_rfl) (by kernel_rfl) ?_
 repeat (first | (apply z0F (by rfl);(intro K w';go_simp;exact id)) | (apply z0I (by rfl);(intro K;go_simp;exact id)))
 (refine z2G (by rfl) (by rfl) (fun K hK=>?_);go_simp;refine hK _ _ (Pre.push _ rfl) ?_;clear hK K)
 have hf6:Fresh w5 (.slice (some ⟨w5.heap.size,0,none⟩) 0 0) [] (w5.alloc (.cells #[] 5)).drew:=FreshU.later (z2X rfl rfl rfl (by unfold maxLen;decide)) (Keep.refl _ _).drew;obtain⟨w6,hw6⟩:=zX1 ((w5.alloc (.cells #[] 5)).drew);rw[← hw6] at hf6 ⊢;clear hw6;have HF6:=hid hf6;clear hf6 a0 a1 af
 repeat (first | (apply z0F (by rfl);(intro K w';go_simp;exact id)) | (apply z0I (by rfl);(intro K;go_simp;exact id)))
 refine z2G (by rfl) (by rfl) (fun K hK=>?_);have hX6:=HX.out.2.next HF6.out.keep (G:=fun _=>False) (fun _ _ x=>x) (fun _ _ x=>x)
 refine z3B (r:=(l.drop (a+6)).take q) _ _ rfl rfl HF6.out _ _ _ rfl (by
  have h2:=HE.out;have h3:=((H.out w6 hX6).tail 6 (by omega) hdc.out (by decide)).take (en - 6) (by omega);rw[show (en - 6) * 1=q by omega,Nat.mul_one] at h3
  simpa [z0B,List.map_take,List.map_drop,List.drop_drop] using h3) (by have h2:=HE.out;omega) ?_
 intro v7 w7 hf7 hk7;have hlq:((l.drop (a+6)).take q).length=q:=by have h1:=HD.out;have h2:=HE.out;rw[List.length_take,List.length_drop];omega
 obtain⟨ad7,c7,rfl⟩:∃ ad7 c7,v7 = .slice ad7 q c7:=by
  obtain⟨ad7,c7,h1,-⟩:=hf7.row.form;exact⟨ad7,c7,by rw[h1,hlq]⟩
 refine hK _ _ (Pre.of_keep hk7) ?_;clear hK K hlq;have HF7:=hid (zA1 hf7 (HX.out.2.next hf7.keep (G:=fun _=>False) (H:=fun _=>False) (fun _ _ x=>x) (fun _ _ x=>x)));have HX2:=hid (zA1 (hf7.keep.get HX.out.1 id) True.intro);clear hf7 hk7 hX6;obtain⟨a0,a1,af,-⟩:=z4W HX2.out.1;obtain⟨p1,hp1⟩:=zX1 (a+en);obtain⟨p2,hp2⟩:=zX1 (p1+4);have f1:(a:Int)+(en:Int)=(p1:Int):=by omega
 have f2:(p1:Int)+4=(p2:Int):=by omega
 have f3:=wi64 p1 (by have h1:=HD.out;omega);have f4:=wi64 p2 (by have h1:=HD.out;omega);have HP:=hid (zA1 hp1 hp2);clear hp1 hp2;go_simp
 repeat (first | (apply z0F (by rfl);(intro K w';go_simp;exact id)) | (apply z0I (by rfl);(intro K;go_simp;exact id)))
 (refine z0M (by rfl) (by rfl) (fun K hK=>?_);go_simp;refine hK _ _ ?_;clear hK K)
 repeat (first | (apply z0F (by rfl);(intro K w';go_simp;exact id)) | (apply z0I (by rfl);(intro K;go_simp;exact id)))
 refine z0S ?_;go_wp2_with (at_builtin;refine z0A ?_;intro q hq);refine z3H (g:=w.heap.size) (by rfl) (by rfl) _ _ HX2.out.1 _ _ _ _ (by rfl) (by rfl) ?_;intro w9 k9;rw[HG.out];have e1:a+en4=p2:=by have h1:=HP.out;have h2:=HE.out;omega
 refine⟨_,by rw[← HKK.out,e1];rfl,?_⟩;have hf9:=HF7.out.1.since HX.out.2;refine⟨hf9.row.keep k9 ?_,hf9.keep.next k9 (fun _ _ x=>x) (fun i hi x=>by omega),hf9.own⟩;intro k e x;have h1:=HF7.out.1.own k e;have h2:=HX.out.1;have h3:=z0L h2;omega
end
section
open Go.RowKit
open DM BM WM
theorem z9G:SliceTy Tryz.prog 107 29 (.slice none 0 0) 1 24:=⟨by kernel_rfl,by kernel_rfl,rfl,by decide⟩
structure Recs (w:World) (F A:Nat→Prop) (v:Value) (L:List (List UInt8)) (vs:List Value):Prop where
 row:Row w 29 1 v L.length vs
 own:∀ k,v.ownBlock=some k→F k∧¬ A k
 each:∀ j (hj:j<L.length),∃ u,vs[j]?=some u∧Row w 5 1 u L[j].length (z0B L[j])∧∀ k,u.ownBlock=some k→F k∧¬ A k∧v.ownBlock≠some k
theorem Recs.keep {w w':World} {F A G:Nat→Prop} {v:Value} {L:List (List UInt8)} {vs:List Value} (h:Recs w F A v L vs) (hk:Keep G w w') (hG:∀ k,F k→¬ A k→¬ G k):Recs w' F A v L vs:=
 ⟨h.row.keep hk fun k e=>hG k (h.own k e).1 (h.own k e).2,h.own,fun j hj=>let ⟨u,h1,h2,h3⟩:=h.each j hj;⟨u,h1,h2.keep hk fun k e=>hG k (h3 k e).1 (h3 k e).2.1,h3⟩⟩
theorem Recs.mono {w:World} {F A F' A':Nat→Prop} {v:Value} {L:List (List UInt8)} {vs:List Value} (h:Recs w F A v L vs) (hF:∀ k,F k→¬ A k→F' k∧¬ A' k):Recs w F' A' v L vs:=
 ⟨h.row,fun k e=>hF k (h.own k e).1 (h.own k e).2,fun j hj=>let ⟨u,h1,h2,h3⟩:=h.each j hj;⟨u,h1,h2,fun k e=>⟨(hF k (h3 k e).1 (h3 k e).2.1).1,(hF k (h3 k e).1 (h3 k e).2.1).2,(h3 k e).2.2⟩⟩⟩
theorem Recs.nil (w:World) (F A:Nat→Prop):Recs w F A (.slice none 0 0) [] []:=
 ⟨Row.nil _ _ _,fun k e=>by simp[Value.ownBlock] at e,fun j hj=>by simp at hj⟩
theorem Recs.push {wr w':World} {F F' A:Nat→Prop} {v v' u:Value} {L:List (List UInt8)} {vs:List Value} {l:List UInt8} (h:Recs wr F A v L vs)
  (hu:Row wr 5 1 u l.length (z0B l)) (hou:∀ k,u.ownBlock=some k→F' k∧¬ A k∧v.ownBlock≠some k)
  (hr:Row w' 29 1 v' (L.length+1) (vs ++ [u])) (hk:Keep (fun k=>v.ownBlock=some k) wr w') (hF:∀ k,F k→F' k)
  (hv:∀ k,v'.ownBlock=some k→v.ownBlock=some k∨(wr.heap.size≤k∧F' k∧¬ A k)):Recs w' F' A v' (L ++ [l]) (vs ++ [u]):=by
 have hl:vs.length=L.length:=by have:=h.row.len;omega
 have nov:∀ (x:Value) (n:Nat) (xs:List Value),Row wr 5 1 x n xs→∀ k,x.ownBlock=some k→v.ownBlock≠some k→v'.ownBlock≠some k:=by
  intro x n xs hx k e hne e'
  rcases hv k e' with z | z
  ·exact hne z
  ·have:=hx.lt e;omega
 refine⟨by simpa using hr,fun k e=>?_,fun j hj=>?_⟩
 ·rcases hv k e with z | z
  ·exact⟨hF k (h.own k z).1,(h.own k z).2⟩
  ·exact z.2
 ·by_cases hjl:j<L.length
  ·obtain⟨x,h1,h2,h3⟩:=h.each j hjl
   rw[List.getElem_append_left hjl];exact⟨x,by rw[List.getElem?_append_left (by omega)];exact h1,h2.keep hk fun k e=>(h3 k e).2.2,fun k e=>⟨hF k (h3 k e).1,(h3 k e).2.1,nov x _ _ h2 k e (h3 k e).2.2⟩⟩
  ·obtain rfl:j=L.length:=by simp at hj;omega
   rw[List.getElem_append_right (Nat.le_refl _)];simp only[Nat.sub_self,List.getElem_cons_zero];exact⟨u,by rw[List.getElem?_append_right (by omega)];simp[hl],hu.keep hk fun k e=>(hou k e).2.2,fun k e=>⟨(hou k e).1,(hou k e).2.1,nov u _ _ hu k e (hou k e).2.2⟩⟩
def z1X (h:Nat) (l:List (List UInt8)):List UInt8:=flat l ++ List.replicate (32 * h - (flat l).length) 0
theorem z2D {h:Nat} {l:List (List UInt8)} (hf:(flat l).length≤32 * h):(z1X h l).length=32 * h:=by simp[z1X];omega
def z0N (d:Nat) (ep h:Nat) (va vl:Value) (safe en:Nat) (dead:Bool):Array Value:=
 #[.pointer (some ⟨d, 0, none⟩), .int .u64 (ep : Nat), .int .i64 (h : Nat), va, vl, .int .i64 (safe : Nat), .int .i64 (en : Nat), .bool dead]
theorem z1F {w:World} {b:Nat} {T:TypeId} {a0 a1 a2 a3 a4 a5 a6 a7:Value} (H:w.heap[b]?=some (.cells #[a0,a1,a2,a3,a4,a5,a6,a7] T (0,0))) :
  w.cell? ⟨b,0,none⟩=some a0∧w.cell? ⟨b,1,none⟩=some a1∧w.cell? ⟨b,2,none⟩=some a2∧w.cell? ⟨b,3,none⟩=some a3∧w.cell? ⟨b,4,none⟩=some a4∧w.cell? ⟨b,5,none⟩=some a5∧
  w.cell? ⟨b,6,none⟩=some a6∧w.cell? ⟨b,7,none⟩=some a7∧(∀ o,w.frozen? ⟨b,o,none⟩=false)∧b<w.heap.size:=by
 refine⟨?_,?_,?_,?_,?_,?_,?_,?_,?_,z0L H⟩ <;> simp[World.cell?,World.frozen?,H]
structure LgOk (h:Nat) (G:Lg):Prop where
 fit:(flat G.l).length≤32 * h
 two:2≤h
 few:h≤1023
 ep:G.ep<4611686018427387904
 small:∀ x ∈ G.l,x.length≤1024
 safe:G.safe≤G.l.length
theorem znM (l:List (List UInt8)):10 * l.length≤(flat l).length:=by
 induction l with
 | nil=>simp
 | cons x l ih=>rw[z6W,List.length_append,z1D];simp;omega
theorem LgOk.count {h:Nat} {G:Lg} (k:LgOk h G):G.l.length≤4000:=by
 have h1:=znM G.l;have h2:=k.fit;have h3:=k.few;omega
structure WalIs (w:World) (b d:Nat) (F:Nat→Prop) (h:Nat) (G:Lg) (ga ca:Nat) (vl:Value) (vs:List Value):Prop where
 head:w.heap[b]?=some (.cells (z0N d G.ep h (.slice (some ⟨ga,0,none⟩) (32 * h) ca) vl G.safe (flat G.l).length G.dead) 164 (0,0))
 area:Row w 5 1 (.slice (some ⟨ga,0,none⟩) (32 * h) ca) (32 * h) (z0B (z1X h G.l))
 recs:Recs w F (fun k=>k=b∨k=ga) vl G.l vs
 self:F b
 garea:F ga
 ne:b≠ga
 lt:∀ k,F k→k<w.heap.size
 ok:LgOk h G
theorem WalIs.keep {w w':World} {b d:Nat} {F K:Nat→Prop} {h:Nat} {G:Lg} {ga ca:Nat} {vl:Value} {vs:List Value} (H:WalIs w b d F h G ga ca vl vs) (hk:Keep K w w') (hn:∀ k,F k→¬ K k):WalIs w' b d F h G ga ca vl vs:=
 ⟨hk.get H.head (hn _ H.self),H.area.keep hk fun k e=>by simp[Value.ownBlock] at e;subst e;exact hn _ H.garea,H.recs.keep hk fun k e _=>hn k e,H.self,H.garea,H.ne,fun k x=>Nat.lt_of_lt_of_le (H.lt k x) hk.size,H.ok⟩
theorem WalIs.head' {w w':World} {b d:Nat} {F:Nat→Prop} {h:Nat} {G G':Lg} {ga ca:Nat} {vl:Value} {vs:List Value} (H:WalIs w b d F h G ga ca vl vs) (hk:Keep (fun k=>k=b) w w') (hl:G'.l=G.l)
  (hh:w'.heap[b]?=some (.cells (z0N d G'.ep h (.slice (some ⟨ga,0,none⟩) (32 * h) ca) vl G'.safe (flat G'.l).length G'.dead) 164 (0,0))) (ok:LgOk h G'):WalIs w' b d F h G' ga ca vl vs:=
 ⟨hh,by rw[hl];exact H.area.keep hk fun k e=>by simp[Value.ownBlock] at e;subst e;exact fun x=>H.ne x.symm,by rw[hl];exact H.recs.keep hk fun k _ e x=>e (.inl x),H.self,H.garea,H.ne,fun k x=>Nat.lt_of_lt_of_le (H.lt k x) hk.size,ok⟩
structure LogIs (w:World) (b d:Nat) (F Fd:Nat→Prop) (D:Dk) (G:Lg) (ga ca:Nat) (vl:Value) (vs:List Value):Prop where
 wal:WalIs w b d F (half D) G ga ca vl vs
 disk:DiskAt w d Fd D
 apart:∀ k,F k→¬ Fd k
def LogAt (w:World) (b d:Nat) (F Fd:Nat→Prop) (D:Dk) (G:Lg):Prop:=∃ ga ca vl vs,LogIs w b d F Fd D G ga ca vl vs
theorem LogAt.keep {w w':World} {b d:Nat} {F Fd K:Nat→Prop} {D:Dk} {G:Lg} (H:LogAt w b d F Fd D G) (hk:Keep K w w') (h1:∀ k,F k→¬ K k) (h2:∀ k,Fd k→¬ K k):LogAt w' b d F Fd D G:=
 let ⟨ga,ca,vl,vs,h⟩:=H;⟨ga,ca,vl,vs,h.wal.keep hk h1,h.disk.keep hk h2,h.apart⟩
theorem LogAt.ok {w:World} {b d:Nat} {F Fd:Nat→Prop} {D:Dk} {G:Lg} (H:LogAt w b d F Fd D G):LgOk (half D) G:=let ⟨_,_,_,_,h⟩:=H;h.wal.ok
def LogTo (b d:Nat) (F Fd:Nat→Prop) (w:World) (D':Dk) (G':Lg) (w':World):Prop:=
 ∃ F' Fd',LogAt w' b d F' Fd' D' G'∧Keep (fun k=>F k∨Fd k) w w'∧(∀ k,F' k→F k∨w.heap.size≤k)∧∀ k,Fd' k→Fd k∨w.heap.size≤k
theorem LogAt.to {w:World} {b d:Nat} {F Fd:Nat→Prop} {D:Dk} {G:Lg} (H:LogAt w b d F Fd D G):LogTo b d F Fd w D G w:=⟨F,Fd,H,Keep.refl _ _,fun _ x=>.inl x,fun _ x=>.inl x⟩
theorem LgOk.die {h:Nat} {G:Lg} (H:LgOk h G) (x:Bool):LgOk h { G with dead:=x }:=⟨H.fit,H.two,H.few,H.ep,H.small,H.safe⟩
theorem WalIs.dead {w:World} {b d:Nat} {F:Nat→Prop} {h:Nat} {G:Lg} {ga ca:Nat} {vl:Value} {vs:List Value} (H:WalIs w b d F h G ga ca vl vs) (x:Bool) :
  WalIs (w.setCell ⟨b,7,none⟩ (.bool x)) b d F h { G with dead:=x } ga ca vl vs:=by
 refine H.head' (by refine Keep.setCell (Keep.refl _ _) (.inl ?_) _;rfl) rfl ?_ (H.ok.die x);have:=z0C H.head 7 (.bool x);rw[this];rfl
theorem LogAt.dead {w:World} {b d:Nat} {F Fd:Nat→Prop} {D:Dk} {G:Lg} (H:LogAt w b d F Fd D G) (x:Bool):LogTo b d F Fd w D { G with dead:=x } (w.setCell ⟨b,7,none⟩ (.bool x)):=by
 obtain⟨ga,ca,vl,vs,h⟩:=H;have hk:Keep (fun k=>k=b) w (w.setCell ⟨b,7,none⟩ (.bool x)):=kst;refine⟨F,Fd,⟨ga,ca,vl,vs,h.wal.dead x,h.disk.keep hk fun k e c=>by subst c;exact h.apart _ h.wal.self e,h.apart⟩,hk.mono fun i _ e=>by subst e;exact .inl h.wal.self,fun _ x=>.inl x,fun _ x=>.inl x⟩
theorem z7G (w:World) (b d:Nat) (ep h:Nat) (va vl:Value) (sf en:Nat) (dead:Bool) (H:w.heap[b]?=some (.cells (z0N d ep h va vl sf en dead) 164 (0,0))) (hh:h≤1023) (e:Nat) :
  Calls Tryz.prog 84 #[.pointer (some ⟨b,0,none⟩),.int .u64 (e:Nat)] w fun x w'=>x = .returned (.int .i64 (2+e % 2 * h:Nat))∧w'=w:=by
 unfold z0N at H;obtain⟨h0,h1,h2,h3,h4,h5,h6,h7,hf,hb⟩:=z1F H;clear H h0 h1 h3 h4 h5 h6 h7;have e2:e % 2<2:=Nat.mod_lt _ (by decide);obtain⟨r,hr⟩:=zX1 (e % 2);have q1:((e:Int) % 2)=(r:Int):=by omega
 have q2:((e:Int).tmod 2)=(r:Int):=by rw[Int.tmod_eq_emod_of_nonneg (by omega)];exact q1
 have q3:=wi64 r (by omega);obtain⟨p,hp⟩:=zX1 (r * h)
 have hp2:p≤1023:=by
  rw[hp];have:r=0∨r=1:=by omega
  rcases this with rfl | rfl <;> omega
 have q4:(r:Int) * (h:Int)=(p:Int):=by rw[hp];push_cast;rfl
 have q5:=wi64 p (by omega);have HP:=hid (show 2+e % 2 * h=2+p by rw[hp,hr]);clear hr hp e2;go_enter Tryz.func84,Tryz.ntmps84
 go_wp2
 go_ret;refine⟨?_,rfl⟩;rw[HP.out]
 push_cast
 rfl
theorem z6C (w:World) (b d:Nat) (F Fd:Nat→Prop) (D:Dk) (G:Lg) (H:LogAt w b d F Fd D G) (hg:gone D G=false) :
  Calls Tryz.prog 87 #[.pointer (some ⟨b,0,none⟩)] w fun x w'=>x = .returned (.int .i64 0)∧w'=w:=by
 obtain⟨ga,ca,vl,vs,HL⟩:=H;have hh:=HL.wal.head;unfold z0N at hh;obtain⟨h0,h1,h2,h3,h4,h5,h6,h7,hf,hb⟩:=z1F hh;unfold gone at hg;simp only[Bool.or_eq_false_iff] at hg;have hg2:=hg.2;rw[hg.1] at h7;have HL:=hid HL;clear hh h1 h2 h3 h4 h5 h6 hg;go_enter Tryz.func87,Tryz.ntmps87;go_wp2_with (at_builtin;refine z0A ?_;intro q hq);refine(zjP w d Fd D HL.out.disk).mono ?_;rintro e w1 ⟨rfl,rfl⟩;rw[hg2];go_wp2_with (at_builtin;refine z0A ?_;intro q hq);go_ret;exact⟨rfl,rfl⟩
theorem z9O (w:World) (b d:Nat) (F Fd:Nat→Prop) (D:Dk) (G:Lg) (H:LogAt w b d F Fd D G) (hg:gone D G=true) :
  Calls Tryz.prog 87 #[.pointer (some ⟨b,0,none⟩)] w fun x w'=>x = .returned (.int .i64 6)∧LogTo b d F Fd w D (WM.mark D G) w':=by
 have fin:=hid (show LogTo b d F Fd w D (WM.mark D G) (w.setCell ⟨b,7,none⟩ (.bool true)) by
  unfold WM.mark;rw[hg];exact H.dead true)
 obtain⟨ga,ca,vl,vs,HL⟩:=H;have hh:=HL.wal.head;unfold z0N at hh;obtain⟨h0,h1,h2,h3,h4,h5,h6,h7,hf,hb⟩:=z1F hh;unfold gone at hg;have HL:=hid HL;clear hh h1 h2 h3 h4 h5 h6
 cases hd:G.dead with
 | true=>
   rw[hd] at h7;clear hg;go_enter Tryz.func87,Tryz.ntmps87;go_wp2_with (at_builtin;refine z0A ?_;intro q hq);go_ret;exact⟨rfl,fin.out⟩
 | false=>
   rw[hd] at h7;have hg2:D.down=true:=by simpa [hd] using hg
   clear hg;go_enter Tryz.func87,Tryz.ntmps87;go_wp2_with (at_builtin;refine z0A ?_;intro q hq);refine(zjP w d Fd D HL.out.disk).mono ?_;rintro e w1 ⟨rfl,rfl⟩;rw[hg2];go_wp2_with (at_builtin;refine z0A ?_;intro q hq);go_ret;exact⟨rfl,fin.out⟩
theorem z8U (w:World) (b d:Nat) (ep h:Nat) (va vl:Value) (sf en:Nat) (dead:Bool) (H:w.heap[b]?=some (.cells (z0N d ep h va vl sf en dead) 164 (0,0))) (e:Int) :
  Calls Tryz.prog 103 #[.pointer (some ⟨b,0,none⟩),.int .i64 e] w fun x w'=>x = .returned (.int .i64 e)∧w'=w.setCell ⟨b,7,none⟩ (.bool (dead || decide (e≠0))):=by
 unfold z0N at H;obtain⟨h0,h1,h2,h3,h4,h5,h6,h7,hf,hb⟩:=z1F H;clear H h0 h1 h2 h3 h4 h5 h6
 cases dead with
 | true=>
   go_enter Tryz.func103,Tryz.ntmps103;go_wp2_with (at_builtin;refine z0A ?_;intro q hq);go_ret;exact⟨rfl,rfl⟩
 | false=>
   by_cases he:e=0
   ·subst he
    go_enter Tryz.func103,Tryz.ntmps103;go_wp2_with (at_builtin;refine z0A ?_;intro q hq);go_ret;exact⟨rfl,rfl⟩
   ·have u1:(e == 0)=false:=by simp[he]
    have u2:(e != 0)=true:=by simp[he]
    have u3:decide (e=0)=false:=by simp[he]
    have HE:=hid he;clear he;go_enter Tryz.func103,Tryz.ntmps103;go_wp2_with (at_builtin;refine z0A ?_;intro q hq);go_ret;refine⟨rfl,?_⟩;have:=HE.out;simp[this]
end
section
open Go.RowKit
open DM BM WM
theorem zlJ (w:World) (b d:Nat) (F Fd:Nat→Prop) (D:Dk) (G:Lg) (H:LogAt w b d F Fd D G) (hg:gone D G=false) :
  Calls Tryz.prog 102 #[.pointer (some ⟨b,0,none⟩)] w fun x w'=>x = .returned (.int .i64 (room D G:Nat))∧w'=w.drew:=by
 have HH:=hid H;obtain⟨ga,ca,vl,vs,HL⟩:=H;have hh:=HL.wal.head;unfold z0N at hh;obtain⟨h0,h1,h2,h3,h4,h5,h6,h7,hf,hb⟩:=z1F hh;have hfit:=HL.wal.ok.fit;have hfew:=HL.wal.ok.few;obtain⟨r,hr⟩:=zX1 (room D G);have q:((32 * half D:Nat):Int) - ((flat G.l).length:Int)=(r:Int):=by rw[hr];unfold room;omega
 have hn:((32 * half D:Nat):Int)≤40000:=by omega
 rw[← hr];obtain⟨n,hn'⟩:=zX1 (32 * half D);rw[← hn'] at q hn h3;have hr2:r≤40000:=by rw[hr];unfold room;omega
 have q2:=wi64 r (by omega);have HR:=hid (zA1 hr hn');clear hr hn' hh HL hfit;generalize (flat G.l).length=m at *;go_enter Tryz.func102,Tryz.ntmps102;go_wp2_with (at_builtin;refine z0A ?_;intro q hq);refine(z6C w b d F Fd D G HH.out hg).mono ?_;rintro e w1 ⟨rfl,rfl⟩;go_wp2_with (at_builtin;refine z0A ?_;intro q hq);refine z0G [] (by kernel_rfl) (by kernel_rfl) ?_
 repeat (first | (apply z0F (by rfl);(intro K w';go_simp;exact id)) | (apply z0I (by rfl);(intro K;go_simp;exact id)))
 refine z0S ?_;go_wp2_with (at_builtin;refine z0A ?_;intro q hq);go_ret;exact⟨rfl,rfl⟩
theorem ziQ (w:World) (b fn:Nat) (caps:Array Value) (fr lo hi en n ca:Nat) (va:Value) (Inv:Nat→World→Prop) (Done:Int→World→Prop)
  (hlo:lo=fr / 32) (hk:∀ i,i * 32<en↔i<hi) (hkl:lo≤hi) (hn:hi * 32≤n) (hca:n≤ca) (_hbig:ca≤maxLen) (hfr:fr≤1000000000) (hen:en≤n) (hnb:n≤1000000000) (ga:Option Addr) (hva:va = .slice ga n ca)
  (hc:∀ i wr,Inv i wr→wr.cell? ⟨b,3,none⟩=some va)
  (h0:Inv lo w) (hent:∀ args w,(callFunc fn args).run Tryz.prog w = .ok (.enter fn args) w)
  (hcall:∀ i wr,lo≤i→i<hi→Inv i wr→Calls Tryz.prog fn (#[.int .i64 (i:Nat),.slice (z1E ga ca (i * 32) 1) 32 (ca - i * 32)] ++ caps) wr fun e w'=>∃ c:Int,e = .returned (.int .i64 c)∧(c=0→Inv (i+1) w')∧(c≠0→Done c w')) :
  Calls Tryz.prog 104 #[.pointer (some ⟨b,0,none⟩),.int .i64 (fr:Nat),.int .i64 (en:Nat),.func (.func fn) #[] caps] w fun e w'=>∃ c:Int,e = .returned (.int .i64 c)∧(c=0→Inv hi w')∧(c≠0→Done c w'):=by
 have q1:(fr:Int) / 32=(lo:Int):=by omega
 have q2:(fr:Int).tdiv 32=(lo:Int):=by rw[Int.tdiv_eq_ediv_of_nonneg (by omega)];exact q1
 have q3:=wi64 lo (by omega);have HK:=hid hk;have H0:=hid h0;have HC:=hid hc;have HCALL:=hid hcall;clear hk h0 hc hcall hlo q1;go_enter Tryz.func104,Tryz.ntmps104;go_wp2_with (at_builtin;refine z0A ?_;intro q hq)
 go_loopw [9] (fun iv wr=>∃ i:Nat,lo≤i∧i≤hi∧iv = .int .i64 i∧Hid (Inv i wr)) (fun iv _=>hi - (intOf iv).toNat)
 case atStart=>exact⟨lo,Nat.le_refl _,by omega,rfl,H0⟩
 case round=>
  clear H0;obtain⟨i,hi1,hi2,rfl,HI⟩:=hrel;obtain⟨p,hp⟩:=zX1 (i * 32);have e1:(i:Int) * 32=(p:Int):=by omega
  have e2:=wi64 p (by omega)
  by_cases hik:i<hi
  ·have hlt:=(HK.out i).2 hik
   have e3:(p:Int)<(en:Int):=by omega
   obtain⟨p2,hp2⟩:∃ p,p=(i+1) * 32:=⟨_,rfl⟩;have e4:((i:Int)+1) * 32=(p2:Int):=by omega
   have e5:=wi64 p2 (by omega);have hc:=HC.out i wr HI.out;rw[hva] at hc;have hs:=fun w=>z1R (P:=Tryz.prog) z0U ga n ca .i64 .i64 p p2 (by omega) (by omega) w;have e6:p2 - p=32:=by omega
   rw[e6] at hs;have HP:=hid (zA1 hp hp2);clear hp hp2 e6;go_wp2_with (at_builtin;refine z0A ?_;intro q hq);have hcl:=HCALL.out i wr hi1 hik HI.out;rw[← HP.out.1] at hcl;refine hcl.mono ?_;clear hcl;rintro e w1 ⟨c,rfl,hc1,hc2⟩
   by_cases hc0:c=0
   ·subst hc0
    have HN:=hid (hc1 rfl);clear hc1 hc2 hc;go_wp2_with (at_builtin;refine z0A ?_;intro q hq);go_roundw
    case rel=>exact⟨i+1,by omega,by omega,by go_num,HN⟩
    case measure=>simp[intOf];omega
   ·have u1:(c == 0)=false:=by simp[hc0]
    have u2:(c != 0)=true:=by simp[hc0]
    have u3:decide (c=0)=false:=by simp[hc0]
    have HD:=hid (zA1 hc0 (hc2 hc0));clear hc1 hc2 hc hc0;go_wp2_with (at_builtin;refine z0A ?_;intro q hq);go_ret;exact⟨c,rfl,fun x=>absurd x HD.out.1,fun _=>HD.out.2⟩
  ·obtain rfl:hi=i:=by omega
   have hnlt:¬ hi * 32<en:=fun x=>hik ((HK.out hi).1 x);have e3:¬ ((p:Int)<(en:Int)):=by omega
   have e7:decide ((p:Int)<(en:Int))=false:=decide_eq_false e3;have e8:decide (p<en)=false:=decide_eq_false (by omega);have HP:=hid hp;clear hp hnlt hik e3;go_wp2_with (at_builtin;refine z0A ?_;intro q hq);go_ret;exact⟨0,rfl,fun _=>HI.out,fun x=>absurd rfl x⟩
end
section
open Go.RowKit
open BM
theorem zjF (w:World) (ao:Option Addr) (n c a:Nat) (l:List UInt8) (h:Cells w ao n 1 (z0B l)) (ha:a≤n) (hnc:n≤c) (hn:n≤1000000000) :
  Calls Tryz.prog 96 #[.slice ao n c,.int .i64 a] w (GetPost w (BM.get l a)):=by
 have hl:l.length=n:=by have:=h.1;rw[z0D] at this;omega
 have hA:=heap_alloc_new w (.cells #[.int .u8 0,.slice none 0 0] 177);have kA:=kal w (.cells #[.int .u8 0,.slice none 0 0] 177);have zA:w.heap.size<(w.alloc (.cells #[.int .u8 0,.slice none 0 0] 177)).heap.size:=by simp
 obtain⟨d,hd⟩:=zX1 (n - a);have H:=hid (show ∀ w',Keep (fun _=>False) w w'→Cells w' ao n 1 (z0B l) from fun w' hk=>h.keep hk (fun _ _ x=>x));obtain⟨G,hG⟩:=zX1 (BM.get l a);rw[← hG];rw[ziM l a d (by omega) (by omega)] at hG;have HD:=hid (zA1 hd (zA1 hl (zA1 ha hnc)));have t0:decide ((a:Int)<0)=false:=decide_eq_false (by omega);have t3:decide ((n:Int)<(a:Int))=false:=decide_eq_false (by omega);have t2:decide (n<a)=false:=decide_eq_false (by omega);have ed:(n:Int) - (a:Int)=(d:Int):=by omega
 have bd:d≤1000000000:=by omega
 have wd:=wi64 d (by omega);clear h ha hnc hl hd;go_enter Tryz.func96,Tryz.ntmps96
 go_upto_region 1 with fail
 obtain⟨w1,hw1⟩:=zX1 (w.alloc (.cells #[.int .u8 0,.slice none 0 0] 177));rw[← hw1] at hA kA zA ⊢;clear hw1;obtain⟨a0,a1,af,-⟩:=z4W hA;have HX:=hid (zA1 hA kA);clear hA kA
 by_cases h1:d=0
 ·rw[if_pos h1] at hG
  have HG:=hid hG;clear hG;have u1:((a:Int) == (n:Int))=true:=by have h2:=HD.out;simp;omega
  clear h1;go_wp2_with (at_builtin;refine z0A ?_;intro q hq);obtain⟨hX1,hX2⟩:=HX.out;refine z3H (g:=w.heap.size) (by rfl) (by rfl) _ _ hX1 _ _ _ _ (by rfl) (by rfl) ?_;intro w5 k5;rw[HG.out];exact⟨by rfl,hX2.next k5 (fun _ _ x=>x) (fun i hi x=>by omega)⟩
 rw[if_neg h1] at hG;have u1:((a:Int) == (n:Int))=false:=by have h2:=HD.out;simp;omega
 have u1':(a:Int)<(n:Int):=by have h2:=HD.out;omega
 obtain⟨ad,had,-⟩:=(H.out w (Keep.refl _ _)).2 (by have h2:=HD.out;omega);subst had
 have hc:=hid (show ∀ w',Keep (fun _=>False) w w'→∀ j,j<n→w'.cell? (ad.add j)=some (.int .u8 ((l.getD j 0).toNat:Int)) by
  intro w' hk j hj;obtain⟨ad2,e2,hc2⟩:=(H.out w' hk).2 (by omega);cases e2;refine hc2 j _ ?_;have h1:=HD.out;have hjl:j<l.length:=by omega
  simp[z0B,hjl])
 have x0:=hc.out w1 HX.out.2 a (by have h2:=HD.out;omega);obtain⟨m,hm⟩:=zX1 (l.getD a 0);rw[← hm] at x0 hG
 by_cases h2:m≠167
 ·rw[if_pos h2] at hG
  have HG:=hid hG;clear hG
  have u2:((m.toNat:Int) != 167)=true:=by
   have:m.toNat≠167:=fun e=>h2 (UInt8.toNat_inj.1 e);simp;omega
  clear hm h2;generalize m.toNat=mm at *;go_wp2_with (at_builtin;refine z0A ?_;intro q hq);obtain⟨hX1,hX2⟩:=HX.out;refine z3H (g:=w.heap.size) (by rfl) (by rfl) _ _ hX1 _ _ _ _ (by rfl) (by rfl) ?_;intro w5 k5;rw[HG.out];exact⟨by rfl,hX2.next k5 (fun _ _ x=>x) (fun i hi x=>by omega)⟩
 rw[if_neg h2] at hG;have h2':m=167:=Classical.byContradiction h2;rw[h2'] at x0;clear hm h2 h2' m;have x0':w1.cell? (ad.add a)=some (.int .u8 167):=x0;clear x0
 by_cases h3:d<6
 ·rw[if_pos h3] at hG
  have HG:=hid hG;clear hG;have u3:(d:Int)<6:=by omega
  go_wp2_with (at_builtin;refine z0A ?_;intro q hq);obtain⟨hX1,hX2⟩:=HX.out;refine z3H (g:=w.heap.size) (by rfl) (by rfl) _ _ hX1 _ _ _ _ (by rfl) (by rfl) ?_;intro w5 k5;rw[HG.out];exact⟨by rfl,hX2.next k5 (fun _ _ x=>x) (fun i hi x=>by omega)⟩
 rw[if_neg h3] at hG;have u3:decide ((d:Int)<6)=false:=decide_eq_false (by omega);have u4:decide (d<6)=false:=decide_eq_false h3;have hfx:=hid (fun (wx:World) (k:Keep (fun _=>False) w wx) (j:Nat) (hj:j+4≤n)=>zkK wx (some ad) n c j l (H.out wx k) hj hn);obtain⟨q,hq⟩:=zX1 (val4 l (a+2));have hq32:q<4294967296:=by rw[hq];exact znQ _ _
 obtain⟨b2,hb2⟩:=zX1 (a+2);have g2:(a:Int)+2=(b2:Int):=by omega
 have g2':=wi64 b2 (by have h2:=HD.out;omega);have HQ:=hid (zA1 hq hb2);rw[← hq] at hG;clear hq hb2;have HG0:=hid hG;clear hG;go_wp2_with (at_builtin;refine z0A ?_;intro q hq);refine(hfx.out w1 HX.out.2 b2 (by have h2:=HD.out;have h3:=HQ.out.2;omega)).mono ?_;rintro e2 w2 ⟨rfl,hk2⟩;have eq2:val4 l b2=q:=by rw[HQ.out.1,HQ.out.2]
 rw[eq2];clear eq2;have hG:=HG0.out;clear HG0;have HX2:=hid (zA1 (hk2.get HX.out.1 id) (HX.out.2.next hk2 (fun _ _ x=>x) (fun _ _ x=>x)));clear a0 a1 af HX x0' hk2;obtain⟨a0,a1,af,-⟩:=z4W HX2.out.1;have HX:=HX2;clear HX2
 by_cases h4:1024<q
 ·rw[if_pos h4] at hG
  have HG:=hid hG;clear hG;have u5:(1024:Int)<(q:Int):=by omega
  go_wp2_with (at_builtin;refine z0A ?_;intro q hq);obtain⟨hX1,hX2⟩:=HX.out;refine z3H (g:=w.heap.size) (by rfl) (by rfl) _ _ hX1 _ _ _ _ (by rfl) (by rfl) ?_;intro w5 k5;rw[HG.out];exact⟨by rfl,hX2.next k5 (fun _ _ x=>x) (fun i hi x=>by omega)⟩
 rw[if_neg h4] at hG;have u5:decide ((1024:Int)<(q:Int))=false:=decide_eq_false (by omega);have u6:decide (1024<q)=false:=decide_eq_false h4;obtain⟨en4,hen4⟩:=zX1 (10+q);obtain⟨b6,hb6⟩:=zX1 (a+6);obtain⟨en,hen⟩:=zX1 (b6+q);have v1:=wi64 q (by omega);have v2:(10:Int)+(q:Int)=(en4:Int):=by omega
 have v3:=wi64 en4 (by omega);have v4:(a:Int)+6=(b6:Int):=by omega
 have v5:=wi64 b6 (by have h2:=HD.out;omega);have v6:(b6:Int)+(q:Int)=(en:Int):=by omega
 have v7:=wi64 en (by have h2:=HD.out;omega);rw[← hen4,show a+(6+q)=en by omega,show 6+q=en - a by omega] at hG;have HE:=hid (zA1 hen (zA1 hen4 hb6));have q1024:=hid (show q≤1024 by omega);clear hen hen4 h4 hb6
 by_cases h5:d<en4
 ·rw[if_pos h5] at hG
  have HG:=hid hG;clear hG;have u7:(d:Int)<(en4:Int):=by omega
  go_wp2_with (at_builtin;refine z0A ?_;intro q hq);obtain⟨hX1,hX2⟩:=HX.out;refine z3H (g:=w.heap.size) (by rfl) (by rfl) _ _ hX1 _ _ _ _ (by rfl) (by rfl) ?_;intro w5 k5;rw[HG.out];exact⟨by rfl,hX2.next k5 (fun _ _ x=>x) (fun i hi x=>by omega)⟩
 rw[if_neg h5] at hG;have u7:decide ((d:Int)<(en4:Int))=false:=decide_eq_false (by omega);have u8:decide (d<en4)=false:=decide_eq_false h5;obtain⟨sv,hsv⟩:=zX1 (val4 l en);obtain⟨cr,hcr⟩:=zX1 (crc ((l.drop a).take (en - a)));rw[← hsv,← hcr] at hG;have HS:=hid (zA1 hsv hcr);clear hsv hcr;have HG0:=hid hG;clear hG;have hen:=hid (show en+4≤n by have h1:=HE.out;have h2:=HD.out;omega);go_wp2_with (at_builtin;refine z0A ?_;intro q hq);refine(hfx.out w2 HX.out.2 en hen.out).mono ?_;rintro e3 w3 ⟨rfl,hk3⟩;rw[← HS.out.1];have HX2:=hid (zA1 (hk3.get HX.out.1 id) (HX.out.2.next hk3 (fun _ _ x=>x) (fun _ _ x=>x)));clear a0 a1 af HX hk3;obtain⟨a0,a1,af,-⟩:=z4W HX2.out.1;have HX:=HX2;clear HX2;have hs2:=fun w=>z1R (P:=Tryz.prog) z0U (some ad) n c .i64 .i64 a en (by have h1:=HE.out;omega) (by have h1:=hen.out;have h2:=HD.out;omega) w;go_wp2_with (at_builtin;refine z0A ?_;intro q hq)
 refine(zqM w3 (z1E (some ad) c a 1) (en - a) (c - a) ((l.drop a).take (en - a)) (by
  have h1:=(((H.out w3 HX.out.2).tail (cap:=c) a (by have h2:=HD.out;omega) (by have h2:=HD.out;omega) (by decide)).take (en - a) (by have h3:=hen.out;omega));rw[Nat.mul_one,Nat.mul_one] at h1
  simpa [z0B,List.map_take,List.map_drop] using h1) (by have h3:=hen.out;omega)).mono ?_
 rintro e5 w5 ⟨rfl,rfl⟩;rw[← HS.out.2]
 by_cases h6:sv≠cr
 ·have HG:=hid (show G=_ by rw[HG0.out,if_pos h6])
  have u9:((sv:Int) != (cr:Int))=true:=by simp;omega
  clear HG0 h6;go_wp2_with (at_builtin;refine z0A ?_;intro q hq);obtain⟨hX1,hX2⟩:=HX.out;refine z3H (g:=w.heap.size) (by rfl) (by rfl) _ _ hX1 _ _ _ _ (by rfl) (by rfl) ?_;intro w5 k5;rw[HG.out];exact⟨by rfl,hX2.next k5 (fun _ _ x=>x) (fun i hi x=>by omega)⟩
 have HG:=hid (show G=_ by rw[HG0.out,if_neg h6]);obtain rfl:sv=cr:=by omega
 clear HG0 h6;have hs3:=fun w=>z1R (P:=Tryz.prog) z0U (some ad) n c .i64 .i64 b6 en (by have h1:=HE.out;omega) (by have h1:=hen.out;have h2:=HD.out;omega) w;go_wp2_with (at_builtin;refine z0A ?_;intro q hq)
 (refine hq.out ?_;clear hq q)
 refine wpList_plain rfl (fun K hK=>?_)
 refine z0K (r:=(l.drop b6).take (en - b6)) _ _ rfl rfl (Fresh.nil w5) _ _ _ rfl (by
  have h1:=(((H.out w5 HX.out.2).tail (cap:=c) b6 (by have h2:=hen.out;have h1:=HE.out;omega) (by have h2:=HD.out;omega) (by decide)).take (en - b6) (by have h3:=hen.out;omega));rw[Nat.mul_one,Nat.mul_one] at h1
  simpa [z0B,List.map_take,List.map_drop] using h1) (by have h2:=hen.out;have h3:([]:List UInt8).length=0:=rfl;omega) ?_
 intro v7 w7 hf7 hk7;rw[List.nil_append] at hf7;have eq6:en - b6=q:=by have h1:=HE.out;omega
 rw[eq6] at hf7;have hlq:((l.drop b6).take q).length=q:=by have h1:=HD.out;have h2:=HE.out;have h3:=hen.out;rw[List.length_take,List.length_drop];omega
 obtain⟨ad7,c7,rfl⟩:∃ ad7 c7,v7 = .slice ad7 q c7:=by
  obtain⟨ad7,c7,h1,-⟩:=hf7.row.form;exact⟨ad7,c7,by rw[h1,hlq]⟩
 refine hK _ _ ?_;clear hK K hlq eq6;have HF7:=hid hf7;have HX2:=hid (zA1 (hf7.keep.get HX.out.1 id) (HX.out.2.next hf7.keep (G:=fun _=>False) (H:=fun _=>False) (fun _ _ x=>x) (fun _ _ x=>x)));clear hf7 hk7 a0 a1 af;obtain⟨a0,a1,af,-⟩:=z4W HX2.out.1;obtain⟨b1,hb1⟩:=zX1 (a+1);have g1:(a:Int)+1=(b1:Int):=by omega
 have g1':=wi64 b1 (by have h2:=HD.out;omega);have y1:=hc.out w7 HX2.out.2 b1 (by have h2:=HD.out;have h3:=hen.out;have h4:=HE.out;omega);obtain⟨kk,hkk⟩:=zX1 ((l.getD b1 0).toNat);rw[← hkk] at y1;have HKK:=hid (zA1 hkk hb1);have d1:(b1:Int)<(n:Int):=by have h2:=HD.out;have h3:=hen.out;have h4:=HE.out;omega
 clear hkk hb1;go_wp2_with (at_builtin;refine z0A ?_;intro q hq);refine z3H (g:=w.heap.size) (by rfl) (by rfl) _ _ HX2.out.1 _ _ _ _ (by rfl) (by rfl) ?_;intro w9 k9;rw[HG.out];have e1:a+en4=en+4:=by have h2:=HE.out;omega
 have e2:a+6=b6:=by have h2:=HE.out;omega
 refine⟨_,by rw[← HKK.out.2,← HKK.out.1,e1];rfl,?_⟩;rw[e2];have hf9:=HF7.out.since HX.out.2;refine⟨hf9.row.keep k9 ?_,hf9.keep.next k9 (fun _ _ x=>x) (fun i hi x=>by omega),hf9.own⟩;intro k e x;have h1:=HF7.out.own k e;have h2:=HX.out.1;have h3:=z0L h2;omega
end
end Go.Proofs.YtkjofdocgaiedaaGreat
