/- Texts Get, Wal, WalE, GetR in one. Conditions: as each law names them. -/
import Derived.Deep.CutBlock
import Derived.Test.YtkjofdocgaiedaaPaa
import Derived.Test.YtkjofdocgaiedaaPaj
import Derived.Test.YtkjofdocgaiedaaPak
namespace Go.Proofs.Ytkjofdocgaiedaa
open Go.RowKit
open BM
theorem cells2 {w:World} {b:Nat} {T:TypeId} {a0 a1:Value} (H:w.heap[b]?=some (.cells #[a0,a1] T (0,0))) :
  w.cell? ⟨b,0,none⟩=some a0∧w.cell? ⟨b,1,none⟩=some a1∧(∀ o,w.frozen? ⟨b,o,none⟩=false)∧b<w.heap.size:=by
 refine⟨?_,?_,?_,heap_lt H⟩ <;> simp[World.cell?,World.frozen?,H]
theorem results_agg3 {P:Program} {fn:Func} {t u v:Tmp} {ty:TypeId} (h:fn.results = #[.cell t ty,.tmp u,.tmp v]) (tmps:Array Value) (w:World) (g:Nat) (ht:tmps.getD t undef = .pointer (some ⟨g,0,none⟩)) (cs:List Value)
  (hc:∀ j u,cs[j]?=some u→w.cell? ⟨g,j,none⟩=some u) (d:TypeDesc)
  (hu:P.underlying ty=some d) (hd:(match d with | .struct _ | .array _ _=>true | _=>false)=true) (hi:(P.info? ty).map (·.size)=some cs.length) :
  (results fn tmps).run P w = .ok (.tuple #[.agg cs.toArray,tmps.getD u undef,tmps.getD v undef]) w:=by
 have hl:=run_loadCells_list (P:=P) w ⟨g,0,none⟩ cs (fun j v hv=>by rw[addr_add,Nat.zero_add];exact hc j v hv)
 cases hq:P.info? ty with
 | none=>simp[hq] at hi
 | some i=>
   have hs:i.size=cs.length:=by simpa [hq] using hi
   have hagg:(isAgg ty).run P w = .ok true w:=by
    unfold isAgg
    rw[Sem.run_bind,run_underlying hu w]
    cases d <;> simp_all
   have hr:(loadVar ty ⟨g,0,none⟩).run P w = .ok (.agg cs.toArray) w:=by
    simp[loadVar,Sem.run_bind,hagg,sizeOf,typeInfo,hq,hs,hl]
   have ht':tmps[t]?.getD undef = .pointer (some ⟨g,0,none⟩):=by simpa using ht
   simp[results,h,ht',asAddr,hr]
theorem get_end {wX:World} {fn:Func} {g:Nat} {Q:Ending→World→Prop} {tmps:Array Value} (hres:fn.results = #[.cell 4 128,.tmp 5,.tmp 6]) (h4:tmps.getD 4 undef = .pointer (some ⟨g,0,none⟩))
  (c0 c1:Value) (hA:wX.heap[g]?=some (.cells #[c0,c1] 128 (0,0))) (v0 v1 e5 e6:Value) (h5:tmps.getD 5 undef=e5) (h6:tmps.getD 6 undef=e6)
  (hq:∀ w5,Keep (fun k=>k=g) wX w5→Q (.returned (.tuple #[.agg #[v0,v1],e5,e6])) w5) :
  bodyPost Try.prog fn Q Exit.ret { tmps:=tmps,defers:=[] } ((wX.setCell ⟨g,0,none⟩ v0).setCell ⟨g,1,none⟩ v1):=by
 have hB4:=heap_setCell_same wX g 0 _ _ v0 hA
 have hB5:=heap_setCell_same (wX.setCell ⟨g,0,none⟩ v0) g 1 _ _ v1 hB4
 have k5:Keep (fun k=>k=g) wX ((wX.setCell ⟨g,0,none⟩ v0).setCell ⟨g,1,none⟩ v1):=by
  refine Keep.setCell (Keep.setCell (Keep.refl _ _) (.inl ?_) _) (.inl ?_) _ <;> rfl
 generalize (wX.setCell ⟨g,0,none⟩ v0).setCell ⟨g,1,none⟩ v1=w5 at *
 refine bodyPost_ret (results_agg3 hres _ _ g h4 [v0,v1] ?_ _ Try.underlying128 rfl (by kernel_rfl)) rfl ?_
 ·intro j u hu
  rw[cell_of_row _ _ _ _ _ _ hB5]
  simpa using hu
 ·subst h5 h6
  exact hq w5 k5
def GetPost (w:World) (g:Got) (e:Ending) (w':World):Prop:=
 match g with
 | .no m=>e = .returned (.tuple #[.agg #[.int .u8 0,.slice none 0 0],.int .i64 0,.int .i64 (m:Nat)])∧Keep (fun _=>False) w w'
 | .yes k body q=>∃ v,e = .returned (.tuple #[.agg #[.int .u8 (k.toNat:Nat),v],.int .i64 (q:Nat),.int .i64 0])∧Fresh w v body w'
theorem val4_drop (l:List UInt8) (a j:Nat):val4 (l.drop a) j=val4 l (a+j):=by
 simp[val4,List.getD_eq_getElem?_getD,List.getElem?_drop,Nat.add_assoc]
theorem get_rest (l:List UInt8) (a d:Nat) (hd:d=l.length - a) (ha:a≤l.length):BM.get l a =
  if d=0 then .no 10
  else if l.getD a 0≠167 then .no 20
  else if d<6 then .no 10
  else if 1024<val4 l (a+2) then .no 3
  else if d<10+val4 l (a+2) then .no 10
  else if val4 l (a+(6+val4 l (a+2)))≠crc ((l.drop a).take (6+val4 l (a+2))) then .no 21
  else .yes (l.getD (a+1) 0) ((l.drop (a+6)).take (val4 l (a+2))) (a+(10+val4 l (a+2))):=by
 unfold BM.get
 rw[if_neg (show ¬ l.length<a by omega)]
 have e1:(l.length=a)=(d=0):=propext (by omega)
 have e2:(l.length<a+6)=(d<6):=propext (by omega)
 have e3:(l.length<a+(10+val4 l (a+2)))=(d<10+val4 l (a+2)):=propext (by omega)
 have e4:a+6+val4 l (a+2)=a+(6+val4 l (a+2)):=by omega
 simp only[e1,e2,e3,e4]
set_option maxRecDepth 20000 in
theorem get_any (w:World) (ao:Option Addr) (n c a:Nat) (l:List UInt8) (h:Cells w ao n 1 (bytesV l)) (ha:a≤n) (hnc:n≤c) (hn:n≤1000000000) :
  Calls Try.prog 79 #[.slice ao n c,.int .i64 a] w (GetPost w (BM.get l a)):=by
 have hl:l.length=n:=by have:=h.1;rw[bytesV_length] at this;omega
 have hA:=heap_alloc_new w (.cells #[.int .u8 0,.slice none 0 0] 128)
 have kA:Keep (fun _=>False) w (w.alloc (.cells #[.int .u8 0,.slice none 0 0] 128)):=(Keep.refl _ _).alloc _
 have zA:w.heap.size<(w.alloc (.cells #[.int .u8 0,.slice none 0 0] 128)).heap.size:=by simp
 obtain⟨d,hd⟩:∃ d,d=n - a:=⟨_,rfl⟩
 have hs:=fun w=>run_sliceAt_lo (P:=Try.prog) ty_bytes ao n c .i64 a ha w
 rw[← hd] at hs
 have H:=hid (show ∀ w',Keep (fun _=>False) w w'→Cells w' (tailAt ao c a 1) d 1 (bytesV (l.drop a)) by
  intro w' hk
  have:=(h.tail a ha hnc (by decide)).keep hk (fun _ _ x=>x)
  rw[← hd] at this
  simpa [bytesV,List.map_drop] using this)
 obtain⟨G,hG⟩:∃ G,G=BM.get l a:=⟨_,rfl⟩
 rw[← hG]
 rw[get_rest l a d (by omega) (by omega)] at hG
 have HD:=hid (And.intro hd (And.intro hl (And.intro ha hnc)))
 have t0:decide ((a:Int)<0)=false:=decide_eq_false (by omega)
 have t3:decide ((n:Int)<(a:Int))=false:=decide_eq_false (by omega)
 have t2:decide (n<a)=false:=decide_eq_false (by omega)
 have bd:d≤1000000000:=by omega
 generalize tailAt ao c a 1=ta at *
 obtain⟨rc,hrc⟩:∃ rc,rc=c - a:=⟨_,rfl⟩
 rw[← hrc] at hs
 have hdc:=hid (show d≤rc by omega)
 clear h ha hnc hl hrc hd
 go_enter Try.func79,Try.ntmps79
 go_upto_region 1 with fail
 obtain⟨w1,hw1⟩:∃ w1,w1=w.alloc (.cells #[.int .u8 0,.slice none 0 0] 128):=⟨_,rfl⟩
 rw[← hw1] at hA kA zA ⊢
 clear hw1
 obtain⟨a0,a1,af,-⟩:=cells2 hA
 have HX:=hid (And.intro hA kA)
 clear hA kA
 by_cases h1:d=0
 ·rw[if_pos h1] at hG
  have HG:=hid hG
  clear hG
  have u1:((d:Int) == 0)=true:=by simp[h1]
  clear h1
  go_wp2_with (at_builtin;refine stopAt ?_;intro q hq)
  obtain⟨hX1,hX2⟩:=HX.out
  refine get_end (g:=w.heap.size) (by rfl) (by rfl) _ _ hX1 _ _ _ _ (by rfl) (by rfl) ?_
  intro w5 k5
  rw[HG.out]
  exact⟨by rfl,hX2.next k5 (fun _ _ x=>x) (fun i hi x=>by omega)⟩
 rw[if_neg h1] at hG
 have u1:((d:Int) == 0)=false:=by simp;omega
 obtain⟨ad,had,-⟩:=(H.out w (Keep.refl _ _)).2 (by omega)
 subst had
 have hc:=hid (show ∀ w',Keep (fun _=>False) w w'→∀ j,j<d→w'.cell? (ad.add j)=some (.int .u8 ((l.getD (a+j) 0).toNat:Int)) by
  intro w' hk j hj
  obtain⟨ad2,e2,hc2⟩:=(H.out w' hk).2 (by omega)
  cases e2
  refine hc2 j _ ?_
  have h1:=HD.out
  have hjl:a+j<l.length:=by omega
  simp[bytesV,List.getElem?_drop,hjl])
 have d0:(0:Int)<(d:Int):=by omega
 have x0:=hc.out w1 HX.out.2 0 (by omega)
 obtain⟨m,hm⟩:∃ m,m=l.getD a 0:=⟨_,rfl⟩
 rw[Nat.add_zero,← hm,show ad.add 0=ad by cases ad;rfl] at x0
 rw[← hm] at hG
 by_cases h2:m≠167
 ·rw[if_pos h2] at hG
  have HG:=hid hG
  clear hG
  have u2:((m.toNat:Int) != 167)=true:=by
   have:m.toNat≠167:=fun e=>h2 (UInt8.toNat_inj.1 e)
   simp;omega
  clear hm h2
  generalize m.toNat=mm at *
  go_wp2_with (at_builtin;refine stopAt ?_;intro q hq)
  obtain⟨hX1,hX2⟩:=HX.out
  refine get_end (g:=w.heap.size) (by rfl) (by rfl) _ _ hX1 _ _ _ _ (by rfl) (by rfl) ?_
  intro w5 k5
  rw[HG.out]
  exact⟨by rfl,hX2.next k5 (fun _ _ x=>x) (fun i hi x=>by omega)⟩
 rw[if_neg h2] at hG
 have h2':m=167:=Classical.byContradiction h2
 rw[h2'] at x0
 clear hm h2 h2' m
 have x0':w1.cell? ad=some (.int .u8 167):=x0
 clear x0
 by_cases h3:d<6
 ·rw[if_pos h3] at hG
  have HG:=hid hG
  clear hG
  have u3:(d:Int)<6:=by omega
  go_wp2_with (at_builtin;refine stopAt ?_;intro q hq)
  obtain⟨hX1,hX2⟩:=HX.out
  refine get_end (g:=w.heap.size) (by rfl) (by rfl) _ _ hX1 _ _ _ _ (by rfl) (by rfl) ?_
  intro w5 k5
  rw[HG.out]
  exact⟨by rfl,hX2.next k5 (fun _ _ x=>x) (fun i hi x=>by omega)⟩
 rw[if_neg h3] at hG
 have u3:decide ((d:Int)<6)=false:=decide_eq_false (by omega)
 have u4:decide (d<6)=false:=decide_eq_false h3
 have hdl:=hid (show (l.drop a).length=d by have h1:=HD.out;rw[List.length_drop];omega)
 have hfx:=hid (fun (wx:World) (k:Keep (fun _=>False) w wx) (j:Nat) (hj:j+4≤d)=>fixed_any wx (some ad) d rc j (l.drop a) (H.out wx k) hj hdc.out bd)
 obtain⟨q,hq⟩:∃ q,q=val4 l (a+2):=⟨_,rfl⟩
 have hq32:q<4294967296:=by rw[hq];exact val4_lt _ _
 have HQ:=hid hq
 rw[← hq] at hG
 clear hq
 have HG0:=hid hG
 clear hG
 go_wp2_with (at_builtin;refine stopAt ?_;intro q hq)
 have hG:=HG0.out
 clear HG0
 refine(hfx.out w1 HX.out.2 2 (by omega)).mono ?_
 rintro e2 w2 ⟨rfl,hk2⟩
 rw[val4_drop,← HQ.out]
 have HX2:=hid (And.intro (hk2.get HX.out.1 id) (HX.out.2.next hk2 (fun _ _ x=>x) (fun _ _ x=>x)))
 clear a0 a1 af HX x0' hk2
 obtain⟨a0,a1,af,-⟩:=cells2 HX2.out.1
 have HX:=HX2
 clear HX2
 by_cases h4:1024<q
 ·rw[if_pos h4] at hG
  have HG:=hid hG
  clear hG
  have u5:(1024:Int)<(q:Int):=by omega
  go_wp2_with (at_builtin;refine stopAt ?_;intro q hq)
  obtain⟨hX1,hX2⟩:=HX.out
  refine get_end (g:=w.heap.size) (by rfl) (by rfl) _ _ hX1 _ _ _ _ (by rfl) (by rfl) ?_
  intro w5 k5
  rw[HG.out]
  exact⟨by rfl,hX2.next k5 (fun _ _ x=>x) (fun i hi x=>by omega)⟩
 rw[if_neg h4] at hG
 have u5:decide ((1024:Int)<(q:Int))=false:=decide_eq_false (by omega)
 have u6:decide (1024<q)=false:=decide_eq_false h4
 obtain⟨en,hen⟩:∃ en,en=6+q:=⟨_,rfl⟩
 obtain⟨en4,hen4⟩:∃ en4,en4=en+4:=⟨_,rfl⟩
 have v1:=wi64 q (by omega)
 have v2:(6:Int)+(q:Int)=(en:Int):=by omega
 have v3:=wi64 en (by omega)
 have v4:(en:Int)+4=(en4:Int):=by omega
 have v5:=wi64 en4 (by omega)
 rw[← hen,show 10+q=en4 by omega] at hG
 have HE:=hid (And.intro hen hen4)
 have q1024:=hid (show q≤1024 by omega)
 have en9:en4≤2000:=by omega
 clear hen hen4 h4
 by_cases h5:d<en4
 ·rw[if_pos h5] at hG
  have HG:=hid hG
  clear hG
  have u7:(d:Int)<(en4:Int):=by omega
  go_wp2_with (at_builtin;refine stopAt ?_;intro q hq)
  obtain⟨hX1,hX2⟩:=HX.out
  refine get_end (g:=w.heap.size) (by rfl) (by rfl) _ _ hX1 _ _ _ _ (by rfl) (by rfl) ?_
  intro w5 k5
  rw[HG.out]
  exact⟨by rfl,hX2.next k5 (fun _ _ x=>x) (fun i hi x=>by omega)⟩
 rw[if_neg h5] at hG
 have u7:decide ((d:Int)<(en4:Int))=false:=decide_eq_false (by omega)
 have u8:decide (d<en4)=false:=decide_eq_false h5
 obtain⟨sv,hsv⟩:∃ sv,sv=val4 l (a+en):=⟨_,rfl⟩
 obtain⟨cr,hcr⟩:∃ cr,cr=crc ((l.drop a).take en):=⟨_,rfl⟩
 rw[← hsv,← hcr] at hG
 have HS:=hid (And.intro hsv hcr)
 clear hsv hcr
 have HG0:=hid hG
 clear hG
 go_wp2_with (at_builtin;refine stopAt ?_;intro q hq)
 refine(hfx.out w2 HX.out.2 en (by have:=HE.out;omega)).mono ?_
 rintro e3 w3 ⟨rfl,hk3⟩
 rw[val4_drop]
 have HX2:=hid (And.intro (hk3.get HX.out.1 id) (HX.out.2.next hk3 (fun _ _ x=>x) (fun _ _ x=>x)))
 clear a0 a1 af HX hk3
 obtain⟨a0,a1,af,-⟩:=cells2 HX2.out.1
 have HX:=HX2
 clear HX2
 have hs2:=fun w=>run_sliceAt_hi2 (P:=Try.prog) ty_bytes (some ad) d rc .i64 en (by have h1:=HE.out;have h2:=hdc.out;omega) w
 rw[← HS.out.1]
 go_wp2_with (at_builtin;refine stopAt ?_;intro q hq)
 obtain⟨w4,hw4⟩:∃ w4,w4=w3.alloc (.cells #[.slice (some ad) en rc] 29):=⟨_,rfl⟩
 have k4:Keep (fun _=>False) w3 w4:=by rw[hw4];exact(Keep.refl _ _).alloc _
 have hc4:w4.cell? ⟨w3.heap.size,0,none⟩=some (.slice (some ad) en rc):=by
  rw[hw4,cell_of_row _ _ _ _ _ _ (heap_alloc_new w3 _)]
  rfl
 rw[← hw4]
 clear hw4
 have HX2:=hid (And.intro (k4.get HX.out.1 id) (HX.out.2.next k4 (fun _ _ x=>x) (fun _ _ x=>x)))
 clear a0 a1 af HX k4
 have HX:=HX2
 clear HX2
 refine(sum_any w4 w3.heap.size (some ad) en rc ((l.drop a).take en) hc4 (by
  have h1:=(H.out w4 HX.out.2).take en (by have h1:=HE.out;omega)
  simpa [bytesV,List.map_take] using h1) (by omega)).mono ?_
 rintro e5 w5 ⟨rfl,rfl⟩
 rw[← HS.out.2]
 clear hc4
 obtain⟨a0,a1,af,-⟩:=cells2 HX.out.1
 by_cases h6:sv≠cr
 ·have HG:=hid (show G=_ by rw[HG0.out,if_pos h6])
  have u9:((sv:Int) != (cr:Int))=true:=by simp;omega
  clear HG0 h6
  go_wp2_with (at_builtin;refine stopAt ?_;intro q hq)
  obtain⟨hX1,hX2⟩:=HX.out
  refine get_end (g:=w.heap.size) (by rfl) (by rfl) _ _ hX1 _ _ _ _ (by rfl) (by rfl) ?_
  intro w5 k5
  rw[HG.out]
  exact⟨by rfl,hX2.next k5 (fun _ _ x=>x) (fun i hi x=>by omega)⟩
 have HG:=hid (show G=_ by rw[HG0.out,if_neg h6])
 obtain rfl:sv=cr:=by omega
 clear HG0 h6
 have y1:=hc.out w5 HX.out.2 1 (by omega)
 have d1:(1:Int)<(d:Int):=by omega
 obtain⟨kk,hkk⟩:∃ kk,kk=(l.getD (a+1) 0).toNat:=⟨_,rfl⟩
 rw[← hkk] at y1
 have HKK:=hid hkk
 clear hkk
 have y2:=y1
 simp[Addr.add] at y2
 have hs3:∀ w,(Instr.sliceAt 29 (.slice (some ad) d rc) (some (.int .i64 6)) (some (.int .i64 (en:Int))) none).run Try.prog w = .ok (.slice (tailAt (some ad) rc 6 1) (en - 6) (rc - 6)) w:=fun w=>run_sliceAt_lh (P:=Try.prog) ty_bytes (some ad) d rc .i64 .i64 6 en (by have h1:=HE.out;omega) (by have h1:=HE.out;have h2:=hdc.out;omega) w
 go_wp2_with (at_builtin;refine stopAt ?_;intro q hq)
 refine wp_region_canon [83] (by kernel_rfl) (by kernel_rfl) ?_
 repeat (first | (apply wpC_pure (by rfl);(intro K w';go_simp;exact id)) | (apply wpC_load (by rfl);(intro K;go_simp;exact id)))
 (refine wpC_new (by rfl) (by rfl) (fun K hK=>?_);go_simp;refine hK _ _ (Pre.push _ rfl) ?_;clear hK K)
 have hf6:Fresh w5 (.slice (some ⟨w5.heap.size,0,none⟩) 0 0) [] (w5.alloc (.cells #[] 5)).drew:=FreshU.later (fresh_build rfl rfl rfl (by unfold maxLen;decide)) (Keep.refl _ _).drew
 obtain⟨w6,hw6⟩:∃ w6,w6=(w5.alloc (.cells #[] 5)).drew:=⟨_,rfl⟩
 rw[← hw6] at hf6 ⊢
 clear hw6
 have HF6:=hid hf6
 clear hf6 a0 a1 af
 repeat (first | (apply wpC_pure (by rfl);(intro K w';go_simp;exact id)) | (apply wpC_load (by rfl);(intro K;go_simp;exact id)))
 refine wpC_new (by rfl) (by rfl) (fun K hK=>?_)
 have hX6:=HX.out.2.next HF6.out.keep (G:=fun _=>False) (fun _ _ x=>x) (fun _ _ x=>x)
 refine wp_append_new (r:=(l.drop (a+6)).take q) _ _ rfl rfl HF6.out _ _ _ rfl (by
  have h2:=HE.out
  have h3:=((H.out w6 hX6).tail 6 (by omega) hdc.out (by decide)).take (en - 6) (by omega)
  rw[show (en - 6) * 1=q by omega,Nat.mul_one] at h3
  simpa [bytesV,List.map_take,List.map_drop,List.drop_drop] using h3) (by have h2:=HE.out;omega) ?_
 intro v7 w7 hf7 hk7
 have hlq:((l.drop (a+6)).take q).length=q:=by have h1:=HD.out;have h2:=HE.out;rw[List.length_take,List.length_drop];omega
 obtain⟨ad7,c7,rfl⟩:∃ ad7 c7,v7 = .slice ad7 q c7:=by
  obtain⟨ad7,c7,h1,-⟩:=hf7.row.form
  exact⟨ad7,c7,by rw[h1,hlq]⟩
 refine hK _ _ (Pre.of_keep hk7) ?_
 clear hK K hlq
 have HF7:=hid (And.intro hf7 (HX.out.2.next hf7.keep (G:=fun _=>False) (H:=fun _=>False) (fun _ _ x=>x) (fun _ _ x=>x)))
 have HX2:=hid (And.intro (hf7.keep.get HX.out.1 id) True.intro)
 clear hf7 hk7 hX6
 obtain⟨a0,a1,af,-⟩:=cells2 HX2.out.1
 obtain⟨p1,hp1⟩:∃ p1,p1=a+en:=⟨_,rfl⟩
 obtain⟨p2,hp2⟩:∃ p2,p2=p1+4:=⟨_,rfl⟩
 have f1:(a:Int)+(en:Int)=(p1:Int):=by omega
 have f2:(p1:Int)+4=(p2:Int):=by omega
 have f3:=wi64 p1 (by have h1:=HD.out;omega)
 have f4:=wi64 p2 (by have h1:=HD.out;omega)
 have HP:=hid (And.intro hp1 hp2)
 clear hp1 hp2
 go_simp
 repeat (first | (apply wpC_pure (by rfl);(intro K w';go_simp;exact id)) | (apply wpC_load (by rfl);(intro K;go_simp;exact id)))
 (refine wpC_act (by rfl) (by rfl) (fun K hK=>?_);go_simp;refine hK _ _ ?_;clear hK K)
 repeat (first | (apply wpC_pure (by rfl);(intro K w';go_simp;exact id)) | (apply wpC_load (by rfl);(intro K;go_simp;exact id)))
 refine wpC_nil ?_
 go_wp2_with (at_builtin;refine stopAt ?_;intro q hq)
 refine get_end (g:=w.heap.size) (by rfl) (by rfl) _ _ HX2.out.1 _ _ _ _ (by rfl) (by rfl) ?_
 intro w9 k9
 rw[HG.out]
 have e1:a+en4=p2:=by have h1:=HP.out;have h2:=HE.out;omega
 refine⟨_,by rw[← HKK.out,e1];rfl,?_⟩
 have hf9:=HF7.out.1.since HX.out.2
 refine⟨hf9.row.keep k9 ?_,hf9.keep.next k9 (fun _ _ x=>x) (fun i hi x=>by omega),hf9.own⟩
 intro k e x
 have h1:=HF7.out.1.own k e
 have h2:=HX.out.1
 have h3:=heap_lt h2
 omega
end Go.Proofs.Ytkjofdocgaiedaa
namespace Go.Proofs.Ytkjofdocgaiedaa
open Go.RowKit
open DM BM WM
theorem ty_recs:SliceTy Try.prog 90 29 (.slice none 0 0) 1 24:=⟨by kernel_rfl,by kernel_rfl,rfl,by decide⟩
structure Recs (w:World) (F A:Nat→Prop) (v:Value) (L:List (List UInt8)) (vs:List Value):Prop where
 row:Row w 29 1 v L.length vs
 own:∀ k,v.ownBlock=some k→F k∧¬ A k
 each:∀ j (hj:j<L.length),∃ u,vs[j]?=some u∧Row w 5 1 u L[j].length (bytesV L[j])∧∀ k,u.ownBlock=some k→F k∧¬ A k∧v.ownBlock≠some k
theorem Recs.keep {w w':World} {F A G:Nat→Prop} {v:Value} {L:List (List UInt8)} {vs:List Value} (h:Recs w F A v L vs) (hk:Keep G w w') (hG:∀ k,F k→¬ A k→¬ G k):Recs w' F A v L vs:=
 ⟨h.row.keep hk fun k e=>hG k (h.own k e).1 (h.own k e).2,h.own,fun j hj=>let ⟨u,h1,h2,h3⟩:=h.each j hj;⟨u,h1,h2.keep hk fun k e=>hG k (h3 k e).1 (h3 k e).2.1,h3⟩⟩
theorem Recs.mono {w:World} {F A F' A':Nat→Prop} {v:Value} {L:List (List UInt8)} {vs:List Value} (h:Recs w F A v L vs) (hF:∀ k,F k→¬ A k→F' k∧¬ A' k):Recs w F' A' v L vs:=
 ⟨h.row,fun k e=>hF k (h.own k e).1 (h.own k e).2,fun j hj=>let ⟨u,h1,h2,h3⟩:=h.each j hj;⟨u,h1,h2,fun k e=>⟨(hF k (h3 k e).1 (h3 k e).2.1).1,(hF k (h3 k e).1 (h3 k e).2.1).2,(h3 k e).2.2⟩⟩⟩
theorem Recs.nil (w:World) (F A:Nat→Prop):Recs w F A (.slice none 0 0) [] []:=
 ⟨Row.nil _ _ _,fun k e=>by simp[Value.ownBlock] at e,fun j hj=>by simp at hj⟩
theorem Recs.lt {w:World} {F A:Nat→Prop} {v:Value} {L:List (List UInt8)} {vs:List Value} (h:Recs w F A v L vs) {k:Nat} (e:v.ownBlock=some k):k<w.heap.size:=h.row.lt e
theorem Recs.push {wr w':World} {F F' A:Nat→Prop} {v v' u:Value} {L:List (List UInt8)} {vs:List Value} {l:List UInt8} (h:Recs wr F A v L vs)
  (hu:Row wr 5 1 u l.length (bytesV l)) (hou:∀ k,u.ownBlock=some k→F' k∧¬ A k∧v.ownBlock≠some k)
  (hr:Row w' 29 1 v' (L.length+1) (vs ++ [u])) (hk:Keep (fun k=>v.ownBlock=some k) wr w') (hF:∀ k,F k→F' k)
  (hv:∀ k,v'.ownBlock=some k→v.ownBlock=some k∨(wr.heap.size≤k∧F' k∧¬ A k)):Recs w' F' A v' (L ++ [l]) (vs ++ [u]):=by
 have hl:vs.length=L.length:=by have:=h.row.len;omega
 have nov:∀ (x:Value) (n:Nat) (xs:List Value),Row wr 5 1 x n xs→∀ k,x.ownBlock=some k→v.ownBlock≠some k→v'.ownBlock≠some k:=by
  intro x n xs hx k e hne e'
  rcases hv k e' with z | z
  ·exact hne z
  ·have:=hx.lt e;omega
 refine⟨by simpa using hr,fun k e=>?_,fun j hj=>?_⟩
 ·rcases hv k e with z | z
  ·exact⟨hF k (h.own k z).1,(h.own k z).2⟩
  ·exact z.2
 ·by_cases hjl:j<L.length
  ·obtain⟨x,h1,h2,h3⟩:=h.each j hjl
   rw[List.getElem_append_left hjl]
   exact⟨x,by rw[List.getElem?_append_left (by omega)];exact h1,h2.keep hk fun k e=>(h3 k e).2.2,fun k e=>⟨hF k (h3 k e).1,(h3 k e).2.1,nov x _ _ h2 k e (h3 k e).2.2⟩⟩
  ·obtain rfl:j=L.length:=by simp at hj;omega
   rw[List.getElem_append_right (Nat.le_refl _)]
   simp only[Nat.sub_self,List.getElem_cons_zero]
   exact⟨u,by rw[List.getElem?_append_right (by omega)];simp[hl],hu.keep hk fun k e=>(hou k e).2.2,fun k e=>⟨(hou k e).1,(hou k e).2.1,nov u _ _ hu k e (hou k e).2.2⟩⟩
def areaH (h:Nat) (l:List (List UInt8)):List UInt8:=flat l ++ List.replicate (32 * h - (flat l).length) 0
theorem areaH_length {h:Nat} {l:List (List UInt8)} (hf:(flat l).length≤32 * h):(areaH h l).length=32 * h:=by simp[areaH];omega
def walCells (d:Nat) (ep h:Nat) (va vl:Value) (safe en:Nat) (dead:Bool):Array Value:=
 #[.pointer (some ⟨d, 0, none⟩), .int .u64 (ep : Nat), .int .i64 (h : Nat), va, vl, .int .i64 (safe : Nat), .int .i64 (en : Nat), .bool dead]
theorem cells8 {w:World} {b:Nat} {T:TypeId} {a0 a1 a2 a3 a4 a5 a6 a7:Value} (H:w.heap[b]?=some (.cells #[a0,a1,a2,a3,a4,a5,a6,a7] T (0,0))) :
  w.cell? ⟨b,0,none⟩=some a0∧w.cell? ⟨b,1,none⟩=some a1∧w.cell? ⟨b,2,none⟩=some a2∧w.cell? ⟨b,3,none⟩=some a3∧w.cell? ⟨b,4,none⟩=some a4∧w.cell? ⟨b,5,none⟩=some a5∧
  w.cell? ⟨b,6,none⟩=some a6∧w.cell? ⟨b,7,none⟩=some a7∧(∀ o,w.frozen? ⟨b,o,none⟩=false)∧b<w.heap.size:=by
 refine⟨?_,?_,?_,?_,?_,?_,?_,?_,?_,heap_lt H⟩ <;> simp[World.cell?,World.frozen?,H]
structure LgOk (h:Nat) (G:Lg):Prop where
 fit:(flat G.l).length≤32 * h
 two:2≤h
 few:h≤1023
 ep:G.ep<4611686018427387904
 small:∀ x ∈ G.l,x.length≤1024
 safe:G.safe≤G.l.length
theorem flat_ge (l:List (List UInt8)):10 * l.length≤(flat l).length:=by
 induction l with
 | nil=>simp
 | cons x l ih=>rw[flat_cons,List.length_append,frame_length];simp;omega
theorem LgOk.count {h:Nat} {G:Lg} (k:LgOk h G):G.l.length≤4000:=by
 have h1:=flat_ge G.l
 have h2:=k.fit
 have h3:=k.few
 omega
structure WalIs (w:World) (b d:Nat) (F:Nat→Prop) (h:Nat) (G:Lg) (ga ca:Nat) (vl:Value) (vs:List Value):Prop where
 head:w.heap[b]?=some (.cells (walCells d G.ep h (.slice (some ⟨ga,0,none⟩) (32 * h) ca) vl G.safe (flat G.l).length G.dead) 109 (0,0))
 area:Row w 5 1 (.slice (some ⟨ga,0,none⟩) (32 * h) ca) (32 * h) (bytesV (areaH h G.l))
 recs:Recs w F (fun k=>k=b∨k=ga) vl G.l vs
 self:F b
 garea:F ga
 ne:b≠ga
 lt:∀ k,F k→k<w.heap.size
 ok:LgOk h G
theorem WalIs.keep {w w':World} {b d:Nat} {F K:Nat→Prop} {h:Nat} {G:Lg} {ga ca:Nat} {vl:Value} {vs:List Value} (H:WalIs w b d F h G ga ca vl vs) (hk:Keep K w w') (hn:∀ k,F k→¬ K k):WalIs w' b d F h G ga ca vl vs:=
 ⟨hk.get H.head (hn _ H.self),H.area.keep hk fun k e=>by simp[Value.ownBlock] at e;subst e;exact hn _ H.garea,H.recs.keep hk fun k e _=>hn k e,H.self,H.garea,H.ne,fun k x=>Nat.lt_of_lt_of_le (H.lt k x) hk.size,H.ok⟩
theorem WalIs.head' {w w':World} {b d:Nat} {F:Nat→Prop} {h:Nat} {G G':Lg} {ga ca:Nat} {vl:Value} {vs:List Value} (H:WalIs w b d F h G ga ca vl vs) (hk:Keep (fun k=>k=b) w w') (hl:G'.l=G.l)
  (hh:w'.heap[b]?=some (.cells (walCells d G'.ep h (.slice (some ⟨ga,0,none⟩) (32 * h) ca) vl G'.safe (flat G'.l).length G'.dead) 109 (0,0))) (ok:LgOk h G'):WalIs w' b d F h G' ga ca vl vs:=
 ⟨hh,by rw[hl];exact H.area.keep hk fun k e=>by simp[Value.ownBlock] at e;subst e;exact fun x=>H.ne x.symm,by rw[hl];exact H.recs.keep hk fun k _ e x=>e (.inl x),H.self,H.garea,H.ne,fun k x=>Nat.lt_of_lt_of_le (H.lt k x) hk.size,ok⟩
structure LogIs (w:World) (b d:Nat) (F Fd:Nat→Prop) (D:Dk) (G:Lg) (ga ca:Nat) (vl:Value) (vs:List Value):Prop where
 wal:WalIs w b d F (half D) G ga ca vl vs
 disk:DiskAt w d Fd D
 apart:∀ k,F k→¬ Fd k
def LogAt (w:World) (b d:Nat) (F Fd:Nat→Prop) (D:Dk) (G:Lg):Prop:=∃ ga ca vl vs,LogIs w b d F Fd D G ga ca vl vs
theorem LogAt.keep {w w':World} {b d:Nat} {F Fd K:Nat→Prop} {D:Dk} {G:Lg} (H:LogAt w b d F Fd D G) (hk:Keep K w w') (h1:∀ k,F k→¬ K k) (h2:∀ k,Fd k→¬ K k):LogAt w' b d F Fd D G:=
 let ⟨ga,ca,vl,vs,h⟩:=H;⟨ga,ca,vl,vs,h.wal.keep hk h1,h.disk.keep hk h2,h.apart⟩
theorem LogAt.ok {w:World} {b d:Nat} {F Fd:Nat→Prop} {D:Dk} {G:Lg} (H:LogAt w b d F Fd D G):LgOk (half D) G:=let ⟨_,_,_,_,h⟩:=H;h.wal.ok
def LogTo (b d:Nat) (F Fd:Nat→Prop) (w:World) (D':Dk) (G':Lg) (w':World):Prop:=
 ∃ F' Fd',LogAt w' b d F' Fd' D' G'∧Keep (fun k=>F k∨Fd k) w w'∧(∀ k,F' k→F k∨w.heap.size≤k)∧∀ k,Fd' k→Fd k∨w.heap.size≤k
theorem LogAt.to {w:World} {b d:Nat} {F Fd:Nat→Prop} {D:Dk} {G:Lg} (H:LogAt w b d F Fd D G):LogTo b d F Fd w D G w:=⟨F,Fd,H,Keep.refl _ _,fun _ x=>.inl x,fun _ x=>.inl x⟩
theorem LgOk.mark {D:Dk} {h:Nat} {G:Lg} (H:LgOk h G):LgOk h (WM.mark D G):=⟨H.fit,H.two,H.few,H.ep,H.small,H.safe⟩
theorem LgOk.die {h:Nat} {G:Lg} (H:LgOk h G) (x:Bool):LgOk h { G with dead:=x }:=⟨H.fit,H.two,H.few,H.ep,H.small,H.safe⟩
theorem WalIs.dead {w:World} {b d:Nat} {F:Nat→Prop} {h:Nat} {G:Lg} {ga ca:Nat} {vl:Value} {vs:List Value} (H:WalIs w b d F h G ga ca vl vs) (x:Bool) :
  WalIs (w.setCell ⟨b,7,none⟩ (.bool x)) b d F h { G with dead:=x } ga ca vl vs:=by
 refine H.head' (by refine Keep.setCell (Keep.refl _ _) (.inl ?_) _;rfl) rfl ?_ (H.ok.die x)
 have:=heap_setCell6 H.head 7 (.bool x)
 rw[this]
 rfl
theorem LogAt.dead {w:World} {b d:Nat} {F Fd:Nat→Prop} {D:Dk} {G:Lg} (H:LogAt w b d F Fd D G) (x:Bool):LogTo b d F Fd w D { G with dead:=x } (w.setCell ⟨b,7,none⟩ (.bool x)):=by
 obtain⟨ga,ca,vl,vs,h⟩:=H
 have hk:Keep (fun k=>k=b) w (w.setCell ⟨b,7,none⟩ (.bool x)):=by refine Keep.setCell (Keep.refl _ _) (.inl ?_) _;rfl
 refine⟨F,Fd,⟨ga,ca,vl,vs,h.wal.dead x,h.disk.keep hk fun k e c=>by subst c;exact h.apart _ h.wal.self e,h.apart⟩,hk.mono fun i _ e=>by subst e;exact .inl h.wal.self,fun _ x=>.inl x,fun _ x=>.inl x⟩
set_option maxRecDepth 20000 in
set_option maxHeartbeats 400000 in
theorem wfirst_any (w:World) (b d:Nat) (ep h:Nat) (va vl:Value) (sf en:Nat) (dead:Bool) (H:w.heap[b]?=some (.cells (walCells d ep h va vl sf en dead) 109 (0,0))) (hh:h≤1023) (e:Nat) :
  Calls Try.prog 56 #[.pointer (some ⟨b,0,none⟩),.int .u64 (e:Nat)] w fun x w'=>x = .returned (.int .i64 (2+e % 2 * h:Nat))∧w'=w:=by
 unfold walCells at H
 obtain⟨h0,h1,h2,h3,h4,h5,h6,h7,hf,hb⟩:=cells8 H
 clear H h0 h1 h3 h4 h5 h6 h7
 have e2:e % 2<2:=Nat.mod_lt _ (by decide)
 obtain⟨r,hr⟩:∃ r,r=e % 2:=⟨_,rfl⟩
 have q1:((e:Int) % 2)=(r:Int):=by omega
 have q2:((e:Int).tmod 2)=(r:Int):=by rw[Int.tmod_eq_emod_of_nonneg (by omega)];exact q1
 have q3:=wi64 r (by omega)
 obtain⟨p,hp⟩:∃ p,p=r * h:=⟨_,rfl⟩
 have hp2:p≤1023:=by
  rw[hp]
  have:r=0∨r=1:=by omega
  rcases this with rfl | rfl <;> omega
 have q4:(r:Int) * (h:Int)=(p:Int):=by rw[hp];push_cast;rfl
 have q5:=wi64 p (by omega)
 have HP:=hid (show 2+e % 2 * h=2+p by rw[hp,hr])
 clear hr hp e2
 go_enter Try.func56,Try.ntmps56
 go_wp2
 go_ret
 refine⟨?_,rfl⟩
 rw[HP.out]
 push_cast
 rfl
set_option maxRecDepth 20000 in
set_option maxHeartbeats 400000 in
theorem ready_up (w:World) (b d:Nat) (F Fd:Nat→Prop) (D:Dk) (G:Lg) (H:LogAt w b d F Fd D G) (hg:gone D G=false) :
  Calls Try.prog 49 #[.pointer (some ⟨b,0,none⟩)] w fun x w'=>x = .returned (.int .i64 0)∧w'=w:=by
 obtain⟨ga,ca,vl,vs,HL⟩:=H
 have hh:=HL.wal.head
 unfold walCells at hh
 obtain⟨h0,h1,h2,h3,h4,h5,h6,h7,hf,hb⟩:=cells8 hh
 unfold gone at hg
 simp only[Bool.or_eq_false_iff] at hg
 have hg2:=hg.2
 rw[hg.1] at h7
 have HL:=hid HL
 clear hh h1 h2 h3 h4 h5 h6 hg
 go_enter Try.func49,Try.ntmps49
 go_wp2_with (at_builtin;refine stopAt ?_;intro q hq)
 refine(up_any w d Fd D HL.out.disk).mono ?_
 rintro e w1 ⟨rfl,rfl⟩
 rw[hg2]
 go_wp2_with (at_builtin;refine stopAt ?_;intro q hq)
 go_ret
 exact⟨rfl,rfl⟩
set_option maxRecDepth 20000 in
set_option maxHeartbeats 400000 in
theorem ready_gone (w:World) (b d:Nat) (F Fd:Nat→Prop) (D:Dk) (G:Lg) (H:LogAt w b d F Fd D G) (hg:gone D G=true) :
  Calls Try.prog 49 #[.pointer (some ⟨b,0,none⟩)] w fun x w'=>x = .returned (.int .i64 6)∧LogTo b d F Fd w D (WM.mark D G) w':=by
 have fin:=hid (show LogTo b d F Fd w D (WM.mark D G) (w.setCell ⟨b,7,none⟩ (.bool true)) by
  unfold WM.mark;rw[hg];exact H.dead true)
 obtain⟨ga,ca,vl,vs,HL⟩:=H
 have hh:=HL.wal.head
 unfold walCells at hh
 obtain⟨h0,h1,h2,h3,h4,h5,h6,h7,hf,hb⟩:=cells8 hh
 unfold gone at hg
 have HL:=hid HL
 clear hh h1 h2 h3 h4 h5 h6
 cases hd:G.dead with
 | true=>
   rw[hd] at h7
   clear hg
   go_enter Try.func49,Try.ntmps49
   go_wp2_with (at_builtin;refine stopAt ?_;intro q hq)
   go_ret
   exact⟨rfl,fin.out⟩
 | false=>
   rw[hd] at h7
   have hg2:D.down=true:=by simpa [hd] using hg
   clear hg
   go_enter Try.func49,Try.ntmps49
   go_wp2_with (at_builtin;refine stopAt ?_;intro q hq)
   refine(up_any w d Fd D HL.out.disk).mono ?_
   rintro e w1 ⟨rfl,rfl⟩
   rw[hg2]
   go_wp2_with (at_builtin;refine stopAt ?_;intro q hq)
   go_ret
   exact⟨rfl,fin.out⟩
set_option maxRecDepth 20000 in
theorem ready_nil (w:World):Calls Try.prog 49 #[.pointer none] w fun x w'=>x = .returned (.int .i64 1)∧w'=w:=by
 go_enter Try.func49,Try.ntmps49
 go_wp2
 go_ret
 exact⟨rfl,rfl⟩
set_option maxRecDepth 20000 in
set_option maxHeartbeats 400000 in
theorem fails_any (w:World) (b d:Nat) (ep h:Nat) (va vl:Value) (sf en:Nat) (dead:Bool) (H:w.heap[b]?=some (.cells (walCells d ep h va vl sf en dead) 109 (0,0))) (e:Int) :
  Calls Try.prog 52 #[.pointer (some ⟨b,0,none⟩),.int .i64 e] w fun x w'=>x = .returned (.int .i64 e)∧w'=w.setCell ⟨b,7,none⟩ (.bool (dead || decide (e≠0))):=by
 unfold walCells at H
 obtain⟨h0,h1,h2,h3,h4,h5,h6,h7,hf,hb⟩:=cells8 H
 clear H h0 h1 h2 h3 h4 h5 h6
 cases dead with
 | true=>
   go_enter Try.func52,Try.ntmps52
   go_wp2_with (at_builtin;refine stopAt ?_;intro q hq)
   go_ret
   exact⟨rfl,rfl⟩
 | false=>
   by_cases he:e=0
   ·subst he
    go_enter Try.func52,Try.ntmps52
    go_wp2_with (at_builtin;refine stopAt ?_;intro q hq)
    go_ret
    exact⟨rfl,rfl⟩
   ·have u1:(e == 0)=false:=by simp[he]
    have u2:(e != 0)=true:=by simp[he]
    have u3:decide (e=0)=false:=by simp[he]
    have HE:=hid he
    clear he
    go_enter Try.func52,Try.ntmps52
    go_wp2_with (at_builtin;refine stopAt ?_;intro q hq)
    go_ret
    refine⟨rfl,?_⟩
    have:=HE.out
    simp[this]
end Go.Proofs.Ytkjofdocgaiedaa
namespace Go.Proofs.Ytkjofdocgaiedaa
open Go.RowKit
open DM BM WM
set_option maxRecDepth 20000 in
set_option maxHeartbeats 400000 in
theorem room_up (w:World) (b d:Nat) (F Fd:Nat→Prop) (D:Dk) (G:Lg) (H:LogAt w b d F Fd D G) (hg:gone D G=false) :
  Calls Try.prog 51 #[.pointer (some ⟨b,0,none⟩)] w fun x w'=>x = .returned (.int .i64 (room D G:Nat))∧w'=w.drew:=by
 have HH:=hid H
 obtain⟨ga,ca,vl,vs,HL⟩:=H
 have hh:=HL.wal.head
 unfold walCells at hh
 obtain⟨h0,h1,h2,h3,h4,h5,h6,h7,hf,hb⟩:=cells8 hh
 have hfit:=HL.wal.ok.fit
 have hfew:=HL.wal.ok.few
 obtain⟨r,hr⟩:∃ r,r=room D G:=⟨_,rfl⟩
 have q:((32 * half D:Nat):Int) - ((flat G.l).length:Int)=(r:Int):=by rw[hr];unfold room;omega
 have hn:((32 * half D:Nat):Int)≤40000:=by omega
 rw[← hr]
 obtain⟨n,hn'⟩:∃ n,n=32 * half D:=⟨_,rfl⟩
 rw[← hn'] at q hn h3
 have hr2:r≤40000:=by rw[hr];unfold room;omega
 have q2:=wi64 r (by omega)
 have HR:=hid (And.intro hr hn')
 clear hr hn' hh HL hfit
 generalize (flat G.l).length=m at *
 go_enter Try.func51,Try.ntmps51
 go_wp2_with (at_builtin;refine stopAt ?_;intro q hq)
 refine(ready_up w b d F Fd D G HH.out hg).mono ?_
 rintro e w1 ⟨rfl,rfl⟩
 go_wp2_with (at_builtin;refine stopAt ?_;intro q hq)
 refine wp_region_canon [] (by kernel_rfl) (by kernel_rfl) ?_
 repeat (first | (apply wpC_pure (by rfl);(intro K w';go_simp;exact id)) | (apply wpC_load (by rfl);(intro K;go_simp;exact id)))
 refine wpC_nil ?_
 go_wp2_with (at_builtin;refine stopAt ?_;intro q hq)
 go_ret
 exact⟨rfl,rfl⟩
set_option maxHeartbeats 1000000 in
set_option maxRecDepth 20000 in
theorem each_any (w:World) (b fn:Nat) (caps:Array Value) (fr lo hi en n ca:Nat) (va:Value) (Inv:Nat→World→Prop) (Done:Int→World→Prop)
  (hlo:lo=fr / 32) (hk:∀ i,i * 32<en↔i<hi) (hkl:lo≤hi) (hn:hi * 32≤n) (hca:n≤ca) (_hbig:ca≤maxLen) (hfr:fr≤1000000000) (hen:en≤n) (hnb:n≤1000000000) (ga:Option Addr) (hva:va = .slice ga n ca)
  (hc:∀ i wr,Inv i wr→wr.cell? ⟨b,3,none⟩=some va)
  (h0:Inv lo w) (hent:∀ args w,(callFunc fn args).run Try.prog w = .ok (.enter fn args) w)
  (hcall:∀ i wr,lo≤i→i<hi→Inv i wr→Calls Try.prog fn (#[.int .i64 (i:Nat),.slice (tailAt ga ca (i * 32) 1) 32 (ca - i * 32)] ++ caps) wr fun e w'=>∃ c:Int,e = .returned (.int .i64 c)∧(c=0→Inv (i+1) w')∧(c≠0→Done c w')) :
  Calls Try.prog 53 #[.pointer (some ⟨b,0,none⟩),.int .i64 (fr:Nat),.int .i64 (en:Nat),.func (.func fn) #[] caps] w fun e w'=>∃ c:Int,e = .returned (.int .i64 c)∧(c=0→Inv hi w')∧(c≠0→Done c w'):=by
 have q1:(fr:Int) / 32=(lo:Int):=by omega
 have q2:(fr:Int).tdiv 32=(lo:Int):=by rw[Int.tdiv_eq_ediv_of_nonneg (by omega)];exact q1
 have q3:=wi64 lo (by omega)
 have HK:=hid hk
 have H0:=hid h0
 have HC:=hid hc
 have HCALL:=hid hcall
 clear hk h0 hc hcall hlo q1
 go_enter Try.func53,Try.ntmps53
 go_wp2_with (at_builtin;refine stopAt ?_;intro q hq)
 go_loopw [9] (fun iv wr=>∃ i:Nat,lo≤i∧i≤hi∧iv = .int .i64 i∧Hid (Inv i wr)) (fun iv _=>hi - (intOf iv).toNat)
 case atStart=>exact⟨lo,Nat.le_refl _,by omega,rfl,H0⟩
 case round=>
  clear H0
  obtain⟨i,hi1,hi2,rfl,HI⟩:=hrel
  obtain⟨p,hp⟩:∃ p,p=i * 32:=⟨_,rfl⟩
  have e1:(i:Int) * 32=(p:Int):=by omega
  have e2:=wi64 p (by omega)
  by_cases hik:i<hi
  ·have hlt:=(HK.out i).2 hik
   have e3:(p:Int)<(en:Int):=by omega
   obtain⟨p2,hp2⟩:∃ p,p=(i+1) * 32:=⟨_,rfl⟩
   have e4:((i:Int)+1) * 32=(p2:Int):=by omega
   have e5:=wi64 p2 (by omega)
   have hc:=HC.out i wr HI.out
   rw[hva] at hc
   have hs:=fun w=>run_sliceAt_lh (P:=Try.prog) ty_bytes ga n ca .i64 .i64 p p2 (by omega) (by omega) w
   have e6:p2 - p=32:=by omega
   rw[e6] at hs
   have HP:=hid (And.intro hp hp2)
   clear hp hp2 e6
   go_wp2_with (at_builtin;refine stopAt ?_;intro q hq)
   have hcl:=HCALL.out i wr hi1 hik HI.out
   rw[← HP.out.1] at hcl
   refine hcl.mono ?_
   clear hcl
   rintro e w1 ⟨c,rfl,hc1,hc2⟩
   by_cases hc0:c=0
   ·subst hc0
    have HN:=hid (hc1 rfl)
    clear hc1 hc2 hc
    go_wp2_with (at_builtin;refine stopAt ?_;intro q hq)
    go_roundw
    case rel=>exact⟨i+1,by omega,by omega,by go_num,HN⟩
    case measure=>simp[intOf];omega
   ·have u1:(c == 0)=false:=by simp[hc0]
    have u2:(c != 0)=true:=by simp[hc0]
    have u3:decide (c=0)=false:=by simp[hc0]
    have HD:=hid (And.intro hc0 (hc2 hc0))
    clear hc1 hc2 hc hc0
    go_wp2_with (at_builtin;refine stopAt ?_;intro q hq)
    go_ret
    exact⟨c,rfl,fun x=>absurd x HD.out.1,fun _=>HD.out.2⟩
  ·obtain rfl:hi=i:=by omega
   have hnlt:¬ hi * 32<en:=fun x=>hik ((HK.out hi).1 x)
   have e3:¬ ((p:Int)<(en:Int)):=by omega
   have e7:decide ((p:Int)<(en:Int))=false:=decide_eq_false e3
   have e8:decide (p<en)=false:=decide_eq_false (by omega)
   have HP:=hid hp
   clear hp hnlt hik e3
   go_wp2_with (at_builtin;refine stopAt ?_;intro q hq)
   go_ret
   exact⟨0,rfl,fun _=>HI.out,fun x=>absurd rfl x⟩
end Go.Proofs.Ytkjofdocgaiedaa
namespace Go.Proofs.Ytkjofdocgaiedaa
open Go.RowKit
open BM
end Go.Proofs.Ytkjofdocgaiedaa
