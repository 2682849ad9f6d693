/- Texts AccV, AccX, AcdA, AcdH, AcdI, AccP, AcdJ, AcdK, AcdL in one. Conditions: as each law names them. -/
import Derived.Test.YtkjofdocgaiedaaGreatJah
import Derived.Test.YtkjofdocgaiedaaGreatJaj
import Derived.Test.YtkjofdocgaiedaaGreatJak
import Derived.Test.YtkjofdocgaiedaaGreatJao
import Derived.Test.YtkjofdocgaiedaaGreatJaz
import Derived.Test.YtkjofdocgaiedaaGreatJba
import Derived.Test.YtkjofdocgaiedaaGreatJbc
import Derived.Test.YtkjofdocgaiedaaGreatJbd
set_option maxRecDepth 20000
set_option maxHeartbeats 8000000
namespace Go.Proofs.YtkjofdocgaiedaaGreat
section
open Go.RowKit Go.Maps
open MI SO BM DM WM AC
def GetBPost (w:World) (s:Str) (e:Ending) (w':World):Prop:=Keep (fun _=>False) w w'∧match getB s with
 | some (b,rest)=>∃ u,e = .returned (.tuple #[balV b,u,.bool true])∧Row w' 5 1 u rest.length (z0C rest)∧∀ k,u.ownBlock=some k→w.heap.size≤k
 | none=>∃ (n d:Nat) (ua:Option Addr) (k c:Nat),e = .returned (.tuple #[.agg #[.int .u64 (n:Int),.int .i64 (d:Int)],.slice ua k c,.bool false])
theorem AC.getB_bad {s:Str} {n1 a1 e1 n2 a2 e2:Nat} (h1:(n1,a1,e1)=uS s (0,0)) (h2:(n2,a2,e2)=uS s (a1,e1)) (h:e2≠0∨12≤n2):getB s=none:=by
 unfold uS at h1 h2;unfold getB;simp only[ne_eq,not_true_eq_false,if_false] at h1
 cases hu:uint s 0 with
 | no x=>rfl
 | yes n t=>
   rw[hu] at h1;simp only at h1;cases h1;simp only[ne_eq,not_true_eq_false,if_false] at h2;simp only
   cases hu2:uint s a1 with
   | no x=>rfl
   | yes k b=>
     rw[hu2] at h2;simp only at h2;cases h2;simp only;rw[if_neg (by omega)]
theorem AC.getB_good {s:Str} {n1 a1 e1 n2 a2:Nat} (h1:(n1,a1,e1)=uS s (0,0)) (h2:(n2,a2,0)=uS s (a1,e1)) (h:n2<12):getB s=if 0<n1 then some (⟨n1,(n2:Int)⟩,s.drop a2) else none:=by
 unfold uS at h1 h2;unfold getB;simp only[ne_eq,not_true_eq_false,if_false] at h1
 cases hu:uint s 0 with
 | no x=>
   exfalso;rw[hu] at h1;simp only at h1;cases h1;have:=(z3I hu).1;rw[if_pos this] at h2;cases h2;exact this rfl
 | yes n t=>
   rw[hu] at h1;simp only at h1;cases h1;simp only[ne_eq,not_true_eq_false,if_false] at h2;simp only
   cases hu2:uint s a1 with
   | no x=>
     exfalso;rw[hu2] at h2;simp only at h2;cases h2;exact(z3I hu2).1 rfl
   | yes k b=>
     rw[hu2] at h2;simp only at h2;cases h2;simp only
     by_cases hn:0<n1
     ·rw[if_pos ⟨h,hn⟩,if_pos hn]
     ·rw[if_neg (by omega),if_neg hn]
theorem zaA {w:World} {g i:Nat} {cs:Array Value} {t:TypeId} {v:Value} (h:w.heap[g]?=some (.cells cs t (0,0))) (hv:cs[i]?=some v):Keep (fun _=>False) w (w.setCell ⟨g,i,none⟩ v):=by
 have hk:Keep (fun k=>k=g) w (w.setCell ⟨g,i,none⟩ v):=kst;have hh:=heap_setCell_same w g i cs t v h;refine⟨hk.os,hk.tape,hk.output,hk.size,fun k hkl _=>?_⟩
 by_cases hkg:k=g
 ·subst hkg
  have e:cs.setIfInBounds i v=cs:=by
   apply Array.ext_getElem?;intro j;rw[Array.getElem?_setIfInBounds];split
   ·rename_i hij
    subst hij;split
    ·exact hv.symm
    ·rename_i hlt
     rw[Array.getElem?_eq_none (by omega)]
   ·rfl
  rw[hh,e,h]
 ·exact hk.block k hkl hkg
theorem z2R {P:Program} {fn:Func} {t u v:Tmp} {ty:TypeId} (h:fn.results = #[.cell t ty,.tmp u,.tmp v]) (tmps:Array Value) (w:World) (g:Nat) (ht:tmps.getD t undef = .pointer (some ⟨g,0,none⟩)) (cs:List Value)
  (hc:∀ j u,cs[j]?=some u→w.cell? ⟨g,j,none⟩=some u) (d:TypeDesc)
  (hu:P.underlying ty=some d) (hd:(match d with | .struct _ | .array _ _=>true | _=>false)=true) (hi:(P.info? ty).map (·.size)=some cs.length) :
  (results fn tmps).run P w = .ok (.tuple #[.agg cs.toArray,tmps.getD u undef,tmps.getD v undef]) w:=by
 have hl:=run_loadCells_list (P:=P) w ⟨g,0,none⟩ cs (fun j v hv=>by rw[z0K,Nat.zero_add];exact hc j v hv)
 cases hq:P.info? ty with
 | none=>simp[hq] at hi
 | some i=>
   have hs:i.size=cs.length:=by simpa [hq] using hi
   have hagg:(isAgg ty).run P w = .ok true w:=by
    unfold isAgg;rw[Sem.run_bind,run_underlying hu w];cases d <;> simp_all
   have hr:(loadVar ty ⟨g,0,none⟩).run P w = .ok (.agg cs.toArray) w:=by
    simp[loadVar,Sem.run_bind,hagg,sizeOf,typeInfo,hq,hs,hl]
   have ht':tmps[t]?.getD undef = .pointer (some ⟨g,0,none⟩):=by simpa using ht
   simp[results,h,ht',asAddr,hr]
theorem z5F (w1:World) (g:Nat) (a b:Value) (h:w1.heap[g]?=some (.cells #[a,b] 28 (0,0))) (c d:Value) :
  (∀ j u,[c,d][j]?=some u→((w1.setCell ⟨g,0,none⟩ c).setCell ⟨g,1,none⟩ d).cell? ⟨g,j,none⟩=some u)∧Keep (fun k=>k=g) w1 ((w1.setCell ⟨g,0,none⟩ c).setCell ⟨g,1,none⟩ d)∧
   ((w1.setCell ⟨g,0,none⟩ c).setCell ⟨g,1,none⟩ d).heap[g]?=some (.cells #[c,d] 28 (0,0)):=by
 have g1:=z0B h 0 c;have g2:=z0B g1 1 d;refine⟨fun j u hu=>?_,?_,g2⟩
 ·rw[cell_of_row _ _ _ _ _ _ g2]
  simpa using hu
 ·refine Keep.setCell (Keep.setCell (Keep.refl _ _) (.inl ?_) _) (.inl ?_) _ <;> rfl
theorem zpN (w:World) (s:Str) (hs:s.length≤1000000):Calls Tryz.prog 122 #[.string (str s)] w (GetBPost w s):=by
 have hn1:=heap_alloc_new w (.cells #[.int .u64 0,.int .i64 0] 28);have hk1:=kal w (.cells #[.int .u64 0,.int .i64 0] 28);obtain⟨w1,hw1⟩:=zX1 (w.alloc (.cells #[.int .u64 0,.int .i64 0] 28));have hz1:w1.heap.size=w.heap.size+1:=by rw[hw1];simp
 rw[← hw1] at hn1 hk1;obtain⟨c1,w2,hcv,hf2⟩:=z6A w1 s (by unfold maxLen;omega);have H2:=hid (zA1 (hk1.nx hf2.keep) (zA1 (hf2.keep.get hn1 id) (zA1 hf2.row (zA1 hz1 hf2.keep.size))));have hrd:=zgK w2 _ s.length c1 s (Cells.of_row hf2.row) (by omega);clear hn1 hk1 hf2 hz1;go_enter Tryz.func122,Tryz.ntmps122
 go_upto_region 1 with fail
 rw[← hw1];clear hw1;go_wp2_with (at_builtin;refine z0A ?_;intro q hq);refine hrd.mono ?_;rintro e w3 ⟨g,rv,rfl,hr3,hk3,hg3,-⟩;obtain⟨hk02,hn2,hrow2,hz1,hz2⟩:=H2.out;have hg:w.heap.size<g:=by omega
 have hn3:=hk3.get hn2 id;have HA:=hid (zA1 (hk02.nx hk3) (zA1 hn3 hr3));have hu1:=zcE w3 g rv s 0 0 hr3 (Nat.zero_le _) (by omega);have hp1:=zoY s (a:=0) (e:=0) (Nat.zero_le _);obtain⟨r1,hr1⟩:=zX1 (uS s (0,0));rw[← hr1] at hu1 hp1;obtain⟨n1,a1,e1⟩:=r1;simp only at hu1 hp1;have HE1:=hid hr1;clear hrd hcv hk3 hr3 hk02 hn2 hrow2 hz1 hz2 H2 hg3 hn3 hr1;go_wp2_with (at_builtin;refine z0A ?_;intro q hq);refine hu1.mono ?_;rintro e w4 ⟨rfl,hr4,hk4⟩;have hn4:=hk4.get HA.out.2.1 (fun x=>by omega);have f4:w4.frozen? ⟨w.heap.size,0,none⟩=false:=by simp[World.frozen?,hn4]
 have c4:w4.cell? ⟨w.heap.size,0,none⟩=some (.int .u64 0):=by simp[World.cell?,hn4]
 have hk5:Keep (fun k=>k=w.heap.size) w4 (w4.setCell ⟨w.heap.size,0,none⟩ (.int .u64 (n1:Int))):=kst;have hn5:=z0B hn4 0 (.int .u64 (n1:Int))
 have hr5:=hr4.keep hk5 (show ¬ g=w.heap.size by omega) (fun k e x=>by
  have h1:k=w.heap.size:=x;subst h1
  exact hr4.row.not_block hn4 (by decide) e)
 have hkA:=(HA.out.1.next hk4 (H:=fun _=>False) (fun _ _ x=>x) (fun j hj x=>by have h1:j=g:=x;omega)).next hk5 (H:=fun _=>False) (fun _ _ x=>x) (fun j hj x=>by have h1:j=w.heap.size:=x;omega);obtain⟨w5,hw5⟩:=zX1 (w4.setCell ⟨w.heap.size,0,none⟩ (.int .u64 (n1:Int)));rw[← hw5] at hn5 hr5 hkA;have H5:=hid (zA1 hn5 (zA1 hr5 hkA));clear hn4 hk5 hn5 hr4 hr5 hkA hk4 hu1 HA
 go_upto_region 3 with fail
 rw[← hw5];clear hw5 f4 c4;have hu2:=zcE w5 g rv s a1 e1 H5.out.2.1 hp1.1 (by omega);have hp2:=zoY s (e:=e1) hp1.1;obtain⟨r2,hr2⟩:=zX1 (uS s (a1,e1));rw[← hr2] at hu2 hp2;obtain⟨n2,a2,e2⟩:=r2;simp only at hu2 hp2;have HE2:=hid hr2;clear hr2;go_wp2_with (at_builtin;refine z0A ?_;intro q hq);refine hu2.mono ?_;rintro e w6 ⟨rfl,hr6,hk6⟩;have hn6:=hk6.get H5.out.1 (fun x=>by omega);have H6:=hid (zA1 hn6 (zA1 hr6 (H5.out.2.2.next hk6 (H:=fun _=>False) (fun _ _ x=>x) (fun j hj x=>by have h1:j=g:=x;omega))));have f6:∀ o,w6.frozen? ⟨w.heap.size,o,none⟩=false:=fun o=>by simp[World.frozen?,hn6]
 have c60:w6.cell? ⟨w.heap.size,0,none⟩=some (.int .u64 (n1:Int)):=by simp[World.cell?,hn6]
 have c61:w6.cell? ⟨w.heap.size,1,none⟩=some (.int .i64 0):=by simp[World.cell?,hn6]
 have her:=z3F w6 g rv s a2 e2 hr6;clear hu2 hr6 hn6 hk6 H5
 by_cases he:e2≠0
 ·have q1:((e2:Int) != 0)=true:=by simp;omega
  have q2:decide (e2=0)=false:=decide_eq_false he;have HB:=hid (AC.getB_bad HE1.out HE2.out (.inl he));clear he;go_wp2_with (at_builtin;refine z0A ?_;intro q hq);refine her.mono ?_;rintro e w7 ⟨rfl,rfl⟩;clear her;go_wp2_with (at_builtin;refine z0A ?_;intro q hq);obtain⟨g1,g2,-⟩:=z5F w7 w.heap.size _ _ H6.out.1 (.int .u64 (n1:Int)) (.int .i64 0);refine bodyPost_ret (z2R rfl _ _ w.heap.size rfl [.int .u64 (n1:Int),.int .i64 0] g1 _ Tryz.underlying28 rfl (by kernel_rfl)) rfl ⟨H6.out.2.2.next g2 (fun _ _ x=>x) (fun k hk x=>by omega),?_⟩;rw[HB.out];exact⟨n1,0,none,0,0,rfl⟩
 ·obtain rfl:e2=0:=by omega
  clear he
  by_cases hb:12≤n2
  ·have q2:(12:Int)≤(n2:Int):=by omega
   have HB:=hid (AC.getB_bad HE1.out HE2.out (.inr hb));clear hb;go_wp2_with (at_builtin;refine z0A ?_;intro q hq);refine her.mono ?_;rintro e w7 ⟨rfl,rfl⟩;clear her;go_wp2_with (at_builtin;refine z0A ?_;intro q hq);obtain⟨g1,g2,-⟩:=z5F w7 w.heap.size _ _ H6.out.1 (.int .u64 (n1:Int)) (.int .i64 0);refine bodyPost_ret (z2R rfl _ _ w.heap.size rfl [.int .u64 (n1:Int),.int .i64 0] g1 _ Tryz.underlying28 rfl (by kernel_rfl)) rfl ⟨H6.out.2.2.next g2 (fun _ _ x=>x) (fun k hk x=>by omega),?_⟩;rw[HB.out];exact⟨n1,0,none,0,0,rfl⟩
  ·have q2:decide ((12:Int)≤(n2:Int))=false:=decide_eq_false (by omega)
   have q3:decide (12≤n2)=false:=decide_eq_false hb;have q4:=wi64 n2 (by omega);have HB:=hid (AC.getB_good HE1.out HE2.out (by omega));have hn12:n2<12:=by omega
   clear hb;go_wp2_with (at_builtin;refine z0A ?_;intro q hq);refine her.mono ?_;rintro e w7 ⟨rfl,rfl⟩;clear her;have hk8:Keep (fun k=>k=w.heap.size) w7 (w7.setCell ⟨w.heap.size,1,none⟩ (.int .i64 (n2:Int))):=kst;have hn8:=z0B H6.out.1 1 (.int .i64 (n2:Int))
   have hr8:=H6.out.2.1.keep hk8 (show ¬ g=w.heap.size by omega) (fun k e x=>by
    have h1:k=w.heap.size:=x;subst h1
    exact H6.out.2.1.row.not_block H6.out.1 (by decide) e)
   have hkw:=H6.out.2.2.next hk8 (H:=fun _=>False) (fun _ _ x=>x) (fun j hj x=>by have h1:j=w.heap.size:=x;omega);obtain⟨w8,hw8⟩:=zX1 (w7.setCell ⟨w.heap.size,1,none⟩ (.int .i64 (n2:Int)));rw[← hw8] at hn8 hr8 hkw;have H8:=hid (zA1 hn8 (zA1 hr8 hkw));clear hk8 hn8 hr8 hkw
   go_upto_region 7 with fail
   rw[← hw8];clear hw8 f6 c60 c61 q2 q3 q4 H6;have c80:w8.cell? ⟨w.heap.size,0,none⟩=some (.int .u64 (n1:Int)):=by have:=H8.out.1;simp[World.cell?,this]
   have c81:w8.cell? ⟨w.heap.size,1,none⟩=some (.int .i64 (n2:Int)):=by have:=H8.out.1;simp[World.cell?,this]
   obtain⟨sl,hsl⟩:=zX1 (s.length);obtain⟨lf,hlf⟩:=zX1 (s.length - a2);have hsz:(str s).size=sl:=by rw[hsl];exact z2A s
   obtain⟨r,hr⟩:=zX1 (s.drop a2);have hrl:r.length=lf:=by rw[hr,List.length_drop,hlf]
   have hex:(str s).extract a2 sl=str r:=by rw[hr,zhP,hsl,List.take_length]
   have hsub:(sl:Int) - (lf:Int)=(a2:Int):=by omega
   have t1:=wi64 a2 (by omega);obtain⟨rb,hrb⟩:=zX1 (z3B ⟨n1,(n2:Int)⟩);have HX:=hid (zA1 hsl (zA1 hlf (zA1 hr (zA1 hrl hrb))));clear hsl hlf hr hrl hrb
   have HL:=hid (fun s':Later w8=>show Calls Tryz.prog 92 #[.pointer (some ⟨g,0,none⟩)] s'.val fun e w'=>e = .returned (.int .i64 (lf:Nat))∧Keep (fun _=>False) s'.val w' from by
    have:=z9D s'.val g rv s a2 (H8.out.2.1.keep s'.keep id (fun _ _=>id)) hp2.1 (by omega);rw[← HX.out.2.1] at this
    exact this)
   have HRt:=hid (fun s':Later w8=>show Calls Tryz.prog 35 #[.agg #[.int .u64 (n1:Int),.int .i64 (n2:Int)]] s'.val fun e w'=>e = .returned (.bool rb)∧Keep (fun _=>False) s'.val w' from by
    have:=z9L s'.val ⟨n1,(n2:Int)⟩;rw[← HX.out.2.2.2.2] at this
    exact this)
   have j0:=fun s':Later w8=>s'.cell c80;have j1:=fun s':Later w8=>s'.cell c81;have hla:a2≤sl:=by have:=HX.out.1;have:=hp2.1;omega
   have hlz:(a2:Int)≤((str s).size:Nat):=by rw[hsz];omega
   refine zcH [(5,fun v _=>v = .int .i64 (lf:Nat)),(8,fun v w'=>∃ ua c,v = .slice ua lf c∧Row w' 5 1 v lf (z0C r)∧∀ k,v.ownBlock=some k→w8.heap.size≤k),(10,fun v _=>v = .bool rb),(11,fun _ _=>True)] (by kernel_rfl) (by kernel_rfl) ?_ ?_
   ·intro q hq v w1 w3 hk hx
    simp only[List.mem_cons,List.not_mem_nil,or_false] at hq
    rcases hq with rfl | rfl | rfl | rfl
    ·exact hx
    ·obtain⟨ua,c,e,hrw,ho⟩:=hx
     exact⟨ua,c,e,hrw.keep hk (fun _ _ x=>x),ho⟩
    ·exact hx
    ·trivial
   repeat (apply z8G (by rfl);(intro K s;go_simp;exact id))
   refine zaO (by rfl) (by kernel_rfl) (fun s1 hs=>?_) (fun v hv K hK=>?_)
   ·go_simp
    refine(HL.out s1).mono ?_;rintro e w' ⟨rfl,hk⟩;exact⟨rfl,hk⟩
   obtain⟨s1,-,rfl⟩:=hv;go_simp;refine hK _ ?_;clear hK K s1
   repeat (apply z8G (by rfl);(intro K s;go_simp;exact id))
   refine zaO (by rfl) (by kernel_rfl) (fun s1 hs=>?_) (fun v hv K hK=>?_)
   ·obtain⟨c,w2,hcv,hf⟩:=z6A s1.val r (by have h1:=HX.out.2.2.2.1;have h2:=HX.out.2.1;unfold maxLen;omega)
    have hrl:=HX.out.2.2.2.1;rw[hrl] at hcv hf;go_simp;exact⟨hf.keep,by have h:=hf.row;rwa [hrl] at h,fun k e=>Nat.le_trans s1.keep.size (hf.own k e)⟩
   obtain⟨s2,-,ua,c,rfl,-,-⟩:=hv;go_simp;refine hK _ ?_;clear hK K s2
   repeat (apply z8G (by rfl);(intro K s;go_simp;exact id))
   refine zaO (by rfl) (by kernel_rfl) (fun s1 hs=>?_) (fun v hv K hK=>?_)
   ·go_simp
    refine(HRt.out s1).mono ?_;rintro e w' ⟨rfl,hk⟩;exact⟨rfl,hk⟩
   obtain⟨s3,-,rfl⟩:=hv;go_simp;refine hK _ ?_;clear hK K s3
   repeat (apply z8G (by rfl);(intro K s;go_simp;exact id))
   refine zaO (by rfl) (by kernel_rfl) (fun s1 hs=>?_) (fun v hv K hK=>?_)
   ·have hb1:=s1.keep.get H8.out.1 id
    have f1:∀ o,s1.val.frozen? ⟨w.heap.size,o,none⟩=false:=fun o=>by simp[World.frozen?,hb1]
    have c1:=s1.cell c80;have c2:=s1.cell c81;have e1:=zaA hb1 (i:=0) rfl;have hb2:=z0B hb1 0 (.int .u64 (n1:Int));have e2:Keep (fun _=>False) (s1.val.setCell ⟨w.heap.size,0,none⟩ (.int .u64 (n1:Int))) ((s1.val.setCell ⟨w.heap.size,0,none⟩ (.int .u64 (n1:Int))).setCell ⟨w.heap.size,1,none⟩ (.int .i64 (n2:Int))):=zaA hb2 (i:=1) rfl;have HS:=hid (e1.nx e2);clear e1 e2 hb1 hb2;go_simp;exact HS.out
   obtain⟨s4,-,-⟩:=hv;go_simp;refine hK _ ?_;clear hK K s4
   repeat (apply z8G (by rfl);(intro K s;go_simp;exact id))
   refine zsQ ?_;intro s1 hs;obtain⟨_,_,-,hrow,hown⟩:=hs (8,(fun (v:Value) (w':World)=>∃ ua c,v = .slice ua lf c∧Row w' 5 1 v lf (z0C r)∧∀ k,v.ownBlock=some k→w8.heap.size≤k) (.slice ua lf c)) (List.mem_append_left _ (List.mem_append_left _ (List.mem_append_right _ (List.mem_singleton.2 rfl))));have hk1:=s1.keep;obtain⟨w9,hw9⟩:=zX1 (s1.val);rw[← hw9] at hk1 hrow ⊢;clear hw9 hs s1 j0 j1 HL HRt;go_wp2_with (at_builtin;refine z0A ?_;intro q hq);have hb9:=hk1.get H8.out.1 id;refine bodyPost_ret (z2R rfl _ _ w.heap.size rfl [.int .u64 (n1:Int),.int .i64 (n2:Int)] (fun j u hu=>by rw[cell_of_row _ _ _ _ _ _ hb9];simpa using hu) _ Tryz.underlying28 rfl (by kernel_rfl)) rfl ⟨H8.out.2.2.nx hk1,?_⟩;rw[HB.out]
   by_cases hn:0<n1
   ·rw[if_pos hn]
    have hrb:rb=true:=by rw[HX.out.2.2.2.2];exact z2F.2 ⟨hn,by simp,by simp only;omega⟩
    subst hrb;simp only;refine⟨.slice ua lf c,rfl,?_,fun k e=>Nat.le_trans H8.out.2.2.size (hown k e)⟩;rw[← HX.out.2.2.1,HX.out.2.2.2.1];exact hrow
   ·rw[if_neg hn]
    have hrb:rb=false:=by
     rw[HX.out.2.2.2.2]
     cases h:z3B ⟨n1,(n2:Int)⟩ with
     | false=>rfl
     | true=>exact absurd (z2F.1 h).1 hn
    subst hrb;exact⟨n1,n2,ua,lf,c,rfl⟩
end
section
open Go.RowKit Go.Maps
open MI SO BM DM WM AC
theorem Row.setAt {w:World} {e:TypeId} {size g n cap:Nat} {xs:List Value} (h:Row w e size (.slice (.some ⟨g,0,none⟩) n cap) n xs) (i:Nat) (u:Value) :
  Row (w.setCell ⟨g,i,none⟩ u) e size (.slice (.some ⟨g,0,none⟩) n cap) n (xs.set i u):=by
 obtain⟨h0,h⟩:=h
 rcases h with ⟨hv,_⟩ | ⟨g',cap',cur,fz,hv,hg,hf,h1,h2,h3,h4⟩
 ·cases hv
 ·cases hv
  refine⟨by simpa using h0,.inr ⟨g,cap,cur.setIfInBounds i u,fz,rfl,?_,by simpa using hf,h1,h2,by simpa using h3,?_⟩⟩
  ·simp[World.setCell]
   rw[Array.getElem?_modify];simp[hg]
  ·rw[← h4]
   simp only[Array.toList_setIfInBounds];rw[List.take_set]
def put4 (l:List Value) (p:Nat) (y:List Value):List Value:=l.take p ++ y ++ l.drop (p+4)
theorem zjD (l:List Value) (p:Nat) (a b c d:Value) (hp:p+4≤l.length):(((l.set p a).set (p+1) b).set (p+2) c).set (p+3) d=put4 l p [a,b,c,d]:=by
 unfold put4;apply List.ext_getElem?;intro j;simp only[List.getElem?_set,List.length_set]
 by_cases h:j<p
 ·rw[if_neg (by omega),if_neg (by omega),if_neg (by omega),if_neg (by omega),List.append_assoc,List.getElem?_append_left (by simp;omega),List.getElem?_take_of_lt h]
 ·by_cases h4:j<p+4
  ·obtain⟨k,rfl⟩:∃ k,j=p+k:=⟨j - p,by omega⟩
   have hk:k<4:=by omega
   rw[List.getElem?_append_left (by simp;omega),List.getElem?_append_right (by simp;omega)];simp only[List.length_take,Nat.min_eq_left (show p≤l.length by omega),Nat.add_sub_cancel_left]
   match k,hk with
   | 0,_=>simp;omega
   | 1,_=>simp;omega
   | 2,_=>simp;omega
   | 3,_=>simp;omega
  ·rw[if_neg (by omega),if_neg (by omega),if_neg (by omega),if_neg (by omega),List.getElem?_append_right (by simp;omega),List.getElem?_drop]
   congr 1;simp;omega
theorem zrL (xs z y:List Value) (p:Nat) (hz:z.length=4) (hp:p≤xs.length):put4 (splice (xs ++ z) (p+4) (xs.drop p)) p y=xs.take p ++ y ++ xs.drop p:=by
 unfold put4 splice;have h1:((xs ++ z).take (p+4)).length=p+4:=by simp;omega
 rw[List.append_assoc,List.take_append_of_le_length (by omega),List.drop_append,h1,Nat.sub_self,List.drop_zero,List.drop_of_length_le (by omega),List.nil_append];rw[List.take_take,Nat.min_eq_left (by omega),List.take_append_of_le_length hp];have h2:(xs ++ z).drop (p+4+(xs.drop p).length) = []:=List.drop_of_length_le (by simp;omega);rw[h2,List.append_nil,List.append_assoc]
theorem z5V {vs ws:List Vt} {us ts:List Value} (h:us.length=vs.length):z0S (vs ++ ws) (us ++ ts)=z0S vs us ++ z0S ws ts:=by
 unfold z0S;rw[List.zip_append h.symm];simp
theorem z5X {vs:List Vt} {us:List Value} (h:us.length=vs.length) (p:Nat) (hp:p≤vs.length):(z0S vs us).take (p * 4)=z0S (vs.take p) (us.take p)∧(z0S vs us).drop (p * 4)=z0S (vs.drop p) (us.drop p):=by
 have e:z0S vs us=z0S (vs.take p) (us.take p) ++ z0S (vs.drop p) (us.drop p):=by
  rw[← z5V (by simp[h]),List.take_append_drop,List.take_append_drop]
 have hl:(z0S (vs.take p) (us.take p)).length=p * 4:=by rw[z4C (by simp[h])];simp;omega
 rw[e];exact⟨by rw[List.take_append_of_le_length (by omega),List.take_of_length_le (by omega)],by rw[List.drop_append_of_le_length (by omega),List.drop_of_length_le (by omega),List.nil_append]⟩
theorem zlU {vs:List Vt} {us:List Value} (h:us.length=vs.length) (p:Nat) (hp:p<vs.length) (x:Vt) (u:Value):put4 (z0S vs us) (p * 4) (z2U x u)=z0S (vs.set p x) (us.set p u):=by
 unfold put4;rw[(z5X h p (by omega)).1,show p * 4+4=(p+1) * 4 by omega,(z5X h (p+1) (by omega)).2]
 have e:z0S (vs.set p x) (us.set p u)=z0S (vs.take p ++ x :: vs.drop (p+1)) (us.take p ++ u :: us.drop (p+1)):=by
  rw[List.set_eq_take_append_cons_drop,if_pos hp,List.set_eq_take_append_cons_drop,if_pos (by omega)]
 rw[e,z5V (by simp[h]),List.append_assoc];rfl
theorem zlQ {vs:List Vt} {us:List Value} (h:us.length=vs.length) (p:Nat) (hp:p≤vs.length) (x:Vt) (u:Value):(z0S vs us).take (p * 4) ++ z2U x u ++ (z0S vs us).drop (p * 4)=z0S (vs.take p ++ x :: vs.drop p) (us.take p ++ u :: us.drop p):=by
 rw[(z5X h p hp).1,(z5X h p hp).2,z5V (by simp[h]),List.append_assoc];rfl
theorem Votes.re {w1 w3:World} {F:Nat→Prop} {g m cap:Nat} {vs VS:List Vt} {us US:List Value} (h:Votes w1 F (.slice (some ⟨g,0,none⟩) m cap) vs us) (hk:Keep (fun k=>k=g) w1 w3)
  (hr:Row w3 31 4 (.slice (some ⟨g,0,none⟩) m cap) VS.length (z0S VS US)) (hlen:US.length=VS.length)
  (he:∀ j (hj:j<VS.length),(∃ i,∃ hi:i<vs.length,VS[j]=vs[i]∧US.getD j undef=us.getD i undef)∨(Row w1 5 1 (US.getD j undef) VS[j].val.length (z0C VS[j].val)∧∀ k,(US.getD j undef).ownBlock=some k→F k∧k≠g)) :
  Votes w3 F (.slice (some ⟨g,0,none⟩) m cap) VS US:=by
 have hg:(Value.slice (some ⟨g,0,none⟩) m cap).ownBlock=some g:=rfl;refine⟨hr,hlen,h.own,fun j hj=>?_⟩
 rcases he j hj with ⟨i,hi,e1,e2⟩ | ⟨h2,h3⟩
 ·obtain⟨h2,h3⟩:=h.each i hi
  rw[e1,e2]
  exact⟨h2.keep hk fun k e x=>by
   have x':k=g:=x;subst x'
   exact(h3 k e).2 hg,h3⟩
 ·exact⟨h2.keep hk fun k e x=>(h3 k e).2 x,fun k e=>⟨(h3 k e).1,fun x=>by
   rw[hg] at x
   exact(h3 k e).2 (Option.some.inj x).symm⟩⟩
theorem Votes.put {w1 w3:World} {F:Nat→Prop} {g m cap:Nat} {vs:List Vt} {us:List Value} (h:Votes w1 F (.slice (some ⟨g,0,none⟩) m cap) vs us) (p:Nat) (hp:p<vs.length) (x:Vt) (u:Value)
  (hu:Row w1 5 1 u x.val.length (z0C x.val)) (hou:∀ k,u.ownBlock=some k→F k∧k≠g) (hk:Keep (fun k=>k=g) w1 w3) (hr:Row w3 31 4 (.slice (some ⟨g,0,none⟩) m cap) vs.length (put4 (z0S vs us) (p * 4) (z2U x u))) :
  Votes w3 F (.slice (some ⟨g,0,none⟩) m cap) (vs.set p x) (us.set p u):=by
 rw[zlU h.len p hp] at hr;refine h.re hk (by rw[List.length_set];exact hr) (by rw[List.length_set,List.length_set];exact h.len) fun j hj=>?_;rw[List.length_set] at hj
 by_cases e:j=p
 ·subst e
  right
  have e2:(us.set j u).getD j undef=u:=by
   rw[List.getD_eq_getElem?_getD,List.getElem?_set_self (by rw[h.len];exact hp)];rfl
  rw[e2];simp only[List.getElem_set_self];exact⟨hu,hou⟩
 ·left
  refine⟨j,hj,by rw[List.getElem_set_ne (fun x=>e x.symm)],?_⟩;simp only[List.getD_eq_getElem?_getD];rw[List.getElem?_set_ne (fun x=>e x.symm)]
theorem Votes.ins {w1 w3:World} {F:Nat→Prop} {g m cap:Nat} {vs:List Vt} {us:List Value} {z:Vt} {zu:Value} (h:Votes w1 F (.slice (some ⟨g,0,none⟩) m cap) (vs ++ [z]) (us ++ [zu])) (hlen:us.length=vs.length) (p:Nat) (hp:p≤vs.length) (x:Vt) (u:Value)
  (hu:Row w1 5 1 u x.val.length (z0C x.val)) (hou:∀ k,u.ownBlock=some k→F k∧k≠g) (hk:Keep (fun k=>k=g) w1 w3)
  (hr:Row w3 31 4 (.slice (some ⟨g,0,none⟩) m cap) (vs.length+1) (put4 (splice (z0S (vs ++ [z]) (us ++ [zu])) (p * 4+4) ((z0S vs us).drop (p * 4))) (p * 4) (z2U x u))) :
  Votes w3 F (.slice (some ⟨g,0,none⟩) m cap) (vs.take p ++ x :: vs.drop p) (us.take p ++ u :: us.drop p):=by
 rw[z7Y hlen,zrL _ _ _ _ (by simp[z2U]) (by rw[z4C hlen];omega),zlQ hlen p hp] at hr;have hVl:(vs.take p ++ x :: vs.drop p).length=vs.length+1:=by simp;omega
 have hget:∀ i,i<vs.length→(us ++ [zu]).getD i undef=us.getD i undef:=fun i hi=>by
  simp only[List.getD_eq_getElem?_getD];rw[List.getElem?_append_left (by rw[hlen];exact hi)]
 refine h.re hk (by rw[hVl];exact hr) (by simp[hlen]) fun j hj=>?_;rw[hVl] at hj
 rcases Nat.lt_trichotomy j p with e | e | e
 ·left
  refine⟨j,by simp;omega,?_,?_⟩
  ·rw[List.getElem_append_left (by simp;omega),List.getElem_append_left (by omega)]
   simp
  ·rw[hget j (by omega)]
   simp only[List.getD_eq_getElem?_getD];rw[List.getElem?_append_left (by simp;omega),List.getElem?_take_of_lt e]
 ·subst e
  right
  have e2:(us.take j ++ u :: us.drop j).getD j undef=u:=by
   simp only[List.getD_eq_getElem?_getD];rw[List.getElem?_append_right (by simp;omega)];simp[show min j us.length=j by omega]
  have e3:(vs.take j ++ x :: vs.drop j)[j]=x:=by
   rw[List.getElem_append_right (by simp;omega)];simp[show min j vs.length=j by omega]
  rw[e2,e3];exact⟨hu,hou⟩
 ·left
  obtain⟨i,rfl⟩:∃ i,j=i+1:=⟨j - 1,by omega⟩;refine⟨i,by simp;omega,?_,?_⟩
  ·rw[List.getElem_append_right (by simp;omega),List.getElem_append_left (by omega)]
   simp only[List.length_take,show i+1 - min p vs.length=(i - p)+1 by omega,List.getElem_cons_succ,List.getElem_drop];congr 1;omega
  ·rw[hget i (by omega)]
   simp only[List.getD_eq_getElem?_getD];rw[List.getElem?_append_right (by simp;omega)];simp only[List.length_take,show i+1 - min p us.length=(i - p)+1 by omega,List.getElem?_cons_succ,List.getElem?_drop];congr 2;omega
theorem Votes.lts {w:World} {F:Nat→Prop} {v:Value} {vs:List Vt} {us:List Value} (h:Votes w F v vs us):Votes w (fun k=>F k∧k<w.heap.size) v vs us:=
 ⟨h.row,h.len,fun k e=>⟨h.own k e,h.row.lt e⟩,fun j hj=>let ⟨h2,h3⟩:=h.each j hj;⟨h2,fun k e=>⟨⟨(h3 k e).1,h2.lt e⟩,(h3 k e).2⟩⟩⟩
theorem zgJ (g cap lo size:Nat):z1C (some ⟨g,0,none⟩) cap lo size=some ⟨g,if cap=lo then 0 else lo * size,none⟩:=by
 unfold z1C;split
 ·rfl
 ·simp only[Option.map_some]
  rw[z0K,Nat.zero_add]
theorem zdC (l:List Value) (i:Nat):splice l i []=l:=by simp[splice]
theorem copied (xs z:List Value) (p m:Nat) (hx:xs.length=p+m):((xs ++ z).drop p).take m=xs.drop p:=by
 rw[List.drop_append_of_le_length (by omega),List.take_append_of_le_length (by simp;omega),List.take_of_length_le (by simp;omega)]
theorem zfK {w10 w13 w17:World} {a d sb:Nat} {D:Dk} {S:St} {b:Bal} {nv':Value} {vs':List Vt} {us':List Value} {X Y Z K:Nat→Prop} (e1:∀ i,X i→¬ Y i) (e2:∀ i,X i→¬ Z i) (e3:∀ i,Y i→¬ Z i)
  (hbx:BoxA a (accC sb b nv' S.dead) 86 w17 X) (hst:StoT sb d D S w13 Y) (hk:Keep K w13 w17) (hK:∀ k,Y k→¬ K k) (hv:Votes w17 (fun k=>Z k∨w10.heap.size≤k) nv' vs' us') (lX:∀ i,X i→i<w10.heap.size) (lY:∀ i,Y i→i<w10.heap.size) :
  AcT a d D ⟨S,b,vs'⟩ w17 (fun k=>X k∨Y k∨((Z k∨w10.heap.size≤k)∧k<w17.heap.size)):=
 ⟨sb,nv',X,Y,_,hbx,(StoT.lives _ _ _ _).keep hst hk hK,⟨⟨us',hv.lts⟩,fun k x=>x.2⟩,e1,fun i x y=>y.1.elim (e2 i x) fun z=>by have:=lX i x;omega,fun i x y=>y.1.elim (e3 i x) fun z=>by have:=lY i x;omega,rfl⟩
theorem Votes.one {w:World} {F:Nat→Prop} {v:Value} {vs:List Vt} {us:List Value} (h:Votes w F v vs us):∀ x ∈ z0S vs us,x.oneCell'=true:=fun x hx=>by
 unfold z0S at hx;obtain⟨p,hp,hx⟩:=List.mem_flatMap.1 hx;simp only[z2U,List.mem_cons,List.not_mem_nil,or_false] at hx
 rcases hx with rfl | rfl | rfl | rfl
 ·rfl
 ·rfl
 ·rfl
 ·obtain⟨j,hj,e⟩:=List.mem_iff_getElem.1 hp
  have hj2:j<vs.length:=by rw[List.length_zip] at hj;omega
  obtain⟨h2,-⟩:=h.each j hj2
  have e2:us.getD j undef=p.2:=by
   rw[← e,List.getElem_zip,List.getD_eq_getElem?_getD,List.getElem?_eq_getElem (by rw[h.len];exact hj2)];rfl
  rw[e2] at h2;obtain⟨ad,cap,e3,-⟩:=h2.form;rw[e3];rfl
theorem z7Z {w:World} {b:Nat} {T:TypeId} {a0 a1 a2 a3:Value} (H:w.heap[b]?=some (.cells #[a0,a1,a2,a3] T (0,0))) :
  w.cell? ⟨b,0,none⟩=some a0∧w.cell? ⟨b,1,none⟩=some a1∧w.cell? ⟨b,2,none⟩=some a2∧w.cell? ⟨b,3,none⟩=some a3∧(∀ o,w.frozen? ⟨b,o,none⟩=false)∧b<w.heap.size:=by
 refine⟨?_,?_,?_,?_,?_,z0N H⟩ <;> simp[World.cell?,World.frozen?,H]
end
section
open Go.RowKit Go.Maps
open MI SO BM DM WM AC
def ReadPost (w:World) (a sb B:Nat) (nv:Value) (st:Bal×List Vt) (p:Str×Str) (e:Ending) (w':World):Prop:=
 Keep (fun k=>k=a∨nv.ownBlock=some k) w w'∧match rd1 st p with
 | none=>e = .returned (.bool false)
 | some st'=>e = .returned (.bool true)∧∃ nv' us',w'.heap[a]?=some (.cells (accC sb st'.1 nv' false) 86 (0,0))∧Votes w' (fun k=>B≤k) nv' st'.2 us'
theorem zfC (k:Str) (i:Nat) (h:i<(str k).size) (hi:i<k.length):(str k)[i]'h=k[i]:=by
 simp[str];rfl
theorem z4V {w:World} {b:Nat} {T:TypeId} {a0 a1:Value} (H:w.heap[b]?=some (.cells #[a0,a1] T (0,0))) :
  w.cell? ⟨b,0,none⟩=some a0∧w.cell? ⟨b,1,none⟩=some a1∧(∀ o,w.frozen? ⟨b,o,none⟩=false)∧b<w.heap.size:=by
 refine⟨?_,?_,?_,z0N H⟩ <;> simp[World.cell?,World.frozen?,H]
theorem zmD (w:World) (a sb B:Nat) (hB:a<B) (hBw:B≤w.heap.size) (st:Bal×List Vt) (nv:Value) (us:List Value) (k v:Str) (hh:w.heap[a]?=some (.cells (accC sb st.1 nv false) 86 (0,0))) (hv:Votes w (fun k=>B≤k) nv st.2 us) (hk:k.length≤1000000) (hvl:v.length≤1000000) (hN:st.2.length≤1000000) :
  Calls Tryz.prog 60 #[.pointer (some ⟨a,0,none⟩),.string (str k),.string (str v)] w (ReadPost w a sb B nv st (k,v)):=by
 obtain⟨Post,hPost⟩:=zX1 (ReadPost w a sb B nv st (k,v));rw[← hPost];have hgt:=zpN w v hvl;have H0:=hid (zA1 hh (zA1 hv (zA1 hk hN)));have HP:=hid hPost;clear hh hv hk hN hvl hPost;go_enter Tryz.func60,Tryz.ntmps60;go_wp2_with (at_builtin;refine z0A ?_;intro q hq);refine hgt.mono ?_;rintro e w1 ⟨hk1,hres⟩;clear hgt
 cases hg:getB v with
 | none=>
   rw[hg] at hres;obtain⟨n,d,ua,kk,c,rfl⟩:=hres;have hR:rd1 st (k,v)=none:=by unfold rd1;rw[hg]
   have HR:=hid hR;have hn2:=heap_alloc_new w1 (.cells #[.int .u64 (n:Int),.int .i64 (d:Int)] 28);have hk2:=kal w1 (.cells #[.int .u64 (n:Int),.int .i64 (d:Int)] 28);have H2:=hid (zA1 hn2 (hk1.nx hk2));clear hn2 hk2 hg hR hk1
   go_upto_region 2 with fail
   obtain⟨w2,hw2⟩:=zX1 (w1.alloc (.cells #[.int .u64 (n:Int),.int .i64 (d:Int)] 28));rw[← hw2] at H2 ⊢;clear hw2;obtain⟨c0,c1,cf,cb⟩:=z4V H2.out.1;have hb2:=H2.out.2.get H0.out.1 id;obtain⟨p0,p1,p2,p3,p4,pf,pb⟩:=z1Z hb2;clear c0 c1 cf cb;obtain⟨c0,c1,cf,cb⟩:=z4V H2.out.1;have hsz:=z2A k;obtain⟨kl,hkl⟩:=zX1 (k.length);rw[← hkl] at hsz;have hk6:kl≤1000000:=by rw[hkl];exact H0.out.2.2.1
   by_cases hp:k=pK
   ·have q1:((str k).toList == [112])=true:=by rw[z0X,hp];rfl
    have hkz:Keep (fun j=>j=a) w2 ((w2.setCell ⟨a,1,none⟩ (.int .u64 (n:Int))).setCell ⟨a,2,none⟩ (.int .i64 (d:Int))):=by refine Keep.setCell (Keep.setCell (Keep.refl _ _) (.inl ?_) _) (.inl ?_) _ <;> rfl
    have HZ:=hid (H2.out.2.next hkz (H:=fun j=>j=a∨nv.ownBlock=some j) (fun _ _ x=>x.elim) (fun _ _ x=>.inl x));clear p0 p3 p4 pb hp hb2 hkz hkl hsz;go_wp2_with (at_builtin;refine z0A ?_;intro q hq);show Post (.returned (.bool false)) _;rw[HP.out];exact⟨HZ.out,by rw[HR.out]⟩
   ·have q1:((str k).toList == [112])=false:=by rw[z0X,beq_eq_false_iff_ne];exact hp
    have HZ:=hid (H2.out.2.mono (G:=fun j=>j=a∨nv.ownBlock=some j) (fun _ _ x=>x.elim));have fin:Post (.returned (.bool false)) w2:=by rw[HP.out];exact⟨HZ.out,by rw[HR.out]⟩
    have HF:=hid fin;clear p0 p1 p2 p3 p4 pf pb hb2 hp c0 c1 cf cb fin
    by_cases h9:kl=9
    ·subst h9
     cases k with
     | nil=>cases hkl
     | cons ch r=>
       have hix:=zfC (ch :: r) 0 (by rw[hsz];decide) (by simp);rw[List.getElem_cons_zero] at hix
       by_cases hch:ch.toNat=118
       ·have q2:((ch.toNat:Int) != 118)=false:=by simp;omega
        clear hkl;go_wp2_with (at_builtin;refine z0A ?_;intro q hq);exact HF.out
       ·have q2:((ch.toNat:Int) != 118)=true:=by simp;omega
        clear hkl;go_wp2_with (at_builtin;refine z0A ?_;intro q hq);exact HF.out
    ·have q2:((kl:Int) != 9)=true:=by simp;omega
     clear hkl;go_wp2_with (at_builtin;refine z0A ?_;intro q hq);exact HF.out
 | some q=>
   obtain⟨b,rest⟩:=q;rw[hg] at hres;obtain⟨u,rfl,hrow,hown⟩:=hres;obtain⟨ua,uc,rfl,-⟩:=hrow.form;have hR:rd1 st (k,v)=if k=pK then (if rest = [] then some (b,st.2) else none) else if z2H k≠0∧rest.length≤100 then some (st.1,st.2 ++ [⟨z2H k,b,rest⟩]) else none:=by unfold rd1;rw[hg]
   have HR:=hid hR;obtain⟨rl,hrl⟩:=zX1 (rest.length);rw[← hrl] at hrow hown ⊢;have Hrl:=hid hrl;have hn2:=heap_alloc_new w1 (.cells (balC b) 28);have hk2:=kal w1 (.cells (balC b) 28);have H2:=hid (zA1 hn2 (zA1 (hk1.nx hk2) (zA1 (hrow.keep hk2 (fun _ _ x=>x)) hown)));clear hn2 hk2 hg hR hk1 hrow hown hrl
   go_upto_region 2 with fail
   obtain⟨w2,hw2⟩:=zX1 (w1.alloc (.cells (balC b) 28));rw[← hw2] at H2 ⊢;clear hw2;have hb2:=H2.out.2.1.get H0.out.1 id;obtain⟨p0,p1,p2,p3,p4,pf,pb⟩:=z1Z hb2;obtain⟨c0,c1,cf,cb⟩:=z4V H2.out.1;have hsz:=z2A k;obtain⟨kl,hkl⟩:=zX1 (k.length);rw[← hkl] at hsz;have hk6:kl≤1000000:=by rw[hkl];exact H0.out.2.2.1
   by_cases hp:k=pK
   ·have q1:((str k).toList == [112])=true:=by rw[z0X,hp];rfl
    have hkz:Keep (fun j=>j=a) w2 ((w2.setCell ⟨a,1,none⟩ (.int .u64 (b.n:Int))).setCell ⟨a,2,none⟩ (.int .i64 b.node)):=by refine Keep.setCell (Keep.setCell (Keep.refl _ _) (.inl ?_) _) (.inl ?_) _ <;> rfl
    have HZ:=hid (zA1 (H2.out.2.1.next hkz (H:=fun j=>j=a∨nv.ownBlock=some j) (fun _ _ x=>x.elim) (fun _ _ x=>.inl x)) (zA1 (z0B (z0B hb2 1 (.int .u64 (b.n:Int))) 2 (.int .i64 b.node))
     ((H0.out.2.1.keep H2.out.2.1 (fun _ _ x=>x)).keep hkz (fun j x e=>by have e':j=a:=e;have x':B≤j:=x;omega))))
    have Hp:=hid hp;clear p0 p3 p4 pb hp hb2 hkz hkl hsz
    by_cases hr0:rl=0
    ·have q2:((rl:Int) == 0)=true:=by simp[hr0]
     have Hr:=hid hr0;subst hr0;go_wp2_with (at_builtin;refine z0A ?_;intro q hq);show Post (.returned (.bool true)) _;rw[HP.out];refine⟨HZ.out.1,?_⟩;rw[HR.out,if_pos Hp.out,if_pos (List.length_eq_zero_iff.1 Hrl.out.symm)];exact⟨rfl,nv,us,HZ.out.2.1,HZ.out.2.2⟩
    ·have q2:((rl:Int) == 0)=false:=by simp;omega
     have q3:decide (rl=0)=false:=decide_eq_false hr0;have Hr:=hid hr0;go_wp2_with (at_builtin;refine z0A ?_;intro q hq);show Post (.returned (.bool false)) _;rw[HP.out];refine⟨HZ.out.1,?_⟩;rw[HR.out,if_pos Hp.out,if_neg (fun e=>Hr.out (by rw[Hrl.out,e];rfl))]
   ·have q1:((str k).toList == [112])=false:=by rw[z0X,beq_eq_false_iff_ne];exact hp
    have HZ:=hid (H2.out.2.1.mono (G:=fun j=>j=a∨nv.ownBlock=some j) (fun _ _ x=>x.elim))
    have fin:(z2H k=0∨100<rl)→Post (.returned (.bool false)) w2:=fun h=>by
     rw[HP.out];refine⟨HZ.out,?_⟩;rw[HR.out,if_neg hp,if_neg (fun x=>h.elim x.1 (fun y=>by have:=x.2;have:=Hrl.out;omega))]
    have HF:=hid fin;have Hp:=hid hp;clear p0 p1 p2 p4 hb2 hp fin
    by_cases h9:kl=9
    ·subst h9
     cases k with
     | nil=>cases hkl
     | cons ch r=>
       have hix:=zfC (ch :: r) 0 (by rw[hsz];decide) (by simp);rw[List.getElem_cons_zero] at hix
       by_cases hch:ch.toNat=118
       ·have q2:((ch.toNat:Int) != 118)=false:=by simp;omega
        have hr8:r.length=8:=by simp at hkl;omega
        have hch2:ch=118:=by rw[← UInt8.toNat_inj];exact hch
        have hsK:z2H (ch :: r)=valN r:=by unfold z2H;simp only;rw[if_pos ⟨hch2,hr8⟩]
        by_cases hl:rl≤100
        ·have q3:decide ((100:Int)<(rl:Int))=false:=decide_eq_false (by omega)
         have q4:decide (100<rl)=false:=decide_eq_false (by omega);have HC:=hid (zA1 hr8 (zA1 hsK (zA1 hl hch2)));clear hkl hr8 hsK hl hch2;go_wp2_with (at_builtin;refine z0A ?_;intro q hq);clear hix q2 q3 q4 hch
         go_loopw [10,11] (fun sv iv wr=>∃ i:Nat,i≤8∧sv = .int .u64 (valN (r.take i):Nat)∧iv = .int .i64 (i+1:Nat)∧wr=w2) (fun _ iv _=>9 - (intOf iv).toNat)
         case atStart=>exact⟨0,by omega,rfl,rfl,rfl⟩
         case round=>
          obtain⟨i,hi,rfl,rfl,rfl⟩:=hrel;obtain⟨i1,hi1⟩:=zX1 (i+1);rw[← hi1];have hsz9:i1≤9:=by omega
          by_cases hi8:i<8
          ·have q2:(i1:Int)<9:=by omega
           have hir:i<r.length:=by have:=HC.out.1;omega
           have hlt:i1<(str (ch :: r)).size:=by rw[hsz];omega
           have hix:=zfC (ch :: r) i1 hlt (by simp;omega);have hel:(ch :: r)[i1]'(by simp;omega)=r[i]:=by subst hi1;simp
           rw[hel] at hix;have hv:=zbD (r.take i)
           have hv7:valN (r.take i)<72057594037927936:=Nat.lt_of_lt_of_le hv (by
            rw[List.length_take,Nat.min_eq_left (by omega)]
            exact Nat.le_trans (Nat.pow_le_pow_right (by decide) (show i≤7 by omega)) (by decide))
           have hsn:valN (r.take (i+1))=valN (r.take i) * 256+(r[i]).toNat:=by
            rw[List.take_add_one,List.getElem?_eq_getElem hir,Option.toList_some,zbU]
           have hb:=(r[i]).toNat_lt;obtain⟨x,hx⟩:=zX1 (r[i]);rw[← hx] at hix hsn hb;obtain⟨xn,hxn⟩:=zX1 (x.toNat);rw[← hxn] at hsn hb;have hxn':=hxn.symm;obtain⟨vv,hvv⟩:=zX1 (valN (r.take i));rw[← hvv] at hv7 hsn ⊢;obtain⟨v8,e8⟩:=zX1 (vv * 256);have b1:(vv:Int) * 256=(v8:Int):=by omega
           have b2:=wu64 v8 (by omega);have b3:=wu64 xn (by omega);have b4:=u64_or_nat v8 xn (by omega) (by omega);rw[nat_join 8 v8 xn (by omega) (by omega)] at b4;obtain⟨y,hy⟩:=zX1 (v8+xn);rw[← hy] at b4;have HY:=hid (show y=valN (r.take (i+1)) by rw[hsn];omega);have HI:=hid hi1;clear hv hir hel hsn hb hx hvv hv7 e8 hy hxn hi1;go_wp2_with (at_builtin;refine z0A ?_;intro q hq);exact⟨⟨i+1,by omega,by rw[HY.out],by have:=HI.out;go_num,by first | rfl | trivial⟩,by have:=HI.out;simp[intOf];omega⟩
          ·obtain rfl:i=8:=by omega
           subst hi1;rw[show r.take 8=r from List.take_of_length_le (by have:=HC.out.1;omega)];obtain⟨sl,hsl⟩:=zX1 (valN r);rw[← hsl];have Hsl:=hid hsl;clear hsl hi hsz9;go_wp2_with (at_builtin;refine z0A ?_;intro q hq);obtain⟨ao,nc,hnv,-⟩:=H0.out.2.1.row.form;subst hnv;obtain⟨n,hn⟩:=zX1 (st.2.length);rw[← hn] at p3;have hn6:n≤1000000:=by rw[hn];exact H0.out.2.2.2
           have Hn:=hid hn;clear hn;refine z0G [] (by kernel_rfl) (by kernel_rfl) ?_
           repeat (first | (apply z0F (by rfl);(intro K w';go_simp;exact id)) | (apply z0J (by rfl);(intro K;go_simp;exact id)))
           (refine z1Q (by rfl) (by rfl) (fun K hK=>?_);go_simp;refine hK _ _ (Pre.push _ rfl) ?_;clear hK K)
           have hk4:Keep (fun _=>False) wr (wr.alloc (.cells #[.int .u64 (sl:Int),.int .u64 (b.n:Int),.int .i64 b.node,.slice ua rl uc] 31)).drew:=((Keep.refl _ _).alloc _).drew;have hn4:(wr.alloc (.cells #[.int .u64 (sl:Int),.int .u64 (b.n:Int),.int .i64 b.node,.slice ua rl uc] 31)).drew.heap[wr.heap.size]?=some (.cells #[.int .u64 (sl:Int),.int .u64 (b.n:Int),.int .i64 b.node,.slice ua rl uc] 31):=heap_alloc_new wr _;obtain⟨w4,hw4⟩:=zX1 ((wr.alloc (.cells #[.int .u64 (sl:Int),.int .u64 (b.n:Int),.int .i64 b.node,.slice ua rl uc] 31)).drew);rw[← hw4] at hk4 hn4 ⊢;clear hw4;have hv4:=(H0.out.2.1.keep H2.out.2.1 (fun _ _ x=>x)).keep hk4 (fun _ _ x=>x);have hb4:=hk4.get (H2.out.2.1.get H0.out.1 id) id;have hrow4:=H2.out.2.2.1.keep hk4 (fun _ _ x=>x);have hvr:=hv4.row;rw[← Hn.out] at hvr hb4;refine z0M (by rfl) (by rfl) (fun K hK=>?_)
           refine z0R z5B (.tmp 62) (.tmp 67) rfl rfl hvr (some ⟨wr.heap.size,0,none⟩) 1 1 (z2U ⟨sl,b,rest⟩ (.slice ua rl uc)) rfl
            ⟨rfl,fun _=>⟨_,rfl,fun t u hu=>by rw[z0K,Nat.zero_add,cell_of_row _ _ _ _ _ _ hn4];simpa [z2U] using hu⟩⟩ (fun u hu=>by simp[z2U] at hu;rcases hu with rfl | rfl | rfl | rfl <;> rfl) (by unfold maxLen;omega) (by omega) ?_
           intro v5 w5 hr5 hk5 hv5;have hk5:Keep (fun k=>(Value.slice ao n nc).ownBlock=some k) w4 w5:=hk5;have hv5:(v5 = .slice ao n nc∧1=0)∨∃ j,v5.ownBlock=some j∧((Value.slice ao n nc).ownBlock=some j∨j=w4.heap.size):=hv5;refine hK _ _ ?_;clear hK K;obtain⟨a5,c5,rfl,-⟩:=hr5.form;have hall:∀ j,(Value.slice ao n nc).ownBlock=some j→B≤j:=fun j e=>H0.out.2.1.own j (by rw[z1H ao _ n];exact e)
           have hown5:∀ j,(Value.slice a5 (n+1) c5).ownBlock=some j→B≤j∧((Value.slice ao n nc).ownBlock=some j∨w4.heap.size≤j):=fun j e=>by
            rcases hv5 with ⟨-,h⟩ | ⟨j',h1,h2⟩
            ·omega
            ·rw[e] at h1
             cases h1
             rcases h2 with h2 | h2
             ·exact⟨hall j h2,.inl h2⟩
             ·have h7:=H2.out.2.1.size;have h8:=hk4.size;exact⟨by omega,.inr (by omega)⟩
           have hb5:=hk5.get hb4 (fun e=>by have:=hall a e;omega)
           have hvp:=hv4.push (x:=⟨sl,b,rest⟩) (u:=.slice ua rl uc) (F':=fun k=>B≤k) (w':=w5) (v':=.slice a5 (n+1) c5) (by rw[← Hrl.out];exact hrow4) (fun j e=>by
            have h1:=H2.out.2.2.2 j e;have h2:=z0N H0.out.1;refine⟨by omega,fun x=>?_⟩;have h3:=H0.out.2.1.row.lt x
            omega) (by rw[← Hn.out];exact hr5) (hk5.mono fun j _ e=>by rw[z1H ao _ n];exact e) (fun _ x=>x) (fun j e=>⟨(hown5 j e).1,(hown5 j e).2.imp (fun y=>by rw[z1H ao _ n];exact y) id⟩)
           obtain⟨p0,p1,p2,p3,p4,pf,pb⟩:=z1Z hb5;have hkz:Keep (fun j=>j=a) w5 (w5.setCell ⟨a,3,none⟩ (.slice a5 (n+1) c5)):=kst;have hb6:=z0B hb5 3 (.slice a5 (n+1) c5);have hv6:=hvp.keep hkz (fun j x e=>by have e':j=a:=e;have x':B≤j:=x;omega)
           have hkA:Keep (fun j=>j=a∨(Value.slice ao st.2.length nc).ownBlock=some j) w (w5.setCell ⟨a,3,none⟩ (.slice a5 (n+1) c5)):=
            ((H2.out.2.1.nx hk4).next hk5 (fun _ _ x=>x.elim) (fun j _ e=>.inr (by rw[z1H ao _ n];exact e))).next hkz (fun _ _ x=>x) (fun _ _ e=>.inl e)
           have HW:=hid (zA1 hkA (zA1 hb6 hv6));clear hr5 hk5 hv5 hall hown5 hvp p0 p1 p2 p4 pb hkz hb6 hv6 hkA hb5 hk4 hn4 hv4 hb4 hrow4 hvr
           repeat (first | (apply z0F (by rfl);(intro K w';go_simp;exact id)) | (apply z0J (by rfl);(intro K;go_simp;exact id)))
           (refine z0M (by rfl) (by rfl) (fun K hK=>?_);go_simp;refine hK _ _ ?_;clear hK K)
           refine z0T ?_
           by_cases hs0:sl=0
           ·have q5:decide ((0:Int)<(sl:Int))=false:=by simp;omega
            have q6:decide (0<sl)=false:=decide_eq_false (by omega);have Hs:=hid hs0;clear hs0;go_wp2_with (at_builtin;refine z0A ?_;intro q hq);show Post (.returned (.bool false)) _;rw[HP.out];refine⟨HW.out.1,?_⟩;rw[HR.out,if_neg Hp.out,if_neg (fun x=>x.1 (by rw[HC.out.2.1,← Hsl.out,Hs.out]))]
           ·have q5:(0:Int)<(sl:Int):=by omega
            have q6:decide (0<sl)=true:=decide_eq_true (by omega);have Hs:=hid hs0;clear hs0;go_wp2_with (at_builtin;refine z0A ?_;intro q hq);show Post (.returned (.bool true)) _;rw[HP.out];refine⟨HW.out.1,?_⟩;rw[HR.out,if_neg Hp.out,if_pos ⟨by rw[HC.out.2.1,← Hsl.out];exact Hs.out,by rw[← Hrl.out];exact HC.out.2.2.1⟩,HC.out.2.1,← Hsl.out];exact⟨rfl,_,_,HW.out.2.1,HW.out.2.2⟩
        ·have q3:(100:Int)<(rl:Int):=by omega
         have Hl:=hid hl;clear hkl hr8 hsK hl hch2;go_wp2_with (at_builtin;refine z0A ?_;intro q hq);exact HF.out (.inr (by have:=Hl.out;omega))
       ·have q2:((ch.toNat:Int) != 118)=true:=by simp;omega
        have hs0:z2H (ch :: r)=0:=by unfold z2H;simp only;rw[if_neg (fun x=>hch (by rw[x.1];rfl))]
        have HS:=hid hs0;clear hkl hs0;go_wp2_with (at_builtin;refine z0A ?_;intro q hq);exact HF.out (.inl HS.out)
    ·have q2:((kl:Int) != 9)=true:=by simp;omega
     have hs0:z2H k=0:=by
      cases k with
      | nil=>rfl
      | cons ch r=>unfold z2H;simp only;rw[if_neg (fun x=>h9 (by rw[hkl];simp;omega))]
     have HS:=hid hs0;clear hkl hs0;go_wp2_with (at_builtin;refine z0A ?_;intro q hq);exact HF.out (.inl HS.out)
end
section
open Go.RowKit Go.Maps
open MI SO BM DM WM AC
def lowB (s:Nat):Nat→Str
 | 0=>[]
 | k+1=>lowB s k ++ [UInt8.ofNat (s / 256 ^ k % 256)]
end
section
open Go.RowKit Go.Maps
open MI SO BM DM WM AC
def RGetPost (w:World) (s:Str) (e:Ending) (w':World):Prop:=Keep (fun _=>False) w w'∧match getB s with
 | some (b,rest)=>∃ ao c,e = .returned (.tuple #[balV b,.slice ao rest.length c,.bool true])∧Cells w' ao rest.length 1 (z0C rest)∧rest.length≤c∧c≤maxLen
 | none=>e = .returned (.tuple #[balV Bal.zero,.slice none 0 0,.bool false])
theorem zbF (w:World) (s:Str) (hs:s.length≤1000000):Calls Tryz.prog 61 #[.string (str s)] w (RGetPost w s):=by
 obtain⟨Post,hPost⟩:=zX1 (RGetPost w s);rw[← hPost];have HP:=hid hPost;clear hPost;have hn1:=heap_alloc_new w (.cells #[.int .u64 0,.int .i64 0] 28);have hk1:=kal w (.cells #[.int .u64 0,.int .i64 0] 28);obtain⟨w1,hw1⟩:=zX1 (w.alloc (.cells #[.int .u64 0,.int .i64 0] 28));have hz1:w1.heap.size=w.heap.size+1:=by rw[hw1];simp
 rw[← hw1] at hn1 hk1;obtain⟨c1,w2,hcv,hf2⟩:=z6A w1 s (by unfold maxLen;omega);obtain⟨sl,hsl⟩:=zX1 (s.length);have hrow:=hf2.row;rw[← hsl] at hrow hcv;obtain⟨_,_,hfe,hc1,hc2,-⟩:=hrow.form;cases hfe;have hcs:=Cells.of_row hrow;have hn2:=hf2.keep.get hn1 id;have hu1:=z6X w2 _ sl c1 0 s hcs (Nat.zero_le _) (by omega);obtain⟨p0,p1,pf,pb⟩:=z4V hn2
 have fin:∀ w',Keep (fun _=>False) w2 w'→∀ x y,(∀ j u,[x,y][j]?=some u→((w'.setCell ⟨w.heap.size,0,none⟩ x).setCell ⟨w.heap.size,1,none⟩ y).cell? ⟨w.heap.size,j,none⟩=some u)∧Keep (fun _=>False) w ((w'.setCell ⟨w.heap.size,0,none⟩ x).setCell ⟨w.heap.size,1,none⟩ y)∧Keep (fun k=>k=w.heap.size) w' ((w'.setCell ⟨w.heap.size,0,none⟩ x).setCell ⟨w.heap.size,1,none⟩ y):=fun w' hk x y=>by
  obtain⟨g1,g2,-⟩:=z5F w' w.heap.size _ _ (hk.get hn2 id) x y;exact⟨g1,((hk1.nx hf2.keep).nx hk).next g2 (fun _ _ x=>x) (fun k hk x=>by omega),g2⟩
 have H2:=hid (zA1 fin (zA1 hcs (zA1 hsl (zA1 hz1 (zA1 hf2.keep.size hn2)))));have Hc:=hid (zA1 hc1 hc2);clear fin hn1 hk1 hf2 hrow hcs hn2 hz1 hsl hc1 hc2;go_enter Tryz.func61,Tryz.ntmps61
 go_upto_region 1 with fail
 rw[← hw1];clear hw1
 cases h1:BM.uint s 0 with
 | no x=>
   rw[h1] at hu1;simp only[numV] at hu1;have hx:=(z3I h1).1;have q1:((x:Int) != 0)=true:=by simp;omega
   have hG:=hid (show getB s=none by unfold getB;rw[h1]);clear h1 hx;go_wp2_with (at_builtin;refine z0A ?_;intro q hq);refine hu1.mono ?_;rintro e w3 ⟨rfl,hk3⟩;have p0:=z0E hk3 _ _ p0;have p1:=z0E hk3 _ _ p1;have pf:∀ o,w3.frozen? ⟨w.heap.size,o,none⟩=false:=fun o=>by have:=hk3.get H2.out.2.2.2.2.2 id;simp[World.frozen?,this]
   have HK:=hid hk3;clear hk3 hu1 hcv;go_wp2_with (at_builtin;refine z0A ?_;intro q hq);obtain⟨g1,g2,-⟩:=H2.out.1 w3 HK.out (.int .u64 0) (.int .i64 0);refine bodyPost_ret (z2R rfl _ _ w.heap.size rfl [.int .u64 0,.int .i64 0] g1 _ Tryz.underlying28 rfl (by kernel_rfl)) rfl ?_;rw[HP.out];refine⟨g2,?_⟩;rw[hG.out];rfl
 | yes n a=>
   rw[h1] at hu1;simp only[numV] at hu1;obtain⟨u1,u2,u3,-⟩:=z2P h1;have H1:=hid h1;clear h1;go_wp2_with (at_builtin;refine z0A ?_;intro q hq);refine hu1.mono ?_;rintro e w3 ⟨rfl,hk3⟩;have hu2:=z6X w3 _ sl c1 a s (H2.out.2.1.keep hk3 (fun _ _ x=>x)) (by have:=H2.out.2.2.1;omega) (by have:=H2.out.2.2.1;omega);have p0:=z0E hk3 _ _ p0;have p1:=z0E hk3 _ _ p1;have HK:=hid hk3;clear hk3 hu1 hcv pf pb
   cases h2:BM.uint s a with
   | no x=>
     rw[h2] at hu2;simp only[numV] at hu2;have hx:=(z3I h2).1;have q1:((x:Int) != 0)=true:=by simp;omega
     have q2:decide (x=0)=false:=decide_eq_false hx;have hG:=hid (show getB s=none by unfold getB;rw[H1.out];simp only;rw[h2]);clear h2 hx;go_wp2_with (at_builtin;refine z0A ?_;intro q hq);refine hu2.mono ?_;rintro e w4 ⟨rfl,hk4⟩;have p0:=z0E hk4 _ _ p0;have p1:=z0E hk4 _ _ p1;have HK:=hid (HK.out.nx hk4);have pf:∀ o,w4.frozen? ⟨w.heap.size,o,none⟩=false:=fun o=>by have:=HK.out.get H2.out.2.2.2.2.2 id;simp[World.frozen?,this]
     clear hk4 hu2;go_wp2_with (at_builtin;refine z0A ?_;intro q hq);obtain⟨g1,g2,-⟩:=H2.out.1 w4 HK.out (.int .u64 0) (.int .i64 0);refine bodyPost_ret (z2R rfl _ _ w.heap.size rfl [.int .u64 0,.int .i64 0] g1 _ Tryz.underlying28 rfl (by kernel_rfl)) rfl ?_;rw[HP.out];refine⟨g2,?_⟩;rw[hG.out];rfl
   | yes k tt=>
     rw[h2] at hu2;simp only[numV] at hu2;obtain⟨v1,v2,v3,-⟩:=z2P h2;have hG:getB s=if k<12∧0<n then some (⟨n,(k:Int)⟩,s.drop tt) else none:=by unfold getB;rw[H1.out];simp only;rw[h2]
     have HG:=hid hG;have hts:=H2.out.2.1.tail tt (by have:=H2.out.2.2.1;omega) Hc.out.1 (by decide);clear h2 hG
     by_cases hgd:k<12∧0<n
     ·have q1:decide ((11:Int)<(k:Int))=false:=decide_eq_false (by omega)
      have q2:decide (11<k)=false:=decide_eq_false (by omega);have q3:((n:Int) == 0)=false:=by simp;omega
      have q4:decide (n=0)=false:=decide_eq_false (by omega);have q5:=wi64 k (by omega);obtain⟨ta,hta⟩:=zX1 (z1C (some ⟨w1.heap.size,0,none⟩) c1 tt 1);obtain⟨tl,htl⟩:=zX1 (sl - tt);obtain⟨tc,htc⟩:=zX1 (c1 - tt);have hslc:=fun w=>z1T (P:=Tryz.prog) z0U (some ⟨w1.heap.size,0,none⟩) sl c1 .i64 tt (by have:=H2.out.2.2.1;omega) w;rw[← hta,← htl,← htc] at hslc;rw[← hta,← htl] at hts;have HX:=hid (zA1 hgd (zA1 hts (zA1 htl (zA1 htc hta))));clear hts htl htc hta hgd;go_wp2_with (at_builtin;refine z0A ?_;intro q hq);refine hu2.mono ?_;rintro e w4 ⟨rfl,hk4⟩;have p0:=z0E hk4 _ _ p0;have p1:=z0E hk4 _ _ p1;have HK:=hid (HK.out.nx hk4);have pf:∀ o,w4.frozen? ⟨w.heap.size,o,none⟩=false:=fun o=>by have:=HK.out.get H2.out.2.2.2.2.2 id;simp[World.frozen?,this]
      clear hk4 hu2;go_wp2_with (at_builtin;refine z0A ?_;intro q hq);refine z0G [] (by kernel_rfl) (by kernel_rfl) ?_
      repeat (first | (apply z0F (by rfl);(intro K w';go_simp;exact id)) | (apply z0J (by rfl);(intro K;go_simp;exact id)))
      (refine z0M (by rfl) (by rfl) (fun K hK=>?_);go_simp;refine hK _ _ ?_;clear hK K)
      repeat (first | (apply z0F (by rfl);(intro K w';go_simp;exact id)) | (apply z0J (by rfl);(intro K;go_simp;exact id)))
      refine z0T ?_;go_wp2_with (at_builtin;refine z0A ?_;intro q hq);obtain⟨g1,g2,g3⟩:=H2.out.1 w4.drew (HK.out.drew) (.int .u64 (n:Int)) (.int .i64 (k:Int));refine bodyPost_ret (z2R rfl _ _ w.heap.size rfl [.int .u64 (n:Int),.int .i64 (k:Int)] g1 _ Tryz.underlying28 rfl (by kernel_rfl)) rfl ?_;rw[HP.out];refine⟨g2,?_⟩;rw[HG.out,if_pos HX.out.1];simp only;have hl:(s.drop tt).length=tl:=by rw[List.length_drop,HX.out.2.2.1,H2.out.2.2.1]
      rw[hl];refine⟨ta,tc,rfl,?_,by have:=HX.out.2.2.1;have:=HX.out.2.2.2.1;have:=Hc.out.1;omega,by have:=HX.out.2.2.2.1;have:=Hc.out.2;omega⟩;have hbb:z0C (s.drop tt)=(z0C s).drop (tt * 1):=by rw[Nat.mul_one];simp[z0C,List.map_drop]
      rw[hbb];refine((HX.out.2.1.keep HK.out (fun _ _ x=>x)).keep (Keep.refl (fun _=>False) w4).drew (fun _ _ x=>x)).keep g3 (fun x hx e=>?_);rw[HX.out.2.2.2.2,zgJ] at hx;cases hx;have e':w1.heap.size=w.heap.size:=e;have:=H2.out.2.2.2.1;omega
     ·have hG:getB s=none:=by rw[HG.out,if_neg hgd]
      have hG:=hid hG;have cut:(k<12∧n=0)∨12≤k:=by omega
      clear hgd hts
      rcases cut with ⟨b1,rfl⟩ | b1
      ·have q1:decide ((11:Int)<(k:Int))=false:=decide_eq_false (by omega)
       have q2:decide (11<k)=false:=decide_eq_false (by omega);go_wp2_with (at_builtin;refine z0A ?_;intro q hq);refine hu2.mono ?_;rintro e w4 ⟨rfl,hk4⟩;have p0:=z0E hk4 _ _ p0;have p1:=z0E hk4 _ _ p1;have HK:=hid (HK.out.nx hk4);have pf:∀ o,w4.frozen? ⟨w.heap.size,o,none⟩=false:=fun o=>by have:=HK.out.get H2.out.2.2.2.2.2 id;simp[World.frozen?,this]
       clear hk4 hu2;go_wp2_with (at_builtin;refine z0A ?_;intro q hq);obtain⟨g1,g2,-⟩:=H2.out.1 w4 HK.out (.int .u64 0) (.int .i64 0);refine bodyPost_ret (z2R rfl _ _ w.heap.size rfl [.int .u64 0,.int .i64 0] g1 _ Tryz.underlying28 rfl (by kernel_rfl)) rfl ?_;rw[HP.out];refine⟨g2,?_⟩;rw[hG.out];rfl
      ·have q1:(11:Int)<(k:Int):=by omega
       go_wp2_with (at_builtin;refine z0A ?_;intro q hq);refine hu2.mono ?_;rintro e w4 ⟨rfl,hk4⟩;have p0:=z0E hk4 _ _ p0;have p1:=z0E hk4 _ _ p1;have HK:=hid (HK.out.nx hk4);have pf:∀ o,w4.frozen? ⟨w.heap.size,o,none⟩=false:=fun o=>by have:=HK.out.get H2.out.2.2.2.2.2 id;simp[World.frozen?,this]
       clear hk4 hu2;go_wp2_with (at_builtin;refine z0A ?_;intro q hq);obtain⟨g1,g2,-⟩:=H2.out.1 w4 HK.out (.int .u64 0) (.int .i64 0);refine bodyPost_ret (z2R rfl _ _ w.heap.size rfl [.int .u64 0,.int .i64 0] g1 _ Tryz.underlying28 rfl (by kernel_rfl)) rfl ?_;rw[HP.out];refine⟨g2,?_⟩;rw[hG.out];rfl
theorem zdG (w:World) (k:Str) (hk:k.length≤1000000):Calls Tryz.prog 62 #[.string (str k)] w fun e w'=>e = .returned (.int .u64 (z2H k:Nat))∧Keep (fun _=>False) w w':=by
 obtain⟨R,hR⟩:=zX1 (z2H k);rw[← hR];have HR:=hid hR;clear hR;have hsz:=z2A k;obtain⟨kl,hkl⟩:=zX1 (k.length);rw[← hkl] at hsz hk
 by_cases h9:kl=9
 ·subst h9
  cases k with
  | nil=>cases hkl
  | cons ch r=>
    have hix:=zfC (ch :: r) 0 (by rw[hsz];decide) (by simp);rw[List.getElem_cons_zero] at hix
    by_cases hch:ch.toNat=118
    ·have q2:((ch.toNat:Int) != 118)=false:=by simp;omega
     have hr8:r.length=8:=by simp at hkl;omega
     have hch2:ch=118:=by rw[← UInt8.toNat_inj];exact hch
     have hsK:z2H (ch :: r)=valN r:=by unfold z2H;simp only;rw[if_pos ⟨hch2,hr8⟩]
     have HC:=hid (zA1 hr8 hsK);clear hkl hr8 hsK hch2;go_enter Tryz.func62,Tryz.ntmps62;go_wp2_with (at_builtin;refine z0A ?_;intro q hq);clear hix q2 hch
     go_loopw [3,4] (fun sv iv wr=>∃ i:Nat,i≤8∧sv = .int .u64 (valN (r.take i):Nat)∧iv = .int .i64 (i+1:Nat)∧wr=w) (fun _ iv _=>9 - (intOf iv).toNat)
     case atStart=>exact⟨0,by omega,rfl,rfl,rfl⟩
     case round=>
      obtain⟨i,hi,rfl,rfl,rfl⟩:=hrel;obtain⟨i1,hi1⟩:=zX1 (i+1);rw[← hi1]
      by_cases hi8:i<8
      ·have q2:(i1:Int)<9:=by omega
       have hir:i<r.length:=by have:=HC.out.1;omega
       have hlt:i1<(str (ch :: r)).size:=by rw[hsz];omega
       have hix:=zfC (ch :: r) i1 hlt (by simp;omega);have hel:(ch :: r)[i1]'(by simp;omega)=r[i]:=by subst hi1;simp
       rw[hel] at hix;have hv:=zbD (r.take i)
       have hv7:valN (r.take i)<72057594037927936:=Nat.lt_of_lt_of_le hv (by
        rw[List.length_take,Nat.min_eq_left (by omega)]
        exact Nat.le_trans (Nat.pow_le_pow_right (by decide) (show i≤7 by omega)) (by decide))
       have hsn:valN (r.take (i+1))=valN (r.take i) * 256+(r[i]).toNat:=by
        rw[List.take_add_one,List.getElem?_eq_getElem hir,Option.toList_some,zbU]
       have hb:=(r[i]).toNat_lt;obtain⟨x,hx⟩:=zX1 (r[i]);rw[← hx] at hix hsn hb;obtain⟨xn,hxn⟩:=zX1 (x.toNat);rw[← hxn] at hsn hb;have hxn':=hxn.symm;obtain⟨vv,hvv⟩:=zX1 (valN (r.take i));rw[← hvv] at hv7 hsn ⊢;obtain⟨v8,e8⟩:=zX1 (vv * 256);have b1:(vv:Int) * 256=(v8:Int):=by omega
       have b2:=wu64 v8 (by omega);have b3:=wu64 xn (by omega);obtain⟨y,hy⟩:=zX1 (v8+xn);have b4:(v8:Int)+(xn:Int)=(y:Int):=by omega
       have b5:=wu64 y (by omega);have HY:=hid (show y=valN (r.take (i+1)) by rw[hsn];omega);have HI:=hid hi1;clear hv hir hel hsn hb hx hvv hv7 e8 hy hxn hi1;go_wp2_with (at_builtin;refine z0A ?_;intro q hq);exact⟨⟨i+1,by omega,by rw[HY.out],by have:=HI.out;go_num,by first | rfl | trivial⟩,by have:=HI.out;simp[intOf];omega⟩
      ·obtain rfl:i=8:=by omega
       subst hi1;rw[show r.take 8=r from List.take_of_length_le (by have:=HC.out.1;omega)];obtain⟨sl,hsl⟩:=zX1 (valN r);rw[← hsl];have Hsl:=hid hsl;clear hsl hi;go_wp2_with (at_builtin;refine z0A ?_;intro q hq);go_ret;exact⟨by rw[HR.out,HC.out.2,Hsl.out];rfl,Keep.refl _ _⟩
    ·have q2:((ch.toNat:Int) != 118)=true:=by simp;omega
     have hs0:z2H (ch :: r)=0:=by unfold z2H;simp only;rw[if_neg (fun x=>hch (by rw[x.1];rfl))]
     have HS:=hid hs0;clear hkl hs0;go_enter Tryz.func62,Tryz.ntmps62;go_wp2_with (at_builtin;refine z0A ?_;intro q hq);go_ret;exact⟨by rw[HR.out,HS.out];rfl,Keep.refl _ _⟩
 ·have q2:((kl:Int) != 9)=true:=by simp;omega
  have hs0:z2H k=0:=by
   cases k with
   | nil=>rfl
   | cons ch r=>unfold z2H;simp only;rw[if_neg (fun x=>h9 (by rw[hkl];simp;omega))]
  have HS:=hid hs0;clear hkl hs0;go_enter Tryz.func62,Tryz.ntmps62;go_wp2_with (at_builtin;refine z0A ?_;intro q hq);go_ret;exact⟨by rw[HR.out,HS.out];rfl,Keep.refl _ _⟩
end
namespace AC
open Go.Proofs.YtkjofdocgaiedaaGreat MI SO BM DM WM
def docB (ps:List (Str×Str)):Bal:=match AL.get ps pK with
 | none=>Bal.zero
 | some v=>match getB v with
   | none=>Bal.zero
   | some (b,_)=>b
def zcI (k:Nat) (p:Str×Str):Option Vt:=match getB p.2 with
 | none=>none
 | some (b,rest)=>if 0<z2H p.1∧k≤z2H p.1 then some ⟨z2H p.1,b,rest⟩ else none
def docV (ps:List (Str×Str)) (k:Nat):List Vt:=ps.filterMap (zcI k)
def z3Z (top:Bal) (p:Str×Str):Bool:=match getB p.2 with
 | none=>false
 | some (b,rest)=>if p.1=pK then decide (rest = []) else (decide (z2H p.1≠0) && (decide (rest.length≤100) && !less top b))
def z8L (ps:List (Str×Str)):Bool:=ps.all (z3Z (docB ps))
theorem ziQ {b:Bal} {vs:List Vt} (h:VOk b vs):docB (encP b vs)=b:=by
 unfold docB encP
 rcases h.bal with rfl | hb
 ·rw[h.zero];rfl
 ·rw[if_neg hb.ne]
  simp only[List.singleton_append,AL.z0Y,if_true];have:=z7C hb.1 hb.2 [];rw[List.append_nil] at this;rw[this]
theorem zlF {b:Bal} {v:Vt} (h:OkV b v) (k:Nat):zcI k (encV v)=if k≤v.slot then some v else none:=by
 unfold zcI encV;simp only;rw[z7C h.bal.1 h.bal.2,z8Z h.lt];simp only
 by_cases hk:k≤v.slot
 ·rw[if_pos ⟨h.slot,hk⟩,if_pos hk]
 ·rw[if_neg (fun x=>hk x.2),if_neg hk]
theorem zjU {b:Bal} (k:Nat):∀ {vs:List Vt},(∀ v ∈ vs,OkV b v)→docV (vs.map encV) k=z7L vs k
 | [],_=>rfl
 | v :: vs,h=>by
   have ih:=zjU k (vs:=vs) (fun x hx=>h x (by simp[hx]));unfold docV z7L at *;rw[List.map_cons,List.filterMap_cons,zlF (h v (by simp)),List.filter_cons]
   by_cases hk:k≤v.slot
   ·rw[if_pos hk,if_pos (by simpa using hk)]
    simp only;rw[ih]
   ·rw[if_neg hk,if_neg (by simpa using hk)]
    simp only;exact ih
theorem zqR {b:Bal} {vs:List Vt} (h:VOk b vs) (k:Nat):docV (encP b vs) k=z7L vs k:=by
 have hm:=zjU k h.each;unfold encP
 by_cases hb:b=Bal.zero
 ·rw[if_pos hb,List.nil_append];exact hm
 ·rw[if_neg hb]
  unfold docV at *
  have e:zcI k (pK,putB b)=none:=by
   unfold zcI;simp only;rw[zpW]
   cases getB (putB b) with
   | none=>rfl
   | some q=>simp
  rw[List.singleton_append,List.filterMap_cons,e];exact hm
theorem zoP {b:Bal} {vs:List Vt} (h:VOk b vs):z8L (encP b vs)=true:=by
 unfold z8L;rw[ziQ h,List.all_eq_true];intro p hp;unfold encP at hp
 rcases List.mem_append.1 hp with hp | hp
 ·by_cases hb:b=Bal.zero
  ·rw[if_pos hb] at hp;cases hp
  ·rw[if_neg hb] at hp
   simp at hp;subst hp;have hB:OkB b:=h.bal.resolve_left hb;have:=z7C hB.1 hB.2 [];rw[List.append_nil] at this;unfold z3Z;simp only;rw[this];simp
 ·obtain⟨v,hv,rfl⟩:=List.mem_map.1 hp
  have q:=h.each v hv;unfold z3Z encV;simp only;rw[z7C q.bal.1 q.bal.2];simp only;rw[if_neg (zhL _),z8Z q.lt,q.top];have h1:=q.slot;have h2:=q.val;simp;omega
theorem zpZ {ps:List (Str×Str)} (hs:Sorted ps) (h:z8L ps=true):(rd ps).isSome=true:=by
 unfold z8L at h;rw[List.all_eq_true] at h
 have go:∀ (qs:List (Str×Str)) (st:Bal×List Vt),(∀ p ∈ qs,z3Z (docB ps) p=true)→(∀ v ∈ st.2,less (docB ps) v.bal=false)→∃ st',rdL st qs=some st'∧(∀ v ∈ st'.2,less (docB ps) v.bal=false)∧
   (st'.1=st.1∨∃ p ∈ qs,∃ b,p.1=pK∧getB p.2=some (b,[])∧st'.1=b)∧((∀ p ∈ qs,p.1≠pK)→st'.1=st.1):=by
  intro qs
  induction qs with
  | nil=>intro st _ h2;exact⟨st,rfl,h2,.inl rfl,fun _=>rfl⟩
  | cons p qs ih=>
    intro st h1 h2;have hp:=h1 p (by simp);unfold z3Z at hp
    cases hg:getB p.2 with
    | none=>rw[hg] at hp;cases hp
    | some q=>
      obtain⟨b,rest⟩:=q;rw[hg] at hp;simp only at hp
      by_cases hk:p.1=pK
      ·rw[if_pos hk] at hp
       have hr:rest = []:=by simpa using hp
       subst hr;have e:rd1 st p=some (b,st.2):=by unfold rd1;rw[hg];simp only;rw[if_pos hk];simp
       obtain⟨st',g1,g2,g3,g4⟩:=ih (b,st.2) (fun x hx=>h1 x (by simp[hx])) h2;refine⟨st',by unfold rdL;rw[e];exact g1,g2,.inr ?_,fun x=>absurd hk (x p (by simp))⟩
       rcases g3 with g3 | ⟨y,hy,c,c1,c2,c3⟩
       ·exact⟨p,by simp,b,hk,hg,g3⟩
       ·exact⟨y,by simp[hy],c,c1,c2,c3⟩
      ·rw[if_neg hk] at hp
       simp only[Bool.and_eq_true,decide_eq_true_eq,Bool.not_eq_true'] at hp;obtain⟨p1,p2,p3⟩:=hp;have e:rd1 st p=some (st.1,st.2 ++ [⟨z2H p.1,b,rest⟩]):=by unfold rd1;rw[hg];simp only;rw[if_neg hk,if_pos ⟨p1,p2⟩]
       obtain⟨st',g1,g2,g3,g4⟩:=ih (st.1,st.2 ++ [⟨z2H p.1,b,rest⟩]) (fun x hx=>h1 x (by simp[hx])) (fun v hv=>by
        rcases List.mem_append.1 hv with hv | hv
        ·exact h2 v hv
        ·simp at hv;subst hv;exact p3)
       refine⟨st',by unfold rdL;rw[e];exact g1,g2,?_,fun x=>g4 fun y hy=>x y (by simp[hy])⟩
       rcases g3 with g3 | ⟨y,hy,c⟩
       ·exact .inl g3
       ·exact .inr ⟨y,by simp[hy],c⟩
 obtain⟨st',g1,g2,g3,g4⟩:=go ps (Bal.zero,[]) h (fun v hv=>by cases hv)
 have htop:st'.1=docB ps:=by
  unfold docB
  rcases g3 with g3 | ⟨p,hp,b,c1,c2,c3⟩
  ·cases hget:AL.get ps pK with
   | none=>exact g3
   | some v=>
     have hm:=z2W hget;have hd:=h _ hm;unfold z3Z at hd;simp only at hd
     cases hg:getB v with
     | none=>simp only[hg];exact g3
     | some q=>
       obtain⟨b,rest⟩:=q;rw[hg] at hd;simp only[if_true,decide_eq_true_eq] at hd;subst hd;obtain⟨l1,l2,rfl⟩:=List.append_of_mem hm;have hs2:=hs;unfold Sorted at hs2;rw[List.pairwise_append] at hs2
       have hno:∀ p ∈ l1 ++ l2,p.1≠pK:=by
        intro p hp e
        rcases List.mem_append.1 hp with hp | hp
        ·have:=hs2.2.2 p hp (pK,v) (by simp)
         rw[e] at this;exact z1K _ this
        ·have:=(List.pairwise_cons.1 hs2.2.1).1 p hp
         rw[e] at this;exact z1K _ this
       have key:∀ (qs:List (Str×Str)) (st st':Bal×List Vt),(∀ p ∈ qs,p.1≠pK)→rdL st (qs ++ (pK,v) :: l2)=some st'→st'.1=b:=by
        intro qs
        induction qs with
        | nil=>
          intro st st' _ hr;simp only[List.nil_append,rdL] at hr;have e:rd1 st (pK,v)=some (b,st.2):=by unfold rd1;simp only;rw[hg];simp
          rw[e] at hr;simp only at hr;obtain⟨a1,a2⟩:=st';exact(zeO l2 b a1 st.2 a2 (fun p hp=>hno p (by simp[hp])) hr).1
        | cons p qs ih=>
          intro st st' h1 hr;simp only[List.cons_append,rdL] at hr
          cases h2:rd1 st p with
          | none=>rw[h2] at hr;cases hr
          | some s2=>
            rw[h2] at hr;exact ih s2 st' (fun x hx=>h1 x (by simp[hx])) hr
       simp only[hg];exact key l1 _ _ (fun p hp=>hno p (by simp[hp])) g1
  ·have hget:AL.get ps pK=some p.2:=by
    have:=z3P (z8D hs) hp;rw[c1] at this;exact this
   rw[hget];simp only;rw[c2];exact c3
 unfold rd;obtain⟨b,vs⟩:=st';rw[g1];simp only
 have hany:vs.any (fun v=>less b v.bal)=false:=by
  rw[List.any_eq_false];intro v hv;have h1:=g2 v hv;rw[← htop] at h1;simp only at h1;rw[h1];decide
 rw[hany];rfl
theorem zeY {ps:List (Str×Str)} (hs:Sorted ps):z8L ps=(rd ps).isSome:=by
 cases h:rd ps with
 | some st=>
   obtain⟨b,vs⟩:=st;obtain⟨h1,h2⟩:=zrY hs h;rw[h2,zoP h1];rfl
 | none=>
   cases hd:z8L ps with
   | false=>rfl
   | true=>
     have:=zpZ hs hd;rw[h] at this;cases this
end AC
section
open Go.RowKit Go.Maps
open MI SO BM DM WM AC
theorem zmK {w:World} {b:Nat} {T:TypeId} {a0:Value} (H:w.heap[b]?=some (.cells #[a0] T (0,0))):w.cell? ⟨b,0,none⟩=some a0∧(∀ o,w.frozen? ⟨b,o,none⟩=false)∧b<w.heap.size:=by
 refine⟨?_,?_,z0N H⟩ <;> simp[World.cell?,World.frozen?,H]
theorem zhG {w:World} {b:Nat} {T:TypeId} {a0 a1 a2:Value} (H:w.heap[b]?=some (.cells #[a0,a1,a2] T (0,0))) :
  w.cell? ⟨b,0,none⟩=some a0∧w.cell? ⟨b,1,none⟩=some a1∧w.cell? ⟨b,2,none⟩=some a2∧(∀ o,w.frozen? ⟨b,o,none⟩=false)∧b<w.heap.size:=by
 refine⟨?_,?_,?_,?_,z0N H⟩ <;> simp[World.cell?,World.frozen?,H]
def RAcT (a d:Nat) (D:Dk) (S:St):Thing:=fun w F=>∃ sb X Y,BoxA a #[.pointer (some ⟨sb,0,none⟩)] 138 w X∧RStoT sb d D S w Y∧(∀ i,X i→¬ Y i)∧F=fun k=>X k∨Y k
theorem RAcT.lives (a d:Nat) (D:Dk) (S:St):Lives (RAcT a d D S):=
 ⟨fun ⟨sb,X,Y,h1,h2,h3,e⟩ hk hn=>⟨sb,X,Y,(BoxA.lives _ _ _).keep h1 hk (fun i x=>hn i (by rw[e];exact .inl x)),(RStoT.lives _ _ _ _).keep h2 hk (fun i x=>hn i (by rw[e];exact .inr x)),h3,e⟩,
  fun ⟨sb,X,Y,h1,h2,_,e⟩ i x=>by rw[e] at x;exact x.elim ((BoxA.lives _ _ _).lt h1 i) ((RStoT.lives _ _ _ _).lt h2 i)⟩
structure RLook (w:World) (a sb:Nat) (pv wp:Value) (S:St):Prop where
 box:w.heap[a]?=some (.cells #[.pointer (some ⟨sb,0,none⟩)] 138 (0,0))
 sto:w.heap[sb]?=some (.cells (z2Z wp pv S.dead) 117 (0,0))
 row:Row w 140 2 pv S.ps.length (prsV S.ps)
 ok:PsOk S.ps
theorem RLook.keep {w w':World} {a sb:Nat} {pv wp:Value} {S:St} (h:RLook w a sb pv wp S) (hk:Keep (fun _=>False) w w'):RLook w' a sb pv wp S:=
 ⟨hk.get h.box id,hk.get h.sto id,h.row.keep hk (fun _ _ x=>x),h.ok⟩
theorem RAcT.look {a d:Nat} {D:Dk} {S:St} {w:World} {F:Nat→Prop} (h:RAcT a d D S w F):∃ sb pv wp,RLook w a sb pv wp S:=by
 obtain⟨sb,X,Y,h1,⟨F1,F2,⟨wb,pv,Fl,h2⟩,-⟩,-⟩:=h;exact⟨sb,pv,_,h1.1,h2.head,h2.row,h2.ok⟩
theorem zdI (w:World) (a sb:Nat) (pv wp:Value) (S:St) (H:RLook w a sb pv wp S) (hN:S.ps.length≤900000) :
  Calls Tryz.prog 25 #[.pointer (some ⟨a,0,none⟩)] w fun e w'=>e = .returned (balV (if S.dead then Bal.zero else docB S.ps))∧Keep (fun _=>False) w w':=by
 obtain⟨R,hR⟩:=zX1 ((if S.dead then Bal.zero else docB S.ps));rw[← hR];obtain⟨ao,pc,hpv,-⟩:=H.row.form;subst hpv;have hn1:=heap_alloc_new w (.cells #[.int .u64 0,.int .i64 0] 28);have hk1:=kal w (.cells #[.int .u64 0,.int .i64 0] 28);obtain⟨w1,hw1⟩:=zX1 (w.alloc (.cells #[.int .u64 0,.int .i64 0] 28));rw[← hw1] at hn1 hk1;have L1:=H.keep hk1;obtain⟨p0,-,-⟩:=zmK L1.box;obtain⟨s0,s1,s2,-,-⟩:=zhG L1.sto;have hgt:=ztG w1 ao S.ps.length pc S.ps L1.row rfl (z8D L1.ok.sorted) (by omega) pK
 obtain⟨v,hasB,hgv,hcase⟩:∃ (v:Str) (hb:Bool),getS S.ps pK = .tuple #[.string (str v),.bool hb]∧v.length≤1000∧((hb=false∧docB S.ps=Bal.zero)∨(hb=true∧((getB v=none∧docB S.ps=Bal.zero)∨∃ b rest,getB v=some (b,rest)∧docB S.ps=b))):=by
  unfold getS docB
  cases hg:AL.get S.ps pK with
  | none=>exact⟨[],false,rfl,by decide,.inl ⟨rfl,rfl⟩⟩
  | some v=>
    have hok:=L1.ok.each _ (z2W hg);refine⟨v,true,rfl,by have:=hok.2.2;simp only at this;omega,.inr ⟨rfl,?_⟩⟩
    cases hb:getB v with
    | none=>exact .inl ⟨rfl,by simp only[hb]⟩
    | some q=>exact .inr ⟨q.1,q.2,rfl,by simp only[hb]⟩
 rw[hgv] at hgt;have H1:=hid (zA1 hn1 (zA1 hk1 (zA1 L1 (zA1 hcase hR))));obtain⟨dd,hdd⟩:=zX1 (S.dead);rw[← hdd] at s2;have HD:=hid hdd;clear hn1 hk1 L1 hgv hR hdd s0;have hvl:=hcase.1;go_enter Tryz.func25,Tryz.ntmps25
 go_upto_region 1 with fail
 rw[← hw1];clear hw1 hcase;go_wp2_with (at_builtin;refine z0A ?_;intro q hq);refine hgt.mono ?_;rintro e w2 ⟨rfl,hk2⟩;have hg9:=zbF w2 v (by omega);have p0:=z0E hk2 _ _ p0;have s2:=z0E hk2 _ _ s2;have HK:=hid hk2;clear hgt hk2 s1 hvl;go_wp2_with (at_builtin;refine z0A ?_;intro q hq);refine hg9.mono ?_;rintro e w3 ⟨hk3,hres⟩;clear hg9;have hk13:=HK.out.nx hk3
 obtain⟨bb,ua,uk,uc,okb,rfl,hcs⟩:∃ (bb:Bal) (ua:Option Addr) (uk uc:Nat) (okb:Bool),e = .returned (.tuple #[balV bb,.slice ua uk uc,.bool okb])∧R=if hasB && (okb && !dd) then bb else Bal.zero:=by
  obtain⟨-,-,-,hcase,hR⟩:=H1.out;rw[hR,← HD.out]
  rcases hcase.2 with ⟨h1,h2⟩ | ⟨h1,⟨h2,h3⟩ | ⟨b,rest,h2,h3⟩⟩
  ·cases hg:getB v with
   | none=>rw[hg] at hres;exact⟨Bal.zero,none,0,0,false,hres,by rw[h1,h2];cases dd <;> rfl⟩
   | some q=>rw[hg] at hres;obtain⟨ao',c',he,-⟩:=hres;exact⟨q.1,ao',_,c',true,he,by rw[h1,h2];cases dd <;> rfl⟩
  ·rw[h2] at hres;exact⟨Bal.zero,none,0,0,false,hres,by rw[h1,h3];cases dd <;> rfl⟩
  ·rw[h2] at hres;obtain⟨ao',c',he,-⟩:=hres;exact⟨b,ao',_,c',true,he,by rw[h1,h3];cases dd <;> rfl⟩
 have p0:=z0E hk3 _ _ p0;have s2:=z0E hk3 _ _ s2;have hn4:=heap_alloc_new w3 (.cells (balC bb) 28);have hk4:=kal w3 (.cells (balC bb) 28)
 go_upto_region 3 with fail
 obtain⟨w4,hw4⟩:=zX1 (w3.alloc (.cells (balC bb) 28));rw[← hw4] at hn4 hk4 ⊢;clear hw4;have p0:=z0E hk4 _ _ p0;have s2:=z0E hk4 _ _ s2;obtain⟨b0,b1,-,-⟩:=z4V hn4;have hk14:=hk13.nx hk4;have r0:=hk14.get H1.out.1 id;obtain⟨d0,d1,df,-⟩:=z4V r0;have HZ:=hid (zA1 r0 (zA1 (H1.out.2.1.nx hk14) hcs));clear hres hk13 hk3 hk4 hn4 hk14 r0 hcs HK;cases hasB <;> cases okb <;> cases dd
 all_goals go_wp2_with (at_builtin;refine z0A ?_;intro q hq)
 all_goals first
  | (obtain⟨g1,g2,-⟩:=z5F w4 w.heap.size _ _ HZ.out.1 (.int .u64 (bb.n:Nat)) (.int .i64 bb.node)
     refine bodyPost_ret (z4T rfl _ _ w.heap.size rfl [.int .u64 (bb.n:Nat),.int .i64 bb.node] g1 _ Tryz.underlying28 rfl (by kernel_rfl)) rfl ?_
     exact⟨by rw[HZ.out.2.2];rfl,HZ.out.2.1.next g2 (H:=fun _=>False) (fun _ _ x=>x) (fun k hk x=>by omega)⟩)
  | (obtain⟨g1,g2,-⟩:=z5F w4 w.heap.size _ _ HZ.out.1 (.int .u64 0) (.int .i64 0)
     refine bodyPost_ret (z4T rfl _ _ w.heap.size rfl [.int .u64 0,.int .i64 0] g1 _ Tryz.underlying28 rfl (by kernel_rfl)) rfl ?_
     exact⟨by rw[HZ.out.2.2];rfl,HZ.out.2.1.next g2 (H:=fun _=>False) (fun _ _ x=>x) (fun k hk x=>by omega)⟩)
end
section
open Go.RowKit Go.Maps
open MI SO BM DM WM AC
theorem AC.docV_snoc (ps:List (Str×Str)) (k i:Nat) (hi:i<ps.length):docV (ps.take (i+1)) k=docV (ps.take i) k ++ (zcI k ps[i]).toList:=by
 unfold docV;rw[List.take_add_one,List.getElem?_eq_getElem hi,Option.toList_some,List.filterMap_append];cases h:zcI k ps[i] <;> simp[h]
theorem AC.getB_rest {s:Str} {q:Bal×Str} (h:getB s=some q):q.2.length≤s.length:=by
 unfold getB at h
 repeat' split at h
 all_goals first | cases h | skip
 all_goals simp
theorem AC.docV_len (ps:List (Str×Str)) (k:Nat):(docV ps k).length≤ps.length:=List.length_filterMap_le _ _
theorem zhV (w:World) (a sb:Nat) (pv wp:Value) (S:St) (k:Nat) (H:RLook w a sb pv wp S) (hN:S.ps.length≤900000) :
  Calls Tryz.prog 26 #[.pointer (some ⟨a,0,none⟩),.int .u64 (k:Int)] w (VotesPost w (if S.dead then [] else docV S.ps k)):=by
 obtain⟨R,hR⟩:=zX1 ((if S.dead then [] else docV S.ps k));rw[← hR];obtain⟨p0,-,-⟩:=zmK H.box;obtain⟨s0,s1,s2,-,-⟩:=zhG H.sto;have HH:=hid H
 cases hd:S.dead with
 | true=>
   rw[hd,if_pos rfl] at hR;rw[hd] at s2;have HR:=hid hR;clear hR hd H;go_enter Tryz.func26,Tryz.ntmps26;go_wp2_with (at_builtin;refine z0A ?_;intro q hq);go_ret;exact⟨_,[],fun _=>False,rfl,by rw[HR.out];exact Votes.nil _ _,fun _ x=>x.elim,Keep.refl _ _⟩
 | false=>
   rw[hd,if_neg (by decide)] at hR;rw[hd] at s2;obtain⟨ao,pc,rfl,-⟩:=H.row.form;obtain⟨ps,hps⟩:=zX1 (S.ps);have hrow:=H.row;rw[← hps] at hR hN hrow s1;have hlong:∀ p ∈ ps,p.1.length≤1000000∧p.2.length≤1000000:=fun p hp=>by have:=H.ok.each p (by rw[← hps];exact hp);have h1:=this.2.1;have h2:=this.2.2;omega
   obtain⟨n,hn⟩:=zX1 (ps.length);rw[← hn] at hrow s1 hN;have HR:=hid (zA1 hR (zA1 hn (zA1 hrow hlong)));clear hR hd H hps hrow hlong hn s0;go_enter Tryz.func26,Tryz.ntmps26;go_wp2_with (at_builtin;refine z0A ?_;intro q hq)
   go_loopw [5,6] (fun ov iv wr=>∃ i:Nat,i≤n∧iv = .int .i64 i∧Hid (∃ us Fo,Votes wr Fo ov (docV (ps.take i) k) us∧(∀ k,Fo k→w.heap.size≤k)∧Keep (fun _=>False) w wr)) (fun _ iv _=>n - (intOf iv).toNat)
   case atStart=>exact⟨0,Nat.zero_le _,rfl,hid ⟨[],fun _=>False,Votes.nil _ _,fun _ x=>x.elim,Keep.refl _ _⟩⟩
   case round=>
    obtain⟨i,hi,rfl,HT⟩:=hrel;obtain⟨us0,Fo0,ho,hFo,hkr⟩:=HT.out;obtain⟨oo,oc,rfl,-⟩:=ho.row.form;obtain⟨m,hm⟩:=zX1 ((docV (ps.take i) k).length);rw[← hm] at ho ⊢;have hmi:m≤i:=by have:=docV_len (ps.take i) k;rw[hm];simp at this;omega
    have HT:=hid (zA1 ho (zA1 hFo (zA1 hkr (zA1 hm hmi))));clear ho hFo hm hmi;have p0:=z0E hkr _ _ p0;have s1:=z0E hkr _ _ s1
    by_cases him:i<n
    ·have q1:(i:Int)<n:=by omega
     have hil:i<ps.length:=by rw[← HR.out.2.1];exact him
     obtain⟨g,rfl,k0,k1⟩:=zjP (HR.out.2.2.1.keep hkr (fun _ _ x=>x)) i hil;obtain⟨x,hx⟩:=zX1 (ps[i]);rw[← hx] at k0 k1;have hlx:=HR.out.2.2.2 x (by rw[hx];exact List.getElem_mem hil);have hn1:=heap_alloc_new wr (.cells #[.string (str x.1),.string (str x.2)] 140);have hk1:=kal wr (.cells #[.string (str x.1),.string (str x.2)] 140);obtain⟨w1,hw1⟩:=zX1 (wr.alloc (.cells #[.string (str x.1),.string (str x.2)] 140));rw[← hw1] at hn1 hk1;obtain⟨c0,c1,-,-⟩:=z4V hn1;have hs9:=zdG w1 x.1 hlx.1;obtain⟨s,hs⟩:=zX1 (z2H x.1);rw[← hs] at hs9;have HX:=hid (zA1 hx (zA1 hk1 (zA1 hs hkr)));have HI:=hid hil;have HL:=hid hlx;clear hx hk1 hs hkr hlx hn1
     go_upto_region 8 with fail
     rw[← hw1];clear hw1 k0 k1 s1 p0;go_wp2_with (at_builtin;refine z0A ?_;intro q hq);refine hs9.mono ?_;rintro e w2 ⟨rfl,hk2⟩;have hg9:=zbF w2 x.2 HL.out.2;have c1:=z0E hk2 _ _ c1;have HK:=hid (HX.out.2.1.nx hk2);clear hs9 hk2 c0;go_wp2_with (at_builtin;refine z0A ?_;intro q hq);refine hg9.mono ?_;rintro e w3 ⟨hk3,hres⟩;have hkr3:=HK.out.nx hk3
     obtain⟨bb,ua,ul,uc,rest,okb,rfl,hcl,hul,hd1⟩:∃ (bb:Bal) (ua:Option Addr) (ul uc:Nat) (rest:Str) (okb:Bool),e = .returned (.tuple #[balV bb,.slice ua ul uc,.bool okb])∧Cells w3 ua ul 1 (z0C rest)∧ul≤1000000∧
       (zcI k x=if (0<s∧k≤s)∧okb=true then some ⟨s,bb,rest⟩ else none)∧rest.length=ul:=by
      have hdv:zcI k x=match getB x.2 with
       | none=>none
       | some (b,rest)=>if 0<z2H x.1∧k≤z2H x.1 then some ⟨z2H x.1,b,rest⟩ else none:=rfl
      rw[hdv,← HX.out.2.2.1]
      cases hg:getB x.2 with
      | none=>rw[hg] at hres;exact⟨Bal.zero,none,0,0,[],false,hres,⟨rfl,fun h=>by simp at h⟩,by decide,by simp,rfl⟩
      | some q=>
        rw[hg] at hres;obtain⟨ao',c',he,hc,-,-⟩:=hres;have hql:q.2.length≤1000000:=by have h1:=getB_rest hg;have:=HL.out.2;omega
        exact⟨q.1,ao',_,c',q.2,true,he,hc,hql,by simp,rfl⟩
     have hn4:=heap_alloc_new w3 (.cells (balC bb) 28);have hk4:=kal w3 (.cells (balC bb) 28);have HZ:=hid (zA1 hd1 (zA1 hkr3 (zA1 hk4 (zA1 hcl hul))));clear hd1 hkr3 hk4 hcl hul hk3 hres hg9 c1 HK
     go_upto_region 10 with fail
     obtain⟨w4,hw4⟩:=zX1 (w3.alloc (.cells (balC bb) 28));rw[← hw4] at hn4 HZ ⊢;clear hw4;obtain⟨b0,b1,-,-⟩:=z4V hn4
     by_cases hy:(0<s∧k≤s)∧okb=true
     ·obtain⟨⟨h0,hks⟩,rfl⟩:=hy
      have r1:(0:Int)<(s:Int):=by omega
      have r2:(k:Int)≤(s:Int):=by omega
      go_wp2_with (at_builtin;refine z0A ?_;intro q hq);refine z0G [66] (by kernel_rfl) (by kernel_rfl) ?_
      repeat (first | (apply z0F (by rfl);(intro K w';go_simp;exact id)) | (apply z0J (by rfl);(intro K;go_simp;exact id)))
      refine z1Q (by rfl) (by rfl) (fun K hK=>?_);go_simp;have hk5:Keep (fun _=>False) w4 w4.drew:=(Keep.refl _ _).drew;obtain⟨w5,hw5⟩:=zX1 (w4.drew);rw[← hw5] at hk5 hK ⊢;clear hw5;have hk35:=HZ.out.2.2.1.nx hk5;have hcp:=zaJ w5 ua ul uc rest (HZ.out.2.2.2.1.keep hk35 (fun _ _ x=>x)) (by have:=HZ.out.2.2.2.2;omega);refine hcp.mono ?_;rintro e w6 ⟨v6,rfl,hf6⟩;refine hK _ _ (Pre.of_keep hf6.keep) ?_;clear hK K hcp;have b0:=z0E hk5 _ _ b0;have b1:=z0E hk5 _ _ b1;have b0:=z0E hf6.keep _ _ b0;have b1:=z0E hf6.keep _ _ b1;obtain⟨ca,cc,rfl,-⟩:=hf6.row.form;have hlr:=HZ.out.1.2;have hr6:=hf6.row;rw[hlr] at hr6 ⊢;have HF:=hid (zA1 hr6 (zA1 hf6.keep (zA1 hf6.own hk5)));have HLr:=hid hlr;clear hf6 hk5 hk35 hr6 hlr
      repeat (first | (apply z0F (by rfl);(intro K w';go_simp;exact id)) | (apply z0J (by rfl);(intro K;go_simp;exact id)))
      (refine z1Q (by rfl) (by rfl) (fun K hK=>?_);go_simp;refine hK _ _ (Pre.push _ rfl) ?_;clear hK K)
      have hn7:=heap_alloc_new w6 (.cells #[.int .u64 (s:Int),.int .u64 (bb.n:Int),.int .i64 bb.node,.slice ca ul cc] 31);have hk7:=kal w6 (.cells #[.int .u64 (s:Int),.int .u64 (bb.n:Int),.int .i64 bb.node,.slice ca ul cc] 31);obtain⟨w7,hw7⟩:=zX1 (w6.alloc (.cells #[.int .u64 (s:Int),.int .u64 (bb.n:Int),.int .i64 bb.node,.slice ca ul cc] 31));rw[← hw7] at hn7 hk7 ⊢;clear hw7;obtain⟨ho,hFo,hkr,hm,hmi⟩:=HT.out;obtain⟨hr6,hk6,hown,hk5⟩:=HF.out;obtain⟨⟨hdv,hlr⟩,hk3,hk4,hcl,hul⟩:=HZ.out;have hk34:=hk3.nx hk4;have hk35:=hk34.nx hk5;have hk36:=hk35.nx hk6;have hk37:=hk36.nx hk7;have ho7:=ho.keep hk37 (fun _ _ x=>x);refine z0M (by rfl) (by rfl) (fun K hK=>?_)
      refine z0R z5B (.tmp 62) (.tmp 68) rfl rfl (by have:=ho7.row;rw[← hm] at this;exact this) (some ⟨w6.heap.size,0,none⟩) 1 1 (z2U ⟨s,bb,rest⟩ (.slice ca ul cc)) (by rfl)
       ⟨rfl,fun _=>⟨_,rfl,fun t u hu=>by rw[z0K,Nat.zero_add,cell_of_row _ _ _ _ _ _ hn7];simpa [z2U] using hu⟩⟩ (fun u hu=>by simp[z2U] at hu;rcases hu with rfl | rfl | rfl | rfl <;> rfl) (by unfold maxLen;omega) (by omega) ?_
      intro v8 w8 hr8 hk8 hv8;have hk8:Keep (fun k=>(Value.slice oo m oc).ownBlock=some k) w7 w8:=hk8;refine hK _ _ ?_;clear hK K
      have nxt:=hid (show ∃ us Fo,Votes w8 Fo v8 (docV (ps.take (i+1)) k) us∧(∀ k,Fo k→w.heap.size≤k)∧Keep (fun _=>False) w w8 from by
       have s1:=hkr.size;have s2:=hk34.size;have s5:=hk5.size;have s6:=hk6.size;rw[docV_snoc _ _ _ HI.out,← HX.out.1,hdv,if_pos (by simp;omega)];refine⟨us0 ++ [.slice ca ul cc],fun k=>Fo0 k∨(w4.heap.size≤k),ho7.push (u:=.slice ca ul cc) (x:=⟨s,bb,rest⟩) (F':=fun k=>Fo0 k∨(w4.heap.size≤k)) ?_ ?_ ?_ hk8 (fun k x=>.inl x) ?_,?_,?_⟩
       ·simp only
        rw[hlr];exact hr6.keep hk7 (fun _ _ x=>x)
       ·intro j e
        have h1:=hown j (by rw[z1H _ _ ul];exact e);exact⟨.inr (by omega),fun e2=>by have:=ho.row.lt (by rw[z1H _ _ m];exact e2);omega⟩
       ·rw[← hm];exact hr8
       ·intro j e
        rcases hv8 with ⟨_,h0⟩ | ⟨k',h1,h2⟩
        ·omega
        ·rw[e] at h1
         cases h1
         rcases h2 with h2 | h2
         ·exact⟨.inl (ho7.own j h2),.inl h2⟩
         ·have s7:=hk7.size
          exact⟨.inr (by omega),.inr (by omega)⟩
       ·rintro j (x | x)
        ·exact hFo j x
        ·omega
       ·exact(hkr.next hk37 (fun _ _ x=>x) (fun _ _ x=>x)).next hk8 (fun _ _ x=>x) (fun j hj e=>by have:=hFo j (ho7.own j e);omega))
      clear ho hFo hkr hm hmi hr6 hk6 hown hk5 hdv hlr hk3 hk4 hcl hul hk34 hk35 hk36 hk37 ho7 hr8 hk8 hv8 hn7 hk7 b0 b1
      repeat (first | (apply z0F (by rfl);(intro K w';go_simp;exact id)) | (apply z0J (by rfl);(intro K;go_simp;exact id)))
      refine z0T ?_;go_wp2_with (at_builtin;refine z0A ?_;intro q hq);go_roundw
      case rel=>exact⟨i+1,by omega,by go_num,nxt⟩
      case measure=>simp[intOf];omega
     ·have HY:=hid (show zcI k x=none from by rw[HZ.out.1.1,if_neg hy])
      have cut:s=0∨(0<s∧s<k)∨(0<s∧k≤s∧okb=false):=by cases okb <;> simp at hy ⊢ <;> omega
      clear hy
      have nxt:Hid (∃ us Fo,Votes w4 Fo (.slice oo m oc) (docV (ps.take (i+1)) k) us∧(∀ k,Fo k→w.heap.size≤k)∧Keep (fun _=>False) w w4):=hid (by
       obtain⟨ho,hFo,hkr,-⟩:=HT.out;have h4:=HZ.out.2.1.nx HZ.out.2.2.1;refine⟨us0,Fo0,?_,hFo,hkr.next h4 (fun _ _ x=>x) (fun _ _ x=>x)⟩;rw[docV_snoc _ _ _ HI.out,← HX.out.1,HY.out,Option.toList_none,List.append_nil]
       exact ho.keep h4 (fun _ _ x=>x))
      rcases cut with rfl | ⟨h0,hks⟩ | ⟨h0,hks,rfl⟩
      ·have r1:decide ((0:Int)<((0:Nat):Int))=false:=rfl
       go_wp2_with (at_builtin;refine z0A ?_;intro q hq);go_roundw
       case rel=>exact⟨i+1,by omega,by go_num,nxt⟩
       case measure=>simp[intOf];omega
      ·have r1:(0:Int)<(s:Int):=by omega
       have r2:decide ((k:Int)≤(s:Int))=false:=decide_eq_false (by omega);have r3:decide (k≤s)=false:=decide_eq_false (by omega);go_wp2_with (at_builtin;refine z0A ?_;intro q hq);go_roundw
       case rel=>exact⟨i+1,by omega,by go_num,nxt⟩
       case measure=>simp[intOf];omega
      ·have r1:(0:Int)<(s:Int):=by omega
       have r2:(k:Int)≤(s:Int):=by omega
       go_wp2_with (at_builtin;refine z0A ?_;intro q hq);go_roundw
       case rel=>exact⟨i+1,by omega,by go_num,nxt⟩
       case measure=>simp[intOf];omega
    ·have q1:decide ((i:Int)<n)=false:=by simp;omega
     obtain⟨ho,hFo,hkr,-⟩:=HT.out;obtain⟨hR,hn,-,-⟩:=HR.out;rw[List.take_of_length_le (by omega),← hR] at ho;have HZ:=hid (zA1 ho (zA1 hFo hkr));clear ho hFo hkr hR hn;go_wp2_with (at_builtin;refine z0A ?_;intro q hq);go_ret;exact⟨_,us0,Fo0,rfl,HZ.out.1,HZ.out.2.1,HZ.out.2.2⟩
end
section
open Go.RowKit Go.Maps
open MI SO BM DM WM AC
theorem RStoTo.turnsR {b d:Nat} {F1 F2:Nat→Prop} {w w':World} {D:Dk} {S:St} (h:RStoTo b d F1 F2 w D S w'):Turns (RStoT b d D S) (fun k=>F1 k∨F2 k) w w':=by
 obtain⟨F',Fd',h1,h2,h3,h4⟩:=h;exact⟨fun k=>F' k∨Fd' k,⟨F',Fd',h1,rfl⟩,h2,fun k x=>x.elim (fun y=>(h3 k y).imp .inl id) (fun y=>(h4 k y).imp .inr id)⟩
end
end Go.Proofs.YtkjofdocgaiedaaGreat
