/- Texts AccV, AccX, AcdA, AceJ, AcdH, AcdI, AccP, AcdJ in one. Conditions: as each law names them. -/
import Derived.Deep.CutBlock
import Derived.Deep.DeepCutAuto
import Derived.Test.YtkjofdocgaiedaaGreatYah
import Derived.Test.YtkjofdocgaiedaaGreatYak
import Derived.Test.YtkjofdocgaiedaaGreatYao
import Derived.Test.YtkjofdocgaiedaaGreatYaz
import Derived.Test.YtkjofdocgaiedaaGreatYbb
import Derived.Test.YtkjofdocgaiedaaGreatYbc
import Derived.Test.YtkjofdocgaiedaaGreatYbf
set_option maxRecDepth 20000
set_option maxHeartbeats 8000000
namespace Go.Proofs.YtkjofdocgaiedaaGreat
section
open Go.RowKit Go.Maps
open MI SO BM DM WM AC
def GetBPost (w:World) (s:Str) (e:Ending) (w':World):Prop:=Keep (fun _=>False) w w'∧match getB s with
 | some (b,rest)=>∃ u,e = .returned (.tuple #[balV b,u,.bool true])∧Row w' 5 1 u rest.length (z0B rest)∧∀ k,u.ownBlock=some k→w.heap.size≤k
 | none=>∃ (n d:Nat) (ua:Option Addr) (k c:Nat),e = .returned (.tuple #[.agg #[.int .u64 (n:Int),.int .i64 (d:Int)],.slice ua k c,.bool false])
theorem AC.getB_bad {s:Str} {n1 a1 e1 n2 a2 e2:Nat} (h1:(n1,a1,e1)=uS s (0,0)) (h2:(n2,a2,e2)=uS s (a1,e1)) (h:e2≠0∨12≤n2):getB s=none:=by
 unfold uS at h1 h2;unfold getB;simp only[ne_eq,not_true_eq_false,if_false] at h1
 cases hu:uint s 0 with
 | no x=>rfl
 | yes n t=>
   rw[hu] at h1;simp only at h1;cases h1;simp only[ne_eq,not_true_eq_false,if_false] at h2;simp only
   cases hu2:uint s a1 with
   | no x=>rfl
   | yes k b=>
     rw[hu2] at h2;simp only at h2;cases h2;simp only;rw[if_neg (by omega)]
theorem AC.getB_good {s:Str} {n1 a1 e1 n2 a2:Nat} (h1:(n1,a1,e1)=uS s (0,0)) (h2:(n2,a2,0)=uS s (a1,e1)) (h:n2<12):getB s=if 0<n1 then some (⟨n1,(n2:Int)⟩,s.drop a2) else none:=by
 unfold uS at h1 h2;unfold getB;simp only[ne_eq,not_true_eq_false,if_false] at h1
 cases hu:uint s 0 with
 | no x=>
   exfalso;rw[hu] at h1;simp only at h1;cases h1;have:=(z3T hu).1;rw[if_pos this] at h2;cases h2;exact this rfl
 | yes n t=>
   rw[hu] at h1;simp only at h1;cases h1;simp only[ne_eq,not_true_eq_false,if_false] at h2;simp only
   cases hu2:uint s a1 with
   | no x=>
     exfalso;rw[hu2] at h2;simp only at h2;cases h2;exact(z3T hu2).1 rfl
   | yes k b=>
     rw[hu2] at h2;simp only at h2;cases h2;simp only
     by_cases hn:0<n1
     ·rw[if_pos ⟨h,hn⟩,if_pos hn]
     ·rw[if_neg (by omega),if_neg hn]
theorem zaZ {w:World} {g i:Nat} {cs:Array Value} {t:TypeId} {v:Value} (h:w.heap[g]?=some (.cells cs t (0,0))) (hv:cs[i]?=some v):Keep (fun _=>False) w (w.setCell ⟨g,i,none⟩ v):=by
 have hk:Keep (fun k=>k=g) w (w.setCell ⟨g,i,none⟩ v):=kst;have hh:=heap_setCell_same w g i cs t v h;refine⟨hk.os,hk.tape,hk.output,hk.size,fun k hkl _=>?_⟩
 by_cases hkg:k=g
 ·subst hkg
  have e:cs.setIfInBounds i v=cs:=by
   apply Array.ext_getElem?;intro j;rw[Array.getElem?_setIfInBounds];split
   ·rename_i hij
    subst hij;split
    ·exact hv.symm
    ·rename_i hlt
     rw[Array.getElem?_eq_none (by omega)]
   ·rfl
  rw[hh,e,h]
 ·exact hk.block k hkl hkg
theorem z3F {P:Program} {fn:Func} {t u v:Tmp} {ty:TypeId} (h:fn.results = #[.cell t ty,.tmp u,.tmp v]) (tmps:Array Value) (w:World) (g:Nat) (ht:tmps.getD t undef = .pointer (some ⟨g,0,none⟩)) (cs:List Value)
  (hc:∀ j u,cs[j]?=some u→w.cell? ⟨g,j,none⟩=some u) (d:TypeDesc)
  (hu:P.underlying ty=some d) (hd:(match d with | .struct _ | .array _ _=>true | _=>false)=true) (hi:(P.info? ty).map (·.size)=some cs.length) :
  (results fn tmps).run P w = .ok (.tuple #[.agg cs.toArray,tmps.getD u undef,tmps.getD v undef]) w:=by
 have hl:=run_loadCells_list (P:=P) w ⟨g,0,none⟩ cs (fun j v hv=>by rw[z0L,Nat.zero_add];exact hc j v hv)
 cases hq:P.info? ty with
 | none=>simp[hq] at hi
 | some i=>
   have hs:i.size=cs.length:=by simpa [hq] using hi
   have hagg:(isAgg ty).run P w = .ok true w:=by
    unfold isAgg;rw[Sem.run_bind,run_underlying hu w];cases d <;> simp_all
   have hr:(loadVar ty ⟨g,0,none⟩).run P w = .ok (.agg cs.toArray) w:=by
    simp[loadVar,Sem.run_bind,hagg,sizeOf,typeInfo,hq,hs,hl]
   have ht':tmps[t]?.getD undef = .pointer (some ⟨g,0,none⟩):=by simpa using ht
   simp[results,h,ht',asAddr,hr]
theorem z3B (w1:World) (g:Nat) (a b:Value) (h:w1.heap[g]?=some (.cells #[a,b] 28 (0,0))) (c d:Value) :
  (∀ j u,[c,d][j]?=some u→((w1.setCell ⟨g,0,none⟩ c).setCell ⟨g,1,none⟩ d).cell? ⟨g,j,none⟩=some u)∧Keep (fun k=>k=g) w1 ((w1.setCell ⟨g,0,none⟩ c).setCell ⟨g,1,none⟩ d)∧
   ((w1.setCell ⟨g,0,none⟩ c).setCell ⟨g,1,none⟩ d).heap[g]?=some (.cells #[c,d] 28 (0,0)):=by
 have g1:=z0A h 0 c;have g2:=z0A g1 1 d;refine⟨fun j u hu=>?_,?_,g2⟩
 ·rw[cell_of_row _ _ _ _ _ _ g2]
  simpa using hu
 ·refine Keep.setCell (Keep.setCell (Keep.refl _ _) (.inl ?_) _) (.inl ?_) _ <;> rfl
theorem ztF (w:World) (s:Str) (hs:s.length≤1000000):Calls Tryz.prog 122 #[.string (str s)] w (GetBPost w s):=by
 have hn1:=heap_alloc_new w (.cells #[.int .u64 0,.int .i64 0] 28);have hk1:=kal w (.cells #[.int .u64 0,.int .i64 0] 28);obtain⟨w1,hw1⟩:=zX1 (w.alloc (.cells #[.int .u64 0,.int .i64 0] 28));have hz1:w1.heap.size=w.heap.size+1:=by rw[hw1];simp
 rw[← hw1] at hn1 hk1;obtain⟨c1,w2,hcv,hf2⟩:=z6Z w1 s (by unfold maxLen;omega);have H2:=hid (zA1 (hk1.nx hf2.keep) (zA1 (hf2.keep.get hn1 id) (zA1 hf2.row (zA1 hz1 hf2.keep.size))));have hrd:=zhA w2 _ s.length c1 s (Cells.of_row hf2.row) (by omega);clear hn1 hk1 hf2 hz1;go_enter Tryz.func122,Tryz.ntmps122
 go_upto_region 1 with fail
 rw[← hw1];clear hw1;go_wp2_with fail;refine hrd.mono ?_;rintro e w3 ⟨g,rv,rfl,hr3,hk3,hg3,-⟩;obtain⟨hk02,hn2,hrow2,hz1,hz2⟩:=H2.out;have hg:w.heap.size<g:=by omega
 have hn3:=hk3.get hn2 id;have HA:=hid (zA1 (hk02.nx hk3) (zA1 hn3 hr3));have hu1:=zcC w3 g rv s 0 0 hr3 (Nat.zero_le _) (by omega);have hp1:=znX s (a:=0) (e:=0) (Nat.zero_le _);obtain⟨r1,hr1⟩:=zX1 (uS s (0,0));rw[← hr1] at hu1 hp1;obtain⟨n1,a1,e1⟩:=r1;simp only at hu1 hp1;have HE1:=hid hr1;clear hrd hcv hk3 hr3 hk02 hn2 hrow2 hz1 hz2 H2 hg3 hn3 hr1;go_wp2_with fail;refine hu1.mono ?_;rintro e w4 ⟨rfl,hr4,hk4⟩;have hn4:=hk4.get HA.out.2.1 (fun x=>by omega);have f4:w4.frozen? ⟨w.heap.size,0,none⟩=false:=by simp[World.frozen?,hn4]
 have c4:w4.cell? ⟨w.heap.size,0,none⟩=some (.int .u64 0):=by simp[World.cell?,hn4]
 have hk5:Keep (fun k=>k=w.heap.size) w4 (w4.setCell ⟨w.heap.size,0,none⟩ (.int .u64 (n1:Int))):=kst;have hn5:=z0A hn4 0 (.int .u64 (n1:Int))
 have hr5:=hr4.keep hk5 (show ¬ g=w.heap.size by omega) (fun k e x=>by
  have h1:k=w.heap.size:=x;subst h1
  exact hr4.row.not_block hn4 (by decide) e)
 have hkA:=(HA.out.1.next hk4 (H:=fun _=>False) (fun _ _ x=>x) (fun j hj x=>by have h1:j=g:=x;omega)).next hk5 (H:=fun _=>False) (fun _ _ x=>x) (fun j hj x=>by have h1:j=w.heap.size:=x;omega);obtain⟨w5,hw5⟩:=zX1 (w4.setCell ⟨w.heap.size,0,none⟩ (.int .u64 (n1:Int)));rw[← hw5] at hn5 hr5 hkA;have H5:=hid (zA1 hn5 (zA1 hr5 hkA));clear hn4 hk5 hn5 hr4 hr5 hkA hk4 hu1 HA
 go_upto_region 3 with fail
 rw[← hw5];clear hw5 f4 c4;have hu2:=zcC w5 g rv s a1 e1 H5.out.2.1 hp1.1 (by omega);have hp2:=znX s (e:=e1) hp1.1;obtain⟨r2,hr2⟩:=zX1 (uS s (a1,e1));rw[← hr2] at hu2 hp2;obtain⟨n2,a2,e2⟩:=r2;simp only at hu2 hp2;have HE2:=hid hr2;clear hr2;go_wp2_with fail;refine hu2.mono ?_;rintro e w6 ⟨rfl,hr6,hk6⟩;have hn6:=hk6.get H5.out.1 (fun x=>by omega);have H6:=hid (zA1 hn6 (zA1 hr6 (H5.out.2.2.next hk6 (H:=fun _=>False) (fun _ _ x=>x) (fun j hj x=>by have h1:j=g:=x;omega))));have f6:∀ o,w6.frozen? ⟨w.heap.size,o,none⟩=false:=fun o=>by simp[World.frozen?,hn6]
 have c60:w6.cell? ⟨w.heap.size,0,none⟩=some (.int .u64 (n1:Int)):=by simp[World.cell?,hn6]
 have c61:w6.cell? ⟨w.heap.size,1,none⟩=some (.int .i64 0):=by simp[World.cell?,hn6]
 have her:=z3X w6 g rv s a2 e2 hr6;clear hu2 hr6 hn6 hk6 H5
 by_cases he:e2≠0
 ·have q1:((e2:Int) != 0)=true:=by simp;omega
  have q2:decide (e2=0)=false:=decide_eq_false he;have HB:=hid (AC.getB_bad HE1.out HE2.out (.inl he));clear he;go_wp2_with fail;refine her.mono ?_;rintro e w7 ⟨rfl,rfl⟩;clear her;go_wp2_with fail;obtain⟨g1,g2,-⟩:=z3B w7 w.heap.size _ _ H6.out.1 (.int .u64 (n1:Int)) (.int .i64 0);refine bodyPost_ret (z3F rfl _ _ w.heap.size rfl [.int .u64 (n1:Int),.int .i64 0] g1 _ Tryz.underlying28 rfl (by kernel_rfl)) rfl ⟨H6.out.2.2.next g2 (fun _ _ x=>x) (fun k hk x=>by omega),?_⟩;rw[HB.out];exact⟨n1,0,none,0,0,rfl⟩
 ·obtain rfl:e2=0:=by omega
  clear he
  by_cases hb:12≤n2
  ·have q2:(12:Int)≤(n2:Int):=by omega
   have HB:=hid (AC.getB_bad HE1.out HE2.out (.inr hb));clear hb;go_wp2_with fail;refine her.mono ?_;rintro e w7 ⟨rfl,rfl⟩;clear her;go_wp2_with fail;obtain⟨g1,g2,-⟩:=z3B w7 w.heap.size _ _ H6.out.1 (.int .u64 (n1:Int)) (.int .i64 0);refine bodyPost_ret (z3F rfl _ _ w.heap.size rfl [.int .u64 (n1:Int),.int .i64 0] g1 _ Tryz.underlying28 rfl (by kernel_rfl)) rfl ⟨H6.out.2.2.next g2 (fun _ _ x=>x) (fun k hk x=>by omega),?_⟩;rw[HB.out];exact⟨n1,0,none,0,0,rfl⟩
  ·have q2:decide ((12:Int)≤(n2:Int))=false:=decide_eq_false (by omega)
   have q3:decide (12≤n2)=false:=decide_eq_false hb;have q4:=wi64 n2 (by omega);have HB:=hid (AC.getB_good HE1.out HE2.out (by omega));have hn12:n2<12:=by omega
   clear hb;go_wp2_with (at_builtin;refine z0H ?_;intro q hq);refine her.mono ?_;rintro e w7 ⟨rfl,rfl⟩;clear her;have hk8:Keep (fun k=>k=w.heap.size) w7 (w7.setCell ⟨w.heap.size,1,none⟩ (.int .i64 (n2:Int))):=kst;have hn8:=z0A H6.out.1 1 (.int .i64 (n2:Int))
   have hr8:=H6.out.2.1.keep hk8 (show ¬ g=w.heap.size by omega) (fun k e x=>by
    have h1:k=w.heap.size:=x;subst h1
    exact H6.out.2.1.row.not_block H6.out.1 (by decide) e)
   have hkw:=H6.out.2.2.next hk8 (H:=fun _=>False) (fun _ _ x=>x) (fun j hj x=>by have h1:j=w.heap.size:=x;omega);obtain⟨w8,hw8⟩:=zX1 (w7.setCell ⟨w.heap.size,1,none⟩ (.int .i64 (n2:Int)));rw[← hw8] at hn8 hr8 hkw;have H8:=hid (zA1 hn8 (zA1 hr8 hkw));clear hk8 hn8 hr8 hkw
   go_upto_region 7 with fail
   rw[← hw8];clear hw8 f6 c60 c61 q2 q3 q4 H6;have c80:w8.cell? ⟨w.heap.size,0,none⟩=some (.int .u64 (n1:Int)):=by have:=H8.out.1;simp[World.cell?,this]
   have c81:w8.cell? ⟨w.heap.size,1,none⟩=some (.int .i64 (n2:Int)):=by have:=H8.out.1;simp[World.cell?,this]
   obtain⟨sl,hsl⟩:=zX1 (s.length);obtain⟨lf,hlf⟩:=zX1 (s.length - a2);have hsz:(str s).size=sl:=by rw[hsl];exact z1Z s
   obtain⟨r,hr⟩:=zX1 (s.drop a2);have hrl:r.length=lf:=by rw[hr,List.length_drop,hlf]
   have hex:(str s).extract a2 sl=str r:=by rw[hr,z5J,hsl,List.take_length]
   have hsub:(sl:Int) - (lf:Int)=(a2:Int):=by omega
   have t1:=wi64 a2 (by omega);obtain⟨rb,hrb⟩:=zX1 (z2S ⟨n1,(n2:Int)⟩);have HX:=hid (zA1 hsl (zA1 hlf (zA1 hr (zA1 hrl hrb))));clear hsl hlf hr hrl hrb
   have HL:=hid (fun s':Later w8=>show Calls Tryz.prog 92 #[.pointer (some ⟨g,0,none⟩)] s'.val fun e w'=>e = .returned (.int .i64 (lf:Nat))∧Keep (fun _=>False) s'.val w' from by
    have:=zaW s'.val g rv s a2 (H8.out.2.1.keep s'.keep id (fun _ _=>id)) hp2.1 (by omega);rw[← HX.out.2.1] at this
    exact this)
   have HRt:=hid (fun s':Later w8=>show Calls Tryz.prog 35 #[.agg #[.int .u64 (n1:Int),.int .i64 (n2:Int)]] s'.val fun e w'=>e = .returned (.bool rb)∧Keep (fun _=>False) s'.val w' from by
    have:=zaV s'.val ⟨n1,(n2:Int)⟩;rw[← HX.out.2.2.2.2] at this
    exact this)
   have j0:=fun s':Later w8=>s'.cell c80;have j1:=fun s':Later w8=>s'.cell c81;have hla:a2≤sl:=by have:=HX.out.1;have:=hp2.1;omega
   have hlz:(a2:Int)≤((str s).size:Nat):=by rw[hsz];omega
   refine z6G [(5,fun v _=>v = .int .i64 (lf:Nat)),(8,fun v w'=>∃ ua c,v = .slice ua lf c∧Row w' 5 1 v lf (z0B r)∧∀ k,v.ownBlock=some k→w8.heap.size≤k),(10,fun v _=>v = .bool rb),(11,fun _ _=>True)] (by kernel_rfl) (by kernel_rfl) ?_ ?_
   ·intro q hq v w1 w3 hk hx
    simp only[List.mem_cons,List.not_mem_nil,or_false] at hq
    rcases hq with rfl | rfl | rfl | rfl
    ·exact hx
    ·obtain⟨ua,c,e,hrw,ho⟩:=hx
     exact⟨ua,c,e,hrw.keep hk (fun _ _ x=>x),ho⟩
    ·exact hx
    ·trivial
   repeat (apply z3C (by rfl);(intro K s;go_simp;exact id))
   refine z3Z (by rfl) (by kernel_rfl) (fun s1 hs=>?_) (fun v hv K hK=>?_)
   ·go_simp
    refine(HL.out s1).mono ?_;rintro e w' ⟨rfl,hk⟩;exact⟨rfl,hk⟩
   obtain⟨s1,-,rfl⟩:=hv;go_simp;refine hK _ ?_;clear hK K s1
   repeat (apply z3C (by rfl);(intro K s;go_simp;exact id))
   refine z3Z (by rfl) (by kernel_rfl) (fun s1 hs=>?_) (fun v hv K hK=>?_)
   ·obtain⟨c,w2,hcv,hf⟩:=z6Z s1.val r (by have h1:=HX.out.2.2.2.1;have h2:=HX.out.2.1;unfold maxLen;omega)
    have hrl:=HX.out.2.2.2.1;rw[hrl] at hcv hf;go_simp;exact⟨hf.keep,by have h:=hf.row;rwa [hrl] at h,fun k e=>Nat.le_trans s1.keep.size (hf.own k e)⟩
   obtain⟨s2,-,ua,c,rfl,-,-⟩:=hv;go_simp;refine hK _ ?_;clear hK K s2
   repeat (apply z3C (by rfl);(intro K s;go_simp;exact id))
   refine z3Z (by rfl) (by kernel_rfl) (fun s1 hs=>?_) (fun v hv K hK=>?_)
   ·go_simp
    refine(HRt.out s1).mono ?_;rintro e w' ⟨rfl,hk⟩;exact⟨rfl,hk⟩
   obtain⟨s3,-,rfl⟩:=hv;go_simp;refine hK _ ?_;clear hK K s3
   repeat (apply z3C (by rfl);(intro K s;go_simp;exact id))
   refine z3Z (by rfl) (by kernel_rfl) (fun s1 hs=>?_) (fun v hv K hK=>?_)
   ·have hb1:=s1.keep.get H8.out.1 id
    have f1:∀ o,s1.val.frozen? ⟨w.heap.size,o,none⟩=false:=fun o=>by simp[World.frozen?,hb1]
    have c1:=s1.cell c80;have c2:=s1.cell c81;have e1:=zaZ hb1 (i:=0) rfl;have hb2:=z0A hb1 0 (.int .u64 (n1:Int));have e2:Keep (fun _=>False) (s1.val.setCell ⟨w.heap.size,0,none⟩ (.int .u64 (n1:Int))) ((s1.val.setCell ⟨w.heap.size,0,none⟩ (.int .u64 (n1:Int))).setCell ⟨w.heap.size,1,none⟩ (.int .i64 (n2:Int))):=zaZ hb2 (i:=1) rfl;have HS:=hid (e1.nx e2);clear e1 e2 hb1 hb2;go_simp;exact HS.out
   obtain⟨s4,-,-⟩:=hv;go_simp;refine hK _ ?_;clear hK K s4
   repeat (apply z3C (by rfl);(intro K s;go_simp;exact id))
   refine ziN ?_;intro s1 hs;obtain⟨_,_,-,hrow,hown⟩:=hs (8,(fun (v:Value) (w':World)=>∃ ua c,v = .slice ua lf c∧Row w' 5 1 v lf (z0B r)∧∀ k,v.ownBlock=some k→w8.heap.size≤k) (.slice ua lf c)) (List.mem_append_left _ (List.mem_append_left _ (List.mem_append_right _ (List.mem_singleton.2 rfl))));have hk1:=s1.keep;obtain⟨w9,hw9⟩:=zX1 (s1.val);rw[← hw9] at hk1 hrow ⊢;clear hw9 hs s1 j0 j1 HL HRt;go_wp2_with fail;have hb9:=hk1.get H8.out.1 id;refine bodyPost_ret (z3F rfl _ _ w.heap.size rfl [.int .u64 (n1:Int),.int .i64 (n2:Int)] (fun j u hu=>by rw[cell_of_row _ _ _ _ _ _ hb9];simpa using hu) _ Tryz.underlying28 rfl (by kernel_rfl)) rfl ⟨H8.out.2.2.nx hk1,?_⟩;rw[HB.out]
   by_cases hn:0<n1
   ·rw[if_pos hn]
    have hrb:rb=true:=by rw[HX.out.2.2.2.2];exact z1P.2 ⟨hn,by simp,by simp only;omega⟩
    subst hrb;simp only;refine⟨.slice ua lf c,rfl,?_,fun k e=>Nat.le_trans H8.out.2.2.size (hown k e)⟩;rw[← HX.out.2.2.1,HX.out.2.2.2.1];exact hrow
   ·rw[if_neg hn]
    have hrb:rb=false:=by
     rw[HX.out.2.2.2.2]
     cases h:z2S ⟨n1,(n2:Int)⟩ with
     | false=>rfl
     | true=>exact absurd (z1P.1 h).1 hn
    subst hrb;exact⟨n1,n2,ua,lf,c,rfl⟩
end
section
open Go.RowKit Go.Maps
open MI SO BM DM WM AC
theorem Row.setAt {w:World} {e:TypeId} {size g n cap:Nat} {xs:List Value} (h:Row w e size (.slice (.some ⟨g,0,none⟩) n cap) n xs) (i:Nat) (u:Value) :
  Row (w.setCell ⟨g,i,none⟩ u) e size (.slice (.some ⟨g,0,none⟩) n cap) n (xs.set i u):=by
 obtain⟨h0,h⟩:=h
 rcases h with ⟨hv,_⟩ | ⟨g',cap',cur,fz,hv,hg,hf,h1,h2,h3,h4⟩
 ·cases hv
 ·cases hv
  refine⟨by simpa using h0,.inr ⟨g,cap,cur.setIfInBounds i u,fz,rfl,?_,by simpa using hf,h1,h2,by simpa using h3,?_⟩⟩
  ·simp[World.setCell]
   rw[Array.getElem?_modify];simp[hg]
  ·rw[← h4]
   simp only[Array.toList_setIfInBounds];rw[List.take_set]
def put4 (l:List Value) (p:Nat) (y:List Value):List Value:=l.take p ++ y ++ l.drop (p+4)
theorem zlS (l:List Value) (p:Nat) (a b c d:Value) (hp:p+4≤l.length):(((l.set p a).set (p+1) b).set (p+2) c).set (p+3) d=put4 l p [a,b,c,d]:=by
 unfold put4;apply List.ext_getElem?;intro j;simp only[List.getElem?_set,List.length_set]
 by_cases h:j<p
 ·rw[if_neg (by omega),if_neg (by omega),if_neg (by omega),if_neg (by omega),List.append_assoc,List.getElem?_append_left (by simp;omega),List.getElem?_take_of_lt h]
 ·by_cases h4:j<p+4
  ·obtain⟨k,rfl⟩:∃ k,j=p+k:=⟨j - p,by omega⟩
   have hk:k<4:=by omega
   rw[List.getElem?_append_left (by simp;omega),List.getElem?_append_right (by simp;omega)];simp only[List.length_take,Nat.min_eq_left (show p≤l.length by omega),Nat.add_sub_cancel_left]
   match k,hk with
   | 0,_=>simp;omega
   | 1,_=>simp;omega
   | 2,_=>simp;omega
   | 3,_=>simp;omega
  ·rw[if_neg (by omega),if_neg (by omega),if_neg (by omega),if_neg (by omega),List.getElem?_append_right (by simp;omega),List.getElem?_drop]
   congr 1;simp;omega
theorem ztG (xs z y:List Value) (p:Nat) (hz:z.length=4) (hp:p≤xs.length):put4 (splice (xs ++ z) (p+4) (xs.drop p)) p y=xs.take p ++ y ++ xs.drop p:=by
 unfold put4 splice;have h1:((xs ++ z).take (p+4)).length=p+4:=by simp;omega
 rw[List.append_assoc,List.take_append_of_le_length (by omega),List.drop_append,h1,Nat.sub_self,List.drop_zero,List.drop_of_length_le (by omega),List.nil_append];rw[List.take_take,Nat.min_eq_left (by omega),List.take_append_of_le_length hp];have h2:(xs ++ z).drop (p+4+(xs.drop p).length) = []:=List.drop_of_length_le (by simp;omega);rw[h2,List.append_nil,List.append_assoc]
theorem z6U {vs ws:List Vt} {us ts:List Value} (h:us.length=vs.length):z0V (vs ++ ws) (us ++ ts)=z0V vs us ++ z0V ws ts:=by
 unfold z0V;rw[List.zip_append h.symm];simp
theorem z6V {vs:List Vt} {us:List Value} (h:us.length=vs.length) (p:Nat) (hp:p≤vs.length):(z0V vs us).take (p * 4)=z0V (vs.take p) (us.take p)∧(z0V vs us).drop (p * 4)=z0V (vs.drop p) (us.drop p):=by
 have e:z0V vs us=z0V (vs.take p) (us.take p) ++ z0V (vs.drop p) (us.drop p):=by
  rw[← z6U (by simp[h]),List.take_append_drop,List.take_append_drop]
 have hl:(z0V (vs.take p) (us.take p)).length=p * 4:=by rw[z4X (by simp[h])];simp;omega
 rw[e];exact⟨by rw[List.take_append_of_le_length (by omega),List.take_of_length_le (by omega)],by rw[List.drop_append_of_le_length (by omega),List.drop_of_length_le (by omega),List.nil_append]⟩
theorem zmO {vs:List Vt} {us:List Value} (h:us.length=vs.length) (p:Nat) (hp:p<vs.length) (x:Vt) (u:Value):put4 (z0V vs us) (p * 4) (z2R x u)=z0V (vs.set p x) (us.set p u):=by
 unfold put4;rw[(z6V h p (by omega)).1,show p * 4+4=(p+1) * 4 by omega,(z6V h (p+1) (by omega)).2]
 have e:z0V (vs.set p x) (us.set p u)=z0V (vs.take p ++ x :: vs.drop (p+1)) (us.take p ++ u :: us.drop (p+1)):=by
  rw[List.set_eq_take_append_cons_drop,if_pos hp,List.set_eq_take_append_cons_drop,if_pos (by omega)]
 rw[e,z6U (by simp[h]),List.append_assoc];rfl
theorem zmA {vs:List Vt} {us:List Value} (h:us.length=vs.length) (p:Nat) (hp:p≤vs.length) (x:Vt) (u:Value):(z0V vs us).take (p * 4) ++ z2R x u ++ (z0V vs us).drop (p * 4)=z0V (vs.take p ++ x :: vs.drop p) (us.take p ++ u :: us.drop p):=by
 rw[(z6V h p hp).1,(z6V h p hp).2,z6U (by simp[h]),List.append_assoc];rfl
theorem Votes.re {w1 w3:World} {F:Nat→Prop} {g m cap:Nat} {vs VS:List Vt} {us US:List Value} (h:Votes w1 F (.slice (some ⟨g,0,none⟩) m cap) vs us) (hk:Keep (fun k=>k=g) w1 w3)
  (hr:Row w3 31 4 (.slice (some ⟨g,0,none⟩) m cap) VS.length (z0V VS US)) (hlen:US.length=VS.length)
  (he:∀ j (hj:j<VS.length),(∃ i,∃ hi:i<vs.length,VS[j]=vs[i]∧US.getD j undef=us.getD i undef)∨(Row w1 5 1 (US.getD j undef) VS[j].val.length (z0B VS[j].val)∧∀ k,(US.getD j undef).ownBlock=some k→F k∧k≠g)) :
  Votes w3 F (.slice (some ⟨g,0,none⟩) m cap) VS US:=by
 have hg:(Value.slice (some ⟨g,0,none⟩) m cap).ownBlock=some g:=rfl;refine⟨hr,hlen,h.own,fun j hj=>?_⟩
 rcases he j hj with ⟨i,hi,e1,e2⟩ | ⟨h2,h3⟩
 ·obtain⟨h2,h3⟩:=h.each i hi
  rw[e1,e2]
  exact⟨h2.keep hk fun k e x=>by
   have x':k=g:=x;subst x'
   exact(h3 k e).2 hg,h3⟩
 ·exact⟨h2.keep hk fun k e x=>(h3 k e).2 x,fun k e=>⟨(h3 k e).1,fun x=>by
   rw[hg] at x
   exact(h3 k e).2 (Option.some.inj x).symm⟩⟩
theorem Votes.put {w1 w3:World} {F:Nat→Prop} {g m cap:Nat} {vs:List Vt} {us:List Value} (h:Votes w1 F (.slice (some ⟨g,0,none⟩) m cap) vs us) (p:Nat) (hp:p<vs.length) (x:Vt) (u:Value)
  (hu:Row w1 5 1 u x.val.length (z0B x.val)) (hou:∀ k,u.ownBlock=some k→F k∧k≠g) (hk:Keep (fun k=>k=g) w1 w3) (hr:Row w3 31 4 (.slice (some ⟨g,0,none⟩) m cap) vs.length (put4 (z0V vs us) (p * 4) (z2R x u))) :
  Votes w3 F (.slice (some ⟨g,0,none⟩) m cap) (vs.set p x) (us.set p u):=by
 rw[zmO h.len p hp] at hr;refine h.re hk (by rw[List.length_set];exact hr) (by rw[List.length_set,List.length_set];exact h.len) fun j hj=>?_;rw[List.length_set] at hj
 by_cases e:j=p
 ·subst e
  right
  have e2:(us.set j u).getD j undef=u:=by
   rw[List.getD_eq_getElem?_getD,List.getElem?_set_self (by rw[h.len];exact hp)];rfl
  rw[e2];simp only[List.getElem_set_self];exact⟨hu,hou⟩
 ·left
  refine⟨j,hj,by rw[List.getElem_set_ne (fun x=>e x.symm)],?_⟩;simp only[List.getD_eq_getElem?_getD];rw[List.getElem?_set_ne (fun x=>e x.symm)]
theorem Votes.ins {w1 w3:World} {F:Nat→Prop} {g m cap:Nat} {vs:List Vt} {us:List Value} {z:Vt} {zu:Value} (h:Votes w1 F (.slice (some ⟨g,0,none⟩) m cap) (vs ++ [z]) (us ++ [zu])) (hlen:us.length=vs.length) (p:Nat) (hp:p≤vs.length) (x:Vt) (u:Value)
  (hu:Row w1 5 1 u x.val.length (z0B x.val)) (hou:∀ k,u.ownBlock=some k→F k∧k≠g) (hk:Keep (fun k=>k=g) w1 w3)
  (hr:Row w3 31 4 (.slice (some ⟨g,0,none⟩) m cap) (vs.length+1) (put4 (splice (z0V (vs ++ [z]) (us ++ [zu])) (p * 4+4) ((z0V vs us).drop (p * 4))) (p * 4) (z2R x u))) :
  Votes w3 F (.slice (some ⟨g,0,none⟩) m cap) (vs.take p ++ x :: vs.drop p) (us.take p ++ u :: us.drop p):=by
 rw[z6R hlen,ztG _ _ _ _ (by simp[z2R]) (by rw[z4X hlen];omega),zmA hlen p hp] at hr;have hVl:(vs.take p ++ x :: vs.drop p).length=vs.length+1:=by simp;omega
 have hget:∀ i,i<vs.length→(us ++ [zu]).getD i undef=us.getD i undef:=fun i hi=>by
  simp only[List.getD_eq_getElem?_getD];rw[List.getElem?_append_left (by rw[hlen];exact hi)]
 refine h.re hk (by rw[hVl];exact hr) (by simp[hlen]) fun j hj=>?_;rw[hVl] at hj
 rcases Nat.lt_trichotomy j p with e | e | e
 ·left
  refine⟨j,by simp;omega,?_,?_⟩
  ·rw[List.getElem_append_left (by simp;omega),List.getElem_append_left (by omega)]
   simp
  ·rw[hget j (by omega)]
   simp only[List.getD_eq_getElem?_getD];rw[List.getElem?_append_left (by simp;omega),List.getElem?_take_of_lt e]
 ·subst e
  right
  have e2:(us.take j ++ u :: us.drop j).getD j undef=u:=by
   simp only[List.getD_eq_getElem?_getD];rw[List.getElem?_append_right (by simp;omega)];simp[show min j us.length=j by omega]
  have e3:(vs.take j ++ x :: vs.drop j)[j]=x:=by
   rw[List.getElem_append_right (by simp;omega)];simp[show min j vs.length=j by omega]
  rw[e2,e3];exact⟨hu,hou⟩
 ·left
  obtain⟨i,rfl⟩:∃ i,j=i+1:=⟨j - 1,by omega⟩;refine⟨i,by simp;omega,?_,?_⟩
  ·rw[List.getElem_append_right (by simp;omega),List.getElem_append_left (by omega)]
   simp only[List.length_take,show i+1 - min p vs.length=(i - p)+1 by omega,List.getElem_cons_succ,List.getElem_drop];congr 1;omega
  ·rw[hget i (by omega)]
   simp only[List.getD_eq_getElem?_getD];rw[List.getElem?_append_right (by simp;omega)];simp only[List.length_take,show i+1 - min p us.length=(i - p)+1 by omega,List.getElem?_cons_succ,List.getElem?_drop];congr 2;omega
theorem Votes.lts {w:World} {F:Nat→Prop} {v:Value} {vs:List Vt} {us:List Value} (h:Votes w F v vs us):Votes w (fun k=>F k∧k<w.heap.size) v vs us:=
 ⟨h.row,h.len,fun k e=>⟨h.own k e,h.row.lt e⟩,fun j hj=>let ⟨h2,h3⟩:=h.each j hj;⟨h2,fun k e=>⟨⟨(h3 k e).1,h2.lt e⟩,(h3 k e).2⟩⟩⟩
theorem zgT (g cap lo size:Nat):z1J (some ⟨g,0,none⟩) cap lo size=some ⟨g,if cap=lo then 0 else lo * size,none⟩:=by
 unfold z1J;split
 ·rfl
 ·simp only[Option.map_some]
  rw[z0L,Nat.zero_add]
theorem zeV (l:List Value) (i:Nat):splice l i []=l:=by simp[splice]
theorem copied (xs z:List Value) (p m:Nat) (hx:xs.length=p+m):((xs ++ z).drop p).take m=xs.drop p:=by
 rw[List.drop_append_of_le_length (by omega),List.take_append_of_le_length (by simp;omega),List.take_of_length_le (by simp;omega)]
theorem zhF {w10 w13 w17:World} {a d sb:Nat} {D:Dk} {S:St} {b:Bal} {nv':Value} {vs':List Vt} {us':List Value} {X Y Z K:Nat→Prop} (e1:∀ i,X i→¬ Y i) (e2:∀ i,X i→¬ Z i) (e3:∀ i,Y i→¬ Z i)
  (hbx:BoxA a (accC sb b nv' S.dead) 86 w17 X) (hst:StoT sb d D S w13 Y) (hk:Keep K w13 w17) (hK:∀ k,Y k→¬ K k) (hv:Votes w17 (fun k=>Z k∨w10.heap.size≤k) nv' vs' us') (lX:∀ i,X i→i<w10.heap.size) (lY:∀ i,Y i→i<w10.heap.size) :
  AcT a d D ⟨S,b,vs'⟩ w17 (fun k=>X k∨Y k∨((Z k∨w10.heap.size≤k)∧k<w17.heap.size)):=
 ⟨sb,nv',X,Y,_,hbx,(StoT.lives _ _ _ _).keep hst hk hK,⟨⟨us',hv.lts⟩,fun k x=>x.2⟩,e1,fun i x y=>y.1.elim (e2 i x) fun z=>by have:=lX i x;omega,fun i x y=>y.1.elim (e3 i x) fun z=>by have:=lY i x;omega,rfl⟩
theorem Votes.one {w:World} {F:Nat→Prop} {v:Value} {vs:List Vt} {us:List Value} (h:Votes w F v vs us):∀ x ∈ z0V vs us,x.oneCell'=true:=fun x hx=>by
 unfold z0V at hx;obtain⟨p,hp,hx⟩:=List.mem_flatMap.1 hx;simp only[z2R,List.mem_cons,List.not_mem_nil,or_false] at hx
 rcases hx with rfl | rfl | rfl | rfl
 ·rfl
 ·rfl
 ·rfl
 ·obtain⟨j,hj,e⟩:=List.mem_iff_getElem.1 hp
  have hj2:j<vs.length:=by rw[List.length_zip] at hj;omega
  obtain⟨h2,-⟩:=h.each j hj2
  have e2:us.getD j undef=p.2:=by
   rw[← e,List.getElem_zip,List.getD_eq_getElem?_getD,List.getElem?_eq_getElem (by rw[h.len];exact hj2)];rfl
  rw[e2] at h2;obtain⟨ad,cap,e3,-⟩:=h2.form;rw[e3];rfl
theorem z4Q {w:World} {b:Nat} {T:TypeId} {a0 a1 a2 a3:Value} (H:w.heap[b]?=some (.cells #[a0,a1,a2,a3] T (0,0))) :
  w.cell? ⟨b,0,none⟩=some a0∧w.cell? ⟨b,1,none⟩=some a1∧w.cell? ⟨b,2,none⟩=some a2∧w.cell? ⟨b,3,none⟩=some a3∧(∀ o,w.frozen? ⟨b,o,none⟩=false)∧b<w.heap.size:=by
 refine⟨?_,?_,?_,?_,?_,z0M H⟩ <;> simp[World.cell?,World.frozen?,H]
end
section
open Go.RowKit Go.Maps
open MI SO BM DM WM AC
def ReadPost (w:World) (a sb B:Nat) (nv:Value) (st:Bal×List Vt) (p:Str×Str) (e:Ending) (w':World):Prop:=
 Keep (fun k=>k=a∨nv.ownBlock=some k) w w'∧match rd1 st p with
 | none=>e = .returned (.bool false)
 | some st'=>e = .returned (.bool true)∧∃ nv' us',w'.heap[a]?=some (.cells (accC sb st'.1 nv' false) 86 (0,0))∧Votes w' (fun k=>B≤k) nv' st'.2 us'
theorem ziA (k:Str) (i:Nat) (h:i<(str k).size) (hi:i<k.length):(str k)[i]'h=k[i]:=by
 simp[str];rfl
theorem z1G {w:World} {b:Nat} {T:TypeId} {a0 a1:Value} (H:w.heap[b]?=some (.cells #[a0,a1] T (0,0))) :
  w.cell? ⟨b,0,none⟩=some a0∧w.cell? ⟨b,1,none⟩=some a1∧(∀ o,w.frozen? ⟨b,o,none⟩=false)∧b<w.heap.size:=by
 refine⟨?_,?_,?_,z0M H⟩ <;> simp[World.cell?,World.frozen?,H]
theorem zqE (w:World) (a sb B:Nat) (hB:a<B) (hBw:B≤w.heap.size) (st:Bal×List Vt) (nv:Value) (us:List Value) (k v:Str) (hh:w.heap[a]?=some (.cells (accC sb st.1 nv false) 86 (0,0))) (hv:Votes w (fun k=>B≤k) nv st.2 us) (hk:k.length≤1000000) (hvl:v.length≤1000000) (hN:st.2.length≤1000000) :
  Calls Tryz.prog 60 #[.pointer (some ⟨a,0,none⟩),.string (str k),.string (str v)] w (ReadPost w a sb B nv st (k,v)):=by
 obtain⟨Post,hPost⟩:=zX1 (ReadPost w a sb B nv st (k,v));rw[← hPost];have hgt:=ztF w v hvl;have H0:=hid (zA1 hh (zA1 hv (zA1 hk hN)));have HP:=hid hPost;clear hh hv hk hN hvl hPost;go_enter Tryz.func60,Tryz.ntmps60;go_wp2_with fail;refine hgt.mono ?_;rintro e w1 ⟨hk1,hres⟩;clear hgt
 cases hg:getB v with
 | none=>
   rw[hg] at hres;obtain⟨n,d,ua,kk,c,rfl⟩:=hres;have hR:rd1 st (k,v)=none:=by unfold rd1;rw[hg]
   have HR:=hid hR;have hn2:=heap_alloc_new w1 (.cells #[.int .u64 (n:Int),.int .i64 (d:Int)] 28);have hk2:=kal w1 (.cells #[.int .u64 (n:Int),.int .i64 (d:Int)] 28);have H2:=hid (zA1 hn2 (hk1.nx hk2));clear hn2 hk2 hg hR hk1
   go_upto_region 2 with fail
   obtain⟨w2,hw2⟩:=zX1 (w1.alloc (.cells #[.int .u64 (n:Int),.int .i64 (d:Int)] 28));rw[← hw2] at H2 ⊢;clear hw2;obtain⟨c0,c1,cf,cb⟩:=z1G H2.out.1;have hb2:=H2.out.2.get H0.out.1 id;obtain⟨p0,p1,p2,p3,p4,pf,pb⟩:=z2K hb2;clear c0 c1 cf cb;obtain⟨c0,c1,cf,cb⟩:=z1G H2.out.1;have hsz:=z1Z k;obtain⟨kl,hkl⟩:=zX1 (k.length);rw[← hkl] at hsz;have hk6:kl≤1000000:=by rw[hkl];exact H0.out.2.2.1
   by_cases hp:k=pK
   ·have q1:((str k).toList == [112])=true:=by rw[z0Y,hp];rfl
    have hkz:Keep (fun j=>j=a) w2 ((w2.setCell ⟨a,1,none⟩ (.int .u64 (n:Int))).setCell ⟨a,2,none⟩ (.int .i64 (d:Int))):=by refine Keep.setCell (Keep.setCell (Keep.refl _ _) (.inl ?_) _) (.inl ?_) _ <;> rfl
    have HZ:=hid (H2.out.2.next hkz (H:=fun j=>j=a∨nv.ownBlock=some j) (fun _ _ x=>x.elim) (fun _ _ x=>.inl x));clear p0 p3 p4 pb hp hb2 hkz hkl hsz;go_wp2_with fail;show Post (.returned (.bool false)) _;rw[HP.out];exact⟨HZ.out,by rw[HR.out]⟩
   ·have q1:((str k).toList == [112])=false:=by rw[z0Y,beq_eq_false_iff_ne];exact hp
    have HZ:=hid (H2.out.2.mono (G:=fun j=>j=a∨nv.ownBlock=some j) (fun _ _ x=>x.elim));have fin:Post (.returned (.bool false)) w2:=by rw[HP.out];exact⟨HZ.out,by rw[HR.out]⟩
    have HF:=hid fin;clear p0 p1 p2 p3 p4 pf pb hb2 hp c0 c1 cf cb fin
    by_cases h9:kl=9
    ·subst h9
     cases k with
     | nil=>cases hkl
     | cons ch r=>
       have hix:=ziA (ch :: r) 0 (by rw[hsz];decide) (by simp);rw[List.getElem_cons_zero] at hix
       by_cases hch:ch.toNat=118
       ·have q2:((ch.toNat:Int) != 118)=false:=by simp;omega
        clear hkl;go_wp2_with fail;exact HF.out
       ·have q2:((ch.toNat:Int) != 118)=true:=by simp;omega
        clear hkl;go_wp2_with fail;exact HF.out
    ·have q2:((kl:Int) != 9)=true:=by simp;omega
     clear hkl;go_wp2_with fail;exact HF.out
 | some q=>
   obtain⟨b,rest⟩:=q;rw[hg] at hres;obtain⟨u,rfl,hrow,hown⟩:=hres;obtain⟨ua,uc,rfl,-⟩:=hrow.form;have hR:rd1 st (k,v)=if k=pK then (if rest = [] then some (b,st.2) else none) else if z2U k≠0∧rest.length≤100 then some (st.1,st.2 ++ [⟨z2U k,b,rest⟩]) else none:=by unfold rd1;rw[hg]
   have HR:=hid hR;obtain⟨rl,hrl⟩:=zX1 (rest.length);rw[← hrl] at hrow hown ⊢;have Hrl:=hid hrl;have hn2:=heap_alloc_new w1 (.cells (balC b) 28);have hk2:=kal w1 (.cells (balC b) 28);have H2:=hid (zA1 hn2 (zA1 (hk1.nx hk2) (zA1 (hrow.keep hk2 (fun _ _ x=>x)) hown)));clear hn2 hk2 hg hR hk1 hrow hown hrl
   go_upto_region 2 with fail
   obtain⟨w2,hw2⟩:=zX1 (w1.alloc (.cells (balC b) 28));rw[← hw2] at H2 ⊢;clear hw2;have hb2:=H2.out.2.1.get H0.out.1 id;obtain⟨p0,p1,p2,p3,p4,pf,pb⟩:=z2K hb2;obtain⟨c0,c1,cf,cb⟩:=z1G H2.out.1;have hsz:=z1Z k;obtain⟨kl,hkl⟩:=zX1 (k.length);rw[← hkl] at hsz;have hk6:kl≤1000000:=by rw[hkl];exact H0.out.2.2.1
   by_cases hp:k=pK
   ·have q1:((str k).toList == [112])=true:=by rw[z0Y,hp];rfl
    have hkz:Keep (fun j=>j=a) w2 ((w2.setCell ⟨a,1,none⟩ (.int .u64 (b.n:Int))).setCell ⟨a,2,none⟩ (.int .i64 b.node)):=by refine Keep.setCell (Keep.setCell (Keep.refl _ _) (.inl ?_) _) (.inl ?_) _ <;> rfl
    have HZ:=hid (zA1 (H2.out.2.1.next hkz (H:=fun j=>j=a∨nv.ownBlock=some j) (fun _ _ x=>x.elim) (fun _ _ x=>.inl x)) (zA1 (z0A (z0A hb2 1 (.int .u64 (b.n:Int))) 2 (.int .i64 b.node))
     ((H0.out.2.1.keep H2.out.2.1 (fun _ _ x=>x)).keep hkz (fun j x e=>by have e':j=a:=e;have x':B≤j:=x;omega))))
    have Hp:=hid hp;clear p0 p3 p4 pb hp hb2 hkz hkl hsz
    by_cases hr0:rl=0
    ·have q2:((rl:Int) == 0)=true:=by simp[hr0]
     have Hr:=hid hr0;subst hr0;go_wp2_with fail;show Post (.returned (.bool true)) _;rw[HP.out];refine⟨HZ.out.1,?_⟩;rw[HR.out,if_pos Hp.out,if_pos (List.length_eq_zero_iff.1 Hrl.out.symm)];exact⟨rfl,nv,us,HZ.out.2.1,HZ.out.2.2⟩
    ·have q2:((rl:Int) == 0)=false:=by simp;omega
     have q3:decide (rl=0)=false:=decide_eq_false hr0;have Hr:=hid hr0;go_wp2_with fail;show Post (.returned (.bool false)) _;rw[HP.out];refine⟨HZ.out.1,?_⟩;rw[HR.out,if_pos Hp.out,if_neg (fun e=>Hr.out (by rw[Hrl.out,e];rfl))]
   ·have q1:((str k).toList == [112])=false:=by rw[z0Y,beq_eq_false_iff_ne];exact hp
    have HZ:=hid (H2.out.2.1.mono (G:=fun j=>j=a∨nv.ownBlock=some j) (fun _ _ x=>x.elim))
    have fin:(z2U k=0∨100<rl)→Post (.returned (.bool false)) w2:=fun h=>by
     rw[HP.out];refine⟨HZ.out,?_⟩;rw[HR.out,if_neg hp,if_neg (fun x=>h.elim x.1 (fun y=>by have:=x.2;have:=Hrl.out;omega))]
    have HF:=hid fin;have Hp:=hid hp;clear p0 p1 p2 p4 hb2 hp fin
    by_cases h9:kl=9
    ·subst h9
     cases k with
     | nil=>cases hkl
     | cons ch r=>
       have hix:=ziA (ch :: r) 0 (by rw[hsz];decide) (by simp);rw[List.getElem_cons_zero] at hix
       by_cases hch:ch.toNat=118
       ·have q2:((ch.toNat:Int) != 118)=false:=by simp;omega
        have hr8:r.length=8:=by simp at hkl;omega
        have hch2:ch=118:=by rw[← UInt8.toNat_inj];exact hch
        have hsK:z2U (ch :: r)=valN r:=by unfold z2U;simp only;rw[if_pos ⟨hch2,hr8⟩]
        by_cases hl:rl≤100
        ·have q3:decide ((100:Int)<(rl:Int))=false:=decide_eq_false (by omega)
         have q4:decide (100<rl)=false:=decide_eq_false (by omega);have HC:=hid (zA1 hr8 (zA1 hsK (zA1 hl hch2)));clear hkl hr8 hsK hl hch2;go_wp2_with fail;clear hix q2 q3 q4 hch
         go_loopw [10,11] (fun sv iv wr=>∃ i:Nat,i≤8∧sv = .int .u64 (valN (r.take i):Nat)∧iv = .int .i64 (i+1:Nat)∧wr=w2) (fun _ iv _=>9 - (intOf iv).toNat)
         case atStart=>exact⟨0,by omega,rfl,rfl,rfl⟩
         case round=>
          obtain⟨i,hi,rfl,rfl,rfl⟩:=hrel;obtain⟨i1,hi1⟩:=zX1 (i+1);rw[← hi1];have hsz9:i1≤9:=by omega
          by_cases hi8:i<8
          ·have q2:(i1:Int)<9:=by omega
           have hir:i<r.length:=by have:=HC.out.1;omega
           have hlt:i1<(str (ch :: r)).size:=by rw[hsz];omega
           have hix:=ziA (ch :: r) i1 hlt (by simp;omega);have hel:(ch :: r)[i1]'(by simp;omega)=r[i]:=by subst hi1;simp
           rw[hel] at hix;have hv:=zcM (r.take i)
           have hv7:valN (r.take i)<72057594037927936:=Nat.lt_of_lt_of_le hv (by
            rw[List.length_take,Nat.min_eq_left (by omega)]
            exact Nat.le_trans (Nat.pow_le_pow_right (by decide) (show i≤7 by omega)) (by decide))
           have hsn:valN (r.take (i+1))=valN (r.take i) * 256+(r[i]).toNat:=by
            rw[List.take_add_one,List.getElem?_eq_getElem hir,Option.toList_some,zcW]
           have hb:=(r[i]).toNat_lt;obtain⟨x,hx⟩:=zX1 (r[i]);rw[← hx] at hix hsn hb;obtain⟨xn,hxn⟩:=zX1 (x.toNat);rw[← hxn] at hsn hb;have hxn':=hxn.symm;obtain⟨vv,hvv⟩:=zX1 (valN (r.take i));rw[← hvv] at hv7 hsn ⊢;obtain⟨v8,e8⟩:=zX1 (vv * 256);have b1:(vv:Int) * 256=(v8:Int):=by omega
           have b2:=wu64 v8 (by omega);have b3:=wu64 xn (by omega);have b4:=u64_or_nat v8 xn (by omega) (by omega);rw[nat_join 8 v8 xn (by omega) (by omega)] at b4;obtain⟨y,hy⟩:=zX1 (v8+xn);rw[← hy] at b4;have HY:=hid (show y=valN (r.take (i+1)) by rw[hsn];omega);have HI:=hid hi1;clear hv hir hel hsn hb hx hvv hv7 e8 hy hxn hi1;go_wp2_with fail;exact⟨⟨i+1,by omega,by rw[HY.out],by have:=HI.out;go_num,by first | rfl | trivial⟩,by have:=HI.out;simp[intOf];omega⟩
          ·obtain rfl:i=8:=by omega
           subst hi1;rw[show r.take 8=r from List.take_of_length_le (by have:=HC.out.1;omega)];obtain⟨sl,hsl⟩:=zX1 (valN r);rw[← hsl];have Hsl:=hid hsl;clear hsl hi hsz9;go_wp2_with fail;obtain⟨ao,nc,hnv,-⟩:=H0.out.2.1.row.form;subst hnv;obtain⟨n,hn⟩:=zX1 (st.2.length);rw[← hn] at p3;have hn6:n≤1000000:=by rw[hn];exact H0.out.2.2.2
           have Hn:=hid hn;clear hn;refine z0F [] (by kernel_rfl) (by kernel_rfl) ?_
           repeat (first | (apply z0E (by rfl);(intro K w';go_simp;exact id)) | (apply z0I (by rfl);(intro K;go_simp;exact id)))
           (refine z1X (by rfl) (by rfl) (fun K hK=>?_);go_simp;refine hK _ _ (Pre.push _ rfl) ?_;clear hK K)
           have hk4:Keep (fun _=>False) wr (wr.alloc (.cells #[.int .u64 (sl:Int),.int .u64 (b.n:Int),.int .i64 b.node,.slice ua rl uc] 31)).drew:=((Keep.refl _ _).alloc _).drew;have hn4:(wr.alloc (.cells #[.int .u64 (sl:Int),.int .u64 (b.n:Int),.int .i64 b.node,.slice ua rl uc] 31)).drew.heap[wr.heap.size]?=some (.cells #[.int .u64 (sl:Int),.int .u64 (b.n:Int),.int .i64 b.node,.slice ua rl uc] 31):=heap_alloc_new wr _;obtain⟨w4,hw4⟩:=zX1 ((wr.alloc (.cells #[.int .u64 (sl:Int),.int .u64 (b.n:Int),.int .i64 b.node,.slice ua rl uc] 31)).drew);rw[← hw4] at hk4 hn4 ⊢;clear hw4;have hv4:=(H0.out.2.1.keep H2.out.2.1 (fun _ _ x=>x)).keep hk4 (fun _ _ x=>x);have hb4:=hk4.get (H2.out.2.1.get H0.out.1 id) id;have hrow4:=H2.out.2.2.1.keep hk4 (fun _ _ x=>x);have hvr:=hv4.row;rw[← Hn.out] at hvr hb4;refine z0K (by rfl) (by rfl) (fun K hK=>?_)
           refine z0S z4W (.tmp 62) (.tmp 67) rfl rfl hvr (some ⟨wr.heap.size,0,none⟩) 1 1 (z2R ⟨sl,b,rest⟩ (.slice ua rl uc)) rfl
            ⟨rfl,fun _=>⟨_,rfl,fun t u hu=>by rw[z0L,Nat.zero_add,cell_of_row _ _ _ _ _ _ hn4];simpa [z2R] using hu⟩⟩ (fun u hu=>by simp[z2R] at hu;rcases hu with rfl | rfl | rfl | rfl <;> rfl) (by unfold maxLen;omega) (by omega) ?_
           intro v5 w5 hr5 hk5 hv5;have hk5:Keep (fun k=>(Value.slice ao n nc).ownBlock=some k) w4 w5:=hk5;have hv5:(v5 = .slice ao n nc∧1=0)∨∃ j,v5.ownBlock=some j∧((Value.slice ao n nc).ownBlock=some j∨j=w4.heap.size):=hv5;refine hK _ _ ?_;clear hK K;obtain⟨a5,c5,rfl,-⟩:=hr5.form;have hall:∀ j,(Value.slice ao n nc).ownBlock=some j→B≤j:=fun j e=>H0.out.2.1.own j (by rw[z1A ao _ n];exact e)
           have hown5:∀ j,(Value.slice a5 (n+1) c5).ownBlock=some j→B≤j∧((Value.slice ao n nc).ownBlock=some j∨w4.heap.size≤j):=fun j e=>by
            rcases hv5 with ⟨-,h⟩ | ⟨j',h1,h2⟩
            ·omega
            ·rw[e] at h1
             cases h1
             rcases h2 with h2 | h2
             ·exact⟨hall j h2,.inl h2⟩
             ·have h7:=H2.out.2.1.size;have h8:=hk4.size;exact⟨by omega,.inr (by omega)⟩
           have hb5:=hk5.get hb4 (fun e=>by have:=hall a e;omega)
           have hvp:=hv4.push (x:=⟨sl,b,rest⟩) (u:=.slice ua rl uc) (F':=fun k=>B≤k) (w':=w5) (v':=.slice a5 (n+1) c5) (by rw[← Hrl.out];exact hrow4) (fun j e=>by
            have h1:=H2.out.2.2.2 j e;have h2:=z0M H0.out.1;refine⟨by omega,fun x=>?_⟩;have h3:=H0.out.2.1.row.lt x
            omega) (by rw[← Hn.out];exact hr5) (hk5.mono fun j _ e=>by rw[z1A ao _ n];exact e) (fun _ x=>x) (fun j e=>⟨(hown5 j e).1,(hown5 j e).2.imp (fun y=>by rw[z1A ao _ n];exact y) id⟩)
           obtain⟨p0,p1,p2,p3,p4,pf,pb⟩:=z2K hb5;have hkz:Keep (fun j=>j=a) w5 (w5.setCell ⟨a,3,none⟩ (.slice a5 (n+1) c5)):=kst;have hb6:=z0A hb5 3 (.slice a5 (n+1) c5);have hv6:=hvp.keep hkz (fun j x e=>by have e':j=a:=e;have x':B≤j:=x;omega)
           have hkA:Keep (fun j=>j=a∨(Value.slice ao st.2.length nc).ownBlock=some j) w (w5.setCell ⟨a,3,none⟩ (.slice a5 (n+1) c5)):=
            ((H2.out.2.1.nx hk4).next hk5 (fun _ _ x=>x.elim) (fun j _ e=>.inr (by rw[z1A ao _ n];exact e))).next hkz (fun _ _ x=>x) (fun _ _ e=>.inl e)
           have HW:=hid (zA1 hkA (zA1 hb6 hv6));clear hr5 hk5 hv5 hall hown5 hvp p0 p1 p2 p4 pb hkz hb6 hv6 hkA hb5 hk4 hn4 hv4 hb4 hrow4 hvr
           repeat (first | (apply z0E (by rfl);(intro K w';go_simp;exact id)) | (apply z0I (by rfl);(intro K;go_simp;exact id)))
           (refine z0K (by rfl) (by rfl) (fun K hK=>?_);go_simp;refine hK _ _ ?_;clear hK K)
           refine z0P ?_
           by_cases hs0:sl=0
           ·have q5:decide ((0:Int)<(sl:Int))=false:=by simp;omega
            have q6:decide (0<sl)=false:=decide_eq_false (by omega);have Hs:=hid hs0;clear hs0;go_wp2_with fail;show Post (.returned (.bool false)) _;rw[HP.out];refine⟨HW.out.1,?_⟩;rw[HR.out,if_neg Hp.out,if_neg (fun x=>x.1 (by rw[HC.out.2.1,← Hsl.out,Hs.out]))]
           ·have q5:(0:Int)<(sl:Int):=by omega
            have q6:decide (0<sl)=true:=decide_eq_true (by omega);have Hs:=hid hs0;clear hs0;go_wp2_with fail;show Post (.returned (.bool true)) _;rw[HP.out];refine⟨HW.out.1,?_⟩;rw[HR.out,if_neg Hp.out,if_pos ⟨by rw[HC.out.2.1,← Hsl.out];exact Hs.out,by rw[← Hrl.out];exact HC.out.2.2.1⟩,HC.out.2.1,← Hsl.out];exact⟨rfl,_,_,HW.out.2.1,HW.out.2.2⟩
        ·have q3:(100:Int)<(rl:Int):=by omega
         have Hl:=hid hl;clear hkl hr8 hsK hl hch2;go_wp2_with fail;exact HF.out (.inr (by have:=Hl.out;omega))
       ·have q2:((ch.toNat:Int) != 118)=true:=by simp;omega
        have hs0:z2U (ch :: r)=0:=by unfold z2U;simp only;rw[if_neg (fun x=>hch (by rw[x.1];rfl))]
        have HS:=hid hs0;clear hkl hs0;go_wp2_with fail;exact HF.out (.inl HS.out)
    ·have q2:((kl:Int) != 9)=true:=by simp;omega
     have hs0:z2U k=0:=by
      cases k with
      | nil=>rfl
      | cons ch r=>unfold z2U;simp only;rw[if_neg (fun x=>h9 (by rw[hkl];simp;omega))]
     have HS:=hid hs0;clear hkl hs0;go_wp2_with fail;exact HF.out (.inl HS.out)
end
section
open Go.RowKit Go.Maps
open MI SO BM DM WM AC
def AC.hasP (v x:Vt):Bool:=decide (x.slot=v.slot) && ((decide (x.bal=v.bal) && decide (x.val=v.val)) || !less x.bal v.bal)
def AC.keptP (b:Bal) (now:List Vt) (top:Bal) (vs:List Vt):Bool:=!less b top && vs.all fun v=>now.any (hasP v)
theorem AC.any_snoc (p:Vt→Bool) (l:List Vt) (i:Nat) (hi:i<l.length):(l.take (i+1)).any p=((l.take i).any p || p l[i]):=by
 rw[List.take_add_one,List.getElem?_eq_getElem hi,Option.toList_some,List.any_append];simp
theorem AC.all_snoc (p:Vt→Bool) (l:List Vt) (i:Nat) (hi:i<l.length):(l.take (i+1)).all p=((l.take i).all p && p l[i]):=by
 rw[List.take_add_one,List.getElem?_eq_getElem hi,Option.toList_some,List.all_append];simp
theorem zkX (w:World) (b top:Bal) (ao:Option Addr) (n c:Nat) (bo:Option Addr) (k d:Nat) (l m:List Vt) (h1:VotesC w ao l) (h2:VotesC w bo m) (hn:n=l.length) (hk:k=m.length) (hb:n≤1000000000) (hb2:k≤1000000000) :
  Calls Tryz.prog 34 #[balV b,.slice ao n c,balV top,.slice bo k d] w fun e w'=>e = .returned (.bool (keptP b l top m))∧Keep (fun _=>False) w w':=by
 obtain⟨E,hE⟩:=zX1 (keptP b l top m);rw[← hE];have H:=hid (zA1 h1 (zA1 h2 (zA1 hn (zA1 hk hE))));clear h1 h2 hE hn hk;have hn1:=heap_alloc_new w (.cells (balC b) 28);have hk1:=kal w (.cells (balC b) 28);have hz1:(w.alloc (.cells (balC b) 28)).heap.size=w.heap.size+1:=by simp
 obtain⟨w1,hw1⟩:=zX1 (w.alloc (.cells (balC b) 28));rw[← hw1] at hn1 hk1 hz1;have hn2:=heap_alloc_new w1 (.cells (balC top) 28);have hk2:=kal w1 (.cells (balC top) 28);obtain⟨w2,hw2⟩:=zX1 (w1.alloc (.cells (balC top) 28));rw[← hw2] at hn2 hk2;rw[hz1] at hn2;obtain⟨p0,p1,-,-⟩:=z1G (hk2.get hn1 id);obtain⟨t0,t1,-,-⟩:=z1G hn2;have HW:=hid (zA1 hw1 hw2);have H2:=hid (hk1.nx hk2);have hls:=z5B w2 b top;obtain⟨lb,hlb⟩:=zX1 (less b top);rw[← hlb] at hls;have HLB:=hid hlb;clear hn1 hk1 hn2 hk2 hw1 hw2 hlb;go_enter Tryz.func34,Tryz.ntmps34
 go_upto_region 1 with fail
 rw[← HW.out.1,← HW.out.2];clear HW hz1;go_wp2_with fail;refine hls.mono ?_;rintro e w3 ⟨rfl,hk3⟩;have HK3:=hid (H2.out.nx hk3);clear hk3 hls p0 p1 t0 t1 H2
 cases lb with
 | true=>
   have HF:=hid (show E=false from by rw[H.out.2.2.2.2];unfold AC.keptP;rw[← HLB.out];rfl);go_wp2_with fail;go_ret;exact⟨by rw[HF.out];rfl,HK3.out⟩
 | false=>
   go_wp2_with (at_builtin;refine z0H ?_;intro q hq)
   go_loopw [9] (fun iv wr=>∃ i:Nat,i≤k∧iv = .int .i64 i∧Hid (Keep (fun _=>False) w wr∧(m.take i).all (fun v=>l.any (hasP v))=true)) (fun iv _=>k - (intOf iv).toNat)
   case atStart=>exact⟨0,Nat.zero_le _,rfl,hid ⟨HK3.out,rfl⟩⟩
   case round=>
    obtain⟨i,hi,rfl,HT⟩:=hrel
    by_cases hik:i<k
    ·have q1:(i:Int)<k:=by omega
     have him:i<m.length:=by rw[← H.out.2.2.2.1];exact hik
     obtain⟨q,hq⟩:=zX1 (m[i]);have HQ:=hid (show ∃ h:i<m.length,q=m[i] from⟨him,hq⟩);clear him hq;go_wp2_with (at_builtin;refine z0H ?_;intro q hq)
     go_loopw [10,11] (fun hv jv wr=>∃ (j:Nat) (hs:Bool),j≤n∧jv = .int .i64 j∧hv = .bool hs∧Hid (Keep (fun _=>False) w wr∧hs=(l.take j).any (hasP q))) (fun _ jv _=>n - (intOf jv).toNat)
     case atStart=>exact⟨0,false,Nat.zero_le _,rfl,rfl,hid ⟨HT.out.1,rfl⟩⟩
     case round=>
      obtain⟨j,hs,hj,rfl,rfl,HU⟩:=hrel
      by_cases hjn:j<n
      ·have q2:(j:Int)<n:=by omega
       have hjl:j<l.length:=by rw[← H.out.2.2.1];exact hjn
       obtain⟨x,hx⟩:=zX1 (l[j]);obtain⟨ad,ua,uc,rfl,a0,a1,a2,a3,u1,u2,u3⟩:=(H.out.1.keep HU.out.1).get j hjl;obtain⟨him,hq⟩:=HQ.out;obtain⟨bd,va,vc,rfl,b0,b1,b2,b3,v1,v2,v3⟩:=(H.out.2.1.keep HU.out.1).get i him;rw[← hx] at a0 a1 a2 a3 u1 u3;rw[← hq] at b0 b1 b2 b3 v1 v3
       have hnx:∀ hs',hs'=(hs || hasP q x)→hs'=(l.take (j+1)).any (hasP q):=fun hs' e=>by
        rw[e,AC.any_snoc _ _ _ hjl,← HU.out.2,hx]
       have HX:=hid (zA1 hnx trivial);obtain⟨xl,hxl⟩:=zX1 (x.val.length);obtain⟨yl,hyl⟩:=zX1 (q.val.length);rw[← hxl] at a3 u1 u3;rw[← hyl] at b3 v1 v3;have hn4:=heap_alloc_new wr (.cells #[.int .u64 (x.slot:Int),.int .u64 (x.bal.n:Int),.int .i64 x.bal.node,.slice ua xl uc] 31);have hk4:=kal wr (.cells #[.int .u64 (x.slot:Int),.int .u64 (x.bal.n:Int),.int .i64 x.bal.node,.slice ua xl uc] 31);have HN4:=hid (zA1 hn4 hk4);have HUV:=hid (zA1 u3 v3);clear hx hjl him hq hnx hxl hyl hn4 hk4 u1 u2 u3 v1 v2 v3
       go_upto_region 11 with fail
       obtain⟨w4,hw4⟩:=zX1 (wr.alloc (.cells #[.int .u64 (x.slot:Int),.int .u64 (x.bal.n:Int),.int .i64 x.bal.node,.slice ua xl uc] 31));rw[← hw4] at HN4 ⊢;clear hw4 a0 a1 a2 a3;obtain⟨hn4,hk4⟩:=HN4.out;obtain⟨c0,c1,c2,c3,-,-⟩:=z4Q hn4;have b0:=z0C hk4 _ _ b0;have b1:=z0C hk4 _ _ b1;have b2:=z0C hk4 _ _ b2;have b3:=z0C hk4 _ _ b3;have hs1:=fun s:Later w4=>z3A (P:=Tryz.prog) Tryz.underlying29 Tryz.underlying5 Tryz.underlying9 (c:=uc) ((HUV.out.1.keep hk4 fun _ _ z=>z).keep s.keep fun _ _ z=>z);have hs2:=fun s:Later w4=>z3A (P:=Tryz.prog) Tryz.underlying29 Tryz.underlying5 Tryz.underlying9 (c:=vc) ((HUV.out.2.keep hk4 fun _ _ z=>z).keep s.keep fun _ _ z=>z);have HK4:=hid (HU.out.1.nx hk4);have HB4:=hid (zA1 hn4 (zA1 b0 (zA1 b1 b2)));clear hn4 hk4;have j1:=fun s:Later w4=>s.cell c1;have j2:=fun s:Later w4=>s.cell c2;have j3:=fun s:Later w4=>s.cell c3;have i1:=fun s:Later w4=>s.cell b1;have i2:=fun s:Later w4=>s.cell b2;have i3:=fun s:Later w4=>s.cell b3;clear c0 c1 c2 c3 b0 b1 b2 b3;obtain⟨sm,hsm⟩:=zX1 ((decide (x.bal=q.bal) && decide (x.val=q.val)));have HSM:=hid hsm;clear hsm
       go_cut [13] (fun sv wx=>sv = .bool sm∧Hid (Keep (fun _=>False) w4 wx))
       case first=>
        obtain⟨xs,⟨xn,xd⟩,xv⟩:=x;obtain⟨qs,⟨qn,qd⟩,qv⟩:=q;simp only at *
        have cut:(xn=qn∧xd=qd∧xv=qv)∨xn≠qn∨(xn=qn∧xd≠qd)∨(xn=qn∧xd=qd∧xv≠qv):=by
         by_cases e2:xn=qn
         ·by_cases e3:xd=qd
          ·by_cases e4:xv=qv
           ·exact .inl ⟨e2,e3,e4⟩
           ·exact .inr (.inr (.inr ⟨e2,e3,e4⟩))
          ·exact .inr (.inr (.inl ⟨e2,e3⟩))
         ·exact .inr (.inl e2)
        have HB:=hid (show sm=decide (xn=qn∧xd=qd∧xv=qv) from by rw[HSM.out];simp[Bal.mk.injEq,Bool.decide_and,Bool.and_assoc]);clear HSM HX HQ HN4 HB4
        rcases cut with ⟨rfl,rfl,rfl⟩ | e | ⟨rfl,e⟩ | ⟨rfl,rfl,e⟩
        ·obtain rfl:sm=true:=by rw[HB.out];simp
         clear HB
         (refine z0Q (by kernel_rfl) (by kernel_rfl) ?_;(repeat (go_big_quiet_step ((fail))));refine wpQuiet_nil ?_;rintro _ ⟨sq,rfl⟩)
         have HK3:=hid sq.keep;go_wp2_with fail;go_meet;exact⟨rfl,HK3⟩
        ·obtain rfl:sm=false:=by rw[HB.out];simp[e]
         have t1:((xn:Int) == (qn:Int))=false:=by simp;omega
         have t2:decide (xn=qn)=false:=decide_eq_false e;clear HB e
         (refine z0Q (by kernel_rfl) (by kernel_rfl) ?_;(repeat (go_big_quiet_step ((fail))));refine wpQuiet_nil ?_;rintro _ ⟨sq,rfl⟩)
         have HK3:=hid sq.keep;go_wp2_with fail;go_meet;exact⟨rfl,HK3⟩
        ·obtain rfl:sm=false:=by rw[HB.out];simp[e]
         have t1:(xd == qd)=false:=by simp[e]
         have t2:decide (xd=qd)=false:=decide_eq_false e;clear HB e
         (refine z0Q (by kernel_rfl) (by kernel_rfl) ?_;(repeat (go_big_quiet_step ((fail))));refine wpQuiet_nil ?_;rintro _ ⟨sq,rfl⟩)
         have HK3:=hid sq.keep;go_wp2_with fail;go_meet;exact⟨rfl,HK3⟩
        ·obtain rfl:sm=false:=by rw[HB.out];simp[e]
         have t1:((str xv).toList == (str qv).toList)=false:=by rw[z0Y,z0Y,beq_eq_false_iff_ne];exact e
         have t2:decide (str xv=str qv)=false:=decide_eq_false fun h=>e (by have:=congrArg ByteArray.toList h;rw[z0Y,z0Y] at this;exact this);clear HB e
         (refine z0Q (by kernel_rfl) (by kernel_rfl) ?_;(repeat (go_big_quiet_step ((fail))));refine wpQuiet_nil ?_;rintro _ ⟨sq,rfl⟩)
         have HK3:=hid sq.keep;go_wp2_with fail;go_meet;exact⟨rfl,HK3⟩
       case rest=>
        obtain⟨w5,rfl⟩:=zX1 (wc);obtain⟨rfl,HK5⟩:=hcut;clear hs1 hs2 j1 j2 j3 i1 i2 i3
        go_upto_region 12 with fail
        obtain⟨c0,c1,c2,-,-,-⟩:=z4Q (HK5.out.get HB4.out.1 id);have b0:=z0C HK5.out _ _ HB4.out.2.1;have b1:=z0C HK5.out _ _ HB4.out.2.2.1;have b2:=z0C HK5.out _ _ HB4.out.2.2.2;have hk5:=HK4.out.nx HK5.out;have HZ5:=hid hk5;clear hk5;have j0:=fun s:Later w5=>s.cell c0;have j1:=fun s:Later w5=>s.cell c1;have j2:=fun s:Later w5=>s.cell c2;have i0:=fun s:Later w5=>s.cell b0;have i1:=fun s:Later w5=>s.cell b1;have i2:=fun s:Later w5=>s.cell b2;clear c0 c1 c2 b0 b1 b2;obtain⟨xs,xb,xv⟩:=x;obtain⟨qs,qb,qv⟩:=q;simp only at *;have HP:=hid (show hasP ⟨qs,qb,qv⟩ ⟨xs,xb,xv⟩=(decide (xs=qs) && (sm || !less xb qb)) from by unfold hasP;rw[HSM.out]);clear HSM HB4 HQ HN4 HUV
        cases hs with
        | true=>
          have HN:=hid (HX.out.1 true (by rfl))
          (refine z0Q (by kernel_rfl) (by kernel_rfl) ?_;(repeat (go_big_quiet_step ((fail))));refine wpQuiet_nil ?_;rintro _ ⟨sq,rfl⟩)
          have HK6:=hid (HZ5.out.nx sq.keep);go_wp2_with fail;go_roundw
          case rel=>exact⟨j+1,true,by omega,by go_num,rfl,hid ⟨HK6.out,HN.out⟩⟩
          case measure=>simp[intOf];omega
        | false=>
          by_cases hsl:xs=qs
          ·subst hsl
           cases sm with
           | true=>
             have HN:=hid (HX.out.1 true (by rw[HP.out];simp))
             (refine z0Q (by kernel_rfl) (by kernel_rfl) ?_;(repeat (go_big_quiet_step ((fail))));refine wpQuiet_nil ?_;rintro _ ⟨sq,rfl⟩)
             have HK6:=hid (HZ5.out.nx sq.keep);go_wp2_with fail;go_roundw
             case rel=>exact⟨j+1,true,by omega,by go_num,rfl,hid ⟨HK6.out,HN.out⟩⟩
             case measure=>simp[intOf];omega
           | false=>
             obtain⟨lb,hlb⟩:=zX1 (less xb qb);have HL1:=hid (fun v:Later w5=>show Calls Tryz.prog 15 #[balV xb,balV qb] v.val fun e w'=>e = .returned (.bool lb)∧Keep (fun _=>False) v.val w' from by rw[hlb];exact z5B v.val xb qb);have HN:=hid (HX.out.1 (!lb) (by rw[HP.out,hlb];simp));clear hlb;obtain⟨xn,xd⟩:=xb;obtain⟨qn,qd⟩:=qb;simp only at *
             (refine z0Q (by kernel_rfl) (by kernel_rfl) ?_;(repeat (go_big_quiet_step ((go_at_call 15;exact Later.call (HL1.out _)))));refine wpQuiet_nil ?_;rintro _ ⟨sq,rfl⟩)
             have HK6:=hid (HZ5.out.nx sq.keep);go_wp2_with fail;go_roundw
             case rel=>exact⟨j+1,!lb,by omega,by go_num,rfl,hid ⟨HK6.out,HN.out⟩⟩
             case measure=>simp[intOf];omega
          ·have t1:((xs:Int) == (qs:Int))=false:=by simp;omega
           have t2:decide (xs=qs)=false:=decide_eq_false hsl;have HN:=hid (HX.out.1 false (by rw[HP.out,t2];rfl));clear hsl
           (refine z0Q (by kernel_rfl) (by kernel_rfl) ?_;(repeat (go_big_quiet_step ((fail))));refine wpQuiet_nil ?_;rintro _ ⟨sq,rfl⟩)
           have HK6:=hid (HZ5.out.nx sq.keep);go_wp2_with (at_builtin;refine z0H ?_;intro q hq);go_roundw
           case rel=>exact⟨j+1,false,by omega,by go_num,rfl,hid ⟨HK6.out,HN.out⟩⟩
           case measure=>simp[intOf];omega
      ·have q2:decide ((j:Int)<n)=false:=by simp;omega
       have q3:decide (j<n)=false:=decide_eq_false hjn
       have hall:hs=l.any (hasP q):=by
        have h1:=HU.out.2;rw[List.take_of_length_le (by have:=H.out.2.2.1;omega)] at h1;exact h1
       obtain⟨him,hq⟩:=HQ.out
       cases hs with
       | true=>
         have HN:=hid (show (m.take (i+1)).all (fun v=>l.any (hasP v))=true from by
          rw[AC.all_snoc _ _ _ him,HT.out.2,← hq,← hall]
          rfl)
         have HK6:=hid HU.out.1;clear hall hq him;go_wp2_with (at_builtin;refine z0H ?_;intro q hq);go_roundw
         case rel=>exact⟨i+1,by omega,by go_num,hid ⟨HK6.out,HN.out⟩⟩
         case measure=>simp[intOf];omega
       | false=>
         have HF:=hid (show E=false from by
          rw[H.out.2.2.2.2];unfold AC.keptP
          have h1:(m.all fun v=>l.any (hasP v))=false:=by
           rw[List.all_eq_false];exact⟨q,by rw[hq];exact List.getElem_mem him,by rw[← hall];decide⟩
          rw[h1,Bool.and_false])
         have HK6:=hid HU.out.1;clear hall hq him;go_wp2_with fail;go_ret;exact⟨by rw[HF.out];rfl,HK6.out⟩
    ·have q1:decide ((i:Int)<k)=false:=by simp;omega
     have q2:decide (i<k)=false:=decide_eq_false hik
     have HF:=hid (show E=true∧Keep (fun _=>False) w wr from⟨by
      rw[H.out.2.2.2.2];unfold AC.keptP;rw[← HLB.out];have h1:=HT.out.2;rw[List.take_of_length_le (by have:=H.out.2.2.2.1;omega)] at h1;rw[h1]
      rfl,HT.out.1⟩)
     go_wp2_with fail;go_ret;exact⟨by rw[HF.out.1];rfl,HF.out.2⟩
end
section
open Go.RowKit Go.Maps
open MI SO BM DM WM AC
theorem zcG (w:World) (b:Bal) (hb:OkB b):Calls Tryz.prog 75 #[balV b] w (PutU w (AC.putB b)):=by
 obtain⟨c0,c1,cf,hk⟩:=zfC w b;obtain⟨h0,h1,h2⟩:=z1P.1 hb.1;have hn:=hb.2;obtain⟨n,node⟩:=b;simp only at h0 h1 h2 hn;obtain⟨d,rfl⟩:∃ d:Nat,(d:Int)=node:=⟨node.toNat,by omega⟩;have hd:d<12:=by omega
 have t1:=wu64 d (by omega);have HE:=hid (show AC.putB ⟨n,(d:Int)⟩=z0J n ++ z0J d from rfl);rw[HE.out];simp only at c0 c1;go_enter Tryz.func75,Tryz.ntmps75
 go_upto_region 1 with fail
 obtain⟨w1,hw1⟩:=zX1 (w.alloc (.cells (balC ⟨n,(d:Int)⟩) 28));rw[← hw1] at c0 c1 hk
 first | rw[← hw1] | skip
 clear hw1 cf h0 h1 h2 hb;have hp1:=z4L w1 n hn;have HK:=hid hk;clear hk;go_wp2_with fail;refine hp1.mono ?_;rintro e w2 ⟨v2,rfl,hf2⟩;have c1:=z0C hf2.keep _ _ c1;have hp2:=z4L w2 d (by omega);obtain⟨a2,m2,rfl,-⟩:=hf2.row.form;have HF2:=hid (hf2.since HK.out);clear hf2 hp1 c0;go_wp2_with fail;refine hp2.mono ?_;rintro e w3 ⟨v3,rfl,hf3⟩;obtain⟨a3,m3,rfl,-⟩:=hf3.row.form;have HF3:=hid (zA1 (HF2.out.later hf3.keep) hf3.row);clear hf3 hp2 c1;go_wp2_with (at_builtin;refine z0H ?_;intro q hq)
 (refine hq.out ?_;clear hq q)
 refine wpList_plain rfl (fun K hK=>?_);refine z0G _ _ rfl rfl HF3.out.1 a3 (z0J d).length m3 rfl (Cells.of_row HF3.out.2) (by have h1:=z3U 10 n;have h2:=z3U 10 d;unfold z0J;omega) ?_;intro v4 w4 hf4 hk4;refine hK _ _ ?_;clear hK K hk4;have HF4:=hid hf4;clear hf4;go_wp2_with fail;go_ret;exact⟨_,rfl,HF4.out⟩
def lowB (s:Nat):Nat→Str
 | 0=>[]
 | k+1=>lowB s k ++ [UInt8.ofNat (s / 256 ^ k % 256)]
theorem z4G (s:Nat):∀ k,(lowB s k).length=k
 | 0=>rfl
 | k+1=>by rw[lowB,List.length_append,z4G s k];rfl
theorem zlD (s:Nat):∀ (k j:Nat) (h:j<(lowB s k).length),(lowB s k)[j]=UInt8.ofNat (s / 256 ^ j % 256)
 | 0,_,h=>absurd h (by simp[lowB])
 | k+1,j,h=>by
   rw[z4G] at h;unfold lowB
   by_cases hj:j<k
   ·rw[List.getElem_append_left (by rw[z4G];exact hj)]
    exact zlD s k j _
   ·obtain rfl:j=k:=by omega
    rw[List.getElem_append_right (by rw[z4G];exact Nat.le_refl _)];simp[z4G]
theorem zrP (s j k:Nat) (h:j<k):(beN k s).take (j+1)=(beN k s).take j ++ [UInt8.ofNat (s / 256 ^ (k - 1 - j) % 256)]:=by
 induction j generalizing k with
 | zero=>
   obtain⟨k,rfl⟩:∃ k',k=k'+1:=⟨k - 1,by omega⟩;simp[beN]
 | succ j ih=>
   obtain⟨k,rfl⟩:∃ k',k=k'+1:=⟨k - 1,by omega⟩;have:=ih k (by omega);simp only[beN,List.take_succ_cons,this,List.cons_append];rw[show k+1 - 1 - (j+1)=k - 1 - j by omega]
theorem zqS (w:World) (s:Nat) (hs:s<18446744073709551616) :
  Calls Tryz.prog 76 #[.int .u64 (s:Int)] w fun e w'=>e = .returned (.string (str (keyS s)))∧Keep (fun _=>False) w w':=by
 go_enter Tryz.func76,Tryz.ntmps76;go_wp2_with fail
 go_loopw [0,3,4] (fun sv bv iv wr=>∃ i:Nat,i≤8∧iv = .int .i64 i∧sv = .int .u64 ((s / 256 ^ i:Nat):Int)∧Hid (Row wr 5 1 bv i (z0B (lowB s i))∧Keep (fun _=>False) w wr∧∀ k,bv.ownBlock=some k→w.heap.size≤k)) (fun _ _ iv _=>8 - (intOf iv).toNat)
 case atStart=>exact⟨0,by omega,rfl,by simp,hid ⟨Row.nil _ _ _,Keep.refl _ _,fun k e=>by simp[Value.ownBlock] at e⟩⟩
 case round=>
  obtain⟨i,hi,rfl,rfl,HR⟩:=hrel
  by_cases hi8:i<8
  ·have q1:(i:Int)<8:=by omega
   obtain⟨x,hx⟩:=zX1 (s / 256 ^ i);have hxs:x≤s:=by rw[hx];exact Nat.div_le_self _ _
   obtain⟨y,hy⟩:=zX1 (x % 256);obtain⟨z,hz⟩:=zX1 (x / 256);have e1:(x:Int) % 256=(y:Int):=by omega
   have e2:(x:Int) / 256=(z:Int):=by omega
   have e3:=wu64 y (by omega);have e4:=wu64 z (by omega);have e5:IntKind.u8.wrap (y:Int)=(y:Int):=wu8 y (by omega);have hyl:y<256:=by omega
   have Hz:=hid (show z=s / 256 ^ (i+1) by rw[hz,hx,Nat.div_div_eq_div_mul,Nat.pow_succ]);have Hy:=hid (show y=s / 256 ^ i % 256 by rw[hy,hx]);obtain⟨ao,c,hbv,-⟩:=HR.out.1.form;subst hbv;rw[← hx];have hk4:=kal wr (.cells #[.int .u8 (y:Int)] 5);have hn4:=heap_alloc_new wr (.cells #[.int .u8 (y:Int)] 5);have H4:=hid (zA1 hk4 hn4);clear hk4 hn4 hx hy hz;go_wp2_with (at_builtin;refine z0H ?_;intro q hq)
   (refine hq.out ?_;clear hq q)
   obtain⟨w4,hw4⟩:=zX1 (wr.alloc (.cells #[.int .u8 (y:Int)] 5));rw[← hw4] at H4
   first | rw[← hw4] | skip
   clear hw4;refine wpList_plain rfl (fun K hK=>?_)
   refine z0S z0W (.tmp 11) (.tmp 15) rfl rfl (HR.out.1.keep H4.out.1 (fun _ _ x=>x)) (some ⟨wr.heap.size,0,none⟩) 1 1 [.int .u8 (y:Int)] rfl
    ⟨rfl,fun _=>⟨_,rfl,fun t u hu=>by rw[z0L,Nat.zero_add,cell_of_row _ _ _ _ _ _ H4.out.2];simpa using hu⟩⟩ (fun u hu=>by simp at hu;subst hu;rfl) (by unfold maxLen;omega) (by omega) ?_
   intro v5 w5 hr5 hk5 hv5;have hk5:Keep (fun k=>(Value.slice ao i c).ownBlock=some k) w4 w5:=hk5;have hv5:(v5 = .slice ao i c∧1=0)∨∃ j,v5.ownBlock=some j∧((Value.slice ao i c).ownBlock=some j∨j=w4.heap.size):=hv5;refine hK _ _ ?_;clear hK K
   have HZ:=hid (show Row w5 5 1 v5 (i+1) (z0B (lowB s (i+1)))∧Keep (fun _=>False) w w5∧∀ k,v5.ownBlock=some k→w.heap.size≤k from by
    refine⟨?_,(HR.out.2.1.nx H4.out.1).next hk5 (fun _ _ x=>x) (fun k hk e=>by have:=HR.out.2.2 k e;omega),fun k e=>?_⟩
    ·unfold lowB
     rw[z2E,← Hy.out];have:z0B [UInt8.ofNat y] = [.int .u8 (y:Int)]:=by simp[z0B,Nat.mod_eq_of_lt hyl]
     rw[this];exact hr5
    ·rcases hv5 with ⟨-,h⟩ | ⟨j,h1,h2⟩
     ·omega
     ·rw[e] at h1
      cases h1
      rcases h2 with h2 | h2
      ·exact HR.out.2.2 k h2
      ·have h3:=HR.out.2.1.size;have h4:=H4.out.1.size;omega)
   clear hr5 hk5 hv5;go_wp2_with fail;exact⟨⟨i+1,by omega,by go_num,by rw[Hz.out],HZ⟩,by simp[intOf];omega⟩
  ·obtain rfl:i=8:=by omega
   obtain⟨wo,hwo⟩:=zX1 (wr);subst hwo;obtain⟨ao,c,hbv,-⟩:=HR.out.1.form;subst hbv;have hk4:=kal wo (.cells #[.int .u8 118] 5);have hn4:=heap_alloc_new wo (.cells #[.int .u8 118] 5);have H4:=hid (zA1 hk4 hn4);clear hk4 hn4;go_wp2_with fail;obtain⟨w4,hw4⟩:=zX1 (wo.alloc (.cells #[.int .u8 118] 5));rw[← hw4] at H4 ⊢;clear hw4
   go_loopw [5,6] (fun ov iv wq=>∃ j:Nat,j≤8∧iv = .int .i64 (7 - (j:Int))∧Hid (Row wq 5 1 ov (j+1) (z0B (118 :: (beN 8 s).take j))∧Keep (fun _=>False) wo wq∧∀ k,ov.ownBlock=some k→wo.heap.size≤k)) (fun _ iv _=>(intOf iv+1).toNat)
   case atStart=>exact⟨0,by omega,rfl,hid ⟨⟨rfl,.inr ⟨_,1,_,(0,0),rfl,H4.out.2,Free.zero _,Nat.le_refl _,by unfold maxLen;omega,rfl,rfl⟩⟩,H4.out.1,fun k e=>by cases e;exact Nat.le_refl _⟩⟩
   case round=>
    obtain⟨j,hj,rfl,HQ⟩:=hrel
    by_cases hj8:j<8
    ·obtain⟨p,hp⟩:=zX1 (7 - j)
     have e7:(7:Int) - (j:Int)=(p:Nat):=by omega
     rw[e7];have q1:(0:Int)≤(p:Int):=by omega
     have hp8:p<8:=by omega
     have hrow:=HR.out.1.keep HQ.out.2.1 (fun _ _ x=>x)
     obtain⟨g,cap,hao,hcell⟩:=hrow.getCell (j:=p) (u:=.int .u8 ((UInt8.ofNat (s / 256 ^ p % 256)).toNat:Int)) (by
      have hl:p<(lowB s 8).length:=by rw[z4G];exact hp8
      simp only[z0B,List.getElem?_map,List.getElem?_eq_getElem hl,Option.map_some]
      rw[zlD])
     cases hao;obtain⟨y,hy⟩:=zX1 ((UInt8.ofNat (s / 256 ^ p % 256)).toNat);rw[← hy] at hcell;obtain⟨oa,oc,hov,-⟩:=HQ.out.1.form;subst hov;have hk5:=kal wr (.cells #[.int .u8 (y:Int)] 5);have hn5:=heap_alloc_new wr (.cells #[.int .u8 (y:Int)] 5);have H5:=hid (zA1 hk5 (zA1 hn5 (zA1 hy hp)));have e8:(p:Int) - 1=7 - ((j+1:Nat):Int):=by omega
     have He8:=hid e8;clear hk5 hn5 hy hp e7 e8 hrow;go_wp2_with (at_builtin;refine z0H ?_;intro q hq)
     (refine hq.out ?_;clear hq q)
     obtain⟨w5,hw5⟩:=zX1 (wr.alloc (.cells #[.int .u8 (y:Int)] 5));rw[← hw5] at H5
     first | rw[← hw5] | skip
     clear hw5;refine wpList_plain rfl (fun K hK=>?_)
     refine z0S z0W (.tmp 24) (.tmp 29) rfl rfl (HQ.out.1.keep H5.out.1 (fun _ _ x=>x)) (some ⟨wr.heap.size,0,none⟩) 1 1 [.int .u8 (y:Int)] rfl
      ⟨rfl,fun _=>⟨_,rfl,fun t u hu=>by rw[z0L,Nat.zero_add,cell_of_row _ _ _ _ _ _ H5.out.2.1];simpa using hu⟩⟩ (fun u hu=>by simp at hu;subst hu;rfl) (by unfold maxLen;omega) (by omega) ?_
     intro v6 w6 hr6 hk6 hv6;have hk6:Keep (fun k=>(Value.slice oa (j+1) oc).ownBlock=some k) w5 w6:=hk6;have hv6:(v6 = .slice oa (j+1) oc∧1=0)∨∃ i,v6.ownBlock=some i∧((Value.slice oa (j+1) oc).ownBlock=some i∨i=w5.heap.size):=hv6;refine hK _ _ ?_;clear hK K
     have HZ:=hid (show Row w6 5 1 v6 (j+1+1) (z0B (118 :: (beN 8 s).take (j+1)))∧Keep (fun _=>False) wo w6∧∀ k,v6.ownBlock=some k→wo.heap.size≤k from by
      refine⟨?_,?_,fun k e=>?_⟩
      ·rw[zrP s j 8 (by omega),← List.cons_append,z2E,show 8 - 1 - j=p by have:=H5.out.2.2.2;omega]
       have:z0B [UInt8.ofNat (s / 256 ^ p % 256)] = [.int .u8 (y:Int)]:=by rw[H5.out.2.2.1];rfl
       rw[this];exact hr6
      ·refine(HQ.out.2.1.next H5.out.1 (fun _ _ x=>x) (fun _ _ x=>x)).next hk6 (fun _ _ x=>x) (fun k hk e=>?_)
       have h1:=HQ.out.2.2 k e;omega
      ·rcases hv6 with ⟨-,h⟩ | ⟨i,h1,h2⟩
       ·omega
       ·rw[e] at h1
        cases h1
        rcases h2 with h2 | h2
        ·exact HQ.out.2.2 k h2
        ·have h3:=HQ.out.2.1.size;have h5:=H5.out.1.size;omega)
     clear hr6 hk6 hv6;go_wp2_with fail;go_roundw
     case rel=>
      (repeat apply Exists.intro)
      exact⟨⟨j+1,by omega,by rw[← He8.out],HZ⟩,rfl⟩
     case measure=>have:=H5.out.2.2.2;simp[intOf]
    ·obtain rfl:j=8:=by omega
     obtain⟨oa,oc,hov,-⟩:=HQ.out.1.form;subst hov;have hrow:=HQ.out.1;rw[show (beN 8 s).take 8=beN 8 s from List.take_of_length_le (by rw[z6M];exact Nat.le_refl _)] at hrow;have hcv:=z3A (P:=Tryz.prog) Tryz.underlying29 Tryz.underlying5 Tryz.underlying9 (c:=oc) (Cells.of_row hrow);have e7:(7:Int) - ((8:Nat):Int) = -1:=by omega
     rw[e7];have HK:=hid (HR.out.2.1.nx HQ.out.2.1);clear hrow e7;go_wp2_with fail;go_ret;exact⟨rfl,HK.out⟩
end
section
open Go.RowKit Go.Maps
open MI SO BM DM WM AC
def RGetPost (w:World) (s:Str) (e:Ending) (w':World):Prop:=Keep (fun _=>False) w w'∧match getB s with
 | some (b,rest)=>∃ ao c,e = .returned (.tuple #[balV b,.slice ao rest.length c,.bool true])∧Cells w' ao rest.length 1 (z0B rest)∧rest.length≤c∧c≤maxLen
 | none=>e = .returned (.tuple #[balV Bal.zero,.slice none 0 0,.bool false])
theorem zdD (w:World) (s:Str) (hs:s.length≤1000000):Calls Tryz.prog 61 #[.string (str s)] w (RGetPost w s):=by
 obtain⟨Post,hPost⟩:=zX1 (RGetPost w s);rw[← hPost];have HP:=hid hPost;clear hPost;have hn1:=heap_alloc_new w (.cells #[.int .u64 0,.int .i64 0] 28);have hk1:=kal w (.cells #[.int .u64 0,.int .i64 0] 28);obtain⟨w1,hw1⟩:=zX1 (w.alloc (.cells #[.int .u64 0,.int .i64 0] 28));have hz1:w1.heap.size=w.heap.size+1:=by rw[hw1];simp
 rw[← hw1] at hn1 hk1;obtain⟨c1,w2,hcv,hf2⟩:=z6Z w1 s (by unfold maxLen;omega);obtain⟨sl,hsl⟩:=zX1 (s.length);have hrow:=hf2.row;rw[← hsl] at hrow hcv;obtain⟨_,_,hfe,hc1,hc2,-⟩:=hrow.form;cases hfe;have hcs:=Cells.of_row hrow;have hn2:=hf2.keep.get hn1 id;have hu1:=z7N w2 _ sl c1 0 s hcs (Nat.zero_le _) (by omega);obtain⟨p0,p1,pf,pb⟩:=z1G hn2
 have fin:∀ w',Keep (fun _=>False) w2 w'→∀ x y,(∀ j u,[x,y][j]?=some u→((w'.setCell ⟨w.heap.size,0,none⟩ x).setCell ⟨w.heap.size,1,none⟩ y).cell? ⟨w.heap.size,j,none⟩=some u)∧Keep (fun _=>False) w ((w'.setCell ⟨w.heap.size,0,none⟩ x).setCell ⟨w.heap.size,1,none⟩ y)∧Keep (fun k=>k=w.heap.size) w' ((w'.setCell ⟨w.heap.size,0,none⟩ x).setCell ⟨w.heap.size,1,none⟩ y):=fun w' hk x y=>by
  obtain⟨g1,g2,-⟩:=z3B w' w.heap.size _ _ (hk.get hn2 id) x y;exact⟨g1,((hk1.nx hf2.keep).nx hk).next g2 (fun _ _ x=>x) (fun k hk x=>by omega),g2⟩
 have H2:=hid (zA1 fin (zA1 hcs (zA1 hsl (zA1 hz1 (zA1 hf2.keep.size hn2)))));have Hc:=hid (zA1 hc1 hc2);clear fin hn1 hk1 hf2 hrow hcs hn2 hz1 hsl hc1 hc2;go_enter Tryz.func61,Tryz.ntmps61
 go_upto_region 1 with fail
 rw[← hw1];clear hw1
 cases h1:BM.uint s 0 with
 | no x=>
   rw[h1] at hu1;simp only[numV] at hu1;have hx:=(z3T h1).1;have q1:((x:Int) != 0)=true:=by simp;omega
   have hG:=hid (show getB s=none by unfold getB;rw[h1]);clear h1 hx;go_wp2_with fail;refine hu1.mono ?_;rintro e w3 ⟨rfl,hk3⟩;have p0:=z0C hk3 _ _ p0;have p1:=z0C hk3 _ _ p1;have pf:∀ o,w3.frozen? ⟨w.heap.size,o,none⟩=false:=fun o=>by have:=hk3.get H2.out.2.2.2.2.2 id;simp[World.frozen?,this]
   have HK:=hid hk3;clear hk3 hu1 hcv;go_wp2_with fail;obtain⟨g1,g2,-⟩:=H2.out.1 w3 HK.out (.int .u64 0) (.int .i64 0);refine bodyPost_ret (z3F rfl _ _ w.heap.size rfl [.int .u64 0,.int .i64 0] g1 _ Tryz.underlying28 rfl (by kernel_rfl)) rfl ?_;rw[HP.out];refine⟨g2,?_⟩;rw[hG.out];rfl
 | yes n a=>
   rw[h1] at hu1;simp only[numV] at hu1;obtain⟨u1,u2,u3,-⟩:=z3D h1;have H1:=hid h1;clear h1;go_wp2_with fail;refine hu1.mono ?_;rintro e w3 ⟨rfl,hk3⟩;have hu2:=z7N w3 _ sl c1 a s (H2.out.2.1.keep hk3 (fun _ _ x=>x)) (by have:=H2.out.2.2.1;omega) (by have:=H2.out.2.2.1;omega);have p0:=z0C hk3 _ _ p0;have p1:=z0C hk3 _ _ p1;have HK:=hid hk3;clear hk3 hu1 hcv pf pb
   cases h2:BM.uint s a with
   | no x=>
     rw[h2] at hu2;simp only[numV] at hu2;have hx:=(z3T h2).1;have q1:((x:Int) != 0)=true:=by simp;omega
     have q2:decide (x=0)=false:=decide_eq_false hx;have hG:=hid (show getB s=none by unfold getB;rw[H1.out];simp only;rw[h2]);clear h2 hx;go_wp2_with fail;refine hu2.mono ?_;rintro e w4 ⟨rfl,hk4⟩;have p0:=z0C hk4 _ _ p0;have p1:=z0C hk4 _ _ p1;have HK:=hid (HK.out.nx hk4);have pf:∀ o,w4.frozen? ⟨w.heap.size,o,none⟩=false:=fun o=>by have:=HK.out.get H2.out.2.2.2.2.2 id;simp[World.frozen?,this]
     clear hk4 hu2;go_wp2_with fail;obtain⟨g1,g2,-⟩:=H2.out.1 w4 HK.out (.int .u64 0) (.int .i64 0);refine bodyPost_ret (z3F rfl _ _ w.heap.size rfl [.int .u64 0,.int .i64 0] g1 _ Tryz.underlying28 rfl (by kernel_rfl)) rfl ?_;rw[HP.out];refine⟨g2,?_⟩;rw[hG.out];rfl
   | yes k tt=>
     rw[h2] at hu2;simp only[numV] at hu2;obtain⟨v1,v2,v3,-⟩:=z3D h2;have hG:getB s=if k<12∧0<n then some (⟨n,(k:Int)⟩,s.drop tt) else none:=by unfold getB;rw[H1.out];simp only;rw[h2]
     have HG:=hid hG;have hts:=H2.out.2.1.tail tt (by have:=H2.out.2.2.1;omega) Hc.out.1 (by decide);clear h2 hG
     by_cases hgd:k<12∧0<n
     ·have q1:decide ((11:Int)<(k:Int))=false:=decide_eq_false (by omega)
      have q2:decide (11<k)=false:=decide_eq_false (by omega);have q3:((n:Int) == 0)=false:=by simp;omega
      have q4:decide (n=0)=false:=decide_eq_false (by omega);have q5:=wi64 k (by omega);obtain⟨ta,hta⟩:=zX1 (z1J (some ⟨w1.heap.size,0,none⟩) c1 tt 1);obtain⟨tl,htl⟩:=zX1 (sl - tt);obtain⟨tc,htc⟩:=zX1 (c1 - tt);have hslc:=fun w=>z2H (P:=Tryz.prog) z0W (some ⟨w1.heap.size,0,none⟩) sl c1 .i64 tt (by have:=H2.out.2.2.1;omega) w;rw[← hta,← htl,← htc] at hslc;rw[← hta,← htl] at hts;have HX:=hid (zA1 hgd (zA1 hts (zA1 htl (zA1 htc hta))));clear hts htl htc hta hgd;go_wp2_with fail;refine hu2.mono ?_;rintro e w4 ⟨rfl,hk4⟩;have p0:=z0C hk4 _ _ p0;have p1:=z0C hk4 _ _ p1;have HK:=hid (HK.out.nx hk4);have pf:∀ o,w4.frozen? ⟨w.heap.size,o,none⟩=false:=fun o=>by have:=HK.out.get H2.out.2.2.2.2.2 id;simp[World.frozen?,this]
      clear hk4 hu2;go_wp2_with fail;refine z0F [] (by kernel_rfl) (by kernel_rfl) ?_
      repeat (first | (apply z0E (by rfl);(intro K w';go_simp;exact id)) | (apply z0I (by rfl);(intro K;go_simp;exact id)))
      (refine z0K (by rfl) (by rfl) (fun K hK=>?_);go_simp;refine hK _ _ ?_;clear hK K)
      repeat (first | (apply z0E (by rfl);(intro K w';go_simp;exact id)) | (apply z0I (by rfl);(intro K;go_simp;exact id)))
      refine z0P ?_;go_wp2_with fail;obtain⟨g1,g2,g3⟩:=H2.out.1 w4.drew (HK.out.drew) (.int .u64 (n:Int)) (.int .i64 (k:Int));refine bodyPost_ret (z3F rfl _ _ w.heap.size rfl [.int .u64 (n:Int),.int .i64 (k:Int)] g1 _ Tryz.underlying28 rfl (by kernel_rfl)) rfl ?_;rw[HP.out];refine⟨g2,?_⟩;rw[HG.out,if_pos HX.out.1];simp only;have hl:(s.drop tt).length=tl:=by rw[List.length_drop,HX.out.2.2.1,H2.out.2.2.1]
      rw[hl];refine⟨ta,tc,rfl,?_,by have:=HX.out.2.2.1;have:=HX.out.2.2.2.1;have:=Hc.out.1;omega,by have:=HX.out.2.2.2.1;have:=Hc.out.2;omega⟩;have hbb:z0B (s.drop tt)=(z0B s).drop (tt * 1):=by rw[Nat.mul_one];simp[z0B,List.map_drop]
      rw[hbb];refine((HX.out.2.1.keep HK.out (fun _ _ x=>x)).keep (Keep.refl (fun _=>False) w4).drew (fun _ _ x=>x)).keep g3 (fun x hx e=>?_);rw[HX.out.2.2.2.2,zgT] at hx;cases hx;have e':w1.heap.size=w.heap.size:=e;have:=H2.out.2.2.2.1;omega
     ·have hG:getB s=none:=by rw[HG.out,if_neg hgd]
      have hG:=hid hG;have cut:(k<12∧n=0)∨12≤k:=by omega
      clear hgd hts
      rcases cut with ⟨b1,rfl⟩ | b1
      ·have q1:decide ((11:Int)<(k:Int))=false:=decide_eq_false (by omega)
       have q2:decide (11<k)=false:=decide_eq_false (by omega);go_wp2_with fail;refine hu2.mono ?_;rintro e w4 ⟨rfl,hk4⟩;have p0:=z0C hk4 _ _ p0;have p1:=z0C hk4 _ _ p1;have HK:=hid (HK.out.nx hk4);have pf:∀ o,w4.frozen? ⟨w.heap.size,o,none⟩=false:=fun o=>by have:=HK.out.get H2.out.2.2.2.2.2 id;simp[World.frozen?,this]
       clear hk4 hu2;go_wp2_with fail;obtain⟨g1,g2,-⟩:=H2.out.1 w4 HK.out (.int .u64 0) (.int .i64 0);refine bodyPost_ret (z3F rfl _ _ w.heap.size rfl [.int .u64 0,.int .i64 0] g1 _ Tryz.underlying28 rfl (by kernel_rfl)) rfl ?_;rw[HP.out];refine⟨g2,?_⟩;rw[hG.out];rfl
      ·have q1:(11:Int)<(k:Int):=by omega
       go_wp2_with fail;refine hu2.mono ?_;rintro e w4 ⟨rfl,hk4⟩;have p0:=z0C hk4 _ _ p0;have p1:=z0C hk4 _ _ p1;have HK:=hid (HK.out.nx hk4);have pf:∀ o,w4.frozen? ⟨w.heap.size,o,none⟩=false:=fun o=>by have:=HK.out.get H2.out.2.2.2.2.2 id;simp[World.frozen?,this]
       clear hk4 hu2;go_wp2_with fail;obtain⟨g1,g2,-⟩:=H2.out.1 w4 HK.out (.int .u64 0) (.int .i64 0);refine bodyPost_ret (z3F rfl _ _ w.heap.size rfl [.int .u64 0,.int .i64 0] g1 _ Tryz.underlying28 rfl (by kernel_rfl)) rfl ?_;rw[HP.out];refine⟨g2,?_⟩;rw[hG.out];rfl
theorem zdY (w:World) (k:Str) (hk:k.length≤1000000):Calls Tryz.prog 62 #[.string (str k)] w fun e w'=>e = .returned (.int .u64 (z2U k:Nat))∧Keep (fun _=>False) w w':=by
 obtain⟨R,hR⟩:=zX1 (z2U k);rw[← hR];have HR:=hid hR;clear hR;have hsz:=z1Z k;obtain⟨kl,hkl⟩:=zX1 (k.length);rw[← hkl] at hsz hk
 by_cases h9:kl=9
 ·subst h9
  cases k with
  | nil=>cases hkl
  | cons ch r=>
    have hix:=ziA (ch :: r) 0 (by rw[hsz];decide) (by simp);rw[List.getElem_cons_zero] at hix
    by_cases hch:ch.toNat=118
    ·have q2:((ch.toNat:Int) != 118)=false:=by simp;omega
     have hr8:r.length=8:=by simp at hkl;omega
     have hch2:ch=118:=by rw[← UInt8.toNat_inj];exact hch
     have hsK:z2U (ch :: r)=valN r:=by unfold z2U;simp only;rw[if_pos ⟨hch2,hr8⟩]
     have HC:=hid (zA1 hr8 hsK);clear hkl hr8 hsK hch2;go_enter Tryz.func62,Tryz.ntmps62;go_wp2_with fail;clear hix q2 hch
     go_loopw [3,4] (fun sv iv wr=>∃ i:Nat,i≤8∧sv = .int .u64 (valN (r.take i):Nat)∧iv = .int .i64 (i+1:Nat)∧wr=w) (fun _ iv _=>9 - (intOf iv).toNat)
     case atStart=>exact⟨0,by omega,rfl,rfl,rfl⟩
     case round=>
      obtain⟨i,hi,rfl,rfl,rfl⟩:=hrel;obtain⟨i1,hi1⟩:=zX1 (i+1);rw[← hi1]
      by_cases hi8:i<8
      ·have q2:(i1:Int)<9:=by omega
       have hir:i<r.length:=by have:=HC.out.1;omega
       have hlt:i1<(str (ch :: r)).size:=by rw[hsz];omega
       have hix:=ziA (ch :: r) i1 hlt (by simp;omega);have hel:(ch :: r)[i1]'(by simp;omega)=r[i]:=by subst hi1;simp
       rw[hel] at hix;have hv:=zcM (r.take i)
       have hv7:valN (r.take i)<72057594037927936:=Nat.lt_of_lt_of_le hv (by
        rw[List.length_take,Nat.min_eq_left (by omega)]
        exact Nat.le_trans (Nat.pow_le_pow_right (by decide) (show i≤7 by omega)) (by decide))
       have hsn:valN (r.take (i+1))=valN (r.take i) * 256+(r[i]).toNat:=by
        rw[List.take_add_one,List.getElem?_eq_getElem hir,Option.toList_some,zcW]
       have hb:=(r[i]).toNat_lt;obtain⟨x,hx⟩:=zX1 (r[i]);rw[← hx] at hix hsn hb;obtain⟨xn,hxn⟩:=zX1 (x.toNat);rw[← hxn] at hsn hb;have hxn':=hxn.symm;obtain⟨vv,hvv⟩:=zX1 (valN (r.take i));rw[← hvv] at hv7 hsn ⊢;obtain⟨v8,e8⟩:=zX1 (vv * 256);have b1:(vv:Int) * 256=(v8:Int):=by omega
       have b2:=wu64 v8 (by omega);have b3:=wu64 xn (by omega);obtain⟨y,hy⟩:=zX1 (v8+xn);have b4:(v8:Int)+(xn:Int)=(y:Int):=by omega
       have b5:=wu64 y (by omega);have HY:=hid (show y=valN (r.take (i+1)) by rw[hsn];omega);have HI:=hid hi1;clear hv hir hel hsn hb hx hvv hv7 e8 hy hxn hi1;go_wp2_with fail;exact⟨⟨i+1,by omega,by rw[HY.out],by have:=HI.out;go_num,by first | rfl | trivial⟩,by have:=HI.out;simp[intOf];omega⟩
      ·obtain rfl:i=8:=by omega
       subst hi1;rw[show r.take 8=r from List.take_of_length_le (by have:=HC.out.1;omega)];obtain⟨sl,hsl⟩:=zX1 (valN r);rw[← hsl];have Hsl:=hid hsl;clear hsl hi;go_wp2_with fail;go_ret;exact⟨by rw[HR.out,HC.out.2,Hsl.out];rfl,Keep.refl _ _⟩
    ·have q2:((ch.toNat:Int) != 118)=true:=by simp;omega
     have hs0:z2U (ch :: r)=0:=by unfold z2U;simp only;rw[if_neg (fun x=>hch (by rw[x.1];rfl))]
     have HS:=hid hs0;clear hkl hs0;go_enter Tryz.func62,Tryz.ntmps62;go_wp2_with fail;go_ret;exact⟨by rw[HR.out,HS.out];rfl,Keep.refl _ _⟩
 ·have q2:((kl:Int) != 9)=true:=by simp;omega
  have hs0:z2U k=0:=by
   cases k with
   | nil=>rfl
   | cons ch r=>unfold z2U;simp only;rw[if_neg (fun x=>h9 (by rw[hkl];simp;omega))]
  have HS:=hid hs0;clear hkl hs0;go_enter Tryz.func62,Tryz.ntmps62;go_wp2_with fail;go_ret;exact⟨by rw[HR.out,HS.out];rfl,Keep.refl _ _⟩
end
namespace AC
open Go.Proofs.YtkjofdocgaiedaaGreat MI SO BM DM WM
def docB (ps:List (Str×Str)):Bal:=match AL.get ps pK with
 | none=>Bal.zero
 | some v=>match getB v with
   | none=>Bal.zero
   | some (b,_)=>b
def zdN (k:Nat) (p:Str×Str):Option Vt:=match getB p.2 with
 | none=>none
 | some (b,rest)=>if 0<z2U p.1∧k≤z2U p.1 then some ⟨z2U p.1,b,rest⟩ else none
def docV (ps:List (Str×Str)) (k:Nat):List Vt:=ps.filterMap (zdN k)
def z4U (top:Bal) (p:Str×Str):Bool:=match getB p.2 with
 | none=>false
 | some (b,rest)=>if p.1=pK then decide (rest = []) else (decide (z2U p.1≠0) && (decide (rest.length≤100) && !less top b))
def z9E (ps:List (Str×Str)):Bool:=ps.all (z4U (docB ps))
theorem zbM {b:Bal} {vs:List Vt} (h:VOk b vs):docB (encP b vs)=b:=by
 unfold docB encP
 rcases h.bal with rfl | hb
 ·rw[h.zero];rfl
 ·rw[if_neg hb.ne]
  simp only[List.singleton_append,AL.z1C,if_true];have:=z8G hb.1 hb.2 [];rw[List.append_nil] at this;rw[this]
theorem znO {b:Bal} {v:Vt} (h:OkV b v) (k:Nat):zdN k (encV v)=if k≤v.slot then some v else none:=by
 unfold zdN encV;simp only;rw[z8G h.bal.1 h.bal.2,zaU h.lt];simp only
 by_cases hk:k≤v.slot
 ·rw[if_pos ⟨h.slot,hk⟩,if_pos hk]
 ·rw[if_neg (fun x=>hk x.2),if_neg hk]
theorem zlX {b:Bal} (k:Nat):∀ {vs:List Vt},(∀ v ∈ vs,OkV b v)→docV (vs.map encV) k=z6P vs k
 | [],_=>rfl
 | v :: vs,h=>by
   have ih:=zlX k (vs:=vs) (fun x hx=>h x (by simp[hx]));unfold docV z6P at *;rw[List.map_cons,List.filterMap_cons,znO (h v (by simp)),List.filter_cons]
   by_cases hk:k≤v.slot
   ·rw[if_pos hk,if_pos (by simpa using hk)]
    simp only;rw[ih]
   ·rw[if_neg hk,if_neg (by simpa using hk)]
    simp only;exact ih
theorem zjQ {b:Bal} {vs:List Vt} (h:VOk b vs) (k:Nat):docV (encP b vs) k=z6P vs k:=by
 have hm:=zlX k h.each;unfold encP
 by_cases hb:b=Bal.zero
 ·rw[if_pos hb,List.nil_append];exact hm
 ·rw[if_neg hb]
  unfold docV at *
  have e:zdN k (pK,putB b)=none:=by
   unfold zdN;simp only;rw[zrR]
   cases getB (putB b) with
   | none=>rfl
   | some q=>simp
  rw[List.singleton_append,List.filterMap_cons,e];exact hm
theorem zpT {b:Bal} {vs:List Vt} (h:VOk b vs):z9E (encP b vs)=true:=by
 unfold z9E;rw[zbM h,List.all_eq_true];intro p hp;unfold encP at hp
 rcases List.mem_append.1 hp with hp | hp
 ·by_cases hb:b=Bal.zero
  ·rw[if_pos hb] at hp;cases hp
  ·rw[if_neg hb] at hp
   simp at hp;subst hp;have hB:OkB b:=h.bal.resolve_left hb;have:=z8G hB.1 hB.2 [];rw[List.append_nil] at this;unfold z4U;simp only;rw[this];simp
 ·obtain⟨v,hv,rfl⟩:=List.mem_map.1 hp
  have q:=h.each v hv;unfold z4U encV;simp only;rw[z8G q.bal.1 q.bal.2];simp only;rw[if_neg (ziL _),zaU q.lt,q.top];have h1:=q.slot;have h2:=q.val;simp;omega
theorem zrV {ps:List (Str×Str)} (hs:Sorted ps) (h:z9E ps=true):(rd ps).isSome=true:=by
 unfold z9E at h;rw[List.all_eq_true] at h
 have go:∀ (qs:List (Str×Str)) (st:Bal×List Vt),(∀ p ∈ qs,z4U (docB ps) p=true)→(∀ v ∈ st.2,less (docB ps) v.bal=false)→∃ st',rdL st qs=some st'∧(∀ v ∈ st'.2,less (docB ps) v.bal=false)∧
   (st'.1=st.1∨∃ p ∈ qs,∃ b,p.1=pK∧getB p.2=some (b,[])∧st'.1=b)∧((∀ p ∈ qs,p.1≠pK)→st'.1=st.1):=by
  intro qs
  induction qs with
  | nil=>intro st _ h2;exact⟨st,rfl,h2,.inl rfl,fun _=>rfl⟩
  | cons p qs ih=>
    intro st h1 h2;have hp:=h1 p (by simp);unfold z4U at hp
    cases hg:getB p.2 with
    | none=>rw[hg] at hp;cases hp
    | some q=>
      obtain⟨b,rest⟩:=q;rw[hg] at hp;simp only at hp
      by_cases hk:p.1=pK
      ·rw[if_pos hk] at hp
       have hr:rest = []:=by simpa using hp
       subst hr;have e:rd1 st p=some (b,st.2):=by unfold rd1;rw[hg];simp only;rw[if_pos hk];simp
       obtain⟨st',g1,g2,g3,g4⟩:=ih (b,st.2) (fun x hx=>h1 x (by simp[hx])) h2;refine⟨st',by unfold rdL;rw[e];exact g1,g2,.inr ?_,fun x=>absurd hk (x p (by simp))⟩
       rcases g3 with g3 | ⟨y,hy,c,c1,c2,c3⟩
       ·exact⟨p,by simp,b,hk,hg,g3⟩
       ·exact⟨y,by simp[hy],c,c1,c2,c3⟩
      ·rw[if_neg hk] at hp
       simp only[Bool.and_eq_true,decide_eq_true_eq,Bool.not_eq_true'] at hp;obtain⟨p1,p2,p3⟩:=hp;have e:rd1 st p=some (st.1,st.2 ++ [⟨z2U p.1,b,rest⟩]):=by unfold rd1;rw[hg];simp only;rw[if_neg hk,if_pos ⟨p1,p2⟩]
       obtain⟨st',g1,g2,g3,g4⟩:=ih (st.1,st.2 ++ [⟨z2U p.1,b,rest⟩]) (fun x hx=>h1 x (by simp[hx])) (fun v hv=>by
        rcases List.mem_append.1 hv with hv | hv
        ·exact h2 v hv
        ·simp at hv;subst hv;exact p3)
       refine⟨st',by unfold rdL;rw[e];exact g1,g2,?_,fun x=>g4 fun y hy=>x y (by simp[hy])⟩
       rcases g3 with g3 | ⟨y,hy,c⟩
       ·exact .inl g3
       ·exact .inr ⟨y,by simp[hy],c⟩
 obtain⟨st',g1,g2,g3,g4⟩:=go ps (Bal.zero,[]) h (fun v hv=>by cases hv)
 have htop:st'.1=docB ps:=by
  unfold docB
  rcases g3 with g3 | ⟨p,hp,b,c1,c2,c3⟩
  ·cases hget:AL.get ps pK with
   | none=>exact g3
   | some v=>
     have hm:=z3K hget;have hd:=h _ hm;unfold z4U at hd;simp only at hd
     cases hg:getB v with
     | none=>simp only[hg];exact g3
     | some q=>
       obtain⟨b,rest⟩:=q;rw[hg] at hd;simp only[if_true,decide_eq_true_eq] at hd;subst hd;obtain⟨l1,l2,rfl⟩:=List.append_of_mem hm;have hs2:=hs;unfold Sorted at hs2;rw[List.pairwise_append] at hs2
       have hno:∀ p ∈ l1 ++ l2,p.1≠pK:=by
        intro p hp e
        rcases List.mem_append.1 hp with hp | hp
        ·have:=hs2.2.2 p hp (pK,v) (by simp)
         rw[e] at this;exact z1V _ this
        ·have:=(List.pairwise_cons.1 hs2.2.1).1 p hp
         rw[e] at this;exact z1V _ this
       have key:∀ (qs:List (Str×Str)) (st st':Bal×List Vt),(∀ p ∈ qs,p.1≠pK)→rdL st (qs ++ (pK,v) :: l2)=some st'→st'.1=b:=by
        intro qs
        induction qs with
        | nil=>
          intro st st' _ hr;simp only[List.nil_append,rdL] at hr;have e:rd1 st (pK,v)=some (b,st.2):=by unfold rd1;simp only;rw[hg];simp
          rw[e] at hr;simp only at hr;obtain⟨a1,a2⟩:=st';exact(zfS l2 b a1 st.2 a2 (fun p hp=>hno p (by simp[hp])) hr).1
        | cons p qs ih=>
          intro st st' h1 hr;simp only[List.cons_append,rdL] at hr
          cases h2:rd1 st p with
          | none=>rw[h2] at hr;cases hr
          | some s2=>
            rw[h2] at hr;exact ih s2 st' (fun x hx=>h1 x (by simp[hx])) hr
       simp only[hg];exact key l1 _ _ (fun p hp=>hno p (by simp[hp])) g1
  ·have hget:AL.get ps pK=some p.2:=by
    have:=z4F (z9Q hs) hp;rw[c1] at this;exact this
   rw[hget];simp only;rw[c2];exact c3
 unfold rd;obtain⟨b,vs⟩:=st';rw[g1];simp only
 have hany:vs.any (fun v=>less b v.bal)=false:=by
  rw[List.any_eq_false];intro v hv;have h1:=g2 v hv;rw[← htop] at h1;simp only at h1;rw[h1];decide
 rw[hany];rfl
theorem zhJ {ps:List (Str×Str)} (hs:Sorted ps):z9E ps=(rd ps).isSome:=by
 cases h:rd ps with
 | some st=>
   obtain⟨b,vs⟩:=st;obtain⟨h1,h2⟩:=ztR hs h;rw[h2,zpT h1];rfl
 | none=>
   cases hd:z9E ps with
   | false=>rfl
   | true=>
     have:=zrV hs hd;rw[h] at this;cases this
end AC
section
open Go.RowKit Go.Maps
open MI SO BM DM WM AC
theorem z8A {w:World} {b:Nat} {T:TypeId} {a0:Value} (H:w.heap[b]?=some (.cells #[a0] T (0,0))):w.cell? ⟨b,0,none⟩=some a0∧(∀ o,w.frozen? ⟨b,o,none⟩=false)∧b<w.heap.size:=by
 refine⟨?_,?_,z0M H⟩ <;> simp[World.cell?,World.frozen?,H]
theorem zcV {w:World} {b:Nat} {T:TypeId} {a0 a1 a2:Value} (H:w.heap[b]?=some (.cells #[a0,a1,a2] T (0,0))) :
  w.cell? ⟨b,0,none⟩=some a0∧w.cell? ⟨b,1,none⟩=some a1∧w.cell? ⟨b,2,none⟩=some a2∧(∀ o,w.frozen? ⟨b,o,none⟩=false)∧b<w.heap.size:=by
 refine⟨?_,?_,?_,?_,z0M H⟩ <;> simp[World.cell?,World.frozen?,H]
def RAcT (a d:Nat) (D:Dk) (S:St):Thing:=fun w F=>∃ sb X Y,BoxA a #[.pointer (some ⟨sb,0,none⟩)] 138 w X∧RStoT sb d D S w Y∧(∀ i,X i→¬ Y i)∧F=fun k=>X k∨Y k
theorem RAcT.lives (a d:Nat) (D:Dk) (S:St):Lives (RAcT a d D S):=
 ⟨fun ⟨sb,X,Y,h1,h2,h3,e⟩ hk hn=>⟨sb,X,Y,(BoxA.lives _ _ _).keep h1 hk (fun i x=>hn i (by rw[e];exact .inl x)),(RStoT.lives _ _ _ _).keep h2 hk (fun i x=>hn i (by rw[e];exact .inr x)),h3,e⟩,
  fun ⟨sb,X,Y,h1,h2,_,e⟩ i x=>by rw[e] at x;exact x.elim ((BoxA.lives _ _ _).lt h1 i) ((RStoT.lives _ _ _ _).lt h2 i)⟩
structure RLook (w:World) (a sb:Nat) (pv wp:Value) (S:St):Prop where
 box:w.heap[a]?=some (.cells #[.pointer (some ⟨sb,0,none⟩)] 138 (0,0))
 sto:w.heap[sb]?=some (.cells (z3L wp pv S.dead) 117 (0,0))
 row:Row w 140 2 pv S.ps.length (prsV S.ps)
 ok:PsOk S.ps
theorem RLook.keep {w w':World} {a sb:Nat} {pv wp:Value} {S:St} (h:RLook w a sb pv wp S) (hk:Keep (fun _=>False) w w'):RLook w' a sb pv wp S:=
 ⟨hk.get h.box id,hk.get h.sto id,h.row.keep hk (fun _ _ x=>x),h.ok⟩
theorem RAcT.look {a d:Nat} {D:Dk} {S:St} {w:World} {F:Nat→Prop} (h:RAcT a d D S w F):∃ sb pv wp,RLook w a sb pv wp S:=by
 obtain⟨sb,X,Y,h1,⟨F1,F2,⟨wb,pv,Fl,h2⟩,-⟩,-⟩:=h;exact⟨sb,pv,_,h1.1,h2.head,h2.row,h2.ok⟩
theorem z8K (w:World) (a sb:Nat) (pv wp:Value) (S:St) (H:RLook w a sb pv wp S) (hN:S.ps.length≤900000) :
  Calls Tryz.prog 25 #[.pointer (some ⟨a,0,none⟩)] w fun e w'=>e = .returned (balV (if S.dead then Bal.zero else docB S.ps))∧Keep (fun _=>False) w w':=by
 obtain⟨R,hR⟩:=zX1 ((if S.dead then Bal.zero else docB S.ps));rw[← hR];obtain⟨ao,pc,hpv,-⟩:=H.row.form;subst hpv;have hn1:=heap_alloc_new w (.cells #[.int .u64 0,.int .i64 0] 28);have hk1:=kal w (.cells #[.int .u64 0,.int .i64 0] 28);obtain⟨w1,hw1⟩:=zX1 (w.alloc (.cells #[.int .u64 0,.int .i64 0] 28));rw[← hw1] at hn1 hk1;have L1:=H.keep hk1;obtain⟨p0,-,-⟩:=z8A L1.box;obtain⟨s0,s1,s2,-,-⟩:=zcV L1.sto;have hgt:=zuE w1 ao S.ps.length pc S.ps L1.row rfl (z9Q L1.ok.sorted) (by omega) pK
 obtain⟨v,hasB,hgv,hcase⟩:∃ (v:Str) (hb:Bool),getS S.ps pK = .tuple #[.string (str v),.bool hb]∧v.length≤1000∧((hb=false∧docB S.ps=Bal.zero)∨(hb=true∧((getB v=none∧docB S.ps=Bal.zero)∨∃ b rest,getB v=some (b,rest)∧docB S.ps=b))):=by
  unfold getS docB
  cases hg:AL.get S.ps pK with
  | none=>exact⟨[],false,rfl,by decide,.inl ⟨rfl,rfl⟩⟩
  | some v=>
    have hok:=L1.ok.each _ (z3K hg);refine⟨v,true,rfl,by have:=hok.2.2;simp only at this;omega,.inr ⟨rfl,?_⟩⟩
    cases hb:getB v with
    | none=>exact .inl ⟨rfl,by simp only[hb]⟩
    | some q=>exact .inr ⟨q.1,q.2,rfl,by simp only[hb]⟩
 rw[hgv] at hgt;have H1:=hid (zA1 hn1 (zA1 hk1 (zA1 L1 (zA1 hcase hR))));obtain⟨dd,hdd⟩:=zX1 (S.dead);rw[← hdd] at s2;have HD:=hid hdd;clear hn1 hk1 L1 hgv hR hdd s0;have hvl:=hcase.1;go_enter Tryz.func25,Tryz.ntmps25
 go_upto_region 1 with fail
 rw[← hw1];clear hw1 hcase;go_wp2_with fail;refine hgt.mono ?_;rintro e w2 ⟨rfl,hk2⟩;have hg9:=zdD w2 v (by omega);have p0:=z0C hk2 _ _ p0;have s2:=z0C hk2 _ _ s2;have HK:=hid hk2;clear hgt hk2 s1 hvl;go_wp2_with fail;refine hg9.mono ?_;rintro e w3 ⟨hk3,hres⟩;clear hg9;have hk13:=HK.out.nx hk3
 obtain⟨bb,ua,uk,uc,okb,rfl,hcs⟩:∃ (bb:Bal) (ua:Option Addr) (uk uc:Nat) (okb:Bool),e = .returned (.tuple #[balV bb,.slice ua uk uc,.bool okb])∧R=if hasB && (okb && !dd) then bb else Bal.zero:=by
  obtain⟨-,-,-,hcase,hR⟩:=H1.out;rw[hR,← HD.out]
  rcases hcase.2 with ⟨h1,h2⟩ | ⟨h1,⟨h2,h3⟩ | ⟨b,rest,h2,h3⟩⟩
  ·cases hg:getB v with
   | none=>rw[hg] at hres;exact⟨Bal.zero,none,0,0,false,hres,by rw[h1,h2];cases dd <;> rfl⟩
   | some q=>rw[hg] at hres;obtain⟨ao',c',he,-⟩:=hres;exact⟨q.1,ao',_,c',true,he,by rw[h1,h2];cases dd <;> rfl⟩
  ·rw[h2] at hres;exact⟨Bal.zero,none,0,0,false,hres,by rw[h1,h3];cases dd <;> rfl⟩
  ·rw[h2] at hres;obtain⟨ao',c',he,-⟩:=hres;exact⟨b,ao',_,c',true,he,by rw[h1,h3];cases dd <;> rfl⟩
 have p0:=z0C hk3 _ _ p0;have s2:=z0C hk3 _ _ s2;have hn4:=heap_alloc_new w3 (.cells (balC bb) 28);have hk4:=kal w3 (.cells (balC bb) 28)
 go_upto_region 3 with fail
 obtain⟨w4,hw4⟩:=zX1 (w3.alloc (.cells (balC bb) 28));rw[← hw4] at hn4 hk4 ⊢;clear hw4;have p0:=z0C hk4 _ _ p0;have s2:=z0C hk4 _ _ s2;obtain⟨b0,b1,-,-⟩:=z1G hn4;have hk14:=hk13.nx hk4;have r0:=hk14.get H1.out.1 id;obtain⟨d0,d1,df,-⟩:=z1G r0;have HZ:=hid (zA1 r0 (zA1 (H1.out.2.1.nx hk14) hcs));clear hres hk13 hk3 hk4 hn4 hk14 r0 hcs HK;cases hasB <;> cases okb <;> cases dd
 all_goals go_wp2_with (at_builtin;refine z0H ?_;intro q hq)
 all_goals first
  | (obtain⟨g1,g2,-⟩:=z3B w4 w.heap.size _ _ HZ.out.1 (.int .u64 (bb.n:Nat)) (.int .i64 bb.node)
     refine bodyPost_ret (z5Q rfl _ _ w.heap.size rfl [.int .u64 (bb.n:Nat),.int .i64 bb.node] g1 _ Tryz.underlying28 rfl (by kernel_rfl)) rfl ?_
     exact⟨by rw[HZ.out.2.2];rfl,HZ.out.2.1.next g2 (H:=fun _=>False) (fun _ _ x=>x) (fun k hk x=>by omega)⟩)
  | (obtain⟨g1,g2,-⟩:=z3B w4 w.heap.size _ _ HZ.out.1 (.int .u64 0) (.int .i64 0)
     refine bodyPost_ret (z5Q rfl _ _ w.heap.size rfl [.int .u64 0,.int .i64 0] g1 _ Tryz.underlying28 rfl (by kernel_rfl)) rfl ?_
     exact⟨by rw[HZ.out.2.2];rfl,HZ.out.2.1.next g2 (H:=fun _=>False) (fun _ _ x=>x) (fun k hk x=>by omega)⟩)
end
end Go.Proofs.YtkjofdocgaiedaaGreat
