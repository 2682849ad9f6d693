/- Texts AcdA, AceJ, AcdH, AcdI, AccP, AcdJ, AcdK, AcdL, AccW, AcdM in one. Conditions: as each law names them. -/
import Derived.Deep.CutBlock
import Derived.Deep.DeepCutAuto
import Derived.Test.YtkjofdocgaiedaaGreatUaj
import Derived.Test.YtkjofdocgaiedaaGreatUak
import Derived.Test.YtkjofdocgaiedaaGreatUbb
import Derived.Test.YtkjofdocgaiedaaGreatUbd
import Derived.Test.YtkjofdocgaiedaaGreatUbe
set_option maxRecDepth 20000
set_option maxHeartbeats 8000000
namespace Go.Proofs.YtkjofdocgaiedaaGreat
section
open Go.RowKit Go.Maps
open MI SO BM DM WM AC
def ReadPost (w:World) (a sb B:Nat) (nv:Value) (st:Bal×List Vt) (p:Str×Str) (e:Ending) (w':World):Prop:=
 Keep (fun k=>k=a∨nv.ownBlock=some k) w w'∧match rd1 st p with
 | none=>e = .returned (.bool false)
 | some st'=>e = .returned (.bool true)∧∃ nv' us',w'.heap[a]?=some (.cells (accC sb st'.1 nv' false) 86 (0,0))∧Votes w' (fun k=>B≤k) nv' st'.2 us'
theorem zgK (k:Str) (i:Nat) (h:i<(str k).size) (hi:i<k.length):(str k)[i]'h=k[i]:=by
 simp[str];rfl
theorem z4S {w:World} {b:Nat} {T:TypeId} {a0 a1:Value} (H:w.heap[b]?=some (.cells #[a0,a1] T (0,0))) :
  w.cell? ⟨b,0,none⟩=some a0∧w.cell? ⟨b,1,none⟩=some a1∧(∀ o,w.frozen? ⟨b,o,none⟩=false)∧b<w.heap.size:=by
 refine⟨?_,?_,?_,z0L H⟩ <;> simp[World.cell?,World.frozen?,H]
theorem zlY (w:World) (a sb B:Nat) (hB:a<B) (hBw:B≤w.heap.size) (st:Bal×List Vt) (nv:Value) (us:List Value) (k v:Str) (hh:w.heap[a]?=some (.cells (accC sb st.1 nv false) 86 (0,0))) (hv:Votes w (fun k=>B≤k) nv st.2 us) (hk:k.length≤1000000) (hvl:v.length≤1000000) (hN:st.2.length≤1000000) :
  Calls Tryz.prog 60 #[.pointer (some ⟨a,0,none⟩),.string (str k),.string (str v)] w (ReadPost w a sb B nv st (k,v)):=by
 obtain⟨Post,hPost⟩:=zX1 (ReadPost w a sb B nv st (k,v));rw[← hPost];have hgt:=zpA w v hvl;have H0:=hid (zA1 hh (zA1 hv (zA1 hk hN)));have HP:=hid hPost;clear hh hv hk hN hvl hPost;go_enter Tryz.func60,Tryz.ntmps60;go_wp2_with (at_builtin;refine z0A ?_;intro q hq);refine hgt.mono ?_;rintro e w1 ⟨hk1,hres⟩;clear hgt
 cases hg:getB v with
 | none=>
   rw[hg] at hres;obtain⟨n,d,ua,kk,c,rfl⟩:=hres;have hR:rd1 st (k,v)=none:=by unfold rd1;rw[hg]
   have HR:=hid hR;have hn2:=heap_alloc_new w1 (.cells #[.int .u64 (n:Int),.int .i64 (d:Int)] 28);have hk2:=kal w1 (.cells #[.int .u64 (n:Int),.int .i64 (d:Int)] 28);have H2:=hid (zA1 hn2 (hk1.nx hk2));clear hn2 hk2 hg hR hk1
   go_upto_region 2 with fail
   obtain⟨w2,hw2⟩:=zX1 (w1.alloc (.cells #[.int .u64 (n:Int),.int .i64 (d:Int)] 28));rw[← hw2] at H2 ⊢;clear hw2;obtain⟨c0,c1,cf,cb⟩:=z4S H2.out.1;have hb2:=H2.out.2.get H0.out.1 id;obtain⟨p0,p1,p2,p3,p4,pf,pb⟩:=z2C hb2;clear c0 c1 cf cb;obtain⟨c0,c1,cf,cb⟩:=z4S H2.out.1;have hsz:=z2F k;obtain⟨kl,hkl⟩:=zX1 (k.length);rw[← hkl] at hsz;have hk6:kl≤1000000:=by rw[hkl];exact H0.out.2.2.1
   by_cases hp:k=pK
   ·have q1:((str k).toList == [112])=true:=by rw[z0Y,hp];rfl
    have hkz:Keep (fun j=>j=a) w2 ((w2.setCell ⟨a,1,none⟩ (.int .u64 (n:Int))).setCell ⟨a,2,none⟩ (.int .i64 (d:Int))):=by refine Keep.setCell (Keep.setCell (Keep.refl _ _) (.inl ?_) _) (.inl ?_) _ <;> rfl
    have HZ:=hid (H2.out.2.next hkz (H:=fun j=>j=a∨nv.ownBlock=some j) (fun _ _ x=>x.elim) (fun _ _ x=>.inl x));clear p0 p3 p4 pb hp hb2 hkz hkl hsz;go_wp2_with (at_builtin;refine z0A ?_;intro q hq);show Post (.returned (.bool false)) _;rw[HP.out];exact⟨HZ.out,by rw[HR.out]⟩
   ·have q1:((str k).toList == [112])=false:=by rw[z0Y,beq_eq_false_iff_ne];exact hp
    have HZ:=hid (H2.out.2.mono (G:=fun j=>j=a∨nv.ownBlock=some j) (fun _ _ x=>x.elim));have fin:Post (.returned (.bool false)) w2:=by rw[HP.out];exact⟨HZ.out,by rw[HR.out]⟩
    have HF:=hid fin;clear p0 p1 p2 p3 p4 pf pb hb2 hp c0 c1 cf cb fin
    by_cases h9:kl=9
    ·subst h9
     cases k with
     | nil=>cases hkl
     | cons ch r=>
       have hix:=zgK (ch :: r) 0 (by rw[hsz];decide) (by simp);rw[List.getElem_cons_zero] at hix
       by_cases hch:ch.toNat=118
       ·have q2:((ch.toNat:Int) != 118)=false:=by simp;omega
        clear hkl;go_wp2_with (at_builtin;refine z0A ?_;intro q hq);exact HF.out
       ·have q2:((ch.toNat:Int) != 118)=true:=by simp;omega
        clear hkl;go_wp2_with (at_builtin;refine z0A ?_;intro q hq);exact HF.out
    ·have q2:((kl:Int) != 9)=true:=by simp;omega
     clear hkl;go_wp2_with (at_builtin;refine z0A ?_;intro q hq);exact HF.out
 | some q=>
   obtain⟨b,rest⟩:=q;rw[hg] at hres;obtain⟨u,rfl,hrow,hown⟩:=hres;obtain⟨ua,uc,rfl,-⟩:=hrow.form;have hR:rd1 st (k,v)=if k=pK then (if rest = [] then some (b,st.2) else none) else if z2Q k≠0∧rest.length≤100 then some (st.1,st.2 ++ [⟨z2Q k,b,rest⟩]) else none:=by unfold rd1;rw[hg]
   have HR:=hid hR;obtain⟨rl,hrl⟩:=zX1 (rest.length);rw[← hrl] at hrow hown ⊢;have Hrl:=hid hrl;have hn2:=heap_alloc_new w1 (.cells (balC b) 28);have hk2:=kal w1 (.cells (balC b) 28);have H2:=hid (zA1 hn2 (zA1 (hk1.nx hk2) (zA1 (hrow.keep hk2 (fun _ _ x=>x)) hown)));clear hn2 hk2 hg hR hk1 hrow hown hrl
   go_upto_region 2 with fail
   obtain⟨w2,hw2⟩:=zX1 (w1.alloc (.cells (balC b) 28));rw[← hw2] at H2 ⊢;clear hw2;have hb2:=H2.out.2.1.get H0.out.1 id;obtain⟨p0,p1,p2,p3,p4,pf,pb⟩:=z2C hb2;obtain⟨c0,c1,cf,cb⟩:=z4S H2.out.1;have hsz:=z2F k;obtain⟨kl,hkl⟩:=zX1 (k.length);rw[← hkl] at hsz;have hk6:kl≤1000000:=by rw[hkl];exact H0.out.2.2.1
   by_cases hp:k=pK
   ·have q1:((str k).toList == [112])=true:=by rw[z0Y,hp];rfl
    have hkz:Keep (fun j=>j=a) w2 ((w2.setCell ⟨a,1,none⟩ (.int .u64 (b.n:Int))).setCell ⟨a,2,none⟩ (.int .i64 b.node)):=by refine Keep.setCell (Keep.setCell (Keep.refl _ _) (.inl ?_) _) (.inl ?_) _ <;> rfl
    have HZ:=hid (zA1 (H2.out.2.1.next hkz (H:=fun j=>j=a∨nv.ownBlock=some j) (fun _ _ x=>x.elim) (fun _ _ x=>.inl x)) (zA1 (z0C (z0C hb2 1 (.int .u64 (b.n:Int))) 2 (.int .i64 b.node))
     ((H0.out.2.1.keep H2.out.2.1 (fun _ _ x=>x)).keep hkz (fun j x e=>by have e':j=a:=e;have x':B≤j:=x;omega))))
    have Hp:=hid hp;clear p0 p3 p4 pb hp hb2 hkz hkl hsz
    by_cases hr0:rl=0
    ·have q2:((rl:Int) == 0)=true:=by simp[hr0]
     have Hr:=hid hr0;subst hr0;go_wp2_with (at_builtin;refine z0A ?_;intro q hq);show Post (.returned (.bool true)) _;rw[HP.out];refine⟨HZ.out.1,?_⟩;rw[HR.out,if_pos Hp.out,if_pos (List.length_eq_zero_iff.1 Hrl.out.symm)];exact⟨rfl,nv,us,HZ.out.2.1,HZ.out.2.2⟩
    ·have q2:((rl:Int) == 0)=false:=by simp;omega
     have q3:decide (rl=0)=false:=decide_eq_false hr0;have Hr:=hid hr0;go_wp2_with (at_builtin;refine z0A ?_;intro q hq);show Post (.returned (.bool false)) _;rw[HP.out];refine⟨HZ.out.1,?_⟩;rw[HR.out,if_pos Hp.out,if_neg (fun e=>Hr.out (by rw[Hrl.out,e];rfl))]
   ·have q1:((str k).toList == [112])=false:=by rw[z0Y,beq_eq_false_iff_ne];exact hp
    have HZ:=hid (H2.out.2.1.mono (G:=fun j=>j=a∨nv.ownBlock=some j) (fun _ _ x=>x.elim))
    have fin:(z2Q k=0∨100<rl)→Post (.returned (.bool false)) w2:=fun h=>by
     rw[HP.out];refine⟨HZ.out,?_⟩;rw[HR.out,if_neg hp,if_neg (fun x=>h.elim x.1 (fun y=>by have:=x.2;have:=Hrl.out;omega))]
    have HF:=hid fin;have Hp:=hid hp;clear p0 p1 p2 p4 hb2 hp fin
    by_cases h9:kl=9
    ·subst h9
     cases k with
     | nil=>cases hkl
     | cons ch r=>
       have hix:=zgK (ch :: r) 0 (by rw[hsz];decide) (by simp);rw[List.getElem_cons_zero] at hix
       by_cases hch:ch.toNat=118
       ·have q2:((ch.toNat:Int) != 118)=false:=by simp;omega
        have hr8:r.length=8:=by simp at hkl;omega
        have hch2:ch=118:=by rw[← UInt8.toNat_inj];exact hch
        have hsK:z2Q (ch :: r)=valN r:=by unfold z2Q;simp only;rw[if_pos ⟨hch2,hr8⟩]
        by_cases hl:rl≤100
        ·have q3:decide ((100:Int)<(rl:Int))=false:=decide_eq_false (by omega)
         have q4:decide (100<rl)=false:=decide_eq_false (by omega);have HC:=hid (zA1 hr8 (zA1 hsK (zA1 hl hch2)));clear hkl hr8 hsK hl hch2;go_wp2_with (at_builtin;refine z0A ?_;intro q hq);clear hix q2 q3 q4 hch
         go_loopw [10,11] (fun sv iv wr=>∃ i:Nat,i≤8∧sv = .int .u64 (valN (r.take i):Nat)∧iv = .int .i64 (i+1:Nat)∧wr=w2) (fun _ iv _=>9 - (intOf iv).toNat)
         case atStart=>exact⟨0,by omega,rfl,rfl,rfl⟩
         case round=>
          obtain⟨i,hi,rfl,rfl,rfl⟩:=hrel;obtain⟨i1,hi1⟩:=zX1 (i+1);rw[← hi1];have hsz9:i1≤9:=by omega
          by_cases hi8:i<8
          ·have q2:(i1:Int)<9:=by omega
           have hir:i<r.length:=by have:=HC.out.1;omega
           have hlt:i1<(str (ch :: r)).size:=by rw[hsz];omega
           have hix:=zgK (ch :: r) i1 hlt (by simp;omega);have hel:(ch :: r)[i1]'(by simp;omega)=r[i]:=by subst hi1;simp
           rw[hel] at hix;have hv:=zbQ (r.take i)
           have hv7:valN (r.take i)<72057594037927936:=Nat.lt_of_lt_of_le hv (by
            rw[List.length_take,Nat.min_eq_left (by omega)]
            exact Nat.le_trans (Nat.pow_le_pow_right (by decide) (show i≤7 by omega)) (by decide))
           have hsn:valN (r.take (i+1))=valN (r.take i) * 256+(r[i]).toNat:=by
            rw[List.take_add_one,List.getElem?_eq_getElem hir,Option.toList_some,zbJ]
           have hb:=(r[i]).toNat_lt;obtain⟨x,hx⟩:=zX1 (r[i]);rw[← hx] at hix hsn hb;obtain⟨xn,hxn⟩:=zX1 (x.toNat);rw[← hxn] at hsn hb;have hxn':=hxn.symm;obtain⟨vv,hvv⟩:=zX1 (valN (r.take i));rw[← hvv] at hv7 hsn ⊢;obtain⟨v8,e8⟩:=zX1 (vv * 256);have b1:(vv:Int) * 256=(v8:Int):=by omega
           have b2:=wu64 v8 (by omega);have b3:=wu64 xn (by omega);have b4:=u64_or_nat v8 xn (by omega) (by omega);rw[nat_join 8 v8 xn (by omega) (by omega)] at b4;obtain⟨y,hy⟩:=zX1 (v8+xn);rw[← hy] at b4;have HY:=hid (show y=valN (r.take (i+1)) by rw[hsn];omega);have HI:=hid hi1;clear hv hir hel hsn hb hx hvv hv7 e8 hy hxn hi1;go_wp2_with (at_builtin;refine z0A ?_;intro q hq);exact⟨⟨i+1,by omega,by rw[HY.out],by have:=HI.out;go_num,by first | rfl | trivial⟩,by have:=HI.out;simp[intOf];omega⟩
          ·obtain rfl:i=8:=by omega
           subst hi1;rw[show r.take 8=r from List.take_of_length_le (by have:=HC.out.1;omega)];obtain⟨sl,hsl⟩:=zX1 (valN r);rw[← hsl];have Hsl:=hid hsl;clear hsl hi hsz9;go_wp2_with (at_builtin;refine z0A ?_;intro q hq);obtain⟨ao,nc,hnv,-⟩:=H0.out.2.1.row.form;subst hnv;obtain⟨n,hn⟩:=zX1 (st.2.length);rw[← hn] at p3;have hn6:n≤1000000:=by rw[hn];exact H0.out.2.2.2
           have Hn:=hid hn;clear hn;refine z0G [] (by kernel_rfl) (by kernel_rfl) ?_
           repeat (first | (apply z0F (by rfl);(intro K w';go_simp;exact id)) | (apply z0I (by rfl);(intro K;go_simp;exact id)))
           (refine z2G (by rfl) (by rfl) (fun K hK=>?_);go_simp;refine hK _ _ (Pre.push _ rfl) ?_;clear hK K)
           have hk4:Keep (fun _=>False) wr (wr.alloc (.cells #[.int .u64 (sl:Int),.int .u64 (b.n:Int),.int .i64 b.node,.slice ua rl uc] 31)).drew:=((Keep.refl _ _).alloc _).drew;have hn4:(wr.alloc (.cells #[.int .u64 (sl:Int),.int .u64 (b.n:Int),.int .i64 b.node,.slice ua rl uc] 31)).drew.heap[wr.heap.size]?=some (.cells #[.int .u64 (sl:Int),.int .u64 (b.n:Int),.int .i64 b.node,.slice ua rl uc] 31):=heap_alloc_new wr _;obtain⟨w4,hw4⟩:=zX1 ((wr.alloc (.cells #[.int .u64 (sl:Int),.int .u64 (b.n:Int),.int .i64 b.node,.slice ua rl uc] 31)).drew);rw[← hw4] at hk4 hn4 ⊢;clear hw4;have hv4:=(H0.out.2.1.keep H2.out.2.1 (fun _ _ x=>x)).keep hk4 (fun _ _ x=>x);have hb4:=hk4.get (H2.out.2.1.get H0.out.1 id) id;have hrow4:=H2.out.2.2.1.keep hk4 (fun _ _ x=>x);have hvr:=hv4.row;rw[← Hn.out] at hvr hb4;refine z0M (by rfl) (by rfl) (fun K hK=>?_)
           refine z0R z3E (.tmp 62) (.tmp 67) rfl rfl hvr (some ⟨wr.heap.size,0,none⟩) 1 1 (z2H ⟨sl,b,rest⟩ (.slice ua rl uc)) rfl
            ⟨rfl,fun _=>⟨_,rfl,fun t u hu=>by rw[z0J,Nat.zero_add,cell_of_row _ _ _ _ _ _ hn4];simpa [z2H] using hu⟩⟩ (fun u hu=>by simp[z2H] at hu;rcases hu with rfl | rfl | rfl | rfl <;> rfl) (by unfold maxLen;omega) (by omega) ?_
           intro v5 w5 hr5 hk5 hv5;have hk5:Keep (fun k=>(Value.slice ao n nc).ownBlock=some k) w4 w5:=hk5;have hv5:(v5 = .slice ao n nc∧1=0)∨∃ j,v5.ownBlock=some j∧((Value.slice ao n nc).ownBlock=some j∨j=w4.heap.size):=hv5;refine hK _ _ ?_;clear hK K;obtain⟨a5,c5,rfl,-⟩:=hr5.form;have hall:∀ j,(Value.slice ao n nc).ownBlock=some j→B≤j:=fun j e=>H0.out.2.1.own j (by rw[z1W ao _ n];exact e)
           have hown5:∀ j,(Value.slice a5 (n+1) c5).ownBlock=some j→B≤j∧((Value.slice ao n nc).ownBlock=some j∨w4.heap.size≤j):=fun j e=>by
            rcases hv5 with ⟨-,h⟩ | ⟨j',h1,h2⟩
            ·omega
            ·rw[e] at h1
             cases h1
             rcases h2 with h2 | h2
             ·exact⟨hall j h2,.inl h2⟩
             ·have h7:=H2.out.2.1.size;have h8:=hk4.size;exact⟨by omega,.inr (by omega)⟩
           have hb5:=hk5.get hb4 (fun e=>by have:=hall a e;omega)
           have hvp:=hv4.push (x:=⟨sl,b,rest⟩) (u:=.slice ua rl uc) (F':=fun k=>B≤k) (w':=w5) (v':=.slice a5 (n+1) c5) (by rw[← Hrl.out];exact hrow4) (fun j e=>by
            have h1:=H2.out.2.2.2 j e;have h2:=z0L H0.out.1;refine⟨by omega,fun x=>?_⟩;have h3:=H0.out.2.1.row.lt x
            omega) (by rw[← Hn.out];exact hr5) (hk5.mono fun j _ e=>by rw[z1W ao _ n];exact e) (fun _ x=>x) (fun j e=>⟨(hown5 j e).1,(hown5 j e).2.imp (fun y=>by rw[z1W ao _ n];exact y) id⟩)
           obtain⟨p0,p1,p2,p3,p4,pf,pb⟩:=z2C hb5;have hkz:Keep (fun j=>j=a) w5 (w5.setCell ⟨a,3,none⟩ (.slice a5 (n+1) c5)):=kst;have hb6:=z0C hb5 3 (.slice a5 (n+1) c5);have hv6:=hvp.keep hkz (fun j x e=>by have e':j=a:=e;have x':B≤j:=x;omega)
           have hkA:Keep (fun j=>j=a∨(Value.slice ao st.2.length nc).ownBlock=some j) w (w5.setCell ⟨a,3,none⟩ (.slice a5 (n+1) c5)):=
            ((H2.out.2.1.nx hk4).next hk5 (fun _ _ x=>x.elim) (fun j _ e=>.inr (by rw[z1W ao _ n];exact e))).next hkz (fun _ _ x=>x) (fun _ _ e=>.inl e)
           have HW:=hid (zA1 hkA (zA1 hb6 hv6));clear hr5 hk5 hv5 hall hown5 hvp p0 p1 p2 p4 pb hkz hb6 hv6 hkA hb5 hk4 hn4 hv4 hb4 hrow4 hvr
           repeat (first | (apply z0F (by rfl);(intro K w';go_simp;exact id)) | (apply z0I (by rfl);(intro K;go_simp;exact id)))
           (refine z0M (by rfl) (by rfl) (fun K hK=>?_);go_simp;refine hK _ _ ?_;clear hK K)
           refine z0S ?_
           by_cases hs0:sl=0
           ·have q5:decide ((0:Int)<(sl:Int))=false:=by simp;omega
            have q6:decide (0<sl)=false:=decide_eq_false (by omega);have Hs:=hid hs0;clear hs0;go_wp2_with (at_builtin;refine z0A ?_;intro q hq);show Post (.returned (.bool false)) _;rw[HP.out];refine⟨HW.out.1,?_⟩;rw[HR.out,if_neg Hp.out,if_neg (fun x=>x.1 (by rw[HC.out.2.1,← Hsl.out,Hs.out]))]
           ·have q5:(0:Int)<(sl:Int):=by omega
            have q6:decide (0<sl)=true:=decide_eq_true (by omega);have Hs:=hid hs0;clear hs0;go_wp2_with (at_builtin;refine z0A ?_;intro q hq);show Post (.returned (.bool true)) _;rw[HP.out];refine⟨HW.out.1,?_⟩;rw[HR.out,if_neg Hp.out,if_pos ⟨by rw[HC.out.2.1,← Hsl.out];exact Hs.out,by rw[← Hrl.out];exact HC.out.2.2.1⟩,HC.out.2.1,← Hsl.out];exact⟨rfl,_,_,HW.out.2.1,HW.out.2.2⟩
        ·have q3:(100:Int)<(rl:Int):=by omega
         have Hl:=hid hl;clear hkl hr8 hsK hl hch2;go_wp2_with (at_builtin;refine z0A ?_;intro q hq);exact HF.out (.inr (by have:=Hl.out;omega))
       ·have q2:((ch.toNat:Int) != 118)=true:=by simp;omega
        have hs0:z2Q (ch :: r)=0:=by unfold z2Q;simp only;rw[if_neg (fun x=>hch (by rw[x.1];rfl))]
        have HS:=hid hs0;clear hkl hs0;go_wp2_with (at_builtin;refine z0A ?_;intro q hq);exact HF.out (.inl HS.out)
    ·have q2:((kl:Int) != 9)=true:=by simp;omega
     have hs0:z2Q k=0:=by
      cases k with
      | nil=>rfl
      | cons ch r=>unfold z2Q;simp only;rw[if_neg (fun x=>h9 (by rw[hkl];simp;omega))]
     have HS:=hid hs0;clear hkl hs0;go_wp2_with (at_builtin;refine z0A ?_;intro q hq);exact HF.out (.inl HS.out)
end
section
open Go.RowKit Go.Maps
open MI SO BM DM WM AC
def AC.hasP (v x:Vt):Bool:=decide (x.slot=v.slot) && ((decide (x.bal=v.bal) && decide (x.val=v.val)) || !less x.bal v.bal)
def AC.keptP (b:Bal) (now:List Vt) (top:Bal) (vs:List Vt):Bool:=!less b top && vs.all fun v=>now.any (hasP v)
end
section
open Go.RowKit Go.Maps
open MI SO BM DM WM AC
def lowB (s:Nat):Nat→Str
 | 0=>[]
 | k+1=>lowB s k ++ [UInt8.ofNat (s / 256 ^ k % 256)]
end
section
open Go.RowKit Go.Maps
open MI SO BM DM WM AC
def RGetPost (w:World) (s:Str) (e:Ending) (w':World):Prop:=Keep (fun _=>False) w w'∧match getB s with
 | some (b,rest)=>∃ ao c,e = .returned (.tuple #[balV b,.slice ao rest.length c,.bool true])∧Cells w' ao rest.length 1 (z0B rest)∧rest.length≤c∧c≤maxLen
 | none=>e = .returned (.tuple #[balV Bal.zero,.slice none 0 0,.bool false])
theorem zeQ (w:World) (s:Str) (hs:s.length≤1000000):Calls Tryz.prog 61 #[.string (str s)] w (RGetPost w s):=by
 obtain⟨Post,hPost⟩:=zX1 (RGetPost w s);rw[← hPost];have HP:=hid hPost;clear hPost;have hn1:=heap_alloc_new w (.cells #[.int .u64 0,.int .i64 0] 28);have hk1:=kal w (.cells #[.int .u64 0,.int .i64 0] 28);obtain⟨w1,hw1⟩:=zX1 (w.alloc (.cells #[.int .u64 0,.int .i64 0] 28));have hz1:w1.heap.size=w.heap.size+1:=by rw[hw1];simp
 rw[← hw1] at hn1 hk1;obtain⟨c1,w2,hcv,hf2⟩:=z6A w1 s (by unfold maxLen;omega);obtain⟨sl,hsl⟩:=zX1 (s.length);have hrow:=hf2.row;rw[← hsl] at hrow hcv;obtain⟨_,_,hfe,hc1,hc2,-⟩:=hrow.form;cases hfe;have hcs:=Cells.of_row hrow;have hn2:=hf2.keep.get hn1 id;have hu1:=z6X w2 _ sl c1 0 s hcs (Nat.zero_le _) (by omega);obtain⟨p0,p1,pf,pb⟩:=z4S hn2
 have fin:∀ w',Keep (fun _=>False) w2 w'→∀ x y,(∀ j u,[x,y][j]?=some u→((w'.setCell ⟨w.heap.size,0,none⟩ x).setCell ⟨w.heap.size,1,none⟩ y).cell? ⟨w.heap.size,j,none⟩=some u)∧Keep (fun _=>False) w ((w'.setCell ⟨w.heap.size,0,none⟩ x).setCell ⟨w.heap.size,1,none⟩ y)∧Keep (fun k=>k=w.heap.size) w' ((w'.setCell ⟨w.heap.size,0,none⟩ x).setCell ⟨w.heap.size,1,none⟩ y):=fun w' hk x y=>by
  obtain⟨g1,g2,-⟩:=z3Z w' w.heap.size _ _ (hk.get hn2 id) x y;exact⟨g1,((hk1.nx hf2.keep).nx hk).next g2 (fun _ _ x=>x) (fun k hk x=>by omega),g2⟩
 have H2:=hid (zA1 fin (zA1 hcs (zA1 hsl (zA1 hz1 (zA1 hf2.keep.size hn2)))));have Hc:=hid (zA1 hc1 hc2);clear fin hn1 hk1 hf2 hrow hcs hn2 hz1 hsl hc1 hc2;go_enter Tryz.func61,Tryz.ntmps61
 go_upto_region 1 with fail
 rw[← hw1];clear hw1
 cases h1:BM.uint s 0 with
 | no x=>
   rw[h1] at hu1;simp only[numV] at hu1;have hx:=(z3I h1).1;have q1:((x:Int) != 0)=true:=by simp;omega
   have hG:=hid (show getB s=none by unfold getB;rw[h1]);clear h1 hx;go_wp2_with (at_builtin;refine z0A ?_;intro q hq);refine hu1.mono ?_;rintro e w3 ⟨rfl,hk3⟩;have p0:=z0E hk3 _ _ p0;have p1:=z0E hk3 _ _ p1;have pf:∀ o,w3.frozen? ⟨w.heap.size,o,none⟩=false:=fun o=>by have:=hk3.get H2.out.2.2.2.2.2 id;simp[World.frozen?,this]
   have HK:=hid hk3;clear hk3 hu1 hcv;go_wp2_with (at_builtin;refine z0A ?_;intro q hq);obtain⟨g1,g2,-⟩:=H2.out.1 w3 HK.out (.int .u64 0) (.int .i64 0);refine bodyPost_ret (z2R rfl _ _ w.heap.size rfl [.int .u64 0,.int .i64 0] g1 _ Tryz.underlying28 rfl (by kernel_rfl)) rfl ?_;rw[HP.out];refine⟨g2,?_⟩;rw[hG.out];rfl
 | yes n a=>
   rw[h1] at hu1;simp only[numV] at hu1;obtain⟨u1,u2,u3,-⟩:=z2N h1;have H1:=hid h1;clear h1;go_wp2_with (at_builtin;refine z0A ?_;intro q hq);refine hu1.mono ?_;rintro e w3 ⟨rfl,hk3⟩;have hu2:=z6X w3 _ sl c1 a s (H2.out.2.1.keep hk3 (fun _ _ x=>x)) (by have:=H2.out.2.2.1;omega) (by have:=H2.out.2.2.1;omega);have p0:=z0E hk3 _ _ p0;have p1:=z0E hk3 _ _ p1;have HK:=hid hk3;clear hk3 hu1 hcv pf pb
   cases h2:BM.uint s a with
   | no x=>
     rw[h2] at hu2;simp only[numV] at hu2;have hx:=(z3I h2).1;have q1:((x:Int) != 0)=true:=by simp;omega
     have q2:decide (x=0)=false:=decide_eq_false hx;have hG:=hid (show getB s=none by unfold getB;rw[H1.out];simp only;rw[h2]);clear h2 hx;go_wp2_with (at_builtin;refine z0A ?_;intro q hq);refine hu2.mono ?_;rintro e w4 ⟨rfl,hk4⟩;have p0:=z0E hk4 _ _ p0;have p1:=z0E hk4 _ _ p1;have HK:=hid (HK.out.nx hk4);have pf:∀ o,w4.frozen? ⟨w.heap.size,o,none⟩=false:=fun o=>by have:=HK.out.get H2.out.2.2.2.2.2 id;simp[World.frozen?,this]
     clear hk4 hu2;go_wp2_with (at_builtin;refine z0A ?_;intro q hq);obtain⟨g1,g2,-⟩:=H2.out.1 w4 HK.out (.int .u64 0) (.int .i64 0);refine bodyPost_ret (z2R rfl _ _ w.heap.size rfl [.int .u64 0,.int .i64 0] g1 _ Tryz.underlying28 rfl (by kernel_rfl)) rfl ?_;rw[HP.out];refine⟨g2,?_⟩;rw[hG.out];rfl
   | yes k tt=>
     rw[h2] at hu2;simp only[numV] at hu2;obtain⟨v1,v2,v3,-⟩:=z2N h2;have hG:getB s=if k<12∧0<n then some (⟨n,(k:Int)⟩,s.drop tt) else none:=by unfold getB;rw[H1.out];simp only;rw[h2]
     have HG:=hid hG;have hts:=H2.out.2.1.tail tt (by have:=H2.out.2.2.1;omega) Hc.out.1 (by decide);clear h2 hG
     by_cases hgd:k<12∧0<n
     ·have q1:decide ((11:Int)<(k:Int))=false:=decide_eq_false (by omega)
      have q2:decide (11<k)=false:=decide_eq_false (by omega);have q3:((n:Int) == 0)=false:=by simp;omega
      have q4:decide (n=0)=false:=decide_eq_false (by omega);have q5:=wi64 k (by omega);obtain⟨ta,hta⟩:=zX1 (z1E (some ⟨w1.heap.size,0,none⟩) c1 tt 1);obtain⟨tl,htl⟩:=zX1 (sl - tt);obtain⟨tc,htc⟩:=zX1 (c1 - tt);have hslc:=fun w=>z1Q (P:=Tryz.prog) z0U (some ⟨w1.heap.size,0,none⟩) sl c1 .i64 tt (by have:=H2.out.2.2.1;omega) w;rw[← hta,← htl,← htc] at hslc;rw[← hta,← htl] at hts;have HX:=hid (zA1 hgd (zA1 hts (zA1 htl (zA1 htc hta))));clear hts htl htc hta hgd;go_wp2_with (at_builtin;refine z0A ?_;intro q hq);refine hu2.mono ?_;rintro e w4 ⟨rfl,hk4⟩;have p0:=z0E hk4 _ _ p0;have p1:=z0E hk4 _ _ p1;have HK:=hid (HK.out.nx hk4);have pf:∀ o,w4.frozen? ⟨w.heap.size,o,none⟩=false:=fun o=>by have:=HK.out.get H2.out.2.2.2.2.2 id;simp[World.frozen?,this]
      clear hk4 hu2;go_wp2_with (at_builtin;refine z0A ?_;intro q hq);refine z0G [] (by kernel_rfl) (by kernel_rfl) ?_
      repeat (first | (apply z0F (by rfl);(intro K w';go_simp;exact id)) | (apply z0I (by rfl);(intro K;go_simp;exact id)))
      (refine z0M (by rfl) (by rfl) (fun K hK=>?_);go_simp;refine hK _ _ ?_;clear hK K)
      repeat (first | (apply z0F (by rfl);(intro K w';go_simp;exact id)) | (apply z0I (by rfl);(intro K;go_simp;exact id)))
      refine z0S ?_;go_wp2_with (at_builtin;refine z0A ?_;intro q hq);obtain⟨g1,g2,g3⟩:=H2.out.1 w4.drew (HK.out.drew) (.int .u64 (n:Int)) (.int .i64 (k:Int));refine bodyPost_ret (z2R rfl _ _ w.heap.size rfl [.int .u64 (n:Int),.int .i64 (k:Int)] g1 _ Tryz.underlying28 rfl (by kernel_rfl)) rfl ?_;rw[HP.out];refine⟨g2,?_⟩;rw[HG.out,if_pos HX.out.1];simp only;have hl:(s.drop tt).length=tl:=by rw[List.length_drop,HX.out.2.2.1,H2.out.2.2.1]
      rw[hl];refine⟨ta,tc,rfl,?_,by have:=HX.out.2.2.1;have:=HX.out.2.2.2.1;have:=Hc.out.1;omega,by have:=HX.out.2.2.2.1;have:=Hc.out.2;omega⟩;have hbb:z0B (s.drop tt)=(z0B s).drop (tt * 1):=by rw[Nat.mul_one];simp[z0B,List.map_drop]
      rw[hbb];refine((HX.out.2.1.keep HK.out (fun _ _ x=>x)).keep (Keep.refl (fun _=>False) w4).drew (fun _ _ x=>x)).keep g3 (fun x hx e=>?_);rw[HX.out.2.2.2.2,zgM] at hx;cases hx;have e':w1.heap.size=w.heap.size:=e;have:=H2.out.2.2.2.1;omega
     ·have hG:getB s=none:=by rw[HG.out,if_neg hgd]
      have hG:=hid hG;have cut:(k<12∧n=0)∨12≤k:=by omega
      clear hgd hts
      rcases cut with ⟨b1,rfl⟩ | b1
      ·have q1:decide ((11:Int)<(k:Int))=false:=decide_eq_false (by omega)
       have q2:decide (11<k)=false:=decide_eq_false (by omega);go_wp2_with (at_builtin;refine z0A ?_;intro q hq);refine hu2.mono ?_;rintro e w4 ⟨rfl,hk4⟩;have p0:=z0E hk4 _ _ p0;have p1:=z0E hk4 _ _ p1;have HK:=hid (HK.out.nx hk4);have pf:∀ o,w4.frozen? ⟨w.heap.size,o,none⟩=false:=fun o=>by have:=HK.out.get H2.out.2.2.2.2.2 id;simp[World.frozen?,this]
       clear hk4 hu2;go_wp2_with (at_builtin;refine z0A ?_;intro q hq);obtain⟨g1,g2,-⟩:=H2.out.1 w4 HK.out (.int .u64 0) (.int .i64 0);refine bodyPost_ret (z2R rfl _ _ w.heap.size rfl [.int .u64 0,.int .i64 0] g1 _ Tryz.underlying28 rfl (by kernel_rfl)) rfl ?_;rw[HP.out];refine⟨g2,?_⟩;rw[hG.out];rfl
      ·have q1:(11:Int)<(k:Int):=by omega
       go_wp2_with (at_builtin;refine z0A ?_;intro q hq);refine hu2.mono ?_;rintro e w4 ⟨rfl,hk4⟩;have p0:=z0E hk4 _ _ p0;have p1:=z0E hk4 _ _ p1;have HK:=hid (HK.out.nx hk4);have pf:∀ o,w4.frozen? ⟨w.heap.size,o,none⟩=false:=fun o=>by have:=HK.out.get H2.out.2.2.2.2.2 id;simp[World.frozen?,this]
       clear hk4 hu2;go_wp2_with (at_builtin;refine z0A ?_;intro q hq);obtain⟨g1,g2,-⟩:=H2.out.1 w4 HK.out (.int .u64 0) (.int .i64 0);refine bodyPost_ret (z2R rfl _ _ w.heap.size rfl [.int .u64 0,.int .i64 0] g1 _ Tryz.underlying28 rfl (by kernel_rfl)) rfl ?_;rw[HP.out];refine⟨g2,?_⟩;rw[hG.out];rfl
theorem zkN (w:World) (k:Str) (hk:k.length≤1000000):Calls Tryz.prog 62 #[.string (str k)] w fun e w'=>e = .returned (.int .u64 (z2Q k:Nat))∧Keep (fun _=>False) w w':=by
 obtain⟨R,hR⟩:=zX1 (z2Q k);rw[← hR];have HR:=hid hR;clear hR;have hsz:=z2F k;obtain⟨kl,hkl⟩:=zX1 (k.length);rw[← hkl] at hsz hk
 by_cases h9:kl=9
 ·subst h9
  cases k with
  | nil=>cases hkl
  | cons ch r=>
    have hix:=zgK (ch :: r) 0 (by rw[hsz];decide) (by simp);rw[List.getElem_cons_zero] at hix
    by_cases hch:ch.toNat=118
    ·have q2:((ch.toNat:Int) != 118)=false:=by simp;omega
     have hr8:r.length=8:=by simp at hkl;omega
     have hch2:ch=118:=by rw[← UInt8.toNat_inj];exact hch
     have hsK:z2Q (ch :: r)=valN r:=by unfold z2Q;simp only;rw[if_pos ⟨hch2,hr8⟩]
     have HC:=hid (zA1 hr8 hsK);clear hkl hr8 hsK hch2;go_enter Tryz.func62,Tryz.ntmps62;go_wp2_with (at_builtin;refine z0A ?_;intro q hq);clear hix q2 hch
     go_loopw [3,4] (fun sv iv wr=>∃ i:Nat,i≤8∧sv = .int .u64 (valN (r.take i):Nat)∧iv = .int .i64 (i+1:Nat)∧wr=w) (fun _ iv _=>9 - (intOf iv).toNat)
     case atStart=>exact⟨0,by omega,rfl,rfl,rfl⟩
     case round=>
      obtain⟨i,hi,rfl,rfl,rfl⟩:=hrel;obtain⟨i1,hi1⟩:=zX1 (i+1);rw[← hi1]
      by_cases hi8:i<8
      ·have q2:(i1:Int)<9:=by omega
       have hir:i<r.length:=by have:=HC.out.1;omega
       have hlt:i1<(str (ch :: r)).size:=by rw[hsz];omega
       have hix:=zgK (ch :: r) i1 hlt (by simp;omega);have hel:(ch :: r)[i1]'(by simp;omega)=r[i]:=by subst hi1;simp
       rw[hel] at hix;have hv:=zbQ (r.take i)
       have hv7:valN (r.take i)<72057594037927936:=Nat.lt_of_lt_of_le hv (by
        rw[List.length_take,Nat.min_eq_left (by omega)]
        exact Nat.le_trans (Nat.pow_le_pow_right (by decide) (show i≤7 by omega)) (by decide))
       have hsn:valN (r.take (i+1))=valN (r.take i) * 256+(r[i]).toNat:=by
        rw[List.take_add_one,List.getElem?_eq_getElem hir,Option.toList_some,zbJ]
       have hb:=(r[i]).toNat_lt;obtain⟨x,hx⟩:=zX1 (r[i]);rw[← hx] at hix hsn hb;obtain⟨xn,hxn⟩:=zX1 (x.toNat);rw[← hxn] at hsn hb;have hxn':=hxn.symm;obtain⟨vv,hvv⟩:=zX1 (valN (r.take i));rw[← hvv] at hv7 hsn ⊢;obtain⟨v8,e8⟩:=zX1 (vv * 256);have b1:(vv:Int) * 256=(v8:Int):=by omega
       have b2:=wu64 v8 (by omega);have b3:=wu64 xn (by omega);obtain⟨y,hy⟩:=zX1 (v8+xn);have b4:(v8:Int)+(xn:Int)=(y:Int):=by omega
       have b5:=wu64 y (by omega);have HY:=hid (show y=valN (r.take (i+1)) by rw[hsn];omega);have HI:=hid hi1;clear hv hir hel hsn hb hx hvv hv7 e8 hy hxn hi1;go_wp2_with (at_builtin;refine z0A ?_;intro q hq);exact⟨⟨i+1,by omega,by rw[HY.out],by have:=HI.out;go_num,by first | rfl | trivial⟩,by have:=HI.out;simp[intOf];omega⟩
      ·obtain rfl:i=8:=by omega
       subst hi1;rw[show r.take 8=r from List.take_of_length_le (by have:=HC.out.1;omega)];obtain⟨sl,hsl⟩:=zX1 (valN r);rw[← hsl];have Hsl:=hid hsl;clear hsl hi;go_wp2_with (at_builtin;refine z0A ?_;intro q hq);go_ret;exact⟨by rw[HR.out,HC.out.2,Hsl.out];rfl,Keep.refl _ _⟩
    ·have q2:((ch.toNat:Int) != 118)=true:=by simp;omega
     have hs0:z2Q (ch :: r)=0:=by unfold z2Q;simp only;rw[if_neg (fun x=>hch (by rw[x.1];rfl))]
     have HS:=hid hs0;clear hkl hs0;go_enter Tryz.func62,Tryz.ntmps62;go_wp2_with (at_builtin;refine z0A ?_;intro q hq);go_ret;exact⟨by rw[HR.out,HS.out];rfl,Keep.refl _ _⟩
 ·have q2:((kl:Int) != 9)=true:=by simp;omega
  have hs0:z2Q k=0:=by
   cases k with
   | nil=>rfl
   | cons ch r=>unfold z2Q;simp only;rw[if_neg (fun x=>h9 (by rw[hkl];simp;omega))]
  have HS:=hid hs0;clear hkl hs0;go_enter Tryz.func62,Tryz.ntmps62;go_wp2_with (at_builtin;refine z0A ?_;intro q hq);go_ret;exact⟨by rw[HR.out,HS.out];rfl,Keep.refl _ _⟩
end
namespace AC
open Go.Proofs.YtkjofdocgaiedaaGreat MI SO BM DM WM
def docB (ps:List (Str×Str)):Bal:=match AL.get ps pK with
 | none=>Bal.zero
 | some v=>match getB v with
   | none=>Bal.zero
   | some (b,_)=>b
def docV1 (k:Nat) (p:Str×Str):Option Vt:=match getB p.2 with
 | none=>none
 | some (b,rest)=>if 0<z2Q p.1∧k≤z2Q p.1 then some ⟨z2Q p.1,b,rest⟩ else none
def docV (ps:List (Str×Str)) (k:Nat):List Vt:=ps.filterMap (docV1 k)
def z4E (top:Bal) (p:Str×Str):Bool:=match getB p.2 with
 | none=>false
 | some (b,rest)=>if p.1=pK then decide (rest = []) else (decide (z2Q p.1≠0) && (decide (rest.length≤100) && !less top b))
def z8I (ps:List (Str×Str)):Bool:=ps.all (z4E (docB ps))
theorem zrC {b:Bal} {vs:List Vt} (h:VOk b vs):docB (encP b vs)=b:=by
 unfold docB encP
 rcases h.bal with rfl | hb
 ·rw[h.zero];rfl
 ·rw[if_neg hb.ne]
  simp only[List.singleton_append,AL.z0Z,if_true];have:=z8B hb.1 hb.2 [];rw[List.append_nil] at this;rw[this]
theorem zlM {b:Bal} {vs:List Vt} (h:VOk b vs):z8I (encP b vs)=true:=by
 unfold z8I;rw[zrC h,List.all_eq_true];intro p hp;unfold encP at hp
 rcases List.mem_append.1 hp with hp | hp
 ·by_cases hb:b=Bal.zero
  ·rw[if_pos hb] at hp;cases hp
  ·rw[if_neg hb] at hp
   simp at hp;subst hp;have hB:OkB b:=h.bal.resolve_left hb;have:=z8B hB.1 hB.2 [];rw[List.append_nil] at this;unfold z4E;simp only;rw[this];simp
 ·obtain⟨v,hv,rfl⟩:=List.mem_map.1 hp
  have q:=h.each v hv;unfold z4E encV;simp only;rw[z8B q.bal.1 q.bal.2];simp only;rw[if_neg (zgQ _),zcO q.lt,q.top];have h1:=q.slot;have h2:=q.val;simp;omega
theorem zpP {ps:List (Str×Str)} (hs:Sorted ps) (h:z8I ps=true):(rd ps).isSome=true:=by
 unfold z8I at h;rw[List.all_eq_true] at h
 have go:∀ (qs:List (Str×Str)) (st:Bal×List Vt),(∀ p ∈ qs,z4E (docB ps) p=true)→(∀ v ∈ st.2,less (docB ps) v.bal=false)→∃ st',rdL st qs=some st'∧(∀ v ∈ st'.2,less (docB ps) v.bal=false)∧
   (st'.1=st.1∨∃ p ∈ qs,∃ b,p.1=pK∧getB p.2=some (b,[])∧st'.1=b)∧((∀ p ∈ qs,p.1≠pK)→st'.1=st.1):=by
  intro qs
  induction qs with
  | nil=>intro st _ h2;exact⟨st,rfl,h2,.inl rfl,fun _=>rfl⟩
  | cons p qs ih=>
    intro st h1 h2;have hp:=h1 p (by simp);unfold z4E at hp
    cases hg:getB p.2 with
    | none=>rw[hg] at hp;cases hp
    | some q=>
      obtain⟨b,rest⟩:=q;rw[hg] at hp;simp only at hp
      by_cases hk:p.1=pK
      ·rw[if_pos hk] at hp
       have hr:rest = []:=by simpa using hp
       subst hr;have e:rd1 st p=some (b,st.2):=by unfold rd1;rw[hg];simp only;rw[if_pos hk];simp
       obtain⟨st',g1,g2,g3,g4⟩:=ih (b,st.2) (fun x hx=>h1 x (by simp[hx])) h2;refine⟨st',by unfold rdL;rw[e];exact g1,g2,.inr ?_,fun x=>absurd hk (x p (by simp))⟩
       rcases g3 with g3 | ⟨y,hy,c,c1,c2,c3⟩
       ·exact⟨p,by simp,b,hk,hg,g3⟩
       ·exact⟨y,by simp[hy],c,c1,c2,c3⟩
      ·rw[if_neg hk] at hp
       simp only[Bool.and_eq_true,decide_eq_true_eq,Bool.not_eq_true'] at hp;obtain⟨p1,p2,p3⟩:=hp;have e:rd1 st p=some (st.1,st.2 ++ [⟨z2Q p.1,b,rest⟩]):=by unfold rd1;rw[hg];simp only;rw[if_neg hk,if_pos ⟨p1,p2⟩]
       obtain⟨st',g1,g2,g3,g4⟩:=ih (st.1,st.2 ++ [⟨z2Q p.1,b,rest⟩]) (fun x hx=>h1 x (by simp[hx])) (fun v hv=>by
        rcases List.mem_append.1 hv with hv | hv
        ·exact h2 v hv
        ·simp at hv;subst hv;exact p3)
       refine⟨st',by unfold rdL;rw[e];exact g1,g2,?_,fun x=>g4 fun y hy=>x y (by simp[hy])⟩
       rcases g3 with g3 | ⟨y,hy,c⟩
       ·exact .inl g3
       ·exact .inr ⟨y,by simp[hy],c⟩
 obtain⟨st',g1,g2,g3,g4⟩:=go ps (Bal.zero,[]) h (fun v hv=>by cases hv)
 have htop:st'.1=docB ps:=by
  unfold docB
  rcases g3 with g3 | ⟨p,hp,b,c1,c2,c3⟩
  ·cases hget:AL.get ps pK with
   | none=>exact g3
   | some v=>
     have hm:=z2S hget;have hd:=h _ hm;unfold z4E at hd;simp only at hd
     cases hg:getB v with
     | none=>simp only[hg];exact g3
     | some q=>
       obtain⟨b,rest⟩:=q;rw[hg] at hd;simp only[if_true,decide_eq_true_eq] at hd;subst hd;obtain⟨l1,l2,rfl⟩:=List.append_of_mem hm;have hs2:=hs;unfold Sorted at hs2;rw[List.pairwise_append] at hs2
       have hno:∀ p ∈ l1 ++ l2,p.1≠pK:=by
        intro p hp e
        rcases List.mem_append.1 hp with hp | hp
        ·have:=hs2.2.2 p hp (pK,v) (by simp)
         rw[e] at this;exact z1K _ this
        ·have:=(List.pairwise_cons.1 hs2.2.1).1 p hp
         rw[e] at this;exact z1K _ this
       have key:∀ (qs:List (Str×Str)) (st st':Bal×List Vt),(∀ p ∈ qs,p.1≠pK)→rdL st (qs ++ (pK,v) :: l2)=some st'→st'.1=b:=by
        intro qs
        induction qs with
        | nil=>
          intro st st' _ hr;simp only[List.nil_append,rdL] at hr;have e:rd1 st (pK,v)=some (b,st.2):=by unfold rd1;simp only;rw[hg];simp
          rw[e] at hr;simp only at hr;obtain⟨a1,a2⟩:=st';exact(zdP l2 b a1 st.2 a2 (fun p hp=>hno p (by simp[hp])) hr).1
        | cons p qs ih=>
          intro st st' h1 hr;simp only[List.cons_append,rdL] at hr
          cases h2:rd1 st p with
          | none=>rw[h2] at hr;cases hr
          | some s2=>
            rw[h2] at hr;exact ih s2 st' (fun x hx=>h1 x (by simp[hx])) hr
       simp only[hg];exact key l1 _ _ (fun p hp=>hno p (by simp[hp])) g1
  ·have hget:AL.get ps pK=some p.2:=by
    have:=z3Q (z8K hs) hp;rw[c1] at this;exact this
   rw[hget];simp only;rw[c2];exact c3
 unfold rd;obtain⟨b,vs⟩:=st';rw[g1];simp only
 have hany:vs.any (fun v=>less b v.bal)=false:=by
  rw[List.any_eq_false];intro v hv;have h1:=g2 v hv;rw[← htop] at h1;simp only at h1;rw[h1];decide
 rw[hany];rfl
theorem zeT {ps:List (Str×Str)} (hs:Sorted ps):z8I ps=(rd ps).isSome:=by
 cases h:rd ps with
 | some st=>
   obtain⟨b,vs⟩:=st;obtain⟨h1,h2⟩:=ztP hs h;rw[h2,zlM h1];rfl
 | none=>
   cases hd:z8I ps with
   | false=>rfl
   | true=>
     have:=zpP hs hd;rw[h] at this;cases this
end AC
section
open Go.RowKit Go.Maps
open MI SO BM DM WM AC
theorem ztA {w:World} {b:Nat} {T:TypeId} {a0:Value} (H:w.heap[b]?=some (.cells #[a0] T (0,0))):w.cell? ⟨b,0,none⟩=some a0∧(∀ o,w.frozen? ⟨b,o,none⟩=false)∧b<w.heap.size:=by
 refine⟨?_,?_,z0L H⟩ <;> simp[World.cell?,World.frozen?,H]
theorem zmE {w:World} {b:Nat} {T:TypeId} {a0 a1 a2:Value} (H:w.heap[b]?=some (.cells #[a0,a1,a2] T (0,0))) :
  w.cell? ⟨b,0,none⟩=some a0∧w.cell? ⟨b,1,none⟩=some a1∧w.cell? ⟨b,2,none⟩=some a2∧(∀ o,w.frozen? ⟨b,o,none⟩=false)∧b<w.heap.size:=by
 refine⟨?_,?_,?_,?_,z0L H⟩ <;> simp[World.cell?,World.frozen?,H]
def RAcT (a d:Nat) (D:Dk) (S:St):Thing:=fun w F=>∃ sb X Y,BoxA a #[.pointer (some ⟨sb,0,none⟩)] 138 w X∧RStoT sb d D S w Y∧(∀ i,X i→¬ Y i)∧F=fun k=>X k∨Y k
theorem RAcT.lives (a d:Nat) (D:Dk) (S:St):Lives (RAcT a d D S):=
 ⟨fun ⟨sb,X,Y,h1,h2,h3,e⟩ hk hn=>⟨sb,X,Y,(BoxA.lives _ _ _).keep h1 hk (fun i x=>hn i (by rw[e];exact .inl x)),(RStoT.lives _ _ _ _).keep h2 hk (fun i x=>hn i (by rw[e];exact .inr x)),h3,e⟩,
  fun ⟨sb,X,Y,h1,h2,_,e⟩ i x=>by rw[e] at x;exact x.elim ((BoxA.lives _ _ _).lt h1 i) ((RStoT.lives _ _ _ _).lt h2 i)⟩
structure RLook (w:World) (a sb:Nat) (pv wp:Value) (S:St):Prop where
 box:w.heap[a]?=some (.cells #[.pointer (some ⟨sb,0,none⟩)] 138 (0,0))
 sto:w.heap[sb]?=some (.cells (zbL wp pv S.dead) 117 (0,0))
 row:Row w 140 2 pv S.ps.length (prsV S.ps)
 ok:PsOk S.ps
theorem RLook.keep {w w':World} {a sb:Nat} {pv wp:Value} {S:St} (h:RLook w a sb pv wp S) (hk:Keep (fun _=>False) w w'):RLook w' a sb pv wp S:=
 ⟨hk.get h.box id,hk.get h.sto id,h.row.keep hk (fun _ _ x=>x),h.ok⟩
theorem zlA (w:World) (a sb:Nat) (pv wp:Value) (S:St) (H:RLook w a sb pv wp S) (hN:S.ps.length≤900000) :
  Calls Tryz.prog 25 #[.pointer (some ⟨a,0,none⟩)] w fun e w'=>e = .returned (balV (if S.dead then Bal.zero else docB S.ps))∧Keep (fun _=>False) w w':=by
 obtain⟨R,hR⟩:=zX1 ((if S.dead then Bal.zero else docB S.ps));rw[← hR];obtain⟨ao,pc,hpv,-⟩:=H.row.form;subst hpv;have hn1:=heap_alloc_new w (.cells #[.int .u64 0,.int .i64 0] 28);have hk1:=kal w (.cells #[.int .u64 0,.int .i64 0] 28);obtain⟨w1,hw1⟩:=zX1 (w.alloc (.cells #[.int .u64 0,.int .i64 0] 28));rw[← hw1] at hn1 hk1;have L1:=H.keep hk1;obtain⟨p0,-,-⟩:=ztA L1.box;obtain⟨s0,s1,s2,-,-⟩:=zmE L1.sto;have hgt:=zsH w1 ao S.ps.length pc S.ps L1.row rfl (z8K L1.ok.sorted) (by omega) pK
 obtain⟨v,hasB,hgv,hcase⟩:∃ (v:Str) (hb:Bool),getS S.ps pK = .tuple #[.string (str v),.bool hb]∧v.length≤1000∧((hb=false∧docB S.ps=Bal.zero)∨(hb=true∧((getB v=none∧docB S.ps=Bal.zero)∨∃ b rest,getB v=some (b,rest)∧docB S.ps=b))):=by
  unfold getS docB
  cases hg:AL.get S.ps pK with
  | none=>exact⟨[],false,rfl,by decide,.inl ⟨rfl,rfl⟩⟩
  | some v=>
    have hok:=L1.ok.each _ (z2S hg);refine⟨v,true,rfl,by have:=hok.2.2;simp only at this;omega,.inr ⟨rfl,?_⟩⟩
    cases hb:getB v with
    | none=>exact .inl ⟨rfl,by simp only[hb]⟩
    | some q=>exact .inr ⟨q.1,q.2,rfl,by simp only[hb]⟩
 rw[hgv] at hgt;have H1:=hid (zA1 hn1 (zA1 hk1 (zA1 L1 (zA1 hcase hR))));obtain⟨dd,hdd⟩:=zX1 (S.dead);rw[← hdd] at s2;have HD:=hid hdd;clear hn1 hk1 L1 hgv hR hdd s0;have hvl:=hcase.1;go_enter Tryz.func25,Tryz.ntmps25
 go_upto_region 1 with fail
 rw[← hw1];clear hw1 hcase;go_wp2_with (at_builtin;refine z0A ?_;intro q hq);refine hgt.mono ?_;rintro e w2 ⟨rfl,hk2⟩;have hg9:=zeQ w2 v (by omega);have p0:=z0E hk2 _ _ p0;have s2:=z0E hk2 _ _ s2;have HK:=hid hk2;clear hgt hk2 s1 hvl;go_wp2_with (at_builtin;refine z0A ?_;intro q hq);refine hg9.mono ?_;rintro e w3 ⟨hk3,hres⟩;clear hg9;have hk13:=HK.out.nx hk3
 obtain⟨bb,ua,uk,uc,okb,rfl,hcs⟩:∃ (bb:Bal) (ua:Option Addr) (uk uc:Nat) (okb:Bool),e = .returned (.tuple #[balV bb,.slice ua uk uc,.bool okb])∧R=if hasB && (okb && !dd) then bb else Bal.zero:=by
  obtain⟨-,-,-,hcase,hR⟩:=H1.out;rw[hR,← HD.out]
  rcases hcase.2 with ⟨h1,h2⟩ | ⟨h1,⟨h2,h3⟩ | ⟨b,rest,h2,h3⟩⟩
  ·cases hg:getB v with
   | none=>rw[hg] at hres;exact⟨Bal.zero,none,0,0,false,hres,by rw[h1,h2];cases dd <;> rfl⟩
   | some q=>rw[hg] at hres;obtain⟨ao',c',he,-⟩:=hres;exact⟨q.1,ao',_,c',true,he,by rw[h1,h2];cases dd <;> rfl⟩
  ·rw[h2] at hres;exact⟨Bal.zero,none,0,0,false,hres,by rw[h1,h3];cases dd <;> rfl⟩
  ·rw[h2] at hres;obtain⟨ao',c',he,-⟩:=hres;exact⟨b,ao',_,c',true,he,by rw[h1,h3];cases dd <;> rfl⟩
 have p0:=z0E hk3 _ _ p0;have s2:=z0E hk3 _ _ s2;have hn4:=heap_alloc_new w3 (.cells (balC bb) 28);have hk4:=kal w3 (.cells (balC bb) 28)
 go_upto_region 3 with fail
 obtain⟨w4,hw4⟩:=zX1 (w3.alloc (.cells (balC bb) 28));rw[← hw4] at hn4 hk4 ⊢;clear hw4;have p0:=z0E hk4 _ _ p0;have s2:=z0E hk4 _ _ s2;obtain⟨b0,b1,-,-⟩:=z4S hn4;have hk14:=hk13.nx hk4;have r0:=hk14.get H1.out.1 id;obtain⟨d0,d1,df,-⟩:=z4S r0;have HZ:=hid (zA1 r0 (zA1 (H1.out.2.1.nx hk14) hcs));clear hres hk13 hk3 hk4 hn4 hk14 r0 hcs HK;cases hasB <;> cases okb <;> cases dd
 all_goals go_wp2_with (at_builtin;refine z0A ?_;intro q hq)
 all_goals first
  | (obtain⟨g1,g2,-⟩:=z3Z w4 w.heap.size _ _ HZ.out.1 (.int .u64 (bb.n:Nat)) (.int .i64 bb.node)
     refine bodyPost_ret (z7R rfl _ _ w.heap.size rfl [.int .u64 (bb.n:Nat),.int .i64 bb.node] g1 _ Tryz.underlying28 rfl (by kernel_rfl)) rfl ?_
     exact⟨by rw[HZ.out.2.2];rfl,HZ.out.2.1.next g2 (H:=fun _=>False) (fun _ _ x=>x) (fun k hk x=>by omega)⟩)
  | (obtain⟨g1,g2,-⟩:=z3Z w4 w.heap.size _ _ HZ.out.1 (.int .u64 0) (.int .i64 0)
     refine bodyPost_ret (z7R rfl _ _ w.heap.size rfl [.int .u64 0,.int .i64 0] g1 _ Tryz.underlying28 rfl (by kernel_rfl)) rfl ?_
     exact⟨by rw[HZ.out.2.2];rfl,HZ.out.2.1.next g2 (H:=fun _=>False) (fun _ _ x=>x) (fun k hk x=>by omega)⟩)
end
section
open Go.RowKit Go.Maps
open MI SO BM DM WM AC
theorem AC.getB_rest {s:Str} {q:Bal×Str} (h:getB s=some q):q.2.length≤s.length:=by
 unfold getB at h
 repeat' split at h
 all_goals first | cases h | skip
 all_goals simp
end
section
open Go.RowKit Go.Maps
open MI SO BM DM WM AC
end
section
open Go.RowKit Go.Maps
open MI SO BM DM WM AC
def PrepPost (a d:Nat) (F:Nat→Prop) (w:World) (R:(List Vt×Bal×Int)×Dk×Ac) (e:Ending) (w':World):Prop:=
 ∃ v us Fv F',e = .returned (.tuple #[v,balV R.1.2.1,.int .i64 R.1.2.2])∧AcT a d R.2.1 R.2.2 w' F'∧Keep F w w'∧(∀ i,F' i→F i∨w.heap.size≤i)∧Votes w' Fv v R.1.1 us∧(∀ k,Fv k→w.heap.size≤k∧¬ F' k)∧Apart us
theorem Turns.shut {T:Thing} {w w9 w10:World} {F F9:Nat→Prop} {g B:Nat} (LT:Lives T) (hT:T w9 F9) (hk:Keep F w w9) (hF:∀ i,F i→i<w.heap.size) (h9:∀ i,F9 i→F i∨B≤i) (hgB:g<B) (hg:w.heap.size≤g) (hkz:Keep (fun k=>k=g) w9 w10) :
  T w10 F9∧Keep F w w10∧∀ i,F9 i→F i∨w.heap.size≤i:=
 ⟨LT.keep hT hkz fun i x e=>by
  have e':i=g:=e
  rcases h9 i x with y | y
  ·have:=hF i y;omega
  ·omega,hk.next hkz (fun _ _ x=>x) (fun k hk x=>by omega),fun i x=>(h9 i x).imp id fun y=>by omega⟩
theorem Turns.shut0 {T:Thing} {w w9 w10:World} {F:Nat→Prop} {g:Nat} (LT:Lives T) (hT:T w F) (hk:Keep (fun _=>False) w w9) (hg:w.heap.size≤g) (hkz:Keep (fun k=>k=g) w9 w10) :
  T w10 F∧Keep F w w10∧∀ i,F i→F i∨w.heap.size≤i:=
 ⟨LT.keep hT (hk.next hkz (H:=fun _=>False) (fun _ _ x=>x) (fun k hk x=>by omega)) (fun _ _ x=>x),(hk.next hkz (H:=fun _=>False) (fun _ _ x=>x) (fun k hk x=>by omega)).mono (fun _ _ x=>x.elim),fun i x=>.inl x⟩
theorem AC.AOk.lens {A:Ac} (h:AOk A) (hd:A.s.dead=false) (hm:A.s.ps.length≤900000):Rise A.vs∧(∀ v ∈ A.vs,v.val.length≤1000)∧A.vs.length≤1000000:=by
 have hok:=h.ok hd;refine⟨hok.rise,fun v hv=>by have:=(hok.each v hv).val;omega,?_⟩;have h2:=h.ps hd;rw[h2] at hm;unfold AC.encP at hm;rw[List.length_append,List.length_map] at hm;omega
theorem zbM {a d:Nat} {D:Dk} {A:Ac} {F:Nat→Prop} {w w2:World} {g:Nat} {x0 x1:Value} (hT:AcT a d D A w F) (hk:Keep (fun _=>False) w w2) (hg:w.heap.size≤g) (h:w2.heap[g]?=some (.cells #[x0,x1] 28 (0,0))) (B:Bal) (c:Int) :
  (∀ j u,[Value.int .u64 (B.n:Int),.int .i64 B.node][j]?=some u→((w2.setCell ⟨g,0,none⟩ (.int .u64 (B.n:Int))).setCell ⟨g,1,none⟩ (.int .i64 B.node)).cell? ⟨g,j,none⟩=some u)∧
  PrepPost a d F w (([],B,c),D,A) (.returned (.tuple #[.slice none 0 0,balV B,.int .i64 c])) ((w2.setCell ⟨g,0,none⟩ (.int .u64 (B.n:Int))).setCell ⟨g,1,none⟩ (.int .i64 B.node)):=by
 obtain⟨g1,g2,-⟩:=z3Z w2 g _ _ h (.int .u64 (B.n:Int)) (.int .i64 B.node);obtain⟨h1,h2,h3⟩:=Turns.shut0 (AcT.lives a d D A) hT hk hg g2;exact⟨g1,.slice none 0 0,[],fun _=>False,F,rfl,h1,h2,h3,Votes.nil _ _,fun _ x=>x.elim,Apart.nil⟩
theorem zgA {a d:Nat} {D:Dk} {A:Ac} {F F9:Nat→Prop} {w w9:World} {g B:Nat} {x0 x1:Value} (hT:AcT a d D A w9 F9) (hk:Keep F w w9) (hF:∀ i,F i→i<w.heap.size) (h9:∀ i,F9 i→F i∨B≤i) (hgB:g<B) (hg:w.heap.size≤g)
  (h:w9.heap[g]?=some (.cells #[x0,x1] 28 (0,0))) (v:Value) (vs:List Vt) (us:List Value) (Fv:Nat→Prop) (hv:Votes w9 Fv v vs us) (hFv:∀ k,Fv k→g<k∧¬ F9 k) (hap:Apart us) (b:Bal) (c:Int) :
  (∀ j u,[Value.int .u64 (b.n:Int),.int .i64 b.node][j]?=some u→((w9.setCell ⟨g,0,none⟩ (.int .u64 (b.n:Int))).setCell ⟨g,1,none⟩ (.int .i64 b.node)).cell? ⟨g,j,none⟩=some u)∧
  PrepPost a d F w ((vs,b,c),D,A) (.returned (.tuple #[v,balV b,.int .i64 c])) ((w9.setCell ⟨g,0,none⟩ (.int .u64 (b.n:Int))).setCell ⟨g,1,none⟩ (.int .i64 b.node)):=by
 obtain⟨g1,g2,-⟩:=z3Z w9 g _ _ h (.int .u64 (b.n:Int)) (.int .i64 b.node);obtain⟨h1,h2,h3⟩:=Turns.shut (AcT.lives a d D A) hT hk hF h9 hgB hg g2;exact⟨g1,v,us,Fv,F9,rfl,h1,h2,h3,hv.keep g2 (fun k x e=>by have:=(hFv k x).1;have e':k=g:=e;omega),fun k x=>⟨by have:=(hFv k x).1;omega,(hFv k x).2⟩,hap⟩
structure PrepIn (w:World) (a d:Nat) (D:Dk) (A:Ac) (F:Nat→Prop) (b:Bal) (k:Nat) (g:Nat) (wx:World):Prop where
 ex:∃ D' A' F',z2U D A b k=((z7Y A'.vs k,b,0),D',A')∧A'.b=b∧A'.s.dead=false∧A'.vs=A.vs∧AcT a d D' A' wx F'∧∀ i,F' i→F i∨g<i
 keep:Keep F w wx
 box:wx.heap[w.heap.size]?=some (.cells (balC b) 28 (0,0))
 res:wx.heap[g]?=some (.cells #[.int .u64 0,.int .i64 0] 28 (0,0))
theorem zpS (w:World) (b:Bal) (hb:(AC.putB b).length≤maxLen):Chs (w.alloc (.cells #[.string (str pK),.string (str (AC.putB b)),.bool false] 63)) (.slice (some ⟨w.heap.size,0,none⟩) 1 1) (z5K b):=
 Chs.of_row ⟨rfl,.inr ⟨_,1,_,(0,0),rfl,heap_alloc_new w _,Free.zero _,Nat.le_refl _,by decide,rfl,rfl⟩⟩ (fun c hc=>by
  unfold z5K at hc;simp at hc;subst hc
  exact⟨show pK.length≤maxLen by decide,hb⟩)
theorem AC.putB_len (b:Bal):(AC.putB b).length≤20:=by
 have h1:=zbB b.n;have h2:=zbB b.node.toNat;unfold AC.putB;rw[List.length_append];omega
theorem z8E (w:World) (a d:Nat) (D:Dk) (A:Ac) (F:Nat→Prop) (H:AcT a d D A w F) (hO:AOk A) (hm:A.s.dead=false→A.s.ps.length≤900000) (hfew:D.waits.length≤490000) (b:Bal) (hb:b.n<18446744073709551616) (k:Nat) :
  Calls Tryz.prog 11 #[.pointer (some ⟨a,0,none⟩),balV b,.int .u64 (k:Int)] w (PrepPost a d F w (z2U D A b k)):=by
 obtain⟨Post,hPost⟩:=zX1 (PrepPost a d F w (z2U D A b k));rw[← hPost];have hn1:=heap_alloc_new w (.cells (balC b) 28);have hk1:=kal w (.cells (balC b) 28);have hz1:(w.alloc (.cells (balC b) 28)).heap.size=w.heap.size+1:=by simp
 have hn:=heap_alloc_new (w.alloc (.cells (balC b) 28)) (.cells #[.int .u64 0,.int .i64 0] 28);have hk2:Keep (fun _=>False) (w.alloc (.cells (balC b) 28)) ((w.alloc (.cells (balC b) 28)).alloc (.cells #[.int .u64 0,.int .i64 0] 28)):=(Keep.refl _ _).alloc _;have hz2:((w.alloc (.cells (balC b) 28)).alloc (.cells #[.int .u64 0,.int .i64 0] 28)).heap.size=w.heap.size+2:=by simp
 rw[hz1] at hn;have hn1b:=hk2.get hn1 id;have hk:=hk1.nx hk2;clear hk1 hk2 hn1 hz1;have HP:=hid hPost;have H0:=hid (zA1 H (zA1 hO (zA1 hm (zA1 hfew hb))));clear hPost H hO hm hfew hb;go_enter Tryz.func11,Tryz.ntmps11
 go_upto_region 1 with fail
 obtain⟨w1,hw1⟩:=zX1 ((w.alloc (.cells (balC b) 28)).alloc (.cells #[.int .u64 0,.int .i64 0] 28));rw[← hw1] at hn hn1b hk hz2 ⊢;clear hw1;obtain⟨g,hg⟩:=zX1 (w.heap.size+1);rw[← hg] at hn ⊢;have LA:=AcT.lives a d D A;have HA1:=LA.keep H0.out.1 hk (fun _ _ x=>x);obtain⟨sb,nv,X,Y,Z,hbox,hst,hvt,d1,d2,d3,hF⟩:=HA1;obtain⟨p0,p1,p2,p3,p4,pf,pb⟩:=z2C hbox.1;have b0:w1.cell? ⟨w.heap.size,0,none⟩=some (.int .u64 (b.n:Int)):=by simp[World.cell?,hn1b]
 have b1:w1.cell? ⟨w.heap.size,1,none⟩=some (.int .i64 b.node):=by simp[World.cell?,hn1b]
 have hrt:=z9Q w1 b;have H1:=hid (zA1 hn (zA1 hk (zA1 hg (zA1 hz2 (zA1 hn1b (zA1 hbox (zA1 hst (zA1 hvt (zA1 d1 (zA1 d2 (zA1 d3 hF)))))))))));clear hn hk hg hz2 hn1b hbox hst hvt d1 d2 d3 hF p0 p3 pf LA;obtain⟨rb,hrb⟩:=zX1 (z2Z b);rw[← hrb] at hrt;have HR:=hid hrb;clear hrb;go_wp2_with (at_builtin;refine z0A ?_;intro q hq);refine hrt.mono ?_;rintro e w2 ⟨rfl,hk2⟩;clear hrt;have b0:=z0E hk2 _ _ b0;have b1:=z0E hk2 _ _ b1;have p1:=z0E hk2 _ _ p1;have p2:=z0E hk2 _ _ p2;have p4:=z0E hk2 _ _ p4;have r0:=hk2.get H1.out.1 id
 cases rb with
 | false=>
   have d0:w2.cell? ⟨g,0,none⟩=some (.int .u64 0):=by simp[World.cell?,r0]
   have d1:w2.cell? ⟨g,1,none⟩=some (.int .i64 0):=by simp[World.cell?,r0]
   have f0:∀ o,w2.frozen? ⟨g,o,none⟩=false:=fun o=>by simp[World.frozen?,r0]
   have HK:=hid hk2;have R0:=hid r0;clear hk2 r0;go_wp2_with (at_builtin;refine z0A ?_;intro q hq);obtain⟨q1,q2⟩:=zbM H0.out.1 (H1.out.2.1.nx HK.out) (by have:=H1.out.2.2.1;omega) R0.out Bal.zero 2;refine bodyPost_ret (z4P rfl _ _ g rfl _ q1 _ Tryz.underlying28 rfl (by kernel_rfl)) rfl ?_;have hE:z2U D A b k=(([],Bal.zero,2),D,A):=by unfold z2U;rw[if_pos HR.out.symm]
   rw[HP.out,hE];exact q2
 | true=>
   have hR2:=HR.out;obtain⟨dd,hdd⟩:=zX1 (A.s.dead);rw[← hdd] at p4;have HD:=hid hdd;clear hdd hR2
   cases dd with
   | true=>
     have d0:w2.cell? ⟨g,0,none⟩=some (.int .u64 0):=by simp[World.cell?,r0]
     have d1:w2.cell? ⟨g,1,none⟩=some (.int .i64 0):=by simp[World.cell?,r0]
     have f0:∀ o,w2.frozen? ⟨g,o,none⟩=false:=fun o=>by simp[World.frozen?,r0]
     have HK:=hid hk2;have R0:=hid r0;clear hk2 r0;go_wp2_with (at_builtin;refine z0A ?_;intro q hq);obtain⟨q1,q2⟩:=zbM H0.out.1 (H1.out.2.1.nx HK.out) (by have:=H1.out.2.2.1;omega) R0.out Bal.zero 6;refine bodyPost_ret (z4P rfl _ _ g rfl _ q1 _ Tryz.underlying28 rfl (by kernel_rfl)) rfl ?_;have hE:z2U D A b k=(([],Bal.zero,6),D,A):=by unfold z2U;rw[if_neg (by rw[← HR.out];decide),if_pos HD.out.symm]
     rw[HP.out,hE];exact q2
   | false=>
     obtain⟨lb,hlb⟩:=zX1 (less b A.b);have HL1:=hid (fun s:Later w2=>show Calls Tryz.prog 36 #[balV b,balV A.b] s.val fun e w'=>e = .returned (.bool lb)∧Keep (fun _=>False) s.val w' from by rw[hlb];exact z8F s.val b A.b);have HLB:=hid hlb;have HK:=hid hk2;clear hlb hk2 r0
     go_upto_region 7 with fail
     have j0:=fun s:Later w2=>s.cell b0;have j1:=fun s:Later w2=>s.cell b1;have j2:=fun s:Later w2=>s.cell p1;have j3:=fun s:Later w2=>s.cell p2
     (refine z0X (by kernel_rfl) (by kernel_rfl) ?_;(repeat (go_big_quiet_step ((go_at_call 36;exact Later.call (HL1.out _)))));refine wpQuiet_nil ?_;rintro _ ⟨sq,rfl⟩)
     have hk3:=sq.keep;obtain⟨w3,hw3⟩:=zX1 (sq.val);rw[← hw3] at hk3 ⊢;clear hw3 sq j0 j1 j2 j3 HL1;have b0:=z0E hk3 _ _ b0;have b1:=z0E hk3 _ _ b1;have p1:=z0E hk3 _ _ p1;have p2:=z0E hk3 _ _ p2;have hk13:=HK.out.nx hk3;have r0:=hk13.get H1.out.1 id;have HK:=hid hk13;clear hk3 hk13 p4
     cases lb with
     | true=>
       have d0:w3.cell? ⟨g,0,none⟩=some (.int .u64 0):=by simp[World.cell?,r0]
       have d1:w3.cell? ⟨g,1,none⟩=some (.int .i64 0):=by simp[World.cell?,r0]
       have f0:∀ o,w3.frozen? ⟨g,o,none⟩=false:=fun o=>by simp[World.frozen?,r0]
       have R0:=hid r0;clear r0;go_wp2_with (at_builtin;refine z0A ?_;intro q hq);refine z0G [] (by kernel_rfl) (by kernel_rfl) ?_
       repeat (first | (apply z0F (by rfl);(intro K w';go_simp;exact id)) | (apply z0I (by rfl);(intro K;go_simp;exact id)))
       (refine z0M (by rfl) (by rfl) (fun K hK=>?_);go_simp;refine hK _ _ ?_;clear hK K)
       repeat (first | (apply z0F (by rfl);(intro K w';go_simp;exact id)) | (apply z0I (by rfl);(intro K;go_simp;exact id)))
       refine z0S ?_;go_wp2_with (at_builtin;refine z0A ?_;intro q hq);obtain⟨q1,q2⟩:=zbM H0.out.1 (H1.out.2.1.nx HK.out).drew (by have:=H1.out.2.2.1;omega) R0.out A.b 90;refine bodyPost_ret (z4P rfl _ _ g rfl _ q1 _ Tryz.underlying28 rfl (by kernel_rfl)) rfl ?_;have hE:z2U D A b k=(([],A.b,90),D,A):=by unfold z2U;rw[if_neg (by rw[← HR.out];decide),if_neg (by rw[← HD.out];decide),if_pos HLB.out.symm]
       rw[HP.out,hE];exact q2
     | false=>
       obtain⟨lc,hlc⟩:=zX1 (less A.b b);have HL2:=hid (fun s:Later w3=>show Calls Tryz.prog 36 #[balV A.b,balV b] s.val fun e w'=>e = .returned (.bool lc)∧Keep (fun _=>False) s.val w' from by rw[hlc];exact z8F s.val A.b b);have HLC:=hid hlc;clear hlc r0
       go_upto_region 9 with fail
       have j0:=fun s:Later w3=>s.cell b0;have j1:=fun s:Later w3=>s.cell b1;have j2:=fun s:Later w3=>s.cell p1;have j3:=fun s:Later w3=>s.cell p2
       (refine z0X (by kernel_rfl) (by kernel_rfl) ?_;(repeat (go_big_quiet_step ((go_at_call 36;exact Later.call (HL2.out _)))));refine wpQuiet_nil ?_;rintro _ ⟨sq,rfl⟩)
       have hk4:=sq.keep;obtain⟨w4,hw4⟩:=zX1 (sq.val);rw[← hw4] at hk4 ⊢;clear hw4 sq j0 j1 j2 j3 HL2;have b0:=z0E hk4 _ _ b0;have b1:=z0E hk4 _ _ b1;have HK:=hid (HK.out.nx hk4);clear hk4 p1 p2
       go_upto_if 41 with fail
       go_cut [9] (fun v wx=>Hid (PrepIn w a d D A F b k g wx))
       case first=>
        cases lc with
        | false=>
          have hE:z2U D A b k=((z7Y A.vs k,b,0),D,A):=by unfold z2U;rw[if_neg (by rw[← HR.out];decide),if_neg (by rw[← HD.out];decide),if_neg (by rw[← HLB.out];decide),if_pos (z9B HLB.out.symm HLC.out.symm)]
          have hkw:=H1.out.2.1.nx HK.out
          have HZ:=hid (show PrepIn w a d D A F b k g w4 from
           ⟨⟨D,A,F,hE,(z9B HLB.out.symm HLC.out.symm).symm,HD.out.symm,rfl,(AcT.lives a d D A).keep H0.out.1 hkw (fun _ _ x=>x),fun i x=>.inl x⟩,hkw.mono (fun _ _ x=>x.elim),HK.out.get H1.out.2.2.2.2.1 id,HK.out.get H1.out.1 id⟩)
          clear hE hkw;go_wp2_with (at_builtin;refine z0A ?_;intro q hq);go_meet;exact HZ
        | true=>
          have hOb:OkB b:=⟨HR.out.symm,H0.out.2.2.2.2⟩;have hpr:=zgE w4 b hOb;unfold zqR at hpr;clear hOb;go_wp2_with (at_builtin;refine z0A ?_;intro q hq);refine hpr.mono ?_;rintro e w5 ⟨rfl,hk5⟩;clear hpr;have hk6:=kal w5 (.cells #[.string (str pK),.string (str (AC.putB b)),.bool false] 63);have hkw6:=(HK.out.nx hk5).nx hk6;have LT:=TrioT.lives (BoxA.lives a (accC sb A.b nv A.s.dead) 86) (StoT.lives sb d D A.s) (VotesT.lives nv A.vs);have hT6:=LT.keep (show TrioT (BoxA a (accC sb A.b nv A.s.dead) 86) (StoT sb d D A.s) (VotesT nv A.vs) w1 F from⟨X,Y,Z,H1.out.2.2.2.2.2.1,H1.out.2.2.2.2.2.2.1,H1.out.2.2.2.2.2.2.2.1,H1.out.2.2.2.2.2.2.2.2.1,H1.out.2.2.2.2.2.2.2.2.2.1,H1.out.2.2.2.2.2.2.2.2.2.2.1,H1.out.2.2.2.2.2.2.2.2.2.2.2⟩) hkw6 (fun _ _ x=>x);have hFl:=(AcT.lives a d D A).lt H0.out.1
          have hdo:=zmA _ a sb d A.b nv A.vs D A.s F hT6 (some ⟨w5.heap.size,0,none⟩) 1 1 (z5K b) (zpS w5 b (by have:=AC.putB_len b;unfold maxLen;omega)) rfl (fun _ x hx y=>by
           cases hx;have h1:=hFl _ y;have h2:=H1.out.2.1.size;have h3:=HK.out.size;have h4:=hk5.size;simp only at h1
           omega) H0.out.2.2.1 H0.out.2.2.2.1
          have hcs:=z6U (D:=D) HD.out.symm (z5K b);obtain⟨E,hE⟩:=zX1 (doA D A.s (z5K b));rw[← hE] at hdo hcs;have HE:=hid (zA1 hE (zA1 hcs (zA1 hkw6 hFl)));clear hE hcs hkw6 hFl hk6 hk5 hT6 LT;go_wp2_with (at_builtin;refine z0A ?_;intro q hq);refine hdo.mono ?_;rintro e w7 ⟨rfl,F7,T7,K7,N7⟩;clear hdo;have hz1:=H1.out.2.2.2.1;have hs6:=HE.out.2.2.1.size;have r7:=K7.get (HE.out.2.2.1.get H1.out.1 id) (fun x=>by have:=HE.out.2.2.2 _ x;have:=H1.out.2.2.1;omega);have x7:=K7.get (HE.out.2.2.1.get H1.out.2.2.2.2.1 id) (fun x=>by have:=HE.out.2.2.2 _ x;omega);have hkF:Keep F w w7:=(H1.out.2.1.nx HE.out.2.2.1).next K7 (fun _ _ x=>x.elim) (fun _ _ x=>x);have hne:∀ i,F7 i→F i∨g<i:=fun i x=>(N7 i x).imp id fun y=>by have:=H1.out.2.2.1;omega
          have H7:=hid (zA1 T7 (zA1 hkF (zA1 hne (zA1 r7 x7))));clear T7 K7 N7 x7 hkF hne hz1 hs6
          have hE4:z2U D A b k=if E.1=0 then ((z7Y A.vs k,b,0),E.2.1,⟨E.2.2,b,A.vs⟩) else (([],Bal.zero,E.1),E.2.1,⟨E.2.2,A.b,A.vs⟩):=by
           unfold z2U;rw[if_neg (by rw[← HR.out];decide),if_neg (by rw[← HD.out];decide),if_neg (by rw[← HLB.out];decide),if_neg (fun e=>by have:=HLC.out;rw[e,zbD] at this;cases this),HE.out.1]
          have HE4:=hid hE4;clear hE4
          by_cases h0:E.1=0
          ·have q1:(E.1 != 0)=false:=by simp[h0]
           have hdd:E.2.2.dead=false:=by
            rcases HE.out.2.1 with ⟨-,-,h⟩ | ⟨h,-⟩ | ⟨h,-⟩
            ·exact h
            ·omega
            ·exact absurd h0 h
           obtain⟨X7,Y7,Z7,hb7,hs7,hv7,a1,a2,a3,hF7⟩:=H7.out.1;obtain⟨p0,p1,p2,p3,p4,pf,pb⟩:=z2C hb7.1;have xb:=H7.out.2.2.2.2;have b0:w7.cell? ⟨w.heap.size,0,none⟩=some (.int .u64 (b.n:Int)):=by simp[World.cell?,xb]
           have b1:w7.cell? ⟨w.heap.size,1,none⟩=some (.int .i64 b.node):=by simp[World.cell?,xb]
           have g1:=z0C hb7.1 1 (.int .u64 (b.n:Int));have g2:=z0C g1 2 (.int .i64 b.node)
           have hkz:Keep (fun k=>k=a) w7 ((w7.setCell ⟨a,1,none⟩ (.int .u64 (b.n:Int))).setCell ⟨a,2,none⟩ (.int .i64 b.node)):=by
            refine Keep.setCell (Keep.setCell (Keep.refl _ _) (.inl ?_) _) (.inl ?_) _ <;> rfl
           have haX:F7 a:=by rw[hF7];exact .inl hb7.2.1
           have haw:a<w.heap.size:=by have:=H1.out.2.2.2.2.2.1;exact(AcT.lives a d D A).lt H0.out.1 a (by rw[H1.out.2.2.2.2.2.2.2.2.2.2.2];exact .inl this.2.1)
           have T8:=TrioT.turn1 (T':=BoxA a (accC sb b nv E.2.2.dead) 86) (StoT.lives _ _ _ _) (VotesT.lives _ _) H7.out.1 (fun X' hX'=>⟨X',⟨z0C (z0C hX'.1 1 (.int .u64 (b.n:Int))) 2 (.int .i64 b.node),hX'.2.1,fun k x=>Nat.lt_of_lt_of_le (hX'.2.2 k x) hkz.size⟩,hkz.mono fun k _ e=>by subst e;exact hX'.2.1,fun _ x=>.inl x⟩);obtain⟨F8,U8,K8,N8⟩:=T8
           have HZ:=hid (show PrepIn w a d D A F b k g ((w7.setCell ⟨a,1,none⟩ (.int .u64 (b.n:Int))).setCell ⟨a,2,none⟩ (.int .i64 b.node)) from
            ⟨⟨E.2.1,⟨E.2.2,b,A.vs⟩,F8,by rw[HE4.out,if_pos h0],rfl,hdd,rfl,⟨sb,nv,U8⟩,fun i x=>(N8 i x).elim (H7.out.2.2.1 i) fun y=>.inr (by have:=z0L r7;omega)⟩,
              H7.out.2.1.next hkz (fun _ _ x=>x) (fun k hk e=>by rw[e];exact H1.out.2.2.2.2.2.2.2.2.2.2.2 ▸ .inl H1.out.2.2.2.2.2.1.2.1),hkz.get xb (fun e=>by omega),hkz.get r7 (fun e=>by have:=H1.out.2.2.1;omega)⟩)
           clear p0 p3 p4 pb xb g1 g2 hkz haX haw U8 K8 N8 hb7 hs7 hv7 a1 a2 a3 hF7 hdd r7;go_wp2_with (at_builtin;refine z0A ?_;intro q hq);go_meet;exact HZ
          ·have q1:(E.1 != 0)=true:=by simpa using h0
           have q2:decide (E.1=0)=false:=decide_eq_false h0;have d0:w7.cell? ⟨g,0,none⟩=some (.int .u64 0):=by simp[World.cell?,r7]
           have d1:w7.cell? ⟨g,1,none⟩=some (.int .i64 0):=by simp[World.cell?,r7]
           have f0:∀ o,w7.frozen? ⟨g,o,none⟩=false:=fun o=>by simp[World.frozen?,r7]
           have H0':=hid h0;clear r7 h0;go_wp2_with (at_builtin;refine z0A ?_;intro q hq);obtain⟨q1,q2⟩:=zgA (a:=a) (d:=d) (D:=E.2.1) (A:=⟨E.2.2,A.b,A.vs⟩) (B:=g+1) ⟨sb,nv,H7.out.1⟩ H7.out.2.1 HE.out.2.2.2 (fun i x=>(H7.out.2.2.1 i x).imp id fun y=>by omega) (Nat.lt_succ_self _) (by have:=H1.out.2.2.1;omega) H7.out.2.2.2.1 (.slice none 0 0) [] [] (fun _=>False) (Votes.nil _ _) (fun _ x=>x.elim) Apart.nil Bal.zero E.1;refine bodyPost_ret (z4P rfl _ _ g rfl _ q1 _ Tryz.underlying28 rfl (by kernel_rfl)) rfl ?_;rw[HP.out,HE4.out,if_neg H0'.out];exact q2
       case rest=>
        have hgg:=H1.out.2.2.1;subst hgg;obtain⟨⟨D',A',F',hE,hAb,hAd,hAv,hT,hN⟩,hkw,hbx,hrs⟩:=hcut.out;obtain⟨sb',nv',X',Y',Z',hbox,hst,⟨⟨us,hvt⟩,hvl⟩,e1,e2,e3,hF'⟩:=hT;obtain⟨l1,l2,l3⟩:=H0.out.2.1.lens HD.out.symm (H0.out.2.2.1 HD.out.symm);rw[← hAv] at l1 l2 l3;have hkd:Keep (fun _=>False) wc wc.drew:=(Keep.refl _ _).drew;have hvo:=zfL wc.drew a sb' A'.b nv' A'.s.dead Z' A'.vs us k (hkd.get hbox.1 id) (hvt.keep hkd (fun _ _ x=>x)) l1 l2 l3;rw[hAd] at hvo;simp only[Bool.false_eq_true,if_false] at hvo
        have x1:wc.drew.cell? ⟨w.heap.size,0,none⟩=some (.int .u64 (b.n:Int))∧wc.drew.cell? ⟨w.heap.size,1,none⟩=some (.int .i64 b.node):=by
         have:=hkd.get hbx id;simp[World.cell?,this]
        have HC:=hid hcut.out;have HW:=hid (zA1 (show AcT a d D' A' wc F' from⟨sb',nv',X',Y',Z',hbox,hst,⟨⟨us,hvt⟩,hvl⟩,e1,e2,e3,hF'⟩) (zA1 hkw (zA1 hbx (zA1 hrs (zA1 hE (zA1 hN hkd))))));clear hcut hbox hst hvt hvl e1 e2 e3 hF' hE hAb hAd hAv hN hkw hbx hrs l1 l2 l3 hkd b0 b1
        go_upto_region 14 with fail
        refine Held.z3S (fun w'=>w'.cell? ⟨w.heap.size,0,none⟩=some (.int .u64 (b.n:Int))∧w'.cell? ⟨w.heap.size,1,none⟩=some (.int .i64 b.node)) [] [58] (by kernel_rfl) (by kernel_rfl) ?_
        repeat (apply Held.z0F (by rfl) (by exact x1);(intro K w' hS;(try dsimp only at hS);go_simp;exact id))
        refine Held.z0M (by decide) (by rfl) (by exact x1) (fun K hK=>?_);go_simp;refine hvo.mono ?_;rintro e w2' ⟨v,us2,Fv,rfl,hv2,hFv,hk2,hap2⟩;have HAp:=hid hap2;clear hap2;obtain⟨va,vc,rfl,-⟩:=hv2.row.form;have x2:w2'.cell? ⟨w.heap.size,0,none⟩=some (.int .u64 (b.n:Int))∧w2'.cell? ⟨w.heap.size,1,none⟩=some (.int .i64 b.node):=⟨z0E hk2 _ _ x1.1,z0E hk2 _ _ x1.2⟩;have hkw2:=HW.out.2.2.2.2.2.2.nx hk2;have hrs2:=hkw2.get HW.out.2.2.2.1 id;have d0:w2'.cell? ⟨w.heap.size+1,0,none⟩=some (.int .u64 0):=by simp[World.cell?,hrs2]
        have d1:w2'.cell? ⟨w.heap.size+1,1,none⟩=some (.int .i64 0):=by simp[World.cell?,hrs2]
        have f0:∀ o,w2'.frozen? ⟨w.heap.size+1,o,none⟩=false:=fun o=>by simp[World.frozen?,hrs2]
        have hbx2:=hkw2.get HW.out.2.2.1 id;have hg2:=H1.out.2.2.1;have HV:=hid (zA1 hv2 (zA1 hFv (zA1 hkw2 (zA1 hrs2 (zA1 hbx2 hg2)))));go_simp;refine hK _ _ (fun h=>by cases h) (fun _=>x2) ?_;clear hK K x1 hvo hk2 hv2 hFv hkw2 hrs2 hbx2 hg2
        repeat (apply Held.z0F (by rfl) (by exact x2);(intro K w' hS;(try dsimp only at hS);go_simp;exact id))
        refine Held.z0M (by decide) (by rfl) (by exact x2) (fun K hK=>?_);go_simp
        have x3:((w2'.setCell ⟨w.heap.size+1,0,none⟩ (.int .u64 (b.n:Int))).setCell ⟨w.heap.size+1,1,none⟩ (.int .i64 b.node)).cell? ⟨w.heap.size,0,none⟩=some (.int .u64 (b.n:Int))∧((w2'.setCell ⟨w.heap.size+1,0,none⟩ (.int .u64 (b.n:Int))).setCell ⟨w.heap.size+1,1,none⟩ (.int .i64 b.node)).cell? ⟨w.heap.size,1,none⟩=some (.int .i64 b.node):=by
         obtain⟨-,g2,-⟩:=z3Z w2' (w.heap.size+1) _ _ HV.out.2.2.2.1 (.int .u64 (b.n:Int)) (.int .i64 b.node);have:=g2.get HV.out.2.2.2.2.1 (fun e=>by have:=HV.out.2.2.2.2.2;omega);simp[World.cell?,this]
        refine hK _ _ (fun h=>by cases h) (fun _=>x3) ?_;clear hK K x2
        repeat (apply Held.z0F (by rfl) (by exact x3);(intro K w' hS;(try dsimp only at hS);go_simp;exact id))
        refine Held.z0S ?_;go_wp2_with (at_builtin;refine z0A ?_;intro q hq);obtain⟨hT,hkw,hbx,hrs,hE,hN,hkd⟩:=HW.out;obtain⟨hv2,hFv,hkw2,hrs2,hbx2,hg2⟩:=HV.out;have hFl:=(AcT.lives a d D A).lt H0.out.1
        obtain⟨q1,q2⟩:=zgA (a:=a) (d:=d) (D:=D') (A:=A') (B:=w.heap.size+2) ((AcT.lives a d D' A').keep hT hkw2 (fun _ _ x=>x)) (hkw.next hkw2 (fun _ _ x=>x) (fun _ _ x=>x.elim)) hFl hN (Nat.lt_succ_self _) (by omega) hrs2 (.slice va (z7Y A'.vs k).length vc) _ us2 Fv hv2 (fun i x=>by
         have h1:=hFv i x;have h2:wc.heap.size≤i:=h1
         exact⟨Nat.lt_of_lt_of_le (z0L hrs) h2,fun y=>by have:=(AcT.lives a d D' A').lt hT i y;omega⟩) HAp.out b 0
        refine bodyPost_ret (z4P rfl _ _ (w.heap.size+1) rfl _ q1 _ Tryz.underlying28 rfl (by kernel_rfl)) rfl ?_;rw[HP.out,hE];exact q2
end
section
open Go.RowKit Go.Maps
open MI SO BM DM WM AC
def RPrepPost (a d:Nat) (F:Nat→Prop) (w:World) (R:(List Vt×Bal×Int)×Dk×Ac) (e:Ending) (w':World):Prop:=
 ∃ v us Fv F',e = .returned (.tuple #[v,balV R.1.2.1,.int .i64 R.1.2.2])∧RAcT a d R.2.1 R.2.2.s w' F'∧Keep F w w'∧(∀ i,F' i→F i∨w.heap.size≤i)∧Votes w' Fv v R.1.1 us∧∀ k,Fv k→w.heap.size≤k∧¬ F' k
structure RPrepIn (w:World) (a d:Nat) (D:Dk) (A:Ac) (F:Nat→Prop) (b:Bal) (k:Nat) (g:Nat) (wx:World):Prop where
 ex:∃ D' A' F',z2U D A b k=((z7Y A'.vs k,b,0),D',A')∧A'.s.dead=false∧A'.vs=A.vs∧RAcT a d D' A'.s wx F'∧∀ i,F' i→F i∨g<i
 keep:Keep F w wx
 box:wx.heap[w.heap.size]?=some (.cells (balC b) 28 (0,0))
 res:wx.heap[g]?=some (.cells #[.int .u64 0,.int .i64 0] 28 (0,0))
end
end Go.Proofs.YtkjofdocgaiedaaGreat
