/- Texts StoD, StoE, StoF, StoG, StoH, StoI in one. Conditions: as each law names them. -/
import Derived.Test.YtkjofdocgaiedaaGreatUaj
import Derived.Test.YtkjofdocgaiedaaGreatUak
import Derived.Test.YtkjofdocgaiedaaGreatUap
import Derived.Test.YtkjofdocgaiedaaGreatUar
import Derived.Test.YtkjofdocgaiedaaGreatUav
import Derived.Test.YtkjofdocgaiedaaGreatUaw
set_option maxRecDepth 20000
set_option maxHeartbeats 8000000
namespace Go.Proofs.YtkjofdocgaiedaaGreat
section
open Go.RowKit
open MI SO BM
theorem zhT (w:World) (ao:Option Addr) (n c:Nat) (l:List Ch) (h:Chs w (.slice ao n c) l) (hn:n=l.length) :
  Calls Tryz.prog 55 #[.slice ao n c] w (EncPost w l):=by
 have HS:=hid (zA1 h hn);have hrt:=zkT w ao n c l h hn;clear h hn
 cases hr:right l with
 | false=>
   rw[hr] at hrt;simp only[Bool.false_eq_true,if_false] at hrt;go_enter Tryz.func55,Tryz.ntmps55;go_wp2_with (at_builtin;refine z0A ?_;intro q hq);refine hrt.mono ?_;rintro e w2 ⟨rfl,hk2⟩;have HK:=hid hk2;clear hk2 hrt;go_wp2_with (at_builtin;refine z0A ?_;intro q hq);go_ret2;have he:encE l=2:=by unfold encE;rw[hr];rfl
   refine⟨_,by rw[he];rfl,?_⟩;rw[he];exact(Fresh.nil w).later HK.out
 | true=>
   rw[hr] at hrt;simp only[if_true] at hrt;have HR:=hid hr;have hn32:n≤32:=by rw[HS.out.2];exact(z1N hr).1
   have t2:=wu64 n (by omega);clear hr;go_enter Tryz.func55,Tryz.ntmps55;go_wp2_with (at_builtin;refine z0A ?_;intro q hq);refine hrt.mono ?_;rintro e w2 ⟨rfl,hk2⟩;have HK2:=hid hk2;clear hk2 hrt;go_wp2_with (at_builtin;refine z0A ?_;intro q hq);refine(z9V w2 n (by omega)).mono ?_;rintro e w3 ⟨v3,rfl,hf3⟩;have HF3:=hid (hf3.since HK2.out);clear hf3 t2;go_wp2_with (at_builtin;refine z0A ?_;intro q hq)
   go_loopw [5,6] (fun ov iv wr=>∃ i:Nat,i≤n∧iv = .int .i64 i∧Hid (Fresh w ov (z7S l i) wr)) (fun _ iv _=>n - (intOf iv).toNat)
   case atStart=>exact⟨0,Nat.zero_le _,rfl,hid (by rw[zcX,← HS.out.2];exact HF3.out)⟩
   case round=>
    obtain⟨i,hi,rfl,HT⟩:=hrel
    by_cases hin:i<n
    ·have h4:(i:Int)<n:=by omega
     have hil:i<l.length:=by rw[← HS.out.2];exact hin
     have hget:∀ {wx:World},Keep (fun _=>False) w wx→_:=fun hk=>HS.out.1.get hk i hil;obtain⟨ad,rfl,a0,a1,a2,hok⟩:=hget HT.out.keep;have hsu:=zcW hil;have hlen:=z8W HR.out i;have hrc:=(z1N HR.out).2 _ (List.getElem_mem hil);obtain⟨q,hq⟩:=zX1 (l[i]);rw[← hq] at a0 a1 a2 hok hsu hrc;simp only[← hq] at hget
     have hget':∀ {wx:World},Keep (fun _=>False) w wx→wx.cell? (ad.add (i * 3))=some (.string (str q.key))∧wx.cell? ⟨(ad.add (i * 3)).block,(ad.add (i * 3)).off+1,none⟩=some (.string (str q.value))∧wx.cell? ⟨(ad.add (i * 3)).block,(ad.add (i * 3)).off+2,none⟩=some (.bool q.gone):=fun hk=>by
      obtain⟨ad',e,x0,x1,x2,_⟩:=hget hk;cases e;exact⟨x0,x1,x2⟩
     clear hget hq;obtain⟨X,hX⟩:=zX1 (z7S l i);rw[← hX] at hsu hlen HT;have HX:=hid (zA1 hX hsu);clear hX hsu;obtain⟨key,value,gone⟩:=q;simp only[z1G,decide_eq_true_eq] at hrc;have hkl:=hrc.2.1;have hvl:=hrc.2.2.1;simp only at a0 a1 a2 hget';have hkb:=putB_len key;have hvb:=putB_len value;have HO:=hid (zA1 hok @hget');clear hok hrc hget';obtain⟨kc,w4,hcv,hf4⟩:=z6A wr key HO.out.1.1;have HF4:=hid hf4;clear hf4;go_wp2_with (at_builtin;refine z0A ?_;intro q hq);refine(z8Y w4 _ key.length kc key (Cells.of_row HF4.out.row) (by omega)).mono ?_;rintro e w5 ⟨v5,rfl,hf5⟩;obtain⟨ao5,c5,rfl,-⟩:=hf5.row.form;have HF5:=hid hf5;have hT5:=(HT.out.later HF4.out.keep).later hf5.keep;have HT5:=hid hT5;clear hf5 hcv a0 a1 a2;obtain⟨a0,a1,a2⟩:=HO.out.2 hT5.keep;obtain⟨vc,w6,hcv,hf6⟩:=z6A w5 value HO.out.1.2;have HF6:=hid hf6;clear hf6 hT5;go_wp2_with (at_builtin;refine z0A ?_;intro q hq);refine(z8Y w6 _ value.length vc value (Cells.of_row HF6.out.row) (by omega)).mono ?_;rintro e w7 ⟨v7,rfl,hf7⟩;obtain⟨ao7,c7,rfl,-⟩:=hf7.row.form;have HF7:=hid hf7;clear hf7 hcv a0 a1 a2;go_wp2_with (at_builtin;refine z0A ?_;intro q hq)
     (refine hq.out ?_;clear hq q)
     refine wpList_plain rfl (fun K hK=>?_);refine z6G _ _ rfl rfl ((HT5.out.later HF6.out.keep).later HF7.out.keep) ao5 (putB key).length c5 rfl (Cells.of_row ((HF5.out.row.keep HF6.out.keep (fun _ _ h=>h)).keep HF7.out.keep (fun _ _ h=>h))) (by omega) ?_;intro v8 w8 hf8 hk8 ho8;refine hK _ _ ?_;clear hK K
     have hne:∀ k,(Value.slice ao7 (putB value).length c7).ownBlock=some k→¬ u5.ownBlock=some k:=fun k e e2=>by
      have h1:=HF7.out.own k e;have h2:=HT5.out.row.lt e2;have h3:=HF6.out.keep.size;omega
     have hv8:=HF7.out.row.keep hk8 hne
     have hne2:∀ k,(Value.slice ao7 (putB value).length c7).ownBlock=some k→¬ v8.ownBlock=some k:=fun k e e2=>by
      rcases ho8 k e2 with h | h
      ·exact hne k e h
      ·have:=HF7.out.row.lt e
       omega
     obtain⟨a0,a1,a2⟩:=HO.out.2 hf8.keep;have HF8:=hid (zA1 hf8 (zA1 hv8 hne2));clear hf8 hk8 hv8 hne hne2 ho8 HF4 HF5 HF6 HF7
     cases gone with
     | true=>
       go_wp2_with (at_builtin;refine z0A ?_;intro q hq)
       (refine hq.out ?_;clear hq q)
       have hn9:=heap_alloc_new w8 (.cells #[.int .u8 1] 5);have hk9:=kal w8 (.cells #[.int .u8 1] 5);obtain⟨w9,hw9⟩:=zX1 (w8.alloc (.cells #[.int .u8 1] 5));rw[← hw9] at hn9 hk9 ⊢;clear hw9;refine wpList_plain rfl (fun K hK=>?_);refine z0K _ _ rfl rfl (HF8.out.1.later hk9) (some ⟨w8.heap.size,0,none⟩) 1 1 rfl (Cells.one (x:=1) (by decide) hn9) (by rw[List.length_append];omega) ?_;intro v10 w10 hf10 hk10;refine hK _ _ ?_;clear hK K hn9 hk9 hk10 a0 a1 a2;have HF10:=hid hf10;clear hf10;go_wp2_with (at_builtin;refine z0A ?_;intro q hq);go_roundw
       case rel=>
        refine⟨i+1,by omega,by go_num,hid ?_⟩;rw[HX.out.2];have:=HF10.out;rw[List.append_assoc] at this;exact this
       case measure=>simp[intOf];omega
     | false=>
       go_wp2_with (at_builtin;refine z0A ?_;intro q hq)
       (refine hq.out ?_;clear hq q)
       have hn9:=heap_alloc_new w8 (.cells #[.int .u8 0] 5);have hk9:=kal w8 (.cells #[.int .u8 0] 5);obtain⟨w9,hw9⟩:=zX1 (w8.alloc (.cells #[.int .u8 0] 5));rw[← hw9] at hn9 hk9 ⊢;clear hw9;refine wpList_plain rfl (fun K hK=>?_);refine z0K _ _ rfl rfl (HF8.out.1.later hk9) (some ⟨w8.heap.size,0,none⟩) 1 1 rfl (Cells.one (x:=0) (by decide) hn9) (by rw[List.length_append];omega) ?_;intro v10 w10 hf10 hk10;refine hK _ _ ?_;clear hK K a0 a1 a2;have hf10l:(X ++ putB key ++ [UInt8.ofNat 0]).length≤7000:=by simp only[List.length_append,List.length_singleton];omega
       have hv10:=(HF8.out.2.1.keep hk9 (fun _ _ h=>h)).keep hk10 HF8.out.2.2;have HF10:=hid (zA1 hf10 (zA1 hf10l hv10));clear hn9 hk9 hf10 hk10 hf10l hv10;go_wp2_with (at_builtin;refine z0A ?_;intro q hq)
       (refine hq.out ?_;clear hq q)
       refine wpList_plain rfl (fun K hK=>?_);refine z0K _ _ rfl rfl HF10.out.1 ao7 (putB value).length c7 rfl (Cells.of_row HF10.out.2.2) (by have:=HF10.out.2.1;omega) ?_;intro v11 w11 hf11 hk11;refine hK _ _ ?_;clear hK K;have HF11:=hid hf11;clear hf11 hk11 HF10 HF8;go_wp2_with (at_builtin;refine z0A ?_;intro q hq);go_roundw
       case rel=>
        refine⟨i+1,by omega,by go_num,hid ?_⟩;rw[HX.out.2];have:=HF11.out;simp only[List.append_assoc] at this;exact this
       case measure=>simp[intOf];omega
    ·have h4:decide ((i:Int)<n)=false:=by simp;omega
     obtain rfl:i=n:=by omega
     have hlen:=z8W HR.out i;have he:z7S l i=enc l:=by rw[HS.out.2];exact zfQ l
     rw[he] at hlen HT;obtain⟨bo,bcap,hv,hbc,hbm,-⟩:=HT.out.row.form;subst hv
     by_cases hlong:1024<(enc l).length
     ·have t5:decide ((1024:Int)<((enc l).length:Int))=true:=by simp;omega
      go_wp2_with (at_builtin;refine z0A ?_;intro q hq);go_ret2;have hE:encE l=3:=by unfold encE;rw[HR.out,if_pos rfl,if_pos hlong]
      refine⟨_,by rw[hE];rfl,?_⟩;rw[hE];exact(Fresh.nil w).later HT.out.keep
     ·have t5:decide ((1024:Int)<((enc l).length:Int))=false:=by simp;omega
      go_wp2_with (at_builtin;refine z0A ?_;intro q hq);go_ret2;have hE:encE l=0:=by unfold encE;rw[HR.out,if_pos rfl,if_neg hlong]
      refine⟨_,by rw[hE];rfl,?_⟩;rw[hE];exact HT.out
end
section
open Go.RowKit
open MI SO BM
theorem zqZ (w:World) (b:Nat):(Builtin.max_ #[3,3] 3 #[.int .i64 (b:Int),.int .i64 0]).run Tryz.prog w = .ok (.int .i64 (b:Int)) w:=by
 simp[Builtin.max_,Builtin.max2];omega
theorem zdE {b:List UInt8} {at_:Nat}:∀ (f i v e:Nat),digits b at_ f i v = .no e→e≠0∧e<100
 | 0,_,_,e,h=>by cases h;decide
 | f+1,i,v,e,h=>by
   unfold digits at h;split at h
   ·cases h;decide
   simp only at h;split at h
   ·cases h;decide
   split at h
   ·cases h;decide
   split at h
   ·cases h
   exact zdE f _ _ e h
theorem z3I {b:List UInt8} {at_ e:Nat} (h:uint b at_ = .no e):e≠0∧e<100:=by
 unfold uint at h;split at h
 ·cases h;decide
 exact zdE _ _ _ _ h
theorem z5M {b:List UInt8} {at_ most e:Nat} (h:z1A b at_ most = .no e):e≠0∧e<100:=by
 unfold z1A at h;split at h
 ·rename_i hu;cases h;exact z3I hu
 split at h
 ·cases h;decide
 split at h
 ·cases h;decide
 cases h
theorem Cells.part {w:World} {ao:Option Addr} {n cap:Nat} {l:List UInt8} (h:Cells w ao n 1 (z0B l)) (lo m:Nat) (h1:lo+m≤n) (h2:n≤cap):Cells w (z1E ao cap lo 1) m 1 (z0B ((l.drop lo).take m)):=by
 have h3:=(h.tail lo (by omega) h2 (by decide)).take m (by omega);simpa [z0B,List.map_take,List.map_drop] using h3
def BytPost (w:World) (R:Byt) (e:Ending) (w':World):Prop:=
 match R with
 | .no x=>e = .returned (.tuple #[.slice none 0 0,.int .i64 0,.int .i64 (x:Int)])∧Keep (fun _=>False) w w'
 | .yes s t=>∃ v,e = .returned (.tuple #[v,.int .i64 (t:Int),.int .i64 0])∧Fresh w v s w'
theorem zeM (w:World) (ao:Option Addr) (n c a most:Nat) (l:List UInt8) (h:Cells w ao n 1 (z0B l)) (hnc:n≤c) (ha:a≤n) (hn:n≤1000000000) (hm:most≤1000000) :
  Calls Tryz.prog 130 #[.slice ao n c,.int .i64 a,.int .i64 most] w (BytPost w (z1A l a most)):=by
 have hl:l.length=n:=by have:=h.1;rw[z0D] at this;omega
 have H:=hid (zA1 h hl);have hcall:=zaH w ao n c a l h ha hn;have hmx:=fun w=>zqZ w most;have hw1:=wu64 most (by omega);obtain⟨R,hR⟩:=zX1 (z1A l a most);rw[← hR];unfold z1A at hR;clear h
 cases hu:BM.uint l a with
 | no e=>
   rw[hu] at hR hcall;simp only at hR;subst hR;have te:((e:Int) != 0)=true:=by have:=(z3I hu).1;simp;omega
   clear hu hl;simp only[numV] at hcall;go_enter Tryz.func130,Tryz.ntmps130;go_wp2_with (at_builtin;refine z0A ?_;intro q hq);refine hcall.mono ?_;rintro e2 w2 ⟨rfl,hk2⟩;have HK:=hid hk2;clear hcall hk2;go_wp2_with (at_builtin;refine z0A ?_;intro q hq)
   go_ret3
   exact⟨by rfl,HK.out⟩
 | yes m t=>
   rw[hu] at hR hcall;simp only at hR;simp only[numV] at hcall;obtain⟨u1,u2,u3,u4⟩:=z2N hu;rw[hl] at u3 hR
   by_cases h1:most<m
   ·rw[if_pos h1] at hR
    subst hR;have t1:decide ((most:Int)<(m:Int))=true:=by simp;omega
    clear hu hl u4;go_enter Tryz.func130,Tryz.ntmps130;go_wp2_with (at_builtin;refine z0A ?_;intro q hq);refine hcall.mono ?_;rintro e2 w2 ⟨rfl,hk2⟩;have HK:=hid hk2;clear hcall hk2;go_wp2_with (at_builtin;refine z0A ?_;intro q hq)
    go_ret3
    exact⟨by rfl,HK.out⟩
   ·rw[if_neg h1] at hR
    have t1:decide ((most:Int)<(m:Int))=false:=by simp;omega
    obtain⟨d,hd⟩:=zX1 (n - t);have t2:(n:Int) - (t:Int)=(d:Int):=by omega
    have t3:=wi64 d (by omega);have t4:=wu64 d (by omega);rw[← hd] at hR
    by_cases h2:d<m
    ·rw[if_pos h2] at hR
     subst hR;have t5:decide ((d:Int)<(m:Int))=true:=by simp;omega
     clear hu hl u4;go_enter Tryz.func130,Tryz.ntmps130;go_wp2_with (at_builtin;refine z0A ?_;intro q hq);refine hcall.mono ?_;rintro e2 w2 ⟨rfl,hk2⟩;have HK:=hid hk2;clear hcall hk2;go_wp2_with (at_builtin;refine z0A ?_;intro q hq)
     go_ret3
     exact⟨by rfl,HK.out⟩
    ·rw[if_neg h2] at hR
     have t5:decide ((d:Int)<(m:Int))=false:=by simp;omega
     obtain⟨en,hen⟩:=zX1 (t+m);have t6:=wi64 m (by omega)
     have hsl:∀ w,(Instr.sliceAt 29 (.slice ao n c) (some (.int .i64 (t:Int))) (some (.int .i64 ((t:Int)+(m:Int)))) none).run Tryz.prog w = .ok (.slice (z1E ao c t 1) m (c - t)) w:=fun w=>by
      have h:=z1R (P:=Tryz.prog) z0U ao n c .i64 .i64 t en (by omega) (by omega) w;rw[show en - t=m by omega,hen,Int.natCast_add] at h;exact h
     rw[← hen] at hR;obtain⟨T,hT⟩:=zX1 (z1E ao c t 1);rw[← hT] at hsl;have HH:=hid (zA1 hR (zA1 hT (zA1 hen hd)));clear hu u4 hR hT hl;go_enter Tryz.func130,Tryz.ntmps130;go_wp2_with (at_builtin;refine z0A ?_;intro q hq);refine hcall.mono ?_;rintro e2 w2 ⟨rfl,hk2⟩;have HK:=hid hk2;clear hcall hk2;go_wp2_with (at_builtin;refine z0A ?_;intro q hq)
     (refine hq.out ?_;clear hq q)
     have hf6:Fresh w2 (.slice (some ⟨w2.heap.size,0,none⟩) 0 0) [] (w2.alloc (.cells #[] 5)):=z2X rfl rfl rfl (by unfold maxLen;decide);obtain⟨w6,hw6⟩:=zX1 (w2.alloc (.cells #[] 5));rw[← hw6] at hf6 ⊢;clear hw6;refine wpList_plain rfl (fun K hK=>?_)
     refine z3B _ _ rfl rfl (hf6.since HK.out) T m (c - t) rfl (r:=(l.drop t).take m) (by
      rw[HH.out.2.1]
      exact(H.out.1.keep (HK.out.next hf6.keep (fun _ _ x=>x) (fun _ _ x=>x)) (fun _ _ x=>x)).part t m (by have:=HH.out.2.2;omega) hnc) (by omega) ?_
     intro v8 w8 hf8 hk8;refine hK _ _ ?_;clear hK K hf6 hk8;have HF8:=hid hf8;clear hf8;go_wp2_with (at_builtin;refine z0A ?_;intro q hq)
     go_ret3
     rw[HH.out.1,HH.out.2.2.1];exact⟨_,by rw[Int.natCast_add];rfl,HF8.out⟩
theorem zbU (w:World) (ao:Option Addr) (n c a most:Nat) (l:List UInt8) (h:Cells w ao n 1 (z0B l)) (hnc:n≤c) (ha:a≤n) (hn:n≤1000000000) (hm:most≤1000000) :
  Calls Tryz.prog 99 #[.slice ao n c,.int .i64 a,.int .i64 most] w (BytPost w (z1A l a most)):=by
 have hl:l.length=n:=by have:=h.1;rw[z0D] at this;omega
 have H:=hid (zA1 h hl);have hcall:=z6X w ao n c a l h ha hn;have tm:decide ((most:Int)<0)=false:=by simp
 have hw1:=wu64 most (by omega);obtain⟨R,hR⟩:=zX1 (z1A l a most);rw[← hR];unfold z1A at hR;clear h
 cases hu:BM.uint l a with
 | no e=>
   rw[hu] at hR hcall;simp only at hR;subst hR;have te:((e:Int) != 0)=true:=by have:=(z3I hu).1;simp;omega
   clear hu hl;simp only[numV] at hcall;go_enter Tryz.func99,Tryz.ntmps99;go_wp2_with (at_builtin;refine z0A ?_;intro q hq);refine hcall.mono ?_;rintro e2 w2 ⟨rfl,hk2⟩;have HK:=hid hk2;clear hcall hk2;go_wp2_with (at_builtin;refine z0A ?_;intro q hq)
   go_ret3
   exact⟨by rfl,HK.out⟩
 | yes m t=>
   rw[hu] at hR hcall;simp only at hR;simp only[numV] at hcall;obtain⟨u1,u2,u3,u4⟩:=z2N hu;rw[hl] at u3 hR
   by_cases h1:most<m
   ·rw[if_pos h1] at hR
    subst hR;have t1:decide ((most:Int)<(m:Int))=true:=by simp;omega
    clear hu hl u4;go_enter Tryz.func99,Tryz.ntmps99;go_wp2_with (at_builtin;refine z0A ?_;intro q hq);refine hcall.mono ?_;rintro e2 w2 ⟨rfl,hk2⟩;have HK:=hid hk2;clear hcall hk2;go_wp2_with (at_builtin;refine z0A ?_;intro q hq)
    go_ret3
    exact⟨by rfl,HK.out⟩
   ·rw[if_neg h1] at hR
    have t1:decide ((most:Int)<(m:Int))=false:=by simp;omega
    obtain⟨d,hd⟩:=zX1 (n - t);have t2:(n:Int) - (t:Int)=(d:Int):=by omega
    have t3:=wi64 d (by omega);have t4:=wu64 d (by omega);rw[← hd] at hR
    by_cases h2:d<m
    ·rw[if_pos h2] at hR
     subst hR;have t5:decide ((d:Int)<(m:Int))=true:=by simp;omega
     clear hu hl u4;go_enter Tryz.func99,Tryz.ntmps99;go_wp2_with (at_builtin;refine z0A ?_;intro q hq);refine hcall.mono ?_;rintro e2 w2 ⟨rfl,hk2⟩;have HK:=hid hk2;clear hcall hk2;go_wp2_with (at_builtin;refine z0A ?_;intro q hq)
     go_ret3
     exact⟨by rfl,HK.out⟩
    ·rw[if_neg h2] at hR
     have t5:decide ((d:Int)<(m:Int))=false:=by simp;omega
     obtain⟨en,hen⟩:=zX1 (t+m);have t6:=wi64 m (by omega)
     have hsl:∀ w,(Instr.sliceAt 29 (.slice ao n c) (some (.int .i64 (t:Int))) (some (.int .i64 ((t:Int)+(m:Int)))) none).run Tryz.prog w = .ok (.slice (z1E ao c t 1) m (c - t)) w:=fun w=>by
      have h:=z1R (P:=Tryz.prog) z0U ao n c .i64 .i64 t en (by omega) (by omega) w;rw[show en - t=m by omega,hen,Int.natCast_add] at h;exact h
     rw[← hen] at hR;obtain⟨T,hT⟩:=zX1 (z1E ao c t 1);rw[← hT] at hsl;have HH:=hid (zA1 hR (zA1 hT (zA1 hen hd)));clear hu u4 hR hT hl;go_enter Tryz.func99,Tryz.ntmps99;go_wp2_with (at_builtin;refine z0A ?_;intro q hq);refine hcall.mono ?_;rintro e2 w2 ⟨rfl,hk2⟩;have HK:=hid hk2;clear hcall hk2;go_wp2_with (at_builtin;refine z0A ?_;intro q hq)
     (refine hq.out ?_;clear hq q)
     refine wpList_plain rfl (fun K hK=>?_)
     refine z0K _ _ rfl rfl ((Fresh.nil w).later HK.out) T m (c - t) rfl (r:=(l.drop t).take m) (by
      rw[HH.out.2.1]
      exact(H.out.1.keep HK.out (fun _ _ x=>x)).part t m (by have:=HH.out.2.2;omega) hnc) (by simp;omega) ?_
     intro v8 w8 hf8 hk8;refine hK _ _ ?_;clear hK K hk8;have HF8:=hid hf8;clear hf8;go_wp2_with (at_builtin;refine z0A ?_;intro q hq)
     go_ret3
     rw[HH.out.1,HH.out.2.2.1];exact⟨_,by rw[Int.natCast_add];rfl,HF8.out⟩
end
section
open Go.RowKit
open MI SO BM
structure RdAt (w:World) (g:Nat) (v:Value) (l:List UInt8) (at_ err:Nat):Prop where
 head:w.heap[g]?=some (.cells #[v,.int .i64 (at_:Int),.int .i64 (err:Int)] 203 (0,0))
 row:Row w 5 1 v l.length (z0B l)
theorem RdAt.keep {w w':World} {g:Nat} {v:Value} {l:List UInt8} {at_ err:Nat} {F:Nat→Prop} (h:RdAt w g v l at_ err) (hk:Keep F w w') (h1:¬ F g) (h2:∀ k,v.ownBlock=some k→¬ F k):RdAt w' g v l at_ err:=
 ⟨hk.get h.head h1,h.row.keep hk h2⟩
theorem RdAt.ne {w:World} {g:Nat} {v:Value} {l:List UInt8} {at_ err:Nat} (h:RdAt w g v l at_ err):¬ v.ownBlock=some g:=h.row.not_block h.head (by decide)
theorem RdAt.set {w w':World} {g:Nat} {v:Value} {l:List UInt8} {at_ err at2 err2:Nat} (h:RdAt w g v l at_ err) (hk:Keep (fun k=>k=g) w w') (hh:w'.heap[g]?=some (.cells #[v,.int .i64 (at2:Int),.int .i64 (err2:Int)] 203 (0,0))):RdAt w' g v l at2 err2:=
 ⟨hh,h.row.keep hk (fun k e x=>h.ne (by rw[e,x]))⟩
theorem RdAt.put1 {w:World} {g:Nat} {v:Value} {l:List UInt8} {at_ err:Nat} (h:RdAt w g v l at_ err) (x:Nat):RdAt (w.setCell ⟨g,1,none⟩ (.int .i64 (x:Int))) g v l x err∧Keep (fun k=>k=g) w (w.setCell ⟨g,1,none⟩ (.int .i64 (x:Int))):=by
 have hk:Keep (fun k=>k=g) w (w.setCell ⟨g,1,none⟩ (.int .i64 (x:Int))):=kst;exact⟨h.set hk (heap_setCell_same w g 1 _ _ _ h.head),hk⟩
theorem RdAt.put2 {w:World} {g:Nat} {v:Value} {l:List UInt8} {at_ err:Nat} (h:RdAt w g v l at_ err) (x:Nat):RdAt (w.setCell ⟨g,2,none⟩ (.int .i64 (x:Int))) g v l at_ x∧Keep (fun k=>k=g) w (w.setCell ⟨g,2,none⟩ (.int .i64 (x:Int))):=by
 have hk:Keep (fun k=>k=g) w (w.setCell ⟨g,2,none⟩ (.int .i64 (x:Int))):=kst;exact⟨h.set hk (heap_setCell_same w g 2 _ _ _ h.head),hk⟩
theorem zfF (w:World) (ao:Option Addr) (n c:Nat) (l:List UInt8) (h:Cells w ao n 1 (z0B l)) (hn:n≤1000000000) :
  Calls Tryz.prog 88 #[.slice ao n c] w fun e w'=>∃ g v,e = .returned (.pointer (some ⟨g,0,none⟩))∧RdAt w' g v l 0 0∧Keep (fun _=>False) w w'∧w.heap.size≤g∧∀ k,v.ownBlock=some k→w.heap.size≤k:=by
 have hl:l.length=n:=by have:=h.1;rw[z0D] at this;omega
 have H:=hid (zA1 h hl);clear hl h;go_enter Tryz.func88,Tryz.ntmps88;go_wp2_with (at_builtin;refine z0A ?_;intro q hq)
 (refine hq.out ?_;clear hq q)
 have hf6:Fresh w (.slice (some ⟨w.heap.size,0,none⟩) 0 0) [] (w.alloc (.cells #[] 5)):=z2X rfl rfl rfl (by unfold maxLen;decide);obtain⟨w6,hw6⟩:=zX1 (w.alloc (.cells #[] 5));obtain⟨gz,hgz⟩:=zX1 (w.heap.size);rw[← hgz] at hf6;rw[← hw6,← hgz];rw[← hw6] at hf6;clear hw6;refine wpList_plain rfl (fun K hK=>?_);refine z3B _ _ rfl rfl hf6 ao n c rfl (H.out.1.keep hf6.keep (fun _ _ x=>x)) (by omega) ?_;intro v8 w8 hf8 hk8;refine hK _ _ ?_;clear hK K hf6 hk8;obtain⟨bo,bc,rfl,-⟩:=hf8.row.form;have HF8:=hid (zA1 hf8 hgz);clear hf8 hgz;go_wp2_with (at_builtin;refine z0A ?_;intro q hq);have hn9:=heap_alloc_new w8 (.cells #[.slice bo l.length bc,.int .i64 0,.int .i64 0] 203);have hk9:=kal w8 (.cells #[.slice bo l.length bc,.int .i64 0,.int .i64 0] 203);go_ret;exact⟨_,_,rfl,⟨hn9,HF8.out.1.row.keep hk9 (fun _ _ x=>x)⟩,HF8.out.1.keep.next hk9 (fun _ _ x=>x) (fun _ _ x=>x),HF8.out.1.keep.size,HF8.out.1.own⟩
theorem z3L (w:World) (g:Nat) (v:Value) (l:List UInt8) (at_ err:Nat) (h:RdAt w g v l at_ err) :
  Calls Tryz.prog 90 #[.pointer (some ⟨g,0,none⟩)] w fun e w'=>e = .returned (.int .i64 (err:Int))∧w'=w:=by
 obtain⟨i0,i1,i2,jf,jb⟩:=z0V h.head;clear h;go_enter Tryz.func90,Tryz.ntmps90;go_wp2_with (at_builtin;refine z0A ?_;intro q hq);go_ret;exact⟨rfl,rfl⟩
theorem z9L (w:World) (g:Nat) (v:Value) (l:List UInt8) (at_:Nat) (h:RdAt w g v l at_ 0) (ha:at_≤l.length) (hn:l.length≤1000000000) :
  Calls Tryz.prog 92 #[.pointer (some ⟨g,0,none⟩)] w fun e w'=>e = .returned (.int .i64 ((l.length - at_:Nat):Int))∧Keep (fun _=>False) w w':=by
 obtain⟨i0,i1,i2,jf,jb⟩:=z0V h.head;obtain⟨bo,bc,rfl,-⟩:=h.row.form;clear h;go_enter Tryz.func92,Tryz.ntmps92;go_wp2_with (at_builtin;refine z0A ?_;intro q hq);have q0:=fun s:Later w=>s.cell i0;have q1:=fun s:Later w=>s.cell i1
 (refine z0X (by kernel_rfl) (by kernel_rfl) ?_;(repeat (go_big_quiet_step ((fail))));refine wpQuiet_nil ?_;rintro _ ⟨sq,rfl⟩)
 go_wp2_with (at_builtin;refine z0A ?_;intro q hq);go_ret;refine⟨?_,sq.keep⟩;rw[show ((l.length - at_:Nat):Int)=(l.length:Int) - (at_:Int) by omega];rfl
theorem zkP (w:World) (g:Nat) (v:Value) (l:List UInt8) (at_ err:Nat) (h:RdAt w g v l at_ err) (he:err≠0) :
  Calls Tryz.prog 89 #[.pointer (some ⟨g,0,none⟩)] w fun e w'=>e = .returned (.int .u64 0)∧w'=w:=by
 obtain⟨i0,i1,i2,jf,jb⟩:=z0V h.head;have te:((err:Int) != 0)=true:=by simp;omega
 clear h;go_enter Tryz.func89,Tryz.ntmps89;go_wp2_with (at_builtin;refine z0A ?_;intro q hq);go_ret;exact⟨rfl,rfl⟩
theorem zhP (w:World) (g:Nat) (v:Value) (l:List UInt8) (at_ err:Nat) (m:Int) (h:RdAt w g v l at_ err) (he:err≠0) :
  Calls Tryz.prog 91 #[.pointer (some ⟨g,0,none⟩),.int .i64 m] w fun e w'=>e = .returned (.slice none 0 0)∧w'=w:=by
 obtain⟨i0,i1,i2,jf,jb⟩:=z0V h.head;have te:((err:Int) != 0)=true:=by simp;omega
 clear h;go_enter Tryz.func91,Tryz.ntmps91;go_wp2_with (at_builtin;refine z0A ?_;intro q hq);go_ret;exact⟨rfl,rfl⟩
def RdU (w:World) (g:Nat) (v:Value) (l:List UInt8) (at_:Nat) (R:Num) (e:Ending) (w':World):Prop:=
 Keep (fun k=>k=g) w w'∧match R with
 | .no x=>e = .returned (.int .u64 0)∧RdAt w' g v l at_ x
 | .yes n t=>e = .returned (.int .u64 (n:Int))∧RdAt w' g v l t 0
theorem zcK (w:World) (g:Nat) (v:Value) (l:List UInt8) (at_:Nat) (h:RdAt w g v l at_ 0) (ha:at_≤l.length) (hn:l.length≤1000000000) :
  Calls Tryz.prog 89 #[.pointer (some ⟨g,0,none⟩)] w (RdU w g v l at_ (uint l at_)):=by
 obtain⟨i0,i1,i2,jf,jb⟩:=z0V h.head;obtain⟨bo,bc,rfl,-⟩:=h.row.form;have H:=hid h;clear h
 cases hu:uint l at_ with
 | no x=>
   have te:((x:Int) != 0)=true:=by have:=(z3I hu).1;simp;omega
   have HU:=hid hu;clear hu;go_enter Tryz.func89,Tryz.ntmps89;go_wp2_with (at_builtin;refine z0A ?_;intro q hq);refine z0G [24] (by kernel_rfl) (by kernel_rfl) ?_
   repeat (first | (apply z0F (by rfl);(intro K w';go_simp;exact id)) | (apply z0I (by rfl);(intro K;go_simp;exact id)))
   have hkd:Keep (fun _=>False) w w.drew:=(Keep.refl _ _).drew;have hd:=H.out.keep hkd id (fun _ _=>id);have hc:=zaH w.drew bo l.length bc at_ l (Cells.of_row hd.row) ha hn;rw[HU.out] at hc;simp only[numV] at hc;clear hd;refine z2G (by rfl) (by rfl) (fun K hK=>?_);go_simp;refine hc.mono ?_;rintro e w3 ⟨rfl,hk3⟩;refine hK _ _ (Pre.of_keep hk3) ?_;clear hK K i0 i1 i2 jf jb;have hk13:=hkd.next hk3 (fun _ _ x=>x) (fun _ _ x=>x);have hd3:=H.out.keep hk13 id (fun _ _=>id);obtain⟨i0,i1,i2,jf,jb⟩:=z0V hd3.head;have HK:=hid (zA1 hd3 hk13);clear hk3 hc hd3 hk13 hkd
   repeat (first | (apply z0F (by rfl);(intro K w';go_simp;exact id)) | (apply z0I (by rfl);(intro K;go_simp;exact id)))
   refine z0S ?_;go_wp2_with (at_builtin;refine z0A ?_;intro q hq);have hp:=HK.out.1.put2 x;go_ret;exact⟨HK.out.2.next hp.2 (fun _ _ x=>x.elim) (fun _ _ x=>x),rfl,hp.1⟩
 | yes n t=>
   have HU:=hid hu;clear hu;go_enter Tryz.func89,Tryz.ntmps89;go_wp2_with (at_builtin;refine z0A ?_;intro q hq);refine z0G [24] (by kernel_rfl) (by kernel_rfl) ?_
   repeat (first | (apply z0F (by rfl);(intro K w';go_simp;exact id)) | (apply z0I (by rfl);(intro K;go_simp;exact id)))
   have hkd:Keep (fun _=>False) w w.drew:=(Keep.refl _ _).drew;have hd:=H.out.keep hkd id (fun _ _=>id);have hc:=zaH w.drew bo l.length bc at_ l (Cells.of_row hd.row) ha hn;rw[HU.out] at hc;simp only[numV] at hc;clear hd;refine z2G (by rfl) (by rfl) (fun K hK=>?_);go_simp;refine hc.mono ?_;rintro e w3 ⟨rfl,hk3⟩;refine hK _ _ (Pre.of_keep hk3) ?_;clear hK K i0 i1 i2 jf jb;have hk13:=hkd.next hk3 (fun _ _ x=>x) (fun _ _ x=>x);have hd3:=H.out.keep hk13 id (fun _ _=>id);obtain⟨i0,i1,i2,jf,jb⟩:=z0V hd3.head;have HK:=hid (zA1 hd3 hk13);clear hk3 hc hd3 hk13 hkd
   repeat (first | (apply z0F (by rfl);(intro K w';go_simp;exact id)) | (apply z0I (by rfl);(intro K;go_simp;exact id)))
   refine z0S ?_;go_wp2_with (at_builtin;refine z0A ?_;intro q hq);have hp:=HK.out.1.put1 t;go_ret;exact⟨HK.out.2.next hp.2 (fun _ _ x=>x.elim) (fun _ _ x=>x),rfl,hp.1⟩
def RdB (w:World) (g:Nat) (v:Value) (l:List UInt8) (at_:Nat) (R:Byt) (e:Ending) (w':World):Prop:=
 Keep (fun k=>k=g) w w'∧match R with
 | .no x=>e = .returned (.slice none 0 0)∧RdAt w' g v l at_ x
 | .yes s t=>∃ u,e = .returned u∧RdAt w' g v l t 0∧Row w' 5 1 u s.length (z0B s)∧∀ k,u.ownBlock=some k→w.heap.size≤k
theorem zhR (w:World) (g:Nat) (v:Value) (l:List UInt8) (at_ most:Nat) (mz:Int) (hmz:mz=(most:Int)) (h:RdAt w g v l at_ 0) (ha:at_≤l.length) (hn:l.length≤1000000000) (hm:most≤1000000) :
  Calls Tryz.prog 91 #[.pointer (some ⟨g,0,none⟩),.int .i64 mz] w (RdB w g v l at_ (z1A l at_ most)):=by
 subst hmz;obtain⟨i0,i1,i2,jf,jb⟩:=z0V h.head;obtain⟨bo,bc,rfl,hbc,-⟩:=h.row.form;have H:=hid h;clear h
 cases hu:z1A l at_ most with
 | no x=>
   have te:((x:Int) != 0)=true:=by have:=(z5M hu).1;simp;omega
   have HU:=hid hu;clear hu;go_enter Tryz.func91,Tryz.ntmps91;go_wp2_with (at_builtin;refine z0A ?_;intro q hq);refine z0G [27] (by kernel_rfl) (by kernel_rfl) ?_
   repeat (first | (apply z0F (by rfl);(intro K w';go_simp;exact id)) | (apply z0I (by rfl);(intro K;go_simp;exact id)))
   have hkd:Keep (fun _=>False) w w.drew:=(Keep.refl _ _).drew;have hd:=H.out.keep hkd id (fun _ _=>id);have hc:=zeM w.drew bo l.length bc at_ most l (Cells.of_row hd.row) hbc ha hn hm;rw[HU.out] at hc;clear hd;refine z2G (by rfl) (by rfl) (fun K hK=>?_);go_simp;refine hc.mono ?_;rintro e w3 ⟨rfl,hk3⟩;refine hK _ _ (Pre.of_keep hk3) ?_;clear hK K i0 i1 i2 jf jb;have hk13:=hkd.next hk3 (fun _ _ x=>x) (fun _ _ x=>x);have hd3:=H.out.keep hk13 id (fun _ _=>id);obtain⟨i0,i1,i2,jf,jb⟩:=z0V hd3.head;have HK:=hid (zA1 hd3 hk13);clear hk3 hc hd3 hk13 hkd
   repeat (first | (apply z0F (by rfl);(intro K w';go_simp;exact id)) | (apply z0I (by rfl);(intro K;go_simp;exact id)))
   refine z0S ?_;go_wp2_with (at_builtin;refine z0A ?_;intro q hq);have hp:=HK.out.1.put2 x;go_ret;exact⟨HK.out.2.next hp.2 (fun _ _ x=>x.elim) (fun _ _ x=>x),rfl,hp.1⟩
 | yes s t=>
   have HU:=hid hu;clear hu;go_enter Tryz.func91,Tryz.ntmps91;go_wp2_with (at_builtin;refine z0A ?_;intro q hq);refine z0G [27] (by kernel_rfl) (by kernel_rfl) ?_
   repeat (first | (apply z0F (by rfl);(intro K w';go_simp;exact id)) | (apply z0I (by rfl);(intro K;go_simp;exact id)))
   have hkd:Keep (fun _=>False) w w.drew:=(Keep.refl _ _).drew;have hd:=H.out.keep hkd id (fun _ _=>id);have hc:=zeM w.drew bo l.length bc at_ most l (Cells.of_row hd.row) hbc ha hn hm;rw[HU.out] at hc;clear hd;refine z2G (by rfl) (by rfl) (fun K hK=>?_);go_simp;refine hc.mono ?_;rintro e w3 ⟨v3,rfl,hf3⟩;refine hK _ _ (Pre.of_keep hf3.keep) ?_;clear hK K i0 i1 i2 jf jb;have hk13:=hkd.next hf3.keep (fun _ _ x=>x) (fun _ _ x=>x);have hd3:=H.out.keep hk13 id (fun _ _=>id);obtain⟨i0,i1,i2,jf,jb⟩:=z0V hd3.head;have HK:=hid (zA1 hd3 (zA1 hk13 hf3));clear hf3 hc hd3 hk13 hkd
   repeat (first | (apply z0F (by rfl);(intro K w';go_simp;exact id)) | (apply z0I (by rfl);(intro K;go_simp;exact id)))
   refine z0S ?_;go_wp2_with (at_builtin;refine z0A ?_;intro q hq);have hp:=HK.out.1.put1 t;go_ret;exact⟨HK.out.2.1.next hp.2 (fun _ _ x=>x.elim) (fun _ _ x=>x),_,rfl,hp.1,HK.out.2.2.row.keep hp.2 (fun k e x=>HK.out.2.2.row.not_block HK.out.1.head (by decide) (by rw[e,x])),HK.out.2.2.own⟩
def SO.uS (b:List UInt8) (s:Nat×Nat):Nat×Nat×Nat:=if s.2≠0 then (0,s) else match uint b s.1 with
 | .no x=>(0,s.1,x)
 | .yes n t=>(n,t,0)
def SO.bS (b:List UInt8) (most:Nat) (s:Nat×Nat):Str×Nat×Nat:=if s.2≠0 then ([],s) else match z1A b s.1 most with
 | .no x=>([],s.1,x)
 | .yes v t=>(v,t,0)
theorem zbS (w:World) (g:Nat) (v:Value) (l:List UInt8) (at_ err:Nat) (h:RdAt w g v l at_ err) (ha:at_≤l.length) (hn:l.length≤1000000000) :
  Calls Tryz.prog 89 #[.pointer (some ⟨g,0,none⟩)] w fun e w'=>e = .returned (.int .u64 ((uS l (at_,err)).1:Int))∧RdAt w' g v l (uS l (at_,err)).2.1 (uS l (at_,err)).2.2∧Keep (fun k=>k=g) w w':=by
 unfold uS
 by_cases he:err≠0
 ·rw[if_pos he]
  refine(zkP w g v l at_ err h he).mono ?_;rintro e w' ⟨rfl,rfl⟩;exact⟨rfl,h,Keep.refl _ _⟩
 ·rw[if_neg he]
  obtain rfl:err=0:=by omega
  refine(zcK w g v l at_ h ha hn).mono ?_;rintro e w' ⟨hk,hr⟩;simp only
  cases hu:uint l at_ with
  | no x=>rw[hu] at hr;exact⟨hr.1,hr.2,hk⟩
  | yes n t=>rw[hu] at hr;exact⟨hr.1,hr.2,hk⟩
theorem zcT (w:World) (g:Nat) (v:Value) (l:List UInt8) (at_ err most:Nat) (mz:Int) (hmz:mz=(most:Int)) (h:RdAt w g v l at_ err) (ha:at_≤l.length) (hn:l.length≤1000000000) (hm:most≤1000000) :
  Calls Tryz.prog 91 #[.pointer (some ⟨g,0,none⟩),.int .i64 mz] w fun e w'=>∃ u,e = .returned u∧Row w' 5 1 u (bS l most (at_,err)).1.length (z0B (bS l most (at_,err)).1)∧RdAt w' g v l (bS l most (at_,err)).2.1 (bS l most (at_,err)).2.2∧Keep (fun k=>k=g) w w':=by
 unfold bS
 by_cases he:err≠0
 ·rw[if_pos he]
  refine(zhP w g v l at_ err mz h he).mono ?_;rintro e w' ⟨rfl,rfl⟩;exact⟨_,rfl,Row.nil _ _ _,h,Keep.refl _ _⟩
 ·rw[if_neg he]
  obtain rfl:err=0:=by omega
  refine(zhR w g v l at_ most mz hmz h ha hn hm).mono ?_;rintro e w' ⟨hk,hr⟩;simp only
  cases hu:z1A l at_ most with
  | no x=>rw[hu] at hr;obtain⟨rfl,hr⟩:=hr;exact⟨_,rfl,Row.nil _ _ _,hr,hk⟩
  | yes s t=>rw[hu] at hr;obtain⟨u,rfl,h1,h2,-⟩:=hr;exact⟨_,rfl,h2,h1,hk⟩
theorem zrT (b:List UInt8) (most:Nat) {a e:Nat} (ha:a≤b.length):(bS b most (a,e)).2.1≤b.length∧(bS b most (a,e)).1.length≤most:=by
 unfold bS
 by_cases he:e≠0
 ·simp[he,ha]
 ·rw[if_neg he]
  simp only
  cases hu:z1A b a most with
  | no x=>exact⟨ha,Nat.zero_le _⟩
  | yes s t=>have:=z4M hu;exact⟨this.2.2.1,this.1⟩
theorem zlI (b:List UInt8) {a e:Nat} (ha:a≤b.length):(uS b (a,e)).2.1≤b.length∧(uS b (a,e)).1<18446744073709551616:=by
 unfold uS
 by_cases he:e≠0
 ·simp[he,ha]
 ·rw[if_neg he]
  simp only
  cases hu:uint b a with
  | no x=>exact⟨ha,by show (0:Nat)<18446744073709551616;decide⟩
  | yes n t=>have:=z2N hu;exact⟨this.2.2.1,this.1⟩
theorem zpO {b:List UInt8} {at_ a1 e1 gn a2 e2:Nat} {key:Str} (h1:(key,a1,e1)=bS b 16 (at_,0)) (h2:(gn,a2,e2)=uS b (a1,e1)) :
  (1<gn→chAt b at_=none)∧(gn=1→e2=0∧chAt b at_=some (⟨key,[],true⟩,a2))∧
  (gn=0→∀ v a3 e3,(v,a3,e3)=bS b 128 (a2,e2)→(e3=0∧chAt b at_=some (⟨key,v,false⟩,a3))∨(e3≠0∧chAt b at_=none)):=by
 unfold bS at h1;unfold chAt;simp only[ne_eq,not_true_eq_false,if_false] at h1
 cases hb:z1A b at_ 16 with
 | no x=>
   have hx:=(z5M hb).1;rw[hb] at h1;simp only[Prod.mk.injEq] at h1;obtain⟨rfl,rfl,rfl⟩:=h1;unfold uS at h2;rw[if_pos hx] at h2;simp only[Prod.mk.injEq] at h2;obtain⟨rfl,rfl,rfl⟩:=h2;refine⟨fun h=>by omega,fun h=>by omega,fun _ v a3 e3 h3=>?_⟩;unfold bS at h3;rw[if_pos hx] at h3;simp only[Prod.mk.injEq] at h3;obtain⟨rfl,rfl,rfl⟩:=h3;exact .inr ⟨hx,rfl⟩
 | yes k t=>
   rw[hb] at h1;simp only[Prod.mk.injEq] at h1;obtain⟨rfl,rfl,rfl⟩:=h1;unfold uS at h2;simp only[ne_eq,not_true_eq_false,if_false] at h2;simp only
   cases hu:uint b a1 with
   | no x=>
     have hx:=(z3I hu).1;rw[hu] at h2;simp only[Prod.mk.injEq] at h2;obtain⟨rfl,rfl,rfl⟩:=h2;refine⟨fun h=>by omega,fun h=>by omega,fun _ v a3 e3 h3=>?_⟩;unfold bS at h3;rw[if_pos hx] at h3;simp only[Prod.mk.injEq] at h3;obtain⟨rfl,rfl,rfl⟩:=h3;exact .inr ⟨hx,rfl⟩
   | yes n t2=>
     rw[hu] at h2;simp only[Prod.mk.injEq] at h2;obtain⟨rfl,rfl,rfl⟩:=h2;simp only;refine⟨fun h=>if_pos h,fun h=>⟨by first | rfl | trivial,by rw[if_neg (by omega),if_pos h]⟩,fun h v a3 e3 h3=>?_⟩;rw[if_neg (by omega),if_neg (by omega)];unfold bS at h3;simp only[ne_eq,not_true_eq_false,if_false] at h3
     cases hv:z1A b a2 128 with
     | no x=>
       have hx:=(z5M hv).1;rw[hv] at h3;simp only[Prod.mk.injEq] at h3;obtain⟨rfl,rfl,rfl⟩:=h3;exact .inr ⟨hx,rfl⟩
     | yes s t3=>
       rw[hv] at h3;simp only[Prod.mk.injEq] at h3;obtain⟨rfl,rfl,rfl⟩:=h3;exact .inl ⟨rfl,rfl⟩
end
section
open Go.RowKit
open MI SO BM
def chsV (l:List Ch):List Value:=l.flatMap chV
theorem zjD:SliceTy Tryz.prog 51 63 (.agg #[.string { data:=#[] },.string { data:=#[] },.bool false]) 3 40:=⟨by kernel_rfl,by kernel_rfl,rfl,by decide⟩
theorem zbW (a b:List Ch):chsV (a ++ b)=chsV a ++ chsV b:=List.flatMap_append
theorem ziA (c:Ch):chsV [c]=chV c:=by simp[chsV]
theorem ziW:∀ (l:List Ch) (i:Nat) (hi:i<l.length) (t:Nat),t<3→(chsV l)[i * 3+t]?=(chV l[i])[t]?
 | [],i,hi,_,_=>by simp at hi
 | c :: l,0,_,t,ht=>by
   rw[show chsV (c :: l)=chV c ++ chsV l from rfl,List.getElem?_append_left (by simp[chV];omega)];simp
 | c :: l,i+1,hi,t,ht=>by
   rw[show chsV (c :: l)=chV c ++ chsV l from rfl,List.getElem?_append_right (by simp[chV];omega)];have:=ziW l i (by simpa using hi) t ht;rw[show (i+1) * 3+t - (chV c).length=i * 3+t by simp[chV];omega,this];rfl
theorem z5V (c:Ch):∀ u ∈ chV c,u.oneCell'=true:=by
 intro u hu;simp only[chV,List.mem_cons,List.not_mem_nil,or_false] at hu
 rcases hu with rfl | rfl | rfl <;> rfl
theorem Chs.of_row {w:World} {v:Value} {l:List Ch} (h:Row w 63 3 v l.length (chsV l)) (hok:∀ c ∈ l,ChOk c):Chs w v l:=by
 obtain⟨ad,cap,rfl,h1,h2,-⟩:=h.form;refine⟨ad,cap,rfl,h1,h2,fun hp=>?_⟩;obtain⟨g,cap',cur,fz,hv,-⟩:=h.some hp;cases hv;refine⟨_,rfl,fun i hi=>⟨chV l[i],rfl,⟨rfl,hok _ (List.getElem_mem hi)⟩,fun j u hu=>?_⟩⟩;have ht:j<3:=(List.getElem?_eq_some_iff.1 hu).1;obtain⟨g',c',hv',hc⟩:=h.getCell (show (chsV l)[i * 3+j]?=some u by rw[ziW l i hi j ht];exact hu);cases hv';rw[z0J];simpa using hc
theorem zoO {c:Ch} (h:z1G c=true):ChOk c:=by
 simp only[z1G,decide_eq_true_eq] at h;exact⟨by unfold maxLen;omega,by unfold maxLen;omega⟩
theorem zcY {b:List UInt8} {n t0 at_ i:Nat} {acc:List Ch} (h:∀ k,i+k=n→z2A b n t0=(z2A b k at_).map fun p=>(acc ++ p.1,p.2)) (hi:i<n) :
  (chAt b at_=none→z2A b n t0=none)∧∀ c t2,chAt b at_=some (c,t2)→∀ k,i+1+k=n→z2A b n t0=(z2A b k t2).map fun p=>(acc ++ [c] ++ p.1,p.2):=by
 have h1:=h (n - i - 1+1) (by omega);refine⟨fun hc=>?_,fun c t2 hc k hk=>?_⟩
 ·rw[h1]
  unfold z2A;rw[hc];rfl
 ·have e:z2A b (k+1) at_=(z2A b k t2).map fun p=>(c :: p.1,p.2):=by
   show (match chAt b at_ with | none=>none | some (c,to_)=>match z2A b k to_ with | none=>none | some (l,t2)=>some (c :: l,t2))=_;rw[hc];simp only;cases z2A b k t2 <;> rfl
  rw[h1,show n - i - 1=k by omega,e];cases z2A b k t2 <;> simp
def DecPost (w:World) (b:List UInt8) (e:Ending) (w':World):Prop:=
 Keep (fun _=>False) w w'∧match dec b with
 | some l=>∃ v,e = .returned (.tuple #[v,.int .i64 0])∧Row w' 63 3 v l.length (chsV l)∧∀ k,v.ownBlock=some k→w.heap.size≤k
 | none=>e = .returned (.tuple #[.slice none 0 0,.int .i64 50])
structure DecRel (w:World) (g:Nat) (rv:Value) (b:List UInt8) (n t0 i:Nat) (acc:List Ch) (at_ err:Nat) (lv:Value) (wr:World):Prop where
 keep:Keep (fun _=>False) w wr
 rd:RdAt wr g rv b at_ err
 row:Row wr 63 3 lv i (chsV acc)
 own:∀ k,lv.ownBlock=some k→w.heap.size≤k
 len:acc.length=i
 ok:∀ c ∈ acc,ChOk c
 pos:at_≤b.length
 is:(err=0∧∀ k,i+k=n→z2A b n t0=(z2A b k at_).map fun p=>(acc ++ p.1,p.2))∨(err≠0∧z2A b n t0=none)
theorem Row.apart {w:World} {e e':TypeId} {size size':Nat} {v v':Value} {n n':Nat} {xs xs':List Value} (h:Row w e size v n xs) (h':Row w e' size' v' n' xs') (ht:e'≠e) (k:Nat) (hk:v'.ownBlock=Option.some k):¬ v.ownBlock=Option.some k:=by
 rcases h'.2 with ⟨rfl,_⟩ | ⟨g,cap,cur,fz,rfl,hg,_⟩
 ·simp[Value.ownBlock] at hk
 ·simp[Value.ownBlock] at hk
  subst hk;exact h.not_block hg ht
theorem DecRel.next {w:World} {g:Nat} {rv:Value} {b:List UInt8} {n t0 i:Nat} {acc:List Ch} {a e:Nat} {lv:Value} {wr:World} (h:DecRel w g rv b n t0 i acc a e lv wr) {w9 w10:World} {c:Ch} {a' e':Nat} {lv':Value}
  (hkw:Keep (fun _=>False) w w9) (hrd:RdAt w9 g rv b a' e') (hrow:Row w9 63 3 lv i (chsV acc)) (hk:Keep (fun k=>lv.ownBlock=some k) w9 w10) (hr:Row w10 63 3 lv' (i+1) (chsV acc ++ chV c))
  (ho:∀ k,lv'.ownBlock=some k→w.heap.size≤k) (hc:ChOk c) (hp:a'≤b.length)
  (his:(e'=0∧∀ k,i+1+k=n→z2A b n t0=(z2A b k a').map fun p=>(acc ++ [c] ++ p.1,p.2))∨(e'≠0∧z2A b n t0=none)):DecRel w g rv b n t0 (i+1) (acc ++ [c]) a' e' lv' w10 where
 keep:=hkw.next hk (fun _ _ x=>x) (fun j hj x=>by have:=h.own j x;omega)
 rd:=hrd.keep hk (hrow.not_block hrd.head (by decide)) (fun k hk=>hrow.apart hrd.row (by decide) k hk)
 row:=by rw[zbW,ziA];exact hr
 own:=ho
 len:=by simp[h.len]
 ok:=fun c' hc'=>by
  rcases List.mem_append.1 hc' with h1 | h1
  ·exact h.ok c' h1
  ·simp at h1;rw[h1];exact hc
 pos:=hp
 is:=his
theorem zeE {b:List UInt8} {m t0:Nat} (hu:uint b 0 = .yes m t0) (h:z2A b m t0=none):dec b=none:=by
 unfold dec;rw[hu];simp only;split
 ·rfl
 ·rw[h]
theorem ziS {b:List UInt8} {m t0 a:Nat} {acc:List Ch} (hu:uint b 0 = .yes m t0) (h:z2A b m t0=some (acc,a)) (hm:acc.length=m):dec b=if a=b.length∧right acc=true∧b.length≤1024 then some acc else none:=by
 unfold dec;rw[hu];simp only;split
 ·rw[if_neg]
  rintro⟨-,hr,-⟩;have:=(z1N hr).1;omega
 ·rw[h]
theorem znY {b:List UInt8} {m t0:Nat} (hu:uint b 0 = .yes m t0) (h:32<m):dec b=none:=by
 unfold dec;rw[hu];simp only;rw[if_pos h]
theorem zkH (w:World) (ao:Option Addr) (n c:Nat) (b:List UInt8) (h:Cells w ao n 1 (z0B b)) (hn:n≤1000000000) :
  Calls Tryz.prog 45 #[.slice ao n c] w (DecPost w b):=by
 have hl:b.length=n:=by have:=h.1;rw[z0D] at this;omega
 have H:=hid (zA1 h hl);clear hl h;go_enter Tryz.func45,Tryz.ntmps45;go_wp2_with (at_builtin;refine z0A ?_;intro q hq);refine(zfF w ao n c b H.out.1 hn).mono ?_;rintro e w1 ⟨g,rv,rfl,hr1,hk1,hg1,ho1⟩;have hbl:b.length≤1000000000:=by rw[H.out.2];exact hn
 have HG:=hid (zA1 hr1 (zA1 hk1 (zA1 hg1 ho1)));clear hr1 hk1 hg1 ho1;go_wp2_with (at_builtin;refine z0A ?_;intro q hq);refine(zcK w1 g rv b 0 HG.out.1 (Nat.zero_le _) hbl).mono ?_;rintro e w2 ⟨hk2,hres⟩;have hk02:Keep (fun _=>False) w w2:=HG.out.2.1.next hk2 (fun _ _ x=>x) (fun j hj x=>by have h1:j=g:=x;have:=HG.out.2.2.1;omega)
 cases hu:uint b 0 with
 | no x=>
   rw[hu] at hres;obtain⟨rfl,hr2⟩:=hres;have hx:=(z3I hu).1;have te:((x:Int) != 0)=true:=by simp;omega
   have HR:=hid (zA1 hr2 (zA1 hk02 hu));clear hr2 hk2 hk02 hu;go_wp2_with (at_builtin;refine z0A ?_;intro q hq);refine wp_loop_rounds 1 ?_;rw[rounds_succ];go_wp2_with (at_builtin;refine z0A ?_;intro q hq);refine(z3L w2 g rv b 0 x HR.out.1).mono ?_;rintro e w3 ⟨rfl,rfl⟩;go_wp2_with (at_builtin;refine z0A ?_;intro q hq);go_ret2;have hd:dec b=none:=by unfold dec;rw[HR.out.2.2]
   refine⟨HR.out.2.1,?_⟩;rw[hd];rfl
 | yes m t0=>
   rw[hu] at hres;obtain⟨rfl,hr2⟩:=hres;obtain⟨u1,u2,u3,-⟩:=z2N hu;have HU:=hid hu;have HR:=hid (zA1 hr2 hk02);clear hr2 hk2 hk02 hu;go_wp2_with (at_builtin;refine z0A ?_;intro q hq)
   go_loopw [6,7] (fun lv iv wr=>∃ (i:Nat) (acc:List Ch) (at_ err:Nat),i≤33∧i≤m∧iv = .int .u64 i∧Hid (DecRel w g rv b m t0 i acc at_ err lv wr)) (fun _ iv _=>33 - (intOf iv).toNat)
   case atStart=>exact⟨0,[],t0,0,by omega,Nat.zero_le _,rfl,hid ⟨HR.out.2,HR.out.1,Row.nil _ _ _,fun k e=>by simp[Value.ownBlock] at e,rfl,fun c hc=>by simp at hc,u3,.inl ⟨rfl,fun k hk=>by
    obtain rfl:k=m:=by omega
    simp⟩⟩⟩
   case round=>
    obtain⟨i,acc,at_,err,hi33,him,rfl,HT⟩:=hrel
    rcases HT.out.is with ⟨rfl,hnx⟩ | ⟨herr,hnone⟩
    ·by_cases hin:i<m
     ·have t1:decide ((i:Int)<(m:Int))=true:=by simp;omega
      by_cases hi:i≤32
      ·have t2:decide ((i:Int)≤32)=true:=by simp;omega
       obtain⟨hno,hyes⟩:=zcY hnx hin;have HN:=hid (zA1 hno hyes);clear hno hyes hnx;go_wp2_with (at_builtin;refine z0A ?_;intro q hq);refine(z3L wr g rv b at_ 0 HT.out.rd).mono ?_;rintro e w3 ⟨rfl,rfl⟩;go_wp2_with (at_builtin;refine z0A ?_;intro q hq);refine(zcT w3 g rv b at_ 0 16 16 rfl HT.out.rd HT.out.pos hbl (by decide)).mono ?_;rintro e w4 ⟨ku,rfl,hku,hr4,hk4⟩;have hb1:=zrT b 16 (e:=0) HT.out.pos;obtain⟨kr,hkr⟩:=zX1 (bS b 16 (at_,0));rw[← hkr] at hku hr4 hb1;obtain⟨key,a1,e1⟩:=kr;simp only at hku hr4 hb1;obtain⟨ko,kc,rfl,-⟩:=hku.form;have hcv:=z3C (P:=Tryz.prog) (c:=kc) Tryz.underlying29 Tryz.underlying5 Tryz.underlying9 (Cells.of_row hku);have hT4:Keep (fun _=>False) w w4:=HT.out.keep.next hk4 (fun _ _ x=>x) (fun j hj x=>by have h1:j=g:=x;have:=HG.out.2.2.1;omega);have hl4:=HT.out.row.keep hk4 (fun k e x=>HT.out.row.not_block HT.out.rd.head (by decide) (by rw[e,x]));have H4:=hid (zA1 hkr (zA1 hr4 (zA1 hT4 (zA1 hl4 hb1))));clear hkr hr4 hT4 hl4 hku hk4
       go_upto_region 8 with fail
       have hn5:=heap_alloc_new w4 (.cells #[.string (str key),.string { data:=#[] },.bool false] 63);have hk5:=kal w4 (.cells #[.string (str key),.string { data:=#[] },.bool false] 63);have hgg:=z0L H4.out.2.1.head;obtain⟨gb,hgb⟩:=zX1 (w4.heap.size);obtain⟨w5,hw5⟩:=zX1 (w4.alloc (.cells #[.string (str key),.string { data:=#[] },.bool false] 63));rw[← hw5] at hn5 hk5 ⊢;rw[← hgb] at hn5 hgg ⊢;have hgb9:w.heap.size≤gb:=by rw[hgb];exact H4.out.2.2.1.size
       clear hw5 hcv;have hr5:=H4.out.2.1.keep hk5 id (fun _ _=>id);have H5:=hid (zA1 hk5 hgb);clear hk5 hgb;go_wp2_with (at_builtin;refine z0A ?_;intro q hq);refine(zbS w5 g rv b a1 e1 hr5 H4.out.2.2.2.2.1 hbl).mono ?_;rintro e w6 ⟨rfl,hr6,hk6⟩;have hn6:=hk6.get hn5 (show ¬ gb=g by omega);have hb2:=zlI b (e:=e1) H4.out.2.2.2.2.1;obtain⟨ur,hur⟩:=zX1 (uS b (a1,e1));rw[← hur] at hr6 hb2 ⊢;obtain⟨gn,a2,e2⟩:=ur;simp only at hr6 hb2 ⊢;obtain⟨r1,r2,r3⟩:=zpO H4.out.1 hur;have hT6:Keep (fun _=>False) w w6:=(H4.out.2.2.1.next H5.out.1 (fun _ _ x=>x) (fun _ _ x=>x)).next hk6 (fun _ _ x=>x) (fun j hj x=>by have h1:j=g:=x;have:=HG.out.2.2.1;omega)
       have hl6:=(H4.out.2.2.2.1.keep H5.out.1 (fun _ _ x=>x)).keep hk6 (fun k e x=>by
        have h1:k=g:=x
        exact H4.out.2.2.2.1.not_block H4.out.2.1.head (by decide) (by rw[e,h1]))
       have hkl:ChOk ⟨key,[],true⟩:=⟨by have:=H4.out.2.2.2.2.2;simp only;unfold maxLen;omega,by simp only;unfold maxLen;decide⟩;have H6:=hid (zA1 hr6 (zA1 hT6 (zA1 hl6 (zA1 hb2 hkl))));have HRD:=hid (zA1 r1 (zA1 r2 r3));clear hr5 hn5 hr6 hk6 hur r1 r2 r3 hT6 hl6 hb2 hkl;obtain⟨j0,j1,j2,jf,jb⟩:=z0V hn6
       by_cases hg1:1<gn
       ·have t3:decide ((1:Int)<(gn:Int))=true:=by simp;omega
        go_wp2_with (at_builtin;refine z0A ?_;intro q hq);go_ret2;refine⟨H6.out.2.1,?_⟩;rw[zeE HU.out (HN.out.1 (HRD.out.1 hg1))];rfl
       ·have t3:decide ((1:Int)<(gn:Int))=false:=by simp;omega
        rcases (show gn=1∨gn=0 by omega) with rfl | rfl
        ·obtain⟨rfl,hch⟩:=HRD.out.2.1 rfl
         have his:=HN.out.2 _ _ hch;have HI:=hid his;clear his hch t3 hg1
         go_upto_region 12 with fail
         have hk7:Keep (fun k=>k=gb) w6 (w6.setCell ⟨gb,2,none⟩ (.bool true)):=kst;have hn7:=heap_setCell_same w6 gb 2 _ _ (.bool true) hn6;obtain⟨w7,hw7⟩:=zX1 (w6.setCell ⟨gb,2,none⟩ (.bool true));rw[← hw7] at hk7 hn7 ⊢;clear hw7 j0 j1 j2 jf jb hn6;obtain⟨j0,j1,j2,jf,jb⟩:=z0V hn7;have hT7:Keep (fun _=>False) w w7:=H6.out.2.1.next hk7 (fun _ _ x=>x) (fun j hj x=>by have h1:j=gb:=x;omega)
         have hl7:=H6.out.2.2.1.keep hk7 (fun k e x=>by
          have h1:k=gb:=x;have:=H4.out.2.2.2.1.lt e;have:=H5.out.2
          omega)
         have hr7:=H6.out.1.keep hk7 (show ¬ g=gb by omega) (fun k e x=>by
          have h1:k=gb:=x;have:=H4.out.2.1.row.lt e;have:=H5.out.2
          omega)
         have H7:=hid (zA1 hT7 (zA1 hl7 hr7));clear hk7 hn7 hT7 hl7 hr7;go_wp2_with (at_builtin;refine z0A ?_;intro q hq)
         (refine hq.out ?_;clear hq q)
         have hn8:=heap_alloc_new w7 (.cells #[.string (str key),.string { data:=#[] },.bool true] 63);have hk8:=kal w7 (.cells #[.string (str key),.string { data:=#[] },.bool true] 63);obtain⟨w8,hw8⟩:=zX1 (w7.alloc (.cells #[.string (str key),.string { data:=#[] },.bool true] 63));rw[← hw8] at hn8 hk8 ⊢;clear hw8;have hrow8:=(H7.out.2.1.keep hk8 (fun _ _ x=>x));refine wpList_plain rfl (fun K hK=>?_)
         refine z0R zjD (.tmp 46) (.tmp 48) rfl rfl hrow8 (some ⟨w7.heap.size,0,none⟩) 1 1 (chV ⟨key,[],true⟩) (by rfl)
          ⟨rfl,fun _=>⟨_,rfl,fun t u hu=>by rw[z0J,Nat.zero_add,cell_of_row _ _ _ _ _ _ hn8];simpa [chV,str] using hu⟩⟩ (z5V _) (by unfold maxLen;omega) (by omega) ?_
         intro v9 w9 hr9 hk9 hv9;refine hK _ _ ?_;clear hK K;have hs8:=hk8.size
         have hown9:∀ k,v9.ownBlock=some k→w.heap.size≤k:=fun k e=>by
          rcases hv9 with ⟨_,h0⟩ | ⟨b',h1,h2⟩
          ·omega
          ·rw[e] at h1
           cases h1
           rcases h2 with h2 | h2
           ·exact HT.out.own _ h2
           ·have:=H7.out.1.size;omega
         have HT9:=hid (HT.out.next (H7.out.1.next hk8 (fun _ _ x=>x) (fun _ _ x=>x.elim)) (H7.out.2.2.keep hk8 id (fun _ _=>id)) hrow8 hk9 hr9 hown9 H6.out.2.2.2.2 H6.out.2.2.2.1.1 (.inl ⟨rfl,HI.out⟩));clear hn8 hk8 hrow8 hr9 hk9 hv9 hs8 hown9 j0 j1 j2 jf jb;go_wp2_with (at_builtin;refine z0A ?_;intro q hq);go_roundw
         case rel=>exact⟨i+1,_,_,_,by omega,by omega,by go_num,HT9⟩
         case measure=>simp[intOf];omega
        ·have hch:=HRD.out.2.2 rfl
         have HI:=hid hch;clear hch t3 hg1
         go_upto_region 12 with fail
         have hk7:Keep (fun k=>k=gb) w6 (w6.setCell ⟨gb,2,none⟩ (.bool false)):=kst;have hn7:=heap_setCell_same w6 gb 2 _ _ (.bool false) hn6;obtain⟨w7,hw7⟩:=zX1 (w6.setCell ⟨gb,2,none⟩ (.bool false));rw[← hw7] at hk7 hn7 ⊢;clear hw7 j0 j1 j2 jf jb hn6;obtain⟨j0,j1,j2,jf,jb⟩:=z0V hn7;have hT7:Keep (fun _=>False) w w7:=H6.out.2.1.next hk7 (fun _ _ x=>x) (fun j hj x=>by have h1:j=gb:=x;omega)
         have hl7:=H6.out.2.2.1.keep hk7 (fun k e x=>by
          have h1:k=gb:=x;have:=H4.out.2.2.2.1.lt e;have:=H5.out.2
          omega)
         have hr7:=H6.out.1.keep hk7 (show ¬ g=gb by omega) (fun k e x=>by
          have h1:k=gb:=x;have:=H4.out.2.1.row.lt e;have:=H5.out.2
          omega)
         have H7:=hid (zA1 hT7 (zA1 hl7 hr7));have HN7:=hid hn7;clear hk7 hn7 hT7 hl7 hr7;go_wp2_with (at_builtin;refine z0A ?_;intro q hq);refine(zcT w7 g rv b a2 e2 128 128 rfl H7.out.2.2 H6.out.2.2.2.1.1 hbl (by decide)).mono ?_;rintro e w10 ⟨vu,rfl,hvu,hr10,hk10⟩;have hb3:=zrT b 128 (e:=e2) H6.out.2.2.2.1.1;obtain⟨vr,hvr⟩:=zX1 (bS b 128 (a2,e2));rw[← hvr] at hvu hr10 hb3;obtain⟨val,a3,e3⟩:=vr;simp only at hvu hr10 hb3;obtain⟨vo,vc,rfl,-⟩:=hvu.form;have hcv:=z3C (P:=Tryz.prog) (c:=vc) Tryz.underlying29 Tryz.underlying5 Tryz.underlying9 (Cells.of_row hvu);have hn10:=hk10.get HN7.out (show ¬ gb=g by omega)
         have hl10:=H7.out.2.1.keep hk10 (fun k e x=>by
          have h1:k=g:=x
          exact H7.out.2.1.not_block H7.out.2.2.head (by decide) (by rw[e,h1]))
         have hT10:Keep (fun _=>False) w w10:=H7.out.1.next hk10 (fun _ _ x=>x) (fun j hj x=>by have h1:j=g:=x;have:=HG.out.2.2.1;omega)
         have his:(e3=0∧∀ k,i+1+k=m→z2A b m t0=(z2A b k a3).map fun p=>(acc ++ [⟨key,val,false⟩] ++ p.1,p.2))∨(e3≠0∧z2A b m t0=none):=by
          rcases HI.out val a3 e3 hvr with ⟨h1,h2⟩ | ⟨h1,h2⟩
          ·exact .inl ⟨h1,HN.out.2 _ _ h2⟩
          ·exact .inr ⟨h1,HN.out.1 h2⟩
         have hvl:ChOk ⟨key,val,false⟩:=⟨H6.out.2.2.2.2.1,by have:=hb3.2;simp only;unfold maxLen;omega⟩;have H10:=hid (zA1 hT10 (zA1 hl10 (zA1 hr10 (zA1 hvl (zA1 hb3.1 his)))));clear j0 j1 j2 jf jb;obtain⟨j0,j1,j2,jf,jb⟩:=z0V hn10;clear hvu hr10 hk10 hvr hl10 hT10 his hvl hb3
         go_upto_region 14 with fail
         have hk11:Keep (fun k=>k=gb) w10 (w10.setCell ⟨gb,1,none⟩ (.string (str val))):=kst;have hn11:=heap_setCell_same w10 gb 1 _ _ (.string (str val)) hn10;obtain⟨w11,hw11⟩:=zX1 (w10.setCell ⟨gb,1,none⟩ (.string (str val)));rw[← hw11] at hk11 hn11 ⊢;clear hw11 j0 j1 j2 jf jb hn10 hcv;obtain⟨j0,j1,j2,jf,jb⟩:=z0V hn11;have hT11:Keep (fun _=>False) w w11:=H10.out.1.next hk11 (fun _ _ x=>x) (fun j hj x=>by have h1:j=gb:=x;omega)
         have hl11:=H10.out.2.1.keep hk11 (fun k e x=>by
          have h1:k=gb:=x;have:=H4.out.2.2.2.1.lt e;have:=H5.out.2
          omega)
         have hr11:=H10.out.2.2.1.keep hk11 (show ¬ g=gb by omega) (fun k e x=>by
          have h1:k=gb:=x;have:=H4.out.2.1.row.lt e;have:=H5.out.2
          omega)
         have H11:=hid (zA1 hT11 (zA1 hl11 (zA1 hr11 H10.out.2.2.2)));clear hk11 hn11 hT11 hl11 hr11;go_wp2_with (at_builtin;refine z0A ?_;intro q hq)
         (refine hq.out ?_;clear hq q)
         have hn8:=heap_alloc_new w11 (.cells #[.string (str key),.string (str val),.bool false] 63);have hk8:=kal w11 (.cells #[.string (str key),.string (str val),.bool false] 63);obtain⟨w8,hw8⟩:=zX1 (w11.alloc (.cells #[.string (str key),.string (str val),.bool false] 63));rw[← hw8] at hn8 hk8 ⊢;clear hw8;have hrow8:=(H11.out.2.1.keep hk8 (fun _ _ x=>x));refine wpList_plain rfl (fun K hK=>?_)
         refine z0R zjD (.tmp 46) (.tmp 48) rfl rfl hrow8 (some ⟨w11.heap.size,0,none⟩) 1 1 (chV ⟨key,val,false⟩) (by rfl)
          ⟨rfl,fun _=>⟨_,rfl,fun t u hu=>by rw[z0J,Nat.zero_add,cell_of_row _ _ _ _ _ _ hn8];simpa [chV,str] using hu⟩⟩ (z5V _) (by unfold maxLen;omega) (by omega) ?_
         intro v9 w9 hr9 hk9 hv9;refine hK _ _ ?_;clear hK K;have hs8:=hk8.size
         have hown9:∀ k,v9.ownBlock=some k→w.heap.size≤k:=fun k e=>by
          rcases hv9 with ⟨_,h0⟩ | ⟨b',h1,h2⟩
          ·omega
          ·rw[e] at h1
           cases h1
           rcases h2 with h2 | h2
           ·exact HT.out.own _ h2
           ·have:=H11.out.1.size;omega
         have HT9:=hid (HT.out.next (H11.out.1.next hk8 (fun _ _ x=>x) (fun _ _ x=>x.elim)) (H11.out.2.2.1.keep hk8 id (fun _ _=>id)) hrow8 hk9 hr9 hown9 H11.out.2.2.2.1 H11.out.2.2.2.2.1 H11.out.2.2.2.2.2);clear hn8 hk8 hrow8 hr9 hk9 hv9 hs8 hown9 j0 j1 j2 jf jb;go_wp2_with (at_builtin;refine z0A ?_;intro q hq);go_roundw
         case rel=>exact⟨i+1,_,_,_,by omega,by omega,by go_num,HT9⟩
         case measure=>simp[intOf];omega
      ·have t2:decide ((i:Int)≤32)=false:=by simp;omega
       obtain rfl:i=33:=by omega
       obtain⟨lo,lc,rfl,-⟩:=HT.out.row.form;have hd:=znY HU.out (by omega);have HD:=hid hd;clear hd hnx;go_wp2_with (at_builtin;refine z0A ?_;intro q hq);refine(z3L wr g rv b at_ 0 HT.out.rd).mono ?_;rintro e w3 ⟨rfl,rfl⟩;go_wp2_with (at_builtin;refine z0A ?_;intro q hq);refine(z3L w3 g rv b at_ 0 HT.out.rd).mono ?_;rintro e w4 ⟨rfl,rfl⟩;obtain⟨d,hd⟩:=zX1 (b.length - at_);have hcall:=z9L w4 g rv b at_ HT.out.rd HT.out.pos hbl;rw[← hd] at hcall;have t4:(((33:Nat):Int) != (m:Int))=true:=by simp;omega
       go_wp2_with (at_builtin;refine z0A ?_;intro q hq);refine hcall.mono ?_;rintro e w5 ⟨rfl,hk5⟩;have HK5:=hid (HT.out.keep.next hk5 (fun _ _ x=>x) (fun _ _ x=>x));clear hcall hk5 hd
       by_cases hdz:d=0
       ·subst hdz
        go_wp2_with (at_builtin;refine z0A ?_;intro q hq);go_ret2;refine⟨HK5.out,?_⟩;rw[HD.out];rfl
       ·have t5:decide ((0:Int)<(d:Int))=true:=by simp;omega
        go_wp2_with (at_builtin;refine z0A ?_;intro q hq);go_ret2;refine⟨HK5.out,?_⟩;rw[HD.out];rfl
     ·obtain rfl:i=m:=by omega
      have t1:decide ((i:Int)<(i:Int))=false:=by simp
      obtain⟨lo,lc,rfl,-⟩:=HT.out.row.form;have hd:=ziS HU.out (show z2A b i t0=some (acc,at_) by rw[hnx 0 rfl];simp[z2A]) HT.out.len;have hri:=fun wx (hk:Keep (fun _=>False) wr wx)=>zfB wx lo i lc acc (Chs.of_row (by rw[HT.out.len];exact HT.out.row.keep hk (fun _ _ x=>x)) HT.out.ok) HT.out.len.symm;have HD:=hid hd;have HRI:=hid hri;clear hd hnx hri;go_wp2_with (at_builtin;refine z0A ?_;intro q hq);refine(z3L wr g rv b at_ 0 HT.out.rd).mono ?_;rintro e w3 ⟨rfl,rfl⟩;obtain⟨d,hd⟩:=zX1 (b.length - at_);have hcall:=z9L w3 g rv b at_ HT.out.rd HT.out.pos hbl;rw[← hd] at hcall;go_wp2_with (at_builtin;refine z0A ?_;intro q hq);refine hcall.mono ?_;rintro e w5 ⟨rfl,hk5⟩;have HK5:=hid (zA1 hk5 (zA1 (HT.out.keep.next hk5 (fun _ _ x=>x) (fun _ _ x=>x)) hd));clear hcall hk5 hd
      by_cases hdz:d=0
      ·subst hdz
       have t4:=wu64 i (by omega);go_wp2_with (at_builtin;refine z0A ?_;intro q hq);refine(HRI.out w5 HK5.out.1).mono ?_;rintro e w6 ⟨rfl,hk6⟩;have HK6:=hid (zA1 hk6 (HK5.out.2.1.next hk6 (fun _ _ x=>x) (fun _ _ x=>x)));clear hk6
       cases hr:right acc with
       | false=>
         have HRR:=hid hr;clear hr;simp only[Bool.false_eq_true,if_false];go_wp2_with (at_builtin;refine z0A ?_;intro q hq);go_ret2;refine⟨HK6.out.2,?_⟩;rw[HD.out,if_neg (by rw[HRR.out];simp)];rfl
       | true=>
         have HRR:=hid hr;clear hr;simp only[if_true]
         by_cases hlong:1024<n
         ·have t6:decide ((1024:Int)<(n:Int))=true:=by simp;omega
          go_wp2_with (at_builtin;refine z0A ?_;intro q hq);go_ret2;refine⟨HK6.out.2,?_⟩;rw[HD.out,if_neg (by have:=H.out.2;omega)];rfl
         ·have t6:decide ((1024:Int)<(n:Int))=false:=by simp;omega
          go_wp2_with (at_builtin;refine z0A ?_;intro q hq);go_ret2;refine⟨HK6.out.2,?_⟩;rw[HD.out,if_pos ⟨by have:=HK5.out.2.2;have:=HT.out.pos;omega,HRR.out,by have:=H.out.2;omega⟩];exact⟨_,rfl,by rw[HT.out.len];exact(HT.out.row.keep HK5.out.1 (fun _ _ x=>x)).keep HK6.out.1 (fun _ _ x=>x),HT.out.own⟩
      ·have t5:decide ((0:Int)<(d:Int))=true:=by simp;omega
       go_wp2_with (at_builtin;refine z0A ?_;intro q hq);go_ret2;refine⟨HK5.out.2.1,?_⟩;rw[HD.out,if_neg (by have:=HK5.out.2.2;omega)];rfl
    ·have te:((err:Int) != 0)=true:=by simp;omega
     have te2:((err:Int) == 0)=false:=by simp;omega
     have hd:=zeE HU.out hnone;have HD:=hid hd;clear hd hnone
     by_cases hin:i<m
     ·have t1:decide ((i:Int)<(m:Int))=true:=by simp;omega
      go_wp2_with (at_builtin;refine z0A ?_;intro q hq);refine(z3L wr g rv b at_ err HT.out.rd).mono ?_;rintro e w3 ⟨rfl,rfl⟩;go_wp2_with (at_builtin;refine z0A ?_;intro q hq);refine(z3L w3 g rv b at_ err HT.out.rd).mono ?_;rintro e w4 ⟨rfl,rfl⟩;go_wp2_with (at_builtin;refine z0A ?_;intro q hq);go_ret2;refine⟨HT.out.keep,?_⟩;rw[HD.out];rfl
     ·have t1:decide ((i:Int)<(m:Int))=false:=by simp;omega
      go_wp2_with (at_builtin;refine z0A ?_;intro q hq);refine(z3L wr g rv b at_ err HT.out.rd).mono ?_;rintro e w4 ⟨rfl,rfl⟩;go_wp2_with (at_builtin;refine z0A ?_;intro q hq);go_ret2;refine⟨HT.out.keep,?_⟩;rw[HD.out];rfl
end
section
open Go.RowKit
open MI SO BM
theorem zbE {b:List UInt8} {t:Nat} (h:t<b.length) (hx:(b.getD t 0).toNat<128):uint b t = .yes (b.getD t 0).toNat (t+1):=by
 unfold uint digits;rw[if_neg (by omega)];simp only;rw[if_neg (by omega),if_neg (by omega),if_neg (by omega),Nat.add_zero,if_pos hx];simp
theorem zpW {b:List UInt8} {t g t2:Nat} (h:t<b.length) (hx:1<(b.getD t 0).toNat) (hu:uint b t = .yes g t2):1<g:=by
 by_cases hs:(b.getD t 0).toNat<128
 ·rw[zbE h hs] at hu
  injection hu with e1 e2
  omega
 ·obtain⟨u1,u2,u3,u4⟩:=z2N hu
  by_cases hg:g<128
  ·rw[zeK hg,zeS h,show t2 - t=(t2 - t - 1)+1 by omega,List.take_succ_cons] at u4
   injection u4 with e1 e2
   rw[e1] at hs;simp at hs;omega
  ·omega
theorem ztD {b:List UInt8} {at_ x:Nat} (h:z1A b at_ 16 = .no x):chAt b at_=none:=by unfold chAt;rw[h]
theorem zpX {b:List UInt8} {at_ t:Nat} {k:Str} (h:z1A b at_ 16 = .yes k t) (ht:b.length≤t):chAt b at_=none:=by
 unfold chAt;rw[h];simp only
 have:uint b t = .no (if b.length<t then 2 else 10):=by
  unfold uint;split
  ·rfl
  ·unfold digits;rw[if_pos (by omega)]
 rw[this]
theorem zqC {b:List UInt8} {at_ t:Nat} {k:Str} (h:z1A b at_ 16 = .yes k t) (ht:t<b.length) (hx:1<(b.getD t 0).toNat):chAt b at_=none:=by
 unfold chAt;rw[h];simp only
 cases hu:uint b t with
 | no x=>rfl
 | yes g t2=>simp only;rw[if_pos (zpW ht hx hu)]
theorem zpT {b:List UInt8} {at_ t:Nat} {k:Str} (h:z1A b at_ 16 = .yes k t) (ht:t<b.length) (hx:(b.getD t 0).toNat=1):chAt b at_=some (⟨k,[],true⟩,t+1):=by
 unfold chAt;rw[h];simp only;rw[zbE ht (by omega),hx];simp
theorem zmD {b:List UInt8} {at_ t:Nat} {k:Str} (h:z1A b at_ 16 = .yes k t) (ht:t<b.length) (hx:(b.getD t 0).toNat=0) :
  (∀ x,z1A b (t+1) 128 = .no x→chAt b at_=none)∧∀ v t3,z1A b (t+1) 128 = .yes v t3→chAt b at_=some (⟨k,v,false⟩,t3):=by
 unfold chAt;rw[h];simp only;rw[zbE ht (by omega),hx];refine⟨fun x e=>?_,fun v t3 e=>?_⟩ <;> simp[e]
theorem zsU {b:List UInt8} {m t0 t2:Nat} {l:List Ch} (hu:uint b 0 = .yes m t0) (_hm:m≤32) (h:z2A b m t0=some (l,t2)):dec b=if encE l=0∧enc l=b then some l else none:=by
 obtain⟨u1,u2,u3,u4⟩:=z2N hu;obtain⟨c1,c2,c3,c4⟩:=zaY m t0 t2 l u3 h
 have he:enc l=b.take t2:=by
  unfold enc;rw[c1,← u4,← c4,List.drop_zero,Nat.sub_zero,show b.take t2=b.take (t0+(t2 - t0)) by congr 1;omega,List.take_add]
 have hlen:(enc l).length=t2:=by rw[he,List.length_take];omega
 have hb:enc l=b↔t2=b.length:=by
  rw[he];constructor
  ·intro e
   have:=congrArg List.length e;rw[List.length_take] at this;omega
  ·intro e
   rw[e,List.take_length]
 rw[ziS hu h c1];congr 1;unfold encE;rw[hb,hlen];apply propext;constructor
 ·rintro⟨h1,h2,h3⟩
  rw[h2,if_pos rfl,if_neg (by omega)];exact⟨rfl,h1⟩
 ·rintro⟨h1,h2⟩
  cases hr:right l with
  | false=>rw[hr] at h1;simp at h1
  | true=>
    rw[hr,if_pos rfl] at h1;refine⟨h2,rfl,?_⟩;rw[← h2]
    by_cases h3:1024<t2
    ·rw[if_pos h3] at h1;cases h1
    ·omega
theorem Cells.pre {w w':World} {ao:Option Addr} {n size:Nat} {xs:List Value} (h:Cells w ao n size xs) (hp:Pre w w'):Cells w' ao n size xs:=
 ⟨h.1,fun h0=>by
  obtain⟨ad,e,hc⟩:=h.2 h0;refine⟨ad,e,fun j u hu=>?_⟩;have h1:=hc j u hu;rw[World.cell?_of_block (hp.2 _ (World.block_lt_of_cell? w _ h1))]
  exact h1⟩
structure RDecRel (w:World) (b:List UInt8) (n t0 i:Nat) (acc:List Ch) (at_:Nat) (lv:Value) (wr:World):Prop where
 keep:Keep (fun _=>False) w wr
 row:Row wr 63 3 lv i (chsV acc)
 own:∀ k,lv.ownBlock=some k→w.heap.size≤k
 len:acc.length=i
 ok:∀ c ∈ acc,ChOk c
 pos:at_≤b.length
 is:∀ k,i+k=n→z2A b n t0=(z2A b k at_).map fun p=>(acc ++ p.1,p.2)
theorem RDecRel.next {w:World} {b:List UInt8} {n t0 i:Nat} {acc:List Ch} {a:Nat} {lv:Value} {wr:World} (h:RDecRel w b n t0 i acc a lv wr) {w9 w10:World} {c:Ch} {a':Nat} {lv':Value}
  (hkw:Keep (fun _=>False) w w9) (hk:Keep (fun k=>lv.ownBlock=some k) w9 w10) (hr:Row w10 63 3 lv' (i+1) (chsV acc ++ chV c))
  (ho:∀ k,lv'.ownBlock=some k→w.heap.size≤k) (hc:ChOk c) (hp:a'≤b.length) (his:∀ k,i+1+k=n→z2A b n t0=(z2A b k a').map fun p=>(acc ++ [c] ++ p.1,p.2)):RDecRel w b n t0 (i+1) (acc ++ [c]) a' lv' w10 where
 keep:=hkw.next hk (fun _ _ x=>x) (fun j hj x=>by have:=h.own j x;omega)
 row:=by rw[zbW,ziA];exact hr
 own:=ho
 len:=by simp[h.len]
 ok:=fun c' hc'=>by
  rcases List.mem_append.1 hc' with h1 | h1
  ·exact h.ok c' h1
  ·simp at h1;rw[h1];exact hc
 pos:=hp
 is:=his
theorem zgV (w:World) (ao:Option Addr) (n c:Nat) (b:List UInt8) (h:Cells w ao n 1 (z0B b)) (hnc:n≤c) (hn:n≤1000000000) :
  Calls Tryz.prog 48 #[.slice ao n c] w (DecPost w b):=by
 have hl:b.length=n:=by have:=h.1;rw[z0D] at this;omega
 have H:=hid (zA1 h hl);clear hl h;go_enter Tryz.func48,Tryz.ntmps48;go_wp2_with (at_builtin;refine z0A ?_;intro q hq);refine(show Calls Tryz.prog 98 #[.slice ao n c,.int .i64 0] w _ from z6X w ao n c 0 b H.out.1 (Nat.zero_le _) hn).mono ?_;rintro e w1 ⟨rfl,hk1⟩
 cases hu:uint b 0 with
 | no x=>
   have te:((x:Int) != 0)=true:=by have:=(z3I hu).1;simp;omega
   have HK:=hid (zA1 hk1 hu);clear hk1 hu;simp only[numV];go_wp2_with (at_builtin;refine z0A ?_;intro q hq);go_ret2;have hd:dec b=none:=by unfold dec;rw[HK.out.2]
   refine⟨HK.out.1,?_⟩;rw[hd];rfl
 | yes m t0=>
   obtain⟨u1,u2,u3,-⟩:=z2N hu;have HK:=hid hk1;have HU:=hid hu;clear hk1 hu;simp only[numV]
   by_cases hm:32<m
   ·have t1:decide ((32:Int)<(m:Int))=true:=by simp;omega
    go_wp2_with (at_builtin;refine z0A ?_;intro q hq);go_ret2;refine⟨HK.out,?_⟩;rw[znY HU.out hm];rfl
   ·have t1:decide ((32:Int)<(m:Int))=false:=by simp;omega
    have t2:=wi64 m (by omega);go_wp2_with (at_builtin;refine z0A ?_;intro q hq)
    go_loopw [5,7,8] (fun av lv iv wr=>∃ (i:Nat) (acc:List Ch) (at_:Nat),i≤m∧iv = .int .i64 i∧av = .int .i64 at_∧Hid (RDecRel w b m t0 i acc at_ lv wr)) (fun _ _ iv _=>m - (intOf iv).toNat)
    case atStart=>exact⟨0,[],t0,Nat.zero_le _,rfl,rfl,hid ⟨HK.out,Row.nil _ _ _,fun k e=>by simp[Value.ownBlock] at e,rfl,fun c hc=>by simp at hc,u3,fun k hk=>by
     obtain rfl:k=m:=by omega
     simp⟩⟩
    case round=>
     obtain⟨i,acc,at_,him,rfl,rfl,HT⟩:=hrel
     by_cases hin:i<m
     ·have t3:decide ((i:Int)<(m:Int))=true:=by simp;omega
      obtain⟨hno,hyes⟩:=zcY HT.out.is hin;have HN:=hid (zA1 hno hyes);clear hno hyes;have hret:chAt b at_=none→dec b=none:=fun h=>zeE HU.out (HN.out.1 h);have HX:=hid hret;clear hret;go_wp2_with (at_builtin;refine z0A ?_;intro q hq);refine(show Calls Tryz.prog 99 #[.slice ao n c,.int .i64 at_,.int .i64 16] wr _ from zbU wr ao n c at_ 16 b (H.out.1.keep HT.out.keep (fun _ _ x=>x)) hnc (by rw[← H.out.2];exact HT.out.pos) hn (by decide)).mono ?_
      cases hb:z1A b at_ 16 with
      | no x=>
        have te:((x:Int) != 0)=true:=by have:=(z5M hb).1;simp;omega
        have hd:=HX.out (ztD hb);have HD:=hid hd;clear hb hd;rintro e w2 ⟨rfl,hk2⟩;have HK2:=hid hk2;clear hk2;go_wp2_with (at_builtin;refine z0A ?_;intro q hq);go_ret2;refine⟨HT.out.keep.next HK2.out (fun _ _ x=>x) (fun _ _ x=>x),?_⟩;rw[HD.out];rfl
      | yes key t=>
        rintro e w2 ⟨kv,rfl,hf2⟩;obtain⟨ko,kc,rfl,-⟩:=hf2.row.form;have HF2:=hid (zA1 hf2 hb);clear hf2 hb
        by_cases ht:t<n
        ·have t4:decide ((n:Int)≤(t:Int))=false:=by simp;omega
         have t4':decide (n≤t)=false:=by simp;omega
         have htb:t<b.length:=by rw[H.out.2];exact ht
         have hcell:∀ wx,Keep (fun _=>False) w wx→∃ ad,ao=some ad∧wx.cell? (ad.add t)=some (.int .u8 ((b.getD t 0).toNat:Int)):=fun wx hk=>by
          obtain⟨ad,e,hc⟩:=(H.out.1.keep hk (fun _ _ x=>x)).2 (by omega);refine⟨ad,e,hc t _ ?_⟩;simp[z0B,htb]
         obtain⟨ad,rfl,hc2⟩:=hcell w2 (HT.out.keep.next HF2.out.1.keep (fun _ _ x=>x) (fun _ _ x=>x));obtain⟨x,hx⟩:=zX1 ((b.getD t 0).toNat);rw[← hx] at hc2;have HC:=hid (zA1 hx (zA1 htb hcell));clear hx htb hcell
         by_cases h1:1<x
         ·have t5:decide ((1:Int)<(x:Int))=true:=by simp;omega
          go_wp2_with (at_builtin;refine z0A ?_;intro q hq);go_ret2;refine⟨HT.out.keep.next HF2.out.1.keep (fun _ _ x=>x) (fun _ _ x=>x),?_⟩;rw[HX.out (zqC HF2.out.2 HC.out.2.1 (by rw[← HC.out.1];exact h1))];rfl
         ·have t5:decide ((1:Int)<(x:Int))=false:=by simp;omega
          go_wp2_with (at_builtin;refine z0A ?_;intro q hq);refine z0G [10059] (by kernel_rfl) (by kernel_rfl) ?_;have hk3:Keep (fun _=>False) w2 w2.drew:=(Keep.refl _ _).drew;have hcv:=fun wx (hp:Pre w2.drew wx)=>z3C (P:=Tryz.prog) (c:=kc) Tryz.underlying29 Tryz.underlying5 Tryz.underlying9 ((Cells.of_row (HF2.out.1.row.keep hk3 (fun _ _ x=>x))).pre hp);obtain⟨ad',e',hc3⟩:=HC.out.2.2 w2.drew ((HT.out.keep.next HF2.out.1.keep (fun _ _ x=>x) (fun _ _ x=>x)).next hk3 (fun _ _ x=>x) (fun _ _ x=>x));cases e';rw[← HC.out.1] at hc3;obtain⟨w3,hw3⟩:=zX1 (w2.drew);rw[← hw3] at hk3 hcv hc3 ⊢;have HCV:=hid hcv;clear hw3 hc2 hcv;have hkl:ChOk ⟨key,[],true⟩:=⟨by have:=(z4M HF2.out.2).1;simp only;unfold maxLen;omega,by simp only;unfold maxLen;decide⟩;have HKL:=hid hkl;clear hkl
          rcases (show x=1∨x=0 by omega) with rfl | rfl
          ·repeat (first | (apply z0F (by rfl);(intro K w';go_simp;exact id)) | (apply z0I (by rfl);(intro K;go_simp;exact id)))
           (apply zgN (by rfl);(intro K w' hp;have hcv:=HCV.out w' hp;go_simp;exact id))
           repeat (first | (apply z0F (by rfl);(intro K w';go_simp;exact id)) | (apply z0I (by rfl);(intro K;go_simp;exact id)))
           (refine z2G (by rfl) (by rfl) (fun K hK=>?_);go_simp;refine hK _ _ (Pre.push _ rfl) ?_;clear hK K)
           have hn4:(w3.alloc (.cells #[.string { data:=#[] },.string { data:=#[] },.bool false] 63)).heap[w3.heap.size]?=some (.cells #[.string { data:=#[] },.string { data:=#[] },.bool false] 63 (0,0)):=heap_alloc_new w3 _;have hk4:Keep (fun _=>False) w3 (w3.alloc (.cells #[.string { data:=#[] },.string { data:=#[] },.bool false] 63)):=((Keep.refl _ _).alloc _);obtain⟨w4,hw4⟩:=zX1 ((w3.alloc (.cells #[.string { data:=#[] },.string { data:=#[] },.bool false] 63)));rw[← hw4] at hn4 hk4 ⊢;clear hw4;refine z0M (by rfl) (by rfl) (fun K hK=>?_);refine z3U 63 (.tmp 12) (.tmp 65) rfl w3.heap.size rfl [.string (str key),.string { data:=#[] },.bool true] rfl 63 _ (0,0) hn4 (Free.zero _) rfl (by intro u hu;simp at hu;rcases hu with rfl | rfl | rfl <;> rfl) (by kernel_rfl) ?_;refine hK _ _ ?_;clear hK K;refine z0S ?_;have hn5:=setRow_heap w4 w3.heap.size _ (#[.string (str key),.string { data:=#[] },.bool true]) _ _ hn4;have hk5:Keep (fun _=>False) w3 (w4.setRow w3.heap.size #[.string (str key),.string { data:=#[] },.bool true]):=Keep.setRow hk4 (.inr (Nat.le_refl _)) _;obtain⟨w5,hw5⟩:=zX1 (w4.setRow w3.heap.size #[.string (str key),.string { data:=#[] },.bool true]);rw[← hw5] at hn5 hk5 ⊢;clear hw5 hn4 hk4 hc3;have hT5:=((HT.out.keep.next HF2.out.1.keep (fun _ _ x=>x) (fun _ _ x=>x)).next hk3 (fun _ _ x=>x) (fun _ _ x=>x)).next hk5 (fun _ _ x=>x) (fun _ _ x=>x);have hl5:=((HT.out.row.keep HF2.out.1.keep (fun _ _ x=>x)).keep hk3 (fun _ _ x=>x)).keep hk5 (fun _ _ x=>x);obtain⟨gb,hgb⟩:=zX1 (w3.heap.size);rw[← hgb] at hn5 ⊢
           have hgl:∀ k,u7.ownBlock=some k→k≠gb:=fun k e=>by
            have h1:=HT.out.row.lt e;have h2:=HF2.out.1.keep.size;have h3:=hk3.size;omega
           have hgw:w.heap.size≤gb:=by
            have h1:=HT.out.keep.size;have h2:=HF2.out.1.keep.size;have h3:=hk3.size;omega
           have H5:=hid (zA1 hT5 (zA1 hl5 (zA1 hgl hn5)));obtain⟨j0,j1,j2,jf,jb⟩:=z0V hn5;clear hk3 hk5 hn5 hT5 hl5 hgb hgl;have his:=HN.out.2 _ _ (zpT HF2.out.2 HC.out.2.1 HC.out.1.symm);have HI:=hid his;clear his;go_wp2_with (at_builtin;refine z0A ?_;intro q hq)
           (refine hq.out ?_;clear hq q)
           have hn8:=heap_alloc_new w5 (.cells #[.string (str key),.string { data:=#[] },.bool true] 63);have hk8:=kal w5 (.cells #[.string (str key),.string { data:=#[] },.bool true] 63);obtain⟨w8,hw8⟩:=zX1 (w5.alloc (.cells #[.string (str key),.string { data:=#[] },.bool true] 63));rw[← hw8] at hn8 hk8 ⊢;clear hw8;have hrow8:=(H5.out.2.1.keep hk8 (fun _ _ x=>x));refine wpList_plain rfl (fun K hK=>?_)
           refine z0R zjD (.tmp 84) (.tmp 86) rfl rfl hrow8 (some ⟨w5.heap.size,0,none⟩) 1 1 (chV ⟨key,[],true⟩) (by rfl)
            ⟨rfl,fun _=>⟨_,rfl,fun t u hu=>by rw[z0J,Nat.zero_add,cell_of_row _ _ _ _ _ _ hn8];simpa [chV,str] using hu⟩⟩ (z5V _) (by unfold maxLen;omega) (by omega) ?_
           intro v9 w9 hr9 hk9 hv9;refine hK _ _ ?_;clear hK K;have hs8:=hk8.size
           have hown9:∀ k,v9.ownBlock=some k→w.heap.size≤k:=fun k e=>by
            rcases hv9 with ⟨_,h0⟩ | ⟨b',h1,h2⟩
            ·omega
            ·rw[e] at h1
             cases h1
             rcases h2 with h2 | h2
             ·exact HT.out.own _ h2
             ·have:=H5.out.1.size;omega
           have HT9:=hid (HT.out.next (H5.out.1.next hk8 (fun _ _ x=>x) (fun _ _ x=>x.elim)) hk9 hr9 hown9 HKL.out HC.out.2.1 HI.out);clear hn8 hk8 hrow8 hr9 hk9 hv9 hs8 hown9 j0 j1 j2 jf jb;go_wp2_with (at_builtin;refine z0A ?_;intro q hq);go_roundw
           case rel=>exact⟨i+1,_,_,by omega,by go_num,by go_num,HT9⟩
           case measure=>simp[intOf];omega
          ·repeat (first | (apply z0F (by rfl);(intro K w';go_simp;exact id)) | (apply z0I (by rfl);(intro K;go_simp;exact id)))
           (apply zgN (by rfl);(intro K w' hp;have hcv:=HCV.out w' hp;go_simp;exact id))
           repeat (first | (apply z0F (by rfl);(intro K w';go_simp;exact id)) | (apply z0I (by rfl);(intro K;go_simp;exact id)))
           (refine z2G (by rfl) (by rfl) (fun K hK=>?_);go_simp;refine hK _ _ (Pre.push _ rfl) ?_;clear hK K)
           have hn4:(w3.alloc (.cells #[.string { data:=#[] },.string { data:=#[] },.bool false] 63)).heap[w3.heap.size]?=some (.cells #[.string { data:=#[] },.string { data:=#[] },.bool false] 63 (0,0)):=heap_alloc_new w3 _;have hk4:Keep (fun _=>False) w3 (w3.alloc (.cells #[.string { data:=#[] },.string { data:=#[] },.bool false] 63)):=((Keep.refl _ _).alloc _);obtain⟨w4,hw4⟩:=zX1 ((w3.alloc (.cells #[.string { data:=#[] },.string { data:=#[] },.bool false] 63)));rw[← hw4] at hn4 hk4 ⊢;clear hw4;refine z0M (by rfl) (by rfl) (fun K hK=>?_);refine z3U 63 (.tmp 12) (.tmp 65) rfl w3.heap.size rfl [.string (str key),.string { data:=#[] },.bool false] rfl 63 _ (0,0) hn4 (Free.zero _) rfl (by intro u hu;simp at hu;rcases hu with rfl | rfl | rfl <;> rfl) (by kernel_rfl) ?_;refine hK _ _ ?_;clear hK K;refine z0S ?_;have hn5:=setRow_heap w4 w3.heap.size _ (#[.string (str key),.string { data:=#[] },.bool false]) _ _ hn4;have hk5:Keep (fun _=>False) w3 (w4.setRow w3.heap.size #[.string (str key),.string { data:=#[] },.bool false]):=Keep.setRow hk4 (.inr (Nat.le_refl _)) _;obtain⟨w5,hw5⟩:=zX1 (w4.setRow w3.heap.size #[.string (str key),.string { data:=#[] },.bool false]);rw[← hw5] at hn5 hk5 ⊢;clear hw5 hn4 hk4 hc3;have hT5:=((HT.out.keep.next HF2.out.1.keep (fun _ _ x=>x) (fun _ _ x=>x)).next hk3 (fun _ _ x=>x) (fun _ _ x=>x)).next hk5 (fun _ _ x=>x) (fun _ _ x=>x);have hl5:=((HT.out.row.keep HF2.out.1.keep (fun _ _ x=>x)).keep hk3 (fun _ _ x=>x)).keep hk5 (fun _ _ x=>x);obtain⟨gb,hgb⟩:=zX1 (w3.heap.size);rw[← hgb] at hn5 ⊢
           have hgl:∀ k,u7.ownBlock=some k→k≠gb:=fun k e=>by
            have h1:=HT.out.row.lt e;have h2:=HF2.out.1.keep.size;have h3:=hk3.size;omega
           have hgw:w.heap.size≤gb:=by
            have h1:=HT.out.keep.size;have h2:=HF2.out.1.keep.size;have h3:=hk3.size;omega
           have H5:=hid (zA1 hT5 (zA1 hl5 (zA1 hgl hn5)));obtain⟨j0,j1,j2,jf,jb⟩:=z0V hn5;clear hk3 hk5 hn5 hT5 hl5 hgb hgl;have hz:=zmD HF2.out.2 HC.out.2.1 HC.out.1.symm;have HZ:=hid hz;clear hz;go_wp2_with (at_builtin;refine z0A ?_;intro q hq);refine(show Calls Tryz.prog 99 #[.slice (some ad) n c,.int .i64 ((t:Int)+1),.int .i64 128] w5 _ from zbU w5 (some ad) n c (t+1) 128 b (H.out.1.keep H5.out.1 (fun _ _ x=>x)) hnc (by omega) hn (by decide)).mono ?_
           cases hb2:z1A b (t+1) 128 with
           | no y=>
             have te:((y:Int) != 0)=true:=by have:=(z5M hb2).1;simp;omega
             have hd:=HX.out (HZ.out.1 _ hb2);have HD:=hid hd;clear hb2 hd;rintro e w6 ⟨rfl,hk6⟩;have HK6:=hid (H5.out.1.next hk6 (fun _ _ x=>x) (fun _ _ x=>x));clear hk6;go_wp2_with (at_builtin;refine z0A ?_;intro q hq);go_ret2;refine⟨HK6.out,?_⟩;rw[HD.out];rfl
           | yes val t3=>
             rintro e w6 ⟨vv,rfl,hf6⟩;obtain⟨vo,vc,rfl,-⟩:=hf6.row.form;have hvp:=z4M hb2;have his:=HN.out.2 _ _ (HZ.out.2 _ _ hb2);have hvl:ChOk ⟨key,val,false⟩:=⟨HKL.out.1,by have:=hvp.1;simp only;unfold maxLen;omega⟩;have hcv:=z3C (P:=Tryz.prog) (c:=vc) Tryz.underlying29 Tryz.underlying5 Tryz.underlying9 (Cells.of_row hf6.row);have hn6:=hf6.keep.get H5.out.2.2.2 id;have H6:=hid (zA1 (H5.out.1.next hf6.keep (fun _ _ x=>x) (fun _ _ x=>x)) (zA1 (H5.out.2.1.keep hf6.keep (fun _ _ x=>x)) (zA1 hvl (zA1 hvp.2.2.1 his))));clear j0 j1 j2 jf jb;obtain⟨j0,j1,j2,jf,jb⟩:=z0V hn6;clear hb2 hvp his hvl hf6
             go_upto_region 18 with fail
             have hk7:Keep (fun k=>k=gb) w6 (w6.setCell ⟨gb,1,none⟩ (.string (str val))):=kst;have hn7:=heap_setCell_same w6 gb 1 _ _ (.string (str val)) hn6;obtain⟨w7,hw7⟩:=zX1 (w6.setCell ⟨gb,1,none⟩ (.string (str val)));rw[← hw7] at hk7 hn7 ⊢;clear hw7 j0 j1 j2 jf jb hn6 hcv;obtain⟨j0,j1,j2,jf,jb⟩:=z0V hn7;have H7:=hid (zA1 (H6.out.1.next hk7 (fun _ _ x=>x) (fun j hj x=>by have h1:j=gb:=x;omega)) (H6.out.2.1.keep hk7 (fun k e x=>H5.out.2.2.1 k e x)));clear hk7 hn7;go_wp2_with (at_builtin;refine z0A ?_;intro q hq)
             (refine hq.out ?_;clear hq q)
             have hn8:=heap_alloc_new w7 (.cells #[.string (str key),.string (str val),.bool false] 63);have hk8:=kal w7 (.cells #[.string (str key),.string (str val),.bool false] 63);obtain⟨w8,hw8⟩:=zX1 (w7.alloc (.cells #[.string (str key),.string (str val),.bool false] 63));rw[← hw8] at hn8 hk8 ⊢;clear hw8;have hrow8:=(H7.out.2.keep hk8 (fun _ _ x=>x));refine wpList_plain rfl (fun K hK=>?_)
             refine z0R zjD (.tmp 84) (.tmp 86) rfl rfl hrow8 (some ⟨w7.heap.size,0,none⟩) 1 1 (chV ⟨key,val,false⟩) (by rfl)
              ⟨rfl,fun _=>⟨_,rfl,fun t u hu=>by rw[z0J,Nat.zero_add,cell_of_row _ _ _ _ _ _ hn8];simpa [chV,str] using hu⟩⟩ (z5V _) (by unfold maxLen;omega) (by omega) ?_
             intro v9 w9 hr9 hk9 hv9;refine hK _ _ ?_;clear hK K;have hs8:=hk8.size
             have hown9:∀ k,v9.ownBlock=some k→w.heap.size≤k:=fun k e=>by
              rcases hv9 with ⟨_,h0⟩ | ⟨b',h1,h2⟩
              ·omega
              ·rw[e] at h1
               cases h1
               rcases h2 with h2 | h2
               ·exact HT.out.own _ h2
               ·have:=H7.out.1.size;omega
             have HT9:=hid (HT.out.next (H7.out.1.next hk8 (fun _ _ x=>x) (fun _ _ x=>x.elim)) hk9 hr9 hown9 H6.out.2.2.1 H6.out.2.2.2.1 H6.out.2.2.2.2);clear hn8 hk8 hrow8 hr9 hk9 hv9 hs8 hown9 j0 j1 j2 jf jb;go_wp2_with (at_builtin;refine z0A ?_;intro q hq);go_roundw
             case rel=>exact⟨i+1,_,_,by omega,by go_num,rfl,HT9⟩
             case measure=>simp[intOf];omega
        ·have t4:decide ((n:Int)≤(t:Int))=true:=by simp;omega
         have t4':decide (n≤t)=true:=by simp;omega
         go_wp2_with (at_builtin;refine z0A ?_;intro q hq);go_ret2;refine⟨HT.out.keep.next HF2.out.1.keep (fun _ _ x=>x) (fun _ _ x=>x),?_⟩;rw[HX.out (zpX HF2.out.2 (by have:=H.out.2;omega))];rfl
     ·obtain rfl:i=m:=by omega
      have t3:decide ((i:Int)<(i:Int))=false:=by simp
      obtain⟨lo,lc,rfl,-⟩:=HT.out.row.form;have hd:=zsU HU.out (by omega) (show z2A b i t0=some (acc,at_) by rw[HT.out.is 0 rfl];simp[z2A]);have HD:=hid hd;have hE:=zhT wr lo i lc acc (Chs.of_row (by rw[HT.out.len];exact HT.out.row) HT.out.ok) HT.out.len.symm;clear hd;go_wp2_with (at_builtin;refine z0A ?_;intro q hq);refine hE.mono ?_;rintro e w5 ⟨v5,rfl,hf5⟩;clear hE
      by_cases hz:encE acc=0
      ·rw[if_pos hz] at hf5
       rw[hz];obtain⟨eo,ec,rfl,-⟩:=hf5.row.form;have hcv:=z3C (P:=Tryz.prog) (c:=ec) Tryz.underlying29 Tryz.underlying5 Tryz.underlying9 (Cells.of_row hf5.row);have hcv2:=z3C (P:=Tryz.prog) (c:=c) Tryz.underlying29 Tryz.underlying5 Tryz.underlying9 (H.out.1.keep (HT.out.keep.next hf5.keep (fun _ _ x=>x) (fun _ _ x=>x)) (fun _ _ x=>x));have HK5:=hid (zA1 hz hf5.keep);clear hf5 hz
       by_cases he:enc acc=b
       ·have tq:(!((str (enc acc)).toList == (str b).toList))=false:=by rw[he];simp
        have HQ:=hid he;clear he;go_wp2_with (at_builtin;refine z0A ?_;intro q hq);go_ret2;refine⟨HT.out.keep.next HK5.out.2 (fun _ _ x=>x) (fun _ _ x=>x),?_⟩;rw[HD.out,if_pos ⟨HK5.out.1,HQ.out⟩];exact⟨_,rfl,by rw[HT.out.len];exact HT.out.row.keep HK5.out.2 (fun _ _ x=>x),HT.out.own⟩
       ·have tq:(!((str (enc acc)).toList == (str b).toList))=true:=by rw[z0Y,z0Y];simp[he]
        have HQ:=hid he;clear he;go_wp2_with (at_builtin;refine z0A ?_;intro q hq);go_ret2;refine⟨HT.out.keep.next HK5.out.2 (fun _ _ x=>x) (fun _ _ x=>x),?_⟩;rw[HD.out,if_neg (fun h=>HQ.out h.2)];rfl
      ·have te:((encE acc:Int) != 0)=true:=by simp;omega
       have HK5:=hid (zA1 hz hf5.keep);clear hf5 hz;go_wp2_with (at_builtin;refine z0A ?_;intro q hq);go_ret2;refine⟨HT.out.keep.next HK5.out.2 (fun _ _ x=>x) (fun _ _ x=>x),?_⟩;rw[HD.out,if_neg (fun h=>HK5.out.1 h.1)];rfl
end
section
open Go.RowKit
open Go.Maps
open MI SO BM
def MI.mapC (m:List (Str×Str)) (c:Ch):List (Str×Str):=if c.gone then AL.del m c.key else AL.put m c.key c.value
def MI.mapL (m:List (Str×Str)) (l:List Ch):List (Str×Str):=l.foldl mapC m
def MI.layL (ps:List (Str×Str)) (l:List Ch):List (Str×Str):=l.foldl lay1 ps
theorem MI.mapC_get {m ps:List (Str×Str)} (hs:Sorted ps) (h:∀ x,AL.get m x=AL.get ps x) (c:Ch) (x:Str):AL.get (mapC m c) x=AL.get (lay1 ps c) x:=by
 have:=zpG hs h ⟨0,false,c⟩ x;simpa [mapI,layI,mapC] using this
theorem MI.mapL_get:∀ (l:List Ch) {m ps:List (Str×Str)},Sorted ps→(∀ x,AL.get m x=AL.get ps x)→∀ x,AL.get (mapL m l) x=AL.get (layL ps l) x
 | [],_,_,_,h,x=>h x
 | c :: l,_,_,hs,h,x=>mapL_get l (z5X hs c) (mapC_get hs h c) x
theorem MI.mapC_len {m:List (Str×Str)} (h:AL.Ok m) (c:Ch):(mapC m c).length≤m.length+1:=by
 have h1:=AL.z9A h c.key;unfold mapC;split
 ·omega
 ·unfold AL.put;rw[List.length_append];simp;omega
def z2V (wp:Value) (mb:Nat) (dead:Bool):Array Value:=#[wp,.map (some mb),.bool dead]
structure LayRel (w:World) (mb:Nat) (m:List (Str×Str)) (m0 i:Nat) (wr:World):Prop where
 keep:Keep (fun k=>k=mb) w wr
 map:PairsAt wr mb m
 len:m.length≤m0+i
theorem zjI (w:World) (b mb:Nat) (wp:Value) (dead:Bool) (m:List (Str×Str)) (ao:Option Addr) (n c:Nat) (l:List Ch) (hh:w.heap[b]?=some (.cells (z2V wp mb dead) 106 (0,0))) (hp:PairsAt w mb m) (hbm:b≠mb) (h:Chs w (.slice ao n c) l) (hn:n=l.length)
  (ham:0<n→∀ x,ao=some x→x.block≠mb) (hml:m.length+n≤1000000) :
  Calls Tryz.prog 46 #[.pointer (some ⟨b,0,none⟩),.slice ao n c] w fun e w'=>e = .returned (.tuple #[])∧PairsAt w' mb (mapL m l)∧Keep (fun k=>k=mb) w w':=by
 have HS:=hid (zA1 h hn);have H0:=hid (zA1 hh (zA1 hp (zA1 hbm ham)));clear h hn hh hp hbm ham;go_enter Tryz.func46,Tryz.ntmps46;go_wp2_with (at_builtin;refine z0A ?_;intro q hq)
 go_loopw [8] (fun iv wr=>∃ i:Nat,i≤n∧iv = .int .i64 i∧Hid (LayRel w mb (mapL m (l.take i)) m.length i wr)) (fun iv _=>n - (intOf iv).toNat)
 case atStart=>exact⟨0,Nat.zero_le _,rfl,hid ⟨Keep.refl _ _,H0.out.2.1,by simp[mapL]⟩⟩
 case round=>
  obtain⟨i,hi,rfl,HT⟩:=hrel
  by_cases hin:i<n
  ·have h4:(i:Int)<n:=by omega
   have hil:i<l.length:=by rw[← HS.out.2];exact hin
   have hsu:mapL m (l.take (i+1))=mapC (mapL m (l.take i)) l[i]:=by
    unfold mapL;rw[List.take_add_one,List.getElem?_eq_getElem hil,Option.toList_some,List.foldl_append];rfl
   obtain⟨ad,rfl,a0,a1,a2,hok⟩:∃ ad,ao=some ad∧wr.cell? (ad.add (i * 3))=some (.string (str l[i].key))∧wr.cell? ⟨(ad.add (i * 3)).block,(ad.add (i * 3)).off+1,none⟩=some (.string (str l[i].value))∧wr.cell? ⟨(ad.add (i * 3)).block,(ad.add (i * 3)).off+2,none⟩=some (.bool l[i].gone)∧ChOk l[i]:=by
    obtain⟨ad,e,a0,a1,a2,hok⟩:=HS.out.1.get (Keep.refl _ w) i hil;have hb:(ad.add (i * 3)).block=ad.block:=by unfold Addr.add;split <;> rfl
    have hne:¬ (ad.add (i * 3)).block=mb:=by rw[hb];exact H0.out.2.2.2 (by omega) ad e
    have hcc:∀ a u,a.block=(ad.add (i * 3)).block→w.cell? a=some u→wr.cell? a=some u:=fun a u ha hu=>by
     rw[World.cell?_of_block (HT.out.keep.block _ (World.block_lt_of_cell? w _ hu) (by rw[ha];exact hne))];exact hu
    exact⟨ad,e,hcc _ _ rfl a0,hcc _ _ rfl a1,hcc _ _ rfl a2,hok⟩
   obtain⟨q,hq⟩:=zX1 (l[i]);rw[← hq] at a0 a1 a2 hok hsu;clear hq;obtain⟨m1,hm1⟩:=zX1 (mapL m (l.take i));rw[← hm1] at hsu HT;have HX:=hid hsu;clear hsu hm1;obtain⟨key,value,gone⟩:=q;simp only at a0 a1 a2
   go_upto_region 3 with fail
   have hn6:=heap_alloc_new wr (.cells #[.string (str key),.string (str value),.bool gone] 63);have hk6:=kal wr (.cells #[.string (str key),.string (str value),.bool gone] 63);obtain⟨gb,hgb⟩:=zX1 (wr.heap.size);obtain⟨w6,hw6⟩:=zX1 (wr.alloc (.cells #[.string (str key),.string (str value),.bool gone] 63));rw[← hw6] at hn6 hk6 ⊢;rw[← hgb] at hn6 ⊢;clear hw6 hgb a0 a1 a2;obtain⟨j0,j1,j2,jf,jb⟩:=z0V hn6;have hh6:=hk6.get (HT.out.keep.get H0.out.1 H0.out.2.2.1) id;obtain⟨i0,i1,i2,if0,ib0⟩:=z0V hh6;have hp6:PairsAt w6 mb m1:=MapAt.keep HT.out.map hk6 id;have hkey:=hok.1;have H6:=hid (zA1 hk6 (zA1 hp6 hkey));clear hn6 hk6 hh6 hp6 hok
   cases gone with
   | true=>
     obtain⟨w7,hrun7,hp7,hk7⟩:=MapAt.drop (MapAt.keep H6.out.2.1 ((Keep.refl (fun _=>False) w6).drew) id) zeL (t:=104) Tryz.underlying104 key hkey 0;have hk7:Keep (fun i=>i=mb) w6 w7:=((Keep.refl _ w6).drew).next hk7 (fun _ _ x=>x) (fun _ _ x=>x);have H7:=hid (zA1 hp7 hk7);clear hp7 hk7;go_wp2_with (at_builtin;refine z0A ?_;intro q hq);refine z0G [] (by kernel_rfl) (by kernel_rfl) ?_
     repeat (first | (apply z0F (by rfl);(intro K w';go_simp;exact id)) | (apply z0I (by rfl);(intro K;go_simp;exact id)))
     (refine z0M (by rfl) (by rfl) (fun K hK=>?_);go_simp;refine hK _ _ ?_;clear hK K)
     refine z0S ?_;clear hrun7;go_wp2_with (at_builtin;refine z0A ?_;intro q hq);go_roundw
     case rel=>exact⟨i+1,by omega,by go_num,by
      rw[HX.out]
      exact hid ⟨(HT.out.keep.next H6.out.1 (fun _ _ x=>x) (fun _ _ x=>x.elim)).next H7.out.2 (fun _ _ x=>x) (fun _ _ x=>x),H7.out.1,by have:=mapC_len HT.out.map.1 ⟨key,value,true⟩;have:=HT.out.len;omega⟩⟩
     case measure=>simp[intOf];omega
   | false=>
     have hml2:m1.length<maxLen:=by have:=HT.out.len;unfold maxLen;omega
     obtain⟨w7,hrun7,hp7,hk7⟩:=MapAt.store (MapAt.keep H6.out.2.1 ((Keep.refl (fun _=>False) w6).drew) id) zeL (t:=104) Tryz.underlying104 hml2 key hkey value;have hk7:Keep (fun i=>i=mb) w6 w7:=((Keep.refl _ w6).drew).next hk7 (fun _ _ x=>x) (fun _ _ x=>x);have H7:=hid (zA1 hp7 hk7);simp only[zqQ] at hrun7;clear hp7 hk7;go_wp2_with (at_builtin;refine z0A ?_;intro q hq);refine z0G [] (by kernel_rfl) (by kernel_rfl) ?_
     repeat (first | (apply z0F (by rfl);(intro K w';go_simp;exact id)) | (apply z0I (by rfl);(intro K;go_simp;exact id)))
     (refine z0M (by rfl) (by rfl) (fun K hK=>?_);go_simp;refine hK _ _ ?_;clear hK K)
     refine z0S ?_;clear hrun7;go_wp2_with (at_builtin;refine z0A ?_;intro q hq);go_roundw
     case rel=>exact⟨i+1,by omega,by go_num,by
      rw[HX.out]
      exact hid ⟨(HT.out.keep.next H6.out.1 (fun _ _ x=>x) (fun _ _ x=>x.elim)).next H7.out.2 (fun _ _ x=>x) (fun _ _ x=>x),H7.out.1,by have:=mapC_len HT.out.map.1 ⟨key,value,false⟩;have:=HT.out.len;omega⟩⟩
     case measure=>simp[intOf];omega
  ·have h4:decide ((i:Int)<n)=false:=by simp;omega
   obtain rfl:i=n:=by omega
   go_wp2_with (at_builtin;refine z0A ?_;intro q hq)
   go_end0
   have:=HT.out.map;rw[show l.take i=l by rw[HS.out.2];exact List.take_length] at this;exact⟨rfl,this,HT.out.keep⟩
end
end Go.Proofs.YtkjofdocgaiedaaGreat
