/- Texts StoC in one. Conditions: as each law names them. -/
import Derived.Deep.CutBlock
import Derived.Deep.DeepCutAuto
import Derived.Test.YtkjofdocgaiedaaGreatUao
set_option maxRecDepth 20000
set_option maxHeartbeats 8000000
namespace Go.Proofs.YtkjofdocgaiedaaGreat
section
open Go.RowKit
open MI SO BM
theorem z0V {w:World} {b:Nat} {T:TypeId} {a0 a1 a2:Value} (H:w.heap[b]?=some (.cells #[a0,a1,a2] T (0,0))) :
  w.cell? ⟨b,0,none⟩=some a0∧w.cell? ⟨b,1,none⟩=some a1∧w.cell? ⟨b,2,none⟩=some a2∧(∀ o,w.frozen? ⟨b,o,none⟩=false)∧b<w.heap.size:=by
 refine⟨?_,?_,?_,?_,z0L H⟩ <;> simp[World.cell?,World.frozen?,H]
theorem Row.not_block {w:World} {e:TypeId} {size:Nat} {v:Value} {n:Nat} {xs:List Value} {k:Nat} {cs:Array Value} {t:TypeId} {fz:Nat×Nat} (h:Row w e size v n xs) (hk:w.heap[k]?=Option.some (.cells cs t fz)) (ht:t≠e):¬ v.ownBlock=Option.some k:=by
 intro hv
 rcases h.2 with ⟨rfl,_⟩ | ⟨g,cap,cur,fz',rfl,hg,_⟩
 ·simp[Value.ownBlock] at hv
 ·simp[Value.ownBlock] at hv
  rw[hv,hk] at hg;cases hg;exact ht rfl
theorem putB_len (s:Str):(putB s).length≤s.length+10:=by
 have:=z4B 10 s.length;unfold putB z0H;rw[List.length_append];omega
theorem zqF {c:Ch} (h:z1G c=true):(encC c).length≤165:=by
 simp only[z1G,decide_eq_true_eq] at h;have h1:=putB_len c.key;have h2:=putB_len c.value;unfold encC;rw[List.length_append];split
 ·simp;omega
 ·simp;omega
theorem zdS:∀ {l:List Ch},(∀ c ∈ l,z1G c=true)→(l.flatMap encC).length≤165 * l.length
 | [],_=>by simp
 | c :: l,h=>by
   have h1:=zqF (h c (by simp));have h2:=zdS (l:=l) (fun c hc=>h c (by simp[hc]));simp only[List.flatMap_cons,List.length_append,List.length_cons];omega
theorem zgR {l:List Ch} (h:right l=true):(enc l).length≤10+165 * l.length:=by
 have h1:=zdS (z1N h).2;have h2:=z4B 10 l.length;unfold enc z0H;rw[List.length_append];omega
def z7S (l:List Ch) (i:Nat):List UInt8:=z0H l.length ++ (l.take i).flatMap encC
theorem zcX (l:List Ch):z7S l 0=z0H l.length:=by simp[z7S]
theorem zfQ (l:List Ch):z7S l l.length=enc l:=by simp[z7S,enc]
theorem zcW {l:List Ch} {i:Nat} (h:i<l.length):z7S l (i+1)=z7S l i ++ encC l[i]:=by
 unfold z7S;rw[List.take_add_one,List.getElem?_eq_getElem h,Option.toList_some,List.flatMap_append];simp
theorem z8W {l:List Ch} (h:right l=true) (i:Nat):(z7S l i).length≤6000:=by
 have h0:=(z1N h).1;have h1:=zdS (l:=l.take i) (fun c hc=>(z1N h).2 c (List.mem_of_mem_take hc));have h2:=z4B 10 l.length;have h3:(l.take i).length≤l.length:=List.length_take_le' _ _;unfold z7S z0H;rw[List.length_append];omega
def EncPost (w:World) (l:List Ch) (e:Ending) (w':World):Prop:=∃ v,e = .returned (.tuple #[v,.int .i64 (encE l:Int)])∧Fresh w v (if encE l=0 then enc l else []) w'
theorem zcJ (w:World) (ao:Option Addr) (n c:Nat) (l:List Ch) (h:Chs w (.slice ao n c) l) (hn:n=l.length) :
  Calls Tryz.prog 51 #[.slice ao n c] w (EncPost w l):=by
 have HS:=hid (zA1 h hn);have hrt:=zfB w ao n c l h hn;clear h hn
 cases hr:right l with
 | false=>
   rw[hr] at hrt;simp only[Bool.false_eq_true,if_false] at hrt;go_enter Tryz.func51,Tryz.ntmps51;go_wp2_with (at_builtin;refine z0A ?_;intro q hq);refine hrt.mono ?_;rintro e w2 ⟨rfl,hk2⟩;have HK:=hid hk2;clear hk2 hrt;go_wp2_with (at_builtin;refine z0A ?_;intro q hq);go_ret2;have he:encE l=2:=by unfold encE;rw[hr];rfl
   refine⟨_,by rw[he];rfl,?_⟩;rw[he];exact(Fresh.nil w).later HK.out
 | true=>
   rw[hr] at hrt;simp only[if_true] at hrt;have HR:=hid hr;have hn32:n≤32:=by rw[HS.out.2];exact(z1N hr).1
   have t2:=wu64 n (by omega);clear hr;go_enter Tryz.func51,Tryz.ntmps51;go_wp2_with (at_builtin;refine z0A ?_;intro q hq);refine hrt.mono ?_;rintro e w2 ⟨rfl,hk2⟩;have HK2:=hid hk2;clear hk2 hrt;go_wp2_with (at_builtin;refine z0A ?_;intro q hq);refine(z4V w2 n (by omega)).mono ?_;rintro e w3 ⟨v3,rfl,hf3⟩;have HF3:=hid (hf3.since HK2.out);clear hf3 t2;go_wp2_with (at_builtin;refine z0A ?_;intro q hq)
   go_loopw [5,19] (fun ov iv wr=>∃ i:Nat,i≤n∧iv = .int .i64 i∧Hid (Fresh w ov (z7S l i) wr)) (fun _ iv _=>n - (intOf iv).toNat)
   case atStart=>exact⟨0,Nat.zero_le _,rfl,hid (by rw[zcX,← HS.out.2];exact HF3.out)⟩
   case round=>
    obtain⟨i,hi,rfl,HT⟩:=hrel
    by_cases hin:i<n
    ·have h4:(i:Int)<n:=by omega
     have hil:i<l.length:=by rw[← HS.out.2];exact hin
     obtain⟨ad,rfl,a0,a1,a2,hok⟩:=HS.out.1.get HT.out.keep i hil;have hsu:=zcW hil;have hlen:=z8W HR.out i;have hrc:=(z1N HR.out).2 _ (List.getElem_mem hil);obtain⟨q,hq⟩:=zX1 (l[i]);rw[← hq] at a0 a1 a2 hok hsu hrc;clear hq;obtain⟨X,hX⟩:=zX1 (z7S l i);rw[← hX] at hsu hlen HT;have HX:=hid (zA1 hX hsu);clear hX hsu;obtain⟨key,value,gone⟩:=q;simp only[z1G,decide_eq_true_eq] at hrc;have hkl:=hrc.2.1;have hvl:=hrc.2.2.1;simp only at a0 a1 a2;have hkb:=putB_len key;have hvb:=putB_len value;have HO:=hid hok;clear hok hrc
     go_upto_region 8 with fail
     have hn1:=heap_alloc_new wr (.cells #[.string (str key),.string (str value),.bool gone] 63);have hf1:=HT.out.later ((Keep.refl (fun _=>False) wr).alloc (.cells #[.string (str key),.string (str value),.bool gone] 63));have hb1:∀ k,u5.ownBlock=some k→k<wr.heap.size:=fun k hk=>HT.out.row.lt hk;obtain⟨gb,hgb⟩:=zX1 (wr.heap.size);obtain⟨w1,hw1⟩:=zX1 (wr.alloc (.cells #[.string (str key),.string (str value),.bool gone] 63));rw[← hw1] at hn1 hf1 ⊢;rw[← hgb] at hn1 hb1 ⊢;clear hw1 hgb a0 a1 a2;obtain⟨j0,j1,j2,jf,jb⟩:=z0V hn1;obtain⟨kc,w4,hcv,hf4⟩:=z6A w1 key HO.out.1;have HF1:=hid (zA1 hf1 (zA1 hb1 hn1));have HF4:=hid hf4;clear hf1 hb1 hn1 hf4;go_wp2_with (at_builtin;refine z0A ?_;intro q hq);refine(z9Y w4 _ key.length kc key (Cells.of_row HF4.out.row) (by omega)).mono ?_;rintro e w5 ⟨v5,rfl,hf5⟩;obtain⟨ao5,c5,rfl,-⟩:=hf5.row.form;have HF5:=hid hf5;clear hf5 hcv;go_wp2_with (at_builtin;refine z0A ?_;intro q hq)
     (refine hq.out ?_;clear hq q)
     refine wpList_plain rfl (fun K hK=>?_);refine z0K _ _ rfl rfl ((HF1.out.1.later HF4.out.keep).later HF5.out.keep) ao5 (putB key).length c5 rfl (Cells.of_row HF5.out.row) (by omega) ?_;intro v6 w6 hf6 hk6;refine hK _ _ ?_;clear hK K j0 j1 j2 jf jb;have hn6:=hk6.get (HF5.out.keep.get (HF4.out.keep.get HF1.out.2.2 id) id) (fun e=>Nat.lt_irrefl _ (HF1.out.2.1 _ e));obtain⟨j0,j1,j2,jf,jb⟩:=z0V hn6;have HF6:=hid (zA1 hf6 hn6);clear hf6 hk6 hn6 HF5 HF4 HF1
     cases gone with
     | true=>
       go_wp2_with (at_builtin;refine z0A ?_;intro q hq)
       (refine hq.out ?_;clear hq q)
       have hn7:=heap_alloc_new w6 (.cells #[.int .u8 1] 5);have hk7:=kal w6 (.cells #[.int .u8 1] 5);obtain⟨w7,hw7⟩:=zX1 (w6.alloc (.cells #[.int .u8 1] 5));rw[← hw7] at hn7 hk7 ⊢;clear hw7;refine wpList_plain rfl (fun K hK=>?_);refine z0K _ _ rfl rfl (HF6.out.1.later hk7) (some ⟨w6.heap.size,0,none⟩) 1 1 rfl (Cells.one (x:=1) (by decide) hn7) (by rw[List.length_append];omega) ?_;intro v8 w8 hf8 hk8;refine hK _ _ ?_;clear hK K hn7 hk7 hk8 j0 j1 j2 jf jb;have HF8:=hid hf8;clear hf8;go_wp2_with (at_builtin;refine z0A ?_;intro q hq);go_roundw
       case rel=>
        refine⟨i+1,by omega,by go_num,hid ?_⟩;rw[HX.out.2];have:=HF8.out;rw[List.append_assoc] at this;exact this
       case measure=>simp[intOf];omega
     | false=>
       go_wp2_with (at_builtin;refine z0A ?_;intro q hq)
       (refine hq.out ?_;clear hq q)
       have hn7:=heap_alloc_new w6 (.cells #[.int .u8 0] 5);have hk7:=kal w6 (.cells #[.int .u8 0] 5);obtain⟨w7,hw7⟩:=zX1 (w6.alloc (.cells #[.int .u8 0] 5));rw[← hw7] at hn7 hk7 ⊢;clear hw7;refine wpList_plain rfl (fun K hK=>?_);refine z0K _ _ rfl rfl (HF6.out.1.later hk7) (some ⟨w6.heap.size,0,none⟩) 1 1 rfl (Cells.one (x:=0) (by decide) hn7) (by rw[List.length_append];omega) ?_;intro v8 w8 hf8 hk8;refine hK _ _ ?_;clear hK K j0 j1 j2 jf jb;have hn8:=hk8.get (hk7.get HF6.out.2 id) (HF6.out.1.row.not_block HF6.out.2 (by decide));obtain⟨j0,j1,j2,jf,jb⟩:=z0V hn8;have hf8l:(X ++ putB key ++ [UInt8.ofNat 0]).length≤7000:=by simp only[List.length_append,List.length_singleton];omega
       have HF8:=hid (zA1 hf8 hf8l);obtain⟨vc,w9,hcv,hf9⟩:=z6A w8 value HO.out.2;have HF9:=hid hf9;clear hn7 hk7 hf8 hk8 hn8 hf9 hf8l;go_wp2_with (at_builtin;refine z0A ?_;intro q hq);refine(z9Y w9 _ value.length vc value (Cells.of_row HF9.out.row) (by omega)).mono ?_;rintro e w10 ⟨v10,rfl,hf10⟩;obtain⟨ao10,c10,rfl,-⟩:=hf10.row.form;have HF10:=hid hf10;clear hf10 hcv;go_wp2_with (at_builtin;refine z0A ?_;intro q hq)
       (refine hq.out ?_;clear hq q)
       refine wpList_plain rfl (fun K hK=>?_);refine z0K _ _ rfl rfl ((HF8.out.1.later HF9.out.keep).later HF10.out.keep) ao10 (putB value).length c10 rfl (Cells.of_row HF10.out.row) (by have:=HF8.out.2;omega) ?_;intro v11 w11 hf11 hk11;refine hK _ _ ?_;clear hK K j0 j1 j2 jf jb;have HF11:=hid hf11;clear hf11 hk11 HF10 HF9 HF8;go_wp2_with (at_builtin;refine z0A ?_;intro q hq);go_roundw
       case rel=>
        refine⟨i+1,by omega,by go_num,hid ?_⟩;rw[HX.out.2];have:=HF11.out;simp only[List.append_assoc] at this;exact this
       case measure=>simp[intOf];omega
    ·have h4:decide ((i:Int)<n)=false:=by simp;omega
     obtain rfl:i=n:=by omega
     have hlen:=z8W HR.out i;have he:z7S l i=enc l:=by rw[HS.out.2];exact zfQ l
     rw[he] at hlen HT;obtain⟨bo,bcap,hv,hbc,hbm,-⟩:=HT.out.row.form;subst hv
     by_cases hlong:1024<(enc l).length
     ·have t5:decide ((1024:Int)<((enc l).length:Int))=true:=by simp;omega
      go_wp2_with (at_builtin;refine z0A ?_;intro q hq);go_ret2;have hE:encE l=3:=by unfold encE;rw[HR.out,if_pos rfl,if_pos hlong]
      refine⟨_,by rw[hE];rfl,?_⟩;rw[hE];exact(Fresh.nil w).later HT.out.keep
     ·have t5:decide ((1024:Int)<((enc l).length:Int))=false:=by simp;omega
      go_wp2_with (at_builtin;refine z0A ?_;intro q hq);go_ret2;have hE:encE l=0:=by unfold encE;rw[HR.out,if_pos rfl,if_neg hlong]
      refine⟨_,by rw[hE];rfl,?_⟩;rw[hE];exact HT.out
end
end Go.Proofs.YtkjofdocgaiedaaGreat
