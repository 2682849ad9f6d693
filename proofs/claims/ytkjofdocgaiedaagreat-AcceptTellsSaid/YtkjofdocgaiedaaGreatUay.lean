/- Texts RwI, Pur in one. Conditions: as each law names them. -/
import Derived.Test.YtkjofdocgaiedaaGreatUaa
import Derived.Test.YtkjofdocgaiedaaGreatUax
set_option maxRecDepth 20000
set_option maxHeartbeats 8000000
namespace Go.Proofs.YtkjofdocgaiedaaGreat
section
open Go.RowKit
open DM BM WM
def ROpenTo (d:Nat) (Fd:Nat→Prop) (w:World) (R:Int×Option Lg×Dk) (e:Ending) (w':World):Prop:=
 match R.2.1 with
 | none=>e = .returned (.tuple #[.pointer none,.int .i64 R.1])∧RefTo d Fd w R.2.2 w'
 | some g=>∃ b F Fd',e = .returned (.tuple #[.pointer (some ⟨b,0,none⟩),.int .i64 R.1])∧RLogAt w' b d F Fd' R.2.2 g∧Keep Fd w w'∧(∀ k,F k→w.heap.size≤k)∧∀ k,Fd' k→Fd k∨w.heap.size≤k
structure RScan (w:World) (b d ep:Nat) (bs:List UInt8) (a:Nat) (wr:World):Prop where
 ex:∃ (f:Nat) (L:List (List UInt8)) (vl:Value) (vs:List Value),scan bs (bs.length+1) 0=(L ++ (scan bs f a).1,(scan bs f a).2)∧a≤bs.length∧bs.length<a+f∧10 * L.length≤a∧
  wr.heap[b]?=some (.cells (z4A d ep vl 0 false) 119 (0,0))∧Recs wr (fun k=>w.heap.size≤k) (fun k=>k=b) vl L vs
 keep:Keep (fun k=>k=b) w wr
theorem zoX {D:Dk} {B:List UInt8} {L:List (List UInt8)} {ep en:Nat} (h6:6≤D.safe.length) (hd:D.down=false) (hep:ep=epoch D) (hB:B=WM.bytes D ep) (hs:scan B (B.length+1) 0=(L,en)) :
  z1S D=if (z6K ep B en D).1≠0 then ((z6K ep B en D).1,none,(z6K ep B en D).2) else (0,some ⟨ep,L,L.length,false⟩,(z6K ep B en D).2):=by
 unfold z1S;rw[if_neg (by omega),if_neg (by rw[hd];simp)];simp only;rw[← hep,← hB,hs];unfold z6K;simp only;generalize WM.wipe ep B en 0 (half D) false D=Z
 by_cases c1:Z.1=0
 ·rw[if_neg (by simp[c1])]
  by_cases c2:Z.2.1=true
  ·have e:(if Z.1=0∧Z.2.1=true then DM.sync Z.2.2 else (Z.1,Z.2.2))=DM.sync Z.2.2:=if_pos ⟨c1,c2⟩
   rw[if_pos c2,e]
  ·have e:(if Z.1=0∧Z.2.1=true then DM.sync Z.2.2 else (Z.1,Z.2.2))=(Z.1,Z.2.2):=if_neg (fun h=>c2 h.2)
   rw[if_neg c2,e,if_neg (by simp[c1])]
 ·have e:(if Z.1=0∧Z.2.1=true then DM.sync Z.2.2 else (Z.1,Z.2.2))=(Z.1,Z.2.2):=if_neg (fun h=>c1 h.1)
  rw[if_pos c1,e,if_pos c1]
structure RRead (w:World) (b d ep:Nat) (L:List (List UInt8)) (wr:World):Prop where
 ex:∃ (vl:Value) (vs:List Value),wr.heap[b]?=some (.cells (z4A d ep vl 0 false) 119 (0,0))∧Recs wr (fun k=>w.heap.size≤k) (fun k=>k=b) vl L vs
 keep:Keep (fun k=>k=b) w wr
theorem znF (w:World) (d:Nat) (Fd:Nat→Prop) (D:Dk) (hD:RefAt w d Fd D) (hfew:D.waits.length≤800000) :
  Calls Tryz.prog 47 #[.pointer (some ⟨d,0,none⟩)] w (ROpenTo d Fd w (z1S D)):=by
 obtain⟨R,hR⟩:=zX1 (z1S D);rw[← hR]
 have no:∀ c,R=(c,none,D)→∀ w',Keep (fun _=>False) w w'→ROpenTo d Fd w R (.returned (.tuple #[.pointer none,.int .i64 c])) w':=fun c h w' hk=>by
  rw[h];exact⟨rfl,Fd,hD.keep hk fun _ _ x=>x,hk.mono fun _ _ x=>x.elim,fun _ x=>.inl x⟩
 obtain⟨Post,hPost⟩:=zX1 (ROpenTo d Fd w R);have HPost:=hid hPost;rw[← hPost] at no ⊢;have No:=hid no;have HR:=hid hR;have HD:=hid hD;clear no hR hPost;have hfewD:=HD.out.ok.few;obtain⟨vs0,vw0,hI⟩:=hD;have hdh:=hI.head;unfold z2M at hdh;obtain⟨d0,d1,d2,d3,df,db⟩:=z4D hdh;obtain⟨ads,caps,rfl,-⟩:=hI.safe.form;obtain⟨ns,hns⟩:=zX1 (D.safe.length);rw[← hns] at d0;clear hI hdh d1 d2
 by_cases h6:ns<6
 ·have hN:=No.out 40 (by rw[HR.out];unfold z1S;rw[if_pos (by omega)]) w (Keep.refl _ _)
  have HN:=hid hN;have q1:(ns:Int)<6:=by omega
  clear hN hns;go_enter Tryz.func47,Tryz.ntmps47;go_wp2_with (at_builtin;refine z0A ?_;intro q hq);exact HN.out
 cases hd:D.down with
 | true=>
   have hN:=No.out 6 (by rw[HR.out];unfold z1S;rw[if_neg (by omega),if_pos hd]) w (Keep.refl _ _);have HN:=hid hN;have q1:¬ (ns:Int)<6:=by omega
   rw[hd] at d3;clear hN hns;go_enter Tryz.func47,Tryz.ntmps47;go_wp2_with (at_builtin;refine z0A ?_;intro q hq);exact HN.out
 | false=>
   have q1:¬ (ns:Int)<6:=by omega
   rw[hd] at d3;have hns6:6≤D.safe.length:=by omega
   have Hns:=hid hns;clear hns;go_enter Tryz.func47,Tryz.ntmps47;go_wp2_with (at_builtin;refine z0A ?_;intro q hq);have hh1:=heap_alloc_new w (.cells #[.pointer (some ⟨d,0,none⟩),.int .u64 0,.slice none 0 0,.int .i64 0,.bool false] 119);have hk1:=kal w (.cells #[.pointer (some ⟨d,0,none⟩),.int .u64 0,.slice none 0 0,.int .i64 0,.bool false] 119);obtain⟨w1,hw1⟩:=zX1 (w.alloc (.cells #[.pointer (some ⟨d,0,none⟩),.int .u64 0,.slice none 0 0,.int .i64 0,.bool false] 119));obtain⟨b,hb⟩:=zX1 (w.heap.size);rw[← hw1] at hh1 hk1 ⊢;rw[← hb] at hh1 ⊢;have H0:=hid (show w1.heap[b]?=some (.cells (z4A d (epTo D 0) (.slice none 0 0) 0 false) 119 (0,0))∧Keep (fun _=>False) w w1 from⟨hh1,hk1⟩);have Hb:=hid hb;clear hw1 hh1 hk1 hb q1 d0 d3 df
   go_loopw [5,6,7] (fun iv _ _ wr=>∃ i:Nat,i≤2∧iv = .int .i64 i∧Hid (wr.heap[b]?=some (.cells (z4A d (epTo D i) (.slice none 0 0) 0 false) 119 (0,0))∧Keep (fun _=>False) w wr)) (fun iv _ _ _=>2 - (intOf iv).toNat)
   case atStart=>exact⟨0,by decide,rfl,H0⟩
   case round=>
    clear H0;obtain⟨i,hi,rfl,HI⟩:=hrel
    by_cases hi2:i<2
    ·have t1:(i:Int)<2:=by omega
     have hhead:=zoC wr d Fd D i (HD.out.keep HI.out.2 fun _ _ x=>x) hd (by omega) hi2 (by omega);go_wp2_with (at_builtin;refine z0A ?_;intro q hq);refine hhead.mono ?_;clear hhead;rintro e w2 ⟨n,rfl,hn,hk2⟩;have hh2:=hk2.get HI.out.1 id;obtain⟨i0,i1,i2,i3,i4,if1,ib1⟩:=z7A (show w2.heap[b]?=some (.cells #[_,_,_,_,_] _ (0,0)) from hh2);have hk02:Keep (fun _=>False) w w2:=HI.out.2.next hk2 (fun _ _ x=>x) (fun _ _ x=>x);have H2:=hid (zA1 hh2 hk02);clear hh2 hk02 hk2
     cases hm:WM.head D i with
     | none=>
       have he:epTo D (i+1)=epTo D i:=by simp[epTo,hm]
       have HZ:=hid (show w2.heap[b]?=some (.cells (z4A d (epTo D (i+1)) (.slice none 0 0) 0 false) 119 (0,0))∧Keep (fun _=>False) w w2 by rw[he];exact H2.out);clear hm hn he;rw[show (none:Option Nat).isSome=false from rfl];go_wp2_with (at_builtin;refine z0A ?_;intro q hq);go_roundw
       case rel=>exact⟨i+1,by omega,by go_num,HZ⟩
       case measure=>simp[intOf];omega
     | some m=>
       have hnm:n=m:=hn m hm;have he:epTo D (i+1)=max (epTo D i) n:=by simp[epTo,hm,hnm]
       have He:=hid he;obtain⟨ep,hep⟩:=zX1 (epTo D i);rw[← hep] at i1 H2 He;clear hm hn he hnm hep;rw[show (some m:Option Nat).isSome=true from rfl]
       by_cases hgt:ep<n
       ·have t2:(ep:Int)<(n:Int):=by omega
        have He2:=hid (show epTo D (i+1)=n by rw[He.out];omega);go_wp2_with (at_builtin;refine z0A ?_;intro q hq);have hk3:Keep (fun k=>k=b) w2 (w2.setCell ⟨b,1,none⟩ (.int .u64 (n:Nat))):=kst;have hh3:=z0C H2.out.1 1 (.int .u64 (n:Nat))
        have HZ:=hid (show (w2.setCell ⟨b,1,none⟩ (.int .u64 (n:Nat))).heap[b]?=some (.cells (z4A d (epTo D (i+1)) (.slice none 0 0) 0 false) 119 (0,0))∧Keep (fun _=>False) w (w2.setCell ⟨b,1,none⟩ (.int .u64 (n:Nat))) by
         refine⟨by rw[hh3,He2.out];rfl,H2.out.2.next hk3 (fun _ _ x=>x) (fun k hk x=>by have:=Hb.out;omega)⟩)
        clear hk3 hh3;go_roundw
        case rel=>exact⟨i+1,by omega,by go_num,HZ⟩
        case measure=>simp[intOf];omega
       ·have t2:¬ (ep:Int)<(n:Int):=by omega
        have t3:decide ((ep:Int)<(n:Int))=false:=decide_eq_false t2;have t4:decide (ep<n)=false:=decide_eq_false hgt;have He2:=hid (show epTo D (i+1)=ep by rw[He.out];omega);have HZ:=hid (show w2.heap[b]?=some (.cells (z4A d (epTo D (i+1)) (.slice none 0 0) 0 false) 119 (0,0))∧Keep (fun _=>False) w w2 by rw[He2.out];exact H2.out);go_wp2_with (at_builtin;refine z0A ?_;intro q hq);go_roundw
        case rel=>exact⟨i+1,by omega,by go_num,HZ⟩
        case measure=>simp[intOf];omega
    ·obtain rfl:i=2:=by omega
     have t1:¬ ((2:Nat):Int)<2:=by omega
     obtain⟨hh2,hk2⟩:=HI.out;rw[z8L] at hh2;obtain⟨ep,hep⟩:=zX1 (epoch D);rw[← hep] at hh2;obtain⟨i0,i1,i2,i3,i4,if1,ib1⟩:=z7A (show wr.heap[b]?=some (.cells #[_,_,_,_,_] _ (0,0)) from hh2);have hby:=zkL wr d Fd D (HD.out.keep hk2 fun _ _ x=>x) hd hns6 ep (by omega);obtain⟨B,hB⟩:=zX1 (z1Z D ep (half D));have hBl:B.length=32 * half D:=by rw[hB];exact z2K ep hns6 hd HD.out.ok _ (Nat.le_refl _)
     rw[← hB] at hby;have hh1023:half D≤1023:=by unfold half;omega
     obtain⟨nn,hnn⟩:=zX1 (B.length);have H2:=hid (zA1 hh2 (zA1 hk2 (zA1 hep (zA1 hB (zA1 hBl hnn)))));have hnn4:nn≤40000:=by omega
     clear hh2 hk2 hep hB hBl HI i2 i3 i4;go_wp2_with (at_builtin;refine z0A ?_;intro q hq);refine hby.mono ?_;rintro e w3 ⟨v3,rfl,hf3⟩;obtain⟨ad3,c3,hv3,hc3,-⟩:=hf3.row.form;rw[← hnn] at hv3 hc3;subst hv3;have hh3:=hf3.keep.get H2.out.1 id;have hkw3:Keep (fun _=>False) w w3:=H2.out.2.1.next hf3.keep (fun _ _ x=>x) (fun _ _ x=>x);have R0:=hid (show RScan w3 b d ep B 0 w3 from⟨⟨B.length+1,[],.slice none 0 0,[],rfl,Nat.zero_le _,by omega,Nat.zero_le _,hh3,Recs.nil _ _ _⟩,Keep.refl _ _⟩);have hcs3:Cells w3 ad3 nn 1 (z0B B):=by have h:=hf3.row;rw[← hnn] at h;exact Cells.of_row h
     have hbl3:=z0L hh3
     have hav:∀ x,ad3=some x→x.block≠b∧w.heap.size≤x.block:=fun x hx=>by
      have h1:=hf3.own x.block (by rw[hx];rfl);have:=z0L H2.out.1;have:=H2.out.2.1.size;omega
     have H3:=hid (zA1 hkw3 (zA1 hcs3 (zA1 hav (zA1 hc3 hnn))));clear hf3 hh3 hkw3 hcs3 hav hnn i0 i1 if1 hby;obtain⟨L,hL⟩:=zX1 ((scan B (B.length+1) 0).1);obtain⟨en,hen⟩:=zX1 ((scan B (B.length+1) 0).2);have HLe:=hid (show scan B (B.length+1) 0=(L,en) by rw[hL,hen]);have HLe2:=hid (zA1 hL hen);clear hL hen
     go_upto_block 3 with fail
     go_cut [9,10,11,12] (fun s9 s10 s11 s12 wx=>s9 = .int .i64 (en:Nat)∧Hid (RRead w3 b d ep L wx))
     case first=>
      go_wp2_with (at_builtin;refine z0A ?_;intro q hq)
      go_loopw [9,10,11,12] (fun av _ _ _ wr=>∃ a:Nat,av = .int .i64 a∧a≤nn∧Hid (RScan w3 b d ep B a wr)) (fun av _ _ _ _=>nn+10 - (intOf av).toNat)
      case atStart=>exact⟨0,rfl,Nat.zero_le _,R0⟩
      case round=>
       clear R0;obtain⟨a,rfl,han,HI⟩:=hrel;obtain⟨f,L1,vl,vs,hs,ha,hf,hc,hh,hrec⟩:=HI.out.ex;have hk:=HI.out.keep;have hget:=zjF wr ad3 nn c3 a B (H3.out.2.1.keep hk fun x hx y=>(H3.out.2.2.1 x hx).1 y) han H3.out.2.2.2.1 (by omega);obtain⟨g,hg⟩:=zX1 (BM.get B a);rw[← hg] at hget;obtain⟨fp,hfp⟩:∃ fp,f=fp+1:=⟨f - 1,by omega⟩
       have out:(scan B f a=([],a))→∀ wX,Keep (fun _=>False) wr wX→a=en∧RRead w3 b d ep L wX:=fun h0 wX hX=>by
        rw[HLe.out,h0,List.append_nil] at hs;cases hs;exact⟨rfl,⟨⟨vl,vs,hX.get hh id,hrec.keep hX fun _ _ _ x=>x⟩,hk.next hX (fun _ _ x=>x) (fun _ _ x=>x.elim)⟩⟩
       have Out:=hid out;have HX:=hid (zA1 hs (zA1 ha (zA1 hf (zA1 hc (zA1 hh (zA1 hrec (zA1 hk (zA1 hg hfp))))))));clear hs ha hf hc hh hrec hk hg hfp HI out;go_wp2_with (at_builtin;refine z0A ?_;intro q hq);refine hget.mono ?_;clear hget;intro e w4 hp
       cases g with
       | no m=>
         obtain⟨rfl,hk4⟩:=hp;have hg:=HX.out.2.2.2.2.2.2.2.1;have hm0:=zhV hg.symm;have hz:scan B f a=([],a):=by rw[HX.out.2.2.2.2.2.2.2.2,scan,← hg]
         have u1:((m:Int) != 0)=true:=by simp;omega
         have u2:((m:Int) == 0)=false:=by simp;omega
         have hO:=fun wX (h:Keep (fun _=>False) w4 wX)=>Out.out hz wX (hk4.next h (fun _ _ x=>x) (fun _ _ x=>x));have HO:=hid hO;clear hm0 hz hg hO hk4;go_wp2_with (at_builtin;refine z0A ?_;intro q hq);go_meet;obtain⟨ha2,hO2⟩:=HO.out (w4.alloc (.cells #[.int .u8 0,.slice none 0 0] 177)) ((Keep.refl _ _).alloc _);exact⟨by rw[ha2],hid hO2⟩
       | yes k body q=>
         obtain⟨v,rfl,hf4⟩:=hp;obtain⟨ad4,c4,rfl,-⟩:=hf4.row.form;have hg:=HX.out.2.2.2.2.2.2.2.1;obtain⟨-,hq,hb1024,hqle⟩:=z5N hg.symm;have Hq:=hid (zA1 hq (zA1 hb1024 hqle));obtain⟨bl,hbl⟩:=zX1 (body.length);have hr4:=hf4.row;rw[← hbl] at hr4 ⊢;have Hbl:=hid hbl;have HF4:=hid (zA1 hr4 (zA1 hf4.keep hf4.own));clear hf4 hr4 hbl hq hb1024 hqle
         by_cases hk2:k=2
         rotate_left
         ·have hz:scan B f a=([],a):=by rw[HX.out.2.2.2.2.2.2.2.2,scan,← hg];simp[hk2]
          have u1:((k.toNat:Int) != 2)=true:=by
           have:k.toNat≠2:=fun e=>hk2 (UInt8.toNat_inj.1 e);simp;omega
          have hO:=fun wX (h:Keep (fun _=>False) w4 wX)=>Out.out hz wX (HF4.out.2.1.next h (fun _ _ x=>x) (fun _ _ x=>x));have HO:=hid hO;clear hz hg hO hk2;generalize k.toNat=kk at *;go_wp2_with (at_builtin;refine z0A ?_;intro q hq);go_meet;obtain⟨ha2,hO2⟩:=HO.out (w4.alloc (.cells #[.int .u8 (kk:Nat),.slice ad4 bl c4] 177)) ((Keep.refl _ _).alloc _);exact⟨by rw[ha2],hid hO2⟩
         ·subst hk2
          have hz:scan B f a=(body :: (scan B fp q).1,(scan B fp q).2):=by rw[HX.out.2.2.2.2.2.2.2.2,scan,← hg];rfl
          have Hz:=hid hz;clear hz hg Out;rw[show ((2:UInt8).toNat:Int)=2 from rfl];go_wp2_with (at_builtin;refine z0A ?_;intro q hq);obtain⟨w5,hw5⟩:=zX1 (w4.alloc (.cells #[.int .u8 2,.slice ad4 bl c4] 177));have hh5f:=heap_alloc_new w4 (.cells #[.int .u8 2,.slice ad4 bl c4] 177);have hk45:Keep (fun _=>False) w4 w5:=by rw[hw5];exact(Keep.refl _ _).alloc _
          rw[← hw5] at hh5f ⊢;clear hw5;obtain⟨a0,a1,af,-⟩:=z4W (show w5.heap[w4.heap.size]?=some (.cells #[_,_] _ (0,0)) from hh5f);obtain⟨hs,ha,hf,hc,hh,hrec,hk,-,hfp⟩:=HX.out;have hkr5:Keep (fun _=>False) wr w5:=HF4.out.2.1.next hk45 (fun _ _ x=>x) (fun _ _ x=>x);have hh5:=hkr5.get hh id;obtain⟨adl,cl,rfl,-⟩:=hrec.row.form;obtain⟨i0,i1,i2,i3,i4,if1,ib5⟩:=z7A (show w5.heap[b]?=some (.cells #[_,_,_,_,_] _ (0,0)) from hh5);have hr5:=hrec.keep hkr5 (fun _ _ _ x=>x);have H5:=hid (zA1 hh5 (zA1 hkr5 (zA1 hk45 hr5)));have hL1:10 * L1.length≤40000:=by omega
          clear hs ha hf hc hh hrec hk hfp hkr5 hh5 hh5f hk45 hr5;go_wp2_with (at_builtin;refine z0A ?_;intro q hq);refine z0G [] (by kernel_rfl) (by kernel_rfl) ?_
          repeat (first | (apply z0F (by rfl);(intro K w';go_simp;exact id)) | (apply z0I (by rfl);(intro K;go_simp;exact id)))
          (refine z2G (by rfl) (by rfl) (fun K hK=>?_);go_simp;refine hK _ _ (Pre.push _ rfl) ?_;clear hK K)
          obtain⟨w6,hw6⟩:=zX1 ((w5.alloc (.cells #[.slice ad4 bl c4] 29)).drew);have hnew6:w6.heap[w5.heap.size]?=some (.cells #[.slice ad4 bl c4] 29):=by rw[hw6];exact heap_alloc_new w5 _
          have hk56:Keep (fun _=>False) w5 w6:=by rw[hw6];exact((Keep.refl _ _).alloc _).drew
          rw[← hw6];clear hw6;refine z0M (by rfl) (by rfl) (fun K hK=>?_);have hr6:=H5.out.2.2.2.keep hk56 (fun _ _ _ x=>x)
          refine z0R z9G _ _ rfl rfl hr6.row (some ⟨w5.heap.size,0,none⟩) 1 1 [.slice ad4 bl c4] rfl
           ⟨rfl,fun _=>⟨_,rfl,fun j u hu=>by rw[z0J,Nat.zero_add,cell_of_row _ _ _ _ _ _ hnew6];simpa using hu⟩⟩ (by intro u hu;simp at hu;subst hu;rfl) (by unfold maxLen;omega) (by omega) ?_
          intro v7 w7 hr7 hk7 hv7;obtain⟨ad7,c7,rfl,-⟩:=hr7.form;refine hK _ _ ?_;clear hK K;have hh7:=hk7.get (hk56.get H5.out.1 id) (fun e=>(hr6.own b e).2 rfl);clear i0 i1 i2 i3 i4 if1 ib5 a0 a1 af;obtain⟨i0,i1,i2,i3,i4,if1,ib7⟩:=z7A (show w7.heap[b]?=some (.cells #[_,_,_,_,_] _ (0,0)) from hh7);have H7:=hid (zA1 hr7 (zA1 hk7 (zA1 hv7 (zA1 hh7 (zA1 hk56 hr6)))));clear hr7 hk7 hv7 hh7 hk56 hr6 hnew6
          repeat (apply z0F (by rfl);(intro K w';go_simp;exact id))
          (refine z0M (by rfl) (by rfl) (fun K hK=>?_);go_simp;refine hK _ _ ?_;clear hK K)
          refine z0S ?_;go_wp2_with (at_builtin;refine z0A ?_;intro q hq);have hk8:Keep (fun k=>k=b) w7 (w7.setCell ⟨b,2,none⟩ (.slice ad7 (L1.length+1) c7)):=kst;have hh8:=z0C H7.out.2.2.2.1 2 (.slice ad7 (L1.length+1) c7);obtain⟨w8,hw8⟩:=zX1 (w7.setCell ⟨b,2,none⟩ (.slice ad7 (L1.length+1) c7));rw[← hw8] at hk8 hh8 ⊢;clear hw8
          have HZ:=hid (show q≤nn∧a<q∧RScan w3 b d ep B q w8 by
           obtain⟨y1,y2,y3,y4,y5,y6,y7,y8,y9⟩:=HX.out;obtain⟨z1,z2,z3,z4,z5,z6⟩:=H7.out;obtain⟨q1,q2,q3⟩:=Hq.out;obtain⟨f1,f2,f3⟩:=HF4.out;obtain⟨p1,p2,p3,p4⟩:=H5.out;have hb1:=Hbl.out;have hnn:=H3.out.2.2.2.2;have s1:=y7.size;have s2:=p2.size;have s3:=z5.size;have s4:=z2.size;have s5:=f2.size;have s6:=p3.size;refine⟨by omega,by omega,⟨fp,L1 ++ [body],.slice ad7 (L1.length+1) c7,vs ++ [.slice ad4 bl c4],?_,q3,by omega,by simp;omega,?_,?_⟩,?_⟩
           ·rw[y1,Hz.out,List.append_assoc];rfl
           ·rw[hh8];rfl
           ·refine(z6.push (by have:=(f1.keep p3 (fun _ _ x=>x)).keep z5 (fun _ _ x=>x);rw[hb1] at this ⊢;exact this) (F':=fun k=>w3.heap.size≤k) (fun k e=>?_) z1 z2 (fun k x=>x) (fun k e=>?_)).keep hk8 (fun k _ h2 h3=>h2 h3)
            ·have h1:=f3 k (by rw[← e];exact z1W _ _ _ _)
             refine⟨by omega,by omega,fun e'=>?_⟩;have:=y6.row.lt e';omega
            ·rcases z3 with ⟨_,h0⟩ | ⟨k',h2,h3⟩
             ·omega
             ·rw[e] at h2;cases h2
              rcases h3 with h3 | h3
              ·exact .inl h3
              ·exact .inr ⟨by omega,by omega,by omega⟩
           ·refine(((y7.next p2 (H:=fun k=>k=b) (fun _ _ x=>x) (fun _ _ x=>x.elim)).next z5 (H:=fun k=>k=b) (fun _ _ x=>x) (fun _ _ x=>x.elim)).next z2 (H:=fun k=>k=b) (fun _ _ x=>x) (fun k hk x=>?_)).next hk8 (fun _ _ x=>x) (fun _ _ x=>x)
            have:=(p4.own k x).1
            omega)
          clear hk8 hh8;go_roundw
          case rel=>exact⟨q,rfl,HZ.out.1,hid HZ.out.2.2⟩
          case measure=>have:=HZ.out;simp[intOf];omega
     case rest=>
      obtain⟨rfl,HD9⟩:=hcut;clear R0;obtain⟨vl,vs,hh9,hrec9⟩:=HD9.out.ex;have hk9:=HD9.out.keep;obtain⟨adl,cl,rfl,-⟩:=hrec9.row.form;obtain⟨i0,i1,i2,i3,i4,if1,ib9⟩:=z7A (show wc.heap[b]?=some (.cells #[_,_,_,_,_] _ (0,0)) from hh9);have H9:=hid (zA1 hh9 (zA1 hrec9 hk9));clear hh9 hrec9 hk9 HD9;go_wp2_with (at_builtin;refine z0A ?_;intro q hq);have hk10:Keep (fun k=>k=b) wc (wc.setCell ⟨b,3,none⟩ (.int .i64 (L.length:Nat))):=kst;have hh10:=z0C H9.out.1 3 (.int .i64 (L.length:Nat));obtain⟨w10,hw10⟩:=zX1 (wc.setCell ⟨b,3,none⟩ (.int .i64 (L.length:Nat)));rw[← hw10] at hk10 hh10 ⊢;clear hw10 i0 i1 i2 i3 i4 if1;obtain⟨hkw3,hcs3,hav,hc3,hnn⟩:=H3.out;have hb0:=Hb.out;have hk310:Keep (fun k=>k=b) w3 w10:=H9.out.2.2.next hk10 (fun _ _ x=>x) (fun _ _ x=>x);have hk010:Keep (fun _=>False) w w10:=hkw3.next hk310 (fun _ _ x=>x) (fun k hk x=>by omega);have hDl:=HD.out.lt;have hbF:¬ Fd b:=fun x=>by have:=hDl b x;omega
      obtain⟨sp1,sp2,sp3,sp4⟩:=z6Z B (B.length+1) 0 (Nat.zero_le _);rw[HLe.out] at sp1 sp2 sp4;simp only at sp1 sp2 sp4;have hBl:=H2.out.2.2.2.2.1
      have hwd:=zlG w10 b d ep en L.length nn c3 (.slice adl L.length cl) false Fd D B ad3 (by rw[hh10];rfl) (HD.out.keep hk010 fun _ _ x=>x) hbF (hcs3.keep hk310 (fun x hx y=>(hav x hx).1 y)) (fun x hx y=>by
        have h1:=hDl _ y;have h2:=(hav x hx).2
        omega) (by omega) hc3 (by omega) hfew
      obtain⟨Y,hY⟩:=zX1 (z6K ep B en D);have hYl:Y.2.safe.length=D.safe.length:=by rw[hY];exact zeR _ _ _ _
      rw[← hY] at hwd
      have hRR:R=if Y.1≠0 then (Y.1,none,Y.2) else (0,some ⟨ep,L,L.length,false⟩,Y.2):=by
       rw[hY,HR.out];have h2:=zoX hns6 hd (en:=en) (L:=L) (B:=B) (ep:=ep) H2.out.2.2.1 (by rw[H2.out.2.2.2.1];rfl) HLe.out;exact h2
      have HX:=hid (zA1 hk310 (zA1 hk010 (zA1 hYl (zA1 hRR (zA1 sp1 (zA1 sp2 (zA1 sp4 (zA1 hh10 (zA1 hBl (zA1 hDl hk10))))))))));clear hk10 hh10 hk310 hk010 hY hYl hRR sp1 sp2 sp3 sp4 hBl hkw3 hcs3 hav hc3 hb0;go_wp2_with (at_builtin;refine z0A ?_;intro q hq);refine hwd.mono ?_;rintro e w11 ⟨rfl,Fd',hD11,hk11,hF11⟩;obtain⟨hk310,hk010,hYl,hRR,sp1,sp2,sp4,hh10,hBl,hDl,hkc10⟩:=HX.out;have hk011:Keep Fd w w11:=hk010.next hk11 (fun _ _ x=>x.elim) (fun _ _ x=>x);have hF011:∀ k,Fd' k→Fd k∨w.heap.size≤k:=fun k x=>(hF11 k x).imp id fun y=>Nat.le_trans hk010.size y
      by_cases y0:Y.1=0
      rotate_left
      ·rw[if_pos y0] at hRR
       have HF:=hid (show Post (.returned (.tuple #[.pointer none,.int .i64 Y.1])) w11 by rw[HPost.out,hRR];exact⟨rfl,Fd',hD11,hk011,hF011⟩);rw[if_neg y0];clear hkc10 hk310 hk010 hYl hRR sp1 sp2 sp4 hh10 hBl hDl hD11 hk11 hF11 hk011 hF011 y0;go_wp2_with (at_builtin;refine z0A ?_;intro q hq);exact HF.out
      ·rw[if_neg (by simp[y0])] at hRR
       have HF:=hid (show Post (.returned (.tuple #[.pointer (some ⟨b,0,none⟩),.int .i64 0])) w11 by
        rw[HPost.out,hRR];have hb0:=Hb.out;have s310:=hk310.size;have s03:=H3.out.1.size;have s1011:=hk11.size;have hbl10:=z0L hh10;have hrec:=(H9.out.2.1.bound.keep hkc10 (fun k _ h1 h2=>h1 h2));have hwl:=hkc10.size;refine⟨b,fun k=>w.heap.size≤k∧k<w10.heap.size,Fd',rfl,⟨.slice adl L.length cl,vs,?_,hD11,fun k h1 h2=>?_⟩,hk011,fun k h1=>h1.1,hF011⟩
        ·rw[z3J hYl]
         refine⟨?_,(hrec.mono (F':=fun k=>w.heap.size≤k∧k<w10.heap.size) (A':=fun k=>k=b) (fun k h1 h2=>⟨⟨by omega,by omega⟩,h2⟩)).keep hk11 (fun k h1 _ h3=>by have:=hDl k h3;omega),⟨by omega,hbl10⟩,fun k h1=>Nat.lt_of_lt_of_le h1.2 s1011,?_⟩
         ·have h9:=hk11.get hh10 hbF
          rw[h9];rfl
         ·have he:=zeJ D 2
          rw[z8L,← H2.out.2.2.1] at he;exact⟨by show (flat L).length≤_;omega,by unfold half;omega,by unfold half;omega,he,sp4,Nat.le_refl _⟩
        ·rcases hF11 k h2 with h3 | h3
         ·have:=hDl k h3;omega
         ·omega)
       rw[if_pos y0,y0];clear hkc10 hk310 hk010 hYl hRR sp1 sp2 sp4 hh10 hBl hDl hD11 hk11 hF11 hk011 hF011 y0;go_wp2_with (at_builtin;refine z0A ?_;intro q hq);exact HF.out
end
section
open DM BM WM
def Calm (D:Dk):Prop:=D.left=none∧D.down=false
theorem z9D {D:Dk} (h:Calm D) (i:Nat) (hi:i<D.safe.length) (b:Sec) (hb:b.length=32):DM.write D (i:Int) b=(0,{ D with waits:=D.waits ++ [(i,b)] }):=by
 have ha:DM.act D=(true,D):=by unfold DM.act;rw[h.2,h.1];rfl
 unfold DM.write;rw[h.2,ha];rw[if_neg (by simp),if_neg (by omega)];simp[h.2]
theorem z6S {D:Dk} (h:Calm D):DM.sync D=(0,{ D with safe:=now D,waits:=[] }):=by
 have ha:DM.act D=(true,D):=by unfold DM.act;rw[h.2,h.1];rfl
 unfold DM.sync;rw[ha];simp
theorem zdY (ep:Nat) (b:List UInt8) {s:Nat} (hs:6≤s) (hb:b.length=32 * ((s - 2) / 2)):∀ k i D,Calm D→D.safe.length=s→i+k≤(s - 2) / 2→(lay ep b i k D).1=0∧Calm (lay ep b i k D).2∧(lay ep b i k D).2.safe=D.safe
 | 0,i,D,hc,_,_=>⟨rfl,hc,rfl⟩
 | k+1,i,D,hc,hl,hik=>by
   have hh:half D=(s - 2) / 2:=by unfold half;rw[hl]
   have hw:=z9D hc (WM.first D ep+i) (z3R ep i (by omega) (by omega)) (z0Q b i) (by unfold z0Q;rw[List.length_take,List.length_drop];omega);unfold lay;rw[hw];simp only[if_true];exact zdY ep b hs hb k (i+1) { D with waits:=D.waits ++ [(WM.first D ep+i,z0Q b i)] } hc hl (by omega)
theorem zaR {D:Dk} {G:Lg} {b:List UInt8} (hc:Calm D) (h6:6≤D.safe.length) (hd:G.dead=false) (hf:(flat G.l).length≤32 * half D) (hb:b.length≤1024) :
  if room D G<b.length+10 then WM.append D G b=(5,D,G)
  else (WM.append D G b).1=0∧(WM.append D G b).2.2 = { G with l:=G.l ++ [b] }∧Calm (WM.append D G b).2.1∧(WM.append D G b).2.1.safe=D.safe:=by
 have hg:gone D G=false:=by unfold gone;rw[hd,hc.2];rfl
 split
 ·rename_i h
  unfold WM.append;rw[hg,if_neg (by simp),if_neg (by omega),if_pos h]
 ·rename_i h
  have hsn:=z4N G.l b;have hfit:(flat (G.l ++ [b])).length≤32 * half D:=by unfold room at h;omega
  have hal:(area D (G.l ++ [b])).length=32 * half D:=z2D hfit
  obtain⟨h1,h2,h3⟩:=zdY G.ep (area D (G.l ++ [b])) (s:=D.safe.length) h6 hal (((flat (G.l ++ [b])).length - 1) / 32 - (flat G.l).length / 32+1) ((flat G.l).length / 32) D hc rfl
   (by have:(D.safe.length - 2) / 2=half D:=rfl;omega)
  unfold WM.append;rw[hg,if_neg (by simp),if_neg (by omega),if_neg h];simp only;rw[h1];refine⟨rfl,?_,h2,h3⟩;obtain⟨ep,l,safe,dead⟩:=G;simp only at hd;subst hd;rfl
theorem zdG (D:Dk) (G:Lg) (b:List UInt8):(WM.append D G b).2.1.safe.length=D.safe.length:=by
 unfold WM.append;split
 ·rfl
 ·split
  ·rfl
  ·split
   ·rfl
   ·exact z7V _ _ _ _ _
theorem znV (D:Dk) (G:Lg) (L:List (List UInt8)):(WM.reset D G L).2.1.safe.length=D.safe.length:=by
 unfold WM.reset;split
 ·rfl
 ·split
  ·rfl
  ·split
   ·rfl
   ·simp only
    split <;> exact zaS _ _ _
namespace WM
open DM BM Go.Proofs.YtkjofdocgaiedaaGreat
def z1O (D:Dk) (p:Nat):Sec:=(now D).getD p []
theorem zqA {D E:Dk} {i:Nat} {b:Sec} (hs:E.safe=D.safe) (hw:E.waits=D.waits ++ [(i,b)]):now E=(now D).set i b:=by
 unfold now;rw[hs,hw,z7W];rfl
theorem z9C {D E:Dk} {i:Nat} {b:Sec} (hs:E.safe=D.safe) (hw:E.waits=D.waits ++ [(i,b)]) (hi:i<D.safe.length) (p:Nat):z1O E p=if p=i then b else z1O D p:=by
 have hl:=z1H D;unfold z1O;rw[zqA hs hw,List.getD_eq_getElem?_getD,List.getElem?_set]
 by_cases h:i=p
 ·subst h
  rw[if_pos rfl,if_pos (by omega),if_pos rfl];rfl
 ·rw[if_neg h,if_neg (fun e=>h e.symm),List.getD_eq_getElem?_getD]
theorem z7I {D E:Dk} (hs:E.safe=now D) (hw:E.waits = []) (p:Nat):z1O E p=z1O D p:=by
 unfold z1O now;rw[hs,hw];rfl
theorem z7D {D:Dk} (hd:D.down=false) (i:Nat) (hi:i<D.safe.length):DM.read D (i:Int)=(z1O D i,0):=by
 unfold DM.read z1O;rw[hd,if_neg (by simp),if_neg (by omega)];simp
theorem zfP {D:Dk} (ok:Ok D) (i:Nat) (hi:i<D.safe.length):(z1O D i).length=32:=by
 have hl:=z1H D;have:=ok.now _ (List.getElem_mem (l:=now D) (n:=i) (by omega));unfold z1O;rw[List.getD_eq_getElem?_getD,List.getElem?_eq_getElem (by omega)];exact this
theorem ziV {D:Dk} {i:Nat} {b:Sec} (h:(DM.write D (i:Int) b).1=0):i<D.safe.length∧b.length=32∧(DM.write D (i:Int) b).2.safe=D.safe∧(DM.write D (i:Int) b).2.waits=D.waits ++ [(i,b)]:=by
 unfold DM.write at h ⊢;split at h
 ·cases h
 ·rename_i h1
  rw[if_neg h1];split at h
  ·cases h
  ·rename_i h2
   rw[if_neg h2];split at h
   ·rename_i h3
    rw[if_pos h3];refine⟨by omega,by omega,z1P D,?_⟩;show (DM.act D).2.waits ++ [((i:Int).toNat,b)]=_;rw[z1V];simp
   ·cases h
theorem ziK {D:Dk} {i:Nat} {b:Sec} (hi:i<D.safe.length) (hb:b.length=32) (h:(DM.write D (i:Int) b).1≠0):(DM.write D (i:Int) b).1=6∧(DM.write D (i:Int) b).2.safe=D.safe∧(DM.write D (i:Int) b).2.waits=D.waits:=by
 unfold DM.write at h ⊢;split
 ·exact⟨rfl,rfl,rfl⟩
 ·rename_i h1
  rw[if_neg h1] at h;rw[if_neg (by omega)] at h ⊢;split
  ·rename_i h3
   rw[if_pos h3] at h;exact absurd rfl h
  ·exact⟨rfl,z1P D,z1V D⟩
theorem znO {D:Dk} (h:(DM.sync D).1=0):(DM.sync D).2.safe=now D∧(DM.sync D).2.waits = []:=by
 unfold DM.sync at h ⊢;split at h
 ·rename_i h3
  rw[if_pos h3];refine⟨?_,rfl⟩;show now (DM.act D).2=_;unfold now;rw[z1P,z1V]
 ·cases h
theorem zmL {D:Dk} (h:(DM.sync D).1≠0):(DM.sync D).1=6∧(DM.sync D).2.safe=D.safe∧(DM.sync D).2.waits=D.waits:=by
 unfold DM.sync at h ⊢;split
 ·rename_i h3
  rw[if_pos h3] at h;exact absurd rfl h
 ·exact⟨rfl,z1P D,z1V D⟩
theorem zhY {D E:Dk} (h:E.safe=D.safe) (ep:Nat):WM.first E ep=WM.first D ep:=by unfold WM.first half;rw[h]
theorem z5G {D E:Dk} (h:E.safe.length=D.safe.length):half E=half D:=by unfold half;rw[h]
theorem z4F (ep:Nat) (b:List UInt8):∀ k i (D:Dk),6≤D.safe.length→i+k≤half D→b.length=32 * half D→
  (lay ep b i k D).2.safe=D.safe∧(∃ ws,(lay ep b i k D).2.waits=D.waits ++ ws∧∀ x ∈ ws,∃ j,i≤j∧j<i+k∧x=(WM.first D ep+j,z0Q b j))∧((lay ep b i k D).1≠0→(lay ep b i k D).1=6)∧
  ((lay ep b i k D).1=0→∀ p,(∀ j,i≤j→j<i+k→p=WM.first D ep+j→z1O (lay ep b i k D).2 p=z0Q b j)∧((∀ j,i≤j→j<i+k→p≠WM.first D ep+j)→z1O (lay ep b i k D).2 p=z1O D p))
 | 0,i,D,_,_,_=>⟨rfl,⟨[],by simp[lay],by simp⟩,fun h=>absurd rfl h,fun _ p=>⟨fun j h1 h2=>by omega,fun _=>rfl⟩⟩
 | k+1,i,D,h6,hik,hb=>by
   have hfl:=z3R (D:=D) ep i h6 (by omega);have hsl:(z0Q b i).length=32:=by unfold z0Q;rw[List.length_take,List.length_drop];omega
   unfold lay;simp only
   by_cases h0:(DM.write D ((WM.first D ep+i:Nat):Int) (z0Q b i)).1=0
   ·rw[if_pos h0]
    obtain⟨_,_,w1,w2⟩:=ziV h0;have hn:=fun p=>z9C w1 w2 hfl p;have hF:=zhY w1 ep;have hH:half (DM.write D ((WM.first D ep+i:Nat):Int) (z0Q b i)).2=half D:=z5G (by rw[w1]);obtain⟨i1,⟨ws,i2,i3⟩,i4,i5⟩:=z4F ep b k (i+1) _ (by rw[w1];exact h6) (by rw[hH];omega) (by rw[hH];exact hb);generalize (DM.write D ((WM.first D ep+i:Nat):Int) (z0Q b i)).2=E at *;rw[hF] at i3 i5;refine⟨i1.trans w1,⟨(WM.first D ep+i,z0Q b i) :: ws,by rw[i2,w2];simp,fun x hx=>?_⟩,i4,fun h p=>?_⟩
    ·rcases List.mem_cons.1 hx with rfl | hx
     ·exact⟨i,Nat.le_refl _,by omega,rfl⟩
     ·obtain⟨j,j1,j2,j3⟩:=i3 x hx
      exact⟨j,by omega,by omega,j3⟩
    ·obtain⟨q1,q2⟩:=i5 h p
     refine⟨fun j j1 j2 j3=>?_,fun hne=>?_⟩
     ·by_cases hj:j=i
      ·subst hj
       rw[q2 (fun j' a1 a2 a3=>by omega),hn,if_pos j3]
      ·exact q1 j (by omega) (by omega) j3
     ·rw[q2 (fun j a1 a2=>hne j (by omega) (by omega)),hn,if_neg (hne i (Nat.le_refl _) (by omega))]
   ·rw[if_neg h0]
    obtain⟨w0,w1,w2⟩:=ziK hfl hsl h0;exact⟨w1,⟨[],by rw[w2,List.append_nil],by simp⟩,fun _=>w0,fun h=>absurd h h0⟩
theorem gd0 (l:List UInt8) (k:Nat):l.getD k 0=(l[k]?).getD 0:=List.getD_eq_getElem?_getD
theorem z3P (b:List UInt8) (i k:Nat) (hk:k<32):(z0Q b i)[k]?=b[32 * i+k]?:=by
 unfold z0Q;rw[List.getElem?_take,if_pos hk,List.getElem?_drop]
theorem z8N {b:List UInt8} {h:Nat} (hb:b.length=32 * h) {i:Nat} (hi:i<h):(z0Q b i).length=32:=by
 unfold z0Q;rw[List.length_take,List.length_drop];omega
theorem zgJ {a b:List UInt8} {h i:Nat} (ha:a.length=32 * h) (hb:b.length=32 * h) (hi:i<h) (he:∀ k,k<32→a[32 * i+k]?=b[32 * i+k]?):z0Q a i=z0Q b i:=by
 apply List.ext_getElem?;intro k
 by_cases hk:k<32
 ·rw[z3P _ _ _ hk,z3P _ _ _ hk,he k hk]
 ·rw[List.getElem?_eq_none (by rw[z8N ha hi];omega),List.getElem?_eq_none (by rw[z8N hb hi];omega)]
theorem zeU (B:List UInt8) (en:Nat):(clean B en).length=B.length:=by unfold clean;rw[List.length_append,List.length_take,List.length_replicate];omega
theorem zfJ {B:List UInt8} {en j:Nat} (hj:j<B.length):(clean B en)[j]?=some (if j<en then B.getD j 0 else 0):=by
 unfold clean
 by_cases h:j<en
 ·rw[List.getElem?_append_left (by rw[List.length_take];omega),List.getElem?_take,if_pos h,if_pos h,gd _ _ hj]
 ·rw[List.getElem?_append_right (by rw[List.length_take];omega),List.length_take,List.getElem?_replicate,if_pos (by omega),if_neg h]
theorem zoY {B:List UInt8} {en i:Nat} (h:dirty B en i=false) {k:Nat} (hk:k<32) (he:en≤32 * i+k):B.getD (32 * i+k) 0=0:=by
 unfold dirty at h;have h1:=List.any_eq_false.1 h k (List.mem_range.2 hk);simp only[Bool.and_eq_true,decide_eq_true_eq,not_and,Decidable.not_not] at h1;exact h1 he
theorem zlE {B:List UInt8} {en h i:Nat} (hb:B.length=32 * h) (hi:i<h) (hd:dirty B en i=false):z0Q (clean B en) i=z0Q B i:=
 zgJ (by rw[zeU];exact hb) hb hi fun k hk=>by
  rw[zfJ (by omega),gd B _ (by omega)];split
  ·rfl
  ·rw[zoY hd hk (by omega)]
theorem zgO {B:List UInt8} {en h i:Nat} (hb:B.length=32 * h) (hi:i<h):dirty (clean B en) en i=false:=by
 unfold dirty;rw[List.any_eq_false];intro k hk;rw[List.mem_range] at hk;simp only[Bool.and_eq_true,decide_eq_true_eq,not_and,Decidable.not_not];intro he;rw[gd0,zfJ (by omega),if_neg (by omega)];rfl
theorem zaZ (ep:Nat) (B:List UInt8) (en:Nat):∀ k i wr (D:Dk),Calm D→Ok D→6≤D.safe.length→i+k≤half D→B.length=32 * half D→
  (wipe ep B en i k wr D).1=0∧Calm (wipe ep B en i k wr D).2.2∧Ok (wipe ep B en i k wr D).2.2∧(wipe ep B en i k wr D).2.2.safe=D.safe∧((wipe ep B en i k wr D).2.1=false→(wipe ep B en i k wr D).2.2=D)∧
  ∀ p,(∀ j,i≤j→j<i+k→p=WM.first D ep+j→z1O (wipe ep B en i k wr D).2.2 p=if dirty B en j then z0Q (clean B en) j else z1O D p)∧((∀ j,i≤j→j<i+k→p≠WM.first D ep+j)→z1O (wipe ep B en i k wr D).2.2 p=z1O D p)
 | 0,i,wr,D,hc,ok,_,_,_=>⟨rfl,hc,ok,rfl,fun _=>rfl,fun p=>⟨fun j h1 h2=>by omega,fun _=>rfl⟩⟩
 | k+1,i,wr,D,hc,ok,h6,hik,hb=>by
   have hfl:=z3R (D:=D) ep i h6 (by omega);have hcl:(clean B en).length=32 * half D:=by rw[zeU];exact hb
   have hsl:=z8N hcl (i:=i) (by omega);unfold wipe
   by_cases hd:dirty B en i=true
   ·rw[if_pos hd]
    have hw:=z9D hc (WM.first D ep+i) hfl (z0Q (clean B en) i) hsl;have hok:=ok.write ((WM.first D ep+i:Nat):Int) (z0Q (clean B en) i);simp only;rw[hw] at hok ⊢;simp only[if_true];obtain⟨E,hE⟩:∃ E:Dk,E = { D with waits:=D.waits ++ [(WM.first D ep+i,z0Q (clean B en) i)] }:=⟨_,rfl⟩;rw[← hE] at hok ⊢;have hEs:E.safe=D.safe:=by rw[hE]
    have hn:=fun p=>z9C (D:=D) (E:=E) hEs (by rw[hE]) hfl p;have hF:=zhY hEs ep;have hH:half E=half D:=z5G (by rw[hEs]);obtain⟨a1,a2,a3,a4,a5,a6⟩:=zaZ ep B en k (i+1) true E (by rw[hE];exact hc) hok (by rw[hEs];exact h6) (by rw[hH];omega) (by rw[hH];exact hb);rw[hF] at a6;refine⟨a1,a2,a3,a4.trans hEs,fun h=>?_,fun p=>?_⟩
    ·exfalso
     have:∀ k i (D:Dk),(wipe ep B en i k true D).2.1=true:=by
      intro k
      induction k with
      | zero=>intro i D;rfl
      | succ k ih=>
        intro i D;unfold wipe;split
        ·simp only
         split
         ·exact ih _ _
         ·rfl
        ·exact ih _ _
     rw[this] at h;cases h
    ·obtain⟨q1,q2⟩:=a6 p
     refine⟨fun j j1 j2 j3=>?_,fun hne=>?_⟩
     ·by_cases hj:j=i
      ·subst hj
       rw[q2 (fun j' b1 b2 b3=>by omega),hn,if_pos j3,if_pos hd]
      ·have he:z1O E p=z1O D p:=by rw[hn,if_neg (by omega)]
       rw[q1 j (by omega) (by omega) j3,he]
     ·rw[q2 (fun j b1 b2=>hne j (by omega) (by omega)),hn,if_neg (hne i (Nat.le_refl _) (by omega))]
   ·rw[if_neg hd]
    obtain⟨a1,a2,a3,a4,a5,a6⟩:=zaZ ep B en k (i+1) wr D hc ok h6 (by omega) hb;refine⟨a1,a2,a3,a4,a5,fun p=>?_⟩;obtain⟨q1,q2⟩:=a6 p;refine⟨fun j j1 j2 j3=>?_,fun hne=>q2 (fun j b1 b2=>hne j (by omega) (by omega))⟩
    by_cases hj:j=i
    ·subst hj
     rw[q2 (fun j' b1 b2 b3=>by omega),if_neg hd]
    ·exact q1 j (by omega) (by omega) j3
theorem zkW {D:Dk} (hd:D.down=false) (h6:6≤D.safe.length) (ep:Nat):WM.bytes D ep=((List.range (half D)).map fun i=>z1O D (WM.first D ep+i)).flatten:=by
 unfold WM.bytes;congr 1;apply List.map_congr_left;intro i hi;rw[List.mem_range] at hi;rw[z7D hd _ (z3R ep i h6 hi)]
theorem zfE (f:Nat→Sec) (hf:∀ i,(f i).length=32):∀ h,((List.range h).map f).flatten.length=32 * h∧∀ i k,i<h→k<32→((List.range h).map f).flatten[32 * i+k]?=(f i)[k]?
 | 0=>⟨rfl,fun i k h=>by omega⟩
 | h+1=>by
   obtain⟨h1,h2⟩:=zfE f hf h;rw[List.range_succ,List.map_append,List.flatten_append];simp only[List.map_cons,List.map_nil,List.flatten_cons,List.flatten_nil,List.append_nil];refine⟨by rw[List.length_append,h1,hf];omega,fun i k hi hk=>?_⟩
   by_cases hih:i<h
   ·rw[List.getElem?_append_left (by omega)]
    exact h2 i k hih hk
   ·have:i=h:=by omega
    subst this;rw[List.getElem?_append_right (by omega),h1];congr 1;omega
theorem zgI {D:Dk} (hd:D.down=false) (h6:6≤D.safe.length) (ok:Ok D) (ep:Nat):(WM.bytes D ep).length=32 * half D∧∀ i,i<half D→z0Q (WM.bytes D ep) i=z1O D (WM.first D ep+i):=by
 have hg:∀ h,h≤half D→((List.range h).map fun i=>z1O D (WM.first D ep+i))=(List.range h).map fun i=>if i<half D then z1O D (WM.first D ep+i) else List.replicate 32 0:=fun h hh=>by
  apply List.map_congr_left;intro i hi;rw[List.mem_range] at hi;rw[if_pos (by omega)]
 have hl:∀ i,(if i<half D then z1O D (WM.first D ep+i) else List.replicate 32 0:List UInt8).length=32:=fun i=>by
  split
  ·exact zfP ok _ (z3R ep i h6 (by assumption))
  ·simp
 obtain⟨h1,h2⟩:=zfE _ hl (half D);rw[zkW hd h6,hg _ (Nat.le_refl _)];refine⟨h1,fun i hi=>?_⟩;apply List.ext_getElem?;intro k
 by_cases hk:k<32
 ·rw[z3P _ _ _ hk,h2 i k hi hk,if_pos hi]
 ·rw[List.getElem?_eq_none (by rw[z8N h1 hi];omega),List.getElem?_eq_none (by rw[zfP ok _ (z3R ep i h6 hi)];omega)]
theorem zhO {D E:Dk} (hD:D.down=false) (hE:E.down=false) {i:Nat} (h1:i<D.safe.length) (h2:i<E.safe.length) (h:z1O E i=z1O D i):WM.head E i=WM.head D i:=by
 unfold WM.head;rw[z7D hD i h1,z7D hE i h2,h]
theorem zeI {D E:Dk} (hD:D.down=false) (hE:E.down=false) (h1:2≤D.safe.length) (h2:E.safe.length=D.safe.length) (h:∀ i,i<2→z1O E i=z1O D i):epoch E=epoch D:=by
 unfold epoch;rw[zhO hD hE (by omega) (by omega) (h 0 (by omega)),zhO hD hE (by omega) (by omega) (h 1 (by omega))]
theorem zaK (D:Dk) (ep:Nat):2≤WM.first D ep:=by unfold WM.first;omega
structure Opened (D D':Dk) (ep:Nat) (l:List (List UInt8)):Prop where
 eq:z1S D=(0,some ⟨ep,l,l.length,false⟩,D')
 calm:Calm D'
 ok:Ok D'
 size:D'.safe.length=D.safe.length
 area:∀ i,i<half D→z1O D' (WM.first D ep+i)=z0Q (z1X (half D) l) i
 rest:∀ p,(∀ i,i<half D→p≠WM.first D ep+i)→z1O D' p=z1O D p
 none:D.waits = []→D'.waits = []
 small:∀ r ∈ l,r.length≤1024
 fit:(flat l).length≤32 * half D
theorem zlL {D:Dk} (hc:Calm D) (ok:Ok D) (h6:6≤D.safe.length) :
  ∃ D',Opened D D' (epoch D) (scan (WM.bytes D (epoch D)) ((WM.bytes D (epoch D)).length+1) 0).1:=by
 obtain⟨ep,hep⟩:=zX1 (epoch D);obtain⟨hbl,hbs⟩:=zgI hc.2 h6 ok ep;obtain⟨B,hB⟩:=zX1 (WM.bytes D ep);rw[← hB] at hbl hbs;obtain⟨s1,s2,s3,s4⟩:=z6Z B (B.length+1) 0 (Nat.zero_le _);have hca:=zcL hbl;obtain⟨r,hr⟩:=zX1 (scan B (B.length+1) 0);rw[← hr] at s1 s2 s3 s4 hca;obtain⟨a1,a2,a3,a4,a5,a6⟩:=zaZ ep B r.2 (half D) 0 false D hc ok h6 (by omega) hbl;obtain⟨W,hW⟩:=zX1 (wipe ep B r.2 0 (half D) false D);rw[← hW] at a1 a2 a3 a4 a5 a6
 have har:∀ i,i<half D→z1O W.2.2 (WM.first D ep+i)=z0Q (z1X (half D) r.1) i:=fun i hi=>by
  rw[(a6 _).1 i (Nat.zero_le _) (by omega) rfl,← hca];split
  ·rfl
  ·rename_i hd
   rw[← hbs i hi,zlE hbl hi (by simpa using hd)]
 have hre:∀ p,(∀ i,i<half D→p≠WM.first D ep+i)→z1O W.2.2 p=z1O D p:=fun p hp=>(a6 p).2 fun j _ h2=>hp j (by omega)
 have hop:z1S D=if W.2.1 then (0,some ⟨ep,r.1,r.1.length,false⟩,(DM.sync W.2.2).2) else (0,some ⟨ep,r.1,r.1.length,false⟩,W.2.2):=by
  unfold z1S;rw[if_neg (by omega),if_neg (by simp[hc.2]),← hep,← hB];simp only;rw[← hr,← hW,a1,if_neg (by simp)];split
  ·rw[show (DM.sync W.2.2).1=0 by rw[z6S a2],if_neg (by simp)]
  ·rfl
 rw[← hep,← hB,← hr];have hfit:(flat r.1).length≤32 * half D:=by omega
 by_cases hw:W.2.1=true
 ·rw[if_pos hw] at hop
  have hsy:=z6S a2;have hok:=a3.sync;rw[hsy] at hop hok;have hn:=fun p=>z7I (D:=W.2.2) (E:={ W.2.2 with safe:=now W.2.2,waits:=[] }) rfl rfl p;refine⟨_,hop,a2,hok,by show (now W.2.2).length=_;rw[z1H,a4],fun i hi=>by rw[hn,har i hi],fun p hp=>by rw[hn,hre p hp],fun _=>rfl,s4,hfit⟩
 ·rw[if_neg hw] at hop
  refine⟨_,hop,a2,a3,by rw[a4],har,hre,fun h=>by rw[a5 (by simpa using hw)];exact h,s4,hfit⟩
theorem zkU {D:Dk} (hc:Calm D) (ok:Ok D) (h6:6≤D.safe.length) {ep:Nat} (hep:epoch D=ep) {l:List (List UInt8)} (hl:∀ r ∈ l,r.length≤1024) (hf:(flat l).length≤32 * half D)
  (ha:∀ i,i<half D→z1O D (WM.first D ep+i)=z0Q (z1X (half D) l) i):z1S D=(0,some ⟨ep,l,l.length,false⟩,D):=by
 obtain⟨hbl,hbs⟩:=zgI hc.2 h6 ok ep;have hal:=z2D hf
 have hB:WM.bytes D ep=z1X (half D) l:=by
  apply List.ext_getElem?;intro q
  by_cases hq:q<32 * half D
  ·have h1:=z3P (WM.bytes D ep) (q / 32) (q % 32) (by omega)
   have h2:=z3P (z1X (half D) l) (q / 32) (q % 32) (by omega);rw[hbs _ (by omega),ha _ (by omega),h2,show 32 * (q / 32)+q % 32=q by omega] at h1;exact h1.symm
  ·rw[List.getElem?_eq_none (by omega),List.getElem?_eq_none (by omega)]
 have hln:l.length<(z1X (half D) l).length+1:=by have:=znM l;omega
 have hs:scan (z1X (half D) l) ((z1X (half D) l).length+1) 0=(l,(flat l).length):=by
  unfold z1X at hln ⊢;exact zfO l _ _ hl hln
 have hd:∀ j,j<half D→dirty (z1X (half D) l) (flat l).length j=false:=fun j hj=>by
  have h1:z1X (half D) l=clean (z1X (half D) l) (flat l).length:=by
   unfold clean;rw[hal];show flat l ++ _=(flat l ++ _).take (flat l).length ++ _;rw[List.take_left]
  rw[h1];exact zgO hal hj
 have hw:wipe ep (z1X (half D) l) (flat l).length 0 (half D) false D=(0,false,D):=by
  have:=z8C ep (z1X (half D) l) (flat l).length (half D) 0 0 false D (fun j _ h=>hd j (by omega));rw[Nat.add_zero] at this;rw[this];rfl
 unfold z1S;rw[if_neg (by omega),if_neg (by simp[hc.2]),hep,hB];simp only;rw[hs];simp only;rw[hw];simp
theorem ziI {D:Dk} (h6:6≤D.safe.length) (ep:Nat) (b:List UInt8) (hb:b.length=32 * half D) (hh:(z1B ep).length=32) :
  ((z2T ep b D).1≠0→(z2T ep b D).1=6)∧((z2T ep b D).1=0→(z2T ep b D).2.waits = []∧(∀ i,i<half D→z1O (z2T ep b D).2 (WM.first D ep+i)=z0Q b i)∧z1O (z2T ep b D).2 (ep % 2)=z1B ep∧
    ∀ p,p≠ep % 2→(∀ i,i<half D→p≠WM.first D ep+i)→z1O (z2T ep b D).2 p=z1O D p):=by
 obtain⟨a1,-,a3,a4⟩:=z4F ep b (half D) 0 D h6 (by omega) hb;unfold z2T;generalize lay ep b 0 (half D) D=r at *;simp only
 by_cases h0:r.1=0
 ·rw[if_neg (by simpa using h0)]
  by_cases h1:(DM.sync r.2).1=0
  ·rw[if_neg (by simpa using h1)]
   obtain⟨s1,s2⟩:=znO h1;have hn1:=fun p=>z7I s1 s2 p;have hsl:(DM.sync r.2).2.safe.length=D.safe.length:=by rw[z6D,a1]
   generalize (DM.sync r.2).2=y at *;have hep:ep % 2<y.safe.length:=by omega
   by_cases h2:(DM.write y ((ep % 2:Nat):Int) (z1B ep)).1=0
   ·rw[if_neg (by simpa using h2)]
    obtain⟨-,-,w1,w2⟩:=ziV h2;have hn2:=fun p=>z9C w1 w2 hep p;generalize (DM.write y ((ep % 2:Nat):Int) (z1B ep)).2=z at *;refine⟨fun h=>(zmL h).1,fun h=>?_⟩;obtain⟨t1,t2⟩:=znO h;have hn3:=fun p=>z7I t1 t2 p;have hall:∀ p,z1O (DM.sync z).2 p=if p=ep % 2 then z1B ep else z1O r.2 p:=fun p=>by rw[hn3,hn2,hn1]
    have hfg:=zaK D ep;refine⟨t2,fun i hi=>?_,by rw[hall,if_pos rfl],fun p p1 p2=>?_⟩
    ·rw[hall,if_neg (by omega)]
     exact((a4 h0 _).1 i (Nat.zero_le _) (by omega) rfl)
    ·rw[hall,if_neg p1]
     exact(a4 h0 p).2 fun j _ hj=>p2 j (by omega)
   ·rw[if_pos (by simpa using h2)]
    exact⟨fun _=>(ziK hep hh h2).1,fun h=>absurd h h2⟩
  ·rw[if_pos (by simpa using h1)]
   exact⟨fun _=>(zmL h1).1,fun h=>absurd h h1⟩
 ·rw[if_pos (by simpa using h0)]
  exact⟨a3,fun h=>absurd h h0⟩
theorem zoN {D:Dk} (hc:Calm D) (h6:6≤D.safe.length) (ep:Nat) (b:List UInt8) (hb:b.length=32 * half D) (hh:(z1B ep).length=32):(z2T ep b D).1=0∧Calm (z2T ep b D).2:=by
 obtain⟨l1,l2,l3⟩:=zdY ep b h6 hb (half D) 0 D hc rfl (by show 0+half D≤half D;omega);unfold z2T;simp only;rw[if_neg (by simpa using l1),z6S l2];simp only;rw[if_neg (by simp)];have hsl:(now (lay ep b 0 (half D) D).2).length=D.safe.length:=by rw[z1H,l3]
 have hc2:Calm { (lay ep b 0 (half D) D).2 with safe:=now (lay ep b 0 (half D) D).2,waits:=[] }:=l2;rw[z9D hc2 (ep % 2) (by show ep % 2<(now _).length;omega) (z1B ep) hh];simp only;rw[if_neg (by simp)];rw[z6S (D:={ (lay ep b 0 (half D) D).2 with safe:=now (lay ep b 0 (half D) D).2,waits:=[] ++ [(ep % 2,z1B ep)] }) l2];exact⟨rfl,l2⟩
theorem ziZ (h:Nat) (l:List (List UInt8)) {q:Nat} (hq:q<(flat l).length):(z1X h l)[q]?=(flat l)[q]?:=by
 unfold z1X;rw[List.getElem?_append_left hq]
theorem zbK (h:Nat) (l:List (List UInt8)) {q:Nat} (hq:(flat l).length≤q) (hh:q<32 * h):(z1X h l)[q]?=some 0:=by
 unfold z1X;rw[List.getElem?_append_right hq,List.getElem?_replicate,if_pos (by omega)]
theorem zsT {D:Dk} (hd:D.down=false) {i:Nat} (hi:i<D.safe.length) (s:Sec) (h:z1O D i=s):WM.head D i=(match BM.get s 0 with
  | .no _=>none
  | .yes k body _=>if k≠1 then none else match uint body 0 with | .no _=>none | .yes n t=>if t=body.length∧n<4611686018427387904∧n % 2=i then some n else none):=by
 unfold WM.head;rw[z7D hd i hi,h];rfl
end WM
end
end Go.Proofs.YtkjofdocgaiedaaGreat
