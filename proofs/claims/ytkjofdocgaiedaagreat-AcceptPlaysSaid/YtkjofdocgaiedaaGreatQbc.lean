/- Texts StoJ, StoQ, AccM, AccA, AccB, AccN, StoR, StoK, AccF, AccE, AccC, AccD in one. Conditions: as each law names them. -/
import Derived.Test.YtkjofdocgaiedaaGreatQaa
import Derived.Test.YtkjofdocgaiedaaGreatQab
import Derived.Test.YtkjofdocgaiedaaGreatQac
import Derived.Test.YtkjofdocgaiedaaGreatQad
import Derived.Test.YtkjofdocgaiedaaGreatQae
import Derived.Test.YtkjofdocgaiedaaGreatQah
import Derived.Test.YtkjofdocgaiedaaGreatQaj
import Derived.Test.YtkjofdocgaiedaaGreatQan
import Derived.Test.YtkjofdocgaiedaaGreatQaq
import Derived.Test.YtkjofdocgaiedaaGreatQax
import Derived.Test.YtkjofdocgaiedaaGreatQbb
set_option maxRecDepth 20000
set_option maxHeartbeats 8000000
namespace Go.Proofs.YtkjofdocgaiedaaGreat
section
open Go.RowKit MI SO BM
def prV (p:Str×Str):List Value:=[.string (str p.1),.string (str p.2)]
def prsV (l:List (Str×Str)):List Value:=l.flatMap prV
theorem z5P (l m:List (Str×Str)):prsV (l ++ m)=prsV l ++ prsV m:=by simp[prsV]
theorem zfQ (p:Str×Str):prsV [p]=prV p:=by simp[prsV]
theorem z8T (p:Str×Str):∀ u ∈ prV p,u.oneCell'=true:=by
 intro u hu;simp only[prV,List.mem_cons,List.not_mem_nil,or_false] at hu;rcases hu with rfl | rfl <;> rfl
def zwV:Value:=.agg #[.string { data:=#[] },.string { data:=#[] }]
theorem zlT:SliceTy Tryz.prog 115 140 zwV 2 32:=⟨by kernel_rfl,by kernel_rfl,rfl,by decide⟩
theorem z9N {ps:List (Str×Str)} (h:Sorted ps):AL.Ok ps:=by
 unfold Sorted at h;unfold AL.Ok;exact h.imp λ{a b} hab e=>by{rw[e] at hab;exact z1M _ hab}
theorem zjG (l:List (Str×Str)):(prsV l).length=l.length * 2:=by
 induction l with | nil=>{rfl} | cons p l ih=>{simp only[prsV,List.flatMap_cons,List.length_append,List.length_cons] at *;rw[ih];simp[prV];omega}
theorem z9M (l:List (Str×Str)) (i:Nat) (hi:i<l.length) (j:Nat) (hj:j<2):(prsV l)[i * 2+j]?=(prV l[i])[j]?:=by
 have e:l=l.take i ++ [l[i]] ++ l.drop (i+1):=by{simp};have hl:(prsV (l.take i)).length=i * 2:=by rw[zjG,List.length_take];omega
 conv=>lhs;rw[e]
 rw[z5P,z5P,List.append_assoc,List.getElem?_append_right (by omega),hl,zfQ,show i * 2+j - i * 2=j by omega];rw[List.getElem?_append_left (by simp[prV];omega)]
theorem MI.lay1_eq:∀ (ps:List (Str×Str)) (c:Ch) (k:Nat),k<=ps.length->(∀ i (h:i<ps.length),i<k->ps[i].1<c.key)->(∀ (h:k<ps.length),¬ ps[k].1<c.key)->
  lay1 ps c=ps.take k ++ (if c.gone then [] else [(c.key,c.value)]) ++ ps.drop (if (ps[k]?.map (·.1))=some c.key then k+1 else k)
 | [],c,k,hk,_,_=>by{have:k=0:=by{simpa using hk};subst this;simp[lay1]}
 | p :: ps,c,0,_,_,h2=>by{have h:=h2 (by simp);simp only[List.getElem_cons_zero] at h;unfold lay1;rw[if_neg h];simp only[List.take_zero,List.nil_append,List.getElem?_cons_zero,Option.map_some,Option.some.injEq];by_cases he:p.1=c.key;{rw[if_pos he,if_pos he];rfl};{rw[if_neg he,if_neg he];rfl}}
 | p :: ps,c,k+1,hk,h1,h2=>by{have h:=h1 0 (by simp) (by omega);simp only[List.getElem_cons_zero] at h;unfold lay1;rw[if_pos h,lay1_eq ps c k (by simpa using hk) (λi hi hik=>by have:=h1 (i+1) (by simpa using hi) (by omega);simpa using this) (λhh=>by have:=h2 (by simpa using hh);simpa using this)];simp only[List.take_succ_cons,List.getElem?_cons_succ,List.cons_append];by_cases he:Option.map (λx=>x.fst) ps[k]?=some c.key;{rw[if_pos he,if_pos he];rfl};{rw[if_neg he,if_neg he];rfl}}
theorem zpH (l:List (Str×Str)) (j:Nat):(prsV l).drop (j * 2)=prsV (l.drop j):=by
 induction l generalizing j with | nil=>{simp[prsV]} | cons p l ih=>{cases j with | zero=>{rfl} | succ j=>{have e:prsV (p :: l)=prV p ++ prsV l:=rfl;rw[e,List.drop_append,List.drop_of_length_le (by simp[prV];omega),List.nil_append,List.drop_succ_cons,<-ih j];congr 1;simp[prV];omega}}
theorem zhB (l:List (Str×Str)):∀ u ∈ prsV l,u.oneCell'=true:=by
 intro u hu;obtain⟨p,_,h⟩:=List.mem_flatMap.1 hu;exact z8T p u h
theorem zvD (a b:Str):Op.bytesLess (str a).toList (str b).toList=decide (a<b):=by
 rw[z1C,z1C];exact bytesLess_eq a b
structure RLayRel (w1:World) (ps:List (Str×Str)) (key:Str) (k:Nat) (v:Value) (wr:World):Prop where
 keep:Keep (fun _=>False) w1 wr
 row:Row wr 140 2 v k (prsV (ps.take k))
 own:∀ b,v.ownBlock=some b→w1.heap.size≤b
 less:∀ i (h:i<ps.length),i<k→ps[i].1<key
structure LayEnd (w1:World) (out:List (Str×Str)) (v:Value) (wr:World):Prop where
 keep:Keep (fun _=>False) w1 wr
 row:Row wr 140 2 v out.length (prsV out)
 own:∀ b,v.ownBlock=some b→w1.heap.size≤b
theorem MI.lay1_len (ps:List (Str×Str)) (c:Ch):(lay1 ps c).length<=ps.length+1:=by
 induction ps with | nil=>{unfold lay1;split <;> simp} | cons p ps ih=>{unfold lay1;split;{simp;omega};{rw[List.length_append];have e1:(if c.gone then [] else [(c.key,c.value)]).length<=1:=by{split <;> simp};have e2:(if p.1=c.key then ps else p :: ps).length<=ps.length+1:=by{split <;> simp};simp only[List.length_cons];omega}}
structure RLayTo (w:World) (v0:Value) (ps:List (Str×Str)) (n i:Nat) (v:Value) (wr:World):Prop where
 keep:Keep (fun _=>False) w wr
 row:Row wr 140 2 v ps.length (prsV ps)
 own:∀ k,v.ownBlock=some k→w.heap.size≤k∨v0.ownBlock=some k
 len:ps.length≤n+i
theorem zgZ (w:World) (ao:Option Addr) (n cap:Nat) (ps0:List (Str×Str)) (co:Option Addr) (N gc:Nat) (l:List Ch) (hrow:Row w 140 2 (.slice ao n cap) n (prsV ps0)) (hn:n=ps0.length) (hL:Chs w (.slice co N gc) l) (hN:N=l.length) (hn1:n+N<=1000000) :
  Calls Tryz.prog 49 #[.slice ao n cap,.slice co N gc] w λe w'=> ∃ v,e = .returned v/\Row w' 140 2 v (layL ps0 l).length (prsV (layL ps0 l))/\Keep zF w w'/\(∀ i,v.ownBlock=some i->w.heap.size<=i∨(Value.slice ao n cap).ownBlock=some i):=by
 have HS:=hid (zA1 hL (zA1 hN hrow));have hn0:=hn;clear hL hN hrow hn;go_enter Tryz.func49,Tryz.ntmps49;go_wp2_with (at_builtin;refine z0H ?_;intro q hq)
 go_loopw [0,5] (λpv iv wr=>∃ i:Nat,i<=N/\iv = .int .i64 i/\Hid (RLayTo w (.slice ao n cap) (layL ps0 (l.take i)) n i pv wr)) (λ_ iv _=>N - (intOf iv).toNat)
 case atStart=>exact⟨0,Nat.zero_le _,rfl,hid ⟨Keep.refl _ _,by rw[List.take_zero];show Row w _ 2 _ ps0.length (prsV ps0);rw[<-hn0];exact HS.out.2.2,λk e=>.inr e,by rw[List.take_zero];show ps0.length<=_;omega⟩⟩
 case round=>
  obtain⟨i,hi,rfl,HO⟩:=hrel;obtain⟨wo,hwo⟩:=zX1 (wr);subst hwo;obtain⟨ao,cap,hv,-⟩:=HO.out.row.form;subst hv;by_cases hiN:i<N
  ·have h4:(i:Int)<N:=by omega
   have hil:i<l.length:=by{rw[<-HS.out.2.1];exact hiN};obtain⟨ad,rfl,a0,a1,a2,hok⟩:=HS.out.1.get HO.out.keep i hil;have hsu:layL ps0 (l.take (i+1))=lay1 (layL ps0 (l.take i)) l[i]:=by{unfold layL;rw[List.take_add_one,List.getElem?_eq_getElem hil,Option.toList_some,List.foldl_append];rfl};obtain⟨q,hq⟩:=zX1 (l[i]);rw[<-hq] at a0 a1 a2 hsu;clear hq hok;have hn1':=HO.out.len;have HR0:=hid HO.out.row;obtain⟨ps,hps⟩:=zX1 (layL ps0 (l.take i));rw[<-hps] at hsu hn1' HR0 HO |-;have HSU:=hid hsu;obtain⟨n',hn'⟩:=zX1 (ps.length);rw[<-hn'] at hn1' HR0 |-;have HN:=hid hn';have hnn:n'<=1000000:=by{omega};clear hsu hps hn' hn1';obtain⟨key,value,gone⟩:=q;simp only at a0 a1 a2
   revert HR0 HN
   generalize n'=n at *;intro HR HN
   go_upto_block 2 with fail
   have hkA:=kal wo (.cells #[.string (str key),.string (str value),.bool gone] 63);have hnA:=heap_alloc_new wo (.cells #[.string (str key),.string (str value),.bool gone] 63);obtain⟨w1,hw1⟩:=zX1 (wo.alloc (.cells #[.string (str key),.string (str value),.bool gone] 63));rw[<-hw1] at hkA hnA |-;clear hw1 a0 a1 a2;obtain⟨gb,hgb⟩:=zX1 (wo.heap.size);rw[<-hgb] at hnA |-;have HA:=hid (zA1 hkA (zA1 hnA hgb));clear hkA hnA hgb
   go_cut [7,8] (λv iv wx=>∃ k:Nat,k<=n/\iv = .int .i64 k/\Hid (RLayRel w1 ps key k v wx/\∀ (h:k<ps.length),¬ ps[k].1<key))
   case first=>(go_wp2_with (at_builtin;refine z0H ?_;intro q hq);(go_loopw [7,8] (λv iv wr=>∃ k:Nat,k<=n/\iv = .int .i64 k/\Hid (RLayRel w1 ps key k v wr)) (λ_ iv _=>n - (intOf iv).toNat));(case atStart=>exact⟨0,Nat.zero_le _,rfl,hid ⟨Keep.refl _ _,Row.nil _ _ _,λb e=>by simp[Value.ownBlock] at e,λi _ hi=>by omega⟩⟩);case round=>(obtain⟨k,hk,rfl,HT⟩:=hrel;obtain⟨bo,bcap,hv,hbc,hbm,-⟩:=HT.out.row.form;subst hv;have hnr:=HT.out.keep.get HA.out.2.1 id;obtain⟨j0,j1,j2,jf,jb⟩:=z0T hnr;clear hnr;by_cases hkn:k<n;{have h4:(k:Int)<n:=by{omega};have hil:k<ps.length:=by{rw[<-HN.out];exact hkn};have hr':=(HR.out.keep HA.out.1 zI).keep HT.out.keep zI;have gets:∃ g,ao=some ⟨g,0,none⟩/\∀ t u,(prV ps[k])[t]?=some u->wr.cell? ⟨g,k * 2+t,none⟩=some u:=by{have h0:=z9M ps k hil 0 (by decide);obtain⟨g,cap,hv,hc⟩:=hr'.getCell (show (prsV ps)[k * 2+0]?=some (.string (str ps[k].1)) by rw[h0];rfl);cases hv;refine⟨g,rfl,λt u hu=>?_⟩;have ht:t<2:=(List.getElem?_eq_some_iff.1 hu).1;have h1:=z9M ps k hil t ht;rw[hu] at h1;obtain⟨g',cap',hv',hc'⟩:=hr'.getCell h1;cases hv';exact hc'};obtain⟨ga,rfl,k0⟩:=gets;have a0:=k0 0 _ rfl;have a1:=k0 1 _ rfl;rw[Nat.add_zero] at a0;clear k0 hr';obtain⟨q,hq⟩:=zX1 (ps[k]);rw[<-hq] at a0 a1;have HQ:=hid (zA1 hil hq);clear hq;by_cases hlt:q.1<key;{have hlt':Op.bytesLess (str q.1).toList (str key).toList=true:=by{rw[zvD];simpa using hlt};go_wp2_with fail;(go_quiet (fail));go_wp2_with (at_builtin;refine z0H ?_;intro q hq);(refine hq.out ?_;clear hq q);have hn7:((wr.drewN nq).alloc (.cells #[.string (str q.1),.string (str q.2)] 140)).heap[wr.heap.size]?=_:=heap_alloc_new (wr.drewN nq) (.cells #[.string (str q.1),.string (str q.2)] 140);have hk7:Keep zF wr ((wr.drewN nq).alloc (.cells #[.string (str q.1),.string (str q.2)] 140)):=((Keep.refl _ _).drewN _).alloc _;obtain⟨w7,hw7⟩:=zX1 ((wr.drewN nq).alloc (.cells #[.string (str q.1),.string (str q.2)] 140));rw[<-hw7] at hn7 hk7 |-;clear hw7;refine wpList_plain rfl (λK hK=>?_);refine z0P zlT (.tmp 33) (.tmp 38) rfl rfl (HT.out.row.keep hk7 zI) (some ⟨wr.heap.size,0,none⟩) 1 1 (prV q) (by rfl) ⟨rfl,λ_=>⟨_,rfl,λt u hu=>by rw[z0L,Nat.zero_add,cell_of_row _ _ _ _ _ _ hn7];simpa [prV] using hu⟩⟩ (z8T _) (by unfold maxLen;omega) (by omega) ?_;intro v8 w8 hr8 hk8 hv8;refine hK _ _ ?_;clear hK K;have hsz:=HT.out.keep.size;have hsz2:=hk7.size;have hown:=HT.out.own;have htk:ps.take (k+1)=ps.take k ++ [q]:=by{rw[List.take_add_one,List.getElem?_eq_getElem hil,Option.toList_some,HQ.out.2]};have HT8:=hid (RLayRel.mk (w1:=w1) (ps:=ps) (key:=key) (k:=k+1) (v:=v8) (wr:=w8) ((HT.out.keep.next hk7 zI zI).next hk8 zI (λj hj x=>absurd (hown j x) (by omega))) (by rw[htk,z5P,zfQ];exact hr8) (λb e=>by{rcases hv8 with ⟨_,h0⟩ | ⟨b',h1,h2⟩;{omega};{rw[e] at h1;cases h1;rcases h2 with h2 | h2;{exact hown _ h2};{omega}}}) (λi hi hik=>by{rcases Nat.lt_or_eq_of_le (Nat.le_of_lt_succ hik) with h | h;{exact HT.out.less i hi h};{subst h;have:=HQ.out.2;rw[<-this];exact hlt}}));clear hr8 hk8 hv8 hn7 hk7 hsz hsz2 hown a0 a1 htk hlt' j0 j1 j2 jf jb;go_wp2_with fail;go_roundw;(case rel=>exact⟨k+1,by omega,by go_num,HT8⟩);case measure=>simp[intOf];omega};{have hlt':Op.bytesLess (str q.1).toList (str key).toList=false:=by{rw[zvD];simpa using hlt};go_wp2_with fail;(go_quiet (fail));go_wp2_with fail;go_meet;exact⟨k,hk,rfl,hid ⟨⟨HT.out.keep.drewN _,HT.out.row.keep ((Keep.refl zF _).drewN _) zI,HT.out.own,HT.out.less⟩,λh=>by rw[<-HQ.out.2];exact hlt⟩⟩}};{have h4:decide ((k:Int)<n)=false:=by{simp;omega};go_wp2_with fail;(go_quiet (fail));go_wp2_with fail;go_meet;exact⟨k,hk,rfl,hid ⟨⟨HT.out.keep.drewN _,HT.out.row.keep ((Keep.refl zF _).drewN _) zI,HT.out.own,HT.out.less⟩,λh=>by have:=HN.out;omega⟩⟩}))
   case rest=>
    rename_i v7 iv8;obtain⟨k,hk,rfl,HT⟩:=hcut;obtain⟨bo,bcap,rfl,hbc,hbm,-⟩:=HT.out.1.row.form;have hnr:=HT.out.1.keep.get HA.out.2.1 id;obtain⟨j0,j1,j2,jf,jb⟩:=z0T hnr;clear hnr;obtain⟨o2,ho2⟩:=zX1 (ps.take k ++ (if gone then [] else [(key,value)]));have Ho2:=hid ho2;clear ho2
    go_upto_if 44 with fail
    go_cut [7] (λv wx=>Hid (LayEnd w1 o2 v wx))
    case first=>(cases gone with | true=>{go_wp2_with fail;go_meet;have e2:o2=ps.take k:=by{rw[Ho2.out];simp};refine hid ⟨HT.out.1.keep,?_,HT.out.1.own⟩;rw[e2,List.length_take,Nat.min_eq_left (by rw[<-HN.out];exact hk)];exact HT.out.1.row} | false=>{go_wp2_with (at_builtin;refine z0H ?_;intro q hq);(refine hq.out ?_;clear hq q);have hn7:=heap_alloc_new wc (.cells #[.string (str key),.string (str value)] 140);have hk7:=kal wc (.cells #[.string (str key),.string (str value)] 140);obtain⟨w7,hw7⟩:=zX1 (wc.alloc (.cells #[.string (str key),.string (str value)] 140));rw[<-hw7] at hn7 hk7 |-;clear hw7;refine wpList_plain rfl (λK hK=>?_);refine z0P zlT (.tmp 45) (.tmp 51) rfl rfl (HT.out.1.row.keep hk7 zI) (some ⟨wc.heap.size,0,none⟩) 1 1 (prV (key,value)) (by rfl) ⟨rfl,λ_=>⟨_,rfl,λt u hu=>by rw[z0L,Nat.zero_add,cell_of_row _ _ _ _ _ _ hn7];simpa [prV] using hu⟩⟩ (z8T _) (by unfold maxLen;omega) (by omega) ?_;intro v8 w8 hr8 hk8 hv8;refine hK _ _ ?_;clear hK K;have hsz:=HT.out.1.keep.size;have hsz2:=hk7.size;have hown:=HT.out.1.own;have e2:o2=ps.take k ++ [(key,value)]:=by{rw[Ho2.out];simp};have HT8:=hid (LayEnd.mk (w1:=w1) (out:=o2) (v:=v8) (wr:=w8) ((HT.out.1.keep.next hk7 zI zI).next hk8 zI (λj hj x=>absurd (hown j x) (by omega))) (by{rw[e2,z5P,zfQ,List.length_append,List.length_take,Nat.min_eq_left (by rw[<-HN.out];exact hk)];exact hr8}) (λb e=>by{rcases hv8 with ⟨_,h0⟩ | ⟨b',h1,h2⟩;{omega};{rw[e] at h1;cases h1;rcases h2 with h2 | h2;{exact hown _ h2};{omega}}}));clear hr8 hk8 hv8 hn7 hk7 hsz hsz2 hown e2;go_wp2_with (at_builtin;refine z0H ?_;intro q hq);go_meet;exact HT8})
    case rest=>(clear j0 j1 j2 jf jb;have HE:Hid (LayEnd w1 o2 _ wc):=hcut;clear hcut;have HL:Hid (∀ i (h:i<ps.length),i<k->ps[i].1<key):=hid HT.out.1.less;have HL2:Hid (∀ (h:k<ps.length),¬ ps[k].1<key):=hid HT.out.2;clear HT;have hnr:=HE.out.keep.get HA.out.2.1 id;obtain⟨j0,j1,j2,jf,jb⟩:=z0T hnr;clear hnr;obtain⟨B,hB⟩:∃ B:Bool,B=decide ((ps[k]?.map (·.1))=some key):=⟨_,rfl⟩;have HB:=hid hB;clear hB;(go_upto_region 12 with fail);(go_cut [66] (λtv wx=>tv = .bool B/\Hid (LayEnd w1 o2 u7 wx)));(case first=>(by_cases hkn:k<n;{have h4:(k:Int)<n:=by{omega};have hil:k<ps.length:=by{rw[<-HN.out];exact hkn};have hr':=(HR.out.keep HA.out.1 zI).keep HE.out.keep zI;have h0:=z9M ps k hil 0 (by decide);obtain⟨ga,cap',hv,hc⟩:=hr'.getCell (show (prsV ps)[k * 2+0]?=some (.string (str ps[k].1)) by rw[h0];rfl);cases hv;obtain⟨q,hq⟩:=zX1 (ps[k]);rw[<-hq] at hc;rw[Nat.add_zero] at hc;have hBq:B=decide (q.1=key):=by{rw[HB.out,hq,List.getElem?_eq_getElem hil];simp};have HBq:=hid hBq;clear hr' h0 hq hBq;go_wp2_with fail;(go_quiet (fail));go_wp2_with fail;go_meet;refine⟨?_,hid ⟨HE.out.keep.drewN _,HE.out.row.keep ((Keep.refl zF _).drewN _) zI,HE.out.own⟩⟩;rw[z1C,z1C,HBq.out];congr 1;by_cases he:q.1=key <;> simp[he]};{have h4:decide ((k:Int)<n)=false:=by{simp;omega};go_wp2_with fail;(go_quiet (fail));go_wp2_with fail;go_meet;have hBf:B=false:=by{rw[HB.out,List.getElem?_eq_none (by have:=HN.out;omega)];simp};rw[hBf];exact⟨rfl,hid ⟨HE.out.keep.drewN _,HE.out.row.keep ((Keep.refl zF _).drewN _) zI,HE.out.own⟩⟩}));case rest=>(obtain⟨rfl,HE⟩:=hcut;clear j0 j1 j2 jf jb;obtain⟨k2,hk2⟩:=zX1 (if B then k+1 else k);have hkb:B=true->k<n:=λh=>by{rw[HB.out] at h;cases hg:ps[k]? with | none=>{rw[hg] at h;simp at h} | some q=>{rw[HN.out];exact(List.getElem?_eq_some_iff.1 hg).1}};have hk2n:k2<=n:=by{rw[hk2];split;{rename_i h;exact hkb h};{exact hk}};have Hk2:=hid hk2;clear hk2 hkb;(go_upto_if 66 with fail);(go_cut [8] (λiv wx=>iv = .int .i64 k2/\Hid (LayEnd w1 o2 u7 wx)));(case first=>(cases B with | true=>{go_wp2_with fail;go_meet;exact⟨by rw[Hk2.out];rfl,HE⟩} | false=>{go_wp2_with fail;go_meet;exact⟨by rw[Hk2.out];rfl,HE⟩}));case rest=>(obtain⟨rfl,HE⟩:=hcut;obtain⟨co,ccap,rfl,hcb,hcm,-⟩:=HE.out.row.form;have hrow2:=(HR.out.keep HA.out.1 zI).keep HE.out.keep zI;have hcn:n<=cap:=by{obtain⟨a1,c1,e1,e2,_⟩:=hrow2.form;cases e1;exact e2};have hsl:=λw=>z1U (P:=Tryz.prog) zlT ao n cap .i64 k2 hk2n w;have hcells:=(Cells.of_row hrow2).tail k2 hk2n hcn (by decide);rw[zpH] at hcells;obtain⟨T,hT⟩:=zX1 (z1G ao cap k2 2);obtain⟨r,hr⟩:=zX1 (n - k2);rw[<-hT,<-hr] at hsl;rw[<-hT,<-hr] at hcells;have ho2l:o2.length<=n+1:=by{rw[Ho2.out,List.length_append,List.length_take];have:(if gone=true then [] else [(key,value)]:List (Str×Str)).length<=1:=by{split <;> simp};omega};have HD:=hid (zA1 hcells hr);clear hcells hT hr hrow2;go_wp2_with (at_builtin;refine z0H ?_;intro q hq);(refine hq.out ?_;clear hq q);refine wpList_plain rfl (λK hK=>?_);refine z0P zlT (.tmp 69) (.tmp 72) rfl rfl HE.out.row T r (cap - k2) (prsV (ps.drop k2)) (by rfl) HD.out.1 (zhB _) (by have:=HD.out.2;unfold maxLen;omega) (by have:=HD.out.2;omega) ?_;intro v8 w8 hr8 hk8 hv8;refine hK _ _ ?_;clear hK K;have hown:=HE.out.own;have hfin:o2 ++ ps.drop k2=lay1 ps ⟨key,value,gone⟩:=by{rw[lay1_eq ps ⟨key,value,gone⟩ k (by rw[<-HN.out];exact hk) HL.out HL2.out,Ho2.out,Hk2.out,HB.out];simp only[decide_eq_true_eq]};have hl:(lay1 ps ⟨key,value,gone⟩).length=o2.length+r:=by{rw[<-hfin,List.length_append,List.length_drop,HD.out.2,HN.out]};rw[<-z5P,hfin,<-hl] at hr8;have HF:=hid (zA1 hr8 (zA1 ((HA.out.1.next HE.out.keep zI zI).next hk8 zI (λj hj x=>absurd (hown j x) (by have:=HA.out.1.size;omega))) (show ∀ i,v8.ownBlock=some i->wo.heap.size<=i from λb e=>by{have:=HA.out.1.size;have:=HE.out.keep.size;rcases hv8 with ⟨e1,h0⟩ | ⟨b',h1,h2⟩;{rw[e1] at e;have:=hown _ e;omega};{rw[e] at h1;cases h1;rcases h2 with h2 | h2;{have:=hown _ h2;omega};{omega}}})));clear hr8 hk8 hv8 hown hfin hl hsl;go_wp2_with fail;go_roundw;(case rel=>exact⟨i+1,by omega,by go_num,hid ⟨HO.out.keep.next HF.out.2.1 zI zI,by rw[HSU.out];exact HF.out.1,λk e=>.inl (Nat.le_trans HO.out.keep.size (HF.out.2.2 k e)),by rw[HSU.out];have:=lay1_len ps ⟨key,value,gone⟩;have:=HO.out.len;omega⟩⟩);case measure=>simp[intOf];omega)))
  {have h4:decide ((i:Int)<N)=false:=by{simp;omega};obtain rfl:i=N:=by{omega};go_wp2_with fail;go_ret;have e:l.take i=l:=by{rw[HS.out.2.1];exact List.take_length};have h1:=HO.out.row;rw[e] at h1;exact⟨_,rfl,by rw[e];exact h1,HO.out.keep,HO.out.own⟩}
end
namespace SO
open Go.Proofs.YtkjofdocgaiedaaGreat MI BM DM WM
structure St where
 g:Lg
 ps:List (Str×Str)
 dead:Bool
def cpL (ps:List (Str×Str)):List (List UInt8):=ps.map fun p=>enc [⟨p.1,p.2,false⟩]
def cpS (D:Dk) (S:St):Int×Dk×St:=
 if S.dead then (6,D,S) else ((WM.reset D S.g (cpL S.ps)).1,(WM.reset D S.g (cpL S.ps)).2.1,⟨(WM.reset D S.g (cpL S.ps)).2.2,S.ps,decide ((WM.reset D S.g (cpL S.ps)).1=6)⟩)
def apS (D:Dk) (S:St) (b:List UInt8):Int×Dk×St:=
 ((WM.append D S.g b).1,(WM.append D S.g b).2.1,⟨(WM.append D S.g b).2.2,S.ps,decide ((WM.append D S.g b).1=6)⟩)
def z3E (D:Dk) (S:St) (b:List UInt8):Int×Dk×St:=
 if (apS D S b).1=5 then
  if (cpS (apS D S b).2.1 (apS D S b).2.2).1=0 then apS (cpS (apS D S b).2.1 (apS D S b).2.2).2.1 (cpS (apS D S b).2.1 (apS D S b).2.2).2.2 b
  else cpS (apS D S b).2.1 (apS D S b).2.2
 else apS D S b
def z8W (r:Int×Dk×St) (l:List Ch):Int×Dk×St:=(r.1,r.2.1,if r.1=0 then { r.2.2 with ps:=layL r.2.2.ps l } else r.2.2)
def doS (D:Dk) (S:St) (l:List Ch):Int×Dk×St:=
 if S.dead then (6,D,S) else if encE l≠0 then ((encE l:Int),D,S) else z8W (z3E D S (enc l)) l
def syS (D:Dk) (S:St):Int×Dk×St:=
 if S.dead then (6,D,S) else ((WM.z3V D S.g).1,(WM.z3V D S.g).2.1,⟨(WM.z3V D S.g).2.2,S.ps,decide ((WM.z3V D S.g).1=6)⟩)
def decL:List (List UInt8)→List (Str×Str)→Option (List (Str×Str))
 | [],ps=>some ps
 | b :: L,ps=>match dec b with
   | none=>none
   | some l=>decL L (layL ps l)
def opS (D:Dk):Int×Option St×Dk:=
 match (z2F D).2.1 with
 | none=>((z2F D).1,none,(z2F D).2.2)
 | some g=>match decL g.l [] with
   | none=>(50,none,(z2F D).2.2)
   | some ps=>(0,some ⟨g,ps,false⟩,(z2F D).2.2)
def OkP (p:Str×Str):Prop:=1≤p.1.length∧p.1.length≤16∧p.2.length≤128
structure PsOk (ps:List (Str×Str)):Prop where
 sorted:Sorted ps
 each:∀ p ∈ ps,OkP p
theorem PsOk.nil:PsOk []:=⟨List.Pairwise.nil,λ_ h=>by cases h⟩
theorem zrH {ps:List (Str×Str)} (hs:Sorted ps) {c:Ch} {q:Str×Str} (h:q ∈ lay1 ps c):q ∈ ps∨(c.gone=false/\q=(c.key,c.value)):=by
 have h1:=z4E (z9N (z6Y hs c)) h;rw[zfV hs] at h1;split at h1;{split at h1;{cases h1};{rename_i hk hg;have h2:=Option.some.inj h1;refine .inr ⟨by simpa using hg,?_⟩;rw[h2,<-hk]}};{exact .inl (z3F h1)}
theorem PsOk.lay1 {ps:List (Str×Str)} (h:PsOk ps) {c:Ch} (hc:z1L c=true):PsOk (MI.lay1 ps c):=by
 refine⟨z6Y h.sorted c,λp hp=>?_⟩;rcases zrH h.sorted hp with h1 | ⟨-,rfl⟩;{exact h.each p h1};{unfold z1L at hc;have:=of_decide_eq_true hc;exact⟨this.1,this.2.1,this.2.2.1⟩}
theorem PsOk.layL:∀ {l:List Ch} {ps:List (Str×Str)},PsOk ps->(∀ c ∈ l,z1L c=true)->PsOk (MI.layL ps l)
 | [],_,h,_=>h
 | c :: l,_,h,hc=>PsOk.layL (l:=l) (h.lay1 (hc c (by simp))) λc' h'=>hc c' (by simp[h'])
theorem z6Z:∀ (l:List Ch) (ps:List (Str×Str)),(MI.layL ps l).length<=ps.length+l.length
 | [],_=>Nat.le_refl _
 | c :: l,ps=>by{have h1:=z6Z l (MI.lay1 ps c);have h2:=lay1_len ps c;show (MI.layL (MI.lay1 ps c) l).length<=_;rw[List.length_cons];omega}
theorem zcF {p:Str×Str} (h:OkP p):right [⟨p.1,p.2,false⟩]=true:=by
 obtain⟨h1,h2,h3⟩:=h;unfold right;simp[z1L];omega
theorem zuZ {m ps:List (Str×Str)} (hm:AL.Ok m) (hp:Sorted ps) (h:∀ x,AL.get m x=AL.get ps x):m.length=ps.length:=by
 have hp':AL.Ok ps:=z9N hp;have hn:∀ {q:List (Str×Str)},AL.Ok q->(q.map (·.1)).Nodup:=λ{q} hq=>by{unfold List.Nodup;rw[List.pairwise_map];exact hq};have hmem:∀ {q:List (Str×Str)},AL.Ok q->∀ x,x ∈ q.map (·.1)↔(AL.get q x).isSome=true:=λ{q} hq x=>by{rw[List.mem_map];constructor;{rintro⟨p,hp,rfl⟩;rw[z4E hq hp];rfl};{intro h;cases hg:AL.get q x with | none=>{rw[hg] at h;cases h} | some y=>{exact⟨(x,y),z3F hg,rfl⟩}}};have:=(List.perm_ext_iff_of_nodup (hn hm) (hn hp')).2 λx=>by{rw[hmem hm,hmem hp',h]};have:=this.length_eq;simpa using this
end SO
namespace AC
open Go.Proofs.YtkjofdocgaiedaaGreat MI SO BM
structure Bal where
 n:Nat
 node:Int
deriving DecidableEq,Inhabited
def Bal.zero:Bal:=⟨0,0⟩
def less (a b:Bal):Bool:=decide (a.n<b.n) || (decide (a.n=b.n) && decide (a.node<b.node))
def z2P (b:Bal):Bool:=decide (0<b.n) && (decide (0≤b.node) && decide (b.node<12))
def putB (b:Bal):Str:=z0K b.n ++ z0K b.node.toNat
def beN:Nat→Nat→Str
 | 0,_=>[]
 | k+1,s=>UInt8.ofNat (s / 256 ^ k % 256) :: beN k s
def keyS (s:Nat):Str:=118 :: beN 8 s
def valN:Str→Nat
 | []=>0
 | x :: l=>x.toNat * 256 ^ l.length+valN l
def z2Q (k:Str):Nat:=match k with
 | []=>0
 | c :: r=>if c=118∧r.length=8 then valN r else 0
def pK:Str:=[112]
structure Vt where
 slot:Nat
 bal:Bal
 val:Str
deriving DecidableEq,Inhabited
def getB (s:Str):Option (Bal×Str):=match uint s 0 with
 | .no _=>none
 | .yes n a=>match uint s a with
   | .no _=>none
   | .yes k b=>if k<12∧0<n then some (⟨n,(k:Int)⟩,s.drop b) else none
theorem zcH (a:Bal):less a a=false:=by simp[less]
theorem znP {a b c:Bal} (h:less a b=true) (k:less b c=true):less a c=true:=by
 simp only[less,Bool.or_eq_true,Bool.and_eq_true,decide_eq_true_eq] at *;omega
theorem zaO {a b:Bal} (h:less a b=false) (k:less b a=false):a=b:=by
 obtain⟨an,ad⟩:=a;obtain⟨bn,bd⟩:=b;simp only[less,Bool.or_eq_false_iff,Bool.and_eq_false_iff,decide_eq_false_iff_not] at *;congr 1 <;> omega
theorem z1N {b:Bal}:z2P b=true↔0<b.n/\0<=b.node/\b.node<12:=by
 simp[z2P]
theorem z6M:∀ k s,(beN k s).length=k
 | 0,_=>rfl
 | k+1,s=>by simp[beN,z6M k]
theorem z5J (s:Nat):(keyS s).length=9:=by simp[keyS,z6M]
theorem zjP:∀ k s m,beN k (s+m * 256 ^ k)=beN k s
 | 0,_,_=>rfl
 | k+1,s,m=>by{have hp:0<256 ^ k:=Nat.pow_pos (by decide);have e:s+m * 256 ^ (k+1)=s+(m * 256) * 256 ^ k:=by{rw[Nat.pow_succ,Nat.mul_assoc,Nat.mul_comm 256 (256 ^ k)]};unfold beN;rw[e,zjP k s (m * 256),Nat.add_mul_div_right _ _ hp,Nat.add_mul_mod_self_right]}
theorem ziP (k s:Nat):beN k (s % 256 ^ k)=beN k s:=by
 have:=zjP k (s % 256 ^ k) (s / 256 ^ k);rw[Nat.mul_comm,Nat.mod_add_div] at this;exact this.symm
theorem zbV:∀ l:Str,valN l<256 ^ l.length
 | []=>by simp[valN]
 | x :: l=>by{have h1:=zbV l;have h2:x.toNat<256:=x.toNat_lt;have h3:x.toNat * 256 ^ l.length<=255 * 256 ^ l.length:=Nat.mul_le_mul_right _ (by omega);simp only[valN,List.length_cons,Nat.pow_succ];omega}
theorem zkX:∀ l:Str,beN l.length (valN l)=l
 | []=>rfl
 | x :: l=>by{have h1:=zbV l;have hp:0<256 ^ l.length:=Nat.pow_pos (by decide);have e:valN (x :: l)=valN l+x.toNat * 256 ^ l.length:=by{simp only[valN];omega};simp only[List.length_cons,beN];rw[e,zjP,zkX l,Nat.add_mul_div_right _ _ hp,Nat.div_eq_of_lt h1,Nat.zero_add,Nat.mod_eq_of_lt x.toNat_lt];simp}
theorem zkB:∀ k s,s<256 ^ k->valN (beN k s)=s
 | 0,s,h=>by simp[beN,valN] at *;omega
 | k+1,s,h=>by{have hp:0<256 ^ k:=Nat.pow_pos (by decide);have h2:s / 256 ^ k<256:=by{rw[Nat.div_lt_iff_lt_mul hp,Nat.mul_comm,<-Nat.pow_succ];exact h};have h3:=zkB k (s % 256 ^ k) (Nat.mod_lt _ hp);rw[ziP] at h3;simp only[beN,valN,z6M,h3];have:(UInt8.ofNat (s / 256 ^ k % 256)).toNat=s / 256 ^ k:=by{simp[Nat.mod_eq_of_lt h2]};rw[this,Nat.mul_comm];exact Nat.div_add_mod _ _}
theorem zvE:∀ k s t,s<t->t<256 ^ k->beN k s<beN k t
 | 0,s,t,h,h2=>by simp at h2;omega
 | k+1,s,t,h,h2=>by{have hp:0<256 ^ k:=Nat.pow_pos (by decide);have hdiv:∀ x,x<256 ^ (k+1)->x / 256 ^ k<256:=λx hx=>by{rw[Nat.div_lt_iff_lt_mul hp,Nat.mul_comm,<-Nat.pow_succ];exact hx};have hs:=hdiv s (by omega);have ht:=hdiv t h2;have hle:s / 256 ^ k<=t / 256 ^ k:=Nat.div_le_div_right (by omega);unfold beN;rw[List.cons_lt_cons_iff];rcases Nat.lt_or_eq_of_le hle with x | x;{left;rw[UInt8.lt_iff_toNat_lt];simp[Nat.mod_eq_of_lt hs,Nat.mod_eq_of_lt ht];exact x};{right;refine⟨by rw[x],?_⟩;rw[<-ziP k s,<-ziP k t];refine zvE k _ _ ?_ (Nat.mod_lt _ hp);have h3:=Nat.div_add_mod s (256 ^ k);have h4:=Nat.div_add_mod t (256 ^ k);rw[x] at h3;omega}}
theorem zjC {s t:Nat} (h:s<t) (h2:t<18446744073709551616):keyS s<keyS t:=by
 unfold keyS;rw[List.cons_lt_cons_iff];exact .inr ⟨rfl,zvE 8 s t h h2⟩
theorem zuD (s:Nat):pK<keyS s:=by
 unfold pK keyS;rw[List.cons_lt_cons_iff];exact .inl (by decide)
theorem zaT {s:Nat} (h:s<18446744073709551616):z2Q (keyS s)=s:=by
 unfold z2Q keyS;simp only[z6M,and_self,if_true];exact zkB 8 s h
theorem znN {k:Str} (h:z2Q k≠0):k=keyS (z2Q k)/\z2Q k<18446744073709551616:=by
 cases k with | nil=>{simp[z2Q] at h} | cons c r=>{unfold z2Q at *;simp only at *;by_cases hc:c=118/\r.length=8;{rw[if_pos hc] at *;have h1:=zkX r;have h2:=zbV r;rw[hc.2] at h1 h2;exact⟨by unfold keyS;rw[h1,hc.1],h2⟩};{rw[if_neg hc] at h;exact absurd rfl h}}
theorem zcR (n:Nat):(z0K n).length<=10:=z3S 10 n
theorem z8C {b:Bal} (hb:z2P b=true) (hn:b.n<18446744073709551616) (v:Str):getB (putB b ++ v)=some (b,v):=by
 obtain⟨h0,h1,h2⟩:=z1N.1 hb;obtain⟨n,node⟩:=b;simp only at *;obtain⟨m,rfl⟩:∃ m:Nat,(m:Int)=node:=⟨node.toNat,by omega⟩;have e1:uint (putB ⟨n,m⟩ ++ v) 0 = .yes n (0+(z0K n).length):=z6U (rest:=z0K m ++ v) hn (by simp[putB]) (Nat.zero_le _);rw[Nat.zero_add] at e1;have e2:uint (putB ⟨n,m⟩ ++ v) (z0K n).length = .yes m ((z0K n).length+(z0K m).length):=z6U (rest:=v) (by omega) (by simp[putB]) (by simp[putB]);unfold getB;rw[e1];simp only;rw[e2];simp only;rw[if_pos ⟨by omega,h0⟩];simp only[Option.some.injEq,Prod.mk.injEq,true_and];simp[putB]
theorem zuC {s v:Str} {b:Bal} (h:getB s=some (b,v)):z2P b=true/\b.n<18446744073709551616/\s=putB b ++ v:=by
 unfold getB at h;cases h1:uint s 0 with | no _=>{rw[h1] at h;cases h} | yes n a=>{rw[h1] at h;simp only at h;cases h2:uint s a with | no _=>{rw[h2] at h;cases h} | yes k c=>{rw[h2] at h;simp only at h;by_cases hc:k<12/\0<n;{rw[if_pos hc] at h;simp only[Option.some.injEq,Prod.mk.injEq] at h;obtain⟨rfl,rfl⟩:=h;obtain⟨p1,p2,p3,p4⟩:=z2Y h1;obtain⟨q1,q2,q3,q4⟩:=z2Y h2;refine⟨z1N.2 ⟨hc.2,by simp,by simp;omega⟩,p1,?_⟩;simp only[putB,Int.toNat_natCast];rw[<-p4,<-q4,List.drop_zero,Nat.sub_zero];have e:s.drop a=(s.drop a).take (c - a) ++ (s.drop a).drop (c - a):=(List.take_append_drop _ _).symm;have e2:(s.drop a).drop (c - a)=s.drop c:=by{rw[List.drop_drop];congr 1;omega};rw[List.append_assoc,<-e2,<-e,List.take_append_drop]};{rw[if_neg hc] at h;cases h}}}
end AC
section
open Go.RowKit Go.Maps MI SO BM DM WM AC
abbrev balC (b:Bal):Array Value:=#[.int .u64 (b.n:Int),.int .i64 b.node]
abbrev balV (b:Bal):Value:=.agg (balC b)
def BalR (b:Bal):Prop:=b.n<18446744073709551616∧-9223372036854775808≤b.node∧b.node≤9223372036854775807
theorem zfN (w:World) (b:Bal):(w.alloc (.cells (balC b) 28)).cell? ⟨w.heap.size,0,none⟩=some (.int .u64 (b.n:Int))/\(w.alloc (.cells (balC b) 28)).cell? ⟨w.heap.size,1,none⟩=some (.int .i64 b.node)/\
  (∀ o,(w.alloc (.cells (balC b) 28)).frozen? ⟨w.heap.size,o,none⟩=false)/\Keep zF w (w.alloc (.cells (balC b) 28)):=by
 have h:=heap_alloc_new w (.cells (balC b) 28);have hk:=kal w (.cells (balC b) 28);generalize w.alloc (.cells (balC b) 28)=w1 at *;refine⟨?_,?_,?_,hk⟩ <;> simp[World.cell?,World.frozen?,h]
theorem zmG (w:World) (a b:Bal):let w2:=(w.alloc (.cells (balC a) 28)).alloc (.cells (balC b) 28)
  w2.cell? ⟨w.heap.size,0,none⟩=some (.int .u64 (a.n:Int))/\w2.cell? ⟨w.heap.size,1,none⟩=some (.int .i64 a.node)/\(∀ o,w2.frozen? ⟨w.heap.size,o,none⟩=false)/\
  w2.cell? ⟨w.heap.size+1,0,none⟩=some (.int .u64 (b.n:Int))/\w2.cell? ⟨w.heap.size+1,1,none⟩=some (.int .i64 b.node)/\(∀ o,w2.frozen? ⟨w.heap.size+1,o,none⟩=false)/\Keep zF w w2:=by
 intro w2;have h1:=heap_alloc_new w (.cells (balC a) 28);have hk1:=kal w (.cells (balC a) 28);have hk2:Keep zF (w.alloc (.cells (balC a) 28)) w2:=(Keep.refl _ _).alloc _;have h2:=hk2.get h1 id;have h3:w2.heap[w.heap.size+1]?=some (.cells (balC b) 28 (0,0)):=by{have:=heap_alloc_new (w.alloc (.cells (balC a) 28)) (.cells (balC b) 28);have e:(w.alloc (.cells (balC a) 28)).heap.size=w.heap.size+1:=by{simp};rw[e] at this;exact this};have hk:=hk1.nx hk2;clear hk1 hk2 h1;generalize w2=w3 at *;refine⟨?_,?_,?_,?_,?_,?_,hk⟩ <;> simp[World.cell?,World.frozen?,h2,h3]
theorem zaH (w:World) (b:Bal):Calls Tryz.prog 35 #[balV b] w λe w'=>e = .returned (.bool (z2P b))/\Keep zF w w':=by
 obtain⟨c0,c1,cf,hk⟩:=zfN w b;have HK:=hid hk;clear hk;obtain⟨n,d⟩:=b;obtain⟨r,hr⟩:=zX1 (z2P ⟨n,d⟩);rw[<-hr];have HR:=hid hr;clear hr;simp only at c0 c1;by_cases h0:0<n;{have q0:(0:Int)<(n:Int):=by{omega};by_cases h1:0<=d;{by_cases h2:d<12;{have HE:=hid (show r=true by rw[HR.out];exact z1N.2 ⟨h0,h1,h2⟩);go_enter Tryz.func35,Tryz.ntmps35;go_wp2_with fail;go_ret;exact⟨by rw[HE.out];first | rfl | (simp;omega),HK.out⟩};{have HE:=hid (show r=false by rw[HR.out];cases h:z2P ⟨n,d⟩ with | false=>rfl | true=>exact absurd (z1N.1 h).2.2 h2);have q2:decide (d<12)=false:=decide_eq_false h2;go_enter Tryz.func35,Tryz.ntmps35;go_wp2_with fail;go_ret;exact⟨by rw[HE.out];first | rfl | (simp;omega),HK.out⟩}};{have HE:=hid (show r=false by rw[HR.out];cases h:z2P ⟨n,d⟩ with | false=>rfl | true=>exact absurd (z1N.1 h).2.1 h1);have q1:decide (0<=d)=false:=decide_eq_false h1;go_enter Tryz.func35,Tryz.ntmps35;go_wp2_with fail;go_ret;exact⟨by rw[HE.out];first | rfl | (simp;omega),HK.out⟩}};{have HE:=hid (show r=false by rw[HR.out];cases h:z2P ⟨n,d⟩ with | false=>rfl | true=>exact absurd (z1N.1 h).1 h0);have q0:decide ((0:Int)<(n:Int))=false:=by{simp;omega};have q3:decide (0<n)=false:=by{simp;omega};go_enter Tryz.func35,Tryz.ntmps35;go_wp2_with fail;go_ret;exact⟨by rw[HE.out];first | rfl | (simp;omega),HK.out⟩}
theorem zdB (w:World) (b:Bal):Calls Tryz.prog 13 #[balV b] w λe w'=>e = .returned (.bool (z2P b))/\Keep zF w w':=by
 obtain⟨c0,c1,cf,hk⟩:=zfN w b;have HK:=hid hk;clear hk;obtain⟨n,d⟩:=b;obtain⟨r,hr⟩:=zX1 (z2P ⟨n,d⟩);rw[<-hr];have HR:=hid hr;clear hr;simp only at c0 c1;by_cases h0:0<n;{have q0:(0:Int)<(n:Int):=by{omega};by_cases h1:0<=d;{by_cases h2:d<12;{have HE:=hid (show r=true by rw[HR.out];exact z1N.2 ⟨h0,h1,h2⟩);go_enter Tryz.func13,Tryz.ntmps13;go_wp2_with fail;go_ret;exact⟨by rw[HE.out];first | rfl | (simp;omega),HK.out⟩};{have HE:=hid (show r=false by rw[HR.out];cases h:z2P ⟨n,d⟩ with | false=>rfl | true=>exact absurd (z1N.1 h).2.2 h2);have q2:decide (d<12)=false:=decide_eq_false h2;go_enter Tryz.func13,Tryz.ntmps13;go_wp2_with fail;go_ret;exact⟨by rw[HE.out];first | rfl | (simp;omega),HK.out⟩}};{have HE:=hid (show r=false by rw[HR.out];cases h:z2P ⟨n,d⟩ with | false=>rfl | true=>exact absurd (z1N.1 h).2.1 h1);have q1:decide (0<=d)=false:=decide_eq_false h1;go_enter Tryz.func13,Tryz.ntmps13;go_wp2_with fail;go_ret;exact⟨by rw[HE.out];first | rfl | (simp;omega),HK.out⟩}};{have HE:=hid (show r=false by rw[HR.out];cases h:z2P ⟨n,d⟩ with | false=>rfl | true=>exact absurd (z1N.1 h).1 h0);have q0:decide ((0:Int)<(n:Int))=false:=by{simp;omega};have q3:decide (0<n)=false:=by{simp;omega};go_enter Tryz.func13,Tryz.ntmps13;go_wp2_with fail;go_ret;exact⟨by rw[HE.out];first | rfl | (simp;omega),HK.out⟩}
theorem z9G (w:World) (a b:Bal):Calls Tryz.prog 36 #[balV a,balV b] w λe w'=>e = .returned (.bool (less a b))/\Keep zF w w':=by
 obtain⟨c0,c1,cf,d0,d1,df,hk⟩:=zmG w a b;have HK:=hid hk;clear hk;obtain⟨an,ad⟩:=a;obtain⟨bn,bd⟩:=b;obtain⟨r,hr⟩:=zX1 (less ⟨an,ad⟩ ⟨bn,bd⟩);rw[<-hr];have HR:=hid hr;clear hr;simp only at c0 c1 d0 d1;rcases Nat.lt_trichotomy an bn with h | h | h;{have HE:=hid (show r=true by rw[HR.out];simp[less];omega);have q0:(an:Int)<(bn:Int):=by{omega};have q1:((an:Int) == (bn:Int))=false:=by{simp;omega};have q2:decide (an=bn)=false:=by{simp;omega};go_enter Tryz.func36,Tryz.ntmps36;go_wp2_with fail;go_ret;exact⟨by rw[HE.out];first | rfl | (simp;omega),HK.out⟩};{subst h;have q0:decide ((an:Int)<(an:Int))=false:=by{simp};by_cases hd:ad<bd;{have HE:=hid (show r=true by rw[HR.out];simp[less];omega);go_enter Tryz.func36,Tryz.ntmps36;go_wp2_with fail;go_ret;exact⟨by rw[HE.out];first | rfl | (simp;omega),HK.out⟩};{have HE:=hid (show r=false by rw[HR.out];simp[less];omega);have q3:decide (ad<bd)=false:=decide_eq_false hd;go_enter Tryz.func36,Tryz.ntmps36;go_wp2_with fail;go_ret;exact⟨by rw[HE.out];first | rfl | (simp;omega),HK.out⟩}};{have HE:=hid (show r=false by rw[HR.out];simp[less];omega);have q0:decide ((an:Int)<(bn:Int))=false:=by{simp;omega};have q1:((an:Int) == (bn:Int))=false:=by{simp;omega};have q2:decide (an=bn)=false:=by{simp;omega};have q4:decide (an<bn)=false:=by{simp;omega};go_enter Tryz.func36,Tryz.ntmps36;go_wp2_with fail;go_ret;exact⟨by rw[HE.out];first | rfl | (simp;omega),HK.out⟩}
theorem zaK (w:World) (a b:Bal):Calls Tryz.prog 15 #[balV a,balV b] w λe w'=>e = .returned (.bool (less a b))/\Keep zF w w':=by
 obtain⟨c0,c1,cf,d0,d1,df,hk⟩:=zmG w a b;have HK:=hid hk;clear hk;obtain⟨an,ad⟩:=a;obtain⟨bn,bd⟩:=b;obtain⟨r,hr⟩:=zX1 (less ⟨an,ad⟩ ⟨bn,bd⟩);rw[<-hr];have HR:=hid hr;clear hr;simp only at c0 c1 d0 d1;rcases Nat.lt_trichotomy an bn with h | h | h;{have HE:=hid (show r=true by rw[HR.out];simp[less];omega);have q0:(an:Int)<(bn:Int):=by{omega};have q1:((an:Int) == (bn:Int))=false:=by{simp;omega};have q2:decide (an=bn)=false:=by{simp;omega};go_enter Tryz.func15,Tryz.ntmps15;go_wp2_with fail;go_ret;exact⟨by rw[HE.out];first | rfl | (simp;omega),HK.out⟩};{subst h;have q0:decide ((an:Int)<(an:Int))=false:=by{simp};by_cases hd:ad<bd;{have HE:=hid (show r=true by rw[HR.out];simp[less];omega);go_enter Tryz.func15,Tryz.ntmps15;go_wp2_with fail;go_ret;exact⟨by rw[HE.out];first | rfl | (simp;omega),HK.out⟩};{have HE:=hid (show r=false by rw[HR.out];simp[less];omega);have q3:decide (ad<bd)=false:=decide_eq_false hd;go_enter Tryz.func15,Tryz.ntmps15;go_wp2_with fail;go_ret;exact⟨by rw[HE.out];first | rfl | (simp;omega),HK.out⟩}};{have HE:=hid (show r=false by rw[HR.out];simp[less];omega);have q0:decide ((an:Int)<(bn:Int))=false:=by{simp;omega};have q1:((an:Int) == (bn:Int))=false:=by{simp;omega};have q2:decide (an=bn)=false:=by{simp;omega};have q4:decide (an<bn)=false:=by{simp;omega};go_enter Tryz.func15,Tryz.ntmps15;go_wp2_with fail;go_ret;exact⟨by rw[HE.out];first | rfl | (simp;omega),HK.out⟩}
theorem z4J:SliceTy Tryz.prog 22 31 (.agg #[.int .u64 0,.int .u64 0,.int .i64 0,.slice none 0 0]) 4 48:=⟨by kernel_rfl,by kernel_rfl,rfl,by decide⟩
def z2X (v:Vt) (u:Value):List Value:=[.int .u64 (v.slot:Int),.int .u64 (v.bal.n:Int),.int .i64 v.bal.node,u]
def z0V (vs:List Vt) (us:List Value):List Value:=(vs.zip us).flatMap fun p=>z2X p.1 p.2
theorem z8Y {vs:List Vt} {us:List Value} (h:us.length=vs.length) (v:Vt) (u:Value):z0V (vs ++ [v]) (us ++ [u])=z0V vs us ++ z2X v u:=by
 unfold z0V;rw[List.zip_append h.symm];simp
theorem z8I:∀ {vs:List Vt} {us:List Value},us.length=vs.length->∀ (i:Nat) (hi:i<vs.length) (j:Nat),j<4->(z0V vs us)[i * 4+j]?=(z2X vs[i] (us.getD i undef))[j]?
 | [],_,_,i,hi,_,_=>absurd hi (by simp)
 | v :: vs,[],h,_,_,_,_=>absurd h (by simp)
 | v :: vs,u :: us,h,0,_,j,hj=>by{have e:z0V (v :: vs) (u :: us)=z2X v u ++ z0V vs us:=rfl;rw[e,List.getElem?_append_left (by simp[z2X];omega)];simp}
 | v :: vs,u :: us,h,i+1,hi,j,hj=>by{have e:z0V (v :: vs) (u :: us)=z2X v u ++ z0V vs us:=rfl;rw[e,List.getElem?_append_right (by simp[z2X];omega),show (i+1) * 4+j - (z2X v u).length=i * 4+j by simp[z2X];omega];rw[z8I (by simpa using h) i (by simpa using hi) j hj];simp}
theorem z4W {vs:List Vt} {us:List Value} (h:us.length=vs.length):(z0V vs us).length=vs.length * 4:=by
 induction vs generalizing us with | nil=>{simp[z0V]} | cons v vs ih=>{cases us with | nil=>{simp at h} | cons u us=>{have e:z0V (v :: vs) (u :: us)=z2X v u ++ z0V vs us:=rfl;rw[e,List.length_append,ih (by simpa using h)];simp[z2X];omega}}
structure Votes (w:World) (F:Nat→Prop) (v:Value) (vs:List Vt) (us:List Value):Prop where
 row:Row w 31 4 v vs.length (z0V vs us)
 len:us.length=vs.length
 own:∀ k,v.ownBlock=some k→F k
 each:∀ j (hj:j<vs.length),Row w 5 1 (us.getD j undef) vs[j].val.length (z0B vs[j].val)∧∀ k,(us.getD j undef).ownBlock=some k→F k∧v.ownBlock≠some k
theorem Votes.keep {w w':World} {F G:Nat->Prop} {v:Value} {vs:List Vt} {us:List Value} (h:Votes w F v vs us) (hk:Keep G w w') (hG:∀ k,F k->¬ G k):Votes w' F v vs us:=
 ⟨h.row.keep hk λk e=>hG k (h.own k e),h.len,h.own,λj hj=>let ⟨h2,h3⟩:=h.each j hj;⟨h2.keep hk λk e=>hG k (h3 k e).1,h3⟩⟩
theorem Votes.mono {w:World} {F F':Nat->Prop} {v:Value} {vs:List Vt} {us:List Value} (h:Votes w F v vs us) (hF:∀ k,F k->F' k):Votes w F' v vs us:=
 ⟨h.row,h.len,λk e=>hF k (h.own k e),λj hj=>let ⟨h2,h3⟩:=h.each j hj;⟨h2,λk e=>⟨hF k (h3 k e).1,(h3 k e).2⟩⟩⟩
theorem Votes.nil (w:World) (F:Nat->Prop):Votes w F (.slice none 0 0) [] []:=
 ⟨Row.nil _ _ _,rfl,λk e=>by simp[Value.ownBlock] at e,λj hj=>by simp at hj⟩
theorem Votes.push {wr w':World} {F F':Nat->Prop} {v v' u:Value} {vs:List Vt} {us:List Value} {x:Vt} (h:Votes wr F v vs us)
  (hu:Row wr 5 1 u x.val.length (z0B x.val)) (hou:∀ k,u.ownBlock=some k->F' k/\v.ownBlock≠some k)
  (hr:Row w' 31 4 v' (vs.length+1) (z0V vs us ++ z2X x u)) (hk:Keep (λk=>v.ownBlock=some k) wr w') (hF:∀ k,F k->F' k)
  (hv:∀ k,v'.ownBlock=some k->F' k/\(v.ownBlock=some k∨wr.heap.size<=k)):Votes w' F' v' (vs ++ [x]) (us ++ [u]):=by
 have nov:∀ (y:Value) (n:Nat) (xs:List Value),Row wr 5 1 y n xs->∀ k,y.ownBlock=some k->v.ownBlock≠some k->v'.ownBlock≠some k:=by{intro y n xs hy k e hne e';rcases (hv k e').2 with z | z;{exact hne z};{have:=hy.lt e;omega}};refine⟨by rw[z8Y h.len];simpa using hr,by simp[h.len],λk e=>(hv k e).1,λj hj=>?_⟩;by_cases hjl:j<vs.length;{obtain⟨h2,h3⟩:=h.each j hjl;have e:(us ++ [u]).getD j undef=us.getD j undef:=by{simp only[List.getD_eq_getElem?_getD];rw[List.getElem?_append_left (by rw[h.len];exact hjl)]};rw[List.getElem_append_left hjl,e];exact⟨h2.keep hk λk e=>(h3 k e).2,λk e=>⟨hF k (h3 k e).1,nov _ _ _ h2 k e (h3 k e).2⟩⟩};{obtain rfl:j=vs.length:=by{simp at hj;omega};have e:(us ++ [u]).getD vs.length undef=u:=by{simp only[List.getD_eq_getElem?_getD];rw[List.getElem?_append_right (by rw[h.len];exact Nat.le_refl _),h.len];simp};rw[List.getElem_append_right (Nat.le_refl _),e];simp only[Nat.sub_self,List.getElem_cons_zero];exact⟨hu.keep hk λk e=>(hou k e).2,λk e=>⟨(hou k e).1,nov u _ _ hu k e (hou k e).2⟩⟩}
theorem Votes.get {w:World} {F:Nat->Prop} {ao:Option Addr} {n c:Nat} {vs:List Vt} {us:List Value} (h:Votes w F (.slice ao n c) vs us) (i:Nat) (hi:i<vs.length) :
  ∃ g ua uc,ao=some ⟨g,0,none⟩/\(∀ j u,(z2X vs[i] (.slice ua vs[i].val.length uc))[j]?=some u->w.cell? ⟨g,i * 4+j,none⟩=some u)/\Row w 5 1 (.slice ua vs[i].val.length uc) vs[i].val.length (z0B vs[i].val):=by
 obtain⟨h2,-⟩:=h.each i hi;obtain⟨ua,uc,e,-⟩:=h2.form;have h0:=z8I h.len i hi 0 (by decide);obtain⟨g,cap,hv,-⟩:=h.row.getCell (show (z0V vs us)[i * 4+0]?=some (.int .u64 (vs[i].slot:Int)) by rw[h0];rfl);cases hv;refine⟨g,ua,uc,rfl,λj u hu=>?_,by rw[<-e];exact h2⟩;have hj:j<4:=(List.getElem?_eq_some_iff.1 hu).1;have h1:=z8I h.len i hi j hj;rw[e,hu] at h1;obtain⟨g',cap',hv',hc'⟩:=h.row.getCell h1;cases hv';exact hc'
end
namespace AC
open Go.Proofs.YtkjofdocgaiedaaGreat MI SO BM
def rd1 (st:Bal×List Vt) (p:Str×Str):Option (Bal×List Vt):=match getB p.2 with
 | none=>none
 | some (b,rest)=>if p.1=pK then (if rest = [] then some (b,st.2) else none) else if z2Q p.1≠0∧rest.length≤100 then some (st.1,st.2 ++ [⟨z2Q p.1,b,rest⟩]) else none
def rdL:Bal×List Vt→List (Str×Str)→Option (Bal×List Vt)
 | st,[]=>some st
 | st,p :: ps=>match rd1 st p with
   | none=>none
   | some st=>rdL st ps
def rd (ps:List (Str×Str)):Option (Bal×List Vt):=match rdL (Bal.zero,[]) ps with
 | none=>none
 | some (b,vs)=>if vs.any (fun v=>less b v.bal) then none else some (b,vs)
def encV (v:Vt):Str×Str:=(keyS v.slot,putB v.bal ++ v.val)
def encP (b:Bal) (vs:List Vt):List (Str×Str):=(if b=Bal.zero then [] else [(pK,putB b)]) ++ vs.map encV
def OkB (b:Bal):Prop:=z2P b=true∧b.n<18446744073709551616
structure OkV (b:Bal) (v:Vt):Prop where
 slot:0<v.slot
 lt:v.slot<18446744073709551616
 bal:OkB v.bal
 val:v.val.length≤100
 top:less b v.bal=false
def Rise (vs:List Vt):Prop:=vs.Pairwise fun u v=>u.slot<v.slot
structure VOk (b:Bal) (vs:List Vt):Prop where
 bal:b=Bal.zero∨OkB b
 rise:Rise vs
 each:∀ v ∈ vs,OkV b v
theorem zqY {b:Bal} (h:z2P b=true):less Bal.zero b=true:=by
 unfold less;rw[show decide (Bal.zero.n<b.n)=true from decide_eq_true (z1N.1 h).1];rfl
theorem OkB.ne {b:Bal} (h:OkB b):b≠Bal.zero:=λe=>by
 have:=(z1N.1 h.1).1;rw[e] at this;exact absurd this (by decide)
theorem VOk.zero {vs:List Vt} (h:VOk Bal.zero vs):vs = []:=by
 cases vs with | nil=>{rfl} | cons v vs=>{have h1:=h.each v (by simp);have:=h1.top;rw[zqY h1.bal.1] at this;cases this}
theorem ziV (s:Nat):keyS s≠pK:=λe=>by have:=z5J s;rw[e] at this;exact absurd this (by decide)
theorem zuH:z2Q pK=0:=by decide
theorem zhE:∀ (vs us:List Vt) (b c:Bal),(∀ v ∈ vs,OkV c v)->rdL (b,us) (vs.map encV)=some (b,us ++ vs)
 | [],us,b,c,_=>by simp[rdL]
 | v :: vs,us,b,c,h=>by{have hv:=h v (by simp);have e:rd1 (b,us) (encV v)=some (b,us ++ [v]):=by{unfold rd1 encV;simp only;rw[z8C hv.bal.1 hv.bal.2];simp only;rw[if_neg (ziV _),zaT hv.lt,if_pos ⟨by have:=hv.slot;omega,hv.val⟩]};simp only[List.map_cons,rdL];rw[e];simp only;rw[zhE vs (us ++ [v]) b c (λx hx=>h x (by simp[hx])),List.append_assoc];rfl}
theorem zwP {b:Bal} {vs:List Vt} (h:VOk b vs):rd (encP b vs)=some (b,vs):=by
 have hany:vs.any (λv=>less b v.bal)=false:=by{rw[List.any_eq_false];intro v hv;rw[(h.each v hv).top];decide};unfold rd encP;rcases h.bal with rfl | hb;{rw[h.zero];rfl};{rw[if_neg hb.ne];have e:rd1 (Bal.zero,[]) (pK,putB b)=some (b,[]):=by{unfold rd1;simp only;have:=z8C hb.1 hb.2 [];rw[List.append_nil] at this;rw[this];simp};simp only[List.singleton_append,rdL];rw[e];simp only;rw[zhE vs [] b b h.each];simp only[List.nil_append];rw[hany];simp}
theorem zfK {st st':Bal×List Vt} {p:Str×Str} (h:rd1 st p=some st') :
  (p.1=pK/\OkB st'.1/\st'.2=st.2/\p=(pK,putB st'.1))∨(p.1≠pK/\st'.1=st.1/\∃ v,st'.2=st.2 ++ [v]/\p=encV v/\0<v.slot/\v.slot<18446744073709551616/\OkB v.bal/\v.val.length<=100):=by
 unfold rd1 at h;cases hg:getB p.2 with | none=>{rw[hg] at h;cases h} | some q=>{obtain⟨b,rest⟩:=q;rw[hg] at h;simp only at h;obtain⟨g1,g2,g3⟩:=zuC hg;by_cases hp:p.1=pK;{rw[if_pos hp] at h;by_cases hr:rest = [];{rw[if_pos hr] at h;cases h;refine .inl ⟨hp,⟨g1,g2⟩,rfl,?_⟩;rw[hr,List.append_nil] at g3;rw[<-g3,<-hp]};{rw[if_neg hr] at h;cases h}};{rw[if_neg hp] at h;by_cases hs:z2Q p.1≠0/\rest.length<=100;{rw[if_pos hs] at h;cases h;obtain⟨k1,k2⟩:=znN hs.1;refine .inr ⟨hp,rfl,_,rfl,?_,by have:=hs.1;simp only;omega,k2,⟨g1,g2⟩,hs.2⟩;unfold encV;simp only;rw[<-k1,<-g3]};{rw[if_neg hs] at h;cases h}}}
theorem zqT {u v:Vt} (h:(encV u).1<(encV v).1) (hu:u.slot<18446744073709551616):u.slot<v.slot:=by
 rcases Nat.lt_trichotomy u.slot v.slot with x | x | x;{exact x};{unfold encV at h;simp only at h;rw[x] at h;exact absurd h (z1M _)};{exact absurd (z7I h (zjC x hu)) (z1M _)}
theorem zfR:∀ (ps:List (Str×Str)) (b0 b:Bal) (us vs:List Vt),(∀ p ∈ ps,p.1≠pK)->rdL (b0,us) ps=some (b,vs)->
  b=b0/\∃ ws,vs=us ++ ws/\ps=ws.map encV/\∀ v ∈ ws,0<v.slot/\v.slot<18446744073709551616/\OkB v.bal/\v.val.length<=100
 | [],b0,b,us,vs,_,h=>by{unfold rdL at h;cases h;exact⟨rfl,[],by simp,rfl,λv hv=>by cases hv⟩}
 | p :: ps,b0,b,us,vs,hk,h=>by{unfold rdL at h;cases h1:rd1 (b0,us) p with | none=>{rw[h1] at h;cases h} | some st=>{rw[h1] at h;simp only at h;rcases zfK h1 with ⟨x,-⟩ | ⟨-,e1,v,e2,e3,e4⟩;{exact absurd x (hk p (by simp))};{obtain⟨st1,st2⟩:=st;simp only at e1 e2 h;subst e1 e2;obtain⟨g1,ws,g2,g3,g4⟩:=zfR ps _ b _ vs (λq hq=>hk q (by simp[hq])) h;refine⟨g1,v :: ws,by rw[g2,List.append_assoc];rfl,by rw[List.map_cons,<-g3,<-e3],λu hu=>?_⟩;rcases List.mem_cons.1 hu with rfl | hu;{exact e4};{exact g4 u hu}}}}
theorem zuV {ps:List (Str×Str)} {b:Bal} {vs:List Vt} (hs:Sorted ps) (h:rd ps=some (b,vs)):VOk b vs/\ps=encP b vs:=by
 unfold rd at h;cases h0:rdL (Bal.zero,[]) ps with | none=>{rw[h0] at h;cases h} | some st=>{obtain⟨b1,v1⟩:=st;rw[h0] at h;simp only at h;cases hany:v1.any (λv=>less b1 v.bal) with | true=>{rw[hany] at h;cases h} | false=>{rw[hany] at h;simp only[Bool.false_eq_true,if_false,Option.some.injEq,Prod.mk.injEq] at h;obtain⟨rfl,rfl⟩:=h;have htop:∀ v ∈ v1,less b1 v.bal=false:=λv hv=>by{have:=List.any_eq_false.1 hany v hv;simpa using this};have fin:∀ ws:List Vt,v1=ws->Sorted (ws.map encV)->(∀ v ∈ ws,0<v.slot/\v.slot<18446744073709551616/\OkB v.bal/\v.val.length<=100)->(b1=Bal.zero∨OkB b1)->VOk b1 v1:=by{intro ws e hso hall hb;subst e;refine⟨hb,?_,λv hv=>let ⟨q1,q2,q3,q4⟩:=hall v hv;⟨q1,q2,q3,q4,htop v hv⟩⟩;unfold Sorted at hso;rw[List.pairwise_map] at hso;exact hso.imp_of_mem λ{u v} hu hv huv=>zqT huv (hall u hu).2.1};cases ps with | nil=>{unfold rdL at h0;cases h0;exact⟨fin [] rfl List.Pairwise.nil (λv hv=>by cases hv) (.inl rfl),rfl⟩} | cons p ps=>{have hs1:=List.pairwise_cons.1 hs;by_cases hp:p.1=pK;{have hk:∀ q ∈ ps,q.1≠pK:=λq hq e=>by{have:=hs1.1 q hq;rw[hp,e] at this;exact z1M _ this};unfold rdL at h0;cases h1:rd1 (Bal.zero,[]) p with | none=>{rw[h1] at h0;cases h0} | some st=>{rw[h1] at h0;simp only at h0;rcases zfK h1 with ⟨-,q1,q2,q3⟩ | ⟨x,-⟩;{obtain⟨st1,st2⟩:=st;simp only at q1 q2 q3 h0;subst q2;obtain⟨g1,ws,g2,g3,g4⟩:=zfR ps _ _ _ _ hk h0;subst g1;rw[List.nil_append] at g2;refine⟨fin ws g2 (by rw[<-g3];exact hs1.2) g4 (.inr q1),?_⟩;unfold encP;rw[if_neg q1.ne,q3,g3,g2];rfl};{exact absurd hp x}}};{have hk:∀ q ∈ p :: ps,q.1≠pK:=by{intro q hq e;rcases List.mem_cons.1 hq with rfl | hq;{exact hp e};{have h2:=hs1.1 q hq;unfold rdL at h0;cases h1:rd1 (Bal.zero,[]) p with | none=>{rw[h1] at h0;cases h0} | some st=>{rcases zfK h1 with ⟨x,-⟩ | ⟨-,-,v,-,e3,-⟩;{exact hp x};{rw[e3,e] at h2;exact z1M _ (z7I h2 (zuD _))}}}};obtain⟨g1,ws,g2,g3,g4⟩:=zfR (p :: ps) _ _ _ _ hk h0;subst g1;rw[List.nil_append] at g2;refine⟨fin ws g2 (by rw[<-g3];exact hs) g4 (.inl rfl),?_⟩;unfold encP;rw[if_pos rfl,g3,g2];rfl}}}}
theorem zwI {a b c:Bal} (h:less a b=false) (k:less b c=false):less a c=false:=by
 cases h2:less a c with | false=>{rfl} | true=>{cases h3:less b a with | true=>{rw[znP h3 h2] at k;cases k} | false=>{have:=zaO h h3;subst this;rw[h2] at k;cases k}}
theorem VOk.up {b c:Bal} {vs:List Vt} (h:VOk b vs) (hc:OkB c) (hle:less c b=false):VOk c vs:=
 ⟨.inr hc,h.rise,λv hv=>let q:=h.each v hv;⟨q.slot,q.lt,q.bal,q.val,zwI hle q.top⟩⟩
def insV:List Vt→Vt→List Vt
 | [],v=>[v]
 | u :: vs,v=>if u.slot<v.slot then u :: insV vs v else v :: (if u.slot=v.slot then vs else u :: vs)
theorem zgD {v x:Vt}:∀ {vs:List Vt},x ∈ insV vs v->x=v∨x ∈ vs
 | [],h=>by simp[insV] at h;exact .inl h
 | u :: vs,h=>by{unfold insV at h;split at h;{rcases List.mem_cons.1 h with rfl | h;{exact .inr (by simp)};{exact(zgD h).imp id λz=>by simp[z]}};{rcases List.mem_cons.1 h with rfl | h;{exact .inl rfl};{split at h;{exact .inr (by simp[h])};{exact .inr h}}}}
theorem zgT {v:Vt}:∀ {vs:List Vt},Rise vs->Rise (insV vs v)
 | [],_=>by simp[insV,Rise]
 | u :: vs,h=>by{have h1:=List.pairwise_cons.1 h;unfold insV;split;{rename_i hlt;refine List.pairwise_cons.2 ⟨λx hx=>?_,zgT h1.2⟩;rcases zgD hx with rfl | hx;{exact hlt};{exact h1.1 x hx}};{rename_i hlt;split;{rename_i he;exact List.pairwise_cons.2 ⟨λx hx=>by rw[<-he];exact h1.1 x hx,h1.2⟩};{rename_i he;refine List.pairwise_cons.2 ⟨λx hx=>?_,h⟩;rcases List.mem_cons.1 hx with rfl | hx;{omega};{have:=h1.1 x hx;omega}}}}
theorem VOk.ins {b:Bal} {vs:List Vt} {v:Vt} (h:VOk b vs) (hle:less v.bal b=false) (hs:0<v.slot) (hlt:v.slot<18446744073709551616) (hb:OkB v.bal) (hv:v.val.length<=100):VOk v.bal (insV vs v):=
 ⟨.inr hb,zgT h.rise,λx hx=>by{rcases zgD hx with rfl | hx;{exact⟨hs,hlt,hb,hv,zcH _⟩};{exact(h.up hb hle).each x hx}}⟩
theorem zwY {b c:Bal} {vs:List Vt} (hc:OkB c):lay1 (encP b vs) ⟨pK,putB c,false⟩=encP c vs:=by
 unfold encP;rw[if_neg hc.ne];by_cases hb:b=Bal.zero;{rw[if_pos hb,List.nil_append];cases vs with | nil=>{rfl} | cons v vs=>{have h1:¬ (encV v).1<pK:=λh=>z1M _ (z7I h (zuD _));have h2:¬ (encV v).1=pK:=ziV _;simp only[List.map_cons,lay1,if_neg h1,if_neg h2,Bool.false_eq_true,if_false]}};{rw[if_neg hb];simp only[List.singleton_append,lay1,if_neg (z1M pK),if_true,Bool.false_eq_true,if_false]}
theorem zwR {v:Vt} (hv:v.slot<18446744073709551616):∀ {vs:List Vt},(∀ u ∈ vs,u.slot<18446744073709551616)->lay1 (vs.map encV) ⟨keyS v.slot,putB v.bal ++ v.val,false⟩=(insV vs v).map encV
 | [],_=>rfl
 | u :: vs,h=>by{have hu:=h u (by simp);simp only[List.map_cons,lay1];unfold insV;by_cases h1:u.slot<v.slot;{have h2:(encV u).1<keyS v.slot:=zjC h1 hv;rw[if_pos h2,if_pos h1,zwR hv (λx hx=>h x (by simp[hx]))];rfl};{have h2:¬ (encV u).1<keyS v.slot:=λh=>h1 (zqT (u:=u) (v:=v) h hu);rw[if_neg h2,if_neg h1];by_cases h3:u.slot=v.slot;{have h4:(encV u).1=keyS v.slot:=by{unfold encV;simp only;rw[h3]};rw[if_pos h4,if_pos h3];rfl};{have h4:¬ (encV u).1=keyS v.slot:=λe=>by{rcases Nat.lt_or_gt_of_ne h3 with x | x;{exact h1 x};{have:=zjC x hu;unfold encV at e;simp only at e;rw[e] at this;exact z1M _ this}};rw[if_neg h4,if_neg h3];rfl}}}
theorem zlR {p:Str×Str} {ps:List (Str×Str)} {c:Ch} (h:p.1<c.key):lay1 (p :: ps) c=p :: lay1 ps c:=by simp only[lay1,if_pos h]
def z4Q (b:Bal):List Ch:=[⟨pK,putB b,false⟩]
def z4R (v:Vt):List Ch:=[⟨pK,putB v.bal,false⟩,⟨keyS v.slot,putB v.bal ++ v.val,false⟩]
def z3L (us:List Vt):List Ch:=us.map fun u=>⟨keyS u.slot,[],true⟩
theorem ztG {b c:Bal} {vs:List Vt} (hc:OkB c):layL (encP b vs) (z4Q c)=encP c vs:=zwY hc
theorem ztK {b:Bal} {vs:List Vt} {v:Vt} (h:VOk b vs) (hb:OkB v.bal) (hs:v.slot<18446744073709551616):layL (encP b vs) (z4R v)=encP v.bal (insV vs v):=by
 show lay1 (lay1 (encP b vs) _) _=_;rw[zwY hb];unfold encP;rw[if_neg hb.ne];simp only[List.singleton_append];rw[zlR (zuD _),zwR hs (λu hu=>(h.each u hu).lt)]
theorem zkL {u:Vt} {vs:List Vt}:lay1 ((u :: vs).map encV) ⟨keyS u.slot,[],true⟩=vs.map encV:=by
 have h1:¬ (encV u).1<keyS u.slot:=z1M _;have h2:(encV u).1=keyS u.slot:=rfl;simp only[List.map_cons,lay1,if_neg h1,if_pos h2,if_true,List.nil_append]
theorem zlG {b:Bal}:∀ {us vs:List Vt},layL (encP b (us ++ vs)) (z3L us)=encP b vs
 | [],vs=>rfl
 | u :: us,vs=>by{show layL (lay1 (encP b (u :: (us ++ vs))) ⟨keyS u.slot,[],true⟩) (z3L us)=_;have e:lay1 (encP b (u :: (us ++ vs))) ⟨keyS u.slot,[],true⟩=encP b (us ++ vs):=by{unfold encP;by_cases hb:b=Bal.zero;{rw[if_pos hb,List.nil_append,List.nil_append];exact zkL};{rw[if_neg hb];simp only[List.singleton_append];rw[zlR (zuD _),zkL]}};rw[e];exact zlG}
end AC
section
open Go.RowKit Go.Maps MI SO BM DM WM
theorem LogAt.ltz {w:World} {b d:Nat} {F Fd:Nat->Prop} {D:Dk} {G:Lg} (h:LogAt w b d F Fd D G):∀ k,(F k∨Fd k)->k<w.heap.size:=by
 obtain⟨_,_,_,_,h⟩:=h;exact λk x=>x.elim (h.wal.lt k) (h.disk.lt k)
theorem RLogAt.ltz {w:World} {b d:Nat} {F Fd:Nat->Prop} {D:Dk} {G:Lg} (h:RLogAt w b d F Fd D G):∀ k,(F k∨Fd k)->k<w.heap.size:=by
 obtain⟨_,_,h⟩:=h;exact λk x=>x.elim (h.wal.lt k) (h.disk.lt k)
theorem LogAt.disk_ {w:World} {b d:Nat} {F Fd:Nat->Prop} {D:Dk} {G:Lg} (h:LogAt w b d F Fd D G):DiskAt w d Fd D:=by
 obtain⟨_,_,_,_,h⟩:=h;exact h.disk
theorem RLogAt.disk_ {w:World} {b d:Nat} {F Fd:Nat->Prop} {D:Dk} {G:Lg} (h:RLogAt w b d F Fd D G):RefAt w d Fd D:=by
 obtain⟨_,_,h⟩:=h;exact h.disk
theorem LogAt.apart_ {w:World} {b d:Nat} {F Fd:Nat->Prop} {D:Dk} {G:Lg} (h:LogAt w b d F Fd D G):∀ k,F k->¬ Fd k:=by
 obtain⟨_,_,_,_,h⟩:=h;exact h.apart
theorem RLogAt.apart_ {w:World} {b d:Nat} {F Fd:Nat->Prop} {D:Dk} {G:Lg} (h:RLogAt w b d F Fd D G):∀ k,F k->¬ Fd k:=by
 obtain⟨_,_,h⟩:=h;exact h.apart
structure StoIs (w:World) (b d:Nat) (F Fd:Nat→Prop) (D:Dk) (S:St) (wb mb:Nat) (m:List (Str×Str)) (Fl:Nat→Prop):Prop where
 head:w.heap[b]?=some (.cells (z3I (.pointer (some ⟨wb,0,none⟩)) mb S.dead) 106 (0,0))
 map:PairsAt w mb m
 log:LogAt w wb d Fl Fd D S.g
 get:∀ x,AL.get m x=AL.get S.ps x
 inl:∀ k,Fl k→F k∧k≠b∧k≠mb
 self:F b
 fm:F mb
 ne:b≠mb
 lt:∀ k,F k→k<w.heap.size
 apart:∀ k,F k→¬ Fd k
 ok:PsOk S.ps
def StoAt (w:World) (b d:Nat) (F Fd:Nat→Prop) (D:Dk) (S:St):Prop:=∃ wb mb m Fl,StoIs w b d F Fd D S wb mb m Fl
def StoTo (b d:Nat) (F Fd:Nat→Prop) (w:World) (D':Dk) (S':St) (w':World):Prop:=
 ∃ F' Fd',StoAt w' b d F' Fd' D' S'∧Keep (fun k=>F k∨Fd k) w w'∧(∀ k,F' k→F k∨w.heap.size≤k)∧∀ k,Fd' k→Fd k∨w.heap.size≤k
section
variable {w w' w1 w2:World} {b d wb mb:Nat} {F Fd Fl K:Nat→Prop} {D D':Dk} {S S':St} {m m':List (Str×Str)} {G':Lg}
theorem StoIs.keep (H:StoIs w b d F Fd D S wb mb m Fl) (hk:Keep K w w') (h1:∀ k,F k->¬ K k) (h2:∀ k,Fd k->¬ K k):StoIs w' b d F Fd D S wb mb m Fl:=
 ⟨hk.get H.head (h1 _ H.self),MapAt.keep H.map hk (h1 _ H.fm),H.log.keep hk (λk x=>h1 k (H.inl k x).1) h2,H.get,H.inl,H.self,H.fm,H.ne,λk x=>Nat.lt_of_lt_of_le (H.lt k x) hk.size,H.apart,H.ok⟩
theorem StoIs.len (H:StoIs w b d F Fd D S wb mb m Fl):m.length=S.ps.length:=zuZ H.map.1 H.ok.sorted H.get
theorem StoIs.logTo (H:StoIs w b d F Fd D S wb mb m Fl) (ht:LogTo wb d Fl Fd w D' G' w') :
  ∃ Fl' F' Fd',StoIs w' b d F' Fd' D' { S with g:=G' } wb mb m Fl'/\Keep (λk=>F k∨Fd k) w w'/\(∀ k,F' k->F k∨w.heap.size<=k)/\∀ k,Fd' k->Fd k∨w.heap.size<=k:=by
 obtain⟨Fl',Fd',h1,h2,h3,h4⟩:=ht;have hb:¬ (Fl b∨Fd b):=λx=>x.elim (λy=>(H.inl b y).2.1 rfl) (H.apart b H.self);have hm:¬ (Fl mb∨Fd mb):=λx=>x.elim (λy=>(H.inl mb y).2.2 rfl) (H.apart mb H.fm);refine⟨Fl',λk=>F k∨Fl' k,Fd',⟨h2.get H.head hb,MapAt.keep H.map h2 hm,h1,H.get,λk x=>⟨.inr x,?_,?_⟩,.inl H.self,.inl H.fm,H.ne,λk x=>?_,λk x=>?_,H.ok⟩,h2.mono λk _ x=>x.imp (λy=>(H.inl k y).1) id,λk x=>?_,h4⟩;{rintro rfl;rcases h3 _ x with z | z;{exact hb (.inl z)};{have:=H.lt _ H.self;omega}};{rintro rfl;rcases h3 _ x with z | z;{exact hm (.inl z)};{have:=H.lt _ H.fm;omega}};{rcases x with x | x;{exact Nat.lt_of_lt_of_le (H.lt k x) h2.size};{exact h1.ltz k (.inl x)}};{rcases x with x | x;{intro y;rcases h4 k y with z | z;{exact H.apart k x z};{have:=H.lt k x;omega}};{exact h1.apart_ k x}};{rcases x with x | x;{exact .inl x};{exact(h3 k x).imp (λz=>(H.inl k z).1) id}}
theorem StoIs.tell (H:StoIs w b d F Fd D S wb mb m Fl) (x:Bool) (hk:Keep (λk=>k=b) w w') (hh:w'.heap[b]?=some (.cells (z3I (.pointer (some ⟨wb,0,none⟩)) mb x) 106 (0,0))):StoIs w' b d F Fd D { S with dead:=x } wb mb m Fl:=
 ⟨hh,MapAt.keep H.map hk (λe=>H.ne e.symm),H.log.keep hk (λk y e=>(H.inl k y).2.1 e) (λk y e=>by subst e;exact H.apart _ H.self y),H.get,H.inl,H.self,H.fm,H.ne,λk y=>Nat.lt_of_lt_of_le (H.lt k y) hk.size,H.apart,H.ok⟩
theorem StoIs.laid (H:StoIs w b d F Fd D S wb mb m Fl) {ps':List (Str×Str)} (hk:Keep (λk=>k=mb) w w') (hm:PairsAt w' mb m') (hg:∀ x,AL.get m' x=AL.get ps' x) (ok:PsOk ps'):StoIs w' b d F Fd D { S with ps:=ps' } wb mb m' Fl:=
 ⟨hk.get H.head H.ne,hm,H.log.keep hk (λk y e=>(H.inl k y).2.2 e) (λk y e=>by subst e;exact H.apart _ H.fm y),hg,H.inl,H.self,H.fm,H.ne,λk y=>Nat.lt_of_lt_of_le (H.lt k y) hk.size,H.apart,ok⟩
theorem StoAt.keep (H:StoAt w b d F Fd D S) (hk:Keep K w w') (h1:∀ k,F k->¬ K k) (h2:∀ k,Fd k->¬ K k):StoAt w' b d F Fd D S:=
 let ⟨wb,mb,m,Fl,h⟩:=H;⟨wb,mb,m,Fl,h.keep hk h1 h2⟩
theorem StoAt.later (H:StoAt w b d F Fd D S) (hk:Keep zF w w'):StoAt w' b d F Fd D S:=H.keep hk zI zI
theorem StoAt.ltw (H:StoAt w b d F Fd D S):∀ k,F k∨Fd k->k<w.heap.size:=let ⟨_,_,_,_,h⟩:=H;λk x=>x.elim (h.lt k) λy=>h.log.ltz k (.inr y)
theorem StoAt.diskAt (H:StoAt w b d F Fd D S):DiskAt w d Fd D:=let ⟨_,_,_,_,h⟩:=H;h.log.disk_
theorem StoAt.ok (H:StoAt w b d F Fd D S):PsOk S.ps:=let ⟨_,_,_,_,h⟩:=H;h.ok
theorem StoAt.to (H:StoAt w b d F Fd D S):StoTo b d F Fd w D S w:=⟨F,Fd,H,Keep.refl _ _,λ_ x=>.inl x,λ_ x=>.inl x⟩
theorem StoTo.since (h:StoTo b d F Fd w1 D' S' w') (hk:Keep zF w w1):StoTo b d F Fd w D' S' w':=by
 obtain⟨F',Fd',h1,h2,h3,h4⟩:=h;exact⟨F',Fd',h1,hk.next h2 zE zI,λk x=>(h3 k x).imp id λy=>Nat.le_trans hk.size y,λk x=>(h4 k x).imp id λy=>Nat.le_trans hk.size y⟩
theorem StoIs.at (H:StoIs w b d F Fd D S wb mb m Fl):StoAt w b d F Fd D S:=⟨wb,mb,m,Fl,H⟩
end
def z3H (wp pv:Value) (dead:Bool):Array Value:=#[wp,pv,.bool dead]
structure RStoIs (w:World) (b d:Nat) (F Fd:Nat→Prop) (D:Dk) (S:St) (wb:Nat) (pv:Value) (Fl:Nat→Prop):Prop where
 head:w.heap[b]?=some (.cells (z3H (.pointer (some ⟨wb,0,none⟩)) pv S.dead) 117 (0,0))
 row:Row w 140 2 pv S.ps.length (prsV S.ps)
 log:RLogAt w wb d Fl Fd D S.g
 own:∀ k,pv.ownBlock=some k→F k∧¬ Fl k∧k≠b
 inl:∀ k,Fl k→F k∧k≠b
 self:F b
 lt:∀ k,F k→k<w.heap.size
 apart:∀ k,F k→¬ Fd k
 ok:PsOk S.ps
def RStoAt (w:World) (b d:Nat) (F Fd:Nat→Prop) (D:Dk) (S:St):Prop:=∃ wb pv Fl,RStoIs w b d F Fd D S wb pv Fl
def RStoTo (b d:Nat) (F Fd:Nat→Prop) (w:World) (D':Dk) (S':St) (w':World):Prop:=
 ∃ F' Fd',RStoAt w' b d F' Fd' D' S'∧Keep (fun k=>F k∨Fd k) w w'∧(∀ k,F' k→F k∨w.heap.size≤k)∧∀ k,Fd' k→Fd k∨w.heap.size≤k
section
variable {w w' w1 w2:World} {b d wb:Nat} {F Fd Fl K:Nat→Prop} {D D':Dk} {S S':St} {pv pv':Value} {G':Lg}
theorem RStoIs.keep (H:RStoIs w b d F Fd D S wb pv Fl) (hk:Keep K w w') (h1:∀ k,F k->¬ K k) (h2:∀ k,Fd k->¬ K k):RStoIs w' b d F Fd D S wb pv Fl:=
 ⟨hk.get H.head (h1 _ H.self),H.row.keep hk (λk x=>h1 k (H.own k x).1),H.log.keep hk (λk x=>h1 k (H.inl k x).1) h2,H.own,H.inl,H.self,λk x=>Nat.lt_of_lt_of_le (H.lt k x) hk.size,H.apart,H.ok⟩
theorem RStoIs.logTo (H:RStoIs w b d F Fd D S wb pv Fl) (ht:RLogTo wb d Fl Fd w D' G' w') :
  ∃ Fl' F' Fd',RStoIs w' b d F' Fd' D' { S with g:=G' } wb pv Fl'/\Keep (λk=>F k∨Fd k) w w'/\(∀ k,F' k->F k∨w.heap.size<=k)/\∀ k,Fd' k->Fd k∨w.heap.size<=k:=by
 obtain⟨Fl',Fd',h1,h2,h3,h4⟩:=ht;have hb:¬ (Fl b∨Fd b):=λx=>x.elim (λy=>(H.inl b y).2 rfl) (H.apart b H.self);have hm:∀ k,pv.ownBlock=some k->¬ (Fl k∨Fd k):=λk e x=>x.elim (H.own k e).2.1 (H.apart k (H.own k e).1);refine⟨Fl',λk=>F k∨Fl' k,Fd',⟨h2.get H.head hb,H.row.keep h2 hm,h1,λk e=>⟨.inl (H.own k e).1,λx=>?_,(H.own k e).2.2⟩,λk x=>⟨.inr x,?_⟩,.inl H.self,λk x=>?_,λk x=>?_,H.ok⟩,h2.mono λk _ x=>x.imp (λy=>(H.inl k y).1) id,λk x=>?_,h4⟩;{rcases h3 _ x with z | z;{exact(H.own k e).2.1 z};{have:=H.lt _ (H.own k e).1;omega}};{rintro rfl;rcases h3 _ x with z | z;{exact hb (.inl z)};{have:=H.lt _ H.self;omega}};{rcases x with x | x;{exact Nat.lt_of_lt_of_le (H.lt k x) h2.size};{exact h1.ltz k (.inl x)}};{rcases x with x | x;{intro y;rcases h4 k y with z | z;{exact H.apart k x z};{have:=H.lt k x;omega}};{exact h1.apart_ k x}};{rcases x with x | x;{exact .inl x};{exact(h3 k x).imp (λz=>(H.inl k z).1) id}}
theorem RStoIs.tell (H:RStoIs w b d F Fd D S wb pv Fl) (x:Bool) (hk:Keep (λk=>k=b) w w') (hh:w'.heap[b]?=some (.cells (z3H (.pointer (some ⟨wb,0,none⟩)) pv x) 117 (0,0))):RStoIs w' b d F Fd D { S with dead:=x } wb pv Fl:=
 ⟨hh,H.row.keep hk (λk e=>(H.own k e).2.2),H.log.keep hk (λk y e=>(H.inl k y).2 e) (λk y e=>by subst e;exact H.apart _ H.self y),H.own,H.inl,H.self,λk y=>Nat.lt_of_lt_of_le (H.lt k y) hk.size,H.apart,H.ok⟩
theorem RStoIs.laid (H:RStoIs w b d F Fd D S wb pv Fl) {ps':List (Str×Str)} (hk:Keep (λk=>k=b) w w') (hh:w'.heap[b]?=some (.cells (z3H (.pointer (some ⟨wb,0,none⟩)) pv' S.dead) 117 (0,0)))
  (hr:Row w' 140 2 pv' ps'.length (prsV ps')) (ho:∀ k,pv'.ownBlock=some k->w.heap.size<=k∨pv.ownBlock=some k) (ok:PsOk ps') :
  ∃ F',RStoIs w' b d F' Fd D { S with ps:=ps' } wb pv' Fl/\∀ k,F' k->F k∨w.heap.size<=k:=by
 have hlog:=H.log.ltz;refine⟨λk=>F k∨pv'.ownBlock=some k,⟨hh,hr,H.log.keep hk (λk y e=>(H.inl k y).2 e) (λk y e=>by subst e;exact H.apart _ H.self y),λk e=>⟨.inr e,λx=>?_,?_⟩,λk x=>⟨.inl (H.inl k x).1,(H.inl k x).2⟩,.inl H.self,λk y=>?_,λk x y=>?_,ok⟩,λk x=>?_⟩;{rcases ho k e with z | z;{have:=hlog k (.inl x);omega};{exact(H.own k z).2.1 x}};{rintro rfl;rcases ho _ e with z | z;{have:=H.lt _ H.self;omega};{exact(H.own _ z).2.2 rfl}};{rcases y with y | y;{exact Nat.lt_of_lt_of_le (H.lt k y) hk.size};{exact hr.lt y}};{rcases x with x | x;{exact H.apart k x y};{rcases ho k x with z | z;{have:=hlog k (.inr y);omega};{exact H.apart k (H.own k z).1 y}}};{rcases x with x | x;{exact .inl x};{rcases ho k x with z | z;{exact .inr z};{exact .inl (H.own k z).1}}}
theorem RStoAt.keep (H:RStoAt w b d F Fd D S) (hk:Keep K w w') (h1:∀ k,F k->¬ K k) (h2:∀ k,Fd k->¬ K k):RStoAt w' b d F Fd D S:=
 let ⟨wb,pv,Fl,h⟩:=H;⟨wb,pv,Fl,h.keep hk h1 h2⟩
theorem RStoAt.later (H:RStoAt w b d F Fd D S) (hk:Keep zF w w'):RStoAt w' b d F Fd D S:=H.keep hk zI zI
theorem RStoAt.ltw (H:RStoAt w b d F Fd D S):∀ k,F k∨Fd k->k<w.heap.size:=let ⟨_,_,_,h⟩:=H;λk x=>x.elim (h.lt k) λy=>h.log.ltz k (.inr y)
theorem RStoAt.diskAt (H:RStoAt w b d F Fd D S):RefAt w d Fd D:=let ⟨_,_,_,h⟩:=H;h.log.disk_
theorem RStoAt.to (H:RStoAt w b d F Fd D S):RStoTo b d F Fd w D S w:=⟨F,Fd,H,Keep.refl _ _,λ_ x=>.inl x,λ_ x=>.inl x⟩
theorem RStoTo.since (h:RStoTo b d F Fd w1 D' S' w') (hk:Keep zF w w1):RStoTo b d F Fd w D' S' w':=by
 obtain⟨F',Fd',h1,h2,h3,h4⟩:=h;exact⟨F',Fd',h1,hk.next h2 zE zI,λk x=>(h3 k x).imp id λy=>Nat.le_trans hk.size y,λk x=>(h4 k x).imp id λy=>Nat.le_trans hk.size y⟩
theorem RStoIs.at (H:RStoIs w b d F Fd D S wb pv Fl):RStoAt w b d F Fd D S:=⟨wb,pv,Fl,H⟩
end
end
section
open Go.RowKit MI SO BM
theorem zkD {w:World} {ao:Option Addr} {n c:Nat} {l:List (Str×Str)} (h:Row w 140 2 (.slice ao n c) n (prsV l)) (i:Nat) (hi:i<l.length) :
  ∃ g,ao=some ⟨g,0,none⟩/\w.cell? ⟨g,i * 2,none⟩=some (.string (str l[i].1))/\w.cell? ⟨g,i * 2+1,none⟩=some (.string (str l[i].2)):=by
 have h0:=z9M l i hi 0 (by decide);obtain⟨g,cap,hv,hc⟩:=h.getCell (show (prsV l)[i * 2+0]?=some (.string (str l[i].1)) by rw[h0];rfl);cases hv;have h1:=z9M l i hi 1 (by decide);obtain⟨g',cap',hv',hc'⟩:=h.getCell (show (prsV l)[i * 2+1]?=some (.string (str l[i].2)) by rw[h1];rfl);cases hv';exact⟨g,rfl,hc,hc'⟩
open Go.Maps DM WM AC
theorem zmC (w:World) (b:Bal) (hb:OkB b):Calls Tryz.prog 40 #[balV b] w (PutU w (AC.putB b)):=by
 obtain⟨c0,c1,cf,hk⟩:=zfN w b;obtain⟨h0,h1,h2⟩:=z1N.1 hb.1;have hn:=hb.2;obtain⟨n,node⟩:=b;simp only at h0 h1 h2 hn;obtain⟨d,rfl⟩:∃ d:Nat,(d:Int)=node:=⟨node.toNat,by omega⟩;have hd:d<12:=by{omega};have t1:=wu64 d (by omega);have HE:=hid (show AC.putB ⟨n,(d:Int)⟩=z0K n ++ z0K d from rfl);rw[HE.out];simp only at c0 c1;have HK:=hid hk;clear hk h0 h1 h2 hb;go_enter Tryz.func40,Tryz.ntmps40
 go_upto_region 1 with fail
 obtain⟨w1,hw1⟩:=zX1 (w.alloc (.cells (balC ⟨n,(d:Int)⟩) 28));have hz1:w1.heap.size=w.heap.size+1:=by{rw[hw1];simp};rw[<-hw1] at c0 c1 HK
 first | rw[<-hw1] | skip
 clear hw1 cf;have x1:w1.drew.cell? ⟨w.heap.size,0,none⟩=some (.int .u64 (n:Int))/\w1.drew.cell? ⟨w.heap.size,1,none⟩=some (.int .i64 (d:Int)):=⟨c0,c1⟩;clear c0 c1;refine Held.z2W (λw'=>w'.cell? ⟨w.heap.size,0,none⟩=some (.int .u64 (n:Int))/\w'.cell? ⟨w.heap.size,1,none⟩=some (.int .i64 (d:Int))) [] [4,7] (by kernel_rfl) (by kernel_rfl) ?_
 repeat (apply Twin.z0E (by rfl) (by exact x1);(intro K w' hS;(try dsimp only at hS);go_simp;exact id))
 refine Twin.z0G (by decide) (by rfl) (by exact x1) (λK hK=>?_);go_simp;refine(z5F w1.drew n hn).mono ?_;rintro e w2 ⟨v2,rfl,hf2⟩;have x2:w2.cell? ⟨w.heap.size,0,none⟩=some (.int .u64 (n:Int))/\w2.cell? ⟨w.heap.size,1,none⟩=some (.int .i64 (d:Int)):=⟨z0D hf2.keep _ _ x1.1,z0D hf2.keep _ _ x1.2⟩;have hown:∀ k,v2.ownBlock=some k->w1.heap.size<=k:=λk e=>hf2.own k e;have HF2:=hid (zA1 (hf2.since (HK.out.drew)) hown);clear hf2 hown;go_simp;refine hK _ _ (λh=>by cases h) (λ_=>x2) ?_;clear hK K x1
 repeat (apply Twin.z0E (by rfl) (by exact x2);(intro K w' hS;(try dsimp only at hS);go_simp;exact id))
 refine Twin.z0G (by decide) (by rfl) (by exact x2) (λK hK=>?_);go_simp;refine(z5F w2 d (by omega)).mono ?_;rintro e w3 ⟨v3,rfl,hf3⟩;obtain⟨ao3,m3,rfl,-⟩:=hf3.row.form;have x3:w3.cell? ⟨w.heap.size,0,none⟩=some (.int .u64 (n:Int))/\w3.cell? ⟨w.heap.size,1,none⟩=some (.int .i64 (d:Int)):=⟨z0D hf3.keep _ _ x2.1,z0D hf3.keep _ _ x2.2⟩;have HF3:=hid (zA1 (HF2.out.1.later hf3.keep) hf3.row);clear hf3;go_simp;refine hK _ _ (λh=>by cases h) (λ_=>x3) ?_;clear hK K x2
 repeat (apply Twin.z0E (by rfl) (by exact x3);(intro K w' hS;(try dsimp only at hS);go_simp;exact id))
 refine Twin.z0G (by decide) (by rfl) (by exact x3) (λK hK=>?_);refine z0I _ _ rfl rfl HF3.out.1 ao3 (z0K d).length m3 rfl (Cells.of_row HF3.out.2) (by have h1:=z3S 10 n;have h2:=z3S 10 d;unfold z0K;omega) ?_;intro v4 w4 hf4 hk4;have x4:w4.cell? ⟨w.heap.size,0,none⟩=some (.int .u64 (n:Int))/\w4.cell? ⟨w.heap.size,1,none⟩=some (.int .i64 (d:Int)):=by{have hb:w4.heap[w.heap.size]?=w3.heap[w.heap.size]?:=hk4.block _ (World.block_lt_of_cell? w3 _ x3.1) λe=>by{have:=HF2.out.2 _ e;omega};exact⟨by rw[World.cell?_of_block (a:=⟨w.heap.size,0,none⟩) hb];exact x3.1,by rw[World.cell?_of_block (a:=⟨w.heap.size,1,none⟩) hb];exact x3.2⟩};refine hK _ _ (λh=>by cases h) (λ_=>x4) ?_;clear hK K;have HF4:=hid hf4;clear hf4 hk4
 repeat (apply Twin.z0E (by rfl) (by exact x4);(intro K w' hS;(try dsimp only at hS);go_simp;exact id))
 refine Twin.z0O ?_;go_wp2_with fail;go_ret;exact⟨_,rfl,HF4.out⟩
theorem z5E {P:Program} {fn:Func} {t:Tmp} {ty:TypeId} (h:fn.results = #[.cell t ty]) (tmps:Array Value) (w:World) (g:Nat) (ht:tmps.getD t undef = .pointer (some ⟨g,0,none⟩)) (cs:List Value)
  (hc:∀ j u,cs[j]?=some u->w.cell? ⟨g,j,none⟩=some u) (d:TypeDesc)
  (hu:P.underlying ty=some d) (hd:(match d with | .struct _ | .array _ _=>true | _=>false)=true) (hi:(P.info? ty).map (·.size)=some cs.length) :
  (results fn tmps).run P w = .ok (.agg cs.toArray) w:=by
 have hl:=run_loadCells_list (P:=P) w ⟨g,0,none⟩ cs (λj v hv=>by rw[z0L,Nat.zero_add];exact hc j v hv);cases hq:P.info? ty with | none=>{simp[hq] at hi} | some i=>{have hs:i.size=cs.length:=by{simpa [hq] using hi};have hagg:(isAgg ty).run P w = .ok true w:=by{unfold isAgg;rw[Sem.run_bind,run_underlying hu w];cases d <;> simp_all};have hr:(loadVar ty ⟨g,0,none⟩).run P w = .ok (.agg cs.toArray) w:=by{simp[loadVar,Sem.run_bind,hagg,sizeOf,typeInfo,hq,hs,hl]};have ht':tmps[t]?.getD undef = .pointer (some ⟨g,0,none⟩):=by{simpa using ht};simp[results,h,ht',asAddr,hr]}
def zuB (b:Bal):Value:=.agg #[.string (str pK),.string (str (AC.putB b)),.bool false]
theorem zgW (w:World) (b:Bal) (hb:OkB b):Calls Tryz.prog 38 #[balV b] w λe w'=>e = .returned (zuB b)/\Keep zF w w':=by
 have hn:=heap_alloc_new w (.cells (balC b) 28);have hk1:=kal w (.cells (balC b) 28);have hn2:=heap_alloc_new (w.alloc (.cells (balC b) 28)) (.cells #[.string { data:=#[] },.string { data:=#[] },.bool false] 63);have hk2:Keep zF (w.alloc (.cells (balC b) 28)) ((w.alloc (.cells (balC b) 28)).alloc (.cells #[.string { data:=#[] },.string { data:=#[] },.bool false] 63)):=(Keep.refl _ _).alloc _;have hz:(w.alloc (.cells (balC b) 28)).heap.size=w.heap.size+1:=by{simp};rw[hz] at hn2;have hh:=hk2.get hn id;have hk:=hk1.nx hk2;clear hk1 hk2 hn;go_enter Tryz.func38,Tryz.ntmps38
 go_upto_region 1 with fail
 obtain⟨w2,hw2⟩:=zX1 ((w.alloc (.cells (balC b) 28)).alloc (.cells #[.string { data:=#[] },.string { data:=#[] },.bool false] 63));rw[<-hw2] at hn2 hh hk |-;clear hw2 hz;have c0:w2.cell? ⟨w.heap.size,0,none⟩=some (.int .u64 (b.n:Int)):=by{simp[World.cell?,hh]};have c1:w2.cell? ⟨w.heap.size,1,none⟩=some (.int .i64 b.node):=by{simp[World.cell?,hh]};have H2:=hid (zA1 hk hn2);clear hh hn2 hk;have hput:=zmC w2 b hb;go_wp2_with fail;refine hput.mono ?_;rintro e w3 ⟨v3,rfl,hf3⟩;obtain⟨ao3,m3,rfl,-⟩:=hf3.row.form;have hcv:=z2N (P:=Tryz.prog) Tryz.underlying29 Tryz.underlying5 Tryz.underlying9 (c:=m3) (Cells.of_row hf3.row);have hn3:=hf3.keep.get H2.out.2 id;have f0:∀ o,w3.frozen? ⟨w.heap.size+1,o,none⟩=false:=λo=>by{simp[World.frozen?,hn3]};have d0:w3.cell? ⟨w.heap.size+1,0,none⟩=some (.string { data:=#[] }):=by{simp[World.cell?,hn3]};have d1:w3.cell? ⟨w.heap.size+1,1,none⟩=some (.string { data:=#[] }):=by{simp[World.cell?,hn3]};have d2:w3.cell? ⟨w.heap.size+1,2,none⟩=some (.bool false):=by{simp[World.cell?,hn3]};have H3:=hid (zA1 (H2.out.1.nx hf3.keep) hn3);obtain⟨pl,hpl⟩:=zX1 ((AC.putB b).length);rw[<-hpl] at hcv |-;clear hput hf3 c0 c1 hn3 hpl;go_wp2_with fail;have g1:=z0A H3.out.2 0 (.string { data:=#[112] });have g2:=z0A g1 1 (.string (str (AC.putB b)));have g3:=z0A g2 2 (.bool false);have hkz:Keep (λk=>k=w.heap.size+1) w3 (((w3.setCell ⟨w.heap.size+1,0,none⟩ (.string { data:=#[112] })).setCell ⟨w.heap.size+1,1,none⟩ (.string (str (AC.putB b)))).setCell ⟨w.heap.size+1,2,none⟩ (.bool false)):=by{refine Keep.setCell (Keep.setCell (Keep.setCell (Keep.refl _ _) (.inl ?_) _) (.inl ?_) _) (.inl ?_) _ <;> rfl};have hkw:=H3.out.1.next hkz (H:=λ_=>False) zI (λk hk x=>by omega);refine bodyPost_ret (z5E rfl _ _ (w.heap.size+1) rfl [.string { data:=#[112] },.string (str (AC.putB b)),.bool false] (λj u hu=>?_) _ Tryz.underlying63 rfl (by kernel_rfl)) rfl ⟨rfl,hkw⟩;have hj:j<3:=(List.getElem?_eq_some_iff.1 hu).1;rw[cell_of_row _ _ _ _ _ _ g3]
 match j,hj with
 | 0,_=>simpa using hu
 | 1,_=>simpa using hu
 | 2,_=>simpa using hu
theorem zvS (i s:Nat) (hi:i<8):(z0B (118 :: (List.replicate (8 - i) 0 ++ beN i s)))[8 - i]?=some (.int .u8 0):=by
 obtain⟨t,ht⟩:∃ t,8 - i=t+1:=⟨7 - i,by omega⟩;rw[ht];have e:z0B (118 :: (List.replicate (t+1) 0 ++ beN i s)) = .int .u8 118 :: z0B (List.replicate (t+1) 0 ++ beN i s):=rfl;rw[e,List.getElem?_cons_succ,z0Z,List.getElem?_append_left (by rw[z0C];simp)];simp[z0B]
theorem zwD (i s:Nat) (hi:i<8):(118 :: (List.replicate (8 - i) 0 ++ beN i s)).set (8 - i) (UInt8.ofNat (s / 256 ^ i % 256))=118 :: (List.replicate (8 - (i+1)) 0 ++ beN (i+1) s):=by
 obtain⟨t,ht⟩:∃ t,8 - i=t+1:=⟨7 - i,by omega⟩;rw[ht,show 8 - (i+1)=t by omega,List.set_cons_succ,List.set_append_left _ _ (by simp),List.replicate_succ',List.set_append_right _ _ (by simp),List.append_assoc];simp[beN]
theorem zmD (w:World) (s:Nat) (_hs:s<18446744073709551616) :
  Calls Tryz.prog 39 #[.int .u64 (s:Int)] w λe w'=>e = .returned (.string (str (keyS s)))/\Keep zF w w':=by
 have hn:=heap_alloc_new w (.cells #[.int .u8 118,.int .u8 0,.int .u8 0,.int .u8 0,.int .u8 0,.int .u8 0,.int .u8 0,.int .u8 0,.int .u8 0] 5);have hk1:=kal w (.cells #[.int .u8 118,.int .u8 0,.int .u8 0,.int .u8 0,.int .u8 0,.int .u8 0,.int .u8 0,.int .u8 0,.int .u8 0] 5);have HR1:=hid (show Row (w.alloc (.cells #[.int .u8 118,.int .u8 0,.int .u8 0,.int .u8 0,.int .u8 0,.int .u8 0,.int .u8 0,.int .u8 0,.int .u8 0] 5)) 5 1 (.slice (some ⟨w.heap.size,0,none⟩) 9 9) 9 (z0B (118 :: (List.replicate 8 0 ++ beN 0 s)))/\Keep zF w _ from ⟨⟨rfl,.inr ⟨_,9,_,(0,0),rfl,hn,Free.zero _,Nat.le_refl _,by unfold maxLen;omega,rfl,rfl⟩⟩,hk1⟩);clear hn hk1;go_enter Tryz.func39,Tryz.ntmps39;go_wp2_with fail;obtain⟨w1,hw1⟩:=zX1 (w.alloc (.cells #[.int .u8 118,.int .u8 0,.int .u8 0,.int .u8 0,.int .u8 0,.int .u8 0,.int .u8 0,.int .u8 0,.int .u8 0] 5));rw[<-hw1] at HR1 |-;clear hw1
 go_loopw [6] (λiv wr=>∃ i:Nat,i<=8/\iv = .int .i64 i/\Hid (Row wr 5 1 (.slice (some ⟨w.heap.size,0,none⟩) 9 9) 9 (z0B (118 :: (List.replicate (8 - i) 0 ++ beN i s)))/\Keep zF w wr)) (λiv _=>8 - (intOf iv).toNat)
 case atStart=>exact⟨0,by omega,rfl,HR1⟩
 case round=>(obtain⟨i,hi,rfl,HR⟩:=hrel;by_cases hi8:i<8;{have q1:(i:Int)<8:=by{omega};obtain⟨k,hk⟩:=zX1 (8 - i);have e1:(8:Int) - (i:Int)=(k:Nat):=by{omega};have hk9:k<9:=by{omega};obtain⟨m,hm⟩:=zX1 (8 * i);have e2:(8:Int) * (i:Int)=(m:Nat):=by{omega};have z1:=wi64 k (by omega);have z2:=wi64 m (by omega);have c0:=HR.out.1.cell k (by omega);have f0:=HR.out.1.frozen k (by omega);rw[hk,zvS i s hi8,<-hk] at c0;have HK:=hid (zA1 hk hm);clear hk hm;go_wp2_with fail;obtain⟨hk,hm⟩:=HK.out;have hv:((s:Int) / 2 ^ m % 256)=((s / 256 ^ i % 256:Nat):Int):=by{have h2:(2:Int) ^ m=((256 ^ i:Nat):Int):=by{rw[hm,Int.pow_mul];simp};rw[h2];simp};have hlt:s / 256 ^ i % 256<256:=Nat.mod_lt _ (by decide);have hset:=Row.setOne HR.out.1 k hk9 (.int .u8 ((s / 256 ^ i % 256:Nat):Int)) rfl;rw[z6L _ _ _ hlt] at hset;rw[hv];refine⟨⟨i+1,by omega,by go_num,hid ⟨?_,Keep.setCell HR.out.2 (.inr (Nat.le_refl _)) _⟩⟩,by simp[intOf];omega⟩;have e:(118 :: (List.replicate (8 - i) 0 ++ beN i s)).set k (UInt8.ofNat (s / 256 ^ i % 256))=118 :: (List.replicate (8 - (i+1)) 0 ++ beN (i+1) s):=by{rw[hk];exact zwD i s hi8};rw[e] at hset;exact hset};{obtain rfl:i=8:=by{omega};have hrow:=HR.out.1;have hcv:=z2N (P:=Tryz.prog) Tryz.underlying29 Tryz.underlying5 Tryz.underlying9 (c:=9) (Cells.of_row hrow);have HE:=hid (show (118 :: (List.replicate (8 - 8) 0 ++ beN 8 s))=keyS s from rfl);rw[HE.out] at hcv;clear hrow;go_wp2_with fail;go_ret;exact⟨rfl,HR.out.2⟩})
def VotesC (w:World) (ao:Option Addr) (vs:List Vt):Prop:=
 ∀ i (hi:i<vs.length),∃ ad ua uc,ao=some ad∧(∀ j u,(z2X vs[i] (.slice ua vs[i].val.length uc))[j]?=some u→w.cell? ((ad.add (i * 4)).add j)=some u)∧vs[i].val.length≤uc∧uc≤maxLen∧Cells w ua vs[i].val.length 1 (z0B vs[i].val)
theorem VotesC.keep {w w':World} {ao:Option Addr} {vs:List Vt} (h:VotesC w ao vs) (hk:Keep zF w w'):VotesC w' ao vs:=λi hi=>by
 obtain⟨ad,ua,uc,e,h1,h2,h3,h4⟩:=h i hi;exact⟨ad,ua,uc,e,λj u hu=>z0D hk _ _ (h1 j u hu),h2,h3,h4.keep hk zI⟩
theorem Votes.read {w:World} {F:Nat->Prop} {ao:Option Addr} {n c:Nat} {vs:List Vt} {us:List Value} (h:Votes w F (.slice ao n c) vs us):VotesC w ao vs:=λi hi=>by
 obtain⟨g,ua,uc,rfl,h1,h2⟩:=h.get i hi;obtain⟨_,_,e,x1,x2,-⟩:=h2.form;cases e;refine⟨_,ua,uc,rfl,λj u hu=>?_,x1,x2,Cells.of_row h2⟩;rw[z0L,z0L,Nat.zero_add];exact h1 j u hu
theorem VotesC.get {w:World} {ao:Option Addr} {vs:List Vt} (h:VotesC w ao vs) (i:Nat) (hi:i<vs.length):∃ ad ua uc,ao=some ad/\w.cell? (ad.add (i * 4))=some (.int .u64 (vs[i].slot:Int))/\
  w.cell? { block:=(ad.add (i * 4)).block,off:=(ad.add (i * 4)).off+1 }=some (.int .u64 (vs[i].bal.n:Int))/\w.cell? { block:=(ad.add (i * 4)).block,off:=(ad.add (i * 4)).off+2 }=some (.int .i64 vs[i].bal.node)/\
  w.cell? { block:=(ad.add (i * 4)).block,off:=(ad.add (i * 4)).off+3 }=some (.slice ua vs[i].val.length uc)/\vs[i].val.length<=uc/\uc<=maxLen/\Cells w ua vs[i].val.length 1 (z0B vs[i].val):=by
 obtain⟨ad,ua,uc,e,h1,h2,h3,h4⟩:=h i hi;have h0:=h1 0 _ rfl;have k1:=h1 1 _ rfl;have k2:=h1 2 _ rfl;have k3:=h1 3 _ rfl;rw[show ∀ a:Addr,a.add 0=a from λa=>by simp[Addr.add]] at h0;rw[z9B _ _ (by decide)] at k1 k2 k3;exact⟨ad,ua,uc,e,h0,k1,k2,k3,h2,h3,h4⟩
theorem ziA (w:World) (ao:Option Addr) (n c:Nat) (bo:Option Addr) (k d:Nat) (l m:List Vt) (h1:VotesC w ao l) (h2:VotesC w bo m) (hn:n=l.length) (hk:k=m.length) (hb:n<=1000000000) :
  Calls Tryz.prog 12 #[.slice ao n c,.slice bo k d] w λe w'=>e = .returned (.bool (decide (l=m)))/\Keep zF w w':=by
 obtain⟨E,hE⟩:=zX1 (decide (l=m));rw[<-hE];have HE:=hid hE;have H:=hid (zA1 h1 (zA1 h2 (zA1 hn hk)));clear h1 h2 hE hn hk;by_cases hlen:n=k;{subst hlen;go_enter Tryz.func12,Tryz.ntmps12;go_wp2_with (at_builtin;refine z0H ?_;intro q hq);(go_loopw [5] (λiv wr=>∃ i:Nat,i<=n/\iv = .int .i64 i/\Hid (Keep zF w wr/\l.take i=m.take i)) (λiv _=>n - (intOf iv).toNat));(case atStart=>exact⟨0,Nat.zero_le _,rfl,hid ⟨Keep.refl _ _,rfl⟩⟩);case round=>(obtain⟨i,hi,rfl,HK⟩:=hrel;by_cases hin:i<n;{have h4:(i:Int)<n:=by{omega};have hil:i<l.length:=by{have:=H.out.2.2.1;omega};have him:i<m.length:=by{have:=H.out.2.2.2;omega};obtain⟨ad,ua,uc,rfl,a0,a1,a2,a3,u1,u2,u3⟩:=(H.out.1.keep HK.out.1).get i hil;obtain⟨bd,va,vc,rfl,b0,b1,b2,b3,v1,v2,v3⟩:=(H.out.2.1.keep HK.out.1).get i him;have hgo:l[i]=m[i]->l.take (i+1)=m.take (i+1):=λe=>by{rw[List.take_add_one,List.take_add_one,List.getElem?_eq_getElem hil,List.getElem?_eq_getElem him,HK.out.2,e]};have hno:l[i]≠m[i]->E=false:=λe=>by{rw[HE.out];simp only[decide_eq_false_iff_not];intro h;subst h;exact e rfl};obtain⟨p,hp⟩:=zX1 (l[i]);obtain⟨q,hq⟩:=zX1 (m[i]);rw[<-hp] at a0 a1 a2 a3 u1 u3 hgo hno;rw[<-hq] at b0 b1 b2 b3 v1 v3 hgo hno;have HG:=hid (zA1 hgo hno);clear hp hq hgo hno;obtain⟨ps,⟨pn,pd⟩,px⟩:=p;obtain⟨qs,⟨qn,qd⟩,qx⟩:=q;simp only at a0 a1 a2 a3 b0 b1 b2 b3 u1 u3 v1 v3;obtain⟨xl,hxl⟩:=zX1 (px.length);obtain⟨yl,hyl⟩:=zX1 (qx.length);rw[<-hxl] at a3 u1 u3;rw[<-hyl] at b3 v1 v3;have hs1:=λs:Later wr=>z2N (P:=Tryz.prog) Tryz.underlying29 Tryz.underlying5 Tryz.underlying9 (c:=uc) (u3.keep s.keep λ_ _ z=>z);have hs2:=λs:Later wr=>z2N (P:=Tryz.prog) Tryz.underlying29 Tryz.underlying5 Tryz.underlying9 (c:=vc) (v3.keep s.keep λ_ _ z=>z);have j0:=λs:Later wr=>s.cell a0;have j1:=λs:Later wr=>s.cell a1;have j2:=λs:Later wr=>s.cell a2;have j3:=λs:Later wr=>s.cell a3;have i0:=λs:Later wr=>s.cell b0;have i1:=λs:Later wr=>s.cell b1;have i2:=λs:Later wr=>s.cell b2;have i3:=λs:Later wr=>s.cell b3;clear hxl hyl u1 u2 u3 v1 v2 v3 a0 a1 a2 a3 b0 b1 b2 b3;have cut:(ps=qs/\pn=qn/\pd=qd/\px=qx)∨ps≠qs∨(ps=qs/\pn≠qn)∨(ps=qs/\pn=qn/\pd≠qd)∨(ps=qs/\pn=qn/\pd=qd/\px≠qx):=by{by_cases e1:ps=qs;{by_cases e2:pn=qn;{by_cases e3:pd=qd;{by_cases e4:px=qx;{exact .inl ⟨e1,e2,e3,e4⟩};{exact .inr (.inr (.inr (.inr ⟨e1,e2,e3,e4⟩)))}};{exact .inr (.inr (.inr (.inl ⟨e1,e2,e3⟩)))}};{exact .inr (.inr (.inl ⟨e1,e2⟩))}};{exact .inr (.inl e1)}};have bad:¬ (ps=qs/\pn=qn/\pd=qd/\px=qx)->E=false:=λh=>HG.out.2 λe=>h (by cases e;exact⟨rfl,rfl,rfl,rfl⟩);have HB:=hid bad;clear bad;rcases cut with ⟨rfl,rfl,rfl,rfl⟩ | e | ⟨rfl,e⟩ | ⟨rfl,rfl,e⟩ | ⟨rfl,rfl,rfl,e⟩;{have HK2:=hid (HG.out.1 rfl);clear HG HB;go_wp2_with fail;(refine z0W (by kernel_rfl) (by kernel_rfl) ?_;(repeat (go_big_quiet_step ((fail))));refine wpQuiet_nil ?_;rintro _ ⟨sq,rfl⟩);have HK3:=hid (HK.out.1.nx sq.keep);go_wp2_with fail;go_roundw;(case rel=>exact⟨i+1,by omega,by go_num,hid ⟨HK3.out,HK2.out⟩⟩);case measure=>simp[intOf];omega};{have hF:=hid (HB.out λh=>e h.1);have t1:((ps:Int) == (qs:Int))=false:=by{simp;omega};have t2:decide (ps=qs)=false:=decide_eq_false e;have t3:((ps:Int) != (qs:Int))=true:=by{simp;omega};clear HG HB e;go_wp2_with fail;(refine z0W (by kernel_rfl) (by kernel_rfl) ?_;(repeat (go_big_quiet_step ((fail))));refine wpQuiet_nil ?_;rintro _ ⟨sq,rfl⟩);have HK3:=hid (HK.out.1.nx sq.keep);go_wp2_with fail;go_ret;exact⟨by rw[hF.out];try rfl,HK3.out⟩};{have hF:=hid (HB.out λh=>e h.2.1);have t1:((pn:Int) == (qn:Int))=false:=by{simp;omega};have t2:decide (pn=qn)=false:=decide_eq_false e;have t3:((pn:Int) != (qn:Int))=true:=by{simp;omega};clear HG HB e;go_wp2_with fail;(refine z0W (by kernel_rfl) (by kernel_rfl) ?_;(repeat (go_big_quiet_step ((fail))));refine wpQuiet_nil ?_;rintro _ ⟨sq,rfl⟩);have HK3:=hid (HK.out.1.nx sq.keep);go_wp2_with fail;go_ret;exact⟨by rw[hF.out];try rfl,HK3.out⟩};{have hF:=hid (HB.out λh=>e h.2.2.1);have t1:(pd == qd)=false:=by{simp[e]};have t2:decide (pd=qd)=false:=decide_eq_false e;have t3:(pd != qd)=true:=by{simp[e]};clear HG HB e;go_wp2_with fail;(refine z0W (by kernel_rfl) (by kernel_rfl) ?_;(repeat (go_big_quiet_step ((fail))));refine wpQuiet_nil ?_;rintro _ ⟨sq,rfl⟩);have HK3:=hid (HK.out.1.nx sq.keep);go_wp2_with fail;go_ret;exact⟨by rw[hF.out];try rfl,HK3.out⟩};{have hF:=hid (HB.out λh=>e h.2.2.2);have t1:((str px).toList == (str qx).toList)=false:=by{rw[z1C,z1C];simpa using e};have t2:((str px).toList != (str qx).toList)=true:=by{rw[bne,t1];rfl};clear HG HB e;go_wp2_with fail;(refine z0W (by kernel_rfl) (by kernel_rfl) ?_;(repeat (go_big_quiet_step ((fail))));refine wpQuiet_nil ?_;rintro _ ⟨sq,rfl⟩);have HK3:=hid (HK.out.1.nx sq.keep);go_wp2_with fail;go_ret;exact⟨by rw[hF.out];try rfl,HK3.out⟩}};{have h4:decide ((i:Int)<n)=false:=by{simp;omega};have HF:=hid (show E=true by{rw[HE.out];refine decide_eq_true ?_;have h:=HK.out.2;rwa [List.take_of_length_le (by have:=H.out.2.2.1;omega),List.take_of_length_le (by have:=H.out.2.2.2;omega)] at h});go_wp2_with fail;go_ret;exact⟨by rw[HF.out];try rfl,HK.out.1⟩})};{have t:((n:Int) == (k:Int))=false:=by{simp;omega};have t2:((n:Int) != (k:Int))=true:=by{simp;omega};have t3:decide (n=k)=false:=decide_eq_false hlen;have HF:=hid (show E=false by{rw[HE.out];refine decide_eq_false λh=>hlen ?_;have:=H.out.2.2.1;have:=H.out.2.2.2;rw[h] at *;omega});go_enter Tryz.func12,Tryz.ntmps12;go_wp2_with fail;go_ret;exact⟨by rw[HF.out];try rfl,Keep.refl _ _⟩}
end
end Go.Proofs.YtkjofdocgaiedaaGreat
