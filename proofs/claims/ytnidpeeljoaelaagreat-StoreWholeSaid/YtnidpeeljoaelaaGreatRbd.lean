/- Texts StoJ, StoQ, StoR, StoK in one. Conditions: as each law names them. -/
import Derived.Test.YtnidpeeljoaelaaGreatRaa
import Derived.Test.YtnidpeeljoaelaaGreatRac
import Derived.Test.YtnidpeeljoaelaaGreatRaq
import Derived.Test.YtnidpeeljoaelaaGreatRax
import Derived.Test.YtnidpeeljoaelaaGreatRbb
namespace Go.Proofs.YtnidpeeljoaelaaGreat
open Go.RowKit
open MI SO BM
def prV (p:Str×Str):List Value:=[.string (str p.1),.string (str p.2)]
def prsV (l:List (Str×Str)):List Value:=l.flatMap prV
theorem prsV_append (l m:List (Str×Str)):prsV (l ++ m)=prsV l ++ prsV m:=by simp[prsV]
theorem prsV_one (p:Str×Str):prsV [p]=prV p:=by simp[prsV]
theorem prV_oneCell (p:Str×Str):∀ u ∈ prV p,u.oneCell'=true:=by
 intro u hu
 simp only[prV,List.mem_cons,List.not_mem_nil,or_false] at hu
 rcases hu with rfl | rfl <;> rfl
def prZero:Value:=.agg #[.string { data:=#[] },.string { data:=#[] }]
theorem ty_prs:SliceTy Tryz.prog 43 49 prZero 2 32:=⟨by kernel_rfl,by kernel_rfl,rfl,by decide⟩
theorem Sorted_ok {ps:List (Str×Str)} (h:Sorted ps):AL.Ok ps:=by
 unfold Sorted at h
 unfold AL.Ok
 exact h.imp fun {a b} hab e=>by
  rw[e] at hab
  exact str_irrefl _ hab
theorem prsV_length (l:List (Str×Str)):(prsV l).length=l.length * 2:=by
 induction l with
 | nil=>rfl
 | cons p l ih=>simp only[prsV,List.flatMap_cons,List.length_append,List.length_cons] at *;rw[ih];simp[prV];omega
theorem prsV_get (l:List (Str×Str)) (i:Nat) (hi:i<l.length) (j:Nat) (hj:j<2):(prsV l)[i * 2+j]?=(prV l[i])[j]?:=by
 have e:l=l.take i ++ [l[i]] ++ l.drop (i+1):=by simp
 have hl:(prsV (l.take i)).length=i * 2:=by rw[prsV_length,List.length_take];omega
 conv=>lhs;rw[e]
 rw[prsV_append,prsV_append,List.append_assoc,List.getElem?_append_right (by omega),hl,prsV_one,show i * 2+j - i * 2=j by omega]
 rw[List.getElem?_append_left (by simp[prV];omega)]
theorem MI.lay1_eq:∀ (ps:List (Str×Str)) (c:Ch) (k:Nat),k≤ps.length→(∀ i (h:i<ps.length),i<k→ps[i].1<c.key)→(∀ (h:k<ps.length),¬ ps[k].1<c.key)→
  lay1 ps c=ps.take k ++ (if c.gone then [] else [(c.key,c.value)]) ++ ps.drop (if (ps[k]?.map (·.1))=some c.key then k+1 else k)
 | [],c,k,hk,_,_=>by
   have:k=0:=by simpa using hk
   subst this
   simp[lay1]
 | p :: ps,c,0,_,_,h2=>by
   have h:=h2 (by simp)
   simp only[List.getElem_cons_zero] at h
   unfold lay1
   rw[if_neg h]
   simp only[List.take_zero,List.nil_append,List.getElem?_cons_zero,Option.map_some,Option.some.injEq]
   by_cases he:p.1=c.key
   ·rw[if_pos he,if_pos he];rfl
   ·rw[if_neg he,if_neg he];rfl
 | p :: ps,c,k+1,hk,h1,h2=>by
   have h:=h1 0 (by simp) (by omega)
   simp only[List.getElem_cons_zero] at h
   unfold lay1
   rw[if_pos h,lay1_eq ps c k (by simpa using hk) (fun i hi hik=>by have:=h1 (i+1) (by simpa using hi) (by omega);simpa using this) (fun hh=>by have:=h2 (by simpa using hh);simpa using this)]
   simp only[List.take_succ_cons,List.getElem?_cons_succ,List.cons_append]
   by_cases he:Option.map (fun x=>x.fst) ps[k]?=some c.key
   ·rw[if_pos he,if_pos he];rfl
   ·rw[if_neg he,if_neg he];rfl
theorem prsV_drop (l:List (Str×Str)) (j:Nat):(prsV l).drop (j * 2)=prsV (l.drop j):=by
 induction l generalizing j with
 | nil=>simp[prsV]
 | cons p l ih=>
   cases j with
   | zero=>rfl
   | succ j=>
     have e:prsV (p :: l)=prV p ++ prsV l:=rfl
     rw[e,List.drop_append,List.drop_of_length_le (by simp[prV];omega),List.nil_append,List.drop_succ_cons,← ih j]
     congr 1
     simp[prV]
     omega
theorem prsV_oneCell (l:List (Str×Str)):∀ u ∈ prsV l,u.oneCell'=true:=by
 intro u hu
 obtain⟨p,_,h⟩:=List.mem_flatMap.1 hu
 exact prV_oneCell p u h
theorem str_lt (a b:Str):Op.bytesLess (str a).toList (str b).toList=decide (a<b):=by
 rw[str_toList,str_toList]
 exact bytesLess_eq a b
structure RLayRel (w1:World) (ps:List (Str×Str)) (key:Str) (k:Nat) (v:Value) (wr:World):Prop where
 keep:Keep (fun _=>False) w1 wr
 row:Row wr 49 2 v k (prsV (ps.take k))
 own:∀ b,v.ownBlock=some b→w1.heap.size≤b
 less:∀ i (h:i<ps.length),i<k→ps[i].1<key
structure LayEnd (w1:World) (out:List (Str×Str)) (v:Value) (wr:World):Prop where
 keep:Keep (fun _=>False) w1 wr
 row:Row wr 49 2 v out.length (prsV out)
 own:∀ b,v.ownBlock=some b→w1.heap.size≤b
theorem MI.lay1_len (ps:List (Str×Str)) (c:Ch):(lay1 ps c).length≤ps.length+1:=by
 induction ps with
 | nil=>unfold lay1;split <;> simp
 | cons p ps ih=>
   unfold lay1
   split
   ·simp;omega
   ·rw[List.length_append]
    have e1:(if c.gone then [] else [(c.key,c.value)]).length≤1:=by split <;> simp
    have e2:(if p.1=c.key then ps else p :: ps).length≤ps.length+1:=by split <;> simp
    simp only[List.length_cons]
    omega
structure RLayTo (w:World) (v0:Value) (ps:List (Str×Str)) (n i:Nat) (v:Value) (wr:World):Prop where
 keep:Keep (fun _=>False) w wr
 row:Row wr 49 2 v ps.length (prsV ps)
 own:∀ k,v.ownBlock=some k→w.heap.size≤k∨v0.ownBlock=some k
 len:ps.length≤n+i
set_option maxRecDepth 20000 in
set_option maxHeartbeats 2000000 in
theorem srlay_any (w:World) (ao:Option Addr) (n cap:Nat) (ps0:List (Str×Str)) (co:Option Addr) (N gc:Nat) (l:List Ch) (hrow:Row w 49 2 (.slice ao n cap) n (prsV ps0)) (hn:n=ps0.length) (hL:Chs w (.slice co N gc) l) (hN:N=l.length) (hn1:n+N≤1000000) :
  Calls Tryz.prog 22 #[.slice ao n cap,.slice co N gc] w fun e w'=>
   ∃ v,e = .returned v∧Row w' 49 2 v (layL ps0 l).length (prsV (layL ps0 l))∧Keep (fun _=>False) w w'∧(∀ i,v.ownBlock=some i→w.heap.size≤i∨(Value.slice ao n cap).ownBlock=some i):=by
 have HS:=hid (And.intro hL (And.intro hN hrow))
 have hn0:=hn
 clear hL hN hrow hn
 go_enter Tryz.func22,Tryz.ntmps22
 go_wp2_with (at_builtin;refine stopAt ?_;intro q hq)
 go_loopw [0,5] (fun pv iv wr=>∃ i:Nat,i≤N∧iv = .int .i64 i∧Hid (RLayTo w (.slice ao n cap) (layL ps0 (l.take i)) n i pv wr)) (fun _ iv _=>N - (intOf iv).toNat)
 case atStart=>exact⟨0,Nat.zero_le _,rfl,hid ⟨Keep.refl _ _,by rw[List.take_zero];show Row w _ 2 _ ps0.length (prsV ps0);rw[← hn0];exact HS.out.2.2,fun k e=>.inr e,by rw[List.take_zero];show ps0.length≤_;omega⟩⟩
 case round=>
  obtain⟨i,hi,rfl,HO⟩:=hrel
  obtain⟨wo,hwo⟩:∃ wo,wo=wr:=⟨_,rfl⟩
  subst hwo
  obtain⟨ao,cap,hv,-⟩:=HO.out.row.form
  subst hv
  by_cases hiN:i<N
  ·have h4:(i:Int)<N:=by omega
   have hil:i<l.length:=by rw[← HS.out.2.1];exact hiN
   obtain⟨ad,rfl,a0,a1,a2,hok⟩:=HS.out.1.get HO.out.keep i hil
   have hsu:layL ps0 (l.take (i+1))=lay1 (layL ps0 (l.take i)) l[i]:=by
    unfold layL
    rw[List.take_add_one,List.getElem?_eq_getElem hil,Option.toList_some,List.foldl_append]
    rfl
   obtain⟨q,hq⟩:∃ q,q=l[i]:=⟨_,rfl⟩
   rw[← hq] at a0 a1 a2 hsu
   clear hq hok
   have hn1':=HO.out.len
   have HR0:=hid HO.out.row
   obtain⟨ps,hps⟩:∃ ps,ps=layL ps0 (l.take i):=⟨_,rfl⟩
   rw[← hps] at hsu hn1' HR0 HO ⊢
   have HSU:=hid hsu
   obtain⟨n',hn'⟩:∃ n',n'=ps.length:=⟨_,rfl⟩
   rw[← hn'] at hn1' HR0 ⊢
   have HN:=hid hn'
   have hnn:n'≤1000000:=by omega
   clear hsu hps hn' hn1'
   obtain⟨key,value,gone⟩:=q
   simp only at a0 a1 a2
   revert HR0 HN
   generalize n'=n at *
   intro HR HN
   go_upto_block 2 with fail
   have hkA:Keep (fun _=>False) wo (wo.alloc (.cells #[.string (str key),.string (str value),.bool gone] 51)):=(Keep.refl _ _).alloc _
   have hnA:=heap_alloc_new wo (.cells #[.string (str key),.string (str value),.bool gone] 51)
   obtain⟨w1,hw1⟩:∃ w1,w1=wo.alloc (.cells #[.string (str key),.string (str value),.bool gone] 51):=⟨_,rfl⟩
   rw[← hw1] at hkA hnA ⊢
   clear hw1 a0 a1 a2
   obtain⟨gb,hgb⟩:∃ gb,gb=wo.heap.size:=⟨_,rfl⟩
   rw[← hgb] at hnA ⊢
   have HA:=hid (And.intro hkA (And.intro hnA hgb))
   clear hkA hnA hgb
   go_cut [7,8] (fun v iv wx=>∃ k:Nat,k≤n∧iv = .int .i64 k∧Hid (RLayRel w1 ps key k v wx∧∀ (h:k<ps.length),¬ ps[k].1<key))
   case first=>
    go_wp2_with (at_builtin;refine stopAt ?_;intro q hq)
    go_loopw [7,8] (fun v iv wr=>∃ k:Nat,k≤n∧iv = .int .i64 k∧Hid (RLayRel w1 ps key k v wr)) (fun _ iv _=>n - (intOf iv).toNat)
    case atStart=>exact⟨0,Nat.zero_le _,rfl,hid ⟨Keep.refl _ _,Row.nil _ _ _,fun b e=>by simp[Value.ownBlock] at e,fun i _ hi=>by omega⟩⟩
    case round=>
     obtain⟨k,hk,rfl,HT⟩:=hrel
     obtain⟨bo,bcap,hv,hbc,hbm,-⟩:=HT.out.row.form
     subst hv
     have hnr:=HT.out.keep.get HA.out.2.1 id
     obtain⟨j0,j1,j2,jf,jb⟩:=cells3i hnr
     clear hnr
     by_cases hkn:k<n
     ·have h4:(k:Int)<n:=by omega
      have hil:k<ps.length:=by rw[← HN.out];exact hkn
      have hr':=(HR.out.keep HA.out.1 (fun _ _ x=>x)).keep HT.out.keep (fun _ _ x=>x)
      have gets:∃ g,ao=some ⟨g,0,none⟩∧∀ t u,(prV ps[k])[t]?=some u→wr.cell? ⟨g,k * 2+t,none⟩=some u:=by
       have h0:=prsV_get ps k hil 0 (by decide)
       obtain⟨g,cap,hv,hc⟩:=hr'.getCell (show (prsV ps)[k * 2+0]?=some (.string (str ps[k].1)) by rw[h0];rfl)
       cases hv
       refine⟨g,rfl,fun t u hu=>?_⟩
       have ht:t<2:=(List.getElem?_eq_some_iff.1 hu).1
       have h1:=prsV_get ps k hil t ht
       rw[hu] at h1
       obtain⟨g',cap',hv',hc'⟩:=hr'.getCell h1
       cases hv'
       exact hc'
      obtain⟨ga,rfl,k0⟩:=gets
      have a0:=k0 0 _ rfl
      have a1:=k0 1 _ rfl
      rw[Nat.add_zero] at a0
      clear k0 hr'
      obtain⟨q,hq⟩:∃ q,q=ps[k]:=⟨_,rfl⟩
      rw[← hq] at a0 a1
      have HQ:=hid (And.intro hil hq)
      clear hq
      by_cases hlt:q.1<key
      ·have hlt':Op.bytesLess (str q.1).toList (str key).toList=true:=by rw[str_lt];simpa using hlt
       go_wp2_with (at_builtin;refine stopAt ?_;intro q hq)
       go_quiet (fail)
       go_wp2_with (at_builtin;refine stopAt ?_;intro q hq)
       (refine hq.out ?_;clear hq q)
       have hn7:((wr.drewN nq).alloc (.cells #[.string (str q.1),.string (str q.2)] 49)).heap[wr.heap.size]?=_:=heap_alloc_new (wr.drewN nq) (.cells #[.string (str q.1),.string (str q.2)] 49)
       have hk7:Keep (fun _=>False) wr ((wr.drewN nq).alloc (.cells #[.string (str q.1),.string (str q.2)] 49)):=((Keep.refl _ _).drewN _).alloc _
       obtain⟨w7,hw7⟩:∃ w7,w7=(wr.drewN nq).alloc (.cells #[.string (str q.1),.string (str q.2)] 49):=⟨_,rfl⟩
       rw[← hw7] at hn7 hk7 ⊢
       clear hw7
       refine wpList_plain rfl (fun K hK=>?_)
       refine wp_append ty_prs (.tmp 33) (.tmp 38) rfl rfl (HT.out.row.keep hk7 (fun _ _ x=>x)) (some ⟨wr.heap.size,0,none⟩) 1 1 (prV q) (by rfl)
        ⟨rfl,fun _=>⟨_,rfl,fun t u hu=>by rw[addr_add,Nat.zero_add,cell_of_row _ _ _ _ _ _ hn7];simpa [prV] using hu⟩⟩ (prV_oneCell _) (by unfold maxLen;omega) (by omega) ?_
       intro v8 w8 hr8 hk8 hv8
       refine hK _ _ ?_
       clear hK K
       have hsz:=HT.out.keep.size
       have hsz2:=hk7.size
       have hown:=HT.out.own
       have htk:ps.take (k+1)=ps.take k ++ [q]:=by rw[List.take_add_one,List.getElem?_eq_getElem hil,Option.toList_some,HQ.out.2]
       have HT8:=hid (RLayRel.mk (w1:=w1) (ps:=ps) (key:=key) (k:=k+1) (v:=v8) (wr:=w8)
        ((HT.out.keep.next hk7 (fun _ _ x=>x) (fun _ _ x=>x)).next hk8 (fun _ _ x=>x) (fun j hj x=>absurd (hown j x) (by omega)))
        (by rw[htk,prsV_append,prsV_one];exact hr8)
        (fun b e=>by
         rcases hv8 with ⟨_,h0⟩ | ⟨b',h1,h2⟩
         ·omega
         ·rw[e] at h1
          cases h1
          rcases h2 with h2 | h2
          ·exact hown _ h2
          ·omega)
        (fun i hi hik=>by
         rcases Nat.lt_or_eq_of_le (Nat.le_of_lt_succ hik) with h | h
         ·exact HT.out.less i hi h
         ·subst h
          have:=HQ.out.2
          rw[← this]
          exact hlt))
       clear hr8 hk8 hv8 hn7 hk7 hsz hsz2 hown a0 a1 htk hlt' j0 j1 j2 jf jb
       go_wp2_with (at_builtin;refine stopAt ?_;intro q hq)
       go_roundw
       case rel=>exact⟨k+1,by omega,by go_num,HT8⟩
       case measure=>simp[intOf];omega
      ·have hlt':Op.bytesLess (str q.1).toList (str key).toList=false:=by rw[str_lt];simpa using hlt
       go_wp2_with (at_builtin;refine stopAt ?_;intro q hq)
       go_quiet (fail)
       go_wp2_with (at_builtin;refine stopAt ?_;intro q hq)
       go_meet
       exact⟨k,hk,rfl,hid ⟨⟨HT.out.keep.drewN _,HT.out.row.keep ((Keep.refl (fun _=>False) _).drewN _) (fun _ _ x=>x),HT.out.own,HT.out.less⟩,fun h=>by rw[← HQ.out.2];exact hlt⟩⟩
     ·have h4:decide ((k:Int)<n)=false:=by simp;omega
      go_wp2_with (at_builtin;refine stopAt ?_;intro q hq)
      go_quiet (fail)
      go_wp2_with (at_builtin;refine stopAt ?_;intro q hq)
      go_meet
      exact⟨k,hk,rfl,hid ⟨⟨HT.out.keep.drewN _,HT.out.row.keep ((Keep.refl (fun _=>False) _).drewN _) (fun _ _ x=>x),HT.out.own,HT.out.less⟩,fun h=>by have:=HN.out;omega⟩⟩
   case rest=>
    rename_i v7 iv8
    obtain⟨k,hk,rfl,HT⟩:=hcut
    obtain⟨bo,bcap,rfl,hbc,hbm,-⟩:=HT.out.1.row.form
    have hnr:=HT.out.1.keep.get HA.out.2.1 id
    obtain⟨j0,j1,j2,jf,jb⟩:=cells3i hnr
    clear hnr
    obtain⟨o2,ho2⟩:∃ o2,o2=ps.take k ++ (if gone then [] else [(key,value)]):=⟨_,rfl⟩
    have Ho2:=hid ho2
    clear ho2
    go_upto_if 44 with fail
    go_cut [7] (fun v wx=>Hid (LayEnd w1 o2 v wx))
    case first=>
     cases gone with
     | true=>
       go_wp2_with (at_builtin;refine stopAt ?_;intro q hq)
       go_meet
       have e2:o2=ps.take k:=by rw[Ho2.out];simp
       refine hid ⟨HT.out.1.keep,?_,HT.out.1.own⟩
       rw[e2,List.length_take,Nat.min_eq_left (by rw[← HN.out];exact hk)]
       exact HT.out.1.row
     | false=>
       go_wp2_with (at_builtin;refine stopAt ?_;intro q hq)
       (refine hq.out ?_;clear hq q)
       have hn7:=heap_alloc_new wc (.cells #[.string (str key),.string (str value)] 49)
       have hk7:Keep (fun _=>False) wc (wc.alloc (.cells #[.string (str key),.string (str value)] 49)):=(Keep.refl _ _).alloc _
       obtain⟨w7,hw7⟩:∃ w7,w7=wc.alloc (.cells #[.string (str key),.string (str value)] 49):=⟨_,rfl⟩
       rw[← hw7] at hn7 hk7 ⊢
       clear hw7
       refine wpList_plain rfl (fun K hK=>?_)
       refine wp_append ty_prs (.tmp 45) (.tmp 51) rfl rfl (HT.out.1.row.keep hk7 (fun _ _ x=>x)) (some ⟨wc.heap.size,0,none⟩) 1 1 (prV (key,value)) (by rfl)
        ⟨rfl,fun _=>⟨_,rfl,fun t u hu=>by rw[addr_add,Nat.zero_add,cell_of_row _ _ _ _ _ _ hn7];simpa [prV] using hu⟩⟩ (prV_oneCell _) (by unfold maxLen;omega) (by omega) ?_
       intro v8 w8 hr8 hk8 hv8
       refine hK _ _ ?_
       clear hK K
       have hsz:=HT.out.1.keep.size
       have hsz2:=hk7.size
       have hown:=HT.out.1.own
       have e2:o2=ps.take k ++ [(key,value)]:=by rw[Ho2.out];simp
       have HT8:=hid (LayEnd.mk (w1:=w1) (out:=o2) (v:=v8) (wr:=w8)
         ((HT.out.1.keep.next hk7 (fun _ _ x=>x) (fun _ _ x=>x)).next hk8 (fun _ _ x=>x) (fun j hj x=>absurd (hown j x) (by omega)))
         (by
          rw[e2,prsV_append,prsV_one,List.length_append,List.length_take,Nat.min_eq_left (by rw[← HN.out];exact hk)]
          exact hr8)
         (fun b e=>by
          rcases hv8 with ⟨_,h0⟩ | ⟨b',h1,h2⟩
          ·omega
          ·rw[e] at h1
           cases h1
           rcases h2 with h2 | h2
           ·exact hown _ h2
           ·omega))
       clear hr8 hk8 hv8 hn7 hk7 hsz hsz2 hown e2
       go_wp2_with (at_builtin;refine stopAt ?_;intro q hq)
       go_meet
       exact HT8
    case rest=>
     clear j0 j1 j2 jf jb
     have HE:Hid (LayEnd w1 o2 _ wc):=hcut
     clear hcut
     have HL:Hid (∀ i (h:i<ps.length),i<k→ps[i].1<key):=hid HT.out.1.less
     have HL2:Hid (∀ (h:k<ps.length),¬ ps[k].1<key):=hid HT.out.2
     clear HT
     have hnr:=HE.out.keep.get HA.out.2.1 id
     obtain⟨j0,j1,j2,jf,jb⟩:=cells3i hnr
     clear hnr
     obtain⟨B,hB⟩:∃ B:Bool,B=decide ((ps[k]?.map (·.1))=some key):=⟨_,rfl⟩
     have HB:=hid hB
     clear hB
     go_upto_region 12 with fail
     go_cut [66] (fun tv wx=>tv = .bool B∧Hid (LayEnd w1 o2 u7 wx))
     case first=>
      by_cases hkn:k<n
      ·have h4:(k:Int)<n:=by omega
       have hil:k<ps.length:=by rw[← HN.out];exact hkn
       have hr':=(HR.out.keep HA.out.1 (fun _ _ x=>x)).keep HE.out.keep (fun _ _ x=>x)
       have h0:=prsV_get ps k hil 0 (by decide)
       obtain⟨ga,cap',hv,hc⟩:=hr'.getCell (show (prsV ps)[k * 2+0]?=some (.string (str ps[k].1)) by rw[h0];rfl)
       cases hv
       obtain⟨q,hq⟩:∃ q,q=ps[k]:=⟨_,rfl⟩
       rw[← hq] at hc
       rw[Nat.add_zero] at hc
       have hBq:B=decide (q.1=key):=by rw[HB.out,hq,List.getElem?_eq_getElem hil];simp
       have HBq:=hid hBq
       clear hr' h0 hq hBq
       go_wp2_with (at_builtin;refine stopAt ?_;intro q hq)
       go_quiet (fail)
       go_wp2_with (at_builtin;refine stopAt ?_;intro q hq)
       go_meet
       refine⟨?_,hid ⟨HE.out.keep.drewN _,HE.out.row.keep ((Keep.refl (fun _=>False) _).drewN _) (fun _ _ x=>x),HE.out.own⟩⟩
       rw[str_toList,str_toList,HBq.out]
       congr 1
       by_cases he:q.1=key <;> simp[he]
      ·have h4:decide ((k:Int)<n)=false:=by simp;omega
       go_wp2_with (at_builtin;refine stopAt ?_;intro q hq)
       go_quiet (fail)
       go_wp2_with (at_builtin;refine stopAt ?_;intro q hq)
       go_meet
       have hBf:B=false:=by
        rw[HB.out,List.getElem?_eq_none (by have:=HN.out;omega)]
        simp
       rw[hBf]
       exact⟨rfl,hid ⟨HE.out.keep.drewN _,HE.out.row.keep ((Keep.refl (fun _=>False) _).drewN _) (fun _ _ x=>x),HE.out.own⟩⟩
     case rest=>
      obtain⟨rfl,HE⟩:=hcut
      clear j0 j1 j2 jf jb
      obtain⟨k2,hk2⟩:∃ k2,k2=if B then k+1 else k:=⟨_,rfl⟩
      have hkb:B=true→k<n:=fun h=>by
       rw[HB.out] at h
       cases hg:ps[k]? with
       | none=>rw[hg] at h;simp at h
       | some q=>rw[HN.out];exact(List.getElem?_eq_some_iff.1 hg).1
      have hk2n:k2≤n:=by
       rw[hk2]
       split
       ·rename_i h;exact hkb h
       ·exact hk
      have Hk2:=hid hk2
      clear hk2 hkb
      go_upto_if 66 with fail
      go_cut [8] (fun iv wx=>iv = .int .i64 k2∧Hid (LayEnd w1 o2 u7 wx))
      case first=>
       cases B with
       | true=>
         go_wp2_with (at_builtin;refine stopAt ?_;intro q hq)
         go_meet
         exact⟨by rw[Hk2.out];rfl,HE⟩
       | false=>
         go_wp2_with (at_builtin;refine stopAt ?_;intro q hq)
         go_meet
         exact⟨by rw[Hk2.out];rfl,HE⟩
      case rest=>
       obtain⟨rfl,HE⟩:=hcut
       obtain⟨co,ccap,rfl,hcb,hcm,-⟩:=HE.out.row.form
       have hrow2:=(HR.out.keep HA.out.1 (fun _ _ x=>x)).keep HE.out.keep (fun _ _ x=>x)
       have hcn:n≤cap:=by obtain⟨a1,c1,e1,e2,_⟩:=hrow2.form;cases e1;exact e2
       have hsl:=fun w=>run_sliceAt_lo (P:=Tryz.prog) ty_prs ao n cap .i64 k2 hk2n w
       have hcells:=(Cells.of_row hrow2).tail k2 hk2n hcn (by decide)
       rw[prsV_drop] at hcells
       obtain⟨T,hT⟩:∃ T,T=tailAt ao cap k2 2:=⟨_,rfl⟩
       obtain⟨r,hr⟩:∃ r,r=n - k2:=⟨_,rfl⟩
       rw[← hT,← hr] at hsl
       rw[← hT,← hr] at hcells
       have ho2l:o2.length≤n+1:=by
        rw[Ho2.out,List.length_append,List.length_take]
        have:(if gone=true then [] else [(key,value)]:List (Str×Str)).length≤1:=by split <;> simp
        omega
       have HD:=hid (And.intro hcells hr)
       clear hcells hT hr hrow2
       go_wp2_with (at_builtin;refine stopAt ?_;intro q hq)
       (refine hq.out ?_;clear hq q)
       refine wpList_plain rfl (fun K hK=>?_)
       refine wp_append ty_prs (.tmp 69) (.tmp 72) rfl rfl HE.out.row T r (cap - k2) (prsV (ps.drop k2)) (by rfl) HD.out.1 (prsV_oneCell _) (by have:=HD.out.2;unfold maxLen;omega) (by have:=HD.out.2;omega) ?_
       intro v8 w8 hr8 hk8 hv8
       refine hK _ _ ?_
       clear hK K
       have hown:=HE.out.own
       have hfin:o2 ++ ps.drop k2=lay1 ps ⟨key,value,gone⟩:=by
        rw[lay1_eq ps ⟨key,value,gone⟩ k (by rw[← HN.out];exact hk) HL.out HL2.out,Ho2.out,Hk2.out,HB.out]
        simp only[decide_eq_true_eq]
       have hl:(lay1 ps ⟨key,value,gone⟩).length=o2.length+r:=by rw[← hfin,List.length_append,List.length_drop,HD.out.2,HN.out]
       rw[← prsV_append,hfin,← hl] at hr8
       have HF:=hid (And.intro hr8 (And.intro ((HA.out.1.next HE.out.keep (fun _ _ x=>x) (fun _ _ x=>x)).next hk8 (fun _ _ x=>x) (fun j hj x=>absurd (hown j x) (by have:=HA.out.1.size;omega))) (show ∀ i,v8.ownBlock=some i→wo.heap.size≤i from fun b e=>by
        have:=HA.out.1.size
        have:=HE.out.keep.size
        rcases hv8 with ⟨e1,h0⟩ | ⟨b',h1,h2⟩
        ·rw[e1] at e
         have:=hown _ e
         omega
        ·rw[e] at h1
         cases h1
         rcases h2 with h2 | h2
         ·have:=hown _ h2
          omega
         ·omega)))
       clear hr8 hk8 hv8 hown hfin hl hsl
       go_wp2_with (at_builtin;refine stopAt ?_;intro q hq)
       go_roundw
       case rel=>exact⟨i+1,by omega,by go_num,hid ⟨HO.out.keep.next HF.out.2.1 (fun _ _ x=>x) (fun _ _ x=>x),by rw[HSU.out];exact HF.out.1,fun k e=>.inl (Nat.le_trans HO.out.keep.size (HF.out.2.2 k e)),by rw[HSU.out];have:=lay1_len ps ⟨key,value,gone⟩;have:=HO.out.len;omega⟩⟩
       case measure=>simp[intOf];omega
  ·have h4:decide ((i:Int)<N)=false:=by simp;omega
   obtain rfl:i=N:=by omega
   go_wp2_with (at_builtin;refine stopAt ?_;intro q hq)
   go_ret
   have e:l.take i=l:=by rw[HS.out.2.1];exact List.take_length
   have h1:=HO.out.row
   rw[e] at h1
   exact⟨_,rfl,by rw[e];exact h1,HO.out.keep,HO.out.own⟩
end Go.Proofs.YtnidpeeljoaelaaGreat
namespace Go.Proofs.YtnidpeeljoaelaaGreat.SO
open Go.Proofs.YtnidpeeljoaelaaGreat MI BM DM WM
structure St where
 g:Lg
 ps:List (Str×Str)
 dead:Bool
def cpL (ps:List (Str×Str)):List (List UInt8):=ps.map fun p=>enc [⟨p.1,p.2,false⟩]
def cpS (D:Dk) (S:St):Int×Dk×St:=
 if S.dead then (6,D,S) else ((WM.reset D S.g (cpL S.ps)).1,(WM.reset D S.g (cpL S.ps)).2.1,⟨(WM.reset D S.g (cpL S.ps)).2.2,S.ps,decide ((WM.reset D S.g (cpL S.ps)).1=6)⟩)
def apS (D:Dk) (S:St) (b:List UInt8):Int×Dk×St:=
 ((WM.append D S.g b).1,(WM.append D S.g b).2.1,⟨(WM.append D S.g b).2.2,S.ps,decide ((WM.append D S.g b).1=6)⟩)
def intoS (D:Dk) (S:St) (b:List UInt8):Int×Dk×St:=
 if (apS D S b).1=5 then
  if (cpS (apS D S b).2.1 (apS D S b).2.2).1=0 then apS (cpS (apS D S b).2.1 (apS D S b).2.2).2.1 (cpS (apS D S b).2.1 (apS D S b).2.2).2.2 b
  else cpS (apS D S b).2.1 (apS D S b).2.2
 else apS D S b
def laidS (r:Int×Dk×St) (l:List Ch):Int×Dk×St:=(r.1,r.2.1,if r.1=0 then { r.2.2 with ps:=layL r.2.2.ps l } else r.2.2)
def doS (D:Dk) (S:St) (l:List Ch):Int×Dk×St:=
 if S.dead then (6,D,S) else if encE l≠0 then ((encE l:Int),D,S) else laidS (intoS D S (enc l)) l
def syS (D:Dk) (S:St):Int×Dk×St:=
 if S.dead then (6,D,S) else ((WM.syncW D S.g).1,(WM.syncW D S.g).2.1,⟨(WM.syncW D S.g).2.2,S.ps,decide ((WM.syncW D S.g).1=6)⟩)
def decL:List (List UInt8)→List (Str×Str)→Option (List (Str×Str))
 | [],ps=>some ps
 | b :: L,ps=>match dec b with
   | none=>none
   | some l=>decL L (layL ps l)
def opS (D:Dk):Int×Option St×Dk:=
 match (openW D).2.1 with
 | none=>((openW D).1,none,(openW D).2.2)
 | some g=>match decL g.l [] with
   | none=>(50,none,(openW D).2.2)
   | some ps=>(0,some ⟨g,ps,false⟩,(openW D).2.2)
def OkP (p:Str×Str):Prop:=1≤p.1.length∧p.1.length≤16∧p.2.length≤128
structure PsOk (ps:List (Str×Str)):Prop where
 sorted:Sorted ps
 each:∀ p ∈ ps,OkP p
theorem PsOk.nil:PsOk []:=⟨List.Pairwise.nil,fun _ h=>by cases h⟩
theorem lay1_mem2 {ps:List (Str×Str)} (hs:Sorted ps) {c:Ch} {q:Str×Str} (h:q ∈ lay1 ps c):q ∈ ps∨(c.gone=false∧q=(c.key,c.value)):=by
 have h1:=get_of_mem (Sorted_ok (lay1_sorted hs c)) h
 rw[lay1_get hs] at h1
 split at h1
 ·split at h1
  ·cases h1
  ·rename_i hk hg
   have h2:=Option.some.inj h1
   refine .inr ⟨by simpa using hg,?_⟩
   rw[h2,← hk]
 ·exact .inl (mem_of_get h1)
theorem PsOk.lay1 {ps:List (Str×Str)} (h:PsOk ps) {c:Ch} (hc:rightC c=true):PsOk (MI.lay1 ps c):=by
 refine⟨lay1_sorted h.sorted c,fun p hp=>?_⟩
 rcases lay1_mem2 h.sorted hp with h1 | ⟨-,rfl⟩
 ·exact h.each p h1
 ·unfold rightC at hc
  have:=of_decide_eq_true hc
  exact⟨this.1,this.2.1,this.2.2.1⟩
theorem PsOk.layL:∀ {l:List Ch} {ps:List (Str×Str)},PsOk ps→(∀ c ∈ l,rightC c=true)→PsOk (MI.layL ps l)
 | [],_,h,_=>h
 | c :: l,_,h,hc=>PsOk.layL (l:=l) (h.lay1 (hc c (by simp))) fun c' h'=>hc c' (by simp[h'])
theorem layL_len:∀ (l:List Ch) (ps:List (Str×Str)),(MI.layL ps l).length≤ps.length+l.length
 | [],_=>Nat.le_refl _
 | c :: l,ps=>by
   have h1:=layL_len l (MI.lay1 ps c)
   have h2:=lay1_len ps c
   show (MI.layL (MI.lay1 ps c) l).length≤_
   rw[List.length_cons]
   omega
theorem right_one {p:Str×Str} (h:OkP p):right [⟨p.1,p.2,false⟩]=true:=by
 obtain⟨h1,h2,h3⟩:=h
 unfold right
 simp[rightC]
 omega
theorem len_eq {m ps:List (Str×Str)} (hm:AL.Ok m) (hp:Sorted ps) (h:∀ x,AL.get m x=AL.get ps x):m.length=ps.length:=by
 have hp':AL.Ok ps:=Sorted_ok hp
 have hn:∀ {q:List (Str×Str)},AL.Ok q→(q.map (·.1)).Nodup:=fun {q} hq=>by unfold List.Nodup;rw[List.pairwise_map];exact hq
 have hmem:∀ {q:List (Str×Str)},AL.Ok q→∀ x,x ∈ q.map (·.1)↔(AL.get q x).isSome=true:=fun {q} hq x=>by
  rw[List.mem_map]
  constructor
  ·rintro⟨p,hp,rfl⟩
   rw[get_of_mem hq hp]
   rfl
  ·intro h
   cases hg:AL.get q x with
   | none=>rw[hg] at h;cases h
   | some y=>exact⟨(x,y),mem_of_get hg,rfl⟩
 have:=(List.perm_ext_iff_of_nodup (hn hm) (hn hp')).2 fun x=>by rw[hmem hm,hmem hp',h]
 have:=this.length_eq
 simpa using this
end Go.Proofs.YtnidpeeljoaelaaGreat.SO
namespace Go.Proofs.YtnidpeeljoaelaaGreat
open Go.RowKit Go.Maps
open MI SO BM DM WM
theorem LogAt.ltz {w:World} {b d:Nat} {F Fd:Nat→Prop} {D:Dk} {G:Lg} (h:LogAt w b d F Fd D G):∀ k,(F k∨Fd k)→k<w.heap.size:=by
 obtain⟨_,_,_,_,h⟩:=h
 exact fun k x=>x.elim (h.wal.lt k) (h.disk.lt k)
theorem RLogAt.ltz {w:World} {b d:Nat} {F Fd:Nat→Prop} {D:Dk} {G:Lg} (h:RLogAt w b d F Fd D G):∀ k,(F k∨Fd k)→k<w.heap.size:=by
 obtain⟨_,_,h⟩:=h
 exact fun k x=>x.elim (h.wal.lt k) (h.disk.lt k)
theorem LogAt.disk_ {w:World} {b d:Nat} {F Fd:Nat→Prop} {D:Dk} {G:Lg} (h:LogAt w b d F Fd D G):DiskAt w d Fd D:=by
 obtain⟨_,_,_,_,h⟩:=h;exact h.disk
theorem RLogAt.disk_ {w:World} {b d:Nat} {F Fd:Nat→Prop} {D:Dk} {G:Lg} (h:RLogAt w b d F Fd D G):RefAt w d Fd D:=by
 obtain⟨_,_,h⟩:=h;exact h.disk
theorem LogAt.apart_ {w:World} {b d:Nat} {F Fd:Nat→Prop} {D:Dk} {G:Lg} (h:LogAt w b d F Fd D G):∀ k,F k→¬ Fd k:=by
 obtain⟨_,_,_,_,h⟩:=h;exact h.apart
theorem RLogAt.apart_ {w:World} {b d:Nat} {F Fd:Nat→Prop} {D:Dk} {G:Lg} (h:RLogAt w b d F Fd D G):∀ k,F k→¬ Fd k:=by
 obtain⟨_,_,h⟩:=h;exact h.apart
structure StoIs (w:World) (b d:Nat) (F Fd:Nat→Prop) (D:Dk) (S:St) (wb mb:Nat) (m:List (Str×Str)) (Fl:Nat→Prop):Prop where
 head:w.heap[b]?=some (.cells (stoCells (.pointer (some ⟨wb,0,none⟩)) mb S.dead) 87 (0,0))
 map:PairsAt w mb m
 log:LogAt w wb d Fl Fd D S.g
 get:∀ x,AL.get m x=AL.get S.ps x
 inl:∀ k,Fl k→F k∧k≠b∧k≠mb
 self:F b
 fm:F mb
 ne:b≠mb
 lt:∀ k,F k→k<w.heap.size
 apart:∀ k,F k→¬ Fd k
 ok:PsOk S.ps
def StoAt (w:World) (b d:Nat) (F Fd:Nat→Prop) (D:Dk) (S:St):Prop:=∃ wb mb m Fl,StoIs w b d F Fd D S wb mb m Fl
def StoTo (b d:Nat) (F Fd:Nat→Prop) (w:World) (D':Dk) (S':St) (w':World):Prop:=
 ∃ F' Fd',StoAt w' b d F' Fd' D' S'∧Keep (fun k=>F k∨Fd k) w w'∧(∀ k,F' k→F k∨w.heap.size≤k)∧∀ k,Fd' k→Fd k∨w.heap.size≤k
section
variable {w w' w1 w2:World} {b d wb mb:Nat} {F Fd Fl K:Nat→Prop} {D D':Dk} {S S':St} {m m':List (Str×Str)} {G':Lg}
theorem StoIs.keep (H:StoIs w b d F Fd D S wb mb m Fl) (hk:Keep K w w') (h1:∀ k,F k→¬ K k) (h2:∀ k,Fd k→¬ K k):StoIs w' b d F Fd D S wb mb m Fl:=
 ⟨hk.get H.head (h1 _ H.self),MapAt.keep H.map hk (h1 _ H.fm),H.log.keep hk (fun k x=>h1 k (H.inl k x).1) h2,H.get,H.inl,H.self,H.fm,H.ne,fun k x=>Nat.lt_of_lt_of_le (H.lt k x) hk.size,H.apart,H.ok⟩
theorem StoIs.len (H:StoIs w b d F Fd D S wb mb m Fl):m.length=S.ps.length:=len_eq H.map.1 H.ok.sorted H.get
theorem StoIs.logTo (H:StoIs w b d F Fd D S wb mb m Fl) (ht:LogTo wb d Fl Fd w D' G' w') :
  ∃ Fl' F' Fd',StoIs w' b d F' Fd' D' { S with g:=G' } wb mb m Fl'∧Keep (fun k=>F k∨Fd k) w w'∧(∀ k,F' k→F k∨w.heap.size≤k)∧∀ k,Fd' k→Fd k∨w.heap.size≤k:=by
 obtain⟨Fl',Fd',h1,h2,h3,h4⟩:=ht
 have hb:¬ (Fl b∨Fd b):=fun x=>x.elim (fun y=>(H.inl b y).2.1 rfl) (H.apart b H.self)
 have hm:¬ (Fl mb∨Fd mb):=fun x=>x.elim (fun y=>(H.inl mb y).2.2 rfl) (H.apart mb H.fm)
 refine⟨Fl',fun k=>F k∨Fl' k,Fd',⟨h2.get H.head hb,MapAt.keep H.map h2 hm,h1,H.get,fun k x=>⟨.inr x,?_,?_⟩,.inl H.self,.inl H.fm,H.ne,fun k x=>?_,fun k x=>?_,H.ok⟩,h2.mono fun k _ x=>x.imp (fun y=>(H.inl k y).1) id,fun k x=>?_,h4⟩
 ·rintro rfl
  rcases h3 _ x with z | z
  ·exact hb (.inl z)
  ·have:=H.lt _ H.self;omega
 ·rintro rfl
  rcases h3 _ x with z | z
  ·exact hm (.inl z)
  ·have:=H.lt _ H.fm;omega
 ·rcases x with x | x
  ·exact Nat.lt_of_lt_of_le (H.lt k x) h2.size
  ·exact h1.ltz k (.inl x)
 ·rcases x with x | x
  ·intro y
   rcases h4 k y with z | z
   ·exact H.apart k x z
   ·have:=H.lt k x;omega
  ·exact h1.apart_ k x
 ·rcases x with x | x
  ·exact .inl x
  ·exact(h3 k x).imp (fun z=>(H.inl k z).1) id
theorem StoIs.tell (H:StoIs w b d F Fd D S wb mb m Fl) (x:Bool) (hk:Keep (fun k=>k=b) w w') (hh:w'.heap[b]?=some (.cells (stoCells (.pointer (some ⟨wb,0,none⟩)) mb x) 87 (0,0))):StoIs w' b d F Fd D { S with dead:=x } wb mb m Fl:=
 ⟨hh,MapAt.keep H.map hk (fun e=>H.ne e.symm),H.log.keep hk (fun k y e=>(H.inl k y).2.1 e) (fun k y e=>by subst e;exact H.apart _ H.self y),H.get,H.inl,H.self,H.fm,H.ne,fun k y=>Nat.lt_of_lt_of_le (H.lt k y) hk.size,H.apart,H.ok⟩
theorem StoIs.laid (H:StoIs w b d F Fd D S wb mb m Fl) {ps':List (Str×Str)} (hk:Keep (fun k=>k=mb) w w') (hm:PairsAt w' mb m') (hg:∀ x,AL.get m' x=AL.get ps' x) (ok:PsOk ps'):StoIs w' b d F Fd D { S with ps:=ps' } wb mb m' Fl:=
 ⟨hk.get H.head H.ne,hm,H.log.keep hk (fun k y e=>(H.inl k y).2.2 e) (fun k y e=>by subst e;exact H.apart _ H.fm y),hg,H.inl,H.self,H.fm,H.ne,fun k y=>Nat.lt_of_lt_of_le (H.lt k y) hk.size,H.apart,ok⟩
theorem StoAt.keep (H:StoAt w b d F Fd D S) (hk:Keep K w w') (h1:∀ k,F k→¬ K k) (h2:∀ k,Fd k→¬ K k):StoAt w' b d F Fd D S:=
 let ⟨wb,mb,m,Fl,h⟩:=H;⟨wb,mb,m,Fl,h.keep hk h1 h2⟩
theorem StoAt.later (H:StoAt w b d F Fd D S) (hk:Keep (fun _=>False) w w'):StoAt w' b d F Fd D S:=H.keep hk (fun _ _ x=>x) (fun _ _ x=>x)
theorem StoAt.ltw (H:StoAt w b d F Fd D S):∀ k,F k∨Fd k→k<w.heap.size:=let ⟨_,_,_,_,h⟩:=H;fun k x=>x.elim (h.lt k) fun y=>h.log.ltz k (.inr y)
theorem StoAt.diskAt (H:StoAt w b d F Fd D S):DiskAt w d Fd D:=let ⟨_,_,_,_,h⟩:=H;h.log.disk_
theorem StoAt.apart (H:StoAt w b d F Fd D S):∀ k,F k→¬ Fd k:=let ⟨_,_,_,_,h⟩:=H;h.apart
theorem StoAt.ok (H:StoAt w b d F Fd D S):PsOk S.ps:=let ⟨_,_,_,_,h⟩:=H;h.ok
theorem StoAt.to (H:StoAt w b d F Fd D S):StoTo b d F Fd w D S w:=⟨F,Fd,H,Keep.refl _ _,fun _ x=>.inl x,fun _ x=>.inl x⟩
theorem StoTo.since (h:StoTo b d F Fd w1 D' S' w') (hk:Keep (fun _=>False) w w1):StoTo b d F Fd w D' S' w':=by
 obtain⟨F',Fd',h1,h2,h3,h4⟩:=h
 exact⟨F',Fd',h1,hk.next h2 (fun _ _ x=>x.elim) (fun _ _ x=>x),fun k x=>(h3 k x).imp id fun y=>Nat.le_trans hk.size y,fun k x=>(h4 k x).imp id fun y=>Nat.le_trans hk.size y⟩
theorem StoTo.later (h:StoTo b d F Fd w D' S' w1) (hk:Keep (fun _=>False) w1 w2):StoTo b d F Fd w D' S' w2:=by
 obtain⟨F',Fd',h1,h2,h3,h4⟩:=h
 exact⟨F',Fd',h1.later hk,h2.next hk (fun _ _ x=>x) (fun _ _ x=>x.elim),h3,h4⟩
theorem StoTo.next {D2:Dk} {S2:St} (h1:StoTo b d F Fd w D' S' w1) (h:∀ F1 Fd1,StoAt w1 b d F1 Fd1 D' S'→StoTo b d F1 Fd1 w1 D2 S2 w2):StoTo b d F Fd w D2 S2 w2:=by
 obtain⟨F1,Fd1,a1,hk,h1',h2'⟩:=h1
 obtain⟨F2,Fd2,b1,b2,b3,b4⟩:=h F1 Fd1 a1
 have s:=hk.size
 refine⟨F2,Fd2,b1,hk.next b2 (fun _ _ x=>x) (fun k hk' x=>?_),fun k x=>?_,fun k x=>?_⟩
 ·rcases x with x | x
  ·rcases h1' k x with y | y
   ·exact .inl y
   ·omega
  ·rcases h2' k x with y | y
   ·exact .inr y
   ·omega
 ·rcases b3 k x with y | y
  ·exact h1' k y
  ·right;omega
 ·rcases b4 k x with y | y
  ·exact h2' k y
  ·right;omega
theorem StoIs.at (H:StoIs w b d F Fd D S wb mb m Fl):StoAt w b d F Fd D S:=⟨wb,mb,m,Fl,H⟩
end
def rstoCells (wp pv:Value) (dead:Bool):Array Value:=#[wp,pv,.bool dead]
structure RStoIs (w:World) (b d:Nat) (F Fd:Nat→Prop) (D:Dk) (S:St) (wb:Nat) (pv:Value) (Fl:Nat→Prop):Prop where
 head:w.heap[b]?=some (.cells (rstoCells (.pointer (some ⟨wb,0,none⟩)) pv S.dead) 56 (0,0))
 row:Row w 49 2 pv S.ps.length (prsV S.ps)
 log:RLogAt w wb d Fl Fd D S.g
 own:∀ k,pv.ownBlock=some k→F k∧¬ Fl k∧k≠b
 inl:∀ k,Fl k→F k∧k≠b
 self:F b
 lt:∀ k,F k→k<w.heap.size
 apart:∀ k,F k→¬ Fd k
 ok:PsOk S.ps
def RStoAt (w:World) (b d:Nat) (F Fd:Nat→Prop) (D:Dk) (S:St):Prop:=∃ wb pv Fl,RStoIs w b d F Fd D S wb pv Fl
def RStoTo (b d:Nat) (F Fd:Nat→Prop) (w:World) (D':Dk) (S':St) (w':World):Prop:=
 ∃ F' Fd',RStoAt w' b d F' Fd' D' S'∧Keep (fun k=>F k∨Fd k) w w'∧(∀ k,F' k→F k∨w.heap.size≤k)∧∀ k,Fd' k→Fd k∨w.heap.size≤k
section
variable {w w' w1 w2:World} {b d wb:Nat} {F Fd Fl K:Nat→Prop} {D D':Dk} {S S':St} {pv pv':Value} {G':Lg}
theorem RStoIs.keep (H:RStoIs w b d F Fd D S wb pv Fl) (hk:Keep K w w') (h1:∀ k,F k→¬ K k) (h2:∀ k,Fd k→¬ K k):RStoIs w' b d F Fd D S wb pv Fl:=
 ⟨hk.get H.head (h1 _ H.self),H.row.keep hk (fun k x=>h1 k (H.own k x).1),H.log.keep hk (fun k x=>h1 k (H.inl k x).1) h2,H.own,H.inl,H.self,fun k x=>Nat.lt_of_lt_of_le (H.lt k x) hk.size,H.apart,H.ok⟩
theorem RStoIs.logTo (H:RStoIs w b d F Fd D S wb pv Fl) (ht:RLogTo wb d Fl Fd w D' G' w') :
  ∃ Fl' F' Fd',RStoIs w' b d F' Fd' D' { S with g:=G' } wb pv Fl'∧Keep (fun k=>F k∨Fd k) w w'∧(∀ k,F' k→F k∨w.heap.size≤k)∧∀ k,Fd' k→Fd k∨w.heap.size≤k:=by
 obtain⟨Fl',Fd',h1,h2,h3,h4⟩:=ht
 have hb:¬ (Fl b∨Fd b):=fun x=>x.elim (fun y=>(H.inl b y).2 rfl) (H.apart b H.self)
 have hm:∀ k,pv.ownBlock=some k→¬ (Fl k∨Fd k):=fun k e x=>x.elim (H.own k e).2.1 (H.apart k (H.own k e).1)
 refine⟨Fl',fun k=>F k∨Fl' k,Fd',⟨h2.get H.head hb,H.row.keep h2 hm,h1,fun k e=>⟨.inl (H.own k e).1,fun x=>?_,(H.own k e).2.2⟩,fun k x=>⟨.inr x,?_⟩,.inl H.self,fun k x=>?_,fun k x=>?_,H.ok⟩,h2.mono fun k _ x=>x.imp (fun y=>(H.inl k y).1) id,fun k x=>?_,h4⟩
 ·rcases h3 _ x with z | z
  ·exact(H.own k e).2.1 z
  ·have:=H.lt _ (H.own k e).1;omega
 ·rintro rfl
  rcases h3 _ x with z | z
  ·exact hb (.inl z)
  ·have:=H.lt _ H.self;omega
 ·rcases x with x | x
  ·exact Nat.lt_of_lt_of_le (H.lt k x) h2.size
  ·exact h1.ltz k (.inl x)
 ·rcases x with x | x
  ·intro y
   rcases h4 k y with z | z
   ·exact H.apart k x z
   ·have:=H.lt k x;omega
  ·exact h1.apart_ k x
 ·rcases x with x | x
  ·exact .inl x
  ·exact(h3 k x).imp (fun z=>(H.inl k z).1) id
theorem RStoIs.tell (H:RStoIs w b d F Fd D S wb pv Fl) (x:Bool) (hk:Keep (fun k=>k=b) w w') (hh:w'.heap[b]?=some (.cells (rstoCells (.pointer (some ⟨wb,0,none⟩)) pv x) 56 (0,0))):RStoIs w' b d F Fd D { S with dead:=x } wb pv Fl:=
 ⟨hh,H.row.keep hk (fun k e=>(H.own k e).2.2),H.log.keep hk (fun k y e=>(H.inl k y).2 e) (fun k y e=>by subst e;exact H.apart _ H.self y),H.own,H.inl,H.self,fun k y=>Nat.lt_of_lt_of_le (H.lt k y) hk.size,H.apart,H.ok⟩
theorem RStoIs.laid (H:RStoIs w b d F Fd D S wb pv Fl) {ps':List (Str×Str)} (hk:Keep (fun k=>k=b) w w') (hh:w'.heap[b]?=some (.cells (rstoCells (.pointer (some ⟨wb,0,none⟩)) pv' S.dead) 56 (0,0)))
  (hr:Row w' 49 2 pv' ps'.length (prsV ps')) (ho:∀ k,pv'.ownBlock=some k→w.heap.size≤k∨pv.ownBlock=some k) (ok:PsOk ps') :
  ∃ F',RStoIs w' b d F' Fd D { S with ps:=ps' } wb pv' Fl∧∀ k,F' k→F k∨w.heap.size≤k:=by
 have hlog:=H.log.ltz
 refine⟨fun k=>F k∨pv'.ownBlock=some k,⟨hh,hr,H.log.keep hk (fun k y e=>(H.inl k y).2 e) (fun k y e=>by subst e;exact H.apart _ H.self y),fun k e=>⟨.inr e,fun x=>?_,?_⟩,fun k x=>⟨.inl (H.inl k x).1,(H.inl k x).2⟩,.inl H.self,fun k y=>?_,fun k x y=>?_,ok⟩,fun k x=>?_⟩
 ·rcases ho k e with z | z
  ·have:=hlog k (.inl x);omega
  ·exact(H.own k z).2.1 x
 ·rintro rfl
  rcases ho _ e with z | z
  ·have:=H.lt _ H.self;omega
  ·exact(H.own _ z).2.2 rfl
 ·rcases y with y | y
  ·exact Nat.lt_of_lt_of_le (H.lt k y) hk.size
  ·exact hr.lt y
 ·rcases x with x | x
  ·exact H.apart k x y
  ·rcases ho k x with z | z
   ·have:=hlog k (.inr y);omega
   ·exact H.apart k (H.own k z).1 y
 ·rcases x with x | x
  ·exact .inl x
  ·rcases ho k x with z | z
   ·exact .inr z
   ·exact .inl (H.own k z).1
theorem RStoAt.keep (H:RStoAt w b d F Fd D S) (hk:Keep K w w') (h1:∀ k,F k→¬ K k) (h2:∀ k,Fd k→¬ K k):RStoAt w' b d F Fd D S:=
 let ⟨wb,pv,Fl,h⟩:=H;⟨wb,pv,Fl,h.keep hk h1 h2⟩
theorem RStoAt.later (H:RStoAt w b d F Fd D S) (hk:Keep (fun _=>False) w w'):RStoAt w' b d F Fd D S:=H.keep hk (fun _ _ x=>x) (fun _ _ x=>x)
theorem RStoAt.ltw (H:RStoAt w b d F Fd D S):∀ k,F k∨Fd k→k<w.heap.size:=let ⟨_,_,_,h⟩:=H;fun k x=>x.elim (h.lt k) fun y=>h.log.ltz k (.inr y)
theorem RStoAt.diskAt (H:RStoAt w b d F Fd D S):RefAt w d Fd D:=let ⟨_,_,_,h⟩:=H;h.log.disk_
theorem RStoAt.apart (H:RStoAt w b d F Fd D S):∀ k,F k→¬ Fd k:=let ⟨_,_,_,h⟩:=H;h.apart
theorem RStoAt.ok (H:RStoAt w b d F Fd D S):PsOk S.ps:=let ⟨_,_,_,h⟩:=H;h.ok
theorem RStoAt.to (H:RStoAt w b d F Fd D S):RStoTo b d F Fd w D S w:=⟨F,Fd,H,Keep.refl _ _,fun _ x=>.inl x,fun _ x=>.inl x⟩
theorem RStoTo.since (h:RStoTo b d F Fd w1 D' S' w') (hk:Keep (fun _=>False) w w1):RStoTo b d F Fd w D' S' w':=by
 obtain⟨F',Fd',h1,h2,h3,h4⟩:=h
 exact⟨F',Fd',h1,hk.next h2 (fun _ _ x=>x.elim) (fun _ _ x=>x),fun k x=>(h3 k x).imp id fun y=>Nat.le_trans hk.size y,fun k x=>(h4 k x).imp id fun y=>Nat.le_trans hk.size y⟩
theorem RStoTo.later (h:RStoTo b d F Fd w D' S' w1) (hk:Keep (fun _=>False) w1 w2):RStoTo b d F Fd w D' S' w2:=by
 obtain⟨F',Fd',h1,h2,h3,h4⟩:=h
 exact⟨F',Fd',h1.later hk,h2.next hk (fun _ _ x=>x) (fun _ _ x=>x.elim),h3,h4⟩
theorem RStoTo.next {D2:Dk} {S2:St} (h1:RStoTo b d F Fd w D' S' w1) (h:∀ F1 Fd1,RStoAt w1 b d F1 Fd1 D' S'→RStoTo b d F1 Fd1 w1 D2 S2 w2):RStoTo b d F Fd w D2 S2 w2:=by
 obtain⟨F1,Fd1,a1,hk,h1',h2'⟩:=h1
 obtain⟨F2,Fd2,b1,b2,b3,b4⟩:=h F1 Fd1 a1
 have s:=hk.size
 refine⟨F2,Fd2,b1,hk.next b2 (fun _ _ x=>x) (fun k hk' x=>?_),fun k x=>?_,fun k x=>?_⟩
 ·rcases x with x | x
  ·rcases h1' k x with y | y
   ·exact .inl y
   ·omega
  ·rcases h2' k x with y | y
   ·exact .inr y
   ·omega
 ·rcases b3 k x with y | y
  ·exact h1' k y
  ·right;omega
 ·rcases b4 k x with y | y
  ·exact h2' k y
  ·right;omega
theorem RStoIs.at (H:RStoIs w b d F Fd D S wb pv Fl):RStoAt w b d F Fd D S:=⟨wb,pv,Fl,H⟩
end
end Go.Proofs.YtnidpeeljoaelaaGreat
namespace Go.Proofs.YtnidpeeljoaelaaGreat
open Go.RowKit
open MI SO BM
theorem prs_at {w:World} {ao:Option Addr} {n c:Nat} {l:List (Str×Str)} (h:Row w 49 2 (.slice ao n c) n (prsV l)) (i:Nat) (hi:i<l.length) :
  ∃ g,ao=some ⟨g,0,none⟩∧w.cell? ⟨g,i * 2,none⟩=some (.string (str l[i].1))∧w.cell? ⟨g,i * 2+1,none⟩=some (.string (str l[i].2)):=by
 have h0:=prsV_get l i hi 0 (by decide)
 obtain⟨g,cap,hv,hc⟩:=h.getCell (show (prsV l)[i * 2+0]?=some (.string (str l[i].1)) by rw[h0];rfl)
 cases hv
 have h1:=prsV_get l i hi 1 (by decide)
 obtain⟨g',cap',hv',hc'⟩:=h.getCell (show (prsV l)[i * 2+1]?=some (.string (str l[i].2)) by rw[h1];rfl)
 cases hv'
 exact⟨g,rfl,hc,hc'⟩
set_option maxRecDepth 20000 in
theorem rsame_any (w:World) (ao bo:Option Addr) (n c k d:Nat) (l m:List (Str×Str)) (h1:Row w 49 2 (.slice ao n c) n (prsV l)) (h2:Row w 49 2 (.slice bo k d) k (prsV m)) (hn:n=l.length) (hk:k=m.length) :
  Calls Tryz.prog 18 #[.slice ao n c,.slice bo k d] w fun e w'=>e = .returned (.bool (decide (l=m)))∧Keep (fun _=>False) w w':=by
 have hn63:(n:Int)≤9223372036854775807:=by obtain⟨_,_,e,x1,x2,_⟩:=h1.form;cases e;unfold maxLen at x2;omega
 have hk63:(k:Int)≤9223372036854775807:=by obtain⟨_,_,e,x1,x2,_⟩:=h2.form;cases e;unfold maxLen at x2;omega
 obtain⟨E,hE⟩:∃ E,E=decide (l=m):=⟨_,rfl⟩
 rw[← hE]
 have HE:=hid hE
 have H:=hid (And.intro h1 (And.intro h2 (And.intro hn hk)))
 clear h1 h2 hE
 by_cases hlen:n=k
 ·subst hlen
  go_enter Tryz.func18,Tryz.ntmps18
  go_wp2_with (at_builtin;refine stopAt ?_;intro q hq)
  go_loopw [5] (fun iv wr=>∃ i:Nat,i≤n∧iv = .int .i64 i∧Hid (Keep (fun _=>False) w wr∧l.take i=m.take i)) (fun iv _=>n - (intOf iv).toNat)
  case atStart=>exact⟨0,Nat.zero_le _,rfl,hid ⟨Keep.refl _ _,rfl⟩⟩
  case round=>
   obtain⟨i,hi,rfl,HK⟩:=hrel
   by_cases hin:i<n
   ·have h4:(i:Int)<n:=by omega
    have hil:i<l.length:=by omega
    have him:i<m.length:=by omega
    obtain⟨g,rfl,a0,a1⟩:=prs_at (H.out.1.keep HK.out.1 (fun _ _ x=>x)) i hil
    obtain⟨g2,rfl,b0,b1⟩:=prs_at (H.out.2.1.keep HK.out.1 (fun _ _ x=>x)) i him
    have hgo:l[i]=m[i]→l.take (i+1)=m.take (i+1):=fun e=>by
     rw[List.take_add_one,List.take_add_one,List.getElem?_eq_getElem hil,List.getElem?_eq_getElem him,HK.out.2,e]
    have hno:l[i]≠m[i]→E=false:=fun e=>by
     rw[HE.out]
     simp only[decide_eq_false_iff_not]
     intro h
     subst h
     exact e rfl
    obtain⟨p,hp⟩:∃ p,p=l[i]:=⟨_,rfl⟩
    obtain⟨q,hq⟩:∃ q,q=m[i]:=⟨_,rfl⟩
    rw[← hp] at a0 a1 hgo hno
    rw[← hq] at b0 b1 hgo hno
    have HG:=hid (And.intro hgo hno)
    clear hp hq hgo hno
    obtain⟨p1,p2⟩:=p
    obtain⟨q1,q2⟩:=q
    simp only at a0 a1 b0 b1
    by_cases e1:p1=q1
    ·subst e1
     by_cases e2:p2=q2
     ·subst e2
      have HK2:=hid (HG.out.1 rfl)
      clear HG
      go_wp2_with (at_builtin;refine stopAt ?_;intro q hq)
      go_quiet (fail)
      go_wp2_with (at_builtin;refine stopAt ?_;intro q hq)
      go_roundw
      case rel=>exact⟨i+1,by omega,by go_num,hid ⟨HK.out.1.drewN _,HK2.out⟩⟩
      case measure=>simp[intOf];omega
     ·have t2:((str p2).toList == (str q2).toList)=false:=by rw[str_toList,str_toList];simpa using e2
      have hE:=HG.out.2 (fun h=>e2 (by cases h;rfl))
      have HE2:=hid hE
      clear HG hE e2
      go_wp2_with (at_builtin;refine stopAt ?_;intro q hq)
      go_quiet (fail)
      go_wp2_with (at_builtin;refine stopAt ?_;intro q hq)
      go_ret
      exact⟨by rw[HE2.out];rfl,HK.out.1.drewN _⟩
    ·have t1:((str p1).toList == (str q1).toList)=false:=by rw[str_toList,str_toList];simpa using e1
     have hE:=HG.out.2 (fun h=>e1 (by cases h;rfl))
     have HE2:=hid hE
     clear HG hE e1
     go_wp2_with (at_builtin;refine stopAt ?_;intro q hq)
     go_quiet (fail)
     go_wp2_with (at_builtin;refine stopAt ?_;intro q hq)
     go_ret
     exact⟨by rw[HE2.out];rfl,HK.out.1.drewN _⟩
   ·have h4:decide ((i:Int)<n)=false:=by simp;omega
    go_wp2_with (at_builtin;refine stopAt ?_;intro q hq)
    go_ret
    have e:l=m:=by
     have h:=HK.out.2
     rw[List.take_of_length_le (by omega),List.take_of_length_le (by omega)] at h
     exact h
    exact⟨by rw[HE.out,e];simp,HK.out.1⟩
 ·have t:((n:Int) == (k:Int))=false:=by simp;omega
  have t2:((n:Int) != (k:Int))=true:=by simp;omega
  go_enter Tryz.func18,Tryz.ntmps18
  go_wp2_with (at_builtin;refine stopAt ?_;intro q hq)
  go_ret
  have e:l≠m:=fun h=>hlen (by rw[hn,hk,h])
  exact⟨by rw[HE.out];simp[e],Keep.refl _ _⟩
end Go.Proofs.YtnidpeeljoaelaaGreat
