/- Texts StoO, StoP, StoT, StoU, StoS, StoV, StoW, StoX, StoY, StpJ, StqD, StqA, StpK, StoZ, StpA, StpB, StpC, StpD, StpE, StpF, StpG, StpH, StpI, StpM, AccO in one. Conditions: as each law names them. -/
import Derived.RangeFuncNested
import Derived.RangeFuncBound
import Derived.RangeFuncCalls
import Derived.RangeFuncLeaves
import Derived.Shelf.Abstract
import Derived.Shelf.RegionOpen
import Derived.WalkKit
import Derived.OwnWalkIn
import Derived.TacticsInMore
import Derived.LoopNIn
import Derived.LoopIn
import Derived.Deep.CutBlock
import Derived.Deep.DeepCutAuto
import Derived.BigQuiet
import Derived.Test.YtkjofdocgaiedaaPab
import Derived.Test.YtkjofdocgaiedaaPaj
import Derived.Test.YtkjofdocgaiedaaPaq
import Derived.Test.YtkjofdocgaiedaaPar
import Derived.Test.YtkjofdocgaiedaaPat
import Derived.Test.YtkjofdocgaiedaaPav
import Derived.Test.YtkjofdocgaiedaaPax
import Derived.Test.YtkjofdocgaiedaaPay
import Derived.Test.YtkjofdocgaiedaaPaz
namespace Go.Proofs.Ytkjofdocgaiedaa
open Go.RowKit Go.Maps Go.Shelf Go.Sort
open MI SO
attribute [local go_sem] Oper.semAt_some
structure SeqAt (w:World) (K:Nat→Prop) (gk gm mb:Nat) (kv:Value) (ks:List Str) (m:List (Str×Str)):Prop where
 ck:w.cell? ⟨gk,0,none⟩=some kv
 cm:w.cell? ⟨gm,0,none⟩=some (.map (some mb))
 row:Row w 9 1 kv ks.length (strsV ks)
 map:PairsAt w mb m
 own:∀ k,kv.ownBlock=some k→¬ K k
 lk:¬ K gk
 lm:¬ K gm
 lb:¬ K mb
 key:∀ x ∈ ks,x.length≤maxLen
theorem SeqAt.keep {w w':World} {K:Nat→Prop} {gk gm mb:Nat} {kv:Value} {ks:List Str} {m:List (Str×Str)} (h:SeqAt w K gk gm mb kv ks m) (hb:Keep K w w'):SeqAt w' K gk gm mb kv ks m:=
 ⟨by rw[World.cell?_of_block (hb.block _ (World.block_lt_of_cell? w _ h.ck) h.lk)];exact h.ck,by rw[World.cell?_of_block (hb.block _ (World.block_lt_of_cell? w _ h.cm) h.lm)];exact h.cm,h.row.keep hb (fun k e=>h.own k e),MapAt.keep h.map hb h.lb,h.own,h.lk,h.lm,h.lb,h.key⟩
theorem SeqAt.mono {w:World} {K K':Nat→Prop} {gk gm mb:Nat} {kv:Value} {ks:List Str} {m:List (Str×Str)} (h:SeqAt w K gk gm mb kv ks m) (hK:∀ k,K' k→K k):SeqAt w K' gk gm mb kv ks m:=
 ⟨h.ck,h.cm,h.row,h.map,fun k e x=>h.own k e (hK k x),fun x=>h.lk (hK _ x),fun x=>h.lm (hK _ x),fun x=>h.lb (hK _ x),h.key⟩
def pairsOf (ks:List Str) (m:List (Str×Str)):List (Str×Str):=ks.map fun x=>(x,(AL.get m x).getD [])
abbrev InP (ps:List (Str×Str)):Type:={ p:Str×Str // p ∈ ps }
def encP {ps:List (Str×Str)} (x:InP ps):Array Value:=#[.string (str x.1.1),.string (str x.1.2)]
set_option maxRecDepth 20000 in
set_option maxHeartbeats 1000000 in
theorem all2_in (n:Nat) (hn:1≤n) (l gk gm mb:Nat) (K:Nat→Prop) (kv:Value) (ks:List Str) (m:List (Str×Str)) (hlen:ks.length≤1000000) (J Jx:List (InP (pairsOf ks m))→World→Prop)
  (hY:∀ pre x W,J pre W→pre.length<(pairsOf ks m).length→YieldAt Fence.wide (n - 1) Try.prog l #[.string (str x.1.1),.string (str x.1.2)] W fun e W'=>
   (e = .returned (.bool true)∧J (pre ++ [x]) W'∧Keep K W W')∨(e = .returned (.bool false)∧Jx (pre ++ [x]) W'))
  (W:World) (hS:SeqAt W K gk gm mb kv ks m) (h0:J [] W) :
  CallsIn Fence.wide n Try.prog 43 #[.func (.yield l) #[] #[],.pointer (some ⟨gk,0,none⟩),.pointer (some ⟨gm,0,none⟩)] W fun e W'=>(∃ v,e = .returned v)∧
   ((∃ ys,ys=(pairsOf ks m).attach∧J ys W')∨(∃ pre,pre <+: (pairsOf ks m).attach∧Jx pre W')):=by
 refine callsIn_of_wp Try.func43 rfl trivial ?_ rfl
 simp only[Try.ntmps43,List.size_toArray,List.length_cons,List.length_nil,Nat.reduceAdd,Nat.reduceSub,Array.replicate_succ,Array.replicate_zero,List.push_toArray,List.append_toArray,List.nil_append,List.cons_append]
 have hck:=hS.ck
 obtain⟨ko,kc,rfl,-⟩:=hS.row.form
 obtain⟨N,hN⟩:∃ N,N=ks.length:=⟨_,rfl⟩
 have HN:=hid hN
 have HS:=hid hS
 rw[← hN] at hck HS hlen
 clear hN hS
 gi_wp2
 clear hck
 gi_loopw [8] (fun iv wr=>∃ i:Nat,i≤N∧iv = .int .i64 i∧Hid (SeqAt wr K gk gm mb (.slice ko N kc) ks m∧J ((pairsOf ks m).attach.take i) wr)) (fun iv _=>N - (intOf iv).toNat)
 case atStart=>exact⟨0,Nat.zero_le _,rfl,hid ⟨HS.out,h0⟩⟩
 case round=>
  obtain⟨i,hi,rfl,HT⟩:=hrel
  by_cases hin:i<N
  ·have h4:(i:Int)<N:=by omega
   have hil:i<ks.length:=by rw[← HN.out];exact hin
   have hpl:(pairsOf ks m).length=ks.length:=by simp[pairsOf]
   have hal:i<(pairsOf ks m).attach.length:=by rw[List.length_attach,hpl];exact hil
   obtain⟨xa,hxa⟩:∃ xa,xa=(pairsOf ks m).attach[i]:=⟨_,rfl⟩
   have hsu:(pairsOf ks m).attach.take (i+1)=(pairsOf ks m).attach.take i ++ [xa]:=by
    rw[List.take_add_one,List.getElem?_eq_getElem hal,Option.toList_some,hxa]
   have hx1:xa.1=(ks[i],(AL.get m ks[i]).getD []):=by
    rw[hxa,List.getElem_attach]
    simp[pairsOf]
   have hpre:(pairsOf ks m).attach.take (i+1) <+: (pairsOf ks m).attach:=List.take_prefix _ _
   obtain⟨g,cap,hv,hc⟩:=HT.out.1.row.getCell (j:=i) (u:=.string (str ks[i])) (by simp[strsV,encStr,str,hil])
   cases hv
   have hcm:=HT.out.1.cm
   have hlk:=MapAt.look1 HT.out.1.map key_str (t:=83) (z:=.agg #[.string { data:=#[] }]) Try.underlying83 (by kernel_rfl) ks[i] (HT.out.1.key _ (List.getElem_mem hil))
   rw[show ((AL.get m ks[i]).map textV).getD (.agg #[.string { data:=#[] }]) = .agg #[.string (str ((AL.get m ks[i]).getD []))] by cases AL.get m ks[i] <;> rfl] at hlk
   obtain⟨fn,tmps,assign,body,hy,hR⟩:=hY ((pairsOf ks m).attach.take i) xa wr HT.out.2 (by rw[List.length_take,List.length_attach];omega)
   rw[← hsu] at hR
   rw[hx1] at hy
   obtain⟨x,hx⟩:∃ x,x=ks[i]:=⟨_,rfl⟩
   obtain⟨y,hyy⟩:∃ y,y=(AL.get m ks[i]).getD []:=⟨_,rfl⟩
   simp only[← hyy] at hlk hy hR
   simp only[← hx] at hc hlk hy hR
   have HP:=hid hpre
   clear hx hyy hsu hpre hx1 hxa hal
   have hfld:∀ w:World,(Instr.field 96 (.agg #[.string (str y)]) 0).run Try.prog w = .ok (.string (str y)) w:=fun _=>rfl
   gi_wp2
   refine hR.mono ?_
   rintro e W3 (⟨rfl,hJ3,hk3⟩ | ⟨rfl,hJx3⟩)
   ·have H3:=hid (And.intro (HT.out.1.keep hk3) hJ3)
    clear hR hy hlk hc hcm hJ3 hk3 hfld
    gi_wp2
    go_roundw
    case rel=>exact⟨i+1,by omega,by go_num,H3⟩
    case measure=>simp[intOf];omega
   ·clear hR hy hlk hc hcm hfld
    gi_wp2
    refine bodyPost_ret (results_none rfl _ _ _) rfl ?_
    exact⟨⟨_,rfl⟩,.inr ⟨_,HP.out,hJx3⟩⟩
  ·have h4:decide ((i:Int)<N)=false:=by simp;omega
   gi_wp2
   go_end0
   exact⟨⟨_,rfl⟩,.inl ⟨_,List.take_of_length_le (by rw[List.length_attach];have:=HN.out;simp[pairsOf];omega),HT.out.2⟩⟩
set_option maxRecDepth 20000 in
theorem all2_stops (n:Nat) (hn:1≤n) (gk gm mb:Nat) (K:Nat→Prop) (kv:Value) (ks:List Str) (m:List (Str×Str)) (hlen:ks.length≤1000000) (w:World) (hS:SeqAt w K gk gm mb kv ks m) (hK:∀ k,w.heap.size≤k→K k) :
  SeqStopsK Fence.wide n Try.prog 43 #[.pointer (some ⟨gk,0,none⟩),.pointer (some ⟨gm,0,none⟩)] (encP (ps:=pairsOf ks m)) (Keep K) (fun xs=>xs=(pairsOf ks m).attach) (fun pre=>pre <+: (pairsOf ks m).attach) (pairsOf ks m).length w:=
 fun l J Jx W hW _ _ hY h0=>all2_in n hn l gk gm mb K kv ks m hlen J Jx hY W (hS.keep ⟨hW.os,hW.tape,hW.output,hW.size,fun k _ hn=>hW.block k (Nat.lt_of_not_le fun x=>hn (hK k x))⟩) h0
theorem keep_putObj {K:Nat→Prop} (W:World) (l:Nat) (o:Obj) (hl:K l):Keep K W (W.putObj l o):=by
 have:=grownBy_putObj' W l o
 exact⟨this.os,this.tape,this.output,this.size,fun k hk hn=>this.block k hk (fun e=>by cases e;exact hn hl)⟩
end Go.Proofs.Ytkjofdocgaiedaa
namespace Go.Proofs.Ytkjofdocgaiedaa
open Go.RowKit Go.Maps
open MI SO
set_option maxRecDepth 20000 in
theorem sready_any (w:World) (b mb:Nat) (wp:Value) (dead:Bool) (hh:w.heap[b]?=some (.cells (stoCells wp mb dead) 85 (0,0))) :
  Calls Try.prog 30 #[.pointer (some ⟨b,0,none⟩)] w fun e w'=>e = .returned (.int .i64 (if dead then 6 else 0))∧w'=w:=by
 obtain⟨i0,i1,i2,jf,jb⟩:=cells3i hh
 clear hh
 go_enter Try.func30,Try.ntmps30
 cases dead with
 | true=>
   go_wp2_with (at_builtin;refine stopAt ?_;intro q hq)
   go_ret
   exact⟨rfl,rfl⟩
 | false=>
   go_wp2_with (at_builtin;refine stopAt ?_;intro q hq)
   go_ret
   exact⟨rfl,rfl⟩
def AllPost (w:World) (m:List (Str×Str)) (e:Ending) (w':World):Prop:=
 ∃ gk gm mb' kv ks,e = .returned (.func (.func 43) #[] #[.pointer (some ⟨gk,0,none⟩),.pointer (some ⟨gm,0,none⟩)])∧SeqAt w' (fun k=>k<w.heap.size∨w'.heap.size≤k) gk gm mb' kv ks m∧
  (ks.Pairwise fun a b=>a<b)∧(∀ x,x ∈ ks↔(AL.get m x).isSome=true)∧ks.length=m.length∧Keep (fun _=>False) w w'∧w.heap.size≤gk∧w.heap.size≤gm∧w.heap.size≤mb'∧∀ k,kv.ownBlock=some k→w.heap.size≤k
set_option maxRecDepth 20000 in
theorem all_any (w:World) (b mb:Nat) (wp:Value) (m:List (Str×Str)) (hh:w.heap[b]?=some (.cells (stoCells wp mb false) 85 (0,0))) (hp:PairsAt w mb m) (hm:m.length≤1000000) (hk:∀ p ∈ m,p.1.length≤maxLen) :
  Calls Try.prog 25 #[.pointer (some ⟨b,0,none⟩)] w (AllPost w m):=by
 have hr:=sready_any w b mb wp false hh
 obtain⟨i0,i1,i2,jf,jb⟩:=cells3i hh
 have H:=hid (And.intro hp hk)
 clear hh hp hk
 go_enter Try.func25,Try.ntmps25
 go_wp2_with (at_builtin;refine stopAt ?_;intro q hq)
 refine hr.mono ?_
 rintro e w1 ⟨rfl,rfl⟩
 clear hr
 simp only[Bool.false_eq_true,if_false]
 go_wp2_with (at_builtin;refine stopAt ?_;intro q hq)
 refine(mclone_any w1 mb m H.out.1).mono ?_
 rintro e w2 ⟨rfl,hp2,hk2⟩
 have H2:=hid (And.intro hp2 hk2)
 clear hp2 hk2 i0 i1 i2 jf jb
 go_wp2_with (at_builtin;refine stopAt ?_;intro q hq)
 obtain⟨b2,hb2⟩:∃ b2,b2=w1.heap.size:=⟨_,rfl⟩
 have hgm:=heap_alloc_new w2 (.cells #[.map (some b2)] 83)
 have hk3:Keep (fun _=>False) w2 (w2.alloc (.cells #[.map (some b2)] 83)):=(Keep.refl _ _).alloc _
 rw[← hb2] at H2 ⊢
 obtain⟨gm,hgme⟩:∃ gm,gm=w2.heap.size:=⟨_,rfl⟩
 obtain⟨w3,hw3⟩:∃ w3,w3=w2.alloc (.cells #[.map (some b2)] 83):=⟨_,rfl⟩
 rw[← hw3] at hgm hk3 ⊢
 rw[← hgme] at hgm ⊢
 have hcm:w3.cell? ⟨gm,0,none⟩=some (.map (some b2)):=by simp[World.cell?,hgm]
 have H3:=hid (And.intro hgm (And.intro hk3 (And.intro hgme (And.intro hb2 (MapAt.keep H2.out.1 hk3 (fun x=>x))))))
 clear hgm hk3 hgme hw3 hb2
 refine(keys_any (some b2) w3).mono ?_
 rintro e w4 ⟨rfl,hw4⟩
 have hgB:w4.heap[w3.heap.size]?=some (.cells #[.map (some b2)] 83 (0,0)):=by rw[hw4];exact heap_alloc_new w3 _
 have hk4:Keep (fun _=>False) w3 w4:=by rw[hw4];exact(Keep.refl _ _).alloc _
 obtain⟨Bm,hBm⟩:∃ Bm,Bm=w3.heap.size:=⟨_,rfl⟩
 rw[← hBm] at hgB ⊢
 have hs:=skeys_any w4 b2 Bm m (MapAt.keep H3.out.2.2.2.2 hk4 (fun x=>x)) (by simp[World.cell?,hgB]) hm
 have H4:=hid hk4
 clear hw4 hgB hk4 hBm hcm
 go_wp2_with (at_builtin;refine stopAt ?_;intro q hq)
 refine hs.mono ?_
 rintro e w5 ⟨kv,ks,rfl,hrow,hsort,hmem,hlen,hk5,hown⟩
 clear hs
 obtain⟨ko,kc,rfl,-⟩:=hrow.form
 have H5:=hid (And.intro hrow (And.intro hsort (And.intro hmem (And.intro hlen (And.intro hk5 hown)))))
 clear hrow hsort hmem hlen hk5 hown
 go_wp2_with (at_builtin;refine stopAt ?_;intro q hq)
 have hk6:Keep (fun _=>False) w5 (w5.alloc (.cells #[.slice ko ks.length kc] 97)):=(Keep.refl _ _).alloc _
 have hgk:=heap_alloc_new w5 (.cells #[.slice ko ks.length kc] 97)
 go_ret
 obtain⟨hrow,hsort,hmem,hlen,hk5,hown⟩:=H5.out
 obtain⟨hgm,hk3,hgme,hb2,hmap⟩:=H3.out
 have s2:=H2.out.2.size
 have s3:=hk3.size
 have s4:=H4.out.size
 have s5:=hk5.size
 have s6:=hk6.size
 have l3:=heap_lt hgm
 have sn:(w5.alloc (.cells #[.slice ko ks.length kc] 97)).heap.size=w5.heap.size+1:=by simp
 have hl:b2<gm:=by rw[hgme];exact MapAt.lt H2.out.1
 have hc6:(w5.alloc (.cells #[.slice ko ks.length kc] 97)).cell? ⟨w5.heap.size,0,none⟩=some (.slice ko ks.length kc):=by unfold World.cell?;rw[hgk];rfl
 have k46:Keep (fun _=>False) w3 (w5.alloc (.cells #[.slice ko ks.length kc] 97)):=(H4.out.next hk5 (H:=fun _=>False) (fun _ _ x=>x) (fun _ _ x=>x)).next hk6 (fun _ _ x=>x) (fun _ _ x=>x)
 have hnk:∀ k,w1.heap.size≤k→k<w5.heap.size+1→¬ (k<w1.heap.size∨w5.heap.size+1≤k):=fun k h1 h2=>by omega
 refine⟨w5.heap.size,gm,b2,.slice ko ks.length kc,ks,rfl,?_,hsort,hmem,hlen,((H2.out.2.next hk3 (H:=fun _=>False) (fun _ _ x=>x) (fun _ _ x=>x))).next k46 (fun _ _ x=>x) (fun _ _ x=>x),by omega,by omega,by omega,fun k e=>by have:=hown k e;omega⟩
 rw[sn]
 refine⟨hc6,?_,hrow.keep hk6 (fun _ _ x=>x),MapAt.keep hmap k46 (fun x=>x),fun k e=>hnk k (by have:=hown k e;omega) (by have:=hrow.lt e;omega),hnk _ (by omega) (by omega),hnk _ (by omega) (by omega),hnk _ (by omega) (by omega),fun x hx=>?_⟩
 ·have:=k46.get hgm id
  simp[World.cell?,this]
 ·have:=(hmem x).1 hx
  cases hg:AL.get m x with
  | none=>rw[hg] at this;cases this
  | some y=>exact H.out.2 _ (mem_of_get hg)
end Go.Proofs.Ytkjofdocgaiedaa
namespace Go.Proofs.Ytkjofdocgaiedaa
open Go.RowKit Go.Maps Go.Shelf
open MI SO BM DM WM
attribute [local go_sem] Oper.semAt_some
theorem Row.turn {w w':World} {e:TypeId} {size:Nat} {v:Value} {n:Nat} {xs:List Value} {r:Option Nat} (h:Row w e size v n xs) (hk:Keep (fun k=>r=Option.some k) w w') (hr:∀ k,r=Option.some k→∃ o:Obj,w.heap[k]?=Option.some o∧o.isCells=false):Row w' e size v n xs:=
 h.keep hk fun k hk2 x=>by
  obtain⟨o,h1,h2⟩:=hr k x
  obtain⟨-,⟨rfl,-⟩ | ⟨g,cap,cur,fz,rfl,hg,-⟩⟩:=h
  ·simp[Value.ownBlock] at hk2
  ·simp[Value.ownBlock] at hk2
   subst hk2
   rw[hg] at h1
   cases h1
   cases h2
theorem Recs.turn {w w':World} {F A:Nat→Prop} {v:Value} {L:List (List UInt8)} {vs:List Value} {r:Option Nat} (h:Recs w F A v L vs) (hk:Keep (fun k=>r=some k) w w') (hr:∀ k,r=some k→∃ o:Obj,w.heap[k]?=some o∧o.isCells=false):Recs w' F A v L vs:=
 ⟨h.row.turn hk hr,h.own,fun j hj=>let ⟨u,h1,h2,h3⟩:=h.each j hj;⟨u,h1,h2.turn hk hr,h3⟩⟩
theorem box_turn {w w':World} {b:Nat} {cs:Array Value} {t:TypeId} {fz:Nat×Nat} {r:Option Nat} (h:w.heap[b]?=some (.cells cs t fz)) (hk:Keep (fun k=>r=some k) w w') (hr:∀ k,r=some k→∃ o:Obj,w.heap[k]?=some o∧o.isCells=false):w'.heap[b]?=some (.cells cs t fz):=
 hk.get h fun x=>by
  obtain⟨o,h1,h2⟩:=hr b x
  rw[h] at h1
  cases h1
  cases h2
theorem ownFrom_of {β:Type} {B:Nat} {I:β→World→Prop} (h:∀ s W W' r,I s W→Keep (fun k=>r=some k) W W'→(∀ k,r=some k→B≤k)→(∀ k,r=some k→∃ o:Obj,W.heap[k]?=some o∧o.isCells=false)→I s W'):OwnFrom B I:=
 fun s W W' row hs hg hr=>h s W W' row hs ⟨hg.os,hg.tape,hg.output,hg.size,fun k hk hn=>hg.block k hk (fun e=>hn e.symm)⟩ (fun k e=>(hr k e).1) (fun k e=>(hr k e).2)
theorem others_of {K:Nat→Prop} {W W':World} (hk:Keep K W W') (h:∀ k,K k→∃ cs t fz,W.heap[k]?=some (.cells cs t fz)):KeepsOthers W W':=
 ⟨hk.size,fun k o ho hc=>hk.get ho fun x=>by
  obtain⟨cs,t,fz,h1⟩:=h k x
  rw[h1] at ho
  cases ho
  cases hc⟩
theorem Keep.tr {K:Nat→Prop} {A B C:World} (h:Keep K A B) (k:Keep K B C):Keep K A C:=h.next k (fun _ _ x=>x) (fun _ _ x=>x)
theorem wpListIn_append_eq {F:Fence} {n:Nat} {P:Program} {w w':World} {ops:Array Oper} {rest:List Oper} {o:Oper} {a:Act} {Q:Exit→Act→World→Prop} {t:TypeId} {v1 v2 v':Value}
  (hg:o.guard=none) (s x:Operand) (hop:o.op=Op.call { callee:=Callee.builtin Builtin.append,args:=#[s,x],argTypes:=#[t,t] }) (h1:a.eval s=v1) (h2:a.eval x=v2)
  (hr:(Builtin.append_ #[t,t] o.type #[v1,v2]).run P w = .ok v' w') (hK:wpListIn F n P ops Q rest (a.put o.dst v') w'):wpListIn F n P ops Q (o :: rest) a w:=by
 refine wpListIn_plain hg fun K hK'=>?_
 unfold Oper.wpIn
 refine⟨?_,?_⟩
 ·simp[Oper.about,hop,resolve,Target.leads,Sem.run_pure]
 ·rw[Oper.semAt_plain F _ _ (by rw[hop];intro c hc';cases hc')]
  simp[execOp,hop,resolve,invoke,builtin,h1,h2,hr,Result.andThen]
  exact hK' _ _ hK
structure SeqOf (w:World) (K:Nat→Prop) (v:Value) (ps:List (Str×Str)):Prop where
 big:∀ k,w.heap.size≤k→K k
 is:∃ f caps,v = .func (.func f) #[] caps∧(∀ args w,(callFunc f args).run Try.prog w = .ok (.enter f args) w)∧
  ∀ n w1,1≤n→Keep K w w1→SeqStopsK Fence.wide n Try.prog f caps (encP (ps:=ps)) (Keep K) (fun xs=>xs=ps.attach) (fun pre=>pre <+: ps.attach) ps.length w1
theorem SeqOf.later {w w':World} {K:Nat→Prop} {v:Value} {ps:List (Str×Str)} (h:SeqOf w K v ps) (hk:Keep K w w'):SeqOf w' K v ps:=by
 obtain⟨hb,f,caps,e,he,hs⟩:=h
 exact⟨fun k x=>hb k (Nat.le_trans hk.size x),f,caps,e,he,fun n w1 hn h1=>hs n w1 hn (hk.tr h1)⟩
theorem SeqOf.of_all {w w':World} {m ps:List (Str×Str)} {e:Ending} (h:AllPost w m e w') (hm:AL.Ok m) (hps:Sorted ps) (hg:∀ x,AL.get m x=AL.get ps x) (hlen:m.length≤1000000) :
  ∃ v,e = .returned v∧SeqOf w' (fun k=>k<w.heap.size∨w'.heap.size≤k) v ps∧Keep (fun _=>False) w w':=by
 obtain⟨gk,gm,mb',kv,ks,rfl,hs,h1,h2,h3,h4,-⟩:=h
 have hp:pairsOf ks m=ps:=sorted_pairs hm hps hg h1 h2
 refine⟨_,rfl,⟨fun k x=>.inr x,_,_,rfl,enters_of Try.func43 (by kernel_rfl) rfl,fun n w1 hn hk=>?_⟩,h4⟩
 have:=all2_stops n hn gk gm mb' _ kv ks m (by omega) w1 (hs.keep hk) (fun k x=>.inr (Nat.le_trans hk.size x))
 rw[hp] at this
 exact this
set_option maxRecDepth 20000 in
theorem all1_in (n l:Nat) (W:World):CallsIn Fence.wide n Try.prog 39 #[.func (.yield l) #[] #[]] W fun e W'=>(∃ v,e = .returned v)∧W'=W:=by
 refine callsIn_of_wp Try.func39 rfl trivial ?_ rfl
 simp only[Try.ntmps39,List.size_toArray,List.length_cons,List.length_nil,Nat.reduceAdd,Nat.reduceSub,Array.replicate_succ,Array.replicate_zero,List.push_toArray,List.append_toArray,List.nil_append,List.cons_append]
 gi_wp2
 go_end0
 exact⟨⟨_,rfl⟩,rfl⟩
theorem SeqOf.none (w:World) (K:Nat→Prop) (hK:∀ k,w.heap.size≤k→K k):SeqOf w K (.func (.func 39) #[] #[]) []:=
 ⟨hK,_,_,rfl,enters_of Try.func39 (by kernel_rfl) rfl,fun n w1 _ _ l J Jx W _ _ _ _ h0=>(all1_in n l W).mono fun e W' ⟨h1,h2⟩=>⟨h1,.inl ⟨[],rfl,by rw[h2];exact h0⟩⟩⟩
set_option maxRecDepth 20000 in
theorem all_dead (w:World) (b mb:Nat) (wp:Value) (hh:w.heap[b]?=some (.cells (stoCells wp mb true) 85 (0,0))):Calls Try.prog 25 #[.pointer (some ⟨b,0,none⟩)] w fun e w'=>e = .returned (.func (.func 39) #[] #[])∧w'=w:=by
 have hr:=sready_any w b mb wp true hh
 simp only[if_true] at hr
 go_enter Try.func25,Try.ntmps25
 go_wp2_with (at_builtin;refine stopAt ?_;intro q hq)
 refine hr.mono ?_
 rintro e w1 ⟨rfl,rfl⟩
 clear hr
 go_wp2_with (at_builtin;refine stopAt ?_;intro q hq)
 go_ret
 exact⟨rfl,rfl⟩
def told (S:St):List (Str×Str):=if S.dead then [] else S.ps
set_option maxRecDepth 20000 in
theorem sall_any (w:World) (b d:Nat) (F Fd:Nat→Prop) (D:Dk) (S:St) (H:StoAt w b d F Fd D S) (hm:S.dead=false→S.ps.length≤1000000) :
  Calls Try.prog 25 #[.pointer (some ⟨b,0,none⟩)] w fun e w'=>∃ v,e = .returned v∧SeqOf w' (fun k=>k<w.heap.size∨w'.heap.size≤k) v (told S)∧Keep (fun _=>False) w w':=by
 obtain⟨wb,mb,m,Fl,H⟩:=H
 unfold told
 have hh:=H.head
 cases hd:S.dead with
 | true=>
   rw[hd] at hh
   refine(all_dead w b mb _ hh).mono ?_
   rintro e w' ⟨rfl,rfl⟩
   exact⟨_,rfl,SeqOf.none _ _ (fun k x=>.inr x),Keep.refl _ _⟩
 | false=>
   rw[hd] at hh
   have hl:m.length≤1000000:=by rw[H.len];exact hm hd
   refine(all_any w b mb _ m hh H.map hl (fun p hp=>?_)).mono ?_
   ·have hg:=get_of_mem H.map.1 hp
    rw[H.get] at hg
    have:=(H.ok.each _ (mem_of_get hg)).2.1
    unfold maxLen
    simp only at this
    omega
   ·intro e w' h
    exact SeqOf.of_all h H.map.1 H.ok.sorted H.get hl
end Go.Proofs.Ytkjofdocgaiedaa
namespace Go.Proofs.Ytkjofdocgaiedaa
open Go.RowKit Go.Maps Go.Shelf
open MI SO BM DM WM
attribute [local go_sem] Oper.semAt_some
end Go.Proofs.Ytkjofdocgaiedaa
namespace Go.Proofs.Ytkjofdocgaiedaa
open Go.RowKit Go.Maps
open MI SO BM DM WM
theorem StoIs.both {w w1:World} {b d wb mb:Nat} {F Fd Fl:Nat→Prop} {D D':Dk} {S:St} {m:List (Str×Str)} {G':Lg} (H:StoIs w b d F Fd D S wb mb m Fl) (ht:LogTo wb d Fl Fd w D' G' w1) :
  w1.heap[b]?=some (.cells (stoCells (.pointer (some ⟨wb,0,none⟩)) mb S.dead) 85 (0,0))∧∀ w2 x,Keep (fun k=>k=b) w1 w2→w2.heap[b]?=some (.cells (stoCells (.pointer (some ⟨wb,0,none⟩)) mb x) 85 (0,0))→StoTo b d F Fd w D' ⟨G',S.ps,x⟩ w2:=by
 obtain⟨Fl',F',Fd',h1,h2,h3,h4⟩:=H.logTo ht
 refine⟨h1.head,fun w2 x hk hh=>⟨F',Fd',(h1.tell x hk hh).at,h2.next hk (fun _ _ y=>y) (fun k hk y=>by subst y;exact .inl H.self),h3,h4⟩⟩
set_option maxRecDepth 20000 in
theorem told_any (w:World) (b:Nat) (wp:Value) (mb:Nat) (dead:Bool) (hh:w.heap[b]?=some (.cells (stoCells wp mb dead) 85 (0,0))) (e:Int) :
  Calls Try.prog 32 #[.pointer (some ⟨b,0,none⟩),.int .i64 e] w fun x w'=>x = .returned (.int .i64 e)∧w'.heap[b]?=some (.cells (stoCells wp mb (dead || decide (e=6))) 85 (0,0))∧Keep (fun k=>k=b) w w':=by
 have hk:=fun x=>(show Keep (fun k=>k=b) w (w.setCell ⟨b,2,none⟩ (.bool x)) by refine Keep.setCell (Keep.refl _ _) (.inl ?_) _;rfl)
 have hs:=fun x=>heap_setCell6 hh 2 (.bool x)
 have HZ:=hid (And.intro hk hs)
 obtain⟨i0,i1,i2,jf,jb⟩:=cells3i hh
 clear hk hs hh
 cases dead with
 | true=>
   go_enter Try.func32,Try.ntmps32
   go_wp2_with (at_builtin;refine stopAt ?_;intro q hq)
   go_ret
   exact⟨rfl,by rw[HZ.out.2];rfl,HZ.out.1 _⟩
 | false=>
   by_cases he:e=6
   ·subst he
    go_enter Try.func32,Try.ntmps32
    go_wp2_with (at_builtin;refine stopAt ?_;intro q hq)
    go_ret
    exact⟨rfl,by rw[HZ.out.2];rfl,HZ.out.1 _⟩
   ·have u1:(e == 6)=false:=by simp[he]
    have u2:decide (e=6)=false:=by simp[he]
    have HE:=hid he
    clear he
    go_enter Try.func32,Try.ntmps32
    go_wp2_with (at_builtin;refine stopAt ?_;intro q hq)
    go_ret
    have:=HE.out
    exact⟨rfl,by rw[HZ.out.2];simp[this];rfl,HZ.out.1 _⟩
set_option maxRecDepth 20000 in
theorem ssync_any (w:World) (b d:Nat) (F Fd:Nat→Prop) (D:Dk) (S:St) (H:StoAt w b d F Fd D S) (hfew:D.waits.length≤900000) :
  Calls Try.prog 28 #[.pointer (some ⟨b,0,none⟩)] w fun e w'=>e = .returned (.int .i64 (syS D S).1)∧StoTo b d F Fd w (syS D S).2.1 (syS D S).2.2 w':=by
 obtain⟨R,hR⟩:∃ R,R=syS D S:=⟨_,rfl⟩
 rw[← hR]
 obtain⟨wb,mb,m,Fl,H⟩:=H
 have hr:=sready_any w b mb _ S.dead H.head
 obtain⟨i0,i1,i2,jf,jb⟩:=cells3i (show w.heap[b]?=some (.cells #[_,_,_] _ (0,0)) from H.head)
 have HS:=hid (And.intro H hR)
 have hw:=wsync_any w wb d Fl Fd D S.g H.log hfew
 obtain⟨Y,hY⟩:∃ Y,Y=WM.syncW D S.g:=⟨_,rfl⟩
 rw[← hY] at hw
 have HY:=hid hY
 clear hR hY H
 go_enter Try.func28,Try.ntmps28
 go_wp2_with (at_builtin;refine stopAt ?_;intro q hq)
 refine hr.mono ?_
 rintro e w1 ⟨rfl,rfl⟩
 clear hr
 cases hdd:S.dead with
 | true=>
   have HZ:=hid (show R=(6,D,S) by rw[HS.out.2];unfold syS;rw[if_pos hdd])
   clear hdd
   simp only[if_true]
   go_wp2_with (at_builtin;refine stopAt ?_;intro q hq)
   go_ret
   rw[HZ.out]
   exact⟨rfl,HS.out.1.at.to⟩
 | false=>
   have HZ:=hid (show R=(Y.1,Y.2.1,⟨Y.2.2,S.ps,decide (Y.1=6)⟩) by rw[HS.out.2,HY.out];unfold syS;rw[hdd];rfl)
   have HD:=hid hdd
   clear hdd
   simp only[Bool.false_eq_true,if_false]
   go_wp2_with (at_builtin;refine stopAt ?_;intro q hq)
   refine hw.mono ?_
   rintro e w2 ⟨rfl,ht⟩
   obtain⟨hh2,hto⟩:=HS.out.1.both ht
   have htl:=told_any w2 b _ mb _ hh2 Y.1
   have H2:=hid hto
   clear hw ht hto i0 i1 i2 jf jb hh2
   go_wp2_with (at_builtin;refine stopAt ?_;intro q hq)
   refine htl.mono ?_
   rintro e w3 ⟨rfl,hh3,hk3⟩
   have H3:=hid (H2.out _ _ hk3 hh3)
   clear htl hh3 hk3
   go_wp2_with (at_builtin;refine stopAt ?_;intro q hq)
   go_ret
   rw[HZ.out]
   have:=H3.out
   rw[HD.out,Bool.false_or] at this
   exact⟨rfl,this⟩
end Go.Proofs.Ytkjofdocgaiedaa
namespace Go.Proofs.Ytkjofdocgaiedaa
open Go.RowKit Go.Maps Go.Shelf
open MI SO BM DM WM
attribute [local go_sem] Oper.semAt_some
structure CIn (w2:World) (lb:Nat) (pre:List (Str×Str)) (W:World) (v:Value) (vs:List Value):Prop where
 box:W.heap[lb]?=some (.cells #[v] 90 (0,0))
 recs:Recs W (fun k=>w2.heap.size≤k) (fun _=>False) v (cpL pre) vs
 keep:Keep (fun k=>k=lb) w2 W
theorem CIn.turn {w2:World} {lb:Nat} {pre:List (Str×Str)} {W W':World} {v:Value} {vs:List Value} {r:Option Nat} {B:Nat} (h:CIn w2 lb pre W v vs) (hB:w2.heap.size≤B) (hk:Keep (fun k=>r=some k) W W') (h1:∀ k,r=some k→B≤k) (hr:∀ k,r=some k→∃ o:Obj,W.heap[k]?=some o∧o.isCells=false):CIn w2 lb pre W' v vs:=
 ⟨box_turn h.box hk hr,h.recs.turn hk hr,h.keep.next hk (fun _ _ x=>x) (fun k hk x=>by have:=h1 k x;omega)⟩
theorem StoTo.bump {wR w' w'' w:World} {b d:Nat} {F Fd K:Nat→Prop} {D':Dk} {S':St} (h:StoTo b d F Fd wR D' S' w') (hw:Keep (fun _=>False) w wR) (hk:Keep K w' w'') (hK:∀ k,K k→w.heap.size≤k∧k<wR.heap.size) (hl:∀ k,F k∨Fd k→k<w.heap.size):StoTo b d F Fd w D' S' w'':=by
 obtain⟨F',Fd',h1,h2,h3,h4⟩:=h
 refine⟨F',Fd',h1.keep hk (fun k x y=>?_) (fun k x y=>?_),(hw.next h2 (fun _ _ x=>x.elim) (fun _ _ x=>x)).next hk (fun _ _ x=>x) (fun k hk' x=>by have:=hK k x;omega),fun k x=>(h3 k x).imp id fun y=>Nat.le_trans hw.size y,fun k x=>(h4 k x).imp id fun y=>Nat.le_trans hw.size y⟩
 ·have:=hK k y
  rcases h3 k x with z | z
  ·have:=hl k (.inl z);omega
  ·omega
 ·have:=hK k y
  rcases h4 k x with z | z
  ·have:=hl k (.inr z);omega
  ·omega
theorem enc_one {p:Str×Str} (h:OkP p):encE [⟨p.1,p.2,false⟩]=0:=by
 have hr:=right_one h
 have:=enc_len hr
 unfold encE
 rw[if_pos hr,if_neg (by simp at this;omega)]
set_option maxRecDepth 20000 in
set_option maxHeartbeats 1000000 in
theorem scheck_up (w:World) (b d:Nat) (F Fd:Nat→Prop) (D:Dk) (S:St) (H:StoAt w b d F Fd D S) (hd:S.dead=false) (hm:S.ps.length≤1000000) (hfew:D.waits.length≤600000) :
  Calls Try.prog 34 #[.pointer (some ⟨b,0,none⟩)] w fun e w'=>e = .returned (.int .i64 (cpS D S).1)∧StoTo b d F Fd w (cpS D S).2.1 (cpS D S).2.2 w':=by
 refine(callsIn_wide (n:=5)).1 ?_
 refine callsIn_of_wp_marks Try.func34 rfl trivial ?_ rfl
 simp only[Try.ntmps34,List.size_toArray,List.length_cons,List.length_nil,Nat.reduceAdd,Nat.reduceSub,Array.replicate_succ,Array.replicate_zero,List.push_toArray,List.append_toArray,List.nil_append,List.cons_append]
 have hr:Calls Try.prog 30 #[.pointer (some ⟨b,0,none⟩)] w fun e w'=>e = .returned (.int .i64 0)∧w'=w:=by
  obtain⟨wb,mb,m,Fl,H⟩:=H
  have:=sready_any w b mb _ S.dead H.head
  rw[hd] at this
  exact this
 have hn1:=heap_alloc_new w (.cells #[.slice none 0 0] 90)
 have hk1:Keep (fun _=>False) w (w.alloc (.cells #[.slice none 0 0] 90)):=(Keep.refl _ _).alloc _
 have ha:=sall_any _ b d F Fd D S (H.later hk1) (fun _=>hm)
 have ht:told S=S.ps:=by unfold told;rw[hd];rfl
 rw[ht] at ha
 have H0:=hid (And.intro H (And.intro hd (And.intro hm (And.intro hfew (And.intro hn1 hk1)))))
 clear H hd hm hfew hn1 hk1 ht
 refine wpIn_wide.2 ?_
 go_wp2_with (at_builtin;refine stopAt ?_;intro q hq)
 refine hr.mono ?_
 rintro e w1 ⟨rfl,rfl⟩
 clear hr
 go_wp2_with (at_builtin;refine stopAt ?_;intro q hq)
 refine ha.mono ?_
 rintro e w2 ⟨v,rfl,hs,hk2⟩
 obtain⟨hbig,f,caps,rfl,hent,hseq⟩:=hs
 have H2:=hid (And.intro hbig (And.intro hent (And.intro hseq hk2)))
 clear ha hbig hent hseq hk2
 go_wp2_with (at_builtin;refine stopAt ?_;intro q hq)
 obtain⟨wa,hwa⟩:∃ wa,wa=w1.alloc (.cells #[.slice none 0 0] 90):=⟨_,rfl⟩
 have HA:=hid (show wa.heap.size=w1.heap.size+1 by rw[hwa];simp)
 rw[← hwa] at H0 H2
 clear hwa
 have h2:=H2.out
 have HO:=hid (show ∀ p ∈ S.ps,OkP p from H0.out.1.ok.each)
 refine(wpIn_wide (n:=5)).1 ?_
 refine wpIn_rangeFunc_ownF rfl (by omega) (gf:=f) (lb:=caps) rfl trivial h2.2.1 (h2.2.2.1 4 w2 (by omega) (Keep.refl _ _)) (fun h k=>h.tr k) (fun W l o o' hl _ _ _=>keep_putObj W l o' (.inr hl)) (Below.refl _ _) (fun _=>rfl)
  (fun pre W=>∃ v vs,CIn w2 w1.heap.size (pre.map Subtype.val) W v vs) (fun _ _ _=>False) (ownFrom_of fun s W W' r ⟨v,vs,h⟩ hk h1 hr=>⟨v,vs,h.turn (Nat.le_refl _) hk h1 hr⟩) (fun _=>ownFrom_of fun _ _ _ _ h _ _ _=>h)
  ⟨_,[],h2.2.2.2.get H0.out.2.2.2.2.1 id,Recs.nil _ _ _,Keep.refl _ _⟩
  (fun x=>{ tmps:=#[.pointer (some ⟨b,0,none⟩),undef,.int .i64 0,.int .i64 0,.pointer (some ⟨w1.heap.size,0,none⟩),.string (str x.1.1),.string (str x.1.2),undef,undef,.pointer (some ⟨b,0,none⟩),.int .i64 0,.int .i64 0,.bool false,undef,.pointer (some ⟨b,0,none⟩),.func (.func f) #[] caps,.string (str x.1.1),.string (str x.1.2),undef,undef,undef,undef,undef,undef,undef,undef,undef,undef,undef,undef,undef,undef,undef,undef,undef,undef,undef,undef],defers:=[] })
  ?assign ?body ?done ?stop
 case assign=>
  intro l x W K hK
  simp only[encP]
  gi_wp2
  exact hK
 case body=>
  rintro l pre ⟨x,hx⟩ W ⟨v,vs,hP⟩ hlt
  obtain⟨qs,hqs⟩:∃ qs,qs=pre.map Subtype.val:=⟨_,rfl⟩
  have hql:qs.length=pre.length:=by rw[hqs,List.length_map]
  have HQ:=hid (show List.map Subtype.val (pre ++ [(⟨x,hx⟩:InP S.ps)])=qs ++ [x] by rw[hqs];simp)
  rw[← hqs] at hP
  rw[← hql] at hlt
  clear hqs hql
  have hok:=HO.out x hx
  have hc:W.cell? ⟨w1.heap.size,0,none⟩=some v:=by simp[World.cell?,hP.box]
  have HP:=hid hP
  clear hP
  have hn3:=heap_alloc_new W (.cells #[.string (str x.1),.string (str x.2),.bool false] 55)
  have hk3:Keep (fun _=>False) W (W.alloc (.cells #[.string (str x.1),.string (str x.2),.bool false] 55)):=(Keep.refl _ _).alloc _
  have henc:=encode_any _ (some ⟨W.heap.size,0,none⟩) 1 1 [⟨x.1,x.2,false⟩] (Chs.of_row (w:=W.alloc (.cells #[.string (str x.1),.string (str x.2),.bool false] 55))
   ⟨rfl,.inr ⟨_,1,_,(0,0),rfl,hn3,Free.zero _,Nat.le_refl _,by decide,rfl,rfl⟩⟩ (fun c hc=>by cases hc with | head=>exact⟨show x.1.length≤maxLen by have:=hok.2.1;unfold maxLen;omega,show x.2.length≤maxLen by have:=hok.2.2;unfold maxLen;omega⟩ | tail _ h=>cases h)) rfl
  unfold EncPost at henc
  simp only[enc_one hok,if_true] at henc
  have H3:=hid (And.intro hk3 hlt)
  clear hn3 hk3 hok hlt
  gi_wp2
  refine⟨trivial,(CallsIn.inRound l (callsIn_wide.2 henc)).mono ?_⟩
  rintro e W2 ⟨bv,rfl,hf⟩
  clear henc
  obtain⟨ba,bc,rfl,-⟩:=hf.row.form
  have hk12:Keep (fun _=>False) W W2:=H3.out.1.next hf.keep (fun _ _ x=>x) (fun _ _ x=>x)
  have hn4:=heap_alloc_new W2 (.cells #[.slice ba (enc [⟨x.1,x.2,false⟩]).length bc] 29)
  have hk4:Keep (fun _=>False) W2 (W2.alloc (.cells #[.slice ba (enc [⟨x.1,x.2,false⟩]).length bc] 29)):=(Keep.refl _ _).alloc _
  have hk14:=hk12.next hk4 (H:=fun _=>False) (fun _ _ x=>x) (fun _ _ x=>x)
  have hP:=HP.out
  have hP4:=hP.recs.keep hk14 (fun _ _ _ x=>x)
  have hb4:=hk14.get hP.box id
  have hcl:(cpL qs).length=qs.length:=by simp[cpL]
  have hmm:=H0.out.2.2.1
  obtain⟨va,vc,rfl,-⟩:=hP.recs.row.form
  obtain⟨v5,w5,hr5,hrow5,hk5,hv5,-⟩:=run_append_row (ty:=90) ty_recs hP4.row (some ⟨W2.heap.size,0,none⟩) 1 1 [.slice ba (enc [⟨x.1,x.2,false⟩]).length bc]
   ⟨rfl,fun _=>⟨_,rfl,fun t u hu=>by rw[addr_add,Nat.zero_add,cell_of_row _ _ _ _ _ _ hn4];simpa using hu⟩⟩ (by simp[Value.oneCell']) (by have:=H3.out.2;unfold maxLen;omega) (by have:=H3.out.2;omega)
  obtain⟨a5,c5,rfl,-⟩:=hrow5.form
  have hbne:¬ (Value.slice va (cpL qs).length vc).ownBlock=some w1.heap.size:=fun e=>hP.recs.row.not_block hP.box (by decide) e
  have hb5:=hk5.get hb4 hbne
  have hc2:W2.cell? ⟨w1.heap.size,0,none⟩=some (.slice va (cpL qs).length vc):=by simp[World.cell?,hk12.get hP.box id]
  have hc5:w5.cell? ⟨w1.heap.size,0,none⟩=some (.slice va (cpL qs).length vc):=by simp[World.cell?,hb5]
  have hfr:w5.frozen? ⟨w1.heap.size,0,none⟩=false:=by simp[World.frozen?,hb5]
  have HZ:=hid (show KeepsOthers W (w5.setCell ⟨w1.heap.size,0,none⟩ (.slice a5 ((cpL qs).length+1) c5))∧Keep (fun k=>k<wa.heap.size∨w2.heap.size≤k) W (w5.setCell ⟨w1.heap.size,0,none⟩ (.slice a5 ((cpL qs).length+1) c5))∧
    ∃ v vs,CIn w2 w1.heap.size (qs ++ [x]) (w5.setCell ⟨w1.heap.size,0,none⟩ (.slice a5 ((cpL qs).length+1) c5)) v vs from by
   have hk6:Keep (fun k=>k=w1.heap.size) w5 (w5.setCell ⟨w1.heap.size,0,none⟩ (.slice a5 ((cpL qs).length+1) c5)):=by refine Keep.setCell (Keep.refl _ _) (.inl ?_) _;rfl
   have hh6:=heap_setCell6 hb5 0 (.slice a5 ((cpL qs).length+1) c5)
   have hW:=hP.keep.size
   have hW2:=hk12.size
   have hW4:=hk4.size
   have hl1:=HA.out
   have hl2:=h2.2.2.2.size
   have hkB:Keep (fun k=>k=w1.heap.size∨(Value.slice va (cpL qs).length vc).ownBlock=some k) W (w5.setCell ⟨w1.heap.size,0,none⟩ (.slice a5 ((cpL qs).length+1) c5)):=
    (hk14.next hk5 (fun _ _ x=>x.elim) (fun _ _ x=>.inr x)).next hk6 (fun _ _ x=>x) (fun _ _ x=>.inl x)
   refine⟨others_of hkB (fun k e=>?_),hkB.mono fun k _ e=>?_,.slice a5 ((cpL qs).length+1) c5,vs ++ [.slice ba (enc [⟨x.1,x.2,false⟩]).length bc],hh6,?_,?_⟩
   ·rcases e with rfl | e
    ·exact⟨_,_,_,hP.box⟩
    ·obtain⟨-,⟨h,-⟩ | ⟨g,cap,cur,fz,h,hg,-⟩⟩:=hP.recs.row
     ·rw[h] at e;simp[Value.ownBlock] at e
     ·rw[h] at e;simp[Value.ownBlock] at e;subst e;exact⟨_,_,_,hg⟩
   ·rcases e with rfl | e
    ·left;omega
    ·exact .inr (hP.recs.own k e).1
   ·have hp:=hP4.push (w':=w5) (F':=fun k=>w2.heap.size≤k) (l:=enc [⟨x.1,x.2,false⟩]) (hf.row.keep hk4 (fun _ _ x=>x)) (fun k e=>⟨by have:=hf.own k e;have:=H3.out.1.size;omega,id,fun e2=>by have:=hf.own k e;have:=hP.recs.row.lt e2;have:=H3.out.1.size;omega⟩) hrow5 hk5 (fun _ x=>x) (fun k e=>by
     rcases hv5 with ⟨_,h⟩ | ⟨k2,e2,e3⟩
     ·omega
     ·have e4:k2=k:=by rw[e2] at e;exact Option.some.inj e
      subst e4
      rcases e3 with e3 | e3
      ·exact .inl e3
      ·exact .inr ⟨by omega,by omega,id⟩)
    have e:cpL (qs ++ [x])=cpL qs ++ [enc [⟨x.1,x.2,false⟩]]:=by simp[cpL]
    rw[e]
    exact hp.keep hk6 (fun k h _=>by omega)
   ·exact hP.keep.next hkB (fun _ _ x=>x) (fun k hk x=>by
     rcases x with x | x
     ·exact x
     ·have:=(hP.recs.own k x).1;omega))
  clear hf hk12 hn4 hk4 hk14 hP hP4 hb4 hcl hmm hrow5 hk5 hv5 hbne hb5
  gi_wp2_with (gi_at_builtin;refine wpListIn_append_eq rfl _ _ rfl rfl rfl hr5 ?_)
  have hz:=HZ.out
  rw[← HQ.out] at hz
  exact hz
 case done=>
  rintro Db xs W hD rfl ⟨v,vs,hP⟩ hK
  rw[List.attach_map_subtype_val] at hP
  have hkW:Keep (fun _=>False) w1 W:=((H0.out.2.2.2.2.2.next h2.2.2.2 (H:=fun _=>False) (fun _ _ x=>x) (fun _ _ x=>x))).next hP.keep (fun _ _ x=>x) (fun k hk x=>by omega)
  have hW1:w1.heap.size<w2.heap.size:=by have:=HA.out;have:=h2.2.2.2.size;omega
  have hltw:=H0.out.1.ltw
  obtain⟨wb,mb,m,Fl,HI⟩:=H0.out.1.later hkW
  obtain⟨i0,i1,i2,jf,jb⟩:=cells3i (show W.heap[b]?=some (.cells #[_,_,_] _ (0,0)) from HI.head)
  have hc:W.cell? ⟨w1.heap.size,0,none⟩=some v:=by simp[World.cell?,hP.box]
  obtain⟨va,vc,rfl,-⟩:=hP.recs.row.form
  have HX:=hid (And.intro HI (And.intro hP (And.intro hkW (And.intro hK (And.intro hD (And.intro hW1 hltw))))))
  clear HI hP hkW hK hW1 hltw
  have hkeep:Keep (fun _=>False) W W.drew:=(Keep.refl _ _).drew
  have HI3:=HX.out.1.keep hkeep (fun _ _ x=>x) (fun _ _ x=>x)
  have hrs:=wreset_any W.drew wb d Fl Fd D S.g HI3.log va vc (cpL S.ps) (HX.out.2.1.recs.keep hkeep (fun _ _ _ x=>x)).lists (by have:=H0.out.2.2.1;simp[cpL];omega) (by have:=H0.out.2.2.2.1;omega)
  obtain⟨Y,hY⟩:∃ Y,Y=WM.reset D S.g (cpL S.ps):=⟨_,rfl⟩
  rw[← hY] at hrs
  have HY:=hid hY
  have H3:=hid (And.intro hkeep HI3)
  clear hY hkeep HI3
  go_wp2_with (at_builtin;refine stopAt ?_;intro q hq)
  refine wp_region_canon [] (by kernel_rfl) (by kernel_rfl) ?_
  repeat (first | (apply wpC_pure (by rfl);(intro K w';go_simp;exact id)) | (apply wpC_load (by rfl);(intro K;go_simp;exact id)))
  refine wpC_act (by rfl) (by rfl) (fun K hK=>?_)
  go_simp
  refine hrs.mono ?_
  rintro e w4 ⟨rfl,ht⟩
  obtain⟨hh4,hto⟩:=H3.out.2.both ht
  have htl:=told_any w4 b _ mb _ hh4 Y.1
  have hD4:Keep (fun k=>F k∨Fd k) W.drew w4:=by
   obtain⟨_,_,_,h,_⟩:=ht
   exact h.mono fun k _ x=>x.imp (fun y=>(H3.out.2.inl k y).1) id
  have H4:=hid (And.intro hto hD4)
  clear hrs ht hto hh4 hD4 i0 i1 i2 jf jb hc
  go_simp
  refine hK _ _ ?_
  clear hK K
  refine wpC_act (by rfl) (by rfl) (fun K hK=>?_)
  go_simp
  refine htl.mono ?_
  rintro e w5 ⟨rfl,hh5,hk5⟩
  have H5:=hid (And.intro hh5 hk5)
  clear htl hh5 hk5
  go_simp
  refine hK _ _ ?_
  clear hK K
  repeat (apply wpC_pure (by rfl);(intro K w';go_simp;exact id))
  refine wpC_nil ?_
  go_wp2_with (at_builtin;refine stopAt ?_;intro q hq)
  obtain⟨HI,hP,hkW,hK,hD,hW1,hltw⟩:=HX.out
  have hlD:=heap_lt hK
  have hK5:w5.heap[Db]?=some (.deferred (some [])):=H5.out.2.get (H4.out.2.get (H3.out.1.get hK id) (fun x=>by have:=hltw _ x;omega)) (fun x=>by have:=hltw _ (.inl HI.self);omega)
  refine⟨by simp,.inl ⟨_,_,rfl,run_takeDeferred hK5,?_⟩⟩
  refine⟨_,results_tmp rfl _ _ _,?_⟩
  have e:cpS D S=(Y.1,Y.2.1,⟨Y.2.2,S.ps,decide (Y.1=6)⟩):=by rw[HY.out];unfold cpS;rw[H0.out.2.1];rfl
  rw[e]
  refine⟨rfl,?_⟩
  have hz:=H4.out.1 w5 _ H5.out.2 H5.out.1
  rw[H0.out.2.1,Bool.false_or] at hz
  exact hz.bump (hkW.next H3.out.1 (fun _ _ x=>x) (fun _ _ x=>x)) (keep_putObj (K:=fun k=>k=Db) w5 Db (.deferred none) rfl) (fun k x=>by subst x;exact⟨by omega,Nat.lt_of_lt_of_le hlD H3.out.1.size⟩) hltw
 case stop=>
  rintro Db c pre W _ _ h _
  exact h.elim
set_option maxRecDepth 20000 in
theorem scheck_any (w:World) (b d:Nat) (F Fd:Nat→Prop) (D:Dk) (S:St) (H:StoAt w b d F Fd D S) (hm:S.dead=false→S.ps.length≤1000000) (hfew:D.waits.length≤600000) :
  Calls Try.prog 34 #[.pointer (some ⟨b,0,none⟩)] w fun e w'=>e = .returned (.int .i64 (cpS D S).1)∧StoTo b d F Fd w (cpS D S).2.1 (cpS D S).2.2 w':=by
 cases hd:S.dead with
 | false=>exact scheck_up w b d F Fd D S H hd (hm hd) hfew
 | true=>
   have e:cpS D S=(6,D,S):=by unfold cpS;rw[if_pos hd]
   rw[e]
   have hr:Calls Try.prog 30 #[.pointer (some ⟨b,0,none⟩)] w fun e w'=>e = .returned (.int .i64 6)∧w'=w:=by
    obtain⟨wb,mb,m,Fl,H⟩:=H
    have:=sready_any w b mb _ S.dead H.head
    rw[hd] at this
    exact this
   have HS:=hid H
   clear H hm hfew e hd
   go_enter Try.func34,Try.ntmps34
   go_wp2_with (at_builtin;refine stopAt ?_;intro q hq)
   refine hr.mono ?_
   rintro e w1 ⟨rfl,rfl⟩
   clear hr
   go_wp2_with (at_builtin;refine stopAt ?_;intro q hq)
   go_ret
   exact⟨rfl,HS.out.to⟩
end Go.Proofs.Ytkjofdocgaiedaa
namespace Go.Proofs.Ytkjofdocgaiedaa
open Go.RowKit Go.Maps
open MI SO BM DM WM
theorem SliceOf.keepF {α:Type} {w w':World} {size:Nat} {R:List Value→α→Prop} {v:Value} {l:List α} {K:Nat→Prop} (h:SliceOf w size R v l) (hk:Keep K w w') (hn:0<l.length→∀ x m c,v = .slice (some x) m c→¬ K x.block):SliceOf w' size R v l:=by
 obtain⟨ao,c,rfl,h2,h3,h4⟩:=h
 refine⟨ao,c,rfl,h2,h3,fun hp=>?_⟩
 obtain⟨ad,rfl,h6⟩:=h4 hp
 refine⟨ad,rfl,fun i hi=>?_⟩
 obtain⟨cs,h7,h8,h9⟩:=h6 i hi
 refine⟨cs,h7,h8,fun j u hu=>?_⟩
 have:=h9 j u hu
 have hb:(ad.add (i * size+j)).block=ad.block:=by unfold Addr.add;split <;> rfl
 rw[World.cell?_of_block (hk.block _ (World.block_lt_of_cell? w _ this) (by rw[hb];exact hn hp ad _ _ rfl))]
 exact this
theorem Chs.lt {w:World} {ao:Option Addr} {n c:Nat} {l:List Ch} (h:Chs w (.slice ao n c) l) (hp:0<l.length) (x:Addr) (hx:ao=some x):x.block<w.heap.size:=by
 obtain⟨ad,rfl,h1,-⟩:=h.get (Keep.refl _ w) 0 hp
 cases hx
 have:=World.block_lt_of_cell? w _ h1
 have hb:(x.add (0 * 3)).block=x.block:=by unfold Addr.add;split <;> rfl
 rw[hb] at this
 exact this
theorem StoTo.step {w1 w2 w':World} {b d:Nat} {F Fd F1 Fd1:Nat→Prop} {D':Dk} {S':St} (h:StoTo b d F1 Fd1 w2 D' S' w') (hk:Keep (fun k=>F k∨Fd k) w1 w2) (h1:∀ k,F1 k→F k∨w1.heap.size≤k) (h2:∀ k,Fd1 k→Fd k∨w1.heap.size≤k):StoTo b d F Fd w1 D' S' w':=by
 obtain⟨F2,Fd2,b1,b2,b3,b4⟩:=h
 have s:=hk.size
 refine⟨F2,Fd2,b1,hk.next b2 (fun _ _ x=>x) (fun k hk' x=>?_),fun k x=>?_,fun k x=>?_⟩
 ·rcases x with x | x
  ·rcases h1 k x with y | y
   ·exact .inl y
   ·omega
  ·rcases h2 k x with y | y
   ·exact .inr y
   ·omega
 ·rcases b3 k x with y | y
  ·exact h1 k y
  ·right;omega
 ·rcases b4 k x with y | y
  ·exact h2 k y
  ·right;omega
theorem SO.cpS_dead {D:Dk} {S:St} (h:(cpS D S).1=0):(cpS D S).2.2.dead=false:=by
 unfold cpS at *
 split
 ·rename_i h1
  rw[if_pos h1] at h
  cases h
 ·rename_i h1
  rw[if_neg h1] at h
  simp only at h ⊢
  rw[h]
  rfl
theorem SO.cpS_ps (D:Dk) (S:St):(cpS D S).2.2.ps=S.ps:=by
 unfold cpS
 split <;> rfl
theorem SO.intoS_ps (D:Dk) (S:St) (b:List UInt8):(intoS D S b).2.2.ps=S.ps:=by
 unfold intoS
 split
 ·split
  ·exact cpS_ps _ _
  ·exact cpS_ps _ _
 ·rfl
theorem SO.cpS_waits {D:Dk} (h:D.safe.length≤2048) {S:St}:(cpS D S).2.1.waits.length≤D.waits.length+1024:=by
 unfold cpS
 split
 ·exact Nat.le_add_right _ _
 ·exact reset_waits h _ _
theorem wbytes (l:List Ch):encE l=0→(enc l).length≤1024∧right l=true:=by
 intro h
 unfold encE at h
 split at h
 ·rename_i hr
  split at h
  ·cases h
  ·exact⟨by omega,hr⟩
 ·cases h
set_option maxRecDepth 20000 in
set_option maxHeartbeats 1000000 in
theorem sdo_any (w:World) (b d:Nat) (F Fd:Nat→Prop) (D:Dk) (S:St) (H:StoAt w b d F Fd D S) (ao:Option Addr) (n c:Nat) (l:List Ch) (hL:Chs w (.slice ao n c) l) (hn:n=l.length)
  (hap:0<n→∀ x,ao=some x→¬ F x.block∧¬ Fd x.block) (hm:S.dead=false→S.ps.length≤900000) (hfew:D.waits.length≤500000) :
  Calls Try.prog 23 #[.pointer (some ⟨b,0,none⟩),.slice ao n c] w fun e w'=>e = .returned (.int .i64 (doS D S l).1)∧StoTo b d F Fd w (doS D S l).2.1 (doS D S l).2.2 w':=by
 obtain⟨R,hR⟩:∃ R,R=doS D S l:=⟨_,rfl⟩
 rw[← hR]
 have hr:Calls Try.prog 30 #[.pointer (some ⟨b,0,none⟩)] w fun e w'=>e = .returned (.int .i64 (if S.dead then 6 else 0))∧w'=w:=by
  obtain⟨wb,mb,m,Fl,H⟩:=H
  exact sready_any w b mb _ S.dead H.head
 have henc:=encode_any w ao n c l hL hn
 have H0:=hid (And.intro H (And.intro hL (And.intro hn (And.intro hap (And.intro hm (And.intro hfew hR))))))
 clear H hL hn hap hm hfew hR
 go_enter Try.func23,Try.ntmps23
 go_wp2_with (at_builtin;refine stopAt ?_;intro q hq)
 refine hr.mono ?_
 rintro e w1 ⟨rfl,rfl⟩
 clear hr
 cases hdd:S.dead with
 | true=>
   have HZ:=hid (show R=(6,D,S) by rw[H0.out.2.2.2.2.2.2];unfold doS;rw[if_pos hdd])
   clear hdd henc
   simp only[if_true]
   go_wp2_with (at_builtin;refine stopAt ?_;intro q hq)
   go_ret
   rw[HZ.out]
   exact⟨rfl,H0.out.1.to⟩
 | false=>
   have HD:=hid hdd
   clear hdd
   simp only[Bool.false_eq_true,if_false]
   go_wp2_with (at_builtin;refine stopAt ?_;intro q hq)
   refine henc.mono ?_
   rintro e w2 ⟨bv,rfl,hf⟩
   clear henc
   by_cases hE:encE l=0
   ·have HB:=hid (wbytes l hE)
    rw[if_pos hE] at hf
    have HZ:=hid (show R=laidS (intoS D S (enc l)) l by rw[H0.out.2.2.2.2.2.2];unfold doS;rw[if_neg (by rw[HD.out];decide),if_neg (by omega)])
    simp only[hE]
    clear hE
    have hk:=hf.keep
    have hltw:=H0.out.1.ltw
    obtain⟨wb,mb,m,Fl,HI⟩:=H0.out.1.later hk
    obtain⟨i0,i1,i2,jf,jb⟩:=cells3i (show w2.heap[b]?=some (.cells #[_,_,_] _ (0,0)) from HI.head)
    obtain⟨ba,bc,rfl,-,-,-,hba⟩:=hf.row.form
    have hnF:∀ x,ba=some x→w1.heap.size≤x.block:=fun x e=>hf.own _ (hba x e).2
    have happ:=wappend_any w2 wb d Fl Fd D S.g HI.log ba (enc l).length bc (enc l) (Cells.of_row hf.row) (fun x _ e=>⟨fun y=>by have:=hltw _ (.inl (HI.inl _ y).1);have:=hnF x e;omega,fun y=>by have:=hltw _ (.inr y);have:=hnF x e;omega⟩) (by have:=HB.out.1;omega) (by have:=H0.out.2.2.2.2.2.1;omega)
    obtain⟨Y,hY⟩:∃ Y,Y=WM.append D S.g (enc l):=⟨_,rfl⟩
    rw[← hY] at happ
    have HY:=hid hY
    have H2:=hid (And.intro HI (And.intro hf (And.intro hltw hnF)))
    clear hY hf hk hltw HI hba hnF
    go_wp2_with (at_builtin;refine stopAt ?_;intro q hq)
    refine happ.mono ?_
    rintro e w3 ⟨rfl,ht⟩
    obtain⟨hh3,hto⟩:=H2.out.1.both ht
    have htl:=told_any w3 b _ mb _ hh3 Y.1
    have hk3:Keep (fun k=>F k∨Fd k) w2 w3:=by
     obtain⟨_,_,_,h,_⟩:=ht
     exact h.mono fun k _ x=>x.imp (fun y=>(H2.out.1.inl k y).1) id
    have H3:=hid (And.intro hto hk3)
    clear happ ht hto hh3 i0 i1 i2 jf jb hk3
    go_wp2_with (at_builtin;refine stopAt ?_;intro q hq)
    refine htl.mono ?_
    rintro e w4 ⟨rfl,hh4,hk4⟩
    have hz:=H3.out.1 _ _ hk4 hh4
    rw[HD.out,Bool.false_or] at hz
    have HA:=hid (show apS D S (enc l)=(Y.1,Y.2.1,⟨Y.2.2,S.ps,decide (Y.1=6)⟩) by rw[HY.out];rfl)
    have H4:=hid hz
    clear htl hh4 hk4 hz
    go_upto_if 30 with fail
    obtain⟨X,hX⟩:∃ X,X=intoS D S (enc l):=⟨_,rfl⟩
    have HX:=hid hX
    rw[← hX] at HZ
    clear hX
    go_cut [7] (fun ev wx=>ev = .int .i64 X.1∧Hid (StoTo b d F Fd w1 X.2.1 X.2.2 wx))
    case first=>
     by_cases h5:Y.1=5
     ·have q1:(Y.1 == 5)=true:=by simp[h5]
      have h5':=hid h5
      clear h5
      have h4:=H4.out
      obtain⟨F4,Fd4,a1,a2,a3,a4⟩:=h4
      have hps:=H0.out.2.2.2.2.1 HD.out
      have hD2:=H0.out.2.2.2.2.2.1
      have hw8:=append_waits H0.out.1.diskAt.ok.few S.g (enc l)
      rw[← HY.out] at hw8
      have hck:=scheck_any w4 b d F4 Fd4 Y.2.1 ⟨Y.2.2,S.ps,decide (Y.1=6)⟩ a1 (fun _=>by simp only;omega) (by omega)
      obtain⟨C,hC⟩:∃ C,C=cpS Y.2.1 ⟨Y.2.2,S.ps,decide (Y.1=6)⟩:=⟨_,rfl⟩
      rw[← hC] at hck
      have HC:=hid hC
      have hrow:=H2.out.2.1.row.keep a2 (fun k e x=>by have:=H2.out.2.2.1 k x;have:=H2.out.2.1.own k e;omega)
      have H5:=hid (And.intro a1 (And.intro a2 (And.intro a3 (And.intro a4 (And.intro hw8 hrow)))))
      clear a1 a2 a3 a4 hw8 hps hD2 hC hrow
      go_wp2_with (at_builtin;refine stopAt ?_;intro q hq)
      refine hck.mono ?_
      rintro e w5 ⟨rfl,ht⟩
      have H6:=hid ht
      clear hck ht
      by_cases hc0:C.1=0
      ·have q2:(C.1 == 0)=true:=by simp[hc0]
       have h0:=hid hc0
       have h6:=H6.out
       obtain⟨F5,Fd5,b1,b2,b3,b4⟩:=h6
       have hcd:C.2.2.dead=false:=by rw[HC.out];exact cpS_dead (by rw[← HC.out];exact hc0)
       clear hc0
       obtain⟨wb5,mb5,m5,Fl5,HI5⟩:=b1
       obtain⟨i0,i1,i2,jf,jb⟩:=cells3i (show w5.heap[b]?=some (.cells #[_,_,_] _ (0,0)) from HI5.head)
       have hbl:∀ x,ba=some x→(Value.slice ba (enc l).length bc).ownBlock=some x.block:=fun x e=>by
        obtain⟨ba',bc',e1,-,-,-,e2⟩:=H2.out.2.1.row.form
        cases e1
        exact(e2 x e).2
       have hf5:∀ k,(Value.slice ba (enc l).length bc).ownBlock=some k→¬ (F5 k∨Fd5 k):=fun k e x=>by
        have z1:=H2.out.2.1.own k e
        have z2:=H2.out.2.1.row.lt e
        have z3:=H5.out.2.2.1 k
        have z4:=H5.out.2.2.2.1 k
        have z5:=H2.out.2.2.1 k
        have z6:=H5.out.2.1.size
        rcases x with x | x
        ·rcases b3 k x with y | y
         ·rcases z3 y with y | y
          ·have:=z5 (.inl y);omega
          ·omega
         ·omega
        ·rcases b4 k x with y | y
         ·rcases z4 y with y | y
          ·have:=z5 (.inr y);omega
          ·omega
         ·omega
       have hrow5:=H5.out.2.2.2.2.2.keep b2 (fun k e x=>by
        have z1:=H2.out.2.1.own k e
        have z2:=H2.out.2.1.row.lt e
        have z5:=H2.out.2.2.1 k
        rcases x with x | x
        ·rcases H5.out.2.2.1 k x with y | y
         ·have:=z5 (.inl y);omega
         ·omega
        ·rcases H5.out.2.2.2.1 k x with y | y
         ·have:=z5 (.inr y);omega
         ·omega)
       have hwc:C.2.1.waits.length≤800000:=by
        have z1:=cpS_waits HI5.log.disk_.ok.few (D:=C.2.1) (S:=C.2.2)
        have z2:=cpS_waits (H5.out.1.diskAt.ok.few) (S:=⟨Y.2.2,S.ps,decide (Y.1=6)⟩)
        rw[← HC.out] at z2
        have:=H5.out.2.2.2.2.1
        have:=H0.out.2.2.2.2.2.1
        omega
       have happ:=wappend_any w5 wb5 d Fl5 Fd5 C.2.1 C.2.2.g HI5.log ba (enc l).length bc (enc l) (Cells.of_row hrow5) (fun x _ e=>⟨fun y=>hf5 _ (hbl x e) (.inl (HI5.inl _ y).1),fun y=>hf5 _ (hbl x e) (.inr y)⟩) (by have:=HB.out.1;omega) hwc
       obtain⟨Z,hZ⟩:∃ Z,Z=WM.append C.2.1 C.2.2.g (enc l):=⟨_,rfl⟩
       rw[← hZ] at happ
       have HZ2:=hid hZ
       have H7:=hid (And.intro HI5 (And.intro hcd (And.intro b2 (And.intro b3 b4))))
       clear hZ hbl hf5 hrow5 hwc HI5 hcd b2 b3 b4
       go_wp2_with (at_builtin;refine stopAt ?_;intro q hq)
       refine happ.mono ?_
       rintro e w6 ⟨rfl,ht⟩
       obtain⟨hh6,hto⟩:=H7.out.1.both ht
       have htl:=told_any w6 b _ mb5 _ hh6 Z.1
       have H8:=hid hto
       clear happ ht hto hh6 i0 i1 i2 jf jb
       go_wp2_with (at_builtin;refine stopAt ?_;intro q hq)
       refine htl.mono ?_
       rintro e w7 ⟨rfl,hh7,hk7⟩
       have hz:=H8.out _ _ hk7 hh7
       rw[H7.out.2.1,Bool.false_or] at hz
       have H9:=hid hz
       clear htl hh7 hk7 hz
       go_wp2_with (at_builtin;refine stopAt ?_;intro q hq)
       go_meet
       have e:X=(Z.1,Z.2.1,⟨Z.2.2,C.2.2.ps,decide (Z.1=6)⟩):=by
        rw[HX.out]
        unfold intoS
        rw[HA.out,if_pos h5'.out]
        simp only
        rw[← HC.out,if_pos h0.out]
        unfold apS
        rw[← HZ2.out]
       rw[e]
       refine⟨rfl,hid ?_⟩
       exact((H9.out.step H7.out.2.2.1 H7.out.2.2.2.1 H7.out.2.2.2.2).step H5.out.2.1 H5.out.2.2.1 H5.out.2.2.2.1).since H2.out.2.1.keep
      ·have q2:(C.1 == 0)=false:=by simp[hc0]
       have h0:=hid hc0
       clear hc0
       go_wp2_with (at_builtin;refine stopAt ?_;intro q hq)
       go_meet
       have e:X=C:=by
        rw[HX.out]
        unfold intoS
        rw[HA.out,if_pos h5'.out]
        simp only
        rw[← HC.out,if_neg h0.out]
       rw[e]
       exact⟨rfl,hid ((H6.out.step H5.out.2.1 H5.out.2.2.1 H5.out.2.2.2.1).since H2.out.2.1.keep)⟩
     ·have q1:(Y.1 == 5)=false:=by simp[h5]
      have h5':=hid h5
      clear h5
      go_wp2_with (at_builtin;refine stopAt ?_;intro q hq)
      go_meet
      have e:X=(Y.1,Y.2.1,⟨Y.2.2,S.ps,decide (Y.1=6)⟩):=by
       rw[HX.out]
       unfold intoS
       rw[HA.out,if_neg h5'.out]
      rw[e]
      exact⟨rfl,hid (H4.out.since H2.out.2.1.keep)⟩
    case rest=>
     obtain⟨rfl,HR⟩:=hcut
     by_cases hx0:X.1=0
     ·have q1:(X.1 == 0)=true:=by simp[hx0]
      have e:R=(0,X.2.1,{ X.2.2 with ps:=layL S.ps l }):=by
       rw[HZ.out]
       unfold laidS
       rw[if_pos hx0,hx0,show X.2.2.ps=S.ps by rw[HX.out];exact intoS_ps _ _ _]
      have h0:=hid (And.intro hx0 e)
      clear hx0 e
      have hr:=HR.out
      obtain⟨F9,Fd9,c1,c2,c3,c4⟩:=hr
      obtain⟨wb9,mb9,m9,Fl9,HI9⟩:=c1
      obtain⟨-,hL,hn,hap,hm,-⟩:=H0.out
      have hlt:=hL.lt
      have hLc:Chs wc (.slice ao n c) l:=SliceOf.keepF hL c2 (fun hp x m c e y=>by
       cases e
       have:=hap (by omega) x rfl
       exact y.elim this.1 this.2)
      have hps:X.2.2.ps=S.ps:=by rw[HX.out];exact intoS_ps _ _ _
      have hlay:=slay_any wc b mb9 _ _ m9 ao n c l HI9.head HI9.map HI9.ne hLc hn (fun hp x hx e=>by
       rcases c3 mb9 HI9.fm with y | y
       ·exact(hap hp x hx).1 (by rw[e];exact y)
       ·have:=hlt (by omega) x hx;omega) (by
       have h1:=HI9.len
       have h2:=hm HD.out
       have h3:=(right_all HB.out.2).1
       rw[hps] at h1
       omega)
      have H7:=hid (And.intro HI9 (And.intro c2 (And.intro c3 (And.intro c4 hps))))
      clear hL hn hap hm hlt hLc c2 c3 c4 hps HI9
      go_wp2_with (at_builtin;refine stopAt ?_;intro q hq)
      refine hlay.mono ?_
      rintro e w8 ⟨rfl,hp8,hk8⟩
      have H8:=hid (And.intro hp8 hk8)
      clear hlay hp8 hk8
      go_wp2_with (at_builtin;refine stopAt ?_;intro q hq)
      go_ret
      obtain⟨HI9,c2,c3,c4,hps⟩:=H7.out
      rw[h0.out.2]
      have hg:=mapL_get l HI9.ok.sorted HI9.get
      rw[hps] at hg
      refine⟨by rw[h0.out.1];rfl,F9,Fd9,(HI9.laid (ps':=layL S.ps l) H8.out.2 H8.out.1 hg ?_).at,c2.next H8.out.2 (fun _ _ x=>x) (fun k hk x=>?_),c3,c4⟩
      ·have:=HI9.ok.layL (right_all HB.out.2).2
       rw[hps] at this
       exact this
      ·subst x
       rcases c3 _ HI9.fm with y | y
       ·exact .inl y
       ·omega
     ·have q1:(X.1 == 0)=false:=by simp[hx0]
      have e:R=X:=by
       rw[HZ.out]
       unfold laidS
       rw[if_neg hx0]
      have h0:=hid e
      clear hx0 e
      go_wp2_with (at_builtin;refine stopAt ?_;intro q hq)
      go_ret
      rw[h0.out]
      exact⟨rfl,HR.out⟩
   ·have HZ:=hid (show R=((encE l:Int),D,S) by rw[H0.out.2.2.2.2.2.2];unfold doS;rw[if_neg (by rw[HD.out];decide),if_pos hE])
    obtain⟨x,hx⟩:∃ x,x=encE l:=⟨_,rfl⟩
    rw[← hx] at hE HZ ⊢
    have q1:((x:Int) == 0)=false:=by simp;omega
    have q2:decide ((x:Int)=0)=false:=by simp;omega
    have q3:((x:Int) != 0)=true:=by simp;omega
    have hk:=hid hf.keep
    clear hf hx hE
    go_wp2_with (at_builtin;refine stopAt ?_;intro q hq)
    go_ret
    rw[HZ.out]
    exact⟨rfl,(H0.out.1.later hk.out).to.since hk.out⟩
end Go.Proofs.Ytkjofdocgaiedaa
namespace Go.Proofs.Ytkjofdocgaiedaa
open Go.RowKit Go.Maps
open MI SO BM DM WM
def getS (ps:List (Str×Str)) (k:Str):Value:=.tuple #[.string (str ((AL.get ps k).getD [])),.bool (AL.get ps k).isSome]
theorem SO.gone_mark (D:Dk) (G:Lg):gone D (WM.mark D G)=gone D G:=by
 unfold WM.mark gone
 simp
def SO.waitS (D:Dk) (S:St):Nat:=if S.dead then 0 else if gone D S.g then 0 else S.g.l.length - S.g.safe
def SO.markS (D:Dk) (S:St):St:=if S.dead then S else { S with g:=WM.mark D S.g }
end Go.Proofs.Ytkjofdocgaiedaa
namespace Go.Proofs.Ytkjofdocgaiedaa
open Go.RowKit Go.Maps
open MI SO BM DM WM
theorem SO.decL_append:∀ (L M:List (List UInt8)) (ps:List (Str×Str)),decL (L ++ M) ps=match decL L ps with | none=>none | some q=>decL M q
 | [],_,_=>rfl
 | b :: L,M,ps=>by
   simp only[List.cons_append,decL]
   cases dec b with
   | none=>rfl
   | some l=>exact decL_append L M (layL ps l)
theorem SO.act_up {D:Dk} (h:(act D).1=true):(act D).2.down=false:=by
 unfold act at *
 split
 ·rename_i hd;rw[if_pos hd] at h;cases h
 ·rename_i hd
  rw[if_neg hd] at h
  split
  ·rename_i h0;rw[h0] at h;cases h
  ·simpa using hd
  ·simpa using hd
theorem SO.write_up {D:Dk} {a:Int} {b:List UInt8} (h:(DM.write D a b).1=0):(DM.write D a b).2.down=false:=by
 unfold DM.write at *
 split
 ·rename_i hd;rw[if_pos hd] at h;cases h
 ·rename_i hd
  rw[if_neg hd] at h
  split
  ·rename_i h1;rw[if_pos h1] at h;cases h
  ·rename_i h1
   rw[if_neg h1] at h
   split
   ·rename_i h2;exact act_up h2
   ·rename_i h2;rw[if_neg h2] at h;cases h
theorem SO.sync_up {D:Dk} (h:(DM.sync D).1=0):(DM.sync D).2.down=false:=by
 unfold DM.sync at *
 split
 ·rename_i h2;exact act_up h2
 ·rename_i h2;rw[if_neg h2] at h;cases h
theorem SO.wipe_up (ep:Nat) (b:List UInt8) (en:Nat):∀ (k i:Nat) (wr:Bool) (D:Dk),D.down=false→(wipe ep b en i k wr D).1=0→(wipe ep b en i k wr D).2.2.down=false
 | 0,_,_,_,hd,_=>hd
 | k+1,i,wr,D,hd,h=>by
   unfold wipe at *
   split
   ·rename_i h1
    rw[if_pos h1] at h
    simp only at h ⊢
    split
    ·rename_i h2
     rw[if_pos h2] at h
     exact wipe_up ep b en k (i+1) true _ (write_up h2) h
    ·rename_i h2
     rw[if_neg h2] at h
     exact absurd h h2
   ·rename_i h1
    rw[if_neg h1] at h
    exact wipe_up ep b en k (i+1) wr D hd h
theorem SO.open_up {D:Dk} {g:Lg} (h:(openW D).2.1=some g):(openW D).1=0∧gone (openW D).2.2 g=false∧g.dead=false:=by
 unfold openW at *
 split at h
 ·cases h
 ·rename_i h6
  rw[if_neg h6]
  split at h
  ·cases h
  ·rename_i hd
   rw[if_neg hd]
   simp only at h ⊢
   have hw:=wipe_up (epoch D) (WM.bytes D (epoch D)) (scan (WM.bytes D (epoch D)) ((WM.bytes D (epoch D)).length+1) 0).2 (half D) 0 false D (by simpa using hd)
   generalize wipe (epoch D) (WM.bytes D (epoch D)) (scan (WM.bytes D (epoch D)) ((WM.bytes D (epoch D)).length+1) 0).2 0 (half D) false D=r at *
   split at h
   ·cases h
   ·rename_i hr
    rw[if_neg hr]
    have hr0:r.1=0:=by simpa using hr
    split at h
    ·rename_i hy
     rw[if_pos hy]
     split at h
     ·cases h
     ·rename_i hs
      rw[if_neg hs]
      cases h
      have:=sync_up (D:=r.2.2) (by simpa using hs)
      unfold gone
      simp[this]
    ·rename_i hy
     rw[if_neg hy]
     cases h
     have:=hw hr0
     unfold gone
     simp[this]
theorem SO.open_none {D:Dk} (h:(openW D).2.1=none):(openW D).1≠0:=by
 unfold openW at *
 split at h
 ·rename_i h6;rw[if_pos h6];simp
 ·rename_i h6
  rw[if_neg h6]
  split at h
  ·rename_i hd;rw[if_pos hd];simp
  ·rename_i hd
   rw[if_neg hd]
   simp only at h ⊢
   generalize wipe (epoch D) (WM.bytes D (epoch D)) (scan (WM.bytes D (epoch D)) ((WM.bytes D (epoch D)).length+1) 0).2 0 (half D) false D=r at *
   split at h
   ·rename_i hr;rw[if_pos hr];exact hr
   ·rename_i hr
    rw[if_neg hr]
    split at h
    ·rename_i hy
     rw[if_pos hy]
     split at h
     ·rename_i hs;rw[if_pos hs];exact hs
     ·cases h
    ·cases h
theorem SO.dec_len {b:List UInt8} {l:List Ch} (h:dec b=some l):l.length≤32∧∀ c ∈ l,rightC c=true:=right_all (dec_enc h).1
def SOpenTo (d:Nat) (Fd:Nat→Prop) (w:World) (R:Int×Option St×Dk) (e:Ending) (w':World):Prop:=
 match R.2.1 with
 | none=>e = .returned (.tuple #[.pointer none,.int .i64 R.1])∧DiskTo d Fd w R.2.2 w'
 | some s=>∃ b F Fd',e = .returned (.tuple #[.pointer (some ⟨b,0,none⟩),.int .i64 R.1])∧StoAt w' b d F Fd' R.2.2 s∧Keep Fd w w'∧(∀ k,F k→w.heap.size≤k)∧∀ k,Fd' k→Fd k∨w.heap.size≤k
set_option maxRecDepth 20000 in
theorem sopen_nil (w:World):Calls Try.prog 24 #[.pointer none] w fun e w'=>e = .returned (.tuple #[.pointer none,.int .i64 1])∧w'=w:=by
 go_enter Try.func24,Try.ntmps24
 go_wp2_with (at_builtin;refine stopAt ?_;intro q hq)
 refine(open_nil w).mono ?_
 rintro e w1 ⟨rfl,rfl⟩
 go_wp2_with (at_builtin;refine stopAt ?_;intro q hq)
 go_ret2
 exact⟨rfl,rfl⟩
structure OpR (w5:World) (mb:Nat) (L:List (List UInt8)) (i:Nat) (wr:World):Prop where
 keep:Keep (fun k=>k=mb) w5 wr
 ex:∃ m ps,PairsAt wr mb m∧decL (L.take i) []=some ps∧(∀ x,AL.get m x=AL.get ps x)∧PsOk ps∧ps.length≤32 * i
set_option maxRecDepth 20000 in
set_option maxHeartbeats 1000000 in
theorem sopen_any (w:World) (d:Nat) (Fd:Nat→Prop) (D:Dk) (hD:DiskAt w d Fd D) (hfew:D.waits.length≤800000) :
  Calls Try.prog 24 #[.pointer (some ⟨d,0,none⟩)] w (SOpenTo d Fd w (opS D)):=by
 have hop:=open_any w d Fd D hD hfew
 obtain⟨R,hR⟩:∃ R,R=opS D:=⟨_,rfl⟩
 rw[← hR]
 obtain⟨Post,hPost⟩:∃ Post,Post=SOpenTo d Fd w R:=⟨_,rfl⟩
 rw[← hPost]
 have H0:=hid (And.intro hD (And.intro hR hPost))
 clear hD hfew hR hPost
 go_enter Try.func24,Try.ntmps24
 go_wp2_with (at_builtin;refine stopAt ?_;intro q hq)
 refine hop.mono ?_
 intro e w1 hp
 unfold OpenTo at hp
 cases hg:(openW D).2.1 with
 | none=>
   have e1:R=((openW D).1,none,(openW D).2.2):=by rw[H0.out.2.1];unfold opS;rw[hg]
   rw[hg] at hp
   obtain⟨rfl,hto⟩:=hp
   have HZ:=hid (And.intro e1 (And.intro hto (open_none hg)))
   have q1:((openW D).1 != 0)=true:=by simp[open_none hg]
   have q2:((openW D).1 == 0)=false:=by simp[open_none hg]
   obtain⟨z,hz⟩:∃ z,z=(openW D).1:=⟨_,rfl⟩
   rw[← hz] at q1 q2 HZ ⊢
   clear hto e1 hg hop hz
   go_wp2_with (at_builtin;refine stopAt ?_;intro q hq)
   rw[H0.out.2.2]
   unfold SOpenTo
   rw[HZ.out.1]
   exact⟨rfl,HZ.out.2.1⟩
 | some g=>
   rw[hg] at hp
   obtain⟨wb,Fl,Fd1,rfl,a1,a2,a3,a4⟩:=hp
   obtain⟨z0,z1,-⟩:=open_up hg
   have HG:=hid (And.intro hg (And.intro z0 z1))
   rw[z0]
   have H1:=hid (And.intro a1 (And.intro a2 (And.intro a3 a4)))
   clear hop hg z0 z1 a1 a2 a3 a4
   have hmm:=@run_makeMap Try.prog
   obtain⟨mb,hmb⟩:∃ mb,mb=w1.heap.size:=⟨_,rfl⟩
   have hm2:PairsAt (w1.alloc (.map #[] 0)) mb []:=by rw[hmb];exact MapAt.made w1 _ _ _
   have hk2:Keep (fun _=>False) w1 (w1.alloc (.map #[] 0)):=(Keep.refl _ _).alloc _
   have hs2:(w1.alloc (.map #[] 0)).heap.size=w1.heap.size+1:=by simp
   have hk3:Keep (fun _=>False) w1 ((w1.alloc (.map #[] 0)).alloc (.cells #[.pointer (some ⟨wb,0,none⟩),.map (some w1.heap.size),.bool false] 85)):=hk2.alloc _
   have hn3:=heap_alloc_new (w1.alloc (.map #[] 0)) (.cells #[.pointer (some ⟨wb,0,none⟩),.map (some w1.heap.size),.bool false] 85)
   have hs3:((w1.alloc (.map #[] 0)).alloc (.cells #[.pointer (some ⟨wb,0,none⟩),.map (some w1.heap.size),.bool false] 85)).heap.size=w1.heap.size+2:=by simp
   have hm3:PairsAt ((w1.alloc (.map #[] 0)).alloc (.cells #[.pointer (some ⟨wb,0,none⟩),.map (some w1.heap.size),.bool false] 85)) mb []:=MapAt.keep hm2 ((Keep.refl (fun _=>False) _).alloc _) (fun x=>x)
   rw[hs2] at hn3
   have hrec:=records_up _ wb d Fl Fd1 _ g (H1.out.1.later hk3) HG.out.2.2
   have H3:=hid (And.intro hk3 (And.intro hn3 (And.intro hs3 (And.intro hm3 hmb))))
   clear hm2 hk2 hs2 hmb hm3 hk3 hn3 hs3
   go_wp2_with (at_builtin;refine stopAt ?_;intro q hq)
   refine hrec.mono ?_
   rintro e w5 ⟨v,rfl,⟨vs,hm⟩,hk5⟩
   obtain⟨ao,c,rfl,-⟩:=hm.row.form
   have H5:=hid (And.intro hm hk5)
   clear hrec hm hk5 hmm
   go_wp2_with (at_builtin;refine stopAt ?_;intro q hq)
   obtain⟨N,hN⟩:∃ N,N=g.l.length:=⟨_,rfl⟩
   have HN:=hid hN
   rw[← hN] at H5 ⊢
   clear hN
   have hNb:N≤4000:=by rw[HN.out];exact H1.out.1.ok.count
   go_loopw [26] (fun iv wr=>∃ i:Nat,i≤N∧iv = .int .i64 i∧Hid (OpR w5 mb g.l i wr)) (fun iv _=>N - (intOf iv).toNat)
   case atStart=>exact⟨0,Nat.zero_le _,rfl,hid ⟨Keep.refl _ _,[],[],MapAt.keep H3.out.2.2.2.1 H5.out.2 (fun x=>x),rfl,fun _=>rfl,PsOk.nil,Nat.le_refl _⟩⟩
   case round=>
    obtain⟨i,hi,rfl,HT⟩:=hrel
    by_cases hin:i<N
    ·have h4:(i:Int)<N:=by omega
     have hil:i<g.l.length:=by rw[← HN.out];exact hin
     have hmb:=H3.out.2.2.2.2
     have hs3:=H3.out.2.2.1
     have hrecs:=H5.out.1.keep HT.out.keep (fun k x _ e=>by subst e;omega)
     rw[HN.out] at hrecs
     obtain⟨gr,ad2,c2,rfl,hc,hrow,hlc⟩:=hrecs.one i hil
     have hsm:=H1.out.1.ok.small _ (List.getElem_mem hil)
     have hdrop:g.l=g.l.take i ++ (g.l[i] :: g.l.drop (i+1)):=by rw[List.getElem_cons_drop,List.take_append_drop]
     have htk:g.l.take (i+1)=g.l.take i ++ [g.l[i]]:=by rw[List.take_add_one,List.getElem?_eq_getElem hil,Option.toList_some]
     obtain⟨x,hx⟩:∃ x,x=g.l[i]:=⟨_,rfl⟩
     rw[← hx] at hc hrow hlc hsm hdrop htk
     clear hx hrecs
     have hdec:=decode_any wr ad2 x.length c2 x (Cells.of_row hrow) (by omega)
     have HS:=hid (And.intro hdrop (And.intro htk (And.intro hil (And.intro hmb hs3))))
     clear hdrop htk hrow hlc hsm hmb hs3
     go_wp2_with (at_builtin;refine stopAt ?_;intro q hq)
     refine hdec.mono ?_
     intro e w6 hp
     unfold DecPost at hp
     obtain⟨hk6,hp⟩:=hp
     have HK:=hid hk6
     clear hdec hk6
     cases hdx:dec x with
     | none=>
       rw[hdx] at hp
       simp only at hp
       subst hp
       have e1:R=(50,none,(openW D).2.2):=by
        obtain⟨m,ps,-,h2,-⟩:=HT.out.ex
        rw[H0.out.2.1]
        unfold opS
        rw[HG.out.1]
        simp only
        rw[HS.out.1,decL_append,h2]
        simp only[decL]
        rw[hdx]
       have HZ:=hid e1
       clear e1 hdx hc
       go_wp2_with (at_builtin;refine stopAt ?_;intro q hq)
       rw[H0.out.2.2]
       unfold SOpenTo
       rw[HZ.out]
       refine⟨rfl,?_⟩
       have hk:=(((H3.out.1.next H5.out.2 (H:=fun _=>False) (fun _ _ x=>x) (fun _ _ x=>x))).next HT.out.keep (H:=fun _=>False) (fun _ _ x=>x) (fun k hk' x=>by have:=HS.out.2.2.2.1;omega)).next HK.out (fun _ _ x=>x) (fun _ _ x=>x)
       exact⟨Fd1,H1.out.1.disk_.keep hk (fun _ _ x=>x),H1.out.2.1.next hk (fun _ _ x=>x) (fun _ _ x=>x.elim),H1.out.2.2.2⟩
     | some l=>
       rw[hdx] at hp
       obtain⟨v,rfl,hrow,hown⟩:=hp
       obtain⟨la,lc,rfl,-,-,-,hla⟩:=hrow.form
       obtain⟨hl32,hlr⟩:=dec_len hdx
       have hch:=Chs.of_row hrow (fun c hc=>chOk_of (hlr c hc))
       obtain⟨m,ps,hm,hdl,hget,hok,hpl⟩:=HT.out.ex
       have hk36:Keep (fun k=>k=mb) ((w1.alloc (.map #[] 0)).alloc (.cells #[.pointer (some ⟨wb,0,none⟩),.map (some w1.heap.size),.bool false] 85)) w6:=(H5.out.2.next HT.out.keep (fun _ _ x=>x.elim) (fun _ _ x=>x)).next HK.out (fun _ _ x=>x) (fun _ _ x=>x.elim)
       have hh6:=hk36.get H3.out.2.1 (fun e=>by have:=HS.out.2.2.2.1;omega)
       have hh6b:w6.heap[w1.heap.size+1]?=some (.cells (stoCells (.pointer (some ⟨wb,0,none⟩)) mb false) 85 (0,0)):=by rw[HS.out.2.2.2.1];exact hh6
       have hcnt:=H1.out.1.ok.count
       have hmlen:=len_eq hm.1 hok.sorted hget
       have hlay:=slay_any w6 (w1.heap.size+1) mb (.pointer (some ⟨wb,0,none⟩)) false m la l.length lc l hh6b (MapAt.keep hm HK.out (fun x=>x)) (by have:=HS.out.2.2.2.1;omega) hch rfl (fun hp y hy e=>by
        have:=hown _ (hla y hy).2
        have:=MapAt.lt hm
        omega) (by have:=HS.out.2.2.1;omega)
       have H7:=hid (And.intro hdl (And.intro hget (And.intro hok (And.intro hpl (And.intro hdx (And.intro hl32 (And.intro hlr hm)))))))
       clear hrow hown hla hl32 hlr hch hm hdl hget hok hpl hk36 hh6 hh6b hcnt hmlen hdx hc
       go_wp2_with (at_builtin;refine stopAt ?_;intro q hq)
       refine hlay.mono ?_
       rintro e w8 ⟨rfl,hp8,hk8⟩
       have H8:=hid (And.intro hp8 hk8)
       clear hlay hp8 hk8
       go_wp2_with (at_builtin;refine stopAt ?_;intro q hq)
       go_roundw
       case rel=>exact⟨i+1,by omega,by go_num,hid ⟨(HT.out.keep.next HK.out (fun _ _ x=>x) (fun _ _ x=>x.elim)).next H8.out.2 (fun _ _ x=>x) (fun _ _ x=>x),mapL m l,layL ps l,H8.out.1,by
        obtain⟨hdl,hget,hok,hpl,hdx,hl32,hlr,hm⟩:=H7.out
        rw[HS.out.2.1,decL_append,hdl]
        simp only[decL]
        rw[hdx],mapL_get l H7.out.2.2.1.sorted H7.out.2.1,H7.out.2.2.1.layL H7.out.2.2.2.2.2.2.1,by
        have:=layL_len l ps
        have:=H7.out.2.2.2.1
        have:=H7.out.2.2.2.2.2.1
        omega⟩⟩
       case measure=>simp[intOf];omega
    ·have h4:decide ((i:Int)<N)=false:=by simp;omega
     go_wp2_with (at_builtin;refine stopAt ?_;intro q hq)
     rw[H0.out.2.2]
     obtain⟨m,ps,hm,hdl,hget,hok,hpl⟩:=HT.out.ex
     obtain rfl:i=N:=by omega
     rw[HN.out,List.take_length] at hdl
     have e1:R=(0,some ⟨g,ps,false⟩,(openW D).2.2):=by
      rw[H0.out.2.1]
      unfold opS
      rw[HG.out.1]
      simp only
      rw[hdl]
     unfold SOpenTo
     rw[e1]
     obtain⟨hk3,hn3,hs3,-,hmb⟩:=H3.out
     obtain⟨hlog,hkw,hFl,hFd⟩:=H1.out
     have hk:Keep (fun _=>False) w1 wr:=(hk3.next H5.out.2 (H:=fun _=>False) (fun _ _ x=>x) (fun _ _ x=>x)).next HT.out.keep (fun _ _ x=>x) (fun k hk' x=>by omega)
     have hh:=HT.out.keep.get (H5.out.2.get hn3 id) (show ¬ (w1.heap.size+1=mb) by omega)
     have hlt1:=hlog.ltz
     have s0:=hkw.size
     have s1:=hk.size
     have hmlt:=MapAt.lt hm
     replace hh:wr.heap[w1.heap.size+1]?=some (.cells (stoCells (.pointer (some ⟨wb,0,none⟩)) mb false) 85 (0,0)):=by rw[hmb];exact hh
     refine⟨w1.heap.size+1,fun k=>Fl k∨k=mb∨k=w1.heap.size+1,Fd1,rfl,StoIs.at (wb:=wb) (mb:=mb) (m:=m) (Fl:=Fl) ⟨hh,hm,hlog.keep hk (fun _ _ x=>x) (fun _ _ x=>x),hget,fun k x=>⟨.inl x,?_,?_⟩,.inr (.inr rfl),.inr (.inl rfl),by omega,fun k x=>?_,fun k x y=>?_,hok⟩,
      hkw.next hk (fun _ _ x=>x) (fun _ _ x=>x.elim),fun k x=>?_,hFd⟩
     ·have:=hlt1 k (.inl x);omega
     ·have:=hlt1 k (.inl x);omega
     ·rcases x with x | x | x
      ·have:=hlt1 k (.inl x);omega
      ·omega
      ·subst x;exact heap_lt hh
     ·have:=hlt1 k (.inr y)
      rcases x with x | x | x
      ·exact hlog.apart_ k x y
      ·omega
      ·omega
     ·rcases x with x | x | x
      ·exact hFl k x
      ·omega
      ·omega
end Go.Proofs.Ytkjofdocgaiedaa
namespace Go.Proofs.Ytkjofdocgaiedaa
open Go.RowKit Go.Maps
open MI SO BM DM WM
def HvPost (w:World) (e:Ending) (w':World):Prop:=∃ x:Bool,e = .returned (.bool x)∧Keep (fun _=>False) w w'
end Go.Proofs.Ytkjofdocgaiedaa
namespace Go.Proofs.Ytkjofdocgaiedaa
open Go.RowKit Go.Maps
open MI SO BM DM WM
def DkT (d:Nat) (D:Dk):Thing:=fun w F=>DiskAt w d F D
def StoT (b d:Nat) (D:Dk) (S:St):Thing:=fun w F=>∃ F1 F2,StoAt w b d F1 F2 D S∧F=fun k=>F1 k∨F2 k
def SideP (d:Nat) (D:Dk) (o:Option St) (sv:Value):Thing:=fun w F=>
 match o with
 | none=>sv = .pointer none∧DkT d D w F
 | some S=>∃ b,sv = .pointer (some ⟨b,0,none⟩)∧StoT b d D S w F
theorem DkT.lives (d:Nat) (D:Dk):Lives (DkT d D):=⟨fun h hk hn=>DiskAt.keep h hk hn,fun h=>DiskAt.lt h⟩
theorem StoT.lives (b d:Nat) (D:Dk) (S:St):Lives (StoT b d D S):=
 ⟨fun ⟨F1,F2,h,e⟩ hk hn=>⟨F1,F2,h.keep hk (fun k x=>hn k (by rw[e];exact .inl x)) (fun k x=>hn k (by rw[e];exact .inr x)),e⟩,fun ⟨F1,F2,h,e⟩ k x=>h.ltw k (by rw[e] at x;exact x)⟩
theorem SideP.lives (d:Nat) (D:Dk) (o:Option St) (sv:Value):Lives (SideP d D o sv):=by
 cases o with
 | none=>exact⟨fun h hk hn=>⟨h.1,(DkT.lives d D).keep h.2 hk hn⟩,fun h=>(DkT.lives d D).lt h.2⟩
 | some S=>exact⟨fun ⟨b,h1,h2⟩ hk hn=>⟨b,h1,(StoT.lives b d D S).keep h2 hk hn⟩,fun ⟨b,_,h2⟩=>(StoT.lives b d D S).lt h2⟩
theorem StoTo.turns {b d:Nat} {F1 F2:Nat→Prop} {w w':World} {D:Dk} {S:St} (h:StoTo b d F1 F2 w D S w'):Turns (SideP d D (some S) (.pointer (some ⟨b,0,none⟩))) (fun k=>F1 k∨F2 k) w w':=by
 obtain⟨F',Fd',h1,h2,h3,h4⟩:=h
 exact⟨fun k=>F' k∨Fd' k,⟨b,rfl,F',Fd',h1,rfl⟩,h2,fun k x=>x.elim (fun y=>(h3 k y).imp .inl id) (fun y=>(h4 k y).imp .inr id)⟩
theorem SideP.disk {d:Nat} {D:Dk} {o:Option St} {sv:Value} {w:World} {F:Nat→Prop} (h:SideP d D o sv w F):∃ F',DkT d D w F'∧∀ k,F' k→F k:=by
 cases o with
 | none=>exact⟨F,h.2,fun _ x=>x⟩
 | some S=>
   obtain⟨b,-,F1,F2,h1,rfl⟩:=h
   exact⟨F2,h1.diskAt,fun _ x=>.inr x⟩
theorem SOpenTo.side {d:Nat} {Fd:Nat→Prop} {w w':World} {R:Int×Option St×Dk} {e:Ending} (h:SOpenTo d Fd w R e w'):∃ sv,e = .returned (.tuple #[sv,.int .i64 R.1])∧Turns (SideP d R.2.2 R.2.1 sv) Fd w w':=by
 obtain⟨r,o,D⟩:=R
 cases o with
 | none=>
   obtain⟨rfl,F',h1,h2,h3⟩:=h
   exact⟨_,rfl,F',⟨rfl,h1⟩,h2,h3⟩
 | some S=>
   obtain⟨b,F,Fd',rfl,h1,h2,h3,h4⟩:=h
   exact⟨_,rfl,fun k=>F k∨Fd' k,⟨b,rfl,F,Fd',h1,rfl⟩,h2,fun k x=>x.elim (fun y=>.inr (h3 k y)) (h4 k)⟩
end Go.Proofs.Ytkjofdocgaiedaa
namespace Go.Proofs.Ytkjofdocgaiedaa
open Go.ChangeShapes Go.WideShapes Go.RowKit Go.Deep
open MI SO BM DM WM
structure SAct where
 kind:Int
 n:Int
 list:List Ch
 keep:List Int
deriving Inhabited
def SActR (w:World) (cs:List Value) (x:SAct):Prop:=
 ∃ lv kv,cs = [.int .i64 x.kind,.int .i64 x.n,lv,kv]∧Chs w lv x.list∧Ints w kv x.keep∧(-9223372036854775808≤x.kind∧x.kind≤9223372036854775807)∧(-9223372036854775808≤x.n∧x.n≤9223372036854775807)
abbrev SActs (w:World) (v:Value) (l:List SAct):Prop:=SliceOf w 4 (SActR w) v l
def ChLR (w:World) (cs:List Value) (x:List Ch):Prop:=∃ lv,cs = [lv]∧Chs w lv x
abbrev ChLs (w:World) (v:Value) (l:List (List Ch)):Prop:=SliceOf w 1 (ChLR w) v l
section
variable {H:Type} {enc:TypeId×Value→H} {w:World} {base:Nat} {held:Bool} {fuel:Nat}
end
end Go.Proofs.Ytkjofdocgaiedaa
namespace Go.Proofs.Ytkjofdocgaiedaa
open Go.RowKit Go.Maps
open MI SO BM DM WM
structure One (w0:World) (T:Thing) (F:Nat→Prop) (w:World):Prop where
 one:T w F
 new:∀ i,F i→w0.heap.size≤i
 keep:Keep (fun _=>False) w0 w
theorem One.turn {w0 w w':World} {T T':Thing} {F:Nat→Prop} (h:One w0 T F w) (t:Turns T' F w w'):∃ F',One w0 T' F' w':=by
 obtain⟨F',h1,h2,h3⟩:=t
 exact⟨F',h1,fun i x=>(h3 i x).elim (h.new i) fun z=>Nat.le_trans h.keep.size z,h.keep.next h2 (fun _ _ x=>x) (fun i hi x=>absurd (h.new i x) (by omega))⟩
theorem One.later {w0 w w':World} {T:Thing} {F:Nat→Prop} (h:One w0 T F w) (LT:Lives T) (hk:Keep (fun _=>False) w w'):One w0 T F w':=⟨LT.keep h.one hk (fun _ _ x=>x),h.new,h.keep.next hk (fun _ _ x=>x) (fun _ _ x=>x)⟩
theorem One.shrink {w0 w:World} {T T':Thing} {F F':Nat→Prop} (h:One w0 T F w) (h1:T' w F') (s:∀ k,F' k→F k):One w0 T' F' w:=⟨h1,fun i x=>h.new i (s i x),h.keep⟩
def ncL:List Ch:=[⟨[97],[120],false⟩,⟨[98],[],true⟩]
def nS0:St:=⟨⟨0,[],0,false⟩,[],false⟩
def nD0:Dk:=DM.new 20
def nD1:Dk:=(doS nD0 nS0 ncL).2.1
def nS1:St:=⟨⟨0,[[2,1,97,0,1,120,1,98,1]],0,false⟩,[([97],[120])],false⟩
end Go.Proofs.Ytkjofdocgaiedaa
namespace Go.Proofs.Ytkjofdocgaiedaa
open Go.RowKit Go.Maps
open MI SO BM DM WM
structure RcIn (w:World) (ps:List (Str×Str)) (lv:Value) (i:Nat) (wr:World):Prop where
 keep:Keep (fun _=>False) w wr
 ex:∃ vs,Recs wr (fun k=>w.heap.size≤k) (fun _=>False) lv (cpL (ps.take i)) vs
end Go.Proofs.Ytkjofdocgaiedaa
namespace Go.Proofs.Ytkjofdocgaiedaa
open Go.RowKit Go.Maps
open MI SO BM DM WM
end Go.Proofs.Ytkjofdocgaiedaa
namespace Go.Proofs.Ytkjofdocgaiedaa
open Go.RowKit Go.Maps
open MI SO BM DM WM
end Go.Proofs.Ytkjofdocgaiedaa
namespace Go.Proofs.Ytkjofdocgaiedaa
open Go.RowKit Go.Maps
open MI SO BM DM WM
end Go.Proofs.Ytkjofdocgaiedaa
namespace Go.Proofs.Ytkjofdocgaiedaa
open Go.RowKit Go.Maps
open MI SO BM DM WM
def BoxT (p:Nat) (cs:Array Value) (t:TypeId):Thing:=fun w F=>w.heap[p]?=some (.cells cs t (0,0))∧F p∧∀ k,F k→k<w.heap.size
theorem BoxT.lives (p:Nat) (cs:Array Value) (t:TypeId):Lives (BoxT p cs t):=
 ⟨fun ⟨h1,h2,h3⟩ hk hn=>⟨hk.get h1 (hn _ h2),h2,fun k x=>Nat.lt_of_lt_of_le (h3 k x) hk.size⟩,fun h=>h.2.2⟩
theorem Three.shrink {w0 w:World} {T U V T' U' V':Thing} {F G H F' G' H':Nat→Prop} (h:Three w0 T F U G V H w) (h1:T' w F') (h2:U' w G') (h3:V' w H') (s1:∀ k,F' k→F k) (s2:∀ k,G' k→G k) (s3:∀ k,H' k→H k):Three w0 T' F' U' G' V' H' w:=
 ⟨h1,h2,h3,fun i x y=>h.a12 i (s1 i x) (s2 i y),fun i x y=>h.a13 i (s1 i x) (s3 i y),fun i x y=>h.a23 i (s2 i x) (s3 i y),fun i x=>h.new1 i (s1 i x),fun i x=>h.new2 i (s2 i x),fun i x=>h.new3 i (s3 i x),h.keep⟩
abbrev pairC (d m:Nat) (sv rv:Value):Array Value:=#[.pointer (some ⟨d,0,none⟩),sv,.pointer (some ⟨m,0,none⟩),rv]
def SO.Sim (D:Dk) (o o2:Option St):Prop:=o2=o∨∃ S,o=some S∧o2=some (markS D S)
theorem SO.Sim.refl (D:Dk) (o:Option St):Sim D o o:=.inl rfl
theorem SO.Sim.none {D:Dk} {o2:Option St} (h:Sim D none o2):o2=none:=h.elim id fun ⟨_,h,_⟩=>by cases h
theorem SO.Sim.some {D:Dk} {S:St} {o2:Option St} (h:Sim D (some S) o2):∃ S2,o2=Option.some S2∧(S2=S∨S2=markS D S):=by
 rcases h with h | ⟨S',h1,h2⟩
 ·exact⟨S,h,.inl rfl⟩
 ·cases h1;exact⟨_,h2,.inr rfl⟩
theorem SO.Sim.arm {D:Dk} {o o2:Option St} (h:Sim D o o2) (n:Int):Sim (DM.arm D n) o o2:=h.imp id fun ⟨S,h1,h2⟩=>⟨S,h1,h2⟩
theorem SO.Sim.mk {D:Dk} {S S2:St} (h:S2=S∨S2=markS D S):Sim D (Option.some S) (Option.some S2):=h.imp (fun h=>by rw[h]) fun h=>⟨S,rfl,by rw[h]⟩
theorem SO.mark_cases {D:Dk} {S S2:St} (h:S2=S∨S2=markS D S):S2=S∨(S.dead=false∧gone D S.g=true∧S2=⟨WM.mark D S.g,S.ps,false⟩):=by
 rcases h with h | h
 ·exact .inl h
 ·unfold markS at h
  split at h
  ·exact .inl h
  ·rename_i hd
   cases hg:gone D S.g with
   | false=>rw[mark_up hg] at h;exact .inl h
   | true=>exact .inr ⟨by simpa using hd,rfl,by rw[h];simp at hd;rw[hd]⟩
theorem SO.sim_ps {D:Dk} {S S2:St} (h:S2=S∨S2=markS D S):S2.ps=S.ps∧S2.dead=S.dead∧S2.g.l=S.g.l∧S2.g.safe=S.g.safe∧gone D S2.g=gone D S.g:=by
 rcases mark_cases h with rfl | ⟨hd,hg,e⟩
 ·exact⟨rfl,rfl,rfl,rfl,rfl⟩
 ·subst e
  exact⟨rfl,hd.symm,rfl,rfl,gone_mark _ _⟩
theorem Three.box {W w w':World} {p:Nat} {cs cs':Array Value} {t:TypeId} {U V:Thing} {A G H:Nat→Prop} (h:Three W (BoxT p cs t) A U G V H w) (LU:Lives U) (LV:Lives V) (hk:Keep (fun k=>k=p) w w') (hh:w'.heap[p]?=some (.cells cs' t (0,0))):∃ A',Three W (BoxT p cs' t) A' U G V H w':=
 h.turn1 LU LV ⟨A,⟨hh,h.one.2.1,fun k x=>Nat.lt_of_lt_of_le (h.one.2.2 k x) hk.size⟩,hk.mono fun k _ e=>by subst e;exact h.one.2.1,fun _ x=>.inl x⟩
end Go.Proofs.Ytkjofdocgaiedaa
namespace Go.Proofs.Ytkjofdocgaiedaa
open Go.RowKit Go.Maps
open MI SO BM DM WM
end Go.Proofs.Ytkjofdocgaiedaa
namespace Go.Proofs.Ytkjofdocgaiedaa
open Go.RowKit Go.Maps
open MI SO BM DM WM
theorem Ints.cells {w:World} {v:Value} {l:List Int} (h:Ints w v l) :
  ∃ ao c,v = .slice ao l.length c∧l.length≤c∧c≤maxLen∧Cells w ao l.length 1 (intsV l)∧∀ z ∈ l,-9223372036854775808≤z∧z≤9223372036854775807:=by
 obtain⟨ao,c,rfl,h1,h2,h3⟩:=h
 refine⟨ao,c,rfl,h1,h2,⟨by simp[intsV_length],fun hp=>?_⟩,fun z hz=>?_⟩
 ·obtain⟨ad,rfl,h4⟩:=h3 (by omega)
  refine⟨ad,rfl,fun j u hu=>?_⟩
  have hj:j<l.length:=by have:=(List.getElem?_eq_some_iff.1 hu).1;rwa [intsV_length] at this
  obtain⟨cs,_,⟨rfl,_⟩,hc⟩:=h4 j hj
  have:=hc 0 _ rfl
  rw[Nat.mul_one,Nat.add_zero] at this
  rw[this]
  simpa [intsV,hj] using hu
 ·obtain⟨j,hj,rfl⟩:=List.getElem_of_mem hz
  obtain⟨ad,rfl,h4⟩:=h3 (by omega)
  obtain⟨cs,_,⟨_,h5⟩,_⟩:=h4 j hj
  exact h5
theorem Cells.lt {w:World} {x:Addr} {n size:Nat} {xs:List Value} (h:Cells w (some x) n size xs) (hp:0<n * size):x.block<w.heap.size:=by
 obtain⟨ad,had,hc⟩:=h.2 hp
 cases had
 have hl:0<xs.length:=by rw[h.1];exact hp
 have:=World.block_lt_of_cell? w _ (hc 0 _ (List.getElem?_eq_getElem hl))
 rwa [show (x.add 0)=x by simp[Addr.add]] at this
end Go.Proofs.Ytkjofdocgaiedaa
namespace Go.Proofs.Ytkjofdocgaiedaa
open Go.RowKit Go.Maps
open MI SO BM DM WM
theorem StoAt.arm {w w':World} {b d:Nat} {F Fd:Nat→Prop} {D:Dk} {S:St} {n:Int} (H:StoAt w b d F Fd D S) (ht:DiskTo d Fd w (DM.arm D n) w'):StoTo b d F Fd w (DM.arm D n) S w':=by
 obtain⟨wb,mb,m,Fl,HI⟩:=H
 obtain⟨ga,ca,vl,vs,L⟩:=HI.log
 obtain⟨Fd',a1,a2,a3⟩:=ht
 refine⟨F,Fd',⟨wb,mb,m,Fl,⟨a2.get HI.head (HI.apart _ HI.self),MapAt.keep HI.map a2 (HI.apart _ HI.fm),⟨ga,ca,vl,vs,⟨L.wal.keep a2 (fun k x=>L.apart k x),a1,fun k x y=>?_⟩⟩,HI.get,HI.inl,HI.self,HI.fm,HI.ne,fun k x=>Nat.lt_of_lt_of_le (HI.lt k x) a2.size,fun k x y=>?_,HI.ok⟩⟩,a2.mono fun _ _ x=>.inr x,fun _ x=>.inl x,a3⟩
 ·rcases a3 k y with z | z
  ·exact L.apart k x z
  ·have:=L.wal.lt k x;omega
 ·rcases a3 k y with z | z
  ·exact HI.apart k x z
  ·have:=HI.lt k x;omega
theorem SideP.arm {w:World} {d:Nat} {F:Nat→Prop} {D:Dk} {o:Option St} {sv:Value} (h:SideP d D o sv w F):∃ F',DiskAt w d F' D∧(∀ k,F' k→F k)∧∀ w' n,DiskTo d F' w (DM.arm D n) w'→Turns (SideP d (DM.arm D n) o sv) F w w':=by
 cases o with
 | none=>
   obtain⟨e,h1⟩:=h
   exact⟨F,h1,fun _ x=>x,fun w' n ⟨Fd',a1,a2,a3⟩=>⟨Fd',⟨e,a1⟩,a2,a3⟩⟩
 | some S=>
   obtain⟨b,rfl,F1,F2,h1,rfl⟩:=h
   exact⟨F2,h1.diskAt,fun _ x=>.inr x,fun w' n ht=>(h1.arm ht).turns⟩
end Go.Proofs.Ytkjofdocgaiedaa
namespace Go.Proofs.Ytkjofdocgaiedaa
open Go.RowKit Go.Maps
open MI SO BM DM WM
end Go.Proofs.Ytkjofdocgaiedaa
namespace Go.Proofs.Ytkjofdocgaiedaa
open Go.ChangeShapes Go.WideShapes Go.RowKit Go.Deep
open MI SO BM DM WM
theorem addr_add2 (a:Addr) (i j:Nat):(a.add i).add j=a.add (i+j):=by
 by_cases hi:i=0
 ·subst hi;simp[Addr.add]
 ·rw[add_pos a i (by omega)]
  by_cases hj:j=0
  ·subst hj;rw[Nat.add_zero,add_pos a i (by omega)];simp[Addr.add]
  ·rw[add_pos _ j (by omega),add_pos a (i+j) (by omega),Nat.add_assoc]
theorem SActs.row {w w':World} {ao:Option Addr} {m c:Nat} {l:List SAct} (h:SActs w (.slice ao m c) l) (hk:Keep (fun _=>False) w w') (i:Nat) (hi:i<l.length) :
  ∃ ad lv kv,ao=some ad∧(∀ j u,[Value.int .i64 l[i].kind,.int .i64 l[i].n,lv,kv][j]?=some u→w'.cell? ((ad.add (i * 4)).add j)=some u)∧Chs w lv l[i].list∧Ints w kv l[i].keep∧
   (-9223372036854775808≤l[i].kind∧l[i].kind≤9223372036854775807)∧(-9223372036854775808≤l[i].n∧l[i].n≤9223372036854775807):=by
 obtain⟨ao',c',hv,_,_,h3⟩:=h
 cases hv
 obtain⟨ad,rfl,h4⟩:=h3 (by omega)
 obtain⟨cs,_,⟨lv,kv,rfl,h5⟩,hc⟩:=h4 i hi
 refine⟨ad,lv,kv,rfl,fun j u hu=>?_,h5⟩
 rw[addr_add2]
 exact cell_old hk _ _ (hc j u hu)
theorem SActs.get {w w':World} {ao:Option Addr} {m c:Nat} {l:List SAct} (h:SActs w (.slice ao m c) l) (hk:Keep (fun _=>False) w w') (i:Nat) (hi:i<l.length) :
  ∃ ad lv kv,ao=some ad∧w'.cell? (ad.add (i * 4))=some (.int .i64 l[i].kind)∧w'.cell? { block:=(ad.add (i * 4)).block,off:=(ad.add (i * 4)).off+1 }=some (.int .i64 l[i].n)∧
   w'.cell? { block:=(ad.add (i * 4)).block,off:=(ad.add (i * 4)).off+2 }=some lv∧w'.cell? { block:=(ad.add (i * 4)).block,off:=(ad.add (i * 4)).off+3 }=some kv∧
   (∀ j u,[Value.int .i64 l[i].kind,.int .i64 l[i].n,lv,kv][j]?=some u→w'.cell? ((ad.add (i * 4)).add j)=some u)∧Chs w lv l[i].list∧Ints w kv l[i].keep∧
   (-9223372036854775808≤l[i].kind∧l[i].kind≤9223372036854775807)∧(-9223372036854775808≤l[i].n∧l[i].n≤9223372036854775807):=by
 obtain⟨ad,lv,kv,rfl,hc,h5⟩:=h.row hk i hi
 have h0:=hc 0 _ rfl
 have h1:=hc 1 _ rfl
 have h2:=hc 2 _ rfl
 have h3:=hc 3 _ rfl
 rw[add_pos _ _ (by decide)] at h1 h2 h3
 exact⟨ad,lv,kv,rfl,h0,h1,h2,h3,hc,h5⟩
abbrev sactV (x:SAct) (lv kv:Value):Value:=.agg #[.int .i64 x.kind,.int .i64 x.n,lv,kv]
def stepS (D:Dk) (o:Option St) (x:SAct):Dk×Option St:=
 if x.kind=5 then ((opS (DM.crash D x.keep)).2.2,(opS (DM.crash D x.keep)).2.1)
 else if x.kind=6 then (DM.arm D x.n,o)
 else match o with
 | none=>(D,none)
 | some S=>
   if x.kind=0∨x.kind=1∨x.kind=2 then ((doS D S x.list).2.1,some (doS D S x.list).2.2)
   else if x.kind=3 then ((syS D S).2.1,some (syS D S).2.2)
   else if x.kind=4 then ((cpS D S).2.1,some (cpS D S).2.2)
   else (D,some S)
def few (o:Option St) (n:Nat):Prop:=∀ S,o=some S→S.dead=false→S.ps.length≤n
end Go.Proofs.Ytkjofdocgaiedaa
namespace Go.Proofs.Ytkjofdocgaiedaa.SO
open Go.Proofs.Ytkjofdocgaiedaa MI BM DM WM
theorem append_spec {D:Dk} (h6:6≤D.safe.length) (G:Lg) (b:List UInt8) :
  ((WM.append D G b).1=0∧(WM.append D G b).2.2 = { G with l:=G.l ++ [b],dead:=false }∧(flat (G.l ++ [b])).length≤32 * half D∧b.length≤1024∧gone D G=false)∨(WM.append D G b).1=6∨(((WM.append D G b).1=3∨(WM.append D G b).1=5)∧(WM.append D G b).2=(D,G)∧gone D G=false):=by
 unfold WM.append
 split
 ·exact .inr (.inl rfl)
 ·rename_i hg
  have hg:gone D G=false:=by simpa using hg
  split
  ·exact .inr (.inr ⟨.inl rfl,rfl,hg⟩)
  ·rename_i h3
   split
   ·exact .inr (.inr ⟨.inr rfl,rfl,hg⟩)
   ·rename_i hr
    have hf:=flat_snoc G.l b
    unfold room at hr
    have hfit:(flat (G.l ++ [b])).length≤32 * half D:=by omega
    have ha:(area D (G.l ++ [b])).length=32 * half D:=areaH_length hfit
    obtain⟨-,-,h4,-⟩:=lay_waits_all G.ep (area D (G.l ++ [b])) (((flat (G.l ++ [b])).length - 1) / 32 - (flat G.l).length / 32+1) ((flat G.l).length / 32) D h6 (by omega) ha
    simp only
    by_cases h0:(lay G.ep (area D (G.l ++ [b])) ((flat G.l).length / 32) (((flat (G.l ++ [b])).length - 1) / 32 - (flat G.l).length / 32+1) D).1=0
    ·exact .inl ⟨h0,by rw[h0];rfl,hfit,by omega,hg⟩
    ·exact .inr (.inl (h4 h0))
theorem headSec_len (ep:Nat):(headSec ep).length=32:=by
 have h1:=putU_le 10 ep
 have h2:=frame_length 1 (putUint ep)
 have h3:(putUint ep).length≤10:=h1
 unfold headSec
 rw[List.length_append,List.length_replicate]
 omega
theorem reset_spec {D:Dk} (h6:6≤D.safe.length) (G:Lg) (L:List (List UInt8)) :
  ((WM.reset D G L).1=0∧(WM.reset D G L).2.2=⟨G.ep+1,L,L.length,false⟩∧(flat L).length≤32 * half D∧gone D G=false)∨(WM.reset D G L).1=6∨(((WM.reset D G L).1=3∨(WM.reset D G L).1=5)∧(WM.reset D G L).2=(D,G)∧gone D G=false):=by
 unfold WM.reset
 split
 ·exact .inr (.inl rfl)
 ·rename_i hg
  have hg:gone D G=false:=by simpa using hg
  split
  ·exact .inr (.inr ⟨.inl rfl,rfl,hg⟩)
  ·split
   ·exact .inr (.inr ⟨.inr rfl,rfl,hg⟩)
   ·rename_i hf
    have hfit:(flat L).length≤32 * half D:=by omega
    obtain⟨h1,-⟩:=turn_all h6 (G.ep+1) (area D L) (areaH_length hfit) (headSec_len _)
    simp only
    split
    ·rename_i h0;exact .inl ⟨rfl,rfl,hfit,hg⟩
    ·rename_i h0;exact .inr (.inl (h1 h0))
theorem sync_code (D:Dk):(DM.sync D).1=0∨(DM.sync D).1=6:=by
 unfold DM.sync
 split
 ·exact .inl rfl
 ·exact .inr rfl
theorem lay1_end:∀ (q:List (Str×Str)) (k v:Str),(∀ p ∈ q,p.1<k)→lay1 q ⟨k,v,false⟩=q ++ [(k,v)]
 | [],k,v,_=>rfl
 | p :: q,k,v,h=>by
   unfold lay1
   rw[if_pos (h p (by simp)),lay1_end q k v (fun p hp=>h p (by simp[hp]))]
   rfl
theorem decL_cp:∀ (ps q:List (Str×Str)),Sorted (q ++ ps)→(∀ p ∈ ps,OkP p)→decL (cpL ps) q=some (q ++ ps)
 | [],q,_,_=>by simp[cpL,decL]
 | p :: ps,q,hs,ho=>by
   have hp:=ho p (by simp)
   have hr:=right_one hp
   have hl:=enc_len hr
   have hd:=enc_dec hr (by simp at hl;omega)
   show decL (enc [⟨p.1,p.2,false⟩] :: cpL ps) q=_
   unfold decL
   rw[hd]
   have e:layL q [⟨p.1,p.2,false⟩]=q ++ [p]:=by
    show lay1 q ⟨p.1,p.2,false⟩=_
    rw[lay1_end q p.1 p.2 (fun a ha=>(List.pairwise_append.1 hs).2.2 a ha p (by simp))]
   simp only
   rw[e,decL_cp ps (q ++ [p]) (by simpa using hs) (fun a ha=>ho a (by simp[ha]))]
   simp
theorem decL_len:∀ (L:List (List UInt8)) (ps q:List (Str×Str)),decL L ps=some q→q.length≤ps.length+32 * L.length
 | [],ps,q,h=>by cases h;simp
 | b :: L,ps,q,h=>by
   unfold decL at h
   cases hd:dec b with
   | none=>rw[hd] at h;cases h
   | some l=>
     rw[hd] at h
     have h1:=decL_len L _ q h
     have h2:=layL_len l ps
     have h3:=(dec_len hd).1
     simp only[List.length_cons]
     omega
def Okay (S:St):Prop:=S.dead=false→decL S.g.l []=some S.ps
def OkO (o:Option St):Prop:=∀ S,o=some S→Okay S
theorem Okay.few {S:St} (h:Okay S) (hl:S.g.l.length≤4000):S.dead=false→S.ps.length≤128000:=fun hd=>by
 have:=decL_len _ _ _ (h hd)
 simp at this
 omega
theorem Okay.mark {D:Dk} {S S2:St} (h:Okay S) (hs:S2=S∨S2=markS D S):Okay S2:=by
 obtain⟨h1,h2,h3,-⟩:=sim_ps hs
 intro hd
 rw[h1,h3]
 exact h (by rw[← h2];exact hd)
theorem okay_ap {D:Dk} (h6:6≤D.safe.length) {S:St} (h:Okay S) (hd:S.dead=false) {l:List Ch} (he:encE l=0) :
  ((apS D S (enc l)).1=0→(apS D S (enc l)).2.2.dead=false∧decL (apS D S (enc l)).2.2.g.l []=some (layL S.ps l))∧((apS D S (enc l)).1≠0→Okay (apS D S (enc l)).2.2):=by
 obtain⟨hl,hr⟩:=wbytes l he
 unfold apS
 rcases append_spec h6 S.g (enc l) with ⟨h0,h1,-⟩ | h1 | ⟨h0,h1,-⟩
 ·refine⟨fun _=>⟨by simp only;rw[h0];rfl,?_⟩,fun hne=>absurd h0 hne⟩
  simp only
  rw[h1]
  simp only
  rw[decL_append,h hd]
  simp only[decL]
  rw[enc_dec hr hl]
 ·refine⟨fun h0=>(by simp only at h0;rw[h1] at h0;cases h0),fun _ hd'=>?_⟩
  simp only at hd'
  rw[h1] at hd'
  cases hd'
 ·refine⟨fun h2=>(by simp only at h2;rcases h0 with h0 | h0 <;> rw[h0] at h2 <;> cases h2),fun _ _=>?_⟩
  simp only
  rw[h1]
  exact h hd
theorem okay_cp {D:Dk} (h6:6≤D.safe.length) {S:St} (h:Okay S) (hp:PsOk S.ps):Okay (cpS D S).2.2:=by
 unfold cpS
 split
 ·exact h
 ·rename_i hd
  rcases reset_spec h6 S.g (cpL S.ps) with ⟨h0,h1,-⟩ | h1 | ⟨h0,h1,-⟩
  ·intro _
   simp only
   rw[h1]
   exact decL_cp S.ps [] (by simpa using hp.sorted) hp.each
  ·intro hd'
   simp only at hd'
   rw[h1] at hd'
   cases hd'
  ·intro _
   simp only
   rw[h1]
   exact h (by simpa using hd)
theorem cpS_len (D:Dk) (S:St):(cpS D S).2.1.safe.length=D.safe.length:=by
 unfold cpS
 split
 ·rfl
 ·exact reset_len D S.g _
theorem okay_do {D:Dk} (h6:6≤D.safe.length) {S:St} (h:Okay S) (hp:PsOk S.ps) (l:List Ch):Okay (doS D S l).2.2:=by
 unfold doS
 split
 ·exact h
 ·rename_i hd
  have hd:S.dead=false:=by simpa using hd
  split
  ·exact h
  ·rename_i he
   have he:encE l=0:=by omega
   obtain⟨a1,a2⟩:=okay_ap h6 h hd he
   have hcp:=okay_cp (D:=D) h6 h hp
   have key:((intoS D S (enc l)).1=0→(intoS D S (enc l)).2.2.dead=false∧decL (intoS D S (enc l)).2.2.g.l []=some (layL S.ps l))∧((intoS D S (enc l)).1≠0→Okay (intoS D S (enc l)).2.2):=by
    unfold intoS
    split
    ·rename_i h5
     have hk:=a2 (by omega)
     have hps:(apS D S (enc l)).2.2.ps=S.ps:=rfl
     have h6':6≤(apS D S (enc l)).2.1.safe.length:=by
      show 6≤(WM.append D S.g (enc l)).2.1.safe.length
      rw[append_len];exact h6
     have hk2:=okay_cp h6' hk (by rw[hps];exact hp)
     split
     ·rename_i hc
      have hdd:=cpS_dead hc
      have:=okay_ap (D:=(cpS (apS D S (enc l)).2.1 (apS D S (enc l)).2.2).2.1) (by rw[cpS_len];exact h6') hk2 hdd he
      rw[cpS_ps,hps] at this
      exact this
     ·rename_i hc
      exact⟨fun h0=>absurd h0 hc,fun _=>hk2⟩
    ·exact⟨a1,a2⟩
   unfold laidS
   by_cases h0:(intoS D S (enc l)).1=0
   ·rw[if_pos h0]
    intro _
    simp only
    rw[intoS_ps]
    exact(key.1 h0).2
   ·rw[if_neg h0]
    exact key.2 h0
theorem okay_sy (D:Dk) {S:St} (h:Okay S):Okay (syS D S).2.2:=by
 unfold syS
 split
 ·exact h
 ·rename_i hd
  intro _
  have e:(WM.syncW D S.g).2.2.l=S.g.l:=by
   unfold WM.syncW
   split
   ·rfl
   ·simp only
    split <;> rfl
  simp only
  rw[e]
  exact h (by simpa using hd)
theorem okay_op (D:Dk):OkO (opS D).2.1:=by
 intro S hS _
 unfold opS at hS
 split at hS
 ·cases hS
 ·rename_i g hg
  split at hS
  ·cases hS
  ·rename_i ps hp
   cases hS
   exact hp
theorem doS_waits {D:Dk} (h:D.safe.length≤2048) (S:St) (l:List Ch):(doS D S l).2.1.waits.length≤D.waits.length+5120:=by
 have ha:∀ (D:Dk) (S:St) (b:List UInt8),D.safe.length≤2048→(apS D S b).2.1.waits.length≤D.waits.length+2048:=fun D S b h=>append_waits h S.g b
 have hi:(intoS D S (enc l)).2.1.waits.length≤D.waits.length+5120:=by
  have h1:=ha D S (enc l) h
  have hl:(apS D S (enc l)).2.1.safe.length≤2048:=by
   show (WM.append D S.g (enc l)).2.1.safe.length≤2048
   rw[append_len];exact h
  have h2:=cpS_waits hl (S:=(apS D S (enc l)).2.2)
  unfold intoS
  split
  ·split
   ·have h3:=ha (cpS (apS D S (enc l)).2.1 (apS D S (enc l)).2.2).2.1 (cpS (apS D S (enc l)).2.1 (apS D S (enc l)).2.2).2.2 (enc l) (by rw[cpS_len];exact hl)
    omega
   ·omega
  ·omega
 unfold doS
 split
 ·exact Nat.le_add_right _ _
 ·split
  ·exact Nat.le_add_right _ _
  ·exact hi
theorem syS_waits (D:Dk) (S:St):(syS D S).2.1.waits.length≤D.waits.length:=by
 unfold syS
 split
 ·exact Nat.le_refl _
 ·exact syncW_waits D S.g
end Go.Proofs.Ytkjofdocgaiedaa.SO
namespace Go.Proofs.Ytkjofdocgaiedaa.AC
open Go.Proofs.Ytkjofdocgaiedaa MI SO BM DM WM
structure Ac where
 s:St
 b:Bal
 vs:List Vt
def doA (D:Dk) (S:St) (l:List Ch):Int×Dk×St:=if (doS D S l).1=0 then syS (doS D S l).2.1 (doS D S l).2.2 else doS D S l
def fromV (vs:List Vt) (k:Nat):List Vt:=vs.filter fun v=>decide (k≤v.slot)
def prepA (D:Dk) (A:Ac) (b:Bal) (k:Nat):(List Vt×Bal×Int)×Dk×Ac:=
 if rightB b=false then (([],Bal.zero,2),D,A)
 else if A.s.dead then (([],Bal.zero,6),D,A)
 else if less b A.b then (([],A.b,90),D,A)
 else if b=A.b then ((fromV A.vs k,b,0),D,A)
 else if (doA D A.s (promL b)).1=0 then ((fromV A.vs k,b,0),(doA D A.s (promL b)).2.1,⟨(doA D A.s (promL b)).2.2,b,A.vs⟩)
 else (([],Bal.zero,(doA D A.s (promL b)).1),(doA D A.s (promL b)).2.1,⟨(doA D A.s (promL b)).2.2,A.b,A.vs⟩)
def rightV (v:Vt):Bool:=rightB v.bal && (decide (v.slot≠0) && decide (v.val.length≤100))
def acceptA (D:Dk) (A:Ac) (v:Vt):(Bal×Int)×Dk×Ac:=
 if rightV v=false then ((Bal.zero,2),D,A)
 else if A.s.dead then ((Bal.zero,6),D,A)
 else if less v.bal A.b then ((A.b,90),D,A)
 else if (doA D A.s (voteL v)).1=0 then ((v.bal,0),(doA D A.s (voteL v)).2.1,⟨(doA D A.s (voteL v)).2.2,v.bal,insV A.vs v⟩)
 else ((Bal.zero,(doA D A.s (voteL v)).1),(doA D A.s (voteL v)).2.1,⟨(doA D A.s (voteL v)).2.2,A.b,A.vs⟩)
def cutV (vs:List Vt) (k:Nat):List Vt:=(vs.filter fun v=>decide (v.slot≤k)).take 32
def trimA (D:Dk) (A:Ac) (k:Nat):(Nat×Int)×Dk×Ac:=
 if A.s.dead then ((0,6),D,A)
 else if cutV A.vs k = [] then ((0,0),D,A)
 else if (doS D A.s (trimL (cutV A.vs k))).1=0 then (((cutV A.vs k).length,0),(doS D A.s (trimL (cutV A.vs k))).2.1,⟨(doS D A.s (trimL (cutV A.vs k))).2.2,A.b,A.vs.drop (cutV A.vs k).length⟩)
 else ((0,(doS D A.s (trimL (cutV A.vs k))).1),(doS D A.s (trimL (cutV A.vs k))).2.1,⟨(doS D A.s (trimL (cutV A.vs k))).2.2,A.b,A.vs⟩)
def openA (D:Dk):Int×Option Ac×Dk:=match (opS D).2.1 with
 | none=>((opS D).1,none,(opS D).2.2)
 | some S=>match rd S.ps with
   | none=>(91,none,(opS D).2.2)
   | some (b,vs)=>(0,some ⟨S,b,vs⟩,(opS D).2.2)
def Ac.prom (A:Ac):Bal:=if A.s.dead then Bal.zero else A.b
def Ac.votes (A:Ac) (k:Nat):List Vt:=if A.s.dead then [] else fromV A.vs k
structure AOk (A:Ac):Prop where
 ok:A.s.dead=false→VOk A.b A.vs
 ps:A.s.dead=false→A.s.ps=encP A.b A.vs
theorem intoS_dead6 {D:Dk} {S:St} (_hd:S.dead=false) (b:List UInt8):(intoS D S b).2.2.dead=decide ((intoS D S b).1=6):=by
 have ha:∀ (D:Dk) (S:St),(apS D S b).2.2.dead=decide ((apS D S b).1=6):=fun D S=>rfl
 have hc:∀ (D:Dk) (S:St),S.dead=false→(cpS D S).2.2.dead=decide ((cpS D S).1=6):=fun D S h=>by
  unfold cpS
  rw[h]
  rfl
 unfold intoS
 split
 ·split
  ·exact ha _ _
  ·rename_i h5 h0
   refine hc _ _ ?_
   rw[ha,h5]
   rfl
 ·exact ha _ _
theorem doS_cases {D:Dk} {S:St} (hd:S.dead=false) (l:List Ch) :
  ((doS D S l).1=0∧(doS D S l).2.2.ps=layL S.ps l∧(doS D S l).2.2.dead=false)∨((doS D S l).1=6∧(doS D S l).2.2.dead=true)∨
  ((doS D S l).1≠0∧(doS D S l).1≠6∧(doS D S l).2.2.ps=S.ps∧(doS D S l).2.2.dead=false):=by
 by_cases he:encE l=0
 ·have e:doS D S l=laidS (intoS D S (enc l)) l:=by unfold doS;rw[hd];simp[he]
  have h6:=intoS_dead6 (D:=D) hd (enc l)
  have hps:=intoS_ps D S (enc l)
  rw[e]
  unfold laidS
  by_cases h0:(intoS D S (enc l)).1=0
  ·left
   rw[if_pos h0]
   refine⟨h0,by simp only;rw[hps],?_⟩
   simp only
   rw[h6,h0]
   rfl
  ·right
   rw[if_neg h0]
   by_cases h:(intoS D S (enc l)).1=6
   ·left
    exact⟨h,by simp only;rw[h6,h];rfl⟩
   ·right
    exact⟨h0,h,hps,by simp only;rw[h6];exact decide_eq_false h⟩
 ·have e:doS D S l=((encE l:Int),D,S):=by unfold doS;rw[hd];simp[he]
  have h6:encE l≠6:=by
   unfold encE
   split
   ·split <;> decide
   ·decide
  right;right
  rw[e]
  exact⟨by simp only;omega,by simp only;omega,rfl,hd⟩
theorem syS_cases {D:Dk} {S:St} (hd:S.dead=false):((syS D S).2.2.dead=decide ((syS D S).1=6))∧(syS D S).2.2.ps=S.ps∧((syS D S).1=0∨(syS D S).1=6):=by
 unfold syS
 rw[hd]
 simp only[Bool.false_eq_true,if_false]
 refine⟨trivial,trivial,?_⟩
 unfold WM.syncW
 split
 ·exact .inr rfl
 ·simp only
  split
  ·exact .inl rfl
  ·right
   rename_i h
   rcases sync_code D with x | x
   ·exact absurd x h
   ·exact x
theorem doA_cases {D:Dk} {S:St} (hd:S.dead=false) (l:List Ch) :
  ((doA D S l).1=0∧(doA D S l).2.2.ps=layL S.ps l∧(doA D S l).2.2.dead=false)∨((doA D S l).1=6∧(doA D S l).2.2.dead=true)∨
  ((doA D S l).1≠0∧(doA D S l).1≠6∧(doA D S l).2.2.ps=S.ps∧(doA D S l).2.2.dead=false):=by
 rcases doS_cases (D:=D) hd l with ⟨h1,h2,h3⟩ | ⟨h1,h2⟩ | ⟨h1,h2,h3,h4⟩
 ·have e:doA D S l=syS (doS D S l).2.1 (doS D S l).2.2:=by unfold doA;rw[if_pos h1]
  rw[e]
  obtain⟨g1,g2,g3⟩:=syS_cases (D:=(doS D S l).2.1) h3
  rcases g3 with g3 | g3
  ·exact .inl ⟨g3,by rw[g2,h2],by rw[g1,g3];rfl⟩
  ·exact .inr (.inl ⟨g3,by rw[g1,g3];rfl⟩)
 ·have e:doA D S l=doS D S l:=by unfold doA;rw[if_neg (by omega)]
  rw[e]
  exact .inr (.inl ⟨h1,h2⟩)
 ·have e:doA D S l=doS D S l:=by unfold doA;rw[if_neg h1]
  rw[e]
  exact .inr (.inr ⟨h1,h2,h3,h4⟩)
theorem AOk.of_dead {A:Ac} (h:A.s.dead=true):AOk A:=⟨fun e=>(by rw[h] at e;cases e),fun e=>(by rw[h] at e;cases e)⟩
theorem AOk.prep {D:Dk} {A:Ac} (h:AOk A) (b:Bal) (hn:b.n<18446744073709551616) (k:Nat):AOk (prepA D A b k).2.2:=by
 unfold prepA
 by_cases h1:rightB b=false
 ·rw[if_pos h1];exact h
 rw[if_neg h1]
 by_cases h2:A.s.dead=true
 ·rw[if_pos h2];exact h
 rw[if_neg h2]
 have hd:A.s.dead=false:=by simpa using h2
 by_cases h3:less b A.b=true
 ·rw[if_pos h3];exact h
 rw[if_neg h3]
 by_cases h4:b=A.b
 ·rw[if_pos h4];exact h
 rw[if_neg h4]
 have hb:OkB b:=⟨by simpa using h1,hn⟩
 have hl:less b A.b=false:=by simpa using h3
 have hok:=h.ok hd
 have hps:=h.ps hd
 rcases doA_cases (D:=D) hd (promL b) with ⟨g1,g2,g3⟩ | ⟨g1,g2⟩ | ⟨g1,g2,g3,g4⟩
 ·rw[if_pos g1]
  exact⟨fun _=>hok.up hb hl,fun _=>by rw[g2,hps];exact lay_prom hb⟩
 ·rw[if_neg (by omega)]
  exact AOk.of_dead g2
 ·rw[if_neg g1]
  exact⟨fun _=>hok,fun _=>by simp only;rw[g3];exact hps⟩
theorem AOk.accept {D:Dk} {A:Ac} (h:AOk A) (v:Vt) (hn:v.bal.n<18446744073709551616) (hs:v.slot<18446744073709551616):AOk (acceptA D A v).2.2:=by
 unfold acceptA
 by_cases h1:rightV v=false
 ·rw[if_pos h1];exact h
 rw[if_neg h1]
 by_cases h2:A.s.dead=true
 ·rw[if_pos h2];exact h
 rw[if_neg h2]
 have hd:A.s.dead=false:=by simpa using h2
 by_cases h3:less v.bal A.b=true
 ·rw[if_pos h3];exact h
 rw[if_neg h3]
 have hr:rightB v.bal=true∧v.slot≠0∧v.val.length≤100:=by
  have:=h1
  simp only[rightV,Bool.not_eq_false,Bool.and_eq_true,decide_eq_true_eq] at this
  exact this
 have hb:OkB v.bal:=⟨hr.1,hn⟩
 have hl:less v.bal A.b=false:=by simpa using h3
 have hok:=h.ok hd
 have hps:=h.ps hd
 rcases doA_cases (D:=D) hd (voteL v) with ⟨g1,g2,g3⟩ | ⟨g1,g2⟩ | ⟨g1,g2,g3,g4⟩
 ·rw[if_pos g1]
  exact⟨fun _=>hok.ins hl (by have:=hr.2.1;omega) hs hb hr.2.2,fun _=>by simp only;rw[g2,hps];exact lay_vote hok hb hs⟩
 ·rw[if_neg (by omega)]
  exact AOk.of_dead g2
 ·rw[if_neg g1]
  exact⟨fun _=>hok,fun _=>by simp only;rw[g3];exact hps⟩
theorem filter_le:∀ {vs:List Vt} (k:Nat),Rise vs→∃ us ws,vs=us ++ ws∧(vs.filter fun v=>decide (v.slot≤k))=us∧(vs.filter fun v=>decide (k<v.slot))=ws
 | [],_,_=>⟨[],[],rfl,rfl,rfl⟩
 | v :: vs,k,h=>by
   have h1:=List.pairwise_cons.1 h
   by_cases hk:v.slot≤k
   ·obtain⟨us,ws,e1,e2,e3⟩:=filter_le k h1.2
    refine⟨v :: us,ws,by rw[e1];rfl,?_,?_⟩
    ·rw[List.filter_cons,if_pos (by simpa using hk),e2]
    ·rw[List.filter_cons,if_neg (by simp;omega),e3]
   ·refine⟨[],v :: vs,rfl,?_,?_⟩
    ·rw[List.filter_eq_nil_iff]
     intro x hx
     rcases List.mem_cons.1 hx with rfl | hx
     ·simpa using hk
     ·have:=h1.1 x hx
      simp
      omega
    ·rw[List.filter_eq_self]
     intro x hx
     rcases List.mem_cons.1 hx with rfl | hx
     ·simp;omega
     ·have:=h1.1 x hx
      simp
      omega
theorem cutV_take {vs:List Vt} (k:Nat) (h:Rise vs):vs=cutV vs k ++ vs.drop (cutV vs k).length:=by
 obtain⟨us,ws,e1,e2,e3⟩:=filter_le k h
 unfold cutV
 rw[e2]
 have e:us.take 32=vs.take (us.take 32).length:=by
  rw[List.length_take,e1,List.take_append_of_le_length (by omega)]
  rcases Nat.le_total 32 us.length with x | x
  ·rw[Nat.min_eq_left x]
  ·rw[Nat.min_eq_right x,List.take_of_length_le x,List.take_length]
 conv=>lhs;rw[← List.take_append_drop (us.take 32).length vs]
 rw[← e]
theorem AOk.trim {D:Dk} {A:Ac} (h:AOk A) (k:Nat):AOk (trimA D A k).2.2:=by
 unfold trimA
 by_cases h2:A.s.dead=true
 ·rw[if_pos h2];exact h
 rw[if_neg h2]
 have hd:A.s.dead=false:=by simpa using h2
 by_cases h3:cutV A.vs k = []
 ·rw[if_pos h3];exact h
 rw[if_neg h3]
 have hok:=h.ok hd
 have hps:=h.ps hd
 have hcut:=cutV_take k hok.rise
 rcases doS_cases (D:=D) hd (trimL (cutV A.vs k)) with ⟨g1,g2,g3⟩ | ⟨g1,g2⟩ | ⟨g1,g2,g3,g4⟩
 ·rw[if_pos g1]
  refine⟨fun _=>⟨hok.bal,hok.rise.drop,fun v hv=>hok.each v (List.mem_of_mem_drop hv)⟩,fun _=>?_⟩
  simp only
  rw[g2,hps]
  conv=>lhs;rw[hcut]
  have e:cutV (cutV A.vs k ++ A.vs.drop (cutV A.vs k).length) k=cutV A.vs k:=by rw[← hcut]
  rw[e]
  exact lay_trim
 ·rw[if_neg (by omega)]
  exact AOk.of_dead g2
 ·rw[if_neg g1]
  exact⟨fun _=>hok,fun _=>by simp only;rw[g3];exact hps⟩
end Go.Proofs.Ytkjofdocgaiedaa.AC
