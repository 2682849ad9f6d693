/- Texts StoO, StoP, StoT, StoU, StoS, StoV, StoW, StoX, StoY, StpJ, StqD, StqA, StpK, StoZ, StpA in one. Conditions: as each law names them. -/
import Derived.RangeFuncNested
import Derived.RangeFuncBound
import Derived.RangeFuncCalls
import Derived.RangeFuncLeaves
import Derived.Shelf.Abstract
import Derived.Shelf.RegionOpen
import Derived.WalkKit
import Derived.OwnWalkIn
import Derived.TacticsInMore
import Derived.LoopNIn
import Derived.LoopIn
import Derived.Deep.CutBlock
import Derived.Deep.DeepCutAuto
import Derived.BigQuiet
import Derived.Test.YtkjofdocgaiedaaGreatQab
import Derived.Test.YtkjofdocgaiedaaGreatQaj
import Derived.Test.YtkjofdocgaiedaaGreatQaq
import Derived.Test.YtkjofdocgaiedaaGreatQat
import Derived.Test.YtkjofdocgaiedaaGreatQav
import Derived.Test.YtkjofdocgaiedaaGreatQax
import Derived.Test.YtkjofdocgaiedaaGreatQay
import Derived.Test.YtkjofdocgaiedaaGreatQbb
import Derived.Test.YtkjofdocgaiedaaGreatQbc
import Derived.Test.YtkjofdocgaiedaaGreatQbd
set_option maxRecDepth 20000
set_option maxHeartbeats 8000000
namespace Go.Proofs.YtkjofdocgaiedaaGreat
section
open Go.RowKit Go.Maps Go.Shelf Go.Sort MI SO
attribute [local go_sem] Oper.semAt_some
structure SeqAt (w:World) (K:Nat→Prop) (gk gm mb:Nat) (kv:Value) (ks:List Str) (m:List (Str×Str)):Prop where
 ck:w.cell? ⟨gk,0,none⟩=some kv
 cm:w.cell? ⟨gm,0,none⟩=some (.map (some mb))
 row:Row w 9 1 kv ks.length (ztH ks)
 map:PairsAt w mb m
 own:∀ k,kv.ownBlock=some k→¬ K k
 lk:¬ K gk
 lm:¬ K gm
 lb:¬ K mb
 key:∀ x ∈ ks,x.length≤maxLen
theorem SeqAt.keep {w w':World} {K:Nat->Prop} {gk gm mb:Nat} {kv:Value} {ks:List Str} {m:List (Str×Str)} (h:SeqAt w K gk gm mb kv ks m) (hb:Keep K w w'):SeqAt w' K gk gm mb kv ks m:=
 ⟨by rw[World.cell?_of_block (hb.block _ (World.block_lt_of_cell? w _ h.ck) h.lk)];exact h.ck,by rw[World.cell?_of_block (hb.block _ (World.block_lt_of_cell? w _ h.cm) h.lm)];exact h.cm,h.row.keep hb (λk e=>h.own k e),MapAt.keep h.map hb h.lb,h.own,h.lk,h.lm,h.lb,h.key⟩
def z2J (ks:List Str) (m:List (Str×Str)):List (Str×Str):=ks.map fun x=>(x,(AL.get m x).getD [])
abbrev InP (ps:List (Str×Str)):Type:={ p:Str×Str // p ∈ ps }
def encP {ps:List (Str×Str)} (x:InP ps):Array Value:=#[.string (str x.1.1),.string (str x.1.2)]
theorem zvG (n:Nat) (hn:1<=n) (l gk gm mb:Nat) (K:Nat->Prop) (kv:Value) (ks:List Str) (m:List (Str×Str)) (hlen:ks.length<=1000000) (J Jx:List (InP (z2J ks m))->World->Prop)
  (hY:∀ pre x W,J pre W->pre.length<(z2J ks m).length->YieldAt Fence.wide (n - 1) Tryz.prog l #[.string (str x.1.1),.string (str x.1.2)] W λe W'=> (e = .returned (.bool true)/\J (pre ++ [x]) W'/\Keep K W W')∨(e = .returned (.bool false)/\Jx (pre ++ [x]) W'))
  (W:World) (hS:SeqAt W K gk gm mb kv ks m) (h0:J [] W) :
  CallsIn Fence.wide n Tryz.prog 121 #[.func (.yield l) #[] #[],.pointer (some ⟨gk,0,none⟩),.pointer (some ⟨gm,0,none⟩)] W λe W'=>(∃ v,e = .returned v)/\ ((∃ ys,ys=(z2J ks m).attach/\J ys W')∨(∃ pre,pre <+: (z2J ks m).attach/\Jx pre W')):=by
 refine callsIn_of_wp Tryz.func121 rfl trivial ?_ rfl;simp only[Tryz.ntmps121,List.size_toArray,List.length_cons,List.length_nil,Nat.reduceAdd,Nat.reduceSub,Array.replicate_succ,Array.replicate_zero,List.push_toArray,List.append_toArray,List.nil_append,List.cons_append];have hck:=hS.ck;obtain⟨ko,kc,rfl,-⟩:=hS.row.form;obtain⟨N,hN⟩:=zX1 (ks.length);have HN:=hid hN;have HS:=hid hS;rw[<-hN] at hck HS hlen;clear hN hS
 gi_wp2
 clear hck
 gi_loopw [8] (λiv wr=>∃ i:Nat,i<=N/\iv = .int .i64 i/\Hid (SeqAt wr K gk gm mb (.slice ko N kc) ks m/\J ((z2J ks m).attach.take i) wr)) (λiv _=>N - (intOf iv).toNat)
 case atStart=>exact⟨0,Nat.zero_le _,rfl,hid ⟨HS.out,h0⟩⟩
 case round=>(obtain⟨i,hi,rfl,HT⟩:=hrel;by_cases hin:i<N;{have h4:(i:Int)<N:=by{omega};have hil:i<ks.length:=by{rw[<-HN.out];exact hin};have hpl:(z2J ks m).length=ks.length:=by{simp[z2J]};have hal:i<(z2J ks m).attach.length:=by{rw[List.length_attach,hpl];exact hil};obtain⟨xa,hxa⟩:=zX1 ((z2J ks m).attach[i]);have hsu:(z2J ks m).attach.take (i+1)=(z2J ks m).attach.take i ++ [xa]:=by{rw[List.take_add_one,List.getElem?_eq_getElem hal,Option.toList_some,hxa]};have hx1:xa.1=(ks[i],(AL.get m ks[i]).getD []):=by{rw[hxa,List.getElem_attach];simp[z2J]};have hpre:(z2J ks m).attach.take (i+1) <+: (z2J ks m).attach:=List.take_prefix _ _;obtain⟨g,cap,hv,hc⟩:=HT.out.1.row.getCell (j:=i) (u:=.string (str ks[i])) (by simp[ztH,encStr,str,hil]);cases hv;have hcm:=HT.out.1.cm;have hlk:=MapAt.look1 HT.out.1.map zeW (t:=104) (z:=.agg #[.string { data:=#[] }]) Tryz.underlying104 (by kernel_rfl) ks[i] (HT.out.1.key _ (List.getElem_mem hil));rw[show ((AL.get m ks[i]).map zsW).getD (.agg #[.string { data:=#[] }]) = .agg #[.string (str ((AL.get m ks[i]).getD []))] by cases AL.get m ks[i] <;> rfl] at hlk;obtain⟨fn,tmps,assign,body,hy,hR⟩:=hY ((z2J ks m).attach.take i) xa wr HT.out.2 (by rw[List.length_take,List.length_attach];omega);rw[<-hsu] at hR;rw[hx1] at hy;obtain⟨x,hx⟩:=zX1 (ks[i]);obtain⟨y,hyy⟩:=zX1 ((AL.get m ks[i]).getD []);simp only[<-hyy] at hlk hy hR;simp only[<-hx] at hc hlk hy hR;have HP:=hid hpre;clear hx hyy hsu hpre hx1 hxa hal;have hfld:∀ w:World,(Instr.field 173 (.agg #[.string (str y)]) 0).run Tryz.prog w = .ok (.string (str y)) w:=λ_=>rfl;(gi_wp2);refine hR.mono ?_;rintro e W3 (⟨rfl,hJ3,hk3⟩ | ⟨rfl,hJx3⟩);{have H3:=hid (zA1 (HT.out.1.keep hk3) hJ3);clear hR hy hlk hc hcm hJ3 hk3 hfld;(gi_wp2);go_roundw;(case rel=>exact⟨i+1,by omega,by go_num,H3⟩);case measure=>simp[intOf];omega};{clear hR hy hlk hc hcm hfld;(gi_wp2);refine bodyPost_ret (results_none rfl _ _ _) rfl ?_;exact⟨⟨_,rfl⟩,.inr ⟨_,HP.out,hJx3⟩⟩}};{have h4:decide ((i:Int)<N)=false:=by{simp;omega};(gi_wp2);(go_end0);exact⟨⟨_,rfl⟩,.inl ⟨_,List.take_of_length_le (by rw[List.length_attach];have:=HN.out;simp[z2J];omega),HT.out.2⟩⟩})
theorem zmY (n:Nat) (hn:1<=n) (gk gm mb:Nat) (K:Nat->Prop) (kv:Value) (ks:List Str) (m:List (Str×Str)) (hlen:ks.length<=1000000) (w:World) (hS:SeqAt w K gk gm mb kv ks m) (hK:∀ k,w.heap.size<=k->K k) :
  SeqStopsK Fence.wide n Tryz.prog 121 #[.pointer (some ⟨gk,0,none⟩),.pointer (some ⟨gm,0,none⟩)] (encP (ps:=z2J ks m)) (Keep K) (λxs=>xs=(z2J ks m).attach) (λpre=>pre <+: (z2J ks m).attach) (z2J ks m).length w:=
 λl J Jx W hW _ _ hY h0=>zvG n hn l gk gm mb K kv ks m hlen J Jx hY W (hS.keep ⟨hW.os,hW.tape,hW.output,hW.size,λk _ hn=>hW.block k (Nat.lt_of_not_le λx=>hn (hK k x))⟩) h0
theorem z3Z {K:Nat->Prop} (W:World) (l:Nat) (o:Obj) (hl:K l):Keep K W (W.putObj l o):=by
 have:=grownBy_putObj' W l o;exact⟨this.os,this.tape,this.output,this.size,λk hk hn=>this.block k hk (λe=>by cases e;exact hn hl)⟩
end
section
open Go.RowKit Go.Maps MI SO
theorem z5A (w:World) (b mb:Nat) (wp:Value) (dead:Bool) (hh:w.heap[b]?=some (.cells (z3I wp mb dead) 106 (0,0))) :
  Calls Tryz.prog 50 #[.pointer (some ⟨b,0,none⟩)] w λe w'=>e = .returned (.int .i64 (if dead then 6 else 0))/\w'=w:=by
 obtain⟨i0,i1,i2,jf,jb⟩:=z0T hh;clear hh;go_enter Tryz.func50,Tryz.ntmps50;cases dead with | true=>{go_wp2_with fail;go_ret;exact⟨rfl,rfl⟩} | false=>{go_wp2_with fail;go_ret;exact⟨rfl,rfl⟩}
def AllPost (w:World) (m:List (Str×Str)) (e:Ending) (w':World):Prop:=
 ∃ gk gm mb' kv ks,e = .returned (.func (.func 121) #[] #[.pointer (some ⟨gk,0,none⟩),.pointer (some ⟨gm,0,none⟩)])∧SeqAt w' (fun k=>k<w.heap.size∨w'.heap.size≤k) gk gm mb' kv ks m∧
  (ks.Pairwise fun a b=>a<b)∧(∀ x,x ∈ ks↔(AL.get m x).isSome=true)∧ks.length=m.length∧Keep (fun _=>False) w w'∧w.heap.size≤gk∧w.heap.size≤gm∧w.heap.size≤mb'∧∀ k,kv.ownBlock=some k→w.heap.size≤k
theorem zwK (w:World) (b mb:Nat) (wp:Value) (m:List (Str×Str)) (hh:w.heap[b]?=some (.cells (z3I wp mb false) 106 (0,0))) (hp:PairsAt w mb m) (hm:m.length<=1000000) (hk:∀ p ∈ m,p.1.length<=maxLen) :
  Calls Tryz.prog 59 #[.pointer (some ⟨b,0,none⟩)] w (AllPost w m):=by
 have hr:=z5A w b mb wp false hh;obtain⟨i0,i1,i2,jf,jb⟩:=z0T hh;have H:=hid (zA1 hp hk);clear hh hp hk;go_enter Tryz.func59,Tryz.ntmps59;go_wp2_with fail;refine hr.mono ?_;rintro e w1 ⟨rfl,rfl⟩;clear hr;simp only[Bool.false_eq_true,if_false];go_wp2_with fail;refine(znQ w1 mb m H.out.1).mono ?_;rintro e w2 ⟨rfl,hp2,hk2⟩;have H2:=hid (zA1 hp2 hk2);clear hp2 hk2 i0 i1 i2 jf jb;go_wp2_with fail;obtain⟨b2,hb2⟩:=zX1 (w1.heap.size);have hgm:=heap_alloc_new w2 (.cells #[.map (some b2)] 104);have hk3:=kal w2 (.cells #[.map (some b2)] 104);rw[<-hb2] at H2 |-;obtain⟨gm,hgme⟩:=zX1 (w2.heap.size);obtain⟨w3,hw3⟩:=zX1 (w2.alloc (.cells #[.map (some b2)] 104));rw[<-hw3] at hgm hk3 |-;rw[<-hgme] at hgm |-;have hcm:w3.cell? ⟨gm,0,none⟩=some (.map (some b2)):=by{simp[World.cell?,hgm]};have H3:=hid (zA1 hgm (zA1 hk3 (zA1 hgme (zA1 hb2 (MapAt.keep H2.out.1 hk3 (λx=>x))))));clear hgm hk3 hgme hw3 hb2;refine(zsV (some b2) w3).mono ?_;rintro e w4 ⟨rfl,hw4⟩;have hgB:w4.heap[w3.heap.size]?=some (.cells #[.map (some b2)] 104 (0,0)):=by{rw[hw4];exact heap_alloc_new w3 _};have hk4:Keep zF w3 w4:=by{rw[hw4];exact(Keep.refl _ _).alloc _};obtain⟨Bm,hBm⟩:=zX1 (w3.heap.size);rw[<-hBm] at hgB |-;have hs:=zrO w4 b2 Bm m (MapAt.keep H3.out.2.2.2.2 hk4 (λx=>x)) (by simp[World.cell?,hgB]) hm;have H4:=hid hk4;clear hw4 hgB hk4 hBm hcm;go_wp2_with fail;refine hs.mono ?_;rintro e w5 ⟨kv,ks,rfl,hrow,hsort,hmem,hlen,hk5,hown⟩;clear hs;obtain⟨ko,kc,rfl,-⟩:=hrow.form;have H5:=hid (zA1 hrow (zA1 hsort (zA1 hmem (zA1 hlen (zA1 hk5 hown)))));clear hrow hsort hmem hlen hk5 hown;go_wp2_with fail;have hk6:=kal w5 (.cells #[.slice ko ks.length kc] 96);have hgk:=heap_alloc_new w5 (.cells #[.slice ko ks.length kc] 96);go_ret;obtain⟨hrow,hsort,hmem,hlen,hk5,hown⟩:=H5.out;obtain⟨hgm,hk3,hgme,hb2,hmap⟩:=H3.out;have s2:=H2.out.2.size;have s3:=hk3.size;have s4:=H4.out.size;have s5:=hk5.size;have s6:=hk6.size;have l3:=z0M hgm;have sn:(w5.alloc (.cells #[.slice ko ks.length kc] 96)).heap.size=w5.heap.size+1:=by{simp};have hl:b2<gm:=by{rw[hgme];exact MapAt.lt H2.out.1};have hc6:(w5.alloc (.cells #[.slice ko ks.length kc] 96)).cell? ⟨w5.heap.size,0,none⟩=some (.slice ko ks.length kc):=by{unfold World.cell?;rw[hgk];rfl};(have k46:Keep zF w3 (w5.alloc (.cells #[.slice ko ks.length kc] 96)):=(H4.out.nx hk5).next hk6 zI zI;have hnk:∀ k,w1.heap.size<=k->k<w5.heap.size+1->¬ (k<w1.heap.size∨w5.heap.size+1<=k):=λk h1 h2=>by omega);refine⟨w5.heap.size,gm,b2,.slice ko ks.length kc,ks,rfl,?_,hsort,hmem,hlen,((H2.out.2.nx hk3)).next k46 zI zI,by omega,by omega,by omega,λk e=>by have:=hown k e;omega⟩;rw[sn];refine⟨hc6,?_,hrow.keep hk6 zI,MapAt.keep hmap k46 (λx=>x),λk e=>hnk k (by have:=hown k e;omega) (by have:=hrow.lt e;omega),hnk _ (by omega) (by omega),hnk _ (by omega) (by omega),hnk _ (by omega) (by omega),λx hx=>?_⟩;{have:=k46.get hgm id;simp[World.cell?,this]};{have:=(hmem x).1 hx;cases hg:AL.get m x with | none=>{rw[hg] at this;cases this} | some y=>{exact H.out.2 _ (z3F hg)}}
open Go.Shelf BM DM WM
attribute [local go_sem] Oper.semAt_some
theorem Row.turn {w w':World} {e:TypeId} {size:Nat} {v:Value} {n:Nat} {xs:List Value} {r:Option Nat} (h:Row w e size v n xs) (hk:Keep (λk=>r=Option.some k) w w') (hr:∀ k,r=Option.some k->∃ o:Obj,w.heap[k]?=Option.some o/\o.isCells=false):Row w' e size v n xs:=
 h.keep hk λk hk2 x=>by{obtain⟨o,h1,h2⟩:=hr k x;obtain⟨-,⟨rfl,-⟩ | ⟨g,cap,cur,fz,rfl,hg,-⟩⟩:=h;{simp[Value.ownBlock] at hk2};{simp[Value.ownBlock] at hk2;subst hk2;rw[hg] at h1;cases h1;cases h2}}
theorem Recs.turn {w w':World} {F A:Nat->Prop} {v:Value} {L:List (List UInt8)} {vs:List Value} {r:Option Nat} (h:Recs w F A v L vs) (hk:Keep (λk=>r=some k) w w') (hr:∀ k,r=some k->∃ o:Obj,w.heap[k]?=some o/\o.isCells=false):Recs w' F A v L vs:=
 ⟨h.row.turn hk hr,h.own,λj hj=>let ⟨u,h1,h2,h3⟩:=h.each j hj;⟨u,h1,h2.turn hk hr,h3⟩⟩
theorem zbS {w w':World} {b:Nat} {cs:Array Value} {t:TypeId} {fz:Nat×Nat} {r:Option Nat} (h:w.heap[b]?=some (.cells cs t fz)) (hk:Keep (λk=>r=some k) w w') (hr:∀ k,r=some k->∃ o:Obj,w.heap[k]?=some o/\o.isCells=false):w'.heap[b]?=some (.cells cs t fz):=
 hk.get h λx=>by{obtain⟨o,h1,h2⟩:=hr b x;rw[h] at h1;cases h1;cases h2}
theorem z8D {β:Type} {B:Nat} {I:β->World->Prop} (h:∀ s W W' r,I s W->Keep (λk=>r=some k) W W'->(∀ k,r=some k->B<=k)->(∀ k,r=some k->∃ o:Obj,W.heap[k]?=some o/\o.isCells=false)->I s W'):OwnFrom B I:=
 λs W W' row hs hg hr=>h s W W' row hs ⟨hg.os,hg.tape,hg.output,hg.size,λk hk hn=>hg.block k hk (λe=>hn e.symm)⟩ (λk e=>(hr k e).1) (λk e=>(hr k e).2)
theorem zhX {K:Nat->Prop} {W W':World} (hk:Keep K W W') (h:∀ k,K k->∃ cs t fz,W.heap[k]?=some (.cells cs t fz)):KeepsOthers W W':=
 ⟨hk.size,λk o ho hc=>hk.get ho λx=>by{obtain⟨cs,t,fz,h1⟩:=h k x;rw[h1] at ho;cases ho;cases hc}⟩
theorem Keep.tr {K:Nat->Prop} {A B C:World} (h:Keep K A B) (k:Keep K B C):Keep K A C:=h.next k zI zI
theorem z9H {F:Fence} {n:Nat} {P:Program} {w w':World} {ops:Array Oper} {rest:List Oper} {o:Oper} {a:Act} {Q:Exit->Act->World->Prop} {t:TypeId} {v1 v2 v':Value}
  (hg:o.guard=none) (s x:Operand) (hop:o.op=Op.call { callee:=Callee.builtin Builtin.append,args:=#[s,x],argTypes:=#[t,t] }) (h1:a.eval s=v1) (h2:a.eval x=v2)
  (hr:(Builtin.append_ #[t,t] o.type #[v1,v2]).run P w = .ok v' w') (hK:wpListIn F n P ops Q rest (a.put o.dst v') w'):wpListIn F n P ops Q (o :: rest) a w:=by
 refine wpListIn_plain hg λK hK'=>?_;unfold Oper.wpIn;refine⟨?_,?_⟩;{simp[Oper.about,hop,resolve,Target.leads,Sem.run_pure]};{rw[Oper.semAt_plain F _ _ (by rw[hop];intro c hc';cases hc')];simp[execOp,hop,resolve,invoke,builtin,h1,h2,hr,Result.andThen];exact hK' _ _ hK}
structure SeqOf (w:World) (K:Nat→Prop) (v:Value) (ps:List (Str×Str)):Prop where
 big:∀ k,w.heap.size≤k→K k
 is:∃ f caps,v = .func (.func f) #[] caps∧(∀ args w,(callFunc f args).run Tryz.prog w = .ok (.enter f args) w)∧
  ∀ n w1,1≤n→Keep K w w1→SeqStopsK Fence.wide n Tryz.prog f caps (encP (ps:=ps)) (Keep K) (fun xs=>xs=ps.attach) (fun pre=>pre <+: ps.attach) ps.length w1
theorem SeqOf.of_all {w w':World} {m ps:List (Str×Str)} {e:Ending} (h:AllPost w m e w') (hm:AL.Ok m) (hps:Sorted ps) (hg:∀ x,AL.get m x=AL.get ps x) (hlen:m.length<=1000000) :
  ∃ v,e = .returned v/\SeqOf w' (λk=>k<w.heap.size∨w'.heap.size<=k) v ps/\Keep zF w w':=by
 obtain⟨gk,gm,mb',kv,ks,rfl,hs,h1,h2,h3,h4,-⟩:=h;have hp:z2J ks m=ps:=zhU hm hps hg h1 h2;refine⟨_,rfl,⟨λk x=>.inr x,_,_,rfl,enters_of Tryz.func121 (by kernel_rfl) rfl,λn w1 hn hk=>?_⟩,h4⟩;have:=zmY n hn gk gm mb' _ kv ks m (by omega) w1 (hs.keep hk) (λk x=>.inr (Nat.le_trans hk.size x));rw[hp] at this;exact this
theorem zwB (n l:Nat) (W:World):CallsIn Fence.wide n Tryz.prog 117 #[.func (.yield l) #[] #[]] W λe W'=>(∃ v,e = .returned v)/\W'=W:=by
 refine callsIn_of_wp Tryz.func117 rfl trivial ?_ rfl;simp only[Tryz.ntmps117,List.size_toArray,List.length_cons,List.length_nil,Nat.reduceAdd,Nat.reduceSub,Array.replicate_succ,Array.replicate_zero,List.push_toArray,List.append_toArray,List.nil_append,List.cons_append]
 gi_wp2
 go_end0
 exact⟨⟨_,rfl⟩,rfl⟩
theorem SeqOf.none (w:World) (K:Nat->Prop) (hK:∀ k,w.heap.size<=k->K k):SeqOf w K (.func (.func 117) #[] #[]) []:=
 ⟨hK,_,_,rfl,enters_of Tryz.func117 (by kernel_rfl) rfl,λn w1 _ _ l J Jx W _ _ _ _ h0=>(zwB n l W).mono λe W' ⟨h1,h2⟩=>⟨h1,.inl ⟨[],rfl,by rw[h2];exact h0⟩⟩⟩
theorem ztQ (w:World) (b mb:Nat) (wp:Value) (hh:w.heap[b]?=some (.cells (z3I wp mb true) 106 (0,0))):Calls Tryz.prog 59 #[.pointer (some ⟨b,0,none⟩)] w λe w'=>e = .returned (.func (.func 117) #[] #[])/\w'=w:=by
 have hr:=z5A w b mb wp true hh;simp only[if_true] at hr;go_enter Tryz.func59,Tryz.ntmps59;go_wp2_with fail;refine hr.mono ?_;rintro e w1 ⟨rfl,rfl⟩;clear hr;go_wp2_with fail;go_ret;exact⟨rfl,rfl⟩
def told (S:St):List (Str×Str):=if S.dead then [] else S.ps
theorem zkP (w:World) (b d:Nat) (F Fd:Nat->Prop) (D:Dk) (S:St) (H:StoAt w b d F Fd D S) (hm:S.dead=false->S.ps.length<=1000000) :
  Calls Tryz.prog 59 #[.pointer (some ⟨b,0,none⟩)] w λe w'=>∃ v,e = .returned v/\SeqOf w' (λk=>k<w.heap.size∨w'.heap.size<=k) v (told S)/\Keep zF w w':=by
 obtain⟨wb,mb,m,Fl,H⟩:=H;unfold told;have hh:=H.head;cases hd:S.dead with | true=>{rw[hd] at hh;refine(ztQ w b mb _ hh).mono ?_;rintro e w' ⟨rfl,rfl⟩;exact⟨_,rfl,SeqOf.none _ _ (λk x=>.inr x),Keep.refl _ _⟩} | false=>{rw[hd] at hh;have hl:m.length<=1000000:=by{rw[H.len];exact hm hd};refine(zwK w b mb _ m hh H.map hl (λp hp=>?_)).mono ?_;{have hg:=z4E H.map.1 hp;rw[H.get] at hg;have:=(H.ok.each _ (z3F hg)).2.1;unfold maxLen;simp only at this;omega};{intro e w' h;exact SeqOf.of_all h H.map.1 H.ok.sorted H.get hl}}
end
section
open Go.RowKit Go.Maps Go.Shelf MI SO BM DM WM
attribute [local go_sem] Oper.semAt_some
structure PIn (w2:World) (lb:Nat) (pre:List (Str×Str)) (W:World) (v:Value):Prop where
 box:W.heap[lb]?=some (.cells #[v] 115 (0,0))
 row:Row W 140 2 v pre.length (prsV pre)
 own:∀ k,v.ownBlock=some k→w2.heap.size≤k
 keep:Keep (fun k=>k=lb) w2 W
end
section
open Go.RowKit Go.Maps MI SO BM DM WM
theorem StoIs.both {w w1:World} {b d wb mb:Nat} {F Fd Fl:Nat->Prop} {D D':Dk} {S:St} {m:List (Str×Str)} {G':Lg} (H:StoIs w b d F Fd D S wb mb m Fl) (ht:LogTo wb d Fl Fd w D' G' w1) :
  w1.heap[b]?=some (.cells (z3I (.pointer (some ⟨wb,0,none⟩)) mb S.dead) 106 (0,0))/\∀ w2 x,Keep (λk=>k=b) w1 w2->w2.heap[b]?=some (.cells (z3I (.pointer (some ⟨wb,0,none⟩)) mb x) 106 (0,0))->StoTo b d F Fd w D' ⟨G',S.ps,x⟩ w2:=by
 obtain⟨Fl',F',Fd',h1,h2,h3,h4⟩:=H.logTo ht;refine⟨h1.head,λw2 x hk hh=>⟨F',Fd',(h1.tell x hk hh).at,h2.next hk zI (λk hk y=>by subst y;exact .inl H.self),h3,h4⟩⟩
theorem RStoIs.both {w w1:World} {b d wb:Nat} {F Fd Fl:Nat->Prop} {D D':Dk} {S:St} {pv:Value} {G':Lg} (H:RStoIs w b d F Fd D S wb pv Fl) (ht:RLogTo wb d Fl Fd w D' G' w1) :
  w1.heap[b]?=some (.cells (z3H (.pointer (some ⟨wb,0,none⟩)) pv S.dead) 117 (0,0))/\∀ w2 x,Keep (λk=>k=b) w1 w2->w2.heap[b]?=some (.cells (z3H (.pointer (some ⟨wb,0,none⟩)) pv x) 117 (0,0))->RStoTo b d F Fd w D' ⟨G',S.ps,x⟩ w2:=by
 obtain⟨Fl',F',Fd',h1,h2,h3,h4⟩:=H.logTo ht;refine⟨h1.head,λw2 x hk hh=>⟨F',Fd',(h1.tell x hk hh).at,h2.next hk zI (λk hk y=>by subst y;exact .inl H.self),h3,h4⟩⟩
theorem zbN (w:World) (b:Nat) (wp:Value) (mb:Nat) (dead:Bool) (hh:w.heap[b]?=some (.cells (z3I wp mb dead) 106 (0,0))) (e:Int) :
  Calls Tryz.prog 52 #[.pointer (some ⟨b,0,none⟩),.int .i64 e] w λx w'=>x = .returned (.int .i64 e)/\w'.heap[b]?=some (.cells (z3I wp mb (dead || decide (e=6))) 106 (0,0))/\Keep (λk=>k=b) w w':=by
 have hk:=λx=>(show Keep (λk=>k=b) w (w.setCell ⟨b,2,none⟩ (.bool x)) by refine Keep.setCell (Keep.refl _ _) (.inl ?_) _;rfl);have hs:=λx=>z0A hh 2 (.bool x);have HZ:=hid (zA1 hk hs);obtain⟨i0,i1,i2,jf,jb⟩:=z0T hh;clear hk hs hh;cases dead with | true=>{go_enter Tryz.func52,Tryz.ntmps52;go_wp2_with fail;go_ret;exact⟨rfl,by rw[HZ.out.2];rfl,HZ.out.1 _⟩} | false=>{by_cases he:e=6;{subst he;go_enter Tryz.func52,Tryz.ntmps52;go_wp2_with fail;go_ret;exact⟨rfl,by rw[HZ.out.2];rfl,HZ.out.1 _⟩};{have u1:(e == 6)=false:=by{simp[he]};have u2:decide (e=6)=false:=by{simp[he]};have HE:=hid he;clear he;go_enter Tryz.func52,Tryz.ntmps52;go_wp2_with fail;go_ret;have:=HE.out;exact⟨rfl,by rw[HZ.out.2];simp[this];rfl,HZ.out.1 _⟩}}
theorem z9S (w:World) (b:Nat) (wp pv:Value) (dead:Bool) (hh:w.heap[b]?=some (.cells (z3H wp pv dead) 117 (0,0))) (e:Int) :
  Calls Tryz.prog 58 #[.pointer (some ⟨b,0,none⟩),.int .i64 e] w λx w'=>x = .returned (.int .i64 e)/\w'.heap[b]?=some (.cells (z3H wp pv (dead || decide (e=6))) 117 (0,0))/\Keep (λk=>k=b) w w':=by
 have hk:=(show Keep (λk=>k=b) w (w.setCell ⟨b,2,none⟩ (.bool true)) by refine Keep.setCell (Keep.refl _ _) (.inl ?_) _;rfl);have hs:=z0A hh 2 (.bool true);have HZ:=hid (zA1 hk (zA1 hs hh));obtain⟨i0,i1,i2,jf,jb⟩:=z0T hh;clear hk hs hh;by_cases he:e=6;{subst he;go_enter Tryz.func58,Tryz.ntmps58;go_wp2_with fail;go_ret;exact⟨rfl,by rw[HZ.out.2.1];simp;rfl,HZ.out.1⟩};{have u1:(e == 6)=false:=by{simp[he]};have u2:decide (e=6)=false:=by{simp[he]};have HE:=hid he;clear he;go_enter Tryz.func58,Tryz.ntmps58;go_wp2_with fail;go_ret;have:=HE.out;exact⟨rfl,by rw[HZ.out.2.2];simp[this],Keep.refl _ _⟩}
theorem zqU (w:World) (b d:Nat) (F Fd:Nat->Prop) (D:Dk) (S:St) (H:StoAt w b d F Fd D S) (hfew:D.waits.length<=900000) :
  Calls Tryz.prog 78 #[.pointer (some ⟨b,0,none⟩)] w λe w'=>e = .returned (.int .i64 (syS D S).1)/\StoTo b d F Fd w (syS D S).2.1 (syS D S).2.2 w':=by
 obtain⟨R,hR⟩:=zX1 (syS D S);rw[<-hR];obtain⟨wb,mb,m,Fl,H⟩:=H;have hr:=z5A w b mb _ S.dead H.head;obtain⟨i0,i1,i2,jf,jb⟩:=z0T (show w.heap[b]?=some (.cells #[_,_,_] _ (0,0)) from H.head);have HS:=hid (zA1 H hR);have hw:=zrW w wb d Fl Fd D S.g H.log hfew;obtain⟨Y,hY⟩:=zX1 (WM.z3V D S.g);rw[<-hY] at hw;have HY:=hid hY;clear hR hY H;go_enter Tryz.func78,Tryz.ntmps78;go_wp2_with fail;refine hr.mono ?_;rintro e w1 ⟨rfl,rfl⟩;clear hr;cases hdd:S.dead with | true=>{have HZ:=hid (show R=(6,D,S) by rw[HS.out.2];unfold syS;rw[if_pos hdd]);clear hdd;simp only[if_true];go_wp2_with fail;go_ret;rw[HZ.out];exact⟨rfl,HS.out.1.at.to⟩} | false=>{have HZ:=hid (show R=(Y.1,Y.2.1,⟨Y.2.2,S.ps,decide (Y.1=6)⟩) by rw[HS.out.2,HY.out];unfold syS;rw[hdd];rfl);have HD:=hid hdd;clear hdd;simp only[Bool.false_eq_true,if_false];go_wp2_with fail;refine hw.mono ?_;rintro e w2 ⟨rfl,ht⟩;obtain⟨hh2,hto⟩:=HS.out.1.both ht;have htl:=zbN w2 b _ mb _ hh2 Y.1;have H2:=hid hto;clear hw ht hto i0 i1 i2 jf jb hh2;go_wp2_with fail;refine htl.mono ?_;rintro e w3 ⟨rfl,hh3,hk3⟩;have H3:=hid (H2.out _ _ hk3 hh3);clear htl hh3 hk3;go_wp2_with fail;go_ret;rw[HZ.out];have:=H3.out;rw[HD.out,Bool.false_or] at this;exact⟨rfl,this⟩}
theorem zpD (w:World) (b d:Nat) (F Fd:Nat->Prop) (D:Dk) (S:St) (H:RStoAt w b d F Fd D S) (hfew:D.waits.length<=900000) :
  Calls Tryz.prog 123 #[.pointer (some ⟨b,0,none⟩)] w λe w'=>e = .returned (.int .i64 (syS D S).1)/\RStoTo b d F Fd w (syS D S).2.1 (syS D S).2.2 w':=by
 obtain⟨R,hR⟩:=zX1 (syS D S);rw[<-hR];obtain⟨wb,pv,Fl,H⟩:=H;obtain⟨i0,i1,i2,jf,jb⟩:=z0T (show w.heap[b]?=some (.cells #[_,_,_] _ (0,0)) from H.head);have HS:=hid (zA1 H hR);have hw:=znS w wb d Fl Fd D S.g H.log hfew;obtain⟨Y,hY⟩:=zX1 (WM.z3V D S.g);rw[<-hY] at hw;have HY:=hid hY;clear hR hY H;cases hdd:S.dead with | true=>{rw[hdd] at i2;have HZ:=hid (show R=(6,D,S) by rw[HS.out.2];unfold syS;rw[if_pos hdd]);clear hdd;go_enter Tryz.func123,Tryz.ntmps123;go_wp2_with fail;go_ret;rw[HZ.out];exact⟨rfl,HS.out.1.at.to⟩} | false=>{rw[hdd] at i2;have HZ:=hid (show R=(Y.1,Y.2.1,⟨Y.2.2,S.ps,decide (Y.1=6)⟩) by rw[HS.out.2,HY.out];unfold syS;rw[hdd];rfl);have HD:=hid hdd;clear hdd;go_enter Tryz.func123,Tryz.ntmps123;go_wp2_with fail;refine hw.mono ?_;rintro e w2 ⟨rfl,ht⟩;obtain⟨hh2,hto⟩:=HS.out.1.both ht;have htl:=z9S w2 b _ pv _ hh2 Y.1;have H2:=hid hto;clear hw ht hto i0 i1 i2 jf jb hh2;go_wp2_with fail;refine htl.mono ?_;rintro e w3 ⟨rfl,hh3,hk3⟩;have H3:=hid (H2.out _ _ hk3 hh3);clear htl hh3 hk3;go_wp2_with fail;go_ret;rw[HZ.out];have:=H3.out;rw[HD.out,Bool.false_or] at this;exact⟨rfl,this⟩}
open Go.Shelf
attribute [local go_sem] Oper.semAt_some
structure CIn (w2:World) (lb:Nat) (pre:List (Str×Str)) (W:World) (v:Value) (vs:List Value):Prop where
 box:W.heap[lb]?=some (.cells #[v] 107 (0,0))
 recs:Recs W (fun k=>w2.heap.size≤k) (fun _=>False) v (cpL pre) vs
 keep:Keep (fun k=>k=lb) w2 W
theorem CIn.turn {w2:World} {lb:Nat} {pre:List (Str×Str)} {W W':World} {v:Value} {vs:List Value} {r:Option Nat} {B:Nat} (h:CIn w2 lb pre W v vs) (hB:w2.heap.size<=B) (hk:Keep (λk=>r=some k) W W') (h1:∀ k,r=some k->B<=k) (hr:∀ k,r=some k->∃ o:Obj,W.heap[k]?=some o/\o.isCells=false):CIn w2 lb pre W' v vs:=
 ⟨zbS h.box hk hr,h.recs.turn hk hr,h.keep.next hk zI (λk hk x=>by have:=h1 k x;omega)⟩
theorem StoTo.bump {wR w' w'' w:World} {b d:Nat} {F Fd K:Nat->Prop} {D':Dk} {S':St} (h:StoTo b d F Fd wR D' S' w') (hw:Keep zF w wR) (hk:Keep K w' w'') (hK:∀ k,K k->w.heap.size<=k/\k<wR.heap.size) (hl:∀ k,F k∨Fd k->k<w.heap.size):StoTo b d F Fd w D' S' w'':=by
 obtain⟨F',Fd',h1,h2,h3,h4⟩:=h;refine⟨F',Fd',h1.keep hk (λk x y=>?_) (λk x y=>?_),(hw.next h2 zE zI).next hk zI (λk hk' x=>by have:=hK k x;omega),λk x=>(h3 k x).imp id λy=>Nat.le_trans hw.size y,λk x=>(h4 k x).imp id λy=>Nat.le_trans hw.size y⟩;{have:=hK k y;rcases h3 k x with z | z;{have:=hl k (.inl z);omega};{omega}};{have:=hK k y;rcases h4 k x with z | z;{have:=hl k (.inr z);omega};{omega}}
theorem zpY {p:Str×Str} (h:OkP p):encE [⟨p.1,p.2,false⟩]=0:=by
 have hr:=zcF h;have:=zjW hr;unfold encE;rw[if_pos hr,if_neg (by simp at this;omega)]
theorem zpB (w:World) (b d:Nat) (F Fd:Nat->Prop) (D:Dk) (S:St) (H:StoAt w b d F Fd D S) (hd:S.dead=false) (hm:S.ps.length<=1000000) (hfew:D.waits.length<=600000) :
  Calls Tryz.prog 54 #[.pointer (some ⟨b,0,none⟩)] w λe w'=>e = .returned (.int .i64 (cpS D S).1)/\StoTo b d F Fd w (cpS D S).2.1 (cpS D S).2.2 w':=by
 refine(callsIn_wide (n:=5)).1 ?_;refine callsIn_of_wp_marks Tryz.func54 rfl trivial ?_ rfl;simp only[Tryz.ntmps54,List.size_toArray,List.length_cons,List.length_nil,Nat.reduceAdd,Nat.reduceSub,Array.replicate_succ,Array.replicate_zero,List.push_toArray,List.append_toArray,List.nil_append,List.cons_append];have hr:Calls Tryz.prog 50 #[.pointer (some ⟨b,0,none⟩)] w λe w'=>e = .returned (.int .i64 0)/\w'=w:=by{obtain⟨wb,mb,m,Fl,H⟩:=H;have:=z5A w b mb _ S.dead H.head;rw[hd] at this;exact this};have hn1:=heap_alloc_new w (.cells #[.slice none 0 0] 107);have hk1:=kal w (.cells #[.slice none 0 0] 107);have ha:=zkP _ b d F Fd D S (H.later hk1) (λ_=>hm);have ht:told S=S.ps:=by{unfold told;rw[hd];rfl};rw[ht] at ha;have H0:=hid (zA1 H (zA1 hd (zA1 hm (zA1 hfew (zA1 hn1 hk1)))));clear H hd hm hfew hn1 hk1 ht;refine wpIn_wide.2 ?_;go_wp2_with fail;refine hr.mono ?_;rintro e w1 ⟨rfl,rfl⟩;clear hr;go_wp2_with fail;refine ha.mono ?_;rintro e w2 ⟨v,rfl,hs,hk2⟩;obtain⟨hbig,f,caps,rfl,hent,hseq⟩:=hs;have H2:=hid (zA1 hbig (zA1 hent (zA1 hseq hk2)));clear ha hbig hent hseq hk2;go_wp2_with fail;obtain⟨wa,hwa⟩:=zX1 (w1.alloc (.cells #[.slice none 0 0] 107));have HA:=hid (show wa.heap.size=w1.heap.size+1 by rw[hwa];simp);rw[<-hwa] at H0 H2;clear hwa;have h2:=H2.out;have HO:=hid (show ∀ p ∈ S.ps,OkP p from H0.out.1.ok.each);refine(wpIn_wide (n:=5)).1 ?_;refine wpIn_rangeFunc_ownF rfl (by omega) (gf:=f) (lb:=caps) rfl trivial h2.2.1 (h2.2.2.1 4 w2 (by omega) (Keep.refl _ _)) (λh k=>h.tr k) (λW l o o' hl _ _ _=>z3Z W l o' (.inr hl)) (Below.refl _ _) (λ_=>rfl) (λpre W=>∃ v vs,CIn w2 w1.heap.size (pre.map Subtype.val) W v vs) (λ_ _ _=>False) (z8D λs W W' r ⟨v,vs,h⟩ hk h1 hr=>⟨v,vs,h.turn (Nat.le_refl _) hk h1 hr⟩) (λ_=>z8D λ_ _ _ _ h _ _ _=>h) ⟨_,[],h2.2.2.2.get H0.out.2.2.2.2.1 id,Recs.nil _ _ _,Keep.refl _ _⟩ (λx=>{ tmps:=#[.pointer (some ⟨b,0,none⟩),undef,.int .i64 0,.int .i64 0,.pointer (some ⟨w1.heap.size,0,none⟩),.string (str x.1.1),.string (str x.1.2),undef,undef,.pointer (some ⟨b,0,none⟩),.int .i64 0,.int .i64 0,.bool false,undef,.pointer (some ⟨b,0,none⟩),.func (.func f) #[] caps,.string (str x.1.1),.string (str x.1.2),undef,undef,undef,undef,undef,undef,undef,undef,undef,undef,undef,undef,undef,undef,undef,undef,undef,undef,undef,undef],defers:=[] }) ?assign ?body ?done ?stop
 case assign=>(intro l x W K hK;simp only[encP];(gi_wp2);exact hK)
 case body=>
  rintro l pre ⟨x,hx⟩ W ⟨v,vs,hP⟩ hlt;obtain⟨qs,hqs⟩:=zX1 (pre.map Subtype.val);have hql:qs.length=pre.length:=by{rw[hqs,List.length_map]};have HQ:=hid (show List.map Subtype.val (pre ++ [(⟨x,hx⟩:InP S.ps)])=qs ++ [x] by rw[hqs];simp);rw[<-hqs] at hP;rw[<-hql] at hlt;clear hqs hql;have hok:=HO.out x hx;have hc:W.cell? ⟨w1.heap.size,0,none⟩=some v:=by{simp[World.cell?,hP.box]};have HP:=hid hP;clear hP;have hn3:=heap_alloc_new W (.cells #[.string (str x.1),.string (str x.2),.bool false] 63);have hk3:=kal W (.cells #[.string (str x.1),.string (str x.2),.bool false] 63);have henc:=zdP _ (some ⟨W.heap.size,0,none⟩) 1 1 [⟨x.1,x.2,false⟩] (Chs.of_row (w:=W.alloc (.cells #[.string (str x.1),.string (str x.2),.bool false] 63)) ⟨rfl,.inr ⟨_,1,_,(0,0),rfl,hn3,Free.zero _,Nat.le_refl _,by decide,rfl,rfl⟩⟩ (λc hc=>by cases hc with | head=>exact⟨show x.1.length<=maxLen by have:=hok.2.1;unfold maxLen;omega,show x.2.length<=maxLen by have:=hok.2.2;unfold maxLen;omega⟩ | tail _ h=>cases h)) rfl;unfold EncPost at henc;simp only[zpY hok,if_true] at henc;have H3:=hid (zA1 hk3 hlt);clear hn3 hk3 hok hlt
  gi_wp2
  refine⟨trivial,(CallsIn.inRound l (callsIn_wide.2 henc)).mono ?_⟩;rintro e W2 ⟨bv,rfl,hf⟩;clear henc;obtain⟨ba,bc,rfl,-⟩:=hf.row.form;have hk12:Keep zF W W2:=H3.out.1.next hf.keep zI zI;have hn4:=heap_alloc_new W2 (.cells #[.slice ba (enc [⟨x.1,x.2,false⟩]).length bc] 29);have hk4:=kal W2 (.cells #[.slice ba (enc [⟨x.1,x.2,false⟩]).length bc] 29);have hk14:=hk12.nx hk4;have hP:=HP.out;have hP4:=hP.recs.keep hk14 (λ_ _ _ x=>x);have hb4:=hk14.get hP.box id;have hcl:(cpL qs).length=qs.length:=by{simp[cpL]};have hmm:=H0.out.2.2.1;obtain⟨va,vc,rfl,-⟩:=hP.recs.row.form;obtain⟨v5,w5,hr5,hrow5,hk5,hv5,-⟩:=z4H (ty:=107) z6P hP4.row (some ⟨W2.heap.size,0,none⟩) 1 1 [.slice ba (enc [⟨x.1,x.2,false⟩]).length bc] ⟨rfl,λ_=>⟨_,rfl,λt u hu=>by rw[z0L,Nat.zero_add,cell_of_row _ _ _ _ _ _ hn4];simpa using hu⟩⟩ (by simp[Value.oneCell']) (by have:=H3.out.2;unfold maxLen;omega) (by have:=H3.out.2;omega);obtain⟨a5,c5,rfl,-⟩:=hrow5.form;have hbne:¬ (Value.slice va (cpL qs).length vc).ownBlock=some w1.heap.size:=λe=>hP.recs.row.not_block hP.box (by decide) e;have hb5:=hk5.get hb4 hbne;have hc2:W2.cell? ⟨w1.heap.size,0,none⟩=some (.slice va (cpL qs).length vc):=by{simp[World.cell?,hk12.get hP.box id]};have hc5:w5.cell? ⟨w1.heap.size,0,none⟩=some (.slice va (cpL qs).length vc):=by{simp[World.cell?,hb5]};have hfr:w5.frozen? ⟨w1.heap.size,0,none⟩=false:=by simp[World.frozen?,hb5]
  have HZ:=hid (show KeepsOthers W (w5.setCell ⟨w1.heap.size,0,none⟩ (.slice a5 ((cpL qs).length+1) c5))/\Keep (λk=>k<wa.heap.size∨w2.heap.size<=k) W (w5.setCell ⟨w1.heap.size,0,none⟩ (.slice a5 ((cpL qs).length+1) c5))/\
    ∃ v vs,CIn w2 w1.heap.size (qs ++ [x]) (w5.setCell ⟨w1.heap.size,0,none⟩ (.slice a5 ((cpL qs).length+1) c5)) v vs from by
   have hk6:Keep (λk=>k=w1.heap.size) w5 (w5.setCell ⟨w1.heap.size,0,none⟩ (.slice a5 ((cpL qs).length+1) c5)):=kst;have hh6:=z0A hb5 0 (.slice a5 ((cpL qs).length+1) c5);have hW:=hP.keep.size;have hW2:=hk12.size;have hW4:=hk4.size;have hl1:=HA.out;have hl2:=h2.2.2.2.size;(have hkB:Keep (λk=>k=w1.heap.size∨(Value.slice va (cpL qs).length vc).ownBlock=some k) W (w5.setCell ⟨w1.heap.size,0,none⟩ (.slice a5 ((cpL qs).length+1) c5)):= (hk14.next hk5 zE (λ_ _ x=>.inr x)).next hk6 zI (λ_ _ x=>.inl x));refine⟨zhX hkB (λk e=>?_),hkB.mono λk _ e=>?_,.slice a5 ((cpL qs).length+1) c5,vs ++ [.slice ba (enc [⟨x.1,x.2,false⟩]).length bc],hh6,?_,?_⟩;{rcases e with rfl | e;{exact⟨_,_,_,hP.box⟩};{obtain⟨-,⟨h,-⟩ | ⟨g,cap,cur,fz,h,hg,-⟩⟩:=hP.recs.row;{rw[h] at e;simp[Value.ownBlock] at e};{rw[h] at e;simp[Value.ownBlock] at e;subst e;exact⟨_,_,_,hg⟩}}};{rcases e with rfl | e;{left;omega};{exact .inr (hP.recs.own k e).1}};{have hp:=hP4.push (w':=w5) (F':=λk=>w2.heap.size<=k) (l:=enc [⟨x.1,x.2,false⟩]) (hf.row.keep hk4 zI) (λk e=>⟨by have:=hf.own k e;have:=H3.out.1.size;omega,id,λe2=>by have:=hf.own k e;have:=hP.recs.row.lt e2;have:=H3.out.1.size;omega⟩) hrow5 hk5 (λ_ x=>x) (λk e=>by{rcases hv5 with ⟨_,h⟩ | ⟨k2,e2,e3⟩;{omega};{have e4:k2=k:=by{rw[e2] at e;exact Option.some.inj e};subst e4;rcases e3 with e3 | e3;{exact .inl e3};{exact .inr ⟨by omega,by omega,id⟩}}});have e:cpL (qs ++ [x])=cpL qs ++ [enc [⟨x.1,x.2,false⟩]]:=by{simp[cpL]};rw[e];exact hp.keep hk6 (λk h _=>by omega)}
   ·exact hP.keep.next hkB zI (λk hk x=>by
     rcases x with x | x;{exact x}
     ·have:=(hP.recs.own k x).1;omega))
  clear hf hk12 hn4 hk4 hk14 hP hP4 hb4 hcl hmm hrow5 hk5 hv5 hbne hb5
  gi_wp2_with (gi_at_builtin;refine z9H rfl _ _ rfl rfl rfl hr5 ?_)
  have hz:=HZ.out;rw[<-HQ.out] at hz;exact hz
 case done=>((rintro Db xs W hD rfl ⟨v,vs,hP⟩ hK;rw[List.attach_map_subtype_val] at hP;have hkW:Keep zF w1 W:=((H0.out.2.2.2.2.2.nx h2.2.2.2)).next hP.keep zI (λk hk x=>by omega);have hW1:w1.heap.size<w2.heap.size:=by have:=HA.out;have:=h2.2.2.2.size;omega);have hltw:=H0.out.1.ltw;obtain⟨wb,mb,m,Fl,HI⟩:=H0.out.1.later hkW;obtain⟨i0,i1,i2,jf,jb⟩:=z0T (show W.heap[b]?=some (.cells #[_,_,_] _ (0,0)) from HI.head);have hc:W.cell? ⟨w1.heap.size,0,none⟩=some v:=by{simp[World.cell?,hP.box]};obtain⟨va,vc,rfl,-⟩:=hP.recs.row.form;have HX:=hid (zA1 HI (zA1 hP (zA1 hkW (zA1 hK (zA1 hD (zA1 hW1 hltw))))));clear HI hP hkW hK hW1 hltw;have hkeep:Keep zF W W.drew:=(Keep.refl _ _).drew;have HI3:=HX.out.1.keep hkeep zI zI;have hrs:=zmU W.drew wb d Fl Fd D S.g HI3.log va vc (cpL S.ps) (HX.out.2.1.recs.keep hkeep (λ_ _ _ x=>x)).lists (by have:=H0.out.2.2.1;simp[cpL];omega) (by have:=H0.out.2.2.2.1;omega);obtain⟨Y,hY⟩:=zX1 (WM.reset D S.g (cpL S.ps));rw[<-hY] at hrs;have HY:=hid hY;have H3:=hid (zA1 hkeep HI3);clear hY hkeep HI3;go_wp2_with fail;refine z0F [] (by kernel_rfl) (by kernel_rfl) ?_;(repeat (first | (apply z0E (by rfl);(intro K w';go_simp;exact id)) | (apply z0J (by rfl);(intro K;go_simp;exact id))));refine z0G (by rfl) (by rfl) (λK hK=>?_);go_simp;refine hrs.mono ?_;rintro e w4 ⟨rfl,ht⟩;obtain⟨hh4,hto⟩:=H3.out.2.both ht;have htl:=zbN w4 b _ mb _ hh4 Y.1;have hD4:Keep (λk=>F k∨Fd k) W.drew w4:=by{obtain⟨_,_,_,h,_⟩:=ht;exact h.mono λk _ x=>x.imp (λy=>(H3.out.2.inl k y).1) id};have H4:=hid (zA1 hto hD4);clear hrs ht hto hh4 hD4 i0 i1 i2 jf jb hc;go_simp;refine hK _ _ ?_;clear hK K;refine z0G (by rfl) (by rfl) (λK hK=>?_);go_simp;refine htl.mono ?_;rintro e w5 ⟨rfl,hh5,hk5⟩;have H5:=hid (zA1 hh5 hk5);clear htl hh5 hk5;go_simp;refine hK _ _ ?_;clear hK K;(repeat (apply z0E (by rfl);(intro K w';go_simp;exact id)));refine z0O ?_;go_wp2_with fail;obtain⟨HI,hP,hkW,hK,hD,hW1,hltw⟩:=HX.out;have hlD:=z0M hK;have hK5:w5.heap[Db]?=some (.deferred (some [])):=H5.out.2.get (H4.out.2.get (H3.out.1.get hK id) (λx=>by have:=hltw _ x;omega)) (λx=>by have:=hltw _ (.inl HI.self);omega);refine⟨by simp,.inl ⟨_,_,rfl,run_takeDeferred hK5,?_⟩⟩;refine⟨_,results_tmp rfl _ _ _,?_⟩;have e:cpS D S=(Y.1,Y.2.1,⟨Y.2.2,S.ps,decide (Y.1=6)⟩):=by{rw[HY.out];unfold cpS;rw[H0.out.2.1];rfl};rw[e];refine⟨rfl,?_⟩;have hz:=H4.out.1 w5 _ H5.out.2 H5.out.1;rw[H0.out.2.1,Bool.false_or] at hz;exact hz.bump (hkW.next H3.out.1 zI zI) (z3Z (K:=λk=>k=Db) w5 Db (.deferred none) rfl) (λk x=>by subst x;exact⟨by omega,Nat.lt_of_lt_of_le hlD H3.out.1.size⟩) hltw)
 case stop=>(rintro Db c pre W _ _ h _;exact h.elim)
theorem zmO (w:World) (b d:Nat) (F Fd:Nat->Prop) (D:Dk) (S:St) (H:StoAt w b d F Fd D S) (hm:S.dead=false->S.ps.length<=1000000) (hfew:D.waits.length<=600000) :
  Calls Tryz.prog 54 #[.pointer (some ⟨b,0,none⟩)] w λe w'=>e = .returned (.int .i64 (cpS D S).1)/\StoTo b d F Fd w (cpS D S).2.1 (cpS D S).2.2 w':=by
 cases hd:S.dead with | false=>{exact zpB w b d F Fd D S H hd (hm hd) hfew} | true=>{have e:cpS D S=(6,D,S):=by{unfold cpS;rw[if_pos hd]};rw[e];have hr:Calls Tryz.prog 50 #[.pointer (some ⟨b,0,none⟩)] w λe w'=>e = .returned (.int .i64 6)/\w'=w:=by{obtain⟨wb,mb,m,Fl,H⟩:=H;have:=z5A w b mb _ S.dead H.head;rw[hd] at this;exact this};have HS:=hid H;clear H hm hfew e hd;go_enter Tryz.func54,Tryz.ntmps54;go_wp2_with fail;refine hr.mono ?_;rintro e w1 ⟨rfl,rfl⟩;clear hr;go_wp2_with fail;go_ret;exact⟨rfl,HS.out.to⟩}
end
section
open Go.RowKit Go.Maps MI SO BM DM WM
theorem SliceOf.keepF {α:Type} {w w':World} {size:Nat} {R:List Value->α->Prop} {v:Value} {l:List α} {K:Nat->Prop} (h:SliceOf w size R v l) (hk:Keep K w w') (hn:0<l.length->∀ x m c,v = .slice (some x) m c->¬ K x.block):SliceOf w' size R v l:=by
 obtain⟨ao,c,rfl,h2,h3,h4⟩:=h;refine⟨ao,c,rfl,h2,h3,λhp=>?_⟩;obtain⟨ad,rfl,h6⟩:=h4 hp;refine⟨ad,rfl,λi hi=>?_⟩;obtain⟨cs,h7,h8,h9⟩:=h6 i hi;refine⟨cs,h7,h8,λj u hu=>?_⟩;have:=h9 j u hu;have hb:(ad.add (i * size+j)).block=ad.block:=by{unfold Addr.add;split <;> rfl};rw[World.cell?_of_block (hk.block _ (World.block_lt_of_cell? w _ this) (by rw[hb];exact hn hp ad _ _ rfl))];exact this
theorem Chs.lt {w:World} {ao:Option Addr} {n c:Nat} {l:List Ch} (h:Chs w (.slice ao n c) l) (hp:0<l.length) (x:Addr) (hx:ao=some x):x.block<w.heap.size:=by
 obtain⟨ad,rfl,h1,-⟩:=h.get (Keep.refl _ w) 0 hp;cases hx;have:=World.block_lt_of_cell? w _ h1;have hb:(x.add (0 * 3)).block=x.block:=by{unfold Addr.add;split <;> rfl};rw[hb] at this;exact this
theorem StoTo.step {w1 w2 w':World} {b d:Nat} {F Fd F1 Fd1:Nat->Prop} {D':Dk} {S':St} (h:StoTo b d F1 Fd1 w2 D' S' w') (hk:Keep (λk=>F k∨Fd k) w1 w2) (h1:∀ k,F1 k->F k∨w1.heap.size<=k) (h2:∀ k,Fd1 k->Fd k∨w1.heap.size<=k):StoTo b d F Fd w1 D' S' w':=by
 obtain⟨F2,Fd2,b1,b2,b3,b4⟩:=h;have s:=hk.size;refine⟨F2,Fd2,b1,hk.next b2 zI (λk hk' x=>?_),λk x=>?_,λk x=>?_⟩;{rcases x with x | x;{rcases h1 k x with y | y;{exact .inl y};{omega}};{rcases h2 k x with y | y;{exact .inr y};{omega}}};{rcases b3 k x with y | y;{exact h1 k y};{right;omega}};{rcases b4 k x with y | y;{exact h2 k y};{right;omega}}
theorem SO.cpS_dead {D:Dk} {S:St} (h:(cpS D S).1=0):(cpS D S).2.2.dead=false:=by
 unfold cpS at *;split;{rename_i h1;rw[if_pos h1] at h;cases h};{rename_i h1;rw[if_neg h1] at h;simp only at h |-;rw[h];rfl}
theorem SO.cpS_dead6 (D:Dk) (S:St):((cpS D S).2.2.dead || decide ((cpS D S).1=6))=(cpS D S).2.2.dead:=by
 unfold cpS;split;{rename_i h;simp[h]};{simp}
theorem SO.cpS_ps (D:Dk) (S:St):(cpS D S).2.2.ps=S.ps:=by
 unfold cpS;split <;> rfl
theorem SO.intoS_ps (D:Dk) (S:St) (b:List UInt8):(z3E D S b).2.2.ps=S.ps:=by
 unfold z3E;split;{split;{exact cpS_ps _ _};{exact cpS_ps _ _}};{rfl}
theorem SO.cpS_waits {D:Dk} (h:D.safe.length<=2048) {S:St}:(cpS D S).2.1.waits.length<=D.waits.length+1024:=by
 unfold cpS;split;{exact Nat.le_add_right _ _};{exact zjB h _ _}
theorem wbytes (l:List Ch):encE l=0->(enc l).length<=1024/\right l=true:=by
 intro h;unfold encE at h;split at h;{rename_i hr;split at h;{cases h};{exact⟨by omega,hr⟩}};{cases h}
theorem zsF (w:World) (b d:Nat) (F Fd:Nat→Prop) (D:Dk) (S:St) (H:StoAt w b d F Fd D S) (ao:Option Addr) (n c:Nat) (l:List Ch) (hL:Chs w (.slice ao n c) l) (hn:n=l.length)
  (hap:0<n→∀ x,ao=some x→¬ F x.block∧¬ Fd x.block) (hm:S.dead=false→S.ps.length≤900000) (hfew:D.waits.length≤500000) :
  Calls Tryz.prog 21 #[.pointer (some ⟨b,0,none⟩),.slice ao n c] w fun e w'=>e = .returned (.int .i64 (doS D S l).1)∧StoTo b d F Fd w (doS D S l).2.1 (doS D S l).2.2 w':=by
 obtain⟨R,hR⟩:=zX1 (doS D S l);rw[← hR]
 have hr:Calls Tryz.prog 50 #[.pointer (some ⟨b,0,none⟩)] w fun e w'=>e = .returned (.int .i64 (if S.dead then 6 else 0))∧w'=w:=by
  obtain⟨wb,mb,m,Fl,H⟩:=H;exact z5A w b mb _ S.dead H.head
 have henc:=zdP w ao n c l hL hn;have H0:=hid (zA1 H (zA1 hL (zA1 hn (zA1 hap (zA1 hm (zA1 hfew hR))))));clear H hL hn hap hm hfew hR;go_enter Tryz.func21,Tryz.ntmps21;go_wp2_with fail;refine hr.mono ?_;rintro e w1 ⟨rfl,rfl⟩;clear hr
 cases hdd:S.dead with
 | true=>
   have HZ:=hid (show R=(6,D,S) by rw[H0.out.2.2.2.2.2.2];unfold doS;rw[if_pos hdd]);clear hdd henc;simp only[if_true];go_wp2_with fail;go_ret;rw[HZ.out];exact⟨rfl,H0.out.1.to⟩
 | false=>
   have HD:=hid hdd;clear hdd;simp only[Bool.false_eq_true,if_false];go_wp2_with fail;refine henc.mono ?_;rintro e w2 ⟨bv,rfl,hf⟩;clear henc
   by_cases hE:encE l=0
   ·have HB:=hid (wbytes l hE)
    rw[if_pos hE] at hf;have HZ:=hid (show R=z8W (z3E D S (enc l)) l by rw[H0.out.2.2.2.2.2.2];unfold doS;rw[if_neg (by rw[HD.out];decide),if_neg (by omega)]);simp only[hE];clear hE;have hk:=hf.keep;have hltw:=H0.out.1.ltw;obtain⟨wb,mb,m,Fl,HI⟩:=H0.out.1.later hk;obtain⟨i0,i1,i2,jf,jb⟩:=z0T (show w2.heap[b]?=some (.cells #[_,_,_] _ (0,0)) from HI.head);obtain⟨ba,bc,rfl,-,-,-,hba⟩:=hf.row.form;have hnF:∀ x,ba=some x→w1.heap.size≤x.block:=fun x e=>hf.own _ (hba x e).2;have happ:=zcG w2 wb d Fl Fd D S.g HI.log ba (enc l).length bc (enc l) (Cells.of_row hf.row) (fun x _ e=>⟨fun y=>by have:=hltw _ (.inl (HI.inl _ y).1);have:=hnF x e;omega,fun y=>by have:=hltw _ (.inr y);have:=hnF x e;omega⟩) (by have:=HB.out.1;omega) (by have:=H0.out.2.2.2.2.2.1;omega);obtain⟨Y,hY⟩:=zX1 (WM.append D S.g (enc l));rw[← hY] at happ;have HY:=hid hY;have H2:=hid (zA1 HI (zA1 hf (zA1 hltw hnF)));clear hY hf hk hltw HI hba hnF;go_wp2_with fail;refine happ.mono ?_;rintro e w3 ⟨rfl,ht⟩;obtain⟨hh3,hto⟩:=H2.out.1.both ht;have htl:=zbN w3 b _ mb _ hh3 Y.1
    have hk3:Keep (fun k=>F k∨Fd k) w2 w3:=by
     obtain⟨_,_,_,h,_⟩:=ht;exact h.mono fun k _ x=>x.imp (fun y=>(H2.out.1.inl k y).1) id
    have H3:=hid (zA1 hto hk3);clear happ ht hto hh3 i0 i1 i2 jf jb hk3;go_wp2_with fail;refine htl.mono ?_;rintro e w4 ⟨rfl,hh4,hk4⟩;have hz:=H3.out.1 _ _ hk4 hh4;rw[HD.out,Bool.false_or] at hz;have HA:=hid (show apS D S (enc l)=(Y.1,Y.2.1,⟨Y.2.2,S.ps,decide (Y.1=6)⟩) by rw[HY.out];rfl);have H4:=hid hz;clear htl hh4 hk4 hz
    go_upto_if 30 with fail
    obtain⟨X,hX⟩:=zX1 (z3E D S (enc l));have HX:=hid hX;rw[← hX] at HZ;clear hX
    go_cut [7] (fun ev wx=>ev = .int .i64 X.1∧Hid (StoTo b d F Fd w1 X.2.1 X.2.2 wx))
    case first=>
     by_cases h5:Y.1=5
     ·have q1:(Y.1 == 5)=true:=by simp[h5]
      have h5':=hid h5;clear h5;have h4:=H4.out;obtain⟨F4,Fd4,a1,a2,a3,a4⟩:=h4;have hps:=H0.out.2.2.2.2.1 HD.out;have hD2:=H0.out.2.2.2.2.2.1;have hw8:=z7L H0.out.1.diskAt.ok.few S.g (enc l);rw[← HY.out] at hw8;have hck:=zmO w4 b d F4 Fd4 Y.2.1 ⟨Y.2.2,S.ps,decide (Y.1=6)⟩ a1 (fun _=>by simp only;omega) (by omega);obtain⟨C,hC⟩:=zX1 (cpS Y.2.1 ⟨Y.2.2,S.ps,decide (Y.1=6)⟩);rw[← hC] at hck;have HC:=hid hC;have hrow:=H2.out.2.1.row.keep a2 (fun k e x=>by have:=H2.out.2.2.1 k x;have:=H2.out.2.1.own k e;omega);have H5:=hid (zA1 a1 (zA1 a2 (zA1 a3 (zA1 a4 (zA1 hw8 hrow)))));clear a1 a2 a3 a4 hw8 hps hD2 hC hrow;go_wp2_with fail;refine hck.mono ?_;rintro e w5 ⟨rfl,ht⟩;have H6:=hid ht;clear hck ht
      by_cases hc0:C.1=0
      ·have q2:(C.1 == 0)=true:=by simp[hc0]
       have h0:=hid hc0;have h6:=H6.out;obtain⟨F5,Fd5,b1,b2,b3,b4⟩:=h6;have hcd:C.2.2.dead=false:=by rw[HC.out];exact cpS_dead (by rw[← HC.out];exact hc0)
       clear hc0;obtain⟨wb5,mb5,m5,Fl5,HI5⟩:=b1;obtain⟨i0,i1,i2,jf,jb⟩:=z0T (show w5.heap[b]?=some (.cells #[_,_,_] _ (0,0)) from HI5.head)
       have hbl:∀ x,ba=some x→(Value.slice ba (enc l).length bc).ownBlock=some x.block:=fun x e=>by
        obtain⟨ba',bc',e1,-,-,-,e2⟩:=H2.out.2.1.row.form;cases e1;exact(e2 x e).2
       have hf5:∀ k,(Value.slice ba (enc l).length bc).ownBlock=some k→¬ (F5 k∨Fd5 k):=fun k e x=>by
        have z1:=H2.out.2.1.own k e;have z2:=H2.out.2.1.row.lt e;have z3:=H5.out.2.2.1 k;have z4:=H5.out.2.2.2.1 k;have z5:=H2.out.2.2.1 k;have z6:=H5.out.2.1.size
        rcases x with x | x
        ·rcases b3 k x with y | y
         ·rcases z3 y with y | y
          ·have:=z5 (.inl y);omega
          ·omega
         ·omega
        ·rcases b4 k x with y | y
         ·rcases z4 y with y | y
          ·have:=z5 (.inr y);omega
          ·omega
         ·omega
       have hrow5:=H5.out.2.2.2.2.2.keep b2 (fun k e x=>by
        have z1:=H2.out.2.1.own k e;have z2:=H2.out.2.1.row.lt e;have z5:=H2.out.2.2.1 k
        rcases x with x | x
        ·rcases H5.out.2.2.1 k x with y | y
         ·have:=z5 (.inl y);omega
         ·omega
        ·rcases H5.out.2.2.2.1 k x with y | y
         ·have:=z5 (.inr y);omega
         ·omega)
       have hwc:C.2.1.waits.length≤800000:=by
        have z1:=cpS_waits HI5.log.disk_.ok.few (D:=C.2.1) (S:=C.2.2);have z2:=cpS_waits (H5.out.1.diskAt.ok.few) (S:=⟨Y.2.2,S.ps,decide (Y.1=6)⟩);rw[← HC.out] at z2;have:=H5.out.2.2.2.2.1;have:=H0.out.2.2.2.2.2.1;omega
       have happ:=zcG w5 wb5 d Fl5 Fd5 C.2.1 C.2.2.g HI5.log ba (enc l).length bc (enc l) (Cells.of_row hrow5) (fun x _ e=>⟨fun y=>hf5 _ (hbl x e) (.inl (HI5.inl _ y).1),fun y=>hf5 _ (hbl x e) (.inr y)⟩) (by have:=HB.out.1;omega) hwc;obtain⟨Z,hZ⟩:=zX1 (WM.append C.2.1 C.2.2.g (enc l));rw[← hZ] at happ;have HZ2:=hid hZ;have H7:=hid (zA1 HI5 (zA1 hcd (zA1 b2 (zA1 b3 b4))));clear hZ hbl hf5 hrow5 hwc HI5 hcd b2 b3 b4;go_wp2_with fail;refine happ.mono ?_;rintro e w6 ⟨rfl,ht⟩;obtain⟨hh6,hto⟩:=H7.out.1.both ht;have htl:=zbN w6 b _ mb5 _ hh6 Z.1;have H8:=hid hto;clear happ ht hto hh6 i0 i1 i2 jf jb;go_wp2_with fail;refine htl.mono ?_;rintro e w7 ⟨rfl,hh7,hk7⟩;have hz:=H8.out _ _ hk7 hh7;rw[H7.out.2.1,Bool.false_or] at hz;have H9:=hid hz;clear htl hh7 hk7 hz;go_wp2_with fail;go_meet
       have e:X=(Z.1,Z.2.1,⟨Z.2.2,C.2.2.ps,decide (Z.1=6)⟩):=by
        rw[HX.out];unfold z3E;rw[HA.out,if_pos h5'.out];simp only;rw[← HC.out,if_pos h0.out];unfold apS;rw[← HZ2.out]
       rw[e];refine⟨rfl,hid ?_⟩;exact((H9.out.step H7.out.2.2.1 H7.out.2.2.2.1 H7.out.2.2.2.2).step H5.out.2.1 H5.out.2.2.1 H5.out.2.2.2.1).since H2.out.2.1.keep
      ·have q2:(C.1 == 0)=false:=by simp[hc0]
       have h0:=hid hc0;clear hc0;go_wp2_with fail;go_meet
       have e:X=C:=by
        rw[HX.out];unfold z3E;rw[HA.out,if_pos h5'.out];simp only;rw[← HC.out,if_neg h0.out]
       rw[e];exact⟨rfl,hid ((H6.out.step H5.out.2.1 H5.out.2.2.1 H5.out.2.2.2.1).since H2.out.2.1.keep)⟩
     ·have q1:(Y.1 == 5)=false:=by simp[h5]
      have h5':=hid h5;clear h5;go_wp2_with fail;go_meet
      have e:X=(Y.1,Y.2.1,⟨Y.2.2,S.ps,decide (Y.1=6)⟩):=by
       rw[HX.out];unfold z3E;rw[HA.out,if_neg h5'.out]
      rw[e];exact⟨rfl,hid (H4.out.since H2.out.2.1.keep)⟩
    case rest=>
     obtain⟨rfl,HR⟩:=hcut
     by_cases hx0:X.1=0
     ·have q1:(X.1 == 0)=true:=by simp[hx0]
      have e:R=(0,X.2.1,{ X.2.2 with ps:=layL S.ps l }):=by
       rw[HZ.out];unfold z8W;rw[if_pos hx0,hx0,show X.2.2.ps=S.ps by rw[HX.out];exact intoS_ps _ _ _]
      have h0:=hid (zA1 hx0 e);clear hx0 e;have hr:=HR.out;obtain⟨F9,Fd9,c1,c2,c3,c4⟩:=hr;obtain⟨wb9,mb9,m9,Fl9,HI9⟩:=c1;obtain⟨-,hL,hn,hap,hm,-⟩:=H0.out;have hlt:=hL.lt
      have hLc:Chs wc (.slice ao n c) l:=SliceOf.keepF hL c2 (fun hp x m c e y=>by
       cases e;have:=hap (by omega) x rfl
       exact y.elim this.1 this.2)
      have hps:X.2.2.ps=S.ps:=by rw[HX.out];exact intoS_ps _ _ _
      have hlay:=zlF wc b mb9 _ _ m9 ao n c l HI9.head HI9.map HI9.ne hLc hn (fun hp x hx e=>by
       rcases c3 mb9 HI9.fm with y | y
       ·exact(hap hp x hx).1 (by rw[e];exact y)
       ·have:=hlt (by omega) x hx;omega) (by
       have h1:=HI9.len;have h2:=hm HD.out;have h3:=(z1S HB.out.2).1;rw[hps] at h1
       omega)
      have H7:=hid (zA1 HI9 (zA1 c2 (zA1 c3 (zA1 c4 hps))));clear hL hn hap hm hlt hLc c2 c3 c4 hps HI9;go_wp2_with fail;refine hlay.mono ?_;rintro e w8 ⟨rfl,hp8,hk8⟩;have H8:=hid (zA1 hp8 hk8);clear hlay hp8 hk8;go_wp2_with fail;go_ret;obtain⟨HI9,c2,c3,c4,hps⟩:=H7.out;rw[h0.out.2];have hg:=mapL_get l HI9.ok.sorted HI9.get;rw[hps] at hg;refine⟨by rw[h0.out.1];rfl,F9,Fd9,(HI9.laid (ps':=layL S.ps l) H8.out.2 H8.out.1 hg ?_).at,c2.next H8.out.2 (fun _ _ x=>x) (fun k hk x=>?_),c3,c4⟩
      ·have:=HI9.ok.layL (z1S HB.out.2).2
       rw[hps] at this;exact this
      ·subst x
       rcases c3 _ HI9.fm with y | y
       ·exact .inl y
       ·omega
     ·have q1:(X.1 == 0)=false:=by simp[hx0]
      have e:R=X:=by
       rw[HZ.out];unfold z8W;rw[if_neg hx0]
      have h0:=hid e;clear hx0 e;go_wp2_with fail;go_ret;rw[h0.out];exact⟨rfl,HR.out⟩
   ·have HZ:=hid (show R=((encE l:Int),D,S) by rw[H0.out.2.2.2.2.2.2];unfold doS;rw[if_neg (by rw[HD.out];decide),if_pos hE])
    obtain⟨x,hx⟩:=zX1 (encE l);rw[← hx] at hE HZ ⊢;have q1:((x:Int) == 0)=false:=by simp;omega
    have q2:decide ((x:Int)=0)=false:=by simp;omega
    have q3:((x:Int) != 0)=true:=by simp;omega
    have hk:=hid hf.keep;clear hf hx hE;go_wp2_with fail;go_ret;rw[HZ.out];exact⟨rfl,(H0.out.1.later hk.out).to.since hk.out⟩
def getS (ps:List (Str×Str)) (k:Str):Value:=.tuple #[.string (str ((AL.get ps k).getD [])),.bool (AL.get ps k).isSome]
def SO.waitS (D:Dk) (S:St):Nat:=if S.dead then 0 else if gone D S.g then 0 else S.g.l.length - S.g.safe
def SO.markS (D:Dk) (S:St):St:=if S.dead then S else { S with g:=WM.mark D S.g }
theorem SO.decL_append:∀ (L M:List (List UInt8)) (ps:List (Str×Str)),decL (L ++ M) ps=match decL L ps with | none=>none | some q=>decL M q
 | [],_,_=>rfl
 | b :: L,M,ps=>by{simp only[List.cons_append,decL];cases dec b with | none=>{rfl} | some l=>{exact decL_append L M (layL ps l)}}
theorem SO.act_up {D:Dk} (h:(act D).1=true):(act D).2.down=false:=by
 unfold act at *;split;{rename_i hd;rw[if_pos hd] at h;cases h};{rename_i hd;rw[if_neg hd] at h;split;{rename_i h0;rw[h0] at h;cases h};{simpa using hd};{simpa using hd}}
theorem SO.write_up {D:Dk} {a:Int} {b:List UInt8} (h:(DM.write D a b).1=0):(DM.write D a b).2.down=false:=by
 unfold DM.write at *;split;{rename_i hd;rw[if_pos hd] at h;cases h};{rename_i hd;rw[if_neg hd] at h;split;{rename_i h1;rw[if_pos h1] at h;cases h};{rename_i h1;rw[if_neg h1] at h;split;{rename_i h2;exact act_up h2};{rename_i h2;rw[if_neg h2] at h;cases h}}}
theorem SO.sync_up {D:Dk} (h:(DM.sync D).1=0):(DM.sync D).2.down=false:=by
 unfold DM.sync at *;split;{rename_i h2;exact act_up h2};{rename_i h2;rw[if_neg h2] at h;cases h}
theorem SO.wipe_up (ep:Nat) (b:List UInt8) (en:Nat):∀ (k i:Nat) (wr:Bool) (D:Dk),D.down=false->(wipe ep b en i k wr D).1=0->(wipe ep b en i k wr D).2.2.down=false
 | 0,_,_,_,hd,_=>hd
 | k+1,i,wr,D,hd,h=>by{unfold wipe at *;split;{rename_i h1;rw[if_pos h1] at h;simp only at h |-;split;{rename_i h2;rw[if_pos h2] at h;exact wipe_up ep b en k (i+1) true _ (write_up h2) h};{rename_i h2;rw[if_neg h2] at h;exact absurd h h2}};{rename_i h1;rw[if_neg h1] at h;exact wipe_up ep b en k (i+1) wr D hd h}}
theorem SO.open_up {D:Dk} {g:Lg} (h:(z2F D).2.1=some g):(z2F D).1=0/\gone (z2F D).2.2 g=false/\g.dead=false:=by
 unfold z2F at *;split at h;{cases h};{rename_i h6;rw[if_neg h6];split at h;{cases h};{rename_i hd;rw[if_neg hd];simp only at h |-;have hw:=wipe_up (epoch D) (WM.bytes D (epoch D)) (scan (WM.bytes D (epoch D)) ((WM.bytes D (epoch D)).length+1) 0).2 (half D) 0 false D (by simpa using hd);generalize wipe (epoch D) (WM.bytes D (epoch D)) (scan (WM.bytes D (epoch D)) ((WM.bytes D (epoch D)).length+1) 0).2 0 (half D) false D=r at *;split at h;{cases h};{rename_i hr;rw[if_neg hr];have hr0:r.1=0:=by{simpa using hr};split at h;{rename_i hy;rw[if_pos hy];split at h;{cases h};{rename_i hs;rw[if_neg hs];cases h;have:=sync_up (D:=r.2.2) (by simpa using hs);unfold gone;simp[this]}};{rename_i hy;rw[if_neg hy];cases h;have:=hw hr0;unfold gone;simp[this]}}}}
theorem SO.open_none {D:Dk} (h:(z2F D).2.1=none):(z2F D).1≠0:=by
 unfold z2F at *;split at h;{rename_i h6;rw[if_pos h6];simp};{rename_i h6;rw[if_neg h6];split at h;{rename_i hd;rw[if_pos hd];simp};{rename_i hd;rw[if_neg hd];simp only at h |-;generalize wipe (epoch D) (WM.bytes D (epoch D)) (scan (WM.bytes D (epoch D)) ((WM.bytes D (epoch D)).length+1) 0).2 0 (half D) false D=r at *;split at h;{rename_i hr;rw[if_pos hr];exact hr};{rename_i hr;rw[if_neg hr];split at h;{rename_i hy;rw[if_pos hy];split at h;{rename_i hs;rw[if_pos hs];exact hs};{cases h}};{cases h}}}}
theorem SO.dec_len {b:List UInt8} {l:List Ch} (h:dec b=some l):l.length<=32/\∀ c ∈ l,z1L c=true:=z1S (zwM h).1
def SOpenTo (d:Nat) (Fd:Nat→Prop) (w:World) (R:Int×Option St×Dk) (e:Ending) (w':World):Prop:=
 match R.2.1 with
 | none=>e = .returned (.tuple #[.pointer none,.int .i64 R.1])∧DiskTo d Fd w R.2.2 w'
 | some s=>∃ b F Fd',e = .returned (.tuple #[.pointer (some ⟨b,0,none⟩),.int .i64 R.1])∧StoAt w' b d F Fd' R.2.2 s∧Keep Fd w w'∧(∀ k,F k→w.heap.size≤k)∧∀ k,Fd' k→Fd k∨w.heap.size≤k
structure OpR (w5:World) (mb:Nat) (L:List (List UInt8)) (i:Nat) (wr:World):Prop where
 keep:Keep (fun k=>k=mb) w5 wr
 ex:∃ m ps,PairsAt wr mb m∧decL (L.take i) []=some ps∧(∀ x,AL.get m x=AL.get ps x)∧PsOk ps∧ps.length≤32 * i
theorem zqJ (w:World) (d:Nat) (Fd:Nat→Prop) (D:Dk) (hD:DiskAt w d Fd D) (hfew:D.waits.length≤800000) :
  Calls Tryz.prog 19 #[.pointer (some ⟨d,0,none⟩)] w (SOpenTo d Fd w (opS D)):=by
 have hop:=zuG w d Fd D hD hfew;obtain⟨R,hR⟩:=zX1 (opS D);rw[← hR];obtain⟨Post,hPost⟩:=zX1 (SOpenTo d Fd w R);rw[← hPost];have H0:=hid (zA1 hD (zA1 hR hPost));clear hD hfew hR hPost;go_enter Tryz.func19,Tryz.ntmps19;go_wp2_with fail;refine hop.mono ?_;intro e w1 hp;unfold OpenTo at hp
 cases hg:(z2F D).2.1 with
 | none=>
   have e1:R=((z2F D).1,none,(z2F D).2.2):=by rw[H0.out.2.1];unfold opS;rw[hg]
   rw[hg] at hp;obtain⟨rfl,hto⟩:=hp;have HZ:=hid (zA1 e1 (zA1 hto (open_none hg)));have q1:((z2F D).1 != 0)=true:=by simp[open_none hg]
   have q2:((z2F D).1 == 0)=false:=by simp[open_none hg]
   obtain⟨z,hz⟩:=zX1 ((z2F D).1);rw[← hz] at q1 q2 HZ ⊢;clear hto e1 hg hop hz;go_wp2_with fail;rw[H0.out.2.2];unfold SOpenTo;rw[HZ.out.1];exact⟨rfl,HZ.out.2.1⟩
 | some g=>
   rw[hg] at hp;obtain⟨wb,Fl,Fd1,rfl,a1,a2,a3,a4⟩:=hp;obtain⟨z0,z1,-⟩:=open_up hg;have HG:=hid (zA1 hg (zA1 z0 z1));rw[z0];have H1:=hid (zA1 a1 (zA1 a2 (zA1 a3 a4)));clear hop hg z0 z1 a1 a2 a3 a4;have hmm:=@run_makeMap Tryz.prog;obtain⟨mb,hmb⟩:=zX1 (w1.heap.size);have hm2:PairsAt (w1.alloc (.map #[] 0)) mb []:=by rw[hmb];exact MapAt.made w1 _ _ _
   have hk2:=kal w1 (.map #[] 0);have hs2:(w1.alloc (.map #[] 0)).heap.size=w1.heap.size+1:=by simp
   have hk3:Keep (fun _=>False) w1 ((w1.alloc (.map #[] 0)).alloc (.cells #[.pointer (some ⟨wb,0,none⟩),.map (some w1.heap.size),.bool false] 106)):=hk2.alloc _;have hn3:=heap_alloc_new (w1.alloc (.map #[] 0)) (.cells #[.pointer (some ⟨wb,0,none⟩),.map (some w1.heap.size),.bool false] 106);have hs3:((w1.alloc (.map #[] 0)).alloc (.cells #[.pointer (some ⟨wb,0,none⟩),.map (some w1.heap.size),.bool false] 106)).heap.size=w1.heap.size+2:=by simp
   have hm3:PairsAt ((w1.alloc (.map #[] 0)).alloc (.cells #[.pointer (some ⟨wb,0,none⟩),.map (some w1.heap.size),.bool false] 106)) mb []:=MapAt.keep hm2 ((Keep.refl (fun _=>False) _).alloc _) (fun x=>x);rw[hs2] at hn3;have hrec:=zoA _ wb d Fl Fd1 _ g (H1.out.1.later hk3) HG.out.2.2;have H3:=hid (zA1 hk3 (zA1 hn3 (zA1 hs3 (zA1 hm3 hmb))));clear hm2 hk2 hs2 hmb hm3 hk3 hn3 hs3;go_wp2_with fail;refine hrec.mono ?_;rintro e w5 ⟨v,rfl,⟨vs,hm⟩,hk5⟩;obtain⟨ao,c,rfl,-⟩:=hm.row.form;have H5:=hid (zA1 hm hk5);clear hrec hm hk5 hmm;go_wp2_with fail;obtain⟨N,hN⟩:=zX1 (g.l.length);have HN:=hid hN;rw[← hN] at H5 ⊢;clear hN;have hNb:N≤4000:=by rw[HN.out];exact H1.out.1.ok.count
   go_loopw [26] (fun iv wr=>∃ i:Nat,i≤N∧iv = .int .i64 i∧Hid (OpR w5 mb g.l i wr)) (fun iv _=>N - (intOf iv).toNat)
   case atStart=>exact⟨0,Nat.zero_le _,rfl,hid ⟨Keep.refl _ _,[],[],MapAt.keep H3.out.2.2.2.1 H5.out.2 (fun x=>x),rfl,fun _=>rfl,PsOk.nil,Nat.le_refl _⟩⟩
   case round=>
    obtain⟨i,hi,rfl,HT⟩:=hrel
    by_cases hin:i<N
    ·have h4:(i:Int)<N:=by omega
     have hil:i<g.l.length:=by rw[← HN.out];exact hin
     have hmb:=H3.out.2.2.2.2;have hs3:=H3.out.2.2.1;have hrecs:=H5.out.1.keep HT.out.keep (fun k x _ e=>by subst e;omega);rw[HN.out] at hrecs;obtain⟨gr,ad2,c2,rfl,hc,hrow,hlc⟩:=hrecs.one i hil;have hsm:=H1.out.1.ok.small _ (List.getElem_mem hil);have hdrop:g.l=g.l.take i ++ (g.l[i] :: g.l.drop (i+1)):=by rw[List.getElem_cons_drop,List.take_append_drop]
     have htk:g.l.take (i+1)=g.l.take i ++ [g.l[i]]:=by rw[List.take_add_one,List.getElem?_eq_getElem hil,Option.toList_some]
     obtain⟨x,hx⟩:=zX1 (g.l[i]);rw[← hx] at hc hrow hlc hsm hdrop htk;clear hx hrecs;have hdec:=zmX wr ad2 x.length c2 x (Cells.of_row hrow) (by omega);have HS:=hid (zA1 hdrop (zA1 htk (zA1 hil (zA1 hmb hs3))));clear hdrop htk hrow hlc hsm hmb hs3;go_wp2_with fail;refine hdec.mono ?_;intro e w6 hp;unfold DecPost at hp;obtain⟨hk6,hp⟩:=hp;have HK:=hid hk6;clear hdec hk6
     cases hdx:dec x with
     | none=>
       rw[hdx] at hp;simp only at hp;subst hp
       have e1:R=(50,none,(z2F D).2.2):=by
        obtain⟨m,ps,-,h2,-⟩:=HT.out.ex;rw[H0.out.2.1];unfold opS;rw[HG.out.1];simp only;rw[HS.out.1,decL_append,h2];simp only[decL];rw[hdx]
       have HZ:=hid e1;clear e1 hdx hc;go_wp2_with fail;rw[H0.out.2.2];unfold SOpenTo;rw[HZ.out];refine⟨rfl,?_⟩;have hk:=(((H3.out.1.nx H5.out.2)).next HT.out.keep (H:=fun _=>False) (fun _ _ x=>x) (fun k hk' x=>by have:=HS.out.2.2.2.1;omega)).next HK.out (fun _ _ x=>x) (fun _ _ x=>x);exact⟨Fd1,H1.out.1.disk_.keep hk (fun _ _ x=>x),H1.out.2.1.next hk (fun _ _ x=>x) (fun _ _ x=>x.elim),H1.out.2.2.2⟩
     | some l=>
       rw[hdx] at hp;obtain⟨v,rfl,hrow,hown⟩:=hp;obtain⟨la,lc,rfl,-,-,-,hla⟩:=hrow.form;obtain⟨hl32,hlr⟩:=dec_len hdx;have hch:=Chs.of_row hrow (fun c hc=>zoU (hlr c hc));obtain⟨m,ps,hm,hdl,hget,hok,hpl⟩:=HT.out.ex;have hk36:Keep (fun k=>k=mb) ((w1.alloc (.map #[] 0)).alloc (.cells #[.pointer (some ⟨wb,0,none⟩),.map (some w1.heap.size),.bool false] 106)) w6:=(H5.out.2.next HT.out.keep (fun _ _ x=>x.elim) (fun _ _ x=>x)).next HK.out (fun _ _ x=>x) (fun _ _ x=>x.elim);have hh6:=hk36.get H3.out.2.1 (fun e=>by have:=HS.out.2.2.2.1;omega);have hh6b:w6.heap[w1.heap.size+1]?=some (.cells (z3I (.pointer (some ⟨wb,0,none⟩)) mb false) 106 (0,0)):=by rw[HS.out.2.2.2.1];exact hh6
       have hcnt:=H1.out.1.ok.count;have hmlen:=zuZ hm.1 hok.sorted hget
       have hlay:=zlF w6 (w1.heap.size+1) mb (.pointer (some ⟨wb,0,none⟩)) false m la l.length lc l hh6b (MapAt.keep hm HK.out (fun x=>x)) (by have:=HS.out.2.2.2.1;omega) hch rfl (fun hp y hy e=>by
        have:=hown _ (hla y hy).2;have:=MapAt.lt hm
        omega) (by have:=HS.out.2.2.1;omega)
       have H7:=hid (zA1 hdl (zA1 hget (zA1 hok (zA1 hpl (zA1 hdx (zA1 hl32 (zA1 hlr hm)))))));clear hrow hown hla hl32 hlr hch hm hdl hget hok hpl hk36 hh6 hh6b hcnt hmlen hdx hc;go_wp2_with fail;refine hlay.mono ?_;rintro e w8 ⟨rfl,hp8,hk8⟩;have H8:=hid (zA1 hp8 hk8);clear hlay hp8 hk8;go_wp2_with fail;go_roundw
       case rel=>exact⟨i+1,by omega,by go_num,hid ⟨(HT.out.keep.next HK.out (fun _ _ x=>x) (fun _ _ x=>x.elim)).next H8.out.2 (fun _ _ x=>x) (fun _ _ x=>x),mapL m l,layL ps l,H8.out.1,by
        obtain⟨hdl,hget,hok,hpl,hdx,hl32,hlr,hm⟩:=H7.out;rw[HS.out.2.1,decL_append,hdl];simp only[decL]
        rw[hdx],mapL_get l H7.out.2.2.1.sorted H7.out.2.1,H7.out.2.2.1.layL H7.out.2.2.2.2.2.2.1,by
        have:=z6Z l ps;have:=H7.out.2.2.2.1;have:=H7.out.2.2.2.2.2.1
        omega⟩⟩
       case measure=>simp[intOf];omega
    ·have h4:decide ((i:Int)<N)=false:=by simp;omega
     go_wp2_with fail;rw[H0.out.2.2];obtain⟨m,ps,hm,hdl,hget,hok,hpl⟩:=HT.out.ex;obtain rfl:i=N:=by omega
     rw[HN.out,List.take_length] at hdl
     have e1:R=(0,some ⟨g,ps,false⟩,(z2F D).2.2):=by
      rw[H0.out.2.1];unfold opS;rw[HG.out.1];simp only;rw[hdl]
     unfold SOpenTo;rw[e1];obtain⟨hk3,hn3,hs3,-,hmb⟩:=H3.out;obtain⟨hlog,hkw,hFl,hFd⟩:=H1.out;have hk:Keep (fun _=>False) w1 wr:=(hk3.nx H5.out.2).next HT.out.keep (fun _ _ x=>x) (fun k hk' x=>by omega);have hh:=HT.out.keep.get (H5.out.2.get hn3 id) (show ¬ (w1.heap.size+1=mb) by omega);have hlt1:=hlog.ltz;have s0:=hkw.size;have s1:=hk.size;have hmlt:=MapAt.lt hm;replace hh:wr.heap[w1.heap.size+1]?=some (.cells (z3I (.pointer (some ⟨wb,0,none⟩)) mb false) 106 (0,0)):=by rw[hmb];exact hh
     refine⟨w1.heap.size+1,fun k=>Fl k∨k=mb∨k=w1.heap.size+1,Fd1,rfl,StoIs.at (wb:=wb) (mb:=mb) (m:=m) (Fl:=Fl) ⟨hh,hm,hlog.keep hk (fun _ _ x=>x) (fun _ _ x=>x),hget,fun k x=>⟨.inl x,?_,?_⟩,.inr (.inr rfl),.inr (.inl rfl),by omega,fun k x=>?_,fun k x y=>?_,hok⟩,
      hkw.next hk (fun _ _ x=>x) (fun _ _ x=>x.elim),fun k x=>?_,hFd⟩
     ·have:=hlt1 k (.inl x);omega
     ·have:=hlt1 k (.inl x);omega
     ·rcases x with x | x | x
      ·have:=hlt1 k (.inl x);omega
      ·omega
      ·subst x;exact z0M hh
     ·have:=hlt1 k (.inr y)
      rcases x with x | x | x
      ·exact hlog.apart_ k x y
      ·omega
      ·omega
     ·rcases x with x | x | x
      ·exact hFl k x
      ·omega
      ·omega
def HvPost (w:World) (e:Ending) (w':World):Prop:=∃ x:Bool,e = .returned (.bool x)∧Keep (fun _=>False) w w'
def DkT (d:Nat) (D:Dk):Thing:=fun w F=>DiskAt w d F D
def StoT (b d:Nat) (D:Dk) (S:St):Thing:=fun w F=>∃ F1 F2,StoAt w b d F1 F2 D S∧F=fun k=>F1 k∨F2 k
def SideP (d:Nat) (D:Dk) (o:Option St) (sv:Value):Thing:=fun w F=>
 match o with
 | none=>sv = .pointer none∧DkT d D w F
 | some S=>∃ b,sv = .pointer (some ⟨b,0,none⟩)∧StoT b d D S w F
theorem DkT.lives (d:Nat) (D:Dk):Lives (DkT d D):=⟨λh hk hn=>DiskAt.keep h hk hn,λh=>DiskAt.lt h⟩
theorem StoT.lives (b d:Nat) (D:Dk) (S:St):Lives (StoT b d D S):=
 ⟨λ⟨F1,F2,h,e⟩ hk hn=>⟨F1,F2,h.keep hk (λk x=>hn k (by rw[e];exact .inl x)) (λk x=>hn k (by rw[e];exact .inr x)),e⟩,λ⟨F1,F2,h,e⟩ k x=>h.ltw k (by rw[e] at x;exact x)⟩
theorem SOpenTo.side {d:Nat} {Fd:Nat->Prop} {w w':World} {R:Int×Option St×Dk} {e:Ending} (h:SOpenTo d Fd w R e w'):∃ sv,e = .returned (.tuple #[sv,.int .i64 R.1])/\Turns (SideP d R.2.2 R.2.1 sv) Fd w w':=by
 obtain⟨r,o,D⟩:=R;cases o with | none=>{obtain⟨rfl,F',h1,h2,h3⟩:=h;exact⟨_,rfl,F',⟨rfl,h1⟩,h2,h3⟩} | some S=>{obtain⟨b,F,Fd',rfl,h1,h2,h3,h4⟩:=h;exact⟨_,rfl,λk=>F k∨Fd' k,⟨b,rfl,F,Fd',h1,rfl⟩,h2,λk x=>x.elim (λy=>.inr (h3 k y)) (h4 k)⟩}
end
section
open Go.ChangeShapes Go.WideShapes Go.RowKit Go.Deep MI SO BM DM WM
structure SAct where
 kind:Int
 n:Int
 list:List Ch
 keep:List Int
deriving Inhabited
def SActR (w:World) (cs:List Value) (x:SAct):Prop:=
 ∃ lv kv,cs = [.int .i64 x.kind,.int .i64 x.n,lv,kv]∧Chs w lv x.list∧Ints w kv x.keep∧(-9223372036854775808≤x.kind∧x.kind≤9223372036854775807)∧(-9223372036854775808≤x.n∧x.n≤9223372036854775807)
abbrev SActs (w:World) (v:Value) (l:List SAct):Prop:=SliceOf w 4 (SActR w) v l
def ChLR (w:World) (cs:List Value) (x:List Ch):Prop:=∃ lv,cs = [lv]∧Chs w lv x
abbrev ChLs (w:World) (v:Value) (l:List (List Ch)):Prop:=SliceOf w 1 (ChLR w) v l
section
variable {H:Type} {enc:TypeId×Value→H} {w:World} {base:Nat} {held:Bool} {fuel:Nat}
end
end
section
open Go.RowKit Go.Maps MI SO BM DM WM
structure One (w0:World) (T:Thing) (F:Nat→Prop) (w:World):Prop where
 one:T w F
 new:∀ i,F i→w0.heap.size≤i
 keep:Keep (fun _=>False) w0 w
theorem One.turn {w0 w w':World} {T T':Thing} {F:Nat->Prop} (h:One w0 T F w) (t:Turns T' F w w'):∃ F',One w0 T' F' w':=by
 obtain⟨F',h1,h2,h3⟩:=t;exact⟨F',h1,λi x=>(h3 i x).elim (h.new i) λz=>Nat.le_trans h.keep.size z,h.keep.next h2 zI (λi hi x=>absurd (h.new i x) (by omega))⟩
theorem One.later {w0 w w':World} {T:Thing} {F:Nat->Prop} (h:One w0 T F w) (LT:Lives T) (hk:Keep zF w w'):One w0 T F w':=⟨LT.keep h.one hk zI,h.new,h.keep.next hk zI zI⟩
theorem One.shrink {w0 w:World} {T T':Thing} {F F':Nat->Prop} (h:One w0 T F w) (h1:T' w F') (s:∀ k,F' k->F k):One w0 T' F' w:=⟨h1,λi x=>h.new i (s i x),h.keep⟩
def ncL:List Ch:=[⟨[97],[120],false⟩,⟨[98],[],true⟩]
def nS0:St:=⟨⟨0,[],0,false⟩,[],false⟩
def nD0:Dk:=DM.new 20
def nD1:Dk:=(doS nD0 nS0 ncL).2.1
def nS1:St:=⟨⟨0,[[2,1,97,0,1,120,1,98,1]],0,false⟩,[([97],[120])],false⟩
structure RcIn (w:World) (ps:List (Str×Str)) (lv:Value) (i:Nat) (wr:World):Prop where
 keep:Keep (fun _=>False) w wr
 ex:∃ vs,Recs wr (fun k=>w.heap.size≤k) (fun _=>False) lv (cpL (ps.take i)) vs
theorem zmR (w:World) (b d:Nat) (F Fd:Nat->Prop) (D:Dk) (S:St) (H:RStoAt w b d F Fd D S) (hm:S.dead=false->S.ps.length<=1000000) (hfew:D.waits.length<=600000) :
  Calls Tryz.prog 57 #[.pointer (some ⟨b,0,none⟩)] w λe w'=>e = .returned (.int .i64 (cpS D S).1)/\RStoTo b d F Fd w (cpS D S).2.1 (cpS D S).2.2 w':=by
 obtain⟨R,hR⟩:=zX1 (cpS D S);rw[<-hR];obtain⟨wb,pv,Fl,HI⟩:=H;obtain⟨i0,i1,i2,jf,jb⟩:=z0T (show w.heap[b]?=some (.cells #[_,_,_] _ (0,0)) from HI.head);cases hdd:S.dead with
 | true=>
   rw[hdd] at i2;have HZ:=hid (show R=(6,D,S) by rw[hR];unfold cpS;rw[if_pos hdd]);have H0:=hid HI;clear hdd HI hR hm hfew;go_enter Tryz.func57,Tryz.ntmps57;go_wp2_with fail;go_ret;rw[HZ.out];exact⟨rfl,H0.out.at.to⟩
 | false=>
   rw[hdd] at i2;obtain⟨pa,pc,rfl,hpc,-⟩:=HI.row.form;obtain⟨N,hN⟩:=zX1 (S.ps.length);have HN:=hid hN;have hNb:N<=1000000:=by{rw[hN];exact hm hdd};have H0:=hid (zA1 HI (zA1 hR (zA1 hdd hfew)));rw[<-hN] at i1 hpc;clear hdd HI hR hm hfew hN;go_enter Tryz.func57,Tryz.ntmps57;go_wp2_with fail;clear i0 i1 i2 jf jb
   go_loopw [3,4] (λlv iv wr=>∃ i:Nat,i<=N/\iv = .int .i64 i/\Hid (RcIn w S.ps lv i wr)) (λ_ iv _=>N - (intOf iv).toNat)
   case atStart=>exact⟨0,Nat.zero_le _,rfl,hid ⟨Keep.refl _ _,[],Recs.nil _ _ _⟩⟩
   case round=>(obtain⟨i,hi,rfl,HT⟩:=hrel;have hhr:=HT.out.keep.get H0.out.1.head id;rw[<-HN.out] at hhr;obtain⟨i0,i1,i2,jf,jb⟩:=z0T (show wr.heap[b]?=some (.cells #[_,_,_] _ (0,0)) from hhr);clear hhr;by_cases hin:i<N;{have h4:(i:Int)<N:=by{omega};have hil:i<S.ps.length:=by{rw[<-HN.out];exact hin};have hrow:=H0.out.1.row.keep HT.out.keep zI;rw[<-HN.out] at hrow;obtain⟨g,rfl,k0,k1⟩:=zkD hrow i hil;have hok:=H0.out.1.ok.each _ (List.getElem_mem hil);have htk:S.ps.take (i+1)=S.ps.take i ++ [S.ps[i]]:=by{rw[List.take_add_one,List.getElem?_eq_getElem hil,Option.toList_some]};obtain⟨x,hx⟩:=zX1 (S.ps[i]);rw[<-hx] at k0 k1 hok htk;obtain⟨lv,cs,hlv⟩:∃ ad c,u3 = .slice ad (cpL (S.ps.take i)).length c:=by{obtain⟨vs,hr⟩:=HT.out.ex;obtain⟨ad,c,e,-⟩:=hr.row.form;exact⟨ad,c,e⟩};subst hlv;have hk3:Keep zF wr (wr.drew.alloc (.cells #[.string (str x.1),.string (str x.2),.bool false] 63)):=(Keep.refl _ _).drew.alloc _;have hn3:(wr.drew.alloc (.cells #[.string (str x.1),.string (str x.2),.bool false] 63)).heap[wr.heap.size]?=_:=heap_alloc_new wr.drew (.cells #[.string (str x.1),.string (str x.2),.bool false] 63);have henc:=z8U _ (some ⟨wr.heap.size,0,none⟩) 1 1 [⟨x.1,x.2,false⟩] (Chs.of_row (w:=wr.drew.alloc (.cells #[.string (str x.1),.string (str x.2),.bool false] 63)) ⟨rfl,.inr ⟨_,1,_,(0,0),rfl,hn3,Free.zero _,Nat.le_refl _,by decide,rfl,rfl⟩⟩ (λc hc=>by cases hc with | head=>exact⟨show x.1.length<=maxLen by have:=hok.2.1;unfold maxLen;omega,show x.2.length<=maxLen by have:=hok.2.2;unfold maxLen;omega⟩ | tail _ h=>cases h)) rfl;unfold EncPost at henc;simp only[zpY hok,if_true] at henc;have H3:=hid (zA1 hk3 (zA1 htk hil));clear hn3 hk3 hok htk hx hrow;go_wp2_with fail;refine z0F [] (by kernel_rfl) (by kernel_rfl) ?_;(repeat (first | (apply z0E (by rfl);(intro K w';go_simp;exact id)) | (apply z0J (by rfl);(intro K;go_simp;exact id))));(refine z1Y (by rfl) (by rfl) (λK hK=>?_);go_simp;refine hK _ _ (Pre.push _ rfl) ?_;clear hK K);(repeat (first | (apply z0E (by rfl);(intro K w';go_simp;exact id)) | (apply z0J (by rfl);(intro K;go_simp;exact id))));refine z0G (by rfl) (by rfl) (λK hK=>?_);go_simp;refine henc.mono ?_;rintro e w4 ⟨bv,rfl,hf⟩;clear henc;obtain⟨ba,bc,rfl,-⟩:=hf.row.form;have HF:=hid hf;clear hf;go_simp;refine hK _ _ ?_;clear hK K;(repeat (apply z0E (by rfl);(intro K w';go_simp;exact id)));refine z0O ?_;go_wp2_with (at_builtin;refine z0H ?_;intro q hq);(refine hq.out ?_;clear hq q);obtain⟨vs,hrecs⟩:=HT.out.ex;have hk04:=H3.out.1.nx HF.out.keep;have hn5:=heap_alloc_new w4 (.cells #[.slice ba (enc [⟨x.1,x.2,false⟩]).length bc] 29);have hk5:=kal w4 (.cells #[.slice ba (enc [⟨x.1,x.2,false⟩]).length bc] 29);obtain⟨w5,hw5⟩:=zX1 (w4.alloc (.cells #[.slice ba (enc [⟨x.1,x.2,false⟩]).length bc] 29));rw[<-hw5] at hn5 hk5 |-;have hk05:=hk04.nx hk5;have hrec5:=hrecs.keep hk05 (λ_ _ _ x=>x);have hcl:(cpL (S.ps.take i)).length=i:=by{have:=H3.out.2.2;simp[cpL];omega};refine wpList_plain rfl (λK hK=>?_);refine z0P z6P (.tmp 43) (.tmp 45) rfl rfl hrec5.row (some ⟨w4.heap.size,0,none⟩) 1 1 [.slice ba (enc [⟨x.1,x.2,false⟩]).length bc] rfl ⟨rfl,λ_=>⟨_,rfl,λt u hu=>by rw[z0L,Nat.zero_add,cell_of_row _ _ _ _ _ _ hn5];simpa using hu⟩⟩ (by simp[Value.oneCell']) (by unfold maxLen;omega) (by omega) ?_;intro v6 w6 hr6 hk6 hv6;refine hK _ _ ?_;clear hK K;have s3:=H3.out.1.size;have s0:=HT.out.keep.size;have s5:=hk05.size;have HT2:=hid (show RcIn w S.ps v6 (i+1) w6 from by{refine⟨(HT.out.keep.nx hk05).next hk6 zI (λk hk x=>by have:=(hrecs.own k x).1;omega),?_⟩;have hp:=hrec5.push (F':=λk=>w.heap.size<=k) (l:=enc [⟨x.1,x.2,false⟩]) (HF.out.row.keep hk5 zI) (λk e=>⟨by have:=HF.out.own k e;omega,id,λe2=>by have:=HF.out.own k e;have:=hrecs.row.lt e2;omega⟩) hr6 hk6 (λ_ x=>x) (λk e=>by{rcases hv6 with ⟨_,h⟩ | ⟨k2,e2,e3⟩;{omega};{have e4:k2=k:=by{rw[e2] at e;exact Option.some.inj e};subst e4;rcases e3 with e3 | e3;{exact .inl e3};{exact .inr ⟨by omega,by omega,id⟩}}});have e:cpL (S.ps.take (i+1))=cpL (S.ps.take i) ++ [enc [⟨x.1,x.2,false⟩]]:=by{rw[H3.out.2.1];simp[cpL]};rw[e];exact⟨_,hp⟩});clear hr6 hk6 hv6 hrecs hk04 hn5 hk5 hw5 hk05 hrec5 hcl s3 s0 s5 i0 i1 i2 jf jb k0 k1;go_wp2_with fail;go_roundw;(case rel=>exact⟨i+1,by omega,by go_num,HT2⟩);case measure=>simp[intOf];omega};{have h4:decide ((i:Int)<N)=false:=by{simp;omega};obtain rfl:i=N:=by{omega};obtain⟨vs,hrecs⟩:=HT.out.ex;rw[HN.out,List.take_length] at hrecs;obtain⟨la,lc,rfl,-⟩:=hrecs.row.form;have HI:=H0.out.1.keep HT.out.keep zI zI;have hlt:=H0.out.1.log.ltz;have hrs:=ziU wr wb d Fl Fd D S.g HI.log la lc (cpL S.ps) hrecs.lists (λw' hk=>(hrecs.keep hk (λk x _ y=>by have:=hlt k y;omega)).lists) (by have:=HN.out;simp[cpL];omega) (by have:=H0.out.2.2.2;omega);obtain⟨Y,hY⟩:=zX1 (WM.reset D S.g (cpL S.ps));rw[<-hY] at hrs;have HY:=hid hY;have H3:=hid (zA1 HI HT.out.keep);clear hY HI hrecs hlt HT;go_wp2_with fail;refine hrs.mono ?_;rintro e w4 ⟨rfl,ht⟩;obtain⟨hh4,hto⟩:=H3.out.1.both ht;have htl:=z9S w4 b _ _ _ hh4 Y.1;have H4:=hid hto;clear hrs ht hto hh4 i0 i1 i2 jf jb;go_wp2_with fail;refine htl.mono ?_;rintro e w5 ⟨rfl,hh5,hk5⟩;have H5:=hid (zA1 hh5 hk5);clear htl hh5 hk5;go_wp2_with fail;go_ret;have e:R=(Y.1,Y.2.1,⟨Y.2.2,S.ps,decide (Y.1=6)⟩):=by{rw[H0.out.2.1,HY.out];unfold cpS;rw[H0.out.2.2.1];rfl};rw[e];have hz:=H4.out w5 _ H5.out.2 H5.out.1;rw[H0.out.2.2.1,Bool.false_or] at hz;exact⟨rfl,hz.since H3.out.2⟩})
theorem RStoTo.step {w1 w2 w':World} {b d:Nat} {F Fd F1 Fd1:Nat->Prop} {D':Dk} {S':St} (h:RStoTo b d F1 Fd1 w2 D' S' w') (hk:Keep (λk=>F k∨Fd k) w1 w2) (h1:∀ k,F1 k->F k∨w1.heap.size<=k) (h2:∀ k,Fd1 k->Fd k∨w1.heap.size<=k):RStoTo b d F Fd w1 D' S' w':=by
 obtain⟨F2,Fd2,b1,b2,b3,b4⟩:=h;have s:=hk.size;refine⟨F2,Fd2,b1,hk.next b2 zI (λk hk' x=>?_),λk x=>?_,λk x=>?_⟩;{rcases x with x | x;{rcases h1 k x with y | y;{exact .inl y};{omega}};{rcases h2 k x with y | y;{exact .inr y};{omega}}};{rcases b3 k x with y | y;{exact h1 k y};{right;omega}};{rcases b4 k x with y | y;{exact h2 k y};{right;omega}}
theorem RStoIs.told2 {w w2:World} {b d wb:Nat} {F Fd Fl:Nat->Prop} {D:Dk} {S:St} {pv:Value} (H:RStoIs w b d F Fd D S wb pv Fl) (x:Bool) (hk:Keep (λk=>k=b) w w2) (hh:w2.heap[b]?=some (.cells (z3H (.pointer (some ⟨wb,0,none⟩)) pv x) 117 (0,0))):RStoTo b d F Fd w D { S with dead:=x } w2:=
 ⟨F,Fd,(H.tell x hk hh).at,hk.mono λk _ e=>by subst e;exact .inl H.self,λ_ x=>.inl x,λ_ x=>.inl x⟩
theorem zoN (w:World) (b d:Nat) (F Fd:Nat->Prop) (D:Dk) (S:St) (H:RStoAt w b d F Fd D S) (ao:Option Addr) (n c:Nat) (l:List Ch) (hL:Chs w (.slice ao n c) l) (hn:n=l.length)
  (hap:0<n->∀ x,ao=some x->¬ F x.block/\¬ Fd x.block) (hm:S.dead=false->S.ps.length<=900000) (hfew:D.waits.length<=500000) :
  Calls Tryz.prog 22 #[.pointer (some ⟨b,0,none⟩),.slice ao n c] w λe w'=>e = .returned (.int .i64 (doS D S l).1)/\RStoTo b d F Fd w (doS D S l).2.1 (doS D S l).2.2 w':=by
 obtain⟨R,hR⟩:=zX1 (doS D S l);rw[<-hR];have henc:=z8U w ao n c l hL hn;have H0:=hid (zA1 H (zA1 hL (zA1 hn (zA1 hap (zA1 hm (zA1 hfew hR))))));obtain⟨wb,pv,Fl,HI⟩:=H;obtain⟨i0,i1,i2,jf,jb⟩:=z0T (show w.heap[b]?=some (.cells #[_,_,_] _ (0,0)) from HI.head);have HI:=hid HI;clear hL hn hap hm hfew hR;go_enter Tryz.func22,Tryz.ntmps22;cases hdd:S.dead with
 | true=>
   rw[hdd] at i2;have HZ:=hid (show R=(6,D,S) by rw[H0.out.2.2.2.2.2.2];unfold doS;rw[if_pos hdd]);clear hdd henc;go_wp2_with fail;go_ret;rw[HZ.out];exact⟨rfl,H0.out.1.to⟩
 | false=>
   rw[hdd] at i2;have HD:=hid hdd;clear hdd;go_wp2_with fail;refine henc.mono ?_;rintro e w2 ⟨bv,rfl,hf⟩;clear henc i0 i1 i2 jf jb;by_cases hE:encE l=0
   ·have HB:=hid (wbytes l hE)
    rw[if_pos hE] at hf;have HZ:=hid (show R=z8W (z3E D S (enc l)) l by rw[H0.out.2.2.2.2.2.2];unfold doS;rw[if_neg (by rw[HD.out];decide),if_neg (by omega)]);simp only[hE];clear hE;have hk:=hf.keep;have hltw:=H0.out.1.ltw;have HI2:=HI.out.keep hk zI zI;obtain⟨i0,i1,i2,jf,jb⟩:=z0T (show w2.heap[b]?=some (.cells #[_,_,_] _ (0,0)) from HI2.head);obtain⟨ba,bc,rfl,-,-,-,hba⟩:=hf.row.form;have hnF:∀ x,ba=some x->w.heap.size<=x.block:=λx e=>hf.own _ (hba x e).2;have happ:=zbE w2 wb d Fl Fd D S.g HI2.log ba (enc l).length bc (enc l) (Cells.of_row hf.row) (λx _ e=>⟨λy=>by have:=hltw _ (.inl (HI2.inl _ y).1);have:=hnF x e;omega,λy=>by have:=hltw _ (.inr y);have:=hnF x e;omega⟩) (by have:=HB.out.1;omega) (by have:=H0.out.2.2.2.2.2.1;omega);obtain⟨Y,hY⟩:=zX1 (WM.append D S.g (enc l));rw[<-hY] at happ;have HY:=hid hY;have H2:=hid (zA1 HI2 (zA1 hf (zA1 hltw hnF)));clear hY hf hk hltw HI2 hba hnF;go_wp2_with fail;refine happ.mono ?_;rintro e w4 ⟨rfl,ht⟩;obtain⟨Fl4,F4,Fd4,a1,a2,a3,a4⟩:=H2.out.1.logTo ht;have HA:=hid (show apS D S (enc l)=(Y.1,Y.2.1,⟨Y.2.2,S.ps,decide (Y.1=6)⟩) by rw[HY.out];rfl);have H4:=hid (zA1 a1 (zA1 a2 (zA1 a3 a4)));clear happ ht a1 a2 a3 a4 i0 i1 i2 jf jb
    go_upto_if 26 with fail
    obtain⟨X,hX⟩:=zX1 (z3E D S (enc l));have HX:=hid hX;rw[<-hX] at HZ;clear hX
    go_cut [6] (λev wx=>ev = .int .i64 X.1/\Hid (∃ dd:Bool,RStoTo b d F Fd w X.2.1 { X.2.2 with dead:=dd } wx/\(dd || decide (X.1=6))=X.2.2.dead))
    case first=>(by_cases h5:Y.1=5;{have q1:(Y.1 == 5)=true:=by{simp[h5]};have h5':=hid h5;clear h5;obtain⟨a1,a2,a3,a4⟩:=H4.out;have hps:=H0.out.2.2.2.2.1 HD.out;have hD2:=H0.out.2.2.2.2.2.1;have hw8:=z7L H0.out.1.diskAt.ok.few S.g (enc l);rw[<-HY.out] at hw8;have ed:({ S with g:=Y.2.2 }:St)=⟨Y.2.2,S.ps,decide (Y.1=6)⟩:=by{rw[show decide (Y.1=6)=S.dead by rw[HD.out,h5'.out];rfl]};have hck:=zmR w4 b d F4 Fd4 Y.2.1 ⟨Y.2.2,S.ps,decide (Y.1=6)⟩ (by rw[<-ed];exact a1.at) (λ_=>by simp only;omega) (by omega);obtain⟨C,hC⟩:=zX1 (cpS Y.2.1 ⟨Y.2.2,S.ps,decide (Y.1=6)⟩);rw[<-hC] at hck;have HC:=hid hC;have hrow:=H2.out.2.1.row.keep a2 (λk e x=>by have:=H2.out.2.2.1 k x;have:=H2.out.2.1.own k e;omega);have H5:=hid (zA1 a1 (zA1 a2 (zA1 a3 (zA1 a4 (zA1 hw8 hrow)))));clear a1 a2 a3 a4 hw8 hps hD2 hC hrow ed;go_wp2_with fail;refine hck.mono ?_;rintro e w5 ⟨rfl,ht⟩;have H6:=hid ht;clear hck ht;by_cases hc0:C.1=0;{have q2:(C.1 == 0)=true:=by{simp[hc0]};have h0:=hid hc0;have h6:=H6.out;obtain⟨F5,Fd5,b1,b2,b3,b4⟩:=h6;have hcd:C.2.2.dead=false:=by{rw[HC.out];exact cpS_dead (by rw[<-HC.out];exact hc0)};clear hc0;obtain⟨wb5,pv5,Fl5,HI5⟩:=b1;obtain⟨i0,i1,i2,jf,jb⟩:=z0T (show w5.heap[b]?=some (.cells #[_,_,_] _ (0,0)) from HI5.head);have hbl:∀ x,ba=some x->(Value.slice ba (enc l).length bc).ownBlock=some x.block:=λx e=>by{obtain⟨ba',bc',e1,-,-,-,e2⟩:=H2.out.2.1.row.form;cases e1;exact(e2 x e).2};have hf5:∀ k,(Value.slice ba (enc l).length bc).ownBlock=some k->¬ (F5 k∨Fd5 k):=λk e x=>by{have z1:=H2.out.2.1.own k e;have z2:=H2.out.2.1.row.lt e;have z3:=H5.out.2.2.1 k;have z4:=H5.out.2.2.2.1 k;have z5:=H2.out.2.2.1 k;have z6:=H5.out.2.1.size;rcases x with x | x;{rcases b3 k x with y | y;{rcases z3 y with y | y;{have:=z5 (.inl y);omega};{omega}};{omega}};{rcases b4 k x with y | y;{rcases z4 y with y | y;{have:=z5 (.inr y);omega};{omega}};{omega}}};have hrow5:=H5.out.2.2.2.2.2.keep b2 (λk e x=>by{have z1:=H2.out.2.1.own k e;have z2:=H2.out.2.1.row.lt e;have z5:=H2.out.2.2.1 k;rcases x with x | x;{rcases H5.out.2.2.1 k x with y | y;{have:=z5 (.inl y);omega};{omega}};{rcases H5.out.2.2.2.1 k x with y | y;{have:=z5 (.inr y);omega};{omega}}});have hwc:C.2.1.waits.length<=800000:=by{have z2:=cpS_waits (H5.out.1.log.disk_.ok.few) (S:=⟨Y.2.2,S.ps,decide (Y.1=6)⟩);rw[<-HC.out] at z2;have:=H5.out.2.2.2.2.1;have:=H0.out.2.2.2.2.2.1;omega};have happ:=zbE w5 wb5 d Fl5 Fd5 C.2.1 C.2.2.g HI5.log ba (enc l).length bc (enc l) (Cells.of_row hrow5) (λx _ e=>⟨λy=>hf5 _ (hbl x e) (.inl (HI5.inl _ y).1),λy=>hf5 _ (hbl x e) (.inr y)⟩) (by have:=HB.out.1;omega) hwc;obtain⟨Z,hZ⟩:=zX1 (WM.append C.2.1 C.2.2.g (enc l));rw[<-hZ] at happ;have HZ2:=hid hZ;have H7:=hid (zA1 HI5 (zA1 hcd (zA1 b2 (zA1 b3 b4))));clear hZ hbl hf5 hrow5 hwc HI5 hcd b2 b3 b4;go_wp2_with fail;refine happ.mono ?_;rintro e w6 ⟨rfl,ht⟩;obtain⟨Fl6,F6,Fd6,a1,a2,a3,a4⟩:=H7.out.1.logTo ht;have H8:=hid (show RStoTo b d F5 Fd5 w5 Z.2.1 { C.2.2 with g:=Z.2.2 } w6 from⟨F6,Fd6,a1.at,a2,a3,a4⟩);clear happ ht a1 a2 a3 a4 i0 i1 i2 jf jb;go_wp2_with fail;go_meet;have e:X=(Z.1,Z.2.1,⟨Z.2.2,C.2.2.ps,decide (Z.1=6)⟩):=by{rw[HX.out];unfold z3E;rw[HA.out,if_pos h5'.out];simp only;rw[<-HC.out,if_pos h0.out];unfold apS;rw[<-HZ2.out]};rw[e];refine⟨rfl,hid ⟨false,?_,rfl⟩⟩;have h8:=H8.out;rw[show ({ C.2.2 with g:=Z.2.2 }:St)=⟨Z.2.2,C.2.2.ps,false⟩ by show (⟨Z.2.2,C.2.2.ps,C.2.2.dead⟩:St)=_;rw[H7.out.2.1]] at h8;exact((h8.step H7.out.2.2.1 H7.out.2.2.2.1 H7.out.2.2.2.2).step H5.out.2.1 H5.out.2.2.1 H5.out.2.2.2.1).since H2.out.2.1.keep};{have q2:(C.1 == 0)=false:=by{simp[hc0]};have h0:=hid hc0;clear hc0;go_wp2_with fail;go_meet;have e:X=C:=by{rw[HX.out];unfold z3E;rw[HA.out,if_pos h5'.out];simp only;rw[<-HC.out,if_neg h0.out]};rw[e];refine⟨rfl,hid ⟨C.2.2.dead,(H6.out.step H5.out.2.1 H5.out.2.2.1 H5.out.2.2.2.1).since H2.out.2.1.keep,?_⟩⟩;rw[HC.out];exact cpS_dead6 _ _}};{have q1:(Y.1 == 5)=false:=by{simp[h5]};have h5':=hid h5;clear h5;go_wp2_with fail;go_meet;have e:X=(Y.1,Y.2.1,⟨Y.2.2,S.ps,decide (Y.1=6)⟩):=by{rw[HX.out];unfold z3E;rw[HA.out,if_neg h5'.out]};rw[e];refine⟨rfl,hid ⟨false,?_,rfl⟩⟩;have h4:=H4.out.1.at;rw[show ({ S with g:=Y.2.2 }:St)=⟨Y.2.2,S.ps,false⟩ by rw[HD.out]] at h4;exact(show RStoTo b d F Fd w2 Y.2.1 _ w4 from⟨F4,Fd4,h4,H4.out.2⟩).since H2.out.2.1.keep})
    case rest=>
     obtain⟨rfl,HR⟩:=hcut;obtain⟨dd,hr,hdd⟩:=HR.out;have Hdd:=hid hdd;clear hdd;obtain⟨F9,Fd9,c1,c2,c3,c4⟩:=hr;obtain⟨wb9,pv9,Fl9,HI9⟩:=c1;by_cases hx0:X.1=0
     ·have q1:(X.1 == 0)=true:=by simp[hx0]
      have hps:X.2.2.ps=S.ps:=by{rw[HX.out];exact intoS_ps _ _ _};have e:R=(0,X.2.1,{ X.2.2 with ps:=layL S.ps l }):=by{rw[HZ.out];unfold z8W;rw[if_pos hx0,hx0,hps]};have h0:=hid (zA1 hx0 e);clear hx0 e;obtain⟨i0,i1,i2,jf,jb⟩:=z0T (show wc.heap[b]?=some (.cells #[_,_,_] _ (0,0)) from HI9.head);obtain⟨pa9,pc9,rfl,-⟩:=HI9.row.form;obtain⟨-,hL,hn,hap,hm,-⟩:=H0.out;have hLc:Chs wc (.slice ao n c) l:=SliceOf.keepF hL c2 (λhp x m c e y=>by{cases e;have:=hap (by omega) x rfl;exact y.elim this.1 this.2});obtain⟨M,hM⟩:=zX1 (X.2.2.ps.length);have hrow9:=HI9.row;simp only at i1 hrow9;rw[<-hM] at i1 hrow9;have hlay:=zgZ wc pa9 M pc9 X.2.2.ps ao n c l hrow9 hM hLc hn (by{have h2:=hm HD.out;have h3:=(z1S HB.out.2).1;rw[hps] at hM;omega});rw[hps] at hlay;have H7:=hid (zA1 HI9 (zA1 c2 (zA1 c3 (zA1 c4 (zA1 hps hM)))));clear hL hn hap hm hLc c2 c3 c4 hps HI9 hrow9 hM;go_wp2_with fail;refine hlay.mono ?_;rintro e w8 ⟨v8,rfl,hr8,hk8,ho8⟩;have hh8:=hk8.get H7.out.1.head id;obtain⟨a8,m8,rfl,-⟩:=hr8.form;have hh9:=z0A (show w8.heap[b]?=some (.cells #[_,_,_] _ (0,0)) from hh8) 1 (.slice a8 (layL S.ps l).length m8);have hk9:Keep (λk=>k=b) w8 (w8.setCell ⟨b,1,none⟩ (.slice a8 (layL S.ps l).length m8)):=kst;have H8:=hid (zA1 hr8 (zA1 hk8 (zA1 ho8 (zA1 hh8 (zA1 hh9 hk9)))));clear hlay hr8 hk8 ho8 hh9 hk9 i0 i1 i2 jf jb;obtain⟨i0,i1,i2,jf,jb⟩:=z0T (show w8.heap[b]?=some (.cells #[_,_,_] _ (0,0)) from hh8);clear hh8;have htl:=z9S _ b _ _ dd H8.out.2.2.2.2.1 X.1;go_wp2_with fail;refine htl.mono ?_;rintro e w9 ⟨rfl,hh9,hk9⟩;have H9:=hid (zA1 hh9 hk9);clear htl hh9 hk9 i0 i1 i2 jf jb;go_wp2_with fail;go_ret;obtain⟨HI9,c2,c3,c4,hps,hM⟩:=H7.out;obtain⟨hr8,hk8,ho8,-,hh8,hk89⟩:=H8.out;rw[h0.out.2];refine⟨by rw[h0.out.1];rfl,?_⟩
      obtain⟨F',h1,h2⟩:=HI9.laid (ps':=layL S.ps l) (pv':=.slice a8 (layL S.ps l).length m8) (hk8.next hk89 zE zI) hh8 (hr8.keep hk89 (λk e x=>by subst x;exact hr8.not_block H8.out.2.2.2.1 (by decide) e)) (λk e=>by
       have:=ho8 k e;rw[hM] at this
       exact this) (by
       have:=HI9.ok.layL (z1S HB.out.2).2;simp only[hps] at this
       exact this)
      have hz:=h1.told2 _ H9.out.2 H9.out.1;simp only at hz;rw[Hdd.out] at hz;refine(hz.step (F:=F9) (Fd:=Fd9) (w1:=wc) ((hk8.next hk89 zE (λk _ x=>x)).mono λk _ x=>by subst x;exact .inl HI9.self) h2 (λk x=>.inl x)).step c2 c3 c4
     {have q1:(X.1 == 0)=false:=by{simp[hx0]};have e:R=X:=by{rw[HZ.out];unfold z8W;rw[if_neg hx0]};have h0:=hid e;clear hx0 e;have htl:=z9S wc b _ _ _ HI9.head X.1;have H7:=hid (zA1 HI9 (zA1 c2 (zA1 c3 c4)));clear HI9 c2 c3 c4;go_wp2_with fail;refine htl.mono ?_;rintro e w9 ⟨rfl,hh9,hk9⟩;have H9:=hid (zA1 hh9 hk9);clear htl hh9 hk9;go_wp2_with fail;go_ret;rw[h0.out];refine⟨rfl,?_⟩;have hz:=H7.out.1.told2 _ H9.out.2 H9.out.1;simp only at hz;rw[Hdd.out] at hz;exact hz.step H7.out.2.1 H7.out.2.2.1 H7.out.2.2.2}
   {have HZ:=hid (show R=((encE l:Int),D,S) by rw[H0.out.2.2.2.2.2.2];unfold doS;rw[if_neg (by rw[HD.out];decide),if_pos hE]);obtain⟨x,hx⟩:=zX1 (encE l);rw[<-hx] at hE HZ |-;have q1:((x:Int) == 0)=false:=by{simp;omega};have q2:decide ((x:Int)=0)=false:=by{simp;omega};have q3:((x:Int) != 0)=true:=by{simp;omega};have hk:=hid hf.keep;clear hf hx hE;go_wp2_with fail;go_ret;rw[HZ.out];exact⟨rfl,(H0.out.1.later hk.out).to.since hk.out⟩}
end
end Go.Proofs.YtkjofdocgaiedaaGreat
