/- Texts StoO, StoP, StoT, StoU, StoS, StoV, StoW, StoX, StoY, StpJ, StqD, StqA, StpK, StoZ, StpA, StpB, StpC, StpD, StpE, StpF, StpG, StpH, StpI, StpM, AccO, AccG, AccS, AccH, AccI, StoFit in one. Conditions: as each law names them. -/
import Derived.RangeFuncNested
import Derived.RangeFuncBound
import Derived.RangeFuncCalls
import Derived.RangeFuncLeaves
import Derived.Shelf.Abstract
import Derived.Shelf.RegionOpen
import Derived.WalkKit
import Derived.OwnWalkIn
import Derived.TacticsInMore
import Derived.LoopNIn
import Derived.LoopIn
import Derived.Deep.CutBlock
import Derived.Deep.DeepCutAuto
import Derived.BigQuiet
import Derived.Test.YtkhddpiopbmhjaaGreatUab
import Derived.Test.YtkhddpiopbmhjaaGreatUah
import Derived.Test.YtkhddpiopbmhjaaGreatUaj
import Derived.Test.YtkhddpiopbmhjaaGreatUaq
import Derived.Test.YtkhddpiopbmhjaaGreatUar
import Derived.Test.YtkhddpiopbmhjaaGreatUat
import Derived.Test.YtkhddpiopbmhjaaGreatUav
import Derived.Test.YtkhddpiopbmhjaaGreatUaz
import Derived.Test.YtkhddpiopbmhjaaGreatUba
set_option maxRecDepth 20000
set_option maxHeartbeats 8000000
namespace Go.Proofs.YtkhddpiopbmhjaaGreat
section
open Go.RowKit Go.Maps Go.Shelf Go.Sort
open MI SO
attribute [local go_sem] Oper.semAt_some
structure SeqAt (w:World) (K:Nat→Prop) (gk gm mb:Nat) (kv:Value) (ks:List Str) (m:List (Str×Str)):Prop where
 ck:w.cell? ⟨gk,0,none⟩=some kv
 cm:w.cell? ⟨gm,0,none⟩=some (.map (some mb))
 row:Row w 9 1 kv ks.length (zvW ks)
 map:PairsAt w mb m
 own:∀ k,kv.ownBlock=some k→¬ K k
 lk:¬ K gk
 lm:¬ K gm
 lb:¬ K mb
 key:∀ x ∈ ks,x.length≤maxLen
theorem SeqAt.keep{w w':World}{K:Nat->Prop}{gk gm mb:Nat}{kv:Value}{ks:List Str}{m:List (Str×Str)}(h:SeqAt w K gk gm mb kv ks m)(hb:Keep K w w'):SeqAt w' K gk gm mb kv ks m:=
 ⟨by rw[World.cell?_of_block (hb.block _ (World.block_lt_of_cell? w _ h.ck) h.lk)];exact h.ck,by rw[World.cell?_of_block (hb.block _ (World.block_lt_of_cell? w _ h.cm) h.lm)];exact h.cm,h.row.keep hb (λk e=>h.own k e),MapAt.keep h.map hb h.lb,h.own,h.lk,h.lm,h.lb,h.key⟩
def z2L(ks:List Str)(m:List (Str×Str)):List (Str×Str):=ks.map fun x=>(x,(AL.get m x).getD [])
abbrev InP(ps:List (Str×Str)):Type:={ p:Str×Str // p ∈ ps }
def encP{ps:List (Str×Str)}(x:InP ps):Array Value:=#[.string (str x.1.1),.string (str x.1.2)]
theorem zzD(n:Nat)(hn:1<=n)(l gk gm mb:Nat)(K:Nat->Prop)(kv:Value)(ks:List Str)(m:List (Str×Str))(hlen:ks.length<=1000000)(J Jx:List (InP (z2L ks m))->World->Prop)(hY:∀ pre x W,J pre W->pre.length<(z2L ks m).length->YieldAt Fence.wide (n - 1) Tryz.prog l #[.string (str x.1.1),.string (str x.1.2)] W λe W'=>
   (e = .returned (.bool true)/\J (pre ++ [x]) W'/\Keep K W W')∨(e = .returned (.bool false)/\Jx (pre ++ [x]) W'))(W:World)(hS:SeqAt W K gk gm mb kv ks m)(h0:J [] W):CallsIn Fence.wide n Tryz.prog 168 #[.func (.yield l) #[] #[],.pointer (some ⟨gk,0,none⟩),.pointer (some ⟨gm,0,none⟩)] W λe W'=>(∃ v,e = .returned v)/\
   ((∃ ys,ys=(z2L ks m).attach/\J ys W')∨(∃ pre,pre <+: (z2L ks m).attach/\Jx pre W')):=by
 refine callsIn_of_wp Tryz.func168 rfl trivial ?_ rfl;simp only[Tryz.ntmps168,List.size_toArray,List.length_cons,List.length_nil,Nat.reduceAdd,Nat.reduceSub,Array.replicate_succ,Array.replicate_zero,List.push_toArray,List.append_toArray,List.nil_append,List.cons_append];have hck:=hS.ck;obtain⟨ko,kc,rfl,-⟩:=hS.row.form;obtain⟨N,hN⟩:=zX1 (ks.length);have HN:=hid hN;have HS:=hid hS;rw[<-hN] at hck HS hlen;clear hN hS
 gi_wp2
 clear hck
 gi_loopw [8] (λiv wr=>∃ i:Nat,i<=N/\iv = .int .i64 i/\zH (SeqAt wr K gk gm mb (.slice ko N kc) ks m/\J ((z2L ks m).attach.take i) wr)) (λiv _=>N - (intOf iv).toNat)
 case atStart=>exact⟨0,Nat.zero_le _,rfl,hid ⟨HS.o,h0⟩⟩
 case round=>(obtain⟨i,hi,rfl,HT⟩:=hrel;by_cases hin:i<N;{have h4:(i:Int)<N:=by{omega};have hil:i<ks.length:=by{rw[<-HN.o];exact hin};have hpl:(z2L ks m).length=ks.length:=by{simp[z2L]};have hal:i<(z2L ks m).attach.length:=by{rw[List.length_attach,hpl];exact hil};obtain⟨xa,hxa⟩:=zX1 ((z2L ks m).attach[i]);have hsu:(z2L ks m).attach.take (i+1)=(z2L ks m).attach.take i ++ [xa]:=by{rw[List.take_add_one,List.getElem?_eq_getElem hal,Option.toList_some,hxa]};have hx1:xa.1=(ks[i],(AL.get m ks[i]).getD []):=by{rw[hxa,List.getElem_attach];simp[z2L]};have hpre:(z2L ks m).attach.take (i+1) <+: (z2L ks m).attach:=List.take_prefix _ _;obtain⟨g,cap,hv,hc⟩:=HT.x1.row.getCell (j:=i) (u:=.string (str ks[i])) (by simp[zvW,encStr,str,hil]);cases hv;have hcm:=HT.x1.cm;have hlk:=MapAt.look1 HT.x1.map zhC (t:=267) (z:=.agg #[.string { data:=#[] }]) Tryz.underlying267 (by kernel_rfl) ks[i] (HT.x1.key _ (List.getElem_mem hil));rw[show ((AL.get m ks[i]).map zwE).getD (.agg #[.string { data:=#[] }]) = .agg #[.string (str ((AL.get m ks[i]).getD []))] by cases AL.get m ks[i] <;> rfl] at hlk;obtain⟨fn,tmps,assign,body,hy,hR⟩:=hY ((z2L ks m).attach.take i) xa wr HT.y1 (by rw[List.length_take,List.length_attach];omega);rw[<-hsu] at hR;rw[hx1] at hy;obtain⟨x,hx⟩:=zX1 (ks[i]);obtain⟨y,hyy⟩:=zX1 ((AL.get m ks[i]).getD []);simp only[<-hyy] at hlk hy hR;simp only[<-hx] at hc hlk hy hR;have HP:=hid hpre;clear hx hyy hsu hpre hx1 hxa hal;have hfld:∀ w:World,(Instr.field 285 (.agg #[.string (str y)]) 0).run Tryz.prog w = .ok (.string (str y)) w:=λ_=>rfl;(gi_wp2);refine hR.mono ?_;rintro e W3 (⟨rfl,hJ3,hk3⟩ | ⟨rfl,hJx3⟩);{have H3:=zB1 (HT.x1.keep hk3) hJ3;clear hR hy hlk hc hcm hJ3 hk3 hfld;(gi_wp2);go_roundw;(case rel=>exact⟨i+1,by omega,by go_num,H3⟩);case measure=>simp[intOf];omega};{clear hR hy hlk hc hcm hfld;(gi_wp2);refine bodyPost_ret (results_none rfl _ _ _) rfl ?_;exact⟨⟨_,rfl⟩,.inr ⟨_,HP.o,hJx3⟩⟩}};{have h4:decide ((i:Int)<N)=false:=by{simp;omega};(gi_wp2);(go_end0);exact⟨⟨_,rfl⟩,.inl ⟨_,List.take_of_length_le (by rw[List.length_attach];have:=HN.o;simp[z2L];omega),HT.y1⟩⟩})
theorem zoF(n:Nat)(hn:1<=n)(gk gm mb:Nat)(K:Nat->Prop)(kv:Value)(ks:List Str)(m:List (Str×Str))(hlen:ks.length<=1000000)(w:World)(hS:SeqAt w K gk gm mb kv ks m)(hK:∀ k,w.heap.size<=k->K k):SeqStopsK Fence.wide n Tryz.prog 168 #[.pointer (some ⟨gk,0,none⟩),.pointer (some ⟨gm,0,none⟩)] (encP (ps:=z2L ks m)) (Keep K) (λxs=>xs=(z2L ks m).attach) (λpre=>pre <+: (z2L ks m).attach) (z2L ks m).length w:=
 λl J Jx W hW _ _ hY h0=>zzD n hn l gk gm mb K kv ks m hlen J Jx hY W (hS.keep ⟨hW.os,hW.tape,hW.output,hW.size,λk _ hn=>hW.block k (Nat.lt_of_not_le λx=>hn (hK k x))⟩) h0
theorem zeD{K:Nat->Prop}(W:World)(l:Nat)(o:Obj)(hl:K l):Keep K W (W.putObj l o):=by
 have:=grownBy_putObj' W l o;exact⟨this.os,this.tape,this.output,this.size,λk hk hn=>this.block k hk (λe=>by cases e;exact hn hl)⟩
end
section
open Go.RowKit Go.Maps
open MI SO
theorem z8W(w:World)(b mb:Nat)(wp:Value)(dead:Bool)(hh:w.heap[b]?=some (.cells (z4J wp mb dead) 269 (0,0))):Calls Tryz.prog 148 #[.pointer (some ⟨b,0,none⟩)] w λe w'=>e = .returned (.int .i64 (if dead then 6 else 0))/\w'=w:=by
 obtain⟨i0,i1,i2,jf,jb⟩:=z1N hh;clear hh
 go_in
 cases dead with | true=>{go_wp2_with fail;go_ret;exact⟨rfl,rfl⟩} | false=>{go_wp2_with fail;go_ret;exact⟨rfl,rfl⟩}
def AllPost(w:World)(m:List (Str×Str))(e:Ending)(w':World):Prop:=
 ∃ gk gm mb' kv ks,e = .returned (.func (.func 168) #[] #[.pointer (some ⟨gk,0,none⟩),.pointer (some ⟨gm,0,none⟩)])∧SeqAt w' (fun k=>k<w.heap.size∨w'.heap.size≤k) gk gm mb' kv ks m∧
  (ks.Pairwise fun a b=>a<b)∧(∀ x,x ∈ ks↔(AL.get m x).isSome=true)∧ks.length=m.length∧Keep (fun _=>False) w w'∧w.heap.size≤gk∧w.heap.size≤gm∧w.heap.size≤mb'∧∀ k,kv.ownBlock=some k→w.heap.size≤k
theorem zzS(w:World)(b mb:Nat)(wp:Value)(m:List (Str×Str))(hh:w.heap[b]?=some (.cells (z4J wp mb false) 269 (0,0)))(hp:PairsAt w mb m)(hm:m.length<=1000000)(hk:∀ p ∈ m,p.1.length<=maxLen):Calls Tryz.prog 138 #[.pointer (some ⟨b,0,none⟩)] w (AllPost w m):=by
 have hr:=z8W w b mb wp false hh;obtain⟨i0,i1,i2,jf,jb⟩:=z1N hh;have H:=zB1 hp hk;clear hh hp hk
 go_in
 go_wp2_with fail;refine hr.mono ?_;rintro e w1 ⟨rfl,rfl⟩;clear hr;simp only[Bool.false_eq_true,if_false];go_wp2_with fail;refine(znU w1 mb m H.x1).mono ?_;rintro e w2 ⟨rfl,hp2,hk2⟩;have H2:=zB1 hp2 hk2;clear hp2 hk2 i0 i1 i2 jf jb;go_wp2_with fail;obtain⟨b2,hb2⟩:=zX1 (w1.heap.size);have hgm:=heap_alloc_new w2 (.cells #[.map (some b2)] 267);have hk3:=kal w2 (.cells #[.map (some b2)] 267);rw[<-hb2] at H2 |-;obtain⟨gm,hgme⟩:=zX1 (w2.heap.size);obtain⟨w3,hw3⟩:=zX1 (w2.alloc (.cells #[.map (some b2)] 267));rw[<-hw3] at hgm hk3 |-;rw[<-hgme] at hgm |-;have hcm:w3.cell? ⟨gm,0,none⟩=some (.map (some b2)):=by{simp[World.cell?,hgm]};have H3:=zB4 hgm hk3 hgme hb2 (MapAt.keep H2.x1 hk3 (λx=>x));clear hgm hk3 hgme hw3 hb2;refine(zvM (some b2) w3).mono ?_;rintro e w4 ⟨rfl,hw4⟩;have hgB:w4.heap[w3.heap.size]?=some (.cells #[.map (some b2)] 267 (0,0)):=by{rw[hw4];exact heap_alloc_new w3 _};have hk4:Keep zF w3 w4:=by{rw[hw4];exact(Keep.refl _ _).alloc _};obtain⟨Bm,hBm⟩:=zX1 (w3.heap.size);rw[<-hBm] at hgB |-;have hs:=ztE w4 b2 Bm m (MapAt.keep H3.y4 hk4 (λx=>x)) (by simp[World.cell?,hgB]) hm;have H4:=hid hk4;clear hw4 hgB hk4 hBm hcm;go_wp2_with fail;refine hs.mono ?_;rintro e w5 ⟨kv,ks,rfl,hrow,hsort,hmem,hlen,hk5,hown⟩;clear hs;obtain⟨ko,kc,rfl,-⟩:=hrow.form;have H5:=zB5 hrow hsort hmem hlen hk5 hown;clear hrow hsort hmem hlen hk5 hown;go_wp2_with fail;have hk6:=kal w5 (.cells #[.slice ko ks.length kc] 286);have hgk:=heap_alloc_new w5 (.cells #[.slice ko ks.length kc] 286);go_ret;obtain⟨hrow,hsort,hmem,hlen,hk5,hown⟩:=H5.o;obtain⟨hgm,hk3,hgme,hb2,hmap⟩:=H3.o;have s2:=H2.y1.size;have s3:=hk3.size;have s4:=H4.o.size;have s5:=hk5.size;have s6:=hk6.size;have l3:=z0J hgm;have sn:(w5.alloc (.cells #[.slice ko ks.length kc] 286)).heap.size=w5.heap.size+1:=by{simp};have hl:b2<gm:=by{rw[hgme];exact MapAt.lt H2.x1};have hc6:(w5.alloc (.cells #[.slice ko ks.length kc] 286)).cell? ⟨w5.heap.size,0,none⟩=some (.slice ko ks.length kc):=by{unfold World.cell?;rw[hgk];rfl};(have k46:Keep zF w3 (w5.alloc (.cells #[.slice ko ks.length kc] 286)):=(H4.o.nx hk5).next hk6 zI zI;have hnk:∀ k,w1.heap.size<=k->k<w5.heap.size+1->¬ (k<w1.heap.size∨w5.heap.size+1<=k):=λk h1 h2=>by omega);refine⟨w5.heap.size,gm,b2,.slice ko ks.length kc,ks,rfl,?_,hsort,hmem,hlen,((H2.y1.nx hk3)).next k46 zI zI,by omega,by omega,by omega,λk e=>by have:=hown k e;omega⟩;rw[sn];refine⟨hc6,?_,hrow.keep hk6 zI,MapAt.keep hmap k46 (λx=>x),λk e=>hnk k (by have:=hown k e;omega) (by have:=hrow.lt e;omega),hnk _ (by omega) (by omega),hnk _ (by omega) (by omega),hnk _ (by omega) (by omega),λx hx=>?_⟩;{have:=k46.get hgm id;simp[World.cell?,this]};{have:=(hmem x).1 hx;cases hg:AL.get m x with | none=>{rw[hg] at this;cases this} | some y=>{exact H.y1 _ (z5M hg)}}
end
section
open Go.RowKit Go.Maps Go.Shelf
open MI SO BM DM WM
attribute [local go_sem] Oper.semAt_some
theorem zfH{β:Type}{B:Nat}{I:β->World->Prop}(h:∀ s W W' r,I s W->Keep (λk=>r=some k) W W'->(∀ k,r=some k->B<=k)->(∀ k,r=some k->∃ o:Obj,W.heap[k]?=some o/\o.isCells=false)->I s W'):OwnFrom B I:=
 λs W W' row hs hg hr=>h s W W' row hs ⟨hg.os,hg.tape,hg.output,hg.size,λk hk hn=>hg.block k hk (λe=>hn e.symm)⟩ (λk e=>(hr k e).1) (λk e=>(hr k e).2)
theorem Keep.tr{K:Nat->Prop}{A B C:World}(h:Keep K A B)(k:Keep K B C):Keep K A C:=h.next k zI zI
structure SeqOf (w:World) (K:Nat→Prop) (v:Value) (ps:List (Str×Str)):Prop where
 big:∀ k,w.heap.size≤k→K k
 is:∃ f caps,v = .func (.func f) #[] caps∧(∀ args w,(callFunc f args).run Tryz.prog w = .ok (.enter f args) w)∧
  ∀ n w1,1≤n→Keep K w w1→SeqStopsK Fence.wide n Tryz.prog f caps (encP (ps:=ps)) (Keep K) (fun xs=>xs=ps.attach) (fun pre=>pre <+: ps.attach) ps.length w1
theorem SeqOf.of_all{w w':World}{m ps:List (Str×Str)}{e:Ending}(h:AllPost w m e w')(hm:AL.Ok m)(hps:Sorted ps)(hg:∀ x,AL.get m x=AL.get ps x)(hlen:m.length<=1000000):∃ v,e = .returned v/\SeqOf w' (λk=>k<w.heap.size∨w'.heap.size<=k) v ps/\Keep zF w w':=by
 obtain⟨gk,gm,mb',kv,ks,rfl,hs,h1,h2,h3,h4,-⟩:=h;have hp:z2L ks m=ps:=zhT hm hps hg h1 h2;refine⟨_,rfl,⟨λk x=>.inr x,_,_,rfl,enters_of Tryz.func168 (by kernel_rfl) rfl,λn w1 hn hk=>?_⟩,h4⟩;have:=zoF n hn gk gm mb' _ kv ks m (by omega) w1 (hs.keep hk) (λk x=>.inr (Nat.le_trans hk.size x));rw[hp] at this;exact this
theorem y0J(n l:Nat)(W:World):CallsIn Fence.wide n Tryz.prog 164 #[.func (.yield l) #[] #[]] W λe W'=>(∃ v,e = .returned v)/\W'=W:=by
 refine callsIn_of_wp Tryz.func164 rfl trivial ?_ rfl;simp only[Tryz.ntmps164,List.size_toArray,List.length_cons,List.length_nil,Nat.reduceAdd,Nat.reduceSub,Array.replicate_succ,Array.replicate_zero,List.push_toArray,List.append_toArray,List.nil_append,List.cons_append]
 gi_wp2
 go_end0
 exact⟨⟨_,rfl⟩,rfl⟩
theorem SeqOf.none(w:World)(K:Nat->Prop)(hK:∀ k,w.heap.size<=k->K k):SeqOf w K (.func (.func 164) #[] #[]) []:=
 ⟨hK,_,_,rfl,enters_of Tryz.func164 (by kernel_rfl) rfl,λn w1 _ _ l J Jx W _ _ _ _ h0=>(y0J n l W).mono λe W' ⟨h1,h2⟩=>⟨h1,.inl ⟨[],rfl,by rw[h2];exact h0⟩⟩⟩
theorem zwL(w:World)(b mb:Nat)(wp:Value)(hh:w.heap[b]?=some (.cells (z4J wp mb true) 269 (0,0))):Calls Tryz.prog 138 #[.pointer (some ⟨b,0,none⟩)] w λe w'=>e = .returned (.func (.func 164) #[] #[])/\w'=w:=by
 have hr:=z8W w b mb wp true hh;simp only[if_true] at hr
 go_in
 go_wp2_with fail;refine hr.mono ?_;rintro e w1 ⟨rfl,rfl⟩;clear hr;go_wp2_with fail;go_ret;exact⟨rfl,rfl⟩
def told(S:St):List (Str×Str):=if S.dead then [] else S.ps
theorem zyD(w:World)(b d:Nat)(F Fd:Nat->Prop)(D:Dk)(S:St)(H:StoAt w b d F Fd D S)(hm:S.dead=false->S.ps.length<=1000000):Calls Tryz.prog 138 #[.pointer (some ⟨b,0,none⟩)] w λe w'=>∃ v,e = .returned v/\SeqOf w' (λk=>k<w.heap.size∨w'.heap.size<=k) v (told S)/\Keep zF w w':=by
 obtain⟨wb,mb,m,Fl,H⟩:=H;unfold told;have hh:=H.head;cases hd:S.dead with | true=>{rw[hd] at hh;refine(zwL w b mb _ hh).mono ?_;rintro e w' ⟨rfl,rfl⟩;exact⟨_,rfl,SeqOf.none _ _ (λk x=>.inr x),Keep.refl _ _⟩} | false=>{rw[hd] at hh;have hl:m.length<=1000000:=by{rw[H.len];exact hm hd};refine(zzS w b mb _ m hh H.map hl (λp hp=>?_)).mono ?_;{have hg:=z6P H.map.1 hp;rw[H.get] at hg;have:=(H.ok.each _ (z5M hg)).2.1;unfold maxLen;simp only at this;omega};{intro e w' h;exact SeqOf.of_all h H.map.1 H.ok.sorted H.get hl}}
end
section
open Go.RowKit Go.Maps Go.Shelf
open MI SO BM DM WM
attribute [local go_sem] Oper.semAt_some
structure PIn (w2:World) (lb:Nat) (pre:List (Str×Str)) (W:World) (v:Value):Prop where
 box:W.heap[lb]?=some (.cells #[v] 43 (0,0))
 row:Row W 117 2 v pre.length (prsV pre)
 own:∀ k,v.ownBlock=some k→w2.heap.size≤k
 keep:Keep (fun k=>k=lb) w2 W
end
section
open Go.RowKit Go.Maps
open MI SO BM DM WM
theorem StoIs.both{w w1:World}{b d wb mb:Nat}{F Fd Fl:Nat->Prop}{D D':Dk}{S:St}{m:List (Str×Str)}{G':Lg}(H:StoIs w b d F Fd D S wb mb m Fl)(ht:LogTo wb d Fl Fd w D' G' w1):w1.heap[b]?=some (.cells (z4J (.pointer (some ⟨wb,0,none⟩)) mb S.dead) 269 (0,0))/\∀ w2 x,Keep (λk=>k=b) w1 w2->w2.heap[b]?=some (.cells (z4J (.pointer (some ⟨wb,0,none⟩)) mb x) 269 (0,0))->StoTo b d F Fd w D' ⟨G',S.ps,x⟩ w2:=by
 obtain⟨Fl',F',Fd',h1,h2,h3,h4⟩:=H.logTo ht;refine⟨h1.head,λw2 x hk hh=>⟨F',Fd',(h1.tell x hk hh).at,h2.next hk zI (λk hk y=>by subst y;exact .inl H.self),h3,h4⟩⟩
theorem zmV(w:World)(b:Nat)(wp:Value)(mb:Nat)(dead:Bool)(hh:w.heap[b]?=some (.cells (z4J wp mb dead) 269 (0,0)))(e:Int):Calls Tryz.prog 150 #[.pointer (some ⟨b,0,none⟩),.int .i64 e] w λx w'=>x = .returned (.int .i64 e)/\w'.heap[b]?=some (.cells (z4J wp mb (dead || decide (e=6))) 269 (0,0))/\Keep (λk=>k=b) w w':=by
 have hk:=λx=>(show Keep (λk=>k=b) w (w.setCell ⟨b,2,none⟩ (.bool x)) by refine Keep.setCell (Keep.refl _ _) (.inl ?_) _;rfl);have hs:=λx=>z0A hh 2 (.bool x);have HZ:=zB1 hk hs;obtain⟨i0,i1,i2,jf,jb⟩:=z1N hh;clear hk hs hh;cases dead with | true=>{(go_in);go_wp2_with fail;go_ret;exact⟨rfl,by rw[HZ.y1];rfl,HZ.x1 _⟩} | false=>{by_cases he:e=6;{subst he;(go_in);go_wp2_with fail;go_ret;exact⟨rfl,by rw[HZ.y1];rfl,HZ.x1 _⟩};{have u1:(e == 6)=false:=by{simp[he]};have u2:decide (e=6)=false:=by{simp[he]};have HE:=hid he;clear he;(go_in);go_wp2_with fail;go_ret;have:=HE.o;exact⟨rfl,by rw[HZ.y1];simp[this];rfl,HZ.x1 _⟩}}
theorem zrQ(w:World)(b d:Nat)(F Fd:Nat->Prop)(D:Dk)(S:St)(H:StoAt w b d F Fd D S)(hfew:D.waits.length<=900000):Calls Tryz.prog 123 #[.pointer (some ⟨b,0,none⟩)] w λe w'=>e = .returned (.int .i64 (syS D S).1)/\StoTo b d F Fd w (syS D S).2.1 (syS D S).2.2 w':=by
 obtain⟨R,hR⟩:=zX1 (syS D S);rw[<-hR];obtain⟨wb,mb,m,Fl,H⟩:=H;have hr:=z8W w b mb _ S.dead H.head;obtain⟨i0,i1,i2,jf,jb⟩:=z1N (show w.heap[b]?=some (.cells #[_,_,_] _ (0,0)) from H.head);have HS:=zB1 H hR;have hw:=zrM w wb d Fl Fd D S.g H.log hfew;obtain⟨Y,hY⟩:=zX1 (WM.z7H D S.g);rw[<-hY] at hw;have HY:=hid hY;clear hR hY H
 go_in
 go_wp2_with fail;refine hr.mono ?_;rintro e w1 ⟨rfl,rfl⟩;clear hr;cases hdd:S.dead with | true=>{have HZ:=hid (show R=(6,D,S) by rw[HS.y1];unfold syS;rw[if_pos hdd]);clear hdd;simp only[if_true];go_wp2_with fail;go_ret;rw[HZ.o];exact⟨rfl,HS.x1.at.to⟩} | false=>{have HZ:=hid (show R=(Y.1,Y.2.1,⟨Y.2.2,S.ps,decide (Y.1=6)⟩) by rw[HS.y1,HY.o];unfold syS;rw[hdd];rfl);have HD:=hid hdd;clear hdd;simp only[Bool.false_eq_true,if_false];go_wp2_with fail;refine hw.mono ?_;rintro e w2 ⟨rfl,ht⟩;obtain⟨hh2,hto⟩:=HS.x1.both ht;have htl:=zmV w2 b _ mb _ hh2 Y.1;have H2:=hid hto;clear hw ht hto i0 i1 i2 jf jb hh2;go_wp2_with fail;refine htl.mono ?_;rintro e w3 ⟨rfl,hh3,hk3⟩;have H3:=hid (H2.o _ _ hk3 hh3);clear htl hh3 hk3;go_wp2_with fail;go_ret;rw[HZ.o];have:=H3.o;rw[HD.o,Bool.false_or] at this;exact⟨rfl,this⟩}
end
section
open Go.RowKit Go.Maps Go.Shelf
open MI SO BM DM WM
attribute [local go_sem] Oper.semAt_some
structure CIn (w2:World) (lb:Nat) (pre:List (Str×Str)) (W:World) (v:Value) (vs:List Value):Prop where
 box:W.heap[lb]?=some (.cells #[v] 279 (0,0))
 recs:Recs W (fun k=>w2.heap.size≤k) (fun _=>False) v (cpL pre) vs
 keep:Keep (fun k=>k=lb) w2 W
end
section
open Go.RowKit Go.Maps
open MI SO BM DM WM
theorem SliceOf.keepF{α:Type}{w w':World}{size:Nat}{R:List Value->α->Prop}{v:Value}{l:List α}{K:Nat->Prop}(h:SliceOf w size R v l)(hk:Keep K w w')(hn:0<l.length->∀ x m c,v = .slice (some x) m c->¬ K x.block):SliceOf w' size R v l:=by
 obtain⟨ao,c,rfl,h2,h3,h4⟩:=h;refine⟨ao,c,rfl,h2,h3,λhp=>?_⟩;obtain⟨ad,rfl,h6⟩:=h4 hp;refine⟨ad,rfl,λi hi=>?_⟩;obtain⟨cs,h7,h8,h9⟩:=h6 i hi;refine⟨cs,h7,h8,λj u hu=>?_⟩;have:=h9 j u hu;have hb:(ad.add (i * size+j)).block=ad.block:=by{unfold Addr.add;split <;> rfl};rw[World.cell?_of_block (hk.block _ (World.block_lt_of_cell? w _ this) (by rw[hb];exact hn hp ad _ _ rfl))];exact this
theorem Chs.lt{w:World}{ao:Option Addr}{n c:Nat}{l:List Ch}(h:Chs w (.slice ao n c) l)(hp:0<l.length)(x:Addr)(hx:ao=some x):x.block<w.heap.size:=by
 obtain⟨ad,rfl,h1,-⟩:=h.get (Keep.refl _ w) 0 hp;cases hx;have:=World.block_lt_of_cell? w _ h1;have hb:(x.add (0 * 3)).block=x.block:=by{unfold Addr.add;split <;> rfl};rw[hb] at this;exact this
theorem SO.cpS_dead{D:Dk}{S:St}(h:(cpS D S).1=0):(cpS D S).2.2.dead=false:=by
 unfold cpS at *;split;{rename_i h1;rw[if_pos h1] at h;cases h};{rename_i h1;rw[if_neg h1] at h;simp only at h |-;rw[h];rfl}
theorem SO.cpS_ps(D:Dk)(S:St):(cpS D S).2.2.ps=S.ps:=by
 unfold cpS;split <;> rfl
theorem SO.intoS_ps(D:Dk)(S:St)(b:List UInt8):(z4O D S b).2.2.ps=S.ps:=by
 unfold z4O;split;{split;{exact cpS_ps _ _};{exact cpS_ps _ _}};{rfl}
theorem SO.cpS_waits{D:Dk}(h:D.safe.length<=2048){S:St}:(cpS D S).2.1.waits.length<=D.waits.length+1024:=by
 unfold cpS;split;{exact Nat.le_add_right _ _};{exact zjY h _ _}
theorem wbytes(l:List Ch):encE l=0->(enc l).length<=1024/\right l=true:=by
 intro h;unfold encE at h;split at h;{rename_i hr;split at h;{cases h};{exact⟨by omega,hr⟩}};{cases h}
end
section
open Go.RowKit Go.Maps
open MI SO BM DM WM
def getS(ps:List (Str×Str))(k:Str):Value:=.tuple #[.string (str ((AL.get ps k).getD [])),.bool (AL.get ps k).isSome]
def SO.waitS(D:Dk)(S:St):Nat:=if S.dead then 0 else if gone D S.g then 0 else S.g.l.length - S.g.safe
def SO.markS(D:Dk)(S:St):St:=if S.dead then S else { S with g:=WM.mark D S.g }
end
section
open Go.RowKit Go.Maps
open MI SO BM DM WM
theorem SO.decL_append:∀ (L M:List (List UInt8)) (ps:List (Str×Str)),decL (L ++ M) ps=match decL L ps with | none=>none | some q=>decL M q
 | [],_,_=>rfl
 | b :: L,M,ps=>by{simp only[List.cons_append,decL];cases dec b with | none=>{rfl} | some l=>{exact decL_append L M (layL ps l)}}
theorem SO.dec_len{b:List UInt8}{l:List Ch}(h:dec b=some l):l.length<=32/\∀ c ∈ l,z2M c=true:=z2R (zyU h).1
def SOpenTo(d:Nat)(Fd:Nat→Prop)(w:World)(R:Int×Option St×Dk)(e:Ending)(w':World):Prop:=
 match R.2.1 with
 | none=>e = .returned (.tuple #[.pointer none,.int .i64 R.1])∧DiskTo d Fd w R.2.2 w'
 | some s=>∃ b F Fd',e = .returned (.tuple #[.pointer (some ⟨b,0,none⟩),.int .i64 R.1])∧StoAt w' b d F Fd' R.2.2 s∧Keep Fd w w'∧(∀ k,F k→w.heap.size≤k)∧∀ k,Fd' k→Fd k∨w.heap.size≤k
structure OpR (w5:World) (mb:Nat) (L:List (List UInt8)) (i:Nat) (wr:World):Prop where
 keep:Keep (fun k=>k=mb) w5 wr
 ex:∃ m ps,PairsAt wr mb m∧decL (L.take i) []=some ps∧(∀ x,AL.get m x=AL.get ps x)∧PsOk ps∧ps.length≤32 * i
end
section
open Go.RowKit Go.Maps
open MI SO BM DM WM
def HvPost(w:World)(e:Ending)(w':World):Prop:=∃ x:Bool,e = .returned (.bool x)∧Keep (fun _=>False) w w'
end
section
open Go.RowKit Go.Maps
open MI SO BM DM WM
def DkT(d:Nat)(D:Dk):Thing:=fun w F=>DiskAt w d F D
def StoT(b d:Nat)(D:Dk)(S:St):Thing:=fun w F=>∃ F1 F2,StoAt w b d F1 F2 D S∧F=fun k=>F1 k∨F2 k
def SideP(d:Nat)(D:Dk)(o:Option St)(sv:Value):Thing:=fun w F=>
 match o with
 | none=>sv = .pointer none∧DkT d D w F
 | some S=>∃ b,sv = .pointer (some ⟨b,0,none⟩)∧StoT b d D S w F
theorem DkT.lives(d:Nat)(D:Dk):Lives (DkT d D):=⟨λh hk hn=>DiskAt.keep h hk hn,λh=>DiskAt.lt h⟩
theorem StoT.lives(b d:Nat)(D:Dk)(S:St):Lives (StoT b d D S):=
 ⟨λ⟨F1,F2,h,e⟩ hk hn=>⟨F1,F2,h.keep hk (λk x=>hn k (by rw[e];exact .inl x)) (λk x=>hn k (by rw[e];exact .inr x)),e⟩,λ⟨F1,F2,h,e⟩ k x=>h.ltw k (by rw[e] at x;exact x)⟩
end
section
open Go.ChangeShapes Go.WideShapes Go.RowKit Go.Deep
open MI SO BM DM WM
structure SAct where
 kind:Int
 n:Int
 list:List Ch
 keep:List Int
deriving Inhabited
def SActR(w:World)(cs:List Value)(x:SAct):Prop:=
 ∃ lv kv,cs = [.int .i64 x.kind,.int .i64 x.n,lv,kv]∧Chs w lv x.list∧Ints w kv x.keep∧(-9223372036854775808≤x.kind∧x.kind≤9223372036854775807)∧(-9223372036854775808≤x.n∧x.n≤9223372036854775807)
abbrev SActs(w:World)(v:Value)(l:List SAct):Prop:=SliceOf w 4 (SActR w) v l
def ChLR(w:World)(cs:List Value)(x:List Ch):Prop:=∃ lv,cs = [lv]∧Chs w lv x
abbrev ChLs(w:World)(v:Value)(l:List (List Ch)):Prop:=SliceOf w 1 (ChLR w) v l
section
variable {H:Type} {enc:TypeId×Value→H} {w:World} {base:Nat} {held:Bool} {fuel:Nat}
end
end
section
open Go.RowKit Go.Maps
open MI SO BM DM WM
structure One (w0:World) (T:Thing) (F:Nat→Prop) (w:World):Prop where
 one:T w F
 new:∀ i,F i→w0.heap.size≤i
 keep:Keep (fun _=>False) w0 w
def ncL:List Ch:=[⟨[97],[120],false⟩,⟨[98],[],true⟩]
def nS0:St:=⟨⟨0,[],0,false⟩,[],false⟩
def nD0:Dk:=DM.new 20
def nD1:Dk:=(doS nD0 nS0 ncL).2.1
def nS1:St:=⟨⟨0,[[2,1,97,0,1,120,1,98,1]],0,false⟩,[([97],[120])],false⟩
end
section
open Go.RowKit Go.Maps
open MI SO BM DM WM
structure RcIn (w:World) (ps:List (Str×Str)) (lv:Value) (i:Nat) (wr:World):Prop where
 keep:Keep (fun _=>False) w wr
 ex:∃ vs,Recs wr (fun k=>w.heap.size≤k) (fun _=>False) lv (cpL (ps.take i)) vs
end
section
open Go.RowKit Go.Maps
open MI SO BM DM WM
end
section
open Go.RowKit Go.Maps
open MI SO BM DM WM
end
section
open Go.RowKit Go.Maps
open MI SO BM DM WM
end
section
open Go.RowKit Go.Maps
open MI SO BM DM WM
def BoxT(p:Nat)(cs:Array Value)(t:TypeId):Thing:=fun w F=>w.heap[p]?=some (.cells cs t (0,0))∧F p∧∀ k,F k→k<w.heap.size
abbrev pairC(d m:Nat)(sv rv:Value):Array Value:=#[.pointer (some ⟨d,0,none⟩),sv,.pointer (some ⟨m,0,none⟩),rv]
def SO.Sim(D:Dk)(o o2:Option St):Prop:=o2=o∨∃ S,o=some S∧o2=some (markS D S)
end
section
open Go.RowKit Go.Maps
open MI SO BM DM WM
end
section
open Go.RowKit Go.Maps
open MI SO BM DM WM
end
section
open Go.RowKit Go.Maps
open MI SO BM DM WM
end
section
open Go.RowKit Go.Maps
open MI SO BM DM WM
end
section
open Go.ChangeShapes Go.WideShapes Go.RowKit Go.Deep
open MI SO BM DM WM
abbrev sactV(x:SAct)(lv kv:Value):Value:=.agg #[.int .i64 x.kind,.int .i64 x.n,lv,kv]
def stepS(D:Dk)(o:Option St)(x:SAct):Dk×Option St:=
 if x.kind=5 then ((opS (DM.crash D x.keep)).2.2,(opS (DM.crash D x.keep)).2.1)
 else if x.kind=6 then (DM.arm D x.n,o)
 else match o with
 | none=>(D,none)
 | some S=>
   if x.kind=0∨x.kind=1∨x.kind=2 then ((doS D S x.list).2.1,some (doS D S x.list).2.2)
   else if x.kind=3 then ((syS D S).2.1,some (syS D S).2.2)
   else if x.kind=4 then ((cpS D S).2.1,some (cpS D S).2.2)
   else (D,some S)
def few(o:Option St)(n:Nat):Prop:=∀ S,o=some S→S.dead=false→S.ps.length≤n
end
namespace SO
open Go.Proofs.YtkhddpiopbmhjaaGreat MI BM DM WM
theorem zkU{D:Dk}(h6:6<=D.safe.length)(G:Lg)(b:List UInt8):((WM.append D G b).1=0/\(WM.append D G b).2.2 = { G with l:=G.l ++ [b],dead:=false }/\(flat (G.l ++ [b])).length<=32 * half D/\b.length<=1024/\gone D G=false)∨(WM.append D G b).1=6∨(((WM.append D G b).1=3∨(WM.append D G b).1=5)/\(WM.append D G b).2=(D,G)/\gone D G=false):=by
 unfold WM.append;split;{exact .inr (.inl rfl)};{rename_i hg;have hg:gone D G=false:=by{simpa using hg};split;{exact .inr (.inr ⟨.inl rfl,rfl,hg⟩)};{rename_i h3;split;{exact .inr (.inr ⟨.inr rfl,rfl,hg⟩)};{rename_i hr;have hf:=z6Y G.l b;unfold room at hr;have hfit:(flat (G.l ++ [b])).length<=32 * half D:=by{omega};have ha:(area D (G.l ++ [b])).length=32 * half D:=z3Z hfit;obtain⟨-,-,h4,-⟩:=z5B G.ep (area D (G.l ++ [b])) (((flat (G.l ++ [b])).length - 1) / 32 - (flat G.l).length / 32+1) ((flat G.l).length / 32) D h6 (by omega) ha;simp only;by_cases h0:(lay G.ep (area D (G.l ++ [b])) ((flat G.l).length / 32) (((flat (G.l ++ [b])).length - 1) / 32 - (flat G.l).length / 32+1) D).1=0;{exact .inl ⟨h0,by rw[h0];rfl,hfit,by omega,hg⟩};{exact .inr (.inl (h4 h0))}}}}
theorem z9Q(ep:Nat):(z3Q ep).length=32:=by
 have h1:=z3B 10 ep;have h2:=z2A 1 (z0H ep);have h3:(z0H ep).length<=10:=h1;unfold z3Q;rw[List.length_append,List.length_replicate];omega
theorem zoD{D:Dk}(h6:6<=D.safe.length)(G:Lg)(L:List (List UInt8)):((WM.reset D G L).1=0/\(WM.reset D G L).2.2=⟨G.ep+1,L,L.length,false⟩/\(flat L).length<=32 * half D/\gone D G=false)∨(WM.reset D G L).1=6∨(((WM.reset D G L).1=3∨(WM.reset D G L).1=5)/\(WM.reset D G L).2=(D,G)/\gone D G=false):=by
 unfold WM.reset;split;{exact .inr (.inl rfl)};{rename_i hg;have hg:gone D G=false:=by{simpa using hg};split;{exact .inr (.inr ⟨.inl rfl,rfl,hg⟩)};{split;{exact .inr (.inr ⟨.inr rfl,rfl,hg⟩)};{rename_i hf;have hfit:(flat L).length<=32 * half D:=by{omega};obtain⟨h1,-⟩:=znL h6 (G.ep+1) (area D L) (z3Z hfit) (z9Q _);simp only;split;{rename_i h0;exact .inl ⟨rfl,rfl,hfit,hg⟩};{rename_i h0;exact .inr (.inl (h1 h0))}}}}
theorem zsD(D:Dk):(DM.sync D).1=0∨(DM.sync D).1=6:=by
 unfold DM.sync;split;{exact .inl rfl};{exact .inr rfl}
theorem zmK:∀ (q:List (Str×Str)) (k v:Str),(∀ p ∈ q,p.1<k)->lay1 q ⟨k,v,false⟩=q ++ [(k,v)]
 | [],k,v,_=>rfl
 | p :: q,k,v,h=>by{unfold lay1;rw[if_pos (h p (by simp)),zmK q k v (λp hp=>h p (by simp[hp]))];rfl}
theorem zqK:∀ (ps q:List (Str×Str)),Sorted (q ++ ps)->(∀ p ∈ ps,OkP p)->decL (cpL ps) q=some (q ++ ps)
 | [],q,_,_=>by simp[cpL,decL]
 | p :: ps,q,hs,ho=>by{have hp:=ho p (by simp);have hr:=ziS hp;have hl:=zrG hr;have hd:=zrR hr (by simp at hl;omega);show decL (enc [⟨p.1,p.2,false⟩] :: cpL ps) q=_;unfold decL;rw[hd];have e:layL q [⟨p.1,p.2,false⟩]=q ++ [p]:=by{show lay1 q ⟨p.1,p.2,false⟩=_;rw[zmK q p.1 p.2 (λa ha=>(List.pairwise_append.1 hs).2.2 a ha p (by simp))]};simp only;rw[e,zqK ps (q ++ [p]) (by simpa using hs) (λa ha=>ho a (by simp[ha]))];simp}
def Okay(S:St):Prop:=S.dead=false→decL S.g.l []=some S.ps
def OkO(o:Option St):Prop:=∀ S,o=some S→Okay S
theorem zuY{D:Dk}(h6:6<=D.safe.length){S:St}(h:Okay S)(hd:S.dead=false){l:List Ch}(he:encE l=0):((apS D S (enc l)).1=0->(apS D S (enc l)).2.2.dead=false/\decL (apS D S (enc l)).2.2.g.l []=some (layL S.ps l))/\((apS D S (enc l)).1≠0->Okay (apS D S (enc l)).2.2):=by
 obtain⟨hl,hr⟩:=wbytes l he;unfold apS;rcases zkU h6 S.g (enc l) with ⟨h0,h1,-⟩ | h1 | ⟨h0,h1,-⟩;{refine⟨λ_=>⟨by simp only;rw[h0];rfl,?_⟩,λhne=>absurd h0 hne⟩;simp only;rw[h1];simp only;rw[decL_append,h hd];simp only[decL];rw[zrR hr hl]};{refine⟨λh0=>(by simp only at h0;rw[h1] at h0;cases h0),λ_ hd'=>?_⟩;simp only at hd';rw[h1] at hd';cases hd'};{refine⟨λh2=>(by simp only at h2;rcases h0 with h0 | h0 <;> rw[h0] at h2 <;> cases h2),λ_ _=>?_⟩;simp only;rw[h1];exact h hd}
theorem zkE{D:Dk}(h6:6<=D.safe.length){S:St}(h:Okay S)(hp:PsOk S.ps):Okay (cpS D S).2.2:=by
 unfold cpS;split;{exact h};{rename_i hd;rcases zoD h6 S.g (cpL S.ps) with ⟨h0,h1,-⟩ | h1 | ⟨h0,h1,-⟩;{intro _;simp only;rw[h1];exact zqK S.ps [] (by simpa using hp.sorted) hp.each};{intro hd';simp only at hd';rw[h1] at hd';cases hd'};{intro _;simp only;rw[h1];exact h (by simpa using hd)}}
theorem zuN(D:Dk)(S:St):(cpS D S).2.1.safe.length=D.safe.length:=by
 unfold cpS;split;{rfl};{exact zqS D S.g _}
theorem y0V{D:Dk}(h6:6<=D.safe.length){S:St}(h:Okay S)(hp:PsOk S.ps)(l:List Ch):Okay (doS D S l).2.2:=by
 unfold doS;split;{exact h};{rename_i hd;have hd:S.dead=false:=by{simpa using hd};split;{exact h};{rename_i he;have he:encE l=0:=by{omega};obtain⟨a1,a2⟩:=zuY h6 h hd he;have hcp:=zkE (D:=D) h6 h hp;have key:((z4O D S (enc l)).1=0->(z4O D S (enc l)).2.2.dead=false/\decL (z4O D S (enc l)).2.2.g.l []=some (layL S.ps l))/\((z4O D S (enc l)).1≠0->Okay (z4O D S (enc l)).2.2):=by{unfold z4O;split;{rename_i h5;have hk:=a2 (by omega);have hps:(apS D S (enc l)).2.2.ps=S.ps:=rfl;have h6':6<=(apS D S (enc l)).2.1.safe.length:=by{show 6<=(WM.append D S.g (enc l)).2.1.safe.length;rw[zfM];exact h6};have hk2:=zkE h6' hk (by rw[hps];exact hp);split;{rename_i hc;have hdd:=cpS_dead hc;have:=zuY (D:=(cpS (apS D S (enc l)).2.1 (apS D S (enc l)).2.2).2.1) (by rw[zuN];exact h6') hk2 hdd he;rw[cpS_ps,hps] at this;exact this};{rename_i hc;exact⟨λh0=>absurd h0 hc,λ_=>hk2⟩}};{exact⟨a1,a2⟩}};unfold zeF;by_cases h0:(z4O D S (enc l)).1=0;{rw[if_pos h0];intro _;simp only;rw[intoS_ps];exact(key.1 h0).2};{rw[if_neg h0];exact key.2 h0}}}
theorem zzC(D:Dk){S:St}(h:Okay S):Okay (syS D S).2.2:=by
 unfold syS;split;{exact h};{rename_i hd;intro _;have e:(WM.z7H D S.g).2.2.l=S.g.l:=by{unfold WM.z7H;split;{rfl};{simp only;split <;> rfl}};simp only;rw[e];exact h (by simpa using hd)}
theorem y0P(D:Dk):OkO (opS D).2.1:=by
 intro S hS _;unfold opS at hS;split at hS;{cases hS};{rename_i g hg;split at hS;{cases hS};{rename_i ps hp;cases hS;exact hp}}
theorem zrN{D:Dk}(h:D.safe.length<=2048)(S:St)(l:List Ch):(doS D S l).2.1.waits.length<=D.waits.length+5120:=by
 have ha:∀ (D:Dk) (S:St) (b:List UInt8),D.safe.length<=2048->(apS D S b).2.1.waits.length<=D.waits.length+2048:=λD S b h=>zjP h S.g b;have hi:(z4O D S (enc l)).2.1.waits.length<=D.waits.length+5120:=by{have h1:=ha D S (enc l) h;have hl:(apS D S (enc l)).2.1.safe.length<=2048:=by{show (WM.append D S.g (enc l)).2.1.safe.length<=2048;rw[zfM];exact h};have h2:=cpS_waits hl (S:=(apS D S (enc l)).2.2);unfold z4O;split;{split;{have h3:=ha (cpS (apS D S (enc l)).2.1 (apS D S (enc l)).2.2).2.1 (cpS (apS D S (enc l)).2.1 (apS D S (enc l)).2.2).2.2 (enc l) (by rw[zuN];exact hl);omega};{omega}};{omega}};unfold doS;split;{exact Nat.le_add_right _ _};{split;{exact Nat.le_add_right _ _};{exact hi}}
end SO
namespace AC
open Go.Proofs.YtkhddpiopbmhjaaGreat MI SO BM DM WM
structure Ac where
 s:St
 b:Bal
 vs:List Vt
def doA(D:Dk)(S:St)(l:List Ch):Int×Dk×St:=if (doS D S l).1=0 then syS (doS D S l).2.1 (doS D S l).2.2 else doS D S l
def zbZ(vs:List Vt)(k:Nat):List Vt:=vs.filter fun v=>decide (k≤v.slot)
def z1X(D:Dk)(A:Ac)(b:Bal)(k:Nat):(List Vt×Bal×Int)×Dk×Ac:=
 if z3O b=false then (([],Bal.zero,2),D,A)
 else if A.s.dead then (([],Bal.zero,6),D,A)
 else if less b A.b then (([],A.b,90),D,A)
 else if b=A.b then ((zbZ A.vs k,b,0),D,A)
 else if (doA D A.s (z6B b)).1=0 then ((zbZ A.vs k,b,0),(doA D A.s (z6B b)).2.1,⟨(doA D A.s (z6B b)).2.2,b,A.vs⟩)
 else (([],Bal.zero,(doA D A.s (z6B b)).1),(doA D A.s (z6B b)).2.1,⟨(doA D A.s (z6B b)).2.2,A.b,A.vs⟩)
def z6Q(v:Vt):Bool:=z3O v.bal && (decide (v.slot≠0) && decide (v.val.length≤100))
def z0T(D:Dk)(A:Ac)(v:Vt):(Bal×Int)×Dk×Ac:=
 if z6Q v=false then ((Bal.zero,2),D,A)
 else if A.s.dead then ((Bal.zero,6),D,A)
 else if less v.bal A.b then ((A.b,90),D,A)
 else if (doA D A.s (z5W v)).1=0 then ((v.bal,0),(doA D A.s (z5W v)).2.1,⟨(doA D A.s (z5W v)).2.2,v.bal,insV A.vs v⟩)
 else ((Bal.zero,(doA D A.s (z5W v)).1),(doA D A.s (z5W v)).2.1,⟨(doA D A.s (z5W v)).2.2,A.b,A.vs⟩)
def cutV(vs:List Vt)(k:Nat):List Vt:=(vs.filter fun v=>decide (v.slot≤k)).take 32
def trimA(D:Dk)(A:Ac)(k:Nat):(Nat×Int)×Dk×Ac:=
 if A.s.dead then ((0,6),D,A)
 else if cutV A.vs k = [] then ((0,0),D,A)
 else if (doS D A.s (zjV (cutV A.vs k))).1=0 then (((cutV A.vs k).length,0),(doS D A.s (zjV (cutV A.vs k))).2.1,⟨(doS D A.s (zjV (cutV A.vs k))).2.2,A.b,A.vs.drop (cutV A.vs k).length⟩)
 else ((0,(doS D A.s (zjV (cutV A.vs k))).1),(doS D A.s (zjV (cutV A.vs k))).2.1,⟨(doS D A.s (zjV (cutV A.vs k))).2.2,A.b,A.vs⟩)
def zkX(D:Dk):Int×Option Ac×Dk:=match (opS D).2.1 with
 | none=>((opS D).1,none,(opS D).2.2)
 | some S=>match rd S.ps with
   | none=>(91,none,(opS D).2.2)
   | some (b,vs)=>(0,some ⟨S,b,vs⟩,(opS D).2.2)
def Ac.prom(A:Ac):Bal:=if A.s.dead then Bal.zero else A.b
def Ac.votes(A:Ac)(k:Nat):List Vt:=if A.s.dead then [] else zbZ A.vs k
structure AOk (A:Ac):Prop where
 ok:A.s.dead=false→VOk A.b A.vs
 ps:A.s.dead=false→A.s.ps=encP A.b A.vs
theorem zjW{D:Dk}{S:St}(_hd:S.dead=false)(b:List UInt8):(z4O D S b).2.2.dead=decide ((z4O D S b).1=6):=by
 have ha:∀ (D:Dk) (S:St),(apS D S b).2.2.dead=decide ((apS D S b).1=6):=λD S=>rfl;have hc:∀ (D:Dk) (S:St),S.dead=false->(cpS D S).2.2.dead=decide ((cpS D S).1=6):=λD S h=>by{unfold cpS;rw[h];rfl};unfold z4O;split;{split;{exact ha _ _};{rename_i h5 h0;refine hc _ _ ?_;rw[ha,h5];rfl}};{exact ha _ _}
theorem zsN{D:Dk}{S:St}(hd:S.dead=false)(l:List Ch):((doS D S l).1=0/\(doS D S l).2.2.ps=layL S.ps l/\(doS D S l).2.2.dead=false)∨((doS D S l).1=6/\(doS D S l).2.2.dead=true)∨
  ((doS D S l).1≠0/\(doS D S l).1≠6/\(doS D S l).2.2.ps=S.ps/\(doS D S l).2.2.dead=false):=by
 by_cases he:encE l=0;{have e:doS D S l=zeF (z4O D S (enc l)) l:=by{unfold doS;rw[hd];simp[he]};have h6:=zjW (D:=D) hd (enc l);have hps:=intoS_ps D S (enc l);rw[e];unfold zeF;by_cases h0:(z4O D S (enc l)).1=0;{left;rw[if_pos h0];refine⟨h0,by simp only;rw[hps],?_⟩;simp only;rw[h6,h0];rfl};{right;rw[if_neg h0];by_cases h:(z4O D S (enc l)).1=6;{left;exact⟨h,by simp only;rw[h6,h];rfl⟩};{right;exact⟨h0,h,hps,by simp only;rw[h6];exact decide_eq_false h⟩}}};{have e:doS D S l=((encE l:Int),D,S):=by{unfold doS;rw[hd];simp[he]};have h6:encE l≠6:=by{unfold encE;split;{split <;> decide};{decide}};right;right;rw[e];exact⟨by simp only;omega,by simp only;omega,rfl,hd⟩}
theorem zrZ{D:Dk}{S:St}(hd:S.dead=false):((syS D S).2.2.dead=decide ((syS D S).1=6))/\(syS D S).2.2.ps=S.ps/\((syS D S).1=0∨(syS D S).1=6):=by
 unfold syS;rw[hd];simp only[Bool.false_eq_true,if_false];refine⟨trivial,trivial,?_⟩;unfold WM.z7H;split;{exact .inr rfl};{simp only;split;{exact .inl rfl};{right;rename_i h;rcases zsD D with x | x;{exact absurd x h};{exact x}}}
theorem z8H{D:Dk}{S:St}(hd:S.dead=false)(l:List Ch):((doA D S l).1=0/\(doA D S l).2.2.ps=layL S.ps l/\(doA D S l).2.2.dead=false)∨((doA D S l).1=6/\(doA D S l).2.2.dead=true)∨
  ((doA D S l).1≠0/\(doA D S l).1≠6/\(doA D S l).2.2.ps=S.ps/\(doA D S l).2.2.dead=false):=by
 rcases zsN (D:=D) hd l with ⟨h1,h2,h3⟩ | ⟨h1,h2⟩ | ⟨h1,h2,h3,h4⟩;{have e:doA D S l=syS (doS D S l).2.1 (doS D S l).2.2:=by{unfold doA;rw[if_pos h1]};rw[e];obtain⟨g1,g2,g3⟩:=zrZ (D:=(doS D S l).2.1) h3;rcases g3 with g3 | g3;{exact .inl ⟨g3,by rw[g2,h2],by rw[g1,g3];rfl⟩};{exact .inr (.inl ⟨g3,by rw[g1,g3];rfl⟩)}};{have e:doA D S l=doS D S l:=by{unfold doA;rw[if_neg (by omega)]};rw[e];exact .inr (.inl ⟨h1,h2⟩)};{have e:doA D S l=doS D S l:=by{unfold doA;rw[if_neg h1]};rw[e];exact .inr (.inr ⟨h1,h2,h3,h4⟩)}
theorem AOk.of_dead{A:Ac}(h:A.s.dead=true):AOk A:=⟨λe=>(by rw[h] at e;cases e),λe=>(by rw[h] at e;cases e)⟩
theorem AOk.prep{D:Dk}{A:Ac}(h:AOk A)(b:Bal)(hn:b.n<18446744073709551616)(k:Nat):AOk (z1X D A b k).2.2:=by
 unfold z1X;by_cases h1:z3O b=false;{rw[if_pos h1];exact h};rw[if_neg h1];by_cases h2:A.s.dead=true;{rw[if_pos h2];exact h};rw[if_neg h2];have hd:A.s.dead=false:=by{simpa using h2};by_cases h3:less b A.b=true;{rw[if_pos h3];exact h};rw[if_neg h3];by_cases h4:b=A.b;{rw[if_pos h4];exact h};rw[if_neg h4];have hb:OkB b:=⟨by simpa using h1,hn⟩;have hl:less b A.b=false:=by{simpa using h3};have hok:=h.ok hd;have hps:=h.ps hd;rcases z8H (D:=D) hd (z6B b) with ⟨g1,g2,g3⟩ | ⟨g1,g2⟩ | ⟨g1,g2,g3,g4⟩;{rw[if_pos g1];exact⟨λ_=>hok.up hb hl,λ_=>by rw[g2,hps];exact zvL hb⟩};{rw[if_neg (by omega)];exact AOk.of_dead g2};{rw[if_neg g1];exact⟨λ_=>hok,λ_=>by simp only;rw[g3];exact hps⟩}
theorem AOk.accept{D:Dk}{A:Ac}(h:AOk A)(v:Vt)(hn:v.bal.n<18446744073709551616)(hs:v.slot<18446744073709551616):AOk (z0T D A v).2.2:=by
 unfold z0T;by_cases h1:z6Q v=false;{rw[if_pos h1];exact h};rw[if_neg h1];by_cases h2:A.s.dead=true;{rw[if_pos h2];exact h};rw[if_neg h2];have hd:A.s.dead=false:=by{simpa using h2};by_cases h3:less v.bal A.b=true;{rw[if_pos h3];exact h};rw[if_neg h3];have hr:z3O v.bal=true/\v.slot≠0/\v.val.length<=100:=by{have:=h1;simp only[z6Q,Bool.not_eq_false,Bool.and_eq_true,decide_eq_true_eq] at this;exact this};have hb:OkB v.bal:=⟨hr.1,hn⟩;have hl:less v.bal A.b=false:=by{simpa using h3};have hok:=h.ok hd;have hps:=h.ps hd;rcases z8H (D:=D) hd (z5W v) with ⟨g1,g2,g3⟩ | ⟨g1,g2⟩ | ⟨g1,g2,g3,g4⟩;{rw[if_pos g1];exact⟨λ_=>hok.ins hl (by have:=hr.2.1;omega) hs hb hr.2.2,λ_=>by simp only;rw[g2,hps];exact zvO hok hb hs⟩};{rw[if_neg (by omega)];exact AOk.of_dead g2};{rw[if_neg g1];exact⟨λ_=>hok,λ_=>by simp only;rw[g3];exact hps⟩}
end AC
section
open Go.RowKit Go.Maps
open MI SO BM DM WM AC
theorem Turns.trans{T' T'':Thing}{F:Nat->Prop}{w w' w'':World}(h:Turns T' F w w')(h2:∀ F',T' w' F'->Turns T'' F' w' w''):Turns T'' F w w'':=by
 obtain⟨F',a,b,c⟩:=h;obtain⟨F'',a2,b2,c2⟩:=h2 F' a;exact⟨F'',a2,b.next b2 zI (λi hi x=>(c i x).elim id λy=>absurd y (by omega)),λi x=>(c2 i x).elim (λy=>c i y) λy=>.inr (Nat.le_trans b.size y)⟩
theorem Turns.later{T:Thing}{F:Nat->Prop}{w w':World}(LT:Lives T)(h:T w F)(hk:Keep zF w w'):Turns T F w w':=
 ⟨F,LT.keep h hk zI,hk.mono λ_ _ x=>x.elim,λ_ x=>.inl x⟩
theorem Turns.ahead{T':Thing}{F:Nat->Prop}{w w1 w':World}(hk:Keep zF w w1)(h:Turns T' F w1 w'):Turns T' F w w':=by
 obtain⟨F',a,b,c⟩:=h;exact⟨F',a,hk.next b zE zI,λi x=>(c i x).imp id λy=>Nat.le_trans hk.size y⟩
def TrioT(T U V:Thing):Thing:=fun w F=>∃ X Y Z,T w X∧U w Y∧V w Z∧(∀ i,X i→¬ Y i)∧(∀ i,X i→¬ Z i)∧(∀ i,Y i→¬ Z i)∧F=fun k=>X k∨Y k∨Z k
section
variable {T T' U U' V V':Thing} {w w':World} {F:Nat→Prop}
theorem TrioT.lives(LT:Lives T)(LU:Lives U)(LV:Lives V):Lives (TrioT T U V):=
 ⟨λ⟨X,Y,Z,h1,h2,h3,a,b,c,e⟩ hk hn=>⟨X,Y,Z,LT.keep h1 hk (λi x=>hn i (by rw[e];exact .inl x)),LU.keep h2 hk (λi x=>hn i (by rw[e];exact .inr (.inl x))),LV.keep h3 hk (λi x=>hn i (by rw[e];exact .inr (.inr x))),a,b,c,e⟩,λ⟨X,Y,Z,h1,h2,h3,_,_,_,e⟩ i x=>by rw[e] at x;exact x.elim (LT.lt h1 i) λx=>x.elim (LU.lt h2 i) (LV.lt h3 i)⟩
theorem TrioT.turn1(LU:Lives U)(LV:Lives V)(h:TrioT T U V w F)(t:∀ X,T w X->Turns T' X w w'):Turns (TrioT T' U V) F w w':=by
 obtain⟨X,Y,Z,h1,h2,h3,a,b,c,rfl⟩:=h;obtain⟨X',p,q,r⟩:=t X h1;refine⟨λk=>X' k∨Y k∨Z k,⟨X',Y,Z,p,LU.keep h2 q (λi x y=>a i y x),LV.keep h3 q (λi x y=>b i y x),λi x y=>?_,λi x y=>?_,c,rfl⟩,q.mono λ_ _ x=>.inl x,λi x=>x.elim (λx=>(r i x).imp .inl id) λx=>.inl (.inr x)⟩;{rcases r i x with z | z;{exact a i z y};{have:=LU.lt h2 i y;omega}};{rcases r i x with z | z;{exact b i z y};{have:=LV.lt h3 i y;omega}}
theorem TrioT.turnY{X Y Z:Nat->Prop}(LT:Lives T)(LV:Lives V)(h1:T w X)(h3:V w Z)(a:∀ i,X i->¬ Y i)(b:∀ i,X i->¬ Z i)(c:∀ i,Y i->¬ Z i)(e:F=λk=>X k∨Y k∨Z k)(t:Turns U' Y w w'):Turns (TrioT T U' V) F w w':=by
 obtain⟨Y',p,q,r⟩:=t;subst e;refine⟨λk=>X k∨Y' k∨Z k,⟨X,Y',Z,LT.keep h1 q a,p,LV.keep h3 q (λi x y=>c i y x),λi x y=>?_,b,λi x y=>?_,rfl⟩,q.mono λ_ _ x=>.inr (.inl x),λi x=>x.elim (λx=>.inl (.inl x)) λx=>x.elim (λx=>(r i x).imp (λy=>.inr (.inl y)) id) λx=>.inl (.inr (.inr x))⟩;{rcases r i y with z | z;{exact a i x z};{have:=LT.lt h1 i x;omega}};{rcases r i x with z | z;{exact c i z y};{have:=LV.lt h3 i y;omega}}
theorem Turns.map{T T':Thing}{F:Nat->Prop}{w w':World}(h:Turns T F w w')(f:∀ G,T w' G->T' w' G):Turns T' F w w':=let ⟨G,a,b,c⟩:=h;⟨G,f G a,b,c⟩
end
def VotesT(nv:Value)(vs:List Vt):Thing:=fun w F=>(∃ us,Votes w F nv vs us)∧∀ k,F k→k<w.heap.size
theorem VotesT.lives(nv:Value)(vs:List Vt):Lives (VotesT nv vs):=
 ⟨λ⟨⟨us,h⟩,h2⟩ hk hn=>⟨⟨us,h.keep hk hn⟩,λk x=>Nat.lt_of_lt_of_le (h2 k x) hk.size⟩,λh=>h.2⟩
def BoxA(p:Nat)(cs:Array Value)(t:TypeId):Thing:=fun w F=>w.heap[p]?=some (.cells cs t (0,0))∧F p∧∀ k,F k→k<w.heap.size
theorem BoxA.lives(p:Nat)(cs:Array Value)(t:TypeId):Lives (BoxA p cs t):=
 ⟨λ⟨h1,h2,h3⟩ hk hn=>⟨hk.get h1 (hn _ h2),h2,λk x=>Nat.lt_of_lt_of_le (h3 k x) hk.size⟩,λh=>h.2.2⟩
abbrev accC(sb:Nat)(b:Bal)(nv:Value)(dead:Bool):Array Value:=#[.pointer (some ⟨sb,0,none⟩),.int .u64 (b.n:Int),.int .i64 b.node,nv,.bool dead]
def AcT(a d:Nat)(D:Dk)(A:Ac):Thing:=fun w F=>∃ sb nv,TrioT (BoxA a (accC sb A.b nv A.s.dead) 152) (StoT sb d D A.s) (VotesT nv A.vs) w F
theorem AcT.lives(a d:Nat)(D:Dk)(A:Ac):Lives (AcT a d D A):=
 ⟨λ⟨sb,nv,h⟩ hk hn=>⟨sb,nv,(TrioT.lives (BoxA.lives _ _ _) (StoT.lives _ _ _ _) (VotesT.lives _ _)).keep h hk hn⟩,λ⟨_sb,_nv,h⟩=>(TrioT.lives (BoxA.lives _ _ _) (StoT.lives _ _ _ _) (VotesT.lives _ _)).lt h⟩
end
namespace AC
open Go.Proofs.YtkhddpiopbmhjaaGreat MI SO BM DM WM
def z4K:List Vt→Nat→Nat
 | [],_=>0
 | v :: vs,s=>if v.slot<s then z4K vs s+1 else 0
theorem zcP:∀ (vs:List Vt) (s:Nat),z4K vs s<=vs.length
 | [],_=>Nat.le_refl _
 | v :: vs,s=>by{have:=zcP vs s;unfold z4K;split <;> simp <;> omega}
theorem zdX:∀ {vs:List Vt} {s k:Nat},k<=vs.length->(∀ i (h:i<vs.length),i<k->vs[i].slot<s)->(∀ h:k<vs.length,¬ vs[k].slot<s)->k=z4K vs s
 | [],s,k,h,_,_=>by simp at h;rw[h];rfl
 | v :: vs,s,0,_,_,h2=>by{have:=h2 (by simp);simp only[List.getElem_cons_zero] at this;unfold z4K;rw[if_neg this]}
 | v :: vs,s,k+1,h,h1,h2=>by{have h3:=h1 0 (by simp) (by omega);simp only[List.getElem_cons_zero] at h3;unfold z4K;rw[if_pos h3,<-zdX (k:=k) (by simpa using h) (λi hi hik=>by have:=h1 (i+1) (by simpa using hi) (by omega);simpa using this) (λhh=>by have:=h2 (by simpa using hh);simpa using this)]}
theorem zaT:∀ (vs:List Vt) (v:Vt),insV vs v=vs.take (z4K vs v.slot) ++ v :: vs.drop (if (vs[z4K vs v.slot]?.map (·.slot))=some v.slot then z4K vs v.slot+1 else z4K vs v.slot)
 | [],v=>rfl
 | u :: vs,v=>by{unfold insV z4K;by_cases h:u.slot<v.slot;{rw[if_pos h,if_pos h,zaT vs v];simp only[List.take_succ_cons,List.getElem?_cons_succ,List.cons_append];by_cases e:Option.map (λx=>x.slot) vs[z4K vs v.slot]?=some v.slot;{rw[if_pos e,if_pos e];rfl};{rw[if_neg e,if_neg e];rfl}};{rw[if_neg h,if_neg h];simp only[List.take_zero,List.nil_append,List.getElem?_cons_zero,Option.map_some,Option.some.injEq];by_cases e:u.slot=v.slot;{rw[if_pos e,if_pos e];rfl};{rw[if_neg e,if_neg e];rfl}}}
theorem zfP:∀ {vs:List Vt} (k:Nat),Rise vs->zbZ vs k=vs.drop (z4K vs k)
 | [],_,_=>rfl
 | v :: vs,k,h=>by{have h1:=List.pairwise_cons.1 h;unfold zbZ z4K;by_cases hk:v.slot<k;{rw[if_pos hk,List.filter_cons,if_neg (by simp;omega)];exact zfP k h1.2};{rw[if_neg hk,List.drop_zero,List.filter_eq_self];intro x hx;rcases List.mem_cons.1 hx with rfl | hx;{simp;omega};{have:=h1.1 x hx;simp;omega}}}
end AC
section
open Go.RowKit Go.Maps
open MI SO BM DM WM AC
theorem z0I{w:World}{b:Nat}{T:TypeId}{a0 a1 a2 a3 a4:Value}(H:w.heap[b]?=some (.cells #[a0,a1,a2,a3,a4] T (0,0))):w.cell? ⟨b,0,none⟩=some a0/\w.cell? ⟨b,1,none⟩=some a1/\w.cell? ⟨b,2,none⟩=some a2/\w.cell? ⟨b,3,none⟩=some a3/\w.cell? ⟨b,4,none⟩=some a4/\(∀ o,w.frozen? ⟨b,o,none⟩=false)/\b<w.heap.size:=by
 refine⟨?_,?_,?_,?_,?_,?_,z0J H⟩ <;> simp[World.cell?,World.frozen?,H]
theorem zbC(w:World)(a sb:Nat)(b:Bal)(nv:Value)(dead:Bool)(F:Nat->Prop)(vs:List Vt)(us:List Value)(slot:Nat)(hh:w.heap[a]?=some (.cells (accC sb b nv dead) 152 (0,0)))(hv:Votes w F nv vs us):Calls Tryz.prog 112 #[.pointer (some ⟨a,0,none⟩),.int .u64 (slot:Int)] w λe w'=>e = .returned (.int .i64 (z4K vs slot:Nat))/\w'=w:=by
 obtain⟨ao,c,rfl,hc,hm,-⟩:=hv.row.form;obtain⟨n,hn⟩:=zX1 (vs.length);rw[<-hn] at hh hv hc;obtain⟨k0,k1,k2,k3,k4,kf,kb⟩:=z0I hh;have H:=zB1 hv hn;have hn63:(n:Int)<=9223372036854775807:=by{unfold maxLen at hm;omega};obtain⟨P,hP⟩:=zX1 (z4K vs slot);rw[<-hP];have HP:=hid hP;clear hv hh hn hP hc hm k0 k1 k2 k4 kf
 go_in
 go_wp2_with fail
 go_loopw [5] (λiv wr=>∃ i:Nat,i<=n/\iv = .int .i64 i/\wr=w/\zH (∀ j (hj:j<vs.length),j<i->vs[j].slot<slot)) (λiv _=>n - (intOf iv).toNat)
 case atStart=>exact⟨0,Nat.zero_le _,rfl,rfl,hid λj _ x=>by omega⟩
 case round=>(obtain⟨i,hi,rfl,rfl,HR⟩:=hrel;by_cases hin:i<n;{have h4:(i:Int)<n:=by{omega};have hil:i<vs.length:=by{rw[<-H.y1];exact hin};obtain⟨g,ua,uc,rfl,hcell,-⟩:=H.x1.get i hil;have a0:=hcell 0 _ rfl;rw[Nat.add_zero] at a0;obtain⟨s,hs⟩:=zX1 (vs[i].slot);rw[<-hs] at a0;have HS:=zB1 hil hs;clear hcell hs;by_cases hlt:s<slot;{have q1:(s:Int)<(slot:Int):=by{omega};go_wp2_with fail;go_roundw;(case rel=>exact⟨i+1,by omega,by go_num,by first | rfl | trivial,hid λj hj hji=>by{rcases Nat.lt_or_eq_of_le (Nat.le_of_lt_succ hji) with x | x;{exact HR.o j hj x};{subst x;rw[<-HS.y1];exact hlt}}⟩);case measure=>simp[intOf];omega};{have q1:decide ((s:Int)<(slot:Int))=false:=by{simp;omega};have q2:decide (s<slot)=false:=decide_eq_false hlt;have HE:=hid (show i=P by{rw[HP.o];exact zdX (Nat.le_of_lt HS.x1) HR.o (λh=>by rw[<-HS.y1];exact hlt)});go_wp2_with fail;go_ret;exact⟨by rw[HE.o];first | rfl | simp,rfl⟩}};{have q1:decide ((i:Int)<(n:Int))=false:=by{simp;omega};have q2:decide (i<n)=false:=decide_eq_false hin;have HE:=hid (show i=P by{rw[HP.o];exact zdX (by have:=H.y1;omega) HR.o (λh=>by have:=H.y1;omega)});go_wp2_with fail;go_ret;exact⟨by rw[HE.o];first | rfl | simp,rfl⟩})
theorem zpQ(w:World)(a sb:Nat)(b:Bal)(nv:Value)(dead:Bool)(hh:w.heap[a]?=some (.cells (accC sb b nv dead) 152 (0,0))):Calls Tryz.prog 40 #[.pointer (some ⟨a,0,none⟩)] w λe w'=>e = .returned (balV (if dead then Bal.zero else b))/\Keep zF w w':=by
 have hn:=heap_alloc_new w (.cells #[.int .u64 0,.int .i64 0] 32);have hk:=kal w (.cells #[.int .u64 0,.int .i64 0] 32);have hh1:=hk.get hh id
 go_in
 go_upto_region 1 with fail
 obtain⟨w1,hw1⟩:=zX1 (w.alloc (.cells #[.int .u64 0,.int .i64 0] 32));rw[<-hw1] at hn hk hh1 |-;clear hw1;obtain⟨k0,k1,k2,k3,k4,kf,kb⟩:=z0I hh1;have d0:w1.cell? ⟨w.heap.size,0,none⟩=some (.int .u64 0):=by{simp[World.cell?,hn]};have d1:w1.cell? ⟨w.heap.size,1,none⟩=some (.int .i64 0):=by{simp[World.cell?,hn]};have f0:∀ o,w1.frozen? ⟨w.heap.size,o,none⟩=false:=λo=>by{simp[World.frozen?,hn]};have H1:=zB1 hk hn;clear hh hh1 hn hk k0 k3 kf kb;have fin:∀ x y:Value,((w1.setCell ⟨w.heap.size,0,none⟩ x).setCell ⟨w.heap.size,1,none⟩ y).heap[w.heap.size]?=some (.cells #[x,y] 32 (0,0))/\Keep zF w ((w1.setCell ⟨w.heap.size,0,none⟩ x).setCell ⟨w.heap.size,1,none⟩ y):=λx y=>by{have g1:=z0A H1.y1 0 x;have g2:=z0A g1 1 y;have hkz:Keep (λk=>k=w.heap.size) w1 ((w1.setCell ⟨w.heap.size,0,none⟩ x).setCell ⟨w.heap.size,1,none⟩ y):=by{refine Keep.setCell (Keep.setCell (Keep.refl _ _) (.inl ?_) _) (.inl ?_) _ <;> rfl};exact⟨g2,H1.x1.next hkz zI (λk hk x=>by omega)⟩};have HF:=hid fin;clear fin;cases dead with | true=>{go_wp2_with fail;obtain⟨g2,hkw⟩:=HF.o (.int .u64 0) (.int .i64 0);refine bodyPost_ret (z3I rfl _ _ w.heap.size rfl [.int .u64 0,.int .i64 0] (λj u hu=>?_) _ Tryz.underlying32 rfl (by kernel_rfl)) rfl ⟨rfl,hkw⟩;rw[cell_of_row _ _ _ _ _ _ g2];simpa using hu} | false=>{go_wp2_with fail;obtain⟨g2,hkw⟩:=HF.o (.int .u64 (b.n:Int)) (.int .i64 b.node);refine bodyPost_ret (z3I rfl _ _ w.heap.size rfl [.int .u64 (b.n:Int),.int .i64 b.node] (λj u hu=>?_) _ Tryz.underlying32 rfl (by kernel_rfl)) rfl ⟨rfl,hkw⟩;rw[cell_of_row _ _ _ _ _ _ g2];simpa using hu}
theorem zhA(w:World)(a d:Nat)(D:Dk)(A:Ac)(F:Nat->Prop)(H:AcT a d D A w F):Calls Tryz.prog 40 #[.pointer (some ⟨a,0,none⟩)] w λe w'=>e = .returned (balV A.prom)/\Keep zF w w':=by
 obtain⟨sb,nv,X,Y,Z,hbox,-⟩:=H;exact zpQ w a sb A.b nv A.s.dead hbox.1
end
section
open Go.RowKit Go.Maps
open MI SO BM DM WM AC
def VotesPost(w:World)(vs:List Vt)(e:Ending)(w':World):Prop:=∃ v us Fv,e = .returned v∧Votes w' Fv v vs us∧(∀ k,Fv k→w.heap.size≤k)∧Keep (fun _=>False) w w'
def Apart(us:List Value):Prop:=∀ i j k,i<j→j<us.length→(us.getD i undef).ownBlock=some k→(us.getD j undef).ownBlock≠some k
theorem Apart.nil:Apart []:=λ_ _ _ _ h=>absurd h (by simp)
theorem Apart.push{us:List Value}{u:Value}(h:Apart us)(hu:∀ i k,i<us.length->(us.getD i undef).ownBlock=some k->u.ownBlock≠some k):Apart (us ++ [u]):=λi j k hij hj e=>by
 rw[List.length_append,List.length_singleton] at hj;rw[List.getD_eq_getElem?_getD,List.getElem?_append_left (by omega),<-List.getD_eq_getElem?_getD] at e;rcases Nat.lt_or_eq_of_le (Nat.le_of_lt_succ hj) with y | y;{rw[List.getD_eq_getElem?_getD,List.getElem?_append_left y,<-List.getD_eq_getElem?_getD];exact h i j k hij y e};{subst y;rw[List.getD_eq_getElem?_getD,List.getElem?_append_right (Nat.le_refl _),Nat.sub_self];exact hu i k hij e}
def VotesPostA(w:World)(vs:List Vt)(e:Ending)(w':World):Prop:=∃ v us Fv,e = .returned v∧Votes w' Fv v vs us∧(∀ k,Fv k→w.heap.size≤k)∧Keep (fun _=>False) w w'∧Apart us
theorem ziH(w:World)(a sb:Nat)(b:Bal)(nv:Value)(dead:Bool)(F:Nat->Prop)(vs:List Vt)(us:List Value)(k:Nat)(hh:w.heap[a]?=some (.cells (accC sb b nv dead) 152 (0,0)))(hv:Votes w F nv vs us)(hr:Rise vs)(hb:∀ v ∈ vs,v.val.length<=1000)(hN:vs.length<=1000000):Calls Tryz.prog 91 #[.pointer (some ⟨a,0,none⟩),.int .u64 (k:Int)] w (VotesPostA w (if dead then [] else zbZ vs k)):=by
 obtain⟨k0,k1,k2,k3,k4,kf,kb⟩:=z0I hh;cases dead with
 | true=>
   clear hh hv
   go_in
   go_wp2_with fail;go_ret;exact⟨_,[],λ_=>False,rfl,Votes.nil _ _,λ_ x=>x.elim,Keep.refl _ _,Apart.nil⟩
 | false=>
   have hpl:=zbC w a sb b nv false F vs us k hh hv;have hfd:=zfP k hr;have hple:=zcP vs k;obtain⟨p,hp⟩:=zX1 (z4K vs k);rw[<-hp] at hpl hfd hple;obtain⟨ao,c,rfl,hc,hm,hnil,hsome⟩:=hv.row.form;obtain⟨n,hn⟩:=zX1 (vs.length);rw[<-hn] at hh hv hc hple k3;obtain⟨m,hm2⟩:=zX1 (n - p);have hsl:=λw=>z1R (P:=Tryz.prog) z6F ao n c .i64 p hple w;obtain⟨ta,hta⟩:=zX1 (z1T ao c p 4);obtain⟨tc,htc⟩:=zX1 (c - p);rw[<-hta,<-hm2,<-htc] at hsl;obtain⟨T,hT⟩:=zX1 (vs.drop p);rw[<-hT] at hfd;simp only[Bool.false_eq_true,if_false];rw[hfd];have hTm:T.length=m:=by{rw[hT,List.length_drop,hm2,hn]};have H:=zB8 hv hn hta hT hTm hb hc hple hm2;have HPl:=hid (λs:Later w=>show Calls Tryz.prog 112 #[.pointer (some ⟨a,0,none⟩),.int .u64 (k:Int)] s.val λe w'=>e = .returned (.int .i64 (p:Nat))/\Keep zF s.val w' from by{have:=zbC s.val a sb b (.slice ao n c) false F vs us k (s.keep.get hh id) (hv.keep s.keep zI);rw[<-hp] at this;exact this.mono λe w' ⟨h1,h2⟩=>⟨h1,by rw[h2];exact Keep.refl _ _⟩});have hm63:(m:Int)<=9223372036854775807:=by{unfold maxLen at hm;omega};have HN:=hid hN;clear hv hh hn hta hT hTm hfd hm2 hb hr hp hpl hnil hsome htc hm hN
   go_in
   go_upto_region 4 with fail
   have j3:=λs:Later w=>s.cell k3
   (refine z0V (by kernel_rfl) (by kernel_rfl) ?_;(repeat (go_big_quiet_step ((go_at_call 112;exact Later.call (HPl.o _)))));refine wpQuiet_nil ?_;rintro _ ⟨sq,rfl⟩)
   have hk1:=sq.keep;obtain⟨w1,hw1⟩:=zX1 (sq.val);rw[<-hw1] at hk1 |-;clear hw1 sq j3 HPl hsl k0 k1 k2 k3 k4 kf kb;go_wp2_with (at_builtin;refine z0Q ?_;intro q hq)
   go_loopw [5,25] (λov iv wr=>∃ i:Nat,i<=m/\iv = .int .i64 i/\zH (∃ us Fo,Votes wr Fo ov (T.take i) us/\(∀ k,Fo k->w.heap.size<=k)/\Keep zF w wr/\Apart us)) (λ_ iv _=>m - (intOf iv).toNat)
   case atStart=>exact⟨0,Nat.zero_le _,rfl,hid ⟨[],λ_=>False,Votes.nil _ _,λ_ x=>x.elim,hk1,Apart.nil⟩⟩
   case round=>
    obtain⟨i,hi,rfl,HR⟩:=hrel;by_cases him:i<m
    ·have q1:(i:Int)<m:=by omega
     obtain⟨os,Fo,ho,hFo,hkr,hap⟩:=HR.o;have hil:p+i<vs.length:=by{have:=H.x2;have:=H.y8;omega};obtain⟨g,ua,uc,hao,hcell,hrow⟩:=(H.x1.keep hkr zI).get (p+i) hil;subst hao;obtain⟨q,hq⟩:=zX1 (p * 4);have hta:ta=some ⟨g,q,none⟩:=by{rw[H.x3];unfold z1T;rw[if_neg (by have:=H.x7;have:=H.x2;omega)];simp only[Option.map_some];rw[z0R,Nat.zero_add,hq]};subst hta;obtain⟨x,hx⟩:=zX1 (vs[p+i]);rw[<-hx] at hcell hrow;obtain⟨xl,hxl⟩:=zX1 (x.val.length);rw[<-hxl] at hcell hrow;have b0:=hcell 0 _ rfl;have b1:=hcell 1 _ rfl;have b2:=hcell 2 _ rfl;have b3:=hcell 3 _ rfl;rw[show (p+i) * 4+0=q+i * 4 by rw[hq];omega] at b0;rw[show (p+i) * 4+1=q+i * 4+1 by rw[hq];omega] at b1;rw[show (p+i) * 4+2=q+i * 4+2 by rw[hq];omega] at b2;rw[show (p+i) * 4+3=q+i * 4+3 by rw[hq];omega] at b3;have HAp:=hid hap;clear hap;have HX:=zB6 ho hFo hkr hrow hx hxl hq;clear ho hFo hkr hcell hrow hx hxl hq
     go_upto_region 7 with fail
     have hn2:=heap_alloc_new wr (.cells #[.int .u64 (x.slot:Int),.int .u64 (x.bal.n:Int),.int .i64 x.bal.node,.slice ua xl uc] 109);have hk2:=kal wr (.cells #[.int .u64 (x.slot:Int),.int .u64 (x.bal.n:Int),.int .i64 x.bal.node,.slice ua xl uc] 109);have hz2:(wr.alloc (.cells #[.int .u64 (x.slot:Int),.int .u64 (x.bal.n:Int),.int .i64 x.bal.node,.slice ua xl uc] 109)).heap.size=wr.heap.size+1:=by{simp};obtain⟨w2,hw2⟩:=zX1 (wr.alloc (.cells #[.int .u64 (x.slot:Int),.int .u64 (x.bal.n:Int),.int .i64 x.bal.node,.slice ua xl uc] 109));rw[<-hw2] at hn2 hk2 hz2 |-;clear hw2 b0 b1 b2 b3;have hk3:=kal w2 (.cells #[] 5);have hf3:=Row.fresh w2 5 1;have hn3:=hk3.get hn2 id;have hz3:(w2.alloc (.cells #[] 5)).heap.size=w2.heap.size+1:=by{simp};have d3:(w2.alloc (.cells #[] 5)).cell? ⟨wr.heap.size,3,none⟩=some (.slice ua xl uc):=by{obtain⟨w3,hw3⟩:=zX1 (w2.alloc (.cells #[] 5));rw[<-hw3] at hn3 |-;simp[World.cell?,hn3]};have H3:=zB5 hk2 hk3 hf3 hn3 hz2 hz3;clear hn2 hk2 hz2 hk3 hf3 hn3 hz3;go_wp2_with (at_builtin;refine z0Q ?_;intro q hq)
     (refine hq.out ?_;clear hq q)
     obtain⟨w3,hw3⟩:=zX1 (w2.alloc (.cells #[] 5));rw[<-hw3] at H3 d3
     first | rw[<-hw3] | skip
     clear hw3;obtain⟨hk2,hk3,hf3,hn3,hz2,hz3⟩:=H3.o;have hbx:x.val.length<=1000:=H.x6 x (by rw[HX.x5];exact List.getElem_mem _);have hxl:=HX.x6;have hk13:=hk2.nx hk3;refine wpList_plain rfl (λK hK=>?_);refine z1E z1L (.tmp 29) (.tmp 31) rfl rfl hf3 ua xl uc (z0B x.val) rfl (Cells.of_row (HX.x4.keep hk13 zI)) (z2D _) (by unfold maxLen;omega) (by omega) ?_;intro v4 w4 hr4 hk4 hv4;refine hK _ _ ?_;clear hK K;obtain⟨a4,c4,rfl,-⟩:=hr4.form;rw[Nat.zero_add] at hr4
     try rw[Nat.zero_add] at hv4
     try rw[Nat.zero_add]
     have hn4:=hk4.get hn3 (λe=>by have e2:w2.heap.size=wr.heap.size:=Option.some.inj e;omega);have d3b:w4.cell? ⟨wr.heap.size,3,none⟩=some (.slice ua xl uc):=by{simp[World.cell?,hn4]};have f3:w4.frozen? ⟨wr.heap.size,3,none⟩=false:=by{simp[World.frozen?,hn4]};have H4:=zB3 hr4 hk4 hv4 hn4;clear hr4 hk4 hv4 hn4 hk2 hk3 hf3 hn3 hz2 hz3 hk13 d3 hbx hxl
     go_upto_region 8 with fail
     have hn5:=z0A H4.y3 3 (.slice a4 xl c4);have hk5:Keep (λk=>k=wr.heap.size) w4 (w4.setCell ⟨wr.heap.size,3,none⟩ (.slice a4 xl c4)):=kst;obtain⟨w5,hw5⟩:=zX1 (w4.setCell ⟨wr.heap.size,3,none⟩ (.slice a4 xl c4));rw[<-hw5] at hn5 hk5 |-;clear hw5 d3b f3;have e0:w5.cell? ⟨wr.heap.size,0,none⟩=some (.int .u64 (x.slot:Int)):=by{simp[World.cell?,hn5]};have e1:w5.cell? ⟨wr.heap.size,1,none⟩=some (.int .u64 (x.bal.n:Int)):=by{simp[World.cell?,hn5]};have e2:w5.cell? ⟨wr.heap.size,2,none⟩=some (.int .i64 x.bal.node):=by{simp[World.cell?,hn5]};have e3:w5.cell? ⟨wr.heap.size,3,none⟩=some (.slice a4 xl c4):=by{simp[World.cell?,hn5]};have hk6:=kal w5 (.cells #[.int .u64 (x.slot:Int),.int .u64 (x.bal.n:Int),.int .i64 x.bal.node,.slice a4 xl c4] 109);have hn6:=heap_alloc_new w5 (.cells #[.int .u64 (x.slot:Int),.int .u64 (x.bal.n:Int),.int .i64 x.bal.node,.slice a4 xl c4] 109);have H5:=zB2 hk5 hk6 hn6;clear hk5 hk6 hn6 hn5;go_wp2_with (at_builtin;refine z0Q ?_;intro q hq)
     (refine hq.out ?_;clear hq q)
     obtain⟨w6,hw6⟩:=zX1 (w5.alloc (.cells #[.int .u64 (x.slot:Int),.int .u64 (x.bal.n:Int),.int .i64 x.bal.node,.slice a4 xl c4] 109));rw[<-hw6] at H5
     first | rw[<-hw6] | skip
     clear hw6 e0 e1 e2 e3;obtain⟨ho,hFo,hkr,hrow,hx,hxl,hq⟩:=HX.o;obtain⟨hk2,hk3,hf3,hn3,hz2,hz3⟩:=H3.o;obtain⟨hr4,hk4,hv4,hn4⟩:=H4.o;obtain⟨hk5,hk6,hn6⟩:=H5.o;have hk23:=hk2.nx hk3;have hk24:Keep zF wr w4:=hk23.next hk4 zI (λk hk e=>by have e2:w2.heap.size=k:=Option.some.inj e;omega);have hk25:Keep zF wr w5:=hk24.next hk5 zI (λk hk e=>by omega);have hk26:=hk25.nx hk6;have ho6:=ho.keep hk26 zI;have hTi:(T.take i).length=i:=by{rw[List.length_take,H.x5];omega};obtain⟨oo,oc,rfl,-⟩:=ho6.row.form;have hr6:=ho6.row;rw[hTi] at hr6 ho6 |-;have hns:i<1000000:=by{have h1:=HN.o;have h2:=H.x2;have h3:=H.y8;omega};refine wpList_plain rfl (λK hK=>?_);refine z1E z6F (.tmp 34) (.tmp 36) rfl rfl hr6 (some ⟨w5.heap.size,0,none⟩) 1 1 (z3A x (.slice a4 xl c4)) rfl ⟨rfl,λ_=>⟨_,rfl,λt u hu=>by rw[z0R,Nat.zero_add,cell_of_row _ _ _ _ _ _ hn6];simpa [z3A] using hu⟩⟩ (λu hu=>by simp[z3A] at hu;rcases hu with rfl | rfl | rfl | rfl <;> rfl) (by unfold maxLen;omega) (by omega) ?_;intro v7 w7 hr7 hk7 hv7;have hk7:Keep (λk=>(Value.slice oo i oc).ownBlock=some k) w6 w7:=hk7;refine hK _ _ ?_;clear hK K;have HZ:=hid (show ∃ us Fo',Votes w7 Fo' v7 (T.take (i+1)) us/\(∀ k,Fo' k->w.heap.size<=k)/\Keep zF w w7/\Apart us from by{have hTx:T.take (i+1)=T.take i ++ [x]:=by{have hiT:i<T.length:=by{rw[H.x5];exact him};rw[List.take_add_one,List.getElem?_eq_getElem hiT,Option.toList_some];congr 2;rw[hx];simp only[H.x4,List.getElem_drop]};have hown4:∀ k,(Value.slice a4 xl c4).ownBlock=some k->wr.heap.size<k:=λk e=>by{rcases hv4 with ⟨e1,-⟩ | ⟨k',h1,h2⟩;{rw[e1] at e;have:=Option.some.inj e;simp only at this;omega};{rw[e] at h1;cases h1;rcases h2 with h2 | h2;{have:=Option.some.inj h2;simp only at this;omega};{omega}}};have s1:=hkr.size;have s2:=hk25.size;have s3:=hk6.size;rw[hTx];refine⟨os ++ [.slice a4 xl c4],λk=>Fo k∨(wr.heap.size<=k),ho6.push (u:=.slice a4 xl c4) (F':=λk=>Fo k∨(wr.heap.size<=k)) ?_ ?_ ?_ hk7 (λk x=>.inl x) ?_,?_,?_,HAp.o.push λi' k' hi' e1 e2=>?_⟩;{rw[<-hxl];have h:=(hr4.keep hk5 (λk e x=>by have:=hown4 k e;omega)).keep hk6 zI;rw[List.nil_append] at h;exact h};{intro k e;have h1:=hown4 k e;exact⟨.inr (by omega),λe2=>by have:=ho.row.lt (by rw[z1G _ _ i];exact e2);omega⟩};{rw[hTi];exact hr7};{intro k e;rcases hv7 with ⟨_,h0⟩ | ⟨k',h1,h2⟩;{omega};{rw[e] at h1;cases h1;rcases h2 with h2 | h2;{exact⟨.inl (ho6.own k h2),.inl h2⟩};{exact⟨.inr (by omega),.inr (by omega)⟩}}};{rintro k (x | x);{exact hFo k x};{omega}};{exact(hkr.next hk26 zI zI).next hk7 zI (λk hk e=>by have:=hFo k (ho6.own k e);omega)};{have h1:=hown4 k' e2;have h2:=(ho.each i' (by rw[<-ho.len];exact hi')).1.lt e1;omega}});clear ho hFo hkr hrow hx hxl hq hk2 hk3 hf3 hn3 hz2 hz3 hr4 hk4 hv4 hn4 hk5 hk6 hn6 hk23 hk24 hk25 hk26 ho6 hr6 hr7 hk7 hv7 hTi;go_wp2_with fail;go_roundw
     case rel=>exact⟨i+1,by omega,by go_num,HZ⟩
     case measure=>simp[intOf];omega
    {have q1:decide ((i:Int)<m)=false:=by{simp;omega};obtain⟨os,Fo,ho,hFo,hkr,hap⟩:=HR.o;rw[List.take_of_length_le (by have:=H.x5;omega)] at ho;have HZ:=zB3 ho hFo hkr hap;clear ho hFo hkr hap;go_wp2_with fail;go_ret;exact⟨_,os,Fo,rfl,HZ.x1,HZ.x2,HZ.y2⟩}
end
section
open Go.RowKit Go.Maps
open MI SO BM DM WM
def FitS(D:Dk)(S:St)(l:List Ch):Prop:=D.waits.length≤490000∧(encE l=0→(WM.append D S.g (enc l)).1≠5)
theorem y0X(w:World)(b d:Nat)(F Fd:Nat→Prop)(D:Dk)(S:St)(H:StoAt w b d F Fd D S)(ao:Option Addr)(n c:Nat)(l:List Ch)(hL:Chs w (.slice ao n c) l)(hn:n=l.length)(hap:0<n→∀ x,ao=some x→¬ F x.block∧¬ Fd x.block)(hm:S.dead=false→S.ps.length≤900000)(hfew:FitS D S l):Calls Tryz.prog 122 #[.pointer (some ⟨b,0,none⟩),.slice ao n c] w fun e w'=>e = .returned (.int .i64 (doS D S l).1)∧StoTo b d F Fd w (doS D S l).2.1 (doS D S l).2.2 w':=by
 obtain⟨R,hR⟩:=zX1 (doS D S l);rw[← hR]
 have hr:Calls Tryz.prog 148 #[.pointer (some ⟨b,0,none⟩)] w fun e w'=>e = .returned (.int .i64 (if S.dead then 6 else 0))∧w'=w:=by
  obtain⟨wb,mb,m,Fl,H⟩:=H;exact z8W w b mb _ S.dead H.head
 have henc:=zpT w ao n c l hL hn;have H0:=zB6 H hL hn hap hm hfew hR;clear H hL hn hap hm hfew hR
 go_in
 go_wp2_with fail;refine hr.mono ?_;rintro e w1 ⟨rfl,rfl⟩;clear hr
 cases hdd:S.dead with
 | true=>
   have HZ:=hid (show R=(6,D,S) by rw[H0.y6];unfold doS;rw[if_pos hdd]);clear hdd henc;simp only[if_true];go_wp2_with fail;go_ret;rw[HZ.o];exact⟨rfl,H0.x1.to⟩
 | false=>
   have HD:=hid hdd;clear hdd;simp only[Bool.false_eq_true,if_false];go_wp2_with fail;refine henc.mono ?_;rintro e w2 ⟨bv,rfl,hf⟩;clear henc
   by_cases hE:encE l=0
   ·have HB:=hid (wbytes l hE)
    rw[if_pos hE] at hf;have HZ:=hid (show R=zeF (z4O D S (enc l)) l by rw[H0.y6];unfold doS;rw[if_neg (by rw[HD.o];decide),if_neg (by omega)]);have h5n:=H0.x6.2 hE;simp only[hE];clear hE;have hk:=hf.keep;have hltw:=H0.x1.ltw;obtain⟨wb,mb,m,Fl,HI⟩:=H0.x1.later hk;obtain⟨i0,i1,i2,jf,jb⟩:=z1N (show w2.heap[b]?=some (.cells #[_,_,_] _ (0,0)) from HI.head);obtain⟨ba,bc,rfl,-,-,-,hba⟩:=hf.row.form;have hnF:∀ x,ba=some x→w1.heap.size≤x.block:=fun x e=>hf.own _ (hba x e).2;have happ:=zlE w2 wb d Fl Fd D S.g HI.log ba (enc l).length bc (enc l) (Cells.of_row hf.row) (fun x _ e=>⟨fun y=>by have:=hltw _ (.inl (HI.inl _ y).1);have:=hnF x e;omega,fun y=>by have:=hltw _ (.inr y);have:=hnF x e;omega⟩) (by have:=HB.x1;omega) (by have:=H0.x6.1;omega);obtain⟨Y,hY⟩:=zX1 (WM.append D S.g (enc l));rw[← hY] at happ;have HN5:=hid (show Y.1≠5 by rw[hY];exact h5n);have HY:=hid hY;clear h5n;have H2:=zB3 HI hf hltw hnF;clear hY hf hk hltw HI hba hnF;go_wp2_with fail;refine happ.mono ?_;rintro e w3 ⟨rfl,ht⟩;obtain⟨hh3,hto⟩:=H2.x1.both ht;have htl:=zmV w3 b _ mb _ hh3 Y.1
    have hk3:Keep (fun k=>F k∨Fd k) w2 w3:=by
     obtain⟨_,_,_,h,_⟩:=ht;exact h.mono fun k _ x=>x.imp (fun y=>(H2.x1.inl k y).1) id
    have H3:=zB1 hto hk3;clear happ ht hto hh3 i0 i1 i2 jf jb hk3;go_wp2_with fail;refine htl.mono ?_;rintro e w4 ⟨rfl,hh4,hk4⟩;have hz:=H3.x1 _ _ hk4 hh4;rw[HD.o,Bool.false_or] at hz;have HA:=hid (show apS D S (enc l)=(Y.1,Y.2.1,⟨Y.2.2,S.ps,decide (Y.1=6)⟩) by rw[HY.o];rfl);have H4:=hid hz;clear htl hh4 hk4 hz
    go_upto_if 30 with fail
    obtain⟨X,hX⟩:=zX1 (z4O D S (enc l));have HX:=hid hX;rw[← hX] at HZ;clear hX
    go_cut [7] (fun ev wx=>ev = .int .i64 X.1∧zH (StoTo b d F Fd w1 X.2.1 X.2.2 wx))
    case first=>
     have h5:=HN5.o;have q1:(Y.1 == 5)=false:=by simp[h5]
     have h5':=hid h5;clear h5;go_wp2_with fail;go_meet
     have e:X=(Y.1,Y.2.1,⟨Y.2.2,S.ps,decide (Y.1=6)⟩):=by
      rw[HX.o];unfold z4O;rw[HA.o,if_neg h5'.out]
     rw[e];exact⟨rfl,hid (H4.o.since H2.x2.keep)⟩
    case rest=>
     obtain⟨rfl,HR⟩:=hcut
     by_cases hx0:X.1=0
     ·have q1:(X.1 == 0)=true:=by simp[hx0]
      have e:R=(0,X.2.1,{ X.2.2 with ps:=layL S.ps l }):=by
       rw[HZ.o];unfold zeF;rw[if_pos hx0,hx0,show X.2.2.ps=S.ps by rw[HX.o];exact intoS_ps _ _ _]
      have h0:=zB1 hx0 e;clear hx0 e;have hr:=HR.o;obtain⟨F9,Fd9,c1,c2,c3,c4⟩:=hr;obtain⟨wb9,mb9,m9,Fl9,HI9⟩:=c1;obtain⟨-,hL,hn,hap,hm,-⟩:=H0.o;have hlt:=hL.lt
      have hLc:Chs wc (.slice ao n c) l:=SliceOf.keepF hL c2 (fun hp x m c e y=>by
       cases e;have:=hap (by omega) x rfl
       exact y.elim this.1 this.2)
      have hps:X.2.2.ps=S.ps:=by rw[HX.o];exact intoS_ps _ _ _
      have hlay:=zxJ wc b mb9 _ _ m9 ao n c l HI9.head HI9.map HI9.ne hLc hn (fun hp x hx e=>by
       rcases c3 mb9 HI9.fm with y | y
       ·exact(hap hp x hx).1 (by rw[e];exact y)
       ·have:=hlt (by omega) x hx;omega) (by
       have h1:=HI9.len;have h2:=hm HD.o;have h3:=(z2R HB.y1).1;rw[hps] at h1
       omega)
      have H7:=zB4 HI9 c2 c3 c4 hps;clear hL hn hap hm hlt hLc c2 c3 c4 hps HI9;go_wp2_with fail;refine hlay.mono ?_;rintro e w8 ⟨rfl,hp8,hk8⟩;have H8:=zB1 hp8 hk8;clear hlay hp8 hk8;go_wp2_with fail;go_ret;obtain⟨HI9,c2,c3,c4,hps⟩:=H7.o;rw[h0.out.2];have hg:=mapL_get l HI9.ok.sorted HI9.get;rw[hps] at hg;refine⟨by rw[h0.out.1];rfl,F9,Fd9,(HI9.laid (ps':=layL S.ps l) H8.y1 H8.x1 hg ?_).at,c2.next H8.y1 zI (fun k hk x=>?_),c3,c4⟩
      ·have:=HI9.ok.layL (z2R HB.y1).2
       rw[hps] at this;exact this
      ·subst x
       rcases c3 _ HI9.fm with y | y
       ·exact .inl y
       ·omega
     ·have q1:(X.1 == 0)=false:=by simp[hx0]
      have e:R=X:=by
       rw[HZ.o];unfold zeF;rw[if_neg hx0]
      have h0:=hid e;clear hx0 e;go_wp2_with fail;go_ret;rw[h0.out];exact⟨rfl,HR.o⟩
   ·have HZ:=hid (show R=((encE l:Int),D,S) by rw[H0.y6];unfold doS;rw[if_neg (by rw[HD.o];decide),if_pos hE])
    obtain⟨x,hx⟩:=zX1 (encE l);rw[← hx] at hE HZ ⊢;have q1:((x:Int) == 0)=false:=by simp;omega
    have q2:decide ((x:Int)=0)=false:=by simp;omega
    have q3:((x:Int) != 0)=true:=by simp;omega
    have hk:=hid hf.keep;clear hf hx hE;go_wp2_with fail;go_ret;rw[HZ.o];exact⟨rfl,(H0.x1.later hk.out).to.since hk.out⟩
end
end Go.Proofs.YtkhddpiopbmhjaaGreat
