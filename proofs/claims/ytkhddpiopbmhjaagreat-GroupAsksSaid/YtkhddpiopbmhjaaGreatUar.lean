/- Texts Tail in one. Conditions: as each law names them. -/
import Derived.StillTail
import Derived.Test.YtkhddpiopbmhjaaGreatUah
set_option maxRecDepth 20000
set_option maxHeartbeats 8000000
namespace Go.Proofs.YtkhddpiopbmhjaaGreat
section
open Go.RowKit
section
variable {P:Program} {ops:Array Oper} {md:Region.Mode} {C:World→Prop}
def zdC(P:Program)(md:Region.Mode)(ops:Array Oper)(C:World→Prop)(n:Nat)(L:Array Bool→Act→Prop):Nat→Array Bool→Act→Prop
 | 0,done,a=>L done a
 | f+1,done,a=>Region.ready md ops done≠[]∧∀ i ∈ Region.ready md ops done,i<n∧qOp P ops C i (zdC P md ops C n L f (done.setIfInBounds i true)) a
theorem zdC.any{n g:Nat}{L:Array Bool->Act->Prop}{Q:Exit->Act->World->Prop}(hL:∀ done a w,C w->L done a->wpAny P md ops Q g done a w)(f:Nat):∀ (done:Array Bool) (a:Act) (w:World),C w->zdC P md ops C n L f done a->wpAny P md ops Q (f+g) done a w:=by
 induction f with | zero=>{intro done a w hw h;rw[Nat.zero_add];exact hL _ _ _ hw h} | succ f ih=>{intro done a w hw h;rw[Nat.succ_add];exact⟨λe=>absurd e h.1,λi hi=>wpOp_of_qOp hw (λa' w' hw' h'=>ih _ a' w' hw' h') (h.2 i hi).2⟩}
theorem zsC{done:Array Bool}{i:Nat}{oj:Oper}(hi:i ∈ Region.ready md ops done)(hall:∀ e ∈ oj.after,Region.binds md e=true->done.getD e.on false=true):∀ e ∈ oj.after,Region.binds md e=true->e.on≠i:=by
 intro e he hb heq;have h1:=hall e he hb;rw[heq,getD_both (mem_ready.1 hi).1] at h1;exact Bool.noConfusion h1
theorem zdC.first{n i:Nat}{oi:Oper}{v:Value}{L:Array Bool->Act->Prop}(hi:ops[i]?=some oi)(hsel:∀ (j:Nat) (o:Oper) cs b,ops[j]?=some o->o.op≠.select cs b)(hs:Region.sinkB md ops n=true)(hc:Region.chainB md ops n=true)(hn:n<ops.size)(hin:i<n)(hend:∀ done a,L done a->∀ j ∈ Region.ready md ops done,n<=j)(f:Nat):∀ (done:Array Bool) (a:Act),HeadInv md ops n done->
   (∀ j oj,ops[j]?=some oj->j≠i->done.getD j true=false->(∀ e ∈ oj.after,Region.binds md e=true->e.on≠i)->oi.apart ops oj=true)->
   i ∈ Region.ready md ops done->YieldsIn P ops C oi v a->zdC P md ops C n L f (done.setIfInBounds i true) (a.put oi.dst v)->zdC P md ops C n L (f+1) done a:=by
 have inHead:∀ {done:Array Bool} {j:Nat},HeadInv md ops n done->i ∈ Region.ready md ops done->j ∈ Region.ready md ops done->j<n:=λ{done j} inv hr hj=> Nat.lt_of_not_le λh=>tail_waits hs hc hn inv _ i rfl hin (mem_ready.1 hr).1 j h hj;induction f with | zero=>{intro done a inv _ hr hy H;refine⟨List.ne_nil_of_mem hr,λj hj=>⟨inHead inv hr hj,?_⟩⟩;rcases Nat.decEq j i with hji | hji;{have:=hend _ _ H j (ready_mono hj hji);have:=inHead inv hr hj;omega};{subst hji;exact hy.qOp hi H}} | succ f ih=>{intro done a inv hfree hr hy H;refine⟨List.ne_nil_of_mem hr,λj hj=>⟨inHead inv hr hj,?_⟩⟩;rcases Nat.decEq j i with hji | hji;{obtain⟨hjun,oj,hoj,hall⟩:=mem_ready.1 hj;have h2:=qOp_put hoj (hfree j oj hoj hji hjun (zsC hr hall)) (λcs b=>hsel i oi cs b hi) (λcs b=>hsel j oj cs b hoj) hy (H.2 j (ready_mono hj hji)).2;refine qOp_mono (λa' h3=>ih (done.setIfInBounds j true) a' (inv.set hj (inHead inv hr hj)) (λk ok hk hki hun=>hfree k ok hk hki ?_) (ready_mono hr (Ne.symm hji)) h3.1 ?_) h2;{rcases Nat.decEq j k with hjk | hjk;{rwa [getD_set_ne true hjk] at hun};{exact hjk ▸ hjun}};{rw[Array.setIfInBounds_comm _ _ hji];exact h3.2}};{subst hji;exact hy.qOp hi H}}
theorem zdC.lex{n g:Nat}{R:Act->Prop}(hsel:Region.noSelect ops=true)(hs:Region.sinkB md ops n=true)(hc:Region.chainB md ops n=true)(hn:n<ops.size)(l:List Oper):∀ (k:Nat) (done:Array Bool) (a:Act),(∀ j,j<l.length->l[j]?=ops[k+j]?)->k+l.length=n->HeadInv md ops n done->Region.lexHead md ops g l.length k done=true->wpQuiet P ops C R l a->
   zdC P md ops C n (λdone' a'=>Region.seqB md ops g n done'=true/\R a') l.length done a:=by
 induction l with | nil=>{intro k done a _ hk _ hB h;obtain rfl:k=n:=hk;exact⟨hB,h⟩} | cons o l ih=>{intro k done a hl hk inv hB h;have h0:ops[k]?=some o:=(hl 0 (Nat.succ_pos _)).symm;simp only[List.length_cons,Region.lexHead,Bool.and_eq_true,List.contains_iff_mem] at hB;obtain⟨⟨hr,hf⟩,hB'⟩:=hB;rw[List.length_cons] at hk;have hkn:k<n:=by{omega};obtain⟨v,hy,hK⟩:=yieldsIn_of_qOp (i:=k) (K:=wpQuiet P ops C R l) h0 (by unfold qOp;simp only[h0];exact h);refine zdC.first h0 (Region.noSelect_spec hsel) hs hc hn hkn (λdone' a' hL=>seqB_ready hL.1) l.length done a inv (Region.free_spec h0 hf) hr hy (ih (k+1) _ _ (λj hj=>?_) (by omega) (inv.set hr hkn) hB' hK);have:=hl (j+1) (Nat.succ_lt_succ hj);rwa [List.getElem?_cons_succ,show k+(j+1)=k+1+j by omega] at this}
end
theorem z1D{P:Program}{id:Nat}{Q:Exit->Act->World->Prop}{a:Act}{w:World}{l:List Oper}(n:Nat)(hm:P.follows .mixedOrders=true)(hB:Region.lexTailB .any l.toArray n=true)(h:wpQuiet P l.toArray (λw'=>∃ s:Later w,w'=s.val) (λa'=>∀ w',(∃ s:Later w,w'=s.val)->wpList P l.toArray Q (l.drop n) a' w') (l.take n) a):(Code.region id l.toArray true).wp P Q a w:=by
 simp only[Region.lexTailB,Bool.and_eq_true,decide_eq_true_eq] at hB;obtain⟨⟨⟨⟨hsel,hn⟩,hs⟩,hc⟩,hlex⟩:=hB;have hn':n<l.length:=by{simpa using hn};have ht:(l.take n).length=n:=List.length_take_of_le (Nat.le_of_lt hn');have hd:(l.drop n).length=l.toArray.size - n:=by{simp};have inv:HeadInv .any l.toArray n (Array.replicate l.toArray.size false):= ⟨by simp,λj oj _ hl=>(by rw[getD_replicate_false] at hl;cases hl),λt _ h=>getD_in (by simpa using h) (getD_replicate_false _ _)⟩;have H:=zdC.lex (md:=.any) (g:=l.toArray.size - n) hsel hs hc hn (l.take n) 0 _ a (λj hj=>by{rw[ht] at hj;simp[hj]}) (by simpa using ht) inv (by rw[ht];exact hlex) h;have H2:=zdC.any (Q:=Q) (g:=l.toArray.size - n) (λdone a' w' hw hL=>by{have:=wpAny_of_seq (md:=.any) (Q':=Q) (l.drop n) n done a' w' (λj=>by simp[List.getElem?_drop]) (by rw[hd];exact hL.1) (hL.2 w' hw);rwa [hd] at this}) _ _ _ _ (show ∃ s:Later w,({ w with drawn:=w.drawn+1 }:World)=s.val from⟨⟨_,(Keep.refl _ w).drew⟩,rfl⟩) H;rw[ht,show n+(l.toArray.size - n)=l.toArray.size by omega] at H2;exact wp_region_any hm H2
def zrO(ops:Array Oper):Nat→Nat→Array Bool→Bool
 | 0,_,_=>true
 | f+1,k,done=>(Region.ready .any ops done).contains k && Region.free .any ops done k && zrO ops f (k+1) (done.setIfInBounds k true)
def mixB(fl:List Tmp)(l:List Oper)(n:Nat):Bool:=
 Region.noSelect l.toArray && decide (n<l.length) && zoI l (z2O l []) && ((List.range n).all fun i=>ahead (z2O l []) i n) && ((List.range l.length).all fun t=>decide (t≤n) || ahead (z2O l []) n t) &&
  Twin.zgX true n fl [] 0 l.length l (z2O l []) && zrO l.toArray n 0 (Array.replicate l.length false)
section
variable {P:Program} {C:World→Prop} {l:List Oper}
end
end
end Go.Proofs.YtkhddpiopbmhjaaGreat
