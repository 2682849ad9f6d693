/- Texts Canon, Held, Guard in one. Conditions: as each law names them. -/
import Derived.Test.YtkhddpiopbmhjaaGreatUaa
import Derived.WalkKit
import Derived.Orders
set_option maxRecDepth 20000
set_option maxHeartbeats 8000000
namespace Go.Proofs.YtkhddpiopbmhjaaGreat
section
open Go.RowKit
structure Pre (w w':World):Prop where
 size:w.heap.size≤w'.heap.size
 block:∀ k,k<w.heap.size→w'.heap[k]?=w.heap[k]?
theorem Pre.refl(w:World):Pre w w:=⟨Nat.le_refl _,λ_ _=>rfl⟩
theorem Pre.trans{a b c:World}(h:Pre a b)(k:Pre b c):Pre a c:=
 ⟨Nat.le_trans h.size k.size,λi hi=>(k.block i (Nat.lt_of_lt_of_le hi h.size)).trans (h.block i hi)⟩
theorem Pre.drew{a w:World}(h:Pre a w):Pre a w.drew:=⟨h.size,h.block⟩
theorem Pre.alloc{a w:World}(h:Pre a w)(o:Obj):Pre a (w.alloc o):=
 h.trans ⟨by simp,λk hk=>Below.heap_alloc w o k hk⟩
section
variable {P:Program}
def SemDead(P:Program){α:Type}:Sem α→Prop
 | .pure _=>False
 | .halt _=>True
 | .program k=>SemDead P (k P)
 | .mark _ k=>SemDead P k
 | .choose _ k=>∀ n,SemDead P (k n)
 | .new _ k=>∀ n,SemDead P (k n)
 | .load _ _ k=>∀ v,SemDead P (k v)
 | .shape _ k=>∀ v,SemDead P (k v)
 | .frozen _ k=>∀ v,SemDead P (k v)
 | .getObj _ k=>∀ v,SemDead P (k v)
 | _=>False
def SemReads(P:Program){α:Type}:Sem α→Prop
 | .pure _=>True
 | .halt _=>True
 | .program k=>SemReads P (k P)
 | .mark _ k=>SemReads P k
 | .load _ _ k=>∀ v,SemReads P (k v)
 | .getObj _ k=>∀ o,SemReads P (k o)
 | .shape _ k=>SemDead P (k none)∧∀ s,SemReads P (k (some s))
 | .choose _ k=>∀ n,SemDead P (k n)
 | .new _ k=>∀ n,SemDead P (k n)
 | _=>False
theorem SemDead.not_ok{α:Type}{m:Sem α}(h:SemDead P m):∀ (w:World) (v:α) (w':World),m.run P w≠.ok v w':=by
 induction m with | pure a=>{exact h.elim} | load md a k ih=>{intro w v w' hr;simp only[Sem.run] at hr;split at hr;{exact ih _ (h _) _ _ _ hr};{split at hr;{exact ih _ (h _) _ _ _ hr};{cases hr}}} | store=>{exact h.elim} | new o k ih=>{intro w v w' hr;exact ih _ (h _) _ _ _ hr} | shape r k ih=>{intro w v w' hr;exact ih _ (h _) _ _ _ hr} | freeze=>{exact h.elim} | frozen a k ih=>{intro w v w' hr;exact ih _ (h _) _ _ _ hr} | getObj r k ih=>{intro w v w' hr;simp only[Sem.run] at hr;split at hr;{cases hr};{exact ih _ (h _) _ _ _ hr};{cases hr}} | setObj=>{exact h.elim} | choose q k ih=>{intro w v w' hr;simp only[Sem.run] at hr;split at hr;{exact ih _ (h _) _ _ _ hr};{exact ih _ (h _) _ _ _ hr}} | sys=>{exact h.elim} | program k ih=>{intro w v w' hr;exact ih _ h _ _ _ hr} | mark x k ih=>{intro w v w' hr;exact ih h _ _ _ hr} | halt x=>{intro w v w' hr;simp[Sem.run] at hr}
theorem z5U{w w':World}(hp:Pre w w'){k:Nat}{o:Obj}(h:w.heap[k]?=some o):w'.heap[k]?=some o:=by
 rw[hp.block k (Array.getElem?_eq_some_iff.1 h).1];exact h
theorem ztT{w w':World}(hp:Pre w w'){a:Addr}{v:Value}(h:w.cell? a=some v):w'.cell? a=some v:=by
 unfold World.cell? at *;cases hb:w.heap[a.block]? with | none=>{rw[hb] at h;cases h} | some o=>{rw[z5U hp hb];rw[hb] at h;exact h}
theorem zsE{w w':World}(hp:Pre w w'){at_:Addr}{u:TypeId}{k:Addr}{atomic:Bool}{r}(h:w.seen P at_ u k atomic = .ok r):w'.seen P at_ u k atomic = .ok r:=by
 unfold World.seen at *;cases hb:w.heap[at_.block]? with | none=>{rw[hb] at h;simp only[bind,Except.bind] at h;(repeat' split at h);(all_goals first | cases h | skip);all_goals simp_all} | some o=>{rw[z5U hp hb];rw[hb] at h;exact h}
theorem ziB{w w':World}(hp:Pre w w'){a:Addr}{atomic:Bool}{r}(h:w.farLoad P a atomic = .ok r):w'.farLoad P a atomic = .ok r:=by
 unfold World.farLoad at *;cases hb:w.heap[a.block]? with | none=>{rw[hb] at h;cases h} | some o=>{rw[z5U hp hb];rw[hb] at h;cases o with | view at_ u=>{simp only at h |-;have key:∀ r,w.viewLoad P at_ u a atomic = .ok r->w'.viewLoad P at_ u a atomic = .ok r:=by{intro r hr;unfold World.viewLoad at *;cases hs:w.seen P at_ u a atomic with | error e=>{rw[hs] at hr;simp[bind,Except.bind] at hr} | ok x=>{rw[zsE hp hs];rw[hs] at hr;exact hr}};cases hv:w.viewLoad P at_ u a atomic with | error e=>{rw[hv] at h;cases h} | ok x=>{rw[key x hv];rw[hv] at h;exact h}} | _=>{cases h}}
theorem zgY{w w':World}(hp:Pre w w'){a:Addr}{atomic:Bool}{r}(hc:w.cell? a=none)(h:w.farLoad P a atomic = .ok r):w'.cell? a=none:=by
 unfold World.farLoad at h;cases hb:w.heap[a.block]? with | none=>{rw[hb] at h;cases h} | some o=>{unfold World.cell? at *;rw[z5U hp hb];rw[hb] at hc;exact hc}
theorem SemReads.later{α:Type}{m:Sem α}(h:SemReads P m):∀ (w:World) (v:α) (w1:World),m.run P w = .ok v w1->w1=w/\∀ w',Pre w w'->m.run P w' = .ok v w':=by
 induction m with | pure a=>{intro w v w1 hr;simp only[Sem.run,Result.ok.injEq] at hr;obtain⟨rfl,rfl⟩:=hr;exact⟨rfl,λ_ _=>rfl⟩} | load md a k ih=>{intro w v w1 hr;simp only[Sem.run] at hr;split at hr;{rename_i u hu;obtain⟨e,h2⟩:=ih _ (h _) _ _ _ hr;refine⟨e,λw' hp=>?_⟩;simp only[Sem.run,ztT hp hu];exact h2 w' hp};{rename_i hu;split at hr;{rename_i u x hf;obtain⟨e,h2⟩:=ih _ (h _) _ _ _ hr;refine⟨e,λw' hp=>?_⟩;simp only[Sem.run,zgY hp hu hf,ziB hp hf];exact h2 w' hp};{cases hr}}} | store=>{exact h.elim} | new o k ih=>{intro w v w' hr;exact(SemDead.not_ok (h _) _ _ _ hr).elim} | shape r k ih=>{intro w v w1 hr;simp only[Sem.run] at hr;cases hs:w.shape? r with | none=>{rw[hs] at hr;exact(SemDead.not_ok h.1 _ _ _ hr).elim} | some s=>{rw[hs] at hr;obtain⟨e,h2⟩:=ih _ (h.2 _) _ _ _ hr;refine⟨e,λw' hp=>?_⟩;have hs':w'.shape? r=some s:=by{unfold World.shape? at *;cases hb:w.heap[r]? with | none=>{rw[hb] at hs;cases hs} | some o=>{rw[z5U hp hb];rw[hb] at hs;exact hs}};simp only[Sem.run,hs'];exact h2 w' hp}} | freeze=>{exact h.elim} | frozen a k ih=>{exact h.elim} | getObj r k ih=>{intro w v w1 hr;simp only[Sem.run] at hr;split at hr;{cases hr};{rename_i o hno ho;obtain⟨e,h2⟩:=ih _ (h _) _ _ _ hr;refine⟨e,λw' hp=>?_⟩;have ho':=z5U hp ho;simp only[Sem.run];rw[ho'];split;{rename_i c e' f heq;simp only[Option.some.injEq] at heq;exact(hno _ _ _ heq).elim};{rename_i o2 _ heq;simp only[Option.some.injEq] at heq;subst heq;exact h2 w' hp};{rename_i heq;cases heq}};{cases hr}} | setObj=>{exact h.elim} | choose q k ih=>{intro w v w1 hr;simp only[Sem.run] at hr;split at hr <;> exact(SemDead.not_ok (h _) _ _ _ hr).elim} | sys=>{exact h.elim} | program k ih=>{intro w v w1 hr;exact ih _ h _ _ _ hr} | mark x k ih=>{intro w v w1 hr;exact ih h _ _ _ hr} | halt x=>{intro w v w' hr;simp[Sem.run] at hr}
theorem SemReads.bind{α β:Type}{m:Sem α}{f:α->Sem β}(h:SemReads P m)(hf:∀ x,SemReads P (f x)):SemReads P (m >>= f):=by
 show SemReads P (Sem.bind m f);have dead:∀ {m:Sem α},SemDead P m->SemDead P (Sem.bind m f):=by{intro m hm;induction m with | pure a=>{exact hm.elim} | load md a k ih=>{exact λv=>ih _ (hm _)} | store=>{exact hm.elim} | new o k ih=>{exact λv=>ih _ (hm _)} | shape r k ih=>{exact λv=>ih _ (hm _)} | freeze=>{exact hm.elim} | frozen a k ih=>{exact λv=>ih _ (hm _)} | getObj r k ih=>{exact λv=>ih _ (hm _)} | setObj=>{exact hm.elim} | choose q k ih=>{exact λv=>ih _ (hm _)} | sys=>{exact hm.elim} | program k ih=>{exact ih _ hm} | mark x k ih=>{exact ih hm} | halt x=>{trivial}};induction m with | pure a=>{exact hf a} | load md a k ih=>{exact λv=>ih _ (h _)} | store=>{exact h.elim} | new o k ih=>{exact λv=>dead (h _)} | shape r k ih=>{exact⟨dead h.1,λv=>ih _ (h.2 _)⟩} | freeze=>{exact h.elim} | frozen a k ih=>{exact h.elim} | getObj r k ih=>{exact λv=>ih _ (h _)} | setObj=>{exact h.elim} | choose q k ih=>{exact λv=>dead (h _)} | sys=>{exact h.elim} | program k ih=>{exact ih _ h} | mark x k ih=>{exact ih h} | halt x=>{trivial}
theorem zpD{α:Type}(x:α):SemReads P (pure x:Sem α):=trivial
theorem zfC(a:Addr):SemReads P (load a):=λ_=>trivial
theorem zeJ(t:TypeId):SemReads P (typeInfo t):=by
 unfold typeInfo;refine SemReads.bind (m:=program) trivial λp=>?_;split <;> trivial
theorem zbY(t:TypeId):SemReads P (underlying t):=by
 unfold underlying;refine SemReads.bind (m:=program) trivial λp=>?_;split <;> trivial
theorem z5S(a:Addr):∀ (n i:Nat) (_acc:Array Value),SemReads P (loadCellsFrom a i n _acc)
 | 0,_,_=>trivial
 | n+1,i,_=>SemReads.bind (zfC _) λ_=>z5S a n (i+1) _
theorem zgP(t:TypeId)(a:Addr):SemReads P (loadVar t a):=by
 unfold loadVar;refine SemReads.bind (m:=isAgg t) ?_ λb=>?_;{unfold isAgg;refine SemReads.bind (zbY t) λd=>?_;split <;> trivial};{split;{refine SemReads.bind (m:=sizeOf t) ?_ λn=>?_;{exact SemReads.bind (zeJ t) λ_=>trivial};{exact SemReads.bind (z5S a n 0 _) λ_=>trivial}};{exact zfC a}}
theorem ziG(t:TypeId)(v:Value):SemReads P (Instr.loadAt t v):=by
 unfold Instr.loadAt;refine SemReads.bind (m:=Instr.sureAddr v) ?_ λa=>zgP t a;unfold Instr.sureAddr;split <;> trivial
end
def z8J(fl:List Tmp)(o:Oper):Nat:=
 match o.op with
 | .move _ | .assign _ | .pick .. | .build .. | .fieldAddr .. | .field .. | .nilCheck _ | .binOp .. | .unOp .. | .indexAddr .. | .index .. | .slice .. | .extract ..=>0
 | .convert ..=>match o.dst with | some d=>if fl.contains d then 3 else if fl.contains (d+10000) then 1 else 0 | none=>2
 | .load .. | .lookup ..=>1
 | .buildSlice .. | .box .. | .alloc .. | .makeSlice .. | .makeMap ..=>3
 | .call c=>
   match c.callee with
   | .builtin .len | .builtin .cap | .builtin .min | .builtin .max=>0
   | _=>match o.dst with | some d=>if fl.contains d then 3 else 2 | none=>2
 | _=>match o.dst with | some d=>if fl.contains d then 3 else 2 | none=>2
def noQ:Exit→Act→World→Prop:=fun _ _ _=>False
section
variable {P:Program} {ops:Array Oper} {fl:List Tmp}
theorem zmM:¬ LetsOut noQ:=λ⟨_,_,h⟩=>h
theorem zgT{o:Oper}{a:Act}{w:World}{K:Act->World->Prop}(p:Act->Prop)(hp:∀ u,p (a.put o.dst u))(hd:∀ d u,p (({ a with defers:=d :: a.defers }:Act).put o.dst u))(h:o.wp P a w K noQ):o.wp P a w (λa' w'=>K a' w'/\p a') noQ:=by
 unfold Oper.wp at *;generalize (execOp a.eval o).run P w=r at *;cases r with | ok n w'=>{cases n <;> simp only[Oper.upon] at h |-;(case value v=>exact⟨h,hp _⟩);(case skip=>exact⟨h,hp _⟩);(case defer d=>exact⟨h,hd _ _⟩);(case enter f args=>(refine Calls.mono h λe w'' he=>?_;cases e with | returned u=>{exact⟨he,hp _⟩} | panicked c=>{exact he} | outgrown=>{exact he}));case row row args=>exact Rows.mono h λu w'' he=>⟨he,hp _⟩} | halt x w'=>{cases x <;> simp only[Oper.upon] at h |-;case panic=>exact h}
theorem wp_ex{o:Oper}{a:Act}{w:World}{K:Act->World->Prop}(h:o.wp P a w K noQ):∃ a' w',K a' w':=by
 unfold Oper.wp at *;generalize (execOp a.eval o).run P w=r at *;cases r with | ok n w'=>{cases n <;> simp only[Oper.upon] at h;(case value v=>exact⟨_,_,h⟩);(case skip=>exact⟨_,_,h⟩);(case defer d=>exact⟨_,_,h⟩);(case enter f args=>(obtain⟨e,w'',fr,he,_⟩:=h [];cases e with | returned u=>{exact⟨_,_,he⟩} | panicked c=>{exact he.elim} | outgrown=>{exact(zmM he).elim}));case row row args=>(obtain⟨v,w'',he,_⟩:=h default [];exact⟨_,_,he⟩)} | halt x w'=>{cases x <;> simp only[Oper.upon] at h;case panic=>exact h.elim}
theorem znI{o:Oper}{d:Option Tmp}{v:Value}{a:Act}{w:World}{K:Act->World->Prop}(hs:∀ cs b,o.op≠.select cs b)(h1:∀ t,d=some t->t ∉ o.looksAt ops)(h2:∀ t,d=some t->o.dst≠some t):o.wp P (a.put d v) w K noQ↔o.wp P a w (λa' w'=>K (a'.put d v) w') noQ:=by
 unfold Oper.wp;rw[execOp_put (ops:=ops) o hs a d v h1];generalize (execOp a.eval o).run P w=r;cases r with | ok n w'=>{cases n <;> simp only[Oper.upon];(case value u=>rw[Act.put_comm a v u h2]);(case skip=>rw[Act.put_comm a v undef h2]);(case defer x=>rw[Act.put_defers,Act.put_comm _ v undef h2]);(case enter f args=>(constructor <;> refine λh=>Calls.mono h λe w'' he=>?_;all_goals cases e with | returned u=>{have he':K _ _:=he;have e:=Act.put_comm a v u h2;first | exact(show K _ _ from e ▸ he') | exact(show K _ _ from e.symm ▸ he')} | panicked c=>{exact he} | outgrown=>{exact he}));case row row args=>(constructor <;> refine λh=>Rows.mono h λu w'' he=>?_;{rw[<-Act.put_comm a v u h2];exact he};{rw[Act.put_comm a v u h2];exact he})} | halt x w'=>{cases x <;> simp only[Oper.upon];case panic=>exact Iff.rfl}
theorem z6T(fl:List Tmp)(o:Oper):z8J fl o<=3:=by
 unfold z8J
 repeat' split
 all_goals decide
end
def y1K(tbl:List Nat)(o:Oper):Nat:=
 o.after.toList.foldl (fun s e=>if Region.binds .any e then s ||| 2 ^ e.on ||| tbl.getD e.on 0 else s) 0
def z2O:List Oper→List Nat→List Nat
 | [],tbl=>tbl
 | o :: l,tbl=>z2O l (tbl ++ [y1K tbl o])
def ahead(tbl:List Nat)(j i:Nat):Bool:=(tbl.getD i 0).testBit j
def zoI(l:List Oper)(tbl:List Nat):Bool:=
 (List.range l.length).all fun i=>match l[i]? with
  | none=>true
  | some o=>(List.range i).all fun j=>!ahead tbl j i || o.after.any fun e=>Region.binds .any e && (e.on == j || (decide (e.on<i) && decide (j<e.on) && ahead tbl j e.on))
structure Inv (l:List Oper) (listed:Array Bool) (r:List Nat):Prop where
 sorted:r.Pairwise (· < ·)
 mem:∀ i,i ∈ r↔i<l.length∧listed.getD i true=false
 size:listed.size=l.length
 closed:∀ j oj,l[j]?=some oj→listed.getD j false=true→∀ e ∈ oj.after,Region.binds .any e=true→listed.getD e.on false=true
theorem zhG{l:List Oper}{tbl:List Nat}(ht:zoI l tbl=true){listed:Array Bool}{r:List Nat}(inv:Inv l listed r):∀ (n i j:Nat) (oi:Oper),i<n->j<i->l[i]?=some oi->(∀ e ∈ oi.after,Region.binds .any e=true->listed.getD e.on false=true)->ahead tbl j i=true->listed.getD j false=true:=by
 intro n;induction n with | zero=>{intro i j oi hi;omega} | succ n ih=>{intro i j oi hi hji hoi hall ha;have hlt:i<l.length:=(List.getElem?_eq_some_iff.1 hoi).1;have h1:=List.all_eq_true.1 ht i (List.mem_range.2 hlt);simp only[hoi] at h1;have h2:=List.all_eq_true.1 h1 j (List.mem_range.2 hji);simp only[ha,Bool.not_true,Bool.false_or] at h2;obtain⟨e,he,hb⟩:=Array.any_eq_true'.1 h2;simp only[Bool.and_eq_true,Bool.or_eq_true,beq_iff_eq,decide_eq_true_eq] at hb;obtain⟨hb1,hb2⟩:=hb;rcases hb2 with hb2 | ⟨⟨hb2,hje⟩,hb3⟩;{rw[<-hb2];exact hall e he hb1};{have hel:=hall e he hb1;have hel2:e.on<l.length:=by{omega};obtain⟨oe,hoe⟩:∃ oe,l[e.on]?=some oe:=⟨_,List.getElem?_eq_getElem hel2⟩;exact ih e.on j oe (by omega) hje hoe (inv.closed _ _ hoe hel) hb3}}
theorem Inv.set{l:List Oper}{listed:Array Bool}{pre post:List Nat}{i:Nat}(inv:Inv l listed (pre ++ i :: post))(hr:i ∈ Region.ready .any l.toArray listed):Inv l (listed.setIfInBounds i true) (pre ++ post):=by
 obtain⟨hun,oi,hoi,hall⟩:=mem_ready.1 hr;have hi:i<l.length:=((inv.mem i).1 (by simp)).1;have hs:=inv.sorted;rw[List.pairwise_append] at hs;obtain⟨hs1,hs2,hs3⟩:=hs;rw[List.pairwise_cons] at hs2;refine⟨?_,λj=>?_,by simp[inv.size],λj oj hj hl e he hb=>?_⟩;{rw[List.pairwise_append];exact⟨hs1,hs2.2,λx hx y hy=>hs3 x hx y (by simp[hy])⟩};{have hm:=inv.mem j;by_cases hji:j=i;{subst hji;constructor;{intro h;rcases List.mem_append.1 h with h | h;{have:=hs3 j h j (by simp);omega};{have:=hs2.1 j h;omega}};{rintro⟨_,h⟩;simp[inv.size,hi] at h}};{rw[getD_set_ne true (Ne.symm hji)];rw[<-hm];simp[hji]}};{by_cases hij:i=j;{subst hij;have:oj=oi:=by{have h2:l.toArray[i]?=l[i]?:=by{simp};rw[h2,hj] at hoi;exact Option.some.inj hoi};subst this;exact getD_set_true (hall e he hb)};{rw[getD_set_ne false hij] at hl;exact getD_set_true (inv.closed j oj hj hl e he hb)}}
theorem z7Z(l:List Oper)(a b:List Nat)(i:Nat):(a ++ i :: b).map (λk=>l.getD k default)=a.map (λk=>l.getD k default) ++ l.getD i default :: b.map (λk=>l.getD k default):=by simp
section
variable {P:Program}
def zcG(w:World)(next:Value→Prop):Result Next→Prop
 | .ok (.value v) w'=>w'=w∧next v
 | _=>False
def calm(P:Program)(o:Oper)(a:Act)(w:World)(next:Value→Prop):Prop:=zcG w next ((execOp a.eval o).run P w)
attribute [go_sem] calm zcG
theorem zaE{o:Oper}{a:Act}{w:World}{next:Value->Prop}(h:calm P o a w next):∃ v,(execOp a.eval o).run P w = .ok (.value v) w/\next v:=by
 unfold calm at h;generalize (execOp a.eval o).run P w=r at *;cases r with | ok n w'=>{cases n <;> simp only[zcG] at h;obtain⟨rfl,h⟩:=h;exact⟨_,rfl,h⟩} | halt x w'=>{simp only[zcG] at h}
def zwZ(fl:List Tmp)(o:Oper):Nat:=match o.op with | .load ..=>z8J fl o | _=>9
end
namespace Twin
def z3C(fl sl:List Tmp)(o:Oper):Nat:=
 match o.op with
 | .load .. | .lookup ..=>match o.dst with | some d=>if sl.contains d then 0 else 1 | none=>1
 | _=>z8J fl o
def Sk(m:Bool)(o:Oper)(S:World→Prop)(w:World):Prop:=match m with
 | true=>S w
 | false=>o.dst≠none→S w
section
variable {P:Program} {ops:Array Oper} {fl sl:List Tmp} {S:World→Prop} {m:Bool}
def Still(P:Program)(S:World→Prop)(k:Nat)(o:Oper)(a:Act)(w:World)(v:Value):Prop:=
 ∀ w',S w'→(k=1→Pre w w')→(execOp a.eval o).run P w' = .ok (.value v) w'
def wpO(P:Program)(S:World→Prop)(m:Bool)(ops:Array Oper)(fl sl:List Tmp)(o:Oper)(K:Act→World→Prop)(a:Act)(w:World):Prop:=
 if Region.wanted o (yielded ops a.tmps)=true then
  S w∧if z3C fl sl o≤1 then ∃ v,Still P S (z3C fl sl o) o a w v∧K (a.put o.dst v) w
  else o.wp P a w (fun a' w'=>((z3C fl sl o=3→Pre w w')∧Sk m o S w')∧K a' w') noQ
 else K (a.put o.dst undef) w
def wpC(P:Program)(S:World→Prop)(m:Bool)(ops:Array Oper)(fl sl:List Tmp)(Q:Exit→Act→World→Prop):List Oper→Act→World→Prop
 | [],a,w=>Q .normal a w
 | o :: rest,a,w=>wpO P S m ops fl sl o (wpC P S m ops fl sl Q rest) a w
theorem zxH{o:Oper}{K K':Act->World->Prop}{a:Act}{w:World}(h:∀ a w,K a w->K' a w)(hh:wpO P S m ops fl sl o K a w):wpO P S m ops fl sl o K' a w:=by
 unfold wpO at *;split;{rename_i h1;rw[if_pos h1] at hh;refine⟨hh.1,?_⟩;have hh:=hh.2;split;{rename_i h2;rw[if_pos h2] at hh;obtain⟨v,h3,h4⟩:=hh;exact⟨v,h3,h _ _ h4⟩};{rename_i h2;rw[if_neg h2] at hh;exact Oper.wp_mono (λa w hk=>⟨hk.1,h _ _ hk.2⟩) hh}};{rename_i h1;rw[if_neg h1] at hh;exact h _ _ hh}
def z5D(ko ki:Nat):Bool:=
 match ko,ki with
 | 0,_=>true
 | 1,0 | 1,1 | 1,3=>true
 | 2,0 | 3,0=>true
 | _,_=>false
def movable(m:Bool)(fl sl:List Tmp)(i:Oper):Bool:=m || (decide (z3C fl sl i≤1) || i.dst.isSome)
theorem z6W{k:Nat}{o:Oper}{a a':Act}{w w':World}{v:Value}(h:Still P S k o a w v)(he:execOp a'.eval o=execOp a.eval o)(hw:k=1->Pre w w'):Still P S k o a' w' v:=
 λw'' hs hp=>by rw[he];exact h w'' hs λhk=>(hw hk).trans (hp hk)
theorem zuP{k:Nat}{o:Oper}{a a':Act}{w w':World}{v v':Value}(hk:k=0)(hs:S w)(h:Still P S k o a w v)(h':Still P S k o a' w' v')(he:execOp a'.eval o=execOp a.eval o):v'=v:=by
 have h1:=h w hs (by omega);have h2:=h' w hs (by omega);rw[he,h1] at h2;simpa using h2.symm
theorem z6T(fl sl:List Tmp)(o:Oper):z3C fl sl o<=3:=by
 unfold z3C
 repeat' split
 all_goals first | decide | exact Go.Proofs.YtkhddpiopbmhjaaGreat.z6T fl o
theorem zxI:∀ n,n<=3->¬ n<=1->z5D 1 n=true->n=3
 | 0,_,h,_=>absurd (by decide) h
 | 1,_,h,_=>absurd (by decide) h
 | 2,_,_,h=>by simp[z5D] at h
 | 3,_,_,_=>rfl
 | n+4,h,_,_=>by omega
theorem zxT:∀ m n,m<=3->¬ m<=1->z5D m n=true->n=0
 | 0,_,_,h,_=>absurd (by decide) h
 | 1,_,_,h,_=>absurd (by decide) h
 | 2,0,_,_,_=>rfl
 | 3,0,_,_,_=>rfl
 | 2,n+1,_,_,h=>by simp[z5D] at h
 | 3,n+1,_,_,h=>by simp[z5D] at h
 | m+4,_,h,_,_=>by omega
theorem swap{o i:Oper}{K:Act->World->Prop}{a:Act}{w:World}(hap:o.apart ops i=true)(hso:∀ cs b,o.op≠.select cs b)(hsi:∀ cs b,i.op≠.select cs b)(hk:z5D (z3C fl sl o) (z3C fl sl i)=true)(hmv:movable m fl sl i=true)(h:wpO P S m ops fl sl o (wpO P S m ops fl sl i K) a w):wpO P S m ops fl sl i (wpO P S m ops fl sl o K) a w:=by
 obtain⟨h1,h2,h3⟩:=Oper.apart_spec hap;have h2':∀ d,i.dst=some d->o.dst≠some d:=λd hd hod=>h2 d hod hd;have wi:∀ (b:Act) v,Region.wanted i (yielded ops (b.put o.dst v).tmps)=Region.wanted i (yielded ops b.tmps):=λb v=>wanted_put i b o.dst v h1;have wo:∀ (b:Act) v,Region.wanted o (yielded ops (b.put i.dst v).tmps)=Region.wanted o (yielded ops b.tmps):=λb v=>wanted_put o b i.dst v h3;have ei:∀ (b:Act) v,execOp (b.put o.dst v).eval i=execOp b.eval i:=λb v=>execOp_put i hsi b o.dst v h1;have eo:∀ (b:Act) v,execOp (b.put i.dst v).eval o=execOp b.eval o:=λb v=>execOp_put o hso b i.dst v h3;have hmi:¬ z3C fl sl i<=1->∀ w,Sk m i S w->S w:=λhn w hs=>by{cases m with | true=>{exact hs} | false=>{refine hs λhe=>?_;unfold movable at hmv;rw[he] at hmv;simp[hn] at hmv}};have hko:=z6T fl sl o;have hki:=z6T fl sl i;have pc:∀ (b:Act) u v,(b.put i.dst u).put o.dst v=(b.put o.dst v).put i.dst u:=λb u v=>Act.put_comm b u v h2';unfold wpO at h |-;by_cases hwo:Region.wanted o (yielded ops a.tmps)=true;{rw[if_pos hwo] at h;obtain⟨hS,h⟩:=h;by_cases hwi:Region.wanted i (yielded ops a.tmps)=true;{rw[if_pos hwi];refine⟨hS,?_⟩;by_cases hos:z3C fl sl o<=1;{rw[if_pos hos] at h;obtain⟨v,hv,h⟩:=h;rw[if_pos (by rw[wi];exact hwi)] at h;have h:=h.2;by_cases his:z3C fl sl i<=1;{rw[if_pos his] at h |-;obtain⟨u,hu,h⟩:=h;refine⟨u,z6W hu (ei a v).symm λ_=>Pre.refl _,?_⟩;rw[if_pos (by rw[wo];exact hwo),if_pos hos];exact⟨hS,v,z6W hv (eo a u) λ_=>Pre.refl _,by rw[pc];exact h⟩};{rw[if_neg his] at h |-;rw[znI (ops:=ops) hsi h1 h2] at h;have h':=zgT (λa'=>execOp a'.eval o=execOp a.eval o/\Region.wanted o (yielded ops a'.tmps)=true) (λu=>⟨eo a u,by rw[wo];exact hwo⟩) (λd u=>⟨eo _ u,by rw[wo];exact hwo⟩) h;refine Oper.wp_mono (λa' w' hh=>?_) h';obtain⟨⟨hp,hK⟩,he,hw'⟩:=hh;refine⟨hp,?_⟩;rw[if_pos hw',if_pos hos];refine⟨hmi his _ hp.2,v,z6W hv he λhk1=>?_,hK⟩;refine hp.1 ?_;rw[hk1] at hk;exact zxI _ hki his hk}};{rw[if_neg hos] at h;have hi0:z3C fl sl i=0:=zxT _ _ hko hos hk;rw[if_pos (by omega:z3C fl sl i<=1)];have h':=zgT (λa'=>execOp a'.eval i=execOp a.eval i/\Region.wanted i (yielded ops a'.tmps)=true) (λu=>⟨ei a u,by rw[wi];exact hwi⟩) (λd u=>⟨ei _ u,by rw[wi];exact hwi⟩) h;obtain⟨a',w',⟨hp,hh⟩,he,hw'⟩:=wp_ex h';rw[if_pos hw',if_pos (by omega:z3C fl sl i<=1)] at hh;obtain⟨_,u,hu,_⟩:=hh;have hu':Still P S (z3C fl sl i) i a w u:=λw2 hs2 _=>by{rw[<-he];exact hu w2 hs2 (by omega)};refine⟨u,hu',?_⟩;rw[if_pos (by rw[wo];exact hwo),if_neg hos,znI (ops:=ops) hso h3 h2'];refine⟨hS,Oper.wp_mono (λa2 w2 hh2=>?_) h'⟩;obtain⟨⟨hp2,hh3⟩,he2,hw2⟩:=hh2;rw[if_pos hw2,if_pos (by omega:z3C fl sl i<=1)] at hh3;obtain⟨_,u2,hu2,hK⟩:=hh3;have:u2=u:=zuP hi0 hS hu' hu2 he2;subst this;exact⟨hp2,hK⟩}};{rw[if_neg hwi];rw[wo,if_pos hwo];refine⟨hS,?_⟩;by_cases hos:z3C fl sl o<=1;{rw[if_pos hos] at h |-;obtain⟨v,hv,h⟩:=h;rw[if_neg (by rw[wi];exact hwi)] at h;exact⟨v,z6W hv (eo a undef) λ_=>Pre.refl _,by rw[pc];exact h⟩};{rw[if_neg hos] at h |-;rw[znI (ops:=ops) hso h3 h2'];have h':=zgT (λa'=>¬ Region.wanted i (yielded ops a'.tmps)=true) (λu=>by rw[wi];exact hwi) (λd u=>by rw[wi];exact hwi) h;refine Oper.wp_mono (λa2 w2 hh2=>?_) h';obtain⟨⟨hp2,hh3⟩,hw2⟩:=hh2;rw[if_neg hw2] at hh3;exact⟨hp2,hh3⟩}}};{rw[if_neg hwo] at h;rw[wi] at h;by_cases hwi:Region.wanted i (yielded ops a.tmps)=true;{rw[if_pos hwi] at h |-;obtain⟨hS,h⟩:=h;refine⟨hS,?_⟩;by_cases his:z3C fl sl i<=1;{rw[if_pos his] at h |-;obtain⟨u,hu,h⟩:=h;refine⟨u,z6W hu (ei a undef).symm λ_=>Pre.refl _,?_⟩;rw[if_neg (by rw[wo];exact hwo),pc];exact h};{rw[if_neg his] at h |-;rw[znI (ops:=ops) hsi h1 h2] at h;have h':=zgT (λa'=>¬ Region.wanted o (yielded ops a'.tmps)=true) (λu=>by rw[wo];exact hwo) (λd u=>by rw[wo];exact hwo) h;refine Oper.wp_mono (λa2 w2 hh2=>?_) h';obtain⟨⟨hp2,hh3⟩,hw2⟩:=hh2;rw[if_neg hw2];exact⟨hp2,hh3⟩}};{rw[if_neg hwi] at h |-;rw[if_neg (by rw[wo];exact hwo),pc];exact h}}
theorem zfY{Q:Exit->Act->World->Prop}{i:Oper}(hsi:∀ cs b,i.op≠.select cs b):∀ (pre post:List Oper) (a:Act) (w:World),
  (∀ o ∈ pre,o.apart ops i=true/\(∀ cs b,o.op≠.select cs b)/\z5D (z3C fl sl o) (z3C fl sl i)=true/\movable m fl sl i=true)->
  wpC P S m ops fl sl Q (pre ++ i :: post) a w->wpC P S m ops fl sl Q (i :: (pre ++ post)) a w
 | [],_,_,_,_,h=>h
 | o :: pre,post,a,w,hc,h=>by{obtain⟨h1,h2,h3,h4⟩:=hc o (by simp);exact swap h1 h2 hsi h3 h4 (zxH (λa w hh=>zfY hsi pre post a w (λo' ho'=>hc o' (by simp[ho'])) hh) h)}
theorem z7B{Q:Exit->Act->World->Prop}{i:Nat}{o:Oper}(hi:ops[i]?=some o){K:Act->World->Prop}{a:Act}{w:World}(h:wpO P S m ops fl sl o K a w):wpOp P ops Q i K a w:=by
 unfold wpOp;simp only[hi];unfold wpO at h;split;{rename_i hw;rw[if_pos hw] at h;obtain⟨hS,h⟩:=h;refine .inl ?_;by_cases hk:z3C fl sl o<=1;{rw[if_pos hk] at h;obtain⟨v,hv,hK⟩:=h;unfold Oper.wp;rw[hv w hS λ_=>Pre.refl _];exact hK};{rw[if_neg hk] at h;unfold Oper.wp at *;generalize (execOp a.eval o).run P w=r at *;cases r with | ok n w'=>{cases n <;> simp only[Oper.upon] at h |-;(case value v=>exact h.2);(case skip=>exact h.2);(case defer d=>exact h.2);(case enter f args=>(refine Calls.mono h λe w'' he=>?_;cases e with | returned u=>{exact he.2} | panicked c=>{exact he.elim} | outgrown=>{exact(zmM he).elim}));case row row args=>exact Rows.mono h λu w'' he=>he.2} | halt x w'=>{cases x <;> simp only[Oper.upon] at h |-;case panic=>exact h.elim}}};{rename_i hw;rw[if_neg hw] at h;exact h}
theorem y0A{o:Oper}{K1 K2:Act->World->Prop}{a:Act}{w:World}(hk:z3C fl sl o<=1)(h1:wpO P S m ops fl sl o K1 a w)(h2:wpO P S m ops fl sl o K2 a w):wpO P S m ops fl sl o (λa w=>K1 a w/\K2 a w) a w:=by
 unfold wpO at *;split;{rename_i h;rw[if_pos h,if_pos hk] at h1 h2;obtain⟨hS,v,hv,k1⟩:=h1;obtain⟨_,u,hu,k2⟩:=h2;have e1:=hv w hS λ_=>Pre.refl _;have e2:=hu w hS λ_=>Pre.refl _;rw[e1] at e2;have e:v=u:=by{simpa using e2};subst e;exact⟨hS,v,hv,k1,k2⟩};{rename_i h;rw[if_neg h] at h1 h2;exact⟨h1,h2⟩}
def zgX(m:Bool)(n0:Nat)(fl sl:List Tmp)(c al:Nat)(l:List Oper)(tbl:List Nat):Bool:=
 (List.range l.length).all fun i=>decide (i<n0) || match l[i]? with
  | none=>true
  | some oi=>(oi.after.all fun e=>!Region.binds .any e || decide (e.on<i)) && (List.range i).all fun j=>decide (j<n0) || match l[j]? with
    | none=>true
    | some oj=>ahead tbl j i || (oj.apart l.toArray oi && (z5D (z3C fl sl oj) (z3C fl sl oi) && movable m fl sl oi)) || (decide (j=c) && decide (i=al))
def zyT(fl sl:List Tmp)(c al:Nat)(l:List Oper)(tbl:List Nat):Bool:=
 (List.range l.length).all fun i=>decide (i=c) || decide (i=al) || (decide (al<i) && ahead tbl al i) || (decide (c<i) && ahead tbl c i) || match l[i]?,l[al]? with
  | some oi,some oa=>decide (z3C fl sl oi=0) && oa.apart l.toArray oi
  | _,_=>false
def y1H(fl sl:List Tmp)(c al:Nat)(l:List Oper):Bool:=
 Region.noSelect l.toArray && zoI l (z2O l []) && zgX true 0 fl sl c al l (z2O l []) && zyT fl sl c al l (z2O l [])
theorem zrT{al:Nat}{l:List Nat}(h:∀ j ∈ l,j≠al):(l.filter λk=>k != al)=l:=by
 rw[List.filter_eq_self];intro j hj;simpa using h j hj
theorem z9T{Q:Exit->Act->World->Prop}{l:List Oper}(n0 c al:Nat)(hs:Region.noSelect l.toArray=true)(ht:zoI l (z2O l [])=true)(hp:zgX m n0 fl sl c al l (z2O l [])=true)(hfr:al<l.length->zyT fl sl c al l (z2O l [])=true):∀ (n:Nat) (r:List Nat) (listed:Array Bool) (a:Act) (w:World),r.length=n->(∀ i ∈ r,n0<=i)->Inv l listed r->
   wpC P S m l.toArray fl sl Q (r.map λk=>l.getD k default) a w->(al ∈ r->c ∈ r->wpC P S m l.toArray fl sl Q ((al :: r.filter λk=>k != al).map λk=>l.getD k default) a w)->wpAny P .any l.toArray Q n listed a w:=by
 have hsel:∀ (k:Nat) (o:Oper),l[k]?=some o->∀ cs b,o.op≠.select cs b:=λk o hk cs b=>Region.noSelect_spec hs k o cs b (by simpa using hk);intro n;induction n with
 | zero=>
   intro r listed a w hn _ inv h _;have:r = []:=List.eq_nil_of_length_eq_zero hn;subst this;refine⟨?_,h⟩;apply List.eq_nil_iff_forall_not_mem.2;intro i hi;obtain⟨hun,oi,hoi,_⟩:=mem_ready.1 hi;have hlt:i<l.length:=by{simpa using (Array.getElem?_eq_some_iff.1 hoi).1};simpa using (inv.mem i).2 ⟨hlt,hun⟩
 | succ n ih=>
   intro r listed a w hn hlow inv h h2nd;refine⟨λhnil=>?_,λi hi=>?_⟩
   ·exfalso
    match r,hn with
    | i :: r',_=>
      obtain⟨hlt,hun⟩:=(inv.mem i).1 (by simp);have hoi:l[i]?=some l[i]:=List.getElem?_eq_getElem hlt;have hmem:i ∈ Region.ready .any l.toArray listed:=by{refine mem_ready.2 ⟨hun,l[i],by simp[hlt],λe he hb=>?_⟩;have h1:=List.all_eq_true.1 hp i (List.mem_range.2 hlt);rw[decide_eq_false (show ¬ i<n0 from by have:=hlow i (by simp);omega),Bool.false_or] at h1;simp only[hoi,Bool.and_eq_true] at h1;have h2:=Array.all_eq_true_iff_forall_mem.1 h1.1 e he;simp only[hb,Bool.not_true,Bool.false_or,decide_eq_true_eq] at h2;cases hl:listed.getD e.on false with | true=>{rfl} | false=>{exfalso;have hl':listed.getD e.on true=false:=by{have hsz:e.on<listed.size:=by{rw[inv.size];omega};simp[hsz] at hl |-;exact hl};have hin:=(inv.mem e.on).2 ⟨by omega,hl'⟩;have hso:=inv.sorted;rw[List.pairwise_cons] at hso;rcases List.mem_cons.1 hin with h3 | h3;{omega};{have:=hso.1 _ h3;omega}}};rw[hnil] at hmem;cases hmem
   {obtain⟨hun,oi,hoi,hall⟩:=mem_ready.1 hi;have hlt:i<l.length:=by{simpa using (Array.getElem?_eq_some_iff.1 hoi).1};have hoi':l[i]?=some oi:=by{simpa using hoi};have hin:=(inv.mem i).2 ⟨hlt,hun⟩;obtain⟨pre,post,rfl⟩:=List.append_of_mem hin;have hgi:l.getD i default=oi:=by{simp[hoi']};have hso:=inv.sorted;rw[List.pairwise_append] at hso;have hlen:(pre ++ post).length=n:=by{simp at hn |-;omega};have hlw:∀ i ∈ pre ++ post,n0<=i:=λk hk=>hlow k (by rcases List.mem_append.1 hk with x | x <;> simp[x]);have nahead:∀ j,j<i->j ∈ pre ++ i :: post->ahead (z2O l []) j i≠true:=λj hji hj ha=>by{obtain⟨hjl,hjun⟩:=(inv.mem j).1 hj;have h3:=zhG ht inv (i+1) i j oi (by omega) hji hoi' hall ha;have hsz:j<listed.size:=by{rw[inv.size];exact hjl};simp[hsz] at h3 hjun;rw[h3] at hjun;cases hjun};have both:al ∈ pre ++ i :: post->c ∈ pre ++ i :: post->i≠al->i≠c->z3C fl sl oi=0/\(l.getD al default).apart l.toArray oi=true:=λha hc n1 n2=>by{have hal:=((inv.mem al).1 ha).1;have h1:=List.all_eq_true.1 (hfr hal) i (List.mem_range.2 hlt);have hoa:l[al]?=some l[al]:=List.getElem?_eq_getElem hal;simp only[hoi',hoa,Bool.or_eq_true,Bool.and_eq_true,decide_eq_true_eq] at h1;rcases h1 with (((h1 | h1) | h1) | h1) | h1;{exact absurd h1 n2};{exact absurd h1 n1};{exact absurd h1.2 (nahead al h1.1 ha)};{exact absurd h1.2 (nahead c h1.1 hc)};{refine⟨h1.1,?_⟩;have e:l.getD al default=l[al]:=by{simp[hal]};rw[e];exact h1.2}};have first:(i=al->c ∉ pre ++ i :: post)->wpO P S m l.toArray fl sl oi (wpC P S m l.toArray fl sl Q ((pre ++ post).map λk=>l.getD k default)) a w:=λhex=>by{rw[z7Z,hgi] at h;have hmv:=zfY (hsel i oi hoi') (pre.map λk=>l.getD k default) (post.map λk=>l.getD k default) a w ?_ h;{rw[<-List.map_append] at hmv;exact hmv};{intro o ho;obtain⟨j,hj,rfl⟩:=List.mem_map.1 ho;have hji:j<i:=hso.2.2 j hj i (by simp);have hjm:j ∈ pre ++ i :: post:=by{simp[hj]};obtain⟨hjl,hjun⟩:=(inv.mem j).1 hjm;have hoj:l[j]?=some l[j]:=List.getElem?_eq_getElem hjl;have hgj:l.getD j default=l[j]:=by{simp[hjl]};rw[hgj];have h1:=List.all_eq_true.1 hp i (List.mem_range.2 hlt);rw[decide_eq_false (show ¬ i<n0 from by have:=hlow i (by simp);omega),Bool.false_or] at h1;simp only[hoi',Bool.and_eq_true] at h1;have h2:=List.all_eq_true.1 h1.2 j (List.mem_range.2 hji);rw[decide_eq_false (show ¬ j<n0 from by have:=hlow j hjm;omega),Bool.false_or] at h2;simp only[hoj,Bool.or_eq_true,Bool.and_eq_true,decide_eq_true_eq] at h2;rcases h2 with (h2 | h2) | h2;{exact absurd h2 (nahead j hji hjm)};{exact⟨h2.1,hsel j _ hoj,h2.2⟩};{rw[h2.1] at hjm;exact absurd hjm (hex h2.2)}}};by_cases hia:i=al;{subst hia;have hnp:∀ j ∈ pre ++ post,j≠i:=λj hj e=>by{subst e;rcases List.mem_append.1 hj with hj | hj;{have:=hso.2.2 j hj j (by simp);omega};{have h3:=(List.pairwise_cons.1 hso.2.1).1 j hj;omega}};have hno:i ∉ pre ++ post:=λhm=>hnp i hm rfl;by_cases hc:c ∈ pre ++ i :: post;{have h2:=h2nd (by simp) hc;have hf:((pre ++ i :: post).filter λk=>k != i)=pre ++ post:=by{rw[List.filter_append,List.filter_cons];simp only[bne_self_eq_false,Bool.false_eq_true,if_false];rw[<-List.filter_append];exact zrT hnp};rw[hf,List.map_cons,hgi] at h2;exact wpOp_mono (λa' w' h'=>ih (pre ++ post) _ a' w' hlen hlw (inv.set hi) h' λhm _=>absurd hm hno) (z7B hoi h2)};{exact wpOp_mono (λa' w' h'=>ih (pre ++ post) _ a' w' hlen hlw (inv.set hi) h' λhm _=>absurd hm hno) (z7B hoi (first λ_=>hc))}};{(have f1:=first λe=>absurd e hia);by_cases hb:al ∈ pre ++ post/\c ∈ pre ++ post;{obtain⟨ha,hc⟩:=hb;have ha':al ∈ pre ++ i :: post:=by{rcases List.mem_append.1 ha with x | x <;> simp[x]};have hc':c ∈ pre ++ i :: post:=by{rcases List.mem_append.1 hc with x | x <;> simp[x]};have hic:i≠c:=λe=>by{subst e;rcases List.mem_append.1 hc with hj | hj;{have:=hso.2.2 i hj i (by simp);omega};{have h3:=(List.pairwise_cons.1 hso.2.1).1 i hj;omega}};obtain⟨k0,hap⟩:=both ha' hc' hia hic;have h2:=h2nd ha' hc';have hf:((pre ++ i :: post).filter λk=>k != al)=(pre.filter λk=>k != al) ++ i :: (post.filter λk=>k != al):=by{rw[List.filter_append,List.filter_cons,if_pos (by simpa using hia)]};have hf2:((pre ++ post).filter λk=>k != al)=(pre.filter λk=>k != al) ++ (post.filter λk=>k != al):=List.filter_append _ _;rw[hf,<-List.cons_append,z7Z,hgi] at h2;have hmv:=zfY (hsel i oi hoi') ((al :: pre.filter λk=>k != al).map λk=>l.getD k default) ((post.filter λk=>k != al).map λk=>l.getD k default) a w ?_ h2;{rw[<-List.map_append,List.cons_append,<-hf2] at hmv;exact wpOp_mono (λa' w' h'=>ih (pre ++ post) _ a' w' hlen hlw (inv.set hi) h'.1 λ_ _=>h'.2) (z7B hoi (y0A (by omega) f1 hmv))};{intro o ho;obtain⟨j,hj,rfl⟩:=List.mem_map.1 ho;have hco:∀ m,m<=3->z5D m 0=true:=λm hm=>by{rcases m with _ | _ | _ | _ | m;all_goals first | rfl | omega};rcases List.mem_cons.1 hj with e | hj;{subst e;have hal:=((inv.mem j).1 ha').1;refine⟨hap,hsel j _ (by rw[List.getD_eq_getElem?_getD,List.getElem?_eq_getElem hal];rfl),?_,by unfold movable;simp[k0]⟩;rw[k0];exact hco _ (z6T _ _ _)};{have hj:=(List.mem_filter.1 hj).1;have hji:j<i:=hso.2.2 j hj i (by simp);have hjm:j ∈ pre ++ i :: post:=by{simp[hj]};obtain⟨hjl,hjun⟩:=(inv.mem j).1 hjm;have hoj:l[j]?=some l[j]:=List.getElem?_eq_getElem hjl;have hgj:l.getD j default=l[j]:=by{simp[hjl]};rw[hgj];have h1:=List.all_eq_true.1 hp i (List.mem_range.2 hlt);rw[decide_eq_false (show ¬ i<n0 from by have:=hlow i (by simp);omega),Bool.false_or] at h1;simp only[hoi',Bool.and_eq_true] at h1;have h2:=List.all_eq_true.1 h1.2 j (List.mem_range.2 hji);rw[decide_eq_false (show ¬ j<n0 from by have:=hlow j hjm;omega),Bool.false_or] at h2;simp only[hoj,Bool.or_eq_true,Bool.and_eq_true,decide_eq_true_eq] at h2;rcases h2 with (h2 | h2) | h2;{exact absurd h2 (nahead j hji hjm)};{exact⟨h2.1,hsel j _ hoj,h2.2⟩};{exact absurd h2.2 hia}}}};{exact wpOp_mono (λa' w' h'=>ih (pre ++ post) _ a' w' hlen hlw (inv.set hi) h' λh3 h4=>absurd ⟨h3,h4⟩ hb) (z7B hoi f1)}}}
theorem z3T{id:Nat}{Q:Exit->Act->World->Prop}{a:Act}{w:World}{l:List Oper}{x:Oper}(S:World->Prop)(fl sl:List Tmp)(c al:Nat)(hm:P.follows .mixedOrders=true)(hB:y1H fl sl c al l=true)(hx:l[al]?=some x)(hE:((List.range l.length).filter λk=>k != al).map (λk=>l.getD k default)=l.take al ++ l.drop (al+1))(h:wpC P S true l.toArray fl sl Q l a w.drew)(h2:wpC P S true l.toArray fl sl Q (x :: (l.take al ++ l.drop (al+1))) a w.drew):(Code.region id l.toArray true).wp P Q a w:=by
 simp only[y1H,Bool.and_eq_true] at hB;obtain⟨⟨⟨b1,b2⟩,b3⟩,b4⟩:=hB;refine wp_region_any hm ?_;have inv:Inv l (Array.replicate l.length false) (List.range l.length):=by{refine⟨List.pairwise_lt_range,λi=>?_,by simp,λj oj hj hl=>?_⟩;{simp only[List.mem_range];constructor;{intro hi;exact⟨hi,by simp[hi]⟩};{exact λhi=>hi.1}};{exfalso;have:j<l.length:=(List.getElem?_eq_some_iff.1 hj).1;simp[this] at hl}};have hmap:(List.range l.length).map (λk=>l.getD k default)=l:=by{apply List.ext_getElem?;intro i;by_cases hi:i<l.length;{simp[hi]};{simp[hi]}};have hgx:l.getD al default=x:=by{simp[hx]};have:=z9T (P:=P) (Q:=Q) 0 c al b1 b2 b3 (λ_=>b4) l.length (List.range l.length) (Array.replicate l.length false) a w.drew (by simp) (λ_ _=>Nat.zero_le _) inv (by rw[hmap];exact h) (λ_ _=>by rw[List.map_cons,hgx,hE];exact h2);simpa using this
def zyC(m:Bool)(fl sl:List Tmp)(l:List Oper):Bool:=
 Region.noSelect l.toArray && zoI l (z2O l []) && zgX m 0 fl sl 0 l.length l (z2O l [])
theorem z9E{id:Nat}{Q:Exit->Act->World->Prop}{a:Act}{w:World}{l:List Oper}(S:World->Prop)(fl sl:List Tmp)(hm:P.follows .mixedOrders=true)(hB:zyC m fl sl l=true)(h:wpC P S m l.toArray fl sl Q l a w.drew):(Code.region id l.toArray true).wp P Q a w:=by
 simp only[zyC,Bool.and_eq_true] at hB;obtain⟨⟨b1,b2⟩,b3⟩:=hB;refine wp_region_any hm ?_;have inv:Inv l (Array.replicate l.length false) (List.range l.length):=by{refine⟨List.pairwise_lt_range,λi=>?_,by simp,λj oj hj hl=>?_⟩;{simp only[List.mem_range];constructor;{intro hi;exact⟨hi,by simp[hi]⟩};{exact λhi=>hi.1}};{exfalso;have:j<l.length:=(List.getElem?_eq_some_iff.1 hj).1;simp[this] at hl}};have hmap:(List.range l.length).map (λk=>l.getD k default)=l:=by{apply List.ext_getElem?;intro i;by_cases hi:i<l.length;{simp[hi]};{simp[hi]}};have:=z9T (P:=P) (Q:=Q) 0 0 l.length b1 b2 b3 (λh=>absurd h (Nat.lt_irrefl _)) l.length (List.range l.length) (Array.replicate l.length false) a w.drew (by simp) (λ_ _=>Nat.zero_le _) inv (by rw[hmap];exact h) (λh=>absurd h (by simp));simpa using this
theorem z0P{Q:Exit->Act->World->Prop}{a:Act}{w:World}(h:Q .normal a w):wpC P S m ops fl sl Q [] a w:=h
theorem z0C{Q:Exit->Act->World->Prop}{a:Act}{w:World}{o:Oper}{rest:List Oper}{v:Value}{a':Act}(hk:z3C fl sl o=0)(hS:S w)(h:∀ (K:Value->Act->Prop) (w':World),S w'->K v a'->if Region.wanted o (yielded ops a.tmps)=true then calm P o a w' (λu=>K u (a.put o.dst u)) else K undef (a.put o.dst undef))(h2:wpC P S m ops fl sl Q rest a' w):wpC P S m ops fl sl Q (o :: rest) a w:=by
 show wpO _ _ _ _ _ _ _ _ _ _;unfold wpO;have hh:=λw' hs=>h (λu b=>u=v/\b=a') w' hs ⟨rfl,rfl⟩;split;{rename_i hw;simp only[hw,if_true] at hh;refine⟨hS,?_⟩;rw[if_pos (by omega)];refine⟨v,λw' hs _=>?_,?_⟩;{obtain⟨u,hu,h3,_⟩:=zaE (hh w' hs);rw[<-h3];exact hu};{obtain⟨u,_,h3,h4⟩:=zaE (hh w hS);rw[<-h3,h4];exact h2}};{rename_i hw;simp only[hw] at hh;have:=(hh w hS).2;rw[this];exact h2}
theorem z0L{Q:Exit->Act->World->Prop}{a:Act}{w:World}{o:Oper}{rest:List Oper}{v:Value}{a':Act}(hk:z3C fl sl o=1)(hk0:zwZ fl o=1)(hS:S w)(h:∀ (K:Value->Act->Prop),K v a'->if Region.wanted o (yielded ops a.tmps)=true then calm P o a w (λu=>K u (a.put o.dst u)) else K undef (a.put o.dst undef))(h2:wpC P S m ops fl sl Q rest a' w):wpC P S m ops fl sl Q (o :: rest) a w:=by
 show wpO _ _ _ _ _ _ _ _ _ _;unfold wpO;have hh:=h (λu b=>u=v/\b=a') ⟨rfl,rfl⟩;split;{rename_i hw;simp only[hw,if_true] at hh;refine⟨hS,?_⟩;rw[if_pos (by omega)];obtain⟨u,hu,h3,h4⟩:=zaE hh;refine⟨v,λw' _ hp=>?_,by rw[<-h3,h4];exact h2⟩;rw[<-h3];have hread:SemReads P (execOp a.eval o):=by{(obtain⟨dst,op,type,pos,after,guard⟩:=o;unfold zwZ at hk0;unfold execOp;cases op <;> simp only at hk0 <;> try (exfalso;revert hk0;decide));case load t x=>exact SemReads.bind (ziG t _) λ_=>zpD _};exact(hread.later _ _ _ hu).2 w' (hp hk)};{rename_i hw;simp only[hw] at hh;have:=hh.2;rw[this];exact h2}
theorem zxZ{Q:Exit->Act->World->Prop}{a:Act}{w:World}{o:Oper}{rest:List Oper}(hk:¬ z3C fl sl o<=1)(hw:Region.wanted o (yielded ops a.tmps)=true)(hS:S w)(h:∀ K:Act->World->Prop,(∀ a' w',(z3C fl sl o=3->Pre w w')->Sk m o S w'->wpC P S m ops fl sl Q rest a' w'->K a' w')->o.wp P a w K noQ):wpC P S m ops fl sl Q (o :: rest) a w:=by
 show wpO _ _ _ _ _ _ _ _ _ _;unfold wpO;rw[if_pos hw,if_neg hk];exact⟨hS,Oper.wp_mono (λa' w' hh=>hh) (h (λa' w'=>((z3C fl sl o=3->Pre w w')/\Sk m o S w')/\wpC P S m ops fl sl Q rest a' w') λ_ _ h1 h2 hh=>⟨⟨h1,h2⟩,hh⟩)⟩
theorem z0G{Q:Exit->Act->World->Prop}{a:Act}{w:World}{o:Oper}{rest:List Oper}(hk:¬ z3C fl sl o<=1)(hg:o.guard=none)(hS:S w)(h:∀ K:Act->World->Prop,(∀ a' w',(z3C fl sl o=3->Pre w w')->Sk m o S w'->wpC P S m ops fl sl Q rest a' w'->K a' w')->o.wp P a w K noQ):wpC P S m ops fl sl Q (o :: rest) a w:=
 zxZ hk (by simp[Region.wanted,hg]) hS h
theorem z4V{Q:Exit->Act->World->Prop}{a:Act}{w:World}{o:Oper}{rest:List Oper}{v:Value}{a':Act}(hk:z3C fl sl o=1)(hS:S w)(h:∀ (K:Value->Act->Prop) (w':World),S w'->Pre w w'->K v a'->if Region.wanted o (yielded ops a.tmps)=true then calm P o a w' (λu=>K u (a.put o.dst u)) else K undef (a.put o.dst undef))(h2:wpC P S m ops fl sl Q rest a' w):wpC P S m ops fl sl Q (o :: rest) a w:=by
 show wpO _ _ _ _ _ _ _ _ _ _;unfold wpO;have hh:=λw' hs hp=>h (λu b=>u=v/\b=a') w' hs hp ⟨rfl,rfl⟩;split;{rename_i hw;simp only[hw,if_true] at hh;refine⟨hS,?_⟩;rw[if_pos (by omega)];obtain⟨u,hu,h3,h4⟩:=zaE (hh w hS (Pre.refl _));refine⟨v,λw' hs hp=>?_,by rw[<-h3,h4];exact h2⟩;obtain⟨u',hu',h3',_⟩:=zaE (hh w' hs (hp hk));rw[<-h3'];exact hu'};{rename_i hw;simp only[hw] at hh;have:=(hh w hS (Pre.refl _)).2;rw[this];exact h2}
end
end Twin
section
variable {P:Program} {ops:Array Oper} {fl:List Tmp}
abbrev wpC(P:Program)(ops:Array Oper)(fl:List Tmp)(Q:Exit→Act→World→Prop):List Oper→Act→World→Prop:=Twin.wpC P (fun _=>True) true ops fl [] Q
theorem z6S(fl:List Tmp)(o:Oper):Twin.z3C fl [] o=z8J fl o:=by
 obtain⟨dst,op,type,pos,after,guard⟩:=o;unfold Twin.z3C z8J;cases op <;> first | rfl | (cases dst <;> rfl)
theorem z0F{id:Nat}{Q:Exit->Act->World->Prop}{a:Act}{w:World}{l:List Oper}(fl:List Tmp)(hm:P.follows .mixedOrders=true)(hB:Twin.zyC true fl [] l=true)(h:wpC P l.toArray fl Q l a w.drew):(Code.region id l.toArray true).wp P Q a w:=Twin.z9E (λ_=>True) fl [] hm hB h
theorem z0P{Q:Exit->Act->World->Prop}{a:Act}{w:World}(h:Q .normal a w):wpC P ops fl Q [] a w:=h
theorem z0C{Q:Exit->Act->World->Prop}{a:Act}{w:World}{o:Oper}{rest:List Oper}{v:Value}{a':Act}(hk:z8J fl o=0)(h:∀ (K:Value->Act->Prop) (w':World),K v a'->if Region.wanted o (yielded ops a.tmps)=true then calm P o a w' (λu=>K u (a.put o.dst u)) else K undef (a.put o.dst undef))(h2:wpC P ops fl Q rest a' w):wpC P ops fl Q (o :: rest) a w:=Twin.z0C (by rw[z6S];exact hk) trivial (λK w' _=>h K w') h2
theorem z0L{Q:Exit->Act->World->Prop}{a:Act}{w:World}{o:Oper}{rest:List Oper}{v:Value}{a':Act}(hk':zwZ fl o=1)(h:∀ (K:Value->Act->Prop),K v a'->if Region.wanted o (yielded ops a.tmps)=true then calm P o a w (λu=>K u (a.put o.dst u)) else K undef (a.put o.dst undef))(h2:wpC P ops fl Q rest a' w):wpC P ops fl Q (o :: rest) a w:=Twin.z0L (by
  rw[z6S];unfold zwZ at hk';split at hk';{exact hk'}
  ·cases hk') hk' trivial h h2
theorem z4V{Q:Exit->Act->World->Prop}{a:Act}{w:World}{o:Oper}{rest:List Oper}{v:Value}{a':Act}(hk:z8J fl o=1)(h:∀ (K:Value->Act->Prop) (w':World),Pre w w'->K v a'->if Region.wanted o (yielded ops a.tmps)=true then calm P o a w' (λu=>K u (a.put o.dst u)) else K undef (a.put o.dst undef))(h2:wpC P ops fl Q rest a' w):wpC P ops fl Q (o :: rest) a w:=Twin.z4V (by rw[z6S];exact hk) trivial (λK w' _=>h K w') h2
theorem z0G{Q:Exit->Act->World->Prop}{a:Act}{w:World}{o:Oper}{rest:List Oper}(hk:z8J fl o=2)(hg:o.guard=none)(h:∀ K:Act->World->Prop,(∀ a' w',wpC P ops fl Q rest a' w'->K a' w')->o.wp P a w K noQ):wpC P ops fl Q (o :: rest) a w:=
 Twin.z0G (by rw[z6S];omega) hg trivial λK hK=>h K λa' w' hh=>hK a' w' (λe=>by rw[z6S] at e;omega) trivial hh
theorem z3S{Q:Exit->Act->World->Prop}{a:Act}{w:World}{o:Oper}{rest:List Oper}(hk:z8J fl o=3)(hg:o.guard=none)(h:∀ K:Act->World->Prop,(∀ a' w',Pre w w'->wpC P ops fl Q rest a' w'->K a' w')->o.wp P a w K noQ):wpC P ops fl Q (o :: rest) a w:=
 Twin.z0G (by rw[z6S];omega) hg trivial λK hK=>h K λa' w' hp hh=>hK a' w' (λ_=>hp) trivial hh
end
end
namespace Held
open Go.RowKit Go.Proofs.YtkhddpiopbmhjaaGreat
theorem z2C{P:Program}{id:Nat}{Q:Exit->Act->World->Prop}{a:Act}{w:World}{l:List Oper}(S:World->Prop)(fl sl:List Tmp)(hm:P.follows .mixedOrders=true)(hB:Twin.zyC false fl sl l=true)(h:Twin.wpC P S false l.toArray fl sl Q l a w.drew):(Code.region id l.toArray true).wp P Q a w:=Twin.z9E S fl sl hm hB h
end Held
section
open Go.RowKit
variable {P:Program} {ops:Array Oper} {fl:List Tmp}
end
end Go.Proofs.YtkhddpiopbmhjaaGreat
