/- Texts Canon, Held, Guard in one. Conditions: as each law names them. -/
import Derived.WalkKit
import Derived.Orders
set_option maxRecDepth 20000
set_option maxHeartbeats 8000000
namespace Go.Proofs.YtkhddpiopbmhjaaGreat
section
open Go.RowKit
structure Pre (w w':World):Prop where
 size:w.heap.size≤w'.heap.size
 block:∀ k,k<w.heap.size→w'.heap[k]?=w.heap[k]?
theorem Pre.refl (w:World):Pre w w:=⟨Nat.le_refl _,λ_ _=>rfl⟩
theorem Pre.trans {a b c:World} (h:Pre a b) (k:Pre b c):Pre a c:=
 ⟨Nat.le_trans h.size k.size,λi hi=>(k.block i (Nat.lt_of_lt_of_le hi h.size)).trans (h.block i hi)⟩
theorem Pre.drew {a w:World} (h:Pre a w):Pre a w.drew:=⟨h.size,h.block⟩
theorem Pre.alloc {a w:World} (h:Pre a w) (o:Obj):Pre a (w.alloc o):=
 h.trans ⟨by simp,λk hk=>Below.heap_alloc w o k hk⟩
section
variable {P:Program}
def SemDead (P:Program) {α:Type}:Sem α→Prop
 | .pure _=>False
 | .halt _=>True
 | .program k=>SemDead P (k P)
 | .mark _ k=>SemDead P k
 | .choose _ k=>∀ n,SemDead P (k n)
 | .new _ k=>∀ n,SemDead P (k n)
 | .load _ _ k=>∀ v,SemDead P (k v)
 | .shape _ k=>∀ v,SemDead P (k v)
 | .frozen _ k=>∀ v,SemDead P (k v)
 | .getObj _ k=>∀ v,SemDead P (k v)
 | _=>False
def SemReads (P:Program) {α:Type}:Sem α→Prop
 | .pure _=>True
 | .halt _=>True
 | .program k=>SemReads P (k P)
 | .mark _ k=>SemReads P k
 | .load _ _ k=>∀ v,SemReads P (k v)
 | .getObj _ k=>∀ o,SemReads P (k o)
 | .shape _ k=>SemDead P (k none)∧∀ s,SemReads P (k (some s))
 | .choose _ k=>∀ n,SemDead P (k n)
 | .new _ k=>∀ n,SemDead P (k n)
 | _=>False
theorem SemDead.not_ok {α:Type} {m:Sem α} (h:SemDead P m):∀ (w:World) (v:α) (w':World),m.run P w≠.ok v w':=by
 induction m with | pure a=>{exact h.elim} | load md a k ih=>{intro w v w' c;simp only[Sem.run] at c;split at c;{exact ih _ (h _) _ _ _ c};{split at c;{exact ih _ (h _) _ _ _ c};{cases c}}} | store=>{exact h.elim} | new o k ih=>{intro w v w' c;exact ih _ (h _) _ _ _ c} | shape r k ih=>{intro w v w' c;exact ih _ (h _) _ _ _ c} | freeze=>{exact h.elim} | frozen a k ih=>{intro w v w' c;exact ih _ (h _) _ _ _ c} | getObj r k ih=>{intro w v w' c;simp only[Sem.run] at c;split at c;{cases c};{exact ih _ (h _) _ _ _ c};{cases c}} | setObj=>{exact h.elim} | choose q k ih=>{intro w v w' c;simp only[Sem.run] at c;split at c;{exact ih _ (h _) _ _ _ c};{exact ih _ (h _) _ _ _ c}} | sys=>{exact h.elim} | program k ih=>{intro w v w' c;exact ih _ h _ _ _ c} | mark x k ih=>{intro w v w' c;exact ih h _ _ _ c} | halt x=>{intro w v w' c;simp[Sem.run] at c}
theorem z5Q {w w':World} (c:Pre w w') {k:Nat} {o:Obj} (h:w.heap[k]?=some o):w'.heap[k]?=some o:=by
 rw[c.block k (Array.getElem?_eq_some_iff.1 h).1];exact h
theorem zpT {w w':World} (c:Pre w w') {a:Addr} {v:Value} (h:w.cell? a=some v):w'.cell? a=some v:=by
 unfold World.cell? at *;cases hb:w.heap[a.block]? with | none=>{rw[hb] at h;cases h} | some o=>{rw[z5Q c hb];rw[hb] at h;exact h}
theorem ztT {w w':World} (j:Pre w w') {at_:Addr} {u:TypeId} {k:Addr} {c:Bool} {r}
  (h:w.seen P at_ u k c = .ok r):w'.seen P at_ u k c = .ok r:=by
 unfold World.seen at *;cases hb:w.heap[at_.block]? with | none=>{rw[hb] at h;simp only[bind,Except.bind] at h;(repeat' split at h);(all_goals first | cases h | skip);all_goals simp_all} | some o=>{rw[z5Q j hb];rw[hb] at h;exact h}
theorem zgW {w w':World} (I:Pre w w') {a:Addr} {c:Bool} {r} (h:w.farLoad P a c = .ok r):w'.farLoad P a c = .ok r:=by
 unfold World.farLoad at *;cases hb:w.heap[a.block]? with | none=>{rw[hb] at h;cases h} | some o=>{rw[z5Q I hb];rw[hb] at h;cases o with | view at_ u=>{simp only at h |-;have key:∀ r,w.viewLoad P at_ u a c = .ok r->w'.viewLoad P at_ u a c = .ok r:=by{intro r j;unfold World.viewLoad at *;cases s:w.seen P at_ u a c with | error e=>{rw[s] at j;simp[bind,Except.bind] at j} | ok x=>{rw[ztT I s];rw[s] at j;exact j}};cases E:w.viewLoad P at_ u a c with | error e=>{rw[E] at h;cases h} | ok x=>{rw[key x E];rw[E] at h;exact h}} | _=>{cases h}}
theorem zgP {w w':World} (s:Pre w w') {a:Addr} {c:Bool} {r} (j:w.cell? a=none) (h:w.farLoad P a c = .ok r):w'.cell? a=none:=by
 unfold World.farLoad at h;cases hb:w.heap[a.block]? with | none=>{rw[hb] at h;cases h} | some o=>{unfold World.cell? at *;rw[z5Q s hb];rw[hb] at j;exact j}
theorem SemReads.later {α:Type} {m:Sem α} (h:SemReads P m):∀ (w:World) (v:α) (w1:World),m.run P w = .ok v w1->w1=w/\∀ w',Pre w w'->m.run P w' = .ok v w':=by
 induction m with | pure a=>{intro w v w1 j;simp only[Sem.run,Result.ok.injEq] at j;obtain⟨rfl,rfl⟩:=j;exact⟨rfl,λ_ _=>rfl⟩} | load md a k ih=>{intro w v w1 j;simp only[Sem.run] at j;split at j;{rename_i u hu;obtain⟨e,J⟩:=ih _ (h _) _ _ _ j;refine⟨e,λw' I=>?_⟩;simp only[Sem.run,zpT I hu];exact J w' I};{rename_i hu;split at j;{rename_i u x hf;obtain⟨e,J⟩:=ih _ (h _) _ _ _ j;refine⟨e,λw' I=>?_⟩;simp only[Sem.run,zgP I hu hf,zgW I hf];exact J w' I};{cases j}}} | store=>{exact h.elim} | new o k ih=>{intro w v w' j;exact(SemDead.not_ok (h _) _ _ _ j).elim} | shape r k ih=>{intro w v w1 j;simp only[Sem.run] at j;cases O:w.shape? r with | none=>{rw[O] at j;exact(SemDead.not_ok h.1 _ _ _ j).elim} | some s=>{rw[O] at j;obtain⟨e,J⟩:=ih _ (h.2 _) _ _ _ j;refine⟨e,λw' I=>?_⟩;have a2:w'.shape? r=some s:=by{unfold World.shape? at *;cases hb:w.heap[r]? with | none=>{rw[hb] at O;cases O} | some o=>{rw[z5Q I hb];rw[hb] at O;exact O}};simp only[Sem.run,a2];exact J w' I}} | freeze=>{exact h.elim} | frozen a k ih=>{exact h.elim} | getObj r k ih=>{intro w v w1 j;simp only[Sem.run] at j;split at j;{cases j};{rename_i o Y ho;obtain⟨e,J⟩:=ih _ (h _) _ _ _ j;refine⟨e,λw' I=>?_⟩;have Z:=z5Q I ho;simp only[Sem.run];rw[Z];split;{rename_i c e' f E;simp only[Option.some.injEq] at E;exact(Y _ _ _ E).elim};{rename_i o2 _ E;simp only[Option.some.injEq] at E;subst E;exact J w' I};{rename_i E;cases E}};{cases j}} | setObj=>{exact h.elim} | choose q k ih=>{intro w v w1 j;simp only[Sem.run] at j;split at j <;> exact(SemDead.not_ok (h _) _ _ _ j).elim} | sys=>{exact h.elim} | program k ih=>{intro w v w1 j;exact ih _ h _ _ _ j} | mark x k ih=>{intro w v w1 j;exact ih h _ _ _ j} | halt x=>{intro w v w' j;simp[Sem.run] at j}
theorem SemReads.bind {α β:Type} {m:Sem α} {f:α->Sem β} (h:SemReads P m) (hf:∀ x,SemReads P (f x)):SemReads P (m >>= f):=by
 show SemReads P (Sem.bind m f);have dead:∀ {m:Sem α},SemDead P m->SemDead P (Sem.bind m f):=by{intro m c;induction m with | pure a=>{exact c.elim} | load md a k ih=>{exact λv=>ih _ (c _)} | store=>{exact c.elim} | new o k ih=>{exact λv=>ih _ (c _)} | shape r k ih=>{exact λv=>ih _ (c _)} | freeze=>{exact c.elim} | frozen a k ih=>{exact λv=>ih _ (c _)} | getObj r k ih=>{exact λv=>ih _ (c _)} | setObj=>{exact c.elim} | choose q k ih=>{exact λv=>ih _ (c _)} | sys=>{exact c.elim} | program k ih=>{exact ih _ c} | mark x k ih=>{exact ih c} | halt x=>{trivial}};induction m with | pure a=>{exact hf a} | load md a k ih=>{exact λv=>ih _ (h _)} | store=>{exact h.elim} | new o k ih=>{exact λv=>dead (h _)} | shape r k ih=>{exact⟨dead h.1,λv=>ih _ (h.2 _)⟩} | freeze=>{exact h.elim} | frozen a k ih=>{exact h.elim} | getObj r k ih=>{exact λv=>ih _ (h _)} | setObj=>{exact h.elim} | choose q k ih=>{exact λv=>dead (h _)} | sys=>{exact h.elim} | program k ih=>{exact ih _ h} | mark x k ih=>{exact ih h} | halt x=>{trivial}
theorem zoE {α:Type} (x:α):SemReads P (pure x:Sem α):=trivial
theorem zfK (a:Addr):SemReads P (load a):=λ_=>trivial
theorem zeA (t:TypeId):SemReads P (typeInfo t):=by
 unfold typeInfo;refine SemReads.bind (m:=program) trivial λp=>?_;split <;> trivial
theorem zbS (t:TypeId):SemReads P (underlying t):=by
 unfold underlying;refine SemReads.bind (m:=program) trivial λp=>?_;split <;> trivial
theorem z5J (a:Addr):∀ (n i:Nat) (_acc:Array Value),SemReads P (loadCellsFrom a i n _acc)
 | 0,_,_=>trivial
 | n+1,i,_=>SemReads.bind (zfK _) λ_=>z5J a n (i+1) _
theorem zfV (t:TypeId) (a:Addr):SemReads P (loadVar t a):=by
 unfold loadVar;refine SemReads.bind (m:=isAgg t) ?_ λb=>?_;{unfold isAgg;refine SemReads.bind (zbS t) λd=>?_;split <;> trivial};{split;{refine SemReads.bind (m:=sizeOf t) ?_ λn=>?_;{exact SemReads.bind (zeA t) λ_=>trivial};{exact SemReads.bind (z5J a n 0 _) λ_=>trivial}};{exact zfK a}}
theorem ziY (t:TypeId) (v:Value):SemReads P (Instr.loadAt t v):=by
 unfold Instr.loadAt;refine SemReads.bind (m:=Instr.sureAddr v) ?_ λa=>zfV t a;unfold Instr.sureAddr;split <;> trivial
end
def z7P (fl:List Tmp) (o:Oper):Nat:=
 match o.op with
 | .move _ | .assign _ | .pick .. | .build .. | .fieldAddr .. | .field .. | .nilCheck _ | .binOp .. | .unOp .. | .indexAddr .. | .index .. | .slice .. | .extract ..=>0
 | .convert ..=>match o.dst with | some d=>if fl.contains d then 3 else if fl.contains (d+10000) then 1 else 0 | none=>2
 | .load .. | .lookup ..=>1
 | .buildSlice .. | .box .. | .alloc .. | .makeSlice .. | .makeMap ..=>3
 | .call c=>
   match c.callee with
   | .builtin .len | .builtin .cap | .builtin .min | .builtin .max=>0
   | _=>match o.dst with | some d=>if fl.contains d then 3 else 2 | none=>2
 | _=>match o.dst with | some d=>if fl.contains d then 3 else 2 | none=>2
def noQ:Exit→Act→World→Prop:=fun _ _ _=>False
section
variable {P:Program} {ops:Array Oper} {fl:List Tmp}
theorem zmS:¬ LetsOut noQ:=λ⟨_,_,h⟩=>h
theorem zgF {o:Oper} {a:Act} {w:World} {K:Act->World->Prop} (p:Act->Prop) (s:∀ u,p (a.put o.dst u)) (hd:∀ d u,p (({ a with defers:=d :: a.defers }:Act).put o.dst u))
  (h:o.wp P a w K noQ):o.wp P a w (λI w'=>K I w'/\p I) noQ:=by
 unfold Oper.wp at *;generalize (execOp a.eval o).run P w=r at *;cases r with | ok n w'=>{cases n <;> simp only[Oper.upon] at h |-;(case value v=>exact⟨h,s _⟩);(case skip=>exact⟨h,s _⟩);(case defer d=>exact⟨h,hd _ _⟩);(case enter f args=>(refine Calls.mono h λe E j=>?_;cases e with | returned u=>{exact⟨j,s _⟩} | panicked c=>{exact j} | outgrown=>{exact j}));case row row args=>exact Rows.mono h λu E j=>⟨j,s _⟩} | halt x w'=>{cases x <;> simp only[Oper.upon] at h |-;case panic=>exact h}
theorem wp_ex {o:Oper} {a:Act} {w:World} {K:Act->World->Prop} (h:o.wp P a w K noQ):∃ E w',K E w':=by
 unfold Oper.wp at *;generalize (execOp a.eval o).run P w=r at *;cases r with | ok n w'=>{cases n <;> simp only[Oper.upon] at h;(case value v=>exact⟨_,_,h⟩);(case skip=>exact⟨_,_,h⟩);(case defer d=>exact⟨_,_,h⟩);(case enter f args=>(obtain⟨e,s,I,j,_⟩:=h [];cases e with | returned u=>{exact⟨_,_,j⟩} | panicked c=>{exact j.elim} | outgrown=>{exact(zmS j).elim}));case row row args=>(obtain⟨v,s,j,_⟩:=h default [];exact⟨_,_,j⟩)} | halt x w'=>{cases x <;> simp only[Oper.upon] at h;case panic=>exact h.elim}
theorem zmQ {o:Oper} {d:Option Tmp} {v:Value} {a:Act} {w:World} {K:Act->World->Prop} (Y:∀ cs b,o.op≠.select cs b)
  (O:∀ t,d=some t->t ∉ o.looksAt ops) (j:∀ t,d=some t->o.dst≠some t) :
  o.wp P (a.put d v) w K noQ↔o.wp P a w (λJ w'=>K (J.put d v) w') noQ:=by
 unfold Oper.wp;rw[execOp_put (ops:=ops) o Y a d v O];generalize (execOp a.eval o).run P w=r;cases r with | ok n w'=>{cases n <;> simp only[Oper.upon];(case value u=>rw[Act.put_comm a v u j]);(case skip=>rw[Act.put_comm a v undef j]);(case defer x=>rw[Act.put_defers,Act.put_comm _ v undef j]);(case enter f args=>(constructor <;> refine λh=>Calls.mono h λe I s=>?_;all_goals cases e with | returned u=>{have E:K _ _:=s;have e:=Act.put_comm a v u j;first | exact(show K _ _ from e ▸ E) | exact(show K _ _ from e.symm ▸ E)} | panicked c=>{exact s} | outgrown=>{exact s}));case row row args=>(constructor <;> refine λh=>Rows.mono h λu I s=>?_;{rw[<-Act.put_comm a v u j];exact s};{rw[Act.put_comm a v u j];exact s})} | halt x w'=>{cases x <;> simp only[Oper.upon];case panic=>exact Iff.rfl}
theorem z6R (fl:List Tmp) (o:Oper):z7P fl o<=3:=by
 unfold z7P
 repeat' split
 all_goals decide
end
def y0X (tbl:List Nat) (o:Oper):Nat:=
 o.after.toList.foldl (fun s e=>if Region.binds .any e then s ||| 2 ^ e.on ||| tbl.getD e.on 0 else s) 0
def z2L:List Oper→List Nat→List Nat
 | [],tbl=>tbl
 | o :: l,tbl=>z2L l (tbl ++ [y0X tbl o])
def ahead (tbl:List Nat) (j i:Nat):Bool:=(tbl.getD i 0).testBit j
def znU (l:List Oper) (tbl:List Nat):Bool:=
 (List.range l.length).all fun i=>match l[i]? with
  | none=>true
  | some o=>(List.range i).all fun j=>!ahead tbl j i || o.after.any fun e=>Region.binds .any e && (e.on == j || (decide (e.on<i) && decide (j<e.on) && ahead tbl j e.on))
structure Inv (l:List Oper) (listed:Array Bool) (r:List Nat):Prop where
 sorted:r.Pairwise (· < ·)
 mem:∀ i,i ∈ r↔i<l.length∧listed.getD i true=false
 size:listed.size=l.length
 closed:∀ j oj,l[j]?=some oj→listed.getD j false=true→∀ e ∈ oj.after,Region.binds .any e=true→listed.getD e.on false=true
theorem zhB {l:List Oper} {tbl:List Nat} (ht:znU l tbl=true) {listed:Array Bool} {r:List Nat} (inv:Inv l listed r) :
  ∀ (n i j:Nat) (O:Oper),i<n->j<i->l[i]?=some O->(∀ e ∈ O.after,Region.binds .any e=true->listed.getD e.on false=true)->ahead tbl j i=true->listed.getD j false=true:=by
 intro n;induction n with | zero=>{intro i j O hi;omega} | succ n ih=>{intro i j O hi a3 J c ha;have a5:i<l.length:=(List.getElem?_eq_some_iff.1 J).1;have h1:=List.all_eq_true.1 ht i (List.mem_range.2 a5);simp only[J] at h1;have h2:=List.all_eq_true.1 h1 j (List.mem_range.2 a3);simp only[ha,Bool.not_true,Bool.false_or] at h2;obtain⟨e,he,hb⟩:=Array.any_eq_true'.1 h2;simp only[Bool.and_eq_true,Bool.or_eq_true,beq_iff_eq,decide_eq_true_eq] at hb;obtain⟨s,hb2⟩:=hb;rcases hb2 with hb2 | ⟨⟨hb2,a2⟩,Y⟩;{rw[<-hb2];exact c e he s};{have Z:=c e he s;have E:e.on<l.length:=by{omega};obtain⟨oe,I⟩:∃ oe,l[e.on]?=some oe:=⟨_,List.getElem?_eq_getElem E⟩;exact ih e.on j oe (by omega) a2 I (inv.closed _ _ I Z) Y}}
theorem Inv.set {l:List Oper} {listed:Array Bool} {pre post:List Nat} {i:Nat} (inv:Inv l listed (pre ++ i :: post)) (hr:i ∈ Region.ready .any l.toArray listed) :
  Inv l (listed.setIfInBounds i true) (pre ++ post):=by
 obtain⟨a2,oi,J,E⟩:=mem_ready.1 hr;have hi:i<l.length:=((inv.mem i).1 (by simp)).1;have hs:=inv.sorted;rw[List.pairwise_append] at hs;obtain⟨Y,s,O⟩:=hs;rw[List.pairwise_cons] at s;refine⟨?_,λj=>?_,by simp[inv.size],λj oj hj hl e Z hb=>?_⟩;{rw[List.pairwise_append];exact⟨Y,s.2,λx hx y hy=>O x hx y (by simp[hy])⟩};{have hm:=inv.mem j;by_cases c:j=i;{subst c;constructor;{intro h;rcases List.mem_append.1 h with h | h;{have:=O j h j (by simp);omega};{have:=s.1 j h;omega}};{rintro⟨_,h⟩;simp[inv.size,hi] at h}};{rw[getD_set_ne true (Ne.symm c)];rw[<-hm];simp[c]}};{by_cases I:i=j;{subst I;have:oj=oi:=by{have h2:l.toArray[i]?=l[i]?:=by{simp};rw[h2,hj] at J;exact Option.some.inj J};subst this;exact getD_set_true (E e Z hb)};{rw[getD_set_ne false I] at hl;exact getD_set_true (inv.closed j oj hj hl e Z hb)}}
theorem z8F (l:List Oper) (a b:List Nat) (i:Nat):(a ++ i :: b).map (λk=>l.getD k default)=a.map (λk=>l.getD k default) ++ l.getD i default :: b.map (λk=>l.getD k default):=by simp
section
variable {P:Program}
def zbY (w:World) (next:Value→Prop):Result Next→Prop
 | .ok (.value v) w'=>w'=w∧next v
 | _=>False
def calm (P:Program) (o:Oper) (a:Act) (w:World) (next:Value→Prop):Prop:=zbY w next ((execOp a.eval o).run P w)
attribute [go_sem] calm zbY
theorem z9V {o:Oper} {a:Act} {w:World} {next:Value->Prop} (h:calm P o a w next):∃ v,(execOp a.eval o).run P w = .ok (.value v) w/\next v:=by
 unfold calm at h;generalize (execOp a.eval o).run P w=r at *;cases r with | ok n w'=>{cases n <;> simp only[zbY] at h;obtain⟨rfl,h⟩:=h;exact⟨_,rfl,h⟩} | halt x w'=>{simp only[zbY] at h}
def zwD (fl:List Tmp) (o:Oper):Nat:=match o.op with | .load ..=>z7P fl o | _=>9
end
namespace Twin
def z3C (fl sl:List Tmp) (o:Oper):Nat:=
 match o.op with
 | .load .. | .lookup ..=>match o.dst with | some d=>if sl.contains d then 0 else 1 | none=>1
 | _=>z7P fl o
def Sk (m:Bool) (o:Oper) (S:World→Prop) (w:World):Prop:=match m with
 | true=>S w
 | false=>o.dst≠none→S w
section
variable {P:Program} {ops:Array Oper} {fl sl:List Tmp} {S:World→Prop} {m:Bool}
def Still (P:Program) (S:World→Prop) (k:Nat) (o:Oper) (a:Act) (w:World) (v:Value):Prop:=
 ∀ w',S w'→(k=1→Pre w w')→(execOp a.eval o).run P w' = .ok (.value v) w'
def wpO (P:Program) (S:World→Prop) (m:Bool) (ops:Array Oper) (fl sl:List Tmp) (o:Oper) (K:Act→World→Prop) (a:Act) (w:World):Prop:=
 if Region.wanted o (yielded ops a.tmps)=true then
  S w∧if z3C fl sl o≤1 then ∃ v,Still P S (z3C fl sl o) o a w v∧K (a.put o.dst v) w
  else o.wp P a w (fun a' w'=>((z3C fl sl o=3→Pre w w')∧Sk m o S w')∧K a' w') noQ
 else K (a.put o.dst undef) w
def wpC (P:Program) (S:World→Prop) (m:Bool) (ops:Array Oper) (fl sl:List Tmp) (Q:Exit→Act→World→Prop):List Oper→Act→World→Prop
 | [],a,w=>Q .normal a w
 | o :: rest,a,w=>wpO P S m ops fl sl o (wpC P S m ops fl sl Q rest) a w
theorem zuI {o:Oper} {K E:Act->World->Prop} {a:Act} {w:World} (h:∀ a w,K a w->E a w) (c:wpO P S m ops fl sl o K a w):wpO P S m ops fl sl o E a w:=by
 unfold wpO at *;split;{rename_i j;rw[if_pos j] at c;refine⟨c.1,?_⟩;have c:=c.2;split;{rename_i s;rw[if_pos s] at c;obtain⟨v,I,J⟩:=c;exact⟨v,I,h _ _ J⟩};{rename_i s;rw[if_neg s] at c;exact Oper.wp_mono (λa w hk=>⟨hk.1,h _ _ hk.2⟩) c}};{rename_i j;rw[if_neg j] at c;exact h _ _ c}
def z4Z (ko ki:Nat):Bool:=
 match ko,ki with
 | 0,_=>true
 | 1,0 | 1,1 | 1,3=>true
 | 2,0 | 3,0=>true
 | _,_=>false
def movable (m:Bool) (fl sl:List Tmp) (i:Oper):Bool:=m || (decide (z3C fl sl i≤1) || i.dst.isSome)
theorem z6M {k:Nat} {o:Oper} {a j:Act} {w w':World} {v:Value} (h:Still P S k o a w v) (s:execOp j.eval o=execOp a.eval o) (J:k=1->Pre w w'):Still P S k o j w' v:=
 λc I E=>by rw[s];exact h c I λhk=>(J hk).trans (E hk)
theorem zqX {k:Nat} {o:Oper} {a c:Act} {w w':World} {v v':Value} (hk:k=0) (s:S w) (h:Still P S k o a w v) (E:Still P S k o c w' v') (J:execOp c.eval o=execOp a.eval o):v'=v:=by
 have I:=h w s (by omega);have j:=E w s (by omega);rw[J,I] at j;simpa using j.symm
theorem z6R (fl sl:List Tmp) (o:Oper):z3C fl sl o<=3:=by
 unfold z3C
 repeat' split
 all_goals first | decide | exact Go.Proofs.YtkhddpiopbmhjaaGreat.z6R fl o
theorem zuX:∀ n,n<=3->¬ n<=1->z4Z 1 n=true->n=3
 | 0,_,h,_=>absurd (by decide) h
 | 1,_,h,_=>absurd (by decide) h
 | 2,_,_,h=>by simp[z4Z] at h
 | 3,_,_,_=>rfl
 | n+4,h,_,_=>by omega
theorem zwK:∀ m n,m<=3->¬ m<=1->z4Z m n=true->n=0
 | 0,_,_,h,_=>absurd (by decide) h
 | 1,_,_,h,_=>absurd (by decide) h
 | 2,0,_,_,_=>rfl
 | 3,0,_,_,_=>rfl
 | 2,n+1,_,_,h=>by simp[z4Z] at h
 | 3,n+1,_,_,h=>by simp[z4Z] at h
 | m+4,_,h,_,_=>by omega
theorem swap {o i:Oper} {K:Act->World->Prop} {a:Act} {w:World} (b0:o.apart ops i=true)
  (a7:∀ cs b,o.op≠.select cs b) (a6:∀ cs b,i.op≠.select cs b) (hk:z4Z (z3C fl sl o) (z3C fl sl i)=true) (a5:movable m fl sl i=true)
  (h:wpO P S m ops fl sl o (wpO P S m ops fl sl i K) a w):wpO P S m ops fl sl i (wpO P S m ops fl sl o K) a w:=by
 obtain⟨h1,h2,h3⟩:=Oper.apart_spec b0;have a3:∀ d,i.dst=some d->o.dst≠some d:=λd hd c6=>h2 d c6 hd;have wi:∀ (b:Act) v,Region.wanted i (yielded ops (b.put o.dst v).tmps)=Region.wanted i (yielded ops b.tmps):=λb v=>wanted_put i b o.dst v h1;have Z:∀ (b:Act) v,Region.wanted o (yielded ops (b.put i.dst v).tmps)=Region.wanted o (yielded ops b.tmps):=λb v=>wanted_put o b i.dst v h3;have ei:∀ (b:Act) v,execOp (b.put o.dst v).eval i=execOp b.eval i:=λb v=>execOp_put i a6 b o.dst v h1;have eo:∀ (b:Act) v,execOp (b.put i.dst v).eval o=execOp b.eval o:=λb v=>execOp_put o a7 b i.dst v h3;have b9:¬ z3C fl sl i<=1->∀ w,Sk m i S w->S w:=λhn w hs=>by{cases m with | true=>{exact hs} | false=>{refine hs λhe=>?_;unfold movable at a5;rw[he] at a5;simp[hn] at a5}};have b8:=z6R fl sl o;have b7:=z6R fl sl i;have pc:∀ (b:Act) u v,(b.put i.dst u).put o.dst v=(b.put o.dst v).put i.dst u:=λb u v=>Act.put_comm b u v a3;unfold wpO at h |-;by_cases j:Region.wanted o (yielded ops a.tmps)=true;{rw[if_pos j] at h;obtain⟨hS,h⟩:=h;by_cases c:Region.wanted i (yielded ops a.tmps)=true;{rw[if_pos c];refine⟨hS,?_⟩;by_cases s:z3C fl sl o<=1;{rw[if_pos s] at h;obtain⟨v,hv,h⟩:=h;rw[if_pos (by rw[wi];exact c)] at h;have h:=h.2;by_cases I:z3C fl sl i<=1;{rw[if_pos I] at h |-;obtain⟨u,hu,h⟩:=h;refine⟨u,z6M hu (ei a v).symm λ_=>Pre.refl _,?_⟩;rw[if_pos (by rw[Z];exact j),if_pos s];exact⟨hS,v,z6M hv (eo a u) λ_=>Pre.refl _,by rw[pc];exact h⟩};{rw[if_neg I] at h |-;rw[zmQ (ops:=ops) a6 h1 h2] at h;have h':=zgF (λJ=>execOp J.eval o=execOp a.eval o/\Region.wanted o (yielded ops J.tmps)=true) (λu=>⟨eo a u,by rw[Z];exact j⟩) (λd u=>⟨eo _ u,by rw[Z];exact j⟩) h;refine Oper.wp_mono (λJ w' hh=>?_) h';obtain⟨⟨hp,hK⟩,he,a8⟩:=hh;refine⟨hp,?_⟩;rw[if_pos a8,if_pos s];refine⟨b9 I _ hp.2,v,z6M hv he λb6=>?_,hK⟩;refine hp.1 ?_;rw[b6] at hk;exact zuX _ b7 I hk}};{rw[if_neg s] at h;have b2:z3C fl sl i=0:=zwK _ _ b8 s hk;rw[if_pos (by omega:z3C fl sl i<=1)];have h':=zgF (λJ=>execOp J.eval i=execOp a.eval i/\Region.wanted i (yielded ops J.tmps)=true) (λu=>⟨ei a u,by rw[wi];exact c⟩) (λd u=>⟨ei _ u,by rw[wi];exact c⟩) h;obtain⟨J,w',⟨hp,hh⟩,he,a8⟩:=wp_ex h';rw[if_pos a8,if_pos (by omega:z3C fl sl i<=1)] at hh;obtain⟨_,u,hu,_⟩:=hh;have a9:Still P S (z3C fl sl i) i a w u:=λw2 c7 _=>by{rw[<-he];exact hu w2 c7 (by omega)};refine⟨u,a9,?_⟩;rw[if_pos (by rw[Z];exact j),if_neg s,zmQ (ops:=ops) a7 h3 a3];refine⟨hS,Oper.wp_mono (λa2 w2 O=>?_) h'⟩;obtain⟨⟨hp2,E⟩,b1,Y⟩:=O;rw[if_pos Y,if_pos (by omega:z3C fl sl i<=1)] at E;obtain⟨_,u2,c8,hK⟩:=E;have:u2=u:=zqX b2 hS a9 c8 b1;subst this;exact⟨hp2,hK⟩}};{rw[if_neg c];rw[Z,if_pos j];refine⟨hS,?_⟩;by_cases s:z3C fl sl o<=1;{rw[if_pos s] at h |-;obtain⟨v,hv,h⟩:=h;rw[if_neg (by rw[wi];exact c)] at h;exact⟨v,z6M hv (eo a undef) λ_=>Pre.refl _,by rw[pc];exact h⟩};{rw[if_neg s] at h |-;rw[zmQ (ops:=ops) a7 h3 a3];have h':=zgF (λJ=>¬ Region.wanted i (yielded ops J.tmps)=true) (λu=>by rw[wi];exact c) (λd u=>by rw[wi];exact c) h;refine Oper.wp_mono (λa2 w2 O=>?_) h';obtain⟨⟨hp2,E⟩,Y⟩:=O;rw[if_neg Y] at E;exact⟨hp2,E⟩}}};{rw[if_neg j] at h;rw[wi] at h;by_cases c:Region.wanted i (yielded ops a.tmps)=true;{rw[if_pos c] at h |-;obtain⟨hS,h⟩:=h;refine⟨hS,?_⟩;by_cases I:z3C fl sl i<=1;{rw[if_pos I] at h |-;obtain⟨u,hu,h⟩:=h;refine⟨u,z6M hu (ei a undef).symm λ_=>Pre.refl _,?_⟩;rw[if_neg (by rw[Z];exact j),pc];exact h};{rw[if_neg I] at h |-;rw[zmQ (ops:=ops) a6 h1 h2] at h;have h':=zgF (λJ=>¬ Region.wanted o (yielded ops J.tmps)=true) (λu=>by rw[Z];exact j) (λd u=>by rw[Z];exact j) h;refine Oper.wp_mono (λa2 w2 O=>?_) h';obtain⟨⟨hp2,E⟩,Y⟩:=O;rw[if_neg Y];exact⟨hp2,E⟩}};{rw[if_neg c] at h |-;rw[if_neg (by rw[Z];exact j),pc];exact h}}
theorem zfP {Q:Exit->Act->World->Prop} {i:Oper} (c:∀ cs b,i.op≠.select cs b):∀ (pre post:List Oper) (a:Act) (w:World),
  (∀ o ∈ pre,o.apart ops i=true/\(∀ cs b,o.op≠.select cs b)/\z4Z (z3C fl sl o) (z3C fl sl i)=true/\movable m fl sl i=true)->
  wpC P S m ops fl sl Q (pre ++ i :: post) a w->wpC P S m ops fl sl Q (i :: (pre ++ post)) a w
 | [],_,_,_,_,h=>h
 | o :: pre,post,a,w,hc,h=>by{obtain⟨s,E,I,J⟩:=hc o (by simp);exact swap s E c I J (zuI (λa w O=>zfP c pre post a w (λY j=>hc Y (by simp[j])) O) h)}
theorem z7K {Q:Exit->Act->World->Prop} {i:Nat} {o:Oper} (hi:ops[i]?=some o) {K:Act->World->Prop} {a:Act} {w:World} (h:wpO P S m ops fl sl o K a w):wpOp P ops Q i K a w:=by
 unfold wpOp;simp only[hi];unfold wpO at h;split;{rename_i s;rw[if_pos s] at h;obtain⟨J,h⟩:=h;refine .inl ?_;by_cases hk:z3C fl sl o<=1;{rw[if_pos hk] at h;obtain⟨v,O,I⟩:=h;unfold Oper.wp;rw[O w J λ_=>Pre.refl _];exact I};{rw[if_neg hk] at h;unfold Oper.wp at *;generalize (execOp a.eval o).run P w=r at *;cases r with | ok n w'=>{cases n <;> simp only[Oper.upon] at h |-;(case value v=>exact h.2);(case skip=>exact h.2);(case defer d=>exact h.2);(case enter f args=>(refine Calls.mono h λe E j=>?_;cases e with | returned u=>{exact j.2} | panicked c=>{exact j.elim} | outgrown=>{exact(zmS j).elim}));case row row args=>exact Rows.mono h λu E j=>j.2} | halt x w'=>{cases x <;> simp only[Oper.upon] at h |-;case panic=>exact h.elim}}};{rename_i s;rw[if_neg s] at h;exact h}
theorem zyJ {o:Oper} {E I:Act->World->Prop} {a:Act} {w:World} (hk:z3C fl sl o<=1) (c:wpO P S m ops fl sl o E a w) (j:wpO P S m ops fl sl o I a w):wpO P S m ops fl sl o (λa w=>E a w/\I a w) a w:=by
 unfold wpO at *;split;{rename_i h;rw[if_pos h,if_pos hk] at c j;obtain⟨s,v,O,k1⟩:=c;obtain⟨_,u,Z,k2⟩:=j;have Y:=O w s λ_=>Pre.refl _;have J:=Z w s λ_=>Pre.refl _;rw[Y] at J;have e:v=u:=by{simpa using J};subst e;exact⟨s,v,O,k1,k2⟩};{rename_i h;rw[if_neg h] at c j;exact⟨c,j⟩}
def zgU (m:Bool) (n0:Nat) (fl sl:List Tmp) (c al:Nat) (l:List Oper) (tbl:List Nat):Bool:=
 (List.range l.length).all fun i=>decide (i<n0) || match l[i]? with
  | none=>true
  | some oi=>(oi.after.all fun e=>!Region.binds .any e || decide (e.on<i)) && (List.range i).all fun j=>decide (j<n0) || match l[j]? with
    | none=>true
    | some oj=>ahead tbl j i || (oj.apart l.toArray oi && (z4Z (z3C fl sl oj) (z3C fl sl oi) && movable m fl sl oi)) || (decide (j=c) && decide (i=al))
def zxF (fl sl:List Tmp) (c al:Nat) (l:List Oper) (tbl:List Nat):Bool:=
 (List.range l.length).all fun i=>decide (i=c) || decide (i=al) || (decide (al<i) && ahead tbl al i) || (decide (c<i) && ahead tbl c i) || match l[i]?,l[al]? with
  | some oi,some oa=>decide (z3C fl sl oi=0) && oa.apart l.toArray oi
  | _,_=>false
def y0O (fl sl:List Tmp) (c al:Nat) (l:List Oper):Bool:=
 Region.noSelect l.toArray && znU l (z2L l []) && zgU true 0 fl sl c al l (z2L l []) && zxF fl sl c al l (z2L l [])
theorem zqZ {c:Nat} {l:List Nat} (h:∀ j ∈ l,j≠c):(l.filter λk=>k != c)=l:=by
 rw[List.filter_eq_self];intro j s;simpa using h j s
theorem z9S {Q:Exit->Act->World->Prop} {l:List Oper} (n0 c E:Nat) (hs:Region.noSelect l.toArray=true) (ht:znU l (z2L l [])=true) (hp:zgU m n0 fl sl c E l (z2L l [])=true) (hfr:E<l.length->zxF fl sl c E l (z2L l [])=true) :
  ∀ (n:Nat) (r:List Nat) (listed:Array Bool) (a:Act) (w:World),r.length=n->(∀ i ∈ r,n0<=i)->Inv l listed r-> wpC P S m l.toArray fl sl Q (r.map λk=>l.getD k default) a w->(E ∈ r->c ∈ r->wpC P S m l.toArray fl sl Q ((E :: r.filter λk=>k != E).map λk=>l.getD k default) a w)->wpAny P .any l.toArray Q n listed a w:=by
 have a8:∀ (k:Nat) (o:Oper),l[k]?=some o->∀ cs b,o.op≠.select cs b:=λk o hk cs b=>Region.noSelect_spec hs k o cs b (by simpa using hk);intro n;induction n with
 | zero=>
   intro r listed a w hn _ inv h _;have:r = []:=List.eq_nil_of_length_eq_zero hn;subst this;refine⟨?_,h⟩;apply List.eq_nil_iff_forall_not_mem.2;intro i hi;obtain⟨b8,oi,a2,_⟩:=mem_ready.1 hi;have Z:i<l.length:=by{simpa using (Array.getElem?_eq_some_iff.1 a2).1};simpa using (inv.mem i).2 ⟨Z,b8⟩
 | succ n ih=>
   intro r listed a w hn a5 inv h c6;refine⟨λd4=>?_,λi hi=>?_⟩
   ·exfalso
    match r,hn with
    | i :: r',_=>
      obtain⟨Z,b8⟩:=(inv.mem i).1 (by simp);have a2:l[i]?=some l[i]:=List.getElem?_eq_getElem Z;have c7:i ∈ Region.ready .any l.toArray listed:=by{refine mem_ready.2 ⟨b8,l[i],by simp[Z],λe he hb=>?_⟩;have I:=List.all_eq_true.1 hp i (List.mem_range.2 Z);rw[decide_eq_false (show ¬ i<n0 from by have:=a5 i (by simp);omega),Bool.false_or] at I;simp only[a2,Bool.and_eq_true] at I;have s:=Array.all_eq_true_iff_forall_mem.1 I.1 e he;simp only[hb,Bool.not_true,Bool.false_or,decide_eq_true_eq] at s;cases hl:listed.getD e.on false with | true=>{rfl} | false=>{exfalso;have e4:listed.getD e.on true=false:=by{have hsz:e.on<listed.size:=by{rw[inv.size];omega};simp[hsz] at hl |-;exact hl};have d1:=(inv.mem e.on).2 ⟨by omega,e4⟩;have a3:=inv.sorted;rw[List.pairwise_cons] at a3;rcases List.mem_cons.1 d1 with h3 | h3;{omega};{have:=a3.1 _ h3;omega}}};rw[d4] at c7;cases c7
   {obtain⟨b8,oi,a2,d2⟩:=mem_ready.1 hi;have Z:i<l.length:=by{simpa using (Array.getElem?_eq_some_iff.1 a2).1};have O:l[i]?=some oi:=by{simpa using a2};have d1:=(inv.mem i).2 ⟨Z,b8⟩;obtain⟨pre,post,rfl⟩:=List.append_of_mem d1;have c9:l.getD i default=oi:=by{simp[O]};have a3:=inv.sorted;rw[List.pairwise_append] at a3;have hlen:(pre ++ post).length=n:=by{simp at hn |-;omega};have b9:∀ i ∈ pre ++ post,n0<=i:=λk hk=>a5 k (by rcases List.mem_append.1 hk with x | x <;> simp[x]);have J:∀ j,j<i->j ∈ pre ++ i :: post->ahead (z2L l []) j i≠true:=λj a9 Y ha=>by{obtain⟨b0,a7⟩:=(inv.mem j).1 Y;have h3:=zhB ht inv (i+1) i j oi (by omega) a9 O d2 ha;have hsz:j<listed.size:=by{rw[inv.size];exact b0};simp[hsz] at h3 a7;rw[h3] at a7;cases a7};have both:E ∈ pre ++ i :: post->c ∈ pre ++ i :: post->i≠E->i≠c->z3C fl sl oi=0/\(l.getD E default).apart l.toArray oi=true:=λha hc n1 n2=>by{have b1:=((inv.mem E).1 ha).1;have I:=List.all_eq_true.1 (hfr b1) i (List.mem_range.2 Z);have e5:l[E]?=some l[E]:=List.getElem?_eq_getElem b1;simp only[O,e5,Bool.or_eq_true,Bool.and_eq_true,decide_eq_true_eq] at I;rcases I with (((I | I) | I) | I) | I;{exact absurd I n2};{exact absurd I n1};{exact absurd I.2 (J E I.1 ha)};{exact absurd I.2 (J c I.1 hc)};{refine⟨I.1,?_⟩;have e:l.getD E default=l[E]:=by{simp[b1]};rw[e];exact I.2}};have first:(i=E->c ∉ pre ++ i :: post)->wpO P S m l.toArray fl sl oi (wpC P S m l.toArray fl sl Q ((pre ++ post).map λk=>l.getD k default)) a w:=λhex=>by{rw[z8F,c9] at h;have b6:=zfP (a8 i oi O) (pre.map λk=>l.getD k default) (post.map λk=>l.getD k default) a w ?_ h;{rw[<-List.map_append] at b6;exact b6};{intro o ho;obtain⟨j,Y,rfl⟩:=List.mem_map.1 ho;have a9:j<i:=a3.2.2 j Y i (by simp);have a6:j ∈ pre ++ i :: post:=by{simp[Y]};obtain⟨b0,a7⟩:=(inv.mem j).1 a6;have b7:l[j]?=some l[j]:=List.getElem?_eq_getElem b0;have d0:l.getD j default=l[j]:=by{simp[b0]};rw[d0];have I:=List.all_eq_true.1 hp i (List.mem_range.2 Z);rw[decide_eq_false (show ¬ i<n0 from by have:=a5 i (by simp);omega),Bool.false_or] at I;simp only[O,Bool.and_eq_true] at I;have s:=List.all_eq_true.1 I.2 j (List.mem_range.2 a9);rw[decide_eq_false (show ¬ j<n0 from by have:=a5 j a6;omega),Bool.false_or] at s;simp only[b7,Bool.or_eq_true,Bool.and_eq_true,decide_eq_true_eq] at s;rcases s with (s | s) | s;{exact absurd s (J j a9 a6)};{exact⟨s.1,a8 j _ b7,s.2⟩};{rw[s.1] at a6;exact absurd a6 (hex s.2)}}};by_cases b2:i=E;{subst b2;have d6:∀ j ∈ pre ++ post,j≠i:=λj Y e=>by{subst e;rcases List.mem_append.1 Y with Y | Y;{have:=a3.2.2 j Y j (by simp);omega};{have h3:=(List.pairwise_cons.1 a3.2.1).1 j Y;omega}};have d5:i ∉ pre ++ post:=λhm=>d6 i hm rfl;by_cases hc:c ∈ pre ++ i :: post;{have s:=c6 (by simp) hc;have hf:((pre ++ i :: post).filter λk=>k != i)=pre ++ post:=by{rw[List.filter_append,List.filter_cons];simp only[bne_self_eq_false,Bool.false_eq_true,if_false];rw[<-List.filter_append];exact zqZ d6};rw[hf,List.map_cons,c9] at s;exact wpOp_mono (λa' w' h'=>ih (pre ++ post) _ a' w' hlen b9 (inv.set hi) h' λhm _=>absurd hm d5) (z7K a2 s)};{exact wpOp_mono (λa' w' h'=>ih (pre ++ post) _ a' w' hlen b9 (inv.set hi) h' λhm _=>absurd hm d5) (z7K a2 (first λ_=>hc))}};{(have f1:=first λe=>absurd e b2);by_cases hb:E ∈ pre ++ post/\c ∈ pre ++ post;{obtain⟨ha,hc⟩:=hb;have c8:E ∈ pre ++ i :: post:=by{rcases List.mem_append.1 ha with x | x <;> simp[x]};have d3:c ∈ pre ++ i :: post:=by{rcases List.mem_append.1 hc with x | x <;> simp[x]};have e3:i≠c:=λe=>by{subst e;rcases List.mem_append.1 hc with Y | Y;{have:=a3.2.2 i Y i (by simp);omega};{have h3:=(List.pairwise_cons.1 a3.2.1).1 i Y;omega}};obtain⟨k0,e0⟩:=both c8 d3 b2 e3;have s:=c6 c8 d3;have hf:((pre ++ i :: post).filter λk=>k != E)=(pre.filter λk=>k != E) ++ i :: (post.filter λk=>k != E):=by{rw[List.filter_append,List.filter_cons,if_pos (by simpa using b2)]};have e2:((pre ++ post).filter λk=>k != E)=(pre.filter λk=>k != E) ++ (post.filter λk=>k != E):=List.filter_append _ _;rw[hf,<-List.cons_append,z8F,c9] at s;have b6:=zfP (a8 i oi O) ((E :: pre.filter λk=>k != E).map λk=>l.getD k default) ((post.filter λk=>k != E).map λk=>l.getD k default) a w ?_ s;{rw[<-List.map_append,List.cons_append,<-e2] at b6;exact wpOp_mono (λa' w' h'=>ih (pre ++ post) _ a' w' hlen b9 (inv.set hi) h'.1 λ_ _=>h'.2) (z7K a2 (zyJ (by omega) f1 b6))};{intro o ho;obtain⟨j,Y,rfl⟩:=List.mem_map.1 ho;have e1:∀ m,m<=3->z4Z m 0=true:=λm hm=>by{rcases m with _ | _ | _ | _ | m;all_goals first | rfl | omega};rcases List.mem_cons.1 Y with e | Y;{subst e;have b1:=((inv.mem j).1 c8).1;refine⟨e0,a8 j _ (by rw[List.getD_eq_getElem?_getD,List.getElem?_eq_getElem b1];rfl),?_,by unfold movable;simp[k0]⟩;rw[k0];exact e1 _ (z6R _ _ _)};{have Y:=(List.mem_filter.1 Y).1;have a9:j<i:=a3.2.2 j Y i (by simp);have a6:j ∈ pre ++ i :: post:=by{simp[Y]};obtain⟨b0,a7⟩:=(inv.mem j).1 a6;have b7:l[j]?=some l[j]:=List.getElem?_eq_getElem b0;have d0:l.getD j default=l[j]:=by{simp[b0]};rw[d0];have I:=List.all_eq_true.1 hp i (List.mem_range.2 Z);rw[decide_eq_false (show ¬ i<n0 from by have:=a5 i (by simp);omega),Bool.false_or] at I;simp only[O,Bool.and_eq_true] at I;have s:=List.all_eq_true.1 I.2 j (List.mem_range.2 a9);rw[decide_eq_false (show ¬ j<n0 from by have:=a5 j a6;omega),Bool.false_or] at s;simp only[b7,Bool.or_eq_true,Bool.and_eq_true,decide_eq_true_eq] at s;rcases s with (s | s) | s;{exact absurd s (J j a9 a6)};{exact⟨s.1,a8 j _ b7,s.2⟩};{exact absurd s.2 b2}}}};{exact wpOp_mono (λa' w' h'=>ih (pre ++ post) _ a' w' hlen b9 (inv.set hi) h' λh3 h4=>absurd ⟨h3,h4⟩ hb) (z7K a2 f1)}}}
theorem z3P {id:Nat} {Q:Exit->Act->World->Prop} {a:Act} {w:World} {l:List Oper} {x:Oper} (S:World->Prop) (fl sl:List Tmp) (c s:Nat) (hm:P.follows .mixedOrders=true) (hB:y0O fl sl c s l=true)
  (hx:l[s]?=some x) (Z:((List.range l.length).filter λk=>k != s).map (λk=>l.getD k default)=l.take s ++ l.drop (s+1))
  (h:wpC P S true l.toArray fl sl Q l a w.drew) (Y:wpC P S true l.toArray fl sl Q (x :: (l.take s ++ l.drop (s+1))) a w.drew):(Code.region id l.toArray true).wp P Q a w:=by
 simp only[y0O,Bool.and_eq_true] at hB;obtain⟨⟨⟨J,O⟩,b3⟩,b4⟩:=hB;refine wp_region_any hm ?_;have inv:Inv l (Array.replicate l.length false) (List.range l.length):=by{refine⟨List.pairwise_lt_range,λi=>?_,by simp,λj oj hj hl=>?_⟩;{simp only[List.mem_range];constructor;{intro hi;exact⟨hi,by simp[hi]⟩};{exact λhi=>hi.1}};{exfalso;have:j<l.length:=(List.getElem?_eq_some_iff.1 hj).1;simp[this] at hl}};have E:(List.range l.length).map (λk=>l.getD k default)=l:=by{apply List.ext_getElem?;intro i;by_cases hi:i<l.length;{simp[hi]};{simp[hi]}};have I:l.getD s default=x:=by{simp[hx]};have:=z9S (P:=P) (Q:=Q) 0 c s J O b3 (λ_=>b4) l.length (List.range l.length) (Array.replicate l.length false) a w.drew (by simp) (λ_ _=>Nat.zero_le _) inv (by rw[E];exact h) (λ_ _=>by rw[List.map_cons,I,Z];exact Y);simpa using this
def zuF (m:Bool) (fl sl:List Tmp) (l:List Oper):Bool:=
 Region.noSelect l.toArray && znU l (z2L l []) && zgU m 0 fl sl 0 l.length l (z2L l [])
theorem z8X {id:Nat} {Q:Exit->Act->World->Prop} {a:Act} {w:World} {l:List Oper} (S:World->Prop) (fl sl:List Tmp) (O:P.follows .mixedOrders=true) (hB:zuF m fl sl l=true)
  (h:wpC P S m l.toArray fl sl Q l a w.drew):(Code.region id l.toArray true).wp P Q a w:=by
 simp only[zuF,Bool.and_eq_true] at hB;obtain⟨⟨s,E⟩,b3⟩:=hB;refine wp_region_any O ?_;have inv:Inv l (Array.replicate l.length false) (List.range l.length):=by{refine⟨List.pairwise_lt_range,λi=>?_,by simp,λj Y I J=>?_⟩;{simp only[List.mem_range];constructor;{intro hi;exact⟨hi,by simp[hi]⟩};{exact λhi=>hi.1}};{exfalso;have:j<l.length:=(List.getElem?_eq_some_iff.1 I).1;simp[this] at J}};have c:(List.range l.length).map (λk=>l.getD k default)=l:=by{apply List.ext_getElem?;intro i;by_cases hi:i<l.length;{simp[hi]};{simp[hi]}};have:=z9S (P:=P) (Q:=Q) 0 0 l.length s E b3 (λh=>absurd h (Nat.lt_irrefl _)) l.length (List.range l.length) (Array.replicate l.length false) a w.drew (by simp) (λ_ _=>Nat.zero_le _) inv (by rw[c];exact h) (λh=>absurd h (by simp));simpa using this
theorem z0Q {Q:Exit->Act->World->Prop} {a:Act} {w:World} (h:Q .normal a w):wpC P S m ops fl sl Q [] a w:=h
theorem z0B {Q:Exit->Act->World->Prop} {a:Act} {w:World} {o:Oper} {rest:List Oper} {v:Value} {j:Act} (hk:z3C fl sl o=0) (E:S w)
  (h:∀ (K:Value->Act->Prop) (w':World),S w'->K v j->if Region.wanted o (yielded ops a.tmps)=true then calm P o a w' (λu=>K u (a.put o.dst u)) else K undef (a.put o.dst undef))
  (O:wpC P S m ops fl sl Q rest j w):wpC P S m ops fl sl Q (o :: rest) a w:=by
 show wpO _ _ _ _ _ _ _ _ _ _;unfold wpO;have c:=λw' I=>h (λu b=>u=v/\b=j) w' I ⟨rfl,rfl⟩;split;{rename_i J;simp only[J,if_true] at c;refine⟨E,?_⟩;rw[if_pos (by omega)];refine⟨v,λw' I _=>?_,?_⟩;{obtain⟨u,Z,s,_⟩:=z9V (c w' I);rw[<-s];exact Z};{obtain⟨u,_,s,Y⟩:=z9V (c w E);rw[<-s,Y];exact O}};{rename_i J;simp only[J] at c;have:=(c w E).2;rw[this];exact O}
theorem z0K {Q:Exit->Act->World->Prop} {a:Act} {w:World} {o:Oper} {rest:List Oper} {v:Value} {E:Act} (hk:z3C fl sl o=1) (c:zwD fl o=1) (Z:S w)
  (h:∀ (K:Value->Act->Prop),K v E->if Region.wanted o (yielded ops a.tmps)=true then calm P o a w (λu=>K u (a.put o.dst u)) else K undef (a.put o.dst undef))
  (J:wpC P S m ops fl sl Q rest E w):wpC P S m ops fl sl Q (o :: rest) a w:=by
 show wpO _ _ _ _ _ _ _ _ _ _;unfold wpO;have s:=h (λu b=>u=v/\b=E) ⟨rfl,rfl⟩;split;{rename_i I;simp only[I,if_true] at s;refine⟨Z,?_⟩;rw[if_pos (by omega)];obtain⟨u,hu,O,Y⟩:=z9V s;refine⟨v,λw' _ hp=>?_,by rw[<-O,Y];exact J⟩;rw[<-O];have j:SemReads P (execOp a.eval o):=by{(obtain⟨dst,op,type,pos,after,guard⟩:=o;unfold zwD at c;unfold execOp;cases op <;> simp only at c <;> try (exfalso;revert c;decide));case load t x=>exact SemReads.bind (ziY t _) λ_=>zoE _};exact(j.later _ _ _ hu).2 w' (hp hk)};{rename_i I;simp only[I] at s;have:=s.2;rw[this];exact J}
theorem zvR {Q:Exit->Act->World->Prop} {a:Act} {w:World} {o:Oper} {rest:List Oper} (hk:¬ z3C fl sl o<=1) (J:Region.wanted o (yielded ops a.tmps)=true) (I:S w)
  (h:∀ K:Act->World->Prop,(∀ c w',(z3C fl sl o=3->Pre w w')->Sk m o S w'->wpC P S m ops fl sl Q rest c w'->K c w')->o.wp P a w K noQ):wpC P S m ops fl sl Q (o :: rest) a w:=by
 show wpO _ _ _ _ _ _ _ _ _ _;unfold wpO;rw[if_pos J,if_neg hk];exact⟨I,Oper.wp_mono (λc w' j=>j) (h (λc w'=>((z3C fl sl o=3->Pre w w')/\Sk m o S w')/\wpC P S m ops fl sl Q rest c w') λ_ _ s E j=>⟨⟨s,E⟩,j⟩)⟩
theorem z0F {Q:Exit->Act->World->Prop} {a:Act} {w:World} {o:Oper} {rest:List Oper} (hk:¬ z3C fl sl o<=1) (s:o.guard=none) (j:S w)
  (h:∀ K:Act->World->Prop,(∀ c w',(z3C fl sl o=3->Pre w w')->Sk m o S w'->wpC P S m ops fl sl Q rest c w'->K c w')->o.wp P a w K noQ):wpC P S m ops fl sl Q (o :: rest) a w:=
 zvR hk (by simp[Region.wanted,s]) j h
theorem z4O {Q:Exit->Act->World->Prop} {a:Act} {w:World} {o:Oper} {rest:List Oper} {v:Value} {j:Act} (hk:z3C fl sl o=1) (E:S w)
  (h:∀ (K:Value->Act->Prop) (w':World),S w'->Pre w w'->K v j->if Region.wanted o (yielded ops a.tmps)=true then calm P o a w' (λu=>K u (a.put o.dst u)) else K undef (a.put o.dst undef))
  (Z:wpC P S m ops fl sl Q rest j w):wpC P S m ops fl sl Q (o :: rest) a w:=by
 show wpO _ _ _ _ _ _ _ _ _ _;unfold wpO;have c:=λw' J I=>h (λu b=>u=v/\b=j) w' J I ⟨rfl,rfl⟩;split;{rename_i Y;simp only[Y,if_true] at c;refine⟨E,?_⟩;rw[if_pos (by omega)];obtain⟨u,hu,h3,h4⟩:=z9V (c w E (Pre.refl _));refine⟨v,λw' J I=>?_,by rw[<-h3,h4];exact Z⟩;obtain⟨u',O,s,_⟩:=z9V (c w' J (I hk));rw[<-s];exact O};{rename_i Y;simp only[Y] at c;have:=(c w E (Pre.refl _)).2;rw[this];exact Z}
end
end Twin
section
variable {P:Program} {ops:Array Oper} {fl:List Tmp}
abbrev wpC (P:Program) (ops:Array Oper) (fl:List Tmp) (Q:Exit→Act→World→Prop):List Oper→Act→World→Prop:=Twin.wpC P (fun _=>True) true ops fl [] Q
theorem z6S (fl:List Tmp) (o:Oper):Twin.z3C fl [] o=z7P fl o:=by
 obtain⟨dst,op,type,pos,after,guard⟩:=o;unfold Twin.z3C z7P;cases op <;> first | rfl | (cases dst <;> rfl)
theorem z0E {id:Nat} {Q:Exit->Act->World->Prop} {a:Act} {w:World} {l:List Oper} (fl:List Tmp) (c:P.follows .mixedOrders=true) (hB:Twin.zuF true fl [] l=true)
  (h:wpC P l.toArray fl Q l a w.drew):(Code.region id l.toArray true).wp P Q a w:=Twin.z8X (λ_=>True) fl [] c hB h
theorem z0Q {Q:Exit->Act->World->Prop} {a:Act} {w:World} (h:Q .normal a w):wpC P ops fl Q [] a w:=h
theorem z0B {Q:Exit->Act->World->Prop} {a:Act} {w:World} {o:Oper} {rest:List Oper} {v:Value} {c:Act} (hk:z7P fl o=0)
  (h:∀ (K:Value->Act->Prop) (w':World),K v c->if Region.wanted o (yielded ops a.tmps)=true then calm P o a w' (λu=>K u (a.put o.dst u)) else K undef (a.put o.dst undef))
  (j:wpC P ops fl Q rest c w):wpC P ops fl Q (o :: rest) a w:=Twin.z0B (by rw[z6S];exact hk) trivial (λK w' _=>h K w') j
theorem z0K {Q:Exit->Act->World->Prop} {a:Act} {w:World} {o:Oper} {rest:List Oper} {v:Value} {j:Act} (c:zwD fl o=1)
  (h:∀ (K:Value->Act->Prop),K v j->if Region.wanted o (yielded ops a.tmps)=true then calm P o a w (λu=>K u (a.put o.dst u)) else K undef (a.put o.dst undef))
  (s:wpC P ops fl Q rest j w):wpC P ops fl Q (o :: rest) a w:=Twin.z0K (by
  rw[z6S];unfold zwD at c;split at c;{exact c}
  ·cases c) c trivial h s
theorem z4O {Q:Exit->Act->World->Prop} {a:Act} {w:World} {o:Oper} {rest:List Oper} {v:Value} {c:Act} (hk:z7P fl o=1)
  (h:∀ (K:Value->Act->Prop) (w':World),Pre w w'->K v c->if Region.wanted o (yielded ops a.tmps)=true then calm P o a w' (λu=>K u (a.put o.dst u)) else K undef (a.put o.dst undef))
  (j:wpC P ops fl Q rest c w):wpC P ops fl Q (o :: rest) a w:=Twin.z4O (by rw[z6S];exact hk) trivial (λK w' _=>h K w') j
theorem z0F {Q:Exit->Act->World->Prop} {a:Act} {w:World} {o:Oper} {rest:List Oper} (hk:z7P fl o=2) (s:o.guard=none)
  (h:∀ K:Act->World->Prop,(∀ c w',wpC P ops fl Q rest c w'->K c w')->o.wp P a w K noQ):wpC P ops fl Q (o :: rest) a w:=
 Twin.z0F (by rw[z6S];omega) s trivial λK j=>h K λc w' E=>j c w' (λe=>by rw[z6S] at e;omega) trivial E
theorem z4S {Q:Exit->Act->World->Prop} {a:Act} {w:World} {o:Oper} {rest:List Oper} (hk:z7P fl o=3) (s:o.guard=none)
  (h:∀ K:Act->World->Prop,(∀ c w',Pre w w'->wpC P ops fl Q rest c w'->K c w')->o.wp P a w K noQ):wpC P ops fl Q (o :: rest) a w:=
 Twin.z0F (by rw[z6S];omega) s trivial λK j=>h K λc w' I E=>j c w' (λ_=>I) trivial E
end
end
namespace Held
open Go.RowKit Go.Proofs.YtkhddpiopbmhjaaGreat
theorem z1X {P:Program} {id:Nat} {Q:Exit->Act->World->Prop} {a:Act} {w:World} {l:List Oper} (S:World->Prop) (fl sl:List Tmp) (c:P.follows .mixedOrders=true) (hB:Twin.zuF false fl sl l=true)
  (h:Twin.wpC P S false l.toArray fl sl Q l a w.drew):(Code.region id l.toArray true).wp P Q a w:=Twin.z8X S fl sl c hB h
end Held
section
open Go.RowKit
variable {P:Program} {ops:Array Oper} {fl:List Tmp}
end
end Go.Proofs.YtkhddpiopbmhjaaGreat
