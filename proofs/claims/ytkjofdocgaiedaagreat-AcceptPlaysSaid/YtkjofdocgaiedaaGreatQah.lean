/- Texts Later, Pool in one. Conditions: as each law names them. -/
import Derived.BigQuiet
import Derived.Test.YtkjofdocgaiedaaGreatQac
set_option maxRecDepth 20000
set_option maxHeartbeats 8000000
namespace Go.Proofs.YtkjofdocgaiedaaGreat
section
open Go.RowKit
structure Later (w:World) where
 val:World
 keep:Keep (fun _=>False) w val
instance (w:World):Nonempty (Later w):=⟨⟨w,Keep.refl _ _⟩⟩
theorem z0W {P:Program} {id:Nat} {Q:Exit->Act->World->Prop} {a:Act} {w:World} {l:List Oper} (hm:P.follows .mixedOrders=true) (hB:Region.lexB .any l.toArray=true)
  (h:wpQuiet P l.toArray (λw'=>∃ s:Later w,w'=s.val) (λa'=>∀ w',(∃ s:Later w,w'=s.val)->Q .normal a' w') l a):(Code.region id l.toArray true).wp P Q a w:=
 wp_region_quiet (C:=λw'=>∃ s:Later w,w'=s.val) hm hB ⟨⟨_,(Keep.refl _ w).drew⟩,rfl⟩ (by simpa using h)
theorem Later.call {P:Program} {f:FuncId} {args:Array Value} {w:World} {s:Later w} {v:Value} (h:Calls P f args s.val λe w'=>e = .returned v/\Keep (λ_=>False) s.val w') :
  Calls P f args s.val λe w''=>e = .returned v/\∃ t:Later w,w''=t.val:=
 h.mono λ_ w'' ⟨he,hk⟩=>⟨he,⟨w'',s.keep.next hk (λ_ _ x=>x) (λ_ _ x=>x)⟩,rfl⟩
theorem Later.cell {w:World} (s:Later w) {a:Addr} {v:Value} (h:w.cell? a=some v):s.val.cell? a=some v:=by
 rw[World.cell?_of_block (s.keep.block _ (World.block_lt_of_cell? w _ h) id)];exact h
end
section
open Go.RowKit
abbrev VRel:=Value→World→Prop
abbrev Facts:=List (Nat×(World→Prop))
abbrev Same (w w':World):Prop:=Keep (fun _=>False) w w'
theorem Same.trans {a b c:World} (h:Same a b) (k:Same b c):Same a c:=Keep.next h k (λ_ _ x=>x) (λ_ _ x=>x)
def z6V (P:Program) (w:World) (R:VRel):Result Next→Prop
 | .ok (.value v) w'=>Same w w'∧R v w'
 | .ok .skip w'=>Same w w'∧R undef w'
 | .ok (.enter f args) w'=>Calls P f args w' fun e w''=>∃ v,e = .returned v∧Same w w''∧R v w''
 | _=>False
attribute [go_sem] z6V
def goes (P:Program) (B:List (Nat×VRel)) (i:Nat) (o:Oper) (a:Act) (R:VRel) (w:World):Prop:=
 match B.lookup i with
 | some R'=>R=R'∧z6V P w R ((execOp a.eval o).run P w)
 | none=>∃ y,R=(fun v _=>v=y)∧(execOp a.eval o).run P w = .ok (.value y) w
def hold (E:Facts) (w:World):Prop:=∀ p ∈ E,p.2 w
def ziO (tbl:List Nat) (E:Facts) (i:Nat) (w:World):Prop:=∀ p ∈ E,ahead tbl p.1 i=true→p.2 w
def Stab (E:Facts):Prop:=∀ p ∈ E,∀ w w',Same w w'→p.2 w→p.2 w'
def StabB (B:List (Nat×VRel)):Prop:=∀ p ∈ B,∀ v w w',Same w w'→p.2 v w→p.2 v w'
def grow (B:List (Nat×VRel)) (i:Nat) (R:VRel) (v:Value) (E:Facts):Facts:=
 match B.lookup i with
 | some _=>E ++ [(i,R v)]
 | none=>E
section
variable {P:Program} {ops:Array Oper} {tbl:List Nat} {w0:World} {B:List (Nat×VRel)} {Q:Exit→Act→World→Prop}
theorem zmM {B:List (Nat×VRel)} {i:Nat} {R:VRel} (h:B.lookup i=some R):(i,R) ∈ B:=by
 induction B with | nil=>{cases h} | cons p B ih=>{obtain⟨k,S⟩:=p;rw[List.lookup_cons] at h;by_cases hik:i=k;{subst hik;rw[show (i == i)=true by simp] at h;simp at h;subst h;exact List.mem_cons_self};{rw[show (i == k)=false by simpa using hik] at h;exact List.mem_cons_of_mem _ (ih h)}}
theorem zvF {i:Nat} {o:Oper} {a:Act} {R:VRel} {w:World} (h:goes P B i o a R w):∃ v w',Same w w'/\R v w':=by
 unfold goes at h;split at h;{obtain⟨_,h⟩:=h;generalize (execOp a.eval o).run P w=r at h;cases r with | ok n w'=>{cases n <;> simp only[z6V] at h;(case value v=>exact⟨v,w',h⟩);(case skip=>exact⟨undef,w',h⟩);case enter f args=>(obtain⟨e,w'',fr,⟨v,he,h1,h2⟩,_⟩:=h [];exact⟨v,w'',h1,h2⟩)} | halt x w'=>{simp only[z6V] at h}};{obtain⟨y,rfl,_⟩:=h;exact⟨y,w,Keep.refl _ _,rfl⟩}
theorem zsM {i:Nat} {o:Oper} {a:Act} {R R':VRel} {w:World} (h:goes P B i o a R w) (h':goes P B i o a R' w):R=R':=by
 unfold goes at h h';split at h;{rename_i R1 hl;simp only[hl] at h';exact h.1.trans h'.1.symm};{rename_i hl;simp only[hl] at h';obtain⟨y,rfl,h1⟩:=h;obtain⟨y',rfl,h2⟩:=h';rw[h1] at h2;simp at h2;rw[h2]}
theorem zdG {i:Nat} {o:Oper} {a a':Act} {R:VRel} {w:World} (he:execOp a'.eval o=execOp a.eval o) (h:goes P B i o a R w):goes P B i o a' R w:=by
 unfold goes at *;rw[he];exact h
theorem zlK (i:Nat) (R:VRel) (v:Value) (E:Facts):∀ p ∈ E,p ∈ grow B i R v E:=by
 intro p hp;unfold grow;split;{exact List.mem_append_left _ hp};{exact hp}
theorem zfE {i:Nat} {R:VRel} {v:Value} {E:Facts} {p:Nat×(World->Prop)} (h:p ∈ grow B i R v E):p ∈ E∨(p=(i,R v)/\∃ R',B.lookup i=some R'):=by
 unfold grow at h;split at h;{rename_i R' hl;rcases List.mem_append.1 h with h | h;{exact .inl h};{exact .inr ⟨by simpa using h,R',hl⟩}};{exact .inl h}
theorem zbZ {i:Nat} {R:VRel} {v:Value} {E:Facts} {w:World} (h:hold E w) (hR:R v w):hold (grow B i R v E) w:=λp hp=>by
 rcases zfE hp with x | ⟨rfl,_⟩;{exact h p x};{exact hR}
theorem ziB {i:Nat} {o:Oper} {a:Act} {R:VRel} {v:Value} {E:Facts} {w:World} (hB:StabB B) (h:Stab E) (hg:goes P B i o a R w):Stab (grow B i R v E):=λp hp=>by
 rcases zfE hp with x | ⟨rfl,R',hl⟩;{exact h p x};{unfold goes at hg;rw[hl] at hg;obtain⟨rfl,_⟩:=hg;exact λw w' hk hx=>hB _ (zmM hl) v w w' hk hx}
theorem zsR {i:Nat} {o:Oper} {a:Act} {R:VRel} {v:Value} {E:Facts} {w w1 w2:World} (hg:goes P B i o a R w) (h1:R v w1) (h2:hold (grow B i R v E) w2):R v w2:=by
 unfold goes at hg;cases hl:B.lookup i with | none=>{rw[hl] at hg;obtain⟨y,rfl,_⟩:=hg;exact h1} | some R'=>{exact h2 (i,R v) (by unfold grow;rw[hl];simp)}
def z5Q (P:Program) (ops:Array Oper) (tbl:List Nat) (w0:World) (B:List (Nat×VRel)) (i:Nat) (o:Oper) (K:Act→Facts→Prop) (a:Act) (E:Facts):Prop:=
 if Region.wanted o (yielded ops a.tmps)=true then
  ∃ R:VRel,(∀ s:Later w0,ziO tbl E i s.val→goes P B i o a R s.val)∧∀ v,(∃ s:Later w0,hold E s.val∧R v s.val)→K (a.put o.dst v) (grow B i R v E)
 else K (a.put o.dst undef) E
def wpP (P:Program) (ops:Array Oper) (tbl:List Nat) (w0:World) (B:List (Nat×VRel)) (Q:Exit→Act→World→Prop):List (Nat×Oper)→Act→Facts→Prop
 | [],a,E=>∀ s:Later w0,hold E s.val→Q .normal a s.val
 | p :: r,a,E=>z5Q P ops tbl w0 B p.1 p.2 (wpP P ops tbl w0 B Q r) a E
def z8Q (P:Program) (ops:Array Oper) (w0:World) (B:List (Nat×VRel)) (i:Nat) (o:Oper) (K:Act→Facts→Prop) (a:Act) (E:Facts) (w:World):Prop:=
 if Region.wanted o (yielded ops a.tmps)=true then
  ∃ R:VRel,goes P B i o a R w∧∀ v,(∃ s:Later w0,hold E s.val∧R v s.val)→K (a.put o.dst v) (grow B i R v E)
 else K (a.put o.dst undef) E
theorem zfA:∀ (r:List (Nat×Oper)) (a:Act) (E E':Facts),(∀ p,p ∈ E↔p ∈ E')->wpP P ops tbl w0 B Q r a E->wpP P ops tbl w0 B Q r a E'
 | [],a,E,E',he,h=>λs hs=>h s λp hp=>hs p ((he p).1 hp)
 | q :: r,a,E,E',he,h=>by{show z5Q _ _ _ _ _ _ _ _ _ _;have h':z5Q _ _ _ _ _ _ _ _ _ _:=h;unfold z5Q at *;split;{rename_i hw;rw[if_pos hw] at h';obtain⟨R,h1,h2⟩:=h';refine⟨R,λs hs=>h1 s λp hp=>hs p ((he p).1 hp),λv ⟨s,hs,hR⟩=>?_⟩;refine zfA r _ _ _ (λp=>?_) (h2 v ⟨s,λp hp=>hs p ((he p).1 hp),hR⟩);unfold grow;split;{simp only[List.mem_append,he p]};{exact he p}};{rename_i hw;rw[if_neg hw] at h';exact zfA r _ _ _ he h'}}
theorem zmA (hB:StabB B) {i:Nat} {oi:Oper} (hsi:∀ cs b,oi.op≠.select cs b) (s:Later w0) (post:List (Nat×Oper)):∀ (pre:List (Nat×Oper)) (a:Act) (E:Facts),
  (∀ p ∈ pre,p.2.apart ops oi=true/\(∀ cs b,p.2.op≠.select cs b)/\ahead tbl p.1 i=false)->Stab E->(∃ t:Later w0,hold E t.val)->ziO tbl E i s.val->
  wpP P ops tbl w0 B Q (pre ++ (i,oi) :: post) a E->z8Q P ops w0 B i oi (wpP P ops tbl w0 B Q (pre ++ post)) a E s.val
 | [],a,E,_,_,_,hE,h=>by{have h':z5Q _ _ _ _ _ _ _ _ _ _:=h;unfold z5Q at h';unfold z8Q;split;{rename_i hw;rw[if_pos hw] at h';obtain⟨R,h1,h2⟩:=h';exact⟨R,h1 s hE,h2⟩};{rename_i hw;rw[if_neg hw] at h';exact h'}}
 | (j,o) :: pre,a,E,hc,hst,⟨t,ht⟩,hE,h=>by{obtain⟨hap,hso,hah⟩:=hc (j,o) (by simp);simp only at hap hso hah;obtain⟨h1,h2,h3⟩:=Oper.apart_spec hap;have h2':∀ d,oi.dst=some d->o.dst≠some d:=λd hd hod=>h2 d hod hd;have wi:∀ v,Region.wanted oi (yielded ops (a.put o.dst v).tmps)=Region.wanted oi (yielded ops a.tmps):=λv=>wanted_put oi a o.dst v h1;have wo:∀ v,Region.wanted o (yielded ops (a.put oi.dst v).tmps)=Region.wanted o (yielded ops a.tmps):=λv=>wanted_put o a oi.dst v h3;have ei:∀ v,execOp (a.put o.dst v).eval oi=execOp a.eval oi:=λv=>execOp_put oi hsi a o.dst v h1;have eo:∀ v,execOp (a.put oi.dst v).eval o=execOp a.eval o:=λv=>execOp_put o hso a oi.dst v h3;have pc:∀ u v,(a.put oi.dst u).put o.dst v=(a.put o.dst v).put oi.dst u:=λu v=>Act.put_comm a u v h2';have ih:=zmA hB (i:=i) hsi s post pre;have hc':∀ p ∈ pre,p.2.apart ops oi=true/\(∀ cs b,p.2.op≠.select cs b)/\ahead tbl p.1 i=false:=λp hp=>hc p (by simp[hp]);have h':z5Q P ops tbl w0 B j o (wpP P ops tbl w0 B Q (pre ++ (i,oi) :: post)) a E:=h;unfold z5Q at h';by_cases hwo:Region.wanted o (yielded ops a.tmps)=true;{rw[if_pos hwo] at h';obtain⟨Rj,hj1,hj2⟩:=h';have hgt:=hj1 t λp hp _=>ht p hp;have IH:∀ v,(∃ s:Later w0,hold E s.val/\Rj v s.val)->z8Q P ops w0 B i oi (wpP P ops tbl w0 B Q (pre ++ post)) (a.put o.dst v) (grow B j Rj v E) s.val:=λv hv=>by{obtain⟨s2,hs2,hR2⟩:=hv;refine ih _ _ hc' (ziB hB hst hgt) ⟨s2,zbZ hs2 hR2⟩ (λp hp ha=>?_) (hj2 v ⟨s2,hs2,hR2⟩);rcases zfE hp with x | ⟨rfl,_⟩;{exact hE p x ha};{rw[hah] at ha;cases ha}};have hgood:∃ v,∃ s:Later w0,hold E s.val/\Rj v s.val:=by{obtain⟨v,w',hk,hR⟩:=zvF hgt;exact⟨v,⟨w',Same.trans t.keep hk⟩,λp hp=>hst p hp _ _ hk (ht p hp),hR⟩};by_cases hwi:Region.wanted oi (yielded ops a.tmps)=true;{obtain⟨v0,hv0⟩:=hgood;have H0:=IH v0 hv0;unfold z8Q at H0 |-;rw[if_pos (by rw[wi];exact hwi)] at H0;rw[if_pos hwi];obtain⟨Ri,hi1,-⟩:=H0;have hi:goes P B i oi a Ri s.val:=zdG (ei v0).symm hi1;refine⟨Ri,hi,λv hv=>?_⟩;show z5Q P ops tbl w0 B j o (wpP P ops tbl w0 B Q (pre ++ post)) _ _;unfold z5Q;rw[if_pos (by rw[wo];exact hwo)];refine⟨Rj,λs3 hs3=>zdG (eo v) (hj1 s3 λp hp=>hs3 p (zlK _ _ _ _ p hp)),λvj hvj=>?_⟩;obtain⟨s4,hs4,hR4⟩:=hvj;have hs4':hold E s4.val:=λp hp=>hs4 p (zlK _ _ _ _ p hp);have H1:=IH vj ⟨s4,hs4',hR4⟩;unfold z8Q at H1;rw[if_pos (by rw[wi];exact hwi)] at H1;obtain⟨Ri',hi1',hi2'⟩:=H1;obtain rfl:Ri'=Ri:=zsM (zdG (ei vj).symm hi1') hi;obtain⟨s5,hs5,hR5⟩:=hv;have H2:=hi2' v ⟨s4,zbZ hs4' hR4,zsR hi hR5 hs4⟩;rw[pc];refine zfA _ _ _ _ (λp=>?_) H2;unfold grow;split <;> split <;> simp only[List.mem_append,List.mem_singleton];rw[or_assoc,or_assoc,or_comm (a:=p=(j,Rj vj))]};{unfold z8Q;rw[if_neg hwi];show z5Q P ops tbl w0 B j o (wpP P ops tbl w0 B Q (pre ++ post)) _ _;unfold z5Q;rw[if_pos (by rw[wo];exact hwo)];refine⟨Rj,λs3 hs3=>zdG (eo undef) (hj1 s3 hs3),λvj hvj=>?_⟩;have H1:=IH vj hvj;unfold z8Q at H1;rw[if_neg (by rw[wi];exact hwi)] at H1;rw[pc];exact H1}};{rw[if_neg hwo] at h';have H0:=ih _ _ hc' hst ⟨t,ht⟩ hE h';unfold z8Q at H0 |-;by_cases hwi:Region.wanted oi (yielded ops a.tmps)=true;{rw[if_pos (by rw[wi];exact hwi)] at H0;rw[if_pos hwi];obtain⟨Ri,hi1,hi2⟩:=H0;refine⟨Ri,zdG (ei undef).symm hi1,λv hv=>?_⟩;show z5Q P ops tbl w0 B j o (wpP P ops tbl w0 B Q (pre ++ post)) _ _;unfold z5Q;rw[if_neg (by rw[wo];exact hwo),pc];exact hi2 v hv};{rw[if_neg (by rw[wi];exact hwi)] at H0;rw[if_neg hwi];show z5Q P ops tbl w0 B j o (wpP P ops tbl w0 B Q (pre ++ post)) _ _;unfold z5Q;rw[if_neg (by rw[wo];exact hwo),pc];exact H0}}}
theorem zeY {i:Nat} {o:Oper} (hi:ops[i]?=some o) {a:Act} {E:Facts} {s:Later w0} {K:Act->Facts->Prop} {K':Act->World->Prop} (hB:StabB B) (hst:Stab E) (hE:hold E s.val)
  (h:z8Q P ops w0 B i o K a E s.val) (hK:∀ a' E' (t:Later w0),Stab E'->hold E' t.val->K a' E'->K' a' t.val):wpOp P ops Q i K' a s.val:=by
 unfold wpOp;simp only[hi];unfold z8Q at h;split;{rename_i hw;rw[if_pos hw] at h;refine .inl ?_;obtain⟨R,hg,h2⟩:=h;have fin:∀ v w',Same s.val w'->R v w'->K' (a.put o.dst v) w':=λv w' hk hR=>by{have hE':hold E w':=λp hp=>hst p hp _ _ hk (hE p hp);exact hK _ _ ⟨w',Same.trans s.keep hk⟩ (ziB hB hst hg) (zbZ hE' hR) (h2 v ⟨⟨w',Same.trans s.keep hk⟩,hE',hR⟩)};have hg2:=hg;unfold goes at hg2;unfold Oper.wp;split at hg2;{obtain⟨_,hg3⟩:=hg2;generalize (execOp a.eval o).run P s.val=r at *;cases r with | ok n w'=>{cases n <;> simp only[z6V,Oper.upon] at hg3 |-;(case value v=>exact fin v w' hg3.1 hg3.2);(case skip=>exact fin undef w' hg3.1 hg3.2);case enter f args=>(refine Calls.mono hg3 λe w'' he=>?_;obtain⟨v,rfl,h4,h5⟩:=he;exact fin v w'' h4 h5)} | halt x w'=>{simp only[z6V] at hg3}};{obtain⟨y,rfl,hr⟩:=hg2;rw[hr];exact fin y s.val (Keep.refl _ _) rfl}};{rename_i hw;rw[if_neg hw] at h;exact hK _ _ s hst hE h}
end
def zvC (l:List Oper) (tbl:List Nat):Bool:=
 (List.range l.length).all fun i=>match l[i]? with
  | none=>true
  | some oi=>(oi.after.all fun e=>!Region.binds .any e || decide (e.on<i)) && (List.range i).all fun j=>match l[j]? with
    | none=>true
    | some oj=>ahead tbl j i || oj.apart l.toArray oi
def zwO (l:List Oper):Bool:=Region.noSelect l.toArray && ziT l (z1P l []) && zvC l (z1P l [])
section
variable {P:Program} {w0:World} {B:List (Nat×VRel)} {Q:Exit→Act→World→Prop}
theorem zgG {l:List Oper} (hB:StabB B) (hs:Region.noSelect l.toArray=true) (ht:ziT l (z1P l [])=true) (hp:zvC l (z1P l [])=true) :
  ∀ (n:Nat) (r:List Nat) (listed:Array Bool) (a:Act) (s:Later w0) (E:Facts),r.length=n->Inv l listed r->Stab E->hold E s.val-> wpP P l.toArray (z1P l []) w0 B Q (r.map λk=>(k,l.getD k default)) a E->wpAny P .any l.toArray Q n listed a s.val:=by
 have hsel:∀ (k:Nat) (o:Oper),l[k]?=some o->∀ cs b,o.op≠.select cs b:=λk o hk cs b=>Region.noSelect_spec hs k o cs b (by simpa using hk);intro n;induction n with
 | zero=>
   intro r listed a s E hn inv hst hE h;have:r = []:=List.eq_nil_of_length_eq_zero hn;subst this;refine⟨?_,h s hE⟩;apply List.eq_nil_iff_forall_not_mem.2;intro i hi;obtain⟨hun,oi,hoi,_⟩:=mem_ready.1 hi;have hlt:i<l.length:=by{simpa using (Array.getElem?_eq_some_iff.1 hoi).1};simpa using (inv.mem i).2 ⟨hlt,hun⟩
 | succ n ih=>
   intro r listed a s E hn inv hst hE h;refine⟨λhnil=>?_,λi hi=>?_⟩
   ·exfalso
    match r,hn with
    | i :: r',_=>
      obtain⟨hlt,hun⟩:=(inv.mem i).1 (by simp);have hoi:l[i]?=some l[i]:=List.getElem?_eq_getElem hlt;have hmem:i ∈ Region.ready .any l.toArray listed:=by{refine mem_ready.2 ⟨hun,l[i],by simp[hlt],λe he hb=>?_⟩;have h1:=List.all_eq_true.1 hp i (List.mem_range.2 hlt);simp only[hoi,Bool.and_eq_true] at h1;have h2:=Array.all_eq_true_iff_forall_mem.1 h1.1 e he;simp only[hb,Bool.not_true,Bool.false_or,decide_eq_true_eq] at h2;cases hl:listed.getD e.on false with | true=>{rfl} | false=>{exfalso;have hl':listed.getD e.on true=false:=by{have hsz:e.on<listed.size:=by{rw[inv.size];omega};simp[hsz] at hl |-;exact hl};have hin:=(inv.mem e.on).2 ⟨by omega,hl'⟩;have hso:=inv.sorted;rw[List.pairwise_cons] at hso;rcases List.mem_cons.1 hin with h3 | h3;{omega};{have:=hso.1 _ h3;omega}}};rw[hnil] at hmem;cases hmem
   {obtain⟨hun,oi,hoi,hall⟩:=mem_ready.1 hi;have hlt:i<l.length:=by{simpa using (Array.getElem?_eq_some_iff.1 hoi).1};have hoi':l[i]?=some oi:=by{simpa using hoi};have hin:=(inv.mem i).2 ⟨hlt,hun⟩;obtain⟨pre,post,rfl⟩:=List.append_of_mem hin;have hgi:l.getD i default=oi:=by{simp[hoi']};have hso:=inv.sorted;rw[List.pairwise_append] at hso;rw[List.map_append,List.map_cons,hgi] at h;have hmv:=zmA hB (hsel i oi hoi') s (post.map λk=>(k,l.getD k default)) (pre.map λk=>(k,l.getD k default)) a E ?_ hst ⟨s,hE⟩ (λp hp _=>hE p hp) h;{rw[<-List.map_append] at hmv;refine zeY hoi hB hst hE hmv λa' E' t hst' hE' h'=>ih (pre ++ post) _ a' t E' ?_ (inv.set hi) hst' hE' h';simp at hn |-;omega};{intro p hpm;obtain⟨j,hj,rfl⟩:=List.mem_map.1 hpm;have hji:j<i:=hso.2.2 j hj i (by simp);obtain⟨hjl,hjun⟩:=(inv.mem j).1 (by simp[hj]);have hoj:l[j]?=some l[j]:=List.getElem?_eq_getElem hjl;have hgj:l.getD j default=l[j]:=by{simp[hjl]};simp only[hgj];have hna:ahead (z1P l []) j i=false:=by{cases ha:ahead (z1P l []) j i with | false=>{rfl} | true=>{exfalso;have h3:=zaX ht inv (i+1) i j oi (by omega) hji hoi' hall ha;have hsz:j<listed.size:=by{rw[inv.size];exact hjl};simp[hsz] at h3 hjun;rw[h3] at hjun;cases hjun}};have h1:=List.all_eq_true.1 hp i (List.mem_range.2 hlt);simp only[hoi',Bool.and_eq_true] at h1;have h2:=List.all_eq_true.1 h1.2 j (List.mem_range.2 hji);simp only[hoj,hna,Bool.false_or] at h2;exact⟨h2,hsel j _ hoj,hna⟩}}
def wpT (P:Program) (ops:Array Oper) (tbl:List Nat) (w0:World) (B:List (Nat×VRel)) (Q:Exit→Act→World→Prop):Nat→List Oper→Act→Facts→Prop
 | _,[],a,E=>∀ s:Later w0,hold E s.val→Q .normal a s.val
 | k,o :: r,a,E=>z5Q P ops tbl w0 B k o (wpT P ops tbl w0 B Q (k+1) r) a E
theorem zdX {ops:Array Oper} {tbl:List Nat}:∀ (r:List Oper) (k:Nat),wpP P ops tbl w0 B Q ((List.range' k r.length).zip r)=wpT P ops tbl w0 B Q k r
 | [],k=>rfl
 | o :: r,k=>by{rw[List.length_cons,List.range'_succ,List.zip_cons_cons];(funext a E);show z5Q _ _ _ _ _ _ _ _ _ _=z5Q _ _ _ _ _ _ _ _ _ _;rw[zdX r (k+1)]}
theorem z8N {id:Nat} {a:Act} {w:World} {l:List Oper} (B:List (Nat×VRel)) (hm:P.follows .mixedOrders=true) (hB:zwO l=true) (hst:StabB B)
  (h:wpT P l.toArray (z1P l []) w B Q 0 l a []):(Code.region id l.toArray true).wp P Q a w:=by
 simp only[zwO,Bool.and_eq_true] at hB;refine wp_region_any hm ?_;have inv:Inv l (Array.replicate l.length false) (List.range l.length):=by{refine⟨List.pairwise_lt_range,λi=>?_,by simp,λj oj hj hl=>?_⟩;{simp only[List.mem_range];constructor;{intro hi;exact⟨hi,by simp[hi]⟩};{exact λhi=>hi.1}};{exfalso;have:j<l.length:=(List.getElem?_eq_some_iff.1 hj).1;simp[this] at hl}};have hmap:(List.range l.length).map (λk=>(k,l.getD k default))=(List.range' 0 l.length).zip l:=by{rw[<-List.range_eq_range'];apply List.ext_getElem;{simp};{intro i h1 h2;simp at h1;simp[h1]}};have:=zgG (P:=P) (Q:=Q) (w0:=w) hst hB.1.1 hB.1.2 hB.2 l.length (List.range l.length) (Array.replicate l.length false) a ⟨w.drew,(Keep.refl _ w).drew⟩ [] (by simp) inv (λp hp=>by simp at hp) (λp hp=>by simp at hp) (by rw[hmap,zdX];exact h);simpa using this
theorem zpU {ops:Array Oper} {tbl:List Nat} {k:Nat} {a:Act} {E:Facts} (h:∀ s:Later w0,hold E s.val->Q .normal a s.val):wpT P ops tbl w0 B Q k [] a E:=h
theorem z3U {ops:Array Oper} {tbl:List Nat} {k:Nat} {o:Oper} {r:List Oper} {a a':Act} {E:Facts} {v:Value} (hl:B.lookup k=none)
  (h:∀ (K:Value->Act->Prop) (s:Later w0),K v a'->if Region.wanted o (yielded ops a.tmps)=true then calm P o a s.val (λu=>K u (a.put o.dst u)) else K undef (a.put o.dst undef))
  (h2:wpT P ops tbl w0 B Q (k+1) r a' E):wpT P ops tbl w0 B Q k (o :: r) a E:=by
 show z5Q _ _ _ _ _ _ _ _ _ _;unfold z5Q;have hh:=λs=>h (λu b=>u=v/\b=a') s ⟨rfl,rfl⟩;have hg:∀ R v,grow B k R v E=E:=λR v=>by{unfold grow;rw[hl]};split;{rename_i hw;simp only[hw,if_true] at hh;have hv:∀ s:Later w0,(execOp a.eval o).run P s.val = .ok (.value v) s.val/\a.put o.dst v=a':=λs=>by{obtain⟨u,hu,rfl,h4⟩:=z8A (hh s);exact⟨hu,h4⟩};refine⟨λu _=>u=v,λs _=>?_,λu ⟨s,_,hu⟩=>?_⟩;{unfold goes;rw[hl];exact⟨v,rfl,(hv s).1⟩};{subst hu;rw[hg,(hv s).2];exact h2}};{rename_i hw;simp only[hw] at hh;have:=(hh ⟨w0,Keep.refl _ _⟩).2;rw[this];exact h2}
theorem z4X {ops:Array Oper} {tbl:List Nat} {k:Nat} {o:Oper} {r:List Oper} {a:Act} {E:Facts} {R:VRel} (hl:B.lookup k=some R) (hw:Region.wanted o (yielded ops a.tmps)=true)
  (h:∀ s:Later w0,ziO tbl E k s.val->z6V P s.val R ((execOp a.eval o).run P s.val))
  (h2:∀ v,(∃ s:Later w0,hold E s.val/\R v s.val)->∀ K:Act->Prop,(∀ a',wpT P ops tbl w0 B Q (k+1) r a' (E ++ [(k,R v)])->K a')->K (a.put o.dst v)):wpT P ops tbl w0 B Q k (o :: r) a E:=by
 show z5Q _ _ _ _ _ _ _ _ _ _;unfold z5Q;rw[if_pos hw];refine⟨R,λs hs=>?_,λv hv=>?_⟩;{unfold goes;rw[hl];exact⟨rfl,h s hs⟩};{have hg:grow B k R v E=E ++ [(k,R v)]:=by{unfold grow;rw[hl]};rw[hg];exact h2 v hv (λa'=>wpT P ops tbl w0 B Q (k+1) r a' (E ++ [(k,R v)])) λ_ x=>x}
end
end
end Go.Proofs.YtkjofdocgaiedaaGreat
