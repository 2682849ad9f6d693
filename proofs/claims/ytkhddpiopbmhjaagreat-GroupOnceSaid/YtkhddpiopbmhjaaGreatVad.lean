/- Texts MapA, MirM, StoM in one. Conditions: as each law names them. -/
import Derived.Test.YtkhddpiopbmhjaaGreatChecked
import Derived.Maps.OwnSet
import Derived.Test.YtkhddpiopbmhjaaGreatVaa
import Derived.Test.YtkhddpiopbmhjaaGreatVab
import Derived.Test.YtkhddpiopbmhjaaGreatVac
set_option maxRecDepth 20000
set_option maxHeartbeats 8000000
namespace Go.Proofs.YtkhddpiopbmhjaaGreat
section
open Go.RowKit
open Go.Maps
def anyE (v:Value):Option (DataW Value×List MemPlace):=some (.held v,[])
namespace AL
variable {κ α:Type} [DecidableEq κ]
def get (l:List (κ×α)) (x:κ):Option α:=(l.find? fun p=>decide (p.1=x)).map (·.2)
def del (l:List (κ×α)) (x:κ):List (κ×α):=l.filter fun p=>!decide (p.1=x)
def put (l:List (κ×α)) (x:κ) (v:α):List (κ×α):=del l x ++ [(x,v)]
def Ok (l:List (κ×α)):Prop:=l.Pairwise fun p q=>p.1≠q.1
theorem z6K (x:κ):get ([]:List (κ×α)) x=none:=rfl
theorem z0Y (p:κ×α) (l:List (κ×α)) (x:κ):get (p :: l) x=if p.1=x then some p.2 else get l x:=by
 unfold get;rw[List.find?_cons];by_cases h:p.1=x <;> simp[h]
theorem z6A {l:List (κ×α)} {x:κ}:get l x=none↔∀ p ∈ l,p.1≠x:=by
 unfold get;simp
theorem zaP (l m:List (κ×α)) (x:κ):get (l ++ m) x=(get l x).or (get m x):=by
 induction l with | nil=>{simp[z6K]} | cons p l ih=>{rw[List.cons_append,z0Y,z0Y,ih];by_cases h:p.1=x <;> simp[h]}
theorem z6C (l:List (κ×α)) (x:κ):get (del l x) x=none:=by
 rw[z6A];intro p c;have:=(List.mem_filter.1 c).2;simpa using this
theorem z3W (l:List (κ×α)) {x y:κ} (h:y≠x):get (del l x) y=get l y:=by
 induction l with | nil=>{rfl} | cons p l ih=>{unfold del at ih |-;rw[List.filter_cons];by_cases c:p.1=x;{rw[if_neg (by simp[c]),ih,z0Y,if_neg (by rw[c];exact λe=>h e.symm)]};{rw[if_pos (by simp[c]),z0Y,z0Y,ih]}}
theorem z3J (l:List (κ×α)) (x:κ) (v:α):get (put l x v) x=some v:=by
 unfold put;rw[zaP,z6C,z0Y];simp
theorem z3K (l:List (κ×α)) {x y:κ} (v:α) (h:y≠x):get (put l x v) y=get l y:=by
 unfold put;rw[zaP,z3W l h,z0Y,if_neg (λe=>h e.symm),z6K];cases get l y <;> rfl
theorem Ok.del {l:List (κ×α)} (h:Ok l) (x:κ):Ok (del l x):=List.Pairwise.filter _ h
theorem Ok.put {l:List (κ×α)} (h:Ok l) (x:κ) (v:α):Ok (put l x v):=by
 refine List.pairwise_append.2 ⟨h.del x,List.pairwise_singleton _ _,λp j q c=>?_⟩;have:=(List.mem_filter.1 j).2;simp only[List.mem_singleton] at c;subst c;simpa using this
theorem zaX {l:List (κ×α)} (h:Ok l) (x:κ):(del l x).length+(if (get l x).isSome then 1 else 0)=l.length:=by
 induction l with | nil=>{rfl} | cons p l j=>{have s:=List.pairwise_cons.1 h;have j:=j s.2;unfold del at j |-;rw[List.filter_cons,z0Y];by_cases c:p.1=x;{have E:get l x=none:=z6A.2 λq I e=>s.1 q I (by rw[c,e]);rw[E] at j;rw[if_neg (by simp[c]),if_pos c];simp at j |-;omega};{rw[if_pos (by simp[c]),if_neg c,List.length_cons,List.length_cons];omega}}
end AL
structure KeyK {κ:Type} (k:TypeId) (ke:κ→Lit) (kv:κ→Value) (ok:κ→Prop):Prop where
 keyed:Keyed Tryz.prog k
 inj:∀ x y,ke x=ke y→x=y
 lit:∀ x,WideAt.IsKeyLit (ke x)
 key:∀ x,ok x→keyOf Tryz.prog k (kv x)=some (ke x)
def MapAt {κ α:Type} [DecidableEq κ] (w:World) (b:Nat) (k:TypeId) (ke:κ→Lit) (ve:α→Value) (l:List (κ×α)):Prop:=
 AL.Ok l∧∃ D,w.ownsMap Tryz.prog k anyE b l.length D∧Maps.size D=l.length∧
  (∀ x,Maps.has D (ke x)=(AL.get l x).isSome∧∀ v,AL.get l x=some v→∀ z,D.atKey (ke x) z = .held (ve v))∧
  ∀ kl,Maps.has D kl=true→∃ x,kl=ke x∧(AL.get l x).isSome=true
section
variable {κ α:Type} [DecidableEq κ] {w w':World} {b:Nat} {k t e:TypeId} {ke:κ→Lit} {kv:κ→Value} {ok:κ→Prop} {ve:α→Value} {l:List (κ×α)} {z:Value}
theorem MapAt.made (w:World) (k:TypeId) (ke:κ->Lit) (ve:α->Value):MapAt (w.alloc (.map #[] 0)) w.heap.size k ke ve []:=
 ⟨List.Pairwise.nil,_,World.ownsMap_made w _ k anyE,rfl,λ_=>⟨rfl,λv h=>by cases h⟩,λc h=>by cases h⟩
theorem MapAt.lt (h:MapAt w b k ke ve l):b<w.heap.size:=let ⟨_,_,hD,_⟩:=h;hD.lt
theorem MapAt.keep {F:Nat->Prop} (h:MapAt w b k ke ve l) (hk:Keep F w w') (J:¬ F b):MapAt w' b k ke ve l:=by
 obtain⟨c,D,⟨es,clock,hb,F',O,I⟩,j,s,E⟩:=h;exact⟨c,D,⟨es,clock,hk.get hb J,F',O,I⟩,j,s,E⟩
theorem MapAt.pre (h:MapAt w b k ke ve l) (hk:Pre w w'):MapAt w' b k ke ve l:=by
 obtain⟨c,D,⟨es,clock,hb,F',J,I⟩,j,s,E⟩:=h;exact⟨c,D,⟨es,clock,z5Q hk hb,F',J,I⟩,j,s,E⟩
theorem Keep.mapTurned {F:Nat->Prop} {a:World} (h:Keep F a w) (s:w.mapTurned w' b) (hb:F b∨a.heap.size<=b):Keep F a w':=
 h.grown s.grown (λj c=>by cases c;exact hb)
theorem tight {R:Value->Option (DataW Value×List MemPlace)} {n:Nat} {D:DataW Value} (h:w.ownsMap Tryz.prog k R b n D):w.ownsMap Tryz.prog k R b (Maps.size D) D:=by
 obtain⟨es,clock,hb,F,c,rfl⟩:=h;exact⟨es,clock,hb,F,by simp[Maps.size,length_sorted],rfl⟩
theorem MapAt.look2 (h:MapAt w b k ke ve l) (K:KeyK k ke kv ok) (O:Tryz.prog.underlying t=some (.map k e)) (Z:(zeroValue e).run Tryz.prog w = .ok z w) (x:κ) (hx:ok x) :
  (Instr.lookup t (.map (some b)) (kv x) true).run Tryz.prog w = .ok (.tuple #[((AL.get l x).map ve).getD z,.bool (AL.get l x).isSome]) w:=by
 obtain⟨_,D,J,_,I,_⟩:=h;obtain⟨v,ps,j,c⟩:=J.look_ok K.keyed O Z (zd:=.held z) (zp:=[]) rfl (K.key x hx);obtain⟨s,Y⟩:=I x;rw[j,s];simp only[anyE,Option.some.injEq,Prod.mk.injEq] at c;cases E:AL.get l x with | none=>{rw[E] at s;rw[atKey_of_not_has s] at c;cases c.1;rfl} | some a=>{rw[Y a E] at c;cases c.1;rfl}
theorem MapAt.look1 (h:MapAt w b k ke ve l) (K:KeyK k ke kv ok) (O:Tryz.prog.underlying t=some (.map k e)) (Z:(zeroValue e).run Tryz.prog w = .ok z w) (x:κ) (hx:ok x) :
  (Instr.lookup t (.map (some b)) (kv x) false).run Tryz.prog w = .ok (((AL.get l x).map ve).getD z) w:=by
 obtain⟨_,D,J,_,I,_⟩:=h;obtain⟨v,ps,j,c⟩:=J.lookup K.keyed O Z (zd:=.held z) (zp:=[]) rfl (K.key x hx);obtain⟨E,Y⟩:=I x;rw[j];simp only[anyE,Option.some.injEq,Prod.mk.injEq] at c;cases s:AL.get l x with | none=>{rw[s] at E;rw[atKey_of_not_has E] at c;cases c.1;rfl} | some a=>{rw[Y a s] at c;cases c.1;rfl}
theorem MapAt.store (h:MapAt w b k ke ve l) (K:KeyK k ke kv ok) (ht:Tryz.prog.underlying t=some (.map k e)) (hl:l.length<maxLen) (x:κ) (hx:ok x) (v:α) :
  ∃ w',(Instr.mapUpdate t (.map (some b)) (kv x) (ve v)).run Tryz.prog w = .ok () w'/\MapAt w' b k ke ve (AL.put l x v)/\Keep (λi=>i=b) w w':=by
 obtain⟨h0,D,J,h1,O,h3⟩:=h;obtain⟨w',E,Y,j⟩:=J.store (d:=.held (ve v)) (ps:=[]) K.keyed ht hl (K.key x hx) rfl;have hsz:Maps.size (D.put (ke x) (.held (ve v)))=(AL.put l x v).length:=by{rw[size_put (J.tidy K.keyed),(O x).1,h1];unfold AL.put;have:=AL.zaX h0 x;rw[List.length_append];simp only[List.length_singleton];split at this <;> simp_all};refine⟨w',E,⟨h0.put x v,_,by rw[<-hsz];exact tight Y,hsz,λy=>?_,λkl hk=>?_⟩,(Keep.refl _ _).mapTurned j (.inl rfl)⟩;{by_cases c:y=x;{subst c;refine⟨by rw[has_put_same J.isMap (K.lit y),AL.z3J];rfl,λu I zz=>?_⟩;rw[AL.z3J] at I;cases I;exact atKey_put_same J.isMap (K.lit y) _ _};{have s:ke y≠ke x:=λe=>c (K.inj _ _ e);refine⟨by rw[has_put_other s,AL.z3K l v c];exact(O y).1,λu I zz=>?_⟩;rw[AL.z3K l v c] at I;rw[atKey_put_other s];exact(O y).2 u I zz}};{by_cases c:kl=ke x;{exact⟨x,c,by rw[AL.z3J];rfl⟩};{rw[has_put_other c] at hk;obtain⟨y,rfl,Z⟩:=h3 kl hk;exact⟨y,rfl,by rw[AL.z3K l v (λe=>c (by rw[e]))];exact Z⟩}}
theorem MapAt.drop (h:MapAt w b k ke ve l) (K:KeyK k ke kv ok) (ht:Tryz.prog.underlying t=some (.map k e)) (x:κ) (hx:ok x) (ty:TypeId) :
  ∃ w',(Builtin.delete_ #[t,k] ty #[.map (some b),kv x]).run Tryz.prog w = .ok (.tuple #[]) w'/\MapAt w' b k ke ve (AL.del l x)/\Keep (λi=>i=b) w w':=by
 obtain⟨Z,D,hD,h1,J,h3⟩:=h;obtain⟨w',E,O,j⟩:=hD.drop K.keyed ht (K.key x hx) ty;have hsz:Maps.size (D.del (ke x))=(AL.del l x).length:=by{have h4:=size_del (k:=ke x) (hD.tidy K.keyed);rw[(J x).1,h1] at h4;have:=AL.zaX Z x;omega};refine⟨w',E,⟨Z.del x,_,by rw[<-hsz];exact tight O,hsz,λy=>?_,λkl hk=>?_⟩,(Keep.refl _ _).mapTurned j (.inl rfl)⟩;{by_cases c:y=x;{subst c;refine⟨by rw[has_del_same,AL.z6C];rfl,λu I zz=>?_⟩;rw[AL.z6C] at I;cases I};{have s:ke y≠ke x:=λe=>c (K.inj _ _ e);refine⟨by rw[has_del_other s,AL.z3W l c];exact(J y).1,λu I zz=>?_⟩;rw[AL.z3W l c] at I;rw[atKey_del_other s];exact(J y).2 u I zz}};{by_cases c:kl=ke x;{subst c;rw[has_del_same] at hk;cases hk};{rw[has_del_other c] at hk;obtain⟨y,rfl,Y⟩:=h3 kl hk;exact⟨y,rfl,by rw[AL.z3W l (λe=>c (by rw[e]))];exact Y⟩}}
end
end
namespace MI
open Go.Proofs.YtkhddpiopbmhjaaGreat
abbrev Str:=List UInt8
structure Ch where
 key:Str
 value:Str
 gone:Bool
deriving DecidableEq,Inhabited
structure It where
 seq:Nat
 mark:Bool
 ch:Ch
deriving DecidableEq,Inhabited
def Ch.zero:Ch:=⟨[],[],false⟩
def It.zero:It:=⟨0,false,Ch.zero⟩
def z2J (c:Ch):Bool:=decide (1≤c.key.length∧c.key.length≤16∧c.value.length≤128∧¬ (c.gone=true∧c.value≠[]))
def y0H (i:It):Bool:=decide (0<i.seq) && if i.mark then decide (i.ch=Ch.zero) else z2J i.ch
def Sorted (ps:List (Str×Str)):Prop:=ps.Pairwise fun p q=>p.1<q.1
theorem z2R (a:Str):¬ a<a:=List.lt_irrefl a
theorem z9T {a b c:Str} (h:a<b) (k:b<c):a<c:=List.lt_trans h k
theorem zkM (a b:Str):a<b∨a=b∨b<a:=by
 by_cases h:a<b;{exact .inl h};{by_cases k:b<a;{exact .inr (.inr k)};{exact .inr (.inl (List.le_antisymm (List.not_lt.1 k) (List.not_lt.1 h)))}}
theorem zmV {p:Str×Str} {ps:List (Str×Str)} (h:Sorted (p :: ps)) {x:Str} (hx:x<p.1):AL.get (p :: ps) x=none:=by
 rw[AL.z6A];intro q c e;have j:=List.pairwise_cons.1 h;rcases List.mem_cons.1 c with rfl | c;{rw[e] at hx;exact z2R _ hx};{have:=j.1 q c;rw[e] at this;exact z2R _ (z9T hx this)}
theorem zfD:∀ {a b:List (Str×Str)},Sorted a->Sorted b->(∀ x,AL.get a x=AL.get b x)->a=b
 | [],[],_,_,_=>rfl
 | [],q :: b,_,_,h=>by have:=h q.1;rw[AL.z6K,AL.z0Y,if_pos rfl] at this;cases this
 | p :: a,[],_,_,h=>by have:=h p.1;rw[AL.z6K,AL.z0Y,if_pos rfl] at this;cases this
 | p :: a,q :: b,ha,hb,h=>by{have s:p.1=q.1:=by{rcases zkM p.1 q.1 with j | O | j;{have c:=h p.1;rw[AL.z0Y,if_pos rfl,zmV hb j] at c;cases c};{exact O};{have c:=h q.1;rw[zmV ha j,AL.z0Y,if_pos rfl] at c;cases c}};have Y:p=q:=by{have c:=h p.1;rw[AL.z0Y,if_pos rfl,AL.z0Y,if_pos s.symm] at c;exact Prod.ext s (by simpa using c)};subst Y;congr 1;have I:=List.pairwise_cons.1 ha;have J:=List.pairwise_cons.1 hb;refine zfD I.2 J.2 λx=>?_;have c:=h x;rw[AL.z0Y,AL.z0Y] at c;by_cases hx:p.1=x;{subst hx;rw[AL.z6A.2 λq E e=>z2R p.1 (by have:=I.1 q E;rwa [e] at this),AL.z6A.2 λq E e=>z2R p.1 (by have:=J.1 q E;rwa [e] at this)]};{rwa [if_neg hx,if_neg hx] at c}}
def lay1:List (Str×Str)→Ch→List (Str×Str)
 | [],c=>if c.gone then [] else [(c.key,c.value)]
 | p :: ps,c=>if p.1<c.key then p :: lay1 ps c else (if c.gone then [] else [(c.key,c.value)]) ++ if p.1=c.key then ps else p :: ps
theorem zfS:∀ {ps:List (Str×Str)},Sorted ps->∀ (c:Ch) (x:Str),AL.get (lay1 ps c) x=if x=c.key then (if c.gone then none else some c.value) else AL.get ps x
 | [],_,c,x=>by{unfold lay1;by_cases s:c.gone=true;{rw[if_pos s,if_pos s,AL.z6K];split <;> rfl};{rw[if_neg s,if_neg s,AL.z0Y,AL.z6K];by_cases hx:x=c.key;{rw[if_pos hx,if_pos hx.symm]};{rw[if_neg hx,if_neg (λe=>hx e.symm)]}}}
 | p :: ps,h,c,x=>by{have O:=List.pairwise_cons.1 h;unfold lay1;by_cases I:p.1<c.key;{rw[if_pos I,AL.z0Y,AL.z0Y,zfS O.2 c x];by_cases hx:p.1=x;{rw[if_pos hx,if_pos hx,if_neg (λe=>by rw[hx,e] at I;exact z2R _ I)]};{rw[if_neg hx,if_neg hx]}};{rw[if_neg I,AL.zaP];have j:∀ q ∈ ps,q.1≠c.key:=λq Z e=>by{have J:=O.1 q Z;rw[e] at J;exact I J};by_cases hx:x=c.key;{subst hx;rw[if_pos rfl];by_cases s:c.gone=true;{rw[if_pos s,if_pos s,AL.z6K];simp only[Option.none_or];by_cases E:p.1=c.key;{rw[if_pos E];exact AL.z6A.2 j};{rw[if_neg E,AL.z0Y,if_neg E];exact AL.z6A.2 j}};{rw[if_neg s,if_neg s,AL.z0Y,if_pos rfl];simp}};{rw[if_neg hx];have Y:AL.get (if c.gone then [] else [(c.key,c.value)]) x=none:=by{split;{rfl};{rw[AL.z0Y,if_neg (λe=>hx e.symm),AL.z6K]}};rw[Y];simp only[Option.none_or];by_cases E:p.1=c.key;{rw[if_pos E,AL.z0Y,if_neg (λe=>hx (by rw[<-e,E]))]};{rw[if_neg E]}}}}
theorem zmM:∀ {ps:List (Str×Str)} {c:Ch} {q:Str×Str},q ∈ lay1 ps c->q ∈ ps∨q.1=c.key
 | [],c,q,h=>by{unfold lay1 at h;split at h;{cases h};{simp at h;exact .inr (by rw[h])}}
 | p :: ps,c,q,h=>by{unfold lay1 at h;split at h;{rcases List.mem_cons.1 h with rfl | h;{exact .inl (by simp)};{rcases zmM h with h | h;{exact .inl (by simp[h])};{exact .inr h}}};{rcases List.mem_append.1 h with h | h;{split at h;{cases h};{simp at h;exact .inr (by rw[h])}};{split at h;{exact .inl (by simp[h])};{exact .inl h}}}}
theorem z7G:∀ {ps:List (Str×Str)},Sorted ps->∀ c,Sorted (lay1 ps c)
 | [],_,c=>by{unfold lay1;split;{exact List.Pairwise.nil};{exact List.pairwise_singleton _ _}}
 | p :: ps,h,c=>by{have E:=List.pairwise_cons.1 h;unfold lay1;by_cases J:p.1<c.key;{rw[if_pos J];refine List.pairwise_cons.2 ⟨λq s=>?_,z7G E.2 c⟩;rcases zmM s with s | s;{exact E.1 q s};{rw[s];exact J}};{rw[if_neg J];have Z:c.key<p.1∨p.1=c.key:=by{rcases zkM p.1 c.key with j | j | j;{exact absurd j J};{exact .inr j};{exact .inl j}};refine List.pairwise_append.2 ⟨?_,?_,λa I b hb=>?_⟩;{split;{exact List.Pairwise.nil};{exact List.pairwise_singleton _ _}};{split;{exact E.2};{exact h}};{have O:a.1=c.key:=by{split at I;{cases I};{simp at I;rw[I]}};rw[O];split at hb;{rename_i Y;rw[<-Y];exact E.1 b hb};{rename_i Y;rcases Z with j | j;{rcases List.mem_cons.1 hb with rfl | hb;{exact j};{exact z9T j (E.1 b hb)}};{exact absurd j Y}}}}}
def layI (ps:List (Str×Str)) (i:It):List (Str×Str):=if i.mark then ps else lay1 ps i.ch
def layAll (l:List It):List (Str×Str):=l.foldl layI []
def mapI (m:List (Str×Str)) (i:It):List (Str×Str):=if i.mark then m else if i.ch.gone then AL.del m i.ch.key else AL.put m i.ch.key i.ch.value
theorem zvG {m ps:List (Str×Str)} (s:Sorted ps) (h:∀ x,AL.get m x=AL.get ps x) (i:It) (x:Str):AL.get (mapI m i) x=AL.get (layI ps i) x:=by
 unfold mapI layI;by_cases j:i.mark=true;{rw[if_pos j,if_pos j,h]};{rw[if_neg j,if_neg j,zfS s];by_cases c:i.ch.gone=true;{rw[if_pos c,if_pos c];by_cases hx:x=i.ch.key;{rw[hx,AL.z6C,if_pos rfl]};{rw[AL.z3W _ hx,if_neg hx,h]}};{rw[if_neg c,if_neg c];by_cases hx:x=i.ch.key;{rw[hx,AL.z3J,if_pos rfl]};{rw[AL.z3K _ _ hx,if_neg hx,h]}}}
theorem z6T {m:List (Str×Str)} (h:AL.Ok m) {p:Str×Str} (c:p ∈ m):AL.get m p.1=some p.2:=by
 induction m with | nil=>{cases c} | cons q m ih=>{have j:=List.pairwise_cons.1 h;rw[AL.z0Y];rcases List.mem_cons.1 c with rfl | c;{rw[if_pos rfl]};{rw[if_neg (j.1 p c),ih j.2 c]}}
theorem z5E {m:List (Str×Str)} {x y:Str} (h:AL.get m x=some y):(x,y) ∈ m:=by
 unfold AL.get at h;cases hf:m.find? λp=>decide (p.1=x) with | none=>{rw[hf] at h;cases h} | some p=>{rw[hf] at h;have j:=List.mem_of_find?_eq_some hf;have c:=List.find?_some hf;simp at h c;rw[<-c,<-h];exact j}
theorem ziB {m ps:List (Str×Str)} {s:List Str} (_hm:AL.Ok m) (hps:Sorted ps) (h:∀ x,AL.get m x=AL.get ps x) (hk:s.Pairwise λa b=>a<b) (c:∀ x,x ∈ s↔(AL.get m x).isSome=true) :
  (s.map λx=>(x,(AL.get m x).getD []))=ps:=by
 refine zfD ?_ hps λx=>?_;{unfold Sorted;rw[List.pairwise_map];exact hk};{rw[<-h];have:∀ (l:List Str),AL.get (l.map λx=>(x,(AL.get m x).getD [])) x=if x ∈ l then some ((AL.get m x).getD []) else none:=by{intro l;induction l with | nil=>{rfl} | cons y l ih=>{rw[List.map_cons,AL.z0Y,ih];by_cases j:y=x;{rw[if_pos j,if_pos (by simp[j]),j]};{rw[if_neg j];by_cases hx:x ∈ l;{rw[if_pos hx,if_pos (by simp[hx])]};{rw[if_neg hx,if_neg (by simp[hx];exact λe=>j e.symm)]}}}};rw[this];cases E:AL.get m x with | none=>{rw[if_neg (by rw[c,E];simp)]} | some y=>{rw[if_pos (by rw[c,E];rfl)];rfl}}
structure Src where
 gone:Nat
 l:List It
def Src.new:Src:=⟨0,[]⟩
def Src.last (s:Src):Nat:=s.gone+s.l.length
def Src.add (s:Src) (c:Ch) (mark:Bool):Src×Nat×Nat:=if 4096≤s.l.length then (s,0,5) else (⟨s.gone,s.l ++ [⟨s.last+1,mark,c⟩]⟩,s.last+1,0)
def Src.do_ (s:Src) (c:Ch):Src×Nat×Nat:=if z2J c then s.add c false else (s,0,2)
def Src.mark (s:Src):Src×Nat×Nat:=s.add Ch.zero true
def Src.from_ (s:Src) (seq:Nat) (most:Int):List It:=if most<1∨s.last<seq then [] else (s.l.drop (max seq (s.gone+1) - s.gone - 1)).take most.toNat
def Src.trim (s:Src) (upto:Nat):Src×Nat:=if upto≤s.gone then (s,0) else (⟨min upto s.last,s.l.drop (min upto s.last - s.gone)⟩,min upto s.last - s.gone)
structure Snk where
 cut:Nat
 done:List It
 held:List (Nat×It)
def Snk.new:Snk:=⟨0,[],[]⟩
def run (h:List (Nat×It)) (at_:Nat):Nat→Nat
 | 0=>0
 | n+1=>if (AL.get h at_).isSome then run h (at_+1) n+1 else 0
def Snk.next (k:Snk):Nat:=k.cut+1+run k.held (k.cut+1) k.held.length
def znE (h:List (Nat×It)) (cut:Nat):Nat→Nat
 | 0=>cut
 | n+1=>if ((AL.get h (cut+n+1)).map It.mark).getD false then cut+n+1 else znE h cut n
def adv (k:Snk):Nat→Snk
 | 0=>k
 | n+1=>adv ⟨k.cut+1,k.done ++ [(AL.get k.held (k.cut+1)).getD It.zero],AL.del k.held (k.cut+1)⟩ n
def Snk.take (k:Snk) (i:It):Snk×Nat:=
 if y0H i=false then (k,2) else if i.seq≤k.cut then (k,0) else
 match AL.get k.held i.seq with
 | some o=>if o=i then (k,0) else (k,120)
 | none=>if 512<i.seq - k.cut then (k,5) else
   let k':Snk:=⟨k.cut,k.done,AL.put k.held i.seq i⟩
   (adv k' (znE k'.held k.cut (k'.next - k.cut - 1) - k.cut),0)
end MI
namespace SO
open Go.Proofs.YtkhddpiopbmhjaaGreat MI BM
theorem zhN {b:List UInt8} {k:Nat} {x:UInt8} {l:List UInt8} (h:b.drop k=x :: l):k<b.length/\b.getD k 0=x/\b.drop (k+1)=l:=by
 have hk:k<b.length:=by{rcases Nat.lt_or_ge k b.length with c | c;{exact c};{rw[List.drop_of_length_le c] at h;cases h}};rw[List.drop_eq_getElem_cons hk] at h;injection h with c j;exact⟨hk,by simp[hk,c],j⟩
theorem zsE {b:List UInt8} {k:Nat} (hk:k<b.length):b.drop k=b.getD k 0 :: b.drop (k+1):=by
 rw[List.drop_eq_getElem_cons hk];simp[hk]
theorem zcK (c:UInt8):UInt8.ofNat c.toNat=c:=by simp
theorem zeR {b:List UInt8} {at_:Nat}:∀ (f i v n to_:Nat),f+i=10->digits b at_ f i v = .yes n to_->
  ∃ q,n=v+q * 2 ^ (7 * i)/\q<2 ^ (64 - 7 * i)/\(0<i->0<q)/\at_+i<to_/\to_<=b.length/\(b.drop (at_+i)).take (to_ - (at_+i))=putU f q
 | 0,i,v,n,to_,_,h=>by cases h
 | f+1,i,v,n,to_,hf,h=>by{unfold digits at h;split at h;{cases h};rename_i hlen;have hk:at_+i<b.length:=by{omega};have hd:=zsE hk;obtain⟨c,Y⟩:=zX1 (b.getD (at_+i) 0);rw[<-Y] at hd;have J:=c.toNat_lt;simp only[<-Y] at h;split at h;{cases h};rename_i h9;split at h;{cases h};rename_i h0;split at h;{rename_i j;injection h with I h2;subst I h2;refine⟨c.toNat,rfl,?_,λhi=>by omega,by omega,by omega,?_⟩;{by_cases s:i=9;{rw[s];have:¬ 1<c.toNat:=λx=>h9 ⟨s,x⟩;show c.toNat<2;omega};{have:2 ^ 8<=2 ^ (64 - 7 * i):=Nat.pow_le_pow_right (by decide) (by omega);omega}};{rw[show at_+i+1 - (at_+i)=1 by omega,hd];(show [c]=if c.toNat<128 then _ else _);rw[if_pos j,zcK]}};{rename_i j;obtain⟨q,Z,e2,e3,e4,e5,e6⟩:=zeR f (i+1) _ n to_ (by omega) h;have hq:=e3 (by omega);have hp:2 ^ (7 * (i+1))=128 * 2 ^ (7 * i):=by{rw[show 7 * (i+1)=7 * i+7 by omega,Nat.pow_add,Nat.mul_comm]};refine⟨c.toNat - 128+128 * q,?_,?_,λ_=>by omega,by omega,e5,?_⟩;{rw[Z,hp,Nat.add_mul,Nat.add_assoc];congr 2;rw[<-Nat.mul_assoc,Nat.mul_comm q 128]};{have a2:i<=8:=by{rcases Nat.lt_or_ge i 9 with I | I;{omega};{have:i=9:=by{omega};subst this;simp at e2;omega}};have:2 ^ (64 - 7 * i)=128 * 2 ^ (64 - 7 * (i+1)):=by{rw[show 64 - 7 * i=7+(64 - 7 * (i+1)) by omega,Nat.pow_add]};omega};{have O:to_ - (at_+i)=(to_ - (at_+(i+1)))+1:=by{omega};(rw[O,hd,List.take_succ_cons];have E:(b.drop (at_+i+1)).take (to_ - (at_+(i+1)))=putU f q:=e6;rw[E];show _=if c.toNat - 128+128 * q<128 then _ else _);rw[if_neg (by omega)];congr 1;{rw[show (c.toNat - 128+128 * q) % 128+128=c.toNat by omega,zcK]};{rw[show (c.toNat - 128+128 * q) / 128=q by omega]}}}}
theorem zfL {b:List UInt8} {at_:Nat}:∀ (f i v q:Nat) (rest:List UInt8),f+i=10->q<2 ^ (64 - 7 * i)->(0<i->0<q)->b.drop (at_+i)=putU f q ++ rest->
  digits b at_ f i v = .yes (v+q * 2 ^ (7 * i)) (at_+i+(putU f q).length)
 | 0,i,v,q,rest,hf,hq,h0,_=>by{have:i=10:=by{omega};subst this;simp at hq;have:=h0 (by omega);omega}
 | f+1,i,v,q,rest,hf,hq,h0,h=>by{unfold putU at h |-;split at h;{rename_i c;rw[if_pos c];obtain⟨hk,s,-⟩:=zhN h;unfold digits;rw[if_neg (by omega)];simp only[s];have E:(UInt8.ofNat q).toNat=q:=by{simp;omega};rw[E,if_neg,if_neg (by rintro⟨j,I⟩;have:=h0 I;omega),if_pos c];{rfl};{rintro⟨j,I⟩;subst j;simp at hq;omega}};{rename_i c;rw[if_neg c];obtain⟨hk,s,Z⟩:=zhN (show b.drop (at_+i)=UInt8.ofNat (q % 128+128) :: (putU f (q / 128) ++ rest) from h);have O:i<=8:=by{rcases Nat.lt_or_ge i 9 with j | j;{omega};{have:i=9∨i=10:=by{omega};rcases this with rfl | rfl;{simp at hq;omega};{simp at hq;omega}}};have J:2 ^ (64 - 7 * i)=128 * 2 ^ (64 - 7 * (i+1)):=by{rw[show 64 - 7 * i=7+(64 - 7 * (i+1)) by omega,Nat.pow_add]};have ih:=zfL f (i+1) (v+q % 128 * 2 ^ (7 * i)) (q / 128) rest (by omega) (by omega) (λ_=>by omega) Z;unfold digits;rw[if_neg (by omega)];simp only[s];have E:(UInt8.ofNat (q % 128+128)).toNat=q % 128+128:=by{simp;omega};rw[E,if_neg (by omega),if_neg (by omega),if_neg (by omega),show q % 128+128 - 128=q % 128 by omega,ih];have Y:2 ^ (7 * (i+1))=128 * 2 ^ (7 * i):=by{rw[show 7 * (i+1)=7 * i+7 by omega,Nat.pow_add,Nat.mul_comm]};congr 1;{rw[Y,Nat.add_assoc,<-Nat.mul_assoc,<-Nat.add_mul];congr 2;omega};{simp only[List.length_cons];omega}}}
theorem z9O {b:List UInt8} {at_ n to_:Nat} (h:uint b at_ = .yes n to_):n<18446744073709551616/\at_<to_/\to_<=b.length/\(b.drop at_).take (to_ - at_)=z0M n:=by
 unfold uint at h;split at h;{cases h};{obtain⟨q,c,j,-,I,s,E⟩:=zeR 10 0 0 n to_ rfl h;simp at c j;subst c;exact⟨by omega,by omega,s,E⟩}
theorem zaH {b:List UInt8} {at_ n:Nat} {rest:List UInt8} (c:n<18446744073709551616) (h:b.drop at_=z0M n ++ rest) (hb:at_<=b.length):uint b at_ = .yes n (at_+(z0M n).length):=by
 unfold uint;rw[if_neg (by omega)];have:=zfL (b:=b) (at_:=at_) 10 0 0 n rest rfl (by simpa using c) (λh=>by omega) (by rw[Nat.add_zero];exact h);simpa [z0M] using this
theorem z4F:∀ f n,(putU f n).length<=f
 | 0,n=>by simp[putU]
 | f+1,n=>by{unfold putU;split;{simp};{have:=z4F f (n / 128);simp;omega}}
def putB (s:Str):List UInt8:=z0M s.length ++ s
inductive Byt
 | no (e:Nat)
 | yes (s:Str) (to_:Nat)
deriving DecidableEq
def z2Z (b:List UInt8) (at_ most:Nat):Byt:=
 match uint b at_ with
 | .no e=>.no e
 | .yes n to_=>if most<n then .no 3 else if b.length - to_<n then .no 10 else .yes ((b.drop to_).take n) (to_+n)
theorem z6Z {b:List UInt8} {at_ most to_:Nat} {s:Str} (h:z2Z b at_ most = .yes s to_):s.length<=most/\at_<to_/\to_<=b.length/\(b.drop at_).take (to_ - at_)=putB s:=by
 unfold z2Z at h;cases c:uint b at_ with | no e=>{rw[c] at h;cases h} | yes n t=>{rw[c] at h;simp only at h;split at h;{cases h};split at h;{cases h};rename_i O Y;injection h with j E;obtain⟨Z,u2,u3,J⟩:=z9O c;have I:s.length=n:=by{rw[<-j,List.length_take,List.length_drop];omega};refine⟨by omega,by omega,by omega,?_⟩;unfold putB;rw[I,<-J,<-j,<-E];have:t+n - at_=(t - at_)+n:=by{omega};rw[this,List.take_add,List.drop_drop,show at_+(t - at_)=t by omega]}
theorem zcN {b:List UInt8} {at_ most:Nat} {s:Str} {rest:List UInt8} (I:s.length<=most) (j:s.length<18446744073709551616) (hb:at_<=b.length) (h:b.drop at_=putB s ++ rest):z2Z b at_ most = .yes s (at_+(putB s).length):=by
 unfold putB at h |-;rw[List.append_assoc] at h;have E:=zaH j h hb;have c:=congrArg List.length h;simp only[List.length_drop,List.length_append] at c;have hd:b.drop (at_+(z0M s.length).length)=s ++ rest:=by{rw[<-List.drop_drop,h,List.drop_left]};unfold z2Z;rw[E];simp only;rw[if_neg (by omega),if_neg (by omega),hd,List.take_left,List.length_append,Nat.add_assoc]
def right (l:List Ch):Bool:=decide (l.length≤32) && l.all z2J
def encC (c:Ch):List UInt8:=putB c.key ++ if c.gone then [1] else 0 :: putB c.value
def enc (l:List Ch):List UInt8:=z0M l.length ++ l.flatMap encC
def encE (l:List Ch):Nat:=if right l then (if 1024<(enc l).length then 3 else 0) else 2
def chAt (b:List UInt8) (at_:Nat):Option (Ch×Nat):=
 match z2Z b at_ 16 with
 | .no _=>none
 | .yes k to_=>
   match uint b to_ with
   | .no _=>none
   | .yes g t2=>if 1<g then none else if g=1 then some (⟨k,[],true⟩,t2) else
     match z2Z b t2 128 with
     | .no _=>none
     | .yes v t3=>some (⟨k,v,false⟩,t3)
def z8T (b:List UInt8):Nat→Nat→Option (List Ch×Nat)
 | 0,at_=>some ([],at_)
 | k+1,at_=>
   match chAt b at_ with
   | none=>none
   | some (c,to_)=>
     match z8T b k to_ with
     | none=>none
     | some (l,t2)=>some (c :: l,t2)
def dec (b:List UInt8):Option (List Ch):=
 match uint b 0 with
 | .no _=>none
 | .yes n to_=>if 32<n then none else
   match z8T b n to_ with
   | none=>none
   | some (l,t2)=>if t2=b.length∧right l=true∧b.length≤1024 then some l else none
theorem zgG {g:Nat} (h:g<128):z0M g = [UInt8.ofNat g]:=by
 unfold z0M putU;rw[if_pos h]
theorem zwY {b:List UInt8} {at_ to_:Nat} {c:Ch} (h:chAt b at_=some (c,to_)):at_<to_/\to_<=b.length/\(b.drop at_).take (to_ - at_)=encC c:=by
 unfold chAt at h;cases hk:z2Z b at_ 16 with | no e=>{rw[hk] at h;cases h} | yes k t1=>{rw[hk] at h;simp only at h;obtain⟨k1,k2,k3,O⟩:=z6Z hk;cases E:uint b t1 with | no e=>{rw[E] at h;cases h} | yes g t2=>{rw[E] at h;simp only at h;obtain⟨u1,u2,u3,Y⟩:=z9O E;split at h;{cases h};split at h;{rename_i Z J;injection h with h;injection h with j s;subst J j s;refine⟨by omega,u3,?_⟩;unfold encC;rw[show t2 - at_=(t1 - at_)+(t2 - t1) by omega,List.take_add,List.drop_drop,show at_+(t1 - at_)=t1 by omega,O,Y];rfl};{rename_i Z J;have hg:g=0:=by{omega};subst hg;cases I:z2Z b t2 128 with | no e=>{rw[I] at h;cases h} | yes v t3=>{rw[I] at h;injection h with h;injection h with j s;subst j s;obtain⟨v1,v2,v3,v4⟩:=z6Z I;refine⟨by omega,v3,?_⟩;unfold encC;rw[show t3 - at_=(t1 - at_)+((t2 - t1)+(t3 - t2)) by omega,List.take_add,List.drop_drop,show at_+(t1 - at_)=t1 by omega,O,List.take_add,List.drop_drop,show t1+(t2 - t1)=t2 by omega,Y,v4];rfl}}}}
theorem zvI {b:List UInt8} {at_:Nat} {c:Ch} {rest:List UInt8} (s:z2J c=true) (hb:at_<=b.length) (h:b.drop at_=encC c ++ rest):chAt b at_=some (c,at_+(encC c).length):=by
 obtain⟨key,value,gone⟩:=c;unfold z2J at s;simp only[decide_eq_true_eq] at s;unfold encC at h |-;simp only at h |-;rw[List.append_assoc] at h;have hk:=zcN (most:=16) s.2.1 (by omega) hb h;have Y:=congrArg List.length h;simp only[List.length_drop,List.length_append] at Y;have hd:b.drop (at_+(putB key).length)=(if gone then [1] else 0 :: putB value) ++ rest:=by{rw[<-List.drop_drop,h,List.drop_left]};unfold chAt;rw[hk];simp only;cases gone with | true=>{have O:=zaH (n:=1) (by decide) (show b.drop (at_+(putB key).length)=z0M 1 ++ rest from hd) (by omega);rw[O];simp only;have j:value = []:=by{by_cases j:value = [];{exact j};{exact absurd ⟨rfl,j⟩ s.2.2.2}};subst j;rw[if_neg (by omega)];simp only[if_true,List.length_append];rw[Nat.add_assoc];rfl} | false=>{have E:b.drop (at_+(putB key).length)=z0M 0 ++ (putB value ++ rest):=hd;have O:=zaH (n:=0) (by decide) E (by omega);rw[O];simp only;have J:(z0M 0).length=1:=rfl;have I:b.drop (at_+(putB key).length+(z0M 0).length)=putB value ++ rest:=by{rw[<-List.drop_drop,E,List.drop_left]};have j:=zcN (most:=128) s.2.2.1 (by omega) (by simp at Y;omega) I;rw[if_neg (by omega),if_neg (by omega),j];simp only[Bool.false_eq_true,if_false,List.length_append,List.length_cons,J];congr 2;omega}
theorem zhL {b:List UInt8}:∀ (k at_ to_:Nat) (l:List Ch),at_<=b.length->z8T b k at_=some (l,to_)->l.length=k/\at_<=to_/\to_<=b.length/\(b.drop at_).take (to_ - at_)=l.flatMap encC
 | 0,at_,to_,l,hb,h=>by{injection h with h;injection h with s E;subst s E;exact⟨rfl,Nat.le_refl _,hb,by simp⟩}
 | k+1,at_,to_,l,hb,h=>by{unfold z8T at h;cases I:chAt b at_ with | none=>{rw[I] at h;cases h} | some p=>{obtain⟨c,j⟩:=p;rw[I] at h;simp only at h;obtain⟨c1,c2,c3⟩:=zwY I;cases J:z8T b k j with | none=>{rw[J] at h;cases h} | some p=>{obtain⟨m,O⟩:=p;rw[J] at h;injection h with h;injection h with s E;subst s E;obtain⟨Y,r2,Z,r4⟩:=zhL k j O m c2 J;refine⟨by simp[Y],by omega,Z,?_⟩;rw[show O - at_=(j - at_)+(O - j) by omega,List.take_add,List.drop_drop,show at_+(j - at_)=j by omega,c3,r4];rfl}}}
theorem zjC {b:List UInt8}:∀ (l:List Ch) (at_:Nat) (rest:List UInt8),(∀ c ∈ l,z2J c=true)->at_<=b.length->b.drop at_=l.flatMap encC ++ rest->z8T b l.length at_=some (l,at_+(l.flatMap encC).length)
 | [],at_,rest,_,_,_=>by simp[z8T]
 | c :: l,at_,rest,hr,hb,h=>by{have j:b.drop at_=encC c ++ (l.flatMap encC ++ rest):=by{rw[h];simp};have E:=congrArg List.length j;simp only[List.length_drop,List.length_append] at E;have s:=zvI (hr c List.mem_cons_self) hb j;have hd:b.drop (at_+(encC c).length)=l.flatMap encC ++ rest:=by{rw[<-List.drop_drop,j,List.drop_left]};have I:=zjC l (at_+(encC c).length) rest (λd hd=>hr d (List.mem_cons_of_mem _ hd)) (by omega) hd;show z8T b (l.length+1) at_=_;unfold z8T;rw[s];simp only;rw[I];simp only[List.flatMap_cons,List.length_append,Nat.add_assoc]}
theorem z2N {l:List Ch} (h:right l=true):l.length<=32/\∀ c ∈ l,z2J c=true:=by
 unfold right at h;rw[Bool.and_eq_true,decide_eq_true_iff,List.all_eq_true] at h;exact h
theorem zxV {b:List UInt8} {l:List Ch} (h:dec b=some l):right l=true/\enc l=b/\b.length<=1024:=by
 unfold dec at h;cases s:uint b 0 with | no e=>{rw[s] at h;cases h} | yes n t1=>{rw[s] at h;simp only at h;obtain⟨Y,Z,I,J⟩:=z9O s;split at h;{cases h};cases j:z8T b n t1 with | none=>{rw[j] at h;cases h} | some p=>{obtain⟨m,E⟩:=p;rw[j] at h;simp only at h;split at h;{rename_i O c;injection h with h;subst h;obtain⟨c1,c2,c3,c4⟩:=zhL n t1 E m I j;refine⟨c.2.1,?_,c.2.2⟩;unfold enc;rw[c1,<-J,<-c4,Nat.sub_zero,List.drop_zero,c.1];rw[List.take_of_length_le (show (b.drop t1).length<=b.length - t1 by rw[List.length_drop];exact Nat.le_refl _),List.take_append_drop]};{cases h}}}
theorem zqS {l:List Ch} (h:right l=true) (rest:List UInt8):uint (enc l ++ rest) 0 = .yes l.length (z0M l.length).length/\z8T (enc l ++ rest) l.length (z0M l.length).length=some (l,(enc l).length):=by
 obtain⟨j,c⟩:=z2N h;have e:(enc l ++ rest).drop 0=z0M l.length ++ (l.flatMap encC ++ rest):=by{unfold enc;simp};refine⟨by have:=zaH (by omega) e (Nat.zero_le _);rwa [Nat.zero_add] at this,?_⟩;have hd:(enc l ++ rest).drop (z0M l.length).length=l.flatMap encC ++ rest:=by{rw[List.drop_zero] at e;rw[e,List.drop_left]};have:=zjC l (z0M l.length).length rest c (by unfold enc;simp only[List.length_append];omega) hd;rw[this];congr 2;unfold enc;rw[List.length_append]
theorem zqJ {l:List Ch} (h:right l=true) (c:(enc l).length<=1024):dec (enc l)=some l:=by
 obtain⟨p1,p2⟩:=zqS h [];rw[List.append_nil] at p1 p2;unfold dec;rw[p1];simp only;rw[if_neg (by have:=(z2N h).1;omega),p2];simp only;rw[if_pos ⟨trivial,h,c⟩]
end SO
end Go.Proofs.YtkhddpiopbmhjaaGreat
