/- Texts MapA, MirM, StoM in one. Conditions: as each law names them. -/
import Derived.Test.YtkhddpiopbmhjaaGreatChecked
import Derived.Maps.OwnSet
import Derived.Test.YtkhddpiopbmhjaaGreatUaa
import Derived.Test.YtkhddpiopbmhjaaGreatUab
import Derived.Test.YtkhddpiopbmhjaaGreatUac
set_option maxRecDepth 20000
set_option maxHeartbeats 8000000
namespace Go.Proofs.YtkhddpiopbmhjaaGreat
section
open Go.RowKit
open Go.Maps
def anyE(v:Value):Option (DataW Value×List MemPlace):=some (.held v,[])
namespace AL
variable {κ α:Type} [DecidableEq κ]
def get(l:List (κ×α))(x:κ):Option α:=(l.find? fun p=>decide (p.1=x)).map (·.2)
def del(l:List (κ×α))(x:κ):List (κ×α):=l.filter fun p=>!decide (p.1=x)
def put(l:List (κ×α))(x:κ)(v:α):List (κ×α):=del l x ++ [(x,v)]
def Ok(l:List (κ×α)):Prop:=l.Pairwise fun p q=>p.1≠q.1
theorem z6L(x:κ):get ([]:List (κ×α)) x=none:=rfl
theorem z0Z(p:κ×α)(l:List (κ×α))(x:κ):get (p :: l) x=if p.1=x then some p.2 else get l x:=by
 unfold get;rw[List.find?_cons];by_cases h:p.1=x <;> simp[h]
theorem z6G{l:List (κ×α)}{x:κ}:get l x=none↔∀ p ∈ l,p.1≠x:=by
 unfold get;simp
theorem zbK(l m:List (κ×α))(x:κ):get (l ++ m) x=(get l x).or (get m x):=by
 induction l with | nil=>{simp[z6L]} | cons p l ih=>{rw[List.cons_append,z0Z,z0Z,ih];by_cases h:p.1=x <;> simp[h]}
theorem z6D(l:List (κ×α))(x:κ):get (del l x) x=none:=by
 rw[z6G];intro p hp;have:=(List.mem_filter.1 hp).2;simpa using this
theorem z4E(l:List (κ×α)){x y:κ}(h:y≠x):get (del l x) y=get l y:=by
 induction l with | nil=>{rfl} | cons p l ih=>{unfold del at ih |-;rw[List.filter_cons];by_cases hp:p.1=x;{rw[if_neg (by simp[hp]),ih,z0Z,if_neg (by rw[hp];exact λe=>h e.symm)]};{rw[if_pos (by simp[hp]),z0Z,z0Z,ih]}}
theorem z3G(l:List (κ×α))(x:κ)(v:α):get (put l x v) x=some v:=by
 unfold put;rw[zbK,z6D,z0Z];simp
theorem z3M(l:List (κ×α)){x y:κ}(v:α)(h:y≠x):get (put l x v) y=get l y:=by
 unfold put;rw[zbK,z4E l h,z0Z,if_neg (λe=>h e.symm),z6L];cases get l y <;> rfl
theorem Ok.del{l:List (κ×α)}(h:Ok l)(x:κ):Ok (del l x):=List.Pairwise.filter _ h
theorem Ok.put{l:List (κ×α)}(h:Ok l)(x:κ)(v:α):Ok (put l x v):=by
 refine List.pairwise_append.2 ⟨h.del x,List.pairwise_singleton _ _,λp hp q hq=>?_⟩;have:=(List.mem_filter.1 hp).2;simp only[List.mem_singleton] at hq;subst hq;simpa using this
theorem zaQ{l:List (κ×α)}(h:Ok l)(x:κ):(del l x).length+(if (get l x).isSome then 1 else 0)=l.length:=by
 induction l with | nil=>{rfl} | cons p l ih=>{have h':=List.pairwise_cons.1 h;have ih:=ih h'.2;unfold del at ih |-;rw[List.filter_cons,z0Z];by_cases hp:p.1=x;{have hn:get l x=none:=z6G.2 λq hq e=>h'.1 q hq (by rw[hp,e]);rw[hn] at ih;rw[if_neg (by simp[hp]),if_pos hp];simp at ih |-;omega};{rw[if_pos (by simp[hp]),if_neg hp,List.length_cons,List.length_cons];omega}}
end AL
structure KeyK {κ:Type} (k:TypeId) (ke:κ→Lit) (kv:κ→Value) (ok:κ→Prop):Prop where
 keyed:Keyed Tryz.prog k
 inj:∀ x y,ke x=ke y→x=y
 lit:∀ x,WideAt.IsKeyLit (ke x)
 key:∀ x,ok x→keyOf Tryz.prog k (kv x)=some (ke x)
def MapAt{κ α:Type}[DecidableEq κ](w:World)(b:Nat)(k:TypeId)(ke:κ→Lit)(ve:α→Value)(l:List (κ×α)):Prop:=
 AL.Ok l∧∃ D,w.ownsMap Tryz.prog k anyE b l.length D∧Maps.size D=l.length∧
  (∀ x,Maps.has D (ke x)=(AL.get l x).isSome∧∀ v,AL.get l x=some v→∀ z,D.atKey (ke x) z = .held (ve v))∧
  ∀ kl,Maps.has D kl=true→∃ x,kl=ke x∧(AL.get l x).isSome=true
section
variable {κ α:Type} [DecidableEq κ] {w w':World} {b:Nat} {k t e:TypeId} {ke:κ→Lit} {kv:κ→Value} {ok:κ→Prop} {ve:α→Value} {l:List (κ×α)} {z:Value}
theorem MapAt.made(w:World)(k:TypeId)(ke:κ->Lit)(ve:α->Value):MapAt (w.alloc (.map #[] 0)) w.heap.size k ke ve []:=
 ⟨List.Pairwise.nil,_,World.ownsMap_made w _ k anyE,rfl,λ_=>⟨rfl,λv h=>by cases h⟩,λkl h=>by cases h⟩
theorem MapAt.lt(h:MapAt w b k ke ve l):b<w.heap.size:=let ⟨_,_,hD,_⟩:=h;hD.lt
theorem MapAt.keep{F:Nat->Prop}(h:MapAt w b k ke ve l)(hk:Keep F w w')(hn:¬ F b):MapAt w' b k ke ve l:=by
 obtain⟨h0,D,⟨es,clock,hb,F',hs,hD⟩,h1,h2,h3⟩:=h;exact⟨h0,D,⟨es,clock,hk.get hb hn,F',hs,hD⟩,h1,h2,h3⟩
theorem MapAt.pre(h:MapAt w b k ke ve l)(hk:Pre w w'):MapAt w' b k ke ve l:=by
 obtain⟨h0,D,⟨es,clock,hb,F',hs,hD⟩,h1,h2,h3⟩:=h;exact⟨h0,D,⟨es,clock,z5U hk hb,F',hs,hD⟩,h1,h2,h3⟩
theorem Keep.mapTurned{F:Nat->Prop}{a:World}(h:Keep F a w)(ht:w.mapTurned w' b)(hb:F b∨a.heap.size<=b):Keep F a w':=
 h.grown ht.grown (λj hj=>by cases hj;exact hb)
theorem tight{R:Value->Option (DataW Value×List MemPlace)}{n:Nat}{D:DataW Value}(h:w.ownsMap Tryz.prog k R b n D):w.ownsMap Tryz.prog k R b (Maps.size D) D:=by
 obtain⟨es,clock,hb,F,hs,rfl⟩:=h;exact⟨es,clock,hb,F,by simp[Maps.size,length_sorted],rfl⟩
theorem MapAt.look2(h:MapAt w b k ke ve l)(K:KeyK k ke kv ok)(ht:Tryz.prog.underlying t=some (.map k e))(hz:(zeroValue e).run Tryz.prog w = .ok z w)(x:κ)(hx:ok x):(Instr.lookup t (.map (some b)) (kv x) true).run Tryz.prog w = .ok (.tuple #[((AL.get l x).map ve).getD z,.bool (AL.get l x).isSome]) w:=by
 obtain⟨_,D,hD,_,h2,_⟩:=h;obtain⟨v,ps,hrun,hR⟩:=hD.look_ok K.keyed ht hz (zd:=.held z) (zp:=[]) rfl (K.key x hx);obtain⟨hh,hv⟩:=h2 x;rw[hrun,hh];simp only[anyE,Option.some.injEq,Prod.mk.injEq] at hR;cases hg:AL.get l x with | none=>{rw[hg] at hh;rw[atKey_of_not_has hh] at hR;cases hR.1;rfl} | some a=>{rw[hv a hg] at hR;cases hR.1;rfl}
theorem MapAt.look1(h:MapAt w b k ke ve l)(K:KeyK k ke kv ok)(ht:Tryz.prog.underlying t=some (.map k e))(hz:(zeroValue e).run Tryz.prog w = .ok z w)(x:κ)(hx:ok x):(Instr.lookup t (.map (some b)) (kv x) false).run Tryz.prog w = .ok (((AL.get l x).map ve).getD z) w:=by
 obtain⟨_,D,hD,_,h2,_⟩:=h;obtain⟨v,ps,hrun,hR⟩:=hD.lookup K.keyed ht hz (zd:=.held z) (zp:=[]) rfl (K.key x hx);obtain⟨hh,hv⟩:=h2 x;rw[hrun];simp only[anyE,Option.some.injEq,Prod.mk.injEq] at hR;cases hg:AL.get l x with | none=>{rw[hg] at hh;rw[atKey_of_not_has hh] at hR;cases hR.1;rfl} | some a=>{rw[hv a hg] at hR;cases hR.1;rfl}
theorem MapAt.store(h:MapAt w b k ke ve l)(K:KeyK k ke kv ok)(ht:Tryz.prog.underlying t=some (.map k e))(hl:l.length<maxLen)(x:κ)(hx:ok x)(v:α):∃ w',(Instr.mapUpdate t (.map (some b)) (kv x) (ve v)).run Tryz.prog w = .ok () w'/\MapAt w' b k ke ve (AL.put l x v)/\Keep (λi=>i=b) w w':=by
 obtain⟨h0,D,hD,h1,h2,h3⟩:=h;obtain⟨w',hrun,hD',hturn⟩:=hD.store (d:=.held (ve v)) (ps:=[]) K.keyed ht hl (K.key x hx) rfl;have hsz:Maps.size (D.put (ke x) (.held (ve v)))=(AL.put l x v).length:=by{rw[size_put (hD.tidy K.keyed),(h2 x).1,h1];unfold AL.put;have:=AL.zaQ h0 x;rw[List.length_append];simp only[List.length_singleton];split at this <;> simp_all};refine⟨w',hrun,⟨h0.put x v,_,by rw[<-hsz];exact tight hD',hsz,λy=>?_,λkl hk=>?_⟩,(Keep.refl _ _).mapTurned hturn (.inl rfl)⟩;{by_cases hy:y=x;{subst hy;refine⟨by rw[has_put_same hD.isMap (K.lit y),AL.z3G];rfl,λu hu zz=>?_⟩;rw[AL.z3G] at hu;cases hu;exact atKey_put_same hD.isMap (K.lit y) _ _};{have hne:ke y≠ke x:=λe=>hy (K.inj _ _ e);refine⟨by rw[has_put_other hne,AL.z3M l v hy];exact(h2 y).1,λu hu zz=>?_⟩;rw[AL.z3M l v hy] at hu;rw[atKey_put_other hne];exact(h2 y).2 u hu zz}};{by_cases hy:kl=ke x;{exact⟨x,hy,by rw[AL.z3G];rfl⟩};{rw[has_put_other hy] at hk;obtain⟨y,rfl,hy2⟩:=h3 kl hk;exact⟨y,rfl,by rw[AL.z3M l v (λe=>hy (by rw[e]))];exact hy2⟩}}
theorem MapAt.drop(h:MapAt w b k ke ve l)(K:KeyK k ke kv ok)(ht:Tryz.prog.underlying t=some (.map k e))(x:κ)(hx:ok x)(ty:TypeId):∃ w',(Builtin.delete_ #[t,k] ty #[.map (some b),kv x]).run Tryz.prog w = .ok (.tuple #[]) w'/\MapAt w' b k ke ve (AL.del l x)/\Keep (λi=>i=b) w w':=by
 obtain⟨h0,D,hD,h1,h2,h3⟩:=h;obtain⟨w',hrun,hD',hturn⟩:=hD.drop K.keyed ht (K.key x hx) ty;have hsz:Maps.size (D.del (ke x))=(AL.del l x).length:=by{have h4:=size_del (k:=ke x) (hD.tidy K.keyed);rw[(h2 x).1,h1] at h4;have:=AL.zaQ h0 x;omega};refine⟨w',hrun,⟨h0.del x,_,by rw[<-hsz];exact tight hD',hsz,λy=>?_,λkl hk=>?_⟩,(Keep.refl _ _).mapTurned hturn (.inl rfl)⟩;{by_cases hy:y=x;{subst hy;refine⟨by rw[has_del_same,AL.z6D];rfl,λu hu zz=>?_⟩;rw[AL.z6D] at hu;cases hu};{have hne:ke y≠ke x:=λe=>hy (K.inj _ _ e);refine⟨by rw[has_del_other hne,AL.z4E l hy];exact(h2 y).1,λu hu zz=>?_⟩;rw[AL.z4E l hy] at hu;rw[atKey_del_other hne];exact(h2 y).2 u hu zz}};{by_cases hy:kl=ke x;{subst hy;rw[has_del_same] at hk;cases hk};{rw[has_del_other hy] at hk;obtain⟨y,rfl,hy2⟩:=h3 kl hk;exact⟨y,rfl,by rw[AL.z4E l (λe=>hy (by rw[e]))];exact hy2⟩}}
end
end
namespace MI
open Go.Proofs.YtkhddpiopbmhjaaGreat
abbrev Str:=List UInt8
structure Ch where
 key:Str
 value:Str
 gone:Bool
deriving DecidableEq,Inhabited
structure It where
 seq:Nat
 mark:Bool
 ch:Ch
deriving DecidableEq,Inhabited
def Ch.zero:Ch:=⟨[],[],false⟩
def It.zero:It:=⟨0,false,Ch.zero⟩
def z2M(c:Ch):Bool:=decide (1≤c.key.length∧c.key.length≤16∧c.value.length≤128∧¬ (c.gone=true∧c.value≠[]))
def y2J(i:It):Bool:=decide (0<i.seq) && if i.mark then decide (i.ch=Ch.zero) else z2M i.ch
def Sorted(ps:List (Str×Str)):Prop:=ps.Pairwise fun p q=>p.1<q.1
theorem z2P(a:Str):¬ a<a:=List.lt_irrefl a
theorem z9U{a b c:Str}(h:a<b)(k:b<c):a<c:=List.lt_trans h k
theorem zkR(a b:Str):a<b∨a=b∨b<a:=by
 by_cases h:a<b;{exact .inl h};{by_cases k:b<a;{exact .inr (.inr k)};{exact .inr (.inl (List.le_antisymm (List.not_lt.1 k) (List.not_lt.1 h)))}}
theorem znD{p:Str×Str}{ps:List (Str×Str)}(h:Sorted (p :: ps)){x:Str}(hx:x<p.1):AL.get (p :: ps) x=none:=by
 rw[AL.z6G];intro q hq e;have hs:=List.pairwise_cons.1 h;rcases List.mem_cons.1 hq with rfl | hq;{rw[e] at hx;exact z2P _ hx};{have:=hs.1 q hq;rw[e] at this;exact z2P _ (z9U hx this)}
theorem zfN:∀ {a b:List (Str×Str)},Sorted a->Sorted b->(∀ x,AL.get a x=AL.get b x)->a=b
 | [],[],_,_,_=>rfl
 | [],q :: b,_,_,h=>by have:=h q.1;rw[AL.z6L,AL.z0Z,if_pos rfl] at this;cases this
 | p :: a,[],_,_,h=>by have:=h p.1;rw[AL.z6L,AL.z0Z,if_pos rfl] at this;cases this
 | p :: a,q :: b,ha,hb,h=>by{have hpq:p.1=q.1:=by{rcases zkR p.1 q.1 with hlt | he | hlt;{have h1:=h p.1;rw[AL.z0Z,if_pos rfl,znD hb hlt] at h1;cases h1};{exact he};{have h1:=h q.1;rw[znD ha hlt,AL.z0Z,if_pos rfl] at h1;cases h1}};have hv:p=q:=by{have h1:=h p.1;rw[AL.z0Z,if_pos rfl,AL.z0Z,if_pos hpq.symm] at h1;exact Prod.ext hpq (by simpa using h1)};subst hv;congr 1;have hs:=List.pairwise_cons.1 ha;have ht:=List.pairwise_cons.1 hb;refine zfN hs.2 ht.2 λx=>?_;have h1:=h x;rw[AL.z0Z,AL.z0Z] at h1;by_cases hx:p.1=x;{subst hx;rw[AL.z6G.2 λq hq e=>z2P p.1 (by have:=hs.1 q hq;rwa [e] at this),AL.z6G.2 λq hq e=>z2P p.1 (by have:=ht.1 q hq;rwa [e] at this)]};{rwa [if_neg hx,if_neg hx] at h1}}
def lay1:List (Str×Str)→Ch→List (Str×Str)
 | [],c=>if c.gone then [] else [(c.key,c.value)]
 | p :: ps,c=>if p.1<c.key then p :: lay1 ps c else (if c.gone then [] else [(c.key,c.value)]) ++ if p.1=c.key then ps else p :: ps
theorem zgV:∀ {ps:List (Str×Str)},Sorted ps->∀ (c:Ch) (x:Str),AL.get (lay1 ps c) x=if x=c.key then (if c.gone then none else some c.value) else AL.get ps x
 | [],_,c,x=>by{unfold lay1;by_cases hg:c.gone=true;{rw[if_pos hg,if_pos hg,AL.z6L];split <;> rfl};{rw[if_neg hg,if_neg hg,AL.z0Z,AL.z6L];by_cases hx:x=c.key;{rw[if_pos hx,if_pos hx.symm]};{rw[if_neg hx,if_neg (λe=>hx e.symm)]}}}
 | p :: ps,h,c,x=>by{have hs:=List.pairwise_cons.1 h;unfold lay1;by_cases hp:p.1<c.key;{rw[if_pos hp,AL.z0Z,AL.z0Z,zgV hs.2 c x];by_cases hx:p.1=x;{rw[if_pos hx,if_pos hx,if_neg (λe=>by rw[hx,e] at hp;exact z2P _ hp)]};{rw[if_neg hx,if_neg hx]}};{rw[if_neg hp,AL.zbK];have htail:∀ q ∈ ps,q.1≠c.key:=λq hq e=>by{have h1:=hs.1 q hq;rw[e] at h1;exact hp h1};by_cases hx:x=c.key;{subst hx;rw[if_pos rfl];by_cases hg:c.gone=true;{rw[if_pos hg,if_pos hg,AL.z6L];simp only[Option.none_or];by_cases he:p.1=c.key;{rw[if_pos he];exact AL.z6G.2 htail};{rw[if_neg he,AL.z0Z,if_neg he];exact AL.z6G.2 htail}};{rw[if_neg hg,if_neg hg,AL.z0Z,if_pos rfl];simp}};{rw[if_neg hx];have h0:AL.get (if c.gone then [] else [(c.key,c.value)]) x=none:=by{split;{rfl};{rw[AL.z0Z,if_neg (λe=>hx e.symm),AL.z6L]}};rw[h0];simp only[Option.none_or];by_cases he:p.1=c.key;{rw[if_pos he,AL.z0Z,if_neg (λe=>hx (by rw[<-e,he]))]};{rw[if_neg he]}}}}
theorem znK:∀ {ps:List (Str×Str)} {c:Ch} {q:Str×Str},q ∈ lay1 ps c->q ∈ ps∨q.1=c.key
 | [],c,q,h=>by{unfold lay1 at h;split at h;{cases h};{simp at h;exact .inr (by rw[h])}}
 | p :: ps,c,q,h=>by{unfold lay1 at h;split at h;{rcases List.mem_cons.1 h with rfl | h;{exact .inl (by simp)};{rcases znK h with h | h;{exact .inl (by simp[h])};{exact .inr h}}};{rcases List.mem_append.1 h with h | h;{split at h;{cases h};{simp at h;exact .inr (by rw[h])}};{split at h;{exact .inl (by simp[h])};{exact .inl h}}}}
theorem z7G:∀ {ps:List (Str×Str)},Sorted ps->∀ c,Sorted (lay1 ps c)
 | [],_,c=>by{unfold lay1;split;{exact List.Pairwise.nil};{exact List.pairwise_singleton _ _}}
 | p :: ps,h,c=>by{have hs:=List.pairwise_cons.1 h;unfold lay1;by_cases hp:p.1<c.key;{rw[if_pos hp];refine List.pairwise_cons.2 ⟨λq hq=>?_,z7G hs.2 c⟩;rcases znK hq with hq | hq;{exact hs.1 q hq};{rw[hq];exact hp}};{rw[if_neg hp];have hge:c.key<p.1∨p.1=c.key:=by{rcases zkR p.1 c.key with h1 | h1 | h1;{exact absurd h1 hp};{exact .inr h1};{exact .inl h1}};refine List.pairwise_append.2 ⟨?_,?_,λa ha b hb=>?_⟩;{split;{exact List.Pairwise.nil};{exact List.pairwise_singleton _ _}};{split;{exact hs.2};{exact h}};{have ha':a.1=c.key:=by{split at ha;{cases ha};{simp at ha;rw[ha]}};rw[ha'];split at hb;{rename_i he;rw[<-he];exact hs.1 b hb};{rename_i he;rcases hge with h1 | h1;{rcases List.mem_cons.1 hb with rfl | hb;{exact h1};{exact z9U h1 (hs.1 b hb)}};{exact absurd h1 he}}}}}
def layI(ps:List (Str×Str))(i:It):List (Str×Str):=if i.mark then ps else lay1 ps i.ch
def layAll(l:List It):List (Str×Str):=l.foldl layI []
def mapI(m:List (Str×Str))(i:It):List (Str×Str):=if i.mark then m else if i.ch.gone then AL.del m i.ch.key else AL.put m i.ch.key i.ch.value
theorem zvP{m ps:List (Str×Str)}(hs:Sorted ps)(h:∀ x,AL.get m x=AL.get ps x)(i:It)(x:Str):AL.get (mapI m i) x=AL.get (layI ps i) x:=by
 unfold mapI layI;by_cases hm:i.mark=true;{rw[if_pos hm,if_pos hm,h]};{rw[if_neg hm,if_neg hm,zgV hs];by_cases hg:i.ch.gone=true;{rw[if_pos hg,if_pos hg];by_cases hx:x=i.ch.key;{rw[hx,AL.z6D,if_pos rfl]};{rw[AL.z4E _ hx,if_neg hx,h]}};{rw[if_neg hg,if_neg hg];by_cases hx:x=i.ch.key;{rw[hx,AL.z3G,if_pos rfl]};{rw[AL.z3M _ _ hx,if_neg hx,h]}}}
theorem z6P{m:List (Str×Str)}(h:AL.Ok m){p:Str×Str}(hp:p ∈ m):AL.get m p.1=some p.2:=by
 induction m with | nil=>{cases hp} | cons q m ih=>{have h':=List.pairwise_cons.1 h;rw[AL.z0Z];rcases List.mem_cons.1 hp with rfl | hp;{rw[if_pos rfl]};{rw[if_neg (h'.1 p hp),ih h'.2 hp]}}
theorem z5M{m:List (Str×Str)}{x y:Str}(h:AL.get m x=some y):(x,y) ∈ m:=by
 unfold AL.get at h;cases hf:m.find? λp=>decide (p.1=x) with | none=>{rw[hf] at h;cases h} | some p=>{rw[hf] at h;have h1:=List.mem_of_find?_eq_some hf;have h2:=List.find?_some hf;simp at h h2;rw[<-h2,<-h];exact h1}
theorem zhT{m ps:List (Str×Str)}{ks:List Str}(_hm:AL.Ok m)(hps:Sorted ps)(h:∀ x,AL.get m x=AL.get ps x)(hk:ks.Pairwise λa b=>a<b)(hmem:∀ x,x ∈ ks↔(AL.get m x).isSome=true):(ks.map λx=>(x,(AL.get m x).getD []))=ps:=by
 refine zfN ?_ hps λx=>?_;{unfold Sorted;rw[List.pairwise_map];exact hk};{rw[<-h];have:∀ (l:List Str),AL.get (l.map λx=>(x,(AL.get m x).getD [])) x=if x ∈ l then some ((AL.get m x).getD []) else none:=by{intro l;induction l with | nil=>{rfl} | cons y l ih=>{rw[List.map_cons,AL.z0Z,ih];by_cases hy:y=x;{rw[if_pos hy,if_pos (by simp[hy]),hy]};{rw[if_neg hy];by_cases hx:x ∈ l;{rw[if_pos hx,if_pos (by simp[hx])]};{rw[if_neg hx,if_neg (by simp[hx];exact λe=>hy e.symm)]}}}};rw[this];cases hg:AL.get m x with | none=>{rw[if_neg (by rw[hmem,hg];simp)]} | some y=>{rw[if_pos (by rw[hmem,hg];rfl)];rfl}}
structure Src where
 gone:Nat
 l:List It
def Src.new:Src:=⟨0,[]⟩
def Src.last(s:Src):Nat:=s.gone+s.l.length
def Src.add(s:Src)(c:Ch)(mark:Bool):Src×Nat×Nat:=if 4096≤s.l.length then (s,0,5) else (⟨s.gone,s.l ++ [⟨s.last+1,mark,c⟩]⟩,s.last+1,0)
def Src.do_(s:Src)(c:Ch):Src×Nat×Nat:=if z2M c then s.add c false else (s,0,2)
def Src.mark(s:Src):Src×Nat×Nat:=s.add Ch.zero true
def Src.from_(s:Src)(seq:Nat)(most:Int):List It:=if most<1∨s.last<seq then [] else (s.l.drop (max seq (s.gone+1) - s.gone - 1)).take most.toNat
def Src.trim(s:Src)(upto:Nat):Src×Nat:=if upto≤s.gone then (s,0) else (⟨min upto s.last,s.l.drop (min upto s.last - s.gone)⟩,min upto s.last - s.gone)
structure Snk where
 cut:Nat
 done:List It
 held:List (Nat×It)
def Snk.new:Snk:=⟨0,[],[]⟩
def run(h:List (Nat×It))(at_:Nat):Nat→Nat
 | 0=>0
 | n+1=>if (AL.get h at_).isSome then run h (at_+1) n+1 else 0
def Snk.next(k:Snk):Nat:=k.cut+1+run k.held (k.cut+1) k.held.length
def znC(h:List (Nat×It))(cut:Nat):Nat→Nat
 | 0=>cut
 | n+1=>if ((AL.get h (cut+n+1)).map It.mark).getD false then cut+n+1 else znC h cut n
def adv(k:Snk):Nat→Snk
 | 0=>k
 | n+1=>adv ⟨k.cut+1,k.done ++ [(AL.get k.held (k.cut+1)).getD It.zero],AL.del k.held (k.cut+1)⟩ n
def Snk.take(k:Snk)(i:It):Snk×Nat:=
 if y2J i=false then (k,2) else if i.seq≤k.cut then (k,0) else
 match AL.get k.held i.seq with
 | some o=>if o=i then (k,0) else (k,120)
 | none=>if 512<i.seq - k.cut then (k,5) else
   let k':Snk:=⟨k.cut,k.done,AL.put k.held i.seq i⟩
   (adv k' (znC k'.held k.cut (k'.next - k.cut - 1) - k.cut),0)
end MI
namespace SO
open Go.Proofs.YtkhddpiopbmhjaaGreat MI BM
theorem zjC{b:List UInt8}{k:Nat}{x:UInt8}{l:List UInt8}(h:b.drop k=x :: l):k<b.length/\b.getD k 0=x/\b.drop (k+1)=l:=by
 have hk:k<b.length:=by{rcases Nat.lt_or_ge k b.length with h1 | h1;{exact h1};{rw[List.drop_of_length_le h1] at h;cases h}};rw[List.drop_eq_getElem_cons hk] at h;injection h with h1 h2;exact⟨hk,by simp[hk,h1],h2⟩
theorem zuF{b:List UInt8}{k:Nat}(hk:k<b.length):b.drop k=b.getD k 0 :: b.drop (k+1):=by
 rw[List.drop_eq_getElem_cons hk];simp[hk]
theorem zeG(c:UInt8):UInt8.ofNat c.toNat=c:=by simp
theorem zeR{b:List UInt8}{at_:Nat}:∀ (f i v n to_:Nat),f+i=10->digits b at_ f i v = .yes n to_->
  ∃ q,n=v+q * 2 ^ (7 * i)/\q<2 ^ (64 - 7 * i)/\(0<i->0<q)/\at_+i<to_/\to_<=b.length/\(b.drop (at_+i)).take (to_ - (at_+i))=putU f q
 | 0,i,v,n,to_,_,h=>by cases h
 | f+1,i,v,n,to_,hf,h=>by{unfold digits at h;split at h;{cases h};rename_i hlen;have hk:at_+i<b.length:=by{omega};have hd:=zuF hk;obtain⟨c,hc⟩:=zX1 (b.getD (at_+i) 0);rw[<-hc] at hd;have hc256:=c.toNat_lt;simp only[<-hc] at h;split at h;{cases h};rename_i h9;split at h;{cases h};rename_i h0;split at h;{rename_i h128;injection h with h1 h2;subst h1 h2;refine⟨c.toNat,rfl,?_,λhi=>by omega,by omega,by omega,?_⟩;{by_cases hi9:i=9;{rw[hi9];have:¬ 1<c.toNat:=λx=>h9 ⟨hi9,x⟩;show c.toNat<2;omega};{have:2 ^ 8<=2 ^ (64 - 7 * i):=Nat.pow_le_pow_right (by decide) (by omega);omega}};{rw[show at_+i+1 - (at_+i)=1 by omega,hd];(show [c]=if c.toNat<128 then _ else _);rw[if_pos h128,zeG]}};{rename_i h128;obtain⟨q,e1,e2,e3,e4,e5,e6⟩:=zeR f (i+1) _ n to_ (by omega) h;have hq:=e3 (by omega);have hp:2 ^ (7 * (i+1))=128 * 2 ^ (7 * i):=by{rw[show 7 * (i+1)=7 * i+7 by omega,Nat.pow_add,Nat.mul_comm]};refine⟨c.toNat - 128+128 * q,?_,?_,λ_=>by omega,by omega,e5,?_⟩;{rw[e1,hp,Nat.add_mul,Nat.add_assoc];congr 2;rw[<-Nat.mul_assoc,Nat.mul_comm q 128]};{have hi8:i<=8:=by{rcases Nat.lt_or_ge i 9 with h1 | h1;{omega};{have:i=9:=by{omega};subst this;simp at e2;omega}};have:2 ^ (64 - 7 * i)=128 * 2 ^ (64 - 7 * (i+1)):=by{rw[show 64 - 7 * i=7+(64 - 7 * (i+1)) by omega,Nat.pow_add]};omega};{have hto:to_ - (at_+i)=(to_ - (at_+(i+1)))+1:=by{omega};(rw[hto,hd,List.take_succ_cons];have e6':(b.drop (at_+i+1)).take (to_ - (at_+(i+1)))=putU f q:=e6;rw[e6'];show _=if c.toNat - 128+128 * q<128 then _ else _);rw[if_neg (by omega)];congr 1;{rw[show (c.toNat - 128+128 * q) % 128+128=c.toNat by omega,zeG]};{rw[show (c.toNat - 128+128 * q) / 128=q by omega]}}}}
theorem zfS{b:List UInt8}{at_:Nat}:∀ (f i v q:Nat) (rest:List UInt8),f+i=10->q<2 ^ (64 - 7 * i)->(0<i->0<q)->b.drop (at_+i)=putU f q ++ rest->
  digits b at_ f i v = .yes (v+q * 2 ^ (7 * i)) (at_+i+(putU f q).length)
 | 0,i,v,q,rest,hf,hq,h0,_=>by{have:i=10:=by{omega};subst this;simp at hq;have:=h0 (by omega);omega}
 | f+1,i,v,q,rest,hf,hq,h0,h=>by{unfold putU at h |-;split at h;{rename_i h128;rw[if_pos h128];obtain⟨hk,hg,-⟩:=zjC h;unfold digits;rw[if_neg (by omega)];simp only[hg];have hn:(UInt8.ofNat q).toNat=q:=by{simp;omega};rw[hn,if_neg,if_neg (by rintro⟨h1,h2⟩;have:=h0 h2;omega),if_pos h128];{rfl};{rintro⟨h1,h2⟩;subst h1;simp at hq;omega}};{rename_i h128;rw[if_neg h128];obtain⟨hk,hg,hr⟩:=zjC (show b.drop (at_+i)=UInt8.ofNat (q % 128+128) :: (putU f (q / 128) ++ rest) from h);have hi8:i<=8:=by{rcases Nat.lt_or_ge i 9 with h1 | h1;{omega};{have:i=9∨i=10:=by{omega};rcases this with rfl | rfl;{simp at hq;omega};{simp at hq;omega}}};have hpow:2 ^ (64 - 7 * i)=128 * 2 ^ (64 - 7 * (i+1)):=by{rw[show 64 - 7 * i=7+(64 - 7 * (i+1)) by omega,Nat.pow_add]};have ih:=zfS f (i+1) (v+q % 128 * 2 ^ (7 * i)) (q / 128) rest (by omega) (by omega) (λ_=>by omega) hr;unfold digits;rw[if_neg (by omega)];simp only[hg];have hn:(UInt8.ofNat (q % 128+128)).toNat=q % 128+128:=by{simp;omega};rw[hn,if_neg (by omega),if_neg (by omega),if_neg (by omega),show q % 128+128 - 128=q % 128 by omega,ih];have hp:2 ^ (7 * (i+1))=128 * 2 ^ (7 * i):=by{rw[show 7 * (i+1)=7 * i+7 by omega,Nat.pow_add,Nat.mul_comm]};congr 1;{rw[hp,Nat.add_assoc,<-Nat.mul_assoc,<-Nat.add_mul];congr 2;omega};{simp only[List.length_cons];omega}}}
theorem z7J{b:List UInt8}{at_ n to_:Nat}(h:uint b at_ = .yes n to_):n<18446744073709551616/\at_<to_/\to_<=b.length/\(b.drop at_).take (to_ - at_)=z0H n:=by
 unfold uint at h;split at h;{cases h};{obtain⟨q,e1,e2,-,e4,e5,e6⟩:=zeR 10 0 0 n to_ rfl h;simp at e1 e2;subst e1;exact⟨by omega,by omega,e5,e6⟩}
theorem z7E{b:List UInt8}{at_ n:Nat}{rest:List UInt8}(hn:n<18446744073709551616)(h:b.drop at_=z0H n ++ rest)(hb:at_<=b.length):uint b at_ = .yes n (at_+(z0H n).length):=by
 unfold uint;rw[if_neg (by omega)];have:=zfS (b:=b) (at_:=at_) 10 0 0 n rest rfl (by simpa using hn) (λh=>by omega) (by rw[Nat.add_zero];exact h);simpa [z0H] using this
theorem z3B:∀ f n,(putU f n).length<=f
 | 0,n=>by simp[putU]
 | f+1,n=>by{unfold putU;split;{simp};{have:=z3B f (n / 128);simp;omega}}
def putB(s:Str):List UInt8:=z0H s.length ++ s
inductive Byt
 | no (e:Nat)
 | yes (s:Str) (to_:Nat)
deriving DecidableEq
def z1Z(b:List UInt8)(at_ most:Nat):Byt:=
 match uint b at_ with
 | .no e=>.no e
 | .yes n to_=>if most<n then .no 3 else if b.length - to_<n then .no 10 else .yes ((b.drop to_).take n) (to_+n)
theorem z5P{b:List UInt8}{at_ most to_:Nat}{s:Str}(h:z1Z b at_ most = .yes s to_):s.length<=most/\at_<to_/\to_<=b.length/\(b.drop at_).take (to_ - at_)=putB s:=by
 unfold z1Z at h;cases hu:uint b at_ with | no e=>{rw[hu] at h;cases h} | yes n t=>{rw[hu] at h;simp only at h;split at h;{cases h};split at h;{cases h};rename_i h1 h2;injection h with h3 h4;obtain⟨u1,u2,u3,u4⟩:=z7J hu;have hl:s.length=n:=by{rw[<-h3,List.length_take,List.length_drop];omega};refine⟨by omega,by omega,by omega,?_⟩;unfold putB;rw[hl,<-u4,<-h3,<-h4];have:t+n - at_=(t - at_)+n:=by{omega};rw[this,List.take_add,List.drop_drop,show at_+(t - at_)=t by omega]}
theorem zeA{b:List UInt8}{at_ most:Nat}{s:Str}{rest:List UInt8}(hs:s.length<=most)(hm:s.length<18446744073709551616)(hb:at_<=b.length)(h:b.drop at_=putB s ++ rest):z1Z b at_ most = .yes s (at_+(putB s).length):=by
 unfold putB at h |-;rw[List.append_assoc] at h;have hu:=z7E hm h hb;have hl:=congrArg List.length h;simp only[List.length_drop,List.length_append] at hl;have hd:b.drop (at_+(z0H s.length).length)=s ++ rest:=by{rw[<-List.drop_drop,h,List.drop_left]};unfold z1Z;rw[hu];simp only;rw[if_neg (by omega),if_neg (by omega),hd,List.take_left,List.length_append,Nat.add_assoc]
def right(l:List Ch):Bool:=decide (l.length≤32) && l.all z2M
def encC(c:Ch):List UInt8:=putB c.key ++ if c.gone then [1] else 0 :: putB c.value
def enc(l:List Ch):List UInt8:=z0H l.length ++ l.flatMap encC
def encE(l:List Ch):Nat:=if right l then (if 1024<(enc l).length then 3 else 0) else 2
def chAt(b:List UInt8)(at_:Nat):Option (Ch×Nat):=
 match z1Z b at_ 16 with
 | .no _=>none
 | .yes k to_=>
   match uint b to_ with
   | .no _=>none
   | .yes g t2=>if 1<g then none else if g=1 then some (⟨k,[],true⟩,t2) else
     match z1Z b t2 128 with
     | .no _=>none
     | .yes v t3=>some (⟨k,v,false⟩,t3)
def z9A(b:List UInt8):Nat→Nat→Option (List Ch×Nat)
 | 0,at_=>some ([],at_)
 | k+1,at_=>
   match chAt b at_ with
   | none=>none
   | some (c,to_)=>
     match z9A b k to_ with
     | none=>none
     | some (l,t2)=>some (c :: l,t2)
def dec(b:List UInt8):Option (List Ch):=
 match uint b 0 with
 | .no _=>none
 | .yes n to_=>if 32<n then none else
   match z9A b n to_ with
   | none=>none
   | some (l,t2)=>if t2=b.length∧right l=true∧b.length≤1024 then some l else none
theorem z9X{g:Nat}(h:g<128):z0H g = [UInt8.ofNat g]:=by
 unfold z0H putU;rw[if_pos h]
theorem zvI{b:List UInt8}{at_ to_:Nat}{c:Ch}(h:chAt b at_=some (c,to_)):at_<to_/\to_<=b.length/\(b.drop at_).take (to_ - at_)=encC c:=by
 unfold chAt at h;cases hk:z1Z b at_ 16 with | no e=>{rw[hk] at h;cases h} | yes k t1=>{rw[hk] at h;simp only at h;obtain⟨k1,k2,k3,k4⟩:=z5P hk;cases hu:uint b t1 with | no e=>{rw[hu] at h;cases h} | yes g t2=>{rw[hu] at h;simp only at h;obtain⟨u1,u2,u3,u4⟩:=z7J hu;split at h;{cases h};split at h;{rename_i h1 h2;injection h with h;injection h with h3 h4;subst h2 h3 h4;refine⟨by omega,u3,?_⟩;unfold encC;rw[show t2 - at_=(t1 - at_)+(t2 - t1) by omega,List.take_add,List.drop_drop,show at_+(t1 - at_)=t1 by omega,k4,u4];rfl};{rename_i h1 h2;have hg:g=0:=by{omega};subst hg;cases hv:z1Z b t2 128 with | no e=>{rw[hv] at h;cases h} | yes v t3=>{rw[hv] at h;injection h with h;injection h with h3 h4;subst h3 h4;obtain⟨v1,v2,v3,v4⟩:=z5P hv;refine⟨by omega,v3,?_⟩;unfold encC;rw[show t3 - at_=(t1 - at_)+((t2 - t1)+(t3 - t2)) by omega,List.take_add,List.drop_drop,show at_+(t1 - at_)=t1 by omega,k4,List.take_add,List.drop_drop,show t1+(t2 - t1)=t2 by omega,u4,v4];rfl}}}}
theorem zxW{b:List UInt8}{at_:Nat}{c:Ch}{rest:List UInt8}(hc:z2M c=true)(hb:at_<=b.length)(h:b.drop at_=encC c ++ rest):chAt b at_=some (c,at_+(encC c).length):=by
 obtain⟨key,value,gone⟩:=c;unfold z2M at hc;simp only[decide_eq_true_eq] at hc;unfold encC at h |-;simp only at h |-;rw[List.append_assoc] at h;have hk:=zeA (most:=16) hc.2.1 (by omega) hb h;have hl:=congrArg List.length h;simp only[List.length_drop,List.length_append] at hl;have hd:b.drop (at_+(putB key).length)=(if gone then [1] else 0 :: putB value) ++ rest:=by{rw[<-List.drop_drop,h,List.drop_left]};unfold chAt;rw[hk];simp only;cases gone with | true=>{have hu:=z7E (n:=1) (by decide) (show b.drop (at_+(putB key).length)=z0H 1 ++ rest from hd) (by omega);rw[hu];simp only;have hv:value = []:=by{by_cases hv:value = [];{exact hv};{exact absurd ⟨rfl,hv⟩ hc.2.2.2}};subst hv;rw[if_neg (by omega)];simp only[if_true,List.length_append];rw[Nat.add_assoc];rfl} | false=>{have hd0:b.drop (at_+(putB key).length)=z0H 0 ++ (putB value ++ rest):=hd;have hu:=z7E (n:=0) (by decide) hd0 (by omega);rw[hu];simp only;have hl1:(z0H 0).length=1:=rfl;have hd2:b.drop (at_+(putB key).length+(z0H 0).length)=putB value ++ rest:=by{rw[<-List.drop_drop,hd0,List.drop_left]};have hv:=zeA (most:=128) hc.2.2.1 (by omega) (by simp at hl;omega) hd2;rw[if_neg (by omega),if_neg (by omega),hv];simp only[Bool.false_eq_true,if_false,List.length_append,List.length_cons,hl1];congr 2;omega}
theorem zhL{b:List UInt8}:∀ (k at_ to_:Nat) (l:List Ch),at_<=b.length->z9A b k at_=some (l,to_)->l.length=k/\at_<=to_/\to_<=b.length/\(b.drop at_).take (to_ - at_)=l.flatMap encC
 | 0,at_,to_,l,hb,h=>by{injection h with h;injection h with h1 h2;subst h1 h2;exact⟨rfl,Nat.le_refl _,hb,by simp⟩}
 | k+1,at_,to_,l,hb,h=>by{unfold z9A at h;cases hc:chAt b at_ with | none=>{rw[hc] at h;cases h} | some p=>{obtain⟨c,t1⟩:=p;rw[hc] at h;simp only at h;obtain⟨c1,c2,c3⟩:=zvI hc;cases hr:z9A b k t1 with | none=>{rw[hr] at h;cases h} | some p=>{obtain⟨m,t2⟩:=p;rw[hr] at h;injection h with h;injection h with h1 h2;subst h1 h2;obtain⟨r1,r2,r3,r4⟩:=zhL k t1 t2 m c2 hr;refine⟨by simp[r1],by omega,r3,?_⟩;rw[show t2 - at_=(t1 - at_)+(t2 - t1) by omega,List.take_add,List.drop_drop,show at_+(t1 - at_)=t1 by omega,c3,r4];rfl}}}
theorem zjN{b:List UInt8}:∀ (l:List Ch) (at_:Nat) (rest:List UInt8),(∀ c ∈ l,z2M c=true)->at_<=b.length->b.drop at_=l.flatMap encC ++ rest->z9A b l.length at_=some (l,at_+(l.flatMap encC).length)
 | [],at_,rest,_,_,_=>by simp[z9A]
 | c :: l,at_,rest,hr,hb,h=>by{have h':b.drop at_=encC c ++ (l.flatMap encC ++ rest):=by{rw[h];simp};have hl:=congrArg List.length h';simp only[List.length_drop,List.length_append] at hl;have hc:=zxW (hr c List.mem_cons_self) hb h';have hd:b.drop (at_+(encC c).length)=l.flatMap encC ++ rest:=by{rw[<-List.drop_drop,h',List.drop_left]};have ih:=zjN l (at_+(encC c).length) rest (λd hd=>hr d (List.mem_cons_of_mem _ hd)) (by omega) hd;show z9A b (l.length+1) at_=_;unfold z9A;rw[hc];simp only;rw[ih];simp only[List.flatMap_cons,List.length_append,Nat.add_assoc]}
theorem z2R{l:List Ch}(h:right l=true):l.length<=32/\∀ c ∈ l,z2M c=true:=by
 unfold right at h;rw[Bool.and_eq_true,decide_eq_true_iff,List.all_eq_true] at h;exact h
theorem zyU{b:List UInt8}{l:List Ch}(h:dec b=some l):right l=true/\enc l=b/\b.length<=1024:=by
 unfold dec at h;cases hu:uint b 0 with | no e=>{rw[hu] at h;cases h} | yes n t1=>{rw[hu] at h;simp only at h;obtain⟨u1,u2,u3,u4⟩:=z7J hu;split at h;{cases h};cases hc:z9A b n t1 with | none=>{rw[hc] at h;cases h} | some p=>{obtain⟨m,t2⟩:=p;rw[hc] at h;simp only at h;split at h;{rename_i h1 h2;injection h with h;subst h;obtain⟨c1,c2,c3,c4⟩:=zhL n t1 t2 m u3 hc;refine⟨h2.2.1,?_,h2.2.2⟩;unfold enc;rw[c1,<-u4,<-c4,Nat.sub_zero,List.drop_zero,h2.1];rw[List.take_of_length_le (show (b.drop t1).length<=b.length - t1 by rw[List.length_drop];exact Nat.le_refl _),List.take_append_drop]};{cases h}}}
theorem zrC{l:List Ch}(h:right l=true)(rest:List UInt8):uint (enc l ++ rest) 0 = .yes l.length (z0H l.length).length/\z9A (enc l ++ rest) l.length (z0H l.length).length=some (l,(enc l).length):=by
 obtain⟨h1,h2⟩:=z2R h;have e:(enc l ++ rest).drop 0=z0H l.length ++ (l.flatMap encC ++ rest):=by{unfold enc;simp};refine⟨by have:=z7E (by omega) e (Nat.zero_le _);rwa [Nat.zero_add] at this,?_⟩;have hd:(enc l ++ rest).drop (z0H l.length).length=l.flatMap encC ++ rest:=by{rw[List.drop_zero] at e;rw[e,List.drop_left]};have:=zjN l (z0H l.length).length rest h2 (by unfold enc;simp only[List.length_append];omega) hd;rw[this];congr 2;unfold enc;rw[List.length_append]
theorem zrR{l:List Ch}(h:right l=true)(hl:(enc l).length<=1024):dec (enc l)=some l:=by
 obtain⟨p1,p2⟩:=zrC h [];rw[List.append_nil] at p1 p2;unfold dec;rw[p1];simp only;rw[if_neg (by have:=(z2R h).1;omega),p2];simp only;rw[if_pos ⟨trivial,h,hl⟩]
end SO
end Go.Proofs.YtkhddpiopbmhjaaGreat
