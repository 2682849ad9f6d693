/- Texts GrI, GrJ, GrK, GrN, GrP, GrQ, GrR, GrS, GrT, NwA, NwB, NwC, NwD, AcdF in one. Conditions: as each law names them. -/
import Derived.Test.YtkhddpiopbmhjaaGreatUae
import Derived.Test.YtkhddpiopbmhjaaGreatUbc
import Derived.Test.YtkhddpiopbmhjaaGreatUbf
set_option maxRecDepth 20000
set_option maxHeartbeats 8000000
namespace Go.Proofs.YtkhddpiopbmhjaaGreat
namespace GR
open Go.Proofs.YtkhddpiopbmhjaaGreat MI SO BM DM WM AC RM
def cnt(k:Int)(n:Nat)(l:List Ml):Nat:=(l.filter fun m=>decide (m.kind=k) && decide (m.to_=(n:Int))).length
def one1(k:Int)(n:Nat)(m:Ml):Nat:=if m.kind=k∧m.to_=(n:Int) then 1 else 0
theorem zbD(k:Int)(n:Nat)(l r:List Ml):cnt k n (l ++ r)=cnt k n l+cnt k n r:=by unfold cnt;simp
theorem zjX(k:Int)(n:Nat)(m:Ml):cnt k n [m]=one1 k n m:=by
 unfold cnt one1;by_cases h:m.kind=k/\m.to_=(n:Int);{rw[if_pos h];simp[h.1,h.2]};{rw[if_neg h];rw[List.filter_cons_of_neg (by simpa using h)];rfl}
theorem zaG(k:Int)(n:Nat)(m:Ml)(l:List Ml):cnt k n (m :: l)=one1 k n m+cnt k n l:=by rw[show m :: l = [m] ++ l from rfl,zbD,zjX]
theorem zdN(k:Int)(n:Nat):∀ {l:List Ml} {i:Nat} (h:i<l.length),cnt k n (l.eraseIdx i)+one1 k n l[i]=cnt k n l
 | m :: l,0,_=>by{show cnt k n l+one1 k n m=cnt k n (m :: l);rw[zaG,Nat.add_comm]}
 | m :: l,i+1,h=>by{have hi:i<l.length:=by{simpa using h};have ih:=zdN k n hi;show cnt k n (m :: l.eraseIdx i)+one1 k n l[i]=cnt k n (m :: l);rw[zaG,zaG];omega}
structure PIn (b:Bal) (es:List (List UInt8)) (p:Pr):Prop where
 pb:p.b=b
 frm:p.frm=1
 set:p.set<4294967296
 musts:p.musts = []
 slots:∀ e ∈ p.slots,0<e.1∧∃ v,es[e.1 - 1]?=some v∧e.2.1=⟨e.1,b,v⟩∧e.2.2<4294967296
 few:p.slots.length≤es.length
structure NIn (H:Nat) (b:Bal) (es:List (List UInt8)) (a k:Nat) (m:Mb):Prop where
 up:m.up=true
 room:AC.Room H (70 * a+220 * k) m.D m.A
 still:m.D.waits = []
 ab:m.A.b=Bal.zero∨m.A.b=b
 vsk:m.A.vs.length≤k
 sub:Sub es m
 tight:kept m.log.l (m.log.ap+1)=none
 seen:m.seen≤1
 pro:∀ p,m.p=some p→m.b=b∧m.frm=1∧PIn b es p
 asks:m.asks.length≤es.length
 said:m.said.length≤m.log.ap
structure LIn (b:Bal) (es:List (List UInt8)) (l:Ml):Prop where
 to_:∃ n:Nat,n<3∧l.to_=(n:Int)
 frm:∃ n:Nat,n<3∧l.frm=(n:Int)
 bal:l.b=b∨((l.kind=6∨l.kind=7)∧l.b=Bal.zero)
 kind:(l.kind=1∧l.vs=z1U 1∧es = [])∨(l.kind=2∧l.vs = [])∨(l.kind=3∧∃ s v,l.vs = [⟨s,b,v⟩]∧0<s∧es[s - 1]?=some v)∨
  (l.kind=4∧∃ s,l.vs=z1U s∧0<s∧s≤es.length)∨(l.kind=5∧∃ s v,l.vs = [⟨s,Bal.zero,v⟩]∧0<s∧es[s - 1]?=some v)∨
  (l.kind=6∧∃ s,l.vs=z1U s∧s<18446744073709551616)∨(l.kind=7∧l.vs.length≤8∧∀ u ∈ l.vs,0<u.slot∧es[u.slot - 1]?=some u.val)
structure InvX (H:Nat) (b:Bal) (es:List (List UInt8)) (x:Int→Nat→Nat) (G:Gr):Prop where
 q:G.q=three
 len:G.ms.length=3
 few:G.l.length≤200
 lets:∀ l ∈ G.l,LIn b es l
 nodes:∀ n,n<3→∃ a k,NIn H b es a k (getG G n)∧a+cnt 1 n G.l+x 1 n≤1∧k+cnt 3 n G.l+x 3 n≤es.length
abbrev Inv(H:Nat)(b:Bal)(es:List (List UInt8))(G:Gr):Prop:=InvX H b es (fun _ _=>0) G
structure EsOk (H:Nat) (b:Bal) (es:List (List UInt8)):Prop where
 ok:OkB b
 one:b.n=1
 len:es.length≤40
 fits:70+220 * es.length≤32 * H
 vals:∀ v ∈ es,v.length≤100
section
variable {H:Nat} {b:Bal} {es:List (List UInt8)} {x y:Int→Nat→Nat} {G:Gr} {n a k:Nat} {m:Mb} {l:Ml} {p:Pr}
theorem EsOk.less(h:EsOk H b es)(hm:m.A.b=Bal.zero∨m.A.b=b):less b m.A.b=false:=by
 rcases hm with e | e <;> rw[e];{unfold AC.less;rw[h.one];rfl};{exact z5T b}
theorem EsOk.mem(h:EsOk H b es){s:Nat}{v:List UInt8}(e:es[s - 1]?=some v)(hs:0<s):v.length<=100/\s<=es.length:=by
 obtain⟨h1,h2⟩:=List.getElem?_eq_some_iff.1 e;exact⟨h.vals v (by rw[<-h2];exact List.getElem_mem h1),by omega⟩
theorem InvX.set(h:InvX H b es x G)(hn:n<3)(hm:∃ a k,NIn H b es a k m/\a+cnt 1 n G.l+y 1 n<=1/\k+cnt 3 n G.l+y 3 n<=es.length)(hy:∀ j,j≠n->y 1 j<=x 1 j/\y 3 j<=x 3 j):InvX H b es y (setG G n m):=by
 refine⟨h.q,by rw[z0S];exact h.len,h.few,h.lets,λj hj=>?_⟩;by_cases e:j=n;{subst e;rw[z1C (by rw[h.len];exact hj)];exact hm};{rw[z9G (λz=>e z.symm)];obtain⟨a,k,h1,h2,h3⟩:=h.nodes j hj;obtain⟨_,_⟩:=hy j e;exact⟨a,k,h1,by rw[znG];omega,by rw[znG];omega⟩}
theorem InvX.send(h:InvX H b es x G)(hl:LIn b es l)(hx:∀ j,j<3->y 1 j+one1 1 j l<=x 1 j/\y 3 j+one1 3 j l<=x 3 j):InvX H b es y (z3N G l):=by
 by_cases c:G.l.length<200;{refine⟨by rw[y0Z];exact h.q,by rw[zmS];exact h.len,by rw[zkL c];simp;omega,λu hu=>?_,λj hj=>?_⟩;{rw[zkL c] at hu;rcases List.mem_append.1 hu with z | z;{exact h.lets u z};{simp at z;subst z;exact hl}};{obtain⟨a,k,h1,h2,h3⟩:=h.nodes j hj;obtain⟨e1,e3⟩:=hx j hj;rw[ztY,zkL c,zbD,zbD,zjX,zjX];exact⟨a,k,h1,by omega,by omega⟩}};{have e:z3N G l=G:=by{unfold z3N;rw[if_neg c]};rw[e];refine⟨h.q,h.len,h.few,h.lets,λj hj=>?_⟩;obtain⟨a,k,h1,h2,h3⟩:=h.nodes j hj;obtain⟨_,_⟩:=hx j hj;exact⟨a,k,h1,by omega,by omega⟩}
theorem InvX.mono(h:InvX H b es x G)(hy:∀ j,j<3->y 1 j<=x 1 j/\y 3 j<=x 3 j):InvX H b es y G:=
 ⟨h.q,h.len,h.few,h.lets,λj hj=>let ⟨a,k,h1,h2,h3⟩:=h.nodes j hj;⟨a,k,h1,by have:=hy j hj;omega,by have:=hy j hj;omega⟩⟩
theorem z7U{q:Int}(h:l.kind≠q):one1 q n l=0:=by unfold one1;rw[if_neg λz=>h z.1]
theorem Inv.others(h:Inv H b es G)(hl:∀ j:Nat,j<3->LIn b es { l with frm:=(n:Int),to_:=(j:Int) })(hk:l.kind≠1/\l.kind≠3):Inv H b es (z1H G n l):=by
 have key:∀ i,i<=3->Inv H b es (z1P G n l i):=by{intro i;induction i with | zero=>{exact λ_=>h} | succ i ih=>{intro hi;have h1:=ih (by omega);rw[z1P];split;{exact h1};{refine h1.send (hl i (by omega)) λj _=>?_;rw[z7U (l:={ l with frm:=(n:Int),to_:=(i:Int) }) hk.1,z7U (l:={ l with frm:=(n:Int),to_:=(i:Int) }) hk.2];exact⟨Nat.le_refl _,Nat.le_refl _⟩}}};unfold z1H;rw[h.len];exact key 3 (Nat.le_refl _)
theorem zpM{D:Dk}{A:Ac}{m:Nat}{b:Bal}{k:Nat}(h:AC.Room H m D A)(hw:D.waits = [])(h0:(z1X D A b k).1.2.2=0):(z1X D A b k).2.1.waits = []:=by
 unfold z1X at *;split;{exact hw};rename_i h1;rw[if_neg h1] at h0;split;{exact hw};rename_i h2;rw[if_neg h2] at h0;split;{exact hw};rename_i h3;rw[if_neg h3] at h0;split;{exact hw};rename_i h4;rw[if_neg h4] at h0;split;{rename_i h5;exact zhM h.sound h5};{rename_i h5;rw[if_neg h5] at h0;exact absurd h0 h5}
theorem NIn.same{m':Mb}(h:NIn H b es a k m)(hs:Sub es m')(ht:kept m'.log.l (m'.log.ap+1)=none)(hm:Same m m')(hq:m'.said.length<=m'.log.ap):NIn H b es a k m':=by
 obtain⟨e1,e2,e3,e4,e5,e6,e7,-,e9⟩:=hm;exact⟨by rw[e1];exact h.up,by rw[e2,e3];exact h.room,by rw[e2];exact h.still,by rw[e3];exact h.ab,by rw[e3];exact h.vsk,hs,ht,by rw[e4];exact h.seen,by rw[e5,e6,e7];exact h.pro,by rw[e9];exact h.asks,hq⟩
theorem NIn.look(h:NIn H b es a k m){c:Nat}(hc:c<=1):NIn H b es a k { m with seen:=max m.seen c }:=
 ⟨h.up,h.room,h.still,h.ab,h.vsk,h.sub.with rfl rfl rfl,h.tight,by have:=h.seen;simp only;omega,h.pro,h.asks,h.said⟩
theorem zxC(m:Mb)(e:RM.Ent):(repM m e).length<=1:=by
 unfold repM;split;{split;{exact Nat.le_refl 1};{exact Nat.zero_le _}};{exact Nat.zero_le _}
theorem zhX:∀ (n:Nat) (x:Mb),x.said.length<=x.log.ap->(appN n x).said.length<=(appN n x).log.ap
 | 0,_,h=>h
 | n+1,x,h=>by{unfold appN RM.apply;cases hk:kept x.log.l (x.log.ap+1) with | none=>{exact h} | some v=>{simp only;refine zhX n _ ?_;rw[z4G];show (x.said ++ repM _ _).length<=x.log.ap+1;rw[List.length_append];exact Nat.add_le_add h (zxC _ _)}}
theorem zzW(g:RM.Lg)(s:Nat)(v:List UInt8):(RM.learn g s v).2.ap=g.ap:=by
 unfold RM.learn
 repeat' split
 all_goals rfl
theorem zuA:∀ (vs:List Vt) (g:RM.Lg),(vs.foldl (λk v=>(RM.learn k v.slot v.val).2) g).ap=g.ap
 | [],_=>rfl
 | v :: vs,g=>by{show (vs.foldl _ (RM.learn g v.slot v.val).2).ap=_;rw[zuA vs,zzW]}
theorem NIn.got(h:NIn H b es a k m){g:RM.Lg}(hs:Sub es { m with log:=g })(hg:g.ap=m.log.ap):NIn H b es a k (z2Y { m with log:=g }):=by
 obtain⟨i1,i2,i3,i4,i5⟩:=zdF es _ _ hs (Nat.le_refl (z2H g));have i3:(z2Y { m with log:=g }).log.l=g.l:=i3;exact h.same i1 (by rw[i3];exact i5) i2 (zhX _ _ (by show m.said.length<=g.ap;rw[hg];exact h.said))
theorem Sub.learn(hE:EsOk H b es)(h:Sub es m){s:Nat}{v:List UInt8}(hs:0<s)(he:es[s - 1]?=some v):Sub es { m with log:=(RM.learn m.log s v).2 }/\(RM.learn m.log s v).1=0:=by
 obtain⟨h1,h2⟩:=hE.mem he hs;have h3:=hE.len;obtain⟨l1,l2⟩:=zaF h hs (by omega) he h1 (by have:=h.few;omega);exact⟨l2,l1.1⟩
theorem Sub.learns(hE:EsOk H b es):∀ (vs:List Vt) {m:Mb},Sub es m->(∀ u ∈ vs,0<u.slot/\es[u.slot - 1]?=some u.val)->Sub es { m with log:=vs.foldl (λg v=>(RM.learn g v.slot v.val).2) m.log }
 | [],_,h,_=>h
 | u :: vs,m,h,hv=>by{have h1:=(h.learn hE (hv u (by simp)).1 (hv u (by simp)).2).1;exact Sub.learns hE vs (m:={ m with log:=(RM.learn m.log u.slot u.val).2 }) h1 λw hw=>hv w (by simp[hw])}
theorem zsK{x:Mb}:setG (z3N G l) n x=z3N (setG G n x) l:=by
 unfold z3N setG;split <;> rfl
theorem zkN{x:Mb}:setG (z1H G n l) n x=z1H (setG G n x) n l:=by
 have key:∀ i,setG (z1P G n l i) n x=z1P (setG G n x) n l i:=by{intro i;induction i with | zero=>{rfl} | succ i ih=>{rw[z1P,z1P];split;{exact ih};{rw[zsK,ih]}}};unfold z1H;rw[key,z0S]
theorem zdY:∀ {l:List RM.Ent} {s k:Nat} {e:RM.Ent},e ∈ RM.train l s k->e ∈ l
 | [],_,_,_,h=>by simp[RM.train] at h
 | _ :: _,_,0,_,h=>by simp[RM.train] at h
 | d :: l,s,k+1,e,h=>by{rw[RM.train] at h;split at h;{rcases List.mem_cons.1 h with z | z;{exact List.mem_cons.2 (.inl z)};{exact List.mem_cons.2 (.inr (zdY z))}};{simp at h}}
theorem zdA:∀ {l:List RM.Ent} {s k:Nat},(RM.train l s k).length<=k
 | [],_,_=>by simp[RM.train]
 | _ :: _,_,0=>by simp[RM.train]
 | d :: l,s,k+1=>by{rw[RM.train];split;{have:=zdA (l:=l) (s:=s+1) (k:=k);simp;omega};{simp}}
theorem PIn.bits(h:PIn b es p){n:Nat}(hn:n<3):PIn b es { p with set:=bit p.set (n:Int) }:=
 ⟨h.pb,h.frm,Nat.or_lt_two_pow (n:=32) h.set (Nat.pow_lt_pow_right (by decide) (by rw[Int.toNat_natCast];omega)),h.musts,h.slots,h.few⟩
theorem PIn.acc(h:PIn b es p){n s:Nat}(hn:n<3):PIn b es (accP three p (n:Int) s).2:=by
 unfold accP;split;{exact h};{split;{exact h};{refine⟨h.pb,h.frm,h.set,h.musts,λe he=>?_,by unfold upd;simpa using h.few⟩;unfold upd at he;obtain⟨d,hd,rfl⟩:=List.mem_map.1 he;obtain⟨h1,v,h2,h3,h4⟩:=h.slots d hd;split;{exact⟨h1,v,h2,h3,Nat.or_lt_two_pow (n:=32) h4 (Nat.pow_lt_pow_right (by decide) (by rw[Int.toNat_natCast];omega))⟩};{exact⟨h1,v,h2,h3,h4⟩}}}
theorem InvX.turn(h:InvX H b es x G)(hn:n<3)(f:∀ a k,NIn H b es a k (getG G n)->NIn H b es a k m):InvX H b es x (setG G n m):=
 let ⟨a,k,h1,h2,h3⟩:=h.nodes n hn;h.set hn ⟨a,k,f a k h1,h2,h3⟩ λ_ _=>⟨Nat.le_refl _,Nat.le_refl _⟩
theorem zyM{α:Type}{l:List (Nat×α)}{s:Nat}{e:α}(h:AL.get l s=some e):(s,e) ∈ l:=by
 unfold AL.get at h;obtain⟨q,hq,rfl⟩:=Option.map_eq_some_iff.1 h;have h1:=List.mem_of_find?_eq_some hq;have h2:=List.find?_some hq;simp only[decide_eq_true_eq] at h2;subst h2;exact h1
theorem Inv.chosen(hE:EsOk H b es)(h:Inv H b es G)(hn:n<3)(hp:PIn b es p)(hb:(getG G n).b=b)(s:Nat):Inv H b es (z1S G n p s):=by
 unfold z1S;simp only;split;{exact h};rename_i v hc;have hv:0<s/\es[s - 1]?=some v:=by{unfold z3F at hc;split at hc;{cases hc};{rename_i e he;split at hc;{obtain⟨h1,v',h2,h3,-⟩:=hp.slots _ (zyM he);simp only at h3;rw[h3] at hc;cases hc;exact⟨h1,h2⟩};{cases hc}}};split;{exact h};have hn1:n<G.ms.length:=by{rw[h.len];exact hn};obtain⟨a0,k0,hN0,-⟩:=h.nodes n hn;obtain⟨hs1,hs2⟩:=hN0.sub.learn hE hv.1 hv.2;rw[if_neg (by rw[hs2];exact λz=>z rfl),z4Q,z1C hn1,zkN,z0W];have h1:Inv H b es (setG G n (z2Y { getG G n with log:=(RM.learn (getG G n).log s v).2 })):=h.turn hn λa k hN=>hN.got hs1 (zzW _ _ _);exact h1.others (n:=n) (l:=⟨5,0,0,(getG G n).b,[⟨s,Bal.zero,v⟩]⟩) (λj hj=>⟨⟨j,hj,rfl⟩,⟨n,hn,rfl⟩,.inl hb,.inr (.inr (.inr (.inr (.inl ⟨rfl,s,v,rfl,hv⟩))))⟩) ⟨show (5:Int)≠1 by decide,show (5:Int)≠3 by decide⟩
theorem NIn.prep(hE:EsOk H b es)(h:NIn H b es 0 0 m):(z1X m.D m.A b 1).1=([],b,0)/\NIn H b es 1 0 { m with D:=(z1X m.D m.A b 1).2.1,A:=(z1X m.D m.A b 1).2.2 }:=by
 obtain⟨r1,r2,r3,r4⟩:=h.room.prep (by have:=hE.fits;omega) hE.ok (hE.less h.ab) 1;have hst:=zpM (b:=b) (k:=1) h.room h.still (by rw[r1]);refine⟨by rw[r1,List.eq_nil_of_length_eq_zero (Nat.le_zero.1 h.vsk)];rfl,h.up,r2,hst,.inr r3,by simp only;rw[r4];exact h.vsk,h.sub.with rfl rfl rfl,h.tight,h.seen,h.pro,h.asks,h.said⟩
theorem zlR:∀ (vs:List Vt) (v:Vt),(insV vs v).length<=vs.length+1
 | [],_=>Nat.le_refl 1
 | u :: vs,v=>by{unfold insV;have:=zlR vs v;split;{simp only[List.length_cons];omega};{split <;> simp only[List.length_cons] <;> omega}}
theorem NIn.accept(hE:EsOk H b es){s:Nat}{v:List UInt8}(hs:0<s)(he:es[s - 1]?=some v)(ha:a<=1)(hk:k<es.length)(h:NIn H b es a k m):(z0T m.D m.A ⟨s,b,v⟩).1=(b,0)/\NIn H b es a (k+1) { m with D:=(z0T m.D m.A ⟨s,b,v⟩).2.1,A:=(z0T m.D m.A ⟨s,b,v⟩).2.2 }:=by
 obtain⟨h1,h2⟩:=hE.mem he hs;have h3:=hE.len;obtain⟨r1,r2,r3,r4⟩:=h.room.accept (v:=⟨s,b,v⟩) (by have:=hE.fits;omega) (by simp[z6Q,hE.ok.1,h1];omega) hE.ok.2 (show s<_ by omega) (hE.less h.ab);have hst:=h.room.accept_still (v:=⟨s,b,v⟩) (by rw[r1]);refine⟨r1,h.up,?_,hst,.inr r3,?_,h.sub.with rfl rfl rfl,h.tight,h.seen,h.pro,h.asks,h.said⟩;{have e:70 * a+220 * (k+1)=70 * a+220 * k+220:=by{omega};rw[e];exact r2};{have h5:=zlR m.A.vs ⟨s,b,v⟩;have h6:=h.vsk;simp only;rw[r4];omega}
theorem zsJ(hn:n<G.ms.length):setG G n (getG G n)=G:=by
 unfold setG getG;rw[List.getD_eq_getElem?_getD,List.getElem?_eq_getElem hn,Option.getD_some,List.set_getElem_self]
theorem zjU(hn:n<G.ms.length)(vs:List Vt)(c:Bal):z6N G n l vs c 0=z3N G ⟨l.kind+1,l.to_,l.frm,l.b,vs⟩:=by
 unfold z6N ziD zaA;simp only[show ¬ (0:Int)=6 by decide,if_false,if_true,zsJ hn]
theorem PIn.prom(h:PIn b es p){f:Nat}(hf:f<3):PIn b es (z2N three p (f:Int) []).2:=by
 unfold z2N;split;{exact h};split;{exact h};split;{exact h};{exact h.bits hf}
theorem Inv.arrive(hE:EsOk H b es)(h:InvX H b es (λq j=>one1 q j l) G)(hl:LIn b es l):Inv H b es (z0M G l):=by
 obtain⟨⟨n,hn,e1⟩,⟨f,hf,e2⟩,hlb,hkind⟩:=hl;obtain⟨kind,frm,to_,lb,vs⟩:=l;simp only at e1 e2 hlb hkind;subst e1 e2;have hc:lb.n<=1:=by{rcases hlb with e | ⟨-,e⟩;{rw[e,hE.one];exact Nat.le_refl _};{rw[e];exact Nat.zero_le _}};have hg:=h.len;obtain⟨m,hm⟩:∃ m:Mb,m = { getG G n with seen:=max (getG G n).seen lb.n }:=⟨_,rfl⟩;have h1:InvX H b es (λq j=>one1 q j ⟨kind,(f:Int),(n:Int),lb,vs⟩) (setG G n m):=h.turn hn λa k hN=>by{rw[hm];exact hN.look hc};have hgm:getG (setG G n m) n=m:=z1C (by rw[hg];exact hn);obtain⟨G1,hG1⟩:=zX1 (setG G n m);rw[<-hG1] at h1 hgm;have hn1:n<G1.ms.length:=by{rw[h1.len];exact hn};have hplain:kind≠1->kind≠3->Inv H b es G1:=λn1 n3=>h1.mono λj _=>⟨Nat.zero_le _,Nat.zero_le _⟩;rcases hkind with ⟨rfl,rfl,he⟩ | ⟨rfl,rfl⟩ | ⟨rfl,s,v,rfl,hs,hv⟩ | ⟨rfl,s,rfl,hs,hs2⟩ | ⟨rfl,s,v,rfl,hs,hv⟩ | ⟨rfl,s,rfl,hs⟩ | ⟨rfl,hlen,hv⟩;{have hlb:lb=b:=hlb.elim id λz=>by{rcases z.1 with e | e <;> exact absurd e (by decide)};subst hlb;obtain⟨a,k,hN,h2,h3⟩:=h1.nodes n hn;rw[hgm] at hN;have ho:one1 1 n ⟨1,(f:Int),(n:Int),lb,z1U 1⟩=1:=by{unfold one1;rw[if_pos ⟨rfl,rfl⟩]};rw[ho] at h2;rw[he] at h3;simp only[List.length_nil] at h3;obtain rfl:a=0:=by{omega};obtain rfl:k=0:=by{omega};obtain⟨r1,r2⟩:=hN.prep hE;have e:z0M G ⟨1,(f:Int),(n:Int),lb,z1U 1⟩=z6N (setG G1 n { m with D:=(z1X m.D m.A lb 1).2.1,A:=(z1X m.D m.A lb 1).2.2 }) n ⟨1,(f:Int),(n:Int),lb,z1U 1⟩ (z1X m.D m.A lb 1).1.1 (z1X m.D m.A lb 1).1.2.1 (z1X m.D m.A lb 1).1.2.2:=by{unfold z0M;simp only[Int.toNat_natCast,if_true];subst hG1 hm;rfl};rw[e,r1];have h4:Inv H lb es (setG G1 n { m with D:=(z1X m.D m.A lb 1).2.1,A:=(z1X m.D m.A lb 1).2.2 }):=h1.set hn ⟨1,0,r2,by omega,by omega⟩ λ_ _=>⟨Nat.zero_le _,Nat.zero_le _⟩;rw[zjU (by rw[h4.len];exact hn)];exact h4.send ⟨⟨f,hf,rfl⟩,⟨n,hn,rfl⟩,.inl rfl,.inr (.inl ⟨rfl,rfl⟩)⟩ λj _=>⟨by rw[z7U (show (2:Int)≠1 by decide)];exact Nat.le_refl _,by rw[z7U (show (2:Int)≠3 by decide)];exact Nat.le_refl _⟩}
 ·have h2:=hplain (by decide) (by decide)
  have e:z0M G ⟨2,(f:Int),(n:Int),lb,[]⟩=match m.p with
    | none=>G1
    | some p=>if m.b=lb/\z2B G1.q p=false then (if z2B G1.q (z2N G1.q p f []).2 then z2T (setG G1 n { m with p:=some (z2N G1.q p f []).2 }) n (z2N G1.q p f []).2 else setG G1 n { m with p:=some (z2N G1.q p f []).2 }) else G1:=by
   unfold z0M;simp only[Int.toNat_natCast,show (2:Int)≠1 by decide,if_true,if_false];subst hG1 hm;rfl
  rw[e];cases hp:m.p with | none=>{exact h2} | some p=>{simp only;split;{rename_i hc2;rw[h2.q];have h3:Inv H b es (setG G1 n { m with p:=some (z2N three p f []).2 }):=h2.turn hn λa k hN=>by{rw[hgm] at hN;obtain⟨q1,q2,q3⟩:=hN.pro p hp;exact⟨hN.up,hN.room,hN.still,hN.ab,hN.vsk,hN.sub.with rfl rfl rfl,hN.tight,hN.seen,λp' e'=>by cases e';exact⟨q1,q2,q3.prom hf⟩,hN.asks,hN.said⟩};split;{obtain⟨a,k,hN,-⟩:=h3.nodes n hn;rw[z1C hn1] at hN;obtain⟨q1,q2,q3⟩:=hN.pro _ rfl;have ht:topP (z2N three p f []).2=0:=by{unfold topP;rw[q3.musts];rfl};have e2:z2T (setG G1 n { m with p:=some (z2N three p f []).2 }) n (z2N three p f []).2=setG G1 n { m with p:=some (z2N three p f []).2,next:=1 }:=by{unfold z2T;rw[z1C hn1,ht];simp only at q2;simp only[q2];rw[show max 1 (0+1) - 1=0 from rfl,zgK,z0W];rfl};rw[e2];refine h2.turn hn λa k hN=>?_;rw[hgm] at hN;exact⟨hN.up,hN.room,hN.still,hN.ab,hN.vsk,hN.sub.with rfl rfl rfl,hN.tight,hN.seen,λp' e'=>by cases e';exact⟨q1,q2,q3⟩,hN.asks,hN.said⟩};{exact h3}};{exact h2}}
 {have hlb:lb=b:=hlb.elim id λz=>by{rcases z.1 with e | e <;> exact absurd e (by decide)};subst hlb;obtain⟨a,k,hN,h2,h3⟩:=h1.nodes n hn;rw[hgm] at hN;have ho:one1 3 n ⟨3,(f:Int),(n:Int),lb,[⟨s,lb,v⟩]⟩=1:=by{unfold one1;rw[if_pos ⟨rfl,rfl⟩]};rw[ho] at h3;obtain⟨r1,r2⟩:=hN.accept hE hs hv (by omega) (by omega);have e:z0M G ⟨3,(f:Int),(n:Int),lb,[⟨s,lb,v⟩]⟩=z6N (setG G1 n { m with D:=(z0T m.D m.A ⟨s,lb,v⟩).2.1,A:=(z0T m.D m.A ⟨s,lb,v⟩).2.2 }) n ⟨3,(f:Int),(n:Int),lb,[⟨s,lb,v⟩]⟩ (z1U s) (z0T m.D m.A ⟨s,lb,v⟩).1.1 (z0T m.D m.A ⟨s,lb,v⟩).1.2:=by{unfold z0M;simp only[Int.toNat_natCast,show (3:Int)≠1 by decide,show (3:Int)≠2 by decide,if_true,if_false];subst hG1 hm;rfl};rw[e,r1];have h4:Inv H lb es (setG G1 n { m with D:=(z0T m.D m.A ⟨s,lb,v⟩).2.1,A:=(z0T m.D m.A ⟨s,lb,v⟩).2.2 }):=h1.set hn ⟨a,k+1,r2,by omega,by omega⟩ λ_ _=>⟨Nat.zero_le _,Nat.zero_le _⟩;rw[zjU (by rw[h4.len];exact hn)];exact h4.send ⟨⟨f,hf,rfl⟩,⟨n,hn,rfl⟩,.inl rfl,.inr (.inr (.inr (.inl ⟨rfl,s,rfl,hs,(hE.mem hv hs).2⟩)))⟩ λj _=>⟨by rw[z7U (show (3:Int)+1≠1 by decide)];exact Nat.le_refl _,by rw[z7U (show (3:Int)+1≠3 by decide)];exact Nat.le_refl _⟩}
 ·have h2:=hplain (by decide) (by decide)
  have e:z0M G ⟨4,(f:Int),(n:Int),lb,z1U s⟩=match m.p with
    | none=>G1
    | some p=>if m.b=lb then z1S (setG G1 n { m with p:=some (accP G1.q p f s).2 }) n (accP G1.q p f s).2 s else G1:=by
   unfold z0M;simp only[Int.toNat_natCast,show (4:Int)≠1 by decide,show (4:Int)≠2 by decide,show (4:Int)≠3 by decide,if_true,if_false];subst hG1 hm;rfl
  rw[e];cases hp:m.p with | none=>{exact h2} | some p=>{simp only;split;{rw[h2.q];obtain⟨a,k,hN,-⟩:=h2.nodes n hn;rw[hgm] at hN;obtain⟨q1,q2,q3⟩:=hN.pro p hp;have h3:Inv H b es (setG G1 n { m with p:=some (accP three p f s).2 }):=h2.turn hn λa k hN=>by{rw[hgm] at hN;exact⟨hN.up,hN.room,hN.still,hN.ab,hN.vsk,hN.sub.with rfl rfl rfl,hN.tight,hN.seen,λp' e'=>by cases e';exact⟨q1,q2,q3.acc hf⟩,hN.asks,hN.said⟩};exact h3.chosen hE hn (q3.acc hf) (by rw[z1C hn1];exact q1) s};{exact h2}}
 {have h2:=hplain (by decide) (by decide);have e:z0M G ⟨5,(f:Int),(n:Int),lb,[⟨s,Bal.zero,v⟩]⟩=setG G1 n (z2Y { m with log:=(RM.learn m.log s v).2 }):=by{unfold z0M;simp only[Int.toNat_natCast,show (5:Int)≠1 by decide,show (5:Int)≠2 by decide,show (5:Int)≠3 by decide,show (5:Int)≠4 by decide,show (5:Int)≠6 by decide,true_or,if_true,if_false];subst hG1 hm;rfl};rw[e];exact h2.turn hn λa k hN=>by rw[hgm] at hN;exact hN.got (hN.sub.learn hE hs hv).1 (zzW _ _ _)};{have h2:=hplain (by decide) (by decide);have e:z0M G ⟨6,(f:Int),(n:Int),lb,z1U s⟩=if (z4H m.log s 8).map (λe=>(⟨e.1,Bal.zero,e.2⟩:Vt)) = [] then G1 else z3N G1 ⟨7,(n:Int),(f:Int),lb,(z4H m.log s 8).map λe=>(⟨e.1,Bal.zero,e.2⟩:Vt)⟩:=by{unfold z0M;simp only[Int.toNat_natCast,show (6:Int)≠1 by decide,show (6:Int)≠2 by decide,show (6:Int)≠3 by decide,show (6:Int)≠4 by decide,if_true,if_false];subst hG1 hm;rfl};rw[e];split;{exact h2};{obtain⟨a,k,hN,-⟩:=h2.nodes n hn;rw[hgm] at hN;refine h2.send ⟨⟨f,hf,rfl⟩,⟨n,hn,rfl⟩,hlb.imp id λz=>⟨.inr rfl,z.2⟩,.inr (.inr (.inr (.inr (.inr (.inr ⟨rfl,?_,λu hu=>?_⟩)))))⟩ λj _=>⟨by rw[z7U (show (7:Int)≠1 by decide)];exact Nat.le_refl _,by rw[z7U (show (7:Int)≠3 by decide)];exact Nat.le_refl _⟩;{simp only[List.length_map];exact zdA};{obtain⟨d,hd,rfl⟩:=List.mem_map.1 hu;have:=zdY hd;exact hN.sub.sub d.1 d.2 (List.mem_of_mem_drop this)}}};{have h2:=hplain (by decide) (by decide);have e:z0M G ⟨7,(f:Int),(n:Int),lb,vs⟩=setG G1 n (z2Y { m with log:=vs.foldl (λg v=>(RM.learn g v.slot v.val).2) m.log }):=by{unfold z0M;simp only[Int.toNat_natCast,show (7:Int)≠1 by decide,show (7:Int)≠2 by decide,show (7:Int)≠3 by decide,show (7:Int)≠4 by decide,show (7:Int)≠6 by decide,or_true,if_true,if_false];subst hG1 hm;rfl};rw[e];exact h2.turn hn λa k hN=>by rw[hgm] at hN;exact hN.got (Sub.learns hE vs hN.sub hv) (zuA _ _)}
end
end GR
namespace GR
open Go.Proofs.YtkhddpiopbmhjaaGreat MI SO BM DM WM AC RM
section
variable {H:Nat} {b:Bal} {es:List (List UInt8)} {x y:Int→Nat→Nat} {G:Gr} {n a k:Nat} {m:Mb} {l:Ml} {p:Pr} {v:List UInt8}
theorem Inv.take(hE:EsOk H b es)(h:Inv H b es G)(i:Int):Inv H b es (z6A G i).2:=by
 unfold z6A;split;{exact h};split;{exact h};rename_i u hu;obtain⟨hi,he⟩:=List.getElem?_eq_some_iff.1 hu;have hl:=h.lets u (by rw[<-he];exact List.getElem_mem hi);have h2:InvX H b es (λq j=>one1 q j u) { G with l:=G.l.eraseIdx i.toNat }:=by{refine⟨h.q,h.len,?_,λw hw=>h.lets w (List.mem_of_mem_eraseIdx hw),λj hj=>?_⟩;{have:=List.length_eraseIdx_le G.l i.toNat;have:=h.few;simp only;omega};{obtain⟨a,k,h1,h2,h3⟩:=h.nodes j hj;have e1:=zdN 1 j hi;have e3:=zdN 3 j hi;rw[he] at e1 e3;exact⟨a,k,h1,by simp only;omega,by simp only;omega⟩}};obtain⟨n,hn,hto⟩:=hl.to_;obtain⟨a,k,hN,-⟩:=h.nodes n hn;have hup:(getG { G with l:=G.l.eraseIdx i.toNat } u.to_.toNat).up=true:=by{rw[hto,Int.toNat_natCast];exact hN.up};simp only;rw[if_pos hup];exact Inv.arrive hE h2 hl
theorem Inv.flush(hE:EsOk H b es):∀ (k:Nat) {G:Gr},Inv H b es G->Inv H b es (z1V k G).2
 | 0,_,h=>h
 | k+1,G,h=>by{rw[z1V];split;{exact Inv.flush hE k (h.take hE 0)};{exact h}}
theorem InvX.others(h:InvX H b es (λq j=>if j=n then 0 else if l.kind=q then 1 else 0) G)(hl:∀ j:Nat,j<3->LIn b es { l with frm:=(n:Int),to_:=(j:Int) }):Inv H b es (z1H G n l):=by
 have key:∀ i,i<=3->InvX H b es (λq j=>if j=n∨j<i then 0 else if l.kind=q then 1 else 0) (z1P G n l i):=by{intro i;induction i with | zero=>{intro _;refine h.mono λj _=>?_;simp only[Nat.not_lt_zero,or_false];exact⟨Nat.le_refl _,Nat.le_refl _⟩} | succ i ih=>{intro hi;have h1:=ih (by omega);rw[z1P];have hle:∀ q j,(if j=n∨j<i+1 then 0 else if l.kind=q then 1 else 0)<=(if j=n∨j<i then 0 else if l.kind=q then 1 else 0:Nat):=λq j=>by{by_cases c:j=n∨j<i;{rw[if_pos (show j=n∨j<i+1 by omega)];exact Nat.zero_le _};{rw[if_neg c];split;{exact Nat.zero_le _};{exact Nat.le_refl _}}};split;{exact h1.mono λj _=>⟨hle 1 j,hle 3 j⟩};{rename_i hne;have hcc:∀ (q:Int) j,(if j=n∨j<i+1 then 0 else if l.kind=q then 1 else 0)+one1 q j { l with frm:=(n:Int),to_:=(i:Int) }<=(if j=n∨j<i then 0 else if l.kind=q then 1 else 0:Nat):=λq j=>by{by_cases c:j=i;{subst c;rw[if_pos (show j=n∨j<j+1 by omega),if_neg (show ¬ (j=n∨j<j) by omega),Nat.zero_add];unfold one1;simp only[and_true];exact Nat.le_refl _};{have:one1 q j { l with frm:=(n:Int),to_:=(i:Int) }=0:=by{unfold one1;rw[if_neg];simp only;omega};rw[this];exact hle q j}};exact h1.send (hl i (by omega)) λj _=>⟨hcc 1 j,hcc 3 j⟩}}};unfold z1H;rw[h.len];exact(key 3 (Nat.le_refl _)).mono λj hj=>⟨Nat.zero_le _,Nat.zero_le _⟩
theorem PIn.snoc(h:PIn b es p)(v:List UInt8):PIn b (es ++ [v]) p:=
 ⟨h.pb,h.frm,h.set,h.musts,λe he=>by{obtain⟨h1,u,h2,h3⟩:=h.slots e he;exact⟨h1,u,by rw[List.getElem?_append_left (List.getElem?_eq_some_iff.1 h2).1];exact h2,h3⟩},by have:=h.few;simp;omega⟩
theorem NIn.snoc(h:NIn H b es a k m)(v:List UInt8):NIn H b (es ++ [v]) a k m:=
 ⟨h.up,h.room,h.still,h.ab,h.vsk,h.sub.snoc v,h.tight,h.seen,λp hp=>let ⟨h1,h2,h3⟩:=h.pro p hp;⟨h1,h2,h3.snoc v⟩,by have:=h.asks;simp;omega,h.said⟩
theorem EsOk.snoc(h:EsOk H b es)(hl:es.length<40)(hH:290+220 * es.length<=32 * H)(hv:v.length<=100):EsOk H b (es ++ [v]):=
 ⟨h.ok,h.one,by simp;omega,by simp only[List.length_append,List.length_singleton];omega,λu hu=>by{rcases List.mem_append.1 hu with z | z;{exact h.vals u z};{simp at z;subst z;exact hv}}⟩
theorem zaP{α:Type}(l:List (Nat×α))(s:Nat)(e:α):(AL.put l s e).length<=l.length+1:=by
 unfold AL.put AL.del;have:=List.length_filter_le (λp=>!decide (p.1=s)) l;simp;omega
theorem mem_put{α:Type}{l:List (Nat×α)}{s:Nat}{e:α}{d:Nat×α}(h:d ∈ AL.put l s e):d ∈ l∨d=(s,e):=by
 unfold AL.put AL.del at h;rcases List.mem_append.1 h with z | z;{exact .inl (List.mem_filter.1 z).1};{exact .inr (by simpa using z)}
theorem PIn.put(h:PIn b es p)(v:List UInt8):PIn b (es ++ [v]) { p with slots:=AL.put p.slots (es.length+1) (⟨es.length+1,b,v⟩,0) }:=by
 refine⟨h.pb,h.frm,h.set,h.musts,λe he=>?_,?_⟩;{rcases mem_put he with z | rfl;{exact(h.snoc v).slots e z};{exact⟨Nat.succ_pos _,v,by simp,rfl,show (0:Nat)<_ by decide⟩}};{have:=zaP p.slots (es.length+1) ((⟨es.length+1,b,v⟩:Vt),0);have:=h.few;simp only[List.length_append,List.length_singleton];omega}
theorem PIn.free(h:PIn b es p):AL.get p.slots (es.length+1)=none:=by
 cases hg:AL.get p.slots (es.length+1) with | none=>{rfl} | some e=>{obtain⟨-,u,h2,-⟩:=h.slots _ (zyM hg);have:=(List.getElem?_eq_some_iff.1 h2).1;simp at this}
theorem PIn.prop(h:PIn b es p)(hv:v.length<=100)(hr:z2B three p=true):z7S three p (es.length+1) v=((⟨es.length+1,b,v⟩,0),{ p with slots:=AL.put p.slots (es.length+1) (⟨es.length+1,b,v⟩,0) }):=by
 have e:z2U p (es.length+1) v=⟨es.length+1,b,v⟩:=by{unfold z2U;rw[h.pb,h.musts];rfl};unfold z7S;rw[if_neg (by rw[hr];decide),if_neg (by rw[h.frm];omega),h.free];simp only[e];rw[if_neg (by omega)]
theorem Inv.push(hE:EsOk H b es)(h:Inv H b es G)(hl:G.l = [])(h40:es.length<40)(hH:290+220 * es.length<=32 * H)(hv:v.length<=100)(hn:n<3){m':Mb}{p':Pr}(hp:PIn b (es ++ [v]) p')(hm:∀ a k,NIn H b es a k (getG G n)->NIn H b (es ++ [v]) a k m')(hb:m'.b=b)(_hs:m'.p=some p')(hf:m'.frm=1):Inv H b (es ++ [v]) (z9O (setG G n m') n p' ⟨es.length+1,b,v⟩):=by
 subst hb;have hE2:=hE.snoc h40 hH hv;have hn1:n<G.ms.length:=by{rw[h.len];exact hn};obtain⟨a,k,hN,h2,h3⟩:=h.nodes n hn;have hM:=hm a k hN;obtain⟨r1,r2⟩:=hM.accept (s:=es.length+1) (v:=v) hE2 (Nat.succ_pos _) (by simp) (by omega) (by simp;omega);unfold z9O;simp only[z1C hn1,z0W];rw[if_neg (by rw[r1];exact λz=>z rfl)];have hq:(setG G n m').q=three:=h.q;rw[hq];have hpa:=hp.acc (s:=es.length+1) hn;obtain⟨M,hM2⟩:∃ M:Mb,M = { m' with D:=(z0T m'.D m'.A ⟨es.length+1,m'.b,v⟩).2.1,A:=(z0T m'.D m'.A ⟨es.length+1,m'.b,v⟩).2.2,p:=some (accP three p' (n:Int) (es.length+1)).2 }:=⟨_,rfl⟩;have hNM:NIn H m'.b (es ++ [v]) a (k+1) M:=by{rw[hM2];exact⟨r2.up,r2.room,r2.still,r2.ab,r2.vsk,r2.sub.with rfl rfl rfl,r2.tight,r2.seen,λq hq=>by cases hq;exact⟨rfl,hf,hpa⟩,r2.asks,r2.said⟩};rw[<-hM2];have h4:InvX H m'.b (es ++ [v]) (λq j=>if j=n then 0 else if (⟨3,0,0,m'.b,[⟨es.length+1,m'.b,v⟩]⟩:Ml).kind=q then 1 else 0) (setG G n M):=by{refine⟨h.q,by rw[z0S];exact h.len,h.few,λu hu=>by rw[znG,hl] at hu;simp at hu,λj hj=>?_⟩;rw[znG,hl];by_cases e:j=n;{subst e;rw[z1C hn1];rw[hl] at h2 h3;exact⟨a,k+1,hNM,by simp only[if_true];omega,by simp only[if_true,List.length_append,List.length_singleton];omega⟩};{rw[z9G (λz=>e z.symm)];obtain⟨a2,k2,q1,q2,q3⟩:=h.nodes j hj;rw[hl] at q2 q3;exact⟨a2,k2,q1.snoc v,by simp only[if_neg e,show ¬ ((3:Int)=1) by decide,if_false];omega,by simp only[if_neg e,if_true,List.length_append,List.length_singleton];omega⟩}};have h5:=h4.others (l:=⟨3,0,0,m'.b,[⟨es.length+1,m'.b,v⟩]⟩) λj hj=>⟨⟨j,hj,rfl⟩,⟨n,hn,rfl⟩,.inl rfl,.inr (.inr (.inl ⟨rfl,es.length+1,v,rfl,Nat.succ_pos _,by simp⟩))⟩;exact h5.chosen hE2 hn hpa (by rw[z4Q,z1C hn1,hM2]) _
theorem Inv.ask(hE:EsOk H b es)(h:Inv H b es G)(hl:G.l = [])(h40:es.length<40)(hH:290+220 * es.length<=32 * H)(hn:n<3){a:Ask}(ha:encK a=some v)(hv:v.length<=100)(hp:(getG G n).p=some p)(hr:z2B three p=true)(hx:(getG G n).next=es.length+1):Inv H b (es ++ [v]) (askG G (n:Int) a).2:=by
 have hn1:n<G.ms.length:=by{rw[h.len];exact hn};obtain⟨a0,k0,hN,-⟩:=h.nodes n hn;obtain⟨q1,q2,q3⟩:=hN.pro p hp;have hno:z7F G (n:Int)=0:=by{unfold z7F;rw[if_neg (by rw[Int.toNat_natCast];omega),Int.toNat_natCast,if_pos hN.up]};have hpr:=q3.prop hv hr;obtain⟨p',hp'⟩:∃ p':Pr,p' = { p with slots:=AL.put p.slots (es.length+1) (⟨es.length+1,b,v⟩,0) }:=⟨_,rfl⟩;rw[<-hp'] at hpr;have h6:Inv H b (es ++ [v]) (z9O (setG G n { getG G n with next:=(getG G n).next+1,p:=some p',asks:=AL.put (getG G n).asks (getG G n).next v }) n p' ⟨es.length+1,b,v⟩):= h.push hE hl h40 hH hv hn (by rw[hp'];exact q3.put v) (λa k hM=>by{(have h7:=hM.snoc v;refine⟨h7.up,h7.room,h7.still,h7.ab,h7.vsk,h7.sub.with rfl rfl rfl,h7.tight,h7.seen,λq hq=>by cases hq;exact⟨q1,q2,by rw[hp'];exact q3.put v⟩,?_,h7.said⟩;have:=zaP (getG G n).asks (getG G n).next v;have:=hM.asks;simp only[List.length_append,List.length_singleton]);omega}) q1 rfl q2;unfold askG;simp only[ha,hno,if_neg (show ¬ (0:Int)≠0 by decide),Int.toNat_natCast,hp];rw[h.q,if_neg (by rw[hr];decide),hx,hpr];rw[hx] at h6;simp only;split;{exact h6};{split <;> exact h6}
theorem Sub.fresh(h1:m.log=⟨0,[]⟩)(h2:m.data = [])(h3:m.tab = []):Sub es m:=
 ⟨by rw[h1];exact⟨List.Pairwise.nil,λe he=>by simp at he,λe he=>by simp at he,by simp,by simp⟩,λs v hs=>by rw[h1] at hs;simp at hs,by rw[h1,h2,h3];rfl,λs h4 h5=>by rw[h1] at h5;simp only at h5;omega,by rw[h1];exact Nat.zero_le _⟩
end
end GR
namespace GR
open Go.Proofs.YtkhddpiopbmhjaaGreat MI SO BM DM WM AC RM
section
variable {H:Nat} {b:Bal} {es:List (List UInt8)} {G:Gr} {n a k:Nat} {m:Mb} {p:Pr} {v:List UInt8}
theorem Inv.begins(h:Inv H b es G)(hn:n<3)(hp:(getG G n).p=some p):Inv H b es (z2T G n p):=by
 have hn1:n<G.ms.length:=by{rw[h.len];exact hn};obtain⟨a,k,hN,-⟩:=h.nodes n hn;obtain⟨q1,q2,q3⟩:=hN.pro p hp;have ht:topP p=0:=by{unfold topP;rw[q3.musts];rfl};have e2:z2T G n p=setG G n { getG G n with next:=1 }:=by{unfold z2T;rw[ht];simp only[q2];rw[show max 1 (0+1) - 1=0 from rfl,zgK];rfl};rw[e2];exact h.turn hn λa k hN=>⟨hN.up,hN.room,hN.still,hN.ab,hN.vsk,hN.sub.with rfl rfl rfl,hN.tight,hN.seen,hN.pro,hN.asks,hN.said⟩
theorem Inv.start{N ld:Nat}(hld:ld=0∨ld=1)(h6:6<=N)(hN:N<=2048)(hm:70<=32 * ((N - 2) / 2)):EsOk ((N - 2) / 2) (z0K ld) []/\Inv ((N - 2) / 2) (z0K ld) [] (newG three N)/\Inv ((N - 2) / 2) (z0K ld) [] (z7Q (newG three N) (ld:Int)).2:=by
 have hE:EsOk ((N - 2) / 2) (z0K ld) []:=⟨zcA hld,rfl,Nat.zero_le _,by simpa using hm,λv hv=>by simp at hv⟩;have hl3:ld<3:=by{omega};have h0:NIn ((N - 2) / 2) (z0K ld) [] 0 0 (newM N):=⟨rfl,zgB h6 hN,rfl,.inl rfl,Nat.le_refl _,Sub.fresh rfl rfl rfl,rfl,Nat.zero_le _,(λp hp=>by cases hp),Nat.le_refl _,Nat.le_refl _⟩;have hG:newG three N=G3 ld (newM N) (newM N) (newM N) []:=new3 h6;have hg:∀ j,j<3->getG (newG three N) j=newM N:=λj hj=>by{rw[hG];rcases hld with rfl | rfl <;> (obtain rfl | rfl | rfl:j=0∨j=1∨j=2:=by omega) <;> rfl};have hI:Inv ((N - 2) / 2) (z0K ld) [] (newG three N):=⟨rfl,by rw[hG];rcases hld with rfl | rfl <;> rfl,by rw[hG];exact Nat.zero_le _,λu hu=>by rw[hG] at hu;simp[G3] at hu,λj hj=>by{rw[hg j hj,hG];exact⟨0,0,h0,Nat.zero_le _,Nat.le_refl _⟩}⟩;refine⟨hE,hI,?_⟩;obtain⟨r1,r2⟩:=h0.prep hE;have hn1:ld<(newG three N).ms.length:=by{rw[hI.len];exact hl3};have hno:z7F (newG three N) (ld:Int)=0:=by{unfold z7F;rw[if_neg (by rw[Int.toNat_natCast];omega),Int.toNat_natCast,hg ld hl3];rfl};obtain⟨M,hM⟩:∃ M:Mb,M = { newM N with D:=(z1X (DM.new N) kA0 (z0K ld) 1).2.1,A:=(z1X (DM.new N) kA0 (z0K ld) 1).2.2,p:=some (z2N three (newP (z0K ld) 1) (ld:Int) []).2,b:=z0K ld,frm:=1,next:=1,asks:=[] }:=⟨_,rfl⟩;have hP:PIn (z0K ld) [] (z2N three (newP (z0K ld) 1) (ld:Int) []).2:=PIn.prom (p:=newP (z0K ld) 1) ⟨rfl,rfl,show (0:Nat)<4294967296 by decide,rfl,λe he=>absurd he List.not_mem_nil,Nat.le_refl _⟩ hl3;have hNM:NIn ((N - 2) / 2) (z0K ld) [] 1 0 M:=by{rw[hM];exact⟨r2.up,r2.room,r2.still,r2.ab,r2.vsk,Sub.fresh rfl rfl rfl,rfl,r2.seen,(λp hp=>by cases hp;exact⟨rfl,rfl,hP⟩),Nat.le_refl _,Nat.le_refl _⟩};have h4:InvX ((N - 2) / 2) (z0K ld) [] (λq j=>if j=ld then 0 else if (⟨1,0,0,z0K ld,z1U 1⟩:Ml).kind=q then 1 else 0) (setG (newG three N) ld M):=by{refine⟨hI.q,by rw[z0S];exact hI.len,hI.few,hI.lets,λj hj=>?_⟩;by_cases e:j=ld;{subst e;rw[z1C hn1,hG];exact⟨1,0,hNM,by simp only[if_true];exact Nat.le_refl _,by simp only[if_true];exact Nat.le_refl _⟩};{rw[z9G (λz=>e z.symm),hg j hj,hG];exact⟨0,0,h0,by simp only[if_neg e,if_true];exact Nat.le_refl _,by simp only[if_neg e,show ¬ ((1:Int)=3) by decide,if_false];exact Nat.le_refl _⟩}};have h5:=h4.others (l:=⟨1,0,0,z0K ld,z1U 1⟩) λj hj=>⟨⟨j,hj,rfl⟩,⟨ld,hl3,rfl⟩,.inl rfl,.inl ⟨rfl,rfl,rfl⟩⟩;have hb:(⟨max (newM N).seen (newM N).A.prom.n+1,(ld:Int)⟩:Bal)=z0K ld:=rfl;have e:(z7Q (newG three N) (ld:Int)).2=if z2B three (z2N three (newP (z0K ld) 1) (ld:Int) []).2 then z2T (z1H (setG (newG three N) ld M) ld ⟨1,0,0,z0K ld,z1U 1⟩) ld (z2N three (newP (z0K ld) 1) (ld:Int) []).2 else z1H (setG (newG three N) ld M) ld ⟨1,0,0,z0K ld,z1U 1⟩:=by{unfold z7Q;simp only[hno,if_neg (show ¬ (0:Int)≠0 by decide),Int.toNat_natCast,hg ld hl3];rw[hb,show RM.next (newM N).log=1 from rfl,show (newM N).D=DM.new N from rfl,show (newM N).A=kA0 from rfl];have r1:(z1X (DM.new N) kA0 (z0K ld) 1).1=([],z0K ld,0):=r1;rw[r1];simp only[ne_eq,not_true_eq_false,if_false];rw[show (newG three N).q=three from rfl,<-hM]};rw[e];split;{exact h5.begins hl3 (by rw[z4Q,z1C hn1,hM])};{exact h5}
end
end GR
namespace GR
open Go.Proofs.YtkhddpiopbmhjaaGreat MI SO BM DM WM AC RM
theorem zlX(a:Ask)(h:a.data.length<=64):(askB a).length<=100:=by
 have h2:=z5Y a.id;have h3:=z5Y a.num;have h4:=z5Y a.blk.toNat;have h5:(z0H a.data.length).length=1:=by{rw[z9X (show a.data.length<128 by omega)];rfl};have h6:(z0H 2).length=1:=rfl;have h7:(z0H 1).length=1:=rfl;unfold askB;cases a.rd with | true=>{simp only[if_true,List.length_append,List.length_nil];omega} | false=>{simp only[Bool.false_eq_true,if_false,List.length_append];omega}
theorem zfX{a:Ask}{v:List UInt8}(h:encK a=some v):v.length<=100:=by
 unfold encK at h;split at h;{rename_i hk;cases h;refine zlX a ?_;unfold okK at hk;simp only[Bool.not_eq_true',Bool.or_eq_false_iff,decide_eq_false_iff_not] at hk;omega};{cases h}
structure z8Z (ld H:Nat) (es:List (List UInt8)) (sd:List Sd) (G:Gr):Prop where
 is:∃ m x y z p,G=G3 ld x y z []∧Calm ld H m es x y z p∧m≤70+220 * es.length∧y.log.ap=es.length∧z.log.ap=es.length∧x.said=sd
 inv:Inv H (z0K ld) es G
 ok:EsOk H (z0K ld) es
 st:StOk (stE es)
 past:Past es sd (stE es).2
structure zzQ (ld H:Nat) (es:List (List UInt8)) (G:Gr):Prop where
 is:∃ m x y z p,G=G3 ld x y z []∧Calm ld H m es x y z p∧m≤70+220 * es.length
 inv:Inv H (z0K ld) es G
 ok:EsOk H (z0K ld) es
theorem z8Z.four{ld H:Nat}{es:List (List UInt8)}{sd:List Sd}{G:Gr}(h:z8Z ld H es sd G):zzQ ld H es G:=let ⟨m,x,y,z,p,h1,h2,h3,_⟩:=h.is;⟨⟨m,x,y,z,p,h1,h2,h3⟩,h.inv,h.ok⟩
section
variable {ld H:Nat} {es:List (List UInt8)} {sd:List Sd} {G:Gr} {a:Ask} {v:List UInt8}
theorem z8Z.start{N j:Nat}(hld:ld=0∨ld=1)(h6:6<=N)(hN:N<=2048)(hm:70<=32 * ((N - 2) / 2))(hj:4<=j):(z7Q (newG three N) ld).1=(z0K ld,0)/\z8Z ld ((N - 2) / 2) [] [] (z1V j (z7Q (newG three N) ld).2).2:=by
 obtain⟨e1,x,y,z,p,e2,hL,fx,fy,fz,hall,hy,hz⟩:=y1S hld h6 hN hm hj;obtain⟨hE,-,hI⟩:=Inv.start (ld:=ld) hld h6 hN hm;have hx:=hall x (.inl rfl);have hyy:=hall y (.inr (.inl rfl));have hzz:=hall z (.inr (.inr rfl));refine⟨e1,⟨⟨70,x,y,z,p,by rw[e2],⟨hL,fx,fy,fz,Sub.fresh hx.1 hx.2.1 hx.2.2.1,by rw[hx.1];rfl,Sub.fresh hyy.1 hyy.2.1 hyy.2.2.1,Sub.fresh hzz.1 hzz.2.1 hzz.2.2.1⟩,Nat.le_refl _,by rw[hyy.1];rfl,by rw[hzz.1];rfl,hx.2.2.2.1⟩,hI.flush hE j,hE,⟨List.Pairwise.nil,λc hc=>absurd hc List.not_mem_nil,λc hc=>absurd hc List.not_mem_nil⟩,⟨λv hv=>absurd hv List.not_mem_nil,λc hc=>absurd hc List.not_mem_nil⟩⟩⟩
theorem z8Z.step(hld:ld=0∨ld=1)(h:z8Z ld H es sd G)(ha:encK a=some v)(hk:es.length<40)(hH:290+220 * es.length<=32 * H){n:Nat}(hn:6<=n):(askG G (ld:Int) a).1=(es.length+1,0)/\Inv H (z0K ld) (es ++ [v]) (askG G (ld:Int) a).2/\EsOk H (z0K ld) (es ++ [v])/\(z1V n (askG G (ld:Int) a).2).1=6/\
   z8Z ld H (es ++ [v]) (sd ++ repE (stE es) (es.length+1) v) (z1V n (askG G (ld:Int) a).2).2:=by
 have hv:=zfX ha;have hI:=h.inv;have hE2:=h.ok.snoc hk hH hv;obtain⟨m,x,y,z,p,rfl,hC,hm,hy,hz,rfl⟩:=h.is;obtain⟨x0,e1,hf⟩:=hC.step (n:=n) hld ha hv (by omega) (by omega) hn;obtain⟨x',y',z',p',e2,hC2,hs,hy2,hz2⟩:=hf y z hC.fy hC.fz hC.sy hC.sz;have hIa:=hI.ask (a:=a) h.ok rfl hk hH (show ld<3 by omega) ha hv (by rw[z4Y hld];exact hC.led.pe) hC.led.ready (by rw[z4Y hld];exact hC.led.next);have hIf:=hIa.flush hE2 n;obtain⟨p1,p2⟩:=Past.step h.st h.past v (es.length+1);rw[<-zmY] at p1 p2;rw[e1] at hIa hIf |-;refine⟨rfl,hIa,hE2,by rw[e2],⟨⟨m+220,x',y',z',p',by rw[e2],hC2,by simp only[List.length_append,List.length_singleton];omega,by rw[hy2 hy];simp,by rw[hz2 hz];simp,hs⟩,hIf,hE2,p1,p2⟩⟩
theorem z8Z.blocks(hld:ld=0∨ld=1)(h:z8Z ld H es sd G):(getG G ld).data=(stE es).1/\(getG G 2).data=(stE es).1/\(getG G (flw ld)).data=(stE es).1/\(getG G ld).said=sd:=by
 obtain⟨m,x,y,z,p,rfl,hC,hm,hy,hz,hs⟩:=h.is;rw[z4Y hld,zaC hld,z9F hld];have h1:=hC.sx.st;have h2:=hC.sy.st;have h3:=hC.sz.st;rw[hC.all,List.take_length] at h1;rw[hy,List.take_length] at h2;rw[hz,List.take_length] at h3;exact⟨congrArg (·.1) h1,congrArg (·.1) h3,congrArg (·.1) h2,hs⟩
structure Again (es0:List (List UInt8)) (sd0:List Sd) (es:List (List UInt8)) (sd:List Sd):Prop where
 sub:∀ v ∈ es0,v ∈ es
 data:(stE es).1=(stE es0).1
 said:∃ r,sd=sd0 ++ r∧∀ d ∈ r,∃ e ∈ sd0,e.id=d.id∧e.num=d.num∧e.data=d.data
end
end GR
namespace GR
open Go.Proofs.YtkhddpiopbmhjaaGreat MI SO BM DM WM AC RM
section
variable {ld H:Nat} {b:Bal} {es:List (List UInt8)} {G:Gr} {m:Mb} {v:List UInt8}
end
end GR
namespace GR
open Go.Proofs.YtkhddpiopbmhjaaGreat MI SO BM DM WM AC RM
section
variable {ld H:Nat} {es:List (List UInt8)} {sd:List Sd} {G:Gr} {a:Ask} {v:List UInt8} {m:Nat} {x y z u:Mb} {p:Pr} {l:List Ml}
theorem zrE(hld:ld=0∨ld=1){k:Nat}(hk:k<3):k=ld∨k=flw ld∨k=2:=by
 rcases hld with rfl | rfl;{show k=0∨k=1∨k=2;omega};{show k=1∨k=0∨k=2;omega}
end
end GR
namespace GR
open Go.Proofs.YtkhddpiopbmhjaaGreat MI SO BM DM WM AC RM
section
variable {ld H:Nat} {es:List (List UInt8)} {G:Gr} {k n:Nat} {u x:Mb}
end
end GR
namespace GR
open Go.Proofs.YtkhddpiopbmhjaaGreat MI SO BM DM WM AC RM
def kA:Ask:=⟨false,7,1,3,[120]⟩
theorem zyK:encK kA=some (askB kA):=by decide +kernel
theorem kA_st:stE [askB kA]=([(3,[120])],[⟨7,1,false,[]⟩]):=by rfl
theorem y1V:repE (stE []) 1 (askB kA) = [⟨7,1,1,[]⟩]:=by rfl
theorem zsI:∃ kL kG kQ kE:Gr,kL=(z7Q (newG three 100) ((0:Nat):Int)).2/\kG=(z1V 60 kL).2/\kQ=(askG kG ((0:Nat):Int) kA).2/\kE=(z1V 60 kQ).2/\(z7Q (newG three 100) ((0:Nat):Int)).1=(z0K 0,0)/\
  Inv ((100 - 2) / 2) (z0K 0) [] (newG three 100)/\Inv ((100 - 2) / 2) (z0K 0) [] kL/\z8Z 0 ((100 - 2) / 2) [] [] kG/\(askG kG ((0:Nat):Int) kA).1=(1,0)/\Inv ((100 - 2) / 2) (z0K 0) [askB kA] kQ/\EsOk ((100 - 2) / 2) (z0K 0) [askB kA]/\z8Z 0 ((100 - 2) / 2) [askB kA] [⟨7,1,1,[]⟩] kE:=by
 have h0:(0:Nat)=0∨(0:Nat)=1:=.inl rfl;obtain⟨-,i1,i2⟩:=Inv.start (N:=100) (ld:=0) h0 (by decide) (by decide) (by decide);obtain⟨e1,c1⟩:=z8Z.start (N:=100) (ld:=0) (j:=60) h0 (by decide) (by decide) (by decide) (by decide);obtain⟨kL,hL⟩:∃ k,k=(z7Q (newG three 100) ((0:Nat):Int)).2:=⟨_,rfl⟩;rw[<-hL] at i2 c1;obtain⟨kG,hG⟩:∃ k,k=(z1V 60 kL).2:=⟨_,rfl⟩;rw[<-hG] at c1;obtain⟨e2,i3,o3,-,c2⟩:=z8Z.step (n:=60) h0 c1 zyK (by decide) (by decide) (by decide);obtain⟨kQ,hQ⟩:∃ k,k=(askG kG ((0:Nat):Int) kA).2:=⟨_,rfl⟩;rw[<-hQ] at i3 c2;obtain⟨kE,hE⟩:∃ k,k=(z1V 60 kQ).2:=⟨_,rfl⟩;rw[<-hE] at c2;rw[List.length_nil,Nat.zero_add,y1V,List.nil_append,List.nil_append] at c2;rw[List.length_nil,Nat.zero_add] at e2;rw[List.nil_append] at i3 o3;exact⟨kL,kG,kQ,kE,hL,hG,hQ,hE,e1,i1,i2,c1,e2,i3,o3,c2⟩
section
variable {ld H:Nat} {es:List (List UInt8)} {sd:List Sd} {G:Gr}
theorem z8Z.told(hld:ld=0∨ld=1)(h:z8Z ld H es sd G):(∃ p,(getG G ld).p=some p/\z2B three p=true)/\∀ k,k<3->(getG G k).up=true/\(getG G k).log.ap=es.length/\(getG G k).data=(stE es).1:=by
 have hI:=h.inv;obtain⟨b1,b2,b3,b4⟩:=h.blocks hld;obtain⟨m,x,y,z,p,hG,hC,hm,hy,hz,hs⟩:=h.is;refine⟨⟨p,by rw[hG,z4Y hld];exact hC.led.pe,hC.led.ready⟩,λk hk=>?_⟩;obtain⟨_,_,hN,-⟩:=hI.nodes k hk;refine⟨hN.up,?_⟩;rcases zrE hld hk with rfl | rfl | rfl;{exact⟨by rw[hG,z4Y hld];exact hC.all,b1⟩};{exact⟨by rw[hG,z9F hld];exact hy,b3⟩};{exact⟨by rw[hG,zaC hld];exact hz,b2⟩}
end
end GR
namespace GR
open Go.Proofs.YtkhddpiopbmhjaaGreat MI SO BM DM WM AC RM
theorem zfW{l:List Cl}{i:Nat}(h:i<l.length)(c:Cl):(useC l i c).length=l.length:=by
 unfold useC;rw[List.length_append,List.length_eraseIdx,if_pos h,List.length_singleton];omega
theorem zfD(l:List Cl)(id num:Nat):(z2W l id num).2.length<=l.length+1:=by
 unfold z2W;split;{exact Nat.le_succ _};split;{simp};{rename_i i hf;obtain⟨hi,-⟩:=z6C hf;rw[List.getElem?_eq_getElem hi];simp only;split;{exact Nat.le_succ _};{split;{split <;> (rw[zfW hi];exact Nat.le_succ _)};{rw[zfW hi];exact Nat.le_succ _}}}
theorem zwF(l:List Cl)(id num:Nat)(rep:List UInt8):(endC l id num rep).2.length=l.length:=by
 unfold endC;split;{rfl};split;{rfl};{rename_i i hf;obtain⟨hi,-⟩:=z6C hf;rw[List.getElem?_eq_getElem hi];simp only;split;{rfl};{exact zfW hi _}}
theorem zgA{v:List UInt8}{a:Ask}(h:decK v=some a):0<=a.blk/\a.blk<=65535:=by
 unfold decK at h;dsimp only at h;generalize (if (uS v (0,0)).1=2 then (([]:List UInt8),(uS v (uS v (uS v (uS v (0,0)).2).2).2).2) else bS v 64 (uS v (uS v (uS v (uS v (0,0)).2).2).2).2)=d at h;by_cases hn:d.2.2≠0∨d.2.1<v.length∨(uS v (0,0)).1<1∨2<(uS v (0,0)).1∨(uS v (uS v (uS v (0,0)).2).2).1=0∨65535<(uS v (uS v (uS v (uS v (0,0)).2).2).2).1;{rw[if_pos hn] at h;cases h};{rw[if_neg hn] at h;have h:=Option.some.inj h;have e:a.blk=((uS v (uS v (uS v (uS v (0,0)).2).2).2).1:Int):=by{rw[<-h]};have h6:¬ 65535<(uS v (uS v (uS v (uS v (0,0)).2).2).2).1:=λz=>hn (.inr (.inr (.inr (.inr (.inr z)))));rw[e];omega}
structure TabOk (n:Nat) (s:List (Nat×List UInt8)×List Cl):Prop where
 uniq:UniqC s.2
 few:s.2.length≤n
 data:∀ p ∈ s.1,p.1≤65535∧p.2.length≤64
 fewd:s.1.length≤n
theorem TabOk.step{n:Nat}{s:List (Nat×List UInt8)×List Cl}(h:TabOk n s)(v:List UInt8):TabOk (n+1) (do2 s v).2:=by
 have h0:TabOk (n+1) s:=⟨h.uniq,Nat.le_succ_of_le h.few,h.data,Nat.le_succ_of_le h.fewd⟩;unfold do2;split;{exact h0};rename_i a hd;have hb:=h.uniq.begin a.id a.num;have hl:=zfD s.2 a.id a.num;have hf:=h.few;simp only;split;{exact⟨hb,by simp only;omega,h.data,h0.fewd⟩};split;{exact⟨hb,by simp only;omega,h.data,h0.fewd⟩};refine⟨hb.fin _ _ _,by simp only[zwF];omega,?_,?_⟩;{simp only;split;{exact h.data};{intro p hp;rcases mem_put hp with z | rfl;{exact h.data p z};{have:=zgA hd;exact⟨by simp only;omega,(zhD hd).2⟩}}};{simp only;split;{exact h0.fewd};{have:=zaP s.1 a.blk.toNat a.data;have:=h.fewd;omega}}
theorem y1Z(es:List (List UInt8)):TabOk es.length (stE es):=by
 have key:∀ (l:List (List UInt8)) (n:Nat) (s:List (Nat×List UInt8)×List Cl),TabOk n s->TabOk (n+l.length) (l.foldl (λs v=>(do2 s v).2) s):=by{intro l;induction l with | nil=>{exact λn s h=>h} | cons v l ih=>{intro n s h;have:=ih (n+1) _ (h.step v);rw[List.foldl_cons,List.length_cons,show n+(l.length+1)=n+1+l.length by omega];exact this}};have:=key es 0 ([],[]) ⟨List.Pairwise.nil,Nat.le_refl _,λp hp=>absurd hp List.not_mem_nil,Nat.le_refl _⟩;rw[Nat.zero_add] at this;exact this
theorem Sub.tabs{es:List (List UInt8)}{m:Mb}(h:Sub es m):TabOk m.log.ap (m.data,m.tab):=by
 have:=y1Z (es.take m.log.ap);rw[List.length_take,Nat.min_eq_left h.ap] at this;rw[h.st];exact this
end GR
section
open Go.RowKit
open DM BM WM
theorem zcE(w:World)(ao:Option Addr)(n c a:Nat)(h:Cells w ao n 1 (z0B (List.replicate n 0)))(ha:a<n)(hnc:n<=c)(_hn:n<=1000000000):Calls Tryz.prog 207 #[.slice ao n c,.int .i64 a] w (GetPost w (.no 20)):=by
 have hA:=heap_alloc_new w (.cells #[.int .u8 0,.slice none 0 0] 323);have kA:=kal w (.cells #[.int .u8 0,.slice none 0 0] 323);obtain⟨d,hd⟩:=zX1 (n - a);have hs:=λw=>z1R (P:=Tryz.prog) z1L ao n c .i64 a (Nat.le_of_lt ha) w;rw[<-hd] at hs;have t0:decide ((a:Int)<0)=false:=decide_eq_false (by omega);have t3:decide ((n:Int)<(a:Int))=false:=decide_eq_false (by omega);have t2:decide (n<a)=false:=decide_eq_false (by omega);have d0:(0:Int)<(d:Int):=by{omega};have u1:((d:Int) == 0)=false:=by{simp;omega};obtain⟨ad,had,hx⟩:=((h.tail a (Nat.le_of_lt ha) hnc (by decide)).keep kA zI).2 (by omega);have x0:=hx 0 (.int .u8 0) (by rw[List.getElem?_drop,z0B,List.map_replicate,List.getElem?_replicate,if_pos (by omega)];rfl);rw[show ad.add 0=ad by cases ad;rfl] at x0;rw[had] at hs;obtain⟨rc,hrc⟩:=zX1 (c - a);rw[<-hrc] at hs;clear h ha hnc hrc hd had hx
 go_in
 go_upto_region 1 with fail
 obtain⟨w1,hw1⟩:=zX1 (w.alloc (.cells #[.int .u8 0,.slice none 0 0] 323));rw[<-hw1] at hA kA x0 |-;clear hw1;obtain⟨a0,a1,af,-⟩:=zsO hA;have HX:=zB1 hA kA;clear hA kA;go_wp2_with fail;obtain⟨hX1,hX2⟩:=HX.o;refine zzF (g:=w.heap.size) (by rfl) (by rfl) _ _ hX1 _ _ _ _ (by rfl) (by rfl) ?_;intro w5 k5;exact⟨by rfl,hX2.next k5 zI (λi hi x=>by omega)⟩
theorem zgJ(w:World)(d:Nat)(Fd:Nat->Prop)(n i:Nat)(hD:DiskAt w d Fd (DM.new n))(hi:i<n):Calls Tryz.prog 190 #[.pointer (some ⟨d,0,none⟩),.int .i64 (i:Nat)] w λe w'=>e = .returned (.tuple #[.int .u64 0,.bool false])/\Keep zF w w':=by
 have hfew:=hD.ok.few;have hil:i<100000:=by{rw[show (DM.new n).safe.length=n by simp[DM.new]] at hfew;omega};have hr:=zmG w d Fd _ (i:Int) hD (by omega);rw[zcB n i hi] at hr;dsimp only at hr;rw[show DM.blank.length=32 from rfl] at hr;obtain⟨Post,hPost⟩:∃ Post:Ending->World->Prop,Post=λe w'=>e = .returned (.tuple #[.int .u64 0,.bool false])/\Keep zF w w':=⟨_,rfl⟩;show Calls _ _ _ _ _;rw[<-hPost];have HP:=hid hPost;clear hD hPost
 go_in
 go_wp2_with fail;refine hr.mono ?_;rintro e w1 ⟨v1,rfl,hrow1,hk1,hown1⟩;obtain⟨ad1,c1,rfl,hc1,-⟩:=hrow1.form;have hget:=zcE w1 ad1 32 c1 0 (by have h:=Cells.of_row hrow1;exact h) (by decide) hc1 (by decide);have HK1:=hid hk1;clear hr hrow1 hk1 hown1 hc1;go_wp2_with fail;refine hget.mono ?_;rintro e w2 ⟨rfl,hk2⟩;have HN:=hid (HK1.o.nx hk2);clear hget hk2;go_wp2_with fail;rw[HP.o];refine⟨rfl,HN.o.next (H:=λ_=>False) (?_:Keep zF w2 _) zI zI⟩
 first | exact(Keep.refl _ _).alloc _ | exact(((Keep.refl _ _).alloc _).setCell (.inr (Nat.le_refl _)) _).setCell (.inr (Nat.le_refl _)) _
theorem zxP(w:World)(b d ep h ga ca nn:Nat)(H:w.heap[b]?=some (.cells (z1F d ep h (.slice (some ⟨ga,0,none⟩) nn ca) (.slice none 0 0) 0 0 false) 301 (0,0)))(hrow:Row w 5 1 (.slice (some ⟨ga,0,none⟩) nn ca) nn (z0B (List.replicate nn 0)))(h0:0<nn)(hnn:nn<=40000)(_hne:b≠ga):Calls Tryz.prog 192 #[.pointer (some ⟨b,0,none⟩)] w λe w'=>e = .returned (.tuple #[])/\Keep (λk=>k=b) w w'/\
   w'.heap[b]?=some (.cells (z1F d ep h (.slice (some ⟨ga,0,none⟩) nn ca) (.slice none 0 0) 0 0 false) 301 (0,0)):=by
 have H0:=hid (Keep.refl zF w);obtain⟨adx,cax,hvx,hnca,hca,-⟩:=hrow.form;simp at hvx;obtain⟨rfl,rfl⟩:=hvx;have HR:=zB1 hrow H;have hblt:=z0J H;clear H hrow
 go_in
 go_wp2_with fail
 go_loopw [3] (λ_ wr=>zH (Keep zF w wr)) (λ_ _=>0)
 case atStart=>exact H0
 case round=>(clear H0;have hh:=hrel.out.get HR.y1 id;obtain⟨i0,i1,i2,i3,i4,i5,i6,i7,if1,ib1⟩:=z3P (show wr.heap[b]?=some (.cells #[_,_,_,_,_,_,_,_] _ (0,0)) from hh);have hbw:b≠wr.heap.size:=by{omega};have hbw2:wr.heap.size≠b:=by{omega};have hget2:∀ wX,Keep zF wr wX->Calls Tryz.prog 207 #[.slice (some ⟨ga,0,none⟩) nn ca,.int .i64 0] wX λe w'=>e = .returned (.tuple #[.agg #[.int .u8 0,.slice none 0 0],.int .i64 0,.int .i64 20])/\(w'.cell? ⟨b,3,none⟩=some (.slice (some ⟨ga,0,none⟩) nn ca)/\w'.cell? ⟨b,6,none⟩=some (.int .i64 0))/\zH (Keep zF wX w')/\zH (∀ g:Nat,wX.heap[g]?=some (Obj.cells #[.int .u8 0,.slice none 0 0] 323 (0,0))->w'.heap[g]?=some (Obj.cells #[.int .u8 0,.slice none 0 0] 323 (0,0))):=λwX hX=>(zcE wX _ nn ca 0 (((Cells.of_row HR.x1).keep hrel.out λ_ _ y=>y).keep hX λ_ _ x=>x) h0 hnca (by omega)).mono λe w' ⟨h1,h2⟩=>by{have hk':=hX.nx h2;exact⟨h1,⟨z0D hk' _ _ i3,z0D hk' _ _ i6⟩,hid h2,hid λg hg=>h2.get hg id⟩};have HG2:=hid hget2;have HX:=zB1 hrel.out hh;clear hget2 hrel hh;go_wp2_with fail;(go_cut [2,3,4] (λs2 s3 s4 wx=>zH (GotAt wr s2 s3 s4 (.no 20) wx)));(case first=>((go_region_held3 (λw'=>w'.cell? ⟨b,3,none⟩=some (.slice (some ⟨ga,0,none⟩) nn ca)/\w'.cell? ⟨b,6,none⟩=some (.int .i64 0)) (first | exact⟨i3,i6⟩ | assumption | go_keep) (first | (go_simp;go_at_call 207;refine(HG2.o _ (by first | exact(Keep.refl _ _).drew | exact(Keep.refl _ _).drew.alloc _ | exact((Keep.refl _ _).alloc _).drew)).mono ?_;rintro e w2 ⟨rfl,hz2,HK2,HZ3⟩;(first | (have hz9:w2.heap[wr.heap.size]?=some (Obj.cells #[.int .u8 0,.slice none 0 0] 323 (0,0)):=by(apply HZ3.o;exact heap_alloc_new wr _));(obtain⟨z0,z1,zf,zl⟩:=zsO hz9);(clear hz9) | skip);go_simp)));(all_goals (go_wp2_with (at_builtin;refine z0Q ?_;intro q hq);go_meet));{obtain⟨h1,h2,h3,-⟩:=zzE (show Keep zF wr w2 from HK2.o.undrew) (.int .u8 0) (.slice none 0 0);exact hid ⟨_,_,_,rfl,h1,h2,h3,rfl⟩};{obtain⟨h1,h2,-⟩:=zzR (show Keep zF (wr.alloc (.cells #[.int .u8 0,.slice none 0 0] 323)) w2 from HK2.o.undrew) (.int .u8 0) (.slice none 0 0);exact hid ⟨_,_,_,rfl,h1,h2,Nat.le_refl _,rfl⟩}));case rest=>(obtain⟨f2,c0,c1,rfl,hh2,hk2,hlt2,hm⟩:=hcut.out;obtain⟨a0,a1,af,hfl⟩:=zsO hh2;have hhc:=hk2.get HX.y1 id;have hkc:=HX.x1.nx hk2;clear i0 i1 i2 i3 i4 i5 i6 i7 if1 hcut hh2 hk2 HG2;obtain⟨i0,i1,i2,i3,i4,i5,i6,i7,if1,ib2⟩:=z3P (show wc.heap[b]?=some (.cells #[_,_,_,_,_,_,_,_] _ (0,0)) from hhc);have HO:=zB1 hhc hkc;subst hm;clear hhc hkc;go_wp2_with fail;(go_end0);refine⟨rfl,HO.y1.next (H:=λk=>k=b) (Keep.setCell (Keep.refl _ _) (.inl (by rfl)) _:Keep (λk=>k=b) wc _) zE zI,?_⟩;rw[z0A HO.x1 5 (.int .i64 0)];rfl))
theorem zqC(w:World)(x y b d ga ca ep nn i h:Nat)(vl:Value)(sf:Nat)(hx:w.cell? ⟨x,0,none⟩=some (.pointer (some ⟨b,0,none⟩)))(H:w.heap[b]?=some (.cells (z1F d ep h (.slice (some ⟨ga,0,none⟩) nn ca) vl sf 0 false) 301 (0,0)))(hrow:Row w 5 1 (.slice (some ⟨ga,0,none⟩) nn ca) nn (z0B (List.replicate nn 0)))(hnn:nn=32 * h)(hi:i<h)(hh:h<=1023):Calls Tryz.prog 208 #[.int .i64 (i:Nat),.slice (some ⟨ga,i * 32,none⟩) 32 (ca - i * 32),.pointer (some ⟨x,0,none⟩),.pointer (some ⟨y,0,none⟩)] w
   λe w'=>e = .returned (.int .i64 0)/\Keep zF w w':=by
 obtain⟨p,hp⟩:=zX1 (i * 32);have e1:(i:Int) * 32=(p:Int):=by{omega};have e2:=wi64 p (by omega);have hpn:p+32<=nn:=by{omega};have hpb:p<=40000:=by{omega};have H0:=hid (Keep.refl zF w);rw[<-hp];obtain⟨cc,hcc⟩:=zX1 (ca - p);rw[<-hcc];have HR:=zB2 hrow H hx;clear hp hrow hcc hnn hi H hx hh
 go_in
 go_wp2_with (at_builtin;refine z0Q ?_;intro q hq)
 go_loopw [7,8,11] (λdv _ jv wr=>∃ j:Nat,j<=32/\jv = .int .i64 j/\dv = .bool false/\zH (Keep zF w wr)) (λ_ _ jv _=>32 - (intOf jv).toNat)
 case atStart=>exact⟨0,Nat.zero_le _,rfl,rfl,H0⟩
 case round=>(clear H0;obtain⟨j,hj,rfl,rfl,HI⟩:=hrel;obtain⟨i0,i1,i2,i3,i4,i5,i6,i7,if1,ib1⟩:=z3P (show wr.heap[b]?=some (.cells #[_,_,_,_,_,_,_,_] _ (0,0)) from HI.o.get HR.x2 id);have hxr:=z0D HI.o _ _ HR.y2;by_cases hj32:j<32;{have hc:wr.cell? ⟨ga,p+j,none⟩=some (.int .u8 0):=by{rw[(HR.x1.keep HI.o zI).cell (p+j) (by omega)];rw[z0B,List.map_replicate,List.getElem?_replicate,if_pos (by omega)];rfl};obtain⟨q,hq⟩:=zX1 (p+j);have q1:(p:Int)+(j:Int)=(q:Int):=by{omega};have q2:(j:Int)<32:=by{omega};have q3:=wi64 q (by omega);have q4:(0:Int)<=(q:Int):=by{omega};clear hq;go_wp2_with fail;go_roundw;(case rel=>exact⟨j+1,by omega,by go_num,by first | trivial | rfl,HI⟩);case measure=>simp[intOf];omega};{obtain rfl:j=32:=by{omega};go_wp2_with fail;go_ret;exact⟨rfl,HI.o⟩})
end
section
open Go.RowKit
open DM BM WM
theorem zwX(w:World)(b d ga ca ep nn h:Nat)(vl:Value)(sf:Nat)(H:w.heap[b]?=some (.cells (z1F d ep h (.slice (some ⟨ga,0,none⟩) nn ca) vl sf 0 false) 301 (0,0)))(hrow:Row w 5 1 (.slice (some ⟨ga,0,none⟩) nn ca) nn (z0B (List.replicate nn 0)))(hnn:nn=32 * h)(hh:h<=1023):Calls Tryz.prog 193 #[.pointer (some ⟨b,0,none⟩)] w λe w'=>e = .returned (.int .i64 0)/\Keep zF w w':=by
 obtain⟨adx,cax,hvx,hnca,hca,-⟩:=hrow.form;simp at hvx;obtain⟨rfl,rfl⟩:=hvx;obtain⟨w1,hw1⟩:=zX1 ((w.alloc (.cells #[.pointer (some ⟨b,0,none⟩)] 266)).alloc (.cells #[.bool false] 4));have hk1:Keep zF w w1:=by{rw[hw1];exact((Keep.refl _ _).alloc _).alloc _};have hsz:(w.alloc (.cells #[.pointer (some ⟨b,0,none⟩)] 266)).heap.size=w.heap.size+1:=by{simp};have hx1:w1.cell? ⟨w.heap.size,0,none⟩=some (.pointer (some ⟨b,0,none⟩)):=by{have h1:=heap_alloc_new w (.cells #[.pointer (some ⟨b,0,none⟩)] 266);have h2:=((Keep.refl zF (w.alloc (.cells #[.pointer (some ⟨b,0,none⟩)] 266))).alloc (.cells #[.bool false] 4)).get h1 id;rw[hw1,cell_of_row _ _ _ _ _ _ h2];rfl};have hy1:w1.cell? ⟨w.heap.size+1,0,none⟩=some (.bool false):=by{have h1:=heap_alloc_new (w.alloc (.cells #[.pointer (some ⟨b,0,none⟩)] 266)) (.cells #[.bool false] 4);rw[hsz] at h1;rw[hw1,cell_of_row _ _ _ _ _ _ h1];rfl};have hs1:w1.heap.size=w.heap.size+2:=by{rw[hw1];simp};obtain⟨x,hx⟩:=zX1 (w.heap.size);rw[<-hx] at hx1 hy1;obtain⟨y,hy⟩:=zX1 (x+1);rw[<-hy] at hy1;have hh1:=hk1.get H id;obtain⟨i0,i1,i2,i3,i4,i5,i6,i7,if1,ib1⟩:=z3P (show w1.heap[b]?=some (.cells #[_,_,_,_,_,_,_,_] _ (0,0)) from hh1);have heach:=zmN w1.drew b 208 #[.pointer (some ⟨x,0,none⟩),.pointer (some ⟨y,0,none⟩)] 0 0 h nn nn ca (.slice (some ⟨ga,0,none⟩) nn ca) (λ_ wr=>Keep zF w1 wr) (λ_ _=>False) rfl (λi=>by omega) (Nat.zero_le _) (by omega) hnca hca (by omega) (Nat.le_refl _) (by omega) (some ⟨ga,0,none⟩) rfl (λ_ wr hkp=>z0D hkp _ _ i3) (Keep.refl _ _).drew (enters_of Tryz.func208 (by kernel_rfl) rfl) ?_;{have he2:Calls Tryz.prog 181 #[.pointer (some ⟨b,0,none⟩),.int .i64 0,.int .i64 (nn:Nat),.func (.func 208) #[] #[.pointer (some ⟨x,0,none⟩),.pointer (some ⟨y,0,none⟩)]] w1.drew λe w'=> e = .returned (.int .i64 0)/\(w'.cell? ⟨x,0,none⟩=some (.pointer (some ⟨b,0,none⟩))/\w'.cell? ⟨b,3,none⟩=some (.slice (some ⟨ga,0,none⟩) nn ca)/\w'.cell? ⟨b,6,none⟩=some (.int .i64 0))/\zH (Keep zF w1 w'):=by{refine heach.mono ?_;rintro e w' ⟨c,rfl,g1,g2⟩;by_cases h0:c=0;{subst h0;have hk:=g1 rfl;exact⟨rfl,⟨z0D hk _ _ hx1,z0D hk _ _ i3,z0D hk _ _ i6⟩,hid hk⟩};{exact(g2 h0).elim}};have HE2:=hid he2;obtain⟨Post,hPost⟩:∃ Post:Ending->World->Prop,Post=λe w'=>e = .returned (.int .i64 0)/\Keep zF w w':=⟨_,rfl⟩;show Calls _ _ _ _ _;rw[<-hPost];have H1:=zB2 hk1 hy1 hPost;clear hk1 hPost heach he2 hrow H hh1 hsz hy1 i0 i1 i2 i4 i5 i7 if1 hnn;(go_in);go_wp2_with fail;rw[<-hw1,<-hx,<-hy];clear hw1 hx hy;(go_region_held3 (λw'=>w'.cell? ⟨x,0,none⟩=some (.pointer (some ⟨b,0,none⟩))/\w'.cell? ⟨b,3,none⟩=some (.slice (some ⟨ga,0,none⟩) nn ca)/\w'.cell? ⟨b,6,none⟩=some (.int .i64 0)) (first | exact⟨hx1,i3,i6⟩ | assumption) (first | (go_simp;go_at_call 181;refine HE2.o.mono ?_;rintro e w2 ⟨rfl,hz2,HZ2⟩;go_simp)));have y0:=z0D HZ2.o _ _ H1.x2;go_wp2_with fail;rw[H1.y2];exact⟨rfl,H1.x1.next HZ2.o zI zI⟩};{intro i wr hi1 hi2 hkp;have ht:z1T (some ⟨ga,0,none⟩) ca (i * 32) 1=some ⟨ga,i * 32,none⟩:=by{unfold z1T;rw[if_neg (by omega)];simp[z0R]};rw[ht];refine(zqC wr x y b d ga ca ep nn i h vl sf (z0D hkp _ _ hx1) (hkp.get hh1 id) ((hrow.keep hk1 λ_ _ x=>x).keep hkp λ_ _ x=>x) hnn hi2 hh).mono ?_;rintro e w' ⟨rfl,hk2⟩;exact⟨0,rfl,λ_=>hkp.next hk2 zI zI,λh0=>absurd rfl h0⟩}
structure OpNew (w:World) (b d h ga ca nn:Nat) (wr:World):Prop where
 head:wr.heap[b]?=some (.cells (z1F d 0 h (.slice (some ⟨ga,0,none⟩) nn ca) (.slice none 0 0) 0 0 false) 301 (0,0))
 row:Row wr 5 1 (.slice (some ⟨ga,0,none⟩) nn ca) nn (z0B (List.replicate nn 0))
 keep:Keep (fun _=>False) w wr
theorem zyJ(w:World)(d:Nat)(Fd:Nat->Prop)(n:Nat)(hD:DiskAt w d Fd (DM.new n))(h6:6<=n):Calls Tryz.prog 161 #[.pointer (some ⟨d,0,none⟩)] w λe w'=>∃ b F,e = .returned (.tuple #[.pointer (some ⟨b,0,none⟩),.int .i64 0])/\LogAt w' b d F Fd (DM.new n) ⟨0,[],0,false⟩/\Keep zF w w'/\∀ k,F k->w.heap.size<=k:=by
 have hDl:(DM.new n).safe.length=n:=by{simp[DM.new]};have HD:=hid hD;have hfewD:=HD.o.ok.few;rw[hDl] at hfewD;have hsec:=zkB w d Fd _ HD.o;have hup:=zqM w d Fd _ HD.o;rw[hDl] at hsec;rw[show (DM.new n).down=false from rfl] at hup;obtain⟨Post,hPost⟩:∃ Post:Ending->World->Prop,Post=λe w'=>∃ b F,e = .returned (.tuple #[.pointer (some ⟨b,0,none⟩),.int .i64 0])/\LogAt w' b d F Fd (DM.new n) ⟨0,[],0,false⟩/\Keep zF w w'/\∀ k,F k->w.heap.size<=k:=⟨_,rfl⟩;show Calls _ _ _ _ _;rw[<-hPost];have HP:=hid hPost;have q1:¬ (n:Int)<6:=by{omega};obtain⟨h,hh⟩:=zX1 (half (DM.new n));have hh2:h=(n - 2) / 2:=by{rw[hh];unfold half;rw[hDl]};obtain⟨n2,hn2⟩:=zX1 (n - 2);have q2:(n:Int) - 2=(n2:Int):=by{omega};have q3:(n2:Int).tdiv 2=(h:Int):=by{rw[Int.tdiv_eq_ediv_of_nonneg (by omega)];omega};have q4:(n2:Int) / 2=(h:Int):=by{omega};have q5:=wi64 n2 (by omega);have q6:=wi64 h (by omega);have hh1023:h<=1023:=by{omega};have hhp:0<h:=by{omega};have hH:=zB1 hh hh2;clear hh hh2 hn2 hPost hD hDl
 go_in
 go_wp2_with fail;refine hsec.mono ?_;rintro e w2 ⟨rfl,rfl⟩;go_wp2_with fail;refine hup.mono ?_;rintro e w2 ⟨rfl,rfl⟩;go_wp2_with fail;refine hsec.mono ?_;rintro e w2 ⟨rfl,rfl⟩;go_wp2_with fail;obtain⟨w1,hw1,hh1,hk1⟩:=zAl w (.cells #[.pointer (some ⟨d,0,none⟩),.int .u64 0,.int .i64 (h:Nat),.slice none 0 0,.slice none 0 0,.int .i64 0,.int .i64 0,.bool false] 301);obtain⟨b,hb⟩:=zX1 (w.heap.size);rw[<-hw1];rw[<-hb] at hh1 |-;have H0:=zB1 hh1 hk1;have Hb:=hid hb;clear hw1 hh1 hk1 hb hsec hup q1 q2 q3 q4 q5
 go_loopw [5,6,7,30] (λ_ _ _ iv wr=>∃ i:Nat,i<=2/\iv = .int .i64 i/\zH (wr.heap[b]?=some (.cells #[.pointer (some ⟨d,0,none⟩),.int .u64 0,.int .i64 (h:Nat),.slice none 0 0,.slice none 0 0,.int .i64 0,.int .i64 0,.bool false] 301 (0,0))/\Keep zF w wr)) (λ_ _ _ iv _=>2 - (intOf iv).toNat)
 case atStart=>exact⟨0,by decide,rfl,H0⟩
 case round=>
  clear H0;obtain⟨i,hi,rfl,HI⟩:=hrel;by_cases hi2:i<2;{have t1:(i:Int)<2:=by{omega};have hhead:=zgJ wr d Fd n i (HD.o.keep HI.y1 λ_ _ x=>x) (by omega);go_wp2_with fail;refine hhead.mono ?_;clear hhead;rintro e w2 ⟨rfl,hk2⟩;have HZ:=zB1 (hk2.get HI.x1 id) (HI.y1.nx hk2);clear hk2;go_wp2_with fail;go_roundw;(case rel=>exact⟨i+1,by omega,by go_num,HZ⟩);case measure=>simp[intOf];omega}
  ·obtain rfl:i=2:=by omega
   have t1:¬ ((2:Nat):Int)<2:=by{omega};obtain⟨hh2,hk2⟩:=HI.o;obtain⟨i0,i1,i2,i3,i4,i5,i6,i7,if1,ib1⟩:=z3P (show wr.heap[b]?=some (.cells #[_,_,_,_,_,_,_,_] _ (0,0)) from hh2);obtain⟨nn,hnn⟩:=zX1 (32 * h);have t2:(h:Int) * 32=(nn:Int):=by{omega};have t3:=wi64 nn (by omega);have hmk:=λw:World=>zaU (P:=Tryz.prog) z1L .i64 .i64 nn (by omega) (by unfold maxLen;omega) w;have H2:=zB2 hh2 hk2 hnn;clear hh2 hk2 hnn HI;go_wp2_with fail;obtain⟨ga,hga⟩:=zX1 (wr.heap.size);have hkA:Keep (λk=>k=b) wr (wr.setCell ⟨b,3,none⟩ (.slice (some ⟨wr.heap.size,0,none⟩) nn nn)):=kst;have hhA:=z0A H2.x1 3 (.slice (some ⟨wr.heap.size,0,none⟩) nn nn);have hszA:(wr.setCell ⟨b,3,none⟩ (.slice (some ⟨wr.heap.size,0,none⟩) nn nn)).heap.size=wr.heap.size:=by{simp[World.setCell]};obtain⟨wA,hwA⟩:=zX1 (wr.setCell ⟨b,3,none⟩ (.slice (some ⟨wr.heap.size,0,none⟩) nn nn));rw[<-hwA] at hkA hhA hszA |-;obtain⟨w3,hw3,hg3,hk3⟩:=zAl wA (.cells (madeCells #[.int .u8 0] nn) 5);rw[<-hw3];rw[hszA,<-hga] at hg3;rw[<-hga] at hhA;have hrow3:Row w3 5 1 (.slice (some ⟨ga,0,none⟩) nn nn) nn (z0B (List.replicate nn 0)):=by{have h1:=Row.made (w:=w3) (e:=5) (size:=1) (g:=ga) (n:=nn) (z:=(Value.int .u8 0).cells) (by rw[Nat.mul_one];exact hg3) (by unfold maxLen;omega);rw[zcM] at h1;exact h1};have hgab:ga≠b:=λe=>by{have:=z0J H2.x1;omega};have hkw3:Keep zF w w3:=(H2.x2.next hkA zI (λk hk x=>by have:=Hb.o;omega)).next hk3 zI zI;have HG:=hid (show w.heap.size<=ga/\ga≠b/\nn=32 * h from⟨by have:=H2.x2.size;omega,hgab,H2.y2⟩);have R0:=hid (OpNew.mk (w:=w) (b:=b) (d:=d) (h:=h) (ga:=ga) (ca:=nn) (nn:=nn) (hk3.get hhA id) hrow3 hkw3);clear hwA hw3 hkA hhA hszA hg3 hk3 hrow3 hkw3 hga i0 i1 i2 i3 i4 i5 i6 i7 if1 ib1 hmk H2 hgab
   go_loopw [8,9,10,63] (λ_ _ _ iv wx=>∃ i:Nat,i<=h/\iv = .int .i64 i/\zH (OpNew w b d h ga nn nn wx)) (λ_ _ _ iv _=>h - (intOf iv).toNat)
   case atStart=>exact⟨0,Nat.zero_le _,rfl,R0⟩
   case round=>(clear R0;obtain⟨i,hi,rfl,HI⟩:=hrel;obtain⟨i0,i1,i2,i3,i4,i5,i6,i7,if1,ib1⟩:=z3P (show wr.heap[b]?=some (.cells #[_,_,_,_,_,_,_,_] _ (0,0)) from HI.o.head);by_cases hih:i<h;{have s1:(i:Int)<(h:Int):=by{omega};have hfst:=zfO wr b d 0 h _ _ 0 0 false HI.o.head hh1023 0;rw[show 2+0 % 2 * h=2 by omega] at hfst;obtain⟨t,ht⟩:=zX1 (2+i);have g1:(2:Int)+(i:Int)=(t:Int):=by{omega};have g2:=wi64 t (by omega);have hrd:=zmG wr d Fd _ (t:Int) (HD.o.keep HI.o.keep λ_ _ x=>x) (by omega);rw[zcB n t (by have:=hH.out.2;omega)] at hrd;dsimp only at hrd;rw[show DM.blank.length=32 from rfl] at hrd;obtain⟨p,hp⟩:=zX1 (i * 32);have g3:(i:Int) * 32=(p:Int):=by{omega};have g4:=wi64 p (by omega);have hpn:p+32<=nn:=by{have:=HG.y2;omega};have hsl:∀ w,(Instr.sliceAt 39 (.slice (some ⟨ga,0,none⟩) nn nn) (some (.int .i64 (p:Int))) none none).run Tryz.prog w = .ok (.slice (some ⟨ga,p,none⟩) (nn - p) (nn - p)) w:=λw=>by{have h:=z1R (P:=Tryz.prog) z1L (some ⟨ga,0,none⟩) nn nn .i64 p (by omega) w;have e:z1T (some ⟨ga,0,none⟩) nn p 1=some ⟨ga,p,none⟩:=by{unfold z1T;rw[if_neg (by omega)];simp[z0R]};rw[e] at h;exact h};clear ht hp;go_wp2_with fail;refine hfst.mono ?_;rintro e w4 ⟨rfl,rfl⟩;go_wp2_with fail;refine hrd.mono ?_;rintro e w5 ⟨v5,rfl,hrow5,hk5,hown5⟩;obtain⟨ad5,c5,rfl,-⟩:=hrow5.form;have hh5:=hk5.get HI.o.head id;have hga5:=HI.o.row.keep hk5 λ_ _ x=>x;clear i0 i1 i2 i3 i4 i5 i6 i7 if1 ib1;obtain⟨i0,i1,i2,i3,i4,i5,i6,i7,if1,ib1⟩:=z3P (show w5.heap[b]?=some (.cells #[_,_,_,_,_,_,_,_] _ (0,0)) from hh5);obtain⟨gx,capx,cur,fz,hvx,hg5,hfz,hn5,hc5,hz5,ht5⟩:=hga5.some (by omega);simp at hvx;obtain⟨rfl,rfl⟩:=hvx;have hSl:(z0B DM.blank).length=32:=by{rw[z0E];rfl};have hcp:=z5F (P:=Tryz.prog) (w:=w5) (sT:=39) (ty:=3) z1L ga p (nn - p) (nn - p) cur 5 fz hg5 hfz ad5 32 c5 (z0B DM.blank) 32 (Nat.min_eq_left (by omega)) (by have h:=Cells.of_row hrow5;exact h) (by omega) (z2D _);have hr6:=Row.spliced hga5 hg5 p (z0B DM.blank) (by omega);have hk6:Keep (λk=>k=ga) w5 (w5.setRow ga (splice cur.toList p (z0B DM.blank)).toArray):=by{refine Keep.setRow (Keep.refl _ _) (.inl ?_) _;rfl};obtain⟨w6,hw6⟩:=zX1 (w5.setRow ga (splice cur.toList p (z0B DM.blank)).toArray);rw[<-hw6] at hcp hr6 hk6;have HZ:=hid (show OpNew w b d h ga nn nn w6 from ⟨hk6.get hh5 (λe=>HG.x2 e.symm),by{rw[z8C] at hr6;have e:(List.replicate nn 0).take p ++ (DM.blank ++ (List.replicate nn 0).drop (p+DM.blank.length))=List.replicate nn (0:UInt8):=by{unfold DM.blank;rw[List.take_replicate,List.drop_replicate,List.replicate_append_replicate,List.replicate_append_replicate,List.length_replicate];congr 1;omega};rw[e] at hr6;exact hr6},(HI.o.keep.nx hk5).next hk6 zI (λk hk x=>by have:=HG.x1;omega)⟩);clear hh5 hga5 hg5 hfz hn5 hc5 hz5 ht5 hr6 hk6 hw6 hrow5 hk5 hown5 hSl;go_wp2_with fail;go_roundw;(case rel=>exact⟨i+1,by omega,by go_num,HZ⟩);case measure=>simp[intOf];omega};{obtain rfl:h=i:=by{omega};have s1:¬ (h:Int)<(h:Int):=by{omega};have hscan:=zxP wr b d 0 h ga nn nn HI.o.head HI.o.row (by have:=HG.y2;omega) (by have:=HG.y2;omega) (λe=>HG.x2 e.symm);clear i0 i1 i2 i3 i4 i5 i6 i7 if1 ib1;go_wp2_with fail;refine hscan.mono ?_;rintro e w4 ⟨rfl,hk4,hh4⟩;have hrow4:=HI.o.row.keep hk4 (λk e x=>by simp[Value.ownBlock] at e;have:=HG.x2;omega);have hk04:Keep zF w w4:=HI.o.keep.next hk4 zI (λk hk x=>by have:=Hb.o;omega);have hwipe:=zwX w4 b d ga nn 0 nn h (.slice none 0 0) 0 hh4 hrow4 HG.y2 hh1023;have H4:=zB2 hh4 hrow4 hk04;clear hscan hk4 hh4 hrow4 hk04;go_wp2_with fail;refine hwipe.mono ?_;rintro e w5 ⟨rfl,hk5⟩;have HF:=hid (show Post (.returned (.tuple #[.pointer (some ⟨b,0,none⟩),.int .i64 0])) w5 by{rw[HP.o];obtain⟨t1,t2,t3⟩:=H4.o;obtain⟨g1,g2,g3⟩:=HG.o;obtain⟨z1,z2⟩:=hH.out;have hb0:=Hb.o;have hrow:=t2.keep hk5 zI;have hgl:=t2.lt (k:=ga) (by simp[Value.ownBlock]);have hbl:=z0J t1;refine⟨b,λk=>k=b∨k=ga,rfl,⟨ga,nn,.slice none 0 0,[],?_,HD.o.keep (t3.nx hk5) zI,λk h1 h2=>?_⟩,t3.next hk5 zI zI,λk h1=>?_⟩;{rw[<-z1];refine⟨?_,?_,Recs.nil _ _ _,.inl rfl,.inr rfl,λe=>g2 e.symm,λk h1=>?_,?_⟩;{rw[hk5.get t1 id,g3];rfl};{rw[show z5V h []=List.replicate (32 * h) 0 by simp[z5V,flat],<-g3];exact hrow};{have:=hk5.size;rcases h1 with h1 | h1 <;> omega};{exact⟨by simp[flat],by omega,hh1023,by decide,λ_ hx=>absurd hx List.not_mem_nil,Nat.le_refl _⟩}};{have:=HD.o.lt k h2;rcases h1 with h1 | h1 <;> omega};{rcases h1 with h1 | h1 <;> omega}});clear hwipe hk5;go_wp2_with fail;exact HF.o})
end
section
open Go.RowKit Go.Maps Go.Shelf
open MI SO BM DM WM AC
attribute [local go_sem] Oper.semAt_some
theorem ziY(w:World)(b d:Nat)(F Fd:Nat->Prop)(D:Dk)(G:Lg)(H:LogAt w b d F Fd D G)(hg:gone D G=false)(hl:G.l = []):Calls Tryz.prog 162 #[.pointer (some ⟨b,0,none⟩)] w λe w'=>e = .returned (.slice none 0 0)/\Keep zF w w':=by
 have HH:=zB1 H hg;obtain⟨ga,ca,vl,vs,HL⟩:=H;have hh:=HL.wal.head;obtain⟨adl,cl,rfl,-⟩:=HL.wal.recs.row.form;rw[hl,List.length_nil] at hh;unfold z1F at hh;obtain⟨h0,h1,h2,h3,h4,h5,h6,h7,hf,hb⟩:=z3P hh;have H0:=hid (Keep.refl zF w);clear hh HL h0 h1 h2 h3 h5 h6 h7 hf hb hg hl
 go_in
 go_wp2_with fail;refine(z8T w b d F Fd D G HH.x1 HH.y1).mono ?_;rintro e w ⟨rfl,rfl⟩;go_wp2_with fail
 go_loopw [3,14] (λov iv wr=>iv = .int .i64 0/\ov = .slice none 0 0/\zH (Keep zF w wr)) (λ_ _ _=>0)
 case atStart=>exact⟨rfl,rfl,H0⟩
 case round=>(obtain⟨rfl,rfl,HI⟩:=hrel;go_wp2_with fail;go_ret;exact⟨rfl,HI.o⟩)
theorem ztQ(w:World)(d:Nat)(Fd:Nat->Prop)(n:Nat)(hD:DiskAt w d Fd (DM.new n))(h6:6<=n):Calls Tryz.prog 137 #[.pointer (some ⟨d,0,none⟩)] w λe w'=>∃ b F,e = .returned (.tuple #[.pointer (some ⟨b,0,none⟩),.int .i64 0])/\StoAt w' b d F Fd (DM.new n) nS0/\Keep zF w w'/\∀ k,F k->w.heap.size<=k:=by
 have hop:=zyJ w d Fd n hD h6;obtain⟨Post,hPost⟩:∃ Post:Ending->World->Prop,Post=λe w'=>∃ b F,e = .returned (.tuple #[.pointer (some ⟨b,0,none⟩),.int .i64 0])/\StoAt w' b d F Fd (DM.new n) nS0/\Keep zF w w'/\∀ k,F k->w.heap.size<=k:=⟨_,rfl⟩;show Calls _ _ _ _ _;rw[<-hPost];have H0:=hid hPost;clear hD h6 hPost
 go_in
 go_wp2_with fail;refine hop.mono ?_;rintro e w1 ⟨wb,Fl,rfl,a1,a2,a3⟩;have H1:=zB2 a1 a2 a3;clear hop a1 a2 a3;have hmm:=@run_makeMap Tryz.prog;obtain⟨mb,hmb⟩:=zX1 (w1.heap.size);have hs2:(w1.alloc (.map #[] 0)).heap.size=w1.heap.size+1:=by{simp};have hk3:Keep zF w1 ((w1.alloc (.map #[] 0)).alloc (.cells #[.pointer (some ⟨wb,0,none⟩),.map (some w1.heap.size),.bool false] 269)):=((Keep.refl _ _).alloc _).alloc _;have hn3:=heap_alloc_new (w1.alloc (.map #[] 0)) (.cells #[.pointer (some ⟨wb,0,none⟩),.map (some w1.heap.size),.bool false] 269);have hm3:PairsAt ((w1.alloc (.map #[] 0)).alloc (.cells #[.pointer (some ⟨wb,0,none⟩),.map (some w1.heap.size),.bool false] 269)) mb []:=MapAt.keep (by rw[hmb];exact MapAt.made w1 _ _ _) ((Keep.refl zF _).alloc _) (λx=>x);rw[hs2] at hn3;have hrec:=ziY _ wb d Fl Fd _ _ (H1.x1.later hk3) rfl rfl;have H3:=zB3 hk3 hn3 hm3 hmb;clear hs2 hmb hm3 hk3 hn3;go_wp2_with fail;refine hrec.mono ?_;rintro e w5 ⟨rfl,hk5⟩;have H5:=hid (Keep.refl zF w5);have HK5:=hid hk5;clear hrec hk5 hmm;go_wp2_with fail
 go_loopw [26] (λiv wr=>iv = .int .i64 0/\zH (Keep zF w5 wr)) (λ_ _=>0)
 case atStart=>exact⟨rfl,H5⟩
 case round=>(obtain⟨rfl,HT⟩:=hrel;go_wp2_with fail;rw[H0.o];obtain⟨hk3,hn3,hm3,hmb⟩:=H3.o;obtain⟨hlog,hkw,hFl⟩:=H1.o;have hk5r:Keep zF _ wr:=HK5.o.nx HT.o;have hk:Keep zF w1 wr:=hk3.next hk5r zI zI;have hh:=hk5r.get hn3 id;have hlt1:=hlog.ltz;have s0:=hkw.size;have s1:=hk.size;have hm:=MapAt.keep hm3 hk5r (λx=>x);have hmlt:=MapAt.lt hm;replace hh:wr.heap[w1.heap.size+1]?=some (.cells (z4J (.pointer (some ⟨wb,0,none⟩)) mb false) 269 (0,0)):=by{rw[hmb];exact hh};refine⟨w1.heap.size+1,λk=>Fl k∨k=mb∨k=w1.heap.size+1,rfl,StoIs.at (wb:=wb) (mb:=mb) (m:=[]) (Fl:=Fl) ⟨hh,hm,hlog.keep hk zI zI,λ_=>rfl,λk x=>⟨.inl x,?_,?_⟩,.inr (.inr rfl),.inr (.inl rfl),by omega,λk x=>?_,λk x y=>?_,PsOk.nil⟩,hkw.next hk zI zI,λk x=>?_⟩;{have:=hlt1 k (.inl x);omega};{have:=hlt1 k (.inl x);omega};{rcases x with x | x | x;{have:=hlt1 k (.inl x);omega};{omega};{subst x;exact z0J hh}};{have:=hlt1 k (.inr y);rcases x with x | x | x;{exact hlog.apart_ k x y};{omega};{omega}};{rcases x with x | x | x;{exact hFl k x};{omega};{omega}})
end
section
open Go.RowKit Go.Maps Go.Shelf
open MI SO BM DM WM AC
attribute [local go_sem] Oper.semAt_some
theorem zuJ(w:World)(d:Nat)(F:Nat->Prop)(n:Nat)(hD:DiskAt w d F (DM.new n))(h6:6<=n):Calls Tryz.prog 99 #[.pointer (some ⟨d,0,none⟩)] w (AOpenPost d F w (0,some kA0,DM.new n)):=by
 obtain⟨Post,hPost⟩:=zX1 (AOpenPost d F w (0,some kA0,DM.new n));rw[<-hPost];refine(callsIn_wide (n:=5)).1 ?_;refine callsIn_of_wp_marks Tryz.func99 rfl trivial ?_ rfl;simp only[Tryz.ntmps99,List.size_toArray,List.length_cons,List.length_nil,Nat.reduceAdd,Nat.reduceSub,Array.replicate_succ,Array.replicate_zero,List.push_toArray,List.append_toArray,List.nil_append,List.cons_append];have hn1:=heap_alloc_new w (.cells #[.pointer none] 83);have hn:=heap_alloc_new (w.alloc (.cells #[.pointer none] 83)) (.cells #[.int .i64 0] 33);have hk2:Keep zF (w.alloc (.cells #[.pointer none] 83)) ((w.alloc (.cells #[.pointer none] 83)).alloc (.cells #[.int .i64 0] 33)):=(Keep.refl _ _).alloc _;have hn2:=hk2.get hn1 id;rw[show (w.alloc (.cells #[.pointer none] 83)).heap.size=w.heap.size+1 by simp] at hn;have hk:Keep zF w _:=((Keep.refl zF w).alloc (.cells #[.pointer none] 83)).nx hk2;obtain⟨w1,hw1⟩:=zX1 ((w.alloc (.cells #[.pointer none] 83)).alloc (.cells #[.int .i64 0] 33));rw[<-hw1] at hn hn2 hk;have hop:=ztQ w1 d F n (DiskAt.keep hD hk zI) h6;have hFl:=DiskAt.lt hD;have H1:=zB4 hn hn2 hk hFl hPost;clear hk2 hn1 hn hn2 hk hD h6 hFl hPost;refine wpIn_wide.2 ?_
 go_upto_region 1 with fail
 rw[<-hw1];clear hw1;go_wp2_with fail;refine hop.mono ?_;rintro e w2 ⟨b,F1,rfl,hst,hk2,hN2⟩;clear hop;obtain⟨hn,hn2,hk,hFl,hPost⟩:=H1.o;have r2:=hk2.get hn2 id;have r3:=hk2.get hn id;have hz:=z0J r3;have hz12:=hk2.size;have hz1:=z0J hn;have hkF:Keep zF w w2:=hk.next hk2 zI zI;clear hn hn2 hk hk2;have hn3:=heap_alloc_new w2 (.cells #[.pointer (some ⟨b,0,none⟩),.int .u64 0,.int .i64 0,.slice none 0 0,.bool false] 152);have hk3:=kal w2 (.cells #[.pointer (some ⟨b,0,none⟩),.int .u64 0,.int .i64 0,.slice none 0 0,.bool false] 152);have hz3:(w2.alloc (.cells #[.pointer (some ⟨b,0,none⟩),.int .u64 0,.int .i64 0,.slice none 0 0,.bool false] 152)).heap.size=w2.heap.size+1:=by{simp};obtain⟨w3,hw3⟩:=zX1 (w2.alloc (.cells #[.pointer (some ⟨b,0,none⟩),.int .u64 0,.int .i64 0,.slice none 0 0,.bool false] 152));rw[<-hw3] at hn3 hk3 hz3;have hn4:=heap_alloc_new w3 (.cells #[.pointer (some ⟨w2.heap.size,0,none⟩)] 83);have hk4:=kal w3 (.cells #[.pointer (some ⟨w2.heap.size,0,none⟩)] 83);have hz4:(w3.alloc (.cells #[.pointer (some ⟨w2.heap.size,0,none⟩)] 83)).heap.size=w3.heap.size+1:=by{simp};obtain⟨w4,hw4⟩:=zX1 (w3.alloc (.cells #[.pointer (some ⟨w2.heap.size,0,none⟩)] 83));rw[<-hw4] at hn4 hk4 hz4;rw[hz3] at hn4 hz4;have hst4:=(hst.later hk3).later hk4;have hall:=zyD w4 b d F1 F (DM.new n) nS0 hst4 (λ_=>Nat.zero_le _);rw[show told nS0=nS0.ps from rfl] at hall;have hk24:Keep zF w2 w4:=hk3.next hk4 zI zI;have H4:=zB8 (hk24.get r2 id) (hk24.get r3 id) (hk4.get hn3 id) hn4 hst4 (hkF.nx hk24) hPost hz hz4;have HW4:=zB1 hw3 hw4;have HLt:=hid hst.ltw;clear hn3 hk3 hz3 hn4 hk4 hz4 hst hst4 hkF r2 r3 hPost hk24 hw3 hw4 hz
 go_upto_region 5 with fail
 rw[<-HW4.x1,<-HW4.y1];clear HW4;go_wp2_with (at_builtin;refine z0Q ?_;intro q hq);refine hall.mono ?_;rintro e w5 ⟨v,rfl,hs,hk5⟩;obtain⟨hbig,f,caps,rfl,hent,hseq⟩:=hs;have H5:=zB3 hbig hent hseq hk5;clear hall hbig hent hseq hk5;have hq:∀ w,(binOp .eql 235 (.func (.func f) #[] caps) .nilFunc).run Tryz.prog w = .ok (.bool false) w:=λ_=>rfl;go_wp2_with (at_builtin;refine z0Q ?_;intro q hq);clear hq;refine(wpIn_wide (n:=5)).1 ?_;refine' wpIn_rangeFunc_ownF rfl (by omega) (gf:=f) (lb:=caps) rfl trivial H5.x2 (H5.x3 4 w5 (by omega) (Keep.refl _ _)) (λh k=>h.tr k) (λW l o o' hl _ _ _=>zeD W l o' (.inr hl)) (Below.refl _ _) (λ_=>rfl) (λ_ W=>Keep zF w5 W) (λ_ _ _=>False) (zfH λs W W' r h hk h1 hr=>h.next hk zI (λk hk x=>by have:=h1 k x;omega)) (λcc=>zfH λs W W' r h hk h1 hr=>h.elim) (Keep.refl _ _) _ ?assign ?body ?done ?stop
 case assign=>(intro l x W K hK;simp only[encP];(gi_wp2);exact hK)
 case body=>(rintro l pre ⟨x,hx⟩ W hR hlt;exact absurd hx List.not_mem_nil)
 case done=>(rintro Db xs W hD rfl hR hK;obtain⟨e2,e3,ea,ep,hst4,hkw,hPost,hz,hz4⟩:=H4.o;have hk45:=H5.y3.nx hR;have hzW:=hR.size;have hz45:=H5.y3.size;have b2:=hk45.get e2 id;have b3:=hk45.get e3 id;have ba:=hk45.get ea id;have bp:=hk45.get ep id;have c6:W.cell? ⟨w2.heap.size+1,0,none⟩=some (.pointer (some ⟨w2.heap.size,0,none⟩)):=by{simp[World.cell?,bp]};obtain⟨p0,p1,p2,p3,p4,pf,pb⟩:=z0I ba;have HB:=zB11 b2 b3 ba (hst4.later hk45) (hkw.nx hk45) hPost hz hz4 hK hD hzW hz45;clear e2 e3 ea ep hst4 hkw hPost hz hz4 hk45 hzW hz45 b2 b3 ba bp hK hD hR;go_wp2_with fail;(go_loopw [36] (λiv wr=>iv = .int .i64 0/\zH (Keep zF W wr)) (λ_ _=>0));(case atStart=>exact⟨rfl,hid (Keep.refl _ _)⟩);case round=>(obtain⟨rfl,HR⟩:=hrel;have c6:=z0D HR.o _ _ c6;obtain⟨b2,b3,ba,hst,hkw,hPost,hz,hz4,hK,hD,hzW,hz45⟩:=HB.o;have b2:=HR.o.get b2 id;have b3:=HR.o.get b3 id;have d2:wr.cell? ⟨w.heap.size,0,none⟩=some (.pointer none):=by{simp[World.cell?,b2]};have d3:wr.cell? ⟨w.heap.size+1,0,none⟩=some (.int .i64 0):=by{simp[World.cell?,b3]};have f2:wr.frozen? ⟨w.heap.size,0,none⟩=false:=by{simp[World.frozen?,b2]};have f3:wr.frozen? ⟨w.heap.size+1,0,none⟩=false:=by{simp[World.frozen?,b3]};have H7:=zB1 b2 b3;clear b2 b3 ba hst hkw hPost hK hD;go_wp2_with fail;obtain⟨-,-,ba,hst,hkw,hPost,-,-,hK,hD,-,-⟩:=HB.o;have g2:=z0A H7.x1 0 (.pointer (some ⟨w2.heap.size,0,none⟩));have k2:Keep (λk=>k=w.heap.size) wr (wr.setCell ⟨w.heap.size,0,none⟩ (.pointer (some ⟨w2.heap.size,0,none⟩))):=kst;have g3:=z0A (k2.get H7.y1 (λx=>by omega)) 0 (.int .i64 0);have k3:Keep (λk=>k=w.heap.size+1) (wr.setCell ⟨w.heap.size,0,none⟩ (.pointer (some ⟨w2.heap.size,0,none⟩))) ((wr.setCell ⟨w.heap.size,0,none⟩ (.pointer (some ⟨w2.heap.size,0,none⟩))).setCell ⟨w.heap.size+1,0,none⟩ (.int .i64 0)):=kst;have g4:=k3.get g2 (λx=>by omega);have hK8:=k3.get (k2.get (HR.o.get hK id) (λx=>by omega)) (λx=>by omega);obtain⟨w8,hw8⟩:=zX1 ((wr.setCell ⟨w.heap.size,0,none⟩ (.pointer (some ⟨w2.heap.size,0,none⟩))).setCell ⟨w.heap.size+1,0,none⟩ (.int .i64 0));rw[<-hw8] at g3 g4 k3 hK8 |-;have hkD:=zeD (K:=λk=>k=Db) w8 Db (.deferred none) rfl;have g5:=hkD.get g3 (λx=>by omega);have g6:=hkD.get g4 (λx=>by omega);(have hkz:Keep (λk=>k=w.heap.size∨k=w.heap.size+1∨k=Db) W (w8.putObj Db (.deferred none)):= ((HR.o.next k2 (H:=λk=>k=w.heap.size∨k=w.heap.size+1∨k=Db) zE (λ_ _ e=>.inl e)).next k3 zI (λ_ _ e=>.inr (.inl e))).next hkD zI (λ_ _ e=>.inr (.inr e)));refine⟨by simp,.inl ⟨_,_,rfl,run_takeDeferred hK8,?_⟩⟩;refine⟨_,znO rfl _ _ w.heap.size (w.heap.size+1) rfl rfl (some ⟨w2.heap.size,0,none⟩) 0 (by simp[World.cell?,g6]) (by simp[World.cell?,g5]) (by kernel_rfl) (by kernel_rfl),?_⟩;rw[hPost];have hlt:=HLt.o;have hno:∀ k,F1 k∨F k->¬ (k=w.heap.size∨k=w.heap.size+1∨k=Db):=λk x e=>by{have h1:=hlt k x;rcases x with x | x;{have:=hN2 k x;omega};{have:=hFl k x;omega}};refine⟨_,rfl,λk=>k=w2.heap.size∨(F1 k∨F k)∨False,⟨_,rfl,b,.slice none 0 0,λk=>k=w2.heap.size,λk=>F1 k∨F k,λ_=>False,⟨hkz.get ba (λx=>by omega),rfl,λk e=>by rw[e];exact z0J (hkz.get ba (λx=>by omega))⟩,⟨F1,F,hst.keep hkz (λk x=>hno k (.inl x)) (λk x=>hno k (.inr x)),rfl⟩,⟨⟨[],Votes.nil _ _⟩,λk x=>x.elim⟩,λk e x=>?_,λk e x=>x.elim,λk x y=>y.elim,rfl⟩,hkw.next hkz zE (λk hk x=>?_),λi x=>?_⟩;{subst e;have:=hlt _ x;omega};{omega};{rcases x with x | (x | x) | x;{exact .inr (by omega)};{exact .inr (by have:=hN2 i x;omega)};{exact .inl x};{exact x.elim}}))
 case stop=>(rintro Db cc pre W hD hpre h hK;exact h.elim)
end
section
open Go.ChangeShapes Go.WideShapes Go.RowKit Go.Deep
open MI SO BM DM WM AC
def U8R(cs:List Value)(u:UInt8):Prop:=cs = [.int .u8 (u.toNat:Int)]
abbrev Octs(w:World)(v:Value)(l:List UInt8):Prop:=SliceOf w 1 U8R v l
def BalsR(b:Bal):Prop:=b.n<18446744073709551616∧-9223372036854775808≤b.node∧b.node≤9223372036854775807
structure VtR (x:Vt):Prop where
 slot:x.slot<18446744073709551616
 bal:BalsR x.bal
def VoteR(w:World)(cs:List Value)(x:Vt):Prop:=∃ u,cs=z3A x u∧Octs w u x.val∧VtR x
abbrev VoteL(w:World)(v:Value)(l:List Vt):Prop:=SliceOf w 4 (VoteR w) v l
theorem Octs.cells{w:World}{ao:Option Addr}{n c:Nat}{l:List UInt8}(h:Octs w (.slice ao n c) l):n=l.length/\l.length<=c/\c<=maxLen/\Cells w ao l.length 1 (z0B l):=by
 obtain⟨ao',c',e,h1,h2,h3⟩:=h;cases e;refine⟨rfl,h1,h2,by rw[z0E];omega,λhp=>?_⟩;obtain⟨ad,rfl,hi⟩:=h3 (by omega);refine⟨ad,rfl,λt u hu=>?_⟩;have ht:t<l.length:=by{have:=(List.getElem?_eq_some_iff.1 hu).1;rw[z0E] at this;exact this};obtain⟨cs,-,hR,hc⟩:=hi t ht;have e:u = .int .u8 ((l[t]).toNat:Int):=by{simp only[z0B,List.getElem?_map,List.getElem?_eq_getElem ht,Option.map_some,Option.some.injEq] at hu;exact hu.symm};have:=hc 0 u (by rw[hR,e];rfl);rw[Nat.mul_one,Nat.add_zero] at this;exact this
theorem Octs.keep{w w':World}{v:Value}{l:List UInt8}(h:Octs w v l)(hk:Keep zF w w'):Octs w' v l:=by
 obtain⟨ao,c,e,h1,h2,h3⟩:=h;exact⟨ao,c,e,h1,h2,λhp=>let ⟨ad,e2,hi⟩:=h3 hp;⟨ad,e2,λi hil=>let ⟨cs,g1,g2,g3⟩:=hi i hil;⟨cs,g1,g2,λj u hu=>z0D hk _ _ (g3 j u hu)⟩⟩⟩
section
variable {H:Type} {enc:TypeId×Value→H} {w:World} {base:Nat} {held:Bool} {fuel:Nat}
theorem y2G{a:Int}(h:(Lit.int .u8 a).wf=true):∃ u:UInt8,a=(u.toNat:Int):=by
 have hx:0<=a/\a<=255:=by{simpa [Lit.wf,IntKind.min,IntKind.max,IntKind.signed,IntKind.bits] using h};refine⟨UInt8.ofNat a.toNat,?_⟩;simp;omega
theorem y0W{v:Value}{x:DataW H×List MemPlace}(h:DataW.trod enc Tryz.prog w base (λ_=>true) held fuel 39 [v]=some x):∃ l,Octs w v l:=
 zpZ Tryz.underlying39 (by kernel_rfl) (λ_ _ _ _ h=>let ⟨n,h1,h2⟩:=zmT Tryz.underlying5 h;let ⟨u,hu⟩:=y2G h2;⟨u,by rw[h1,hu];rfl⟩) h
end
end
end Go.Proofs.YtkhddpiopbmhjaaGreat
