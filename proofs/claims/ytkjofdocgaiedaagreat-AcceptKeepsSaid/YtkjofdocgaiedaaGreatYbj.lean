/- Texts AcdB, AcdP, AcdQ, StpP, AccQ, AccR, AcdE, AceA, AceB, AcdF, AceC, AceD, AceL in one. Conditions: as each law names them. -/
import Derived.Test.YtkjofdocgaiedaaGreatYae
import Derived.Test.YtkjofdocgaiedaaGreatYay
import Derived.Test.YtkjofdocgaiedaaGreatYaz
import Derived.Test.YtkjofdocgaiedaaGreatYbc
import Derived.Test.YtkjofdocgaiedaaGreatYbe
import Derived.Test.YtkjofdocgaiedaaGreatYbf
import Derived.Test.YtkjofdocgaiedaaGreatYbg
import Derived.Test.YtkjofdocgaiedaaGreatYbi
set_option maxRecDepth 20000
set_option maxHeartbeats 8000000
namespace Go.Proofs.YtkjofdocgaiedaaGreat
section
open Go.RowKit Go.Maps Go.Shelf
open MI SO BM DM WM AC
attribute [local go_sem] Oper.semAt_some
def AcP (d:Nat) (D:Dk) (o:Option Ac) (av:Value):Thing:=fun w F=>
 match o with
 | none=>av = .pointer none∧DkT d D w F
 | some A=>∃ a,av = .pointer (some ⟨a,0,none⟩)∧AcT a d D A w F
theorem AcP.lives (d:Nat) (D:Dk) (o:Option Ac) (u:Value):Lives (AcP d D o u):=by
 cases o with | none=>{exact⟨λh j s=>⟨h.1,(DkT.lives d D).keep h.2 j s⟩,λh=>(DkT.lives d D).lt h.2⟩} | some A=>{exact⟨λ⟨b,x,c⟩ j s=>⟨b,x,(AcT.lives b d D A).keep c j s⟩,λ⟨b,_,c⟩=>(AcT.lives b d D A).lt c⟩}
theorem AcT.disk {a d:Nat} {D:Dk} {A:Ac} {w:World} {F:Nat->Prop} (h:AcT a d D A w F):∃ F',DkT d D w F'/\∀ k,F' k->F k:=by
 obtain⟨E,y,X,Y,Z,-,⟨F1,c,j,u⟩,-,-,-,-,s⟩:=h;exact⟨c,j.diskAt,λk x=>by rw[s,u];exact .inr (.inl (.inr x))⟩
theorem AcP.disk {d:Nat} {D:Dk} {o:Option Ac} {c:Value} {w:World} {F:Nat->Prop} (h:AcP d D o c w F):∃ F',DkT d D w F'/\∀ k,F' k->F k:=by
 cases o with | none=>{exact⟨F,h.2,λ_ x=>x⟩} | some A=>{obtain⟨a,-,h⟩:=h;exact h.disk}
def AOpenPost (d:Nat) (F:Nat→Prop) (w:World) (R:Int×Option Ac×Dk) (e:Ending) (w':World):Prop:=
 ∃ av,e = .returned (.tuple #[av,.int .i64 R.1])∧Turns (AcP d R.2.2 R.2.1 av) F w w'
theorem AC.rdL_append:∀ (ps qs:List (Str×Str)) (st:Bal×List Vt),rdL st (ps ++ qs)=match rdL st ps with | none=>none | some s=>rdL s qs
 | [],_,_=>rfl
 | p :: ps,qs,st=>by{simp only[List.cons_append,rdL];cases rd1 st p with | none=>{rfl} | some s=>{exact AC.rdL_append ps qs s}}
theorem SO.op_code {D:Dk} {S:St} (h:(opS D).2.1=some S):(opS D).1=0:=by
 unfold opS at *;split at h;{cases h};{split at h;{cases h};{rfl}}
theorem SO.op_dead {D:Dk} {S:St} (h:(opS D).2.1=some S):S.dead=false:=by
 unfold opS at h;split at h;{cases h};{split at h;{cases h};{cases h;rfl}}
theorem SO.op_none {D:Dk} (h:(opS D).2.1=none):(opS D).1≠0:=by
 unfold opS at *;split;{rename_i c;exact open_none c};{rename_i c;split;{show (50:Int)≠0;decide};{rename_i hd;rw[c] at h;simp only at h;rw[hd] at h;cases h}}
structure RIn (w4:World) (a b:Nat) (pre:List (Str×Str)) (W:World):Prop where
 ex:∃ st nv us,rdL (Bal.zero,[]) pre=some st∧W.heap[a]?=some (.cells (accC b st.1 nv false) 86 (0,0))∧Votes W (fun k=>w4.heap.size≤k) nv st.2 us
 keep:Keep (fun k=>k=a) w4 W
theorem AC.rdL_len:∀ {ps:List (Str×Str)} {st st':Bal×List Vt},rdL st ps=some st'->st'.2.length<=st.2.length+ps.length
 | [],st,st',h=>by cases h;simp
 | p :: ps,st,st',h=>by{unfold rdL at h;cases c:rd1 st p with | none=>{rw[c] at h;cases h} | some s=>{rw[c] at h;have j:=AC.rdL_len (st:=s) h;have u:s.2.length<=st.2.length+1:=by{rcases zfP c with ⟨-,-,e,-⟩ | ⟨-,-,v,e,-⟩;{rw[e];omega};{rw[e];simp}};simp only[List.length_cons];omega}}
theorem Votes.turn {w w':World} {F:Nat->Prop} {v:Value} {vs:List Vt} {u:List Value} {r:Option Nat} (h:Votes w F v vs u) (c:Keep (λk=>r=some k) w w') (s:∀ k,r=some k->∃ o:Obj,w.heap[k]?=some o/\o.isCells=false):Votes w' F v vs u:=
 ⟨h.row.turn c s,h.len,h.own,λj x=>let ⟨h2,h3⟩:=h.each j x;⟨h2.turn c s,h3⟩⟩
theorem RIn.turn {w4:World} {a b:Nat} {pre:List (Str×Str)} {W j:World} {r:Option Nat} {B:Nat} (h:RIn w4 a b pre W) (hB:w4.heap.size<=B) (c:Keep (λk=>r=some k) W j) (I:∀ k,r=some k->B<=k) (s:∀ k,r=some k->∃ o:Obj,W.heap[k]?=some o/\o.isCells=false):RIn w4 a b pre j:=by
 obtain⟨⟨st,M,O,u,y,E⟩,J⟩:=h;exact⟨⟨st,M,O,u,zbN y c s,E.turn c s⟩,J.next c (λ_ _ x=>x) (λk c x=>by have:=I k x;omega)⟩
structure ROut (w5:World) (a r2 r3:Nat) (ps:List (Str×Str)) (W:World):Prop where
 bad:rdL (Bal.zero,[]) ps=none
 c2:W.heap[r2]?=some (.cells #[.pointer none] 36 (0,0))
 c3:W.heap[r3]?=some (.cells #[.int .i64 91] 33 (0,0))
 keep:Keep (fun k=>k=a∨k=r2∨k=r3) w5 W
theorem ROut.turn {w5:World} {a u y:Nat} {ps:List (Str×Str)} {W j:World} {r:Option Nat} {B:Nat} (h:ROut w5 a u y ps W) (hB:w5.heap.size<=B) (c:Keep (λk=>r=some k) W j) (E:∀ k,r=some k->B<=k) (s:∀ k,r=some k->∃ o:Obj,W.heap[k]?=some o/\o.isCells=false):ROut w5 a u y ps j:=
 ⟨h.bad,zbN h.c2 c s,zbN h.c3 c s,h.keep.next c (λ_ _ x=>x) (λk c x=>by have:=E k x;omega)⟩
theorem AC.rdL_bad {ps:List (Str×Str)} {p:Str×Str} {st:Bal×List Vt} {c:Bal×List Vt} (h:rdL c ps=some st) (j:rd1 st p=none):rdL c (ps ++ [p])=none:=by
 rw[AC.rdL_append,h];simp only[rdL,j]
theorem AC.rdL_next {ps:List (Str×Str)} {p:Str×Str} {st c:Bal×List Vt} {j:Bal×List Vt} (h:rdL j ps=some st) (s:rd1 st p=some c):rdL j (ps ++ [p])=some c:=by
 rw[AC.rdL_append,h];simp only[rdL,s]
theorem z9U (w:World) (d:Nat) (F:Nat->Prop) (D:Dk) (hD:DiskAt w d F D) (i1:D.waits.length<=800000) :
  Calls Tryz.prog 23 #[.pointer (some ⟨d,0,none⟩)] w (AOpenPost d F w (z2T D)):=by
 obtain⟨g0,E⟩:=zX1 (AOpenPost d F w (z2T D));rw[<-E];refine(callsIn_wide (n:=5)).1 ?_;refine callsIn_of_wp_marks Tryz.func23 rfl trivial ?_ rfl;simp only[Tryz.ntmps23,List.size_toArray,List.length_cons,List.length_nil,Nat.reduceAdd,Nat.reduceSub,Array.replicate_succ,Array.replicate_zero,List.push_toArray,List.append_toArray,List.nil_append,List.cons_append];have l7:=kal w (.cells #[.pointer none] 36);have m6:(w.alloc (.cells #[.pointer none] 36)).heap.size=w.heap.size+1:=by{simp};have m0:=heap_alloc_new w (.cells #[.pointer none] 36);have hn:=heap_alloc_new (w.alloc (.cells #[.pointer none] 36)) (.cells #[.int .i64 0] 33);have u:Keep (λ_=>False) (w.alloc (.cells #[.pointer none] 36)) ((w.alloc (.cells #[.pointer none] 36)).alloc (.cells #[.int .i64 0] 33)):=(Keep.refl _ _).alloc _;have O:=u.get m0 id;rw[m6] at hn;have hk:=l7.nx u;obtain⟨w1,k1⟩:=zX1 ((w.alloc (.cells #[.pointer none] 36)).alloc (.cells #[.int .i64 0] 33));rw[<-k1] at hn O hk;have c9:=zoX w1 d F D (DiskAt.keep hD hk (λ_ _ x=>x)) i1;have a9:=DiskAt.lt hD;have H1:=hid (zA1 hn (zA1 O (zA1 hk (zA1 a9 E))));clear l7 u m6 m0 hn O hk hD i1 a9 E;refine wpIn_wide.2 ?_
 go_upto_region 1 with fail
 rw[<-k1];clear k1;go_wp2_with fail;refine c9.mono ?_;intro e w2 hp;clear c9;have c9:=zaE D;obtain⟨sv,rfl,F2,f8,u,l5⟩:=hp.side;clear hp;obtain⟨hn,O,hk,a9,E⟩:=H1.out;have hz:=z0M hn;have r2:=u.get O (λx=>by have:=a9 _ x;omega);have r3:=u.get hn (λx=>by have:=a9 _ x;omega);have c8:=hk.next u (H:=F) (λ_ _ x=>x.elim) (λ_ _ x=>x);have b0:∀ i,F2 i->F i∨w.heap.size+2<=i:=λi x=>(l5 i x).imp id λy=>by{omega};clear hn O hk u l5;cases ho:(opS D).2.1 with
 | none=>
   rw[ho] at f8;obtain⟨rfl,f5⟩:=f8;have c7:=SO.op_none ho;have hE:z2T D=((opS D).1,none,(opS D).2.2):=by{unfold z2T;rw[ho]};have HE:=hid (zA1 hE (zA1 f5 (zA1 c8 (zA1 b0 (zA1 r2 (zA1 r3 E))))));obtain⟨c,hc⟩:=zX1 ((opS D).1);rw[<-hc] at c7 HE |-;have q1:(c != 0)=true:=by{simpa using c7};have d2:w2.cell? ⟨w.heap.size,0,none⟩=some (.pointer none):=by{simp[World.cell?,r2]};have d3:w2.cell? ⟨w.heap.size+1,0,none⟩=some (.int .i64 0):=by{simp[World.cell?,r3]};have f2:w2.frozen? ⟨w.heap.size,0,none⟩=false:=by{simp[World.frozen?,r2]};have f3:w2.frozen? ⟨w.heap.size+1,0,none⟩=false:=by{simp[World.frozen?,r3]};clear hc c7 hE f5 c8 b0 r2 r3 hz E c9;go_wp2_with fail;obtain⟨hE,f5,c8,b0,r2,r3,E⟩:=HE.out;have g2:=z0A r2 0 (.pointer none);have k2:Keep (λk=>k=w.heap.size) w2 (w2.setCell ⟨w.heap.size,0,none⟩ (.pointer none)):=kst;have g3:=z0A (k2.get r3 (λx=>by omega)) 0 (.int .i64 c);have k3:Keep (λk=>k=w.heap.size+1) (w2.setCell ⟨w.heap.size,0,none⟩ (.pointer none)) ((w2.setCell ⟨w.heap.size,0,none⟩ (.pointer none)).setCell ⟨w.heap.size+1,0,none⟩ (.int .i64 c)):=kst;have g4:=k3.get g2 (λx=>by omega);have O:∀ i,F2 i->i≠w.heap.size/\i≠w.heap.size+1:=λi x=>(b0 i x).elim (λy=>by have:=a9 i y;omega) (λy=>by omega);refine⟨_,z8C rfl _ _ w.heap.size (w.heap.size+1) rfl rfl none c (by simp[World.cell?,g4]) (by simp[World.cell?,g3]) (by kernel_rfl) (by kernel_rfl),?_⟩;rw[E,hE];exact⟨_,rfl,F2,⟨rfl,(DkT.lives _ _).keep ((DkT.lives _ _).keep f5 k2 (λi x=>(O i x).1)) k3 (λi x=>(O i x).2)⟩,(c8.next k2 (λ_ _ x=>x) (λk hk e=>by omega)).next k3 (λ_ _ x=>x) (λk hk e=>by omega),λi x=>(b0 i x).imp id λy=>by omega⟩
 | some S=>
   rw[ho] at f8;obtain⟨b,rfl,F1,Fd,e7,l4⟩:=f8;have c7:=SO.op_code ho;have l6:=c9 S ho;have m1:=e7.ok;have j6:=l6.few e7.facts.count;have b6:=SO.op_dead ho;have hE:z2T D=match rd S.ps with | none=>(91,none,(opS D).2.2) | some (b,vs)=>(0,some ⟨S,b,vs⟩,(opS D).2.2):=by{unfold z2T;rw[ho];rfl};rw[c7];have j9:=heap_alloc_new w2 (.cells #[.pointer (some ⟨b,0,none⟩),.int .u64 0,.int .i64 0,.slice none 0 0,.bool false] 86);have a8:=kal w2 (.cells #[.pointer (some ⟨b,0,none⟩),.int .u64 0,.int .i64 0,.slice none 0 0,.bool false] 86);have k7:(w2.alloc (.cells #[.pointer (some ⟨b,0,none⟩),.int .u64 0,.int .i64 0,.slice none 0 0,.bool false] 86)).heap.size=w2.heap.size+1:=by{simp};obtain⟨w3,k4⟩:=zX1 (w2.alloc (.cells #[.pointer (some ⟨b,0,none⟩),.int .u64 0,.int .i64 0,.slice none 0 0,.bool false] 86));rw[<-k4] at j9 a8 k7;have f6:=heap_alloc_new w3 (.cells #[.pointer (some ⟨w2.heap.size,0,none⟩)] 36);have d4:=kal w3 (.cells #[.pointer (some ⟨w2.heap.size,0,none⟩)] 36);have f0:(w3.alloc (.cells #[.pointer (some ⟨w2.heap.size,0,none⟩)] 36)).heap.size=w3.heap.size+1:=by{simp};obtain⟨w4,k5⟩:=zX1 (w3.alloc (.cells #[.pointer (some ⟨w2.heap.size,0,none⟩)] 36));rw[<-k5] at f6 d4 f0;rw[k7] at f6 f0;have e8:=(e7.later a8).later d4;have d1:=zkK w4 b d F1 Fd (opS D).2.2 S e8 (λh=>by have:=j6 h;omega);have e9:told S=S.ps:=by{unfold told;rw[b6];rfl};rw[e9] at d1;have Y:=hid (zA1 (d4.get j9 id) (zA1 f6 (zA1 (a8.nx d4) (zA1 e8 (zA1 hE (zA1 c8 (zA1 b0 (zA1 r2 (zA1 r3 (zA1 E (zA1 m1 (zA1 j6 (zA1 b6 (zA1 l4 (zA1 hz f0)))))))))))))));have i7:=hid (zA1 k4 k5);have l3:=hid e7.ltw;clear j9 a8 k7 f6 d4 f0 e7 e8 hE c8 b0 r2 r3 E m1 j6 b6 e9 l4 hz c7 l6 c9 k4 k5
   go_upto_region 5 with fail
   rw[<-i7.out.1,<-i7.out.2];clear i7;go_wp2_with (at_builtin;refine z0H ?_;intro q hq);refine d1.mono ?_;rintro e w5 ⟨v,rfl,hs,a6⟩;obtain⟨g8,f,g7,rfl,g9,i5⟩:=hs;have H5:=hid (zA1 g8 (zA1 g9 (zA1 i5 a6)));clear d1 g8 g9 i5 a6;have hq:∀ w,(binOp .eql 134 (.func (.func f) #[] g7) .nilFunc).run Tryz.prog w = .ok (.bool false) w:=λ_=>rfl;go_wp2_with (at_builtin;refine z0H ?_;intro q hq);have d6:=(Y.out.2.2.1.nx H5.out.2.2.2).get Y.out.2.2.2.2.2.2.2.1 id;have e0:=(Y.out.2.2.1.nx H5.out.2.2.2).get Y.out.2.2.2.2.2.2.2.2.1 id;have i3:=H5.out.2.2.2.get Y.out.1 id;have i4:=H5.out.2.2.2.get Y.out.2.1 id;have HN:=hid (zA1 d6 (zA1 e0 (zA1 i3 i4)));have f0:=Y.out.2.2.2.2.2.2.2.2.2.2.2.2.2.2.2;have o8:=H5.out.2.2.2.size;have o7:=z0M Y.out.2.2.2.2.2.2.2.2.1;clear d6 e0 i3 i4 hq;have a7:∀ k,F1 k∨Fd k->¬ (k=w.heap.size∨k=w.heap.size+1∨w2.heap.size<=k):=λk x=>by{have h1:=l3.out k x;have h2:=Y.out.2.2.2.2.2.2.1 k (by rw[Y.out.2.2.2.2.2.2.2.2.2.2.2.2.2.1];exact x);rcases h2 with h2 | h2;{have:=a9 k h2;omega};{omega}};(have i9:∀ W9,Keep (λk=>k=w.heap.size∨k=w.heap.size+1∨w2.heap.size<=k) w4 W9->Keep F w W9:=λW9 h=> (Y.out.2.2.2.2.2.1.next Y.out.2.2.1 (λ_ _ x=>x) (λ_ _ x=>x.elim)).next h (λ_ _ x=>x) (λk hk x=>by omega));have j5:∀ i,F1 i∨Fd i->F i∨w.heap.size<=i:=λi x=>(Y.out.2.2.2.2.2.2.1 i (by rw[Y.out.2.2.2.2.2.2.2.2.2.2.2.2.2.1];exact x)).imp id λy=>by{omega};have f9:=hid (show rd S.ps=none->∀ W9,Keep (λk=>k=w.heap.size∨k=w.heap.size+1∨w2.heap.size<=k) w4 W9->g0 (.returned (.tuple #[.pointer none,.int .i64 91])) W9 from λh W9 hk=>by{rw[Y.out.2.2.2.2.2.2.2.2.2.1,Y.out.2.2.2.2.1,h];exact⟨_,rfl,Fd,⟨rfl,DiskAt.keep Y.out.2.2.2.1.diskAt hk (λk x=>a7 k (.inr x))⟩,i9 W9 hk,λi x=>j5 i (.inr x)⟩})
   have i6:=hid (show ∀ b9 k9,rd S.ps=some (b9,k9)->∀ W9 nv us,W9.heap[w2.heap.size]?=some (.cells (accC b b9 nv false) 86 (0,0))->Votes W9 (λk=>w5.heap.size<=k) nv k9 us->
    Keep (λk=>k=w.heap.size∨k=w.heap.size+1∨w2.heap.size<=k) w4 W9->g0 (.returned (.tuple #[.pointer (some ⟨w2.heap.size,0,none⟩),.int .i64 0])) W9 from λb9 k9 h W9 nv us hb hv hk=>by
    rw[Y.out.2.2.2.2.2.2.2.2.2.1,Y.out.2.2.2.2.1,h];refine⟨_,rfl,λk=>k=w2.heap.size∨(F1 k∨Fd k)∨(w5.heap.size<=k/\k<W9.heap.size),⟨_,rfl,b,nv,λk=>k=w2.heap.size,λk=>F1 k∨Fd k,_,⟨by rw[Y.out.2.2.2.2.2.2.2.2.2.2.2.2.1];exact hb,rfl,λk e=>by rw[e];exact z0M hb⟩,⟨F1,Fd,Y.out.2.2.2.1.keep hk (λk x=>a7 k (.inl x)) (λk x=>a7 k (.inr x)),rfl⟩,⟨⟨us,hv.lts⟩,λk x=>x.2⟩,λk e x=>?_,λk e x=>?_,λk x y=>?_,rfl⟩,i9 W9 hk,λi x=>?_⟩;{subst e;exact a7 _ x (.inr (.inr (Nat.le_refl _)))};{have h1:k=w2.heap.size:=e;have h2:=x.1;omega};{have h1:=l3.out k x;have h2:=y.1;omega}
    ·rcases x with x | x | x
     {exact .inr (by omega)};{exact j5 i x}
     ·exact .inr (by have:=x.1;omega))
   clear a7 i9 j5;refine(wpIn_wide (n:=5)).1 ?_;refine' wpIn_rangeFunc_ownF rfl (by omega) (gf:=f) (lb:=g7) rfl trivial H5.out.2.1 (H5.out.2.2.1 4 w5 (by omega) (Keep.refl _ _)) (λh k=>h.tr k) (λW l o o' hl _ _ _=>z4D W l o' (.inr hl)) (Below.refl _ _) (λ_=>rfl) (λpre W=>RIn w5 w2.heap.size b (pre.map Subtype.val) W) (λcc pre W=>cc = .ret/\ROut w5 w2.heap.size w.heap.size (w.heap.size+1) (pre.map Subtype.val) W) (z8N λs W W' r h hk h1 hr=>h.turn (Nat.le_refl _) hk h1 hr) (λcc=>z8N λs W W' r h hk h1 hr=>⟨h.1,h.2.turn (Nat.le_refl _) hk h1 hr⟩) ⟨⟨(Bal.zero,[]),.slice none 0 0,[],rfl,HN.out.2.2.1,Votes.nil _ _⟩,Keep.refl _ _⟩ _ ?assign ?body ?done ?stop
   case assign=>(intro l x W K hK;simp only[encP];(gi_wp2);exact hK)
   case body=>(rintro l pre ⟨x,hx⟩ W hR l9;obtain⟨qs,f7⟩:=zX1 (pre.map Subtype.val);have m2:qs.length=pre.length:=by{rw[f7,List.length_map]};have HQ:=hid (show List.map Subtype.val (pre ++ [(⟨x,hx⟩:InP S.ps)])=qs ++ [x] by rw[f7];simp);rw[<-f7] at hR;rw[<-m2] at l9;clear f7 m2;obtain⟨⟨st,nv,us,e1,e2,e3⟩,I⟩:=hR;have hlen:=AC.rdL_len e1;have k0:=Y.out.2.2.2.2.2.2.2.2.2.2.2.1 Y.out.2.2.2.2.2.2.2.2.2.2.2.2.1;have n2:=I.size;have n1:=Y.out.2.2.2.2.2.2.2.2.2.2.1.each x hx;obtain⟨o1,o2,o3⟩:=n1;have e6:=zqE W w2.heap.size b w5.heap.size (by omega) n2 st nv us x.1 x.2 e2 e3 (by omega) (by omega) (by simp only[List.length_nil,Nat.zero_add] at hlen;omega);have b1:=I.get HN.out.2.2.2 (λx=>by omega);have b2:=I.get HN.out.1 (λx=>by omega);have b3:=I.get HN.out.2.1 (λx=>by omega);have c6:W.cell? ⟨w2.heap.size+1,0,none⟩=some (.pointer (some ⟨w2.heap.size,0,none⟩)):=by{simp[World.cell?,b1]};have HB:=hid (zA1 e1 (zA1 e2 (zA1 e3 (zA1 I (zA1 b2 (zA1 b3 hx))))));have o0:(λp:InP S.ps=>p.1) ⟨x,hx⟩=x:=rfl;simp only;clear e1 e2 e3 I b1 b2 b3 hlen k0 o1 o2 o3 l9 o0;(gi_wp2);refine⟨trivial,(CallsIn.inRound l (callsIn_wide.2 e6)).mono ?_⟩;rintro e W2 ⟨u,b7⟩;clear e6;obtain⟨e1,e2,e3,I,b2,b3,-⟩:=HB.out;have e4:¬ (w.heap.size=w2.heap.size∨nv.ownBlock=some w.heap.size):=λx=>x.elim (λy=>by omega) (λy=>by have:w5.heap.size<=w.heap.size:=e3.own _ y;omega);have e5:¬ (w.heap.size+1=w2.heap.size∨nv.ownBlock=some (w.heap.size+1)):=λx=>x.elim (λy=>by omega) (λy=>by have:w5.heap.size<=w.heap.size+1:=e3.own _ y;omega);have b2:=u.get b2 e4;have b3:=u.get b3 e5;have a5:KeepsOthers W W2:=zhI u (λk h=>by{rcases h with rfl | h;{exact⟨_,_,_,e2⟩};{obtain⟨-,⟨h0,-⟩ | ⟨g,cap,o9,fz,h0,hg,-⟩⟩:=e3.row;{rw[h0] at h;simp[Value.ownBlock] at h};{rw[h0] at h;simp[Value.ownBlock] at h;subst h;exact⟨_,_,_,hg⟩}}});have d5:Keep (λk=>k<w4.heap.size∨w5.heap.size<=k) W W2:=u.mono λk _ h=>h.elim (λy=>.inl (by omega)) (λy=>.inr (e3.own _ y));have a6:Keep (λk=>k=w2.heap.size) w5 W2:=I.next u (λ_ _ x=>x) (λk hk h=>h.elim id λy=>by have:w5.heap.size<=k:=e3.own _ y;omega);cases d0:rd1 st x with | none=>{have Z:=AC.rdL_bad e1 d0;rw[show rd1 st (x.1,x.2)=none from d0] at b7;subst b7;have d2:W2.cell? ⟨w.heap.size,0,none⟩=some (.pointer none):=by{simp[World.cell?,b2]};have d3:W2.cell? ⟨w.heap.size+1,0,none⟩=some (.int .i64 0):=by{simp[World.cell?,b3]};have f2:W2.frozen? ⟨w.heap.size,0,none⟩=false:=by{simp[World.frozen?,b2]};have f3:W2.frozen? ⟨w.heap.size+1,0,none⟩=false:=by{simp[World.frozen?,b3]};have HC:=hid (zA1 Z (zA1 b2 (zA1 b3 (zA1 a5 (zA1 d5 a6)))));clear e1 e2 e3 I b2 b3 e4 e5 a5 d5 a6 u Z d0;(gi_wp2);obtain⟨Z,b2,b3,a5,d5,a6⟩:=HC.out;rw[<-HQ.out] at Z;have g2:=z0A b2 0 (.pointer none);have k2:Keep (λk=>k=w.heap.size) W2 (W2.setCell ⟨w.heap.size,0,none⟩ (.pointer none)):=kst;have g3:=z0A (k2.get b3 (λx=>by omega)) 0 (.int .i64 91);have k3:Keep (λk=>k=w.heap.size+1) (W2.setCell ⟨w.heap.size,0,none⟩ (.pointer none)) ((W2.setCell ⟨w.heap.size,0,none⟩ (.pointer none)).setCell ⟨w.heap.size+1,0,none⟩ (.int .i64 91)):=kst;have g4:=k3.get g2 (λx=>by omega);obtain⟨-,-,-,-,c2,c3,-⟩:=HB.out;refine⟨⟨Nat.le_trans a5.size (Nat.le_trans k2.size k3.size),λk o h hc=>?_⟩,rfl,⟨Z,g4,g3,(a6.next k2 (H:=λk=>k=w2.heap.size∨k=w.heap.size∨k=w.heap.size+1) (λ_ _ x=>.inl x) (λ_ _ x=>.inr (.inl x))).next k3 (λ_ _ x=>x) (λ_ _ x=>.inr (.inr x))⟩⟩;refine k3.get (k2.get (a5.same k o h hc) (λe=>?_)) (λe=>?_);{subst e;rw[c2] at h;cases h;cases hc};{subst e;rw[c3] at h;cases h;cases hc}} | some st'=>{rw[show rd1 st (x.1,x.2)=some st' from d0] at b7;obtain⟨rfl,o4,o5,g1,g2⟩:=b7;have HC:=hid (show RIn w5 w2.heap.size b (qs ++ [x]) W2 from⟨⟨st',o4,o5,AC.rdL_next e1 d0,g1,g2⟩,a6⟩);have HD:=hid (zA1 a5 d5);clear e1 e2 e3 I b2 b3 e4 e5 a5 d5 a6 u d0 g1 g2;(gi_wp2);have hz:=HC.out;rw[<-HQ.out] at hz;exact⟨HD.out.1,HD.out.2,hz⟩})
   case done=>
    rintro Db xs W hD rfl hR hK;rw[List.attach_map_subtype_val] at hR;obtain⟨⟨st,nv,us,e1,e2,e3⟩,I⟩:=hR;obtain⟨ao,nc,rfl,n0,o6,-⟩:=e3.row.form;obtain⟨n,hn⟩:=zX1 (st.2.length);have hlen:=AC.rdL_len e1;have k0:=Y.out.2.2.2.2.2.2.2.2.2.2.2.1 Y.out.2.2.2.2.2.2.2.2.2.2.2.2.1;have r0:n<=200000:=by{simp only[List.length_nil,Nat.zero_add] at hlen;omega};have b1:=I.get HN.out.2.2.2 (λx=>by omega);have b2:=I.get HN.out.1 (λx=>by omega);have b3:=I.get HN.out.2.1 (λx=>by omega);have c6:W.cell? ⟨w2.heap.size+1,0,none⟩=some (.pointer (some ⟨w2.heap.size,0,none⟩)):=by{simp[World.cell?,b1]};have i8:=e2;rw[<-hn] at i8;obtain⟨p0,p1,p2,p3,p4,pf,pb⟩:=z2K i8;have HB:=hid (zA1 e1 (zA1 e2 (zA1 e3 (zA1 I (zA1 b2 (zA1 b3 (zA1 hK (zA1 hD (zA1 hn (zA1 b1 trivial))))))))));clear e1 e2 e3 I b1 b2 b3 hK hD hn i8 hlen k0 p0 p4 pf pb n0;go_wp2_with fail
    go_loopw [36] (λiv wr=>∃ i:Nat,i<=n/\iv = .int .i64 i/\Hid (Keep (λ_=>False) W wr/\∀ j (hj:j<st.2.length),j<i->less st.1 st.2[j].bal=false)) (λiv _=>n - (intOf iv).toNat)
    case atStart=>exact⟨0,Nat.zero_le _,rfl,hid ⟨Keep.refl _ _,λj _ x=>by omega⟩⟩
    case round=>
     obtain⟨i,hi,rfl,HR⟩:=hrel;have c6:=z0C HR.out.1 _ _ c6;have p1:=z0C HR.out.1 _ _ p1;have p2:=z0C HR.out.1 _ _ p2;by_cases m8:i<n;{have q1:(i:Int)<(n:Int):=by{omega};have j7:i<st.2.length:=by{have:=HB.out.2.2.2.2.2.2.2.2.1;omega};obtain⟨g',ua,uc,rfl,J,-⟩:=(HB.out.2.2.1.keep HR.out.1 (λ_ _ x=>x)).get i j7;obtain⟨x,hx⟩:=zX1 (st.2[i]);rw[<-hx] at J;obtain⟨xl,m5⟩:=zX1 (x.val.length);have a0:=J 0 _ rfl;have a1:=J 1 _ rfl;have a2:=J 2 _ rfl;have a3:=J 3 _ rfl;rw[Nat.add_zero] at a0;rw[<-m5] at a3;have HX:=hid (show ∃ h:i<st.2.length,x=st.2[i] from⟨j7,hx⟩);clear J hx m5 j7;(go_upto_region 13 with fail);have O:=heap_alloc_new wr (.cells #[.int .u64 (x.slot:Int),.int .u64 (x.bal.n:Int),.int .i64 x.bal.node,.slice ua xl uc] 31);have u:=kal wr (.cells #[.int .u64 (x.slot:Int),.int .u64 (x.bal.n:Int),.int .i64 x.bal.node,.slice ua xl uc] 31);obtain⟨w6,m3⟩:=zX1 (wr.alloc (.cells #[.int .u64 (x.slot:Int),.int .u64 (x.bal.n:Int),.int .i64 x.bal.node,.slice ua xl uc] 31));rw[<-m3] at O u |-;clear m3 a0 a1 a2 a3;obtain⟨a0,a1,a2,a3,af,ab⟩:=z4Q O;obtain⟨lb,j8⟩:=zX1 (less st.1 x.bal);have l0:=hid (λs:Later w6=>show Calls Tryz.prog 36 #[balV st.1,balV x.bal] s.val λe w'=>e = .returned (.bool lb)/\Keep (λ_=>False) s.val w' from by rw[j8];exact z9S s.val st.1 x.bal);have l1:=hid j8;have j0:=λs:Later w6=>s.cell (z0C u _ _ c6);have j1:=λs:Later w6=>s.cell (z0C u _ _ p1);have j2:=λs:Later w6=>s.cell (z0C u _ _ p2);have j3:=λs:Later w6=>s.cell a1;have j4:=λs:Later w6=>s.cell a2;have HK:=hid (HR.out.1.nx u);clear j8 u O a0 a3 af ab;(refine z0Q (by kernel_rfl) (by kernel_rfl) ?_;(repeat (go_big_quiet_step ((go_at_call 36;exact Later.call (l0.out _)))));refine wpQuiet_nil ?_;rintro _ ⟨sq,rfl⟩);have a8:=sq.keep;obtain⟨w7,m4⟩:=zX1 (sq.val);rw[<-m4] at a8 |-;clear m4 sq j0 j1 j2 j3 j4 l0;have HK:=hid (HK.out.nx a8);clear a8;cases lb with | true=>{have b2:=HK.out.get HB.out.2.2.2.2.1 id;have b3:=HK.out.get HB.out.2.2.2.2.2.1 id;have d2:w7.cell? ⟨w.heap.size,0,none⟩=some (.pointer none):=by{simp[World.cell?,b2]};have d3:w7.cell? ⟨w.heap.size+1,0,none⟩=some (.int .i64 0):=by{simp[World.cell?,b3]};have f2:w7.frozen? ⟨w.heap.size,0,none⟩=false:=by{simp[World.frozen?,b2]};have f3:w7.frozen? ⟨w.heap.size+1,0,none⟩=false:=by{simp[World.frozen?,b3]};have H7:=hid (zA1 b2 b3);clear b2 b3;go_wp2_with fail;have hD:=HB.out.2.2.2.2.2.2.2.1;have g2:=z0A H7.out.1 0 (.pointer none);have k2:Keep (λk=>k=w.heap.size) w7 (w7.setCell ⟨w.heap.size,0,none⟩ (.pointer none)):=kst;have g3:=z0A (k2.get H7.out.2 (λx=>by omega)) 0 (.int .i64 91);have k3:Keep (λk=>k=w.heap.size+1) (w7.setCell ⟨w.heap.size,0,none⟩ (.pointer none)) ((w7.setCell ⟨w.heap.size,0,none⟩ (.pointer none)).setCell ⟨w.heap.size+1,0,none⟩ (.int .i64 91)):=kst;have g4:=k3.get g2 (λx=>by omega);have b8:=k3.get (k2.get (HK.out.get HB.out.2.2.2.2.2.2.1 id) (λx=>by omega)) (λx=>by omega);obtain⟨w8,k6⟩:=zX1 ((w7.setCell ⟨w.heap.size,0,none⟩ (.pointer none)).setCell ⟨w.heap.size+1,0,none⟩ (.int .i64 91));rw[<-k6] at g3 g4 k3 b8 |-;have M:=z4D (K:=λk=>k=Db) w8 Db (.deferred none) rfl;have g5:=M.get g3 (λx=>by omega);have g6:=M.get g4 (λx=>by omega);refine⟨by simp,.inl ⟨_,_,rfl,run_takeDeferred b8,?_⟩⟩;refine⟨_,z8C rfl _ _ w.heap.size (w.heap.size+1) rfl rfl none 91 (by simp[World.cell?,g6]) (by simp[World.cell?,g5]) (by kernel_rfl) (by kernel_rfl),f9.out ?_ _ ?_⟩;{obtain⟨h1,h2⟩:=HX.out;unfold rd;rw[HB.out.1];simp only;rw[if_pos];exact List.any_eq_true.2 ⟨x,by rw[h2];exact List.getElem_mem _,l1.out.symm⟩};{exact((((H5.out.2.2.2.next HB.out.2.2.2.1 (λ_ _ x=>x.elim) (λk _ e=>.inr (.inr (by rw[show k=w2.heap.size from e];exact Nat.le_refl _)))).next HK.out (λ_ _ x=>x) (λ_ _ x=>x.elim)).next k2 (λ_ _ x=>x) (λ_ _ e=>.inl e)).next k3 (λ_ _ x=>x) (λ_ _ e=>.inr (.inl e))).next M (λ_ _ x=>x) (λk _ e=>.inr (.inr (by rw[show k=Db from e];omega)))}} | false=>{have HZ:=hid (show Keep (λ_=>False) W w7/\∀ j (hj:j<st.2.length),j<i+1->less st.1 st.2[j].bal=false from⟨HK.out,λj hj m9=>by{rcases Nat.lt_or_eq_of_le (Nat.le_of_lt_succ m9) with y | y;{exact HR.out.2 j hj y};{subst y;obtain⟨h1,h2⟩:=HX.out;rw[<-h2];exact l1.out.symm}}⟩);go_wp2_with fail;go_roundw;(case rel=>exact⟨i+1,by omega,by go_num,HZ⟩);case measure=>simp[intOf];omega}};{have q1:decide ((i:Int)<(n:Int))=false:=by{simp;omega};have q2:decide (i<n)=false:=decide_eq_false m8;have b2:=HR.out.1.get HB.out.2.2.2.2.1 id;have b3:=HR.out.1.get HB.out.2.2.2.2.2.1 id;have d2:wr.cell? ⟨w.heap.size,0,none⟩=some (.pointer none):=by{simp[World.cell?,b2]};have d3:wr.cell? ⟨w.heap.size+1,0,none⟩=some (.int .i64 0):=by{simp[World.cell?,b3]};have f2:wr.frozen? ⟨w.heap.size,0,none⟩=false:=by{simp[World.frozen?,b2]};have f3:wr.frozen? ⟨w.heap.size+1,0,none⟩=false:=by{simp[World.frozen?,b3]};have H7:=hid (zA1 b2 b3);clear b2 b3;go_wp2_with fail;have hD:=HB.out.2.2.2.2.2.2.2.1;have g2:=z0A H7.out.1 0 (.pointer (some ⟨w2.heap.size,0,none⟩));have k2:Keep (λk=>k=w.heap.size) wr (wr.setCell ⟨w.heap.size,0,none⟩ (.pointer (some ⟨w2.heap.size,0,none⟩))):=kst;have g3:=z0A (k2.get H7.out.2 (λx=>by omega)) 0 (.int .i64 0);have k3:Keep (λk=>k=w.heap.size+1) (wr.setCell ⟨w.heap.size,0,none⟩ (.pointer (some ⟨w2.heap.size,0,none⟩))) ((wr.setCell ⟨w.heap.size,0,none⟩ (.pointer (some ⟨w2.heap.size,0,none⟩))).setCell ⟨w.heap.size+1,0,none⟩ (.int .i64 0)):=kst;have g4:=k3.get g2 (λx=>by omega);have b8:=k3.get (k2.get (HR.out.1.get HB.out.2.2.2.2.2.2.1 id) (λx=>by omega)) (λx=>by omega);obtain⟨w8,k6⟩:=zX1 ((wr.setCell ⟨w.heap.size,0,none⟩ (.pointer (some ⟨w2.heap.size,0,none⟩))).setCell ⟨w.heap.size+1,0,none⟩ (.int .i64 0));rw[<-k6] at g3 g4 k3 b8 |-;have M:=z4D (K:=λk=>k=Db) w8 Db (.deferred none) rfl;have g5:=M.get g3 (λx=>by omega);have g6:=M.get g4 (λx=>by omega);have l8:Keep (λk=>k=w.heap.size∨k=w.heap.size+1∨k=Db) W (w8.putObj Db (.deferred none)):= (((HR.out.1.next k2 (H:=λk=>k=w.heap.size∨k=w.heap.size+1∨k=Db) (λ_ _ x=>x.elim) (λ_ _ e=>.inl e)).next k3 (λ_ _ x=>x) (λ_ _ e=>.inr (.inl e))).next M (λ_ _ x=>x) (λ_ _ e=>.inr (.inr e)));have r1:∀ k,w5.heap.size<=k->k≠Db->¬ (k=w.heap.size∨k=w.heap.size+1∨k=Db):=λk h1 h2=>by{omega};refine⟨by simp,.inl ⟨_,_,rfl,run_takeDeferred b8,?_⟩⟩;refine⟨_,z8C rfl _ _ w.heap.size (w.heap.size+1) rfl rfl (some ⟨w2.heap.size,0,none⟩) 0 (by simp[World.cell?,g6]) (by simp[World.cell?,g5]) (by kernel_rfl) (by kernel_rfl),i6.out st.1 st.2 ?_ _ _ us (l8.get HB.out.2.1 (λx=>by omega)) ?_ ?_⟩;{unfold rd;rw[HB.out.1];simp only;rw[if_neg];intro h;obtain⟨v,hv,h2⟩:=List.any_eq_true.1 h;obtain⟨j,hj,e⟩:=List.mem_iff_getElem.1 hv;have:=HR.out.2 j hj (by have:=HB.out.2.2.2.2.2.2.2.2.1;omega);rw[e] at this;rw[this] at h2;cases h2};{exact(((HB.out.2.2.1.keep HR.out.1 (λ_ _ x=>x)).keep k2 (λk x e=>by have h1:w5.heap.size<=k:=x;have h2:k=w.heap.size:=e;omega)).keep k3 (λk x e=>by have h1:w5.heap.size<=k:=x;have h2:k=w.heap.size+1:=e;omega)).turn (r:=some Db) (M.mono λk _ e=>by subst e;rfl) (λk e=>by cases e;exact⟨_,b8,rfl⟩)};{exact(H5.out.2.2.2.next HB.out.2.2.2.1 (λ_ _ x=>x.elim) (λk _ e=>.inr (.inr (by rw[show k=w2.heap.size from e];exact Nat.le_refl _)))).next l8 (λ_ _ x=>x) (λk _ e=>e.elim .inl λe=>e.elim (λe=>.inr (.inl e)) λe=>.inr (.inr (by omega)))}}
   case stop=>(rintro Db cc pre W hD hpre ⟨rfl,hR⟩ hK;have Z:rdL (Bal.zero,[]) S.ps=none:=by{obtain⟨t,ht⟩:=hpre;have h2:=congrArg (List.map Subtype.val) ht;rw[List.attach_map_subtype_val,List.map_append] at h2;rw[<-h2,AC.rdL_append,hR.bad]};have e6:rd S.ps=none:=by{unfold rd;rw[Z]};have M:=z4D (K:=λk=>k=Db) W Db (.deferred none) rfl;have m7:=hR.keep.size;have g5:=M.get hR.c3 (λx=>by omega);have g6:=M.get hR.c2 (λx=>by omega);have f4:=f9.out e6 (W.putObj Db (.deferred none)) ((H5.out.2.2.2.next hR.keep (H:=λk=>k=w.heap.size∨k=w.heap.size+1∨w2.heap.size<=k) (λ_ _ x=>x.elim) (λk _ e=>e.elim (λe=>.inr (.inr (by omega))) λe=>e.elim .inl λe=>.inr (.inl e))).next M (λ_ _ x=>x) (λk _ e=>.inr (.inr (by rw[show k=Db from e];omega))));have HZ:=hid (zA1 f4 (zA1 g5 (zA1 g6 hK)));clear f4 g5 g6 hK M m7 e6 Z hpre hR;refine wpIn_wide.2 ?_;go_wp2_with fail;obtain⟨f4,g5,g6,hK⟩:=HZ.out;refine⟨by simp,.inl ⟨_,_,rfl,run_takeDeferred hK,?_⟩⟩;exact⟨_,z8C rfl _ _ w.heap.size (w.heap.size+1) rfl rfl none 91 (by simp[World.cell?,g6]) (by simp[World.cell?,g5]) (by kernel_rfl) (by kernel_rfl),f4⟩)
end
section
open Go.RowKit Go.Maps
open MI SO BM DM WM AC
def RAcP (d:Nat) (D:Dk) (o:Option Ac) (rv:Value):Thing:=fun w F=>
 match o with
 | none=>rv = .pointer none∧RkT d D w F
 | some A=>∃ a,rv = .pointer (some ⟨a,0,none⟩)∧RAcT a d D A.s w F
theorem RAcP.lives (d:Nat) (D:Dk) (o:Option Ac) (rv:Value):Lives (RAcP d D o rv):=by
 cases o with | none=>{exact⟨λh j u=>⟨h.1,(RkT.lives d D).keep h.2 j u⟩,λh=>(RkT.lives d D).lt h.2⟩} | some A=>{exact⟨λ⟨b,x,c⟩ j u=>⟨b,x,(RAcT.lives b d D A.s).keep c j u⟩,λ⟨b,_,c⟩=>(RAcT.lives b d D A.s).lt c⟩}
theorem RAcT.disk {a d:Nat} {D:Dk} {S:St} {w:World} {F:Nat->Prop} (h:RAcT a d D S w F):∃ F',RkT d D w F'/\∀ k,F' k->F k:=by
 obtain⟨y,X,Y,-,⟨F1,c,j,u⟩,-,s⟩:=h;exact⟨c,j.diskAt,λk x=>by rw[s,u];exact .inr (.inr x)⟩
theorem RAcP.disk {d:Nat} {D:Dk} {o:Option Ac} {rv:Value} {w:World} {F:Nat->Prop} (h:RAcP d D o rv w F):∃ F',RkT d D w F'/\∀ k,F' k->F k:=by
 cases o with | none=>{exact⟨F,h.2,λ_ x=>x⟩} | some A=>{obtain⟨a,-,h⟩:=h;exact h.disk}
def RAOpenPost (d:Nat) (F:Nat→Prop) (w:World) (R:Int×Option Ac×Dk) (e:Ending) (w':World):Prop:=
 ∃ rv,e = .returned (.tuple #[rv,.int .i64 R.1])∧Turns (RAcP d R.2.2 R.2.1 rv) F w w'
theorem RStoT.count {b d:Nat} {D:Dk} {S:St} {w:World} {F:Nat->Prop} (h:RStoT b d D S w F):S.g.l.length<=4000/\PsOk S.ps:=by
 obtain⟨F1,c,⟨wb,pv,Fl,H⟩,-⟩:=h;obtain⟨j,vs,L⟩:=H.log;exact⟨L.wal.ok.count,H.ok⟩
theorem AC.openA_none {D:Dk} (c:(opS D).2.1=none):z2T D=((opS D).1,none,(opS D).2.2):=by unfold z2T;rw[c]
theorem AC.openA_bad {D:Dk} {S:St} (c:(opS D).2.1=some S) (s:Sorted S.ps) (h:z9E S.ps=false):z2T D=(91,none,(opS D).2.2):=by
 rw[zhJ s] at h;unfold z2T;rw[c];simp only;cases j:rd S.ps with | none=>{rfl} | some st=>{rw[j] at h;cases h}
theorem AC.openA_good {D:Dk} {S:St} (c:(opS D).2.1=some S) (s:Sorted S.ps) (h:z9E S.ps=true):∃ b vs,z2T D=(0,some ⟨S,b,vs⟩,(opS D).2.2):=by
 rw[zhJ s] at h;unfold z2T;rw[c];simp only;cases j:rd S.ps with | none=>{rw[j] at h;cases h} | some st=>{exact⟨st.1,st.2,rfl⟩}
theorem AC.docOk_no {ps:List (Str×Str)} {x:Str×Str} (hx:x ∈ ps) (h:z4U (docB ps) x=false):z9E ps=false:=by
 unfold z9E;rw[List.all_eq_false];exact⟨x,hx,by rw[h];decide⟩
theorem AC.docOk_yes {ps:List (Str×Str)} (h:∀ j (c:j<ps.length),z4U (docB ps) ps[j]=true):z9E ps=true:=by
 unfold z9E;rw[List.all_eq_true];intro x hx;obtain⟨j,c,rfl⟩:=List.mem_iff_getElem.1 hx;exact h j c
end
section
open Go.RowKit Go.Maps
open MI SO BM DM WM AC
theorem zeX (w:World) (d:Nat) (F:Nat→Prop) (D:Dk) (hD:RefAt w d F D) (hfew:D.waits.length≤800000) :
  Calls Tryz.prog 24 #[.pointer (some ⟨d,0,none⟩)] w (RAOpenPost d F w (z2T D)):=by
 obtain⟨Post,hPost⟩:=zX1 (RAOpenPost d F w (z2T D));rw[← hPost];have HP:=hid hPost;have hop:=zmC w d F D hD hfew;clear hPost hD hfew;go_enter Tryz.func24,Tryz.ntmps24;go_wp2_with fail;refine hop.mono ?_;intro e w1 hp;obtain⟨sv,rfl,ht⟩:=hp.side;clear hop hp
 cases ho:(opS D).2.1 with
 | none=>
   rw[ho] at ht;obtain⟨F',⟨rfl,hdk⟩,hk,hn⟩:=ht
   have fin:Post (.returned (.tuple #[.pointer none,.int .i64 (opS D).1])) w1:=by
    rw[HP.out,AC.openA_none ho];exact⟨_,rfl,F',⟨rfl,hdk⟩,hk,hn⟩
   have HF:=hid fin;have hc0:=SO.op_none ho;clear fin hdk hk hn ho;obtain⟨c,hc⟩:=zX1 ((opS D).1);rw[← hc] at hc0 HF ⊢;have q1:(c != 0)=true:=by simpa using hc0
   have q2:decide (c=0)=false:=decide_eq_false hc0;clear hc hc0;go_wp2_with fail;exact HF.out
 | some S=>
   rw[ho] at ht;obtain⟨F',⟨sb,rfl,hst⟩,hk,hn⟩:=ht;rw[SO.op_code ho];obtain⟨hcnt,hpsok⟩:=hst.count;have hdead:=SO.op_dead ho;have hfw:=(zaE D S ho).few hcnt hdead;have hlt:=(RStoT.lives _ _ _ _).lt hst;have hn2:=heap_alloc_new w1 (.cells #[.pointer (some ⟨sb,0,none⟩)] 138);have hk2:=kal w1 (.cells #[.pointer (some ⟨sb,0,none⟩)] 138);obtain⟨w2,hw2⟩:=zX1 (w1.alloc (.cells #[.pointer (some ⟨sb,0,none⟩)] 138));rw[← hw2] at hn2 hk2;have hst2:=(RStoT.lives _ _ _ _).keep hst hk2 (fun _ _ x=>x);have hbx:=z0M hn2;have hac:RAcT w1.heap.size d (opS D).2.2 S w2 (fun k=>k=w1.heap.size∨F' k):=⟨sb,fun k=>k=w1.heap.size,F',⟨hn2,rfl,fun k e=>by rw[e];exact hbx⟩,hst2,fun i x y=>by have:=hlt i y;omega,rfl⟩;obtain⟨F1,F2,⟨wb,pv,Fl,h2⟩,hFe⟩:=id hst2;have L:RLook w2 w1.heap.size sb pv (.pointer (some ⟨wb,0,none⟩)) S:=⟨hn2,h2.head,h2.row,h2.ok⟩;have hpr:=z8K w2 _ sb pv _ S L (by omega);rw[hdead,if_neg (by decide)] at hpr;have hdk:RkT d (opS D).2.2 w2 F2:=RStoAt.diskAt ⟨wb,pv,Fl,h2⟩;have hkw:=hk.next hk2 (H:=F) (fun _ _ x=>x) (fun _ _ x=>x.elim);have hsz:=hk.size
   have HBad:=hid (show z9E S.ps=false→∀ W9,Keep (fun _=>False) w2 W9→Post (.returned (.tuple #[.pointer none,.int .i64 91])) W9 from fun h W9 hk9=>by
    rw[HP.out,AC.openA_bad ho hpsok.sorted h]
    exact⟨_,rfl,F2,⟨rfl,(RkT.lives _ _).keep hdk hk9 (fun _ _ x=>x)⟩,hkw.next hk9 (fun _ _ x=>x) (fun _ _ x=>x.elim),fun i x=>hn i (by rw[hFe];exact .inr x)⟩)
   have HGood:=hid (show z9E S.ps=true→∀ W9,Keep (fun _=>False) w2 W9→Post (.returned (.tuple #[.pointer (some ⟨w1.heap.size,0,none⟩),.int .i64 0])) W9 from fun h W9 hk9=>by
    obtain⟨b,vs,e⟩:=AC.openA_good ho hpsok.sorted h;rw[HP.out,e]
    exact⟨_,rfl,_,⟨w1.heap.size,rfl,(RAcT.lives _ _ _ _).keep hac hk9 (fun _ _ x=>x)⟩,hkw.next hk9 (fun _ _ x=>x) (fun _ _ x=>x.elim),fun i x=>x.elim (fun y=>.inr (by omega)) (fun y=>hn i y)⟩)
   have hlong:∀ p ∈ S.ps,p.1.length≤1000000∧p.2.length≤1000000:=fun p hp=>by have:=hpsok.each p hp;have h1:=this.2.1;have h2:=this.2.2;omega
   obtain⟨ps,hps⟩:=zX1 (S.ps);have hrow:=L.row;obtain⟨-,s1,-,-,-⟩:=zcV L.sto;obtain⟨ao,pc,hpv,-⟩:=hrow.form;subst hpv;rw[← hps] at hpr HBad HGood hlong hrow s1 hfw;obtain⟨n,hnn⟩:=zX1 (ps.length);rw[← hnn] at hrow s1 hfw;obtain⟨T,hT⟩:=zX1 (docB ps);rw[← hT] at hpr;have HR:=hid (zA1 hnn (zA1 hrow (zA1 hlong hT)));clear hst hst2 hac h2 L hdk hkw hFe hk hn hk2 hn2 hlt hcnt hpsok hdead hbx hsz hps hrow hnn hT hlong ho
   go_upto_region 5 with fail
   rw[← hw2];clear hw2;go_wp2_with fail;refine hpr.mono ?_;rintro e w3 ⟨rfl,hk3⟩;clear hpr;have s1:=z0C hk3 _ _ s1;have hn4:=heap_alloc_new w3 (.cells (balC T) 28);have hk4:=kal w3 (.cells (balC T) 28)
   go_upto_region 6 with fail
   obtain⟨w4,hw4⟩:=zX1 (w3.alloc (.cells (balC T) 28));rw[← hw4] at hn4 hk4 ⊢;clear hw4;have s1:=z0C hk4 _ _ s1;have HK4:=hid (zA1 (hk3.nx hk4) hn4);clear hk3 hk4 hn4;go_wp2_with fail
   go_loopw [8] (fun iv wr=>∃ i:Nat,i≤n∧iv = .int .i64 i∧Hid (Keep (fun _=>False) w4 wr∧∀ j (hj:j<ps.length),j<i→z4U (docB ps) ps[j]=true)) (fun iv _=>n - (intOf iv).toNat)
   case atStart=>exact⟨0,Nat.zero_le _,rfl,hid ⟨Keep.refl _ _,fun j _ x=>by omega⟩⟩
   case round=>
    obtain⟨i,hi,rfl,HT⟩:=hrel;have s1:=z0C HT.out.1 _ _ s1
    by_cases him:i<n
    ·have q1:(i:Int)<n:=by omega
     have hil:i<ps.length:=by rw[← HR.out.1];exact him
     obtain⟨g,rfl,k0,k1⟩:=zjY (HR.out.2.1.keep (HK4.out.1.nx HT.out.1) (fun _ _ x=>x)) i hil;obtain⟨x,hx⟩:=zX1 (ps[i]);rw[← hx] at k0 k1;have hlx:=HR.out.2.2.1 x (by rw[hx];exact List.getElem_mem hil);have hn5:=heap_alloc_new wr (.cells #[.string (str x.1),.string (str x.2)] 140);have hk5:=kal wr (.cells #[.string (str x.1),.string (str x.2)] 140);obtain⟨w5,hw5⟩:=zX1 (wr.alloc (.cells #[.string (str x.1),.string (str x.2)] 140));rw[← hw5] at hn5 hk5;obtain⟨c0,c1,-,-⟩:=z1G hn5;have hg9:=zdD w5 x.2 hlx.2;have HX:=hid (show (∃ h:i<ps.length,x=ps[i])∧Keep (fun _=>False) w4 w5 from⟨⟨hil,hx⟩,HT.out.1.nx hk5⟩);have HL:=hid hlx;clear hx hk5 hlx hn5 hil
     go_upto_region 10 with fail
     rw[← hw5];clear hw5 k0 k1 s1;go_wp2_with fail;refine hg9.mono ?_;rintro e w6 ⟨hk6,hres⟩
     obtain⟨bb,ua,ul,uc,okb,rfl,hul,hd1⟩:∃ (bb:Bal) (ua:Option Addr) (ul uc:Nat) (okb:Bool),e = .returned (.tuple #[balV bb,.slice ua ul uc,.bool okb])∧ul≤1000000∧
       (z4U (docB ps) x=(okb && if x.1=pK then decide (ul=0) else (decide (z2U x.1≠0) && (decide (ul≤100) && !less T bb)))):=by
      unfold z4U;rw[HR.out.2.2.2]
      cases hg:getB x.2 with
      | none=>rw[hg] at hres;exact⟨Bal.zero,none,0,0,false,hres,by decide,rfl⟩
      | some q=>
        rw[hg] at hres;obtain⟨ao',c',he,-⟩:=hres;have hql:q.2.length≤1000000:=by have h1:=getB_rest hg;have:=HL.out.2;omega
        refine⟨q.1,ao',_,c',true,he,hql,?_⟩;simp only[Bool.true_and,List.length_eq_zero_iff]
     have hn7:=heap_alloc_new w6 (.cells (balC bb) 28);have hk7:=kal w6 (.cells (balC bb) 28);have hs9:=fun w7=>zdY w7 x.1 HL.out.1;obtain⟨s,hs⟩:=zX1 (z2U x.1);rw[← hs] at hd1;simp only[← hs] at hs9;have c0:=z0C hk6 _ _ c0
     go_upto_region 11 with fail
     obtain⟨w7,hw7⟩:=zX1 (w6.alloc (.cells (balC bb) 28));rw[← hw7] at hn7 hk7 ⊢;clear hw7;have c0:=z0C hk7 _ _ c0;have hs9:=hs9 w7;have HX2:=hid (zA1 hd1 (zA1 hn7 (HX.out.2.nx (hk6.next hk7 (H:=fun _=>False) (fun _ _ x=>x) (fun _ _ x=>x)))));clear hd1 hn7 hk6 hk7 hg9 hres c1 hs;go_wp2_with fail;refine hs9.mono ?_;rintro e w8 ⟨rfl,hk8⟩;have c0:=z0C hk8 _ _ c0;have hn8:=hk8.get HX2.out.2.1 id;have hk48:=HX2.out.2.2.nx hk8;have hn4:=hk48.get HK4.out.2 id;obtain⟨t0,t1,-,-⟩:=z1G hn4;obtain⟨b0,b1,-,-⟩:=z1G hn8
     have hbad:=hid (show z4U (docB ps) x=false→∀ W9,Keep (fun _=>False) w8 W9→Post (.returned (.tuple #[.pointer none,.int .i64 91])) W9 from fun h W9 hk9=>by
      obtain⟨⟨hil,hx⟩,-⟩:=HX.out
      exact HBad.out (AC.docOk_no (by rw[hx];exact List.getElem_mem hil) h) W9 ((HK4.out.1.nx hk48).next hk9 (fun _ _ x=>x) (fun _ _ x=>x)))
     have hnext:=hid (show z4U (docB ps) x=true→∀ W9,Keep (fun _=>False) w8 W9→Keep (fun _=>False) w4 W9∧∀ j (hj:j<ps.length),j<i+1→z4U (docB ps) ps[j]=true from fun h W9 hk9=>by
      obtain⟨⟨hil,hx⟩,-⟩:=HX.out;refine⟨hk48.next hk9 (fun _ _ x=>x) (fun _ _ x=>x),fun j hj hji=>?_⟩
      rcases Nat.lt_or_eq_of_le (Nat.le_of_lt_succ hji) with y | y
      ·exact HT.out.2 j hj y
      ·subst y
       rw[← hx]
       exact h)
     have HD:=hid HX2.out.1;clear hs9 hn8 hn4 HX2 hk8 hk48
     cases okb with
     | false=>
       have fin:=hbad.out (by rw[HD.out];rfl) w8 (Keep.refl _ _);have HF:=hid fin;clear fin t0 t1 b0 b1 c0;go_wp2_with fail;exact HF.out
     | true=>
       by_cases hp:x.1=pK
       ·have r1:((str x.1).toList == [112])=true:=by rw[z0Y,hp];rfl
        have r2:((str x.1).toList != [112])=false:=by rw[z0Y,hp];rfl
        by_cases hu:ul=0
        ·subst hu
         have HN:=hid (hnext.out (by rw[HD.out,if_pos hp];rfl) w8 (Keep.refl _ _));clear hp t0 t1 b0 b1;go_wp2_with fail;go_roundw
         case rel=>exact⟨i+1,by omega,by go_num,HN⟩
         case measure=>simp[intOf];omega
        ·have r3:(0:Int)<(ul:Int):=by omega
         have HF:=hid (hbad.out (by rw[HD.out,if_pos hp];simpa using hu) w8 (Keep.refl _ _));clear hp hu t0 t1 b0 b1;go_wp2_with fail;exact HF.out
       ·have r1:((str x.1).toList == [112])=false:=by rw[z0Y,beq_eq_false_iff_ne];exact hp
        have r2:((str x.1).toList != [112])=true:=by rw[bne,r1];rfl
        have HD2:=hid (show z4U (docB ps) x=(decide (s≠0) && (decide (ul≤100) && !less T bb)) from by rw[HD.out,if_neg hp,Bool.true_and]);clear hp HD
        by_cases hs0:s=0
        ·subst hs0
         have HF:=hid (hbad.out (by rw[HD2.out];rfl) w8 (Keep.refl _ _));clear t0 t1 b0 b1;go_wp2_with fail;exact HF.out
        ·have r3:((s:Int) == 0)=false:=by simp;omega
         have r4:decide (s=0)=false:=decide_eq_false hs0
         by_cases hu:100<ul
         ·have r5:(100:Int)<(ul:Int):=by omega
          have HF:=hid (hbad.out (by rw[HD2.out,decide_eq_false (show ¬ ul≤100 by omega),Bool.false_and,Bool.and_false]) w8 (Keep.refl _ _));clear hs0 t0 t1 b0 b1;go_wp2_with fail;exact HF.out
         ·have r5:decide ((100:Int)<(ul:Int))=false:=decide_eq_false (by omega)
          have r6:decide (100<ul)=false:=decide_eq_false (by omega);obtain⟨lb,hlb⟩:=zX1 (less T bb);have hls:=z5B w8 T bb;rw[← hlb] at hls;have HD3:=hid (show z4U (docB ps) x = !lb from by rw[HD2.out,decide_eq_true (show ul≤100 by omega),decide_eq_true (show s≠0 from hs0),hlb];rfl);clear hlb hu hs0 HD2;go_wp2_with fail;refine hls.mono ?_;rintro e w9 ⟨rfl,hk9⟩;clear hls t0 t1 b0 b1 c0
          cases lb with
          | true=>
            have HF:=hid (hbad.out (by rw[HD3.out];rfl) w9 hk9);clear hk9;go_wp2_with fail;exact HF.out
          | false=>
            have HN:=hid (hnext.out (by rw[HD3.out];rfl) w9 hk9);clear hk9;go_wp2_with fail;go_roundw
            case rel=>exact⟨i+1,by omega,by go_num,HN⟩
            case measure=>simp[intOf];omega
    ·have q1:decide ((i:Int)<n)=false:=by simp;omega
     have q2:decide (i<n)=false:=decide_eq_false him;have HF:=hid (HGood.out (AC.docOk_yes fun j hj=>HT.out.2 j hj (by have:=HR.out.1;omega)) wr (HK4.out.1.next HT.out.1 (fun _ _ x=>x) (fun _ _ x=>x)));go_wp2_with fail;exact HF.out
end
namespace SO
open Go.Proofs.YtkjofdocgaiedaaGreat MI BM DM WM
structure OnDisk (D:Dk) (G:Lg):Prop where
 calm:Calm D
 ok:Ok D
 h6:6≤D.safe.length
 dead:G.dead=false
 ep:WM.epoch D=G.ep
 epb:G.ep<4611686018427387904
 small:∀ r ∈ G.l,r.length≤1024
 fit:(flat G.l).length≤32 * half D
 area:∀ i,i<half D→z2F D (WM.first D G.ep+i)=z0U (z1F (half D) G.l) i
theorem OnDisk.gone {D:Dk} {G:Lg} (h:OnDisk D G):WM.gone D G=false:=by unfold WM.gone;rw[h.dead,h.calm.2];rfl
theorem OnDisk.opens {D:Dk} {G:Lg} (h:OnDisk D G):z2C D=(0,some ⟨G.ep,G.l,G.l.length,false⟩,D):=zmT h.calm h.ok h.h6 h.ep h.small h.fit h.area
theorem zpF {D:Dk} (s:Calm D) (ok:Ok D) (h6:6<=D.safe.length):∃ G D',z2C D=(0,some G,D')/\OnDisk D' G/\G.safe=G.l.length:=by
 obtain⟨D',h⟩:=zqF s ok h6;refine⟨_,D',h.eq,⟨h.calm,h.ok,by rw[h.size];exact h6,rfl,?_,?_,h.small,by rw[z6E h.size];exact h.fit,λi c=>?_⟩,rfl⟩;{exact zfQ s.2 h.calm.2 (by omega) h.size λi c=>h.rest i λj _=>by have:=zbS D (epoch D);omega};{rw[<-z9O];exact zfF D 2};{rw[z6E h.size] at c |-;have u:WM.first D' (epoch D)=WM.first D (epoch D):=by{unfold WM.first;rw[z6E h.size]};rw[u];exact h.area i c}
theorem OnDisk.sync {D:Dk} {G:Lg} (h:OnDisk D G):WM.z4B D G=(0,{ D with safe:=now D,waits:=[] },{ G with safe:=G.l.length })/\OnDisk { D with safe:=now D,waits:=[] } { G with safe:=G.l.length }:=by
 have x:=z7Q h.calm;have j:({ D with safe:=now D,waits:=[] }:Dk).safe.length=D.safe.length:=z1Q D;have u:∀ p,z2F { D with safe:=now D,waits:=[] } p=z2F D p:=λp=>z8J rfl rfl p;have c:half { D with safe:=now D,waits:=[] }=half D:=z6E j;have y:∀ e,WM.first { D with safe:=now D,waits:=[] } e=WM.first D e:=λe=>by{unfold WM.first;rw[c]};refine⟨?_,⟨h.calm,?_,by rw[j];exact h.h6,h.dead,?_,h.epb,h.small,by rw[c];exact h.fit,λi s=>?_⟩⟩;{unfold WM.z4B;rw[h.gone,x];rfl};{have:=h.ok.sync;rw[x] at this;exact this};{have:=zfQ (D:=D) (E:={ D with safe:=now D,waits:=[] }) h.calm.2 h.calm.2 (by have:=h.h6;omega) j (λi _=>u i);rw[this];exact h.ep};{rw[c] at s |-;rw[y,u];exact h.area i s}
theorem znQ (ep:Nat) (b:List UInt8):∀ k i (D:Dk),Ok D->Ok (lay ep b i k D).2
 | 0,_,_,h=>h
 | k+1,i,D,h=>by{unfold lay;simp only;split;{exact znQ ep b k (i+1) _ (h.write _ _)};{exact h.write _ _}}
theorem zuC (ep:Nat) (b:List UInt8) (D:Dk) (h:Ok D):Ok (z2X ep b D).2:=by
 have c:=znQ ep b (half D) 0 D h;unfold z2X;simp only;split;{exact c};{split;{exact c.sync};{split;{exact c.sync.write _ _};{exact(c.sync.write _ _).sync}}}
theorem OnDisk.append {D:Dk} {G:Lg} (h:OnDisk D G) {b:List UInt8} (hb:b.length<=1024) :
  WM.append D G b=(5,D,G)∨((WM.append D G b).1=0/\(WM.append D G b).2.2 = { G with l:=G.l ++ [b] }/\OnDisk (WM.append D G b).2.1 { G with l:=G.l ++ [b] }):=by
 have Y:=zcN h.calm h.h6 h.dead h.fit hb;split at Y;{exact .inl Y};{rename_i hr;right;obtain⟨c1,c2,c3,c4⟩:=Y;have a6:=z3V G.l b;unfold room at hr;have u:(flat (G.l ++ [b])).length<=32 * half D:=by{omega};have E:(z1F (half D) (G.l ++ [b])).length=32 * half D:=z1Y u;have I:(z1F (half D) G.l).length=32 * half D:=z1Y h.fit;have hA:WM.area D (G.l ++ [b])=z1F (half D) (G.l ++ [b]):=rfl;obtain⟨a1,-,-,O⟩:=z5A G.ep (WM.area D (G.l ++ [b])) (((flat (G.l ++ [b])).length - 1) / 32 - (flat G.l).length / 32+1) ((flat G.l).length / 32) D h.h6 (by omega) E;have c:(WM.append D G b).2.1=(lay G.ep (WM.area D (G.l ++ [b])) ((flat G.l).length / 32) (((flat (G.l ++ [b])).length - 1) / 32 - (flat G.l).length / 32+1) D).2/\(WM.append D G b).1=(lay G.ep (WM.area D (G.l ++ [b])) ((flat G.l).length / 32) (((flat (G.l ++ [b])).length - 1) / 32 - (flat G.l).length / 32+1) D).1:=by{unfold WM.append;rw[h.gone,if_neg (by simp),if_neg (by omega),if_neg (by unfold room;omega)];exact⟨rfl,rfl⟩};obtain⟨r,hr0⟩:=zX1 (lay G.ep (WM.area D (G.l ++ [b])) ((flat G.l).length / 32) (((flat (G.l ++ [b])).length - 1) / 32 - (flat G.l).length / 32+1) D);rw[<-hr0] at a1 O c;have hz:r.1=0:=by{rw[<-c.2];exact c1};have a3:Ok (WM.append D G b).2.1:=by{rw[c.1,hr0];exact znQ G.ep _ _ _ _ h.ok};have hl:(WM.append D G b).2.1.safe.length=D.safe.length:=by{rw[c4]};have Z:half (WM.append D G b).2.1=half D:=z6E hl;have hf:∀ e,WM.first (WM.append D G b).2.1 e=WM.first D e:=λe=>by{unfold WM.first;rw[Z]};have a2:∀ p,p<2->z2F (WM.append D G b).2.1 p=z2F D p:=λp hp=>by{rw[c.1];exact(O hz p).2 λj _ _=>by have:=zbS D G.ep;omega};refine⟨c1,c2,c3,a3,by rw[hl];exact h.h6,h.dead,?_,h.epb,λr hr=>?_,by rw[Z];exact u,λi hi=>?_⟩;{rw[zfQ h.calm.2 c3.2 (by have:=h.h6;omega) hl a2];exact h.ep};{rcases List.mem_append.1 hr with x | x;{exact h.small r x};{simp at x;subst x;exact hb}};{rw[Z] at hi |-;rw[hf,c.1];obtain⟨b1,b2⟩:=O hz (WM.first D G.ep+i);by_cases J:(flat G.l).length / 32<=i/\i<(flat G.l).length / 32+(((flat (G.l ++ [b])).length - 1) / 32 - (flat G.l).length / 32+1);{exact b1 i J.1 J.2 rfl};{rw[b2 (λj j1 j2=>by omega),h.area i hi];refine ziB I E hi λk hk=>?_;have M:i<(flat G.l).length / 32∨((flat (G.l ++ [b])).length - 1) / 32<i:=by{omega};rcases M with q | q;{have s:32 * i+k<(flat G.l).length:=by{omega};have y:32 * i+k<(flat (G.l ++ [b])).length:=by{omega};rw[zkQ _ _ s,zkQ _ _ y];have he:flat (G.l ++ [b])=flat G.l ++ flat [b]:=by{simp[flat]};rw[he,List.getElem?_append_left s]};{have s:(flat G.l).length<=32 * i+k:=by{omega};have y:(flat (G.l ++ [b])).length<=32 * i+k:=by{omega};rw[zdG _ _ s (by omega),zdG _ _ y (by omega)]}}}}
theorem zsT {D:Dk} (hd:D.down=false) (y:2<=D.safe.length) {n:Nat} (x:n<4611686018427387904) (h:z2F D (n % 2)=z0R n):WM.head D (n % 2)=some n:=by
 have u:n % 2<2:=Nat.mod_lt _ (by decide);have E:(z0J n).length<=10:=z3U 10 n;rw[ztZ hd (by omega) _ h];have c:=zhW [] (List.replicate (32 - (frame 1 (z0J n)).length) 0) 1 (z0J n) (by omega);simp only[List.nil_append,List.length_nil] at c;have s:z0R n=frame 1 (z0J n) ++ List.replicate (32 - (frame 1 (z0J n)).length) 0:=rfl;rw[s,c];have j:=z7A (b:=z0J n) (at_:=0) (n:=n) (rest:=[]) (by omega) (by simp) (Nat.zero_le _);simp only[Nat.zero_add] at j;simp only[j];simp[x]
theorem zuY {D:Dk} {i n:Nat} (c:i<2) (h:WM.head D i=some n):n<=WM.epoch D:=by
 unfold WM.epoch;have:i=0∨i=1:=by{omega};rcases this with rfl | rfl <;> rw[h] <;> simp <;> omega
theorem zoC {D:Dk} {n:Nat} (hd:D.down=false) (u:2<=D.safe.length) (x:n<4611686018427387904) (h:z2F D (n % 2)=z0R n) (s:(WM.head D ((n+1) % 2)).getD 0<=n):WM.epoch D=n:=by
 have c:=zsT hd u x h;unfold WM.epoch;have:n % 2=0∨n % 2=1:=by{omega};rcases this with j | j;{rw[j] at c;rw[show (n+1) % 2=1 by omega] at s;rw[c];simp;omega};{rw[j] at c;rw[show (n+1) % 2=0 by omega] at s;rw[c];simp;omega}
theorem OnDisk.reset {D:Dk} {G:Lg} (h:OnDisk D G) (L:List (List UInt8)) (O:∀ r ∈ L,r.length<=1024) :
  WM.reset D G L=(5,D,G)∨((WM.reset D G L).1=0/\(WM.reset D G L).2.2=⟨G.ep+1,L,L.length,false⟩/\OnDisk (WM.reset D G L).2.1 ⟨G.ep+1,L,L.length,false⟩):=by
 have c:L.any (λb=>decide (1024<b.length))=false:=by{rw[List.any_eq_false];intro r y;have:=O r y;simp;omega};by_cases Z:32 * half D<(flat L).length∨G.ep+1=4611686018427387904;{left;unfold WM.reset;rw[h.gone,if_neg (by simp),c,if_neg (by simp),if_pos Z]};{right;have s:(flat L).length<=32 * half D:=by{omega};have u:(WM.area D L).length=32 * half D:=z1Y s;obtain⟨c1,c2⟩:=zqC h.calm h.h6 (G.ep+1) (WM.area D L) u (z9C _);obtain⟨-,t2⟩:=zlB h.h6 (G.ep+1) (WM.area D L) u (z9C _);obtain⟨-,t3,t4,t5⟩:=t2 c1;have y:WM.reset D G L=(0,(z2X (G.ep+1) (WM.area D L) D).2,⟨G.ep+1,L,L.length,false⟩):=by{unfold WM.reset;rw[h.gone,if_neg (by simp),c,if_neg (by simp),if_neg Z];simp only;rw[if_pos c1]};have x:=zuC (G.ep+1) (WM.area D L) D h.ok;have M:=z9L (G.ep+1) (WM.area D L) D;obtain⟨E,hE⟩:=zX1 ((z2X (G.ep+1) (WM.area D L) D).2);rw[<-hE] at c2 t3 t4 t5 x M y;rw[y];have J:half E=half D:=z6E M;have I:∀ e,WM.first E e=WM.first D e:=λe=>by{unfold WM.first;rw[J]};have Y:=h.epb;refine⟨rfl,rfl,⟨c2,x,by rw[M];exact h.h6,rfl,?_,by simp only;omega,O,by rw[J];exact s,λi hi=>?_⟩⟩;{have h6:=h.h6;refine zoC c2.2 (show 2<=E.safe.length by omega) (show G.ep+1<4611686018427387904 by omega) t4 ?_;have hp:(G.ep+1+1) % 2<2:=Nat.mod_lt _ (by decide);have he:WM.head E ((G.ep+1+1) % 2)=WM.head D ((G.ep+1+1) % 2):=by{refine ziZ h.calm.2 c2.2 (by omega) (by omega) (t5 _ (by omega) λj _=>?_);have:=zbS D (G.ep+1);omega};rw[he];cases hx:WM.head D ((G.ep+1+1) % 2) with | none=>{exact Nat.zero_le _} | some n=>{have:=zuY hp hx;rw[h.ep] at this;simp only[Option.getD_some];omega}};{rw[J] at hi |-;rw[I];exact t3 i hi}}
structure Sound (D:Dk) (S:St):Prop where
 disk:OnDisk D S.g
 dead:S.dead=false
 okay:Okay S
 ok:PsOk S.ps
theorem zrD {ps:List (Str×Str)} (h:∀ p ∈ ps,OkP p):∀ r ∈ cpL ps,r.length<=1024:=λr c=>by
 unfold cpL at c;obtain⟨p,j,rfl⟩:=List.mem_map.1 c;have:=ziE (zbX (h p j));simp at this;omega
theorem Sound.cp {D:Dk} {S:St} (h:Sound D S):Sound (cpS D S).2.1 (cpS D S).2.2/\(((cpS D S).1=5/\(cpS D S).2=(D,S))∨((cpS D S).1=0/\(cpS D S).2.2.g.safe=(cpS D S).2.2.g.l.length)):=by
 have c:=ziR (D:=D) h.disk.h6 h.okay h.ok;rcases h.disk.reset (cpL S.ps) (zrD h.ok.each) with x | ⟨j,s,u⟩;{have e:cpS D S=(5,D,S):=by{unfold cpS;rw[h.dead,if_neg (by simp),x];show ((5:Int),D,(⟨S.g,S.ps,decide ((5:Int)=6)⟩:St))=_;rw[show decide ((5:Int)=6)=S.dead by rw[h.dead];rfl]};rw[e];exact⟨h,.inl ⟨rfl,rfl⟩⟩};{have e:cpS D S=(0,(WM.reset D S.g (cpL S.ps)).2.1,⟨⟨S.g.ep+1,cpL S.ps,(cpL S.ps).length,false⟩,S.ps,false⟩):=by{unfold cpS;rw[h.dead,if_neg (by simp),s,j];rfl};rw[e] at c |-;exact⟨⟨u,rfl,c,h.ok⟩,.inr ⟨rfl,rfl⟩⟩}
theorem Sound.ap {D:Dk} {S:St} (h:Sound D S) {l:List Ch} (u:encE l=0) :
  ((apS D S (enc l)).1=5/\(apS D S (enc l)).2=(D,S))∨((apS D S (enc l)).1=0/\OnDisk (apS D S (enc l)).2.1 (apS D S (enc l)).2.2.g/\(apS D S (enc l)).2.2.dead=false):=by
 obtain⟨x,-⟩:=wbytes l u;unfold apS;rcases h.disk.append x with y | ⟨c,j,s⟩;{left;rw[y];refine⟨rfl,?_⟩;show (D,(⟨S.g,S.ps,decide ((5:Int)=6)⟩:St))=_;rw[show decide ((5:Int)=6)=S.dead by rw[h.dead];rfl]};{right;refine⟨c,?_,by simp only;rw[c];rfl⟩;simp only;rw[j];exact s}
theorem Sound.do {D:Dk} {S:St} (h:Sound D S) (l:List Ch):Sound (doS D S l).2.1 (doS D S l).2.2:=by
 have c:=zvF h.disk.h6 h.okay h.ok l;unfold doS at c |-;rw[h.dead] at c |-;simp only[Bool.false_eq_true,if_false] at c |-;by_cases x:encE l=0;{rw[if_neg (by omega)] at c |-;have s:=intoS_ps D S (enc l);have key:OnDisk (z3J D S (enc l)).2.1 (z3J D S (enc l)).2.2.g/\(z3J D S (enc l)).2.2.dead=false:=by{unfold z3J;rcases h.ap x with ⟨a1,y⟩ | ⟨a1,y,J⟩;{rw[if_pos a1,y];simp only;obtain⟨j,O⟩:=h.cp;split;{rename_i I;rcases j.ap x with ⟨M,E⟩ | ⟨M,E,b3⟩;{rw[E];exact⟨j.disk,j.dead⟩};{exact⟨E,b3⟩}};{exact⟨j.disk,j.dead⟩}};{rw[if_neg (by omega)];exact⟨y,J⟩}};have u:PsOk (layL S.ps l):=h.ok.layL (z1T (wbytes l x).2).2;unfold z8Y at c |-;by_cases I:(z3J D S (enc l)).1=0;{rw[if_pos I] at c |-;rw[s] at c |-;exact⟨key.1,key.2,c,u⟩};{rw[if_neg I] at c |-;exact⟨key.1,key.2,c,by rw[s];exact h.ok⟩}};{rw[if_pos x];exact h}
theorem Sound.sy {D:Dk} {S:St} (h:Sound D S):(syS D S).1=0/\Sound (syS D S).2.1 (syS D S).2.2/\(syS D S).2.1.waits = []/\(syS D S).2.2.ps=S.ps:=by
 obtain⟨j,s⟩:=h.disk.sync;have e:syS D S=(0,{ D with safe:=now D,waits:=[] },⟨{ S.g with safe:=S.g.l.length },S.ps,false⟩):=by{unfold syS;rw[h.dead,if_neg (by simp),j];rfl};have c:=zuJ D h.okay;rw[e] at c |-;exact⟨rfl,⟨s,rfl,c,h.ok⟩,rfl,rfl⟩
theorem zjM:∀ (L:List (List UInt8)) (ps q:List (Str×Str)),PsOk ps->decL L ps=some q->PsOk q
 | [],ps,q,h,e=>by cases e;exact h
 | b :: L,ps,q,h,e=>by{unfold decL at e;cases hd:dec b with | none=>{rw[hd] at e;cases e} | some l=>{rw[hd] at e;exact zjM L _ q (h.layL (dec_len hd).2) e}}
theorem zlL {D:Dk} (c:Calm D) (ok:Ok D) (h6:6<=D.safe.length) (S:St) (h:(opS D).2.1=some S):Sound (opS D).2.2 S:=by
 obtain⟨G,D',e,j,-⟩:=zpF c ok h6;have s:=zaE D S h;unfold opS at h |-;rw[e] at h |-;simp only at h |-;cases hd:decL G.l [] with | none=>{rw[hd] at h;cases h} | some ps=>{rw[hd] at h;cases h;exact⟨j,rfl,s,zjM _ _ _ PsOk.nil hd⟩}
end SO
namespace AC
open Go.Proofs.YtkjofdocgaiedaaGreat MI SO BM DM WM
theorem z5D (n:Nat):(z0J n).length<=10:=z3U 10 n
theorem zfY (b:Bal):(putB b).length<=20:=by
 have c:=z5D b.n;have j:=z5D b.node.toNat;simp[putB];omega
theorem ziK (c:Ch):(encC c).length<=c.key.length+c.value.length+21:=by
 have j:=z5D c.key.length;have s:=z5D c.value.length;unfold encC;split <;> simp[SO.putB] <;> omega
theorem zmF {b:Bal}:right (z4R b)=true:=by
 have h:=zfY b;simp[right,z4R,z1L,pK];omega
theorem zmH {v:Vt} (j:v.val.length<=100):right (z4T v)=true:=by
 have h:=zfY v.bal;have c:=z7F v.slot;simp[right,z4T,z1L,pK,c];omega
theorem zrI (b:Bal):encE (z4R b)=0/\(enc (z4R b)).length<=60:=by
 have h:=zfY b;have j:=z5D 1;have s:=ziK ⟨pK,putB b,false⟩;have c:(enc (z4R b)).length<=60:=by{simp[enc,z4R,pK] at *;omega};refine⟨?_,c⟩;unfold encE;rw[zmF];simp only[if_true];rw[if_neg (by omega)]
theorem zrH {v:Vt} (j:v.val.length<=100):encE (z4T v)=0/\(enc (z4T v)).length<=210:=by
 have h:=zfY v.bal;have s:=z5D 2;have u:=ziK ⟨pK,putB v.bal,false⟩;have x:=ziK ⟨keyS v.slot,putB v.bal ++ v.val,false⟩;have y:=z7F v.slot;have c:(enc (z4T v)).length<=210:=by{simp[enc,z4T,pK] at *;omega};refine⟨?_,c⟩;unfold encE;rw[zmH j];simp only[if_true];rw[if_neg (by omega)]
theorem zkO {D:Dk} {S:St} (h:Sound D S) {l:List Ch} (E:encE l=0) (hr:(flat S.g.l).length+((enc l).length+10)<=32 * half D) :
  (doA D S l).1=0/\Sound (doA D S l).2.1 (doA D S l).2.2/\(doA D S l).2.2.ps=layL S.ps l/\(flat (doA D S l).2.2.g.l).length=(flat S.g.l).length+((enc l).length+10)/\half (doA D S l).2.1=half D:=by
 have u:=zcN h.disk.calm h.disk.h6 h.disk.dead h.disk.fit (wbytes l E).1;rw[if_neg (by unfold room;omega)] at u;obtain⟨c1,c2,c3,c4⟩:=u;have c:(apS D S (enc l)).1=0:=c1;have e:doS D S l=z8Y (apS D S (enc l)) l:=by{unfold doS;rw[h.dead];simp only[Bool.false_eq_true,if_false];rw[if_neg (by omega)];unfold z3J;rw[if_neg (by omega)]};have y:(doS D S l).1=0:=by{rw[e];exact c};have hd:=h.do l;obtain⟨M,O,s3,Y⟩:=hd.sy;have j:(doS D S l).2.2.ps=layL S.ps l:=by{rw[e];unfold z8Y;rw[if_pos c];rfl};have I:(doS D S l).2.2.g = { S.g with l:=S.g.l ++ [enc l] }:=by{rw[e];unfold z8Y;rw[if_pos c];exact c2};have J:half (doS D S l).2.1=half D:=by{rw[e];refine z6E ?_;show (WM.append D S.g (enc l)).2.1.safe.length=_;rw[c4]};have x:doA D S l=syS (doS D S l).2.1 (doS D S l).2.2:=by{unfold doA;rw[if_pos y]};obtain⟨Z,-⟩:=hd.disk.sync;have s:syS (doS D S l).2.1 (doS D S l).2.2=(0,{ (doS D S l).2.1 with safe:=now (doS D S l).2.1,waits:=[] },⟨{ (doS D S l).2.2.g with safe:=(doS D S l).2.2.g.l.length },(doS D S l).2.2.ps,false⟩):=by{unfold syS;rw[hd.dead,if_neg (by simp),Z];rfl};rw[x];refine⟨M,O,by rw[Y,j],?_,?_⟩;{rw[s];simp only;rw[I];simp only;exact z3V _ _};{rw[s,<-J];exact z6E (z1Q _)}
end AC
namespace AC
open Go.Proofs.YtkjofdocgaiedaaGreat MI SO BM DM WM
structure Room (H m:Nat) (D:Dk) (A:Ac):Prop where
 sound:Sound D A.s
 ok:AOk A
 half:WM.half D=H
 few:(flat A.s.g.l).length≤m
theorem zqU {D:Dk} {S:St} {l:List Ch} (h:Sound D S) (c:(doA D S l).1=0):(doA D S l).2.1.waits = []:=by
 unfold doA at *;split;{exact(h.do l).sy.2.2.1};{rename_i j;rw[if_neg j] at c;exact absurd c j}
theorem Room.alive {H m:Nat} {D:Dk} {A:Ac} (h:Room H m D A):A.s.dead=false:=h.sound.dead
theorem Room.prep {H m:Nat} {D:Dk} {A:Ac} (h:Room H m D A) (M:m+70<=32 * H) {b:Bal} (hb:OkB b) (u:less b A.b=false) (k:Nat) :
  (z1M D A b k).1=(z6P A.vs k,b,0)/\Room H (m+70) (z1M D A b k).2.1 (z1M D A b k).2.2/\(z1M D A b k).2.2.b=b/\(z1M D A b k).2.2.vs=A.vs:=by
 have c:=h.ok.prep (D:=D) b hb.2 k;unfold z1M at c |-;rw[if_neg (by rw[hb.1];decide),if_neg (by rw[h.alive];decide),if_neg (by rw[u];decide)] at c |-;by_cases e:b=A.b;{rw[if_pos e] at c |-;exact⟨rfl,⟨h.sound,h.ok,h.half,show (flat A.s.g.l).length<=_ from by have:=h.few;omega⟩,e.symm,rfl⟩};{rw[if_neg e] at c |-;obtain⟨j,J⟩:=zrI b;obtain⟨x,y,O,E,I⟩:=zkO h.sound j (by have:=h.few;rw[h.half];omega);rw[if_pos x] at c |-;exact⟨rfl,⟨y,c,by rw[I];exact h.half,by simp only;rw[E];have:=h.few;omega⟩,rfl,rfl⟩}
theorem Room.accept {H m:Nat} {D:Dk} {A:Ac} (h:Room H m D A) (Z:m+220<=32 * H) {v:Vt} (j:z7X v=true) (x:v.bal.n<18446744073709551616) (y:v.slot<18446744073709551616) (u:less v.bal A.b=false) :
  (z0O D A v).1=(v.bal,0)/\Room H (m+220) (z0O D A v).2.1 (z0O D A v).2.2/\(z0O D A v).2.2.b=v.bal/\(z0O D A v).2.2.vs=insV A.vs v:=by
 have c:=h.ok.accept (D:=D) v x y;have E:v.val.length<=100:=by{simp only[z7X,Bool.and_eq_true,decide_eq_true_eq] at j;exact j.2.2};unfold z0O at c |-;rw[if_neg (by rw[j];decide),if_neg (by rw[h.alive];decide),if_neg (by rw[u];decide)] at c |-;obtain⟨s,Y⟩:=zrH E;obtain⟨I,J,r3,M,O⟩:=zkO h.sound s (by have:=h.few;rw[h.half];omega);rw[if_pos I] at c |-;exact⟨rfl,⟨J,c,by rw[O];exact h.half,by simp only;rw[M];have:=h.few;omega⟩,rfl,rfl⟩
theorem Room.accept_still {H m:Nat} {D:Dk} {A:Ac} (h:Room H m D A) {v:Vt} (c:(z0O D A v).1.2=0):(z0O D A v).2.1.waits = []:=by
 unfold z0O at *;split;{rename_i s;rw[if_pos s] at c;exact absurd c (show ¬ (2:Int)=0 by decide)};rename_i s;rw[if_neg s] at c;split;{rename_i u;rw[if_pos u] at c;exact absurd c (show ¬ (6:Int)=0 by decide)};rename_i u;rw[if_neg u] at c;split;{rename_i x;rw[if_pos x] at c;exact absurd c (show ¬ (90:Int)=0 by decide)};rename_i x;rw[if_neg x] at c;split;{rename_i j;exact zqU h.sound j};{rename_i j;rw[if_neg j] at c;exact absurd c j}
theorem Room.again {H m:Nat} {D:Dk} {A:Ac} (h:Room H m D A) (E:D.waits = []):∃ S',DM.crash D []=D/\z2T D=(0,some ⟨S',A.b,A.vs⟩,D)/\Room H m D ⟨S',A.b,A.vs⟩:=by
 have u:DM.crash D []=D:=by{obtain⟨Y,Z,lf,O⟩:=D;have I:=h.sound.disk.calm;simp only at E;subst E;obtain⟨c1,c2⟩:=I;simp only at c1 c2;subst c1 c2;rfl};have M:=h.sound.disk.opens;have J:=h.sound.okay h.sound.dead;have c:opS D=(0,some ⟨⟨A.s.g.ep,A.s.g.l,A.s.g.l.length,false⟩,A.s.ps,false⟩,D):=by{unfold opS;rw[M];simp only;rw[J]};have j:=h.ok.ps h.alive;have x:rd A.s.ps=some (A.b,A.vs):=by{rw[j];exact zvT (h.ok.ok h.alive)};have y:=zlL h.sound.disk.calm h.sound.disk.ok h.sound.disk.h6 _ (by rw[c]);rw[c] at y;refine⟨_,u,?_,⟨y,⟨λ_=>h.ok.ok h.alive,λ_=>j⟩,h.half,h.few⟩⟩;unfold z2T;rw[c];simp only;rw[x]
theorem zqB {D:Dk} {A:Ac} (hd:A.s.dead=false) {b:Bal} (j:z2S b=true) (c:less b A.b=true) (k:Nat):z1M D A b k=(([],A.b,90),D,A):=by
 unfold z1M;rw[if_neg (by rw[j];decide),if_neg (by rw[hd];decide),if_pos c]
def lastV (last:List Vt) (v:Vt):List Vt:=last.filter (fun u=>decide (u.slot≠v.slot)) ++ [v]
end AC
namespace AC
open Go.Proofs.YtkjofdocgaiedaaGreat MI SO BM DM WM
theorem zgL (D:Dk) (S:St):(syS D S).2.1.waits.length<=D.waits.length:=by
 unfold syS;split;{exact Nat.le_refl _};{exact zcE D S.g}
theorem zgO {D:Dk} (h:D.safe.length<=2048) (S:St) (l:List Ch):(doA D S l).2.1.waits.length<=D.waits.length+5120:=by
 have c:=zdJ h S l;unfold doA;split;{exact Nat.le_trans (zgL _ _) c};{exact c}
theorem zcA {D:Dk} (h:D.safe.length<=2048) (A:Ac) (b:Bal) (k:Nat):(z1M D A b k).2.1.waits.length<=D.waits.length+5120:=by
 have c:=zgO h A.s (z4R b);unfold z1M
 repeat' split
 all_goals simp only
 all_goals omega
theorem z9X {D:Dk} (h:D.safe.length<=2048) (A:Ac) (v:Vt):(z0O D A v).2.1.waits.length<=D.waits.length+5120:=by
 have c:=zgO h A.s (z4T v);unfold z0O
 repeat' split
 all_goals simp only
 all_goals omega
theorem zjA {D:Dk} (h:D.safe.length<=2048):(z2T D).2.2.waits.length<=D.waits.length+1024:=by
 have c:=zpM h;unfold z2T
 repeat' split
 all_goals simp only
 all_goals omega
theorem zsV (b:Bal) (vs:List Vt):(encP b vs).length<=vs.length+1:=by
 unfold encP;rw[List.length_append,List.length_map];split <;> simp <;> omega
theorem AOk.few {A:Ac} (h:AOk A) (hd:A.s.dead=false):A.s.ps.length<=A.vs.length+1:=by
 rw[h.ps hd];exact zsV _ _
end AC
namespace AC
open Go.Proofs.YtkjofdocgaiedaaGreat MI SO BM DM WM
theorem z7C:∀ (l:List Ch) (ps:List (Str×Str)),(layL ps l).length<=ps.length+l.length
 | [],ps=>by simp[layL]
 | c :: l,ps=>by{have j:=MI.lay1_len ps c;have s:=z7C l (lay1 ps c);have e:layL ps (c :: l)=layL (lay1 ps c) l:=rfl;rw[e,List.length_cons];omega}
theorem zvD (D:Dk) (S:St) (l:List Ch):(doS D S l).2.2.ps.length<=S.ps.length+l.length:=by
 unfold doS;split;{simp only;omega};{split;{simp only;omega};{unfold z8Y;have h:=intoS_ps D S (enc l);simp only;split;{simp only;rw[h];exact z7C l S.ps};{rw[h];omega}}}
theorem zuK (D:Dk) (S:St):(syS D S).2.2.ps=S.ps:=by unfold syS;split <;> rfl
theorem zoU (D:Dk) (S:St) (l:List Ch):(doA D S l).2.2.ps.length<=S.ps.length+l.length:=by
 have h:=zvD D S l;unfold doA;split;{rw[zuK];exact h};{exact h}
theorem zoM (D:Dk) (A:Ac) (b:Bal) (k:Nat):(z1M D A b k).2.2.s.ps.length<=A.s.ps.length+1:=by
 have h:=zoU D A.s (z4R b);have e:(z4R b).length=1:=rfl;unfold z1M
 repeat' split
 all_goals simp only
 all_goals omega
theorem zjE (D:Dk) (A:Ac) (v:Vt):(z0O D A v).2.2.s.ps.length<=A.s.ps.length+2:=by
 have h:=zoU D A.s (z4T v);have e:(z4T v).length=2:=rfl;unfold z0O
 repeat' split
 all_goals simp only
 all_goals omega
theorem zoB {D:Dk} {S:St} (h:(opS D).2.1=some S):PsOk S.ps:=by
 have:=zaE D S h (SO.op_dead h);exact zjM _ _ _ PsOk.nil this
structure Inv (k:Nat) (D:Dk) (o:Option Ac):Prop where
 waits:D.waits.length≤1024+6200 * k
 ok:∀ A,o=some A→AOk A∧A.s.ps.length≤128000+64 * k
theorem Inv.prep {k:Nat} {D:Dk} {A:Ac} (h:Inv k D (some A)) (s:D.safe.length<=2048) (b:Bal) (j:b.n<18446744073709551616) (f:Nat):Inv (k+1) (z1M D A b f).2.1 (some (z1M D A b f).2.2):=by
 obtain⟨c,u⟩:=h.ok A rfl;have x:=h.waits;have y:=zcA s A b f;have E:=zoM D A b f;exact⟨by omega,λA' e=>by rw[<-Option.some.inj e];exact⟨c.prep b j f,by omega⟩⟩
theorem Inv.acc {k:Nat} {D:Dk} {A:Ac} (h:Inv k D (some A)) (s:D.safe.length<=2048) (v:Vt) (j:v.bal.n<18446744073709551616) (u:v.slot<18446744073709551616):Inv (k+1) (z0O D A v).2.1 (some (z0O D A v).2.2):=by
 obtain⟨c,x⟩:=h.ok A rfl;have y:=h.waits;have E:=z9X s A v;have I:=zjE D A v;exact⟨by omega,λA' e=>by rw[<-Option.some.inj e];exact⟨c.accept v j u,by omega⟩⟩
theorem Inv.arm {k:Nat} {D:Dk} {o:Option Ac} (h:Inv k D o) (n:Int):Inv k (DM.arm D n) o:=⟨h.waits,h.ok⟩
theorem Inv.open {D:Dk} (y:D.safe.length<=2048) (I:D.waits.length<=5000) (x:∀ A,(z2T D).2.1=some A->A.s.g.l.length<=4000):Inv 1 (z2T D).2.2 (z2T D).2.1:=by
 have h:=zjA y;refine⟨by omega,λA e=>?_⟩;obtain⟨c,j,u⟩:=zlF (λS e=>(zoB e).sorted) e;have E:=(zaE D A.s u).few (x _ e) j;exact⟨c,by omega⟩
theorem Inv.few {k:Nat} {D:Dk} {A:Ac} (h:Inv k D (some A)) (u:k<=60):A.s.ps.length<=890000/\D.waits.length<=490000/\AOk A:=by
 obtain⟨c,j⟩:=h.ok A rfl;have:=h.waits;exact⟨by omega,by omega,c⟩
end AC
section
open Go.RowKit Go.Maps
open MI SO BM DM WM AC
def PairA (W:World) (p:Nat) (D:Dk) (o:Option Ac) (w:World):Prop:=
 ∃ d m av rv A F G,Three W (BoxT p (zdO d m av rv) 40) A (AcP d D o av) F (RAcP m D o rv) G w
def PairD (W:World) (p:Nat) (D:Dk) (w:World):Prop:=
 ∃ d m av rv A F G,Three W (BoxT p (zdO d m av rv) 40) A (DkT d D) F (RkT m D) G w
theorem PairA.later {W w w':World} {p:Nat} {D:Dk} {o:Option Ac} (h:PairA W p D o w) (j:Keep (λ_=>False) w w'):PairA W p D o w':=by
 obtain⟨d,m,c,rv,A,F,G,h⟩:=h;exact⟨d,m,c,rv,A,F,G,h.later (BoxT.lives _ _ _) (AcP.lives _ _ _ _) (RAcP.lives _ _ _ _) j⟩
theorem PairA.keep {W w:World} {p:Nat} {D:Dk} {o:Option Ac} (h:PairA W p D o w):Keep (λ_=>False) W w:=let ⟨_,_,_,_,_,_,_,h⟩:=h;h.keep
theorem AcP.ptr {d:Nat} {D:Dk} {o:Option Ac} {c:Value} {w:World} {F:Nat->Prop} (h:AcP d D o c w F):∃ x,c = .pointer x/\x.isNone=o.isNone:=by
 cases o with | none=>{exact⟨none,h.1,rfl⟩} | some S=>{obtain⟨b,e,-⟩:=h;exact⟨_,e,rfl⟩}
theorem RAcP.ptr {d:Nat} {D:Dk} {o:Option Ac} {c:Value} {w:World} {F:Nat->Prop} (h:RAcP d D o c w F):∃ x,c = .pointer x/\x.isNone=o.isNone:=by
 cases o with | none=>{exact⟨none,h.1,rfl⟩} | some S=>{obtain⟨b,e,-⟩:=h;exact⟨_,e,rfl⟩}
theorem PairA.count {W w:World} {p:Nat} {D:Dk} {A:Ac} (h:PairA W p D (some A) w):A.s.g.l.length<=4000:=by
 obtain⟨d,m,j,rv,X,F,G,h⟩:=h;obtain⟨r,-,u,X,Y,-,c,-⟩:=h.three;exact c.count.1
theorem zmJ (W w:World) (p:Nat) (D:Dk) (h:PairD W p D w) (c:D.waits.length<=800000) :
  Calls Tryz.prog 33 #[.pointer (some ⟨p,0,none⟩)] w λe w'=>e = .returned (.bool true)/\PairA W p (z2T D).2.2 (z2T D).2.1 w':=by
 obtain⟨d,m,sv,rv,A,F,G,h⟩:=h;obtain⟨R,hR⟩:=zX1 (z2T D);have s:=z9U w d F D h.two c;rw[<-hR] at s |-;obtain⟨O,Y,Z,h3,hf,hb⟩:=z2I h.one.1;have H0:=hid (zA1 h (zA1 hR c));clear h hR c;go_enter Tryz.func33,Tryz.ntmps33;go_wp2_with fail;refine s.mono ?_;rintro e w1 ⟨a5,rfl,J⟩;obtain⟨F1,T1⟩:=H0.out.1.turn2 (BoxT.lives _ _ _) (RkT.lives _ _) J;have j:=zeX w1 m G D T1.three H0.out.2.2;rw[<-H0.out.2.1] at j;clear s J O Y Z h3 hf hb;obtain⟨O,Y,Z,h3,hf,hb⟩:=z2I T1.one.1;have a2:=hid T1;clear T1;go_wp2_with fail;refine j.mono ?_;rintro e w2 ⟨a3,rfl,J⟩;obtain⟨G1,T2⟩:=a2.out.turn3 (BoxT.lives _ _ _) (AcP.lives _ _ _ _) J;clear j J O Y Z h3 hf hb;obtain⟨O,Y,Z,h3,hf,hb⟩:=z2I T2.one.1;obtain⟨x,rfl,hx⟩:=T2.two.ptr;obtain⟨y,rfl,hy⟩:=T2.three.ptr;have I:Keep (λk=>k=p) w2 ((w2.setCell ⟨p,1,none⟩ (.pointer x)).setCell ⟨p,3,none⟩ (.pointer y)):=by{refine Keep.setCell (Keep.setCell (Keep.refl _ _) (.inl ?_) _) (.inl ?_) _ <;> rfl};have E:=z0A (z0A T2.one.1 1 (.pointer x)) 3 (.pointer y);obtain⟨A3,T3⟩:=T2.box (AcP.lives _ _ _ _) (RAcP.lives _ _ _ _) I E;have HZ:=hid (show PairA W p R.2.2 R.2.1 _ from⟨d,m,.pointer x,.pointer y,A3,F1,G1,T3⟩);clear T2 I E T3;have M:x.isNone=y.isNone:=hx.trans hy.symm;have u:=hid M;clear hx hy M;cases x with | none=>{cases y with | none=>{go_wp2_with fail;go_ret;exact⟨by simp,HZ.out⟩} | some y=>{exact absurd u.out (by simp)}} | some x=>{cases y with | none=>{exact absurd u.out (by simp)} | some y=>{go_wp2_with fail;go_ret;exact⟨by simp,HZ.out⟩}}
theorem ziP (w:World) (s:Nat) (O:0<s) (Y:s<=2048) :
  Calls Tryz.prog 8 #[.int .i64 (s:Nat)] w λe w'=>∃ p,e = .returned (.tuple #[.pointer (some ⟨p,0,none⟩),.bool true])/\PairA w p (z2T (DM.new s)).2.2 (z2T (DM.new s)).2.1 w':=by
 have hn:=znZ w s O Y;clear O;go_enter Tryz.func8,Tryz.ntmps8;go_wp2_with fail;refine hn.mono ?_;rintro e w1 ⟨d,Pd,rfl,c,y,u⟩;have hr:=zuF w1 s (by have:=c.ok.pos;simp[DM.new] at this;omega) Y;have H1:=hid (zA1 c (zA1 y u));clear c y u;go_wp2_with fail;refine hr.mono ?_;rintro e w2 ⟨m,Qd,rfl,j,E,x⟩;have J:=hid (zA1 j (zA1 E x));clear j E x hn hr;go_wp2_with fail;have T2:=Two.make (T:=DkT d (DM.new s)) (U:=RkT m (DM.new s)) (w0:=w) H1.out.1 H1.out.2.2 H1.out.2.1 (DkT.lives _ _) J.out.1 J.out.2.2 J.out.2.1;have I:=kal w2 (.cells (zdO d m (.pointer none) (.pointer none)) 40);have T3:=T2.and (DkT.lives _ _) (RkT.lives _ _) (V:=BoxT w2.heap.size (zdO d m (.pointer none) (.pointer none)) 40) (H:=λk=>k=w2.heap.size) ⟨heap_alloc_new w2 _,rfl,λk e=>by subst e;simp⟩ (λk e=>by omega) I;have M:=zmJ w _ w2.heap.size (DM.new s) ⟨d,m,.pointer none,.pointer none,_,_,_,T3.turn.turn⟩ (by simp[DM.new]);clear T2 I T3;go_wp2_with fail;refine M.mono ?_;rintro e w4 ⟨rfl,Z⟩;have HZ:=hid Z;clear Z;go_wp2_with fail;go_ret2;exact⟨_,rfl,HZ.out⟩
end
section
open Go.ChangeShapes Go.WideShapes Go.RowKit Go.Deep
open MI SO BM DM WM AC
def U8R (cs:List Value) (u:UInt8):Prop:=cs = [.int .u8 (u.toNat:Int)]
abbrev Octs (w:World) (v:Value) (l:List UInt8):Prop:=SliceOf w 1 U8R v l
def BalsR (b:Bal):Prop:=b.n<18446744073709551616∧-9223372036854775808≤b.node∧b.node≤9223372036854775807
structure VtR (x:Vt):Prop where
 slot:x.slot<18446744073709551616
 bal:BalsR x.bal
def VoteR (w:World) (cs:List Value) (x:Vt):Prop:=∃ u,cs=z2R x u∧Octs w u x.val∧VtR x
abbrev VoteL (w:World) (v:Value) (l:List Vt):Prop:=SliceOf w 4 (VoteR w) v l
theorem Octs.cells {w:World} {s:Option Addr} {n c:Nat} {l:List UInt8} (h:Octs w (.slice s n c) l):n=l.length/\l.length<=c/\c<=maxLen/\Cells w s l.length 1 (z0B l):=by
 obtain⟨E,c',e,I,J,M⟩:=h;cases e;refine⟨rfl,I,J,by rw[z0D];omega,λhp=>?_⟩;obtain⟨y,rfl,Z⟩:=M (by omega);refine⟨y,rfl,λt u j=>?_⟩;have x:t<l.length:=by{have:=(List.getElem?_eq_some_iff.1 j).1;rw[z0D] at this;exact this};obtain⟨cs,-,O,Y⟩:=Z t x;have e:u = .int .u8 ((l[t]).toNat:Int):=by{simp only[z0B,List.getElem?_map,List.getElem?_eq_getElem x,Option.map_some,Option.some.injEq] at j;exact j.symm};have:=Y 0 u (by rw[O,e];rfl);rw[Nat.mul_one,Nat.add_zero] at this;exact this
section
variable {H:Type} {enc:TypeId×Value→H} {w:World} {base:Nat} {held:Bool} {fuel:Nat}
theorem zvL {a:Int} (h:(Lit.int .u8 a).wf=true):∃ u:UInt8,a=(u.toNat:Int):=by
 have hx:0<=a/\a<=255:=by{simpa [Lit.wf,IntKind.min,IntKind.max,IntKind.signed,IntKind.bits] using h};refine⟨UInt8.ofNat a.toNat,?_⟩;simp;omega
theorem zuU {v:Value} {x:DataW H×List MemPlace} (h:DataW.trod enc Tryz.prog w base (λ_=>true) held fuel 29 [v]=some x):∃ l,Octs w v l:=
 zdL Tryz.underlying29 (by kernel_rfl) (λ_ _ _ _ h=>let ⟨n,h1,h2⟩:=zdB Tryz.underlying5 h;let ⟨u,hu⟩:=zvL h2;⟨u,by rw[h1,hu];rfl⟩) h
theorem zoO {cs:List Value} {x:DataW H×List MemPlace} (h:DataW.trod enc Tryz.prog w base (λ_=>true) held fuel 28 cs=some x):∃ b:Bal,cs = [.int .u64 (b.n:Int),.int .i64 b.node]/\BalsR b:=by
 have y:=znR Tryz.underlying28 h;have c2:Tryz.prog.cellsOf 28=2:=by{kernel_rfl};have c1:Tryz.prog.cellsOf 23=1:=by{kernel_rfl};have E:Tryz.prog.cellsOf 3=1:=by{kernel_rfl};obtain⟨O,y0,s⟩:=z4Z Tryz.underlying28 h 0 _ rfl;obtain⟨Y,y1,u⟩:=z4Z Tryz.underlying28 h 1 _ rfl;rw[c2] at y
 match cs,y with
 | [x0,x1],_=>
   simp[c1,E] at s u;obtain⟨a,c,w0⟩:=zdB Tryz.underlying23 s;obtain⟨b,j,w1⟩:=zdB Tryz.underlying3 u;obtain⟨I,Z⟩:=ztT w0;obtain⟨J,M⟩:=zkT w1;simp only[List.cons.injEq,and_true] at c j;subst c j;refine⟨⟨a.toNat,b⟩,?_,by simp only;omega,J,M⟩;simp only;rw[Int.toNat_of_nonneg I]
theorem zuQ {cs:List Value} {x:DataW H×List MemPlace} (h:DataW.trod enc Tryz.prog w base (λ_=>true) held fuel 31 cs=some x):∃ v,VoteR w cs v:=by
 have j:=znR Tryz.underlying31 h;have c4:Tryz.prog.cellsOf 31=4:=by{kernel_rfl};have c2:Tryz.prog.cellsOf 28=2:=by{kernel_rfl};have c1:Tryz.prog.cellsOf 23=1:=by{kernel_rfl};have I:Tryz.prog.cellsOf 29=1:=by{kernel_rfl};obtain⟨O,y0,u⟩:=z4Z Tryz.underlying31 h 0 _ rfl;obtain⟨Y,y1,y⟩:=z4Z Tryz.underlying31 h 1 _ rfl;obtain⟨Z,y2,E⟩:=z4Z Tryz.underlying31 h 2 _ rfl;rw[c4] at j
 match cs,j with
 | [x0,x1,x2,x3],_=>
   simp[c1,I,c2] at u y E;obtain⟨a,s,w0⟩:=zdB Tryz.underlying23 u;obtain⟨b,c,hb⟩:=zoO y;obtain⟨l,j⟩:=zuU E;obtain⟨M,q2⟩:=ztT w0;simp only[List.cons.injEq,and_true] at s c;obtain⟨c,J⟩:=c;subst s c J;refine⟨⟨a.toNat,b,l⟩,x3,?_,j,by simp only;omega,hb⟩;unfold z2R;simp only;rw[Int.toNat_of_nonneg M]
end
end
section
open Go.ChangeShapes Go.WideShapes Go.RowKit Go.Deep
open MI SO BM DM WM AC
structure AAct where
 kind:Int
 n:Int
 v:Vt
 keep:List Int
instance:Inhabited AAct:=⟨⟨0,0,⟨0,Bal.zero,[]⟩,[]⟩⟩
abbrev zoR (x:AAct) (uv kv:Value):List Value:=[.int .i64 x.kind,.int .i64 x.n,.int .u64 (x.v.slot:Int),.int .u64 (x.v.bal.n:Int),.int .i64 x.v.bal.node,uv,kv]
structure AActR (w:World) (cs:List Value) (x:AAct):Prop where
 ex:∃ uv kv,cs=zoR x uv kv∧Octs w uv x.v.val∧Ints w kv x.keep
 v:VtR x.v
 kind : -9223372036854775808≤x.kind∧x.kind≤9223372036854775807
 n : -9223372036854775808≤x.n∧x.n≤9223372036854775807
abbrev AActs (w:World) (v:Value) (l:List AAct):Prop:=SliceOf w 7 (AActR w) v l
section
variable {H:Type} {enc:TypeId×Value→H} {w:World} {base:Nat} {held:Bool} {fuel:Nat}
theorem zuR {cs:List Value} {x:DataW H×List MemPlace} (h:DataW.trod enc Tryz.prog w base (λ_=>true) held fuel 76 cs=some x):∃ i,AActR w cs i:=by
 have M:=znR Tryz.underlying76 h;have O:Tryz.prog.cellsOf 76=7:=by{kernel_rfl};have c1:Tryz.prog.cellsOf 3=1:=by{kernel_rfl};have c2:Tryz.prog.cellsOf 31=4:=by{kernel_rfl};have c3:Tryz.prog.cellsOf 74=1:=by{kernel_rfl};obtain⟨n0,y0,y⟩:=z4Z Tryz.underlying76 h 0 _ rfl;obtain⟨n1,y1,E⟩:=z4Z Tryz.underlying76 h 1 _ rfl;obtain⟨n2,y2,I⟩:=z4Z Tryz.underlying76 h 2 _ rfl;obtain⟨n3,y3,J⟩:=z4Z Tryz.underlying76 h 3 _ rfl;rw[O] at M
 match cs,M with
 | [x0,x1,x2,x3,x4,x5,x6],_=>
   simp[c1,c2,c3] at y E I J;obtain⟨a,j,w0⟩:=zdB Tryz.underlying3 y;obtain⟨b,s,w1⟩:=zdB Tryz.underlying3 E;obtain⟨v,u,c,hu,hv⟩:=zuQ I;obtain⟨l,h6⟩:=ztY J;simp only[List.cons.injEq,and_true] at j s;unfold z2R at c;simp only[List.cons.injEq,and_true] at c;obtain⟨c,Y,Z,e5⟩:=c;subst j s c Y Z e5;exact⟨⟨a,b,v,l⟩,⟨⟨_,_,rfl,hu,h6⟩,hv,zkT w0,zkT w1⟩⟩
theorem rd_aacts {v:Value} {x:DataW H×List MemPlace} (h:DataW.trod enc Tryz.prog w base (λ_=>true) held fuel 71 [v]=some x):∃ l,AActs w v l:=
 zdL Tryz.underlying71 (by kernel_rfl) (λ_ _ _ _ h=>zuR h) h
end
theorem AActs.row {w w':World} {E:Option Addr} {m c:Nat} {l:List AAct} (h:AActs w (.slice E m c) l) (hk:Keep (λ_=>False) w w') (i:Nat) (Z:i<l.length) :
  ∃ x s kv,E=some x/\(∀ j u,(zoR l[i] s kv)[j]?=some u->w'.cell? ((x.add (i * 7)).add j)=some u)/\AActR w (zoR l[i] s kv) l[i]/\Octs w s l[i].v.val/\Ints w kv l[i].keep:=by
 obtain⟨J,c',hv,_,_,M⟩:=h;cases hv;obtain⟨x,rfl,O⟩:=M (by omega);obtain⟨cs,_,y,I⟩:=O i Z;obtain⟨s,kv,e,h6,Y⟩:=y.ex;rw[e] at y I;refine⟨x,s,kv,rfl,λj u hu=>?_,y,h6,Y⟩;rw[zqT];exact z0C hk _ _ (I j u hu)
theorem AActs.get {w w':World} {I:Option Addr} {m c:Nat} {l:List AAct} (h:AActs w (.slice I m c) l) (hk:Keep (λ_=>False) w w') (i:Nat) (hi:i<l.length) :
  ∃ s y kv,I=some s/\w'.cell? (s.add (i * 7))=some (.int .i64 l[i].kind)/\w'.cell? { block:=(s.add (i * 7)).block,off:=(s.add (i * 7)).off+1 }=some (.int .i64 l[i].n)/\ w'.cell? { block:=(s.add (i * 7)).block,off:=(s.add (i * 7)).off+2 }=some (.int .u64 (l[i].v.slot:Int))/\w'.cell? { block:=(s.add (i * 7)).block,off:=(s.add (i * 7)).off+3 }=some (.int .u64 (l[i].v.bal.n:Int))/\ w'.cell? { block:=(s.add (i * 7)).block,off:=(s.add (i * 7)).off+4 }=some (.int .i64 l[i].v.bal.node)/\w'.cell? { block:=(s.add (i * 7)).block,off:=(s.add (i * 7)).off+5 }=some y/\w'.cell? { block:=(s.add (i * 7)).block,off:=(s.add (i * 7)).off+6 }=some kv/\ (∀ j u,(zoR l[i] y kv)[j]?=some u->w'.cell? ((s.add (i * 7)).add j)=some u)/\AActR w (zoR l[i] y kv) l[i]/\Octs w y l[i].v.val/\Ints w kv l[i].keep:=by
 obtain⟨s,y,kv,rfl,x,h5⟩:=h.row hk i hi;have Z:=x 0 _ rfl;have J:=x 1 _ rfl;have M:=x 2 _ rfl;have O:=x 3 _ rfl;have Y:=x 4 _ rfl;have E:=x 5 _ rfl;have h6:=x 6 _ rfl;rw[z9D _ _ (by decide)] at J M O Y E h6;exact⟨s,y,kv,rfl,Z,J,M,O,Y,E,h6,x,h5⟩
theorem zrG {w:World} {b:Nat} {T:TypeId} {a0 a1 c j a4 s u:Value} (H:w.heap[b]?=some (.cells #[a0,a1,c,j,a4,s,u] T (0,0))) :
  w.cell? ⟨b,0,none⟩=some a0/\w.cell? ⟨b,1,none⟩=some a1/\w.cell? ⟨b,2,none⟩=some c/\w.cell? ⟨b,3,none⟩=some j/\w.cell? ⟨b,4,none⟩=some a4/\w.cell? ⟨b,5,none⟩=some s/\w.cell? ⟨b,6,none⟩=some u/\(∀ o,w.frozen? ⟨b,o,none⟩=false)/\b<w.heap.size:=by
 refine⟨?_,?_,?_,?_,?_,?_,?_,?_,z0M H⟩ <;> simp[World.cell?,World.frozen?,H]
end
section
open Go.RowKit Go.Maps
open MI SO BM DM WM AC
theorem AcT.arm {w:World} {a d:Nat} {F:Nat->Prop} {D:Dk} {A:Ac} (h:AcT a d D A w F):∃ F',DiskAt w d F' D/\(∀ k,F' k->F k)/\∀ w' n,DiskTo d F' w (DM.arm D n) w'->Turns (AcT a d (DM.arm D n) A) F w w':=by
 obtain⟨u,nv,X,Y,Z,hb,⟨F1,y,c,j⟩,O,E,I,J,e⟩:=h;refine⟨y,c.diskAt,λk x=>by rw[e,j];exact .inr (.inl (.inr x)),λw' n M=>?_⟩;have t:Turns (StoT u d (DM.arm D n) A.s) Y w w':=by{rw[j];exact(c.arm M).turnsT};exact(TrioT.turnY (BoxA.lives _ _ _) (VotesT.lives _ _) hb O E I J e t).map λG x=>⟨u,nv,x⟩
theorem RAcT.arm {w:World} {a d:Nat} {F:Nat->Prop} {D:Dk} {S:St} (h:RAcT a d D S w F):∃ F',RefAt w d F' D/\(∀ k,F' k->F k)/\∀ w' n,RefTo d F' w (DM.arm D n) w'->Turns (RAcT a d (DM.arm D n) S) F w w':=by
 obtain⟨E,X,Y,hb,⟨F1,s,c,j⟩,u,e⟩:=h;refine⟨s,c.diskAt,λk x=>by rw[e,j];exact .inr (.inr x),λw' n y=>?_⟩;have t:Turns (RStoT E d (DM.arm D n) S) Y w w':=by{rw[j];exact(c.arm y).turnsR};exact RAcT.turn hb u e t
theorem AcP.arm {w:World} {d:Nat} {F:Nat->Prop} {D:Dk} {o:Option Ac} {y:Value} (h:AcP d D o y w F):∃ F',DiskAt w d F' D/\(∀ k,F' k->F k)/\∀ w' n,DiskTo d F' w (DM.arm D n) w'->Turns (AcP d (DM.arm D n) o y) F w w':=by
 cases o with | none=>{obtain⟨e,u⟩:=h;exact⟨F,u,λ_ x=>x,λw' n ⟨c,a1,j,s⟩=>⟨c,⟨e,a1⟩,j,s⟩⟩} | some A=>{obtain⟨b,rfl,u⟩:=h;obtain⟨F',a1,j,s⟩:=u.arm;exact⟨F',a1,j,λw' n E=>(s w' n E).map λG x=>⟨b,rfl,x⟩⟩}
theorem RAcP.arm {w:World} {d:Nat} {F:Nat->Prop} {D:Dk} {o:Option Ac} {y:Value} (h:RAcP d D o y w F):∃ F',RefAt w d F' D/\(∀ k,F' k->F k)/\∀ w' n,RefTo d F' w (DM.arm D n) w'->Turns (RAcP d (DM.arm D n) o y) F w w':=by
 cases o with | none=>{obtain⟨e,u⟩:=h;exact⟨F,u,λ_ x=>x,λw' n ⟨c,a1,j,s⟩=>⟨c,⟨e,a1⟩,j,s⟩⟩} | some A=>{obtain⟨b,rfl,u⟩:=h;obtain⟨F',a1,j,s⟩:=u.arm;exact⟨F',a1,j,λw' n E=>(s w' n E).map λG x=>⟨b,rfl,x⟩⟩}
theorem zoD (W w:World) (p:Nat) (D:Dk) (o:Option Ac) (n:Int) (sl:Nat) (bal:Bal) (uv kv:Value) (h:PairA W p D o w) (hn:n<9223372036854775808) :
  Calls Tryz.prog 28 #[.pointer (some ⟨p,0,none⟩),.agg #[.int .i64 7,.int .i64 n,.int .u64 (sl:Int),.int .u64 (bal.n:Int),.int .i64 bal.node,uv,kv]] w λe w'=>e = .returned (.bool true)/\PairA W p (DM.arm D n) o w':=by
 have a3:=kal w (.cells #[.int .i64 7,.int .i64 n,.int .u64 (sl:Int),.int .u64 (bal.n:Int),.int .i64 bal.node,uv,kv] 76);have y:=heap_alloc_new w (.cells #[.int .i64 7,.int .i64 n,.int .u64 (sl:Int),.int .u64 (bal.n:Int),.int .i64 bal.node,uv,kv] 76);have J:W.heap.size<=w.heap.size:=h.keep.size;obtain⟨d,m,sv,rv,A,F,G,h⟩:=h;have I:=h.later (BoxT.lives _ _ _) (AcP.lives _ _ _ _) (RAcP.lives _ _ _ _) a3;have M:∀ k,F k∨G k->k<w.heap.size:=λk x=>x.elim ((AcP.lives _ _ _ _).lt h.two k) ((RAcP.lives _ _ _ _).lt h.three k);have H0:=hid (zA1 hn (zA1 y (zA1 I (zA1 M J))));clear h I hn a3 y M J;go_enter Tryz.func28,Tryz.ntmps28;go_wp2_with fail;obtain⟨w1,a6⟩:=zX1 (w.alloc (.cells #[.int .i64 7,.int .i64 n,.int .u64 (sl:Int),.int .u64 (bal.n:Int),.int .i64 bal.node,uv,kv] 76));rw[<-a6] at H0 |-;clear a6;obtain⟨h0,I,h2,h3,hf,hb⟩:=z2I H0.out.2.2.1.one.1;obtain⟨i0,i1,i2,i3,i4,i5,i6,O,ib⟩:=zrG H0.out.2.1;go_wp2_with fail;have j0:=λs:Later w1=>s.cell h0;have j4:=λs:Later w1=>s.cell i1
 (refine z1D 6 (by kernel_rfl) (by kernel_rfl) ?_;simp only[List.take_succ_cons,List.take_zero,List.drop_succ_cons,List.drop_zero];(repeat (go_big_quiet_step ((fail))));refine wpQuiet_nil ?_;rintro _ ⟨Y,rfl⟩)
 have c:=Y.keep;obtain⟨w2,a7⟩:=zX1 (Y.val);rw[<-a7] at c |-;clear a7 Y j0 j4 h0 I h2 h3 hf hb i0 i1 i2 i3 i4 i5 i6 O ib;obtain⟨hn,y,I,M,J⟩:=H0.out;have T2:=I.later (BoxT.lives _ _ _) (AcP.lives _ _ _ _) (RAcP.lives _ _ _ _) c;obtain⟨F',hd,sF,j⟩:=T2.two.arm;have u:=zuL w2 d F' D n hn hd;have E:=hid (zA1 T2 (zA1 (c.get y id) (zA1 sF j)));clear hn y I M J c T2 sF j hd;go_wp2_with fail;refine u.mono ?_;rintro e w3 ⟨rfl,Z⟩;have a5:Keep F' w2 w3:=let ⟨_,_,h,_⟩:=Z;h;obtain⟨F3,T3⟩:=E.out.1.turn2 (BoxT.lives _ _ _) (RAcP.lives _ _ _ _) (E.out.2.2.2 w3 n Z);have a2:=a5.get E.out.2.1 (λx=>by have:=H0.out.2.2.2.1 _ (.inl (E.out.2.2.1 _ x));omega);obtain⟨h0,I,h2,h3,hf,hb⟩:=z2I T3.one.1;obtain⟨i0,i1,i2,i3,i4,i5,i6,O,ib⟩:=zrG a2;have a9:=hid T3;clear u Z a5 T3 a2 E;go_wp2_with fail;have j2:=λs:Later w3=>s.cell h2;have j4:=λs:Later w3=>s.cell i1
 (refine z1D 6 (by kernel_rfl) (by kernel_rfl) ?_;simp only[List.take_succ_cons,List.take_zero,List.drop_succ_cons,List.drop_zero];(repeat (go_big_quiet_step ((fail))));refine wpQuiet_nil ?_;rintro _ ⟨Y,rfl⟩)
 have c:=Y.keep;obtain⟨w4,a8⟩:=zX1 (Y.val);rw[<-a8] at c |-;clear a8 Y j2 j4 h0 I h2 h3 hf hb i0 i1 i2 i3 i4 i5 i6 O ib;have T4:=a9.out.later (BoxT.lives _ _ _) (AcP.lives _ _ _ _) (RAcP.lives _ _ _ _) c;obtain⟨G',hd,sG,j⟩:=T4.three.arm;have u:=zuM w4 m G' D n H0.out.1 hd;have E:=hid (zA1 T4 j);clear c T4 sG j hd;go_wp2_with fail;refine u.mono ?_;rintro e w5 ⟨rfl,Z⟩;obtain⟨G5,T5⟩:=E.out.1.turn3 (BoxT.lives _ _ _) (AcP.lives _ _ _ _) (E.out.2 w5 n Z);have HZ:=hid (show PairA W p (DM.arm D n) o w5 from⟨d,m,sv,rv,A,F3,G5,T5⟩);clear u Z T5 E;go_wp2_with fail;go_ret;exact⟨rfl,HZ.out⟩
end
section
open Go.RowKit Go.Maps
open MI SO BM DM WM AC
def AC.longL (l:List AAct):Bool:=(l.take 60).any fun x=>decide (1000<x.v.val.length)
theorem AC.longL_no {l:List AAct} (h:∀ j (c:j<l.length),j<60->l[j].v.val.length<=1000):longL l=false:=by
 unfold longL;rw[List.any_eq_false];intro x hx;obtain⟨j,c,rfl⟩:=List.mem_iff_getElem.1 hx;rw[List.length_take] at c;rw[List.getElem_take];have:=h j (by omega) (by omega);simp;omega
theorem AC.longL_yes {l:List AAct} {j:Nat} (c:j<l.length) (h6:j<60) (h:1000<l[j].v.val.length):longL l=true:=by
 unfold longL;rw[List.any_eq_true];exact⟨l[j],List.mem_take_iff_getElem.2 ⟨j,by omega,rfl⟩,by simpa using h⟩
theorem AC.longL_get {l:List AAct} (h:longL l=false) (j:Nat) (c:j<l.length) (h6:j<60):l[j].v.val.length<=1000:=by
 apply Classical.byContradiction;intro s;rw[longL_yes c h6 (by omega)] at h;cases h
theorem zqQ (w:World) (v:Value) (l:List AAct) (Z:AActs w v l) :
  Calls Tryz.prog 27 #[v] w λe w'=>e = .returned (.bool (longL l))/\Keep (λ_=>False) w w':=by
 obtain⟨ao,c,rfl,a6,a7⟩:=Z.form;obtain⟨m,hm⟩:=zX1 (l.length);obtain⟨b,hb⟩:=zX1 (longL l);rw[<-hm] at Z a6 |-;rw[<-hb];have M:=hid (zA1 Z (zA1 hm hb));clear Z hm hb;go_enter Tryz.func27,Tryz.ntmps27;go_wp2_with fail
 go_loopw [3] (λiv wr=>∃ i:Nat,i<=m/\i<=60/\iv = .int .i64 i/\Hid (wr=w/\∀ j (Y:j<l.length),j<i->l[j].v.val.length<=1000)) (λiv _=>60 - (intOf iv).toNat)
 case atStart=>exact⟨0,Nat.zero_le _,Nat.zero_le _,rfl,hid ⟨rfl,λj _ x=>by omega⟩⟩
 case round=>(obtain⟨i,hi,a9,rfl,J⟩:=hrel;by_cases s:i<m/\i<60;{have h2:(i:Int)<m:=by{omega};have h1:(i:Int)<60:=by{omega};have O:i<l.length:=by{rw[<-M.out.2.1];exact s.1};obtain⟨ad,uv,kv,rfl,-,-,-,-,-,a5,-,-,-,hu,-⟩:=M.out.1.get (w':=wr) (by rw[J.out.1];exact Keep.refl _ _) i O;obtain⟨uo,uc,rfl,-⟩:=hu.form;obtain⟨ul,I⟩:=zX1 (l[i].v.val.length);rw[<-I] at a5;have HU:=hid I;clear I hu;have a8:=s.1;have a2:=s.2;clear s;by_cases u:1000<ul;{have q1:(1000:Int)<(ul:Int):=by{omega};have E:=hid (show b=true/\wr=w from⟨by rw[M.out.2.2];exact AC.longL_yes O a2 (by rw[<-HU.out];exact u),J.out.1⟩);go_wp2_with fail;go_ret;exact⟨by rw[E.out.1];rfl,by rw[E.out.2];exact Keep.refl _ _⟩};{have q1:decide ((1000:Int)<(ul:Int))=false:=decide_eq_false (by omega);have q2:decide (1000<ul)=false:=decide_eq_false u;have E:=hid (show wr=w/\∀ j (Y:j<l.length),j<i+1->l[j].v.val.length<=1000 from⟨J.out.1,λj Y a3=>by{rcases Nat.lt_or_eq_of_le (Nat.le_of_lt_succ a3) with y | y;{exact J.out.2 j Y y};{subst y;have:=HU.out;omega}}⟩);go_wp2_with fail;go_roundw;(case rel=>exact⟨i+1,by omega,by omega,by go_num,E⟩);case measure=>simp[intOf];omega}};{have E:=hid (show b=false/\wr=w from⟨by rw[M.out.2.2];exact AC.longL_no λj Y h6=>J.out.2 j Y (by have:=M.out.2.1;omega),J.out.1⟩);have cut:(¬ (i:Int)<m)∨((i:Int)<m/\¬ (i:Int)<60):=by{omega};clear s;rcases cut with c1 | ⟨c0,c1⟩;all_goals go_wp2_with fail;go_ret;exact⟨by rw[E.out.1];rfl,by rw[E.out.2];exact Keep.refl _ _⟩})
structure VlRel (w:World) (us:List Value) (i:Nat) (ov:Value) (wr:World):Prop where
 row:Row wr 29 1 ov i (us.take i)
 new:∀ k,ov.ownBlock=some k→w.heap.size≤k
 keep:Keep (fun _=>False) w wr
end
end Go.Proofs.YtkjofdocgaiedaaGreat
