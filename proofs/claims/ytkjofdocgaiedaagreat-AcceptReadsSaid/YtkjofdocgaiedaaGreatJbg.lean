/- Texts AcdB, AcdP, AcdQ, StpP, AccQ, AccR, AcdE, AceA, AceB, AcdC, NewO in one. Conditions: as each law names them. -/
import Derived.Test.YtkjofdocgaiedaaGreatJax
import Derived.Test.YtkjofdocgaiedaaGreatJba
import Derived.Test.YtkjofdocgaiedaaGreatJbc
import Derived.Test.YtkjofdocgaiedaaGreatJbd
import Derived.Test.YtkjofdocgaiedaaGreatJbe
import Derived.Test.YtkjofdocgaiedaaGreatJbf
set_option maxRecDepth 20000
set_option maxHeartbeats 8000000
namespace Go.Proofs.YtkjofdocgaiedaaGreat
section
open Go.RowKit Go.Maps Go.Shelf
open MI SO BM DM WM AC
attribute [local go_sem] Oper.semAt_some
def AcP (d:Nat) (D:Dk) (o:Option Ac) (av:Value):Thing:=fun w F=>
 match o with
 | none=>av = .pointer none∧DkT d D w F
 | some A=>∃ a,av = .pointer (some ⟨a,0,none⟩)∧AcT a d D A w F
theorem AcP.lives (d:Nat) (D:Dk) (o:Option Ac) (av:Value):Lives (AcP d D o av):=by
 cases o with
 | none=>exact⟨fun h hk hn=>⟨h.1,(DkT.lives d D).keep h.2 hk hn⟩,fun h=>(DkT.lives d D).lt h.2⟩
 | some A=>exact⟨fun ⟨b,h1,h2⟩ hk hn=>⟨b,h1,(AcT.lives b d D A).keep h2 hk hn⟩,fun ⟨b,_,h2⟩=>(AcT.lives b d D A).lt h2⟩
theorem AcT.disk {a d:Nat} {D:Dk} {A:Ac} {w:World} {F:Nat→Prop} (h:AcT a d D A w F):∃ F',DkT d D w F'∧∀ k,F' k→F k:=by
 obtain⟨sb,nv,X,Y,Z,-,⟨F1,F2,h1,hY⟩,-,-,-,-,hF⟩:=h;exact⟨F2,h1.diskAt,fun k x=>by rw[hF,hY];exact .inr (.inl (.inr x))⟩
def AOpenPost (d:Nat) (F:Nat→Prop) (w:World) (R:Int×Option Ac×Dk) (e:Ending) (w':World):Prop:=
 ∃ av,e = .returned (.tuple #[av,.int .i64 R.1])∧Turns (AcP d R.2.2 R.2.1 av) F w w'
theorem AC.rdL_append:∀ (ps qs:List (Str×Str)) (st:Bal×List Vt),rdL st (ps ++ qs)=match rdL st ps with | none=>none | some s=>rdL s qs
 | [],_,_=>rfl
 | p :: ps,qs,st=>by
   simp only[List.cons_append,rdL]
   cases rd1 st p with
   | none=>rfl
   | some s=>exact AC.rdL_append ps qs s
theorem SO.op_code {D:Dk} {S:St} (h:(opS D).2.1=some S):(opS D).1=0:=by
 unfold opS at *;split at h
 ·cases h
 ·split at h
  ·cases h
  ·rfl
theorem SO.op_dead {D:Dk} {S:St} (h:(opS D).2.1=some S):S.dead=false:=by
 unfold opS at h;split at h
 ·cases h
 ·split at h
  ·cases h
  ·cases h
   rfl
theorem SO.op_none {D:Dk} (h:(opS D).2.1=none):(opS D).1≠0:=by
 unfold opS at *;split
 ·rename_i ho
  exact open_none ho
 ·rename_i ho
  split
  ·show (50:Int)≠0
   decide
  ·rename_i hd
   rw[ho] at h;simp only at h;rw[hd] at h;cases h
structure RIn (w4:World) (a b:Nat) (pre:List (Str×Str)) (W:World):Prop where
 ex:∃ st nv us,rdL (Bal.zero,[]) pre=some st∧W.heap[a]?=some (.cells (accC b st.1 nv false) 86 (0,0))∧Votes W (fun k=>w4.heap.size≤k) nv st.2 us
 keep:Keep (fun k=>k=a) w4 W
theorem AC.rdL_len:∀ {ps:List (Str×Str)} {st st':Bal×List Vt},rdL st ps=some st'→st'.2.length≤st.2.length+ps.length
 | [],st,st',h=>by cases h;simp
 | p :: ps,st,st',h=>by
   unfold rdL at h
   cases h1:rd1 st p with
   | none=>rw[h1] at h;cases h
   | some s=>
     rw[h1] at h;have h2:=AC.rdL_len (st:=s) h
     have h3:s.2.length≤st.2.length+1:=by
      rcases zeF h1 with ⟨-,-,e,-⟩ | ⟨-,-,v,e,-⟩
      ·rw[e];omega
      ·rw[e];simp
     simp only[List.length_cons];omega
theorem Votes.turn {w w':World} {F:Nat→Prop} {v:Value} {vs:List Vt} {us:List Value} {r:Option Nat} (h:Votes w F v vs us) (hk:Keep (fun k=>r=some k) w w') (hr:∀ k,r=some k→∃ o:Obj,w.heap[k]?=some o∧o.isCells=false):Votes w' F v vs us:=
 ⟨h.row.turn hk hr,h.len,h.own,fun j hj=>let ⟨h2,h3⟩:=h.each j hj;⟨h2.turn hk hr,h3⟩⟩
theorem RIn.turn {w4:World} {a b:Nat} {pre:List (Str×Str)} {W W':World} {r:Option Nat} {B:Nat} (h:RIn w4 a b pre W) (hB:w4.heap.size≤B) (hk:Keep (fun k=>r=some k) W W') (h1:∀ k,r=some k→B≤k) (hr:∀ k,r=some k→∃ o:Obj,W.heap[k]?=some o∧o.isCells=false):RIn w4 a b pre W':=by
 obtain⟨⟨st,nv,us,e1,e2,e3⟩,k1⟩:=h;exact⟨⟨st,nv,us,e1,zaI e2 hk hr,e3.turn hk hr⟩,k1.next hk (fun _ _ x=>x) (fun k hk x=>by have:=h1 k x;omega)⟩
structure ROut (w5:World) (a r2 r3:Nat) (ps:List (Str×Str)) (W:World):Prop where
 bad:rdL (Bal.zero,[]) ps=none
 c2:W.heap[r2]?=some (.cells #[.pointer none] 36 (0,0))
 c3:W.heap[r3]?=some (.cells #[.int .i64 91] 33 (0,0))
 keep:Keep (fun k=>k=a∨k=r2∨k=r3) w5 W
theorem ROut.turn {w5:World} {a r2 r3:Nat} {ps:List (Str×Str)} {W W':World} {r:Option Nat} {B:Nat} (h:ROut w5 a r2 r3 ps W) (hB:w5.heap.size≤B) (hk:Keep (fun k=>r=some k) W W') (h1:∀ k,r=some k→B≤k) (hr:∀ k,r=some k→∃ o:Obj,W.heap[k]?=some o∧o.isCells=false):ROut w5 a r2 r3 ps W':=
 ⟨h.bad,zaI h.c2 hk hr,zaI h.c3 hk hr,h.keep.next hk (fun _ _ x=>x) (fun k hk x=>by have:=h1 k x;omega)⟩
theorem AC.rdL_bad {ps:List (Str×Str)} {p:Str×Str} {st:Bal×List Vt} {s0:Bal×List Vt} (h:rdL s0 ps=some st) (hp:rd1 st p=none):rdL s0 (ps ++ [p])=none:=by
 rw[AC.rdL_append,h];simp only[rdL,hp]
theorem AC.rdL_next {ps:List (Str×Str)} {p:Str×Str} {st st':Bal×List Vt} {s0:Bal×List Vt} (h:rdL s0 ps=some st) (hp:rd1 st p=some st'):rdL s0 (ps ++ [p])=some st':=by
 rw[AC.rdL_append,h];simp only[rdL,hp]
theorem zbQ (w:World) (d:Nat) (F:Nat→Prop) (D:Dk) (hD:DiskAt w d F D) (hfew:D.waits.length≤800000) :
  Calls Tryz.prog 23 #[.pointer (some ⟨d,0,none⟩)] w (AOpenPost d F w (z4E D)):=by
 obtain⟨Post,hPost⟩:=zX1 (AOpenPost d F w (z4E D));rw[← hPost];refine(callsIn_wide (n:=5)).1 ?_;refine callsIn_of_wp_marks Tryz.func23 rfl trivial ?_ rfl;simp only[Tryz.ntmps23,List.size_toArray,List.length_cons,List.length_nil,Nat.reduceAdd,Nat.reduceSub,Array.replicate_succ,Array.replicate_zero,List.push_toArray,List.append_toArray,List.nil_append,List.cons_append];have hk1:=kal w (.cells #[.pointer none] 36);have hz1:(w.alloc (.cells #[.pointer none] 36)).heap.size=w.heap.size+1:=by simp
 have hn1:=heap_alloc_new w (.cells #[.pointer none] 36);have hn:=heap_alloc_new (w.alloc (.cells #[.pointer none] 36)) (.cells #[.int .i64 0] 33);have hk2:Keep (fun _=>False) (w.alloc (.cells #[.pointer none] 36)) ((w.alloc (.cells #[.pointer none] 36)).alloc (.cells #[.int .i64 0] 33)):=(Keep.refl _ _).alloc _;have hn2:=hk2.get hn1 id;rw[hz1] at hn;have hk:=hk1.nx hk2;obtain⟨w1,hw1⟩:=zX1 ((w.alloc (.cells #[.pointer none] 36)).alloc (.cells #[.int .i64 0] 33));rw[← hw1] at hn hn2 hk;have hop:=zfX w1 d F D (DiskAt.keep hD hk (fun _ _ x=>x)) hfew;have hFl:=DiskAt.lt hD;have H1:=hid (zA1 hn (zA1 hn2 (zA1 hk (zA1 hFl hPost))));clear hk1 hk2 hz1 hn1 hn hn2 hk hD hfew hFl hPost;refine wpIn_wide.2 ?_
 go_upto_region 1 with fail
 rw[← hw1];clear hw1;go_wp2_with (at_builtin;refine z0A ?_;intro q hq);refine hop.mono ?_;intro e w2 hp;clear hop;have hop:=zcC D;obtain⟨sv,rfl,F2,hs2,hk2,hN2⟩:=hp.side;clear hp;obtain⟨hn,hn2,hk,hFl,hPost⟩:=H1.out;have hz:=z0N hn;have r2:=hk2.get hn2 (fun x=>by have:=hFl _ x;omega);have r3:=hk2.get hn (fun x=>by have:=hFl _ x;omega);have hkF:=hk.next hk2 (H:=F) (fun _ _ x=>x.elim) (fun _ _ x=>x);have hNF:∀ i,F2 i→F i∨w.heap.size+2≤i:=fun i x=>(hN2 i x).imp id fun y=>by omega
 clear hn hn2 hk hk2 hN2
 cases ho:(opS D).2.1 with
 | none=>
   rw[ho] at hs2;obtain⟨rfl,hdk⟩:=hs2;have hc0:=SO.op_none ho;have hE:z4E D=((opS D).1,none,(opS D).2.2):=by unfold z4E;rw[ho]
   have HE:=hid (zA1 hE (zA1 hdk (zA1 hkF (zA1 hNF (zA1 r2 (zA1 r3 hPost))))));obtain⟨c,hc⟩:=zX1 ((opS D).1);rw[← hc] at hc0 HE ⊢;have q1:(c != 0)=true:=by simpa using hc0
   have d2:w2.cell? ⟨w.heap.size,0,none⟩=some (.pointer none):=by simp[World.cell?,r2]
   have d3:w2.cell? ⟨w.heap.size+1,0,none⟩=some (.int .i64 0):=by simp[World.cell?,r3]
   have f2:w2.frozen? ⟨w.heap.size,0,none⟩=false:=by simp[World.frozen?,r2]
   have f3:w2.frozen? ⟨w.heap.size+1,0,none⟩=false:=by simp[World.frozen?,r3]
   clear hc hc0 hE hdk hkF hNF r2 r3 hz hPost hop;go_wp2_with (at_builtin;refine z0A ?_;intro q hq);obtain⟨hE,hdk,hkF,hNF,r2,r3,hPost⟩:=HE.out;have g2:=z0B r2 0 (.pointer none);have k2:Keep (fun k=>k=w.heap.size) w2 (w2.setCell ⟨w.heap.size,0,none⟩ (.pointer none)):=kst;have g3:=z0B (k2.get r3 (fun x=>by omega)) 0 (.int .i64 c);have k3:Keep (fun k=>k=w.heap.size+1) (w2.setCell ⟨w.heap.size,0,none⟩ (.pointer none)) ((w2.setCell ⟨w.heap.size,0,none⟩ (.pointer none)).setCell ⟨w.heap.size+1,0,none⟩ (.int .i64 c)):=kst;have g4:=k3.get g2 (fun x=>by omega);have hn2:∀ i,F2 i→i≠w.heap.size∧i≠w.heap.size+1:=fun i x=>(hNF i x).elim (fun y=>by have:=hFl i y;omega) (fun y=>by omega);refine⟨_,z7E rfl _ _ w.heap.size (w.heap.size+1) rfl rfl none c (by simp[World.cell?,g4]) (by simp[World.cell?,g3]) (by kernel_rfl) (by kernel_rfl),?_⟩;rw[hPost,hE];exact⟨_,rfl,F2,⟨rfl,(DkT.lives _ _).keep ((DkT.lives _ _).keep hdk k2 (fun i x=>(hn2 i x).1)) k3 (fun i x=>(hn2 i x).2)⟩,(hkF.next k2 (fun _ _ x=>x) (fun k hk e=>by omega)).next k3 (fun _ _ x=>x) (fun k hk e=>by omega),fun i x=>(hNF i x).imp id fun y=>by omega⟩
 | some S=>
   rw[ho] at hs2;obtain⟨b,rfl,F1,Fd,hst,hF2⟩:=hs2;have hc0:=SO.op_code ho;have hOk:=hop S ho;have hps:=hst.ok;have hfw:=hOk.few hst.facts.count;have hdead:=SO.op_dead ho
   have hE:z4E D=match rd S.ps with | none=>(91,none,(opS D).2.2) | some (b,vs)=>(0,some ⟨S,b,vs⟩,(opS D).2.2):=by
    unfold z4E;rw[ho];rfl
   rw[hc0];have hn3:=heap_alloc_new w2 (.cells #[.pointer (some ⟨b,0,none⟩),.int .u64 0,.int .i64 0,.slice none 0 0,.bool false] 86);have hk3:=kal w2 (.cells #[.pointer (some ⟨b,0,none⟩),.int .u64 0,.int .i64 0,.slice none 0 0,.bool false] 86);have hz3:(w2.alloc (.cells #[.pointer (some ⟨b,0,none⟩),.int .u64 0,.int .i64 0,.slice none 0 0,.bool false] 86)).heap.size=w2.heap.size+1:=by simp
   obtain⟨w3,hw3⟩:=zX1 (w2.alloc (.cells #[.pointer (some ⟨b,0,none⟩),.int .u64 0,.int .i64 0,.slice none 0 0,.bool false] 86));rw[← hw3] at hn3 hk3 hz3;have hn4:=heap_alloc_new w3 (.cells #[.pointer (some ⟨w2.heap.size,0,none⟩)] 36);have hk4:=kal w3 (.cells #[.pointer (some ⟨w2.heap.size,0,none⟩)] 36);have hz4:(w3.alloc (.cells #[.pointer (some ⟨w2.heap.size,0,none⟩)] 36)).heap.size=w3.heap.size+1:=by simp
   obtain⟨w4,hw4⟩:=zX1 (w3.alloc (.cells #[.pointer (some ⟨w2.heap.size,0,none⟩)] 36));rw[← hw4] at hn4 hk4 hz4;rw[hz3] at hn4 hz4;have hst4:=(hst.later hk3).later hk4;have hall:=zkC w4 b d F1 Fd (opS D).2.2 S hst4 (fun h=>by have:=hfw h;omega);have htold:told S=S.ps:=by unfold told;rw[hdead];rfl
   rw[htold] at hall;have H4:=hid (zA1 (hk4.get hn3 id) (zA1 hn4 (zA1 (hk3.nx hk4) (zA1 hst4 (zA1 hE (zA1 hkF (zA1 hNF (zA1 r2 (zA1 r3 (zA1 hPost (zA1 hps (zA1 hfw (zA1 hdead (zA1 hF2 (zA1 hz hz4)))))))))))))));have HW4:=hid (zA1 hw3 hw4);have HLt:=hid hst.ltw;clear hn3 hk3 hz3 hn4 hk4 hz4 hst hst4 hE hkF hNF r2 r3 hPost hps hfw hdead htold hF2 hz hc0 hOk hop hw3 hw4
   go_upto_region 5 with fail
   rw[← HW4.out.1,← HW4.out.2];clear HW4;go_wp2_with (at_builtin;refine z0A ?_;intro q hq);refine hall.mono ?_;rintro e w5 ⟨v,rfl,hs,hk5⟩;obtain⟨hbig,f,caps,rfl,hent,hseq⟩:=hs;have H5:=hid (zA1 hbig (zA1 hent (zA1 hseq hk5)));clear hall hbig hent hseq hk5;have hq:∀ w,(binOp .eql 134 (.func (.func f) #[] caps) .nilFunc).run Tryz.prog w = .ok (.bool false) w:=fun _=>rfl;go_wp2_with (at_builtin;refine z0A ?_;intro q hq);have hn5r2:=(H4.out.2.2.1.nx H5.out.2.2.2).get H4.out.2.2.2.2.2.2.2.1 id;have hn5r3:=(H4.out.2.2.1.nx H5.out.2.2.2).get H4.out.2.2.2.2.2.2.2.2.1 id;have hn5a:=H5.out.2.2.2.get H4.out.1 id;have hn5p:=H5.out.2.2.2.get H4.out.2.1 id;have HN:=hid (zA1 hn5r2 (zA1 hn5r3 (zA1 hn5a hn5p)));have hz4:=H4.out.2.2.2.2.2.2.2.2.2.2.2.2.2.2.2;have hz45:=H5.out.2.2.2.size;have hw12:=z0N H4.out.2.2.2.2.2.2.2.2.1;clear hn5r2 hn5r3 hn5a hn5p hq
   have hKst:∀ k,F1 k∨Fd k→¬ (k=w.heap.size∨k=w.heap.size+1∨w2.heap.size≤k):=fun k x=>by
    have h1:=HLt.out k x;have h2:=H4.out.2.2.2.2.2.2.1 k (by rw[H4.out.2.2.2.2.2.2.2.2.2.2.2.2.2.1];exact x)
    rcases h2 with h2 | h2
    ·have:=hFl k h2;omega
    ·omega
   have hKf:∀ W9,Keep (fun k=>k=w.heap.size∨k=w.heap.size+1∨w2.heap.size≤k) w4 W9→Keep F w W9:=fun W9 h=>
    (H4.out.2.2.2.2.2.1.next H4.out.2.2.1 (fun _ _ x=>x) (fun _ _ x=>x.elim)).next h (fun _ _ x=>x) (fun k hk x=>by omega)
   have hNf:∀ i,F1 i∨Fd i→F i∨w.heap.size≤i:=fun i x=>(H4.out.2.2.2.2.2.2.1 i (by rw[H4.out.2.2.2.2.2.2.2.2.2.2.2.2.2.1];exact x)).imp id fun y=>by omega
   have HBad:=hid (show rd S.ps=none→∀ W9,Keep (fun k=>k=w.heap.size∨k=w.heap.size+1∨w2.heap.size≤k) w4 W9→Post (.returned (.tuple #[.pointer none,.int .i64 91])) W9 from fun h W9 hk=>by
    rw[H4.out.2.2.2.2.2.2.2.2.2.1,H4.out.2.2.2.2.1,h]
    exact⟨_,rfl,Fd,⟨rfl,DiskAt.keep H4.out.2.2.2.1.diskAt hk (fun k x=>hKst k (.inr x))⟩,hKf W9 hk,fun i x=>hNf i (.inr x)⟩)
   have HGood:=hid (show ∀ b9 vs9,rd S.ps=some (b9,vs9)→∀ W9 nv us,W9.heap[w2.heap.size]?=some (.cells (accC b b9 nv false) 86 (0,0))→Votes W9 (fun k=>w5.heap.size≤k) nv vs9 us→
    Keep (fun k=>k=w.heap.size∨k=w.heap.size+1∨w2.heap.size≤k) w4 W9→Post (.returned (.tuple #[.pointer (some ⟨w2.heap.size,0,none⟩),.int .i64 0])) W9 from fun b9 vs9 h W9 nv us hb hv hk=>by
    rw[H4.out.2.2.2.2.2.2.2.2.2.1,H4.out.2.2.2.2.1,h];refine⟨_,rfl,fun k=>k=w2.heap.size∨(F1 k∨Fd k)∨(w5.heap.size≤k∧k<W9.heap.size),⟨_,rfl,b,nv,fun k=>k=w2.heap.size,fun k=>F1 k∨Fd k,_,⟨by rw[H4.out.2.2.2.2.2.2.2.2.2.2.2.2.1];exact hb,rfl,fun k e=>by rw[e];exact z0N hb⟩,⟨F1,Fd,H4.out.2.2.2.1.keep hk (fun k x=>hKst k (.inl x)) (fun k x=>hKst k (.inr x)),rfl⟩,⟨⟨us,hv.lts⟩,fun k x=>x.2⟩,fun k e x=>?_,fun k e x=>?_,fun k x y=>?_,rfl⟩,hKf W9 hk,fun i x=>?_⟩
    ·subst e;exact hKst _ x (.inr (.inr (Nat.le_refl _)))
    ·have h1:k=w2.heap.size:=e
     have h2:=x.1;omega
    ·have h1:=HLt.out k x
     have h2:=y.1;omega
    ·rcases x with x | x | x
     ·exact .inr (by omega)
     ·exact hNf i x
     ·exact .inr (by have:=x.1;omega))
   clear hKst hKf hNf;refine(wpIn_wide (n:=5)).1 ?_
   refine' wpIn_rangeFunc_ownF rfl (by omega) (gf:=f) (lb:=caps) rfl trivial H5.out.2.1 (H5.out.2.2.1 4 w5 (by omega) (Keep.refl _ _)) (fun h k=>h.tr k) (fun W l o o' hl _ _ _=>z3M W l o' (.inr hl)) (Below.refl _ _) (fun _=>rfl)
    (fun pre W=>RIn w5 w2.heap.size b (pre.map Subtype.val) W) (fun cc pre W=>cc = .ret∧ROut w5 w2.heap.size w.heap.size (w.heap.size+1) (pre.map Subtype.val) W) (z7I fun s W W' r h hk h1 hr=>h.turn (Nat.le_refl _) hk h1 hr)
    (fun cc=>z7I fun s W W' r h hk h1 hr=>⟨h.1,h.2.turn (Nat.le_refl _) hk h1 hr⟩)
    ⟨⟨(Bal.zero,[]),.slice none 0 0,[],rfl,HN.out.2.2.1,Votes.nil _ _⟩,Keep.refl _ _⟩ _ ?assign ?body ?done ?stop
   case assign=>
    intro l x W K hK;simp only[encP]
    gi_wp2
    exact hK
   case body=>
    rintro l pre ⟨x,hx⟩ W hR hlt;obtain⟨qs,hqs⟩:=zX1 (pre.map Subtype.val);have hql:qs.length=pre.length:=by rw[hqs,List.length_map]
    have HQ:=hid (show List.map Subtype.val (pre ++ [(⟨x,hx⟩:InP S.ps)])=qs ++ [x] by rw[hqs];simp);rw[← hqs] at hR;rw[← hql] at hlt;clear hqs hql;obtain⟨⟨st,nv,us,e1,e2,e3⟩,hkW⟩:=hR;have hlen:=AC.rdL_len e1;have hpl:=H4.out.2.2.2.2.2.2.2.2.2.2.2.1 H4.out.2.2.2.2.2.2.2.2.2.2.2.2.1;have hsw:=hkW.size;have hok:=H4.out.2.2.2.2.2.2.2.2.2.2.1.each x hx;obtain⟨o1,o2,o3⟩:=hok;have hrd:=zmD W w2.heap.size b w5.heap.size (by omega) hsw st nv us x.1 x.2 e2 e3 (by omega) (by omega) (by simp only[List.length_nil,Nat.zero_add] at hlen;omega);have b1:=hkW.get HN.out.2.2.2 (fun x=>by omega);have b2:=hkW.get HN.out.1 (fun x=>by omega);have b3:=hkW.get HN.out.2.1 (fun x=>by omega);have c6:W.cell? ⟨w2.heap.size+1,0,none⟩=some (.pointer (some ⟨w2.heap.size,0,none⟩)):=by simp[World.cell?,b1]
    have HB:=hid (zA1 e1 (zA1 e2 (zA1 e3 (zA1 hkW (zA1 b2 (zA1 b3 hx))))));have hxp:(fun p:InP S.ps=>p.1) ⟨x,hx⟩=x:=rfl;simp only;clear e1 e2 e3 hkW b1 b2 b3 hlen hpl o1 o2 o3 hlt hxp
    gi_wp2
    refine⟨trivial,(CallsIn.inRound l (callsIn_wide.2 hrd)).mono ?_⟩;rintro e W2 ⟨hk2,hres⟩;clear hrd;obtain⟨e1,e2,e3,hkW,b2,b3,-⟩:=HB.out;have hnr2:¬ (w.heap.size=w2.heap.size∨nv.ownBlock=some w.heap.size):=fun x=>x.elim (fun y=>by omega) (fun y=>by have:w5.heap.size≤w.heap.size:=e3.own _ y;omega);have hnr3:¬ (w.heap.size+1=w2.heap.size∨nv.ownBlock=some (w.heap.size+1)):=fun x=>x.elim (fun y=>by omega) (fun y=>by have:w5.heap.size≤w.heap.size+1:=e3.own _ y;omega);have b2:=hk2.get b2 hnr2;have b3:=hk2.get b3 hnr3
    have hoth:KeepsOthers W W2:=zfP hk2 (fun k h=>by
     rcases h with rfl | h
     ·exact⟨_,_,_,e2⟩
     ·obtain⟨-,⟨h0,-⟩ | ⟨g,cap,cur,fz,h0,hg,-⟩⟩:=e3.row
      ·rw[h0] at h;simp[Value.ownBlock] at h
      ·rw[h0] at h;simp[Value.ownBlock] at h;subst h;exact⟨_,_,_,hg⟩)
    have hkK:Keep (fun k=>k<w4.heap.size∨w5.heap.size≤k) W W2:=hk2.mono fun k _ h=>h.elim (fun y=>.inl (by omega)) (fun y=>.inr (e3.own _ y));have hk5:Keep (fun k=>k=w2.heap.size) w5 W2:=hkW.next hk2 (fun _ _ x=>x) (fun k hk h=>h.elim id fun y=>by have:w5.heap.size≤k:=e3.own _ y;omega)
    cases hr1:rd1 st x with
    | none=>
      have hbad:=AC.rdL_bad e1 hr1;rw[show rd1 st (x.1,x.2)=none from hr1] at hres;subst hres;have d2:W2.cell? ⟨w.heap.size,0,none⟩=some (.pointer none):=by simp[World.cell?,b2]
      have d3:W2.cell? ⟨w.heap.size+1,0,none⟩=some (.int .i64 0):=by simp[World.cell?,b3]
      have f2:W2.frozen? ⟨w.heap.size,0,none⟩=false:=by simp[World.frozen?,b2]
      have f3:W2.frozen? ⟨w.heap.size+1,0,none⟩=false:=by simp[World.frozen?,b3]
      have HC:=hid (zA1 hbad (zA1 b2 (zA1 b3 (zA1 hoth (zA1 hkK hk5)))));clear e1 e2 e3 hkW b2 b3 hnr2 hnr3 hoth hkK hk5 hk2 hbad hr1
      gi_wp2
      obtain⟨hbad,b2,b3,hoth,hkK,hk5⟩:=HC.out;rw[← HQ.out] at hbad;have g2:=z0B b2 0 (.pointer none);have k2:Keep (fun k=>k=w.heap.size) W2 (W2.setCell ⟨w.heap.size,0,none⟩ (.pointer none)):=kst;have g3:=z0B (k2.get b3 (fun x=>by omega)) 0 (.int .i64 91);have k3:Keep (fun k=>k=w.heap.size+1) (W2.setCell ⟨w.heap.size,0,none⟩ (.pointer none)) ((W2.setCell ⟨w.heap.size,0,none⟩ (.pointer none)).setCell ⟨w.heap.size+1,0,none⟩ (.int .i64 91)):=kst;have g4:=k3.get g2 (fun x=>by omega);obtain⟨-,-,-,-,c2,c3,-⟩:=HB.out;refine⟨⟨Nat.le_trans hoth.size (Nat.le_trans k2.size k3.size),fun k o h hc=>?_⟩,rfl,⟨hbad,g4,g3,(hk5.next k2 (H:=fun k=>k=w2.heap.size∨k=w.heap.size∨k=w.heap.size+1) (fun _ _ x=>.inl x) (fun _ _ x=>.inr (.inl x))).next k3 (fun _ _ x=>x) (fun _ _ x=>.inr (.inr x))⟩⟩;refine k3.get (k2.get (hoth.same k o h hc) (fun e=>?_)) (fun e=>?_)
      ·subst e;rw[c2] at h;cases h;cases hc
      ·subst e;rw[c3] at h;cases h;cases hc
    | some st'=>
      rw[show rd1 st (x.1,x.2)=some st' from hr1] at hres;obtain⟨rfl,nv',us',g1,g2⟩:=hres;have HC:=hid (show RIn w5 w2.heap.size b (qs ++ [x]) W2 from⟨⟨st',nv',us',AC.rdL_next e1 hr1,g1,g2⟩,hk5⟩);have HD:=hid (zA1 hoth hkK);clear e1 e2 e3 hkW b2 b3 hnr2 hnr3 hoth hkK hk5 hk2 hr1 g1 g2
      gi_wp2
      have hz:=HC.out;rw[← HQ.out] at hz;exact⟨HD.out.1,HD.out.2,hz⟩
   case done=>
    rintro Db xs W hD rfl hR hK;rw[List.attach_map_subtype_val] at hR;obtain⟨⟨st,nv,us,e1,e2,e3⟩,hkW⟩:=hR;obtain⟨ao,nc,rfl,hnc,hncm,-⟩:=e3.row.form;obtain⟨n,hn⟩:=zX1 (st.2.length);have hlen:=AC.rdL_len e1;have hpl:=H4.out.2.2.2.2.2.2.2.2.2.2.2.1 H4.out.2.2.2.2.2.2.2.2.2.2.2.2.1;have hn6:n≤200000:=by simp only[List.length_nil,Nat.zero_add] at hlen;omega
    have b1:=hkW.get HN.out.2.2.2 (fun x=>by omega);have b2:=hkW.get HN.out.1 (fun x=>by omega);have b3:=hkW.get HN.out.2.1 (fun x=>by omega);have c6:W.cell? ⟨w2.heap.size+1,0,none⟩=some (.pointer (some ⟨w2.heap.size,0,none⟩)):=by simp[World.cell?,b1]
    have e2':=e2;rw[← hn] at e2';obtain⟨p0,p1,p2,p3,p4,pf,pb⟩:=z1Z e2';have HB:=hid (zA1 e1 (zA1 e2 (zA1 e3 (zA1 hkW (zA1 b2 (zA1 b3 (zA1 hK (zA1 hD (zA1 hn (zA1 b1 trivial))))))))));clear e1 e2 e3 hkW b1 b2 b3 hK hD hn e2' hlen hpl p0 p4 pf pb hnc;go_wp2_with (at_builtin;refine z0A ?_;intro q hq)
    go_loopw [36] (fun iv wr=>∃ i:Nat,i≤n∧iv = .int .i64 i∧Hid (Keep (fun _=>False) W wr∧∀ j (hj:j<st.2.length),j<i→less st.1 st.2[j].bal=false)) (fun iv _=>n - (intOf iv).toNat)
    case atStart=>exact⟨0,Nat.zero_le _,rfl,hid ⟨Keep.refl _ _,fun j _ x=>by omega⟩⟩
    case round=>
     obtain⟨i,hi,rfl,HR⟩:=hrel;have c6:=z0E HR.out.1 _ _ c6;have p1:=z0E HR.out.1 _ _ p1;have p2:=z0E HR.out.1 _ _ p2
     by_cases hin:i<n
     ·have q1:(i:Int)<(n:Int):=by omega
      have hil:i<st.2.length:=by have:=HB.out.2.2.2.2.2.2.2.2.1;omega
      obtain⟨g',ua,uc,rfl,hcell,-⟩:=(HB.out.2.2.1.keep HR.out.1 (fun _ _ x=>x)).get i hil;obtain⟨x,hx⟩:=zX1 (st.2[i]);rw[← hx] at hcell;obtain⟨xl,hxl⟩:=zX1 (x.val.length);have a0:=hcell 0 _ rfl;have a1:=hcell 1 _ rfl;have a2:=hcell 2 _ rfl;have a3:=hcell 3 _ rfl;rw[Nat.add_zero] at a0;rw[← hxl] at a3;have HX:=hid (show ∃ h:i<st.2.length,x=st.2[i] from⟨hil,hx⟩);clear hcell hx hxl hil
      go_upto_region 13 with fail
      have hn2:=heap_alloc_new wr (.cells #[.int .u64 (x.slot:Int),.int .u64 (x.bal.n:Int),.int .i64 x.bal.node,.slice ua xl uc] 31);have hk2:=kal wr (.cells #[.int .u64 (x.slot:Int),.int .u64 (x.bal.n:Int),.int .i64 x.bal.node,.slice ua xl uc] 31);obtain⟨w6,hw6⟩:=zX1 (wr.alloc (.cells #[.int .u64 (x.slot:Int),.int .u64 (x.bal.n:Int),.int .i64 x.bal.node,.slice ua xl uc] 31));rw[← hw6] at hn2 hk2 ⊢;clear hw6 a0 a1 a2 a3;obtain⟨a0,a1,a2,a3,af,ab⟩:=z7Z hn2;obtain⟨lb,hlb⟩:=zX1 (less st.1 x.bal);have HL1:=hid (fun s:Later w6=>show Calls Tryz.prog 36 #[balV st.1,balV x.bal] s.val fun e w'=>e = .returned (.bool lb)∧Keep (fun _=>False) s.val w' from by rw[hlb];exact z8E s.val st.1 x.bal);have HLB:=hid hlb;have j0:=fun s:Later w6=>s.cell (z0E hk2 _ _ c6);have j1:=fun s:Later w6=>s.cell (z0E hk2 _ _ p1);have j2:=fun s:Later w6=>s.cell (z0E hk2 _ _ p2);have j3:=fun s:Later w6=>s.cell a1;have j4:=fun s:Later w6=>s.cell a2;have HK:=hid (HR.out.1.nx hk2);clear hlb hk2 hn2 a0 a3 af ab
      (refine z0W (by kernel_rfl) (by kernel_rfl) ?_;(repeat (go_big_quiet_step ((go_at_call 36;exact Later.call (HL1.out _)))));refine wpQuiet_nil ?_;rintro _ ⟨sq,rfl⟩)
      have hk3:=sq.keep;obtain⟨w7,hw7⟩:=zX1 (sq.val);rw[← hw7] at hk3 ⊢;clear hw7 sq j0 j1 j2 j3 j4 HL1;have HK:=hid (HK.out.nx hk3);clear hk3
      cases lb with
      | true=>
        have b2:=HK.out.get HB.out.2.2.2.2.1 id;have b3:=HK.out.get HB.out.2.2.2.2.2.1 id;have d2:w7.cell? ⟨w.heap.size,0,none⟩=some (.pointer none):=by simp[World.cell?,b2]
        have d3:w7.cell? ⟨w.heap.size+1,0,none⟩=some (.int .i64 0):=by simp[World.cell?,b3]
        have f2:w7.frozen? ⟨w.heap.size,0,none⟩=false:=by simp[World.frozen?,b2]
        have f3:w7.frozen? ⟨w.heap.size+1,0,none⟩=false:=by simp[World.frozen?,b3]
        have H7:=hid (zA1 b2 b3);clear b2 b3;go_wp2_with (at_builtin;refine z0A ?_;intro q hq);have hD:=HB.out.2.2.2.2.2.2.2.1;have g2:=z0B H7.out.1 0 (.pointer none);have k2:Keep (fun k=>k=w.heap.size) w7 (w7.setCell ⟨w.heap.size,0,none⟩ (.pointer none)):=kst;have g3:=z0B (k2.get H7.out.2 (fun x=>by omega)) 0 (.int .i64 91);have k3:Keep (fun k=>k=w.heap.size+1) (w7.setCell ⟨w.heap.size,0,none⟩ (.pointer none)) ((w7.setCell ⟨w.heap.size,0,none⟩ (.pointer none)).setCell ⟨w.heap.size+1,0,none⟩ (.int .i64 91)):=kst;have g4:=k3.get g2 (fun x=>by omega);have hK8:=k3.get (k2.get (HK.out.get HB.out.2.2.2.2.2.2.1 id) (fun x=>by omega)) (fun x=>by omega);obtain⟨w8,hw8⟩:=zX1 ((w7.setCell ⟨w.heap.size,0,none⟩ (.pointer none)).setCell ⟨w.heap.size+1,0,none⟩ (.int .i64 91));rw[← hw8] at g3 g4 k3 hK8 ⊢;have hkD:=z3M (K:=fun k=>k=Db) w8 Db (.deferred none) rfl;have g5:=hkD.get g3 (fun x=>by omega);have g6:=hkD.get g4 (fun x=>by omega);refine⟨by simp,.inl ⟨_,_,rfl,run_takeDeferred hK8,?_⟩⟩;refine⟨_,z7E rfl _ _ w.heap.size (w.heap.size+1) rfl rfl none 91 (by simp[World.cell?,g6]) (by simp[World.cell?,g5]) (by kernel_rfl) (by kernel_rfl),HBad.out ?_ _ ?_⟩
        ·obtain⟨h1,h2⟩:=HX.out
         unfold rd;rw[HB.out.1];simp only;rw[if_pos];exact List.any_eq_true.2 ⟨x,by rw[h2];exact List.getElem_mem _,HLB.out.symm⟩
        ·exact((((H5.out.2.2.2.next HB.out.2.2.2.1 (fun _ _ x=>x.elim) (fun k _ e=>.inr (.inr (by rw[show k=w2.heap.size from e];exact Nat.le_refl _)))).next HK.out (fun _ _ x=>x) (fun _ _ x=>x.elim)).next k2 (fun _ _ x=>x) (fun _ _ e=>.inl e)).next k3 (fun _ _ x=>x) (fun _ _ e=>.inr (.inl e))).next hkD (fun _ _ x=>x) (fun k _ e=>.inr (.inr (by rw[show k=Db from e];omega)))
      | false=>
        have HZ:=hid (show Keep (fun _=>False) W w7∧∀ j (hj:j<st.2.length),j<i+1→less st.1 st.2[j].bal=false from⟨HK.out,fun j hj hji=>by
         rcases Nat.lt_or_eq_of_le (Nat.le_of_lt_succ hji) with y | y
         ·exact HR.out.2 j hj y
         ·subst y
          obtain⟨h1,h2⟩:=HX.out;rw[← h2]
          exact HLB.out.symm⟩)
        go_wp2_with (at_builtin;refine z0A ?_;intro q hq);go_roundw
        case rel=>exact⟨i+1,by omega,by go_num,HZ⟩
        case measure=>simp[intOf];omega
     ·have q1:decide ((i:Int)<(n:Int))=false:=by simp;omega
      have q2:decide (i<n)=false:=decide_eq_false hin;have b2:=HR.out.1.get HB.out.2.2.2.2.1 id;have b3:=HR.out.1.get HB.out.2.2.2.2.2.1 id;have d2:wr.cell? ⟨w.heap.size,0,none⟩=some (.pointer none):=by simp[World.cell?,b2]
      have d3:wr.cell? ⟨w.heap.size+1,0,none⟩=some (.int .i64 0):=by simp[World.cell?,b3]
      have f2:wr.frozen? ⟨w.heap.size,0,none⟩=false:=by simp[World.frozen?,b2]
      have f3:wr.frozen? ⟨w.heap.size+1,0,none⟩=false:=by simp[World.frozen?,b3]
      have H7:=hid (zA1 b2 b3);clear b2 b3;go_wp2_with (at_builtin;refine z0A ?_;intro q hq);have hD:=HB.out.2.2.2.2.2.2.2.1;have g2:=z0B H7.out.1 0 (.pointer (some ⟨w2.heap.size,0,none⟩));have k2:Keep (fun k=>k=w.heap.size) wr (wr.setCell ⟨w.heap.size,0,none⟩ (.pointer (some ⟨w2.heap.size,0,none⟩))):=kst;have g3:=z0B (k2.get H7.out.2 (fun x=>by omega)) 0 (.int .i64 0);have k3:Keep (fun k=>k=w.heap.size+1) (wr.setCell ⟨w.heap.size,0,none⟩ (.pointer (some ⟨w2.heap.size,0,none⟩))) ((wr.setCell ⟨w.heap.size,0,none⟩ (.pointer (some ⟨w2.heap.size,0,none⟩))).setCell ⟨w.heap.size+1,0,none⟩ (.int .i64 0)):=kst;have g4:=k3.get g2 (fun x=>by omega);have hK8:=k3.get (k2.get (HR.out.1.get HB.out.2.2.2.2.2.2.1 id) (fun x=>by omega)) (fun x=>by omega);obtain⟨w8,hw8⟩:=zX1 ((wr.setCell ⟨w.heap.size,0,none⟩ (.pointer (some ⟨w2.heap.size,0,none⟩))).setCell ⟨w.heap.size+1,0,none⟩ (.int .i64 0));rw[← hw8] at g3 g4 k3 hK8 ⊢;have hkD:=z3M (K:=fun k=>k=Db) w8 Db (.deferred none) rfl;have g5:=hkD.get g3 (fun x=>by omega);have g6:=hkD.get g4 (fun x=>by omega)
      have hkz:Keep (fun k=>k=w.heap.size∨k=w.heap.size+1∨k=Db) W (w8.putObj Db (.deferred none)):=
       (((HR.out.1.next k2 (H:=fun k=>k=w.heap.size∨k=w.heap.size+1∨k=Db) (fun _ _ x=>x.elim) (fun _ _ e=>.inl e)).next k3 (fun _ _ x=>x) (fun _ _ e=>.inr (.inl e))).next hkD (fun _ _ x=>x) (fun _ _ e=>.inr (.inr e)))
      have hnb:∀ k,w5.heap.size≤k→k≠Db→¬ (k=w.heap.size∨k=w.heap.size+1∨k=Db):=fun k h1 h2=>by omega
      refine⟨by simp,.inl ⟨_,_,rfl,run_takeDeferred hK8,?_⟩⟩;refine⟨_,z7E rfl _ _ w.heap.size (w.heap.size+1) rfl rfl (some ⟨w2.heap.size,0,none⟩) 0 (by simp[World.cell?,g6]) (by simp[World.cell?,g5]) (by kernel_rfl) (by kernel_rfl),HGood.out st.1 st.2 ?_ _ _ us (hkz.get HB.out.2.1 (fun x=>by omega)) ?_ ?_⟩
      ·unfold rd
       rw[HB.out.1];simp only;rw[if_neg];intro h;obtain⟨v,hv,h2⟩:=List.any_eq_true.1 h;obtain⟨j,hj,e⟩:=List.mem_iff_getElem.1 hv;have:=HR.out.2 j hj (by have:=HB.out.2.2.2.2.2.2.2.2.1;omega);rw[e] at this;rw[this] at h2;cases h2
      ·exact(((HB.out.2.2.1.keep HR.out.1 (fun _ _ x=>x)).keep k2 (fun k x e=>by have h1:w5.heap.size≤k:=x;have h2:k=w.heap.size:=e;omega)).keep k3 (fun k x e=>by have h1:w5.heap.size≤k:=x;have h2:k=w.heap.size+1:=e;omega)).turn (r:=some Db) (hkD.mono fun k _ e=>by subst e;rfl) (fun k e=>by cases e;exact⟨_,hK8,rfl⟩)
      ·exact(H5.out.2.2.2.next HB.out.2.2.2.1 (fun _ _ x=>x.elim) (fun k _ e=>.inr (.inr (by rw[show k=w2.heap.size from e];exact Nat.le_refl _)))).next hkz (fun _ _ x=>x) (fun k _ e=>e.elim .inl fun e=>e.elim (fun e=>.inr (.inl e)) fun e=>.inr (.inr (by omega)))
   case stop=>
    rintro Db cc pre W hD hpre ⟨rfl,hR⟩ hK
    have hbad:rdL (Bal.zero,[]) S.ps=none:=by
     obtain⟨t,ht⟩:=hpre;have h2:=congrArg (List.map Subtype.val) ht;rw[List.attach_map_subtype_val,List.map_append] at h2;rw[← h2,AC.rdL_append,hR.bad]
    have hrd:rd S.ps=none:=by unfold rd;rw[hbad]
    have hkD:=z3M (K:=fun k=>k=Db) W Db (.deferred none) rfl;have hDl:=hR.keep.size;have g5:=hkD.get hR.c3 (fun x=>by omega);have g6:=hkD.get hR.c2 (fun x=>by omega);have hbk:=HBad.out hrd (W.putObj Db (.deferred none)) ((H5.out.2.2.2.next hR.keep (H:=fun k=>k=w.heap.size∨k=w.heap.size+1∨w2.heap.size≤k) (fun _ _ x=>x.elim) (fun k _ e=>e.elim (fun e=>.inr (.inr (by omega))) fun e=>e.elim .inl fun e=>.inr (.inl e))).next hkD (fun _ _ x=>x) (fun k _ e=>.inr (.inr (by rw[show k=Db from e];omega))));have HZ:=hid (zA1 hbk (zA1 g5 (zA1 g6 hK)));clear hbk g5 g6 hK hkD hDl hrd hbad hpre hR;refine wpIn_wide.2 ?_;go_wp2_with (at_builtin;refine z0A ?_;intro q hq);obtain⟨hbk,g5,g6,hK⟩:=HZ.out;refine⟨by simp,.inl ⟨_,_,rfl,run_takeDeferred hK,?_⟩⟩;exact⟨_,z7E rfl _ _ w.heap.size (w.heap.size+1) rfl rfl none 91 (by simp[World.cell?,g6]) (by simp[World.cell?,g5]) (by kernel_rfl) (by kernel_rfl),hbk⟩
end
section
open Go.RowKit Go.Maps
open MI SO BM DM WM AC
def RAcP (d:Nat) (D:Dk) (o:Option Ac) (rv:Value):Thing:=fun w F=>
 match o with
 | none=>rv = .pointer none∧RkT d D w F
 | some A=>∃ a,rv = .pointer (some ⟨a,0,none⟩)∧RAcT a d D A.s w F
def RAOpenPost (d:Nat) (F:Nat→Prop) (w:World) (R:Int×Option Ac×Dk) (e:Ending) (w':World):Prop:=
 ∃ rv,e = .returned (.tuple #[rv,.int .i64 R.1])∧Turns (RAcP d R.2.2 R.2.1 rv) F w w'
theorem RStoT.count {b d:Nat} {D:Dk} {S:St} {w:World} {F:Nat→Prop} (h:RStoT b d D S w F):S.g.l.length≤4000∧PsOk S.ps:=by
 obtain⟨F1,F2,⟨wb,pv,Fl,H⟩,-⟩:=h;obtain⟨vl,vs,L⟩:=H.log;exact⟨L.wal.ok.count,H.ok⟩
theorem AC.openA_none {D:Dk} (ho:(opS D).2.1=none):z4E D=((opS D).1,none,(opS D).2.2):=by unfold z4E;rw[ho]
theorem AC.openA_bad {D:Dk} {S:St} (ho:(opS D).2.1=some S) (hs:Sorted S.ps) (h:z8L S.ps=false):z4E D=(91,none,(opS D).2.2):=by
 rw[zeY hs] at h;unfold z4E;rw[ho];simp only
 cases hr:rd S.ps with
 | none=>rfl
 | some st=>rw[hr] at h;cases h
theorem AC.openA_good {D:Dk} {S:St} (ho:(opS D).2.1=some S) (hs:Sorted S.ps) (h:z8L S.ps=true):∃ b vs,z4E D=(0,some ⟨S,b,vs⟩,(opS D).2.2):=by
 rw[zeY hs] at h;unfold z4E;rw[ho];simp only
 cases hr:rd S.ps with
 | none=>rw[hr] at h;cases h
 | some st=>exact⟨st.1,st.2,rfl⟩
theorem AC.docOk_no {ps:List (Str×Str)} {x:Str×Str} (hx:x ∈ ps) (h:z3Z (docB ps) x=false):z8L ps=false:=by
 unfold z8L;rw[List.all_eq_false];exact⟨x,hx,by rw[h];decide⟩
theorem AC.docOk_yes {ps:List (Str×Str)} (h:∀ j (hj:j<ps.length),z3Z (docB ps) ps[j]=true):z8L ps=true:=by
 unfold z8L;rw[List.all_eq_true];intro x hx;obtain⟨j,hj,rfl⟩:=List.mem_iff_getElem.1 hx;exact h j hj
end
section
open Go.RowKit Go.Maps
open MI SO BM DM WM AC
theorem zkL (w:World) (d:Nat) (F:Nat→Prop) (D:Dk) (hD:RefAt w d F D) (hfew:D.waits.length≤800000) :
  Calls Tryz.prog 24 #[.pointer (some ⟨d,0,none⟩)] w (RAOpenPost d F w (z4E D)):=by
 obtain⟨Post,hPost⟩:=zX1 (RAOpenPost d F w (z4E D));rw[← hPost];have HP:=hid hPost;have hop:=zdA w d F D hD hfew;clear hPost hD hfew;go_enter Tryz.func24,Tryz.ntmps24;go_wp2_with (at_builtin;refine z0A ?_;intro q hq);refine hop.mono ?_;intro e w1 hp;obtain⟨sv,rfl,ht⟩:=hp.side;clear hop hp
 cases ho:(opS D).2.1 with
 | none=>
   rw[ho] at ht;obtain⟨F',⟨rfl,hdk⟩,hk,hn⟩:=ht
   have fin:Post (.returned (.tuple #[.pointer none,.int .i64 (opS D).1])) w1:=by
    rw[HP.out,AC.openA_none ho];exact⟨_,rfl,F',⟨rfl,hdk⟩,hk,hn⟩
   have HF:=hid fin;have hc0:=SO.op_none ho;clear fin hdk hk hn ho;obtain⟨c,hc⟩:=zX1 ((opS D).1);rw[← hc] at hc0 HF ⊢;have q1:(c != 0)=true:=by simpa using hc0
   have q2:decide (c=0)=false:=decide_eq_false hc0;clear hc hc0;go_wp2_with (at_builtin;refine z0A ?_;intro q hq);exact HF.out
 | some S=>
   rw[ho] at ht;obtain⟨F',⟨sb,rfl,hst⟩,hk,hn⟩:=ht;rw[SO.op_code ho];obtain⟨hcnt,hpsok⟩:=hst.count;have hdead:=SO.op_dead ho;have hfw:=(zcC D S ho).few hcnt hdead;have hlt:=(RStoT.lives _ _ _ _).lt hst;have hn2:=heap_alloc_new w1 (.cells #[.pointer (some ⟨sb,0,none⟩)] 138);have hk2:=kal w1 (.cells #[.pointer (some ⟨sb,0,none⟩)] 138);obtain⟨w2,hw2⟩:=zX1 (w1.alloc (.cells #[.pointer (some ⟨sb,0,none⟩)] 138));rw[← hw2] at hn2 hk2;have hst2:=(RStoT.lives _ _ _ _).keep hst hk2 (fun _ _ x=>x);have hbx:=z0N hn2;have hac:RAcT w1.heap.size d (opS D).2.2 S w2 (fun k=>k=w1.heap.size∨F' k):=⟨sb,fun k=>k=w1.heap.size,F',⟨hn2,rfl,fun k e=>by rw[e];exact hbx⟩,hst2,fun i x y=>by have:=hlt i y;omega,rfl⟩;obtain⟨F1,F2,⟨wb,pv,Fl,h2⟩,hFe⟩:=id hst2;have L:RLook w2 w1.heap.size sb pv (.pointer (some ⟨wb,0,none⟩)) S:=⟨hn2,h2.head,h2.row,h2.ok⟩;have hpr:=zdI w2 _ sb pv _ S L (by omega);rw[hdead,if_neg (by decide)] at hpr;have hdk:RkT d (opS D).2.2 w2 F2:=RStoAt.diskAt ⟨wb,pv,Fl,h2⟩;have hkw:=hk.next hk2 (H:=F) (fun _ _ x=>x) (fun _ _ x=>x.elim);have hsz:=hk.size
   have HBad:=hid (show z8L S.ps=false→∀ W9,Keep (fun _=>False) w2 W9→Post (.returned (.tuple #[.pointer none,.int .i64 91])) W9 from fun h W9 hk9=>by
    rw[HP.out,AC.openA_bad ho hpsok.sorted h]
    exact⟨_,rfl,F2,⟨rfl,(RkT.lives _ _).keep hdk hk9 (fun _ _ x=>x)⟩,hkw.next hk9 (fun _ _ x=>x) (fun _ _ x=>x.elim),fun i x=>hn i (by rw[hFe];exact .inr x)⟩)
   have HGood:=hid (show z8L S.ps=true→∀ W9,Keep (fun _=>False) w2 W9→Post (.returned (.tuple #[.pointer (some ⟨w1.heap.size,0,none⟩),.int .i64 0])) W9 from fun h W9 hk9=>by
    obtain⟨b,vs,e⟩:=AC.openA_good ho hpsok.sorted h;rw[HP.out,e]
    exact⟨_,rfl,_,⟨w1.heap.size,rfl,(RAcT.lives _ _ _ _).keep hac hk9 (fun _ _ x=>x)⟩,hkw.next hk9 (fun _ _ x=>x) (fun _ _ x=>x.elim),fun i x=>x.elim (fun y=>.inr (by omega)) (fun y=>hn i y)⟩)
   have hlong:∀ p ∈ S.ps,p.1.length≤1000000∧p.2.length≤1000000:=fun p hp=>by have:=hpsok.each p hp;have h1:=this.2.1;have h2:=this.2.2;omega
   obtain⟨ps,hps⟩:=zX1 (S.ps);have hrow:=L.row;obtain⟨-,s1,-,-,-⟩:=zhG L.sto;obtain⟨ao,pc,hpv,-⟩:=hrow.form;subst hpv;rw[← hps] at hpr HBad HGood hlong hrow s1 hfw;obtain⟨n,hnn⟩:=zX1 (ps.length);rw[← hnn] at hrow s1 hfw;obtain⟨T,hT⟩:=zX1 (docB ps);rw[← hT] at hpr;have HR:=hid (zA1 hnn (zA1 hrow (zA1 hlong hT)));clear hst hst2 hac h2 L hdk hkw hFe hk hn hk2 hn2 hlt hcnt hpsok hdead hbx hsz hps hrow hnn hT hlong ho
   go_upto_region 5 with fail
   rw[← hw2];clear hw2;go_wp2_with (at_builtin;refine z0A ?_;intro q hq);refine hpr.mono ?_;rintro e w3 ⟨rfl,hk3⟩;clear hpr;have s1:=z0E hk3 _ _ s1;have hn4:=heap_alloc_new w3 (.cells (balC T) 28);have hk4:=kal w3 (.cells (balC T) 28)
   go_upto_region 6 with fail
   obtain⟨w4,hw4⟩:=zX1 (w3.alloc (.cells (balC T) 28));rw[← hw4] at hn4 hk4 ⊢;clear hw4;have s1:=z0E hk4 _ _ s1;have HK4:=hid (zA1 (hk3.nx hk4) hn4);clear hk3 hk4 hn4;go_wp2_with (at_builtin;refine z0A ?_;intro q hq)
   go_loopw [8] (fun iv wr=>∃ i:Nat,i≤n∧iv = .int .i64 i∧Hid (Keep (fun _=>False) w4 wr∧∀ j (hj:j<ps.length),j<i→z3Z (docB ps) ps[j]=true)) (fun iv _=>n - (intOf iv).toNat)
   case atStart=>exact⟨0,Nat.zero_le _,rfl,hid ⟨Keep.refl _ _,fun j _ x=>by omega⟩⟩
   case round=>
    obtain⟨i,hi,rfl,HT⟩:=hrel;have s1:=z0E HT.out.1 _ _ s1
    by_cases him:i<n
    ·have q1:(i:Int)<n:=by omega
     have hil:i<ps.length:=by rw[← HR.out.1];exact him
     obtain⟨g,rfl,k0,k1⟩:=zjP (HR.out.2.1.keep (HK4.out.1.nx HT.out.1) (fun _ _ x=>x)) i hil;obtain⟨x,hx⟩:=zX1 (ps[i]);rw[← hx] at k0 k1;have hlx:=HR.out.2.2.1 x (by rw[hx];exact List.getElem_mem hil);have hn5:=heap_alloc_new wr (.cells #[.string (str x.1),.string (str x.2)] 140);have hk5:=kal wr (.cells #[.string (str x.1),.string (str x.2)] 140);obtain⟨w5,hw5⟩:=zX1 (wr.alloc (.cells #[.string (str x.1),.string (str x.2)] 140));rw[← hw5] at hn5 hk5;obtain⟨c0,c1,-,-⟩:=z4V hn5;have hg9:=zbF w5 x.2 hlx.2;have HX:=hid (show (∃ h:i<ps.length,x=ps[i])∧Keep (fun _=>False) w4 w5 from⟨⟨hil,hx⟩,HT.out.1.nx hk5⟩);have HL:=hid hlx;clear hx hk5 hlx hn5 hil
     go_upto_region 10 with fail
     rw[← hw5];clear hw5 k0 k1 s1;go_wp2_with (at_builtin;refine z0A ?_;intro q hq);refine hg9.mono ?_;rintro e w6 ⟨hk6,hres⟩
     obtain⟨bb,ua,ul,uc,okb,rfl,hul,hd1⟩:∃ (bb:Bal) (ua:Option Addr) (ul uc:Nat) (okb:Bool),e = .returned (.tuple #[balV bb,.slice ua ul uc,.bool okb])∧ul≤1000000∧
       (z3Z (docB ps) x=(okb && if x.1=pK then decide (ul=0) else (decide (z2H x.1≠0) && (decide (ul≤100) && !less T bb)))):=by
      unfold z3Z;rw[HR.out.2.2.2]
      cases hg:getB x.2 with
      | none=>rw[hg] at hres;exact⟨Bal.zero,none,0,0,false,hres,by decide,rfl⟩
      | some q=>
        rw[hg] at hres;obtain⟨ao',c',he,-⟩:=hres;have hql:q.2.length≤1000000:=by have h1:=getB_rest hg;have:=HL.out.2;omega
        refine⟨q.1,ao',_,c',true,he,hql,?_⟩;simp only[Bool.true_and,List.length_eq_zero_iff]
     have hn7:=heap_alloc_new w6 (.cells (balC bb) 28);have hk7:=kal w6 (.cells (balC bb) 28);have hs9:=fun w7=>zdG w7 x.1 HL.out.1;obtain⟨s,hs⟩:=zX1 (z2H x.1);rw[← hs] at hd1;simp only[← hs] at hs9;have c0:=z0E hk6 _ _ c0
     go_upto_region 11 with fail
     obtain⟨w7,hw7⟩:=zX1 (w6.alloc (.cells (balC bb) 28));rw[← hw7] at hn7 hk7 ⊢;clear hw7;have c0:=z0E hk7 _ _ c0;have hs9:=hs9 w7;have HX2:=hid (zA1 hd1 (zA1 hn7 (HX.out.2.nx (hk6.next hk7 (H:=fun _=>False) (fun _ _ x=>x) (fun _ _ x=>x)))));clear hd1 hn7 hk6 hk7 hg9 hres c1 hs;go_wp2_with (at_builtin;refine z0A ?_;intro q hq);refine hs9.mono ?_;rintro e w8 ⟨rfl,hk8⟩;have c0:=z0E hk8 _ _ c0;have hn8:=hk8.get HX2.out.2.1 id;have hk48:=HX2.out.2.2.nx hk8;have hn4:=hk48.get HK4.out.2 id;obtain⟨t0,t1,-,-⟩:=z4V hn4;obtain⟨b0,b1,-,-⟩:=z4V hn8
     have hbad:=hid (show z3Z (docB ps) x=false→∀ W9,Keep (fun _=>False) w8 W9→Post (.returned (.tuple #[.pointer none,.int .i64 91])) W9 from fun h W9 hk9=>by
      obtain⟨⟨hil,hx⟩,-⟩:=HX.out
      exact HBad.out (AC.docOk_no (by rw[hx];exact List.getElem_mem hil) h) W9 ((HK4.out.1.nx hk48).next hk9 (fun _ _ x=>x) (fun _ _ x=>x)))
     have hnext:=hid (show z3Z (docB ps) x=true→∀ W9,Keep (fun _=>False) w8 W9→Keep (fun _=>False) w4 W9∧∀ j (hj:j<ps.length),j<i+1→z3Z (docB ps) ps[j]=true from fun h W9 hk9=>by
      obtain⟨⟨hil,hx⟩,-⟩:=HX.out;refine⟨hk48.next hk9 (fun _ _ x=>x) (fun _ _ x=>x),fun j hj hji=>?_⟩
      rcases Nat.lt_or_eq_of_le (Nat.le_of_lt_succ hji) with y | y
      ·exact HT.out.2 j hj y
      ·subst y
       rw[← hx]
       exact h)
     have HD:=hid HX2.out.1;clear hs9 hn8 hn4 HX2 hk8 hk48
     cases okb with
     | false=>
       have fin:=hbad.out (by rw[HD.out];rfl) w8 (Keep.refl _ _);have HF:=hid fin;clear fin t0 t1 b0 b1 c0;go_wp2_with (at_builtin;refine z0A ?_;intro q hq);exact HF.out
     | true=>
       by_cases hp:x.1=pK
       ·have r1:((str x.1).toList == [112])=true:=by rw[z0X,hp];rfl
        have r2:((str x.1).toList != [112])=false:=by rw[z0X,hp];rfl
        by_cases hu:ul=0
        ·subst hu
         have HN:=hid (hnext.out (by rw[HD.out,if_pos hp];rfl) w8 (Keep.refl _ _));clear hp t0 t1 b0 b1;go_wp2_with (at_builtin;refine z0A ?_;intro q hq);go_roundw
         case rel=>exact⟨i+1,by omega,by go_num,HN⟩
         case measure=>simp[intOf];omega
        ·have r3:(0:Int)<(ul:Int):=by omega
         have HF:=hid (hbad.out (by rw[HD.out,if_pos hp];simpa using hu) w8 (Keep.refl _ _));clear hp hu t0 t1 b0 b1;go_wp2_with (at_builtin;refine z0A ?_;intro q hq);exact HF.out
       ·have r1:((str x.1).toList == [112])=false:=by rw[z0X,beq_eq_false_iff_ne];exact hp
        have r2:((str x.1).toList != [112])=true:=by rw[bne,r1];rfl
        have HD2:=hid (show z3Z (docB ps) x=(decide (s≠0) && (decide (ul≤100) && !less T bb)) from by rw[HD.out,if_neg hp,Bool.true_and]);clear hp HD
        by_cases hs0:s=0
        ·subst hs0
         have HF:=hid (hbad.out (by rw[HD2.out];rfl) w8 (Keep.refl _ _));clear t0 t1 b0 b1;go_wp2_with (at_builtin;refine z0A ?_;intro q hq);exact HF.out
        ·have r3:((s:Int) == 0)=false:=by simp;omega
         have r4:decide (s=0)=false:=decide_eq_false hs0
         by_cases hu:100<ul
         ·have r5:(100:Int)<(ul:Int):=by omega
          have HF:=hid (hbad.out (by rw[HD2.out,decide_eq_false (show ¬ ul≤100 by omega),Bool.false_and,Bool.and_false]) w8 (Keep.refl _ _));clear hs0 t0 t1 b0 b1;go_wp2_with (at_builtin;refine z0A ?_;intro q hq);exact HF.out
         ·have r5:decide ((100:Int)<(ul:Int))=false:=decide_eq_false (by omega)
          have r6:decide (100<ul)=false:=decide_eq_false (by omega);obtain⟨lb,hlb⟩:=zX1 (less T bb);have hls:=zlK w8 T bb;rw[← hlb] at hls;have HD3:=hid (show z3Z (docB ps) x = !lb from by rw[HD2.out,decide_eq_true (show ul≤100 by omega),decide_eq_true (show s≠0 from hs0),hlb];rfl);clear hlb hu hs0 HD2;go_wp2_with (at_builtin;refine z0A ?_;intro q hq);refine hls.mono ?_;rintro e w9 ⟨rfl,hk9⟩;clear hls t0 t1 b0 b1 c0
          cases lb with
          | true=>
            have HF:=hid (hbad.out (by rw[HD3.out];rfl) w9 hk9);clear hk9;go_wp2_with (at_builtin;refine z0A ?_;intro q hq);exact HF.out
          | false=>
            have HN:=hid (hnext.out (by rw[HD3.out];rfl) w9 hk9);clear hk9;go_wp2_with (at_builtin;refine z0A ?_;intro q hq);go_roundw
            case rel=>exact⟨i+1,by omega,by go_num,HN⟩
            case measure=>simp[intOf];omega
    ·have q1:decide ((i:Int)<n)=false:=by simp;omega
     have q2:decide (i<n)=false:=decide_eq_false him;have HF:=hid (HGood.out (AC.docOk_yes fun j hj=>HT.out.2 j hj (by have:=HR.out.1;omega)) wr (HK4.out.1.next HT.out.1 (fun _ _ x=>x) (fun _ _ x=>x)));go_wp2_with (at_builtin;refine z0A ?_;intro q hq);exact HF.out
end
namespace SO
open Go.Proofs.YtkjofdocgaiedaaGreat MI BM DM WM
structure OnDisk (D:Dk) (G:Lg):Prop where
 calm:Calm D
 ok:Ok D
 h6:6≤D.safe.length
 dead:G.dead=false
 ep:WM.epoch D=G.ep
 epb:G.ep<4611686018427387904
 small:∀ r ∈ G.l,r.length≤1024
 fit:(flat G.l).length≤32 * half D
 area:∀ i,i<half D→z1S D (WM.first D G.ep+i)=z0Q (z1A (half D) G.l) i
theorem OnDisk.gone {D:Dk} {G:Lg} (h:OnDisk D G):WM.gone D G=false:=by unfold WM.gone;rw[h.dead,h.calm.2];rfl
theorem OnDisk.opens {D:Dk} {G:Lg} (h:OnDisk D G):z1U D=(0,some ⟨G.ep,G.l,G.l.length,false⟩,D):=zlR h.calm h.ok h.h6 h.ep h.small h.fit h.area
theorem zmJ {D:Dk} (hc:Calm D) (ok:Ok D) (h6:6≤D.safe.length):∃ G D',z1U D=(0,some G,D')∧OnDisk D' G∧G.safe=G.l.length:=by
 obtain⟨D',h⟩:=znX hc ok h6;refine⟨_,D',h.eq,⟨h.calm,h.ok,by rw[h.size];exact h6,rfl,?_,?_,h.small,by rw[z5G h.size];exact h.fit,fun i hi=>?_⟩,rfl⟩
 ·exact zeD hc.2 h.calm.2 (by omega) h.size fun i hi=>h.rest i fun j _=>by have:=zaN D (epoch D);omega
 ·rw[← z8S];exact zdQ D 2
 ·rw[z5G h.size] at hi ⊢
  have hf:WM.first D' (epoch D)=WM.first D (epoch D):=by unfold WM.first;rw[z5G h.size]
  rw[hf];exact h.area i hi
theorem OnDisk.sync {D:Dk} {G:Lg} (h:OnDisk D G):WM.z5D D G=(0,{ D with safe:=now D,waits:=[] },{ G with safe:=G.l.length })∧OnDisk { D with safe:=now D,waits:=[] } { G with safe:=G.l.length }:=by
 have hs:=z6Y h.calm;have hl:({ D with safe:=now D,waits:=[] }:Dk).safe.length=D.safe.length:=z1G D;have hn:∀ p,z1S { D with safe:=now D,waits:=[] } p=z1S D p:=fun p=>z7K rfl rfl p;have hh:half { D with safe:=now D,waits:=[] }=half D:=z5G hl;have hf:∀ e,WM.first { D with safe:=now D,waits:=[] } e=WM.first D e:=fun e=>by unfold WM.first;rw[hh]
 refine⟨?_,⟨h.calm,?_,by rw[hl];exact h.h6,h.dead,?_,h.epb,h.small,by rw[hh];exact h.fit,fun i hi=>?_⟩⟩
 ·unfold WM.z5D
  rw[h.gone,hs];rfl
 ·have:=h.ok.sync
  rw[hs] at this;exact this
 ·have:=zeD (D:=D) (E:={ D with safe:=now D,waits:=[] }) h.calm.2 h.calm.2 (by have:=h.h6;omega) hl (fun i _=>hn i)
  rw[this];exact h.ep
 ·rw[hh] at hi ⊢
  rw[hf,hn];exact h.area i hi
theorem znC (ep:Nat) (b:List UInt8):∀ k i (D:Dk),Ok D→Ok (lay ep b i k D).2
 | 0,_,_,h=>h
 | k+1,i,D,h=>by
   unfold lay;simp only;split
   ·exact znC ep b k (i+1) _ (h.write _ _)
   ·exact h.write _ _
theorem zsZ (ep:Nat) (b:List UInt8) (D:Dk) (h:Ok D):Ok (z2N ep b D).2:=by
 have h1:=znC ep b (half D) 0 D h;unfold z2N;simp only;split
 ·exact h1
 ·split
  ·exact h1.sync
  ·split
   ·exact h1.sync.write _ _
   ·exact(h1.sync.write _ _).sync
theorem OnDisk.append {D:Dk} {G:Lg} (h:OnDisk D G) {b:List UInt8} (hb:b.length≤1024) :
  WM.append D G b=(5,D,G)∨((WM.append D G b).1=0∧(WM.append D G b).2.2 = { G with l:=G.l ++ [b] }∧OnDisk (WM.append D G b).2.1 { G with l:=G.l ++ [b] }):=by
 have hc:=zaW h.calm h.h6 h.dead h.fit hb;split at hc
 ·exact .inl hc
 ·rename_i hr
  right;obtain⟨c1,c2,c3,c4⟩:=hc;have hsn:=z3G G.l b;unfold room at hr;have hfit:(flat (G.l ++ [b])).length≤32 * half D:=by omega
  have hal:(z1A (half D) (G.l ++ [b])).length=32 * half D:=z1P hfit;have hal0:(z1A (half D) G.l).length=32 * half D:=z1P h.fit;have hA:WM.area D (G.l ++ [b])=z1A (half D) (G.l ++ [b]):=rfl;obtain⟨a1,-,-,a5⟩:=z4A G.ep (WM.area D (G.l ++ [b])) (((flat (G.l ++ [b])).length - 1) / 32 - (flat G.l).length / 32+1) ((flat G.l).length / 32) D h.h6 (by omega) hal
  have hr2:(WM.append D G b).2.1=(lay G.ep (WM.area D (G.l ++ [b])) ((flat G.l).length / 32) (((flat (G.l ++ [b])).length - 1) / 32 - (flat G.l).length / 32+1) D).2∧(WM.append D G b).1=(lay G.ep (WM.area D (G.l ++ [b])) ((flat G.l).length / 32) (((flat (G.l ++ [b])).length - 1) / 32 - (flat G.l).length / 32+1) D).1:=by
   unfold WM.append;rw[h.gone,if_neg (by simp),if_neg (by omega),if_neg (by unfold room;omega)];exact⟨rfl,rfl⟩
  obtain⟨r,hr0⟩:=zX1 (lay G.ep (WM.area D (G.l ++ [b])) ((flat G.l).length / 32) (((flat (G.l ++ [b])).length - 1) / 32 - (flat G.l).length / 32+1) D);rw[← hr0] at a1 a5 hr2;have hz:r.1=0:=by rw[← hr2.2];exact c1
  have hok:Ok (WM.append D G b).2.1:=by
   rw[hr2.1,hr0];exact znC G.ep _ _ _ _ h.ok
  have hl:(WM.append D G b).2.1.safe.length=D.safe.length:=by rw[c4]
  have hh:half (WM.append D G b).2.1=half D:=z5G hl;have hf:∀ e,WM.first (WM.append D G b).2.1 e=WM.first D e:=fun e=>by unfold WM.first;rw[hh]
  have hnw:∀ p,p<2→z1S (WM.append D G b).2.1 p=z1S D p:=fun p hp=>by
   rw[hr2.1];exact(a5 hz p).2 fun j _ _=>by have:=zaN D G.ep;omega
  refine⟨c1,c2,c3,hok,by rw[hl];exact h.h6,h.dead,?_,h.epb,fun r hr=>?_,by rw[hh];exact hfit,fun i hi=>?_⟩
  ·rw[zeD h.calm.2 c3.2 (by have:=h.h6;omega) hl hnw];exact h.ep
  ·rcases List.mem_append.1 hr with x | x
   ·exact h.small r x
   ·simp at x;subst x;exact hb
  ·rw[hh] at hi ⊢
   rw[hf,hr2.1];obtain⟨b1,b2⟩:=a5 hz (WM.first D G.ep+i)
   by_cases hin:(flat G.l).length / 32≤i∧i<(flat G.l).length / 32+(((flat (G.l ++ [b])).length - 1) / 32 - (flat G.l).length / 32+1)
   ·exact b1 i hin.1 hin.2 rfl
   ·rw[b2 (fun j j1 j2=>by omega),h.area i hi]
    refine zfM hal0 hal hi fun k hk=>?_;have hin':i<(flat G.l).length / 32∨((flat (G.l ++ [b])).length - 1) / 32<i:=by omega
    rcases hin' with q | q
    ·have hq1:32 * i+k<(flat G.l).length:=by omega
     have hq2:32 * i+k<(flat (G.l ++ [b])).length:=by omega
     rw[zkG _ _ hq1,zkG _ _ hq2];have he:flat (G.l ++ [b])=flat G.l ++ flat [b]:=by simp[flat]
     rw[he,List.getElem?_append_left hq1]
    ·have hq1:(flat G.l).length≤32 * i+k:=by omega
     have hq2:(flat (G.l ++ [b])).length≤32 * i+k:=by omega
     rw[zaT _ _ hq1 (by omega),zaT _ _ hq2 (by omega)]
theorem zrB {D:Dk} (hd:D.down=false) (h2:2≤D.safe.length) {n:Nat} (hn:n<4611686018427387904) (h:z1S D (n % 2)=z0O n):WM.head D (n % 2)=some n:=by
 have hlt:n % 2<2:=Nat.mod_lt _ (by decide);have hl:(z0I n).length≤10:=z3X 10 n;rw[ztA hd (by omega) _ h];have hg:=zgN [] (List.replicate (32 - (frame 1 (z0I n)).length) 0) 1 (z0I n) (by omega);simp only[List.nil_append,List.length_nil] at hg;have he:z0O n=frame 1 (z0I n) ++ List.replicate (32 - (frame 1 (z0I n)).length) 0:=rfl;rw[he,hg];have hu:=z6C (b:=z0I n) (at_:=0) (n:=n) (rest:=[]) (by omega) (by simp) (Nat.zero_le _);simp only[Nat.zero_add] at hu;simp only[hu];simp[hn]
theorem zsG {D:Dk} {i n:Nat} (hi:i<2) (h:WM.head D i=some n):n≤WM.epoch D:=by
 unfold WM.epoch;have:i=0∨i=1:=by omega
 rcases this with rfl | rfl <;> rw[h] <;> simp <;> omega
theorem znJ {D:Dk} {n:Nat} (hd:D.down=false) (h2:2≤D.safe.length) (hn:n<4611686018427387904) (h:z1S D (n % 2)=z0O n) (ho:(WM.head D ((n+1) % 2)).getD 0≤n):WM.epoch D=n:=by
 have hh:=zrB hd h2 hn h;unfold WM.epoch;have:n % 2=0∨n % 2=1:=by omega
 rcases this with h0 | h0
 ·rw[h0] at hh
  rw[show (n+1) % 2=1 by omega] at ho;rw[hh];simp;omega
 ·rw[h0] at hh
  rw[show (n+1) % 2=0 by omega] at ho;rw[hh];simp;omega
theorem OnDisk.reset {D:Dk} {G:Lg} (h:OnDisk D G) (L:List (List UInt8)) (hL:∀ r ∈ L,r.length≤1024) :
  WM.reset D G L=(5,D,G)∨((WM.reset D G L).1=0∧(WM.reset D G L).2.2=⟨G.ep+1,L,L.length,false⟩∧OnDisk (WM.reset D G L).2.1 ⟨G.ep+1,L,L.length,false⟩):=by
 have hany:L.any (fun b=>decide (1024<b.length))=false:=by
  rw[List.any_eq_false];intro r hr;have:=hL r hr;simp;omega
 by_cases hf:32 * half D<(flat L).length∨G.ep+1=4611686018427387904
 ·left
  unfold WM.reset;rw[h.gone,if_neg (by simp),hany,if_neg (by simp),if_pos hf]
 ·right
  have hfit:(flat L).length≤32 * half D:=by omega
  have hal:(WM.area D L).length=32 * half D:=z1P hfit;obtain⟨c1,c2⟩:=znH h.calm h.h6 (G.ep+1) (WM.area D L) hal (z8C _);obtain⟨-,t2⟩:=ziJ h.h6 (G.ep+1) (WM.area D L) hal (z8C _);obtain⟨-,t3,t4,t5⟩:=t2 c1
  have hr:WM.reset D G L=(0,(z2N (G.ep+1) (WM.area D L) D).2,⟨G.ep+1,L,L.length,false⟩):=by
   unfold WM.reset;rw[h.gone,if_neg (by simp),hany,if_neg (by simp),if_neg hf];simp only;rw[if_pos c1]
  have hok:=zsZ (G.ep+1) (WM.area D L) D h.ok;have hl:=z8K (G.ep+1) (WM.area D L) D;obtain⟨E,hE⟩:=zX1 ((z2N (G.ep+1) (WM.area D L) D).2);rw[← hE] at c2 t3 t4 t5 hok hl hr;rw[hr];have hh:half E=half D:=z5G hl;have hfi:∀ e,WM.first E e=WM.first D e:=fun e=>by unfold WM.first;rw[hh]
  have hepb:=h.epb;refine⟨rfl,rfl,⟨c2,hok,by rw[hl];exact h.h6,rfl,?_,by simp only;omega,hL,by rw[hh];exact hfit,fun i hi=>?_⟩⟩
  ·have h6:=h.h6
   refine znJ c2.2 (show 2≤E.safe.length by omega) (show G.ep+1<4611686018427387904 by omega) t4 ?_;have hp:(G.ep+1+1) % 2<2:=Nat.mod_lt _ (by decide)
   have he:WM.head E ((G.ep+1+1) % 2)=WM.head D ((G.ep+1+1) % 2):=by
    refine zhA h.calm.2 c2.2 (by omega) (by omega) (t5 _ (by omega) fun j _=>?_);have:=zaN D (G.ep+1);omega
   rw[he]
   cases hx:WM.head D ((G.ep+1+1) % 2) with
   | none=>exact Nat.zero_le _
   | some n=>
     have:=zsG hp hx;rw[h.ep] at this;simp only[Option.getD_some];omega
  ·rw[hh] at hi ⊢
   rw[hfi];exact t3 i hi
structure Sound (D:Dk) (S:St):Prop where
 disk:OnDisk D S.g
 dead:S.dead=false
 okay:Okay S
 ok:PsOk S.ps
theorem zoU {ps:List (Str×Str)} (h:∀ p ∈ ps,OkP p):∀ r ∈ cpL ps,r.length≤1024:=fun r hr=>by
 unfold cpL at hr;obtain⟨p,hp,rfl⟩:=List.mem_map.1 hr;have:=zhR (zbJ (h p hp));simp at this;omega
theorem Sound.cp {D:Dk} {S:St} (h:Sound D S):Sound (cpS D S).2.1 (cpS D S).2.2∧(((cpS D S).1=5∧(cpS D S).2=(D,S))∨((cpS D S).1=0∧(cpS D S).2.2.g.safe=(cpS D S).2.2.g.l.length)):=by
 have hk:=zhZ (D:=D) h.disk.h6 h.okay h.ok
 rcases h.disk.reset (cpL S.ps) (zoU h.ok.each) with hr | ⟨h1,h2,h3⟩
 ·have e:cpS D S=(5,D,S):=by
   unfold cpS;rw[h.dead,if_neg (by simp),hr];show ((5:Int),D,(⟨S.g,S.ps,decide ((5:Int)=6)⟩:St))=_;rw[show decide ((5:Int)=6)=S.dead by rw[h.dead];rfl]
  rw[e];exact⟨h,.inl ⟨rfl,rfl⟩⟩
 ·have e:cpS D S=(0,(WM.reset D S.g (cpL S.ps)).2.1,⟨⟨S.g.ep+1,cpL S.ps,(cpL S.ps).length,false⟩,S.ps,false⟩):=by
   unfold cpS;rw[h.dead,if_neg (by simp),h2,h1];rfl
  rw[e] at hk ⊢;exact⟨⟨h3,rfl,hk,h.ok⟩,.inr ⟨rfl,rfl⟩⟩
theorem Sound.ap {D:Dk} {S:St} (h:Sound D S) {l:List Ch} (he:encE l=0) :
  ((apS D S (enc l)).1=5∧(apS D S (enc l)).2=(D,S))∨((apS D S (enc l)).1=0∧OnDisk (apS D S (enc l)).2.1 (apS D S (enc l)).2.2.g∧(apS D S (enc l)).2.2.dead=false):=by
 obtain⟨hl,-⟩:=wbytes l he;unfold apS
 rcases h.disk.append hl with hr | ⟨h1,h2,h3⟩
 ·left
  rw[hr];refine⟨rfl,?_⟩;show (D,(⟨S.g,S.ps,decide ((5:Int)=6)⟩:St))=_;rw[show decide ((5:Int)=6)=S.dead by rw[h.dead];rfl]
 ·right
  refine⟨h1,?_,by simp only;rw[h1];rfl⟩;simp only;rw[h2];exact h3
theorem Sound.do {D:Dk} {S:St} (h:Sound D S) (l:List Ch):Sound (doS D S l).2.1 (doS D S l).2.2:=by
 have hk:=ztH h.disk.h6 h.okay h.ok l;unfold doS at hk ⊢;rw[h.dead] at hk ⊢;simp only[Bool.false_eq_true,if_false] at hk ⊢
 by_cases he:encE l=0
 ·rw[if_neg (by omega)] at hk ⊢
  have hps:=intoS_ps D S (enc l)
  have key:OnDisk (z2V D S (enc l)).2.1 (z2V D S (enc l)).2.2.g∧(z2V D S (enc l)).2.2.dead=false:=by
   unfold z2V
   rcases h.ap he with ⟨a1,a2⟩ | ⟨a1,a2,a3⟩
   ·rw[if_pos a1,a2]
    simp only;obtain⟨hc,hcc⟩:=h.cp;split
    ·rename_i h0
     rcases hc.ap he with ⟨b1,b2⟩ | ⟨b1,b2,b3⟩
     ·rw[b2]
      exact⟨hc.disk,hc.dead⟩
     ·exact⟨b2,b3⟩
    ·exact⟨hc.disk,hc.dead⟩
   ·rw[if_neg (by omega)]
    exact⟨a2,a3⟩
  have hps2:PsOk (layL S.ps l):=h.ok.layL (z1I (wbytes l he).2).2;unfold z7S at hk ⊢
  by_cases h0:(z2V D S (enc l)).1=0
  ·rw[if_pos h0] at hk ⊢
   rw[hps] at hk ⊢;exact⟨key.1,key.2,hk,hps2⟩
  ·rw[if_neg h0] at hk ⊢
   exact⟨key.1,key.2,hk,by rw[hps];exact h.ok⟩
 ·rw[if_pos he]
  exact h
theorem Sound.sy {D:Dk} {S:St} (h:Sound D S):(syS D S).1=0∧Sound (syS D S).2.1 (syS D S).2.2∧(syS D S).2.1.waits = []∧(syS D S).2.2.ps=S.ps:=by
 obtain⟨h1,h2⟩:=h.disk.sync
 have e:syS D S=(0,{ D with safe:=now D,waits:=[] },⟨{ S.g with safe:=S.g.l.length },S.ps,false⟩):=by
  unfold syS;rw[h.dead,if_neg (by simp),h1];rfl
 have hk:=zsI D h.okay;rw[e] at hk ⊢;exact⟨rfl,⟨h2,rfl,hk,h.ok⟩,rfl,rfl⟩
theorem zhT:∀ (L:List (List UInt8)) (ps q:List (Str×Str)),PsOk ps→decL L ps=some q→PsOk q
 | [],ps,q,h,e=>by cases e;exact h
 | b :: L,ps,q,h,e=>by
   unfold decL at e
   cases hd:dec b with
   | none=>rw[hd] at e;cases e
   | some l=>
     rw[hd] at e;exact zhT L _ q (h.layL (dec_len hd).2) e
theorem zjM {D:Dk} (hc:Calm D) (ok:Ok D) (h6:6≤D.safe.length) (S:St) (h:(opS D).2.1=some S):Sound (opS D).2.2 S:=by
 obtain⟨G,D',e,hg,-⟩:=zmJ hc ok h6;have hk:=zcC D S h;unfold opS at h ⊢;rw[e] at h ⊢;simp only at h ⊢
 cases hd:decL G.l [] with
 | none=>rw[hd] at h;cases h
 | some ps=>
   rw[hd] at h;cases h;exact⟨hg,rfl,hk,zhT _ _ _ PsOk.nil hd⟩
end SO
namespace AC
open Go.Proofs.YtkjofdocgaiedaaGreat MI SO BM DM WM
theorem z4H (n:Nat):(z0I n).length≤10:=z3X 10 n
theorem zdV (b:Bal):(putB b).length≤20:=by
 have h1:=z4H b.n;have h2:=z4H b.node.toNat;simp[putB];omega
theorem zhD (c:Ch):(encC c).length≤c.key.length+c.value.length+21:=by
 have h1:=z4H c.key.length;have h2:=z4H c.value.length;unfold encC;split <;> simp[SO.putB] <;> omega
theorem zkW {b:Bal}:right (z5I b)=true:=by
 have h:=zdV b;simp[right,z5I,z1E,pK];omega
theorem zlH {v:Vt} (hv:v.val.length≤100):right (z5N v)=true:=by
 have h:=zdV v.bal;have h2:=z5U v.slot;simp[right,z5N,z1E,pK,h2];omega
theorem zrU (b:Bal):encE (z5I b)=0∧(enc (z5I b)).length≤60:=by
 have h:=zdV b;have h1:=z4H 1;have h2:=zhD ⟨pK,putB b,false⟩
 have hl:(enc (z5I b)).length≤60:=by
  simp[enc,z5I,pK] at *;omega
 refine⟨?_,hl⟩;unfold encE;rw[zkW];simp only[if_true];rw[if_neg (by omega)]
theorem zrT {v:Vt} (hv:v.val.length≤100):encE (z5N v)=0∧(enc (z5N v)).length≤210:=by
 have h:=zdV v.bal;have h1:=z4H 2;have h2:=zhD ⟨pK,putB v.bal,false⟩;have h3:=zhD ⟨keyS v.slot,putB v.bal ++ v.val,false⟩;have h4:=z5U v.slot
 have hl:(enc (z5N v)).length≤210:=by
  simp[enc,z5N,pK] at *;omega
 refine⟨?_,hl⟩;unfold encE;rw[zlH hv];simp only[if_true];rw[if_neg (by omega)]
theorem zjE {D:Dk} {S:St} (h:Sound D S) {l:List Ch} (he:encE l=0) (hr:(flat S.g.l).length+((enc l).length+10)≤32 * half D) :
  (doA D S l).1=0∧Sound (doA D S l).2.1 (doA D S l).2.2∧(doA D S l).2.2.ps=layL S.ps l∧(flat (doA D S l).2.2.g.l).length=(flat S.g.l).length+((enc l).length+10)∧half (doA D S l).2.1=half D:=by
 have hc:=zaW h.disk.calm h.disk.h6 h.disk.dead h.disk.fit (wbytes l he).1;rw[if_neg (by unfold room;omega)] at hc;obtain⟨c1,c2,c3,c4⟩:=hc;have hap:(apS D S (enc l)).1=0:=c1
 have e:doS D S l=z7S (apS D S (enc l)) l:=by
  unfold doS;rw[h.dead];simp only[Bool.false_eq_true,if_false];rw[if_neg (by omega)];unfold z2V;rw[if_neg (by omega)]
 have h0:(doS D S l).1=0:=by rw[e];exact hap
 have hd:=h.do l;obtain⟨s1,s2,s3,s4⟩:=hd.sy
 have hps:(doS D S l).2.2.ps=layL S.ps l:=by
  rw[e];unfold z7S;rw[if_pos hap];rfl
 have hg:(doS D S l).2.2.g = { S.g with l:=S.g.l ++ [enc l] }:=by
  rw[e];unfold z7S;rw[if_pos hap];exact c2
 have hh:half (doS D S l).2.1=half D:=by
  rw[e];refine z5G ?_;show (WM.append D S.g (enc l)).2.1.safe.length=_;rw[c4]
 have ed:doA D S l=syS (doS D S l).2.1 (doS D S l).2.2:=by unfold doA;rw[if_pos h0]
 obtain⟨y1,-⟩:=hd.disk.sync
 have ey:syS (doS D S l).2.1 (doS D S l).2.2=(0,{ (doS D S l).2.1 with safe:=now (doS D S l).2.1,waits:=[] },⟨{ (doS D S l).2.2.g with safe:=(doS D S l).2.2.g.l.length },(doS D S l).2.2.ps,false⟩):=by
  unfold syS;rw[hd.dead,if_neg (by simp),y1];rfl
 rw[ed];refine⟨s1,s2,by rw[s4,hps],?_,?_⟩
 ·rw[ey]
  simp only;rw[hg];simp only;exact z3G _ _
 ·rw[ey,← hh]
  exact z5G (z1G _)
end AC
namespace AC
open Go.Proofs.YtkjofdocgaiedaaGreat MI SO BM DM WM
structure Room (H m:Nat) (D:Dk) (A:Ac):Prop where
 sound:Sound D A.s
 ok:AOk A
 half:WM.half D=H
 few:(flat A.s.g.l).length≤m
theorem zmA {D:Dk} {S:St} {l:List Ch} (h:Sound D S) (h0:(doA D S l).1=0):(doA D S l).2.1.waits = []:=by
 unfold doA at *;split
 ·exact(h.do l).sy.2.2.1
 ·rename_i h1
  rw[if_neg h1] at h0;exact absurd h0 h1
theorem Room.alive {H m:Nat} {D:Dk} {A:Ac} (h:Room H m D A):A.s.dead=false:=h.sound.dead
theorem Room.prep {H m:Nat} {D:Dk} {A:Ac} (h:Room H m D A) (hm:m+70≤32 * H) {b:Bal} (hb:OkB b) (hl:less b A.b=false) (k:Nat) :
  (z2Y D A b k).1=(z7L A.vs k,b,0)∧Room H (m+70) (z2Y D A b k).2.1 (z2Y D A b k).2.2∧(z2Y D A b k).2.2.b=b∧(z2Y D A b k).2.2.vs=A.vs:=by
 have hok:=h.ok.prep (D:=D) b hb.2 k;unfold z2Y at hok ⊢;rw[if_neg (by rw[hb.1];decide),if_neg (by rw[h.alive];decide),if_neg (by rw[hl];decide)] at hok ⊢
 by_cases e:b=A.b
 ·rw[if_pos e] at hok ⊢
  exact⟨rfl,⟨h.sound,h.ok,h.half,show (flat A.s.g.l).length≤_ from by have:=h.few;omega⟩,e.symm,rfl⟩
 ·rw[if_neg e] at hok ⊢
  obtain⟨e1,e2⟩:=zrU b;obtain⟨r1,r2,r3,r4,r5⟩:=zjE h.sound e1 (by have:=h.few;rw[h.half];omega);rw[if_pos r1] at hok ⊢;exact⟨rfl,⟨r2,hok,by rw[r5];exact h.half,by simp only;rw[r4];have:=h.few;omega⟩,rfl,rfl⟩
theorem Room.accept {H m:Nat} {D:Dk} {A:Ac} (h:Room H m D A) (hm:m+220≤32 * H) {v:Vt} (hr:z9R v=true) (hn:v.bal.n<18446744073709551616) (hs:v.slot<18446744073709551616) (hl:less v.bal A.b=false) :
  (z1B D A v).1=(v.bal,0)∧Room H (m+220) (z1B D A v).2.1 (z1B D A v).2.2∧(z1B D A v).2.2.b=v.bal∧(z1B D A v).2.2.vs=insV A.vs v:=by
 have hok:=h.ok.accept (D:=D) v hn hs
 have hv:v.val.length≤100:=by
  simp only[z9R,Bool.and_eq_true,decide_eq_true_eq] at hr;exact hr.2.2
 unfold z1B at hok ⊢;rw[if_neg (by rw[hr];decide),if_neg (by rw[h.alive];decide),if_neg (by rw[hl];decide)] at hok ⊢;obtain⟨e1,e2⟩:=zrT hv;obtain⟨r1,r2,r3,r4,r5⟩:=zjE h.sound e1 (by have:=h.few;rw[h.half];omega);rw[if_pos r1] at hok ⊢;exact⟨rfl,⟨r2,hok,by rw[r5];exact h.half,by simp only;rw[r4];have:=h.few;omega⟩,rfl,rfl⟩
theorem Room.accept_still {H m:Nat} {D:Dk} {A:Ac} (h:Room H m D A) {v:Vt} (h0:(z1B D A v).1.2=0):(z1B D A v).2.1.waits = []:=by
 unfold z1B at *;split
 ·rename_i h1;rw[if_pos h1] at h0;exact absurd h0 (show ¬ (2:Int)=0 by decide)
 rename_i h1;rw[if_neg h1] at h0;split
 ·rename_i h2;rw[if_pos h2] at h0;exact absurd h0 (show ¬ (6:Int)=0 by decide)
 rename_i h2;rw[if_neg h2] at h0;split
 ·rename_i h3;rw[if_pos h3] at h0;exact absurd h0 (show ¬ (90:Int)=0 by decide)
 rename_i h3;rw[if_neg h3] at h0;split
 ·rename_i h4;exact zmA h.sound h4
 ·rename_i h4;rw[if_neg h4] at h0;exact absurd h0 h4
theorem Room.again {H m:Nat} {D:Dk} {A:Ac} (h:Room H m D A) (hw:D.waits = []):∃ S',DM.crash D []=D∧z4E D=(0,some ⟨S',A.b,A.vs⟩,D)∧Room H m D ⟨S',A.b,A.vs⟩:=by
 have hcr:DM.crash D []=D:=by
  obtain⟨sf,wt,lf,dn⟩:=D;have hc:=h.sound.disk.calm;simp only at hw;subst hw;obtain⟨c1,c2⟩:=hc;simp only at c1 c2;subst c1 c2;rfl
 have ho:=h.sound.disk.opens;have hk:=h.sound.okay h.sound.dead
 have hop:opS D=(0,some ⟨⟨A.s.g.ep,A.s.g.l,A.s.g.l.length,false⟩,A.s.ps,false⟩,D):=by
  unfold opS;rw[ho];simp only;rw[hk]
 have hps:=h.ok.ps h.alive;have hrd:rd A.s.ps=some (A.b,A.vs):=by rw[hps];exact ztS (h.ok.ok h.alive)
 have hs:=zjM h.sound.disk.calm h.sound.disk.ok h.sound.disk.h6 _ (by rw[hop]);rw[hop] at hs;refine⟨_,hcr,?_,⟨hs,⟨fun _=>h.ok.ok h.alive,fun _=>hps⟩,h.half,h.few⟩⟩;unfold z4E;rw[hop];simp only;rw[hrd]
theorem zmH {D:Dk} {A:Ac} (hd:A.s.dead=false) {b:Bal} (hr:z3B b=true) (hl:less b A.b=true) (k:Nat):z2Y D A b k=(([],A.b,90),D,A):=by
 unfold z2Y;rw[if_neg (by rw[hr];decide),if_neg (by rw[hd];decide),if_pos hl]
def lastV (last:List Vt) (v:Vt):List Vt:=last.filter (fun u=>decide (u.slot≠v.slot)) ++ [v]
end AC
namespace AC
open Go.Proofs.YtkjofdocgaiedaaGreat MI SO BM DM WM
theorem zgO (D:Dk) (S:St):(syS D S).2.1.waits.length≤D.waits.length:=by
 unfold syS;split
 ·exact Nat.le_refl _
 ·exact zbZ D S.g
theorem zeZ {D:Dk} (h:D.safe.length≤2048) (S:St) (l:List Ch):(doA D S l).2.1.waits.length≤D.waits.length+5120:=by
 have h1:=zbY h S l;unfold doA;split
 ·exact Nat.le_trans (zgO _ _) h1
 ·exact h1
theorem zhC {D:Dk} (h:D.safe.length≤2048) (A:Ac) (b:Bal) (k:Nat):(z2Y D A b k).2.1.waits.length≤D.waits.length+5120:=by
 have h1:=zeZ h A.s (z5I b);unfold z2Y
 repeat' split
 all_goals simp only
 all_goals omega
theorem zeN {D:Dk} (h:D.safe.length≤2048) (A:Ac) (v:Vt):(z1B D A v).2.1.waits.length≤D.waits.length+5120:=by
 have h1:=zeZ h A.s (z5N v);unfold z1B
 repeat' split
 all_goals simp only
 all_goals omega
theorem zpO (b:Bal) (vs:List Vt):(encP b vs).length≤vs.length+1:=by
 unfold encP;rw[List.length_append,List.length_map];split <;> simp <;> omega
theorem AOk.few {A:Ac} (h:AOk A) (hd:A.s.dead=false):A.s.ps.length≤A.vs.length+1:=by
 rw[h.ps hd];exact zpO _ _
end AC
namespace AC
open Go.Proofs.YtkjofdocgaiedaaGreat MI SO BM DM WM
theorem z5S:∀ (l:List Ch) (ps:List (Str×Str)),(layL ps l).length≤ps.length+l.length
 | [],ps=>by simp[layL]
 | c :: l,ps=>by
   have h1:=MI.lay1_len ps c;have h2:=z5S l (lay1 ps c);have e:layL ps (c :: l)=layL (lay1 ps c) l:=rfl;rw[e,List.length_cons];omega
theorem zsL (D:Dk) (S:St) (l:List Ch):(doS D S l).2.2.ps.length≤S.ps.length+l.length:=by
 unfold doS;split
 ·simp only;omega
 ·split
  ·simp only;omega
  ·unfold z7S
   have h:=intoS_ps D S (enc l);simp only;split
   ·simp only
    rw[h];exact z5S l S.ps
   ·rw[h];omega
theorem ztB {D:Dk} {S:St} (h:(opS D).2.1=some S):PsOk S.ps:=by
 have:=zcC D S h (SO.op_dead h);exact zhT _ _ _ PsOk.nil this
structure Inv (k:Nat) (D:Dk) (o:Option Ac):Prop where
 waits:D.waits.length≤1024+6200 * k
 ok:∀ A,o=some A→AOk A∧A.s.ps.length≤128000+64 * k
end AC
section
open Go.RowKit Go.Maps
open MI SO BM DM WM AC
def PairA (W:World) (p:Nat) (D:Dk) (o:Option Ac) (w:World):Prop:=
 ∃ d m av rv A F G,Three W (BoxT p (ztO d m av rv) 40) A (AcP d D o av) F (RAcP m D o rv) G w
def PairD (W:World) (p:Nat) (D:Dk) (w:World):Prop:=
 ∃ d m av rv A F G,Three W (BoxT p (ztO d m av rv) 40) A (DkT d D) F (RkT m D) G w
end
namespace AC
open Go.Proofs.YtkjofdocgaiedaaGreat MI SO BM DM WM
def kA0:Ac:=⟨nS0,Bal.zero,[]⟩
def kV:Vt:=⟨3,⟨1,2⟩,[120]⟩
theorem k_op:(opS (DM.new 60))=(0,some nS0,DM.new 60):=by kernel_rfl
theorem zlE {D D':Dk} {S:St} {b:Bal} {vs:List Vt} (h:opS D=(0,some S,D')) (hr:rd S.ps=some (b,vs)):z4E D=(0,some ⟨S,b,vs⟩,D'):=by
 unfold z4E;rw[h];simp only;rw[hr]
theorem ztR:z4E (DM.new 60)=(0,some kA0,DM.new 60):=zlE k_op rfl
theorem ztJ:WM.half (DM.new 60)=29:=by kernel_rfl
theorem zsU:Sound (DM.new 60) nS0:=by
 have hs:=zjM (D:=DM.new 60) ⟨rfl,rfl⟩ (Ok.new (by decide) (by decide)) (by decide) nS0 (by rw[k_op]);rw[k_op] at hs;exact hs
theorem znG:Room 29 0 (DM.new 60) kA0:=⟨zsU,⟨fun _=>⟨.inl rfl,List.Pairwise.nil,fun v hv=>by cases hv⟩,fun _=>rfl⟩,ztJ,Nat.le_refl 0⟩
theorem k_go:∃ (D1:Dk) (A1:Ac) (D2:Dk) (A2 A3:Ac),z2Y (DM.new 60) kA0 ⟨1,2⟩ 1=(([],⟨1,2⟩,0),D1,A1)∧z1B D1 A1 kV=((⟨1,2⟩,0),D2,A2)∧z2Y D2 A2 ⟨1,1⟩ 1=(([],⟨1,2⟩,90),D2,A2)∧
  DM.crash D2 []=D2∧z4E D2=(0,some A3,D2)∧(z2Y D2 A3 ⟨2,0⟩ 1).1=([kV],⟨2,0⟩,0)∧AOk A1∧AOk A2∧AOk A3∧A1.s.ps.length≤10∧A2.s.ps.length≤10∧A3.s.ps.length≤10∧D1.waits.length≤20000∧D2.waits.length≤20000:=by
 obtain⟨p1,p2,p3,p4⟩:=znG.prep (by decide) (b:=⟨1,2⟩) ⟨by decide,by decide⟩ (by decide) 1;obtain⟨R1,hR1⟩:=zX1 (z2Y (DM.new 60) kA0 ⟨1,2⟩ 1);rw[← hR1] at p1 p2 p3 p4;obtain⟨a1,a2,a3,a4⟩:=p2.accept (by decide) (v:=kV) (by decide) (by decide) (by decide) (by rw[p3];decide);have st:=p2.accept_still (v:=kV) (by rw[a1]);obtain⟨R2,hR2⟩:=zX1 (z1B R1.2.1 R1.2.2 kV);rw[← hR2] at a1 a2 a3 a4 st;rw[p4] at a4;have l1:=zmH (D:=R2.2.1) a2.alive (b:=⟨1,1⟩) (by decide) (by rw[a3];decide) 1;rw[a3] at l1;obtain⟨S',g1,g2,g3⟩:=a2.again st;rw[a3,a4] at g2 g3;obtain⟨q1,-⟩:=g3.prep (by decide) (b:=⟨2,0⟩) ⟨by decide,by decide⟩ (show less ⟨2,0⟩ kV.bal=false by decide) 1;have w1:=zhC (D:=DM.new 60) (znG.sound.disk.ok.few) kA0 ⟨1,2⟩ 1;rw[← hR1] at w1;have w2:=zeN p2.sound.disk.ok.few R1.2.2 kV;rw[← hR2] at w2;have w0:(DM.new 60).waits.length=0:=rfl;have f1:=p2.ok.few p2.alive;have f2:=a2.ok.few a2.alive;have f3:=g3.ok.few g3.alive;rw[p4,show kA0.vs.length=0 from rfl] at f1;rw[a4,show (insV kA0.vs kV).length=1 from rfl] at f2;rw[show (insV kA0.vs kV).length=1 from rfl] at f3;refine⟨R1.2.1,R1.2.2,R2.2.1,R2.2.2,_,?_,?_,l1,g1,g2,?_,p2.ok,a2.ok,g3.ok,by omega,by omega,by omega,by omega,by omega⟩
 ·rw[← hR1]
  exact Prod.ext p1 rfl
 ·rw[← hR2]
  exact Prod.ext a1 rfl
 ·exact q1
end AC
section
open Go.RowKit
open MI SO DM BM WM AC
theorem ziT (n i:Nat) (h:i<n):DM.read (DM.new n) (i:Int)=(DM.blank,0):=by
 unfold DM.read;have h1:(DM.new n).down=false:=rfl;rw[h1,if_neg (by simp),if_neg (by simp[DM.new];omega)];have h2:now (DM.new n)=List.replicate n DM.blank:=rfl;rw[h2];simp[h]
theorem zpK (n ep h:Nat) (hh:∀ i,i<h→WM.first (DM.new n) ep+i<n):((List.range h).map fun i=>(DM.read (DM.new n) ((WM.first (DM.new n) ep+i:Nat):Int)).1).flatten=List.replicate (32 * h) 0:=by
 induction h with
 | zero=>rfl
 | succ h ih=>
   rw[List.range_succ,List.map_append,List.flatten_append,ih fun i hi=>hh i (by omega)];simp only[List.map_cons,List.map_nil,List.flatten_cons,List.flatten_nil,List.append_nil];rw[ziT n _ (hh h (by omega))];unfold DM.blank;rw[List.replicate_append_replicate];congr 1
theorem ziP (n i:Nat) (h:i<n):WM.head (DM.new n) i=none:=by
 unfold WM.head;rw[ziT n i h];rw[show BM.get (DM.blank,(0:Int)).1 0=BM.Got.no 20 by kernel_rfl]
theorem zqQ (n:Nat) (h:6≤n):z1U (DM.new n)=(0,some ⟨0,[],0,false⟩,DM.new n):=by
 have hl:(DM.new n).safe.length=n:=by simp[DM.new]
 have he:epoch (DM.new n)=0:=by
  unfold epoch;rw[ziP n 0 (by omega),ziP n 1 (by omega)];rfl
 have hf:∀ i,i<half (DM.new n)→WM.first (DM.new n) 0+i<n:=fun i hi=>by
  have:=z3R (D:=DM.new n) 0 i (by omega) hi;omega
 have hb:WM.bytes (DM.new n) 0=List.replicate (32 * half (DM.new n)) 0:=zpK n 0 _ hf;have hs:=zgQ [] (32 * half (DM.new n)) (32 * half (DM.new n)+1) (by simp) (by simp);simp only[flat,List.map_nil,List.flatten_nil,List.nil_append,List.length_nil] at hs
 have hw:wipe 0 (List.replicate (32 * half (DM.new n)) 0) 0 0 (half (DM.new n)) false (DM.new n)=(0,false,DM.new n):=by
  have hd:∀ j,dirty (List.replicate (32 * half (DM.new n)) 0) 0 j=false:=fun j=>by
   unfold dirty;rw[List.any_eq_false];intro k hk;simp only[Bool.and_eq_true,decide_eq_true_eq,not_and,Decidable.not_not];intro _;rw[List.getD_eq_getElem?_getD,List.getElem?_replicate];split <;> rfl
  have:=z8W 0 (List.replicate (32 * half (DM.new n)) 0) 0 (half (DM.new n)) 0 0 false (DM.new n) (fun j _ _=>hd j);rw[Nat.add_zero] at this;rw[this];rfl
 unfold z1U;rw[if_neg (by omega),if_neg (by simp[DM.new]),he,hb];simp only[List.length_replicate];rw[hs];simp only;rw[hw];simp
theorem zsB (n:Nat) (h:6≤n):opS (DM.new n)=(0,some nS0,DM.new n):=by
 unfold opS;rw[zqQ n h];rfl
end
end Go.Proofs.YtkjofdocgaiedaaGreat
