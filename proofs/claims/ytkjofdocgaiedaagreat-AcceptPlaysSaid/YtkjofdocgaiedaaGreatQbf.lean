/- Texts StpB, StpC, StpD, StpE, StpF, StpG, StpH, StpI, StpM, AccO, AccG, AccS, AccH, AccI, AccJ, AccK, AccL in one. Conditions: as each law names them. -/
import Derived.Deep.CutBlock
import Derived.Deep.DeepCutAuto
import Derived.Defers
import Derived.Test.YtkjofdocgaiedaaGreatQah
import Derived.Test.YtkjofdocgaiedaaGreatQaj
import Derived.Test.YtkjofdocgaiedaaGreatQar
import Derived.Test.YtkjofdocgaiedaaGreatQax
import Derived.Test.YtkjofdocgaiedaaGreatQay
import Derived.Test.YtkjofdocgaiedaaGreatQaz
import Derived.Test.YtkjofdocgaiedaaGreatQba
import Derived.Test.YtkjofdocgaiedaaGreatQbb
import Derived.Test.YtkjofdocgaiedaaGreatQbc
import Derived.Test.YtkjofdocgaiedaaGreatQbe
set_option maxRecDepth 20000
set_option maxHeartbeats 8000000
namespace Go.Proofs.YtkjofdocgaiedaaGreat
section
open Go.RowKit Go.Maps MI SO BM DM WM
def SROpenTo (d:Nat) (Fd:Nat→Prop) (w:World) (R:Int×Option St×Dk) (e:Ending) (w':World):Prop:=
 match R.2.1 with
 | none=>e = .returned (.tuple #[.pointer none,.int .i64 R.1])∧RefTo d Fd w R.2.2 w'
 | some s=>∃ b F Fd',e = .returned (.tuple #[.pointer (some ⟨b,0,none⟩),.int .i64 R.1])∧RStoAt w' b d F Fd' R.2.2 s∧Keep Fd w w'∧(∀ k,F k→w.heap.size≤k)∧∀ k,Fd' k→Fd k∨w.heap.size≤k
structure ROpR (w3:World) (b wb:Nat) (L:List (List UInt8)) (i:Nat) (wr:World):Prop where
 keep:Keep (fun k=>k=b) w3 wr
 ex:∃ pv ps,wr.heap[b]?=some (.cells (z3H (.pointer (some ⟨wb,0,none⟩)) pv false) 117 (0,0))∧Row wr 140 2 pv ps.length (prsV ps)∧(∀ k,pv.ownBlock=some k→w3.heap.size≤k)∧
  decL (L.take i) []=some ps∧PsOk ps∧ps.length≤32 * i
theorem zmI (w:World) (d:Nat) (Fd:Nat->Prop) (D:Dk) (hD:RefAt w d Fd D) (hfew:D.waits.length<=800000) :
  Calls Tryz.prog 20 #[.pointer (some ⟨d,0,none⟩)] w (SROpenTo d Fd w (opS D)):=by
 have hop:=zqR w d Fd D hD hfew;obtain⟨R,hR⟩:=zX1 (opS D);rw[<-hR];obtain⟨Post,hPost⟩:=zX1 (SROpenTo d Fd w R);rw[<-hPost];have H0:=hid (zA1 hD (zA1 hR hPost));clear hD hfew hR hPost;go_enter Tryz.func20,Tryz.ntmps20;go_wp2_with fail;refine hop.mono ?_;intro e w1 hp;unfold ROpenTo at hp;cases hg:(z2F D).2.1 with
 | none=>
   have e1:R=((z2F D).1,none,(z2F D).2.2):=by{rw[H0.out.2.1];unfold opS;rw[hg]};rw[hg] at hp;obtain⟨rfl,hto⟩:=hp;have HZ:=hid (zA1 e1 (zA1 hto (open_none hg)));have q1:((z2F D).1 != 0)=true:=by{simp[open_none hg]};have q2:((z2F D).1 == 0)=false:=by{simp[open_none hg]};obtain⟨z,hz⟩:=zX1 ((z2F D).1);rw[<-hz] at q1 q2 HZ |-;clear hto e1 hg hop hz;go_wp2_with fail;rw[H0.out.2.2];unfold SROpenTo;rw[HZ.out.1];exact⟨rfl,HZ.out.2.1⟩
 | some g=>
   rw[hg] at hp;obtain⟨wb,Fl,Fd1,rfl,a1,a2,a3,a4⟩:=hp;obtain⟨z0,z1,-⟩:=open_up hg;have HG:=hid (zA1 hg (zA1 z0 z1));rw[z0];have H1:=hid (zA1 a1 (zA1 a2 (zA1 a3 a4)));clear hop hg z0 z1 a1 a2 a3 a4;have hk3:=kal w1 (.cells #[.pointer (some ⟨wb,0,none⟩),.slice none 0 0,.bool false] 117);have hn3:=heap_alloc_new w1 (.cells #[.pointer (some ⟨wb,0,none⟩),.slice none 0 0,.bool false] 117);obtain⟨N,hN⟩:=zX1 (g.l.length);have HN:=hid hN;have hNb:N<=4000:=by{rw[hN];exact H1.out.1.ok.count};have hs3:(w1.alloc (.cells #[.pointer (some ⟨wb,0,none⟩),.slice none 0 0,.bool false] 117)).heap.size=w1.heap.size+1:=by{simp};have H3:=hid (zA1 hk3 (zA1 hn3 hs3));clear hk3 hn3 hN hs3;go_wp2_with fail;obtain⟨w3,hw3⟩:=zX1 (w1.alloc (.cells #[.pointer (some ⟨wb,0,none⟩),.slice none 0 0,.bool false] 117));rw[<-hw3] at H3 |-;clear hw3
   go_loopw [7] (λiv wr=>∃ i:Nat,i<=N/\iv = .int .i64 i/\Hid (ROpR w3 w1.heap.size wb g.l i wr)) (λiv _=>N - (intOf iv).toNat)
   case atStart=>exact⟨0,Nat.zero_le _,rfl,hid ⟨Keep.refl _ _,.slice none 0 0,[],H3.out.2.1,Row.nil _ _ _,λk e=>by simp[Value.ownBlock] at e,rfl,PsOk.nil,Nat.le_refl _⟩⟩
   case round=>(obtain⟨i,hi,rfl,HT⟩:=hrel;have hkr:Keep zF w1 wr:=H3.out.1.next HT.out.keep zI (λk hk x=>by omega);obtain⟨vl,vs,hlog⟩:=H1.out.1.keep hkr zI zI;obtain⟨j0,j1,j2,j3,j4,jf,jb⟩:=z1K (show wr.heap[wb]?=some (.cells #[_,_,_,_,_] _ (0,0)) from hlog.wal.head);have hrecs:=hlog.wal.recs;obtain⟨ra,rc,rfl,-⟩:=hrecs.row.form;have hKr:=hid hkr;clear hlog hkr;by_cases hin:i<N;{have h4:(i:Int)<N:=by{omega};have hil:i<g.l.length:=by{rw[<-HN.out];exact hin};obtain⟨gr,ad2,c2,rfl,hc,hrow,hlc⟩:=hrecs.one i hil;have hsm:=H1.out.1.ok.small _ (List.getElem_mem hil);have hdrop:g.l=g.l.take i ++ (g.l[i] :: g.l.drop (i+1)):=by{rw[List.getElem_cons_drop,List.take_append_drop]};have htk:g.l.take (i+1)=g.l.take i ++ [g.l[i]]:=by{rw[List.take_add_one,List.getElem?_eq_getElem hil,Option.toList_some]};obtain⟨x,hx⟩:=zX1 (g.l[i]);rw[<-hx] at hc hrow hlc hsm hdrop htk;clear hx hrecs;have hdec:=zjH wr ad2 x.length c2 x (Cells.of_row hrow) hlc (by omega);rw[<-HN.out] at j2;have HS:=hid (zA1 hdrop (zA1 htk hil));clear hdrop htk hrow hlc hsm;go_wp2_with fail;refine hdec.mono ?_;intro e w6 hp;unfold DecPost at hp;obtain⟨hk6,hp⟩:=hp;have HK:=hid hk6;clear hdec hk6;cases hdx:dec x with | none=>{rw[hdx] at hp;simp only at hp;subst hp;have e1:R=(50,none,(z2F D).2.2):=by{obtain⟨m,ps,-,-,-,h2,-⟩:=HT.out.ex;rw[H0.out.2.1];unfold opS;rw[HG.out.1];simp only;rw[HS.out.1,decL_append,h2];simp only[decL];rw[hdx]};have HZ:=hid e1;clear e1 hdx hc;go_wp2_with fail;rw[H0.out.2.2];unfold SROpenTo;rw[HZ.out];refine⟨rfl,?_⟩;have hk:=hKr.out.nx HK.out;exact⟨Fd1,H1.out.1.disk_.keep hk zI,H1.out.2.1.next hk zI zE,H1.out.2.2.2⟩} | some l=>{rw[hdx] at hp;obtain⟨v,rfl,hrow,hown⟩:=hp;obtain⟨la,lc,rfl,-,-,-,hla⟩:=hrow.form;obtain⟨hl32,hlr⟩:=dec_len hdx;have hch:=Chs.of_row hrow (λc hc=>zoU (hlr c hc));obtain⟨pv,ps,hh,hpr,hpo,hdl,hok,hpl⟩:=HT.out.ex;obtain⟨pa,pc,rfl,-⟩:=hpr.form;have hh6:=HK.out.get hh id;obtain⟨M,hM⟩:=zX1 (ps.length);have hpr6:=hpr.keep HK.out zI;rw[<-hM] at hh6 hpr6;obtain⟨i0,i1,i2,if0,ib⟩:=z0T (show w6.heap[w1.heap.size]?=some (.cells #[_,_,_] _ (0,0)) from hh6);have hlay:=zgZ w6 pa M pc ps la l.length lc l hpr6 hM hch rfl (by omega);have H7:=hid (zA1 hdl (zA1 hok (zA1 hpl (zA1 hdx (zA1 hl32 (zA1 hlr (zA1 hpo (zA1 hM hh6))))))));clear hrow hown hla hl32 hlr hch hpr hpo hdl hok hpl hh hh6 hM hpr6 hdx hc;go_wp2_with fail;refine hlay.mono ?_;rintro e w8 ⟨v8,rfl,hr8,hk8,ho8⟩;have hh8:=hk8.get H7.out.2.2.2.2.2.2.2.2 id;obtain⟨a8,m8,rfl,-⟩:=hr8.form;have hh9:=z0A (show w8.heap[w1.heap.size]?=some (.cells #[_,_,_] _ (0,0)) from hh8) 1 (.slice a8 (layL ps l).length m8);have hk9:Keep (λk=>k=w1.heap.size) w8 (w8.setCell ⟨w1.heap.size,1,none⟩ (.slice a8 (layL ps l).length m8)):=kst;have H8:=hid (zA1 hr8 (zA1 hk8 (zA1 ho8 (zA1 hh8 (zA1 hh9 hk9)))));clear hlay hr8 hk8 ho8 hh9 hk9 i0 i1 i2 if0 ib j0 j1 j2 j3 j4 jf jb;obtain⟨i0,i1,i2,jf,jb⟩:=z0T (show w8.heap[w1.heap.size]?=some (.cells #[_,_,_] _ (0,0)) from hh8);clear hh8;go_wp2_with fail;go_roundw;(case rel=>exact⟨i+1,by omega,by go_num,hid (by{obtain⟨hdl,hok,hpl,hdx,hl32,hlr,hpo,hM,hh6⟩:=H7.out;obtain⟨hr8,hk8,ho8,hh8,hh9,hk9⟩:=H8.out;have s3:=HT.out.keep.size;have s6:=HK.out.size;refine⟨((HT.out.keep.next HK.out zI zE).next hk8 zI zE).next hk9 zI zI,_,layL ps l,hh9,hr8.keep hk9 (λk e x=>by subst x;exact hr8.not_block hh8 (by decide) e),λk e=>?_,?_,hok.layL hlr,?_⟩;{rcases ho8 k e with z | z;{omega};{rw[hM] at z;exact hpo k z}};{rw[HS.out.2.1,decL_append,hdl];simp only[decL];rw[hdx]};{have:=z6Z l ps;omega}})⟩);case measure=>simp[intOf];omega}};{have h4:decide ((i:Int)<N)=false:=by{simp;omega};rw[<-HN.out] at j2;clear hrecs;go_wp2_with fail;rw[H0.out.2.2];obtain⟨pv,ps,hh,hpr,hpo,hdl,hok,hpl⟩:=HT.out.ex;obtain rfl:i=N:=by{omega};rw[HN.out,List.take_length] at hdl;have e1:R=(0,some ⟨g,ps,false⟩,(z2F D).2.2):=by{rw[H0.out.2.1];unfold opS;rw[HG.out.1];simp only;rw[hdl]};unfold SROpenTo;rw[e1];obtain⟨hlog,hkw,hFl,hFd⟩:=H1.out;have hk:=hKr.out;have hlt1:=hlog.ltz;have s0:=hkw.size;have s1:=hk.size;have s3:=H3.out.2.2;refine⟨w1.heap.size,λk=>Fl k∨pv.ownBlock=some k∨k=w1.heap.size,Fd1,rfl,RStoIs.at (wb:=wb) (pv:=pv) (Fl:=Fl) ⟨hh,hpr,hlog.keep hk zI zI,λk e=>⟨.inr (.inl e),?_,?_⟩,λk x=>⟨.inl x,?_⟩,.inr (.inr rfl),λk x=>?_,λk x y=>?_,hok⟩,hkw.next hk zI zE,λk x=>?_,hFd⟩;{intro x;have:=hlt1 k (.inl x);have:=hpo k e;omega};{have:=hpo k e;omega};{have:=hlt1 k (.inl x);omega};{rcases x with x | x | x;{have:=hlt1 k (.inl x);omega};{exact hpr.lt x};{subst x;exact z0M hh}};{have:=hlt1 k (.inr y);rcases x with x | x | x;{exact hlog.apart_ k x y};{have:=hpo k x;omega};{omega}};{rcases x with x | x | x;{exact hFl k x};{have:=hpo k x;omega};{omega}}})
theorem zvW (w:World) (ao:Option Addr) (n c:Nat) (ps:List (Str×Str)) (hrow:Row w 140 2 (.slice ao n c) n (prsV ps)) (hn:n=ps.length) (hok:AL.Ok ps) (hnb:n<=1000000) (key:Str) :
  Calls Tryz.prog 63 #[.slice ao n c,.string (str key)] w λe w'=>e = .returned (getS ps key)/\Keep zF w w':=by
 have H0:=hid (zA1 hrow (zA1 hn hok));obtain⟨T,hT⟩:=zX1 (getS ps key);rw[<-hT];have HT:=hid hT;clear hrow hn hok hT;go_enter Tryz.func63,Tryz.ntmps63;go_wp2_with fail
 go_loopw [6] (λiv wr=>∃ i:Nat,i<=n/\iv = .int .i64 i/\Hid (Keep zF w wr/\∀ j (h:j<ps.length),j<i->ps[j].1≠key)) (λiv _=>n - (intOf iv).toNat)
 case atStart=>exact⟨0,Nat.zero_le _,rfl,hid ⟨Keep.refl _ _,λj _ h=>by omega⟩⟩
 case round=>(obtain⟨i,hi,rfl,HR⟩:=hrel;by_cases hin:i<n;{have h4:(i:Int)<n:=by{omega};have hil:i<ps.length:=by{rw[<-H0.out.2.1];exact hin};obtain⟨g,rfl,k0,k1⟩:=zkD (H0.out.1.keep HR.out.1 zI) i hil;obtain⟨x,hx⟩:=zX1 (ps[i]);rw[<-hx] at k0 k1;have HX:=hid hx;clear hx;by_cases he:x.1=key;{have q1:((str x.1).toList == (str key).toList)=true:=by{rw[he];simp};have e:T = .tuple #[.string (str x.2),.bool true]:=by{have hg:=z4E H0.out.2.2 (List.getElem_mem hil);rw[<-HX.out,he] at hg;rw[HT.out];unfold getS;rw[hg];rfl};have HE:=hid e;have he':=hid he;clear e he;go_wp2_with fail;go_ret2;rw[HE.out];exact⟨rfl,HR.out.1⟩};{have q1:((str x.1).toList == (str key).toList)=false:=by{simp[z1C,he]};have he':=hid he;clear he;go_wp2_with fail;go_roundw;(case rel=>exact⟨i+1,by omega,by go_num,hid ⟨HR.out.1,λj hj hji=>by{rcases Nat.lt_or_ge j i with h | h;{exact HR.out.2 j hj h};{obtain rfl:j=i:=by{omega};rw[<-HX.out];exact he'.out}}⟩⟩);case measure=>simp[intOf];omega}};{have h4:decide ((i:Int)<n)=false:=by{simp;omega};go_wp2_with fail;go_ret2;have e:T = .tuple #[.string (str []),.bool false]:=by{have hg:AL.get ps key=none:=by{cases hg:AL.get ps key with | none=>{rfl} | some y=>{obtain⟨j,hj,e⟩:=List.getElem_of_mem (z3F hg);exact absurd (by rw[e]) (HR.out.2 j hj (by have:=H0.out.2.1;omega))}};rw[HT.out];unfold getS;rw[hg];rfl};rw[e];exact⟨rfl,HR.out.1⟩})
def BoxT (p:Nat) (cs:Array Value) (t:TypeId):Thing:=fun w F=>w.heap[p]?=some (.cells cs t (0,0))∧F p∧∀ k,F k→k<w.heap.size
def RkT (d:Nat) (D:Dk):Thing:=fun w F=>RefAt w d F D
def RStoT (b d:Nat) (D:Dk) (S:St):Thing:=fun w F=>∃ F1 F2,RStoAt w b d F1 F2 D S∧F=fun k=>F1 k∨F2 k
def SideR (d:Nat) (D:Dk) (o:Option St) (sv:Value):Thing:=fun w F=>
 match o with
 | none=>sv = .pointer none∧RkT d D w F
 | some S=>∃ b,sv = .pointer (some ⟨b,0,none⟩)∧RStoT b d D S w F
theorem BoxT.lives (p:Nat) (cs:Array Value) (t:TypeId):Lives (BoxT p cs t):=
 ⟨λ⟨h1,h2,h3⟩ hk hn=>⟨hk.get h1 (hn _ h2),h2,λk x=>Nat.lt_of_lt_of_le (h3 k x) hk.size⟩,λh=>h.2.2⟩
theorem RkT.lives (d:Nat) (D:Dk):Lives (RkT d D):=⟨λh hk hn=>RefAt.keep h hk hn,λh=>RefAt.lt h⟩
theorem RStoT.lives (b d:Nat) (D:Dk) (S:St):Lives (RStoT b d D S):=
 ⟨λ⟨F1,F2,h,e⟩ hk hn=>⟨F1,F2,h.keep hk (λk x=>hn k (by rw[e];exact .inl x)) (λk x=>hn k (by rw[e];exact .inr x)),e⟩,λ⟨F1,F2,h,e⟩ k x=>h.ltw k (by rw[e] at x;exact x)⟩
theorem SROpenTo.side {d:Nat} {Fd:Nat->Prop} {w w':World} {R:Int×Option St×Dk} {e:Ending} (h:SROpenTo d Fd w R e w'):∃ sv,e = .returned (.tuple #[sv,.int .i64 R.1])/\Turns (SideR d R.2.2 R.2.1 sv) Fd w w':=by
 obtain⟨r,o,D⟩:=R;cases o with | none=>{obtain⟨rfl,F',h1,h2,h3⟩:=h;exact⟨_,rfl,F',⟨rfl,h1⟩,h2,h3⟩} | some S=>{obtain⟨b,F,Fd',rfl,h1,h2,h3,h4⟩:=h;exact⟨_,rfl,λk=>F k∨Fd' k,⟨b,rfl,F,Fd',h1,rfl⟩,h2,λk x=>x.elim (λy=>.inr (h3 k y)) (h4 k)⟩}
theorem Three.shrink {w0 w:World} {T U V T' U' V':Thing} {F G H F' G' H':Nat->Prop} (h:Three w0 T F U G V H w) (h1:T' w F') (h2:U' w G') (h3:V' w H') (s1:∀ k,F' k->F k) (s2:∀ k,G' k->G k) (s3:∀ k,H' k->H k):Three w0 T' F' U' G' V' H' w:=
 ⟨h1,h2,h3,λi x y=>h.a12 i (s1 i x) (s2 i y),λi x y=>h.a13 i (s1 i x) (s3 i y),λi x y=>h.a23 i (s2 i x) (s3 i y),λi x=>h.new1 i (s1 i x),λi x=>h.new2 i (s2 i x),λi x=>h.new3 i (s3 i x),h.keep⟩
abbrev zhN (d m:Nat) (sv rv:Value):Array Value:=#[.pointer (some ⟨d,0,none⟩),sv,.pointer (some ⟨m,0,none⟩),rv]
def SO.Sim (D:Dk) (o o2:Option St):Prop:=o2=o∨∃ S,o=some S∧o2=some (markS D S)
theorem Three.box {W w w':World} {p:Nat} {cs cs':Array Value} {t:TypeId} {U V:Thing} {A G H:Nat->Prop} (h:Three W (BoxT p cs t) A U G V H w) (LU:Lives U) (LV:Lives V) (hk:Keep (λk=>k=p) w w') (hh:w'.heap[p]?=some (.cells cs' t (0,0))):∃ A',Three W (BoxT p cs' t) A' U G V H w':=
 h.turn1 LU LV ⟨A,⟨hh,h.one.2.1,λk x=>Nat.lt_of_lt_of_le (h.one.2.2 k x) hk.size⟩,hk.mono λk _ e=>by subst e;exact h.one.2.1,λ_ x=>.inl x⟩
theorem Ints.cells {w:World} {v:Value} {l:List Int} (h:Ints w v l) :
  ∃ ao c,v = .slice ao l.length c/\l.length<=c/\c<=maxLen/\Cells w ao l.length 1 (zbG l)/\∀ z ∈ l,-9223372036854775808<=z/\z<=9223372036854775807:=by
 obtain⟨ao,c,rfl,h1,h2,h3⟩:=h;refine⟨ao,c,rfl,h1,h2,⟨by simp[z6C],λhp=>?_⟩,λz hz=>?_⟩;{obtain⟨ad,rfl,h4⟩:=h3 (by omega);refine⟨ad,rfl,λj u hu=>?_⟩;have hj:j<l.length:=by{have:=(List.getElem?_eq_some_iff.1 hu).1;rwa [z6C] at this};obtain⟨cs,_,⟨rfl,_⟩,hc⟩:=h4 j hj;have:=hc 0 _ rfl;rw[Nat.mul_one,Nat.add_zero] at this;rw[this];simpa [zbG,hj] using hu};{obtain⟨j,hj,rfl⟩:=List.getElem_of_mem hz;obtain⟨ad,rfl,h4⟩:=h3 (by omega);obtain⟨cs,_,⟨_,h5⟩,_⟩:=h4 j hj;exact h5}
theorem Cells.lt {w:World} {x:Addr} {n size:Nat} {xs:List Value} (h:Cells w (some x) n size xs) (hp:0<n * size):x.block<w.heap.size:=by
 obtain⟨ad,had,hc⟩:=h.2 hp;cases had;have hl:0<xs.length:=by{rw[h.1];exact hp};have:=World.block_lt_of_cell? w _ (hc 0 _ (List.getElem?_eq_getElem hl));rwa [show (x.add 0)=x by simp[Addr.add]] at this
theorem Ints.far {W w:World} {ao:Option Addr} {n c:Nat} {l:List Int} {F:Nat->Prop} (h:Ints W (.slice ao n c) l) (hk:Keep zF W w) (hF:∀ k,F k->W.heap.size<=k) :
  n=l.length/\n<=maxLen/\Cells w ao n 1 (zbG l)/\(0<n->∀ x,ao=some x->¬ F x.block)/\∀ z ∈ l,-9223372036854775808<=z/\z<=9223372036854775807:=by
 obtain⟨ao',c',e,h1,h2,h3,h4⟩:=h.cells;cases e;refine⟨rfl,by omega,h3.keep hk zI,λhp x hx hF'=>?_,h4⟩;subst hx;have:=h3.lt (by omega);have:=hF _ hF';omega
theorem StoAt.arm {w w':World} {b d:Nat} {F Fd:Nat->Prop} {D:Dk} {S:St} {n:Int} (H:StoAt w b d F Fd D S) (ht:DiskTo d Fd w (DM.arm D n) w'):StoTo b d F Fd w (DM.arm D n) S w':=by
 obtain⟨wb,mb,m,Fl,HI⟩:=H;obtain⟨ga,ca,vl,vs,L⟩:=HI.log;obtain⟨Fd',a1,a2,a3⟩:=ht;refine⟨F,Fd',⟨wb,mb,m,Fl,⟨a2.get HI.head (HI.apart _ HI.self),MapAt.keep HI.map a2 (HI.apart _ HI.fm),⟨ga,ca,vl,vs,⟨L.wal.keep a2 (λk x=>L.apart k x),a1,λk x y=>?_⟩⟩,HI.get,HI.inl,HI.self,HI.fm,HI.ne,λk x=>Nat.lt_of_lt_of_le (HI.lt k x) a2.size,λk x y=>?_,HI.ok⟩⟩,a2.mono λ_ _ x=>.inr x,λ_ x=>.inl x,a3⟩;{rcases a3 k y with z | z;{exact L.apart k x z};{have:=L.wal.lt k x;omega}};{rcases a3 k y with z | z;{exact HI.apart k x z};{have:=HI.lt k x;omega}}
theorem RStoAt.arm {w w':World} {b d:Nat} {F Fd:Nat->Prop} {D:Dk} {S:St} {n:Int} (H:RStoAt w b d F Fd D S) (ht:RefTo d Fd w (DM.arm D n) w'):RStoTo b d F Fd w (DM.arm D n) S w':=by
 obtain⟨wb,pv,Fl,HI⟩:=H;obtain⟨vl,vs,L⟩:=HI.log;obtain⟨Fd',a1,a2,a3⟩:=ht;refine⟨F,Fd',⟨wb,pv,Fl,⟨a2.get HI.head (HI.apart _ HI.self),HI.row.keep a2 (λk x=>HI.apart _ (HI.own k x).1),⟨vl,vs,⟨L.wal.keep a2 (λk x=>L.apart k x),a1,λk x y=>?_⟩⟩,HI.own,HI.inl,HI.self,λk x=>Nat.lt_of_lt_of_le (HI.lt k x) a2.size,λk x y=>?_,HI.ok⟩⟩,a2.mono λ_ _ x=>.inr x,λ_ x=>.inl x,a3⟩;{rcases a3 k y with z | z;{exact L.apart k x z};{have:=L.wal.lt k x;omega}};{rcases a3 k y with z | z;{exact HI.apart k x z};{have:=HI.lt k x;omega}}
end
section
open Go.ChangeShapes Go.WideShapes Go.RowKit Go.Deep MI SO BM DM WM
theorem zqZ (a:Addr) (i j:Nat):(a.add i).add j=a.add (i+j):=by
 by_cases hi:i=0;{subst hi;simp[Addr.add]};{rw[z9B a i (by omega)];by_cases hj:j=0;{subst hj;rw[Nat.add_zero,z9B a i (by omega)];simp[Addr.add]};{rw[z9B _ j (by omega),z9B a (i+j) (by omega),Nat.add_assoc]}}
abbrev sactV (x:SAct) (lv kv:Value):Value:=.agg #[.int .i64 x.kind,.int .i64 x.n,lv,kv]
def stepS (D:Dk) (o:Option St) (x:SAct):Dk×Option St:=
 if x.kind=5 then ((opS (DM.crash D x.keep)).2.2,(opS (DM.crash D x.keep)).2.1)
 else if x.kind=6 then (DM.arm D x.n,o)
 else match o with
 | none=>(D,none)
 | some S=>
   if x.kind=0∨x.kind=1∨x.kind=2 then ((doS D S x.list).2.1,some (doS D S x.list).2.2)
   else if x.kind=3 then ((syS D S).2.1,some (syS D S).2.2)
   else if x.kind=4 then ((cpS D S).2.1,some (cpS D S).2.2)
   else (D,some S)
def few (o:Option St) (n:Nat):Prop:=∀ S,o=some S→S.dead=false→S.ps.length≤n
end
namespace SO
open Go.Proofs.YtkjofdocgaiedaaGreat MI BM DM WM
theorem ziM {D:Dk} (h6:6<=D.safe.length) (G:Lg) (b:List UInt8) :
  ((WM.append D G b).1=0/\(WM.append D G b).2.2 = { G with l:=G.l ++ [b],dead:=false }/\(flat (G.l ++ [b])).length<=32 * half D/\b.length<=1024/\gone D G=false)∨(WM.append D G b).1=6∨(((WM.append D G b).1=3∨(WM.append D G b).1=5)/\(WM.append D G b).2=(D,G)/\gone D G=false):=by
 unfold WM.append;split;{exact .inr (.inl rfl)};{rename_i hg;have hg:gone D G=false:=by{simpa using hg};split;{exact .inr (.inr ⟨.inl rfl,rfl,hg⟩)};{rename_i h3;split;{exact .inr (.inr ⟨.inr rfl,rfl,hg⟩)};{rename_i hr;have hf:=z3P G.l b;unfold room at hr;have hfit:(flat (G.l ++ [b])).length<=32 * half D:=by{omega};have ha:(area D (G.l ++ [b])).length=32 * half D:=z1X hfit;obtain⟨-,-,h4,-⟩:=z4Z G.ep (area D (G.l ++ [b])) (((flat (G.l ++ [b])).length - 1) / 32 - (flat G.l).length / 32+1) ((flat G.l).length / 32) D h6 (by omega) ha;simp only;by_cases h0:(lay G.ep (area D (G.l ++ [b])) ((flat G.l).length / 32) (((flat (G.l ++ [b])).length - 1) / 32 - (flat G.l).length / 32+1) D).1=0;{exact .inl ⟨h0,by rw[h0];rfl,hfit,by omega,hg⟩};{exact .inr (.inl (h4 h0))}}}}
theorem z9D (ep:Nat):(z0R ep).length=32:=by
 have h1:=z3S 10 ep;have h2:=z1A 1 (z0K ep);have h3:(z0K ep).length<=10:=h1;unfold z0R;rw[List.length_append,List.length_replicate];omega
theorem zmT {D:Dk} (h6:6<=D.safe.length) (G:Lg) (L:List (List UInt8)) :
  ((WM.reset D G L).1=0/\(WM.reset D G L).2.2=⟨G.ep+1,L,L.length,false⟩/\(flat L).length<=32 * half D/\gone D G=false)∨(WM.reset D G L).1=6∨(((WM.reset D G L).1=3∨(WM.reset D G L).1=5)/\(WM.reset D G L).2=(D,G)/\gone D G=false):=by
 unfold WM.reset;split;{exact .inr (.inl rfl)};{rename_i hg;have hg:gone D G=false:=by{simpa using hg};split;{exact .inr (.inr ⟨.inl rfl,rfl,hg⟩)};{split;{exact .inr (.inr ⟨.inr rfl,rfl,hg⟩)};{rename_i hf;have hfit:(flat L).length<=32 * half D:=by{omega};obtain⟨h1,-⟩:=zlV h6 (G.ep+1) (area D L) (z1X hfit) (z9D _);simp only;split;{rename_i h0;exact .inl ⟨rfl,rfl,hfit,hg⟩};{rename_i h0;exact .inr (.inl (h1 h0))}}}}
theorem zrS (D:Dk):(DM.sync D).1=0∨(DM.sync D).1=6:=by
 unfold DM.sync;split;{exact .inl rfl};{exact .inr rfl}
theorem zjX:∀ (q:List (Str×Str)) (k v:Str),(∀ p ∈ q,p.1<k)->lay1 q ⟨k,v,false⟩=q ++ [(k,v)]
 | [],k,v,_=>rfl
 | p :: q,k,v,h=>by{unfold lay1;rw[if_pos (h p (by simp)),zjX q k v (λp hp=>h p (by simp[hp]))];rfl}
theorem zpQ:∀ (ps q:List (Str×Str)),Sorted (q ++ ps)->(∀ p ∈ ps,OkP p)->decL (cpL ps) q=some (q ++ ps)
 | [],q,_,_=>by simp[cpL,decL]
 | p :: ps,q,hs,ho=>by{have hp:=ho p (by simp);have hr:=zcF hp;have hl:=zjW hr;have hd:=zqM hr (by simp at hl;omega);show decL (enc [⟨p.1,p.2,false⟩] :: cpL ps) q=_;unfold decL;rw[hd];have e:layL q [⟨p.1,p.2,false⟩]=q ++ [p]:=by{show lay1 q ⟨p.1,p.2,false⟩=_;rw[zjX q p.1 p.2 (λa ha=>(List.pairwise_append.1 hs).2.2 a ha p (by simp))]};simp only;rw[e,zpQ ps (q ++ [p]) (by simpa using hs) (λa ha=>ho a (by simp[ha]))];simp}
theorem zkR:∀ (L:List (List UInt8)) (ps q:List (Str×Str)),decL L ps=some q->q.length<=ps.length+32 * L.length
 | [],ps,q,h=>by cases h;simp
 | b :: L,ps,q,h=>by{unfold decL at h;cases hd:dec b with | none=>{rw[hd] at h;cases h} | some l=>{rw[hd] at h;have h1:=zkR L _ q h;have h2:=z6Z l ps;have h3:=(dec_len hd).1;simp only[List.length_cons];omega}}
def Okay (S:St):Prop:=S.dead=false→decL S.g.l []=some S.ps
def OkO (o:Option St):Prop:=∀ S,o=some S→Okay S
theorem Okay.few {S:St} (h:Okay S) (hl:S.g.l.length<=4000):S.dead=false->S.ps.length<=128000:=λhd=>by
 have:=zkR _ _ _ (h hd);simp at this;omega
theorem zpI {D:Dk} (h6:6<=D.safe.length) {S:St} (h:Okay S) (hd:S.dead=false) {l:List Ch} (he:encE l=0) :
  ((apS D S (enc l)).1=0->(apS D S (enc l)).2.2.dead=false/\decL (apS D S (enc l)).2.2.g.l []=some (layL S.ps l))/\((apS D S (enc l)).1≠0->Okay (apS D S (enc l)).2.2):=by
 obtain⟨hl,hr⟩:=wbytes l he;unfold apS;rcases ziM h6 S.g (enc l) with ⟨h0,h1,-⟩ | h1 | ⟨h0,h1,-⟩;{refine⟨λ_=>⟨by simp only;rw[h0];rfl,?_⟩,λhne=>absurd h0 hne⟩;simp only;rw[h1];simp only;rw[decL_append,h hd];simp only[decL];rw[zqM hr hl]};{refine⟨λh0=>(by simp only at h0;rw[h1] at h0;cases h0),λ_ hd'=>?_⟩;simp only at hd';rw[h1] at hd';cases hd'};{refine⟨λh2=>(by simp only at h2;rcases h0 with h0 | h0 <;> rw[h0] at h2 <;> cases h2),λ_ _=>?_⟩;simp only;rw[h1];exact h hd}
theorem zjS {D:Dk} (h6:6<=D.safe.length) {S:St} (h:Okay S) (hp:PsOk S.ps):Okay (cpS D S).2.2:=by
 unfold cpS;split;{exact h};{rename_i hd;rcases zmT h6 S.g (cpL S.ps) with ⟨h0,h1,-⟩ | h1 | ⟨h0,h1,-⟩;{intro _;simp only;rw[h1];exact zpQ S.ps [] (by simpa using hp.sorted) hp.each};{intro hd';simp only at hd';rw[h1] at hd';cases hd'};{intro _;simp only;rw[h1];exact h (by simpa using hd)}}
theorem zqX (D:Dk) (S:St):(cpS D S).2.1.safe.length=D.safe.length:=by
 unfold cpS;split;{rfl};{exact zoJ D S.g _}
theorem zwL {D:Dk} (h6:6<=D.safe.length) {S:St} (h:Okay S) (hp:PsOk S.ps) (l:List Ch):Okay (doS D S l).2.2:=by
 unfold doS;split;{exact h};{rename_i hd;have hd:S.dead=false:=by{simpa using hd};split;{exact h};{rename_i he;have he:encE l=0:=by{omega};obtain⟨a1,a2⟩:=zpI h6 h hd he;have hcp:=zjS (D:=D) h6 h hp;have key:((z3E D S (enc l)).1=0->(z3E D S (enc l)).2.2.dead=false/\decL (z3E D S (enc l)).2.2.g.l []=some (layL S.ps l))/\((z3E D S (enc l)).1≠0->Okay (z3E D S (enc l)).2.2):=by{unfold z3E;split;{rename_i h5;have hk:=a2 (by omega);have hps:(apS D S (enc l)).2.2.ps=S.ps:=rfl;have h6':6<=(apS D S (enc l)).2.1.safe.length:=by{show 6<=(WM.append D S.g (enc l)).2.1.safe.length;rw[zeL];exact h6};have hk2:=zjS h6' hk (by rw[hps];exact hp);split;{rename_i hc;have hdd:=cpS_dead hc;have:=zpI (D:=(cpS (apS D S (enc l)).2.1 (apS D S (enc l)).2.2).2.1) (by rw[zqX];exact h6') hk2 hdd he;rw[cpS_ps,hps] at this;exact this};{rename_i hc;exact⟨λh0=>absurd h0 hc,λ_=>hk2⟩}};{exact⟨a1,a2⟩}};unfold z8W;by_cases h0:(z3E D S (enc l)).1=0;{rw[if_pos h0];intro _;simp only;rw[intoS_ps];exact(key.1 h0).2};{rw[if_neg h0];exact key.2 h0}}}
theorem zvO (D:Dk) {S:St} (h:Okay S):Okay (syS D S).2.2:=by
 unfold syS;split;{exact h};{rename_i hd;intro _;have e:(WM.z3V D S.g).2.2.l=S.g.l:=by{unfold WM.z3V;split;{rfl};{simp only;split <;> rfl}};simp only;rw[e];exact h (by simpa using hd)}
theorem zcT (D:Dk):OkO (opS D).2.1:=by
 intro S hS _;unfold opS at hS;split at hS;{cases hS};{rename_i g hg;split at hS;{cases hS};{rename_i ps hp;cases hS;exact hp}}
theorem z9R {D:Dk} (h:D.safe.length<=2048) (S:St) (l:List Ch):(doS D S l).2.1.waits.length<=D.waits.length+5120:=by
 have ha:∀ (D:Dk) (S:St) (b:List UInt8),D.safe.length<=2048->(apS D S b).2.1.waits.length<=D.waits.length+2048:=λD S b h=>z7L h S.g b;have hi:(z3E D S (enc l)).2.1.waits.length<=D.waits.length+5120:=by{have h1:=ha D S (enc l) h;have hl:(apS D S (enc l)).2.1.safe.length<=2048:=by{show (WM.append D S.g (enc l)).2.1.safe.length<=2048;rw[zeL];exact h};have h2:=cpS_waits hl (S:=(apS D S (enc l)).2.2);unfold z3E;split;{split;{have h3:=ha (cpS (apS D S (enc l)).2.1 (apS D S (enc l)).2.2).2.1 (cpS (apS D S (enc l)).2.1 (apS D S (enc l)).2.2).2.2 (enc l) (by rw[zqX];exact hl);omega};{omega}};{omega}};unfold doS;split;{exact Nat.le_add_right _ _};{split;{exact Nat.le_add_right _ _};{exact hi}}
theorem zgY (D:Dk) (S:St):(syS D S).2.1.waits.length<=D.waits.length:=by
 unfold syS;split;{exact Nat.le_refl _};{exact zcV D S.g}
theorem zrQ {D:Dk} (h:D.safe.length<=2048):(opS D).2.2.waits.length<=D.waits.length+1024:=by
 have:=zjQ h;unfold opS;split;{exact this};{split <;> exact this}
end SO
namespace AC
open Go.Proofs.YtkjofdocgaiedaaGreat MI SO BM DM WM
structure Ac where
 s:St
 b:Bal
 vs:List Vt
def doA (D:Dk) (S:St) (l:List Ch):Int×Dk×St:=if (doS D S l).1=0 then syS (doS D S l).2.1 (doS D S l).2.2 else doS D S l
def z5I (vs:List Vt) (k:Nat):List Vt:=vs.filter fun v=>decide (k≤v.slot)
def z1R (D:Dk) (A:Ac) (b:Bal) (k:Nat):(List Vt×Bal×Int)×Dk×Ac:=
 if z2P b=false then (([],Bal.zero,2),D,A)
 else if A.s.dead then (([],Bal.zero,6),D,A)
 else if less b A.b then (([],A.b,90),D,A)
 else if b=A.b then ((z5I A.vs k,b,0),D,A)
 else if (doA D A.s (z4Q b)).1=0 then ((z5I A.vs k,b,0),(doA D A.s (z4Q b)).2.1,⟨(doA D A.s (z4Q b)).2.2,b,A.vs⟩)
 else (([],Bal.zero,(doA D A.s (z4Q b)).1),(doA D A.s (z4Q b)).2.1,⟨(doA D A.s (z4Q b)).2.2,A.b,A.vs⟩)
def z7N (v:Vt):Bool:=z2P v.bal && (decide (v.slot≠0) && decide (v.val.length≤100))
def z0Q (D:Dk) (A:Ac) (v:Vt):(Bal×Int)×Dk×Ac:=
 if z7N v=false then ((Bal.zero,2),D,A)
 else if A.s.dead then ((Bal.zero,6),D,A)
 else if less v.bal A.b then ((A.b,90),D,A)
 else if (doA D A.s (z4R v)).1=0 then ((v.bal,0),(doA D A.s (z4R v)).2.1,⟨(doA D A.s (z4R v)).2.2,v.bal,insV A.vs v⟩)
 else ((Bal.zero,(doA D A.s (z4R v)).1),(doA D A.s (z4R v)).2.1,⟨(doA D A.s (z4R v)).2.2,A.b,A.vs⟩)
def cutV (vs:List Vt) (k:Nat):List Vt:=(vs.filter fun v=>decide (v.slot≤k)).take 32
def z3T (D:Dk) (A:Ac) (k:Nat):(Nat×Int)×Dk×Ac:=
 if A.s.dead then ((0,6),D,A)
 else if cutV A.vs k = [] then ((0,0),D,A)
 else if (doS D A.s (z3L (cutV A.vs k))).1=0 then (((cutV A.vs k).length,0),(doS D A.s (z3L (cutV A.vs k))).2.1,⟨(doS D A.s (z3L (cutV A.vs k))).2.2,A.b,A.vs.drop (cutV A.vs k).length⟩)
 else ((0,(doS D A.s (z3L (cutV A.vs k))).1),(doS D A.s (z3L (cutV A.vs k))).2.1,⟨(doS D A.s (z3L (cutV A.vs k))).2.2,A.b,A.vs⟩)
def z2T (D:Dk):Int×Option Ac×Dk:=match (opS D).2.1 with
 | none=>((opS D).1,none,(opS D).2.2)
 | some S=>match rd S.ps with
   | none=>(91,none,(opS D).2.2)
   | some (b,vs)=>(0,some ⟨S,b,vs⟩,(opS D).2.2)
def Ac.prom (A:Ac):Bal:=if A.s.dead then Bal.zero else A.b
def Ac.votes (A:Ac) (k:Nat):List Vt:=if A.s.dead then [] else z5I A.vs k
structure AOk (A:Ac):Prop where
 ok:A.s.dead=false→VOk A.b A.vs
 ps:A.s.dead=false→A.s.ps=encP A.b A.vs
theorem ziK {D:Dk} {S:St} (_hd:S.dead=false) (b:List UInt8):(z3E D S b).2.2.dead=decide ((z3E D S b).1=6):=by
 have ha:∀ (D:Dk) (S:St),(apS D S b).2.2.dead=decide ((apS D S b).1=6):=λD S=>rfl;have hc:∀ (D:Dk) (S:St),S.dead=false->(cpS D S).2.2.dead=decide ((cpS D S).1=6):=λD S h=>by{unfold cpS;rw[h];rfl};unfold z3E;split;{split;{exact ha _ _};{rename_i h5 h0;refine hc _ _ ?_;rw[ha,h5];rfl}};{exact ha _ _}
theorem zdE {D:Dk} {S:St} (hd:S.dead=false) (l:List Ch) :
  ((doS D S l).1=0/\(doS D S l).2.2.ps=layL S.ps l/\(doS D S l).2.2.dead=false)∨((doS D S l).1=6/\(doS D S l).2.2.dead=true)∨
  ((doS D S l).1≠0/\(doS D S l).1≠6/\(doS D S l).2.2.ps=S.ps/\(doS D S l).2.2.dead=false):=by
 by_cases he:encE l=0;{have e:doS D S l=z8W (z3E D S (enc l)) l:=by{unfold doS;rw[hd];simp[he]};have h6:=ziK (D:=D) hd (enc l);have hps:=intoS_ps D S (enc l);rw[e];unfold z8W;by_cases h0:(z3E D S (enc l)).1=0;{left;rw[if_pos h0];refine⟨h0,by simp only;rw[hps],?_⟩;simp only;rw[h6,h0];rfl};{right;rw[if_neg h0];by_cases h:(z3E D S (enc l)).1=6;{left;exact⟨h,by simp only;rw[h6,h];rfl⟩};{right;exact⟨h0,h,hps,by simp only;rw[h6];exact decide_eq_false h⟩}}};{have e:doS D S l=((encE l:Int),D,S):=by{unfold doS;rw[hd];simp[he]};have h6:encE l≠6:=by{unfold encE;split;{split <;> decide};{decide}};right;right;rw[e];exact⟨by simp only;omega,by simp only;omega,rfl,hd⟩}
theorem zqQ {D:Dk} {S:St} (hd:S.dead=false):((syS D S).2.2.dead=decide ((syS D S).1=6))/\(syS D S).2.2.ps=S.ps/\((syS D S).1=0∨(syS D S).1=6):=by
 unfold syS;rw[hd];simp only[Bool.false_eq_true,if_false];refine⟨trivial,trivial,?_⟩;unfold WM.z3V;split;{exact .inr rfl};{simp only;split;{exact .inl rfl};{right;rename_i h;rcases zrS D with x | x;{exact absurd x h};{exact x}}}
theorem z5G {D:Dk} {S:St} (hd:S.dead=false) (l:List Ch) :
  ((doA D S l).1=0/\(doA D S l).2.2.ps=layL S.ps l/\(doA D S l).2.2.dead=false)∨((doA D S l).1=6/\(doA D S l).2.2.dead=true)∨
  ((doA D S l).1≠0/\(doA D S l).1≠6/\(doA D S l).2.2.ps=S.ps/\(doA D S l).2.2.dead=false):=by
 rcases zdE (D:=D) hd l with ⟨h1,h2,h3⟩ | ⟨h1,h2⟩ | ⟨h1,h2,h3,h4⟩;{have e:doA D S l=syS (doS D S l).2.1 (doS D S l).2.2:=by{unfold doA;rw[if_pos h1]};rw[e];obtain⟨g1,g2,g3⟩:=zqQ (D:=(doS D S l).2.1) h3;rcases g3 with g3 | g3;{exact .inl ⟨g3,by rw[g2,h2],by rw[g1,g3];rfl⟩};{exact .inr (.inl ⟨g3,by rw[g1,g3];rfl⟩)}};{have e:doA D S l=doS D S l:=by{unfold doA;rw[if_neg (by omega)]};rw[e];exact .inr (.inl ⟨h1,h2⟩)};{have e:doA D S l=doS D S l:=by{unfold doA;rw[if_neg h1]};rw[e];exact .inr (.inr ⟨h1,h2,h3,h4⟩)}
theorem AOk.of_dead {A:Ac} (h:A.s.dead=true):AOk A:=⟨λe=>(by rw[h] at e;cases e),λe=>(by rw[h] at e;cases e)⟩
theorem AOk.prep {D:Dk} {A:Ac} (h:AOk A) (b:Bal) (hn:b.n<18446744073709551616) (k:Nat):AOk (z1R D A b k).2.2:=by
 unfold z1R;by_cases h1:z2P b=false;{rw[if_pos h1];exact h};rw[if_neg h1];by_cases h2:A.s.dead=true;{rw[if_pos h2];exact h};rw[if_neg h2];have hd:A.s.dead=false:=by{simpa using h2};by_cases h3:less b A.b=true;{rw[if_pos h3];exact h};rw[if_neg h3];by_cases h4:b=A.b;{rw[if_pos h4];exact h};rw[if_neg h4];have hb:OkB b:=⟨by simpa using h1,hn⟩;have hl:less b A.b=false:=by{simpa using h3};have hok:=h.ok hd;have hps:=h.ps hd;rcases z5G (D:=D) hd (z4Q b) with ⟨g1,g2,g3⟩ | ⟨g1,g2⟩ | ⟨g1,g2,g3,g4⟩;{rw[if_pos g1];exact⟨λ_=>hok.up hb hl,λ_=>by rw[g2,hps];exact ztG hb⟩};{rw[if_neg (by omega)];exact AOk.of_dead g2};{rw[if_neg g1];exact⟨λ_=>hok,λ_=>by simp only;rw[g3];exact hps⟩}
theorem AOk.accept {D:Dk} {A:Ac} (h:AOk A) (v:Vt) (hn:v.bal.n<18446744073709551616) (hs:v.slot<18446744073709551616):AOk (z0Q D A v).2.2:=by
 unfold z0Q;by_cases h1:z7N v=false;{rw[if_pos h1];exact h};rw[if_neg h1];by_cases h2:A.s.dead=true;{rw[if_pos h2];exact h};rw[if_neg h2];have hd:A.s.dead=false:=by{simpa using h2};by_cases h3:less v.bal A.b=true;{rw[if_pos h3];exact h};rw[if_neg h3];have hr:z2P v.bal=true/\v.slot≠0/\v.val.length<=100:=by{have:=h1;simp only[z7N,Bool.not_eq_false,Bool.and_eq_true,decide_eq_true_eq] at this;exact this};have hb:OkB v.bal:=⟨hr.1,hn⟩;have hl:less v.bal A.b=false:=by{simpa using h3};have hok:=h.ok hd;have hps:=h.ps hd;rcases z5G (D:=D) hd (z4R v) with ⟨g1,g2,g3⟩ | ⟨g1,g2⟩ | ⟨g1,g2,g3,g4⟩;{rw[if_pos g1];exact⟨λ_=>hok.ins hl (by have:=hr.2.1;omega) hs hb hr.2.2,λ_=>by simp only;rw[g2,hps];exact ztK hok hb hs⟩};{rw[if_neg (by omega)];exact AOk.of_dead g2};{rw[if_neg g1];exact⟨λ_=>hok,λ_=>by simp only;rw[g3];exact hps⟩}
theorem zgQ:∀ {vs:List Vt} (k:Nat),Rise vs->∃ us ws,vs=us ++ ws/\(vs.filter λv=>decide (v.slot<=k))=us/\(vs.filter λv=>decide (k<v.slot))=ws
 | [],_,_=>⟨[],[],rfl,rfl,rfl⟩
 | v :: vs,k,h=>by{have h1:=List.pairwise_cons.1 h;by_cases hk:v.slot<=k;{obtain⟨us,ws,e1,e2,e3⟩:=zgQ k h1.2;refine⟨v :: us,ws,by rw[e1];rfl,?_,?_⟩;{rw[List.filter_cons,if_pos (by simpa using hk),e2]};{rw[List.filter_cons,if_neg (by simp;omega),e3]}};{refine⟨[],v :: vs,rfl,?_,?_⟩;{rw[List.filter_eq_nil_iff];intro x hx;rcases List.mem_cons.1 hx with rfl | hx;{simpa using hk};{have:=h1.1 x hx;simp;omega}};{rw[List.filter_eq_self];intro x hx;rcases List.mem_cons.1 hx with rfl | hx;{simp;omega};{have:=h1.1 x hx;simp;omega}}}}
theorem zpW {vs:List Vt} (k:Nat) (h:Rise vs):vs=cutV vs k ++ vs.drop (cutV vs k).length:=by
 obtain⟨us,ws,e1,e2,e3⟩:=zgQ k h;unfold cutV;rw[e2];have e:us.take 32=vs.take (us.take 32).length:=by{rw[List.length_take,e1,List.take_append_of_le_length (by omega)];rcases Nat.le_total 32 us.length with x | x;{rw[Nat.min_eq_left x]};{rw[Nat.min_eq_right x,List.take_of_length_le x,List.take_length]}}
 conv=>lhs;rw[<-List.take_append_drop (us.take 32).length vs]
 rw[<-e]
theorem AOk.trim {D:Dk} {A:Ac} (h:AOk A) (k:Nat):AOk (z3T D A k).2.2:=by
 unfold z3T;by_cases h2:A.s.dead=true;{rw[if_pos h2];exact h};rw[if_neg h2];have hd:A.s.dead=false:=by{simpa using h2};by_cases h3:cutV A.vs k = [];{rw[if_pos h3];exact h};rw[if_neg h3];have hok:=h.ok hd;have hps:=h.ps hd;have hcut:=zpW k hok.rise;rcases zdE (D:=D) hd (z3L (cutV A.vs k)) with ⟨g1,g2,g3⟩ | ⟨g1,g2⟩ | ⟨g1,g2,g3,g4⟩;{rw[if_pos g1];refine⟨λ_=>⟨hok.bal,hok.rise.drop,λv hv=>hok.each v (List.mem_of_mem_drop hv)⟩,λ_=>?_⟩;simp only;rw[g2,hps];(conv=>lhs;rw[hcut]);have e:cutV (cutV A.vs k ++ A.vs.drop (cutV A.vs k).length) k=cutV A.vs k:=by{rw[<-hcut]};rw[e];exact zlG};{rw[if_neg (by omega)];exact AOk.of_dead g2};{rw[if_neg g1];exact⟨λ_=>hok,λ_=>by simp only;rw[g3];exact hps⟩}
theorem ztI {D:Dk} {A:Ac} (hs:∀ S,(opS D).2.1=some S->Sorted S.ps) (h:(z2T D).2.1=some A):AOk A/\A.s.dead=false/\(opS D).2.1=some A.s:=by
 unfold z2T at h;cases ho:(opS D).2.1 with | none=>{rw[ho] at h;cases h} | some S=>{rw[ho] at h;simp only at h;cases hr:rd S.ps with | none=>{rw[hr] at h;cases h} | some st=>{obtain⟨b,vs⟩:=st;rw[hr] at h;simp only[Option.some.injEq] at h;subst h;obtain⟨h1,h2⟩:=zuV (hs S ho) hr;refine⟨⟨λ_=>h1,λ_=>h2⟩,?_,rfl⟩;unfold opS at ho;split at ho;{cases ho};{split at ho;{cases ho};{cases ho;rfl}}}}
end AC
section
open Go.RowKit Go.Maps MI SO BM DM WM AC
theorem Turns.trans {T' T'':Thing} {F:Nat->Prop} {w w' w'':World} (h:Turns T' F w w') (h2:∀ F',T' w' F'->Turns T'' F' w' w''):Turns T'' F w w'':=by
 obtain⟨F',a,b,c⟩:=h;obtain⟨F'',a2,b2,c2⟩:=h2 F' a;exact⟨F'',a2,b.next b2 zI (λi hi x=>(c i x).elim id λy=>absurd y (by omega)),λi x=>(c2 i x).elim (λy=>c i y) λy=>.inr (Nat.le_trans b.size y)⟩
theorem Turns.later {T:Thing} {F:Nat->Prop} {w w':World} (LT:Lives T) (h:T w F) (hk:Keep zF w w'):Turns T F w w':=
 ⟨F,LT.keep h hk zI,hk.mono λ_ _ x=>x.elim,λ_ x=>.inl x⟩
theorem Turns.ahead {T':Thing} {F:Nat->Prop} {w w1 w':World} (hk:Keep zF w w1) (h:Turns T' F w1 w'):Turns T' F w w':=by
 obtain⟨F',a,b,c⟩:=h;exact⟨F',a,hk.next b zE zI,λi x=>(c i x).imp id λy=>Nat.le_trans hk.size y⟩
def TrioT (T U V:Thing):Thing:=fun w F=>∃ X Y Z,T w X∧U w Y∧V w Z∧(∀ i,X i→¬ Y i)∧(∀ i,X i→¬ Z i)∧(∀ i,Y i→¬ Z i)∧F=fun k=>X k∨Y k∨Z k
section
variable {T T' U U' V V':Thing} {w w':World} {F:Nat→Prop}
theorem TrioT.lives (LT:Lives T) (LU:Lives U) (LV:Lives V):Lives (TrioT T U V):=
 ⟨λ⟨X,Y,Z,h1,h2,h3,a,b,c,e⟩ hk hn=>⟨X,Y,Z,LT.keep h1 hk (λi x=>hn i (by rw[e];exact .inl x)),LU.keep h2 hk (λi x=>hn i (by rw[e];exact .inr (.inl x))),LV.keep h3 hk (λi x=>hn i (by rw[e];exact .inr (.inr x))),a,b,c,e⟩,λ⟨X,Y,Z,h1,h2,h3,_,_,_,e⟩ i x=>by rw[e] at x;exact x.elim (LT.lt h1 i) λx=>x.elim (LU.lt h2 i) (LV.lt h3 i)⟩
theorem TrioT.turn1 (LU:Lives U) (LV:Lives V) (h:TrioT T U V w F) (t:∀ X,T w X->Turns T' X w w'):Turns (TrioT T' U V) F w w':=by
 obtain⟨X,Y,Z,h1,h2,h3,a,b,c,rfl⟩:=h;obtain⟨X',p,q,r⟩:=t X h1;refine⟨λk=>X' k∨Y k∨Z k,⟨X',Y,Z,p,LU.keep h2 q (λi x y=>a i y x),LV.keep h3 q (λi x y=>b i y x),λi x y=>?_,λi x y=>?_,c,rfl⟩,q.mono λ_ _ x=>.inl x,λi x=>x.elim (λx=>(r i x).imp .inl id) λx=>.inl (.inr x)⟩;{rcases r i x with z | z;{exact a i z y};{have:=LU.lt h2 i y;omega}};{rcases r i x with z | z;{exact b i z y};{have:=LV.lt h3 i y;omega}}
theorem TrioT.turnY {X Y Z:Nat->Prop} (LT:Lives T) (LV:Lives V) (h1:T w X) (h3:V w Z) (a:∀ i,X i->¬ Y i) (b:∀ i,X i->¬ Z i) (c:∀ i,Y i->¬ Z i) (e:F=λk=>X k∨Y k∨Z k) (t:Turns U' Y w w'):Turns (TrioT T U' V) F w w':=by
 obtain⟨Y',p,q,r⟩:=t;subst e;refine⟨λk=>X k∨Y' k∨Z k,⟨X,Y',Z,LT.keep h1 q a,p,LV.keep h3 q (λi x y=>c i y x),λi x y=>?_,b,λi x y=>?_,rfl⟩,q.mono λ_ _ x=>.inr (.inl x),λi x=>x.elim (λx=>.inl (.inl x)) λx=>x.elim (λx=>(r i x).imp (λy=>.inr (.inl y)) id) λx=>.inl (.inr (.inr x))⟩;{rcases r i y with z | z;{exact a i x z};{have:=LT.lt h1 i x;omega}};{rcases r i x with z | z;{exact c i z y};{have:=LV.lt h3 i y;omega}}
theorem Turns.map {T T':Thing} {F:Nat->Prop} {w w':World} (h:Turns T F w w') (f:∀ G,T w' G->T' w' G):Turns T' F w w':=let ⟨G,a,b,c⟩:=h;⟨G,f G a,b,c⟩
end
def VotesT (nv:Value) (vs:List Vt):Thing:=fun w F=>(∃ us,Votes w F nv vs us)∧∀ k,F k→k<w.heap.size
theorem VotesT.lives (nv:Value) (vs:List Vt):Lives (VotesT nv vs):=
 ⟨λ⟨⟨us,h⟩,h2⟩ hk hn=>⟨⟨us,h.keep hk hn⟩,λk x=>Nat.lt_of_lt_of_le (h2 k x) hk.size⟩,λh=>h.2⟩
def BoxA (p:Nat) (cs:Array Value) (t:TypeId):Thing:=fun w F=>w.heap[p]?=some (.cells cs t (0,0))∧F p∧∀ k,F k→k<w.heap.size
theorem BoxA.lives (p:Nat) (cs:Array Value) (t:TypeId):Lives (BoxA p cs t):=
 ⟨λ⟨h1,h2,h3⟩ hk hn=>⟨hk.get h1 (hn _ h2),h2,λk x=>Nat.lt_of_lt_of_le (h3 k x) hk.size⟩,λh=>h.2.2⟩
abbrev accC (sb:Nat) (b:Bal) (nv:Value) (dead:Bool):Array Value:=#[.pointer (some ⟨sb,0,none⟩),.int .u64 (b.n:Int),.int .i64 b.node,nv,.bool dead]
def AcT (a d:Nat) (D:Dk) (A:Ac):Thing:=fun w F=>∃ sb nv,TrioT (BoxA a (accC sb A.b nv A.s.dead) 86) (StoT sb d D A.s) (VotesT nv A.vs) w F
theorem AcT.lives (a d:Nat) (D:Dk) (A:Ac):Lives (AcT a d D A):=
 ⟨λ⟨sb,nv,h⟩ hk hn=>⟨sb,nv,(TrioT.lives (BoxA.lives _ _ _) (StoT.lives _ _ _ _) (VotesT.lives _ _)).keep h hk hn⟩,λ⟨_sb,_nv,h⟩=>(TrioT.lives (BoxA.lives _ _ _) (StoT.lives _ _ _ _) (VotesT.lives _ _)).lt h⟩
end
namespace AC
open Go.Proofs.YtkjofdocgaiedaaGreat MI SO BM DM WM
def z3W:List Vt→Nat→Nat
 | [],_=>0
 | v :: vs,s=>if v.slot<s then z3W vs s+1 else 0
theorem zdD:∀ (vs:List Vt) (s:Nat),z3W vs s<=vs.length
 | [],_=>Nat.le_refl _
 | v :: vs,s=>by{have:=zdD vs s;unfold z3W;split <;> simp <;> omega}
theorem zcX:∀ {vs:List Vt} {s k:Nat},k<=vs.length->(∀ i (h:i<vs.length),i<k->vs[i].slot<s)->(∀ h:k<vs.length,¬ vs[k].slot<s)->k=z3W vs s
 | [],s,k,h,_,_=>by simp at h;rw[h];rfl
 | v :: vs,s,0,_,_,h2=>by{have:=h2 (by simp);simp only[List.getElem_cons_zero] at this;unfold z3W;rw[if_neg this]}
 | v :: vs,s,k+1,h,h1,h2=>by{have h3:=h1 0 (by simp) (by omega);simp only[List.getElem_cons_zero] at h3;unfold z3W;rw[if_pos h3,<-zcX (k:=k) (by simpa using h) (λi hi hik=>by have:=h1 (i+1) (by simpa using hi) (by omega);simpa using this) (λhh=>by have:=h2 (by simpa using hh);simpa using this)]}
theorem zaJ:∀ (vs:List Vt) (v:Vt),insV vs v=vs.take (z3W vs v.slot) ++ v :: vs.drop (if (vs[z3W vs v.slot]?.map (·.slot))=some v.slot then z3W vs v.slot+1 else z3W vs v.slot)
 | [],v=>rfl
 | u :: vs,v=>by{unfold insV z3W;by_cases h:u.slot<v.slot;{rw[if_pos h,if_pos h,zaJ vs v];simp only[List.take_succ_cons,List.getElem?_cons_succ,List.cons_append];by_cases e:Option.map (λx=>x.slot) vs[z3W vs v.slot]?=some v.slot;{rw[if_pos e,if_pos e];rfl};{rw[if_neg e,if_neg e];rfl}};{rw[if_neg h,if_neg h];simp only[List.take_zero,List.nil_append,List.getElem?_cons_zero,Option.map_some,Option.some.injEq];by_cases e:u.slot=v.slot;{rw[if_pos e,if_pos e];rfl};{rw[if_neg e,if_neg e];rfl}}}
theorem zeS:∀ {vs:List Vt} (k:Nat),Rise vs->z5I vs k=vs.drop (z3W vs k)
 | [],_,_=>rfl
 | v :: vs,k,h=>by{have h1:=List.pairwise_cons.1 h;unfold z5I z3W;by_cases hk:v.slot<k;{rw[if_pos hk,List.filter_cons,if_neg (by simp;omega)];exact zeS k h1.2};{rw[if_neg hk,List.drop_zero,List.filter_eq_self];intro x hx;rcases List.mem_cons.1 hx with rfl | hx;{simp;omega};{have:=h1.1 x hx;simp;omega}}}
theorem zcS:∀ (l:Str) (x:UInt8),valN (l ++ [x])=valN l * 256+x.toNat
 | [],x=>by simp[valN]
 | y :: l,x=>by{simp only[List.cons_append,valN,List.length_append,List.length_singleton];rw[zcS l x,Nat.pow_succ,Nat.add_mul];simp only[Nat.mul_assoc];omega}
end AC
section
open Go.RowKit Go.Maps MI SO BM DM WM AC
theorem z1W {w:World} {b:Nat} {T:TypeId} {a0 a1 a2 a3 a4:Value} (H:w.heap[b]?=some (.cells #[a0,a1,a2,a3,a4] T (0,0))) :
  w.cell? ⟨b,0,none⟩=some a0/\w.cell? ⟨b,1,none⟩=some a1/\w.cell? ⟨b,2,none⟩=some a2/\w.cell? ⟨b,3,none⟩=some a3/\w.cell? ⟨b,4,none⟩=some a4/\(∀ o,w.frozen? ⟨b,o,none⟩=false)/\b<w.heap.size:=by
 refine⟨?_,?_,?_,?_,?_,?_,z0M H⟩ <;> simp[World.cell?,World.frozen?,H]
theorem zaS (w:World) (a sb:Nat) (b:Bal) (nv:Value) (dead:Bool) (F:Nat->Prop) (vs:List Vt) (us:List Value) (slot:Nat)
  (hh:w.heap[a]?=some (.cells (accC sb b nv dead) 86 (0,0))) (hv:Votes w F nv vs us) :
  Calls Tryz.prog 41 #[.pointer (some ⟨a,0,none⟩),.int .u64 (slot:Int)] w λe w'=>e = .returned (.int .i64 (z3W vs slot:Nat))/\w'=w:=by
 obtain⟨ao,c,rfl,hc,hm,-⟩:=hv.row.form;obtain⟨n,hn⟩:=zX1 (vs.length);rw[<-hn] at hh hv hc;obtain⟨k0,k1,k2,k3,k4,kf,kb⟩:=z1W hh;have H:=hid (zA1 hv hn);have hn63:(n:Int)<=9223372036854775807:=by{unfold maxLen at hm;omega};obtain⟨P,hP⟩:=zX1 (z3W vs slot);rw[<-hP];have HP:=hid hP;clear hv hh hn hP hc hm k0 k1 k2 k4 kf;go_enter Tryz.func41,Tryz.ntmps41;go_wp2_with fail
 go_loopw [5] (λiv wr=>∃ i:Nat,i<=n/\iv = .int .i64 i/\wr=w/\Hid (∀ j (hj:j<vs.length),j<i->vs[j].slot<slot)) (λiv _=>n - (intOf iv).toNat)
 case atStart=>exact⟨0,Nat.zero_le _,rfl,rfl,hid λj _ x=>by omega⟩
 case round=>(obtain⟨i,hi,rfl,rfl,HR⟩:=hrel;by_cases hin:i<n;{have h4:(i:Int)<n:=by{omega};have hil:i<vs.length:=by{rw[<-H.out.2];exact hin};obtain⟨g,ua,uc,rfl,hcell,-⟩:=H.out.1.get i hil;have a0:=hcell 0 _ rfl;rw[Nat.add_zero] at a0;obtain⟨s,hs⟩:=zX1 (vs[i].slot);rw[<-hs] at a0;have HS:=hid (zA1 hil hs);clear hcell hs;by_cases hlt:s<slot;{have q1:(s:Int)<(slot:Int):=by{omega};go_wp2_with fail;go_roundw;(case rel=>exact⟨i+1,by omega,by go_num,by first | rfl | trivial,hid λj hj hji=>by{rcases Nat.lt_or_eq_of_le (Nat.le_of_lt_succ hji) with x | x;{exact HR.out j hj x};{subst x;rw[<-HS.out.2];exact hlt}}⟩);case measure=>simp[intOf];omega};{have q1:decide ((s:Int)<(slot:Int))=false:=by{simp;omega};have q2:decide (s<slot)=false:=decide_eq_false hlt;have HE:=hid (show i=P by{rw[HP.out];exact zcX (Nat.le_of_lt HS.out.1) HR.out (λh=>by rw[<-HS.out.2];exact hlt)});go_wp2_with fail;go_ret;exact⟨by rw[HE.out];first | rfl | simp,rfl⟩}};{have q1:decide ((i:Int)<(n:Int))=false:=by{simp;omega};have q2:decide (i<n)=false:=decide_eq_false hin;have HE:=hid (show i=P by{rw[HP.out];exact zcX (by have:=H.out.2;omega) HR.out (λh=>by have:=H.out.2;omega)});go_wp2_with fail;go_ret;exact⟨by rw[HE.out];first | rfl | simp,rfl⟩})
theorem zmL (w:World) (a sb:Nat) (b:Bal) (nv:Value) (dead:Bool) (hh:w.heap[a]?=some (.cells (accC sb b nv dead) 86 (0,0))) :
  Calls Tryz.prog 16 #[.pointer (some ⟨a,0,none⟩)] w λe w'=>e = .returned (balV (if dead then Bal.zero else b))/\Keep zF w w':=by
 have hn:=heap_alloc_new w (.cells #[.int .u64 0,.int .i64 0] 28);have hk:=kal w (.cells #[.int .u64 0,.int .i64 0] 28);have hh1:=hk.get hh id;go_enter Tryz.func16,Tryz.ntmps16
 go_upto_region 1 with fail
 obtain⟨w1,hw1⟩:=zX1 (w.alloc (.cells #[.int .u64 0,.int .i64 0] 28));rw[<-hw1] at hn hk hh1 |-;clear hw1;obtain⟨k0,k1,k2,k3,k4,kf,kb⟩:=z1W hh1;have d0:w1.cell? ⟨w.heap.size,0,none⟩=some (.int .u64 0):=by{simp[World.cell?,hn]};have d1:w1.cell? ⟨w.heap.size,1,none⟩=some (.int .i64 0):=by{simp[World.cell?,hn]};have f0:∀ o,w1.frozen? ⟨w.heap.size,o,none⟩=false:=λo=>by{simp[World.frozen?,hn]};have H1:=hid (zA1 hk hn);clear hh hh1 hn hk k0 k3 kf kb;have fin:∀ x y:Value,((w1.setCell ⟨w.heap.size,0,none⟩ x).setCell ⟨w.heap.size,1,none⟩ y).heap[w.heap.size]?=some (.cells #[x,y] 28 (0,0))/\Keep zF w ((w1.setCell ⟨w.heap.size,0,none⟩ x).setCell ⟨w.heap.size,1,none⟩ y):=λx y=>by{have g1:=z0A H1.out.2 0 x;have g2:=z0A g1 1 y;have hkz:Keep (λk=>k=w.heap.size) w1 ((w1.setCell ⟨w.heap.size,0,none⟩ x).setCell ⟨w.heap.size,1,none⟩ y):=by{refine Keep.setCell (Keep.setCell (Keep.refl _ _) (.inl ?_) _) (.inl ?_) _ <;> rfl};exact⟨g2,H1.out.1.next hkz zI (λk hk x=>by omega)⟩};have HF:=hid fin;clear fin;cases dead with | true=>{go_wp2_with fail;obtain⟨g2,hkw⟩:=HF.out (.int .u64 0) (.int .i64 0);refine bodyPost_ret (z5E rfl _ _ w.heap.size rfl [.int .u64 0,.int .i64 0] (λj u hu=>?_) _ Tryz.underlying28 rfl (by kernel_rfl)) rfl ⟨rfl,hkw⟩;rw[cell_of_row _ _ _ _ _ _ g2];simpa using hu} | false=>{go_wp2_with fail;obtain⟨g2,hkw⟩:=HF.out (.int .u64 (b.n:Int)) (.int .i64 b.node);refine bodyPost_ret (z5E rfl _ _ w.heap.size rfl [.int .u64 (b.n:Int),.int .i64 b.node] (λj u hu=>?_) _ Tryz.underlying28 rfl (by kernel_rfl)) rfl ⟨rfl,hkw⟩;rw[cell_of_row _ _ _ _ _ _ g2];simpa using hu}
theorem zgB (w:World) (a d:Nat) (D:Dk) (A:Ac) (F:Nat->Prop) (H:AcT a d D A w F) :
  Calls Tryz.prog 16 #[.pointer (some ⟨a,0,none⟩)] w λe w'=>e = .returned (balV A.prom)/\Keep zF w w':=by
 obtain⟨sb,nv,X,Y,Z,hbox,-⟩:=H;exact zmL w a sb A.b nv A.s.dead hbox.1
def VotesPost (w:World) (vs:List Vt) (e:Ending) (w':World):Prop:=∃ v us Fv,e = .returned v∧Votes w' Fv v vs us∧(∀ k,Fv k→w.heap.size≤k)∧Keep (fun _=>False) w w'
def Apart (us:List Value):Prop:=∀ i j k,i<j→j<us.length→(us.getD i undef).ownBlock=some k→(us.getD j undef).ownBlock≠some k
theorem Apart.nil:Apart []:=λ_ _ _ _ h=>absurd h (by simp)
theorem Apart.push {us:List Value} {u:Value} (h:Apart us) (hu:∀ i k,i<us.length->(us.getD i undef).ownBlock=some k->u.ownBlock≠some k):Apart (us ++ [u]):=λi j k hij hj e=>by
 rw[List.length_append,List.length_singleton] at hj;rw[List.getD_eq_getElem?_getD,List.getElem?_append_left (by omega),<-List.getD_eq_getElem?_getD] at e;rcases Nat.lt_or_eq_of_le (Nat.le_of_lt_succ hj) with y | y;{rw[List.getD_eq_getElem?_getD,List.getElem?_append_left y,<-List.getD_eq_getElem?_getD];exact h i j k hij y e};{subst y;rw[List.getD_eq_getElem?_getD,List.getElem?_append_right (Nat.le_refl _),Nat.sub_self];exact hu i k hij e}
def VotesPostA (w:World) (vs:List Vt) (e:Ending) (w':World):Prop:=∃ v us Fv,e = .returned v∧Votes w' Fv v vs us∧(∀ k,Fv k→w.heap.size≤k)∧Keep (fun _=>False) w w'∧Apart us
theorem zbD (w:World) (a sb:Nat) (b:Bal) (nv:Value) (dead:Bool) (F:Nat->Prop) (vs:List Vt) (us:List Value) (k:Nat)
  (hh:w.heap[a]?=some (.cells (accC sb b nv dead) 86 (0,0))) (hv:Votes w F nv vs us) (hr:Rise vs) (hb:∀ v ∈ vs,v.val.length<=1000) (hN:vs.length<=1000000) :
  Calls Tryz.prog 14 #[.pointer (some ⟨a,0,none⟩),.int .u64 (k:Int)] w (VotesPostA w (if dead then [] else z5I vs k)):=by
 obtain⟨k0,k1,k2,k3,k4,kf,kb⟩:=z1W hh;cases dead with
 | true=>
   clear hh hv;go_enter Tryz.func14,Tryz.ntmps14;go_wp2_with fail;go_ret;exact⟨_,[],λ_=>False,rfl,Votes.nil _ _,λ_ x=>x.elim,Keep.refl _ _,Apart.nil⟩
 | false=>
   have hpl:=zaS w a sb b nv false F vs us k hh hv;have hfd:=zeS k hr;have hple:=zdD vs k;obtain⟨p,hp⟩:=zX1 (z3W vs k);rw[<-hp] at hpl hfd hple;obtain⟨ao,c,rfl,hc,hm,hnil,hsome⟩:=hv.row.form;obtain⟨n,hn⟩:=zX1 (vs.length);rw[<-hn] at hh hv hc hple k3;obtain⟨m,hm2⟩:=zX1 (n - p);have hsl:=λw=>z1U (P:=Tryz.prog) z4J ao n c .i64 p hple w;obtain⟨ta,hta⟩:=zX1 (z1G ao c p 4);obtain⟨tc,htc⟩:=zX1 (c - p);rw[<-hta,<-hm2,<-htc] at hsl;obtain⟨T,hT⟩:=zX1 (vs.drop p);rw[<-hT] at hfd;simp only[Bool.false_eq_true,if_false];rw[hfd];have hTm:T.length=m:=by{rw[hT,List.length_drop,hm2,hn]};have H:=hid (zA1 hv (zA1 hn (zA1 hta (zA1 hT (zA1 hTm (zA1 hb (zA1 hc (zA1 hple hm2))))))));have HPl:=hid (λs:Later w=>show Calls Tryz.prog 41 #[.pointer (some ⟨a,0,none⟩),.int .u64 (k:Int)] s.val λe w'=>e = .returned (.int .i64 (p:Nat))/\Keep zF s.val w' from by{have:=zaS s.val a sb b (.slice ao n c) false F vs us k (s.keep.get hh id) (hv.keep s.keep zI);rw[<-hp] at this;exact this.mono λe w' ⟨h1,h2⟩=>⟨h1,by rw[h2];exact Keep.refl _ _⟩});have hm63:(m:Int)<=9223372036854775807:=by{unfold maxLen at hm;omega};have HN:=hid hN;clear hv hh hn hta hT hTm hfd hm2 hb hr hp hpl hnil hsome htc hm hN;go_enter Tryz.func14,Tryz.ntmps14
   go_upto_region 4 with fail
   have j3:=λs:Later w=>s.cell k3
   (refine z0W (by kernel_rfl) (by kernel_rfl) ?_;(repeat (go_big_quiet_step ((go_at_call 41;exact Later.call (HPl.out _)))));refine wpQuiet_nil ?_;rintro _ ⟨sq,rfl⟩)
   have hk1:=sq.keep;obtain⟨w1,hw1⟩:=zX1 (sq.val);rw[<-hw1] at hk1 |-;clear hw1 sq j3 HPl hsl k0 k1 k2 k3 k4 kf kb;go_wp2_with (at_builtin;refine z0H ?_;intro q hq)
   go_loopw [5,25] (λov iv wr=>∃ i:Nat,i<=m/\iv = .int .i64 i/\Hid (∃ us Fo,Votes wr Fo ov (T.take i) us/\(∀ k,Fo k->w.heap.size<=k)/\Keep zF w wr/\Apart us)) (λ_ iv _=>m - (intOf iv).toNat)
   case atStart=>exact⟨0,Nat.zero_le _,rfl,hid ⟨[],λ_=>False,Votes.nil _ _,λ_ x=>x.elim,hk1,Apart.nil⟩⟩
   case round=>
    obtain⟨i,hi,rfl,HR⟩:=hrel;by_cases him:i<m
    ·have q1:(i:Int)<m:=by omega
     obtain⟨os,Fo,ho,hFo,hkr,hap⟩:=HR.out;have hil:p+i<vs.length:=by{have:=H.out.2.1;have:=H.out.2.2.2.2.2.2.2.2;omega};obtain⟨g,ua,uc,hao,hcell,hrow⟩:=(H.out.1.keep hkr zI).get (p+i) hil;subst hao;obtain⟨q,hq⟩:=zX1 (p * 4);have hta:ta=some ⟨g,q,none⟩:=by{rw[H.out.2.2.1];unfold z1G;rw[if_neg (by have:=H.out.2.2.2.2.2.2.1;have:=H.out.2.1;omega)];simp only[Option.map_some];rw[z0L,Nat.zero_add,hq]};subst hta;obtain⟨x,hx⟩:=zX1 (vs[p+i]);rw[<-hx] at hcell hrow;obtain⟨xl,hxl⟩:=zX1 (x.val.length);rw[<-hxl] at hcell hrow;have b0:=hcell 0 _ rfl;have b1:=hcell 1 _ rfl;have b2:=hcell 2 _ rfl;have b3:=hcell 3 _ rfl;rw[show (p+i) * 4+0=q+i * 4 by rw[hq];omega] at b0;rw[show (p+i) * 4+1=q+i * 4+1 by rw[hq];omega] at b1;rw[show (p+i) * 4+2=q+i * 4+2 by rw[hq];omega] at b2;rw[show (p+i) * 4+3=q+i * 4+3 by rw[hq];omega] at b3;have HAp:=hid hap;clear hap;have HX:=hid (zA1 ho (zA1 hFo (zA1 hkr (zA1 hrow (zA1 hx (zA1 hxl hq))))));clear ho hFo hkr hcell hrow hx hxl hq
     go_upto_region 7 with fail
     have hn2:=heap_alloc_new wr (.cells #[.int .u64 (x.slot:Int),.int .u64 (x.bal.n:Int),.int .i64 x.bal.node,.slice ua xl uc] 31);have hk2:=kal wr (.cells #[.int .u64 (x.slot:Int),.int .u64 (x.bal.n:Int),.int .i64 x.bal.node,.slice ua xl uc] 31);have hz2:(wr.alloc (.cells #[.int .u64 (x.slot:Int),.int .u64 (x.bal.n:Int),.int .i64 x.bal.node,.slice ua xl uc] 31)).heap.size=wr.heap.size+1:=by{simp};obtain⟨w2,hw2⟩:=zX1 (wr.alloc (.cells #[.int .u64 (x.slot:Int),.int .u64 (x.bal.n:Int),.int .i64 x.bal.node,.slice ua xl uc] 31));rw[<-hw2] at hn2 hk2 hz2 |-;clear hw2 b0 b1 b2 b3;have hk3:=kal w2 (.cells #[] 5);have hf3:=Row.fresh w2 5 1;have hn3:=hk3.get hn2 id;have hz3:(w2.alloc (.cells #[] 5)).heap.size=w2.heap.size+1:=by{simp};have d3:(w2.alloc (.cells #[] 5)).cell? ⟨wr.heap.size,3,none⟩=some (.slice ua xl uc):=by{obtain⟨w3,hw3⟩:=zX1 (w2.alloc (.cells #[] 5));rw[<-hw3] at hn3 |-;simp[World.cell?,hn3]};have H3:=hid (zA1 hk2 (zA1 hk3 (zA1 hf3 (zA1 hn3 (zA1 hz2 hz3)))));clear hn2 hk2 hz2 hk3 hf3 hn3 hz3;go_wp2_with (at_builtin;refine z0H ?_;intro q hq)
     (refine hq.out ?_;clear hq q)
     obtain⟨w3,hw3⟩:=zX1 (w2.alloc (.cells #[] 5));rw[<-hw3] at H3 d3
     first | rw[<-hw3] | skip
     clear hw3;obtain⟨hk2,hk3,hf3,hn3,hz2,hz3⟩:=H3.out;have hbx:x.val.length<=1000:=H.out.2.2.2.2.2.1 x (by rw[HX.out.2.2.2.2.1];exact List.getElem_mem _);have hxl:=HX.out.2.2.2.2.2.1;have hk13:=hk2.nx hk3;refine wpList_plain rfl (λK hK=>?_);refine z0P z0S (.tmp 29) (.tmp 31) rfl rfl hf3 ua xl uc (z0B x.val) rfl (Cells.of_row (HX.out.2.2.2.1.keep hk13 zI)) (z1I _) (by unfold maxLen;omega) (by omega) ?_;intro v4 w4 hr4 hk4 hv4;refine hK _ _ ?_;clear hK K;obtain⟨a4,c4,rfl,-⟩:=hr4.form;rw[Nat.zero_add] at hr4
     try rw[Nat.zero_add] at hv4
     try rw[Nat.zero_add]
     have hn4:=hk4.get hn3 (λe=>by have e2:w2.heap.size=wr.heap.size:=Option.some.inj e;omega);have d3b:w4.cell? ⟨wr.heap.size,3,none⟩=some (.slice ua xl uc):=by{simp[World.cell?,hn4]};have f3:w4.frozen? ⟨wr.heap.size,3,none⟩=false:=by{simp[World.frozen?,hn4]};have H4:=hid (zA1 hr4 (zA1 hk4 (zA1 hv4 hn4)));clear hr4 hk4 hv4 hn4 hk2 hk3 hf3 hn3 hz2 hz3 hk13 d3 hbx hxl
     go_upto_region 8 with fail
     have hn5:=z0A H4.out.2.2.2 3 (.slice a4 xl c4);have hk5:Keep (λk=>k=wr.heap.size) w4 (w4.setCell ⟨wr.heap.size,3,none⟩ (.slice a4 xl c4)):=kst;obtain⟨w5,hw5⟩:=zX1 (w4.setCell ⟨wr.heap.size,3,none⟩ (.slice a4 xl c4));rw[<-hw5] at hn5 hk5 |-;clear hw5 d3b f3;have e0:w5.cell? ⟨wr.heap.size,0,none⟩=some (.int .u64 (x.slot:Int)):=by{simp[World.cell?,hn5]};have e1:w5.cell? ⟨wr.heap.size,1,none⟩=some (.int .u64 (x.bal.n:Int)):=by{simp[World.cell?,hn5]};have e2:w5.cell? ⟨wr.heap.size,2,none⟩=some (.int .i64 x.bal.node):=by{simp[World.cell?,hn5]};have e3:w5.cell? ⟨wr.heap.size,3,none⟩=some (.slice a4 xl c4):=by{simp[World.cell?,hn5]};have hk6:=kal w5 (.cells #[.int .u64 (x.slot:Int),.int .u64 (x.bal.n:Int),.int .i64 x.bal.node,.slice a4 xl c4] 31);have hn6:=heap_alloc_new w5 (.cells #[.int .u64 (x.slot:Int),.int .u64 (x.bal.n:Int),.int .i64 x.bal.node,.slice a4 xl c4] 31);have H5:=hid (zA1 hk5 (zA1 hk6 hn6));clear hk5 hk6 hn6 hn5;go_wp2_with (at_builtin;refine z0H ?_;intro q hq)
     (refine hq.out ?_;clear hq q)
     obtain⟨w6,hw6⟩:=zX1 (w5.alloc (.cells #[.int .u64 (x.slot:Int),.int .u64 (x.bal.n:Int),.int .i64 x.bal.node,.slice a4 xl c4] 31));rw[<-hw6] at H5
     first | rw[<-hw6] | skip
     clear hw6 e0 e1 e2 e3;obtain⟨ho,hFo,hkr,hrow,hx,hxl,hq⟩:=HX.out;obtain⟨hk2,hk3,hf3,hn3,hz2,hz3⟩:=H3.out;obtain⟨hr4,hk4,hv4,hn4⟩:=H4.out;obtain⟨hk5,hk6,hn6⟩:=H5.out;have hk23:=hk2.nx hk3;have hk24:Keep zF wr w4:=hk23.next hk4 zI (λk hk e=>by have e2:w2.heap.size=k:=Option.some.inj e;omega);have hk25:Keep zF wr w5:=hk24.next hk5 zI (λk hk e=>by omega);have hk26:=hk25.nx hk6;have ho6:=ho.keep hk26 zI;have hTi:(T.take i).length=i:=by{rw[List.length_take,H.out.2.2.2.2.1];omega};obtain⟨oo,oc,rfl,-⟩:=ho6.row.form;have hr6:=ho6.row;rw[hTi] at hr6 ho6 |-;have hns:i<1000000:=by{have h1:=HN.out;have h2:=H.out.2.1;have h3:=H.out.2.2.2.2.2.2.2.2;omega};refine wpList_plain rfl (λK hK=>?_);refine z0P z4J (.tmp 34) (.tmp 36) rfl rfl hr6 (some ⟨w5.heap.size,0,none⟩) 1 1 (z2X x (.slice a4 xl c4)) rfl ⟨rfl,λ_=>⟨_,rfl,λt u hu=>by rw[z0L,Nat.zero_add,cell_of_row _ _ _ _ _ _ hn6];simpa [z2X] using hu⟩⟩ (λu hu=>by simp[z2X] at hu;rcases hu with rfl | rfl | rfl | rfl <;> rfl) (by unfold maxLen;omega) (by omega) ?_;intro v7 w7 hr7 hk7 hv7;have hk7:Keep (λk=>(Value.slice oo i oc).ownBlock=some k) w6 w7:=hk7;refine hK _ _ ?_;clear hK K;have HZ:=hid (show ∃ us Fo',Votes w7 Fo' v7 (T.take (i+1)) us/\(∀ k,Fo' k->w.heap.size<=k)/\Keep zF w w7/\Apart us from by{have hTx:T.take (i+1)=T.take i ++ [x]:=by{have hiT:i<T.length:=by{rw[H.out.2.2.2.2.1];exact him};rw[List.take_add_one,List.getElem?_eq_getElem hiT,Option.toList_some];congr 2;rw[hx];simp only[H.out.2.2.2.1,List.getElem_drop]};have hown4:∀ k,(Value.slice a4 xl c4).ownBlock=some k->wr.heap.size<k:=λk e=>by{rcases hv4 with ⟨e1,-⟩ | ⟨k',h1,h2⟩;{rw[e1] at e;have:=Option.some.inj e;simp only at this;omega};{rw[e] at h1;cases h1;rcases h2 with h2 | h2;{have:=Option.some.inj h2;simp only at this;omega};{omega}}};have s1:=hkr.size;have s2:=hk25.size;have s3:=hk6.size;rw[hTx];refine⟨os ++ [.slice a4 xl c4],λk=>Fo k∨(wr.heap.size<=k),ho6.push (u:=.slice a4 xl c4) (F':=λk=>Fo k∨(wr.heap.size<=k)) ?_ ?_ ?_ hk7 (λk x=>.inl x) ?_,?_,?_,HAp.out.push λi' k' hi' e1 e2=>?_⟩;{rw[<-hxl];have h:=(hr4.keep hk5 (λk e x=>by have:=hown4 k e;omega)).keep hk6 zI;rw[List.nil_append] at h;exact h};{intro k e;have h1:=hown4 k e;exact⟨.inr (by omega),λe2=>by have:=ho.row.lt (by rw[z0Y _ _ i];exact e2);omega⟩};{rw[hTi];exact hr7};{intro k e;rcases hv7 with ⟨_,h0⟩ | ⟨k',h1,h2⟩;{omega};{rw[e] at h1;cases h1;rcases h2 with h2 | h2;{exact⟨.inl (ho6.own k h2),.inl h2⟩};{exact⟨.inr (by omega),.inr (by omega)⟩}}};{rintro k (x | x);{exact hFo k x};{omega}};{exact(hkr.next hk26 zI zI).next hk7 zI (λk hk e=>by have:=hFo k (ho6.own k e);omega)};{have h1:=hown4 k' e2;have h2:=(ho.each i' (by rw[<-ho.len];exact hi')).1.lt e1;omega}});clear ho hFo hkr hrow hx hxl hq hk2 hk3 hf3 hn3 hz2 hz3 hr4 hk4 hv4 hn4 hk5 hk6 hn6 hk23 hk24 hk25 hk26 ho6 hr6 hr7 hk7 hv7 hTi;go_wp2_with fail;go_roundw
     case rel=>exact⟨i+1,by omega,by go_num,HZ⟩
     case measure=>simp[intOf];omega
    {have q1:decide ((i:Int)<m)=false:=by{simp;omega};obtain⟨os,Fo,ho,hFo,hkr,hap⟩:=HR.out;rw[List.take_of_length_le (by have:=H.out.2.2.2.2.1;omega)] at ho;have HZ:=hid (zA1 ho (zA1 hFo (zA1 hkr hap)));clear ho hFo hkr hap;go_wp2_with fail;go_ret;exact⟨_,os,Fo,rfl,HZ.out.1,HZ.out.2.1,HZ.out.2.2⟩}
theorem ziX (w:World) (a sb:Nat) (b:Bal) (nv:Value) (dead:Bool) (F:Nat->Prop) (vs:List Vt) (us:List Value) (k:Nat)
  (hh:w.heap[a]?=some (.cells (accC sb b nv dead) 86 (0,0))) (hv:Votes w F nv vs us) (hr:Rise vs) (hb:∀ v ∈ vs,v.val.length<=1000) (hN:vs.length<=1000000) :
  Calls Tryz.prog 14 #[.pointer (some ⟨a,0,none⟩),.int .u64 (k:Int)] w (VotesPost w (if dead then [] else z5I vs k)):=
 (zbD w a sb b nv dead F vs us k hh hv hr hb hN).mono λ_ _ ⟨v,us,Fv,h1,h2,h3,h4,_⟩=>⟨v,us,Fv,h1,h2,h3,h4⟩
theorem zlJ (u:FrameMode) (w:World) (ba be a sb:Nat) (b:Bal) (nv:Value) (dead:Bool) (e:Int) (ha:w.cell? ⟨ba,0,none⟩=some (.pointer (some ⟨a,0,none⟩))) (he:w.cell? ⟨be,0,none⟩=some (.int .i64 e))
  (hh:w.heap[a]?=some (.cells (accC sb b nv dead) 86 (0,0))) :
  CallsD Tryz.prog 77 #[.pointer (some ⟨ba,0,none⟩),.pointer (some ⟨be,0,none⟩)] u w λr u' w'=>u'=u/\(r = .returned (.tuple #[])/\w'.heap[a]?=some (.cells (accC sb b nv (dead || decide (e=6))) 86 (0,0))/\Keep (λk=>k=a) w w'):=by
 obtain⟨k0,k1,k2,k3,k4,kf,kb⟩:=z1W hh;have HH:=hid hh;clear hh k0 k1 k2 k3;have hk:∀ (w1:World) (v:Value),Keep zF w w1->w1.heap[a]?=some (.cells (accC sb b nv dead) 86 (0,0))->(w1.setCell ⟨a,4,none⟩ v).heap[a]?=some (.cells #[.pointer (some ⟨sb,0,none⟩),.int .u64 (b.n:Int),.int .i64 b.node,nv,v] 86 (0,0))/\Keep (λk=>k=a) w (w1.setCell ⟨a,4,none⟩ v):=λw1 v h1 h2=> ⟨z0A h2 4 v,h1.next (show Keep (λk=>k=a) w1 _ from by refine Keep.setCell (Keep.refl _ _) (.inl ?_) _;rfl) zE zI⟩;have HK:=hid hk;clear hk
 go_enter_d Tryz.func77,Tryz.ntmps77
 go_wp2_with fail;have j0:=λs:Later w=>s.cell ha;have j1:=λs:Later w=>s.cell he;have j2:=λs:Later w=>s.cell k4;have fin:∀ (w1:World) (x:Bool),Keep zF w w1->x=(dead || decide (e=6))->(w1.setCell ⟨a,4,none⟩ (.bool x)).heap[a]?=some (.cells (accC sb b nv (dead || decide (e=6))) 86 (0,0))/\Keep (λk=>k=a) w (w1.setCell ⟨a,4,none⟩ (.bool x)):=λw1 x h1 hx=>by{rw[<-hx];exact HK.out w1 (.bool x) h1 (h1.get HH.out id)};have HF:=hid fin;clear fin ha he k4;cases dead with | true=>{(refine z0X 11 (by kernel_rfl) (by kernel_rfl) ?_;simp only[List.take_succ_cons,List.take_zero,List.drop_succ_cons,List.drop_zero];(repeat (go_big_quiet_step ((fail))));refine wpQuiet_nil ?_;rintro _ ⟨sq,rfl⟩);have hk1:=sq.keep;obtain⟨w1,hw1⟩:=zX1 (sq.val);rw[<-hw1] at hk1 |-;clear hw1 sq j0 j1 j2;have hh1:=hk1.get HH.out id;have d4:w1.cell? ⟨a,4,none⟩=some (.bool true):=by{simp[World.cell?,hh1]};have f4:w1.frozen? ⟨a,4,none⟩=false:=by{simp[World.frozen?,hh1]};have HZ:=hid (HF.out w1 true hk1 rfl);clear hk1 hh1 kf;go_wp2_with fail;(go_end0);exact⟨rfl,HZ.out⟩} | false=>{obtain⟨z,hz⟩:=zX1 (decide (e=6));have hz2:(e == 6)=z:=by{rw[hz];by_cases h:e=6 <;> simp[h]};have HZ0:=hid hz;have hz3:=hz.symm;clear hz;(refine z0X 11 (by kernel_rfl) (by kernel_rfl) ?_;simp only[List.take_succ_cons,List.take_zero,List.drop_succ_cons,List.drop_zero];(repeat (go_big_quiet_step ((fail))));refine wpQuiet_nil ?_;rintro _ ⟨sq,rfl⟩);have hk1:=sq.keep;obtain⟨w1,hw1⟩:=zX1 (sq.val);rw[<-hw1] at hk1 |-;clear hw1 sq j0 j1 j2;have hh1:=hk1.get HH.out id;have d4:w1.cell? ⟨a,4,none⟩=some (.bool false):=by{simp[World.cell?,hh1]};have f4:w1.frozen? ⟨a,4,none⟩=false:=by{simp[World.frozen?,hh1]};have HZ:=hid (HF.out w1 z hk1 (by rw[HZ0.out,Bool.false_or]));clear hk1 hh1 kf hz2 hz3;go_wp2_with fail;(go_end0);exact⟨rfl,HZ.out⟩}
theorem AC.doA_dead (D:Dk) (S:St) (l:List Ch):(doA D S l).2.2.dead=(S.dead || decide ((doA D S l).1=6)):=by
 cases hd:S.dead with | true=>{have e:doS D S l=(6,D,S):=by{unfold doS;rw[hd];rfl};have e2:doA D S l=(6,D,S):=by{unfold doA;rw[e];rfl};rw[e2];exact hd} | false=>{rcases z5G (D:=D) hd l with ⟨h1,h2,h3⟩ | ⟨h1,h2⟩ | ⟨h1,h2,h3,h4⟩;{rw[h3,h1];rfl};{rw[h2,h1];rfl};{rw[h4,decide_eq_false h2];rfl}}
theorem StoTo.turnsT {b d:Nat} {F1 F2:Nat->Prop} {w w':World} {D:Dk} {S:St} (h:StoTo b d F1 F2 w D S w'):Turns (StoT b d D S) (λk=>F1 k∨F2 k) w w':=by
 obtain⟨F',Fd',h1,h2,h3,h4⟩:=h;exact⟨λk=>F' k∨Fd' k,⟨F',Fd',h1,rfl⟩,h2,λk x=>x.elim (λy=>(h3 k y).imp .inl id) (λy=>(h4 k y).imp .inr id)⟩
theorem zlU {fn:Func} {t:Tmp} {ty:TypeId} (h:fn.results = #[.cell t ty]) (tm:Array Value) (w:World) (g:Nat) (ht:tm.getD t undef = .pointer (some ⟨g,0,none⟩)) (e:Int) (hc:w.cell? ⟨g,0,none⟩=some (.int .i64 e)) (ha:(isAgg ty).run Tryz.prog w = .ok false w):(results fn tm).run Tryz.prog w = .ok (.int .i64 e) w:=by
 have ht':tm[t]?.getD undef = .pointer (some ⟨g,0,none⟩):=by{simpa using ht};simp[results,h,ht',asAddr,loadVar,Sem.run_bind,ha,go_sem,hc]
theorem zrE {a sb d:Nat} {b:Bal} {nv:Value} {vs:List Vt} {D':Dk} {S':St} {dd dd':Bool} {F:Nat->Prop} {w w5 w6:World} (T5:Turns (TrioT (BoxA a (accC sb b nv dd) 86) (StoT sb d D' S') (VotesT nv vs)) F w w5)
  (hh6:w6.heap[a]?=some (.cells (accC sb b nv dd') 86 (0,0))) (hk6:Keep (λk=>k=a) w5 w6):Turns (TrioT (BoxA a (accC sb b nv dd') 86) (StoT sb d D' S') (VotesT nv vs)) F w w6:=
 T5.trans λF' h=>TrioT.turn1 (StoT.lives _ _ _ _) (VotesT.lives _ _) h λX hX=>⟨X,⟨hh6,hX.2.1,λk x=>Nat.lt_of_lt_of_le (hX.2.2 k x) hk6.size⟩,hk6.mono λk _ e=>by subst e;exact hX.2.1,λ_ x=>.inl x⟩
theorem Turns.aside {T:Thing} {F:Nat->Prop} {w w1 w2:World} {q p:Nat} (LT:Lives T) (h:∃ F',T w1 F'/\Keep F w w1/\(∀ i,F' i->F i∨w.heap.size<=i)/\¬ F' q/\¬ F' p) (hk:Keep (λk=>k=q) w1 w2) (hq:w.heap.size<=q):∃ F',T w2 F'/\Keep F w w2/\(∀ i,F' i->F i∨w.heap.size<=i)/\¬ F' q/\¬ F' p:=by
 obtain⟨F',a,b,c,d,e⟩:=h;exact⟨F',LT.keep a hk (λk x e=>d (e ▸ x)),b.next hk zI (λk hk e=>by omega),c,d,e⟩
theorem zqK (w:World) (a sb d:Nat) (b:Bal) (nv:Value) (vs:List Vt) (D:Dk) (S:St) (F:Nat→Prop) (H:TrioT (BoxA a (accC sb b nv S.dead) 86) (StoT sb d D S) (VotesT nv vs) w F)
  (ao:Option Addr) (n c:Nat) (l:List Ch) (hL:Chs w (.slice ao n c) l) (hn:n=l.length) (hap:0<n→∀ x,ao=some x→¬ F x.block) (hm:S.dead=false→S.ps.length≤900000) (hfew:D.waits.length≤490000) :
  Calls Tryz.prog 37 #[.pointer (some ⟨a,0,none⟩),.slice ao n c] w fun e w'=>e = .returned (.int .i64 (doA D S l).1)∧
   Turns (TrioT (BoxA a (accC sb b nv (doA D S l).2.2.dead) 86) (StoT sb d (doA D S l).2.1 (doA D S l).2.2) (VotesT nv vs)) F w w':=by
 obtain⟨E,hE⟩:=zX1 (doA D S l);rw[← hE];have HE:=hid hE;clear hE;have hmf:∀ (fn:Fn) (first cap:Array Value) (w:World),(Instr.makeFunc fn first cap).run Tryz.prog w = .ok (.func fn first cap) w:=fun _ _ _ _=>rfl;have LT:=TrioT.lives (BoxA.lives a (accC sb b nv S.dead) 86) (StoT.lives sb d D S) (VotesT.lives nv vs);have hFl:=LT.lt H;have hn1:=heap_alloc_new w (.cells #[.pointer (some ⟨a,0,none⟩)] 36);have hk1:=kal w (.cells #[.pointer (some ⟨a,0,none⟩)] 36);have hz1:(w.alloc (.cells #[.pointer (some ⟨a,0,none⟩)] 36)).heap.size=w.heap.size+1:=by simp
 have hn2:=heap_alloc_new (w.alloc (.cells #[.pointer (some ⟨a,0,none⟩)] 36)) (.cells #[.int .i64 0] 33);have hk2:Keep (fun _=>False) (w.alloc (.cells #[.pointer (some ⟨a,0,none⟩)] 36)) ((w.alloc (.cells #[.pointer (some ⟨a,0,none⟩)] 36)).alloc (.cells #[.int .i64 0] 33)):=(Keep.refl _ _).alloc _;rw[hz1] at hn2;have hn1b:=hk2.get hn1 id;have hk:=hk1.nx hk2
 go_enter_defers Tryz.func37,Tryz.ntmps37
 have HN:=hid hn;clear hn
 go_upto_region 2 with fail
 obtain⟨w1,hw1⟩:=zX1 ((w.alloc (.cells #[.pointer (some ⟨a,0,none⟩)] 36)).alloc (.cells #[.int .i64 0] 33));rw[← hw1] at hn2 hn1b hk ⊢;clear hw1 hn1 hk1 hk2 hz1 hmf;have H1:=LT.keep H hk (fun _ _ x=>x);obtain⟨X,Y,Z,hbox,⟨F1,F2,hsa,hY⟩,hvt,d1,d2,d3,hF⟩:=H1;have hdo:=zsF w1 sb d F1 F2 D S hsa ao n c l (SliceOf.keepF hL hk (fun _ _ _ _ _ x=>x)) HN.out (fun hp x hx=>⟨fun y=>hap hp x hx (by rw[hF,hY];exact .inr (.inl (.inl y))),fun y=>hap hp x hx (by rw[hF,hY];exact .inr (.inl (.inr y)))⟩) hm (by omega);have hof:D.safe.length≤2048:=(DiskAt.ok hsa.diskAt).few;have hwt:=z9R hof S l;obtain⟨R,hR⟩:=zX1 (doS D S l);have hE:=HE.out;have hEd:=doA_dead D S l;have hEr:E=if R.1=0 then syS R.2.1 R.2.2 else R:=by rw[hE,hR];rfl
 rw[← hE] at hEd;rw[← hR] at hdo hwt;clear hR hE hm hap hL hof LT H;have c1:w1.cell? ⟨w.heap.size,0,none⟩=some (.pointer (some ⟨a,0,none⟩)):=by simp[World.cell?,hn1b]
 obtain⟨k0,-⟩:=z1W hbox.1;have HQ:=hid (zA1 hbox (zA1 hvt (zA1 d1 (zA1 d2 (zA1 d3 (zA1 hF (zA1 hn1b (zA1 hn2 (zA1 hk (zA1 hY (zA1 hEr (zA1 hEd (zA1 hwt hFl)))))))))))));clear hbox hsa hvt d1 d2 d3 hF hn1b hn2 hk hY hEr hEd hwt hFl;go_wp2_with fail;refine hdo.mono ?_;rintro e w2 ⟨rfl,ht⟩;clear hdo c1 k0;obtain⟨hbox,hvt,d1,d2,d3,hF,hn1b,hn2,hk,hY,hEr,hEd,hwt,hFl⟩:=HQ.out;have htt:=ht.turnsT;rw[← hY] at htt;have T2:=TrioT.turnY (BoxA.lives _ _ _) (VotesT.lives _ _) hbox hvt d1 d2 d3 hF htt;have hw1z:w.heap.size+1<w1.heap.size:=z0M hn2;obtain⟨F',T2a,T2b,T2c⟩:=T2;have g1:=T2b.get hn1b (fun x=>by have:=hFl _ x;omega);have g2:=T2b.get hn2 (fun x=>by have:=hFl _ x;omega);have f2:w2.frozen? ⟨w.heap.size+1,0,none⟩=false:=by simp[World.frozen?,g2]
 have e2:w2.cell? ⟨w.heap.size+1,0,none⟩=some (.int .i64 0):=by simp[World.cell?,g2]
 have g3:=z0A g2 0 (.int .i64 R.1);have hk3:Keep (fun k=>k=w.heap.size+1) w2 (w2.setCell ⟨w.heap.size+1,0,none⟩ (.int .i64 R.1)):=kst;have g1b:=hk3.get g1 (fun x=>by omega);obtain⟨w3,hw3⟩:=zX1 (w2.setCell ⟨w.heap.size+1,0,none⟩ (.int .i64 R.1));have hF'n:∀ k,F' k→k<w.heap.size∨w1.heap.size≤k:=fun k x=>(T2c k x).imp (hFl k) id;have H2:=hid (zA1 T2a (zA1 T2b (zA1 T2c (zA1 hF'n hw1z))));rw[← hw3] at g3 hk3 g1b;have HW3:=hid hw3;have H3:=hid (zA1 g3 (zA1 hk3 g1b));clear hbox hvt d1 d2 d3 hF hn1b hn2 hk hY hEr hEd hwt hFl htt ht T2a T2b T2c g1 g2 g3 hk3 g1b hw3 hF'n hw1z
 go_upto_region 3 with fail
 rw[← HW3.out];clear HW3 f2 e2;have hk0:=HQ.out.2.2.2.2.2.2.2.2.1
 have T3:=hid (show ∃ F',TrioT (BoxA a (accC sb b nv S.dead) 86) (StoT sb d R.2.1 R.2.2) (VotesT nv vs) w3 F'∧Keep F w w3∧(∀ i,F' i→F i∨w.heap.size≤i)∧¬ F' (w.heap.size+1)∧¬ F' w.heap.size from
  Turns.aside (TrioT.lives (BoxA.lives _ _ _) (StoT.lives _ _ _ _) (VotesT.lives _ _)) ⟨F',H2.out.1,hk0.next H2.out.2.1 (fun _ _ x=>x.elim) (fun _ _ x=>x),fun i x=>(H2.out.2.2.1 i x).imp id fun y=>Nat.le_trans hk0.size y,fun x=>by
   have h1:=H2.out.2.2.2.1 _ x;have h2:=H2.out.2.2.2.2
   omega,fun x=>by
   have h1:=H2.out.2.2.2.1 _ x;have h2:=H2.out.2.2.2.2
   omega⟩ H3.out.2.1 (Nat.le_succ _))
 clear hk0;have g3:=H3.out.1;have e3:w3.cell? ⟨w.heap.size+1,0,none⟩=some (.int .i64 R.1):=by simp[World.cell?,g3]
 have f3:w3.frozen? ⟨w.heap.size+1,0,none⟩=false:=by simp[World.frozen?,g3]
 clear g3
 by_cases h0:R.1=0
 ·have q1:(R.1 == 0)=true:=by simpa using h0
  have q2:decide (R.1=0)=true:=decide_eq_true h0
  have hE2:E=syS R.2.1 R.2.2:=by
   have:=HQ.out.2.2.2.2.2.2.2.2.2.2.1;rw[if_pos h0] at this;exact this
  obtain⟨F3,T3a,T3b,T3c,T3d,T3e⟩:=T3.out;have hz3:w.heap.size+1<w3.heap.size:=z0M H3.out.1;obtain⟨X3,Y3,Z3,hbox,⟨F1',F2',hsa,hY⟩,hvt,d1,d2,d3,hF⟩:=T3a;have hsy:=zqU w3 sb d F1' F2' R.2.1 R.2.2 hsa (by have:=HQ.out.2.2.2.2.2.2.2.2.2.2.2.2.1;omega);rw[← hE2] at hsy;obtain⟨k0,-⟩:=z1W hbox.1
  have c1:w3.cell? ⟨w.heap.size,0,none⟩=some (.pointer (some ⟨a,0,none⟩)):=by
   have:=H3.out.2.2;simp[World.cell?,this]
  have H4:=hid (zA1 hbox (zA1 hvt (zA1 d1 (zA1 d2 (zA1 d3 (zA1 hF (zA1 hY (zA1 T3b (zA1 T3c (zA1 T3d (zA1 T3e hz3)))))))))));clear h0 hE2 T3b T3c T3d T3e hsa hvt d1 d2 d3 hF hY hbox hz3;go_wp2_with fail;refine hsy.mono ?_;rintro e w4 ⟨rfl,ht⟩;clear hsy k0 c1 e3 f3 q1 q2;obtain⟨hbox,hvt,d1,d2,d3,hF,hY,T3b,T3c,T3d,T3e,hz3⟩:=H4.out;have htt:=ht.turnsT;rw[← hY] at htt;obtain⟨F4,T4a,T4b,T4c⟩:=TrioT.turnY (BoxA.lives _ _ _) (VotesT.lives _ _) hbox hvt d1 d2 d3 hF htt;have g4a:=T4b.get H3.out.2.2 T3e;have g4:=T4b.get H3.out.1 T3d;have e4:w4.cell? ⟨w.heap.size+1,0,none⟩=some (.int .i64 R.1):=by simp[World.cell?,g4]
  have f4:w4.frozen? ⟨w.heap.size+1,0,none⟩=false:=by simp[World.frozen?,g4]
  have hk5:Keep (fun k=>k=w.heap.size+1) w4 (w4.setCell ⟨w.heap.size+1,0,none⟩ (.int .i64 E.1)):=kst;have g5:=z0A g4 0 (.int .i64 E.1);have g5a:=hk5.get g4a (fun x=>by omega);have hT:=Turns.aside (TrioT.lives (BoxA.lives _ _ _) (StoT.lives _ _ _ _) (VotesT.lives _ _)) ⟨F4,T4a,T3b.next T4b (fun _ _ x=>x) (fun k hk x=>(T3c k x).elim id fun y=>absurd y (by omega)),fun i x=>(T4c i x).elim (fun y=>T3c i y) fun y=>.inr (by have:=T3b.size;omega),fun x=>(T4c _ x).elim T3d fun y=>by omega,fun x=>(T4c _ x).elim T3e fun y=>by omega⟩ hk5 (Nat.le_succ _);obtain⟨w5,hw5⟩:=zX1 (w4.setCell ⟨w.heap.size+1,0,none⟩ (.int .i64 E.1));rw[← hw5] at g5 g5a hT;have TZ:=hid hT;have GZ:=hid (show w5.heap[w.heap.size]?=some (.cells #[.pointer (some ⟨a,0,none⟩)] 36 (0,0))∧w5.heap[w.heap.size+1]?=some (.cells #[.int .i64 E.1] 33 (0,0))∧True from⟨g5a,g5,trivial⟩);have HW5:=hid hw5;clear htt ht T4a T4b T4c g4 g4a hk5 g5 g5a hT hw5 hbox hvt d1 d2 d3 hF hY T3b T3c T3d T3e hz3
  go_upto_region 5 with fail
  rw[← HW5.out]
  have e5:w5.cell? ⟨w.heap.size+1,0,none⟩=some (.int .i64 E.1):=by
   have:=GZ.out.2.1;simp[World.cell?,this]
  have f5:w5.frozen? ⟨w.heap.size+1,0,none⟩=false:=by
   have:=GZ.out.2.1;simp[World.frozen?,this]
  clear e4 f4 HW5;go_wp2_with fail;have g6:=z0A GZ.out.2.1 0 (.int .i64 E.1);have hk6:Keep (fun k=>k=w.heap.size+1) w5 (w5.setCell ⟨w.heap.size+1,0,none⟩ (.int .i64 E.1)):=kst;obtain⟨F6,T6,K6,N6,Q6,-⟩:=Turns.aside (TrioT.lives (BoxA.lives _ _ _) (StoT.lives _ _ _ _) (VotesT.lives _ _)) TZ.out hk6 (Nat.le_succ _);have g6a:=hk6.get GZ.out.1 (fun x=>by omega);have hb6:(w5.setCell ⟨w.heap.size+1,0,none⟩ (.int .i64 E.1)).heap[a]?=some (.cells (accC sb b nv S.dead) 86 (0,0)):=let ⟨_,_,_,h,_⟩:=T6;h.1;obtain⟨w6,hw6⟩:=zX1 (w5.setCell ⟨w.heap.size+1,0,none⟩ (.int .i64 E.1));rw[← hw6] at g6 T6 K6 g6a hb6 ⊢;have cB1:w6.cell? ⟨w.heap.size,0,none⟩=some (.pointer (some ⟨a,0,none⟩)):=by simp[World.cell?,g6a]
  have cB2:w6.cell? ⟨w.heap.size+1,0,none⟩=some (.int .i64 E.1):=by simp[World.cell?,g6]
  refine leaves_cons (f:=77) (args:=#[.pointer (some ⟨w.heap.size,0,none⟩),.pointer (some ⟨w.heap.size+1,0,none⟩)]) (by simp) (by simp[go_sem]) ?_;refine(zlJ .returning w6 w.heap.size (w.heap.size+1) a sb b nv S.dead E.1 cB1 cB2 hb6).mono ?_;rintro e u' w7 ⟨rfl,rfl,hh7,hk7⟩;have hEd:=HQ.out.2.2.2.2.2.2.2.2.2.2.2.1;rw[← hEd] at hh7
  have ha:a<w.heap.size:=by
   have h1:=HQ.out.1.2.1;have h2:=HQ.out.2.2.2.2.2.2.2.2.2.2.2.2.2;exact h2 a (by rw[HQ.out.2.2.2.2.2.1];exact .inl h1)
  have cB:w7.cell? ⟨w.heap.size+1,0,none⟩=some (.int .i64 E.1):=by
   have:=hk7.get g6 (fun x=>by omega);simp[World.cell?,this]
  exact⟨_,zlU rfl _ _ (w.heap.size+1) rfl E.1 cB (by kernel_rfl),rfl,zrE ⟨F6,T6,K6,N6⟩ hh7 hk7⟩
 ·have q1:(R.1 == 0)=false:=by simpa using h0
  have q2:decide (R.1=0)=false:=decide_eq_false h0
  have hE2:E=R:=by
   have:=HQ.out.2.2.2.2.2.2.2.2.2.2.1;rw[if_neg h0] at this;exact this
  have e3b:=e3;rw[← hE2] at e3 q1 q2;have TZ:=hid (show ∃ F',TrioT (BoxA a (accC sb b nv S.dead) 86) (StoT sb d E.2.1 E.2.2) (VotesT nv vs) w3 F'∧Keep F w w3∧(∀ i,F' i→F i∨w.heap.size≤i)∧¬ F' (w.heap.size+1)∧¬ F' w.heap.size from by rw[hE2];exact T3.out);have GZ:=hid (show w3.heap[w.heap.size]?=some (.cells #[.pointer (some ⟨a,0,none⟩)] 36 (0,0))∧w3.heap[w.heap.size+1]?=some (.cells #[.int .i64 E.1] 33 (0,0))∧True from⟨H3.out.2.2,by rw[hE2];exact H3.out.1,trivial⟩);have HE2:=hid hE2;rw[← hE2];clear hE2 h0 e3b;go_wp2_with fail;have g6:=z0A GZ.out.2.1 0 (.int .i64 E.1);have hk6:Keep (fun k=>k=w.heap.size+1) w3 (w3.setCell ⟨w.heap.size+1,0,none⟩ (.int .i64 E.1)):=kst;obtain⟨F6,T6,K6,N6,Q6,-⟩:=Turns.aside (TrioT.lives (BoxA.lives _ _ _) (StoT.lives _ _ _ _) (VotesT.lives _ _)) TZ.out hk6 (Nat.le_succ _);have g6a:=hk6.get GZ.out.1 (fun x=>by omega);have hb6:(w3.setCell ⟨w.heap.size+1,0,none⟩ (.int .i64 E.1)).heap[a]?=some (.cells (accC sb b nv S.dead) 86 (0,0)):=let ⟨_,_,_,h,_⟩:=T6;h.1;obtain⟨w6,hw6⟩:=zX1 (w3.setCell ⟨w.heap.size+1,0,none⟩ (.int .i64 E.1));rw[← hw6] at g6 T6 K6 g6a hb6 ⊢;have cB1:w6.cell? ⟨w.heap.size,0,none⟩=some (.pointer (some ⟨a,0,none⟩)):=by simp[World.cell?,g6a]
  have cB2:w6.cell? ⟨w.heap.size+1,0,none⟩=some (.int .i64 E.1):=by simp[World.cell?,g6]
  refine leaves_cons (f:=77) (args:=#[.pointer (some ⟨w.heap.size,0,none⟩),.pointer (some ⟨w.heap.size+1,0,none⟩)]) (by simp) (by simp[go_sem]) ?_;refine(zlJ .returning w6 w.heap.size (w.heap.size+1) a sb b nv S.dead E.1 cB1 cB2 hb6).mono ?_;rintro e u' w7 ⟨rfl,rfl,hh7,hk7⟩;have hEd:=HQ.out.2.2.2.2.2.2.2.2.2.2.2.1;rw[← hEd] at hh7
  have ha:a<w.heap.size:=by
   have h1:=HQ.out.1.2.1;have h2:=HQ.out.2.2.2.2.2.2.2.2.2.2.2.2.2;exact h2 a (by rw[HQ.out.2.2.2.2.2.1];exact .inl h1)
  have cB:w7.cell? ⟨w.heap.size+1,0,none⟩=some (.int .i64 E.1):=by
   have:=hk7.get g6 (fun x=>by omega);simp[World.cell?,this]
  exact⟨_,zlU rfl _ _ (w.heap.size+1) rfl E.1 cB (by kernel_rfl),rfl,zrE ⟨F6,T6,K6,N6⟩ hh7 hk7⟩
theorem z1H {P:Program} {fn:Func} {t u:Tmp} {ty:TypeId} (h:fn.results = #[.cell t ty,.tmp u]) (tmps:Array Value) (w:World) (g:Nat) (ht:tmps.getD t undef = .pointer (some ⟨g,0,none⟩)) (cs:List Value)
  (hc:∀ j u,cs[j]?=some u->w.cell? ⟨g,j,none⟩=some u) (d:TypeDesc)
  (hu:P.underlying ty=some d) (hd:(match d with | .struct _ | .array _ _=>true | _=>false)=true) (hi:(P.info? ty).map (·.size)=some cs.length) :
  (results fn tmps).run P w = .ok (.tuple #[.agg cs.toArray,tmps.getD u undef]) w:=by
 have hl:=run_loadCells_list (P:=P) w ⟨g,0,none⟩ cs (λj v hv=>by rw[z0L,Nat.zero_add];exact hc j v hv);cases hq:P.info? ty with | none=>{simp[hq] at hi} | some i=>{have hs:i.size=cs.length:=by{simpa [hq] using hi};have hagg:(isAgg ty).run P w = .ok true w:=by{unfold isAgg;rw[Sem.run_bind,run_underlying hu w];cases d <;> simp_all};have hr:(loadVar ty ⟨g,0,none⟩).run P w = .ok (.agg cs.toArray) w:=by{simp[loadVar,Sem.run_bind,hagg,sizeOf,typeInfo,hq,hs,hl]};have ht':tmps[t]?.getD undef = .pointer (some ⟨g,0,none⟩):=by{simpa using ht};simp[results,h,ht',asAddr,hr]}
theorem z2I {P:Program} {fn:Func} {s t u:Tmp} {ty:TypeId} (h:fn.results = #[.tmp s,.cell t ty,.tmp u]) (tmps:Array Value) (w:World) (g:Nat) (ht:tmps.getD t undef = .pointer (some ⟨g,0,none⟩)) (cs:List Value)
  (hc:∀ j u,cs[j]?=some u->w.cell? ⟨g,j,none⟩=some u) (d:TypeDesc)
  (hu:P.underlying ty=some d) (hd:(match d with | .struct _ | .array _ _=>true | _=>false)=true) (hi:(P.info? ty).map (·.size)=some cs.length) :
  (results fn tmps).run P w = .ok (.tuple #[tmps.getD s undef,.agg cs.toArray,tmps.getD u undef]) w:=by
 have hl:=run_loadCells_list (P:=P) w ⟨g,0,none⟩ cs (λj v hv=>by rw[z0L,Nat.zero_add];exact hc j v hv);cases hq:P.info? ty with | none=>{simp[hq] at hi} | some i=>{have hs:i.size=cs.length:=by{simpa [hq] using hi};have hagg:(isAgg ty).run P w = .ok true w:=by{unfold isAgg;rw[Sem.run_bind,run_underlying hu w];cases d <;> simp_all};have hr:(loadVar ty ⟨g,0,none⟩).run P w = .ok (.agg cs.toArray) w:=by{simp[loadVar,Sem.run_bind,hagg,sizeOf,typeInfo,hq,hs,hl]};have ht':tmps[t]?.getD undef = .pointer (some ⟨g,0,none⟩):=by{simpa using ht};simp[results,h,ht',asAddr,hr]}
theorem z8L {P:Program} {fn:Func} {t u:Tmp} {ty tz:TypeId} (h:fn.results = #[.cell t ty,.cell u tz]) (tm:Array Value) (w:World) (g k:Nat) (ht:tm.getD t undef = .pointer (some ⟨g,0,none⟩)) (hu:tm.getD u undef = .pointer (some ⟨k,0,none⟩))
  (x:Option Addr) (y:Int) (hx:w.cell? ⟨g,0,none⟩=some (.pointer x)) (hy:w.cell? ⟨k,0,none⟩=some (.int .i64 y)) (ha:(isAgg ty).run P w = .ok false w) (hb:(isAgg tz).run P w = .ok false w):(results fn tm).run P w = .ok (.tuple #[.pointer x,.int .i64 y]) w:=by
 have ht':tm[t]?.getD undef = .pointer (some ⟨g,0,none⟩):=by{simpa using ht};have hu':tm[u]?.getD undef = .pointer (some ⟨k,0,none⟩):=by{simpa using hu};simp[results,h,ht',hu',asAddr,loadVar,Sem.run_bind,ha,hb,go_sem,hx,hy]
end
end Go.Proofs.YtkjofdocgaiedaaGreat
