/- Texts Pur in one. Conditions: as each law names them. -/
import Derived.Test.YtkjofdocgaiedaaGreatQaa
import Derived.Test.YtkjofdocgaiedaaGreatQax
import Derived.Test.YtkjofdocgaiedaaGreatQay
set_option maxRecDepth 20000
set_option maxHeartbeats 8000000
namespace Go.Proofs.YtkjofdocgaiedaaGreat
section
open DM BM WM
def Calm (D:Dk):Prop:=D.left=none∧D.down=false
theorem zaC {D:Dk} (h:Calm D) (i:Nat) (hi:i<D.safe.length) (b:Sec) (hb:b.length=32):DM.write D (i:Int) b=(0,{ D with waits:=D.waits ++ [(i,b)] }):=by
 have ha:DM.act D=(true,D):=by{unfold DM.act;rw[h.2,h.1];rfl};unfold DM.write;rw[h.2,ha];rw[if_neg (by simp),if_neg (by omega)];simp[h.2]
theorem z7J {D:Dk} (h:Calm D):DM.sync D=(0,{ D with safe:=now D,waits:=[] }):=by
 have ha:DM.act D=(true,D):=by{unfold DM.act;rw[h.2,h.1];rfl};unfold DM.sync;rw[ha];simp
theorem zeZ (ep:Nat) (b:List UInt8) {s:Nat} (hs:6<=s) (hb:b.length=32 * ((s - 2) / 2)):∀ k i D,Calm D->D.safe.length=s->i+k<=(s - 2) / 2->(lay ep b i k D).1=0/\Calm (lay ep b i k D).2/\(lay ep b i k D).2.safe=D.safe
 | 0,i,D,hc,_,_=>⟨rfl,hc,rfl⟩
 | k+1,i,D,hc,hl,hik=>by{have hh:half D=(s - 2) / 2:=by{unfold half;rw[hl]};have hw:=zaC hc (WM.first D ep+i) (z4V ep i (by omega) (by omega)) (z0U b i) (by unfold z0U;rw[List.length_take,List.length_drop];omega);unfold lay;rw[hw];simp only[if_true];exact zeZ ep b hs hb k (i+1) { D with waits:=D.waits ++ [(WM.first D ep+i,z0U b i)] } hc hl (by omega)}
theorem zbT {D:Dk} {G:Lg} {b:List UInt8} (hc:Calm D) (h6:6<=D.safe.length) (hd:G.dead=false) (hf:(flat G.l).length<=32 * half D) (hb:b.length<=1024) :
  if room D G<b.length+10 then WM.append D G b=(5,D,G)
  else (WM.append D G b).1=0/\(WM.append D G b).2.2 = { G with l:=G.l ++ [b] }/\Calm (WM.append D G b).2.1/\(WM.append D G b).2.1.safe=D.safe:=by
 have hg:gone D G=false:=by{unfold gone;rw[hd,hc.2];rfl};split;{rename_i h;unfold WM.append;rw[hg,if_neg (by simp),if_neg (by omega),if_pos h]};{rename_i h;have hsn:=z3P G.l b;have hfit:(flat (G.l ++ [b])).length<=32 * half D:=by{unfold room at h;omega};have hal:(area D (G.l ++ [b])).length=32 * half D:=z1X hfit;obtain⟨h1,h2,h3⟩:=zeZ G.ep (area D (G.l ++ [b])) (s:=D.safe.length) h6 hal (((flat (G.l ++ [b])).length - 1) / 32 - (flat G.l).length / 32+1) ((flat G.l).length / 32) D hc rfl (by have:(D.safe.length - 2) / 2=half D:=rfl;omega);unfold WM.append;rw[hg,if_neg (by simp),if_neg (by omega),if_neg h];simp only;rw[h1];refine⟨rfl,?_,h2,h3⟩;obtain⟨ep,l,safe,dead⟩:=G;simp only at hd;subst hd;rfl}
theorem zeL (D:Dk) (G:Lg) (b:List UInt8):(WM.append D G b).2.1.safe.length=D.safe.length:=by
 unfold WM.append;split;{rfl};{split;{rfl};{split;{rfl};{exact z7R _ _ _ _ _}}}
theorem zoJ (D:Dk) (G:Lg) (L:List (List UInt8)):(WM.reset D G L).2.1.safe.length=D.safe.length:=by
 unfold WM.reset;split;{rfl};{split;{rfl};{split;{rfl};{simp only;split <;> exact z9I _ _ _}}}
namespace WM
open DM BM Go.Proofs.YtkjofdocgaiedaaGreat
def z2E (D:Dk) (p:Nat):Sec:=(now D).getD p []
theorem zuF {D E:Dk} {i:Nat} {b:Sec} (hs:E.safe=D.safe) (hw:E.waits=D.waits ++ [(i,b)]):now E=(now D).set i b:=by
 unfold now;rw[hs,hw,z8X];rfl
theorem zaI {D E:Dk} {i:Nat} {b:Sec} (hs:E.safe=D.safe) (hw:E.waits=D.waits ++ [(i,b)]) (hi:i<D.safe.length) (p:Nat):z2E E p=if p=i then b else z2E D p:=by
 have hl:=z1O D;unfold z2E;rw[zuF hs hw,List.getD_eq_getElem?_getD,List.getElem?_set];by_cases h:i=p;{subst h;rw[if_pos rfl,if_pos (by omega),if_pos rfl];rfl};{rw[if_neg h,if_neg (λe=>h e.symm),List.getD_eq_getElem?_getD]}
theorem z8F {D E:Dk} (hs:E.safe=now D) (hw:E.waits = []) (p:Nat):z2E E p=z2E D p:=by
 unfold z2E now;rw[hs,hw];rfl
theorem z8K {D:Dk} (hd:D.down=false) (i:Nat) (hi:i<D.safe.length):DM.read D (i:Int)=(z2E D i,0):=by
 unfold DM.read z2E;rw[hd,if_neg (by simp),if_neg (by omega)];simp
theorem zhA {D:Dk} (ok:Ok D) (i:Nat) (hi:i<D.safe.length):(z2E D i).length=32:=by
 have hl:=z1O D;have:=ok.now _ (List.getElem_mem (l:=now D) (n:=i) (by omega));unfold z2E;rw[List.getD_eq_getElem?_getD,List.getElem?_eq_getElem (by omega)];exact this
theorem zlS {D:Dk} {i:Nat} {b:Sec} (h:(DM.write D (i:Int) b).1=0):i<D.safe.length/\b.length=32/\(DM.write D (i:Int) b).2.safe=D.safe/\(DM.write D (i:Int) b).2.waits=D.waits ++ [(i,b)]:=by
 unfold DM.write at h |-;split at h;{cases h};{rename_i h1;rw[if_neg h1];split at h;{cases h};{rename_i h2;rw[if_neg h2];split at h;{rename_i h3;rw[if_pos h3];refine⟨by omega,by omega,z2D D,?_⟩;show (DM.act D).2.waits ++ [((i:Int).toNat,b)]=_;rw[z2H];simp};{cases h}}}
theorem zkJ {D:Dk} {i:Nat} {b:Sec} (hi:i<D.safe.length) (hb:b.length=32) (h:(DM.write D (i:Int) b).1≠0):(DM.write D (i:Int) b).1=6/\(DM.write D (i:Int) b).2.safe=D.safe/\(DM.write D (i:Int) b).2.waits=D.waits:=by
 unfold DM.write at h |-;split;{exact⟨rfl,rfl,rfl⟩};{rename_i h1;rw[if_neg h1] at h;rw[if_neg (by omega)] at h |-;split;{rename_i h3;rw[if_pos h3] at h;exact absurd rfl h};{exact⟨rfl,z2D D,z2H D⟩}}
theorem zqS {D:Dk} (h:(DM.sync D).1=0):(DM.sync D).2.safe=now D/\(DM.sync D).2.waits = []:=by
 unfold DM.sync at h |-;split at h;{rename_i h3;rw[if_pos h3];refine⟨?_,rfl⟩;show now (DM.act D).2=_;unfold now;rw[z2D,z2H]};{cases h}
theorem zqG {D:Dk} (h:(DM.sync D).1≠0):(DM.sync D).1=6/\(DM.sync D).2.safe=D.safe/\(DM.sync D).2.waits=D.waits:=by
 unfold DM.sync at h |-;split;{rename_i h3;rw[if_pos h3] at h;exact absurd rfl h};{exact⟨rfl,z2D D,z2H D⟩}
theorem zkA {D E:Dk} (h:E.safe=D.safe) (ep:Nat):WM.first E ep=WM.first D ep:=by unfold WM.first half;rw[h]
theorem z6D {D E:Dk} (h:E.safe.length=D.safe.length):half E=half D:=by unfold half;rw[h]
theorem z4Z (ep:Nat) (b:List UInt8):∀ k i (D:Dk),6<=D.safe.length->i+k<=half D->b.length=32 * half D->
  (lay ep b i k D).2.safe=D.safe/\(∃ ws,(lay ep b i k D).2.waits=D.waits ++ ws/\∀ x ∈ ws,∃ j,i<=j/\j<i+k/\x=(WM.first D ep+j,z0U b j))/\((lay ep b i k D).1≠0->(lay ep b i k D).1=6)/\
  ((lay ep b i k D).1=0->∀ p,(∀ j,i<=j->j<i+k->p=WM.first D ep+j->z2E (lay ep b i k D).2 p=z0U b j)/\((∀ j,i<=j->j<i+k->p≠WM.first D ep+j)->z2E (lay ep b i k D).2 p=z2E D p))
 | 0,i,D,_,_,_=>⟨rfl,⟨[],by simp[lay],by simp⟩,λh=>absurd rfl h,λ_ p=>⟨λj h1 h2=>by omega,λ_=>rfl⟩⟩
 | k+1,i,D,h6,hik,hb=>by{have hfl:=z4V (D:=D) ep i h6 (by omega);have hsl:(z0U b i).length=32:=by{unfold z0U;rw[List.length_take,List.length_drop];omega};unfold lay;simp only;by_cases h0:(DM.write D ((WM.first D ep+i:Nat):Int) (z0U b i)).1=0;{rw[if_pos h0];obtain⟨_,_,w1,w2⟩:=zlS h0;have hn:=λp=>zaI w1 w2 hfl p;have hF:=zkA w1 ep;have hH:half (DM.write D ((WM.first D ep+i:Nat):Int) (z0U b i)).2=half D:=z6D (by rw[w1]);obtain⟨i1,⟨ws,i2,i3⟩,i4,i5⟩:=z4Z ep b k (i+1) _ (by rw[w1];exact h6) (by rw[hH];omega) (by rw[hH];exact hb);generalize (DM.write D ((WM.first D ep+i:Nat):Int) (z0U b i)).2=E at *;rw[hF] at i3 i5;refine⟨i1.trans w1,⟨(WM.first D ep+i,z0U b i) :: ws,by rw[i2,w2];simp,λx hx=>?_⟩,i4,λh p=>?_⟩;{rcases List.mem_cons.1 hx with rfl | hx;{exact⟨i,Nat.le_refl _,by omega,rfl⟩};{obtain⟨j,j1,j2,j3⟩:=i3 x hx;exact⟨j,by omega,by omega,j3⟩}};{obtain⟨q1,q2⟩:=i5 h p;refine⟨λj j1 j2 j3=>?_,λhne=>?_⟩;{by_cases hj:j=i;{subst hj;rw[q2 (λj' a1 a2 a3=>by omega),hn,if_pos j3]};{exact q1 j (by omega) (by omega) j3}};{rw[q2 (λj a1 a2=>hne j (by omega) (by omega)),hn,if_neg (hne i (Nat.le_refl _) (by omega))]}}};{rw[if_neg h0];obtain⟨w0,w1,w2⟩:=zkJ hfl hsl h0;exact⟨w1,⟨[],by rw[w2,List.append_nil],by simp⟩,λ_=>w0,λh=>absurd h h0⟩}}
theorem gd0 (l:List UInt8) (k:Nat):l.getD k 0=(l[k]?).getD 0:=List.getD_eq_getElem?_getD
theorem z4C (b:List UInt8) (i k:Nat) (hk:k<32):(z0U b i)[k]?=b[32 * i+k]?:=by
 unfold z0U;rw[List.getElem?_take,if_pos hk,List.getElem?_drop]
theorem z9T {b:List UInt8} {h:Nat} (hb:b.length=32 * h) {i:Nat} (hi:i<h):(z0U b i).length=32:=by
 unfold z0U;rw[List.length_take,List.length_drop];omega
theorem zhH {a b:List UInt8} {h i:Nat} (ha:a.length=32 * h) (hb:b.length=32 * h) (hi:i<h) (he:∀ k,k<32->a[32 * i+k]?=b[32 * i+k]?):z0U a i=z0U b i:=by
 apply List.ext_getElem?;intro k;by_cases hk:k<32;{rw[z4C _ _ _ hk,z4C _ _ _ hk,he k hk]};{rw[List.getElem?_eq_none (by rw[z9T ha hi];omega),List.getElem?_eq_none (by rw[z9T hb hi];omega)]}
theorem ziD (B:List UInt8) (en:Nat):(clean B en).length=B.length:=by unfold clean;rw[List.length_append,List.length_take,List.length_replicate];omega
theorem zgX {B:List UInt8} {en j:Nat} (hj:j<B.length):(clean B en)[j]?=some (if j<en then B.getD j 0 else 0):=by
 unfold clean;by_cases h:j<en;{rw[List.getElem?_append_left (by rw[List.length_take];omega),List.getElem?_take,if_pos h,if_pos h,gd _ _ hj]};{rw[List.getElem?_append_right (by rw[List.length_take];omega),List.length_take,List.getElem?_replicate,if_pos (by omega),if_neg h]}
theorem zsI {B:List UInt8} {en i:Nat} (h:dirty B en i=false) {k:Nat} (hk:k<32) (he:en<=32 * i+k):B.getD (32 * i+k) 0=0:=by
 unfold dirty at h;have h1:=List.any_eq_false.1 h k (List.mem_range.2 hk);simp only[Bool.and_eq_true,decide_eq_true_eq,not_and,Decidable.not_not] at h1;exact h1 he
theorem zmV {B:List UInt8} {en h i:Nat} (hb:B.length=32 * h) (hi:i<h) (hd:dirty B en i=false):z0U (clean B en) i=z0U B i:=
 zhH (by rw[ziD];exact hb) hb hi λk hk=>by{rw[zgX (by omega),gd B _ (by omega)];split;{rfl};{rw[zsI hd hk (by omega)]}}
theorem zjT {B:List UInt8} {en h i:Nat} (hb:B.length=32 * h) (hi:i<h):dirty (clean B en) en i=false:=by
 unfold dirty;rw[List.any_eq_false];intro k hk;rw[List.mem_range] at hk;simp only[Bool.and_eq_true,decide_eq_true_eq,not_and,Decidable.not_not];intro he;rw[gd0,zgX (by omega),if_neg (by omega)];rfl
theorem zdC (ep:Nat) (B:List UInt8) (en:Nat):∀ k i wr (D:Dk),Calm D->Ok D->6<=D.safe.length->i+k<=half D->B.length=32 * half D->
  (wipe ep B en i k wr D).1=0/\Calm (wipe ep B en i k wr D).2.2/\Ok (wipe ep B en i k wr D).2.2/\(wipe ep B en i k wr D).2.2.safe=D.safe/\((wipe ep B en i k wr D).2.1=false->(wipe ep B en i k wr D).2.2=D)/\
  ∀ p,(∀ j,i<=j->j<i+k->p=WM.first D ep+j->z2E (wipe ep B en i k wr D).2.2 p=if dirty B en j then z0U (clean B en) j else z2E D p)/\((∀ j,i<=j->j<i+k->p≠WM.first D ep+j)->z2E (wipe ep B en i k wr D).2.2 p=z2E D p)
 | 0,i,wr,D,hc,ok,_,_,_=>⟨rfl,hc,ok,rfl,λ_=>rfl,λp=>⟨λj h1 h2=>by omega,λ_=>rfl⟩⟩
 | k+1,i,wr,D,hc,ok,h6,hik,hb=>by{have hfl:=z4V (D:=D) ep i h6 (by omega);have hcl:(clean B en).length=32 * half D:=by{rw[ziD];exact hb};have hsl:=z9T hcl (i:=i) (by omega);unfold wipe;by_cases hd:dirty B en i=true;{rw[if_pos hd];have hw:=zaC hc (WM.first D ep+i) hfl (z0U (clean B en) i) hsl;have hok:=ok.write ((WM.first D ep+i:Nat):Int) (z0U (clean B en) i);simp only;rw[hw] at hok |-;simp only[if_true];obtain⟨E,hE⟩:∃ E:Dk,E = { D with waits:=D.waits ++ [(WM.first D ep+i,z0U (clean B en) i)] }:=⟨_,rfl⟩;rw[<-hE] at hok |-;have hEs:E.safe=D.safe:=by{rw[hE]};have hn:=λp=>zaI (D:=D) (E:=E) hEs (by rw[hE]) hfl p;have hF:=zkA hEs ep;have hH:half E=half D:=z6D (by rw[hEs]);obtain⟨a1,a2,a3,a4,a5,a6⟩:=zdC ep B en k (i+1) true E (by rw[hE];exact hc) hok (by rw[hEs];exact h6) (by rw[hH];omega) (by rw[hH];exact hb);rw[hF] at a6;refine⟨a1,a2,a3,a4.trans hEs,λh=>?_,λp=>?_⟩;{exfalso;have:∀ k i (D:Dk),(wipe ep B en i k true D).2.1=true:=by{intro k;induction k with | zero=>{intro i D;rfl} | succ k ih=>{intro i D;unfold wipe;split;{simp only;split;{exact ih _ _};{rfl}};{exact ih _ _}}};rw[this] at h;cases h};{obtain⟨q1,q2⟩:=a6 p;refine⟨λj j1 j2 j3=>?_,λhne=>?_⟩;{by_cases hj:j=i;{subst hj;rw[q2 (λj' b1 b2 b3=>by omega),hn,if_pos j3,if_pos hd]};{have he:z2E E p=z2E D p:=by{rw[hn,if_neg (by omega)]};rw[q1 j (by omega) (by omega) j3,he]}};{rw[q2 (λj b1 b2=>hne j (by omega) (by omega)),hn,if_neg (hne i (Nat.le_refl _) (by omega))]}}};{rw[if_neg hd];obtain⟨a1,a2,a3,a4,a5,a6⟩:=zdC ep B en k (i+1) wr D hc ok h6 (by omega) hb;refine⟨a1,a2,a3,a4,a5,λp=>?_⟩;obtain⟨q1,q2⟩:=a6 p;refine⟨λj j1 j2 j3=>?_,λhne=>q2 (λj b1 b2=>hne j (by omega) (by omega))⟩;by_cases hj:j=i;{subst hj;rw[q2 (λj' b1 b2 b3=>by omega),if_neg hd]};{exact q1 j (by omega) (by omega) j3}}}
theorem znJ {D:Dk} (hd:D.down=false) (h6:6<=D.safe.length) (ep:Nat):WM.bytes D ep=((List.range (half D)).map λi=>z2E D (WM.first D ep+i)).flatten:=by
 unfold WM.bytes;congr 1;apply List.map_congr_left;intro i hi;rw[List.mem_range] at hi;rw[z8K hd _ (z4V ep i h6 hi)]
theorem zhV (f:Nat->Sec) (hf:∀ i,(f i).length=32):∀ h,((List.range h).map f).flatten.length=32 * h/\∀ i k,i<h->k<32->((List.range h).map f).flatten[32 * i+k]?=(f i)[k]?
 | 0=>⟨rfl,λi k h=>by omega⟩
 | h+1=>by{obtain⟨h1,h2⟩:=zhV f hf h;rw[List.range_succ,List.map_append,List.flatten_append];simp only[List.map_cons,List.map_nil,List.flatten_cons,List.flatten_nil,List.append_nil];refine⟨by rw[List.length_append,h1,hf];omega,λi k hi hk=>?_⟩;by_cases hih:i<h;{rw[List.getElem?_append_left (by omega)];exact h2 i k hih hk};{have:i=h:=by{omega};subst this;rw[List.getElem?_append_right (by omega),h1];congr 1;omega}}
theorem zhT {D:Dk} (hd:D.down=false) (h6:6<=D.safe.length) (ok:Ok D) (ep:Nat):(WM.bytes D ep).length=32 * half D/\∀ i,i<half D->z0U (WM.bytes D ep) i=z2E D (WM.first D ep+i):=by
 have hg:∀ h,h<=half D->((List.range h).map λi=>z2E D (WM.first D ep+i))=(List.range h).map λi=>if i<half D then z2E D (WM.first D ep+i) else List.replicate 32 0:=λh hh=>by{apply List.map_congr_left;intro i hi;rw[List.mem_range] at hi;rw[if_pos (by omega)]};have hl:∀ i,(if i<half D then z2E D (WM.first D ep+i) else List.replicate 32 0:List UInt8).length=32:=λi=>by{split;{exact zhA ok _ (z4V ep i h6 (by assumption))};{simp}};obtain⟨h1,h2⟩:=zhV _ hl (half D);rw[znJ hd h6,hg _ (Nat.le_refl _)];refine⟨h1,λi hi=>?_⟩;apply List.ext_getElem?;intro k;by_cases hk:k<32;{rw[z4C _ _ _ hk,h2 i k hi hk,if_pos hi]};{rw[List.getElem?_eq_none (by rw[z9T h1 hi];omega),List.getElem?_eq_none (by rw[zhA ok _ (z4V ep i h6 hi)];omega)]}
theorem zjR {D E:Dk} (hD:D.down=false) (hE:E.down=false) {i:Nat} (h1:i<D.safe.length) (h2:i<E.safe.length) (h:z2E E i=z2E D i):WM.head E i=WM.head D i:=by
 unfold WM.head;rw[z8K hD i h1,z8K hE i h2,h]
theorem zfB {D E:Dk} (hD:D.down=false) (hE:E.down=false) (h1:2<=D.safe.length) (h2:E.safe.length=D.safe.length) (h:∀ i,i<2->z2E E i=z2E D i):epoch E=epoch D:=by
 unfold epoch;rw[zjR hD hE (by omega) (by omega) (h 0 (by omega)),zjR hD hE (by omega) (by omega) (h 1 (by omega))]
theorem zbO (D:Dk) (ep:Nat):2<=WM.first D ep:=by unfold WM.first;omega
structure Opened (D D':Dk) (ep:Nat) (l:List (List UInt8)):Prop where
 eq:z2F D=(0,some ⟨ep,l,l.length,false⟩,D')
 calm:Calm D'
 ok:Ok D'
 size:D'.safe.length=D.safe.length
 area:∀ i,i<half D→z2E D' (WM.first D ep+i)=z0U (z1F (half D) l) i
 rest:∀ p,(∀ i,i<half D→p≠WM.first D ep+i)→z2E D' p=z2E D p
 none:D.waits = []→D'.waits = []
 small:∀ r ∈ l,r.length≤1024
 fit:(flat l).length≤32 * half D
theorem zpG {D:Dk} (hc:Calm D) (ok:Ok D) (h6:6<=D.safe.length) :
  ∃ D',Opened D D' (epoch D) (scan (WM.bytes D (epoch D)) ((WM.bytes D (epoch D)).length+1) 0).1:=by
 obtain⟨ep,hep⟩:=zX1 (epoch D);obtain⟨hbl,hbs⟩:=zhT hc.2 h6 ok ep;obtain⟨B,hB⟩:=zX1 (WM.bytes D ep);rw[<-hB] at hbl hbs;obtain⟨s1,s2,s3,s4⟩:=z7T B (B.length+1) 0 (Nat.zero_le _);have hca:=zdY hbl;obtain⟨r,hr⟩:=zX1 (scan B (B.length+1) 0);rw[<-hr] at s1 s2 s3 s4 hca;obtain⟨a1,a2,a3,a4,a5,a6⟩:=zdC ep B r.2 (half D) 0 false D hc ok h6 (by omega) hbl;obtain⟨W,hW⟩:=zX1 (wipe ep B r.2 0 (half D) false D);rw[<-hW] at a1 a2 a3 a4 a5 a6;have har:∀ i,i<half D->z2E W.2.2 (WM.first D ep+i)=z0U (z1F (half D) r.1) i:=λi hi=>by{rw[(a6 _).1 i (Nat.zero_le _) (by omega) rfl,<-hca];split;{rfl};{rename_i hd;rw[<-hbs i hi,zmV hbl hi (by simpa using hd)]}};have hre:∀ p,(∀ i,i<half D->p≠WM.first D ep+i)->z2E W.2.2 p=z2E D p:=λp hp=>(a6 p).2 λj _ h2=>hp j (by omega);have hop:z2F D=if W.2.1 then (0,some ⟨ep,r.1,r.1.length,false⟩,(DM.sync W.2.2).2) else (0,some ⟨ep,r.1,r.1.length,false⟩,W.2.2):=by{unfold z2F;rw[if_neg (by omega),if_neg (by simp[hc.2]),<-hep,<-hB];simp only;rw[<-hr,<-hW,a1,if_neg (by simp)];split;{rw[show (DM.sync W.2.2).1=0 by rw[z7J a2],if_neg (by simp)]};{rfl}};rw[<-hep,<-hB,<-hr];have hfit:(flat r.1).length<=32 * half D:=by{omega};by_cases hw:W.2.1=true;{rw[if_pos hw] at hop;have hsy:=z7J a2;have hok:=a3.sync;rw[hsy] at hop hok;have hn:=λp=>z8F (D:=W.2.2) (E:={ W.2.2 with safe:=now W.2.2,waits:=[] }) rfl rfl p;refine⟨_,hop,a2,hok,by show (now W.2.2).length=_;rw[z1O,a4],λi hi=>by rw[hn,har i hi],λp hp=>by rw[hn,hre p hp],λ_=>rfl,s4,hfit⟩};{rw[if_neg hw] at hop;refine⟨_,hop,a2,a3,by rw[a4],har,hre,λh=>by rw[a5 (by simpa using hw)];exact h,s4,hfit⟩}
theorem znO {D:Dk} (hc:Calm D) (ok:Ok D) (h6:6<=D.safe.length) {ep:Nat} (hep:epoch D=ep) {l:List (List UInt8)} (hl:∀ r ∈ l,r.length<=1024) (hf:(flat l).length<=32 * half D)
  (ha:∀ i,i<half D->z2E D (WM.first D ep+i)=z0U (z1F (half D) l) i):z2F D=(0,some ⟨ep,l,l.length,false⟩,D):=by
 obtain⟨hbl,hbs⟩:=zhT hc.2 h6 ok ep;have hal:=z1X hf;have hB:WM.bytes D ep=z1F (half D) l:=by{apply List.ext_getElem?;intro q;by_cases hq:q<32 * half D;{have h1:=z4C (WM.bytes D ep) (q / 32) (q % 32) (by omega);have h2:=z4C (z1F (half D) l) (q / 32) (q % 32) (by omega);rw[hbs _ (by omega),ha _ (by omega),h2,show 32 * (q / 32)+q % 32=q by omega] at h1;exact h1.symm};{rw[List.getElem?_eq_none (by omega),List.getElem?_eq_none (by omega)]}};have hln:l.length<(z1F (half D) l).length+1:=by{have:=zrK l;omega};have hs:scan (z1F (half D) l) ((z1F (half D) l).length+1) 0=(l,(flat l).length):=by{unfold z1F at hln |-;exact zsB l _ _ hl hln};have hd:∀ j,j<half D->dirty (z1F (half D) l) (flat l).length j=false:=λj hj=>by{have h1:z1F (half D) l=clean (z1F (half D) l) (flat l).length:=by{unfold clean;rw[hal];show flat l ++ _=(flat l ++ _).take (flat l).length ++ _;rw[List.take_left]};rw[h1];exact zjT hal hj};have hw:wipe ep (z1F (half D) l) (flat l).length 0 (half D) false D=(0,false,D):=by{have:=zbU ep (z1F (half D) l) (flat l).length (half D) 0 0 false D (λj _ h=>hd j (by omega));rw[Nat.add_zero] at this;rw[this];rfl};unfold z2F;rw[if_neg (by omega),if_neg (by simp[hc.2]),hep,hB];simp only;rw[hs];simp only;rw[hw];simp
theorem zlV {D:Dk} (h6:6<=D.safe.length) (ep:Nat) (b:List UInt8) (hb:b.length=32 * half D) (hh:(z0R ep).length=32) :
  ((z2U ep b D).1≠0->(z2U ep b D).1=6)/\((z2U ep b D).1=0->(z2U ep b D).2.waits = []/\(∀ i,i<half D->z2E (z2U ep b D).2 (WM.first D ep+i)=z0U b i)/\z2E (z2U ep b D).2 (ep % 2)=z0R ep/\ ∀ p,p≠ep % 2->(∀ i,i<half D->p≠WM.first D ep+i)->z2E (z2U ep b D).2 p=z2E D p):=by
 obtain⟨a1,-,a3,a4⟩:=z4Z ep b (half D) 0 D h6 (by omega) hb;unfold z2U;generalize lay ep b 0 (half D) D=r at *;simp only;by_cases h0:r.1=0;{rw[if_neg (by simpa using h0)];by_cases h1:(DM.sync r.2).1=0;{rw[if_neg (by simpa using h1)];obtain⟨s1,s2⟩:=zqS h1;have hn1:=λp=>z8F s1 s2 p;have hsl:(DM.sync r.2).2.safe.length=D.safe.length:=by{rw[z6A,a1]};generalize (DM.sync r.2).2=y at *;have hep:ep % 2<y.safe.length:=by{omega};by_cases h2:(DM.write y ((ep % 2:Nat):Int) (z0R ep)).1=0;{rw[if_neg (by simpa using h2)];(obtain⟨-,-,w1,w2⟩:=zlS h2;have hn2:=λp=>zaI w1 w2 hep p;generalize (DM.write y ((ep % 2:Nat):Int) (z0R ep)).2=z at *;refine⟨λh=>(zqG h).1,λh=>?_⟩;obtain⟨t1,t2⟩:=zqS h;have hn3:=λp=>z8F t1 t2 p;have hall:∀ p,z2E (DM.sync z).2 p=if p=ep % 2 then z0R ep else z2E r.2 p:=λp=>by rw[hn3,hn2,hn1]);have hfg:=zbO D ep;refine⟨t2,λi hi=>?_,by rw[hall,if_pos rfl],λp p1 p2=>?_⟩;{rw[hall,if_neg (by omega)];exact((a4 h0 _).1 i (Nat.zero_le _) (by omega) rfl)};{rw[hall,if_neg p1];exact(a4 h0 p).2 λj _ hj=>p2 j (by omega)}};{rw[if_pos (by simpa using h2)];exact⟨λ_=>(zkJ hep hh h2).1,λh=>absurd h h2⟩}};{rw[if_pos (by simpa using h1)];exact⟨λ_=>(zqG h1).1,λh=>absurd h h1⟩}};{rw[if_pos (by simpa using h0)];exact⟨a3,λh=>absurd h h0⟩}
theorem zqC {D:Dk} (hc:Calm D) (h6:6<=D.safe.length) (ep:Nat) (b:List UInt8) (hb:b.length=32 * half D) (hh:(z0R ep).length=32):(z2U ep b D).1=0/\Calm (z2U ep b D).2:=by
 obtain⟨l1,l2,l3⟩:=zeZ ep b h6 hb (half D) 0 D hc rfl (by show 0+half D<=half D;omega);unfold z2U;simp only;rw[if_neg (by simpa using l1),z7J l2];simp only;rw[if_neg (by simp)];have hsl:(now (lay ep b 0 (half D) D).2).length=D.safe.length:=by{rw[z1O,l3]};have hc2:Calm { (lay ep b 0 (half D) D).2 with safe:=now (lay ep b 0 (half D) D).2,waits:=[] }:=l2;rw[zaC hc2 (ep % 2) (by show ep % 2<(now _).length;omega) (z0R ep) hh];simp only;rw[if_neg (by simp)];rw[z7J (D:={ (lay ep b 0 (half D) D).2 with safe:=now (lay ep b 0 (half D) D).2,waits:=[] ++ [(ep % 2,z0R ep)] }) l2];exact⟨rfl,l2⟩
theorem zlQ (h:Nat) (l:List (List UInt8)) {q:Nat} (hq:q<(flat l).length):(z1F h l)[q]?=(flat l)[q]?:=by
 unfold z1F;rw[List.getElem?_append_left hq]
theorem zcK (h:Nat) (l:List (List UInt8)) {q:Nat} (hq:(flat l).length<=q) (hh:q<32 * h):(z1F h l)[q]?=some 0:=by
 unfold z1F;rw[List.getElem?_append_right hq,List.getElem?_replicate,if_pos (by omega)]
theorem zvZ {D:Dk} (hd:D.down=false) {i:Nat} (hi:i<D.safe.length) (s:Sec) (h:z2E D i=s):WM.head D i=(match BM.get s 0 with
  | .no _=>none
  | .yes k body _=>if k≠1 then none else match uint body 0 with | .no _=>none | .yes n t=>if t=body.length/\n<4611686018427387904/\n % 2=i then some n else none):=by
 unfold WM.head;rw[z8K hd i hi,h];rfl
end WM
end
end Go.Proofs.YtkjofdocgaiedaaGreat
