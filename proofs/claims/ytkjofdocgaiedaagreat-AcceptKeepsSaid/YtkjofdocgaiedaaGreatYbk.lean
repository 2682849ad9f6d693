/- Texts AceE, AceF, AcdC, NewO, AceN in one. Conditions: as each law names them. -/
import Derived.Deep.CutBlock
import Derived.Deep.DeepCutAuto
import Derived.Test.YtkjofdocgaiedaaGreatYab
import Derived.Test.YtkjofdocgaiedaaGreatYaj
import Derived.Test.YtkjofdocgaiedaaGreatYaz
import Derived.Test.YtkjofdocgaiedaaGreatYbc
import Derived.Test.YtkjofdocgaiedaaGreatYbe
import Derived.Test.YtkjofdocgaiedaaGreatYbj
set_option maxRecDepth 20000
set_option maxHeartbeats 8000000
namespace Go.Proofs.YtkjofdocgaiedaaGreat
section
open Go.RowKit Go.Maps
open MI SO BM DM WM AC
section
variable {w0 w w':World} {T U V U' V':Thing} {F G H G' H' K:Nat→Prop}
theorem Three.to2 (h:Three w0 T F U G V H w) (LT:Lives T) (s:Lives V) (u:U' w' G') (c:Keep G w w') (j:∀ i,G' i->G i∨w.heap.size<=i):Three w0 T F U' G' V H w':=
 ⟨LT.keep h.one c (λi x y=>h.a12 i x y),u,s.keep h.three c (λi x y=>h.a23 i y x),λi x y=>(j i y).elim (h.a12 i x) (λz=>by have:=LT.lt h.one i x;omega),h.a13,λi x y=>(j i x).elim (λz=>h.a23 i z y) (λz=>by have:=s.lt h.three i y;omega),h.new1,λi x=>(j i x).elim (h.new2 i) (λz=>Nat.le_trans h.keep.size z),h.new3,h.keep.next c (λ_ _ x=>x) (λk c x=>by have:=h.new2 k x;omega)⟩
theorem Three.to3 (h:Three w0 T F U G V H w) (LT:Lives T) (s:Lives U) (u:V' w' H') (c:Keep H w w') (j:∀ i,H' i->H i∨w.heap.size<=i):Three w0 T F U G V' H' w':=
 ⟨LT.keep h.one c (λi x y=>h.a13 i x y),s.keep h.two c (λi x y=>h.a23 i x y),u,h.a12,λi x y=>(j i y).elim (h.a13 i x) (λz=>by have:=LT.lt h.one i x;omega),λi x y=>(j i y).elim (h.a23 i x) (λz=>by have:=s.lt h.two i x;omega),h.new1,h.new2,λi x=>(j i x).elim (h.new3 i) (λz=>Nat.le_trans h.keep.size z),h.keep.next c (λ_ _ x=>x) (λk c x=>by have:=h.new3 k x;omega)⟩
theorem Three.beside (h:Three w0 T F U G V H w) (LT:Lives T) (j:Lives U) (s:Lives V) (c:Keep K w w') (y:∀ i,F i->¬ K i) (E:∀ i,G i->¬ K i) (n3:∀ i,H i->¬ K i) (u:∀ i,K i->w0.heap.size<=i):Three w0 T F U G V H w':=
 ⟨LT.keep h.one c y,j.keep h.two c E,s.keep h.three c n3,h.a12,h.a13,h.a23,h.new1,h.new2,h.new3,h.keep.next c (λ_ _ x=>x) (λk c x=>by have:=u k x;omega)⟩
end
structure Got (B0:Nat) (F3:Nat→Prop) (vs:List Vt) (b:Bal) (v:Value) (g:Nat) (us:List Value) (Fv:Nat→Prop) (wx:World):Prop where
 votes:Votes wx Fv v vs us
 fv:∀ k,Fv k→B0≤k∧k<wx.heap.size∧¬ F3 k
 box:wx.heap[g]?=some (.cells (balC b) 28 (0,0))
 new:B0≤g
theorem z3S {K:Nat->Prop} {w w':World} {k o:Nat} {x:Value} (j:Keep K w w') (s:¬ K k) (h:w.cell? ⟨k,o,none⟩=some x):w'.cell? ⟨k,o,none⟩=some x:=by
 cases hb:w.heap[k]? with | none=>{simp[World.cell?,hb] at h} | some ob=>{have c:=j.get hb s;unfold World.cell? at *;rw[c];rw[hb] at h;exact h}
def PrRel (W:World) (p d m a r:Nat) (X G:Nat→Prop) (D RD:Dk) (A RA:Ac) (RV:List Vt) (rb:Bal) (act:Nat) (w1:World) (lv:Value) (g:Nat) (wx:World):Prop:=
 ∃ us Fv F3,Three W (BoxT p (zdO d m (.pointer (some ⟨a,0,none⟩)) (.pointer (some ⟨r,0,none⟩))) 40) X (AcP d RD (some RA) (.pointer (some ⟨a,0,none⟩))) F3 (RAcP m D (some A) (.pointer (some ⟨r,0,none⟩))) G wx∧Got w1.heap.size F3 RV rb lv g us Fv wx∧Apart us∧wx.heap[act]?=w1.heap[act]?
def PrRel2 (W:World) (p d m a r:Nat) (X:Nat→Prop) (RD:Dk) (RA:Ac) (RV:List Vt) (rb:Bal) (B1 B2:Nat) (lv:Value) (g:Nat) (lv2:Value) (g2:Nat) (wy:World):Prop:=
 ∃ us Fv F3 us2 Fv2 G3,Three W (BoxT p (zdO d m (.pointer (some ⟨a,0,none⟩)) (.pointer (some ⟨r,0,none⟩))) 40) X (AcP d RD (some RA) (.pointer (some ⟨a,0,none⟩))) F3 (RAcP m RD (some RA) (.pointer (some ⟨r,0,none⟩))) G3 wy∧Got B1 F3 RV rb lv g us Fv wy∧Apart us∧(∀ k,Fv k→¬ G3 k)∧Got B2 (fun _=>False) RV rb lv2 g2 us2 Fv2 wy
end
section
open Go.RowKit Go.Maps
open MI SO BM DM WM AC
def VS (p po k o0 o1 o2 o3:Nat) (ptr:Value) (v:Vt) (u:Value) (w:World):Prop:=
 w.cell? ⟨p,po,none⟩=some ptr∧w.cell? ⟨k,o0,none⟩=some (.int .u64 (v.slot:Int))∧w.cell? ⟨k,o1,none⟩=some (.int .u64 (v.bal.n:Int))∧w.cell? ⟨k,o2,none⟩=some (.int .i64 v.bal.node)∧w.cell? ⟨k,o3,none⟩=some u
theorem VS.keep {p E k x y o2 o3:Nat} {ptr:Value} {v:Vt} {u:Value} {K:Nat->Prop} {I wb:World} (j:Keep K I wb) (J:¬ K p) (s:¬ K k) (h:VS p E k x y o2 o3 ptr v u I):VS p E k x y o2 o3 ptr v u wb:=
 let ⟨a,b,c,d,e⟩:=h
 ⟨z3S j J a,z3S j s b,z3S j s c,z3S j s d,z3S j s e⟩
def AcRel (W:World) (p d m a r:Nat) (X F G:Nat→Prop) (D RD:Dk) (A RA:Ac) (rb:Bal) (w0:World) (g:Nat) (wx:World):Prop:=
 ∃ F3,Three W (BoxT p (zdO d m (.pointer (some ⟨a,0,none⟩)) (.pointer (some ⟨r,0,none⟩))) 40) X (AcP d RD (some RA) (.pointer (some ⟨a,0,none⟩))) F3 (RAcP m D (some A) (.pointer (some ⟨r,0,none⟩))) G wx∧wx.heap[g]?=some (.cells (balC rb) 28 (0,0))∧w0.heap.size≤g∧Keep (fun k=>F k∨w0.heap.size≤k) w0 wx∧∀ k,F3 k→F k∨w0.heap.size≤k
def AcRel2 (W:World) (p d m a r:Nat) (X F3 G:Nat→Prop) (RD:Dk) (RA:Ac) (rb:Bal) (w0:World) (g:Nat) (wx:World):Prop:=
 ∃ G3,Three W (BoxT p (zdO d m (.pointer (some ⟨a,0,none⟩)) (.pointer (some ⟨r,0,none⟩))) 40) X (AcP d RD (some RA) (.pointer (some ⟨a,0,none⟩))) F3 (RAcP m RD (some RA) (.pointer (some ⟨r,0,none⟩))) G3 wx∧wx.heap[g]?=some (.cells (balC rb) 28 (0,0))∧w0.heap.size≤g∧Keep (fun k=>G k∨w0.heap.size≤k) w0 wx∧∀ k,G3 k→G k∨w0.heap.size≤k
theorem Octs.far {W w:World} {j:Option Addr} {n c:Nat} {l:List UInt8} {F:Nat->Prop} (h:Octs W (.slice j n c) l) (J:Keep (λ_=>False) W w) (I:∀ k,F k->W.heap.size<=k) :
  n=l.length/\n<=maxLen/\Cells w j l.length 1 (z0B l)/\(0<l.length->∀ x,j=some x->¬ F x.block)/\(0<l.length->∀ x,j=some x->x.block<W.heap.size):=by
 obtain⟨E,M,O,u⟩:=h.cells;have hb:0<l.length->∀ x,j=some x->x.block<W.heap.size:=λy x hx=>by{subst hx;exact u.lt (by omega)};exact⟨E,by omega,u.keep J (λ_ _ x=>x),λy x hx s=>by have:=hb y x hx;have:=I _ s;omega,hb⟩
end
namespace AC
open Go.Proofs.YtkjofdocgaiedaaGreat MI SO BM DM WM
def kA0:Ac:=⟨nS0,Bal.zero,[]⟩
def kV:Vt:=⟨3,⟨1,2⟩,[120]⟩
theorem k_op:(opS (DM.new 60))=(0,some nS0,DM.new 60):=by kernel_rfl
theorem zeJ {D D':Dk} {S:St} {b:Bal} {vs:List Vt} (h:opS D=(0,some S,D')) (c:rd S.ps=some (b,vs)):z2T D=(0,some ⟨S,b,vs⟩,D'):=by
 unfold z2T;rw[h];simp only;rw[c]
theorem zvO:z2T (DM.new 60)=(0,some kA0,DM.new 60):=zeJ k_op rfl
theorem zvN:WM.half (DM.new 60)=29:=by kernel_rfl
theorem zuG:Sound (DM.new 60) nS0:=by
 have c:=zlL (D:=DM.new 60) ⟨rfl,rfl⟩ (Ok.new (by decide) (by decide)) (by decide) nS0 (by rw[k_op]);rw[k_op] at c;exact c
theorem zrF:Room 29 0 (DM.new 60) kA0:=⟨zuG,⟨λ_=>⟨.inl rfl,List.Pairwise.nil,λv c=>by cases c⟩,λ_=>rfl⟩,zvN,Nat.le_refl 0⟩
theorem k_go:∃ (D1:Dk) (A1:Ac) (D2:Dk) (A2 A3:Ac),z1M (DM.new 60) kA0 ⟨1,2⟩ 1=(([],⟨1,2⟩,0),D1,A1)/\z0O D1 A1 kV=((⟨1,2⟩,0),D2,A2)/\z1M D2 A2 ⟨1,1⟩ 1=(([],⟨1,2⟩,90),D2,A2)/\
  DM.crash D2 []=D2/\z2T D2=(0,some A3,D2)/\(z1M D2 A3 ⟨2,0⟩ 1).1=([kV],⟨2,0⟩,0)/\AOk A1/\AOk A2/\AOk A3/\A1.s.ps.length<=10/\A2.s.ps.length<=10/\A3.s.ps.length<=10/\D1.waits.length<=20000/\D2.waits.length<=20000:=by
 obtain⟨p1,p2,p3,p4⟩:=zrF.prep (by decide) (b:=⟨1,2⟩) ⟨by decide,by decide⟩ (by decide) 1;obtain⟨x,c⟩:=zX1 (z1M (DM.new 60) kA0 ⟨1,2⟩ 1);rw[<-c] at p1 p2 p3 p4;obtain⟨a1,u,E,a4⟩:=p2.accept (by decide) (v:=kV) (by decide) (by decide) (by decide) (by rw[p3];decide);have st:=p2.accept_still (v:=kV) (by rw[a1]);obtain⟨I,j⟩:=zX1 (z0O x.2.1 x.2.2 kV);rw[<-j] at a1 u E a4 st;rw[p4] at a4;have M:=zqB (D:=I.2.1) u.alive (b:=⟨1,1⟩) (by decide) (by rw[E];decide) 1;rw[E] at M;obtain⟨S',Y,J,y⟩:=u.again st;rw[E,a4] at J y;obtain⟨Z,-⟩:=y.prep (by decide) (b:=⟨2,0⟩) ⟨by decide,by decide⟩ (show less ⟨2,0⟩ kV.bal=false by decide) 1;have w1:=zcA (D:=DM.new 60) (zrF.sound.disk.ok.few) kA0 ⟨1,2⟩ 1;rw[<-c] at w1;have w2:=z9X p2.sound.disk.ok.few x.2.2 kV;rw[<-j] at w2;have w0:(DM.new 60).waits.length=0:=rfl;have f1:=p2.ok.few p2.alive;have f2:=u.ok.few u.alive;have O:=y.ok.few y.alive;rw[p4,show kA0.vs.length=0 from rfl] at f1;rw[a4,show (insV kA0.vs kV).length=1 from rfl] at f2;rw[show (insV kA0.vs kV).length=1 from rfl] at O;refine⟨x.2.1,x.2.2,I.2.1,I.2.2,_,?_,?_,M,Y,J,?_,p2.ok,u.ok,y.ok,by omega,by omega,by omega,by omega,by omega⟩;{rw[<-c];exact Prod.ext p1 rfl};{rw[<-j];exact Prod.ext a1 rfl};{exact Z}
end AC
section
open Go.RowKit
open MI SO DM BM WM AC
theorem zkY (n i:Nat) (h:i<n):DM.read (DM.new n) (i:Int)=(DM.blank,0):=by
 unfold DM.read;have c:(DM.new n).down=false:=rfl;rw[c,if_neg (by simp),if_neg (by simp[DM.new];omega)];have j:now (DM.new n)=List.replicate n DM.blank:=rfl;rw[j];simp[h]
theorem zqM (n ep h:Nat) (c:∀ i,i<h->WM.first (DM.new n) ep+i<n):((List.range h).map λi=>(DM.read (DM.new n) ((WM.first (DM.new n) ep+i:Nat):Int)).1).flatten=List.replicate (32 * h) 0:=by
 induction h with | zero=>{rfl} | succ h ih=>{rw[List.range_succ,List.map_append,List.flatten_append,ih λi j=>c i (by omega)];simp only[List.map_cons,List.map_nil,List.flatten_cons,List.flatten_nil,List.append_nil];rw[zkY n _ (c h (by omega))];unfold DM.blank;rw[List.replicate_append_replicate];congr 1}
theorem zlP (n i:Nat) (h:i<n):WM.head (DM.new n) i=none:=by
 unfold WM.head;rw[zkY n i h];rw[show BM.get (DM.blank,(0:Int)).1 0=BM.Got.no 20 by kernel_rfl]
theorem zsK (n:Nat) (h:6<=n):z2C (DM.new n)=(0,some ⟨0,[],0,false⟩,DM.new n):=by
 have I:(DM.new n).safe.length=n:=by{simp[DM.new]};have s:epoch (DM.new n)=0:=by{unfold epoch;rw[zlP n 0 (by omega),zlP n 1 (by omega)];rfl};have u:∀ i,i<half (DM.new n)->WM.first (DM.new n) 0+i<n:=λi x=>by{have:=z4I (D:=DM.new n) 0 i (by omega) x;omega};have hb:WM.bytes (DM.new n) 0=List.replicate (32 * half (DM.new n)) 0:=zqM n 0 _ u;have c:=zhK [] (32 * half (DM.new n)) (32 * half (DM.new n)+1) (by simp) (by simp);simp only[flat,List.map_nil,List.flatten_nil,List.nil_append,List.length_nil] at c;have y:wipe 0 (List.replicate (32 * half (DM.new n)) 0) 0 0 (half (DM.new n)) false (DM.new n)=(0,false,DM.new n):=by{have hd:∀ j,dirty (List.replicate (32 * half (DM.new n)) 0) 0 j=false:=λj=>by{unfold dirty;rw[List.any_eq_false];intro k E;simp only[Bool.and_eq_true,decide_eq_true_eq,not_and,Decidable.not_not];intro _;rw[List.getD_eq_getElem?_getD,List.getElem?_replicate];split <;> rfl};have:=z9N 0 (List.replicate (32 * half (DM.new n)) 0) 0 (half (DM.new n)) 0 0 false (DM.new n) (λj _ _=>hd j);rw[Nat.add_zero] at this;rw[this];rfl};unfold z2C;rw[if_neg (by omega),if_neg (by simp[DM.new]),s,hb];simp only[List.length_replicate];rw[c];simp only;rw[y];simp
theorem zvJ (n:Nat) (h:6<=n):opS (DM.new n)=(0,some nS0,DM.new n):=by
 unfold opS;rw[zsK n h];rfl
theorem zdF (n:Nat) (h:6<=n):z2T (DM.new n)=(0,some kA0,DM.new n):=zeJ (zvJ n h) rfl
end
section
open Go.RowKit Go.Maps
open MI SO BM DM WM AC
theorem zsQ (W w:World) (p:Nat) (D:Dk) (d m:Nat) (sv rv:Value) (A F G:Nat->Prop) (h:Three W (BoxT p (zdO d m sv rv) 40) A (DkT d D) F (RkT m D) G w) (c:D.waits.length<=800000) :
  Calls Tryz.prog 33 #[.pointer (some ⟨p,0,none⟩)] w λe w'=>e = .returned (.bool true)/\PairA W p (z2T D).2.2 (z2T D).2.1 w'/\Keep (λk=>A k∨F k∨G k) w w':=by
 obtain⟨R,hR⟩:=zX1 (z2T D);have u:=z9U w d F D h.two c;rw[<-hR] at u |-;obtain⟨h0,h1,h2,h3,hf,hb⟩:=z2I h.one.1;have H0:=hid (zA1 h (zA1 hR c));have Y:∀ k,A k∨F k∨G k->k<w.heap.size:=λk x=>x.elim (h.one.2.2 k) λx=>x.elim (DiskAt.lt h.two k) (RefAt.lt h.three k);have a6:=hid Y;clear Y;clear h hR c;go_enter Tryz.func33,Tryz.ntmps33;go_wp2_with fail;refine u.mono ?_;rintro e w1 ⟨a8,rfl,E⟩;obtain⟨F1,T1⟩:=H0.out.1.turn2 (BoxT.lives _ _ _) (RkT.lives _ _) E;have M:Keep F w w1:=let ⟨_,_,h,_⟩:=E;h;have j:=zeX w1 m G D T1.three H0.out.2.2;rw[<-H0.out.2.1] at j;clear u E h0 h1 h2 h3 hf hb;obtain⟨h0,h1,h2,h3,hf,hb⟩:=z2I T1.one.1;have a3:=hid T1;have a2:=hid M;clear T1 M;go_wp2_with fail;refine j.mono ?_;rintro e w2 ⟨a7,rfl,E⟩;obtain⟨G1,T2⟩:=a3.out.turn3 (BoxT.lives _ _ _) (AcP.lives _ _ _ _) E;have O:Keep G w1 w2:=let ⟨_,_,h,_⟩:=E;h;clear j E h0 h1 h2 h3 hf hb;obtain⟨h0,h1,h2,h3,hf,hb⟩:=z2I T2.one.1;obtain⟨x,rfl,hx⟩:=T2.two.ptr;obtain⟨y,rfl,hy⟩:=T2.three.ptr;have s:Keep (λk=>k=p) w2 ((w2.setCell ⟨p,1,none⟩ (.pointer x)).setCell ⟨p,3,none⟩ (.pointer y)):=by{refine Keep.setCell (Keep.setCell (Keep.refl _ _) (.inl ?_) _) (.inl ?_) _ <;> rfl};have J:=z0A (z0A T2.one.1 1 (.pointer x)) 3 (.pointer y);obtain⟨A3,T3⟩:=T2.box (AcP.lives _ _ _ _) (RAcP.lives _ _ _ _) s J;have a5:A p:=H0.out.1.one.2.1;have HZ:=hid (show PairA W p R.2.2 R.2.1 _/\Keep (λk=>A k∨F k∨G k) w _ from⟨⟨d,m,.pointer x,.pointer y,A3,F1,G1,T3⟩,((a2.out.next O (H:=λk=>A k∨F k∨G k) (λ_ _ x=>.inr (.inl x)) (λ_ _ x=>.inr (.inr x))).next s (λ_ _ x=>x) (λk _ e=>.inl (by rw[show k=p from e];exact a5)))⟩);clear T2 s J T3 O;have Z:x.isNone=y.isNone:=hx.trans hy.symm;have I:=hid Z;clear hx hy Z;cases x with | none=>{cases y with | none=>{go_wp2_with fail;go_ret;exact⟨by simp,HZ.out⟩} | some y=>{exact absurd I.out (by simp)}} | some x=>{cases y with | none=>{exact absurd I.out (by simp)} | some y=>{go_wp2_with fail;go_ret;exact⟨by simp,HZ.out⟩}}
end
end Go.Proofs.YtkjofdocgaiedaaGreat
