/- Texts GoH, GoI, GoJ, GoK, GoL in one. Conditions: as each law names them. -/
import Derived.Test.YtkhddpiopbmhjaaGreatVay
import Derived.Test.YtkhddpiopbmhjaaGreatVbd
import Derived.Test.YtkhddpiopbmhjaaGreatVbe
import Derived.Test.YtkhddpiopbmhjaaGreatVbh
set_option maxRecDepth 20000
set_option maxHeartbeats 8000000
namespace Go.Proofs.YtkhddpiopbmhjaaGreat
section
open Go.RowKit Go.Maps
open MI SO BM DM WM AC GR
def TabB (l:List Cl):Prop:=∀ c ∈ l,c.id<18446744073709551616∧c.rep.length≤64
theorem TabB.use {l:List Cl} (h:TabB l) {i:Nat} {c:Cl} (hc:c.id<18446744073709551616/\c.rep.length<=64):TabB (useC l i c):=by
 intro d hd;rcases List.mem_append.1 hd with z | z;{exact h d (List.mem_of_mem_eraseIdx z)};{rw[List.mem_singleton] at z;subst z;exact hc}
theorem TabB.begin {l:List Cl} (h:TabB l) (id num:Nat) (hid:id<18446744073709551616):TabB (z2I l id num).2:=by
 unfold z2I;split;{exact h};split;{intro d hd;rcases List.mem_append.1 hd with z | z;{exact h d z};{rw[List.mem_singleton] at z;subst z;exact⟨hid,Nat.zero_le _⟩}};{rename_i i hf;obtain⟨hi,-⟩:=z5A hf;rw[List.getElem?_eq_getElem hi];simp only;split;{exact h};{split;{split <;> exact h.use (h _ (List.getElem_mem hi))};{exact h.use ⟨hid,Nat.zero_le _⟩}}}
theorem TabB.fin {l:List Cl} (h:TabB l) (id num:Nat) (hid:id<18446744073709551616) (rep:List UInt8) (hr:rep.length<=64):TabB (endC l id num rep).2:=by
 unfold endC;split;{exact h};split;{exact h};{rename_i i hf;obtain⟨hi,-⟩:=z5A hf;rw[List.getElem?_eq_getElem hi];simp only;split;{exact h};{exact h.use ⟨hid,hr⟩}}
structure MbOk (m:Mb):Prop where
 tab:TabOk 63 (m.data,m.tab)
 bnd:TabB m.tab
theorem MbOk.rep {m:Mb} (h:MbOk m) (b:Nat):((AL.get m.data b).getD []).length<=64:=by
 cases hg:AL.get m.data b with | none=>{exact Nat.zero_le _} | some u=>{exact(h.tab.data _ (AL.get_mem hg)).2}
theorem Star.opnX {w:World}:∀ {l:List Th} (n:Nat) {T:Th} {F:Nat->Prop},Star l w F->l[n]?=some T->∃ X,T.1 w X/\(∀ i,X i->F i)/\
  ∀ w' (T':Th) (X':Nat->Prop),T'.1 w' X'->Keep X w w'->(∀ i,X' i->X i∨¬ F i)->∃ F',Star (l.set n T') w' F'/\Keep F w w'/\∀ i,F' i->F i∨X' i
 | [],n,_,_,_,hn=>by simp at hn
 | U :: l,0,_,_,⟨X,Y,x,y,d,e⟩,hn=>by{simp only[List.getElem?_cons_zero,Option.some.injEq] at hn;subst hn e;refine⟨X,x,λ_ z=>.inl z,λw' T' X' p q r=>?_⟩;refine⟨λk=>X' k∨Y k,⟨X',Y,p,(Star.lives l).keep y q (λi u v=>d i v u),λi u v=>?_,rfl⟩,q.mono λ_ _ u=>.inl u,λi u=>u.elim .inr λu=>.inl (.inr u)⟩;rcases r i u with z | z;{exact d i z v};{exact z (.inr v)}}
 | U :: l,n+1,_,_,⟨X,Y,x,y,d,e⟩,hn=>by{subst e;obtain⟨Z,z,hz,t⟩:=Star.opnX n y (by simpa using hn);refine⟨Z,z,λi u=>.inr (hz i u),λw' T' X' p q r=>?_⟩;obtain⟨Y',p1,q1,r1⟩:=t w' T' X' p q λi u=>(r i u).imp id λv w=>v (.inr w);refine⟨λk=>X k∨Y' k,⟨X,Y',U.2.keep x q1 (λi u v=>d i u v),p1,λi u v=>?_,rfl⟩,q1.mono λ_ _ u=>.inr u,λi u=>u.elim (λu=>.inl (.inl u)) λu=>(r1 i u).imp .inr id⟩;rcases r1 i v with a | a;{exact d i u a};{rcases r i a with b | b;{exact d i u (hz i b)};{exact b (.inl u)}}}
theorem zmU {q:Qm} {n d me:Nat} {m:Mb} {x:MemV} {w:World} {F:Nat->Prop} (h:Star (memL q n d me m x) w F) (hu:m.up=true):∃ a X,x.tv=ptrV a/\(z3T a m.tab).1 w X/\(∀ i,X i->F i)/\
  ∀ w' l X',(z3T a l).1 w' X'->Keep X w w'->(∀ i,X' i->X i∨¬ F i)->∃ F',Star (memL q n d me { m with tab:=l } x) w' F'/\Keep F w w'/\∀ i,F' i->F i∨X' i:=by
 obtain⟨X,hA,hX,t⟩:=h.opnX 6 rfl;rw[hu] at hA;obtain⟨a,e,hA⟩:=hA;refine⟨a,X,e,hA,hX,λw' l X' h1 h2 h3=>?_⟩;obtain⟨F',h6,h7,h8⟩:=t w' (tabP x.tv l true) X' ⟨a,e,h1⟩ h2 h3;have e3:(memL q n d me m x).set 6 (tabP x.tv l true)=memL q n d me { m with tab:=l } x:=by{cases m;dsimp only at hu;subst hu;rfl};rw[e3] at h6;exact⟨F',h6,h7,h8⟩
theorem zrS {q:Qm} {n d me:Nat} {m:Mb} {x:MemV} {w:World} {F:Nat->Prop} (h:Star (memL q n d me m x) w F) (hu:m.up=true):∃ b X l2,x.dv=mapV b/\BMap 3 keI (λ(_:List UInt8) u=>.agg #[u]) (λe=>e) b m.data w X l2/\(∀ i,X i->F i)/\
  ∀ w' l X',(zbN 3 keI (λ(_:List UInt8) u=>.agg #[u]) (λe=>e) b l).1 w' X'->Keep X w w'->(∀ i,X' i->X i∨¬ F i)->∃ F',Star (memL q n d me { m with data:=l } x) w' F'/\Keep F w w'/\∀ i,F' i->F i∨X' i:=by
 obtain⟨X,hA,hX,t⟩:=h.opnX 5 rfl;rw[hu] at hA;obtain⟨a,e,l2,hA⟩:=hA;refine⟨a,X,l2,e,hA,hX,λw' l X' h1 h2 h3=>?_⟩;obtain⟨F',h6,h7,h8⟩:=t w' (zoH x.dv l true) X' ⟨a,e,h1⟩ h2 h3;have e3:(memL q n d me m x).set 5 (zoH x.dv l true)=memL q n d me { m with data:=l } x:=by{cases m;dsimp only at hu;subst hu;rfl};rw[e3] at h6;exact⟨F',h6,h7,h8⟩
theorem znP {l:List Cl} {id num:Nat} (h:(z2I l id num).1.2.2≠0):(z2I l id num).1.2.1 = []:=by
 revert h
 unfold z2I;split;{intro;rfl};split;{intro;rfl};{split;{intro;rfl};{split;{intro;rfl};{split;{split;{intro;rfl};{intro h;simp at h}};{intro;rfl}}}}
theorem znY {l:List Cl} {id num:Nat} (h:(z2I l id num).1.1=1):(z2I l id num).1.2.1 = []:=by
 revert h
 unfold z2I;split;{intro;rfl};split;{intro;rfl};{split;{intro;rfl};{split;{intro;rfl};{split;{split;{intro;rfl};{intro h;simp at h}};{intro;rfl}}}}
def DoPost (q:Qm) (n d me:Nat) (R:Option (List UInt8)×Mb) (x:MemV) (F:Nat→Prop) (w:World) (e:Ending) (w':World):Prop:=
 ∃ v F',e = .returned (.tuple #[v,.bool R.1.isSome])∧Row w' 5 1 v (R.1.getD []).length (z0C (R.1.getD []))∧(∀ k,v.ownBlock=some k→w.heap.size≤k∧¬ F' k)∧Star (memL q n d me R.2 x) w' F'∧Keep F w w'∧∀ i,F' i→F i∨w.heap.size≤i
theorem zzP (w:World) (q:Qm) (n d me:Nat) (m:Mb) (x:MemV) (F:Nat->Prop) (h:Star (memL q n d me m x) w F) (hu:m.up=true) (hok:MbOk m) (l:List UInt8) (ao:Option Addr) (ln c:Nat) (hc:Cells w ao ln 1 (z0C l)) (hln:ln<=1000000) :
  Calls Tryz.prog 116 #[.pointer (some ⟨n,0,none⟩),.slice ao ln c] w (DoPost q n d me (doM m l) x F w):=by
 obtain⟨Post,hPost⟩:=zX1 (DoPost q n d me (doM m l) x F w);rw[<-hPost];have HP:=hid hPost;clear hPost;have hdc:=zcH w ao ln c l hc (by omega);obtain⟨o,ho⟩:=zX1 (decK l);rw[<-ho] at hdc;have hFl:=(Star.lives _).lt h;have H0:=hid (zA1 h (zA1 hu (zA1 hok (zA1 ho hFl))));clear h hu hok hc ho hFl;go_enter Tryz.func116,Tryz.ntmps116;go_wp2_with fail;refine hdc.mono ?_;rintro e w2 ⟨u,rfl,hru,hou,hk2⟩;obtain⟨uo,uc,hfu,-⟩:=hru.form;subst hfu;cases o with
 | none=>
   have hR:doM m l=(none,m):=by{unfold doM do2;rw[<-H0.out.2.2.2.1]};have HR:=hid hR;have HK:=hid hk2;clear hdc hru hou hk2 hR
   go_upto_region 2 with fail
   have hk3:=kal w2 (.cells (askC GR.Ask.zero (.slice uo GR.Ask.zero.data.length uc)) 41);obtain⟨w3,hw3⟩:=zX1 (w2.alloc (.cells (askC GR.Ask.zero (.slice uo GR.Ask.zero.data.length uc)) 41));rw[<-hw3] at hk3 |-;clear hw3;have HK3:=hid (HK.out.next hk3 (H:=λ_=>False) zI zI);clear hk3;go_wp2_with fail;rw[HP.out,HR.out];exact⟨_,F,rfl,Row.nil _ _ _,λk e=>by simp[Value.ownBlock] at e,(Star.lives _).keep H0.out.1 HK3.out zI,HK3.out.mono λ_ _ z=>z.elim,λ_ z=>.inl z⟩
 | some a=>
   obtain⟨ha1,ha2,ha3⟩:=zqF H0.out.2.2.2.1.symm;obtain⟨hb1,hb2⟩:=zlT H0.out.2.2.2.1.symm;obtain⟨dl,hdl⟩:=zX1 (a.data.length);simp only[Option.getD_some,Option.isSome_some] at hru |-;rw[<-hdl] at hru;have hn3:=heap_alloc_new w2 (.cells (askC a (.slice uo dl uc)) 41);have hk3:=kal w2 (.cells (askC a (.slice uo dl uc)) 41);have hou':∀ k,(Value.slice uo dl uc).ownBlock=some k->w.heap.size<=k:=λk e=>hou k (by rw[z1E _ _ dl];exact e);have HD:=hid hdl;clear hou hdc hdl
   go_upto_region 2 with fail
   rw[<-HD.out];obtain⟨w3,hw3⟩:=zX1 (w2.alloc (.cells (askC a (.slice uo dl uc)) 41));have hz3:w3.heap.size=w2.heap.size+1:=by{rw[hw3];simp};rw[<-hw3] at hn3 hk3 |-;obtain⟨B,hB⟩:=zX1 (w2.heap.size);rw[<-hB] at hn3 hz3 |-;have k03:=hk2.next hk3 (H:=λ_=>False) zI zI;have hS3:=(Star.lives _).keep H0.out.1 k03 zI;have hru3:=hru.keep hk3 zI;have hwB:w.heap.size<=B:=by{rw[hB];exact hk2.size};obtain⟨t,X0,htv,-,-⟩:=zyQ hS3 H0.out.2.1;obtain⟨hbx,-⟩:=z0W hS3;have c13:=(z0N hbx).2.2.2.2.2.2.2.2.2.2.2.2.2.1;rw[htv] at c13;have nlt:=z0I hbx;obtain⟨a0,a1,a2,a3,a4,af,ab⟩:=z0J hn3;have H3:=hid (zA1 hS3 (zA1 hru3 (zA1 hou' (zA1 k03 (zA1 hn3 (zA1 hz3 (zA1 hwB htv)))))));clear hw3 hB hk2 hk3 hn3 hz3 k03 hS3 hru3 hru hou' hwB hbx;go_wp2_with fail;have hk4:Keep zF w3 w3.drew:=(Keep.refl _ _).drew;refine z0E [] (by kernel_rfl) (by kernel_rfl) ?_
   repeat (first | (apply z0B (by rfl);(intro K w';go_simp;exact id)) | (apply z0K (by rfl);(intro K;go_simp;exact id)))
   clear c13 nlt a0 a1 a2 a3 a4 af ab;obtain⟨w4,hw4⟩:=zX1 (w3.drew);rw[<-hw4] at hk4 |-;clear hw4;have hS4:=(Star.lives _).keep H3.out.1 hk4 zI;obtain⟨t',X,htv',hT,hXF,hcl⟩:=zmU hS4 H0.out.2.1;have htt:t'=t:=by{have:=H3.out.2.2.2.2.2.2.2;rw[htv'] at this;simpa [ptrV] using this};subst htt;have hok:=H0.out.2.2.1;have hbg:=znJ w4 t' m.tab X hT hok.tab.uniq (Nat.lt_succ_of_le hok.tab.few) (λc hc=>(hok.bnd c hc).1) (λc hc=>by have:=(hok.bnd c hc).2;omega) a.id a.num ha1 ha2;obtain⟨R,hR⟩:=zX1 (z2I m.tab a.id a.num);rw[<-hR] at hbg;have H4:=hid (zA1 hk4 (zA1 hS4 (zA1 hcl (zA1 hXF hR))));clear hk4 hS4 hT hcl hXF htv' hok hR;refine z0F (by rfl) (by rfl) (λK hK=>?_);go_simp;refine hbg.mono ?_;rintro e w5 ⟨v5,FT,rfl,hr5,ho5,hT5,hk5,hF5,hnil⟩;go_simp;refine hK _ _ ?_;clear hK K hbg
   repeat (apply z0B (by rfl);(intro K w';go_simp;exact id))
   refine z0Q ?_;obtain⟨F5,hS5,hkF5,hF5'⟩:=H4.out.2.2.1 w5 R.2 FT hT5 hk5 (λi z=>(hF5 i z).imp id λy z=>by have:=(Star.lives _).lt H4.out.2.1 i z;omega);have k04:=H3.out.2.2.2.1.next H4.out.1 (H:=λ_=>False) zI zI;have hFl:=H0.out.2.2.2.2;have s04:=k04.size;have hF50:∀ i,F5 i->F i∨w.heap.size<=i:=λi z=>by{rcases hF5' i z with y | y;{exact .inl y};{rcases hF5 i y with y | y;{exact .inl (H4.out.2.2.2.1 i y)};{right;omega}}};have hv5:∀ k,v5.ownBlock=some k->w.heap.size<=k/\¬ F5 k:=λk e=>by{obtain⟨h1,h2⟩:=ho5 k e;exact⟨by omega,λz=>by rcases hF5' k z with y | y;(have:=hFl k y;omega);exact h2 y⟩};have hkw5:Keep F w w5:=k04.next hkF5 (H:=F) zE zI;have hB5:=hkF5.get (H4.out.1.get H3.out.2.2.2.2.1 id) (λz=>by have:=hFl _ z;have:=H3.out.2.2.2.2.2.2.1;omega);have hu5:=(H3.out.2.1.keep H4.out.1 zI).keep hkF5 (λk e z=>by have:=hFl k z;have:=H3.out.2.2.1 k e;omega);have hun:∀ k,(Value.slice uo dl uc).ownBlock=some k->w.heap.size<=k/\¬ F5 k:=λk e=>by{have h1:=H3.out.2.2.1 k e;have h2:=H3.out.2.1.lt e;have s34:=H4.out.1.size;refine⟨h1,λz=>?_⟩;rcases hF5' k z with y | y;{have:=hFl k y;omega};{rcases hF5 k y with y | y;{have:=hFl k (H4.out.2.2.2.1 k y);omega};{omega}}};have hBn:¬ F5 B:=λz=>by{have h2:=H3.out.2.2.2.2.2.1;have s34:=H4.out.1.size;rcases hF5' B z with y | y;{have:=hFl B y;have:=H3.out.2.2.2.2.2.2.1;omega};{rcases hF5 B y with y | y;{have:=hFl B (H4.out.2.2.2.1 B y);have:=H3.out.2.2.2.2.2.2.1;omega};{omega}}};have H5:=hid (zA1 hS5 (zA1 hkw5 (zA1 hF50 (zA1 hv5 (zA1 hr5 (zA1 hB5 (zA1 hu5 (zA1 hun (zA1 hBn hnil)))))))));clear hS5 hkF5 hF5' k04 hFl s04 hF50 hv5 hkw5 hr5 ho5 hT5 hk5 hF5 hB5 hu5 hun hBn hnil
   have hdo:doM m l=(if R.1.2.2≠0 then (none,{ m with tab:=R.2 }) else if R.1.1≠1 then (some R.1.2.1,{ m with tab:=R.2 })
     else (some (if a.rd then (AL.get m.data a.blk.toNat).getD [] else []),{ m with data:=if a.rd then m.data else AL.put m.data a.blk.toNat a.data,tab:=(endC R.2 a.id a.num (if a.rd then (AL.get m.data a.blk.toNat).getD [] else [])).2 })):=by
    unfold doM do2;rw[<-H0.out.2.2.2.1];simp only;rw[<-H4.out.2.2.2.2];split;{rfl};{split <;> rfl}
   have HDo:=hid hdo;clear hdo;by_cases he:R.1.2.2=0
   ·have z1:(R.1.2.2 != 0)=false:=by simp[he]
    have HE:=hid he;clear he;by_cases hk:R.1.1=1
    ·have z2:((R.1.1:Int) != 1)=false:=by simp;omega
     have HR1:=hid (show doM m l=(some (if a.rd then (AL.get m.data a.blk.toNat).getD [] else []),{ m with data:=if a.rd then m.data else AL.put m.data a.blk.toNat a.data,tab:=(endC R.2 a.id a.num (if a.rd then (AL.get m.data a.blk.toNat).getD [] else [])).2 }) by rw[HDo.out,if_neg (by rw[HE.out];decide),if_neg (by rw[hk];decide)]);have hrep:R.1.2.1 = []:=by{have h:=H4.out.2.2.2.2;rw[h] at hk |-;exact znY hk};have HRp:=hid hrep;have hv0:=H5.out.2.2.2.2.2.2.2.2.2 (by omega);subst hv0;clear hrep hk;obtain⟨a0,a1,a2,a3,a4,af,ab⟩:=z0J H5.out.2.2.2.2.2.1
     go_upto_if 41 with fail
     obtain⟨bn,hbn⟩:=zX1 (a.blk.toNat);have hbk:a.blk=(bn:Int):=by{omega};obtain⟨mb,X,l2,hdv,hM,hXF,hcl⟩:=zrS H5.out.1 H0.out.2.1;obtain⟨hbx,-⟩:=z0W H5.out.1;have c12:=(z0N hbx).2.2.2.2.2.2.2.2.2.2.2.2.1;rw[hdv] at c12;have nlt:=z0I hbx;rw[hbk] at a3;have hbn63:bn<9223372036854775808:=by{omega};have hkd:Keep zF w5 w5.drew:=(Keep.refl _ _).drew;have HBn:=hid (zA1 hbn hbk)
     go_cut [9] (λov wx=>∃ F6,Hid (Star (memL q n d me { m with tab:=R.2,data:=if a.rd then m.data else AL.put m.data a.blk.toNat a.data } x) wx F6/\Keep F w wx/\(∀ i,F6 i->F i∨w.heap.size<=i)/\Row wx 5 1 ov (if a.rd then (AL.get m.data a.blk.toNat).getD [] else []).length (z0C (if a.rd then (AL.get m.data a.blk.toNat).getD [] else []))/\
      (∀ k,ov.ownBlock=some k->w.heap.size<=k/\¬ F6 k)/\wx.heap[B]?=some (.cells (askC a (.slice uo dl uc)) 41 (0,0))))
     case first=>
      obtain⟨rd,hrd⟩:=zX1 (a.rd);rw[<-hrd];have HRd:=hid hrd;rw[<-hrd] at a0;clear hrd hbn hbk z1 z2;cases rd with
      | true=>
        have hlook:=λw' (hp:Pre w5 w')=>(hM.map.pre hp).look1 zdQ (t:=87) Tryz.underlying87 (e:=122) (z:=.agg #[.slice none 0 0]) (by rfl) bn hbn63;have hget:=z9I (λe:List UInt8×Value=>e.1) l2 bn;rw[hM.is] at hget;obtain⟨out,hout⟩:=zX1 ((AL.get m.data a.blk.toNat).getD []);have hval:∃ ru,((AL.get l2 bn).map (λe:List UInt8×Value=>(Value.agg #[e.2]))).getD (.agg #[.slice none 0 0]) = .agg #[ru]/\Row w5 5 1 ru out.length (z0C out):=by{rw[<-HBn.out.1] at hout;cases hg:AL.get l2 bn with | none=>{rw[hg] at hget;rw[hget] at hout;refine⟨_,rfl,?_⟩;rw[hout];exact Row.nil _ _ _} | some e=>{rw[hg] at hget;rw[hget] at hout;refine⟨_,rfl,?_⟩;rw[hout];exact(hM.each _ (AL.get_mem hg)).1}};obtain⟨ru,hru1,hru2⟩:=hval;obtain⟨fo,fc,hff,-⟩:=hru2.form;subst hff;have hfld:∀ w',(Instr.field 122 (.agg #[.slice fo out.length fc]) 0).run Tryz.prog w' = .ok (.slice fo out.length fc) w':=λ_=>by{kernel_rfl};rw[hru1] at hlook;have hlook:∀ w',Pre w5 w'->(Instr.lookup 87 (.map (some mb)) (.int .i64 (bn:Int)) false).run Tryz.prog w' = .ok (.agg #[.slice fo out.length fc]) w':=hlook;have hol:out.length<=64:=by{rw[hout];exact H0.out.2.2.1.rep _};have hcn:=znQ w5.drew (.slice fo out.length fc) out (hru2.keep hkd zI) (by omega);have HO:=hid (zA1 hout hol);clear hget hout hru1 hru2 hol hM hXF hcl hdv;go_wp2_with fail;refine z0E [] (by kernel_rfl) (by kernel_rfl) ?_
        repeat (first | (apply z0B (by rfl);(intro K w';go_simp;exact id)) | (apply z0K (by rfl);(intro K;go_simp;exact id)))
        (apply z4O (by rfl);(intro K w' hp;have hlk:=hlook w' ((Pre.refl _).drew.trans hp);go_simp;exact id))
        repeat (first | (apply z0B (by rfl);(intro K w';go_simp;exact id)) | (apply z0K (by rfl);(intro K;go_simp;exact id)))
        refine z0F (by rfl) (by rfl) (λK hK=>?_);go_simp;refine hcn.mono ?_;rintro e w6 ⟨v6,rfl,hr6,ho6,hk6⟩;go_simp;refine hK _ _ ?_;clear hK K hcn
        repeat (apply z0B (by rfl);(intro K w';go_simp;exact id))
        refine z0Q ?_;have hk56:=hkd.next hk6 (H:=λ_=>False) zI zI;have HZ:=hid (show Star (memL q n d me { m with tab:=R.2,data:=m.data } x) w6 F5/\Keep F w w6/\(∀ i,F5 i->F i∨w.heap.size<=i)/\Row w6 5 1 v6 ((AL.get m.data a.blk.toNat).getD []).length (z0C ((AL.get m.data a.blk.toNat).getD []))/\ (∀ k,v6.ownBlock=some k->w.heap.size<=k/\¬ F5 k)/\w6.heap[B]?=some (.cells (askC a (.slice uo dl uc)) 41 (0,0)) from ⟨(Star.lives _).keep H5.out.1 hk56 zI,H5.out.2.1.next hk56 zI zE,H5.out.2.2.1,by rw[<-HO.out.1];exact hr6,λk e=>by{have h1:=ho6 k e;have h2:w5.drew.heap.size=w5.heap.size:=rfl;have h3:=H5.out.2.1.size;exact⟨by omega,λz=>by have:=(Star.lives _).lt H5.out.1 k z;omega⟩},hk56.get H5.out.2.2.2.2.2.1 id⟩);clear hk56 hr6 ho6 hk6 hkd hlook hfld a0 a1 a2 a3 a4 af ab c12 nlt;go_wp2_with fail;go_meet;refine⟨F5,hid ?_⟩;rw[show a.rd=true from HRd.out.symm];simp only[if_true];exact HZ.out
      | false=>
        have hll:l2.length<maxLen:=by{have h1:l2.length=m.data.length:=by{rw[<-hM.is];simp};have h2:m.data.length<=63:=H0.out.2.2.1.tab.fewd;unfold maxLen;omega};obtain⟨w6,hrun,hM6,hk6⟩:=(hM.map.keep hkd id).store zdQ (t:=87) Tryz.underlying87 hll bn hbn63 (a.data,.slice uo dl uc);have hrun:(Instr.mapUpdate 87 (.map (some mb)) (.int .i64 (bn:Int)) (.agg #[.slice uo dl uc])).run Tryz.prog w5.drew = .ok () w6:=hrun
        have HZ:=hid (show ∃ F6,Star (memL q n d me { m with tab:=R.2,data:=AL.put m.data a.blk.toNat a.data } x) w6 F6/\Keep F w w6/\(∀ i,F6 i->F i∨w.heap.size<=i)/\Row w6 5 1 (.slice none 0 0) ([]:List UInt8).length (z0C [])/\
         (∀ k,(Value.slice none 0 0).ownBlock=some k->w.heap.size<=k/\¬ F6 k)/\w6.heap[B]?=some (.cells (askC a (.slice uo dl uc)) 41 (0,0)) from by
         obtain⟨hS5,hkw5,hF50,hv5,hr5,hB5,hu5,hun,hBn,-⟩:=H5.out;have hXm:X mb:=hM.own;have hmu:∀ k,(Value.slice uo dl uc).ownBlock=some k->k≠mb:=λk e z=>(hun k e).2 (hXF _ (z ▸ hXm));have hP:=BMap.push (at_:=bn) (x:=a.data) (u:=.slice uo dl uc) ((zbN 3 keI (λ(_:List UInt8) u=>.agg #[u]) (λe=>e) mb m.data).2.keep (⟨l2,hM⟩:(zbN 3 keI (λ(_:List UInt8) u=>.agg #[u]) (λe=>e) mb m.data).1 w5 X) hkd zI |> λ_=>(⟨hM.is,hM.map.keep hkd id,hM.own,λe he=>let ⟨y1,y2⟩:=hM.each e he;⟨y1.keep hkd zI,y2⟩,λj z=>hM.lt j z⟩:BMap 3 keI (λ(_:List UInt8) u=>.agg #[u]) (λe=>e) mb m.data w5.drew X l2)) (by have h:=hu5.keep hkd zI;rw[<-HD.out];exact h) hmu hM6 hk6;have hk56:Keep X w5 w6:=hkd.next hk6 (H:=X) zE (λk _ z=>by have z':k=mb:=z;subst z';exact hXm);obtain⟨F6,y1,y2,y3⟩:=hcl w6 (AL.put m.data bn a.data) (λk=>X k∨(Value.slice uo dl uc).ownBlock=some k) ⟨_,hP⟩ hk56 (λk z=>z.imp id λz=>(hun k z).2);refine⟨F6,by rw[<-HBn.out.1];exact y1,hkw5.next y2 zI (λk hk z=>by rcases hF50 k z with y | y;exact y;omega),λk z=>?_,Row.nil _ _ _,λk e=>by simp[Value.ownBlock] at e,hk56.get hB5 (λz=>hBn (hXF _ z))⟩
         ·rcases y3 k z with y | y | y
          {exact hF50 k y};{exact hF50 k (hXF k y)}
          ·exact .inr (hun k y).1)
        clear hM hXF hcl hdv hll hM6 hk6;go_wp2_with fail;refine z0E [] (by kernel_rfl) (by kernel_rfl) ?_
        repeat (first | (apply z0B (by rfl);(intro K w';go_simp;exact id)) | (apply z0K (by rfl);(intro K;go_simp;exact id)))
        (refine z0F (by rfl) (by rfl) (λK hK=>?_);go_simp;refine hK _ _ ?_;clear hK K)
        refine z0Q ?_;clear hrun hkd a0 a1 a2 a3 a4 af ab c12 nlt;go_wp2_with fail;go_meet;obtain⟨F6,hz⟩:=HZ.out;refine⟨F6,hid ?_⟩;rw[show a.rd=false from HRd.out.symm];simp only[Bool.false_eq_true,if_false];exact hz
     case rest=>(obtain⟨F6,HZ⟩:=hcut;obtain⟨DT,hDT⟩:=zX1 ((if a.rd then m.data else AL.put m.data a.blk.toNat a.data));obtain⟨OUT,hOUT⟩:=zX1 ((if a.rd then (AL.get m.data a.blk.toNat).getD [] else []));have hR1:=HR1.out;rw[<-hDT,<-hOUT] at HZ hR1;have hol:OUT.length<=64:=by{rw[hOUT];split;{exact H0.out.2.2.1.rep _};{exact Nat.zero_le _}};clear hM hXF hcl hdv hkd hbx HR1 hbn hbk z1 z2 a0 a1 a2 a3 a4 af ab c12 nlt hDT hOUT;have HR:=hid hR1;clear hR1;obtain⟨ro,rc,hrf,-⟩:=HZ.out.2.2.2.1.form;subst hrf;obtain⟨ol,holq⟩:=zX1 (OUT.length);have HO:=hid (zA1 holq hol);obtain⟨t6,X6,htv6,hT6,hX6,hcl6⟩:=zmU HZ.out.1 H0.out.2.1;obtain⟨hbx,-⟩:=z0W HZ.out.1;have c13:=(z0N hbx).2.2.2.2.2.2.2.2.2.2.2.2.2.1;rw[htv6] at c13;have nlt:=z0I hbx;obtain⟨a0,a1,a2,a3,a4,af,ab⟩:=z0J HZ.out.2.2.2.2.2;have hkd:Keep zF wc wc.drew:=(Keep.refl _ _).drew;have hRu:UniqC R.2:=by{rw[H4.out.2.2.2.2];exact H0.out.2.2.1.tab.uniq.begin _ _};have hRl:R.2.length<=64:=by{rw[H4.out.2.2.2.2];have h1:=zfI m.tab a.id a.num;have h2:m.tab.length<=63:=H0.out.2.2.1.tab.few;omega};have hRb:TabB R.2:=by{rw[H4.out.2.2.2.2];exact H0.out.2.2.1.bnd.begin _ _ ha1};have hX6n:∀ k,(Value.slice ro OUT.length rc).ownBlock=some k->¬ X6 k:=λk e z=>(HZ.out.2.2.2.2.1 k e).2 (hX6 k z);have hen:=zxA wc.drew t6 R.2 X6 ((z3T t6 R.2).2.keep hT6 hkd zI) hRu hRl (λc hc=>(hRb c hc).1) a.id a.num ha1 OUT ro ol rc holq (by rw[holq];omega) (λw' hk'=>by{have h:=(HZ.out.2.2.2.1.keep hkd zI).keep hk' (λk e z=>hX6n k e z);rw[holq];exact Cells.of_row h});rw[<-holq];have H6:=hid (zA1 hX6 (zA1 hcl6 (zA1 hX6n hkd)));clear hT6 hX6 hcl6 hX6n hkd hRu hRl hRb htv6 holq hol;go_wp2_with fail;refine z0E [] (by kernel_rfl) (by kernel_rfl) ?_;(repeat (first | (apply z0B (by rfl);(intro K w';go_simp;exact id)) | (apply z0K (by rfl);(intro K;go_simp;exact id))));refine z0F (by rfl) (by rfl) (λK hK=>?_);go_simp;refine hen.mono ?_;rintro e w7 ⟨rfl,ht7⟩;go_simp;refine hK _ _ ?_;clear hK K hen;(repeat (apply z0B (by rfl);(intro K w';go_simp;exact id)));refine z0Q ?_;have HT7:=hid ht7;clear ht7 c13 nlt a0 a1 a2 a3 a4 af ab;go_wp2_with fail;rw[HP.out,HR.out];obtain⟨FT7,y1,y2,y3⟩:=HT7.out;obtain⟨hX6,hcl6,hX6n,hkd⟩:=H6.out;have y2':Keep X6 wc w7:=hkd.next y2 (H:=X6) zE zI;have hsz:wc.drew.heap.size=wc.heap.size:=rfl;obtain⟨F7,p1,p2,p3⟩:=hcl6 w7 _ FT7 y1 y2' (λk z=>(y3 k z).imp id λz q=>by have:=(Star.lives _).lt HZ.out.1 k q;omega);have hszw:=HZ.out.2.1.size;refine⟨.slice ro ol rc,F7,rfl,?_,λk e=>?_,p1,HZ.out.2.1.next p2 zI (λk hk z=>by rcases HZ.out.2.2.1 k z with y | y;exact y;omega),λk z=>?_⟩;{rw[HO.out.1];exact HZ.out.2.2.2.1.keep y2' (λk e z=>hX6n k e z)};{rw[HO.out.1] at e;obtain⟨h1,h2⟩:=HZ.out.2.2.2.2.1 k e;refine⟨h1,λz=>?_⟩;rcases p3 k z with y | y;{exact h2 y};{rcases y3 k y with y | y;{exact hX6n k e y};{have:=HZ.out.2.2.2.1.lt e;omega}}};{rcases p3 k z with y | y;{exact HZ.out.2.2.1 k y};{rcases y3 k y with y | y;{exact HZ.out.2.2.1 k (hX6 k y)};{right;omega}}})
    {have z2:((R.1.1:Int) != 1)=true:=by{simp;omega};have HR:=hid (show doM m l=(some R.1.2.1,{ m with tab:=R.2 }) by rw[HDo.out,if_neg (by rw[HE.out];decide),if_pos hk]);have z3:(R.1.2.2 == 0)=true:=by{simp[HE.out]};clear hk;go_wp2_with fail;rw[HP.out,HR.out];exact⟨v5,F5,rfl,H5.out.2.2.2.2.1,H5.out.2.2.2.1,H5.out.1,H5.out.2.1,H5.out.2.2.1⟩}
   {have z1:(R.1.2.2 != 0)=true:=by{simp[he]};have z3:(R.1.2.2 == 0)=false:=by{simp[he]};have HR:=hid (show doM m l=(none,{ m with tab:=R.2 }) by rw[HDo.out,if_pos he]);have hrep:R.1.2.1 = []:=by{have h:=H4.out.2.2.2.2;rw[h] at he |-;exact znP he};have HRp:=hid hrep;clear he hrep;go_wp2_with fail;rw[HP.out,HR.out];refine⟨v5,F5,rfl,?_,H5.out.2.2.2.1,H5.out.1,H5.out.2.1,H5.out.2.2.1⟩;have h:=H5.out.2.2.2.2.1;rw[HRp.out] at h;exact h}
end
section
open Go.RowKit Go.Maps
open MI SO BM DM WM AC GR
theorem GR.TabOk.mono {n n':Nat} {s:List (Nat×List UInt8)×List Cl} (h:TabOk n s) (hn:n<=n'):TabOk n' s:=⟨h.uniq,Nat.le_trans h.few hn,h.data,Nat.le_trans h.fewd hn⟩
theorem TabB.step {s:List (Nat×List UInt8)×List Cl} {n:Nat} (h:TabB s.2) (hd:TabOk n s) (v:List UInt8):TabB (do2 s v).2.2:=by
 unfold do2;split
 ·exact h
 rename_i a ha;have hid:=(zqF ha).1;have hb:=h.begin a.id a.num hid;simp only;split
 ·exact hb
 split
 ·exact hb
 refine hb.fin _ _ hid _ ?_;split
 ·cases hg:AL.get s.1 a.blk.toNat with
  | none=>exact Nat.zero_le _
  | some u=>exact(hd.data _ (AL.get_mem hg)).2
 ·exact Nat.zero_le _
theorem BoxA.put {p i:Nat} {cs:Array Value} {t:TypeId} {w:World} {X:Nat->Prop} (h:BoxA p cs t w X) (v:Value):BoxA p (cs.setIfInBounds i v) t (w.setCell ⟨p,i,none⟩ v) X/\Keep X w (w.setCell ⟨p,i,none⟩ v):=by
 have hk:Keep (λk=>k=p) w (w.setCell ⟨p,i,none⟩ v):=kst;exact⟨⟨heap_setCell_same w p i _ _ _ h.1,h.2.1,λk x=>Nat.lt_of_lt_of_le (h.2.2 k x) hk.size⟩,hk.mono λk _ e=>by subst e;exact h.2.1⟩
theorem zpM {q:Qm} {n d me:Nat} {m:Mb} {x:MemV} {w:World} {F:Nat->Prop} (h:Star (memL q n d me m x) w F):∃ us X,Rcs z6H w X x.sv m.said us/\(∀ i,X i->F i)/\
  ∀ w1 v' l' X',(zpU z6H v' l').1 w1 X'->Keep X w w1->(∀ i,X' i->X i∨¬ F i)->∃ F',Star (memL q n d me { m with said:=l' } { x with sv:=v' }) (w1.setCell ⟨n,14,none⟩ v') F'/\Keep F w (w1.setCell ⟨n,14,none⟩ v')/\∀ i,F' i->F i∨X' i:=by
 obtain⟨X,⟨⟨us,hA⟩,hl⟩,hX,t⟩:=h.opnX 7 rfl;obtain⟨hbx,hnF⟩:=z0W h;refine⟨us,X,hA,hX,λw1 v' l' X' h1 h2 h3=>?_⟩;obtain⟨F1,p1,p2,p3⟩:=t w1 (zpU z6H v' l') X' h1 h2 h3;obtain⟨Y,hB,hYF,t2⟩:=p1.opnX 0 rfl;obtain⟨b1,b2⟩:=BoxA.put hB (i:=14) v';obtain⟨F2,c1,c2,c3⟩:=t2 _ (z4P n (memC d me { m with said:=l' } { x with sv:=v' }) 90) Y b1 b2 (λi z=>.inl z);refine⟨F2,c1,Keep.setCell p2 (.inl hnF) _,λi z=>?_⟩;rcases c3 i z with y | y;{exact p3 i y};{exact p3 i (hYF i y)}
theorem zuD {q:Qm} {n d me:Nat} {m:Mb} {x:MemV} {w:World} {F:Nat->Prop} (h:Star (memL q n d me m x) w F) (hu:m.up=true):∃ a X,x.lv=ptrV a/\RlAt w a X m.log/\(∀ i,X i->F i)/\
  ∀ w' g' X',RlAt w' a X' g'->Keep X w w'->(∀ i,X' i->X i∨¬ F i)->∃ F',Star (memL q n d me { m with log:=g' } x) w' F'/\Keep F w w'/\∀ i,F' i->F i∨X' i:=by
 obtain⟨X,hA,hX,t⟩:=h.opnX 4 rfl;rw[hu] at hA;obtain⟨a,e,hA⟩:=hA;refine⟨a,X,e,hA,hX,λw' g' X' h1 h2 h3=>?_⟩;obtain⟨F',h6,h7,h8⟩:=t w' (logP x.lv g' true) X' ⟨a,e,h1⟩ h2 h3;have e3:(memL q n d me m x).set 4 (logP x.lv g' true)=memL q n d me { m with log:=g' } x:=by{cases m;dsimp only at hu;subst hu;rfl};rw[e3] at h6;exact⟨F',h6,h7,h8⟩
theorem zrB {q:Qm} {n d me:Nat} {m:Mb} {x:MemV} {w:World} {F:Nat->Prop} (h:Star (memL q n d me m x) w F) (s:Nat) (hs:s<18446744073709551616):∃ st,(∀ w',Pre w w'->(Instr.lookup 85 x.kv (.int .u64 (s:Int)) true).run Tryz.prog w' = .ok (.tuple #[.agg #[.string st],.bool (AL.get m.asks s).isSome]) w')/\
  ∀ b,AL.get m.asks s=some b->st=str b:=by
 cases hp:m.p with | none=>{obtain⟨-,hk,ha⟩:=zcI h hp;rw[hk,ha];exact⟨_,λw' _=>rfl,λb e=>by cases e⟩} | some p=>{obtain⟨b,X,hk,hM,-⟩:=zmG h hp;rw[hk];have hl:=λw' (hpre:Pre w w')=>(hM.pre hpre).look2 z5R (t:=85) Tryz.underlying85 (e:=113) (z:=.agg #[.string { data:=#[] }]) (by rfl) s hs;cases hg:AL.get m.asks s with | none=>{rw[hg] at hl;exact⟨_,λw' hw=>hl w' hw,λb e=>by cases e⟩} | some u=>{rw[hg] at hl;exact⟨str u,λw' hw=>hl w' hw,λb e=>by cases e;rfl⟩}}
theorem zfM {m:Mb} {e:RM.Ent} {g:RM.Lg} (hr:RM.Rising m.log.l) (h:RM.apply m.log=(some e,g)):z2T m=z2T (sayM { m with log:=g } e)/\g.ap=m.log.ap+1/\z2C m.log=z2C g+1/\g.l=m.log.l/\e.1=m.log.ap+1:=by
 unfold RM.apply at h;cases hk:RM.kept m.log.l (m.log.ap+1) with | none=>{rw[hk] at h;cases h} | some v=>{rw[hk] at h;cases h;obtain⟨b1,b2⟩:=z6Q hr (z6E hk);have ha:z2C m.log=z2C { m.log with ap:=m.log.ap+1 } + 1:=by{unfold z2C;simp only;omega};have hs:(sayM { m with log:={ m.log with ap:=m.log.ap+1 } } (m.log.ap+1,v)).log = { m.log with ap:=m.log.ap+1 }:=by{rw[z3Y]};refine⟨?_,rfl,ha,rfl,rfl⟩;unfold z2T;rw[hs,ha,appN];unfold RM.apply;rw[hk]}
theorem zpC {m:Mb} {g:RM.Lg} (h:RM.apply m.log=(none,g)):z2T m=m/\g=m.log:=by
 unfold RM.apply at h;cases hk:RM.kept m.log.l (m.log.ap+1) with | some v=>{rw[hk] at h;cases h} | none=>{rw[hk] at h;cases h;refine⟨?_,rfl⟩;unfold z2T;cases z2C m.log with | zero=>{rfl} | succ k=>{rw[appN];unfold RM.apply;rw[hk]}}
theorem zlJ:SliceTy Tryz.prog 45 48 (.agg #[.int .u64 0,.int .u64 0,.int .u64 0,.slice none 0 0]) 4 48:=⟨by kernel_rfl,by kernel_rfl,rfl,by decide⟩
structure ApIn (w:World) (q:Qm) (n d me:Nat) (m:Mb) (x:MemV) (F:Nat→Prop) (L:Nat) (mr:Mb) (sv:Value) (F':Nat→Prop) (wr:World):Prop where
 star:Star (memL q n d me mr { x with sv:=sv }) wr F'
 same:z2T mr=z2T m
 up:mr.up=true
 keep:Keep F w wr
 new:∀ i,F' i→F i∨w.heap.size≤i
 tab:TabOk mr.log.ap (mr.data,mr.tab)
 bnd:TabB mr.tab
 far:mr.log.ap+z2C mr.log=L
 few:mr.said.length≤1000+mr.log.ap
theorem zzK (m:Mb) (e:RM.Ent):(repM m e).length<=1:=by
 unfold repM;split;{split <;> simp};{simp}
theorem ApIn.next {w:World} {q:Qm} {n d me:Nat} {m:Mb} {x:MemV} {F:Nat->Prop} {L:Nat} {mr:Mb} {sv:Value} {F1:Nat->Prop} {wr:World} (h:ApIn w q n d me m x F L mr sv F1 wr) {e:RM.Ent} {g':RM.Lg} (hap:RM.apply mr.log=(some e,g')) (hrs:RM.Rising mr.log.l)
  {sv':Value} {F5:Nat->Prop} {w':World} (hS:Star (memL q n d me (sayM { mr with log:=g' } e) { x with sv:=sv' }) w' F5) (hk:Keep F w w') (hn:∀ i,F5 i->F i∨w.heap.size<=i) :
  ApIn w q n d me m x F L (sayM { mr with log:=g' } e) sv' F5 w'/\mr.log.ap<L/\(sayM { mr with log:=g' } e).log.ap=mr.log.ap+1:=by
 obtain⟨h1,h2,h3,h4,h5⟩:=zfM hrs hap;have hl:(sayM { mr with log:=g' } e).log=g':=by{rw[z3Y]};have hfar:=h.far;refine⟨⟨hS,h1 ▸ h.same,by rw[z3Y];exact h.up,hk,hn,?_,?_,by rw[hl];omega,?_⟩,by omega,by rw[hl];exact h2⟩;{rw[hl,h2,z3Y];exact h.tab.step e.2};{rw[z3Y];exact TabB.step h.bnd h.tab e.2};{rw[hl,h2,z3Y];have h6:=zzK { mr with log:=g' } e;have h7:=h.few;simp only[List.length_append];omega}
theorem zbJ {q:Qm} {n d me:Nat} {m:Mb} {x:MemV} {w:World} {F:Nat->Prop} (h:Star (memL q n d me m x) w F) (hu:m.up=true) {lb:Nat} (hlv:x.lv=ptrV lb):(w.cell? ⟨lb,0,none⟩).getD (.int .u64 0) = .int .u64 (m.log.ap:Int):=by
 obtain⟨a,X,e,⟨v,us,hI⟩,-⟩:=z5L h hu;have e2:a=lb:=by{rw[hlv] at e;simpa [ptrV] using e.symm};subst e2;rw[(z1T hI.head).1];rfl
def ApPost (q:Qm) (n d me:Nat) (m':Mb) (x:MemV) (F:Nat→Prop) (w:World) (e:Ending) (w':World):Prop:=e = .returned (.tuple #[])∧∃ sv,Turns (Star (memL q n d me m' { x with sv:=sv })) F w w'
theorem zaT (w:World) (q:Qm) (n d me:Nat) (m:Mb) (x:MemV) (F:Nat→Prop) (h:Star (memL q n d me m x) w F) (hu:m.up=true) (hT:TabOk m.log.ap (m.data,m.tab)) (hB:TabB m.tab) (hL:m.log.ap+z2C m.log≤62) (hsd:m.said.length≤1000) :
  Calls Tryz.prog 82 #[.pointer (some ⟨n,0,none⟩)] w (ApPost q n d me (z2T m) x F w):=by
 obtain⟨Post,hPost⟩:=zX1 (ApPost q n d me (z2T m) x F w);rw[← hPost];have HP:=hid hPost;clear hPost;obtain⟨lb,X0,hlv,-⟩:=z5L h hu;obtain⟨L,hLq⟩:=zX1 (m.log.ap+z2C m.log);rw[← hLq] at hL;have HS:=hid (show ApIn w q n d me m x F L m x.sv F w from⟨h,rfl,hu,Keep.refl _ _,fun _ z=>.inl z,hT,hB,hLq.symm,by omega⟩);have H0:=hid (zA1 h (zA1 hlv hu));clear h hT hB hlv hu hLq hsd;go_enter Tryz.func82,Tryz.ntmps82;go_wp2_with fail
 go_loopw [] (fun wr=>∃ mr sv F',Hid (ApIn w q n d me m x F L mr sv F' wr)) (fun wr=>L - (intOf ((wr.cell? ⟨lb,0,none⟩).getD (.int .u64 0))).toNat)
 case atStart=>exact⟨m,x.sv,F,HS⟩
 case round=>
  obtain⟨mr,sv,F1,HR⟩:=hrel;obtain⟨lb',X,hlv',hRl,hXF,hcl⟩:=zuD HR.out.star HR.out.up
  have hlb:lb'=lb:=by
   have h1:x.lv=ptrV lb':=hlv';rw[H0.out.2.1] at h1;simpa [ptrV] using h1.symm
  subst hlb;obtain⟨lvv,lus,hLI⟩:=hRl
  have hap0:(wr.cell? ⟨lb',0,none⟩).getD (.int .u64 0) = .int .u64 (mr.log.ap:Int):=by
   have h1:=(z1T hLI.head).1;rw[h1];rfl
  have hrs:=hLI.ok.rising;have hok:=hLI.ok;obtain⟨hbx,-⟩:=z0W HR.out.star;have c11:=(z0N hbx).2.2.2.2.2.2.2.2.2.2.2.1;rw[show ({ x with sv:=sv }:MemV).lv=ptrV lb' from hlv'] at c11;have nlt:=z0I hbx;have hapc:=zrJ wr lb' X mr.log ⟨lvv,lus,hLI⟩;obtain⟨A,hA⟩:=zX1 (RM.apply mr.log);rw[← hA] at hapc;obtain⟨o,g'⟩:=A;have H1:=hid (zA1 hXF (zA1 hcl (zA1 hap0 (zA1 hrs (zA1 hok hA)))));clear hlv' hLI hXF hcl hap0 hrs hok hA hbx;go_wp2_with fail;refine hapc.mono ?_;rintro e w2 ⟨hAp,hR2,hk2⟩
  cases o with
  | none=>
    have hAp:e = .returned (.tuple #[.agg #[.int .u64 0,.slice none 0 0],.bool false]):=hAp;subst hAp;have hap:=zpC H1.out.2.2.2.2.2.symm
    have HZ:=hid (show ∃ sv,Turns (Star (memL q n d me (z2T m) { x with sv:=sv })) F w (w2.alloc (.cells #[.int .u64 0,.slice none 0 0] 127)) from by
     obtain⟨F2,p1,p2,p3⟩:=H1.out.2.1 w2 g' X hR2 hk2 (fun i z=>.inl z);have e1:({ mr with log:=g' }:Mb)=mr:=by rw[hap.2]
     rw[e1] at p1;have hk3:=kal w2 (.cells #[.int .u64 0,.slice none 0 0] 127);refine⟨sv,F2,?_,?_,fun i z=>?_⟩
     ·rw[← HR.out.same,hap.1]
      exact(Star.lives _).keep p1 hk3 (fun _ _ z=>z)
     ·exact(HR.out.keep.next p2 (fun _ _ z=>z) (fun k hk z=>by rcases HR.out.new k z with y | y;exact y;omega)).next hk3 (fun _ _ z=>z) (fun _ _ z=>z.elim)
     ·rcases p3 i z with y | y
      ·exact HR.out.new i y
      ·exact HR.out.new i (H1.out.1 i y))
    clear hapc hR2 hk2 hap c11 nlt;go_wp2_with fail
    go_end0
    rw[HP.out];exact⟨rfl,HZ.out⟩
  | some ent=>
    obtain⟨s,val⟩:=ent;obtain⟨ao,c,rfl,hrv,hov⟩:=hAp;simp only at hrv hov;obtain⟨hst,hg1,hg2,hg3,hg4⟩:=zfM H1.out.2.2.2.1 H1.out.2.2.2.2.2.symm;obtain⟨vl,hvl⟩:=zX1 (val.length);rw[← hvl] at hrv hov ⊢;have hs64:s<18446744073709551616:=by have:=H1.out.2.2.2.2.1.ap;simp only at hg4;omega
    obtain⟨F2,hS2,hkF2,hF2⟩:=H1.out.2.1 w2 g' X hR2 hk2 (fun i z=>.inl z);have hF21:∀ i,F2 i→F1 i:=fun i z=>(hF2 i z).elim id (H1.out.1 i)
    have hv100:vl≤100:=by
     have h1:RM.kept mr.log.l (mr.log.ap+1)=some val:=by
      have h:=H1.out.2.2.2.2.2;unfold RM.apply at h
      cases hk:RM.kept mr.log.l (mr.log.ap+1) with
      | none=>rw[hk] at h;cases h
      | some v=>rw[hk] at h;cases h;rfl
     rw[hvl];exact H1.out.2.2.2.2.1.vals _ (z6E h1)
    have hn3:=heap_alloc_new w2 (.cells #[.int .u64 (s:Int),.slice ao vl c] 127);have hk3:=kal w2 (.cells #[.int .u64 (s:Int),.slice ao vl c] 127);have HVl:=hid hvl;have hwr:=HR.out.keep.size;have hw2:=hk2.size
    have H2:=hid (show Star (memL q n d me { mr with log:=g' } { x with sv:=sv }) w2 F2∧(∀ i,F2 i→F i∨w.heap.size≤i)∧Keep F w w2∧Row w2 5 1 (.slice ao vl c) vl (z0C val)∧(∀ k,(Value.slice ao vl c).ownBlock=some k→w.heap.size≤k∧¬ F2 k) from
     ⟨hS2,fun i z=>HR.out.new i (hF21 i z),HR.out.keep.next hkF2 (fun _ _ z=>z) (fun k hk z=>by rcases HR.out.new k z with y | y;exact y;omega),hrv,fun k e=>⟨by have:=hov k e;omega,fun z=>by have h1:=(Star.lives _).lt HR.out.star k (hF21 k z);have:=hov k e;omega⟩⟩)
    have HG:=hid (zA1 hst (zA1 hg1 (zA1 hg2 (zA1 hg3 hg4))));clear hapc hR2 hk2 hS2 hkF2 hF2 hF21 hrv hov hst hg1 hg2 hg3 hg4 hvl c11 nlt hwr hw2
    go_upto_region 2 with fail
    obtain⟨w3,hw3⟩:=zX1 (w2.alloc (.cells #[.int .u64 (s:Int),.slice ao vl c] 127));rw[← hw3] at hn3 hk3 ⊢;clear hw3;obtain⟨Be,hBe⟩:=zX1 (w2.heap.size);rw[← hBe] at hn3 ⊢;obtain⟨m2,hm2⟩:=zX1 (({ mr with log:=g' }:Mb));have hup2:m2.up=true:=by rw[hm2];exact HR.out.up
    have hok2:MbOk m2:=by
     have hfar:=HR.out.far;have hg:=HG.out;rw[hm2];exact⟨HR.out.tab.mono (by omega),HR.out.bnd⟩
    have hS3:=(Star.lives _).keep H2.out.1 hk3 (fun _ _ z=>z);rw[← hm2] at hS3;have hr3:=H2.out.2.2.2.1.keep hk3 (fun _ _ z=>z);have hdo:=zzP w3 q n d me m2 _ F2 hS3 hup2 hok2 val ao vl c (Cells.of_row hr3) (by omega);obtain⟨R,hR⟩:=zX1 (doM m2 val);rw[← hR] at hdo;obtain⟨d0,d1,df,-⟩:=z1T hn3
    have hBe2:w.heap.size≤Be∧¬ F2 Be:=by
     have h1:=H2.out.2.2.1.size;exact⟨by omega,fun z=>by have:=(Star.lives _).lt H2.out.1 Be z;omega⟩
    have H3:=hid (zA1 hS3 (zA1 hr3 (zA1 hk3 (zA1 hn3 (zA1 hR (zA1 hm2 (zA1 hBe2 hBe)))))));clear hS3 hr3 hk3 hn3 hR hm2 hup2 hok2 hBe2 hBe;go_wp2_with fail;refine hdo.mono ?_;rintro e w4 ⟨v4,F4,rfl,hr4,ho4,hS4,hk4,hF4⟩;obtain⟨st,hlook,hste⟩:=zrB hS4 s hs64;have hsz3:=H3.out.2.2.1.size;have hsw:=H2.out.2.2.1.size;have hBe4:=hk4.get H3.out.2.2.2.1 H3.out.2.2.2.2.2.2.1.2;have hv4:=H3.out.2.1.keep hk4 (fun k e z=>(H2.out.2.2.2.2 k e).2 z)
    have H4:=hid (show Star (memL q n d me R.2 { x with sv:=sv }) w4 F4∧Row w4 5 1 v4 (R.1.getD []).length (z0C (R.1.getD []))∧(∀ k,v4.ownBlock=some k→w.heap.size≤k∧¬ F4 k)∧(∀ i,F4 i→F i∨w.heap.size≤i)∧Keep F w w4∧
      w4.heap[Be]?=some (.cells #[.int .u64 (s:Int),.slice ao vl c] 127 (0,0))∧¬ F4 Be∧Row w4 5 1 (.slice ao vl c) vl (z0C val)∧(∀ k,(Value.slice ao vl c).ownBlock=some k→w.heap.size≤k∧¬ F4 k)∧(∀ b,AL.get R.2.asks s=some b→st=str b) from
     ⟨hS4,hr4,fun k e=>⟨by have:=(ho4 k e).1;omega,(ho4 k e).2⟩,fun i z=>by rcases hF4 i z with y | y;exact H2.out.2.1 i y;(right;omega),
      (H2.out.2.2.1.next H3.out.2.2.1 (H:=F) (fun _ _ z=>z) (fun _ _ z=>z.elim)).next hk4 (fun _ _ z=>z) (fun k hk z=>by rcases H2.out.2.1 k z with y | y;exact y;omega),hBe4,fun z=>by rcases hF4 Be z with y | y;exact H3.out.2.2.2.2.2.2.1.2 y;(have:=z0I H3.out.2.2.2.1;omega),hv4,fun k e=>⟨(H2.out.2.2.2.2 k e).1,fun z=>by rcases hF4 k z with y | y;exact(H2.out.2.2.2.2 k e).2 y;(have:=H3.out.2.1.lt e;omega)⟩,hste⟩)
    obtain⟨ha,hhb⟩:∃ hb,hb=(AL.get R.2.asks s).isSome:=⟨_,rfl⟩;rw[← hhb] at hlook;obtain⟨hbx,-⟩:=z0W H4.out.1;have c10:=(z0N hbx).2.2.2.2.2.2.2.2.2.2.1;have nlt:=z0I hbx;obtain⟨d0',d1',df',-⟩:=z1T hBe4;have HB:=hid hhb;clear hdo hr4 ho4 hS4 hk4 hF4 hste hBe4 hv4 hhb hbx d0 d1 df hsz3 hsw;go_wp2_with (at_builtin;refine z0T ?_;intro q hq);have hkd:Keep (fun _=>False) w4 w4.drew:=(Keep.refl _ _).drew;refine z0E [] (by kernel_rfl) (by kernel_rfl) ?_
    repeat (first | (apply z0B (by rfl);(intro K w';go_simp;exact id)) | (apply z0K (by rfl);(intro K;go_simp;exact id)))
    (apply z4O (by rfl);(intro K w' hp;have hlk:=hlook w' ((Pre.refl _).drew.trans hp);go_simp;exact id))
    repeat (first | (apply z0B (by rfl);(intro K w';go_simp;exact id)) | (apply z0K (by rfl);(intro K;go_simp;exact id)))
    (refine z4S (by rfl) (by rfl) (fun K hK=>?_);go_simp;refine hK _ _ (Pre.push _ rfl) ?_;clear hK K)
    (refine z0F (by rfl) (by rfl) (fun K hK=>?_);go_simp;refine hK _ _ ?_;clear hK K)
    repeat (apply z0B (by rfl);(intro K w';go_simp;exact id))
    refine z0Q ?_;have hn5:=heap_alloc_new w4 (.cells #[.string st] 113);have hk5:Keep (fun _=>False) w4 (w4.alloc (.cells #[.string st] 113)).drew:=((Keep.refl _ _).alloc _).drew;obtain⟨w5,hw5⟩:=zX1 ((w4.alloc (.cells #[.string st] 113)).drew);have hn5:w5.heap[w4.heap.size]?=some (.cells #[.string st] 113 (0,0)):=by rw[hw5];exact hn5
    rw[← hw5] at hk5 ⊢;clear hw5;have hS5:=(Star.lives _).keep H4.out.1 hk5 (fun _ _ z=>z);have hBe5:=hk5.get H4.out.2.2.2.2.2.1 id;have hv5:=H4.out.2.2.2.2.2.2.2.1.keep hk5 (fun _ _ z=>z);have hkw5:=H4.out.2.2.2.2.1.next hk5 (H:=F) (fun _ _ z=>z) (fun _ _ z=>z.elim);obtain⟨s0,sf⟩:w5.cell? ⟨w4.heap.size,0,none⟩=some (.string st)∧∀ o,w5.frozen? ⟨w4.heap.size,o,none⟩=false:=by constructor <;> simp[World.cell?,World.frozen?,hn5]
    obtain⟨e0,e1,ef,-⟩:=z1T hBe5;have hsay:sayM m2 (s,val) = { R.2 with said:=R.2.said ++ repM m2 (s,val) }:=by rw[z3Y,H3.out.2.2.2.2.1];rfl
    have hm2:=H3.out.2.2.2.2.2.1
    have hquiet:repM m2 (s,val) = []→∃ mr' sv' F',Hid (ApIn w q n d me m x F L mr' sv' F' w5∧L - mr'.log.ap<L - mr.log.ap):=fun hq=>by
     have e9:sayM m2 (s,val)=R.2:=by rw[hsay,hq,List.append_nil]
     obtain⟨p1,p2,p3⟩:=HR.out.next H1.out.2.2.2.2.2.symm H1.out.2.2.2.1 (sv':=sv) (F5:=F4) (w':=w5) (by rw[← hm2,e9];exact hS5) hkw5 H4.out.2.2.2.1;exact⟨_,sv,F4,hid ⟨p1,by rw[p3];omega⟩⟩
    have HQ:=hid hquiet;have H5:=hid (zA1 hS5 (zA1 hBe5 (zA1 hv5 (zA1 hkw5 (zA1 hk5 (zA1 hsay hm2))))));clear hquiet hS5 hBe5 hkw5 hk5 hsay hm2 hkd hlook c10 nlt d0' d1' df' hn5;obtain⟨ib,hib⟩:=zX1 (R.1.isSome);rw[← hib];have HIb:=hid hib;clear hib
    cases ib with
    | false=>
      obtain⟨mr',sv',F',HZ⟩:=HQ.out (by
       unfold repM
       have h1:(do2 (m2.data,m2.tab) val).1=none:=by
        have h2:=HIb.out;rw[H3.out.2.2.2.2.1] at h2;unfold doM at h2
        cases hq:(do2 (m2.data,m2.tab) val).1 with
        | none=>rfl
        | some z=>rw[hq] at h2;cases h2
       rw[h1])
      clear hv5;go_wp2_with (at_builtin;refine z0T ?_;intro q hq);go_roundw
      case rel=>exact⟨mr',sv',F',hid HZ.out.1⟩
      case measure=>
       rw[zbJ HR.out.star HR.out.up (x:={ x with sv:=sv }) H0.out.2.1,zbJ HZ.out.1.star HZ.out.1.up (x:={ x with sv:=sv' }) H0.out.2.1];simpa [intOf] using HZ.out.2
    | true=>
      obtain⟨out,hout⟩:∃ out,R.1=some out:=by
       have h:=HIb.out
       cases hq:R.1 with
       | none=>rw[hq] at h;cases h
       | some z=>exact⟨z,rfl⟩
      have hd1:(do2 (m2.data,m2.tab) val).1=some out:=by
       have h:=H3.out.2.2.2.2.1;rw[← hout,h];rfl
      have has2:m2.asks=R.2.asks:=by rw[H3.out.2.2.2.2.1];rfl
      obtain⟨a,hda⟩:∃ a,decK val=some a:=by
       cases hq:decK val with
       | some z=>exact⟨z,rfl⟩
       | none=>
         unfold do2 at hd1;rw[hq] at hd1;cases hd1
      cases ha with
      | false=>
        obtain⟨mr',sv',F',HZ⟩:=HQ.out (by
         unfold repM
         have h1:AL.get m2.asks s=none:=by
          rw[has2];have h:=HB.out
          cases hq:AL.get R.2.asks s with
          | none=>rfl
          | some z=>rw[hq] at h;cases h
         simp only
         rw[hd1,h1])
        clear hv5 hout hd1 has2 hda;go_wp2_with (at_builtin;refine z0T ?_;intro q hq);go_roundw
        case rel=>exact⟨mr',sv',F',hid HZ.out.1⟩
        case measure=>
         rw[zbJ HR.out.star HR.out.up (x:={ x with sv:=sv }) H0.out.2.1,zbJ HZ.out.1.star HZ.out.1.up (x:={ x with sv:=sv' }) H0.out.2.1];simpa [intOf] using HZ.out.2
      | true=>
        obtain⟨b,hb⟩:∃ b,AL.get R.2.asks s=some b:=by
         have h:=HB.out
         cases hq:AL.get R.2.asks s with
         | some z=>exact⟨z,rfl⟩
         | none=>rw[hq] at h;cases h
        have hstb:=H4.out.2.2.2.2.2.2.2.2.2 b hb;have hcv:=z5U (P:=Tryz.prog) Tryz.underlying39 Tryz.underlying5 Tryz.underlying9 (c:=c) (Cells.of_row hv5)
        by_cases hbv:b=val
        ·have hq:(st.toList == (str val).toList)=true:=by rw[hstb,hbv,z1Y];simp
         have hrep:repM m2 (s,val) = [⟨a.id,a.num,s,out⟩]:=by
          unfold repM;simp only;rw[hd1,has2,hb,hda];simp only;rw[if_pos hbv]
         have hdc:=zcH w5 ao vl c val (Cells.of_row hv5) (by omega);rw[hda] at hdc;have H6:=hid (zA1 hout (zA1 hrep hda));clear hout hd1 has2 hda hb hstb hbv hrep hv5;go_wp2_with fail;refine hdc.mono ?_;rintro e w6 ⟨u6,rfl,hr6,ho6,hk6⟩;obtain⟨xo,xc,hf6,-⟩:=hr6.form;subst hf6;simp only[Option.getD_some,Option.isSome_some] at hr6 ⊢;obtain⟨al,hal⟩:=zX1 (a.data.length);rw[← hal] at hr6 ⊢;have hn7:=heap_alloc_new w6 (.cells (askC a (.slice xo al xc)) 41);have hk7:=kal w6 (.cells (askC a (.slice xo al xc)) 41);have HK6:=hid hk6;clear hdc hr6 ho6 hk6 hcv hal
         go_upto_region 6 with fail
         obtain⟨w7,hw7⟩:=zX1 (w6.alloc (.cells (askC a (.slice xo al xc)) 41));rw[← hw7] at hn7 hk7 ⊢;clear hw7 s0 sf e0 e1 ef;have hk57:=HK6.out.next hk7 (H:=fun _=>False) (fun _ _ z=>z) (fun _ _ z=>z);have hS7:=(Star.lives _).keep H5.out.1 hk57 (fun _ _ z=>z);obtain⟨us,X7,hRc,hXF7,hcl7⟩:=zpM hS7;obtain⟨so,sc,hsf,hsl,hsm,-⟩:=hRc.row.form;dsimp only at hRc hsf hcl7;obtain⟨hbx,hnF⟩:=z0W hS7;have c14:=(z0N hbx).2.2.2.2.2.2.2.2.2.2.2.2.2.2.1;have hnf:=(z0N hbx).2.2.2.2.2.2.2.2.2.2.2.2.2.2.2.1;have nlt:=z0I hbx;dsimp only at c14;subst hsf;obtain⟨sl,hslq⟩:=zX1 (R.2.said.length);rw[← hslq] at c14;obtain⟨a0,a1,a2,a3,a4,af,ab⟩:=z0J hn7;obtain⟨e0,e1,ef,-⟩:=z1T (hk57.get H5.out.2.1 id);obtain⟨vo,vc,hvf4,-⟩:=H4.out.2.1.form;subst hvf4;obtain⟨rl,hrl⟩:=zX1 ((R.1.getD []).length);rw[← hrl];have hn8:=heap_alloc_new w7 (.cells #[.int .u64 (a.id:Int),.int .u64 (a.num:Int),.int .u64 (s:Int),.slice vo rl vc] 48);have hk8:Keep (fun _=>False) w7 (w7.alloc (.cells #[.int .u64 (a.id:Int),.int .u64 (a.num:Int),.int .u64 (s:Int),.slice vo rl vc] 48)).drew:=((Keep.refl _ _).alloc _).drew;have H7:=hid (zA1 hk57 (zA1 hRc (zA1 hXF7 (zA1 hcl7 (zA1 hbx (zA1 hslq (zA1 hrl hsl)))))));clear hk57 hS7 hRc hXF7 hcl7 hbx hslq hrl hnF hn7 hk7 hsl hsm;go_wp2_with fail;refine z0E [] (by kernel_rfl) (by kernel_rfl) ?_
         repeat (first | (apply z0B (by rfl);(intro K w';go_simp;exact id)) | (apply z0K (by rfl);(intro K;go_simp;exact id)))
         (refine z4S (by rfl) (by rfl) (fun K hK=>?_);go_simp;refine hK _ _ (Pre.push _ rfl) ?_;clear hK K)
         obtain⟨w8,hw8⟩:=zX1 ((w7.alloc (.cells #[.int .u64 (a.id:Int),.int .u64 (a.num:Int),.int .u64 (s:Int),.slice vo rl vc] 48)).drew);have hn8:w8.heap[w7.heap.size]?=some (.cells #[.int .u64 (a.id:Int),.int .u64 (a.num:Int),.int .u64 (s:Int),.slice vo rl vc] 48 (0,0)):=by rw[hw8];exact hn8
         rw[← hw8] at hk8 ⊢;clear hw8 c14 hnf nlt a0 a1 a2 a3 a4 af ab e0 e1 ef;obtain⟨hk57,hRc,hXF7,hcl7,hbx,hslq,hrl,hsl⟩:=H7.out;have hR8:=hRc.keep hk8 (fun _ _ z=>z);have hr8:=hR8.row;rw[← hslq] at hr8
         have hsl2000:sl≤2000:=by
          have h1:=HR.out.few;have h2:=HR.out.far;have h3:R.2.said=mr.said:=by rw[H3.out.2.2.2.2.1,H3.out.2.2.2.2.2.1];rfl
          rw[hslq,h3];omega
         refine z0F (by rfl) (by rfl) (fun K hK=>?_)
         refine z1F zlJ _ _ rfl rfl hr8 (some ⟨w7.heap.size,0,none⟩) 1 1 (z6H.val ⟨a.id,a.num,s,out⟩ (.slice vo rl vc)) rfl
          ⟨rfl,fun _=>⟨_,rfl,fun t u hu=>by rw[z0O,Nat.zero_add,cell_of_row _ _ _ _ _ _ hn8];simpa [z6H] using hu⟩⟩ (fun u hu=>by simp[z6H] at hu;rcases hu with rfl | rfl | rfl | rfl <;> rfl) (by unfold maxLen;omega) (by omega) ?_
         intro v9 w9 hr9 hk9 hv9;have hk9:Keep (fun k=>(Value.slice so sl sc).ownBlock=some k) w8 w9:=hk9;obtain⟨b9,c9,hf9,-⟩:=hr9.form;subst hf9;refine hK _ _ ?_;clear hK K;have k59:=hk57.next hk8 (H:=fun _=>False) (fun _ _ z=>z) (fun _ _ z=>z);have hsoX:∀ k,(Value.slice so sl sc).ownBlock=some k→X7 k:=fun k e=>hRc.own k (by rw[z1E _ _ sl];exact e);have hb9:=hk9.get (hk8.get hbx id) (fun e=>hr8.not_block (hk8.get hbx id) (by decide) e)
         have hT:∃ F',Star (memL q n d me { R.2 with said:=R.2.said ++ [⟨a.id,a.num,s,out⟩] } { x with sv:=.slice b9 (sl+1) c9 }) (w9.setCell ⟨n,14,none⟩ (.slice b9 (sl+1) c9)) F'∧Keep F w (w9.setCell ⟨n,14,none⟩ (.slice b9 (sl+1) c9))∧∀ i,F' i→F i∨w.heap.size≤i:=by
          have hrl2:rl=out.length:=by rw[hrl,H6.out.1];rfl
          have hv8:Row w8 5 1 (.slice vo rl vc) out.length (z0C out):=by
           have h:=(((H4.out.2.1).keep H5.out.2.2.2.2.1 (fun _ _ z=>z)).keep k59 (fun _ _ z=>z));rw[hrl2];rw[H6.out.1] at h;exact h
          have hvo:∀ k,(Value.slice vo rl vc).ownBlock=some k→w.heap.size≤k∧¬ F4 k:=fun k e=>H4.out.2.2.1 k (by rw[z1E _ _ rl];exact e);have hX4:∀ k,X7 k→F4 k:=hXF7
          have h9o:∀ k,(Value.slice b9 (sl+1) c9).ownBlock=some k→X7 k∨w8.heap.size≤k:=fun k e=>by
           rcases hv9 with ⟨_,h0⟩ | ⟨k',h1,h2⟩
           ·omega
           ·rw[e] at h1
            cases h1
            rcases h2 with h2 | h2
            ·exact .inl (hsoX k h2)
            ·right;omega
          have hP:=hR8.push (w':=w9) (v':=.slice b9 (sl+1) c9) (u:=.slice vo rl vc) (x:=(⟨a.id,a.num,s,out⟩:Sd)) (F':=fun k=>X7 k∨(Value.slice vo rl vc).ownBlock=some k∨(Value.slice b9 (sl+1) c9).ownBlock=some k) hv8
           (fun k e=>⟨.inr (.inl e),fun z=>(hvo k e).2 (hX4 k (hRc.own k z))⟩) (by rw[← hslq];exact hr9) (hk9.mono fun k _ e=>by rw[z1E _ _ sl];exact e) (fun k z=>.inl z) (fun k e=>⟨.inr (.inr e),by
            rcases hv9 with ⟨_,h0⟩ | ⟨k',h1,h2⟩
            ·omega
            ·rw[e] at h1
             cases h1
             rcases h2 with h2 | h2
             ·left;rw[z1E _ _ sl];exact h2
             ·right;omega⟩)
          have s78:=hk8.size;have s89:=hk9.size
          obtain⟨F6,p1,p2,p3⟩:=hcl7 w9 (.slice b9 (sl+1) c9) (R.2.said ++ [⟨a.id,a.num,s,out⟩]) _ ⟨⟨_,hP⟩,fun k z=>by
            rcases z with z | z | z
            ·have:=(Star.lives _).lt H5.out.1 k (hX4 k z);have:=hk57.size;omega
            ·have:=hv8.lt z;omega
            ·exact hr9.lt z⟩ (hk8.next hk9 (H:=X7) (fun _ _ z=>z.elim) (fun k _ z=>hsoX k z)) (fun k z=>by
            rcases z with z | z | z
            ·exact .inl z
            ·exact .inr (hvo k z).2
            ·rcases h9o k z with y | y
             ·exact .inl y
             ·right;intro y2;have:=(Star.lives _).lt H4.out.1 k y2;have:=H5.out.2.2.2.2.1.size;have:=hk57.size;omega)
          have s57:=hk57.size;have s5:=H5.out.2.2.2.1.size;refine⟨F6,p1,(H5.out.2.2.2.1.next hk57 (H:=F) (fun _ _ z=>z) (fun _ _ z=>z.elim)).next p2 (fun _ _ z=>z) (fun k hk z=>by rcases H4.out.2.2.2.1 k z with y | y;exact y;omega),fun k z=>?_⟩
          rcases p3 k z with y | y | y | y
          ·exact H4.out.2.2.2.1 k y
          ·exact H4.out.2.2.2.1 k (hX4 k y)
          ·exact .inr (hvo k y).1
          ·rcases h9o k y with y | y
           ·exact H4.out.2.2.2.1 k (hX4 k y)
           ·right;omega
         obtain⟨F',pS,pk,pn⟩:=hT
         have hsay:sayM { mr with log:=g' } (s,val) = { R.2 with said:=R.2.said ++ [⟨a.id,a.num,s,out⟩] }:=by
          rw[← H5.out.2.2.2.2.2.2,H5.out.2.2.2.2.2.1,H6.out.2.1]
         have hnx:=HR.out.next H1.out.2.2.2.2.2.symm H1.out.2.2.2.1 (sv':=.slice b9 (sl+1) c9) (by rw[hsay];exact pS) pk pn;have HZ:=hid hnx;obtain⟨-,-,-,-,-,-,-,-,-,-,-,-,-,-,k14,kf,kn⟩:=z0N hb9;clear hk57 hRc hXF7 hcl7 hbx hslq hrl hsl hR8 hr8 hr9 hk9 hv9 k59 hsoX hb9 pS pk pn hsay hnx hk8 hn8
         repeat (apply z0B (by rfl);(intro K w';go_simp;exact id))
         (refine z0F (by rfl) (by rfl) (fun K hK=>?_);go_simp;refine hK _ _ ?_;clear hK K)
         refine z0Q ?_;go_wp2_with (at_builtin;refine z0T ?_;intro q hq);go_roundw
         case rel=>exact⟨_,_,F',hid HZ.out.1⟩
         case measure=>
          rw[zbJ HR.out.star HR.out.up H0.out.2.1,zbJ HZ.out.1.star HZ.out.1.up (x:={ x with sv:=.slice b9 (sl+1) c9 }) H0.out.2.1];have h1:=HZ.out.2.1;have h2:=HZ.out.2.2;simp only[intOf,Int.toNat_natCast];omega
        ·have hq:(st.toList == (str val).toList)=false:=by rw[hstb,z1Y,z1Y];simpa using hbv
         obtain⟨mr',sv',F',HZ⟩:=HQ.out (by
          unfold repM;simp only;rw[hd1,has2,hb,hda];simp only
          rw[if_neg hbv])
         clear hv5 hout hd1 has2 hda hb hstb hbv;go_wp2_with fail;go_roundw
         case rel=>exact⟨mr',sv',F',hid HZ.out.1⟩
         case measure=>
          rw[zbJ HR.out.star HR.out.up H0.out.2.1,zbJ HZ.out.1.star HZ.out.1.up (x:={ x with sv:=sv' }) H0.out.2.1];simpa [intOf] using HZ.out.2
end
section
open Go.RowKit Go.Maps
open MI SO BM DM WM AC GR
theorem z8Q {G:Gr} {k:Nat} (hk:k<G.ms.length):getG G k=G.ms[k]:=by
 unfold getG;rw[List.getD_eq_getElem?_getD,List.getElem?_eq_getElem hk];rfl
theorem z1J {g:Nat} {ns:List (Nat×Nat)} {G:Gr} {x:Value×Value×Value} {w:World} {F:Nat->Prop} (h:Star (grL g ns G x) w F) (hlen:ns.length=G.ms.length) (k:Nat) (hk:k<G.ms.length) (h1:k<ns.length) :
  ∃ X y,Star (memL G.q ns[k].1 ns[k].2 k (getG G k) y) w X/\(∀ i,X i->F i)/\∀ w' m' y',Turns (Star (memL G.q ns[k].1 ns[k].2 k m' y')) X w w'->Turns (Star (grL g ns (setG G k m') x)) F w w':=by
 obtain⟨_,X,⟨y,hS⟩,hX,t⟩:=zxC h hlen k hk;rw[<-z8Q hk] at hS;exact⟨X,y,hS,hX,λw' m' y' ht=>t w' m' (ht.map λ_ z=>⟨y',z⟩)⟩
theorem zaC {G:Gr} {k:Nat} (hk:k<G.ms.length):setG G k (getG G k)=G:=by
 unfold setG;rw[z8Q hk];cases G;simp
theorem zmZ (g:RM.Lg) (s:Nat) (v:List UInt8):(RM.learn g s v).2.ap=g.ap:=by
 unfold RM.learn
 repeat (first | rfl | split)
theorem Turns.join {T:Thing} {F F1:Nat->Prop} {w w1 w2:World} (hk:Keep F w w1) (hn:∀ i,F1 i->F i∨w.heap.size<=i) (t:Turns T F1 w1 w2):Turns T F w w2:=by
 obtain⟨F2,a,b,c⟩:=t;have s1:=hk.size;refine⟨F2,a,hk.next b zI (λk hk z=>by rcases hn k z with y | y;exact y;omega),λk z=>?_⟩;rcases c k z with y | y;{exact hn k y};{right;omega}
theorem zdK (w:World) (g:Nat) (ns:List (Nat×Nat)) (G:Gr) (x:Value×Value×Value) (F:Nat->Prop) (h:Star (grL g ns G x) w F) (hlen:ns.length=G.ms.length) (k:Nat) (hk:k<G.ms.length) (h1:k<ns.length) (hms:G.ms.length<=100) (hQ:QOk G.q) (hl:G.l.length<=200)
  (p:Pr) (hup:(getG G k).up=true) (hp:(getG G k).p=some p) (s:Nat) (hs:s<18446744073709551615) (hss:∀ e ∈ p.slots,e.2.2<4294967296/\e.2.1.val.length<=1000)
  (hT:TabOk (getG G k).log.ap ((getG G k).data,(getG G k).tab)) (hB:TabB (getG G k).tab) (hL:∀ v,(RM.learn (getG G k).log s v).1=0->(getG G k).log.ap+z2C (RM.learn (getG G k).log s v).2<=62) (hsd:(getG G k).said.length<=1000) :
  Calls Tryz.prog 79 #[.pointer (some ⟨g,0,none⟩),.pointer (some ⟨ns[k].1,0,none⟩),.int .u64 (s:Int)] w (SendPost g ns (z1N G k p s) x F w):=by
 obtain⟨Post,hPost⟩:=zX1 (SendPost g ns (z1N G k p s) x F w);rw[<-hPost];have HP:=hid hPost;clear hPost;obtain⟨X,y,hM,hXF,hcl⟩:=z1J h hlen k hk h1;obtain⟨nb,hnb⟩:=zX1 (ns[k].1);obtain⟨a,Xp,hpv,hPr,-⟩:=z3R hM hp;have hch:=zkN w G.q hQ p a Xp hPr s (by omega) hss;obtain⟨hbx,-⟩:=z0W hM;rw[<-hnb] at hbx |-;obtain⟨c0,c1,c2,c3,c4,c5,c6,c7,c8,c9,c10,c11,c12,c13,c14,cf,cb⟩:=z0N hbx;rw[hpv] at c5;obtain⟨o,ho⟩:=zX1 (z3A G.q p s);rw[<-ho] at hch;have H0:=hid (zA1 h (zA1 hlen (zA1 hk (zA1 hms (zA1 hQ (zA1 hl (zA1 hup (zA1 hp (zA1 hT (zA1 hB (zA1 hL (zA1 hsd (zA1 ho hnb)))))))))))))
 have HV0:=hid (show ∀ v,z3A G.q p s=some v->v.length<=1000 from λv hv=>by
  unfold z3A at hv;cases hg:AL.get p.slots s with
  | none=>rw[hg] at hv;cases hv
  | some z=>
    rw[hg] at hv;simp only at hv;split at hv;{cases hv;exact(hss _ (AL.get_mem hg)).2}
    ·cases hv)
 have HM:=hid (zA1 hM (zA1 hXF (zA1 hcl hbx)));clear h hlen hk hms hQ hl hup hp hT hB hL hsd ho hnb hM hXF hcl hbx hpv hPr hss c0 c1 c2 c3 c4 c6 c7 c8 c9 c10 c11 c12 c13 c14;go_enter Tryz.func79,Tryz.ntmps79;go_wp2_with fail;refine hch.mono ?_;rintro e w2 hc2;cases o with
 | none=>
   obtain⟨rfl,hk2⟩:=hc2;have HK:=hid hk2;have he:z1N G k p s=G:=by{unfold z1N;simp only;rw[<-H0.out.2.2.2.2.2.2.2.2.2.2.2.2.1]};have HE:=hid he;clear hch hk2 he;go_wp2_with fail
   go_end0
   rw[HP.out,HE.out];exact⟨rfl,_,Turns.later (Star.lives _) H0.out.1 HK.out⟩
 | some v=>
   obtain⟨ao,c,rfl,hf2⟩:=hc2;obtain⟨vl,hvl⟩:=zX1 (v.length);rw[<-hvl] at hf2 |-;have hM2:=(Star.lives _).keep HM.out.1 hf2.keep zI;obtain⟨lb,XL,hlv,hRl,hXL,hcL⟩:=z5L hM2 H0.out.2.2.2.2.2.2.1;have hbx2:=hf2.keep.get HM.out.2.2.2 id;obtain⟨-,-,-,-,-,-,d6,d7,-,-,-,d11,-,-,-,df,db⟩:=z0N hbx2;rw[hlv] at d11;obtain⟨gl,hgl⟩:=zX1 ((getG G k).log);rw[<-hgl] at hRl;have hapc:=zdW w2 lb XL gl hRl;have HV:=hid hvl
   have hce:z1N G k p s=(if s<=gl.ap∨RM.z3X gl s 1≠[] then G else if (RM.learn gl s v).1≠0 then setG G k { getG G k with log:=(RM.learn gl s v).2 }
     else setG (z1G (setG G k { getG G k with log:=(RM.learn gl s v).2 }) k ⟨5,0,0,(getG G k).b,[⟨s,Bal.zero,v⟩]⟩) k (z2T (getG (z1G (setG G k { getG G k with log:=(RM.learn gl s v).2 }) k ⟨5,0,0,(getG G k).b,[⟨s,Bal.zero,v⟩]⟩) k))):=by
    unfold z1N;simp only;rw[<-H0.out.2.2.2.2.2.2.2.2.2.2.2.2.1,hgl]
   have H2:=hid (zA1 hf2 (zA1 hM2 (zA1 hRl (zA1 hcL (zA1 hgl (zA1 hce (zA1 hbx2 (zA1 hlv hXL))))))));clear hch hf2 hM2 hlv hRl hXL hcL hgl hce hbx2 hvl c5 cf cb;go_wp2_with fail;refine hapc.mono ?_;rintro e w3 ⟨rfl,hk3⟩;have hRl3:=H2.out.2.2.1.keep hk3 zI;have hcac:=zjH w3 lb XL gl s 1 hRl3 (by decide) (by decide) (by omega);have hbx3:=hk3.get H2.out.2.2.2.2.2.2.1 id;obtain⟨ap,hap⟩:=zX1 (gl.ap);rw[<-hap];have HAp:=hid hap;by_cases hsa:s<=ap;{have HE:=hid (show z1N G k p s=G by rw[H2.out.2.2.2.2.2.1,if_pos (.inl (by rw[<-HAp.out];exact hsa))]);have HK:=hid (H2.out.1.keep.next hk3 (H:=λ_=>False) zI zI);clear hapc hk3 hRl3 hcac hbx3 hap d6 d7 d11 df db;go_wp2_with fail;(go_end0);rw[HP.out,HE.out];exact⟨rfl,_,Turns.later (Star.lives _) H0.out.1 HK.out⟩}
   ·have H3:=hid (zA1 hk3 (zA1 hRl3 hbx3))
    obtain⟨-,-,-,-,-,-,d6,d7,-,-,-,d11,-,-,-,df,db⟩:=z0N hbx3;rw[H2.out.2.2.2.2.2.2.2.1] at d11;clear hapc hk3 hRl3 hbx3 hap;go_wp2_with fail;refine hcac.mono ?_;rintro e w4 ⟨cv,cus,rfl,hEn,hk4⟩;obtain⟨cvo,cvc,hcf,-⟩:=hEn.row.form;subst hcf;obtain⟨cl,hcl2⟩:=zX1 ((RM.z3X gl s 1).length);rw[<-hcl2];have hbx4:=hk4.get H3.out.2.2 id;have hk24:=H3.out.1.next hk4 (H:=λ_=>False) zI zI;by_cases hc0:cl=0
    ·have q1:decide ((0:Int)<(cl:Int))=false:=decide_eq_false (by omega)
     have q1':¬ 0<cl:=by{omega};have hce0:RM.z3X gl s 1 = []:=List.length_eq_zero_iff.1 (by omega);have k04:=H2.out.1.keep.next hk24 (H:=λ_=>False) zI zI;obtain⟨X4,y4,hM4,hXF4,hcl4⟩:=z1J (z1Q H0.out.1 k04) H0.out.2.1 k H0.out.2.2.1 h1;obtain⟨lb4,XL4,hlv4,hRl4,hXL4,hcL4⟩:=z5L hM4 H0.out.2.2.2.2.2.2.1;rw[<-H2.out.2.2.2.2.1] at hRl4;obtain⟨hbx4,-⟩:=z0W hM4;rw[<-H0.out.2.2.2.2.2.2.2.2.2.2.2.2.2] at hbx4;have hvr:=H2.out.1.row.keep hk24 zI;rw[<-HV.out] at hvr;have hvc:=Cells.of_row hvr;have hvm:vl<=maxLen:=by{obtain⟨_,_,e1,h2,h3,-⟩:=hvr.form;omega};have hler:=zdF w4 lb4 XL4 gl s ao vl c v hRl4 hvc (by omega) (by unfold maxLen at hvm;omega);obtain⟨Q,hQ'⟩:=zX1 (RM.learn gl s v);rw[<-hQ'] at hler;obtain⟨-,-,-,-,-,-,d6,d7,-,-,-,d11,-,-,-,df,db⟩:=z0N hbx4;rw[hlv4] at d11;have H4:=hid (zA1 hk24 (zA1 hce0 (zA1 hQ' (zA1 k04 (zA1 hcl4 (zA1 hcL4 (zA1 hXF4 hXL4)))))));have HC0:=hid hc0;clear hcac hEn hk4 hbx4 hk24 hce0 hRl4 hvc hQ' hcl2 hvr hvm k04 hM4 hXF4 hcl4 hlv4 hXL4 hcL4;subst hc0;go_wp2_with fail;refine hler.mono ?_;rintro e w5 ⟨rfl,hto⟩;have hTm:Turns (Star (grL g ns (setG G k { getG G k with log:=Q.2 }) x)) F w4 w5:=H4.out.2.2.2.2.1 w5 _ y4 (H4.out.2.2.2.2.2.1 w5 Q.2 hto);have hk45:Keep F w4 w5:=by{obtain⟨_,_,h,_⟩:=hTm;exact h};have hvr5:Row w5 5 1 (.slice ao vl c) vl (z0C v)/\∀ k,(Value.slice ao vl c).ownBlock=some k->w.heap.size<=k/\k<w4.heap.size:=by{have hvr:=H2.out.1.row.keep H4.out.1 zI;rw[<-HV.out] at hvr;obtain⟨_,_,h,_⟩:=hto;have hs5:=h.size;have hFl:=(Star.lives _).lt H0.out.1;refine⟨hvr.keep h (λk e z=>?_),λk e=>⟨H2.out.1.own k (by rw[z1E _ _ vl];exact e),hvr.lt e⟩⟩;have h1:=H2.out.1.own k (by rw[z1E _ _ vl];exact e);have h3:=hFl k (H4.out.2.2.2.2.2.2.1 k (H4.out.2.2.2.2.2.2.2 k z));omega};obtain⟨qc,hqc⟩:=zX1 (Q.1);rw[<-hqc];by_cases hq0:qc=0;{have q3:((qc:Int) != 0)=false:=by{simp;omega};have HE:=hid (show z1N G k p s=setG (z1G (setG G k { getG G k with log:=Q.2 }) k ⟨5,0,0,(getG G k).b,[⟨s,Bal.zero,v⟩]⟩) k (z2T (getG (z1G (setG G k { getG G k with log:=Q.2 }) k ⟨5,0,0,(getG G k).b,[⟨s,Bal.zero,v⟩]⟩) k)) by{rw[H2.out.2.2.2.2.2.1,if_neg (by rintro(z | z);exact hsa (by rw[HAp.out];exact z);exact z H4.out.2.1),<-H4.out.2.2.1,if_neg (by rw[<-hqc];omega)]});obtain⟨F5,hS5,hkF5,hF5⟩:=hTm;have hk2:=H0.out.2.2.1;obtain⟨G5,hG5⟩:=zX1 (setG G k { getG G k with log:=Q.2 });rw[<-hG5] at hS5 HE;have hms5:G5.ms.length=G.ms.length:=by{rw[hG5];exact z0P};have hg5:getG G5 k = { getG G k with log:=Q.2 }:=by{rw[hG5];exact z1C hk2};have hl5:G5.l=G.l:=by{rw[hG5];rfl};obtain⟨X5,y5,hM5,-,-⟩:=z1J hS5 (by rw[hms5];exact H0.out.2.1) k (by rw[hms5];exact hk2) h1;obtain⟨hbx5,-⟩:=z0W hM5;rw[<-H0.out.2.2.2.2.2.2.2.2.2.2.2.2.2,hg5] at hbx5;obtain⟨-,-,-,-,-,-,e6,e7,-,-,-,-,-,-,-,ef,eb⟩:=z0N hbx5;have hn6:=heap_alloc_new w5 (.cells #[.int .u64 (s:Int),.int .u64 0,.int .i64 0,.slice ao vl c] 109);have hk6:=kal w5 (.cells #[.int .u64 (s:Int),.int .u64 0,.int .i64 0,.slice ao vl c] 109);obtain⟨w6,hw6⟩:=zX1 (w5.alloc (.cells #[.int .u64 (s:Int),.int .u64 0,.int .i64 0,.slice ao vl c] 109));rw[<-hw6] at hn6 hk6;have hFl:=(Star.lives _).lt H0.out.1;have s04:=H4.out.2.2.2.1.size;have s45:=hk45.size;have hvF5:∀ k,(Value.slice ao vl c).ownBlock=some k->¬ F5 k:=λk e z=>by{obtain⟨e1,e2⟩:=hvr5.2 k e;rcases hF5 k z with y | y;{have:=hFl k y;omega};{omega}};have hS6:=z1Q hS5 hk6;have hvc6:∀ w',Keep F5 w6 w'->VotesC w' (some ⟨w5.heap.size,0,none⟩) [⟨s,Bal.zero,v⟩]:=λw' hk' i hi=>by{have hi0:i=0:=by{simp at hi;omega};subst hi0;have hn':=hk'.get hn6 (λz=>by have:=(Star.lives _).lt hS5 _ z;omega);have hr':=(hvr5.1.keep hk6 zI).keep hk' (λk e z=>hvF5 k e z);obtain⟨_,_,ee,g2,g3,-⟩:=hr'.form;cases ee;refine⟨⟨w5.heap.size,0,none⟩,ao,c,rfl,λj u hu=>?_,by simp only[List.getElem_cons_zero];rw[<-HV.out];exact g2,g3,by simp only[List.getElem_cons_zero];rw[<-HV.out];exact Cells.of_row hr'⟩;simp only[Nat.zero_mul,z0O,Nat.zero_add];rw[cell_of_row _ _ _ _ _ _ hn'];simp only[List.getElem_cons_zero,z3B] at hu;rw[<-HV.out] at hu;simpa [Bal.zero] using hu};have hoth:=z9J w6 g ns G5 x F5 hS6 (by rw[hms5];exact H0.out.2.1) k (by rw[hms5];exact hk2) h1 (by rw[hms5];exact H0.out.2.2.2.1) ⟨5,0,0,(getG G k).b,[⟨s,Bal.zero,v⟩]⟩ (some ⟨w5.heap.size,0,none⟩) 1 1 hvc6 rfl (by decide) (λu hu=>by{rw[List.mem_singleton] at hu;subst hu;exact HV0.out v H0.out.2.2.2.2.2.2.2.2.2.2.2.2.1.symm}) (by rw[hl5];exact H0.out.2.2.2.2.2.1);rw[<-H0.out.2.2.2.2.2.2.2.2.2.2.2.2.2] at hoth;have H5:=hid (zA1 hS5 (zA1 hkF5 (zA1 hF5 (zA1 hG5 (zA1 hms5 (zA1 hg5 (zA1 hk6 hFl)))))));clear hler hto hS5 hkF5 hF5 hG5 hms5 hg5 hl5 hM5 hbx5 hn6 hvF5 hS6 hvc6 hk45 hvr5 d6 d7 d11 df db hk6 hFl;(go_upto_region 3 with (go_at_call 46;rw[<-hw6];refine hoth.mono ?_;rintro e w7 ⟨rfl,v7,ht7⟩));have hk2:=H0.out.2.2.1;obtain⟨hS5,hkF5,hF5,hG5,hms5,hg5,hk6,hFl⟩:=H5.out;obtain⟨F7,hS7,hk67,hF7⟩:=ht7;obtain⟨G7,hG7⟩:=zX1 (z1G G5 k ⟨5,0,0,(getG G k).b,[⟨s,Bal.zero,v⟩]⟩);rw[<-hG7] at hS7 HE;have hms7:G7.ms.length=G.ms.length:=by{rw[hG7,z5F];exact hms5};have hg7:getG G7 k = { getG G k with log:=Q.2 }:=by{rw[hG7,z4H];exact hg5};obtain⟨X7,y7,hM7,hXF7,hcl7⟩:=z1J hS7 (by rw[hms7];exact H0.out.2.1) k (by rw[hms7];exact hk2) h1;rw[hg7] at hM7 HE;have hgl:=H2.out.2.2.2.2.1;have hQe:Q=RM.learn (getG G k).log s v:=by{rw[H4.out.2.2.1,hgl]};have hqap:Q.2.ap=(getG G k).log.ap:=by{rw[hQe];exact zmZ _ _ _};have happ:=zaT w7 G7.q ns[k].1 ns[k].2 k { getG G k with log:=Q.2 } y7 X7 hM7 H0.out.2.2.2.2.2.2.1 (by show TabOk Q.2.ap _;rw[hqap];exact H0.out.2.2.2.2.2.2.2.2.1) H0.out.2.2.2.2.2.2.2.2.2.1 (by show Q.2.ap+z2C Q.2<=62;rw[hqap,hQe];exact H0.out.2.2.2.2.2.2.2.2.2.2.1 v (by rw[<-hQe,<-hqc];exact hq0)) H0.out.2.2.2.2.2.2.2.2.2.2.2.1;rw[<-H0.out.2.2.2.2.2.2.2.2.2.2.2.2.2] at happ;have H7:=hid (zA1 hcl7 (zA1 hk67 (zA1 hF7 hkF5)));have H7b:=hid (zA1 hF5 hk6);clear hS5 hkF5 hF5 hG5 hms5 hg5 hk6 hFl hS7 hk67 hF7 hG7 hms7 hg7 hM7 hXF7 hcl7 hgl hQe hqap hoth e6 e7 ef eb hw6;go_wp2_with fail;refine happ.mono ?_;rintro e w8 ⟨rfl,sv8,ht8⟩;have HZ:=hid (show Turns (Star (grL g ns (setG G7 k (z2T { getG G k with log:=Q.2 })) (v7,x.2))) F w w8 from by{rw[H0.out.2.2.2.2.2.2.2.2.2.2.2.2.2] at ht8;have t8:=H7.out.1 w8 _ _ ht8;have t7:=Turns.join H7.out.2.1 H7.out.2.2.1 t8;exact Turns.ahead H4.out.2.2.2.1 (Turns.join H7.out.2.2.2 H7b.out.1 (Turns.ahead H7b.out.2 t7))});clear happ ht8;go_wp2_with fail;(go_end0);rw[HP.out,HE.out];exact⟨rfl,v7,HZ.out⟩};{have q3:((qc:Int) != 0)=true:=by{simp;omega};have HE:=hid (show z1N G k p s=setG G k { getG G k with log:=Q.2 } by rw[H2.out.2.2.2.2.2.1,if_neg (by rintro(z | z);exact hsa (by rw[HAp.out];exact z);exact z H4.out.2.1),<-H4.out.2.2.1,if_pos (by rw[<-hqc];exact hq0)]);have HZ:=hid hTm;clear hler hto hTm hk45 hvr5 d6 d7 d11 df db;go_wp2_with fail;(go_end0);rw[HP.out,HE.out];exact⟨rfl,_,Turns.ahead H4.out.2.2.2.1 HZ.out⟩}
    {have q1:decide ((0:Int)<(cl:Int))=true:=decide_eq_true (by omega);have q1':0<cl:=by{omega};have HE:=hid (show z1N G k p s=G by rw[H2.out.2.2.2.2.2.1,if_pos (.inr λz=>by rw[z] at hcl2;exact hc0 hcl2)]);have HK:=hid (H2.out.1.keep.next hk24 (H:=λ_=>False) zI zI);clear hcac hEn hk4 hbx4 hk24 hcl2;go_wp2_with fail;(go_end0);rw[HP.out,HE.out];exact⟨rfl,_,Turns.later (Star.lives _) H0.out.1 HK.out⟩}
end
section
open Go.RowKit Go.Maps
open MI SO BM DM WM AC GR
structure Out1 (w:World) (F:Nat→Prop) (v:Value) (n:Nat) (l:List UInt8):Prop where
 row:Row w 5 1 v n (z0C l)
 out:∀ k,v.ownBlock=some k→¬ F k
theorem Out1.turn {w w':World} {F F':Nat->Prop} {v:Value} {n:Nat} {l:List UInt8} (h:Out1 w F v n l) (hk:Keep F w w') (hn:∀ i,F' i->F i∨w.heap.size<=i):Out1 w' F' v n l:=
 ⟨h.row.keep hk λk e z=>h.out k e z,λk e z=>by rcases hn k z with y | y;exact h.out k e y;(have:=h.row.lt e;omega)⟩
theorem z0U {K:Nat->Prop} {w w':World} {k o:Nat} {x:Value} (hk:Keep K w w') (hn:¬ K k) (h:w.cell? ⟨k,o,none⟩=some x):w'.cell? ⟨k,o,none⟩=some x:=by
 cases hb:w.heap[k]? with | none=>{simp[World.cell?,hb] at h} | some ob=>{have h2:=hk.get hb hn;unfold World.cell? at *;rw[h2];rw[hb] at h;exact h}
theorem zcG (w:World) (b:Bal):(((w.alloc (.cells #[.int .u64 0,.int .i64 0] 32)).setCell ⟨w.heap.size,0,none⟩ (.int .u64 (b.n:Int))).setCell ⟨w.heap.size,1,none⟩ (.int .i64 b.node)).heap[w.heap.size]?=some (.cells (balC b) 32 (0,0))/\
  Keep (λk=>k=w.heap.size) w (((w.alloc (.cells #[.int .u64 0,.int .i64 0] 32)).setCell ⟨w.heap.size,0,none⟩ (.int .u64 (b.n:Int))).setCell ⟨w.heap.size,1,none⟩ (.int .i64 b.node)):=by
 have h1:=heap_alloc_new w (.cells #[.int .u64 0,.int .i64 0] 32);have k1:=kal w (.cells #[.int .u64 0,.int .i64 0] 32);have h2:=z0A (z0A h1 0 (.int .u64 (b.n:Int))) 1 (.int .i64 b.node);obtain⟨-,g2,-⟩:=z4R _ w.heap.size _ _ h1 (.int .u64 (b.n:Int)) (.int .i64 b.node);exact⟨h2,k1.next g2 zE zI⟩
def VS (p po k o0 o1 o2 o3:Nat) (ptr:Value) (v:Vt) (u:Value) (w:World):Prop:=
 w.cell? ⟨p,po,none⟩=some ptr∧w.cell? ⟨k,o0,none⟩=some (.int .u64 (v.slot:Int))∧w.cell? ⟨k,o1,none⟩=some (.int .u64 (v.bal.n:Int))∧w.cell? ⟨k,o2,none⟩=some (.int .i64 v.bal.node)∧w.cell? ⟨k,o3,none⟩=some u
theorem VS.keep {p po k o0 o1 o2 o3:Nat} {ptr:Value} {v:Vt} {u:Value} {K:Nat->Prop} {wa wb:World} (hk:Keep K wa wb) (h1:¬ K p) (h2:¬ K k) (h:VS p po k o0 o1 o2 o3 ptr v u wa):VS p po k o0 o1 o2 o3 ptr v u wb:=
 let ⟨a,b,c,d,e⟩:=h
 ⟨z0U hk h1 a,z0U hk h2 b,z0U hk h2 c,z0U hk h2 d,z0U hk h2 e⟩
theorem zrF {g:Nat} {ns:List (Nat×Nat)} {G:Gr} {x:Value×Value×Value} {w:World} {F:Nat->Prop} (h:Star (grL g ns G x) w F) (hlen:ns.length=G.ms.length) (k:Nat) (hk:k<G.ms.length) (h1:k<ns.length) (hu:(getG G k).up=true) (a:Nat) (hc:w.cell? ⟨ns[k].1,3,none⟩=some (ptrV a)) :
  ∃ X,AcT a ns[k].2 (getG G k).D (getG G k).A w X/\(∀ i,X i->F i)/\¬ X ns[k].1/\∀ w' D' A',Turns (AcT a ns[k].2 D' A') X w w'->Turns (Star (grL g ns (setG G k { getG G k with D:=D',A:=A' }) x)) F w w':=by
 obtain⟨X,y,hM,hXF,hcl⟩:=z1J h hlen k hk h1;obtain⟨hb,-⟩:=z0W hM;have e1:y.av=ptrV a:=by{have:=cell_of_row w ns[k].1 3 _ _ _ hb;rw[hc] at this;simpa [memC] using this.symm};obtain⟨X1,hA,hX,ho,t⟩:=hM.opn 1 rfl;obtain⟨Z,hZ,-,hd⟩:=ho 0 (z4P ns[k].1 (memC ns[k].2 k (getG G k) y) 90) (by decide) rfl;rw[hu] at hA;obtain⟨a',e,hA⟩:=hA;have e3:a'=a:=by{rw[e1] at e;simpa [ptrV] using e.symm};subst e3;refine⟨X1,hA,λi z=>hXF i (hX i z),λz=>hd _ z hZ.2.1,λw' D' A' ht=>hcl w' { getG G k with D:=D',A:=A' } y ?_⟩;have h6:=t w' (ziE ns[k].2 D' (some A') y.av) (ht.map λG z=>⟨a',e,z⟩);have e4:(memL G.q ns[k].1 ns[k].2 k (getG G k) y).set 1 (ziE ns[k].2 D' (some A') y.av)=memL G.q ns[k].1 ns[k].2 k { getG G k with D:=D',A:=A' } y:=by{generalize getG G k=m at hu |-;cases m;dsimp only at hu;subst hu;rfl};rw[e4] at h6;exact h6
theorem zeJ {q:Qm} {p:Pr} {n:Int} {at_:Nat} (hn:n.toNat<32) (h:∀ e ∈ p.slots,e.2.2<4294967296/\e.2.1.val.length<=1000):∀ e ∈ (accP q p n at_).2.slots,e.2.2<4294967296/\e.2.1.val.length<=1000:=by
 unfold accP;split;{exact h};split;{exact h};{intro e he;rcases ztJ (show e ∈ upd p.slots at_ (λs=>(s.1,bit s.2 n)) from he) with ⟨h1,-⟩ | ⟨a,h1,rfl⟩;{exact h e h1};{have:=h _ h1;exact⟨zqK this.1 hn,this.2⟩}}
structure LdOk (m:Mb) (s:Nat):Prop where
 tab:TabOk m.log.ap (m.data,m.tab)
 bnd:TabB m.tab
 far:∀ v,(RM.learn m.log s v).1=0→m.log.ap+z2C (RM.learn m.log s v).2≤62
 few:m.said.length≤1000
theorem ztP (w:World) (g:Nat) (ns:List (Nat×Nat)) (G:Gr) (x:Value×Value×Value) (F:Nat->Prop) (h:Star (grL g ns G x) w F) (hlen:ns.length=G.ms.length) (k:Nat) (hk:k<G.ms.length) (h1:k<ns.length) (hms:G.ms.length<=12) (hQ:QOk G.q) (hl:G.l.length<=200)
  (p:Pr) (hup:(getG G k).up=true) (hp:(getG G k).p=some p) (v:Vt) (vo:Option Addr) (vl vc:Nat) (hvl:vl=v.val.length) (hv:Out1 w F (.slice vo vl vc) vl v.val) (hv100:vl<=1000) (hs:v.slot<18446744073709551615) (hbn:v.bal.n<18446744073709551616)
  (hss:∀ e ∈ p.slots,e.2.2<4294967296/\e.2.1.val.length<=1000) (hA:AOk (getG G k).A) (hps:(getG G k).A.s.dead=false->(getG G k).A.s.ps.length<=900000) (hwt:FitS (getG G k).D (getG G k).A.s (z5P v))
  (hr0:(z0R (getG G k).D (getG G k).A v).1.2=0) (hO:LdOk (getG G k) v.slot) :
  Calls Tryz.prog 51 #[.pointer (some ⟨g,0,none⟩),.pointer (some ⟨ns[k].1,0,none⟩),.agg (z3Q v (.slice vo vl vc))] w (SendPost g ns (z8W G k p v) x F w):=by
 obtain⟨Post,hPost⟩:=zX1 (SendPost g ns (z8W G k p v) x F w);rw[<-hPost];have HP:=hid hPost;clear hPost;obtain⟨nb,hnb⟩:=zX1 (ns[k].1);obtain⟨R,hR⟩:=zX1 (z0R (getG G k).D (getG G k).A v);rw[<-hR] at hr0;have hn1:=heap_alloc_new w (.cells (z3Q v (.slice vo vl vc)) 109);have hk1:=kal w (.cells (z3Q v (.slice vo vl vc)) 109);obtain⟨w1,hw1⟩:=zX1 (w.alloc (.cells (z3Q v (.slice vo vl vc)) 109));have hz1:w1.heap.size=w.heap.size+1:=by{rw[hw1];simp};rw[<-hw1] at hn1 hk1;have hS1:=z1Q h hk1;obtain⟨X,y,hM,hXF,hcl⟩:=z1J hS1 hlen k hk h1;obtain⟨hbx,hnX⟩:=z0W hM;rw[<-hnb] at hbx;obtain⟨aa,Xa,hav,-⟩:=zgL hM hup;have hFl:=(Star.lives _).lt h;obtain⟨c0,c1,c2,c3,c4,c5,c6,c7,c8,c9,c10,c11,c12,c13,c14,cf,cb⟩:=z0N hbx;rw[hav] at c3;have hpe:z8W G k p v=z1N (z1G (setG G k { getG G k with D:=R.2.1,A:=R.2.2,p:=some (accP G.q p k v.slot).2 }) k ⟨3,0,0,(getG G k).b,[v]⟩) k (accP G.q p k v.slot).2 v.slot:=by{unfold z8W;simp only;rw[<-hR,if_neg (by rw[hr0];decide)]};have hv1:Out1 w1 F (.slice vo vl vc) vl v.val:=⟨hv.row.keep hk1 zI,hv.out⟩
 have hAcc:∀ w',Keep zF w1 w'->w'.cell? ⟨nb,3,none⟩=some (ptrV aa)->∃ X,¬ X nb/\(∀ i,X i->F i)/\Calls Tryz.prog 77 #[.pointer (some ⟨aa,0,none⟩),.agg (z3Q v (.slice vo vl vc))] w' λe w2=>e = .returned (.tuple #[.agg (balC R.1.1),.int .i64 0])/\Keep X w' w2/\Turns (Star (grL g ns (setG G k { getG G k with D:=R.2.1,A:=R.2.2 }) x)) F w' w2:=by
  intro w' hkw hcc;rw[hnb] at hcc;obtain⟨X,hAc,hX,hXn,hcA⟩:=zrF (z1Q hS1 hkw) hlen k hk h1 hup aa hcc;rw[<-hnb] at hXn;refine⟨X,hXn,hX,?_⟩
  have hacc:=zmE w' aa ns[k].2 (getG G k).D (getG G k).A X hAc hA hps v hwt hbn (by omega) vo vc (by
   have hh:=Cells.of_row (hv1.row.keep hkw zI);rw[<-hvl]
   exact hh) (λh0 b hb z=>by
   subst hb;obtain⟨_,_,ee,-,-,-,hsm⟩:=hv.row.form;cases ee
   exact hv.out b.block (hsm b rfl).2 (hX _ z))
  rw[<-hR,<-hvl] at hacc;refine hacc.mono ?_;rintro e w2 ⟨F2,rfl,hA2,hk2,hF2⟩;refine⟨by rw[hr0],hk2,hcA w2 R.2.1 R.2.2 ⟨F2,hA2,hk2,hF2⟩⟩
 obtain⟨⟨rb,rc⟩,RD,RA⟩:=R;have H0:=hid (zA1 h (zA1 hlen (zA1 hk (zA1 hms (zA1 hQ (zA1 hl (zA1 hup (zA1 hp (zA1 hO (zA1 hR (zA1 hr0 (zA1 hpe (zA1 hnb hvl)))))))))))));have H1:=hid (zA1 hn1 (zA1 hk1 (zA1 hz1 (zA1 hS1 (zA1 (hFl _ (hXF _ hnX)) (zA1 hFl hv1))))));have HSs:=hid hss;have HVl:=hid hv100;clear hv100 h hlen hk hms hQ hl hup hp hO hR hpe hvl hS1 hM hXF hcl hv hv1 hA hps hwt hav hss c0 c1 c2 c4 c5 c6 c7 c8 c9 c10 c11 c12 c13 c14 hr0 hnX hbx;obtain⟨a0,a1,a2,a3,af,ab⟩:=z1A hn1;rw[<-hnb];have HS:=hid (show VS nb 3 w.heap.size 0 1 2 3 (ptrV aa) v (.slice vo vl vc) w1 from⟨c3,a0,a1,a2,a3⟩);have HA:=hid hAcc;have HZ1:=hid hz1;clear hn1 hk1 hnb hAcc hz1 hFl a0 a1 a2 a3 c3;go_enter Tryz.func51,Tryz.ntmps51
 go_upto_region 1 with fail
 rw[<-hw1];clear hw1
 go_cut [6,7] (λgv ev wx=>ev = .int .i64 0/\Hid (Turns (Star (grL g ns (setG G k { getG G k with D:=RD,A:=RA }) x)) F w1 wx/\VS nb 3 w.heap.size 0 1 2 3 (ptrV aa) v (.slice vo vl vc) wx))
 case first=>(have x1:VS nb 3 w.heap.size 0 1 2 3 (ptrV aa) v (.slice vo vl vc) w1.drew:=HS.out;have hkd:Keep zF w1 w1.drew:=(Keep.refl _ _).drew;refine Twin.z3P (VS nb 3 w.heap.size 0 1 2 3 (ptrV aa) v (.slice vo vl vc)) [] [12,13] 5 9 (by kernel_rfl) (by kernel_rfl) (by rfl) (by kernel_rfl) ?_ ?_;{obtain⟨wd,hwd⟩:=zX1 (w1.drew);rw[<-hwd] at x1 hkd |-;clear hwd;obtain⟨X,hXn,hXF,hcr⟩:=HA.out wd hkd x1.1;(repeat (apply Twin.z0B (by rfl) (by exact x1);(intro K w' hS;obtain⟨s1,s2,s3,s4,s5⟩:=hS;go_simp;exact id)));refine Twin.z0F (by decide) (by rfl) (by exact x1) (λK hK=>?_);go_simp;refine hcr.mono ?_;rintro e w6 ⟨rfl,hk6,hT6⟩;have x3:=VS.keep hk6 hXn (λz=>by have:=H1.out.2.2.2.2.2.1 _ (hXF _ z);omega) x1;go_simp;refine hK _ _ (λh=>by cases h) x3 ?_;clear hK K x1;(repeat (apply Twin.z0B (by rfl) (by exact x3);(intro K w' hS;obtain⟨s1,s2,s3,s4,s5⟩:=hS;go_simp;exact id)));have hk7:=kal w6 (.cells #[.int .u64 0,.int .i64 0] 32);have x4:=VS.keep hk7 id id x3;have hn7:=heap_alloc_new w6 (.cells #[.int .u64 0,.int .i64 0] 32);obtain⟨hbx,hk8⟩:=zcG w6 rb;refine Twin.z0F (by decide) (by rfl) (by exact x3) (λK hK=>?_);go_simp;refine hK _ _ (λ_=>Pre.alloc (Pre.refl _) _) x4 ?_;clear hK K;obtain⟨w7,hw7⟩:=zX1 (w6.alloc (.cells #[.int .u64 0,.int .i64 0] 32));rw[<-hw7] at hn7 x4 hbx hk8 |-;clear hw7;obtain⟨d0,d1,f0,-⟩:=z2O hn7;(repeat (apply Twin.z0B (by rfl) (by exact x4);(intro K w' hS;obtain⟨s1,s2,s3,s4,s5⟩:=hS;go_simp;exact id)));obtain⟨wz,hwz⟩:=zX1 ((w7.setCell ⟨w6.heap.size,0,none⟩ (.int .u64 (rb.n:Int))).setCell ⟨w6.heap.size,1,none⟩ (.int .i64 rb.node));rw[<-hwz] at hbx hk8;have hk9:Keep zF w6 wz:=hk8.mono λk hk e=>by{have e2:k=w6.heap.size:=e;omega};have x5:=VS.keep hk9 id id x3;have HZ:=hid (zA1 (Turns.ahead hkd (Turns.still (Star.lives _) hT6 hk9)) x5);refine Twin.z0F (by decide) (by rfl) (by exact x4) (λK hK=>?_);go_simp;rw[<-hwz];refine hK _ _ (λh=>by cases h) x5 ?_;clear hK K hwz;(repeat (apply Twin.z0B (by rfl) (by exact x5);(intro K w' hS;obtain⟨s1,s2,s3,s4,s5⟩:=hS;go_simp;exact id)));refine Twin.z0Q ?_;clear x3 x4 hk7 hk9 x5 hn7 hbx hk8 d0 d1 f0 hT6 hk6 hcr;go_wp2_with fail;go_meet;exact⟨rfl,HZ⟩};{simp only[List.take_succ_cons,List.take_zero,List.drop_succ_cons,List.drop_zero,List.cons_append,List.nil_append];obtain⟨wd,hwd⟩:=zX1 (w1.drew);have hwds:wd.heap.size=w1.heap.size:=by{rw[hwd];rfl};rw[<-hwd] at x1 hkd |-;clear hwd;have hk0:=kal wd (.cells #[.int .u64 0,.int .i64 0] 32);have hn0:(wd.alloc (.cells #[.int .u64 0,.int .i64 0] 32)).heap[w1.heap.size]?=some (.cells #[.int .u64 0,.int .i64 0] 32 (0,0)):=by{rw[<-hwds];exact heap_alloc_new wd (.cells #[.int .u64 0,.int .i64 0] 32)};have hz5:(wd.alloc (.cells #[.int .u64 0,.int .i64 0] 32)).heap.size=w1.heap.size+1:=by{simp[hwds]};have x2:=VS.keep hk0 id id x1;refine Twin.z0F (by decide) (by rfl) (by exact x1) (λK hK=>?_);go_simp;refine hK _ _ (λ_=>Pre.alloc (Pre.refl _) _) x2 ?_;clear hK K;obtain⟨w5,hw5⟩:=zX1 (wd.alloc (.cells #[.int .u64 0,.int .i64 0] 32));rw[<-hw5] at hk0 hn0 x2 hz5 |-;clear hw5;have hk05:=hkd.nx hk0;obtain⟨X,hXn,hXF,hcr⟩:=HA.out w5 hk05 x2.1;(repeat (apply Twin.z0B (by rfl) (by exact x2);(intro K w' hS;obtain⟨s1,s2,s3,s4,s5⟩:=hS;go_simp;exact id)));refine Twin.z0F (by decide) (by rfl) (by exact x2) (λK hK=>?_);go_simp;refine hcr.mono ?_;rintro e w6 ⟨rfl,hk6,hT6⟩;have x3:=VS.keep hk6 hXn (λz=>by have:=H1.out.2.2.2.2.2.1 _ (hXF _ z);omega) x2;go_simp;refine hK _ _ (λh=>by cases h) x3 ?_;clear hK K x2;(repeat (apply Twin.z0B (by rfl) (by exact x3);(intro K w' hS;obtain⟨s1,s2,s3,s4,s5⟩:=hS;go_simp;exact id)));have hn7:=hk6.get hn0 (λz=>by have:=H1.out.2.2.2.2.2.1 _ (hXF _ z);have:=HZ1.out;omega);obtain⟨d0,d1,f0,-⟩:=z2O hn7;obtain⟨-,hk8,-⟩:=z4R w6 w1.heap.size _ _ hn7 (.int .u64 (rb.n:Int)) (.int .i64 rb.node);obtain⟨wz,hwz⟩:=zX1 ((w6.setCell ⟨w1.heap.size,0,none⟩ (.int .u64 (rb.n:Int))).setCell ⟨w1.heap.size,1,none⟩ (.int .i64 rb.node));rw[<-hwz] at hk8;have x5:=VS.keep hk8 (λe=>by have e2:nb=w1.heap.size:=e;have:=(zA1 HZ1.out H1.out.2.2.2.2.1);omega) (λe=>by have e2:w.heap.size=w1.heap.size:=e;have:=HZ1.out;omega) x3;have HZ:=hid (show Turns (Star (grL g ns (setG G k { getG G k with D:=RD,A:=RA }) x)) F w1 wz/\VS nb 3 w.heap.size 0 1 2 3 (ptrV aa) v (.slice vo vl vc) wz from⟨by{obtain⟨F6,hS6,hkF,hF6⟩:=hT6;have hno:¬ F6 w1.heap.size:=λz=>by{rcases hF6 _ z with y | y;(have:=H1.out.2.2.2.2.2.1 _ y;have:=HZ1.out;omega);omega};refine⟨F6,(Star.lives _).keep hS6 hk8 (λi z e=>?_),(hk05.next hkF zE zI).next hk8 zI (λi hi e=>?_),λi z=>(hF6 i z).imp id λy=>by omega⟩;{have e2:i=w1.heap.size:=e;subst e2;exact hno z};{have e2:i=w1.heap.size:=e;omega}},x5⟩);refine Twin.z0F (by decide) (by rfl) (by exact x3) (λK hK=>?_);go_simp;rw[<-hwz];refine hK _ _ (λh=>by cases h) x5 ?_;clear hK K hwz;(repeat (apply Twin.z0B (by rfl) (by exact x5);(intro K w' hS;obtain⟨s1,s2,s3,s4,s5⟩:=hS;go_simp;exact id)));refine Twin.z0Q ?_;clear x3 hn0 hk0 x5 hn7 hk8 d0 d1 f0 hT6 hk6 hcr hk05;go_wp2_with fail;go_meet;exact⟨rfl,HZ⟩})
 case rest=>
  obtain⟨wx,rfl⟩:=zX1 (wc);obtain⟨rfl,HG⟩:=hcut;have HNB:=hid H0.out.2.2.2.2.2.2.2.2.2.2.2.2.1;clear HS HA;obtain⟨F2,hS2,hk2,hF2⟩:=HG.out.1;obtain⟨G2,hG2⟩:=zX1 (setG G k { getG G k with D:=RD,A:=RA });have hk:=H0.out.2.2.1;have hms2:G2.ms.length=G.ms.length:=by{rw[hG2];exact z0P};have hg2:getG G2 k = { getG G k with D:=RD,A:=RA }:=by{rw[hG2];exact z1C hk};rw[<-hG2] at hS2;obtain⟨X2,y2,hM2,hXF2,hcl2⟩:=z1J hS2 (by rw[hms2];exact H0.out.2.1) k (by rw[hms2];exact hk) h1;obtain⟨pa,Xp,hpv,hPr,hXp,hcp⟩:=z3R hM2 (p:=p) (by rw[hg2];exact H0.out.2.2.2.2.2.2.2.1);obtain⟨P2,hP2⟩:=zX1 (accP G.q p (k:Int) v.slot);have hq2:G2.q=G.q:=by{rw[hG2];rfl};have hl2:G2.l=G.l:=by{rw[hG2];rfl};have hs:=λs:Later wx=>z9P s.val G.q H0.out.2.2.2.2.1 p pa Xp (by rw[hq2] at hPr;exact(z3D G.q pa p).2.keep hPr s.keep zI) (k:Int) v.slot (by omega) (λe he=>(HSs.out e he).1);rw[<-hP2] at hs;have HQs:=hid hs;obtain⟨hbx2,-⟩:=z0W hM2;rw[<-HNB.out] at hbx2;obtain⟨c0,-,-,-,-,c5,-,-,-,-,-,-,-,-,-,cf,cb⟩:=z0N hbx2;rw[hpv] at c5;obtain⟨-,b0,-,-,-⟩:=HG.out.2;have H2:=hid (zA1 hS2 (zA1 hk2 (zA1 hF2 (zA1 hG2 (zA1 hms2 (zA1 hg2 (zA1 hcl2 (zA1 hcp (zA1 hP2 (zA1 hq2 hl2))))))))));clear hS2 hk2 hF2 hG2 hms2 hg2 hM2 hXF2 hcl2 hpv hPr hXp hcp hP2 hs hbx2 hq2 hl2
  go_upto_region 5 with fail
  have j0:=λs:Later wx=>s.cell c0;have j5:=λs:Later wx=>s.cell c5;have jb:=λs:Later wx=>s.cell b0
  (refine z1D 10 (by kernel_rfl) (by kernel_rfl) ?_;simp only[List.take_succ_cons,List.take_zero,List.drop_succ_cons,List.drop_zero];(repeat (go_big_quiet_step ((fail))));refine wpQuiet_nil ?_;rintro _ ⟨sq,rfl⟩)
  have hs:=HQs.out sq;have hkeep:=sq.keep;obtain⟨w3,hw3⟩:=zX1 (sq.val);rw[<-hw3] at hkeep hs |-;have HK3:=hid hkeep;clear hw3 sq j0 j5 jb c0 c5 b0 cf cb HQs hkeep;go_wp2_with fail;refine hs.mono ?_;rintro e w4 ⟨rfl,ht4⟩;clear hs;obtain⟨hS2,hk2,hF2,hG2,hms2,hg2,hcl2,hcp,hP2,hq2,hl2⟩:=H2.out;obtain⟨G4,hG4⟩:=zX1 (setG G k { getG G k with D:=RD,A:=RA,p:=some P2.2 });have hms4:G4.ms.length=G.ms.length:=by{rw[hG4];exact z0P};have hg4:getG G4 k = { getG G k with D:=RD,A:=RA,p:=some P2.2 }:=by{rw[hG4];exact z1C H0.out.2.2.1};have hT4:Turns (Star (grL g ns G4 x)) F2 wx w4:=by{have h8:=hcl2 w4 _ y2 (hcp w4 P2.2 (Turns.ahead HK3.out (by rw[hq2];exact ht4)));rw[hg2,hG2,z0V] at h8;rw[hG4];exact h8};obtain⟨F4,hS4,hk4,hF4⟩:=hT4;have hFl:∀ i,F i->i<w.heap.size:=H1.out.2.2.2.2.2.1;have hz1:=HZ1.out;have hbF2:¬ F2 w.heap.size:=λz=>by{rcases hF2 _ z with y | y;(have:=hFl _ y;omega);omega};have hbF4:¬ F4 w.heap.size:=λz=>by{rcases hF4 _ z with y | y;{exact hbF2 y};{have:=hk2.size;omega}};have O4:Out1 w4 F4 (.slice vo vl vc) vl v.val:=(H1.out.2.2.2.2.2.2.turn hk2 hF2).turn hk4 hF4;have hV4:∃ u,w4.heap[w.heap.size]?=some (.cells (z3Q v (.slice vo vl vc)) 109 (0,0))/\u=0:=⟨0,hk4.get (hk2.get H1.out.1 (λz=>by have:=hFl _ z;omega)) hbF2,rfl⟩;obtain⟨-,hV4,-⟩:=hV4;obtain⟨X4,y4,hM4,-⟩:=z1J hS4 (by rw[hms4];exact H0.out.2.1) k (by rw[hms4];exact H0.out.2.2.1) h1;obtain⟨hbx4,-⟩:=z0W hM4;rw[<-HNB.out,hg4] at hbx4;obtain⟨-,-,-,-,-,-,c6,c7,-,-,-,-,-,-,-,cf,cb⟩:=z0N hbx4;obtain⟨b0,b1,b2,b3,bf,bb⟩:=z1A hV4;have hl4:G4.l=G.l:=by{rw[hG4];rfl};have hq4:G4.q=G.q:=by{rw[hG4];rfl};have H4:=hid (zA1 hS4 (zA1 hk4 (zA1 hF4 (zA1 hG4 (zA1 hms4 (zA1 hg4 (zA1 O4 (zA1 hV4 (zA1 hbF4 (zA1 hl4 hq4))))))))));have HK2:=hid (zA1 hk2 (zA1 hF2 hP2));clear hS2 hk2 hF2 hG2 hms2 hg2 hcl2 hcp hP2 hS4 hk4 hF4 hG4 hms4 hg4 O4 hV4 hM4 hbx4 hbF2 hbF4 hFl hl4 hq4 ht4 hq2 hl2 H2 hz1
  go_upto_region 6 with fail
  have hn6:=heap_alloc_new w4 (.cells (z3Q v (.slice vo vl vc)) 109);have hk6:Keep zF w4 (w4.alloc (.cells (z3Q v (.slice vo vl vc)) 109)).drew:=((Keep.refl _ _).alloc _).drew;obtain⟨w6,hw6⟩:=zX1 ((w4.alloc (.cells (z3Q v (.slice vo vl vc)) 109)).drew);have hn6:w6.heap[w4.heap.size]?=some (.cells (z3Q v (.slice vo vl vc)) 109 (0,0)):=by{rw[hw6];exact hn6};rw[<-hw6] at hk6;have HW6:=hid (show (w4.alloc (.cells #[.int .u64 (v.slot:Int),.int .u64 (v.bal.n:Int),.int .i64 v.bal.node,.slice vo vl vc] 109)).drew=w6 from hw6.symm);obtain⟨hS4,hk4,hF4,hG4,hms4,hg4,O4,hV4,hbF4,hl4,hq4⟩:=H4.out;have hS6:=z1Q hS4 hk6;have hVc:∀ w',Keep F4 w6 w'->VotesC w' (some ⟨w4.heap.size,0,none⟩) [v]:=λw' hk' i hi=>by{have hi0:i=0:=by{simp at hi;omega};subst hi0;have hn':=hk'.get hn6 (λz=>by have:=(Star.lives _).lt hS4 _ z;omega);have hr':=(O4.row.keep hk6 zI).keep hk' (λk e z=>O4.out k e z);obtain⟨_,_,ee,g2,g3,-⟩:=hr'.form;cases ee;refine⟨⟨w4.heap.size,0,none⟩,vo,vc,rfl,λj u hu=>?_,by simp only[List.getElem_cons_zero];rw[<-H0.out.2.2.2.2.2.2.2.2.2.2.2.2.2];exact g2,g3,by simp only[List.getElem_cons_zero];rw[<-H0.out.2.2.2.2.2.2.2.2.2.2.2.2.2];exact Cells.of_row hr'⟩;simp only[Nat.zero_mul,z0O,Nat.zero_add];rw[cell_of_row _ _ _ _ _ _ hn'];simp only[List.getElem_cons_zero,z3B] at hu;rw[<-H0.out.2.2.2.2.2.2.2.2.2.2.2.2.2] at hu;simpa [z3Q] using hu};have hoth:=z9J w6 g ns G4 x F4 hS6 (by rw[hms4];exact H0.out.2.1) k (by rw[hms4];exact H0.out.2.2.1) h1 (by rw[hms4];have:=H0.out.2.2.2.1;omega) ⟨3,0,0,(getG G k).b,[v]⟩ (some ⟨w4.heap.size,0,none⟩) 1 1 hVc rfl (by decide) (λu hu=>by{rw[List.mem_singleton] at hu;subst hu;rw[<-H0.out.2.2.2.2.2.2.2.2.2.2.2.2.2];exact HVl.out}) (by rw[hl4];exact H0.out.2.2.2.2.2.1);rw[<-HNB.out] at hoth;have HK6:=hid hk6;clear hn6 hw6 hS4 hk4 hF4 hG4 hms4 hg4 O4 hV4 hbF4 hl4 hq4 hk6 hS6 hVc;refine z0E [] (by kernel_rfl) (by kernel_rfl) ?_
  repeat (first | (apply z0B (by rfl);(intro K w';go_simp;exact id)) | (apply z0K (by rfl);(intro K;go_simp;exact id)))
  (refine z4S (by rfl) (by rfl) (λK hK=>?_);go_simp;refine hK _ _ (Pre.push _ rfl) ?_;clear hK K)
  repeat (first | (apply z0B (by rfl);(intro K w';go_simp;exact id)) | (apply z0K (by rfl);(intro K;go_simp;exact id)))
  rw[HW6.out];refine z0F (by rfl) (by rfl) (λK hK=>?_);go_simp;refine hoth.mono ?_;rintro e w7 ⟨rfl,v7,hT7⟩;go_simp;refine hK _ _ ?_;clear hK K hoth c6 c7 cf cb b0 b1 b2 b3 bf bb;refine z0Q ?_;obtain⟨F7,hS7,hk7,hF7⟩:=hT7;obtain⟨hS4,hk4,hF4,hG4,hms4,hg4,O4,hV4,hbF4,hl4,hq4⟩:=H4.out;obtain⟨G7,hG7⟩:=zX1 (z1G G4 k ⟨3,0,0,(getG G k).b,[v]⟩);rw[<-hG7] at hS7;have hms7:G7.ms.length=G.ms.length:=by{rw[hG7,z5F];exact hms4};have hg7:getG G7 k = { getG G k with D:=RD,A:=RA,p:=some P2.2 }:=by{rw[hG7,z4H];exact hg4};have hO:=H0.out.2.2.2.2.2.2.2.2.1;have hch:=zdK w7 g ns G7 (v7,x.2) F7 hS7 (by rw[hms7];exact H0.out.2.1) k (by rw[hms7];exact H0.out.2.2.1) h1 (by rw[hms7];have:=H0.out.2.2.2.1;omega) (by rw[hG7,zcR,hq4];exact H0.out.2.2.2.2.1) (by rw[hG7];exact zkW (by rw[hl4];exact H0.out.2.2.2.2.2.1)) P2.2 (by rw[hg7];exact H0.out.2.2.2.2.2.2.1) (by rw[hg7]) v.slot hs (by rw[HK2.out.2.2];exact zeJ (by have:=H0.out.2.2.1;have:=H0.out.2.2.2.1;omega) HSs.out) (by rw[hg7];exact hO.tab) (by rw[hg7];exact hO.bnd) (by rw[hg7];exact hO.far) (by rw[hg7];exact hO.few);rw[<-HNB.out] at hch;have hV7:=hk7.get (HK6.out.get hV4 id) hbF4;obtain⟨b0,-,-,-,bf,bb⟩:=z1A hV7;have HE:=hid (show z1N G7 k P2.2 v.slot=z8W G k p v by{rw[H0.out.2.2.2.2.2.2.2.2.2.2.2.1,hG7,hG4,HK2.out.2.2]});have H7:=hid (zA1 hk7 (zA1 hF7 (zA1 hk4 hF4)));clear hS7 hk7 hF7 hS4 hk4 hF4 hG4 hms4 hg4 O4 hV4 hbF4 hl4 hq4 hG7 hms7 hg7 hO hV7;go_wp2_with fail;refine hch.mono ?_;rintro e w8 ⟨rfl,v8,ht8⟩;have HZ:=hid (Turns.ahead H1.out.2.1 (Turns.join HK2.out.1 HK2.out.2.1 (Turns.join H7.out.2.2.1 H7.out.2.2.2 (Turns.ahead HK6.out (Turns.join H7.out.1 H7.out.2.1 ht8)))));clear hch ht8;go_wp2_with fail
  go_end0
  rw[HP.out,<-HE.out];exact⟨rfl,v8,HZ.out⟩
end
section
open Go.RowKit Go.Maps
open MI SO BM DM WM AC GR
theorem z5V (w:World) (g:Nat) (ns:List (Nat×Nat)) (G:Gr) (x:Value×Value×Value) (F:Nat->Prop) (h:Star (grL g ns G x) w F) (hlen:ns.length=G.ms.length) (k:Nat) (hk:k<G.ms.length) (h1:k<ns.length) (hms:G.ms.length<=100) (hup:(getG G k).up=true) :
  Calls Tryz.prog 39 #[.pointer (some ⟨g,0,none⟩),.int .i64 (k:Int)] w λe w'=>e = .returned (.tuple #[.pointer (some ⟨ns[k].1,0,none⟩),.int .i64 0])/\w'=w:=by
 obtain⟨Post,hPost⟩:∃ Post:Ending->World->Prop,Post=λe w'=>e = .returned (.tuple #[.pointer (some ⟨ns[k].1,0,none⟩),.int .i64 0])/\w'=w:=⟨_,rfl⟩;show Calls _ _ _ _ _;rw[<-hPost];have HP:=hid hPost;clear hPost;obtain⟨y,hb,-⟩:=zlE h hlen k hk h1;rw[<-z8Q hk] at hb;obtain⟨-,-,c2,-,-,-,-,-,-,-,-,-,-,-,-,cf,cb⟩:=z0N hb;rw[hup] at c2;obtain⟨hgb,-⟩:=zbH h;have hrow:=zxH h;obtain⟨ro,rc,hrf,-,hrm,-,hro⟩:=hrow.form;rw[hrf] at hgb hrow;obtain⟨L,hL⟩:=zX1 (ns.length);rw[<-hL] at hgb;obtain⟨-,-,-,-,-,-,g6,gf,gb⟩:=z3S hgb;obtain⟨nb,hnb⟩:=zX1 (ns[k].1);have hcr:=(Cells.of_row hrow).2 (by omega);obtain⟨ad,e,hcr⟩:=hcr;subst e;have hck:=hcr k (ptrV nb) (by rw[List.getElem?_map,List.getElem?_eq_getElem h1,hnb];rfl);obtain⟨ad',had⟩:∃ b,ad=⟨b,0,none⟩:=⟨ad.block,(hro ad rfl).1⟩;subst had;rw[z0O,Nat.zero_add] at hck;rw[<-hnb] at c2 cf cb;have HN:=hid hnb;have hkL:(k:Int)<(L:Int):=by{omega};have hkL':k<L:=by{omega};have hL100:L<=100:=by{omega};clear h hlen hk hms hup hb hgb hrow hrf hrm hL hnb hcr hro;go_enter Tryz.func39,Tryz.ntmps39;go_wp2_with fail;rw[HP.out];exact⟨by rw[<-HN.out];rfl,rfl⟩
theorem zlN {p:Pr} (h:p.musts = []):topP p=0:=by unfold topP;rw[h];rfl
theorem znS {G:Gr} {k:Nat} {p:Pr} (h:p.musts = []) (h1:1<=(getG G k).frm):z2Q G k p=setG G k { getG G k with next:=(getG G k).frm }:=by
 unfold z2Q;simp only;rw[zlN h,Nat.max_eq_left (by omega),Nat.sub_self];rfl
theorem zdM (w:World) (g:Nat) (ns:List (Nat×Nat)) (G:Gr) (x:Value×Value×Value) (F:Nat->Prop) (h:Star (grL g ns G x) w F) (hlen:ns.length=G.ms.length) (k:Nat) (hk:k<G.ms.length) (h1:k<ns.length)
  (p:Pr) (hp:(getG G k).p=some p) (hm:p.musts = []) (hf:1<=(getG G k).frm) (hf2:(getG G k).frm<18446744073709551615) :
  Calls Tryz.prog 49 #[.pointer (some ⟨g,0,none⟩),.pointer (some ⟨ns[k].1,0,none⟩)] w (SendPost g ns (z2Q G k p) x F w):=by
 obtain⟨Post,hPost⟩:=zX1 (SendPost g ns (z2Q G k p) x F w);rw[<-hPost];rw[znS hm hf] at hPost;have HP:=hid hPost;clear hPost;obtain⟨X,y,hM,hXF,hcl⟩:=z1J h hlen k hk h1;obtain⟨nb,hnb⟩:=zX1 (ns[k].1);obtain⟨a,Xp,hpv,hPr,-⟩:=z3R hM hp;have hs:=λs:Later w=>zwS s.val G.q p a Xp ((z3D G.q a p).2.keep hPr s.keep zI) (by rw[hm];simp);rw[zlN hm] at hs;obtain⟨hbx,-⟩:=z0W hM;rw[<-hnb] at hbx |-;obtain⟨frm,hfr⟩:=zX1 ((getG G k).frm);rw[<-hfr] at hf hf2;obtain⟨-,-,-,-,-,c5,-,-,c8,-,-,-,-,-,-,cf,cb⟩:=z0N hbx;rw[<-hfr] at c8;rw[hpv] at c5;have HQs:=hid hs;have H0:=hid (zA1 hM (zA1 hcl (zA1 hfr (zA1 hnb (zA1 hbx (zA1 h (zA1 hpv hp)))))));have HX:=hid hXF;clear h hlen hM hcl hfr hnb hbx hs hXF hPr hp hm hpv hk;go_enter Tryz.func49,Tryz.ntmps49;have j5:=λs:Later w=>s.cell c5;have j8:=λs:Later w=>s.cell c8;have hfw:(0:Int)+1<=frm:=by omega
 go_upto_region 0 with fail
 (refine z1D 14 (by kernel_rfl) (by kernel_rfl) ?_;simp only[List.take_succ_cons,List.take_zero,List.drop_succ_cons,List.drop_zero];(repeat (go_big_quiet_step (((go_at_call 95;exact Later.call ((HQs.out _)))))));refine wpQuiet_nil ?_;rintro _ ⟨sq,rfl⟩)
 have hkeep:=sq.keep;obtain⟨w3,hw3⟩:=zX1 (sq.val);rw[<-hw3] at hkeep |-;clear hw3 sq j5 j8;have hmx:max (frm:Int) 1=(frm:Int):=by{omega};rw[hmx];have hM3:=(Star.lives _).keep H0.out.1 hkeep zI;obtain⟨X4,hM4,hk4,hX4⟩:=mem_put hM3 9 (.int .u64 (frm:Int)) (m':={ getG G k with next:=frm }) (x':=y) rfl rfl;rw[<-H0.out.2.2.2.1] at hM4 hk4;have HT:=hid (show Turns (Star (grL g ns (setG G k { getG G k with next:=frm }) x)) F w (w3.setCell ⟨nb,9,none⟩ (.int .u64 (frm:Int))) from H0.out.2.1 _ _ y (by{rw[<-H0.out.2.2.2.1];exact Turns.ahead hkeep ⟨X4,hM4,hk4,hX4⟩}));have hbx3:=hkeep.get H0.out.2.2.2.2.1 id;obtain⟨-,-,-,-,-,-,-,-,-,d9,-,-,-,-,-,df,db⟩:=z0N hbx3;obtain⟨w4,hw4⟩:=zX1 (w3.setCell ⟨nb,9,none⟩ (.int .u64 (frm:Int)));rw[<-hw4] at hM4 HT;obtain⟨hbx4,-⟩:=z0W hM4;obtain⟨-,-,-,-,-,e5,-,-,e8,e9,-,-,-,-,-,ef,eb⟩:=z0N hbx4;dsimp only at e8 e9;rw[<-H0.out.2.2.1] at e8;rw[H0.out.2.2.2.2.2.2.1] at e5;have HW:=hid hw4;clear hM3 hM4 hk4 hX4 hbx3 hbx4 hkeep hw4 hmx hfw c5 c8 cf cb
 go_upto_region 1 with fail
 rw[<-HW.out];clear HW df db d9;go_wp2_with fail
 go_loopw [4] (λiv wr=>∃ i:Nat,i=frm/\iv = .int .u64 (i:Int)/\Hid (wr=w4)) (λiv _=>frm - (intOf iv).toNat)
 case atStart=>exact⟨frm,rfl,rfl,hid rfl⟩
 case round=>(obtain⟨_,rfl,rfl,HW4⟩:=hrel;rw[HW4.out];clear HW4;go_wp2_with fail;(go_end0);have ht:=HT.out;rw[H0.out.2.2.1] at ht;rw[HP.out];exact⟨rfl,_,ht⟩)
end
end Go.Proofs.YtkhddpiopbmhjaaGreat
