/- Texts GoH, GoI, GoJ, GoK, GoL in one. Conditions: as each law names them. -/
import Derived.Test.YtkhddpiopbmhjaaGreatUay
import Derived.Test.YtkhddpiopbmhjaaGreatUbd
import Derived.Test.YtkhddpiopbmhjaaGreatUbe
import Derived.Test.YtkhddpiopbmhjaaGreatUbh
set_option maxRecDepth 20000
set_option maxHeartbeats 8000000
namespace Go.Proofs.YtkhddpiopbmhjaaGreat
section
open Go.RowKit Go.Maps
open MI SO BM DM WM AC GR
def TabB(l:List Cl):Prop:=∀ c ∈ l,c.id<18446744073709551616∧c.rep.length≤64
theorem TabB.use{l:List Cl}(h:TabB l){i:Nat}{c:Cl}(hc:c.id<18446744073709551616/\c.rep.length<=64):TabB (useC l i c):=by
 intro d hd;rcases List.mem_append.1 hd with z | z;{exact h d (List.mem_of_mem_eraseIdx z)};{rw[List.mem_singleton] at z;subst z;exact hc}
theorem TabB.begin{l:List Cl}(h:TabB l)(id num:Nat)(hid:id<18446744073709551616):TabB (z2W l id num).2:=by
 unfold z2W;split;{exact h};split;{intro d hd;rcases List.mem_append.1 hd with z | z;{exact h d z};{rw[List.mem_singleton] at z;subst z;exact⟨hid,Nat.zero_le _⟩}};{rename_i i hf;obtain⟨hi,-⟩:=z6C hf;rw[List.getElem?_eq_getElem hi];simp only;split;{exact h};{split;{split <;> exact h.use (h _ (List.getElem_mem hi))};{exact h.use ⟨hid,Nat.zero_le _⟩}}}
theorem TabB.fin{l:List Cl}(h:TabB l)(id num:Nat)(hid:id<18446744073709551616)(rep:List UInt8)(hr:rep.length<=64):TabB (endC l id num rep).2:=by
 unfold endC;split;{exact h};split;{exact h};{rename_i i hf;obtain⟨hi,-⟩:=z6C hf;rw[List.getElem?_eq_getElem hi];simp only;split;{exact h};{exact h.use ⟨hid,hr⟩}}
structure MbOk (m:Mb):Prop where
 tab:TabOk 63 (m.data,m.tab)
 bnd:TabB m.tab
theorem MbOk.rep{m:Mb}(h:MbOk m)(b:Nat):((AL.get m.data b).getD []).length<=64:=by
 cases hg:AL.get m.data b with | none=>{exact Nat.zero_le _} | some u=>{exact(h.tab.data _ (AL.get_mem hg)).2}
theorem Star.opnX{w:World}:∀ {l:List Th} (n:Nat) {T:Th} {F:Nat->Prop},Star l w F->l[n]?=some T->∃ X,T.1 w X/\(∀ i,X i->F i)/\
  ∀ w' (T':Th) (X':Nat->Prop),T'.1 w' X'->Keep X w w'->(∀ i,X' i->X i∨¬ F i)->∃ F',Star (l.set n T') w' F'/\Keep F w w'/\∀ i,F' i->F i∨X' i
 | [],n,_,_,_,hn=>by simp at hn
 | U :: l,0,_,_,⟨X,Y,x,y,d,e⟩,hn=>by{simp only[List.getElem?_cons_zero,Option.some.injEq] at hn;subst hn e;refine⟨X,x,λ_ z=>.inl z,λw' T' X' p q r=>?_⟩;refine⟨λk=>X' k∨Y k,⟨X',Y,p,(Star.lives l).keep y q (λi u v=>d i v u),λi u v=>?_,rfl⟩,q.mono λ_ _ u=>.inl u,λi u=>u.elim .inr λu=>.inl (.inr u)⟩;rcases r i u with z | z;{exact d i z v};{exact z (.inr v)}}
 | U :: l,n+1,_,_,⟨X,Y,x,y,d,e⟩,hn=>by{subst e;obtain⟨Z,z,hz,t⟩:=Star.opnX n y (by simpa using hn);refine⟨Z,z,λi u=>.inr (hz i u),λw' T' X' p q r=>?_⟩;obtain⟨Y',p1,q1,r1⟩:=t w' T' X' p q λi u=>(r i u).imp id λv w=>v (.inr w);refine⟨λk=>X k∨Y' k,⟨X,Y',U.2.keep x q1 (λi u v=>d i u v),p1,λi u v=>?_,rfl⟩,q1.mono λ_ _ u=>.inr u,λi u=>u.elim (λu=>.inl (.inl u)) λu=>(r1 i u).imp .inr id⟩;rcases r1 i v with a | a;{exact d i u a};{rcases r i a with b | b;{exact d i u (hz i b)};{exact b (.inl u)}}}
theorem zmO{q:Qm}{n d me:Nat}{m:Mb}{x:MemV}{w:World}{F:Nat->Prop}(h:Star (memL q n d me m x) w F)(hu:m.up=true):∃ a X,x.tv=ptrV a/\(z4B a m.tab).1 w X/\(∀ i,X i->F i)/\
  ∀ w' l X',(z4B a l).1 w' X'->Keep X w w'->(∀ i,X' i->X i∨¬ F i)->∃ F',Star (memL q n d me { m with tab:=l } x) w' F'/\Keep F w w'/\∀ i,F' i->F i∨X' i:=by
 obtain⟨X,hA,hX,t⟩:=h.opnX 6 rfl;rw[hu] at hA;obtain⟨a,e,hA⟩:=hA;refine⟨a,X,e,hA,hX,λw' l X' h1 h2 h3=>?_⟩;obtain⟨F',h6,h7,h8⟩:=t w' (tabP x.tv l true) X' ⟨a,e,h1⟩ h2 h3;have e3:(memL q n d me m x).set 6 (tabP x.tv l true)=memL q n d me { m with tab:=l } x:=by{cases m;dsimp only at hu;subst hu;rfl};rw[e3] at h6;exact⟨F',h6,h7,h8⟩
theorem zsF{q:Qm}{n d me:Nat}{m:Mb}{x:MemV}{w:World}{F:Nat->Prop}(h:Star (memL q n d me m x) w F)(hu:m.up=true):∃ b X l2,x.dv=mapV b/\BMap 3 keI (λ(_:List UInt8) u=>.agg #[u]) (λe=>e) b m.data w X l2/\(∀ i,X i->F i)/\
  ∀ w' l X',(zbO 3 keI (λ(_:List UInt8) u=>.agg #[u]) (λe=>e) b l).1 w' X'->Keep X w w'->(∀ i,X' i->X i∨¬ F i)->∃ F',Star (memL q n d me { m with data:=l } x) w' F'/\Keep F w w'/\∀ i,F' i->F i∨X' i:=by
 obtain⟨X,hA,hX,t⟩:=h.opnX 5 rfl;rw[hu] at hA;obtain⟨a,e,l2,hA⟩:=hA;refine⟨a,X,l2,e,hA,hX,λw' l X' h1 h2 h3=>?_⟩;obtain⟨F',h6,h7,h8⟩:=t w' (zoQ x.dv l true) X' ⟨a,e,h1⟩ h2 h3;have e3:(memL q n d me m x).set 5 (zoQ x.dv l true)=memL q n d me { m with data:=l } x:=by{cases m;dsimp only at hu;subst hu;rfl};rw[e3] at h6;exact⟨F',h6,h7,h8⟩
theorem zoB{l:List Cl}{id num:Nat}(h:(z2W l id num).1.2.2≠0):(z2W l id num).1.2.1 = []:=by
 revert h
 unfold z2W;split;{intro;rfl};split;{intro;rfl};{split;{intro;rfl};{split;{intro;rfl};{split;{split;{intro;rfl};{intro h;simp at h}};{intro;rfl}}}}
theorem zpV{l:List Cl}{id num:Nat}(h:(z2W l id num).1.1=1):(z2W l id num).1.2.1 = []:=by
 revert h
 unfold z2W;split;{intro;rfl};split;{intro;rfl};{split;{intro;rfl};{split;{intro;rfl};{split;{split;{intro;rfl};{intro h;simp at h}};{intro;rfl}}}}
def DoPost(q:Qm)(n d me:Nat)(R:Option (List UInt8)×Mb)(x:MemV)(F:Nat→Prop)(w:World)(e:Ending)(w':World):Prop:=
 ∃ v F',e = .returned (.tuple #[v,.bool R.1.isSome])∧Row w' 5 1 v (R.1.getD []).length (z0B (R.1.getD []))∧(∀ k,v.ownBlock=some k→w.heap.size≤k∧¬ F' k)∧Star (memL q n d me R.2 x) w' F'∧Keep F w w'∧∀ i,F' i→F i∨w.heap.size≤i
theorem y1B(w:World)(q:Qm)(n d me:Nat)(m:Mb)(x:MemV)(F:Nat->Prop)(h:Star (memL q n d me m x) w F)(hu:m.up=true)(hok:MbOk m)(l:List UInt8)(ao:Option Addr)(ln c:Nat)(hc:Cells w ao ln 1 (z0B l))(hln:ln<=1000000):Calls Tryz.prog 116 #[.pointer (some ⟨n,0,none⟩),.slice ao ln c] w (DoPost q n d me (doM m l) x F w):=by
 refine zPo λPost HP=>?_;have hdc:=z7M w ao ln c l hc (by omega);obtain⟨o,ho⟩:=zX1 (decK l);rw[<-ho] at hdc;have hFl:=(Star.lives _).lt h;have H0:=zB4 h hu hok ho hFl;clear h hu hok hc ho hFl
 go_in
 go_wp2_with fail;refine hdc.mono ?_;rintro e w2 ⟨u,rfl,hru,hou,hk2⟩;obtain⟨uo,uc,hfu,-⟩:=hru.form;subst hfu;cases o with
 | none=>
   have hR:doM m l=(none,m):=by{unfold doM do2;rw[<-H0.x4]};have HR:=hid hR;have HK:=hid hk2;clear hdc hru hou hk2 hR
   go_upto_region 2 with fail
   have hk3:=kal w2 (.cells (askC GR.Ask.zero (.slice uo GR.Ask.zero.data.length uc)) 41);obtain⟨w3,hw3⟩:=zX1 (w2.alloc (.cells (askC GR.Ask.zero (.slice uo GR.Ask.zero.data.length uc)) 41));rw[<-hw3] at hk3 |-;clear hw3;have HK3:=hid (HK.o.next hk3 (H:=λ_=>False) zI zI);clear hk3;go_wp2_with fail;rw[HP.o,HR.o];exact⟨_,F,rfl,Row.nil _ _ _,λk e=>by simp[Value.ownBlock] at e,(Star.lives _).keep H0.x1 HK3.o zI,HK3.o.mono λ_ _ z=>z.elim,λ_ z=>.inl z⟩
 | some a=>
   obtain⟨ha1,ha2,ha3⟩:=zqY H0.x4.symm;obtain⟨hb1,hb2⟩:=zgA H0.x4.symm;obtain⟨dl,hdl⟩:=zX1 (a.data.length);simp only[Option.getD_some,Option.isSome_some] at hru |-;rw[<-hdl] at hru;have hn3:=heap_alloc_new w2 (.cells (askC a (.slice uo dl uc)) 41);have hk3:=kal w2 (.cells (askC a (.slice uo dl uc)) 41);have hou':∀ k,(Value.slice uo dl uc).ownBlock=some k->w.heap.size<=k:=λk e=>hou k (by rw[z1G _ _ dl];exact e);have HD:=hid hdl;clear hou hdc hdl
   go_upto_region 2 with fail
   rw[<-HD.o];obtain⟨w3,hw3⟩:=zX1 (w2.alloc (.cells (askC a (.slice uo dl uc)) 41));have hz3:w3.heap.size=w2.heap.size+1:=by{rw[hw3];simp};rw[<-hw3] at hn3 hk3 |-;obtain⟨B,hB⟩:=zX1 (w2.heap.size);rw[<-hB] at hn3 hz3 |-;have k03:=hk2.next hk3 (H:=λ_=>False) zI zI;have hS3:=(Star.lives _).keep H0.x1 k03 zI;have hru3:=hru.keep hk3 zI;have hwB:w.heap.size<=B:=by{rw[hB];exact hk2.size};obtain⟨t,X0,htv,-,-⟩:=y0M hS3 H0.x2;obtain⟨hbx,-⟩:=z0Y hS3;have c13:=(z0O hbx).2.2.2.2.2.2.2.2.2.2.2.2.2.1;rw[htv] at c13;have nlt:=z0J hbx;obtain⟨a0,a1,a2,a3,a4,af,ab⟩:=z0I hn3;have H3:=zB7 hS3 hru3 hou' k03 hn3 hz3 hwB htv;clear hw3 hB hk2 hk3 hn3 hz3 k03 hS3 hru3 hru hou' hwB hbx;go_wp2_with fail;have hk4:Keep zF w3 w3.drew:=(Keep.refl _ _).drew;refine z0F [] (by kernel_rfl) (by kernel_rfl) ?_
   repeat (first | (apply z0C (by rfl);(intro K w';go_simp;exact id)) | (apply z0L (by rfl);(intro K;go_simp;exact id)))
   clear c13 nlt a0 a1 a2 a3 a4 af ab;obtain⟨w4,hw4⟩:=zX1 (w3.drew);rw[<-hw4] at hk4 |-;clear hw4;have hS4:=(Star.lives _).keep H3.x1 hk4 zI;obtain⟨t',X,htv',hT,hXF,hcl⟩:=zmO hS4 H0.x2;have htt:t'=t:=by{have:=H3.y7;rw[htv'] at this;simpa [ptrV] using this};subst htt;have hok:=H0.x3;have hbg:=zoR w4 t' m.tab X hT hok.tab.uniq (Nat.lt_succ_of_le hok.tab.few) (λc hc=>(hok.bnd c hc).1) (λc hc=>by have:=(hok.bnd c hc).2;omega) a.id a.num ha1 ha2;obtain⟨R,hR⟩:=zX1 (z2W m.tab a.id a.num);rw[<-hR] at hbg;have H4:=zB4 hk4 hS4 hcl hXF hR;clear hk4 hS4 hT hcl hXF htv' hok hR;refine z0G (by rfl) (by rfl) (λK hK=>?_);go_simp;refine hbg.mono ?_;rintro e w5 ⟨v5,FT,rfl,hr5,ho5,hT5,hk5,hF5,hnil⟩;go_simp;refine hK _ _ ?_;clear hK K hbg
   repeat (apply z0C (by rfl);(intro K w';go_simp;exact id))
   refine z0P ?_;obtain⟨F5,hS5,hkF5,hF5'⟩:=H4.x3 w5 R.2 FT hT5 hk5 (λi z=>(hF5 i z).imp id λy z=>by have:=(Star.lives _).lt H4.x2 i z;omega);have k04:=H3.x4.next H4.x1 (H:=λ_=>False) zI zI;have hFl:=H0.y4;have s04:=k04.size;have hF50:∀ i,F5 i->F i∨w.heap.size<=i:=λi z=>by{rcases hF5' i z with y | y;{exact .inl y};{rcases hF5 i y with y | y;{exact .inl (H4.x4 i y)};{right;omega}}};have hv5:∀ k,v5.ownBlock=some k->w.heap.size<=k/\¬ F5 k:=λk e=>by{obtain⟨h1,h2⟩:=ho5 k e;exact⟨by omega,λz=>by rcases hF5' k z with y | y;(have:=hFl k y;omega);exact h2 y⟩};have hkw5:Keep F w w5:=k04.next hkF5 (H:=F) zE zI;have hB5:=hkF5.get (H4.x1.get H3.x5 id) (λz=>by have:=hFl _ z;have:=H3.x7;omega);have hu5:=(H3.x2.keep H4.x1 zI).keep hkF5 (λk e z=>by have:=hFl k z;have:=H3.x3 k e;omega);have hun:∀ k,(Value.slice uo dl uc).ownBlock=some k->w.heap.size<=k/\¬ F5 k:=λk e=>by{have h1:=H3.x3 k e;have h2:=H3.x2.lt e;have s34:=H4.x1.size;refine⟨h1,λz=>?_⟩;rcases hF5' k z with y | y;{have:=hFl k y;omega};{rcases hF5 k y with y | y;{have:=hFl k (H4.x4 k y);omega};{omega}}};have hBn:¬ F5 B:=λz=>by{have h2:=H3.x6;have s34:=H4.x1.size;rcases hF5' B z with y | y;{have:=hFl B y;have:=H3.x7;omega};{rcases hF5 B y with y | y;{have:=hFl B (H4.x4 B y);have:=H3.x7;omega};{omega}}};have H5:=zB9 hS5 hkw5 hF50 hv5 hr5 hB5 hu5 hun hBn hnil;clear hS5 hkF5 hF5' k04 hFl s04 hF50 hv5 hkw5 hr5 ho5 hT5 hk5 hF5 hB5 hu5 hun hBn hnil
   have hdo:doM m l=(if R.1.2.2≠0 then (none,{ m with tab:=R.2 }) else if R.1.1≠1 then (some R.1.2.1,{ m with tab:=R.2 })
     else (some (if a.rd then (AL.get m.data a.blk.toNat).getD [] else []),{ m with data:=if a.rd then m.data else AL.put m.data a.blk.toNat a.data,tab:=(endC R.2 a.id a.num (if a.rd then (AL.get m.data a.blk.toNat).getD [] else [])).2 })):=by
    unfold doM do2;rw[<-H0.x4];simp only;rw[<-H4.y4];split;{rfl};{split <;> rfl}
   have HDo:=hid hdo;clear hdo;by_cases he:R.1.2.2=0
   ·have z1:(R.1.2.2 != 0)=false:=by simp[he]
    have HE:=hid he;clear he;by_cases hk:R.1.1=1
    ·have z2:((R.1.1:Int) != 1)=false:=by simp;omega
     have HR1:=hid (show doM m l=(some (if a.rd then (AL.get m.data a.blk.toNat).getD [] else []),{ m with data:=if a.rd then m.data else AL.put m.data a.blk.toNat a.data,tab:=(endC R.2 a.id a.num (if a.rd then (AL.get m.data a.blk.toNat).getD [] else [])).2 }) by rw[HDo.o,if_neg (by rw[HE.o];decide),if_neg (by rw[hk];decide)]);have hrep:R.1.2.1 = []:=by{have h:=H4.y4;rw[h] at hk |-;exact zpV hk};have HRp:=hid hrep;have hv0:=H5.y9 (by omega);subst hv0;clear hrep hk;obtain⟨a0,a1,a2,a3,a4,af,ab⟩:=z0I H5.x6
     go_upto_if 41 with fail
     obtain⟨bn,hbn⟩:=zX1 (a.blk.toNat);have hbk:a.blk=(bn:Int):=by{omega};obtain⟨mb,X,l2,hdv,hM,hXF,hcl⟩:=zsF H5.x1 H0.x2;obtain⟨hbx,-⟩:=z0Y H5.x1;have c12:=(z0O hbx).2.2.2.2.2.2.2.2.2.2.2.2.1;rw[hdv] at c12;have nlt:=z0J hbx;rw[hbk] at a3;have hbn63:bn<9223372036854775808:=by{omega};have hkd:Keep zF w5 w5.drew:=(Keep.refl _ _).drew;have HBn:=zB1 hbn hbk
     go_cut [9] (λov wx=>∃ F6,zH (Star (memL q n d me { m with tab:=R.2,data:=if a.rd then m.data else AL.put m.data a.blk.toNat a.data } x) wx F6/\Keep F w wx/\(∀ i,F6 i->F i∨w.heap.size<=i)/\Row wx 5 1 ov (if a.rd then (AL.get m.data a.blk.toNat).getD [] else []).length (z0B (if a.rd then (AL.get m.data a.blk.toNat).getD [] else []))/\
      (∀ k,ov.ownBlock=some k->w.heap.size<=k/\¬ F6 k)/\wx.heap[B]?=some (.cells (askC a (.slice uo dl uc)) 41 (0,0))))
     case first=>
      obtain⟨rd,hrd⟩:=zX1 (a.rd);rw[<-hrd];have HRd:=hid hrd;rw[<-hrd] at a0;clear hrd hbn hbk z1 z2;cases rd with
      | true=>
        have hlook:=λw' (hp:Pre w5 w')=>(hM.map.pre hp).look1 zcX (t:=87) Tryz.underlying87 (e:=122) (z:=.agg #[.slice none 0 0]) (by rfl) bn hbn63;have hget:=z9M (λe:List UInt8×Value=>e.1) l2 bn;rw[hM.is] at hget;obtain⟨out,hout⟩:=zX1 ((AL.get m.data a.blk.toNat).getD []);have hval:∃ ru,((AL.get l2 bn).map (λe:List UInt8×Value=>(Value.agg #[e.2]))).getD (.agg #[.slice none 0 0]) = .agg #[ru]/\Row w5 5 1 ru out.length (z0B out):=by{rw[<-HBn.x1] at hout;cases hg:AL.get l2 bn with | none=>{rw[hg] at hget;rw[hget] at hout;refine⟨_,rfl,?_⟩;rw[hout];exact Row.nil _ _ _} | some e=>{rw[hg] at hget;rw[hget] at hout;refine⟨_,rfl,?_⟩;rw[hout];exact(hM.each _ (AL.get_mem hg)).1}};obtain⟨ru,hru1,hru2⟩:=hval;obtain⟨fo,fc,hff,-⟩:=hru2.form;subst hff;have hfld:∀ w',(Instr.field 122 (.agg #[.slice fo out.length fc]) 0).run Tryz.prog w' = .ok (.slice fo out.length fc) w':=λ_=>by{kernel_rfl};rw[hru1] at hlook;have hlook:∀ w',Pre w5 w'->(Instr.lookup 87 (.map (some mb)) (.int .i64 (bn:Int)) false).run Tryz.prog w' = .ok (.agg #[.slice fo out.length fc]) w':=hlook;have hol:out.length<=64:=by{rw[hout];exact H0.x3.rep _};have hcn:=zoJ w5.drew (.slice fo out.length fc) out (hru2.keep hkd zI) (by omega);have HO:=zB1 hout hol;clear hget hout hru1 hru2 hol hM hXF hcl hdv;go_wp2_with fail;refine z0F [] (by kernel_rfl) (by kernel_rfl) ?_
        repeat (first | (apply z0C (by rfl);(intro K w';go_simp;exact id)) | (apply z0L (by rfl);(intro K;go_simp;exact id)))
        (apply z4V (by rfl);(intro K w' hp;have hlk:=hlook w' ((Pre.refl _).drew.trans hp);go_simp;exact id))
        repeat (first | (apply z0C (by rfl);(intro K w';go_simp;exact id)) | (apply z0L (by rfl);(intro K;go_simp;exact id)))
        refine z0G (by rfl) (by rfl) (λK hK=>?_);go_simp;refine hcn.mono ?_;rintro e w6 ⟨v6,rfl,hr6,ho6,hk6⟩;go_simp;refine hK _ _ ?_;clear hK K hcn
        repeat (apply z0C (by rfl);(intro K w';go_simp;exact id))
        refine z0P ?_;have hk56:=hkd.next hk6 (H:=λ_=>False) zI zI;have HZ:=hid (show Star (memL q n d me { m with tab:=R.2,data:=m.data } x) w6 F5/\Keep F w w6/\(∀ i,F5 i->F i∨w.heap.size<=i)/\Row w6 5 1 v6 ((AL.get m.data a.blk.toNat).getD []).length (z0B ((AL.get m.data a.blk.toNat).getD []))/\ (∀ k,v6.ownBlock=some k->w.heap.size<=k/\¬ F5 k)/\w6.heap[B]?=some (.cells (askC a (.slice uo dl uc)) 41 (0,0)) from ⟨(Star.lives _).keep H5.x1 hk56 zI,H5.x2.next hk56 zI zE,H5.x3,by rw[<-HO.x1];exact hr6,λk e=>by{have h1:=ho6 k e;have h2:w5.drew.heap.size=w5.heap.size:=rfl;have h3:=H5.x2.size;exact⟨by omega,λz=>by have:=(Star.lives _).lt H5.x1 k z;omega⟩},hk56.get H5.x6 id⟩);clear hk56 hr6 ho6 hk6 hkd hlook hfld a0 a1 a2 a3 a4 af ab c12 nlt;go_wp2_with fail;go_meet;refine⟨F5,hid ?_⟩;rw[show a.rd=true from HRd.o.symm];simp only[if_true];exact HZ.o
      | false=>
        have hll:l2.length<maxLen:=by{have h1:l2.length=m.data.length:=by{rw[<-hM.is];simp};have h2:m.data.length<=63:=H0.x3.tab.fewd;unfold maxLen;omega};obtain⟨w6,hrun,hM6,hk6⟩:=(hM.map.keep hkd id).store zcX (t:=87) Tryz.underlying87 hll bn hbn63 (a.data,.slice uo dl uc);have hrun:(Instr.mapUpdate 87 (.map (some mb)) (.int .i64 (bn:Int)) (.agg #[.slice uo dl uc])).run Tryz.prog w5.drew = .ok () w6:=hrun
        have HZ:=hid (show ∃ F6,Star (memL q n d me { m with tab:=R.2,data:=AL.put m.data a.blk.toNat a.data } x) w6 F6/\Keep F w w6/\(∀ i,F6 i->F i∨w.heap.size<=i)/\Row w6 5 1 (.slice none 0 0) ([]:List UInt8).length (z0B [])/\
         (∀ k,(Value.slice none 0 0).ownBlock=some k->w.heap.size<=k/\¬ F6 k)/\w6.heap[B]?=some (.cells (askC a (.slice uo dl uc)) 41 (0,0)) from by
         obtain⟨hS5,hkw5,hF50,hv5,hr5,hB5,hu5,hun,hBn,-⟩:=H5.o;have hXm:X mb:=hM.own;have hmu:∀ k,(Value.slice uo dl uc).ownBlock=some k->k≠mb:=λk e z=>(hun k e).2 (hXF _ (z ▸ hXm));have hP:=BMap.push (at_:=bn) (x:=a.data) (u:=.slice uo dl uc) ((zbO 3 keI (λ(_:List UInt8) u=>.agg #[u]) (λe=>e) mb m.data).2.keep (⟨l2,hM⟩:(zbO 3 keI (λ(_:List UInt8) u=>.agg #[u]) (λe=>e) mb m.data).1 w5 X) hkd zI |> λ_=>(⟨hM.is,hM.map.keep hkd id,hM.own,λe he=>let ⟨y1,y2⟩:=hM.each e he;⟨y1.keep hkd zI,y2⟩,λj z=>hM.lt j z⟩:BMap 3 keI (λ(_:List UInt8) u=>.agg #[u]) (λe=>e) mb m.data w5.drew X l2)) (by have h:=hu5.keep hkd zI;rw[<-HD.o];exact h) hmu hM6 hk6;have hk56:Keep X w5 w6:=hkd.next hk6 (H:=X) zE (λk _ z=>by have z':k=mb:=z;subst z';exact hXm);obtain⟨F6,y1,y2,y3⟩:=hcl w6 (AL.put m.data bn a.data) (λk=>X k∨(Value.slice uo dl uc).ownBlock=some k) ⟨_,hP⟩ hk56 (λk z=>z.imp id λz=>(hun k z).2);refine⟨F6,by rw[<-HBn.x1];exact y1,hkw5.next y2 zI (λk hk z=>by rcases hF50 k z with y | y;exact y;omega),λk z=>?_,Row.nil _ _ _,λk e=>by simp[Value.ownBlock] at e,hk56.get hB5 (λz=>hBn (hXF _ z))⟩
         ·rcases y3 k z with y | y | y
          {exact hF50 k y};{exact hF50 k (hXF k y)}
          ·exact .inr (hun k y).1)
        clear hM hXF hcl hdv hll hM6 hk6;go_wp2_with fail;refine z0F [] (by kernel_rfl) (by kernel_rfl) ?_
        repeat (first | (apply z0C (by rfl);(intro K w';go_simp;exact id)) | (apply z0L (by rfl);(intro K;go_simp;exact id)))
        (refine z0G (by rfl) (by rfl) (λK hK=>?_);go_simp;refine hK _ _ ?_;clear hK K)
        refine z0P ?_;clear hrun hkd a0 a1 a2 a3 a4 af ab c12 nlt;go_wp2_with fail;go_meet;obtain⟨F6,hz⟩:=HZ.o;refine⟨F6,hid ?_⟩;rw[show a.rd=false from HRd.o.symm];simp only[Bool.false_eq_true,if_false];exact hz
     case rest=>(obtain⟨F6,HZ⟩:=hcut;obtain⟨DT,hDT⟩:=zX1 ((if a.rd then m.data else AL.put m.data a.blk.toNat a.data));obtain⟨OUT,hOUT⟩:=zX1 ((if a.rd then (AL.get m.data a.blk.toNat).getD [] else []));have hR1:=HR1.o;rw[<-hDT,<-hOUT] at HZ hR1;have hol:OUT.length<=64:=by{rw[hOUT];split;{exact H0.x3.rep _};{exact Nat.zero_le _}};clear hM hXF hcl hdv hkd hbx HR1 hbn hbk z1 z2 a0 a1 a2 a3 a4 af ab c12 nlt hDT hOUT;have HR:=hid hR1;clear hR1;obtain⟨ro,rc,hrf,-⟩:=HZ.x4.form;subst hrf;obtain⟨ol,holq⟩:=zX1 (OUT.length);have HO:=zB1 holq hol;obtain⟨t6,X6,htv6,hT6,hX6,hcl6⟩:=zmO HZ.x1 H0.x2;obtain⟨hbx,-⟩:=z0Y HZ.x1;have c13:=(z0O hbx).2.2.2.2.2.2.2.2.2.2.2.2.2.1;rw[htv6] at c13;have nlt:=z0J hbx;obtain⟨a0,a1,a2,a3,a4,af,ab⟩:=z0I HZ.y5;have hkd:Keep zF wc wc.drew:=(Keep.refl _ _).drew;have hRu:UniqC R.2:=by{rw[H4.y4];exact H0.x3.tab.uniq.begin _ _};have hRl:R.2.length<=64:=by{rw[H4.y4];have h1:=zfD m.tab a.id a.num;have h2:m.tab.length<=63:=H0.x3.tab.few;omega};have hRb:TabB R.2:=by{rw[H4.y4];exact H0.x3.bnd.begin _ _ ha1};have hX6n:∀ k,(Value.slice ro OUT.length rc).ownBlock=some k->¬ X6 k:=λk e z=>(HZ.x5 k e).2 (hX6 k z);have hen:=zxB wc.drew t6 R.2 X6 ((z4B t6 R.2).2.keep hT6 hkd zI) hRu hRl (λc hc=>(hRb c hc).1) a.id a.num ha1 OUT ro ol rc holq (by rw[holq];omega) (λw' hk'=>by{have h:=(HZ.x4.keep hkd zI).keep hk' (λk e z=>hX6n k e z);rw[holq];exact Cells.of_row h});rw[<-holq];have H6:=zB3 hX6 hcl6 hX6n hkd;clear hT6 hX6 hcl6 hX6n hkd hRu hRl hRb htv6 holq hol;go_wp2_with fail;refine z0F [] (by kernel_rfl) (by kernel_rfl) ?_;(repeat (first | (apply z0C (by rfl);(intro K w';go_simp;exact id)) | (apply z0L (by rfl);(intro K;go_simp;exact id))));refine z0G (by rfl) (by rfl) (λK hK=>?_);go_simp;refine hen.mono ?_;rintro e w7 ⟨rfl,ht7⟩;go_simp;refine hK _ _ ?_;clear hK K hen;(repeat (apply z0C (by rfl);(intro K w';go_simp;exact id)));refine z0P ?_;have HT7:=hid ht7;clear ht7 c13 nlt a0 a1 a2 a3 a4 af ab;go_wp2_with fail;rw[HP.o,HR.o];obtain⟨FT7,y1,y2,y3⟩:=HT7.o;obtain⟨hX6,hcl6,hX6n,hkd⟩:=H6.o;have y2':Keep X6 wc w7:=hkd.next y2 (H:=X6) zE zI;have hsz:wc.drew.heap.size=wc.heap.size:=rfl;obtain⟨F7,p1,p2,p3⟩:=hcl6 w7 _ FT7 y1 y2' (λk z=>(y3 k z).imp id λz q=>by have:=(Star.lives _).lt HZ.x1 k q;omega);have hszw:=HZ.x2.size;refine⟨.slice ro ol rc,F7,rfl,?_,λk e=>?_,p1,HZ.x2.next p2 zI (λk hk z=>by rcases HZ.x3 k z with y | y;exact y;omega),λk z=>?_⟩;{rw[HO.x1];exact HZ.x4.keep y2' (λk e z=>hX6n k e z)};{rw[HO.x1] at e;obtain⟨h1,h2⟩:=HZ.x5 k e;refine⟨h1,λz=>?_⟩;rcases p3 k z with y | y;{exact h2 y};{rcases y3 k y with y | y;{exact hX6n k e y};{have:=HZ.x4.lt e;omega}}};{rcases p3 k z with y | y;{exact HZ.x3 k y};{rcases y3 k y with y | y;{exact HZ.x3 k (hX6 k y)};{right;omega}}})
    {have z2:((R.1.1:Int) != 1)=true:=by{simp;omega};have HR:=hid (show doM m l=(some R.1.2.1,{ m with tab:=R.2 }) by rw[HDo.o,if_neg (by rw[HE.o];decide),if_pos hk]);have z3:(R.1.2.2 == 0)=true:=by{simp[HE.o]};clear hk;go_wp2_with fail;rw[HP.o,HR.o];exact⟨v5,F5,rfl,H5.x5,H5.x4,H5.x1,H5.x2,H5.x3⟩}
   {have z1:(R.1.2.2 != 0)=true:=by{simp[he]};have z3:(R.1.2.2 == 0)=false:=by{simp[he]};have HR:=hid (show doM m l=(none,{ m with tab:=R.2 }) by rw[HDo.o,if_pos he]);have hrep:R.1.2.1 = []:=by{have h:=H4.y4;rw[h] at he |-;exact zoB he};have HRp:=hid hrep;clear he hrep;go_wp2_with fail;rw[HP.o,HR.o];refine⟨v5,F5,rfl,?_,H5.x4,H5.x1,H5.x2,H5.x3⟩;have h:=H5.x5;rw[HRp.o] at h;exact h}
end
section
open Go.RowKit Go.Maps
open MI SO BM DM WM AC GR
theorem GR.TabOk.mono{n n':Nat}{s:List (Nat×List UInt8)×List Cl}(h:TabOk n s)(hn:n<=n'):TabOk n' s:=⟨h.uniq,Nat.le_trans h.few hn,h.data,Nat.le_trans h.fewd hn⟩
theorem TabB.step{s:List (Nat×List UInt8)×List Cl}{n:Nat}(h:TabB s.2)(hd:TabOk n s)(v:List UInt8):TabB (do2 s v).2.2:=by
 unfold do2;split
 ·exact h
 rename_i a ha;have hid:=(zqY ha).1;have hb:=h.begin a.id a.num hid;simp only;split
 ·exact hb
 split
 ·exact hb
 refine hb.fin _ _ hid _ ?_;split
 ·cases hg:AL.get s.1 a.blk.toNat with
  | none=>exact Nat.zero_le _
  | some u=>exact(hd.data _ (AL.get_mem hg)).2
 ·exact Nat.zero_le _
theorem BoxA.put{p i:Nat}{cs:Array Value}{t:TypeId}{w:World}{X:Nat->Prop}(h:BoxA p cs t w X)(v:Value):BoxA p (cs.setIfInBounds i v) t (w.setCell ⟨p,i,none⟩ v) X/\Keep X w (w.setCell ⟨p,i,none⟩ v):=by
 have hk:Keep (λk=>k=p) w (w.setCell ⟨p,i,none⟩ v):=kst;exact⟨⟨heap_setCell_same w p i _ _ _ h.1,h.2.1,λk x=>Nat.lt_of_lt_of_le (h.2.2 k x) hk.size⟩,hk.mono λk _ e=>by subst e;exact h.2.1⟩
theorem ztW{q:Qm}{n d me:Nat}{m:Mb}{x:MemV}{w:World}{F:Nat->Prop}(h:Star (memL q n d me m x) w F):∃ us X,Rcs z8B w X x.sv m.said us/\(∀ i,X i->F i)/\
  ∀ w1 v' l' X',(zrS z8B v' l').1 w1 X'->Keep X w w1->(∀ i,X' i->X i∨¬ F i)->∃ F',Star (memL q n d me { m with said:=l' } { x with sv:=v' }) (w1.setCell ⟨n,14,none⟩ v') F'/\Keep F w (w1.setCell ⟨n,14,none⟩ v')/\∀ i,F' i->F i∨X' i:=by
 obtain⟨X,⟨⟨us,hA⟩,hl⟩,hX,t⟩:=h.opnX 7 rfl;obtain⟨hbx,hnF⟩:=z0Y h;refine⟨us,X,hA,hX,λw1 v' l' X' h1 h2 h3=>?_⟩;obtain⟨F1,p1,p2,p3⟩:=t w1 (zrS z8B v' l') X' h1 h2 h3;obtain⟨Y,hB,hYF,t2⟩:=p1.opnX 0 rfl;obtain⟨b1,b2⟩:=BoxA.put hB (i:=14) v';obtain⟨F2,c1,c2,c3⟩:=t2 _ (z4W n (memC d me { m with said:=l' } { x with sv:=v' }) 90) Y b1 b2 (λi z=>.inl z);refine⟨F2,c1,Keep.setCell p2 (.inl hnF) _,λi z=>?_⟩;rcases c3 i z with y | y;{exact p3 i y};{exact p3 i (hYF i y)}
theorem zwD{q:Qm}{n d me:Nat}{m:Mb}{x:MemV}{w:World}{F:Nat->Prop}(h:Star (memL q n d me m x) w F)(hu:m.up=true):∃ a X,x.lv=ptrV a/\RlAt w a X m.log/\(∀ i,X i->F i)/\
  ∀ w' g' X',RlAt w' a X' g'->Keep X w w'->(∀ i,X' i->X i∨¬ F i)->∃ F',Star (memL q n d me { m with log:=g' } x) w' F'/\Keep F w w'/\∀ i,F' i->F i∨X' i:=by
 obtain⟨X,hA,hX,t⟩:=h.opnX 4 rfl;rw[hu] at hA;obtain⟨a,e,hA⟩:=hA;refine⟨a,X,e,hA,hX,λw' g' X' h1 h2 h3=>?_⟩;obtain⟨F',h6,h7,h8⟩:=t w' (logP x.lv g' true) X' ⟨a,e,h1⟩ h2 h3;have e3:(memL q n d me m x).set 4 (logP x.lv g' true)=memL q n d me { m with log:=g' } x:=by{cases m;dsimp only at hu;subst hu;rfl};rw[e3] at h6;exact⟨F',h6,h7,h8⟩
theorem zsG{q:Qm}{n d me:Nat}{m:Mb}{x:MemV}{w:World}{F:Nat->Prop}(h:Star (memL q n d me m x) w F)(s:Nat)(hs:s<18446744073709551616):∃ st,(∀ w',Pre w w'->(Instr.lookup 85 x.kv (.int .u64 (s:Int)) true).run Tryz.prog w' = .ok (.tuple #[.agg #[.string st],.bool (AL.get m.asks s).isSome]) w')/\
  ∀ b,AL.get m.asks s=some b->st=str b:=by
 cases hp:m.p with | none=>{obtain⟨-,hk,ha⟩:=zdL h hp;rw[hk,ha];exact⟨_,λw' _=>rfl,λb e=>by cases e⟩} | some p=>{obtain⟨b,X,hk,hM,-⟩:=zmI h hp;rw[hk];have hl:=λw' (hpre:Pre w w')=>(hM.pre hpre).look2 z5R (t:=85) Tryz.underlying85 (e:=113) (z:=.agg #[.string { data:=#[] }]) (by rfl) s hs;cases hg:AL.get m.asks s with | none=>{rw[hg] at hl;exact⟨_,λw' hw=>hl w' hw,λb e=>by cases e⟩} | some u=>{rw[hg] at hl;exact⟨str u,λw' hw=>hl w' hw,λb e=>by cases e;rfl⟩}}
theorem zfT{m:Mb}{e:RM.Ent}{g:RM.Lg}(hr:RM.Rising m.log.l)(h:RM.apply m.log=(some e,g)):z2Y m=z2Y (sayM { m with log:=g } e)/\g.ap=m.log.ap+1/\z2H m.log=z2H g+1/\g.l=m.log.l/\e.1=m.log.ap+1:=by
 unfold RM.apply at h;cases hk:RM.kept m.log.l (m.log.ap+1) with | none=>{rw[hk] at h;cases h} | some v=>{rw[hk] at h;cases h;obtain⟨b1,b2⟩:=z6X hr (z6H hk);have ha:z2H m.log=z2H { m.log with ap:=m.log.ap+1 } + 1:=by{unfold z2H;simp only;omega};have hs:(sayM { m with log:={ m.log with ap:=m.log.ap+1 } } (m.log.ap+1,v)).log = { m.log with ap:=m.log.ap+1 }:=by{rw[z4G]};refine⟨?_,rfl,ha,rfl,rfl⟩;unfold z2Y;rw[hs,ha,appN];unfold RM.apply;rw[hk]}
theorem zoZ{m:Mb}{g:RM.Lg}(h:RM.apply m.log=(none,g)):z2Y m=m/\g=m.log:=by
 unfold RM.apply at h;cases hk:RM.kept m.log.l (m.log.ap+1) with | some v=>{rw[hk] at h;cases h} | none=>{rw[hk] at h;cases h;refine⟨?_,rfl⟩;unfold z2Y;cases z2H m.log with | zero=>{rfl} | succ k=>{rw[appN];unfold RM.apply;rw[hk]}}
theorem zlP:SliceTy Tryz.prog 45 48 (.agg #[.int .u64 0,.int .u64 0,.int .u64 0,.slice none 0 0]) 4 48:=⟨by kernel_rfl,by kernel_rfl,rfl,by decide⟩
structure ApIn (w:World) (q:Qm) (n d me:Nat) (m:Mb) (x:MemV) (F:Nat→Prop) (L:Nat) (mr:Mb) (sv:Value) (F':Nat→Prop) (wr:World):Prop where
 star:Star (memL q n d me mr { x with sv:=sv }) wr F'
 same:z2Y mr=z2Y m
 up:mr.up=true
 keep:Keep F w wr
 new:∀ i,F' i→F i∨w.heap.size≤i
 tab:TabOk mr.log.ap (mr.data,mr.tab)
 bnd:TabB mr.tab
 far:mr.log.ap+z2H mr.log=L
 few:mr.said.length≤1000+mr.log.ap
theorem y0N(m:Mb)(e:RM.Ent):(repM m e).length<=1:=by
 unfold repM;split;{split <;> simp};{simp}
theorem ApIn.next{w:World}{q:Qm}{n d me:Nat}{m:Mb}{x:MemV}{F:Nat->Prop}{L:Nat}{mr:Mb}{sv:Value}{F1:Nat->Prop}{wr:World}(h:ApIn w q n d me m x F L mr sv F1 wr){e:RM.Ent}{g':RM.Lg}(hap:RM.apply mr.log=(some e,g'))(hrs:RM.Rising mr.log.l){sv':Value}{F5:Nat->Prop}{w':World}(hS:Star (memL q n d me (sayM { mr with log:=g' } e) { x with sv:=sv' }) w' F5)(hk:Keep F w w')(hn:∀ i,F5 i->F i∨w.heap.size<=i):ApIn w q n d me m x F L (sayM { mr with log:=g' } e) sv' F5 w'/\mr.log.ap<L/\(sayM { mr with log:=g' } e).log.ap=mr.log.ap+1:=by
 obtain⟨h1,h2,h3,h4,h5⟩:=zfT hrs hap;have hl:(sayM { mr with log:=g' } e).log=g':=by{rw[z4G]};have hfar:=h.far;refine⟨⟨hS,h1 ▸ h.same,by rw[z4G];exact h.up,hk,hn,?_,?_,by rw[hl];omega,?_⟩,by omega,by rw[hl];exact h2⟩;{rw[hl,h2,z4G];exact h.tab.step e.2};{rw[z4G];exact TabB.step h.bnd h.tab e.2};{rw[hl,h2,z4G];have h6:=y0N { mr with log:=g' } e;have h7:=h.few;simp only[List.length_append];omega}
theorem zbT{q:Qm}{n d me:Nat}{m:Mb}{x:MemV}{w:World}{F:Nat->Prop}(h:Star (memL q n d me m x) w F)(hu:m.up=true){lb:Nat}(hlv:x.lv=ptrV lb):(w.cell? ⟨lb,0,none⟩).getD (.int .u64 0) = .int .u64 (m.log.ap:Int):=by
 obtain⟨a,X,e,⟨v,us,hI⟩,-⟩:=z5N h hu;have e2:a=lb:=by{rw[hlv] at e;simpa [ptrV] using e.symm};subst e2;rw[(z1Y hI.head).1];rfl
def ApPost(q:Qm)(n d me:Nat)(m':Mb)(x:MemV)(F:Nat→Prop)(w:World)(e:Ending)(w':World):Prop:=e = .returned (.tuple #[])∧∃ sv,Turns (Star (memL q n d me m' { x with sv:=sv })) F w w'
theorem zbA(w:World)(q:Qm)(n d me:Nat)(m:Mb)(x:MemV)(F:Nat→Prop)(h:Star (memL q n d me m x) w F)(hu:m.up=true)(hT:TabOk m.log.ap (m.data,m.tab))(hB:TabB m.tab)(hL:m.log.ap+z2H m.log≤62)(hsd:m.said.length≤1000):Calls Tryz.prog 82 #[.pointer (some ⟨n,0,none⟩)] w (ApPost q n d me (z2Y m) x F w):=by
 refine zPo fun Post HP=>?_;obtain⟨lb,X0,hlv,-⟩:=z5N h hu;obtain⟨L,hLq⟩:=zX1 (m.log.ap+z2H m.log);rw[← hLq] at hL;have HS:=hid (show ApIn w q n d me m x F L m x.sv F w from⟨h,rfl,hu,Keep.refl _ _,fun _ z=>.inl z,hT,hB,hLq.symm,by omega⟩);have H0:=zB2 h hlv hu;clear h hT hB hlv hu hLq hsd
 go_in
 go_wp2_with fail
 go_loopw [] (fun wr=>∃ mr sv F',zH (ApIn w q n d me m x F L mr sv F' wr)) (fun wr=>L - (intOf ((wr.cell? ⟨lb,0,none⟩).getD (.int .u64 0))).toNat)
 case atStart=>exact⟨m,x.sv,F,HS⟩
 case round=>
  obtain⟨mr,sv,F1,HR⟩:=hrel;obtain⟨lb',X,hlv',hRl,hXF,hcl⟩:=zwD HR.o.star HR.o.up
  have hlb:lb'=lb:=by
   have h1:x.lv=ptrV lb':=hlv';rw[H0.x2] at h1;simpa [ptrV] using h1.symm
  subst hlb;obtain⟨lvv,lus,hLI⟩:=hRl
  have hap0:(wr.cell? ⟨lb',0,none⟩).getD (.int .u64 0) = .int .u64 (mr.log.ap:Int):=by
   have h1:=(z1Y hLI.head).1;rw[h1];rfl
  have hrs:=hLI.ok.rising;have hok:=hLI.ok;obtain⟨hbx,-⟩:=z0Y HR.o.star;have c11:=(z0O hbx).2.2.2.2.2.2.2.2.2.2.2.1;rw[show ({ x with sv:=sv }:MemV).lv=ptrV lb' from hlv'] at c11;have nlt:=z0J hbx;have hapc:=zqU wr lb' X mr.log ⟨lvv,lus,hLI⟩;obtain⟨A,hA⟩:=zX1 (RM.apply mr.log);rw[← hA] at hapc;obtain⟨o,g'⟩:=A;have H1:=zB5 hXF hcl hap0 hrs hok hA;clear hlv' hLI hXF hcl hap0 hrs hok hA hbx;go_wp2_with fail;refine hapc.mono ?_;rintro e w2 ⟨hAp,hR2,hk2⟩
  cases o with
  | none=>
    have hAp:e = .returned (.tuple #[.agg #[.int .u64 0,.slice none 0 0],.bool false]):=hAp;subst hAp;have hap:=zoZ H1.y5.symm
    have HZ:=hid (show ∃ sv,Turns (Star (memL q n d me (z2Y m) { x with sv:=sv })) F w (w2.alloc (.cells #[.int .u64 0,.slice none 0 0] 127)) from by
     obtain⟨F2,p1,p2,p3⟩:=H1.x2 w2 g' X hR2 hk2 (fun i z=>.inl z);have e1:({ mr with log:=g' }:Mb)=mr:=by rw[hap.2]
     rw[e1] at p1;have hk3:=kal w2 (.cells #[.int .u64 0,.slice none 0 0] 127);refine⟨sv,F2,?_,?_,fun i z=>?_⟩
     ·rw[← HR.o.same,hap.1]
      exact(Star.lives _).keep p1 hk3 zI
     ·exact(HR.o.keep.next p2 zI (fun k hk z=>by rcases HR.o.new k z with y | y;exact y;omega)).next hk3 zI zE
     ·rcases p3 i z with y | y
      ·exact HR.o.new i y
      ·exact HR.o.new i (H1.x1 i y))
    clear hapc hR2 hk2 hap c11 nlt;go_wp2_with fail
    go_end0
    rw[HP.o];exact⟨rfl,HZ.o⟩
  | some ent=>
    obtain⟨s,val⟩:=ent;obtain⟨ao,c,rfl,hrv,hov⟩:=hAp;simp only at hrv hov;obtain⟨hst,hg1,hg2,hg3,hg4⟩:=zfT H1.x4 H1.y5.symm;obtain⟨vl,hvl⟩:=zX1 (val.length);rw[← hvl] at hrv hov ⊢;have hs64:s<18446744073709551616:=by have:=H1.x5.ap;simp only at hg4;omega
    obtain⟨F2,hS2,hkF2,hF2⟩:=H1.x2 w2 g' X hR2 hk2 (fun i z=>.inl z);have hF21:∀ i,F2 i→F1 i:=fun i z=>(hF2 i z).elim id (H1.x1 i)
    have hv100:vl≤100:=by
     have h1:RM.kept mr.log.l (mr.log.ap+1)=some val:=by
      have h:=H1.y5;unfold RM.apply at h
      cases hk:RM.kept mr.log.l (mr.log.ap+1) with
      | none=>rw[hk] at h;cases h
      | some v=>rw[hk] at h;cases h;rfl
     rw[hvl];exact H1.x5.vals _ (z6H h1)
    have hn3:=heap_alloc_new w2 (.cells #[.int .u64 (s:Int),.slice ao vl c] 127);have hk3:=kal w2 (.cells #[.int .u64 (s:Int),.slice ao vl c] 127);have HVl:=hid hvl;have hwr:=HR.o.keep.size;have hw2:=hk2.size
    have H2:=hid (show Star (memL q n d me { mr with log:=g' } { x with sv:=sv }) w2 F2∧(∀ i,F2 i→F i∨w.heap.size≤i)∧Keep F w w2∧Row w2 5 1 (.slice ao vl c) vl (z0B val)∧(∀ k,(Value.slice ao vl c).ownBlock=some k→w.heap.size≤k∧¬ F2 k) from
     ⟨hS2,fun i z=>HR.o.new i (hF21 i z),HR.o.keep.next hkF2 zI (fun k hk z=>by rcases HR.o.new k z with y | y;exact y;omega),hrv,fun k e=>⟨by have:=hov k e;omega,fun z=>by have h1:=(Star.lives _).lt HR.o.star k (hF21 k z);have:=hov k e;omega⟩⟩)
    have HG:=zB4 hst hg1 hg2 hg3 hg4;clear hapc hR2 hk2 hS2 hkF2 hF2 hF21 hrv hov hst hg1 hg2 hg3 hg4 hvl c11 nlt hwr hw2
    go_upto_region 2 with fail
    obtain⟨w3,hw3⟩:=zX1 (w2.alloc (.cells #[.int .u64 (s:Int),.slice ao vl c] 127));rw[← hw3] at hn3 hk3 ⊢;clear hw3;obtain⟨Be,hBe⟩:=zX1 (w2.heap.size);rw[← hBe] at hn3 ⊢;obtain⟨m2,hm2⟩:=zX1 (({ mr with log:=g' }:Mb));have hup2:m2.up=true:=by rw[hm2];exact HR.o.up
    have hok2:MbOk m2:=by
     have hfar:=HR.o.far;have hg:=HG.o;rw[hm2];exact⟨HR.o.tab.mono (by omega),HR.o.bnd⟩
    have hS3:=(Star.lives _).keep H2.x1 hk3 zI;rw[← hm2] at hS3;have hr3:=H2.x4.keep hk3 zI;have hdo:=y1B w3 q n d me m2 _ F2 hS3 hup2 hok2 val ao vl c (Cells.of_row hr3) (by omega);obtain⟨R,hR⟩:=zX1 (doM m2 val);rw[← hR] at hdo;obtain⟨d0,d1,df,-⟩:=z1Y hn3
    have hBe2:w.heap.size≤Be∧¬ F2 Be:=by
     have h1:=H2.x3.size;exact⟨by omega,fun z=>by have:=(Star.lives _).lt H2.x1 Be z;omega⟩
    have H3:=zB7 hS3 hr3 hk3 hn3 hR hm2 hBe2 hBe;clear hS3 hr3 hk3 hn3 hR hm2 hup2 hok2 hBe2 hBe;go_wp2_with fail;refine hdo.mono ?_;rintro e w4 ⟨v4,F4,rfl,hr4,ho4,hS4,hk4,hF4⟩;obtain⟨st,hlook,hste⟩:=zsG hS4 s hs64;have hsz3:=H3.x3.size;have hsw:=H2.x3.size;have hBe4:=hk4.get H3.x4 H3.x7.2;have hv4:=H3.x2.keep hk4 (fun k e z=>(H2.y4 k e).2 z)
    have H4:=hid (show Star (memL q n d me R.2 { x with sv:=sv }) w4 F4∧Row w4 5 1 v4 (R.1.getD []).length (z0B (R.1.getD []))∧(∀ k,v4.ownBlock=some k→w.heap.size≤k∧¬ F4 k)∧(∀ i,F4 i→F i∨w.heap.size≤i)∧Keep F w w4∧
      w4.heap[Be]?=some (.cells #[.int .u64 (s:Int),.slice ao vl c] 127 (0,0))∧¬ F4 Be∧Row w4 5 1 (.slice ao vl c) vl (z0B val)∧(∀ k,(Value.slice ao vl c).ownBlock=some k→w.heap.size≤k∧¬ F4 k)∧(∀ b,AL.get R.2.asks s=some b→st=str b) from
     ⟨hS4,hr4,fun k e=>⟨by have:=(ho4 k e).1;omega,(ho4 k e).2⟩,fun i z=>by rcases hF4 i z with y | y;exact H2.x2 i y;(right;omega),
      (H2.x3.next H3.x3 (H:=F) zI zE).next hk4 zI (fun k hk z=>by rcases H2.x2 k z with y | y;exact y;omega),hBe4,fun z=>by rcases hF4 Be z with y | y;exact H3.x7.2 y;(have:=z0J H3.x4;omega),hv4,fun k e=>⟨(H2.y4 k e).1,fun z=>by rcases hF4 k z with y | y;exact(H2.y4 k e).2 y;(have:=H3.x2.lt e;omega)⟩,hste⟩)
    obtain⟨ha,hhb⟩:∃ hb,hb=(AL.get R.2.asks s).isSome:=⟨_,rfl⟩;rw[← hhb] at hlook;obtain⟨hbx,-⟩:=z0Y H4.x1;have c10:=(z0O hbx).2.2.2.2.2.2.2.2.2.2.1;have nlt:=z0J hbx;obtain⟨d0',d1',df',-⟩:=z1Y hBe4;have HB:=hid hhb;clear hdo hr4 ho4 hS4 hk4 hF4 hste hBe4 hv4 hhb hbx d0 d1 df hsz3 hsw;go_wp2_with (at_builtin;refine z0Q ?_;intro q hq);have hkd:Keep zF w4 w4.drew:=(Keep.refl _ _).drew;refine z0F [] (by kernel_rfl) (by kernel_rfl) ?_
    repeat (first | (apply z0C (by rfl);(intro K w';go_simp;exact id)) | (apply z0L (by rfl);(intro K;go_simp;exact id)))
    (apply z4V (by rfl);(intro K w' hp;have hlk:=hlook w' ((Pre.refl _).drew.trans hp);go_simp;exact id))
    repeat (first | (apply z0C (by rfl);(intro K w';go_simp;exact id)) | (apply z0L (by rfl);(intro K;go_simp;exact id)))
    (refine z3S (by rfl) (by rfl) (fun K hK=>?_);go_simp;refine hK _ _ (Pre.push _ rfl) ?_;clear hK K)
    (refine z0G (by rfl) (by rfl) (fun K hK=>?_);go_simp;refine hK _ _ ?_;clear hK K)
    repeat (apply z0C (by rfl);(intro K w';go_simp;exact id))
    refine z0P ?_;have hn5:=heap_alloc_new w4 (.cells #[.string st] 113);have hk5:Keep zF w4 (w4.alloc (.cells #[.string st] 113)).drew:=((Keep.refl _ _).alloc _).drew;obtain⟨w5,hw5⟩:=zX1 ((w4.alloc (.cells #[.string st] 113)).drew);have hn5:w5.heap[w4.heap.size]?=some (.cells #[.string st] 113 (0,0)):=by rw[hw5];exact hn5
    rw[← hw5] at hk5 ⊢;clear hw5;have hS5:=(Star.lives _).keep H4.x1 hk5 zI;have hBe5:=hk5.get H4.x6 id;have hv5:=H4.x8.keep hk5 zI;have hkw5:=H4.x5.next hk5 (H:=F) zI zE;obtain⟨s0,sf⟩:w5.cell? ⟨w4.heap.size,0,none⟩=some (.string st)∧∀ o,w5.frozen? ⟨w4.heap.size,o,none⟩=false:=by constructor <;> simp[World.cell?,World.frozen?,hn5]
    obtain⟨e0,e1,ef,-⟩:=z1Y hBe5;have hsay:sayM m2 (s,val) = { R.2 with said:=R.2.said ++ repM m2 (s,val) }:=by rw[z4G,H3.x5];rfl
    have hm2:=H3.x6
    have hquiet:repM m2 (s,val) = []→∃ mr' sv' F',zH (ApIn w q n d me m x F L mr' sv' F' w5∧L - mr'.log.ap<L - mr.log.ap):=fun hq=>by
     have e9:sayM m2 (s,val)=R.2:=by rw[hsay,hq,List.append_nil]
     obtain⟨p1,p2,p3⟩:=HR.o.next H1.y5.symm H1.x4 (sv':=sv) (F5:=F4) (w':=w5) (by rw[← hm2,e9];exact hS5) hkw5 H4.x4;exact⟨_,sv,F4,hid ⟨p1,by rw[p3];omega⟩⟩
    have HQ:=hid hquiet;have H5:=zB6 hS5 hBe5 hv5 hkw5 hk5 hsay hm2;clear hquiet hS5 hBe5 hkw5 hk5 hsay hm2 hkd hlook c10 nlt d0' d1' df' hn5;obtain⟨ib,hib⟩:=zX1 (R.1.isSome);rw[← hib];have HIb:=hid hib;clear hib
    cases ib with
    | false=>
      obtain⟨mr',sv',F',HZ⟩:=HQ.o (by
       unfold repM
       have h1:(do2 (m2.data,m2.tab) val).1=none:=by
        have h2:=HIb.o;rw[H3.x5] at h2;unfold doM at h2
        cases hq:(do2 (m2.data,m2.tab) val).1 with
        | none=>rfl
        | some z=>rw[hq] at h2;cases h2
       rw[h1])
      clear hv5;go_wp2_with (at_builtin;refine z0Q ?_;intro q hq);go_roundw
      case rel=>exact⟨mr',sv',F',hid HZ.x1⟩
      case measure=>
       rw[zbT HR.o.star HR.o.up (x:={ x with sv:=sv }) H0.x2,zbT HZ.x1.star HZ.x1.up (x:={ x with sv:=sv' }) H0.x2];simpa [intOf] using HZ.y1
    | true=>
      obtain⟨out,hout⟩:∃ out,R.1=some out:=by
       have h:=HIb.o
       cases hq:R.1 with
       | none=>rw[hq] at h;cases h
       | some z=>exact⟨z,rfl⟩
      have hd1:(do2 (m2.data,m2.tab) val).1=some out:=by
       have h:=H3.x5;rw[← hout,h];rfl
      have has2:m2.asks=R.2.asks:=by rw[H3.x5];rfl
      obtain⟨a,hda⟩:∃ a,decK val=some a:=by
       cases hq:decK val with
       | some z=>exact⟨z,rfl⟩
       | none=>
         unfold do2 at hd1;rw[hq] at hd1;cases hd1
      cases ha with
      | false=>
        obtain⟨mr',sv',F',HZ⟩:=HQ.o (by
         unfold repM
         have h1:AL.get m2.asks s=none:=by
          rw[has2];have h:=HB.o
          cases hq:AL.get R.2.asks s with
          | none=>rfl
          | some z=>rw[hq] at h;cases h
         simp only
         rw[hd1,h1])
        clear hv5 hout hd1 has2 hda;go_wp2_with (at_builtin;refine z0Q ?_;intro q hq);go_roundw
        case rel=>exact⟨mr',sv',F',hid HZ.x1⟩
        case measure=>
         rw[zbT HR.o.star HR.o.up (x:={ x with sv:=sv }) H0.x2,zbT HZ.x1.star HZ.x1.up (x:={ x with sv:=sv' }) H0.x2];simpa [intOf] using HZ.y1
      | true=>
        obtain⟨b,hb⟩:∃ b,AL.get R.2.asks s=some b:=by
         have h:=HB.o
         cases hq:AL.get R.2.asks s with
         | some z=>exact⟨z,rfl⟩
         | none=>rw[hq] at h;cases h
        have hstb:=H4.y9 b hb;have hcv:=z3E (P:=Tryz.prog) Tryz.underlying39 Tryz.underlying5 Tryz.underlying9 (c:=c) (Cells.of_row hv5)
        by_cases hbv:b=val
        ·have hq:(st.toList == (str val).toList)=true:=by rw[hstb,hbv,z2Q];simp
         have hrep:repM m2 (s,val) = [⟨a.id,a.num,s,out⟩]:=by
          unfold repM;simp only;rw[hd1,has2,hb,hda];simp only;rw[if_pos hbv]
         have hdc:=z7M w5 ao vl c val (Cells.of_row hv5) (by omega);rw[hda] at hdc;have H6:=zB2 hout hrep hda;clear hout hd1 has2 hda hb hstb hbv hrep hv5;go_wp2_with fail;refine hdc.mono ?_;rintro e w6 ⟨u6,rfl,hr6,ho6,hk6⟩;obtain⟨xo,xc,hf6,-⟩:=hr6.form;subst hf6;simp only[Option.getD_some,Option.isSome_some] at hr6 ⊢;obtain⟨al,hal⟩:=zX1 (a.data.length);rw[← hal] at hr6 ⊢;have hn7:=heap_alloc_new w6 (.cells (askC a (.slice xo al xc)) 41);have hk7:=kal w6 (.cells (askC a (.slice xo al xc)) 41);have HK6:=hid hk6;clear hdc hr6 ho6 hk6 hcv hal
         go_upto_region 6 with fail
         obtain⟨w7,hw7⟩:=zX1 (w6.alloc (.cells (askC a (.slice xo al xc)) 41));rw[← hw7] at hn7 hk7 ⊢;clear hw7 s0 sf e0 e1 ef;have hk57:=HK6.o.next hk7 (H:=fun _=>False) zI zI;have hS7:=(Star.lives _).keep H5.x1 hk57 zI;obtain⟨us,X7,hRc,hXF7,hcl7⟩:=ztW hS7;obtain⟨so,sc,hsf,hsl,hsm,-⟩:=hRc.row.form;dsimp only at hRc hsf hcl7;obtain⟨hbx,hnF⟩:=z0Y hS7;have c14:=(z0O hbx).2.2.2.2.2.2.2.2.2.2.2.2.2.2.1;have hnf:=(z0O hbx).2.2.2.2.2.2.2.2.2.2.2.2.2.2.2.1;have nlt:=z0J hbx;dsimp only at c14;subst hsf;obtain⟨sl,hslq⟩:=zX1 (R.2.said.length);rw[← hslq] at c14;obtain⟨a0,a1,a2,a3,a4,af,ab⟩:=z0I hn7;obtain⟨e0,e1,ef,-⟩:=z1Y (hk57.get H5.x2 id);obtain⟨vo,vc,hvf4,-⟩:=H4.x2.form;subst hvf4;obtain⟨rl,hrl⟩:=zX1 ((R.1.getD []).length);rw[← hrl];have hn8:=heap_alloc_new w7 (.cells #[.int .u64 (a.id:Int),.int .u64 (a.num:Int),.int .u64 (s:Int),.slice vo rl vc] 48);have hk8:Keep zF w7 (w7.alloc (.cells #[.int .u64 (a.id:Int),.int .u64 (a.num:Int),.int .u64 (s:Int),.slice vo rl vc] 48)).drew:=((Keep.refl _ _).alloc _).drew;have H7:=zB7 hk57 hRc hXF7 hcl7 hbx hslq hrl hsl;clear hk57 hS7 hRc hXF7 hcl7 hbx hslq hrl hnF hn7 hk7 hsl hsm;go_wp2_with fail;refine z0F [] (by kernel_rfl) (by kernel_rfl) ?_
         repeat (first | (apply z0C (by rfl);(intro K w';go_simp;exact id)) | (apply z0L (by rfl);(intro K;go_simp;exact id)))
         (refine z3S (by rfl) (by rfl) (fun K hK=>?_);go_simp;refine hK _ _ (Pre.push _ rfl) ?_;clear hK K)
         obtain⟨w8,hw8⟩:=zX1 ((w7.alloc (.cells #[.int .u64 (a.id:Int),.int .u64 (a.num:Int),.int .u64 (s:Int),.slice vo rl vc] 48)).drew);have hn8:w8.heap[w7.heap.size]?=some (.cells #[.int .u64 (a.id:Int),.int .u64 (a.num:Int),.int .u64 (s:Int),.slice vo rl vc] 48 (0,0)):=by rw[hw8];exact hn8
         rw[← hw8] at hk8 ⊢;clear hw8 c14 hnf nlt a0 a1 a2 a3 a4 af ab e0 e1 ef;obtain⟨hk57,hRc,hXF7,hcl7,hbx,hslq,hrl,hsl⟩:=H7.o;have hR8:=hRc.keep hk8 zI;have hr8:=hR8.row;rw[← hslq] at hr8
         have hsl2000:sl≤2000:=by
          have h1:=HR.o.few;have h2:=HR.o.far;have h3:R.2.said=mr.said:=by rw[H3.x5,H3.x6];rfl
          rw[hslq,h3];omega
         refine z0G (by rfl) (by rfl) (fun K hK=>?_)
         refine z1E zlP _ _ rfl rfl hr8 (some ⟨w7.heap.size,0,none⟩) 1 1 (z8B.val ⟨a.id,a.num,s,out⟩ (.slice vo rl vc)) rfl
          ⟨rfl,fun _=>⟨_,rfl,fun t u hu=>by rw[z0R,Nat.zero_add,cell_of_row _ _ _ _ _ _ hn8];simpa [z8B] using hu⟩⟩ (fun u hu=>by simp[z8B] at hu;rcases hu with rfl | rfl | rfl | rfl <;> rfl) (by unfold maxLen;omega) (by omega) ?_
         intro v9 w9 hr9 hk9 hv9;have hk9:Keep (fun k=>(Value.slice so sl sc).ownBlock=some k) w8 w9:=hk9;obtain⟨b9,c9,hf9,-⟩:=hr9.form;subst hf9;refine hK _ _ ?_;clear hK K;have k59:=hk57.next hk8 (H:=fun _=>False) zI zI;have hsoX:∀ k,(Value.slice so sl sc).ownBlock=some k→X7 k:=fun k e=>hRc.own k (by rw[z1G _ _ sl];exact e);have hb9:=hk9.get (hk8.get hbx id) (fun e=>hr8.not_block (hk8.get hbx id) (by decide) e)
         have hT:∃ F',Star (memL q n d me { R.2 with said:=R.2.said ++ [⟨a.id,a.num,s,out⟩] } { x with sv:=.slice b9 (sl+1) c9 }) (w9.setCell ⟨n,14,none⟩ (.slice b9 (sl+1) c9)) F'∧Keep F w (w9.setCell ⟨n,14,none⟩ (.slice b9 (sl+1) c9))∧∀ i,F' i→F i∨w.heap.size≤i:=by
          have hrl2:rl=out.length:=by rw[hrl,H6.x1];rfl
          have hv8:Row w8 5 1 (.slice vo rl vc) out.length (z0B out):=by
           have h:=(((H4.x2).keep H5.x5 zI).keep k59 zI);rw[hrl2];rw[H6.x1] at h;exact h
          have hvo:∀ k,(Value.slice vo rl vc).ownBlock=some k→w.heap.size≤k∧¬ F4 k:=fun k e=>H4.x3 k (by rw[z1G _ _ rl];exact e);have hX4:∀ k,X7 k→F4 k:=hXF7
          have h9o:∀ k,(Value.slice b9 (sl+1) c9).ownBlock=some k→X7 k∨w8.heap.size≤k:=fun k e=>by
           rcases hv9 with ⟨_,h0⟩ | ⟨k',h1,h2⟩
           ·omega
           ·rw[e] at h1
            cases h1
            rcases h2 with h2 | h2
            ·exact .inl (hsoX k h2)
            ·right;omega
          have hP:=hR8.push (w':=w9) (v':=.slice b9 (sl+1) c9) (u:=.slice vo rl vc) (x:=(⟨a.id,a.num,s,out⟩:Sd)) (F':=fun k=>X7 k∨(Value.slice vo rl vc).ownBlock=some k∨(Value.slice b9 (sl+1) c9).ownBlock=some k) hv8
           (fun k e=>⟨.inr (.inl e),fun z=>(hvo k e).2 (hX4 k (hRc.own k z))⟩) (by rw[← hslq];exact hr9) (hk9.mono fun k _ e=>by rw[z1G _ _ sl];exact e) (fun k z=>.inl z) (fun k e=>⟨.inr (.inr e),by
            rcases hv9 with ⟨_,h0⟩ | ⟨k',h1,h2⟩
            ·omega
            ·rw[e] at h1
             cases h1
             rcases h2 with h2 | h2
             ·left;rw[z1G _ _ sl];exact h2
             ·right;omega⟩)
          have s78:=hk8.size;have s89:=hk9.size
          obtain⟨F6,p1,p2,p3⟩:=hcl7 w9 (.slice b9 (sl+1) c9) (R.2.said ++ [⟨a.id,a.num,s,out⟩]) _ ⟨⟨_,hP⟩,fun k z=>by
            rcases z with z | z | z
            ·have:=(Star.lives _).lt H5.x1 k (hX4 k z);have:=hk57.size;omega
            ·have:=hv8.lt z;omega
            ·exact hr9.lt z⟩ (hk8.next hk9 (H:=X7) zE (fun k _ z=>hsoX k z)) (fun k z=>by
            rcases z with z | z | z
            ·exact .inl z
            ·exact .inr (hvo k z).2
            ·rcases h9o k z with y | y
             ·exact .inl y
             ·right;intro y2;have:=(Star.lives _).lt H4.x1 k y2;have:=H5.x5.size;have:=hk57.size;omega)
          have s57:=hk57.size;have s5:=H5.x4.size;refine⟨F6,p1,(H5.x4.next hk57 (H:=F) zI zE).next p2 zI (fun k hk z=>by rcases H4.x4 k z with y | y;exact y;omega),fun k z=>?_⟩
          rcases p3 k z with y | y | y | y
          ·exact H4.x4 k y
          ·exact H4.x4 k (hX4 k y)
          ·exact .inr (hvo k y).1
          ·rcases h9o k y with y | y
           ·exact H4.x4 k (hX4 k y)
           ·right;omega
         obtain⟨F',pS,pk,pn⟩:=hT
         have hsay:sayM { mr with log:=g' } (s,val) = { R.2 with said:=R.2.said ++ [⟨a.id,a.num,s,out⟩] }:=by
          rw[← H5.y6,H5.x6,H6.x2]
         have hnx:=HR.o.next H1.y5.symm H1.x4 (sv':=.slice b9 (sl+1) c9) (by rw[hsay];exact pS) pk pn;have HZ:=hid hnx;obtain⟨-,-,-,-,-,-,-,-,-,-,-,-,-,-,k14,kf,kn⟩:=z0O hb9;clear hk57 hRc hXF7 hcl7 hbx hslq hrl hsl hR8 hr8 hr9 hk9 hv9 k59 hsoX hb9 pS pk pn hsay hnx hk8 hn8
         repeat (apply z0C (by rfl);(intro K w';go_simp;exact id))
         (refine z0G (by rfl) (by rfl) (fun K hK=>?_);go_simp;refine hK _ _ ?_;clear hK K)
         refine z0P ?_;go_wp2_with (at_builtin;refine z0Q ?_;intro q hq);go_roundw
         case rel=>exact⟨_,_,F',hid HZ.x1⟩
         case measure=>
          rw[zbT HR.o.star HR.o.up H0.x2,zbT HZ.x1.star HZ.x1.up (x:={ x with sv:=.slice b9 (sl+1) c9 }) H0.x2];have h1:=HZ.x2;have h2:=HZ.y2;simp only[intOf,Int.toNat_natCast];omega
        ·have hq:(st.toList == (str val).toList)=false:=by rw[hstb,z2Q,z2Q];simpa using hbv
         obtain⟨mr',sv',F',HZ⟩:=HQ.o (by
          unfold repM;simp only;rw[hd1,has2,hb,hda];simp only
          rw[if_neg hbv])
         clear hv5 hout hd1 has2 hda hb hstb hbv;go_wp2_with fail;go_roundw
         case rel=>exact⟨mr',sv',F',hid HZ.x1⟩
         case measure=>
          rw[zbT HR.o.star HR.o.up H0.x2,zbT HZ.x1.star HZ.x1.up (x:={ x with sv:=sv' }) H0.x2];simpa [intOf] using HZ.y1
end
section
open Go.RowKit Go.Maps
open MI SO BM DM WM AC GR
theorem z8R{G:Gr}{k:Nat}(hk:k<G.ms.length):getG G k=G.ms[k]:=by
 unfold getG;rw[List.getD_eq_getElem?_getD,List.getElem?_eq_getElem hk];rfl
theorem z1M{g:Nat}{ns:List (Nat×Nat)}{G:Gr}{x:Value×Value×Value}{w:World}{F:Nat->Prop}(h:Star (grL g ns G x) w F)(hlen:ns.length=G.ms.length)(k:Nat)(hk:k<G.ms.length)(h1:k<ns.length):∃ X y,Star (memL G.q ns[k].1 ns[k].2 k (getG G k) y) w X/\(∀ i,X i->F i)/\∀ w' m' y',Turns (Star (memL G.q ns[k].1 ns[k].2 k m' y')) X w w'->Turns (Star (grL g ns (setG G k m') x)) F w w':=by
 obtain⟨_,X,⟨y,hS⟩,hX,t⟩:=zyR h hlen k hk;rw[<-z8R hk] at hS;exact⟨X,y,hS,hX,λw' m' y' ht=>t w' m' (ht.map λ_ z=>⟨y',z⟩)⟩
theorem zaB{G:Gr}{k:Nat}(hk:k<G.ms.length):setG G k (getG G k)=G:=by
 unfold setG;rw[z8R hk];cases G;simp
theorem zmL(g:RM.Lg)(s:Nat)(v:List UInt8):(RM.learn g s v).2.ap=g.ap:=by
 unfold RM.learn
 repeat (first | rfl | split)
theorem Turns.join{T:Thing}{F F1:Nat->Prop}{w w1 w2:World}(hk:Keep F w w1)(hn:∀ i,F1 i->F i∨w.heap.size<=i)(t:Turns T F1 w1 w2):Turns T F w w2:=by
 obtain⟨F2,a,b,c⟩:=t;have s1:=hk.size;refine⟨F2,a,hk.next b zI (λk hk z=>by rcases hn k z with y | y;exact y;omega),λk z=>?_⟩;rcases c k z with y | y;{exact hn k y};{right;omega}
theorem zdD(w:World)(g:Nat)(ns:List (Nat×Nat))(G:Gr)(x:Value×Value×Value)(F:Nat->Prop)(h:Star (grL g ns G x) w F)(hlen:ns.length=G.ms.length)(k:Nat)(hk:k<G.ms.length)(h1:k<ns.length)(hms:G.ms.length<=100)(hQ:QOk G.q)(hl:G.l.length<=200)(p:Pr)(hup:(getG G k).up=true)(hp:(getG G k).p=some p)(s:Nat)(hs:s<18446744073709551615)(hss:∀ e ∈ p.slots,e.2.2<4294967296/\e.2.1.val.length<=1000)(hT:TabOk (getG G k).log.ap ((getG G k).data,(getG G k).tab))(hB:TabB (getG G k).tab)(hL:∀ v,(RM.learn (getG G k).log s v).1=0->(getG G k).log.ap+z2H (RM.learn (getG G k).log s v).2<=62)(hsd:(getG G k).said.length<=1000):Calls Tryz.prog 79 #[.pointer (some ⟨g,0,none⟩),.pointer (some ⟨ns[k].1,0,none⟩),.int .u64 (s:Int)] w (SendPost g ns (z1S G k p s) x F w):=by
 refine zPo λPost HP=>?_;obtain⟨X,y,hM,hXF,hcl⟩:=z1M h hlen k hk h1;obtain⟨nb,hnb⟩:=zX1 (ns[k].1);obtain⟨a,Xp,hpv,hPr,-⟩:=z3Y hM hp;have hch:=zkI w G.q hQ p a Xp hPr s (by omega) hss;obtain⟨hbx,-⟩:=z0Y hM;rw[<-hnb] at hbx |-;obtain⟨c0,c1,c2,c3,c4,c5,c6,c7,c8,c9,c10,c11,c12,c13,c14,cf,cb⟩:=z0O hbx;rw[hpv] at c5;obtain⟨o,ho⟩:=zX1 (z3F G.q p s);rw[<-ho] at hch;have H0:=zB13 h hlen hk hms hQ hl hup hp hT hB hL hsd ho hnb
 have HV0:=hid (show ∀ v,z3F G.q p s=some v->v.length<=1000 from λv hv=>by
  unfold z3F at hv;cases hg:AL.get p.slots s with
  | none=>rw[hg] at hv;cases hv
  | some z=>
    rw[hg] at hv;simp only at hv;split at hv;{cases hv;exact(hss _ (AL.get_mem hg)).2}
    ·cases hv)
 have HM:=zB3 hM hXF hcl hbx;clear h hlen hk hms hQ hl hup hp hT hB hL hsd ho hnb hM hXF hcl hbx hpv hPr hss c0 c1 c2 c3 c4 c6 c7 c8 c9 c10 c11 c12 c13 c14
 go_in
 go_wp2_with fail;refine hch.mono ?_;rintro e w2 hc2;cases o with
 | none=>
   obtain⟨rfl,hk2⟩:=hc2;have HK:=hid hk2;have he:z1S G k p s=G:=by{unfold z1S;simp only;rw[<-H0.x13]};have HE:=hid he;clear hch hk2 he;go_wp2_with fail
   go_end0
   rw[HP.o,HE.o];exact⟨rfl,_,Turns.later (Star.lives _) H0.x1 HK.o⟩
 | some v=>
   obtain⟨ao,c,rfl,hf2⟩:=hc2;obtain⟨vl,hvl⟩:=zX1 (v.length);rw[<-hvl] at hf2 |-;have hM2:=(Star.lives _).keep HM.x1 hf2.keep zI;obtain⟨lb,XL,hlv,hRl,hXL,hcL⟩:=z5N hM2 H0.x7;have hbx2:=hf2.keep.get HM.y3 id;obtain⟨-,-,-,-,-,-,d6,d7,-,-,-,d11,-,-,-,df,db⟩:=z0O hbx2;rw[hlv] at d11;obtain⟨gl,hgl⟩:=zX1 ((getG G k).log);rw[<-hgl] at hRl;have hapc:=zeB w2 lb XL gl hRl;have HV:=hid hvl
   have hce:z1S G k p s=(if s<=gl.ap∨RM.z4H gl s 1≠[] then G else if (RM.learn gl s v).1≠0 then setG G k { getG G k with log:=(RM.learn gl s v).2 }
     else setG (z1H (setG G k { getG G k with log:=(RM.learn gl s v).2 }) k ⟨5,0,0,(getG G k).b,[⟨s,Bal.zero,v⟩]⟩) k (z2Y (getG (z1H (setG G k { getG G k with log:=(RM.learn gl s v).2 }) k ⟨5,0,0,(getG G k).b,[⟨s,Bal.zero,v⟩]⟩) k))):=by
    unfold z1S;simp only;rw[<-H0.x13,hgl]
   have H2:=zB8 hf2 hM2 hRl hcL hgl hce hbx2 hlv hXL;clear hch hf2 hM2 hlv hRl hXL hcL hgl hce hbx2 hvl c5 cf cb;go_wp2_with fail;refine hapc.mono ?_;rintro e w3 ⟨rfl,hk3⟩;have hRl3:=H2.x3.keep hk3 zI;have hcac:=ziT w3 lb XL gl s 1 hRl3 (by decide) (by decide) (by omega);have hbx3:=hk3.get H2.x7 id;obtain⟨ap,hap⟩:=zX1 (gl.ap);rw[<-hap];have HAp:=hid hap;by_cases hsa:s<=ap;{have HE:=hid (show z1S G k p s=G by rw[H2.x6,if_pos (.inl (by rw[<-HAp.o];exact hsa))]);have HK:=hid (H2.x1.keep.next hk3 (H:=λ_=>False) zI zI);clear hapc hk3 hRl3 hcac hbx3 hap d6 d7 d11 df db;go_wp2_with fail;(go_end0);rw[HP.o,HE.o];exact⟨rfl,_,Turns.later (Star.lives _) H0.x1 HK.o⟩}
   ·have H3:=zB2 hk3 hRl3 hbx3
    obtain⟨-,-,-,-,-,-,d6,d7,-,-,-,d11,-,-,-,df,db⟩:=z0O hbx3;rw[H2.x8] at d11;clear hapc hk3 hRl3 hbx3 hap;go_wp2_with fail;refine hcac.mono ?_;rintro e w4 ⟨cv,cus,rfl,hEn,hk4⟩;obtain⟨cvo,cvc,hcf,-⟩:=hEn.row.form;subst hcf;obtain⟨cl,hcl2⟩:=zX1 ((RM.z4H gl s 1).length);rw[<-hcl2];have hbx4:=hk4.get H3.y2 id;have hk24:=H3.x1.next hk4 (H:=λ_=>False) zI zI;by_cases hc0:cl=0;{have q1:decide ((0:Int)<(cl:Int))=false:=decide_eq_false (by omega);have q1':¬ 0<cl:=by{omega};have hce0:RM.z4H gl s 1 = []:=List.length_eq_zero_iff.1 (by omega);have k04:=H2.x1.keep.next hk24 (H:=λ_=>False) zI zI;obtain⟨X4,y4,hM4,hXF4,hcl4⟩:=z1M (z2G H0.x1 k04) H0.x2 k H0.x3 h1;obtain⟨lb4,XL4,hlv4,hRl4,hXL4,hcL4⟩:=z5N hM4 H0.x7;rw[<-H2.x5] at hRl4;obtain⟨hbx4,-⟩:=z0Y hM4;rw[<-H0.y13] at hbx4;have hvr:=H2.x1.row.keep hk24 zI;rw[<-HV.o] at hvr;have hvc:=Cells.of_row hvr;have hvm:vl<=maxLen:=by{obtain⟨_,_,e1,h2,h3,-⟩:=hvr.form;omega};have hler:=zdP w4 lb4 XL4 gl s ao vl c v hRl4 hvc (by omega) (by unfold maxLen at hvm;omega);obtain⟨Q,hQ'⟩:=zX1 (RM.learn gl s v);rw[<-hQ'] at hler;obtain⟨-,-,-,-,-,-,d6,d7,-,-,-,d11,-,-,-,df,db⟩:=z0O hbx4;rw[hlv4] at d11;have H4:=zB7 hk24 hce0 hQ' k04 hcl4 hcL4 hXF4 hXL4;have HC0:=hid hc0;clear hcac hEn hk4 hbx4 hk24 hce0 hRl4 hvc hQ' hcl2 hvr hvm k04 hM4 hXF4 hcl4 hlv4 hXL4 hcL4;subst hc0;go_wp2_with fail;refine hler.mono ?_;rintro e w5 ⟨rfl,hto⟩;have hTm:Turns (Star (grL g ns (setG G k { getG G k with log:=Q.2 }) x)) F w4 w5:=H4.x5 w5 _ y4 (H4.x6 w5 Q.2 hto);have hk45:Keep F w4 w5:=by{obtain⟨_,_,h,_⟩:=hTm;exact h};have hvr5:Row w5 5 1 (.slice ao vl c) vl (z0B v)/\∀ k,(Value.slice ao vl c).ownBlock=some k->w.heap.size<=k/\k<w4.heap.size:=by{have hvr:=H2.x1.row.keep H4.x1 zI;rw[<-HV.o] at hvr;obtain⟨_,_,h,_⟩:=hto;have hs5:=h.size;have hFl:=(Star.lives _).lt H0.x1;refine⟨hvr.keep h (λk e z=>?_),λk e=>⟨H2.x1.own k (by rw[z1G _ _ vl];exact e),hvr.lt e⟩⟩;have h1:=H2.x1.own k (by rw[z1G _ _ vl];exact e);have h3:=hFl k (H4.x7 k (H4.y7 k z));omega};obtain⟨qc,hqc⟩:=zX1 (Q.1);rw[<-hqc];by_cases hq0:qc=0;{have q3:((qc:Int) != 0)=false:=by{simp;omega};have HE:=hid (show z1S G k p s=setG (z1H (setG G k { getG G k with log:=Q.2 }) k ⟨5,0,0,(getG G k).b,[⟨s,Bal.zero,v⟩]⟩) k (z2Y (getG (z1H (setG G k { getG G k with log:=Q.2 }) k ⟨5,0,0,(getG G k).b,[⟨s,Bal.zero,v⟩]⟩) k)) by{rw[H2.x6,if_neg (by rintro(z | z);exact hsa (by rw[HAp.o];exact z);exact z H4.x2),<-H4.x3,if_neg (by rw[<-hqc];omega)]});obtain⟨F5,hS5,hkF5,hF5⟩:=hTm;have hk2:=H0.x3;obtain⟨G5,hG5⟩:=zX1 (setG G k { getG G k with log:=Q.2 });rw[<-hG5] at hS5 HE;have hms5:G5.ms.length=G.ms.length:=by{rw[hG5];exact z0S};have hg5:getG G5 k = { getG G k with log:=Q.2 }:=by{rw[hG5];exact z1C hk2};have hl5:G5.l=G.l:=by{rw[hG5];rfl};obtain⟨X5,y5,hM5,-,-⟩:=z1M hS5 (by rw[hms5];exact H0.x2) k (by rw[hms5];exact hk2) h1;obtain⟨hbx5,-⟩:=z0Y hM5;rw[<-H0.y13,hg5] at hbx5;obtain⟨-,-,-,-,-,-,e6,e7,-,-,-,-,-,-,-,ef,eb⟩:=z0O hbx5;obtain⟨w6,hw6,hn6,hk6⟩:=zAl w5 (.cells #[.int .u64 (s:Int),.int .u64 0,.int .i64 0,.slice ao vl c] 109);have hFl:=(Star.lives _).lt H0.x1;have s04:=H4.x4.size;have s45:=hk45.size;have hvF5:∀ k,(Value.slice ao vl c).ownBlock=some k->¬ F5 k:=λk e z=>by{obtain⟨e1,e2⟩:=hvr5.2 k e;rcases hF5 k z with y | y;{have:=hFl k y;omega};{omega}};have hS6:=z2G hS5 hk6;have hvc6:∀ w',Keep F5 w6 w'->VotesC w' (some ⟨w5.heap.size,0,none⟩) [⟨s,Bal.zero,v⟩]:=λw' hk' i hi=>by{have hi0:i=0:=by{simp at hi;omega};subst hi0;have hn':=hk'.get hn6 (λz=>by have:=(Star.lives _).lt hS5 _ z;omega);have hr':=(hvr5.1.keep hk6 zI).keep hk' (λk e z=>hvF5 k e z);obtain⟨_,_,ee,g2,g3,-⟩:=hr'.form;cases ee;refine⟨⟨w5.heap.size,0,none⟩,ao,c,rfl,λj u hu=>?_,by simp only[List.getElem_cons_zero];rw[<-HV.o];exact g2,g3,by simp only[List.getElem_cons_zero];rw[<-HV.o];exact Cells.of_row hr'⟩;simp only[Nat.zero_mul,z0R,Nat.zero_add];rw[cell_of_row _ _ _ _ _ _ hn'];simp only[List.getElem_cons_zero,z3A] at hu;rw[<-HV.o] at hu;simpa [Bal.zero] using hu};have hoth:=z9H w6 g ns G5 x F5 hS6 (by rw[hms5];exact H0.x2) k (by rw[hms5];exact hk2) h1 (by rw[hms5];exact H0.x4) ⟨5,0,0,(getG G k).b,[⟨s,Bal.zero,v⟩]⟩ (some ⟨w5.heap.size,0,none⟩) 1 1 hvc6 rfl (by decide) (λu hu=>by{rw[List.mem_singleton] at hu;subst hu;exact HV0.o v H0.x13.symm}) (by rw[hl5];exact H0.x6);rw[<-H0.y13] at hoth;have H5:=zB7 hS5 hkF5 hF5 hG5 hms5 hg5 hk6 hFl;clear hler hto hS5 hkF5 hF5 hG5 hms5 hg5 hl5 hM5 hbx5 hn6 hvF5 hS6 hvc6 hk45 hvr5 d6 d7 d11 df db hk6 hFl;(go_upto_region 3 with (go_at_call 46;rw[<-hw6];refine hoth.mono ?_;rintro e w7 ⟨rfl,v7,ht7⟩));have hk2:=H0.x3;obtain⟨hS5,hkF5,hF5,hG5,hms5,hg5,hk6,hFl⟩:=H5.o;obtain⟨F7,hS7,hk67,hF7⟩:=ht7;obtain⟨G7,hG7⟩:=zX1 (z1H G5 k ⟨5,0,0,(getG G k).b,[⟨s,Bal.zero,v⟩]⟩);rw[<-hG7] at hS7 HE;have hms7:G7.ms.length=G.ms.length:=by{rw[hG7,z5J];exact hms5};have hg7:getG G7 k = { getG G k with log:=Q.2 }:=by{rw[hG7,z4Q];exact hg5};obtain⟨X7,y7,hM7,hXF7,hcl7⟩:=z1M hS7 (by rw[hms7];exact H0.x2) k (by rw[hms7];exact hk2) h1;rw[hg7] at hM7 HE;have hgl:=H2.x5;have hQe:Q=RM.learn (getG G k).log s v:=by{rw[H4.x3,hgl]};have hqap:Q.2.ap=(getG G k).log.ap:=by{rw[hQe];exact zmL _ _ _};have happ:=zbA w7 G7.q ns[k].1 ns[k].2 k { getG G k with log:=Q.2 } y7 X7 hM7 H0.x7 (by show TabOk Q.2.ap _;rw[hqap];exact H0.x9) H0.x10 (by show Q.2.ap+z2H Q.2<=62;rw[hqap,hQe];exact H0.x11 v (by rw[<-hQe,<-hqc];exact hq0)) H0.x12;rw[<-H0.y13] at happ;have H7:=zB3 hcl7 hk67 hF7 hkF5;have H7b:=zB1 hF5 hk6;clear hS5 hkF5 hF5 hG5 hms5 hg5 hk6 hFl hS7 hk67 hF7 hG7 hms7 hg7 hM7 hXF7 hcl7 hgl hQe hqap hoth e6 e7 ef eb hw6;go_wp2_with fail;refine happ.mono ?_;rintro e w8 ⟨rfl,sv8,ht8⟩;have HZ:=hid (show Turns (Star (grL g ns (setG G7 k (z2Y { getG G k with log:=Q.2 })) (v7,x.2))) F w w8 from by{rw[H0.y13] at ht8;have t8:=H7.x1 w8 _ _ ht8;have t7:=Turns.join H7.x2 H7.x3 t8;exact Turns.ahead H4.x4 (Turns.join H7.y3 H7b.x1 (Turns.ahead H7b.y1 t7))});clear happ ht8;go_wp2_with fail;(go_end0);rw[HP.o,HE.o];exact⟨rfl,v7,HZ.o⟩};{have q3:((qc:Int) != 0)=true:=by{simp;omega};have HE:=hid (show z1S G k p s=setG G k { getG G k with log:=Q.2 } by rw[H2.x6,if_neg (by rintro(z | z);exact hsa (by rw[HAp.o];exact z);exact z H4.x2),<-H4.x3,if_pos (by rw[<-hqc];exact hq0)]);have HZ:=hid hTm;clear hler hto hTm hk45 hvr5 d6 d7 d11 df db;go_wp2_with fail;(go_end0);rw[HP.o,HE.o];exact⟨rfl,_,Turns.ahead H4.x4 HZ.o⟩}};{have q1:decide ((0:Int)<(cl:Int))=true:=decide_eq_true (by omega);have q1':0<cl:=by{omega};have HE:=hid (show z1S G k p s=G by rw[H2.x6,if_pos (.inr λz=>by rw[z] at hcl2;exact hc0 hcl2)]);have HK:=hid (H2.x1.keep.next hk24 (H:=λ_=>False) zI zI);clear hcac hEn hk4 hbx4 hk24 hcl2;go_wp2_with fail;(go_end0);rw[HP.o,HE.o];exact⟨rfl,_,Turns.later (Star.lives _) H0.x1 HK.o⟩}
end
section
open Go.RowKit Go.Maps
open MI SO BM DM WM AC GR
structure Out1 (w:World) (F:Nat→Prop) (v:Value) (n:Nat) (l:List UInt8):Prop where
 row:Row w 5 1 v n (z0B l)
 out:∀ k,v.ownBlock=some k→¬ F k
theorem Out1.turn{w w':World}{F F':Nat->Prop}{v:Value}{n:Nat}{l:List UInt8}(h:Out1 w F v n l)(hk:Keep F w w')(hn:∀ i,F' i->F i∨w.heap.size<=i):Out1 w' F' v n l:=
 ⟨h.row.keep hk λk e z=>h.out k e z,λk e z=>by rcases hn k z with y | y;exact h.out k e y;(have:=h.row.lt e;omega)⟩
theorem z0X{K:Nat->Prop}{w w':World}{k o:Nat}{x:Value}(hk:Keep K w w')(hn:¬ K k)(h:w.cell? ⟨k,o,none⟩=some x):w'.cell? ⟨k,o,none⟩=some x:=by
 cases hb:w.heap[k]? with | none=>{simp[World.cell?,hb] at h} | some ob=>{have h2:=hk.get hb hn;unfold World.cell? at *;rw[h2];rw[hb] at h;exact h}
theorem zdH(w:World)(b:Bal):(((w.alloc (.cells #[.int .u64 0,.int .i64 0] 32)).setCell ⟨w.heap.size,0,none⟩ (.int .u64 (b.n:Int))).setCell ⟨w.heap.size,1,none⟩ (.int .i64 b.node)).heap[w.heap.size]?=some (.cells (balC b) 32 (0,0))/\
  Keep (λk=>k=w.heap.size) w (((w.alloc (.cells #[.int .u64 0,.int .i64 0] 32)).setCell ⟨w.heap.size,0,none⟩ (.int .u64 (b.n:Int))).setCell ⟨w.heap.size,1,none⟩ (.int .i64 b.node)):=by
 have h1:=heap_alloc_new w (.cells #[.int .u64 0,.int .i64 0] 32);have k1:=kal w (.cells #[.int .u64 0,.int .i64 0] 32);have h2:=z0A (z0A h1 0 (.int .u64 (b.n:Int))) 1 (.int .i64 b.node);obtain⟨-,g2,-⟩:=z4P _ w.heap.size _ _ h1 (.int .u64 (b.n:Int)) (.int .i64 b.node);exact⟨h2,k1.next g2 zE zI⟩
def VS(p po k o0 o1 o2 o3:Nat)(ptr:Value)(v:Vt)(u:Value)(w:World):Prop:=
 w.cell? ⟨p,po,none⟩=some ptr∧w.cell? ⟨k,o0,none⟩=some (.int .u64 (v.slot:Int))∧w.cell? ⟨k,o1,none⟩=some (.int .u64 (v.bal.n:Int))∧w.cell? ⟨k,o2,none⟩=some (.int .i64 v.bal.node)∧w.cell? ⟨k,o3,none⟩=some u
theorem VS.keep{p po k o0 o1 o2 o3:Nat}{ptr:Value}{v:Vt}{u:Value}{K:Nat->Prop}{wa wb:World}(hk:Keep K wa wb)(h1:¬ K p)(h2:¬ K k)(h:VS p po k o0 o1 o2 o3 ptr v u wa):VS p po k o0 o1 o2 o3 ptr v u wb:=
 let ⟨a,b,c,d,e⟩:=h
 ⟨z0X hk h1 a,z0X hk h2 b,z0X hk h2 c,z0X hk h2 d,z0X hk h2 e⟩
theorem zuW{g:Nat}{ns:List (Nat×Nat)}{G:Gr}{x:Value×Value×Value}{w:World}{F:Nat->Prop}(h:Star (grL g ns G x) w F)(hlen:ns.length=G.ms.length)(k:Nat)(hk:k<G.ms.length)(h1:k<ns.length)(hu:(getG G k).up=true)(a:Nat)(hc:w.cell? ⟨ns[k].1,3,none⟩=some (ptrV a)):∃ X,AcT a ns[k].2 (getG G k).D (getG G k).A w X/\(∀ i,X i->F i)/\¬ X ns[k].1/\∀ w' D' A',Turns (AcT a ns[k].2 D' A') X w w'->Turns (Star (grL g ns (setG G k { getG G k with D:=D',A:=A' }) x)) F w w':=by
 obtain⟨X,y,hM,hXF,hcl⟩:=z1M h hlen k hk h1;obtain⟨hb,-⟩:=z0Y hM;have e1:y.av=ptrV a:=by{have:=cell_of_row w ns[k].1 3 _ _ _ hb;rw[hc] at this;simpa [memC] using this.symm};obtain⟨X1,hA,hX,ho,t⟩:=hM.opn 1 rfl;obtain⟨Z,hZ,-,hd⟩:=ho 0 (z4W ns[k].1 (memC ns[k].2 k (getG G k) y) 90) (by decide) rfl;rw[hu] at hA;obtain⟨a',e,hA⟩:=hA;have e3:a'=a:=by{rw[e1] at e;simpa [ptrV] using e.symm};subst e3;refine⟨X1,hA,λi z=>hXF i (hX i z),λz=>hd _ z hZ.2.1,λw' D' A' ht=>hcl w' { getG G k with D:=D',A:=A' } y ?_⟩;have h6:=t w' (zhO ns[k].2 D' (some A') y.av) (ht.map λG z=>⟨a',e,z⟩);have e4:(memL G.q ns[k].1 ns[k].2 k (getG G k) y).set 1 (zhO ns[k].2 D' (some A') y.av)=memL G.q ns[k].1 ns[k].2 k { getG G k with D:=D',A:=A' } y:=by{generalize getG G k=m at hu |-;cases m;dsimp only at hu;subst hu;rfl};rw[e4] at h6;exact h6
theorem zfE{q:Qm}{p:Pr}{n:Int}{at_:Nat}(hn:n.toNat<32)(h:∀ e ∈ p.slots,e.2.2<4294967296/\e.2.1.val.length<=1000):∀ e ∈ (accP q p n at_).2.slots,e.2.2<4294967296/\e.2.1.val.length<=1000:=by
 unfold accP;split;{exact h};split;{exact h};{intro e he;rcases zsT (show e ∈ upd p.slots at_ (λs=>(s.1,bit s.2 n)) from he) with ⟨h1,-⟩ | ⟨a,h1,rfl⟩;{exact h e h1};{have:=h _ h1;exact⟨zqL this.1 hn,this.2⟩}}
structure LdOk (m:Mb) (s:Nat):Prop where
 tab:TabOk m.log.ap (m.data,m.tab)
 bnd:TabB m.tab
 far:∀ v,(RM.learn m.log s v).1=0→m.log.ap+z2H (RM.learn m.log s v).2≤62
 few:m.said.length≤1000
theorem ztJ(w:World)(g:Nat)(ns:List (Nat×Nat))(G:Gr)(x:Value×Value×Value)(F:Nat->Prop)(h:Star (grL g ns G x) w F)(hlen:ns.length=G.ms.length)(k:Nat)(hk:k<G.ms.length)(h1:k<ns.length)(hms:G.ms.length<=12)(hQ:QOk G.q)(hl:G.l.length<=200)(p:Pr)(hup:(getG G k).up=true)(hp:(getG G k).p=some p)(v:Vt)(vo:Option Addr)(vl vc:Nat)(hvl:vl=v.val.length)(hv:Out1 w F (.slice vo vl vc) vl v.val)(hv100:vl<=1000)(hs:v.slot<18446744073709551615)(hbn:v.bal.n<18446744073709551616)(hss:∀ e ∈ p.slots,e.2.2<4294967296/\e.2.1.val.length<=1000)(hA:AOk (getG G k).A)(hps:(getG G k).A.s.dead=false->(getG G k).A.s.ps.length<=900000)(hwt:FitS (getG G k).D (getG G k).A.s (z5W v))(hr0:(z0T (getG G k).D (getG G k).A v).1.2=0)(hO:LdOk (getG G k) v.slot):Calls Tryz.prog 51 #[.pointer (some ⟨g,0,none⟩),.pointer (some ⟨ns[k].1,0,none⟩),.agg (z4U v (.slice vo vl vc))] w (SendPost g ns (z9O G k p v) x F w):=by
 refine zPo λPost HP=>?_;obtain⟨nb,hnb⟩:=zX1 (ns[k].1);obtain⟨R,hR⟩:=zX1 (z0T (getG G k).D (getG G k).A v);rw[<-hR] at hr0;obtain⟨w1,hw1,hn1,hk1⟩:=zAl w (.cells (z4U v (.slice vo vl vc)) 109);have hz1:w1.heap.size=w.heap.size+1:=by{rw[hw1];simp};have hS1:=z2G h hk1;obtain⟨X,y,hM,hXF,hcl⟩:=z1M hS1 hlen k hk h1;obtain⟨hbx,hnX⟩:=z0Y hM;rw[<-hnb] at hbx;obtain⟨aa,Xa,hav,-⟩:=zgL hM hup;have hFl:=(Star.lives _).lt h;obtain⟨c0,c1,c2,c3,c4,c5,c6,c7,c8,c9,c10,c11,c12,c13,c14,cf,cb⟩:=z0O hbx;rw[hav] at c3;have hpe:z9O G k p v=z1S (z1H (setG G k { getG G k with D:=R.2.1,A:=R.2.2,p:=some (accP G.q p k v.slot).2 }) k ⟨3,0,0,(getG G k).b,[v]⟩) k (accP G.q p k v.slot).2 v.slot:=by{unfold z9O;simp only;rw[<-hR,if_neg (by rw[hr0];decide)]};have hv1:Out1 w1 F (.slice vo vl vc) vl v.val:=⟨hv.row.keep hk1 zI,hv.out⟩
 have hAcc:∀ w',Keep zF w1 w'->w'.cell? ⟨nb,3,none⟩=some (ptrV aa)->∃ X,¬ X nb/\(∀ i,X i->F i)/\Calls Tryz.prog 77 #[.pointer (some ⟨aa,0,none⟩),.agg (z4U v (.slice vo vl vc))] w' λe w2=>e = .returned (.tuple #[.agg (balC R.1.1),.int .i64 0])/\Keep X w' w2/\Turns (Star (grL g ns (setG G k { getG G k with D:=R.2.1,A:=R.2.2 }) x)) F w' w2:=by
  intro w' hkw hcc;rw[hnb] at hcc;obtain⟨X,hAc,hX,hXn,hcA⟩:=zuW (z2G hS1 hkw) hlen k hk h1 hup aa hcc;rw[<-hnb] at hXn;refine⟨X,hXn,hX,?_⟩
  have hacc:=zlS w' aa ns[k].2 (getG G k).D (getG G k).A X hAc hA hps v hwt hbn (by omega) vo vc (by
   have hh:=Cells.of_row (hv1.row.keep hkw zI);rw[<-hvl]
   exact hh) (λh0 b hb z=>by
   subst hb;obtain⟨_,_,ee,-,-,-,hsm⟩:=hv.row.form;cases ee
   exact hv.out b.block (hsm b rfl).2 (hX _ z))
  rw[<-hR,<-hvl] at hacc;refine hacc.mono ?_;rintro e w2 ⟨F2,rfl,hA2,hk2,hF2⟩;refine⟨by rw[hr0],hk2,hcA w2 R.2.1 R.2.2 ⟨F2,hA2,hk2,hF2⟩⟩
 obtain⟨⟨rb,rc⟩,RD,RA⟩:=R;have H0:=zB13 h hlen hk hms hQ hl hup hp hO hR hr0 hpe hnb hvl;have H1:=zB6 hn1 hk1 hz1 hS1 (hFl _ (hXF _ hnX)) hFl hv1;have HSs:=hid hss;have HVl:=hid hv100;clear hv100 h hlen hk hms hQ hl hup hp hO hR hpe hvl hS1 hM hXF hcl hv hv1 hA hps hwt hav hss c0 c1 c2 c4 c5 c6 c7 c8 c9 c10 c11 c12 c13 c14 hr0 hnX hbx;obtain⟨a0,a1,a2,a3,af,ab⟩:=z1B hn1;rw[<-hnb];have HS:=hid (show VS nb 3 w.heap.size 0 1 2 3 (ptrV aa) v (.slice vo vl vc) w1 from⟨c3,a0,a1,a2,a3⟩);have HA:=hid hAcc;have HZ1:=hid hz1;clear hn1 hk1 hnb hAcc hz1 hFl a0 a1 a2 a3 c3
 go_in
 go_upto_region 1 with fail
 rw[<-hw1];clear hw1
 go_cut [6,7] (λgv ev wx=>ev = .int .i64 0/\zH (Turns (Star (grL g ns (setG G k { getG G k with D:=RD,A:=RA }) x)) F w1 wx/\VS nb 3 w.heap.size 0 1 2 3 (ptrV aa) v (.slice vo vl vc) wx))
 case first=>(have x1:VS nb 3 w.heap.size 0 1 2 3 (ptrV aa) v (.slice vo vl vc) w1.drew:=HS.o;have hkd:Keep zF w1 w1.drew:=(Keep.refl _ _).drew;refine Twin.z3T (VS nb 3 w.heap.size 0 1 2 3 (ptrV aa) v (.slice vo vl vc)) [] [12,13] 5 9 (by kernel_rfl) (by kernel_rfl) (by rfl) (by kernel_rfl) ?_ ?_;{obtain⟨wd,hwd⟩:=zX1 (w1.drew);rw[<-hwd] at x1 hkd |-;clear hwd;obtain⟨X,hXn,hXF,hcr⟩:=HA.o wd hkd x1.1;(repeat (apply Twin.z0C (by rfl) (by exact x1);(intro K w' hS;obtain⟨s1,s2,s3,s4,s5⟩:=hS;go_simp;exact id)));refine Twin.z0G (by decide) (by rfl) (by exact x1) (λK hK=>?_);go_simp;refine hcr.mono ?_;rintro e w6 ⟨rfl,hk6,hT6⟩;have x3:=VS.keep hk6 hXn (λz=>by have:=H1.x6 _ (hXF _ z);omega) x1;go_simp;refine hK _ _ (λh=>by cases h) x3 ?_;clear hK K x1;(repeat (apply Twin.z0C (by rfl) (by exact x3);(intro K w' hS;obtain⟨s1,s2,s3,s4,s5⟩:=hS;go_simp;exact id)));have hk7:=kal w6 (.cells #[.int .u64 0,.int .i64 0] 32);have x4:=VS.keep hk7 id id x3;have hn7:=heap_alloc_new w6 (.cells #[.int .u64 0,.int .i64 0] 32);obtain⟨hbx,hk8⟩:=zdH w6 rb;refine Twin.z0G (by decide) (by rfl) (by exact x3) (λK hK=>?_);go_simp;refine hK _ _ (λ_=>Pre.alloc (Pre.refl _) _) x4 ?_;clear hK K;obtain⟨w7,hw7⟩:=zX1 (w6.alloc (.cells #[.int .u64 0,.int .i64 0] 32));rw[<-hw7] at hn7 x4 hbx hk8 |-;clear hw7;obtain⟨d0,d1,f0,-⟩:=z2J hn7;(repeat (apply Twin.z0C (by rfl) (by exact x4);(intro K w' hS;obtain⟨s1,s2,s3,s4,s5⟩:=hS;go_simp;exact id)));obtain⟨wz,hwz⟩:=zX1 ((w7.setCell ⟨w6.heap.size,0,none⟩ (.int .u64 (rb.n:Int))).setCell ⟨w6.heap.size,1,none⟩ (.int .i64 rb.node));rw[<-hwz] at hbx hk8;have hk9:Keep zF w6 wz:=hk8.mono λk hk e=>by{have e2:k=w6.heap.size:=e;omega};have x5:=VS.keep hk9 id id x3;have HZ:=zB1 (Turns.ahead hkd (Turns.still (Star.lives _) hT6 hk9)) x5;refine Twin.z0G (by decide) (by rfl) (by exact x4) (λK hK=>?_);go_simp;rw[<-hwz];refine hK _ _ (λh=>by cases h) x5 ?_;clear hK K hwz;(repeat (apply Twin.z0C (by rfl) (by exact x5);(intro K w' hS;obtain⟨s1,s2,s3,s4,s5⟩:=hS;go_simp;exact id)));refine Twin.z0P ?_;clear x3 x4 hk7 hk9 x5 hn7 hbx hk8 d0 d1 f0 hT6 hk6 hcr;go_wp2_with fail;go_meet;exact⟨rfl,HZ⟩};{simp only[List.take_succ_cons,List.take_zero,List.drop_succ_cons,List.drop_zero,List.cons_append,List.nil_append];obtain⟨wd,hwd⟩:=zX1 (w1.drew);have hwds:wd.heap.size=w1.heap.size:=by{rw[hwd];rfl};rw[<-hwd] at x1 hkd |-;clear hwd;have hk0:=kal wd (.cells #[.int .u64 0,.int .i64 0] 32);have hn0:(wd.alloc (.cells #[.int .u64 0,.int .i64 0] 32)).heap[w1.heap.size]?=some (.cells #[.int .u64 0,.int .i64 0] 32 (0,0)):=by{rw[<-hwds];exact heap_alloc_new wd (.cells #[.int .u64 0,.int .i64 0] 32)};have hz5:(wd.alloc (.cells #[.int .u64 0,.int .i64 0] 32)).heap.size=w1.heap.size+1:=by{simp[hwds]};have x2:=VS.keep hk0 id id x1;refine Twin.z0G (by decide) (by rfl) (by exact x1) (λK hK=>?_);go_simp;refine hK _ _ (λ_=>Pre.alloc (Pre.refl _) _) x2 ?_;clear hK K;obtain⟨w5,hw5⟩:=zX1 (wd.alloc (.cells #[.int .u64 0,.int .i64 0] 32));rw[<-hw5] at hk0 hn0 x2 hz5 |-;clear hw5;have hk05:=hkd.nx hk0;obtain⟨X,hXn,hXF,hcr⟩:=HA.o w5 hk05 x2.1;(repeat (apply Twin.z0C (by rfl) (by exact x2);(intro K w' hS;obtain⟨s1,s2,s3,s4,s5⟩:=hS;go_simp;exact id)));refine Twin.z0G (by decide) (by rfl) (by exact x2) (λK hK=>?_);go_simp;refine hcr.mono ?_;rintro e w6 ⟨rfl,hk6,hT6⟩;have x3:=VS.keep hk6 hXn (λz=>by have:=H1.x6 _ (hXF _ z);omega) x2;go_simp;refine hK _ _ (λh=>by cases h) x3 ?_;clear hK K x2;(repeat (apply Twin.z0C (by rfl) (by exact x3);(intro K w' hS;obtain⟨s1,s2,s3,s4,s5⟩:=hS;go_simp;exact id)));have hn7:=hk6.get hn0 (λz=>by have:=H1.x6 _ (hXF _ z);have:=HZ1.o;omega);obtain⟨d0,d1,f0,-⟩:=z2J hn7;obtain⟨-,hk8,-⟩:=z4P w6 w1.heap.size _ _ hn7 (.int .u64 (rb.n:Int)) (.int .i64 rb.node);obtain⟨wz,hwz⟩:=zX1 ((w6.setCell ⟨w1.heap.size,0,none⟩ (.int .u64 (rb.n:Int))).setCell ⟨w1.heap.size,1,none⟩ (.int .i64 rb.node));rw[<-hwz] at hk8;have x5:=VS.keep hk8 (λe=>by have e2:nb=w1.heap.size:=e;have:=(zA1 HZ1.o H1.x5);omega) (λe=>by have e2:w.heap.size=w1.heap.size:=e;have:=HZ1.o;omega) x3;have HZ:=hid (show Turns (Star (grL g ns (setG G k { getG G k with D:=RD,A:=RA }) x)) F w1 wz/\VS nb 3 w.heap.size 0 1 2 3 (ptrV aa) v (.slice vo vl vc) wz from⟨by{obtain⟨F6,hS6,hkF,hF6⟩:=hT6;have hno:¬ F6 w1.heap.size:=λz=>by{rcases hF6 _ z with y | y;(have:=H1.x6 _ y;have:=HZ1.o;omega);omega};refine⟨F6,(Star.lives _).keep hS6 hk8 (λi z e=>?_),(hk05.next hkF zE zI).next hk8 zI (λi hi e=>?_),λi z=>(hF6 i z).imp id λy=>by omega⟩;{have e2:i=w1.heap.size:=e;subst e2;exact hno z};{have e2:i=w1.heap.size:=e;omega}},x5⟩);refine Twin.z0G (by decide) (by rfl) (by exact x3) (λK hK=>?_);go_simp;rw[<-hwz];refine hK _ _ (λh=>by cases h) x5 ?_;clear hK K hwz;(repeat (apply Twin.z0C (by rfl) (by exact x5);(intro K w' hS;obtain⟨s1,s2,s3,s4,s5⟩:=hS;go_simp;exact id)));refine Twin.z0P ?_;clear x3 hn0 hk0 x5 hn7 hk8 d0 d1 f0 hT6 hk6 hcr hk05;go_wp2_with fail;go_meet;exact⟨rfl,HZ⟩})
 case rest=>
  obtain⟨wx,rfl⟩:=zX1 (wc);obtain⟨rfl,HG⟩:=hcut;have HNB:=hid H0.x13;clear HS HA;obtain⟨F2,hS2,hk2,hF2⟩:=HG.x1;obtain⟨G2,hG2⟩:=zX1 (setG G k { getG G k with D:=RD,A:=RA });have hk:=H0.x3;have hms2:G2.ms.length=G.ms.length:=by{rw[hG2];exact z0S};have hg2:getG G2 k = { getG G k with D:=RD,A:=RA }:=by{rw[hG2];exact z1C hk};rw[<-hG2] at hS2;obtain⟨X2,y2,hM2,hXF2,hcl2⟩:=z1M hS2 (by rw[hms2];exact H0.x2) k (by rw[hms2];exact hk) h1;obtain⟨pa,Xp,hpv,hPr,hXp,hcp⟩:=z3Y hM2 (p:=p) (by rw[hg2];exact H0.x8);obtain⟨P2,hP2⟩:=zX1 (accP G.q p (k:Int) v.slot);have hq2:G2.q=G.q:=by{rw[hG2];rfl};have hl2:G2.l=G.l:=by{rw[hG2];rfl};have hs:=λs:Later wx=>zaH s.val G.q H0.x5 p pa Xp (by rw[hq2] at hPr;exact(z3D G.q pa p).2.keep hPr s.keep zI) (k:Int) v.slot (by omega) (λe he=>(HSs.o e he).1);rw[<-hP2] at hs;have HQs:=hid hs;obtain⟨hbx2,-⟩:=z0Y hM2;rw[<-HNB.o] at hbx2;obtain⟨c0,-,-,-,-,c5,-,-,-,-,-,-,-,-,-,cf,cb⟩:=z0O hbx2;rw[hpv] at c5;obtain⟨-,b0,-,-,-⟩:=HG.y1;have H2:=zB10 hS2 hk2 hF2 hG2 hms2 hg2 hcl2 hcp hP2 hq2 hl2;clear hS2 hk2 hF2 hG2 hms2 hg2 hM2 hXF2 hcl2 hpv hPr hXp hcp hP2 hs hbx2 hq2 hl2
  go_upto_region 5 with fail
  have j0:=λs:Later wx=>s.cell c0;have j5:=λs:Later wx=>s.cell c5;have jb:=λs:Later wx=>s.cell b0
  (refine z1D 10 (by kernel_rfl) (by kernel_rfl) ?_;simp only[List.take_succ_cons,List.take_zero,List.drop_succ_cons,List.drop_zero];(repeat (go_big_quiet_step ((fail))));refine wpQuiet_nil ?_;rintro _ ⟨sq,rfl⟩)
  have hs:=HQs.o sq;have hkeep:=sq.keep;obtain⟨w3,hw3⟩:=zX1 (sq.val);rw[<-hw3] at hkeep hs |-;have HK3:=hid hkeep;clear hw3 sq j0 j5 jb c0 c5 b0 cf cb HQs hkeep;go_wp2_with fail;refine hs.mono ?_;rintro e w4 ⟨rfl,ht4⟩;clear hs;obtain⟨hS2,hk2,hF2,hG2,hms2,hg2,hcl2,hcp,hP2,hq2,hl2⟩:=H2.o;obtain⟨G4,hG4⟩:=zX1 (setG G k { getG G k with D:=RD,A:=RA,p:=some P2.2 });have hms4:G4.ms.length=G.ms.length:=by{rw[hG4];exact z0S};have hg4:getG G4 k = { getG G k with D:=RD,A:=RA,p:=some P2.2 }:=by{rw[hG4];exact z1C H0.x3};have hT4:Turns (Star (grL g ns G4 x)) F2 wx w4:=by{have h8:=hcl2 w4 _ y2 (hcp w4 P2.2 (Turns.ahead HK3.o (by rw[hq2];exact ht4)));rw[hg2,hG2,z0W] at h8;rw[hG4];exact h8};obtain⟨F4,hS4,hk4,hF4⟩:=hT4;have hFl:∀ i,F i->i<w.heap.size:=H1.x6;have hz1:=HZ1.o;have hbF2:¬ F2 w.heap.size:=λz=>by{rcases hF2 _ z with y | y;(have:=hFl _ y;omega);omega};have hbF4:¬ F4 w.heap.size:=λz=>by{rcases hF4 _ z with y | y;{exact hbF2 y};{have:=hk2.size;omega}};have O4:Out1 w4 F4 (.slice vo vl vc) vl v.val:=(H1.y6.turn hk2 hF2).turn hk4 hF4;have hV4:∃ u,w4.heap[w.heap.size]?=some (.cells (z4U v (.slice vo vl vc)) 109 (0,0))/\u=0:=⟨0,hk4.get (hk2.get H1.x1 (λz=>by have:=hFl _ z;omega)) hbF2,rfl⟩;obtain⟨-,hV4,-⟩:=hV4;obtain⟨X4,y4,hM4,-⟩:=z1M hS4 (by rw[hms4];exact H0.x2) k (by rw[hms4];exact H0.x3) h1;obtain⟨hbx4,-⟩:=z0Y hM4;rw[<-HNB.o,hg4] at hbx4;obtain⟨-,-,-,-,-,-,c6,c7,-,-,-,-,-,-,-,cf,cb⟩:=z0O hbx4;obtain⟨b0,b1,b2,b3,bf,bb⟩:=z1B hV4;have hl4:G4.l=G.l:=by{rw[hG4];rfl};have hq4:G4.q=G.q:=by{rw[hG4];rfl};have H4:=zB10 hS4 hk4 hF4 hG4 hms4 hg4 O4 hV4 hbF4 hl4 hq4;have HK2:=zB2 hk2 hF2 hP2;clear hS2 hk2 hF2 hG2 hms2 hg2 hcl2 hcp hP2 hS4 hk4 hF4 hG4 hms4 hg4 O4 hV4 hM4 hbx4 hbF2 hbF4 hFl hl4 hq4 ht4 hq2 hl2 H2 hz1
  go_upto_region 6 with fail
  have hn6:=heap_alloc_new w4 (.cells (z4U v (.slice vo vl vc)) 109);have hk6:Keep zF w4 (w4.alloc (.cells (z4U v (.slice vo vl vc)) 109)).drew:=((Keep.refl _ _).alloc _).drew;obtain⟨w6,hw6⟩:=zX1 ((w4.alloc (.cells (z4U v (.slice vo vl vc)) 109)).drew);have hn6:w6.heap[w4.heap.size]?=some (.cells (z4U v (.slice vo vl vc)) 109 (0,0)):=by{rw[hw6];exact hn6};rw[<-hw6] at hk6;have HW6:=hid (show (w4.alloc (.cells #[.int .u64 (v.slot:Int),.int .u64 (v.bal.n:Int),.int .i64 v.bal.node,.slice vo vl vc] 109)).drew=w6 from hw6.symm);obtain⟨hS4,hk4,hF4,hG4,hms4,hg4,O4,hV4,hbF4,hl4,hq4⟩:=H4.o;have hS6:=z2G hS4 hk6;have hVc:∀ w',Keep F4 w6 w'->VotesC w' (some ⟨w4.heap.size,0,none⟩) [v]:=λw' hk' i hi=>by{have hi0:i=0:=by{simp at hi;omega};subst hi0;have hn':=hk'.get hn6 (λz=>by have:=(Star.lives _).lt hS4 _ z;omega);have hr':=(O4.row.keep hk6 zI).keep hk' (λk e z=>O4.out k e z);obtain⟨_,_,ee,g2,g3,-⟩:=hr'.form;cases ee;refine⟨⟨w4.heap.size,0,none⟩,vo,vc,rfl,λj u hu=>?_,by simp only[List.getElem_cons_zero];rw[<-H0.y13];exact g2,g3,by simp only[List.getElem_cons_zero];rw[<-H0.y13];exact Cells.of_row hr'⟩;simp only[Nat.zero_mul,z0R,Nat.zero_add];rw[cell_of_row _ _ _ _ _ _ hn'];simp only[List.getElem_cons_zero,z3A] at hu;rw[<-H0.y13] at hu;simpa [z4U] using hu};have hoth:=z9H w6 g ns G4 x F4 hS6 (by rw[hms4];exact H0.x2) k (by rw[hms4];exact H0.x3) h1 (by rw[hms4];have:=H0.x4;omega) ⟨3,0,0,(getG G k).b,[v]⟩ (some ⟨w4.heap.size,0,none⟩) 1 1 hVc rfl (by decide) (λu hu=>by{rw[List.mem_singleton] at hu;subst hu;rw[<-H0.y13];exact HVl.o}) (by rw[hl4];exact H0.x6);rw[<-HNB.o] at hoth;have HK6:=hid hk6;clear hn6 hw6 hS4 hk4 hF4 hG4 hms4 hg4 O4 hV4 hbF4 hl4 hq4 hk6 hS6 hVc;refine z0F [] (by kernel_rfl) (by kernel_rfl) ?_
  repeat (first | (apply z0C (by rfl);(intro K w';go_simp;exact id)) | (apply z0L (by rfl);(intro K;go_simp;exact id)))
  (refine z3S (by rfl) (by rfl) (λK hK=>?_);go_simp;refine hK _ _ (Pre.push _ rfl) ?_;clear hK K)
  repeat (first | (apply z0C (by rfl);(intro K w';go_simp;exact id)) | (apply z0L (by rfl);(intro K;go_simp;exact id)))
  rw[HW6.o];refine z0G (by rfl) (by rfl) (λK hK=>?_);go_simp;refine hoth.mono ?_;rintro e w7 ⟨rfl,v7,hT7⟩;go_simp;refine hK _ _ ?_;clear hK K hoth c6 c7 cf cb b0 b1 b2 b3 bf bb;refine z0P ?_;obtain⟨F7,hS7,hk7,hF7⟩:=hT7;obtain⟨hS4,hk4,hF4,hG4,hms4,hg4,O4,hV4,hbF4,hl4,hq4⟩:=H4.o;obtain⟨G7,hG7⟩:=zX1 (z1H G4 k ⟨3,0,0,(getG G k).b,[v]⟩);rw[<-hG7] at hS7;have hms7:G7.ms.length=G.ms.length:=by{rw[hG7,z5J];exact hms4};have hg7:getG G7 k = { getG G k with D:=RD,A:=RA,p:=some P2.2 }:=by{rw[hG7,z4Q];exact hg4};have hO:=H0.x9;have hch:=zdD w7 g ns G7 (v7,x.2) F7 hS7 (by rw[hms7];exact H0.x2) k (by rw[hms7];exact H0.x3) h1 (by rw[hms7];have:=H0.x4;omega) (by rw[hG7,zdM,hq4];exact H0.x5) (by rw[hG7];exact zkO (by rw[hl4];exact H0.x6)) P2.2 (by rw[hg7];exact H0.x7) (by rw[hg7]) v.slot hs (by rw[HK2.y2];exact zfE (by have:=H0.x3;have:=H0.x4;omega) HSs.o) (by rw[hg7];exact hO.tab) (by rw[hg7];exact hO.bnd) (by rw[hg7];exact hO.far) (by rw[hg7];exact hO.few);rw[<-HNB.o] at hch;have hV7:=hk7.get (HK6.o.get hV4 id) hbF4;obtain⟨b0,-,-,-,bf,bb⟩:=z1B hV7;have HE:=hid (show z1S G7 k P2.2 v.slot=z9O G k p v by{rw[H0.x12,hG7,hG4,HK2.y2]});have H7:=zB3 hk7 hF7 hk4 hF4;clear hS7 hk7 hF7 hS4 hk4 hF4 hG4 hms4 hg4 O4 hV4 hbF4 hl4 hq4 hG7 hms7 hg7 hO hV7;go_wp2_with fail;refine hch.mono ?_;rintro e w8 ⟨rfl,v8,ht8⟩;have HZ:=hid (Turns.ahead H1.x2 (Turns.join HK2.x1 HK2.x2 (Turns.join H7.x3 H7.y3 (Turns.ahead HK6.o (Turns.join H7.x1 H7.x2 ht8)))));clear hch ht8;go_wp2_with fail
  go_end0
  rw[HP.o,<-HE.o];exact⟨rfl,v8,HZ.o⟩
end
section
open Go.RowKit Go.Maps
open MI SO BM DM WM AC GR
theorem z6Z(w:World)(g:Nat)(ns:List (Nat×Nat))(G:Gr)(x:Value×Value×Value)(F:Nat->Prop)(h:Star (grL g ns G x) w F)(hlen:ns.length=G.ms.length)(k:Nat)(hk:k<G.ms.length)(h1:k<ns.length)(hms:G.ms.length<=100)(hup:(getG G k).up=true):Calls Tryz.prog 39 #[.pointer (some ⟨g,0,none⟩),.int .i64 (k:Int)] w λe w'=>e = .returned (.tuple #[.pointer (some ⟨ns[k].1,0,none⟩),.int .i64 0])/\w'=w:=by
 refine zPo λPost HP=>?_;obtain⟨y,hb,-⟩:=zkY h hlen k hk h1;rw[<-z8R hk] at hb;obtain⟨-,-,c2,-,-,-,-,-,-,-,-,-,-,-,-,cf,cb⟩:=z0O hb;rw[hup] at c2;obtain⟨hgb,-⟩:=zbL h;have hrow:=zyS h;obtain⟨ro,rc,hrf,-,hrm,-,hro⟩:=hrow.form;rw[hrf] at hgb hrow;obtain⟨L,hL⟩:=zX1 (ns.length);rw[<-hL] at hgb;obtain⟨-,-,-,-,-,-,g6,gf,gb⟩:=z3X hgb;obtain⟨nb,hnb⟩:=zX1 (ns[k].1);have hcr:=(Cells.of_row hrow).2 (by omega);obtain⟨ad,e,hcr⟩:=hcr;subst e;have hck:=hcr k (ptrV nb) (by rw[List.getElem?_map,List.getElem?_eq_getElem h1,hnb];rfl);obtain⟨ad',had⟩:∃ b,ad=⟨b,0,none⟩:=⟨ad.block,(hro ad rfl).1⟩;subst had;rw[z0R,Nat.zero_add] at hck;rw[<-hnb] at c2 cf cb;have HN:=hid hnb;have hkL:(k:Int)<(L:Int):=by{omega};have hkL':k<L:=by{omega};have hL100:L<=100:=by{omega};clear h hlen hk hms hup hb hgb hrow hrf hrm hL hnb hcr hro
 go_in
 go_wp2_with fail;rw[HP.o];exact⟨by rw[<-HN.o];rfl,rfl⟩
theorem zmC{p:Pr}(h:p.musts = []):topP p=0:=by unfold topP;rw[h];rfl
theorem zpH{G:Gr}{k:Nat}{p:Pr}(h:p.musts = [])(h1:1<=(getG G k).frm):z2T G k p=setG G k { getG G k with next:=(getG G k).frm }:=by
 unfold z2T;simp only;rw[zmC h,Nat.max_eq_left (by omega),Nat.sub_self];rfl
theorem zcU(w:World)(g:Nat)(ns:List (Nat×Nat))(G:Gr)(x:Value×Value×Value)(F:Nat->Prop)(h:Star (grL g ns G x) w F)(hlen:ns.length=G.ms.length)(k:Nat)(hk:k<G.ms.length)(h1:k<ns.length)(p:Pr)(hp:(getG G k).p=some p)(hm:p.musts = [])(hf:1<=(getG G k).frm)(hf2:(getG G k).frm<18446744073709551615):Calls Tryz.prog 49 #[.pointer (some ⟨g,0,none⟩),.pointer (some ⟨ns[k].1,0,none⟩)] w (SendPost g ns (z2T G k p) x F w):=by
 obtain⟨Post,hPost⟩:=zX1 (SendPost g ns (z2T G k p) x F w);rw[<-hPost];rw[zpH hm hf] at hPost;have HP:=hid hPost;clear hPost;obtain⟨X,y,hM,hXF,hcl⟩:=z1M h hlen k hk h1;obtain⟨nb,hnb⟩:=zX1 (ns[k].1);obtain⟨a,Xp,hpv,hPr,-⟩:=z3Y hM hp;have hs:=λs:Later w=>zwP s.val G.q p a Xp ((z3D G.q a p).2.keep hPr s.keep zI) (by rw[hm];simp);rw[zmC hm] at hs;obtain⟨hbx,-⟩:=z0Y hM;rw[<-hnb] at hbx |-;obtain⟨frm,hfr⟩:=zX1 ((getG G k).frm);rw[<-hfr] at hf hf2;obtain⟨-,-,-,-,-,c5,-,-,c8,-,-,-,-,-,-,cf,cb⟩:=z0O hbx;rw[<-hfr] at c8;rw[hpv] at c5;have HQs:=hid hs;have H0:=zB7 hM hcl hfr hnb hbx h hpv hp;have HX:=hid hXF;clear h hlen hM hcl hfr hnb hbx hs hXF hPr hp hm hpv hk
 go_in
 have j5:=λs:Later w=>s.cell c5;have j8:=λs:Later w=>s.cell c8;have hfw:(0:Int)+1<=frm:=by omega
 go_upto_region 0 with fail
 (refine z1D 14 (by kernel_rfl) (by kernel_rfl) ?_;simp only[List.take_succ_cons,List.take_zero,List.drop_succ_cons,List.drop_zero];(repeat (go_big_quiet_step (((go_at_call 95;exact Later.call ((HQs.o _)))))));refine wpQuiet_nil ?_;rintro _ ⟨sq,rfl⟩)
 have hkeep:=sq.keep;obtain⟨w3,hw3⟩:=zX1 (sq.val);rw[<-hw3] at hkeep |-;clear hw3 sq j5 j8;have hmx:max (frm:Int) 1=(frm:Int):=by{omega};rw[hmx];have hM3:=(Star.lives _).keep H0.x1 hkeep zI;obtain⟨X4,hM4,hk4,hX4⟩:=mem_put hM3 9 (.int .u64 (frm:Int)) (m':={ getG G k with next:=frm }) (x':=y) rfl rfl;rw[<-H0.x4] at hM4 hk4;have HT:=hid (show Turns (Star (grL g ns (setG G k { getG G k with next:=frm }) x)) F w (w3.setCell ⟨nb,9,none⟩ (.int .u64 (frm:Int))) from H0.x2 _ _ y (by{rw[<-H0.x4];exact Turns.ahead hkeep ⟨X4,hM4,hk4,hX4⟩}));have hbx3:=hkeep.get H0.x5 id;obtain⟨-,-,-,-,-,-,-,-,-,d9,-,-,-,-,-,df,db⟩:=z0O hbx3;obtain⟨w4,hw4⟩:=zX1 (w3.setCell ⟨nb,9,none⟩ (.int .u64 (frm:Int)));rw[<-hw4] at hM4 HT;obtain⟨hbx4,-⟩:=z0Y hM4;obtain⟨-,-,-,-,-,e5,-,-,e8,e9,-,-,-,-,-,ef,eb⟩:=z0O hbx4;dsimp only at e8 e9;rw[<-H0.x3] at e8;rw[H0.x7] at e5;have HW:=hid hw4;clear hM3 hM4 hk4 hX4 hbx3 hbx4 hkeep hw4 hmx hfw c5 c8 cf cb
 go_upto_region 1 with fail
 rw[<-HW.o];clear HW df db d9;go_wp2_with fail
 go_loopw [4] (λiv wr=>∃ i:Nat,i=frm/\iv = .int .u64 (i:Int)/\zH (wr=w4)) (λiv _=>frm - (intOf iv).toNat)
 case atStart=>exact⟨frm,rfl,rfl,hid rfl⟩
 case round=>(obtain⟨_,rfl,rfl,HW4⟩:=hrel;rw[HW4.o];clear HW4;go_wp2_with fail;(go_end0);have ht:=HT.o;rw[H0.x3] at ht;rw[HP.o];exact⟨rfl,_,ht⟩)
end
end Go.Proofs.YtkhddpiopbmhjaaGreat
