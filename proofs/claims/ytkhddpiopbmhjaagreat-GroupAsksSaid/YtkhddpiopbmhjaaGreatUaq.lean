/- Texts Get, Wal, WalE, GetR in one. Conditions: as each law names them. -/
import Derived.Deep.CutBlock
import Derived.Test.YtkhddpiopbmhjaaGreatUaa
import Derived.Test.YtkhddpiopbmhjaaGreatUaj
import Derived.Test.YtkhddpiopbmhjaaGreatUak
set_option maxRecDepth 20000
set_option maxHeartbeats 8000000
namespace Go.Proofs.YtkhddpiopbmhjaaGreat
section
open Go.RowKit
open BM
theorem zsO{w:World}{b:Nat}{T:TypeId}{a0 a1:Value}(H:w.heap[b]?=some (.cells #[a0,a1] T (0,0))):w.cell? ⟨b,0,none⟩=some a0/\w.cell? ⟨b,1,none⟩=some a1/\(∀ o,w.frozen? ⟨b,o,none⟩=false)/\b<w.heap.size:=by
 refine⟨?_,?_,?_,z0J H⟩ <;> simp[World.cell?,World.frozen?,H]
theorem zjR{P:Program}{fn:Func}{t u v:Tmp}{ty:TypeId}(h:fn.results = #[.cell t ty,.tmp u,.tmp v])(tmps:Array Value)(w:World)(g:Nat)(ht:tmps.getD t undef = .pointer (some ⟨g,0,none⟩))(cs:List Value)(hc:∀ j u,cs[j]?=some u->w.cell? ⟨g,j,none⟩=some u)(d:TypeDesc)(hu:P.underlying ty=some d)(hd:(match d with | .struct _ | .array _ _=>true | _=>false)=true)(hi:(P.info? ty).map (·.size)=some cs.length):(results fn tmps).run P w = .ok (.tuple #[.agg cs.toArray,tmps.getD u undef,tmps.getD v undef]) w:=by
 have hl:=run_loadCells_list (P:=P) w ⟨g,0,none⟩ cs (λj v hv=>by rw[z0R,Nat.zero_add];exact hc j v hv);cases hq:P.info? ty with | none=>{simp[hq] at hi} | some i=>{have hs:i.size=cs.length:=by{simpa [hq] using hi};have hagg:(isAgg ty).run P w = .ok true w:=by{unfold isAgg;rw[Sem.run_bind,run_underlying hu w];cases d <;> simp_all};have hr:(loadVar ty ⟨g,0,none⟩).run P w = .ok (.agg cs.toArray) w:=by{simp[loadVar,Sem.run_bind,hagg,sizeOf,typeInfo,hq,hs,hl]};have ht':tmps[t]?.getD undef = .pointer (some ⟨g,0,none⟩):=by{simpa using ht};simp[results,h,ht',asAddr,hr]}
theorem zzF{wX:World}{fn:Func}{g:Nat}{Q:Ending->World->Prop}{tmps:Array Value}(hres:fn.results = #[.cell 4 323,.tmp 5,.tmp 6])(h4:tmps.getD 4 undef = .pointer (some ⟨g,0,none⟩))(c0 c1:Value)(hA:wX.heap[g]?=some (.cells #[c0,c1] 323 (0,0)))(v0 v1 e5 e6:Value)(h5:tmps.getD 5 undef=e5)(h6:tmps.getD 6 undef=e6)(hq:∀ w5,Keep (λk=>k=g) wX w5->Q (.returned (.tuple #[.agg #[v0,v1],e5,e6])) w5):bodyPost Tryz.prog fn Q Exit.ret { tmps:=tmps,defers:=[] } ((wX.setCell ⟨g,0,none⟩ v0).setCell ⟨g,1,none⟩ v1):=by
 have hB4:=heap_setCell_same wX g 0 _ _ v0 hA;have hB5:=heap_setCell_same (wX.setCell ⟨g,0,none⟩ v0) g 1 _ _ v1 hB4;have k5:Keep (λk=>k=g) wX ((wX.setCell ⟨g,0,none⟩ v0).setCell ⟨g,1,none⟩ v1):=by{refine Keep.setCell (Keep.setCell (Keep.refl _ _) (.inl ?_) _) (.inl ?_) _ <;> rfl};generalize (wX.setCell ⟨g,0,none⟩ v0).setCell ⟨g,1,none⟩ v1=w5 at *;refine bodyPost_ret (zjR hres _ _ g h4 [v0,v1] ?_ _ Tryz.underlying323 rfl (by kernel_rfl)) rfl ?_;{intro j u hu;rw[cell_of_row _ _ _ _ _ _ hB5];simpa using hu};{subst h5 h6;exact hq w5 k5}
def GetPost(w:World)(g:Got)(e:Ending)(w':World):Prop:=
 match g with
 | .no m=>e = .returned (.tuple #[.agg #[.int .u8 0,.slice none 0 0],.int .i64 0,.int .i64 (m:Nat)])∧Keep (fun _=>False) w w'
 | .yes k body q=>∃ v,e = .returned (.tuple #[.agg #[.int .u8 (k.toNat:Nat),v],.int .i64 (q:Nat),.int .i64 0])∧Fresh w v body w'
end
section
open Go.RowKit
open DM BM WM
theorem y0R:SliceTy Tryz.prog 279 39 (.slice none 0 0) 1 24:=⟨by kernel_rfl,by kernel_rfl,rfl,by decide⟩
structure Recs (w:World) (F A:Nat→Prop) (v:Value) (L:List (List UInt8)) (vs:List Value):Prop where
 row:Row w 39 1 v L.length vs
 own:∀ k,v.ownBlock=some k→F k∧¬ A k
 each:∀ j (hj:j<L.length),∃ u,vs[j]?=some u∧Row w 5 1 u L[j].length (z0B L[j])∧∀ k,u.ownBlock=some k→F k∧¬ A k∧v.ownBlock≠some k
theorem Recs.keep{w w':World}{F A G:Nat->Prop}{v:Value}{L:List (List UInt8)}{vs:List Value}(h:Recs w F A v L vs)(hk:Keep G w w')(hG:∀ k,F k->¬ A k->¬ G k):Recs w' F A v L vs:=
 ⟨h.row.keep hk λk e=>hG k (h.own k e).1 (h.own k e).2,h.own,λj hj=>let ⟨u,h1,h2,h3⟩:=h.each j hj;⟨u,h1,h2.keep hk λk e=>hG k (h3 k e).1 (h3 k e).2.1,h3⟩⟩
theorem Recs.nil(w:World)(F A:Nat->Prop):Recs w F A (.slice none 0 0) [] []:=
 ⟨Row.nil _ _ _,λk e=>by simp[Value.ownBlock] at e,λj hj=>by simp at hj⟩
theorem Recs.push{wr w':World}{F F' A:Nat->Prop}{v v' u:Value}{L:List (List UInt8)}{vs:List Value}{l:List UInt8}(h:Recs wr F A v L vs)(hu:Row wr 5 1 u l.length (z0B l))(hou:∀ k,u.ownBlock=some k->F' k/\¬ A k/\v.ownBlock≠some k)(hr:Row w' 39 1 v' (L.length+1) (vs ++ [u]))(hk:Keep (λk=>v.ownBlock=some k) wr w')(hF:∀ k,F k->F' k)(hv:∀ k,v'.ownBlock=some k->v.ownBlock=some k∨(wr.heap.size<=k/\F' k/\¬ A k)):Recs w' F' A v' (L ++ [l]) (vs ++ [u]):=by
 have hl:vs.length=L.length:=by{have:=h.row.len;omega};have nov:∀ (x:Value) (n:Nat) (xs:List Value),Row wr 5 1 x n xs->∀ k,x.ownBlock=some k->v.ownBlock≠some k->v'.ownBlock≠some k:=by{intro x n xs hx k e hne e';rcases hv k e' with z | z;{exact hne z};{have:=hx.lt e;omega}};refine⟨by simpa using hr,λk e=>?_,λj hj=>?_⟩;{rcases hv k e with z | z;{exact⟨hF k (h.own k z).1,(h.own k z).2⟩};{exact z.2}};{by_cases hjl:j<L.length;{obtain⟨x,h1,h2,h3⟩:=h.each j hjl;rw[List.getElem_append_left hjl];exact⟨x,by rw[List.getElem?_append_left (by omega)];exact h1,h2.keep hk λk e=>(h3 k e).2.2,λk e=>⟨hF k (h3 k e).1,(h3 k e).2.1,nov x _ _ h2 k e (h3 k e).2.2⟩⟩};{obtain rfl:j=L.length:=by{simp at hj;omega};rw[List.getElem_append_right (Nat.le_refl _)];simp only[Nat.sub_self,List.getElem_cons_zero];exact⟨u,by rw[List.getElem?_append_right (by omega)];simp[hl],hu.keep hk λk e=>(hou k e).2.2,λk e=>⟨(hou k e).1,(hou k e).2.1,nov u _ _ hu k e (hou k e).2.2⟩⟩}}
def z5V(h:Nat)(l:List (List UInt8)):List UInt8:=flat l ++ List.replicate (32 * h - (flat l).length) 0
theorem z3Z{h:Nat}{l:List (List UInt8)}(hf:(flat l).length<=32 * h):(z5V h l).length=32 * h:=by simp[z5V];omega
def z1F(d:Nat)(ep h:Nat)(va vl:Value)(safe en:Nat)(dead:Bool):Array Value:=
 #[.pointer (some ⟨d, 0, none⟩), .int .u64 (ep : Nat), .int .i64 (h : Nat), va, vl, .int .i64 (safe : Nat), .int .i64 (en : Nat), .bool dead]
theorem z3P{w:World}{b:Nat}{T:TypeId}{a0 a1 a2 a3 a4 a5 a6 a7:Value}(H:w.heap[b]?=some (.cells #[a0,a1,a2,a3,a4,a5,a6,a7] T (0,0))):w.cell? ⟨b,0,none⟩=some a0/\w.cell? ⟨b,1,none⟩=some a1/\w.cell? ⟨b,2,none⟩=some a2/\w.cell? ⟨b,3,none⟩=some a3/\w.cell? ⟨b,4,none⟩=some a4/\w.cell? ⟨b,5,none⟩=some a5/\
  w.cell? ⟨b,6,none⟩=some a6/\w.cell? ⟨b,7,none⟩=some a7/\(∀ o,w.frozen? ⟨b,o,none⟩=false)/\b<w.heap.size:=by
 refine⟨?_,?_,?_,?_,?_,?_,?_,?_,?_,z0J H⟩ <;> simp[World.cell?,World.frozen?,H]
structure LgOk (h:Nat) (G:Lg):Prop where
 fit:(flat G.l).length≤32 * h
 two:2≤h
 few:h≤1023
 ep:G.ep<4611686018427387904
 small:∀ x ∈ G.l,x.length≤1024
 safe:G.safe≤G.l.length
theorem y0Q(l:List (List UInt8)):10 * l.length<=(flat l).length:=by
 induction l with | nil=>{simp} | cons x l ih=>{rw[z7R,List.length_append,z2A];simp;omega}
theorem LgOk.count{h:Nat}{G:Lg}(k:LgOk h G):G.l.length<=4000:=by
 have h1:=y0Q G.l;have h2:=k.fit;have h3:=k.few;omega
structure WalIs (w:World) (b d:Nat) (F:Nat→Prop) (h:Nat) (G:Lg) (ga ca:Nat) (vl:Value) (vs:List Value):Prop where
 head:w.heap[b]?=some (.cells (z1F d G.ep h (.slice (some ⟨ga,0,none⟩) (32 * h) ca) vl G.safe (flat G.l).length G.dead) 301 (0,0))
 area:Row w 5 1 (.slice (some ⟨ga,0,none⟩) (32 * h) ca) (32 * h) (z0B (z5V h G.l))
 recs:Recs w F (fun k=>k=b∨k=ga) vl G.l vs
 self:F b
 garea:F ga
 ne:b≠ga
 lt:∀ k,F k→k<w.heap.size
 ok:LgOk h G
theorem WalIs.keep{w w':World}{b d:Nat}{F K:Nat->Prop}{h:Nat}{G:Lg}{ga ca:Nat}{vl:Value}{vs:List Value}(H:WalIs w b d F h G ga ca vl vs)(hk:Keep K w w')(hn:∀ k,F k->¬ K k):WalIs w' b d F h G ga ca vl vs:=
 ⟨hk.get H.head (hn _ H.self),H.area.keep hk λk e=>by simp[Value.ownBlock] at e;subst e;exact hn _ H.garea,H.recs.keep hk λk e _=>hn k e,H.self,H.garea,H.ne,λk x=>Nat.lt_of_lt_of_le (H.lt k x) hk.size,H.ok⟩
theorem WalIs.head'{w w':World}{b d:Nat}{F:Nat->Prop}{h:Nat}{G G':Lg}{ga ca:Nat}{vl:Value}{vs:List Value}(H:WalIs w b d F h G ga ca vl vs)(hk:Keep (λk=>k=b) w w')(hl:G'.l=G.l)(hh:w'.heap[b]?=some (.cells (z1F d G'.ep h (.slice (some ⟨ga,0,none⟩) (32 * h) ca) vl G'.safe (flat G'.l).length G'.dead) 301 (0,0)))(ok:LgOk h G'):WalIs w' b d F h G' ga ca vl vs:=
 ⟨hh,by rw[hl];exact H.area.keep hk λk e=>by simp[Value.ownBlock] at e;subst e;exact λx=>H.ne x.symm,by rw[hl];exact H.recs.keep hk λk _ e x=>e (.inl x),H.self,H.garea,H.ne,λk x=>Nat.lt_of_lt_of_le (H.lt k x) hk.size,ok⟩
structure LogIs (w:World) (b d:Nat) (F Fd:Nat→Prop) (D:Dk) (G:Lg) (ga ca:Nat) (vl:Value) (vs:List Value):Prop where
 wal:WalIs w b d F (half D) G ga ca vl vs
 disk:DiskAt w d Fd D
 apart:∀ k,F k→¬ Fd k
def LogAt(w:World)(b d:Nat)(F Fd:Nat→Prop)(D:Dk)(G:Lg):Prop:=∃ ga ca vl vs,LogIs w b d F Fd D G ga ca vl vs
theorem LogAt.keep{w w':World}{b d:Nat}{F Fd K:Nat->Prop}{D:Dk}{G:Lg}(H:LogAt w b d F Fd D G)(hk:Keep K w w')(h1:∀ k,F k->¬ K k)(h2:∀ k,Fd k->¬ K k):LogAt w' b d F Fd D G:=
 let ⟨ga,ca,vl,vs,h⟩:=H;⟨ga,ca,vl,vs,h.wal.keep hk h1,h.disk.keep hk h2,h.apart⟩
def LogTo(b d:Nat)(F Fd:Nat→Prop)(w:World)(D':Dk)(G':Lg)(w':World):Prop:=
 ∃ F' Fd',LogAt w' b d F' Fd' D' G'∧Keep (fun k=>F k∨Fd k) w w'∧(∀ k,F' k→F k∨w.heap.size≤k)∧∀ k,Fd' k→Fd k∨w.heap.size≤k
theorem LogAt.to{w:World}{b d:Nat}{F Fd:Nat->Prop}{D:Dk}{G:Lg}(H:LogAt w b d F Fd D G):LogTo b d F Fd w D G w:=⟨F,Fd,H,Keep.refl _ _,λ_ x=>.inl x,λ_ x=>.inl x⟩
theorem LgOk.die{h:Nat}{G:Lg}(H:LgOk h G)(x:Bool):LgOk h { G with dead:=x }:=⟨H.fit,H.two,H.few,H.ep,H.small,H.safe⟩
theorem WalIs.dead{w:World}{b d:Nat}{F:Nat->Prop}{h:Nat}{G:Lg}{ga ca:Nat}{vl:Value}{vs:List Value}(H:WalIs w b d F h G ga ca vl vs)(x:Bool):WalIs (w.setCell ⟨b,7,none⟩ (.bool x)) b d F h { G with dead:=x } ga ca vl vs:=by
 refine H.head' (by refine Keep.setCell (Keep.refl _ _) (.inl ?_) _;rfl) rfl ?_ (H.ok.die x);have:=z0A H.head 7 (.bool x);rw[this];rfl
theorem LogAt.dead{w:World}{b d:Nat}{F Fd:Nat->Prop}{D:Dk}{G:Lg}(H:LogAt w b d F Fd D G)(x:Bool):LogTo b d F Fd w D { G with dead:=x } (w.setCell ⟨b,7,none⟩ (.bool x)):=by
 obtain⟨ga,ca,vl,vs,h⟩:=H;have hk:Keep (λk=>k=b) w (w.setCell ⟨b,7,none⟩ (.bool x)):=kst;refine⟨F,Fd,⟨ga,ca,vl,vs,h.wal.dead x,h.disk.keep hk λk e c=>by subst c;exact h.apart _ h.wal.self e,h.apart⟩,hk.mono λi _ e=>by subst e;exact .inl h.wal.self,λ_ x=>.inl x,λ_ x=>.inl x⟩
theorem zfO(w:World)(b d:Nat)(ep h:Nat)(va vl:Value)(sf en:Nat)(dead:Bool)(H:w.heap[b]?=some (.cells (z1F d ep h va vl sf en dead) 301 (0,0)))(hh:h<=1023)(e:Nat):Calls Tryz.prog 184 #[.pointer (some ⟨b,0,none⟩),.int .u64 (e:Nat)] w λx w'=>x = .returned (.int .i64 (2+e % 2 * h:Nat))/\w'=w:=by
 unfold z1F at H;obtain⟨h0,h1,h2,h3,h4,h5,h6,h7,hf,hb⟩:=z3P H;clear H h0 h1 h3 h4 h5 h6 h7;have e2:e % 2<2:=Nat.mod_lt _ (by decide);obtain⟨r,hr⟩:=zX1 (e % 2);have q1:((e:Int) % 2)=(r:Int):=by{omega};have q2:((e:Int).tmod 2)=(r:Int):=by{rw[Int.tmod_eq_emod_of_nonneg (by omega)];exact q1};have q3:=wi64 r (by omega);obtain⟨p,hp⟩:=zX1 (r * h);have hp2:p<=1023:=by{rw[hp];have:r=0∨r=1:=by{omega};rcases this with rfl | rfl <;> omega};have q4:(r:Int) * (h:Int)=(p:Int):=by{rw[hp];push_cast;rfl};have q5:=wi64 p (by omega);have HP:=hid (show 2+e % 2 * h=2+p by rw[hp,hr]);clear hr hp e2
 go_in
 go_wp2
 go_ret;refine⟨?_,rfl⟩;rw[HP.o]
 push_cast
 rfl
theorem z8T(w:World)(b d:Nat)(F Fd:Nat->Prop)(D:Dk)(G:Lg)(H:LogAt w b d F Fd D G)(hg:gone D G=false):Calls Tryz.prog 177 #[.pointer (some ⟨b,0,none⟩)] w λx w'=>x = .returned (.int .i64 0)/\w'=w:=by
 obtain⟨ga,ca,vl,vs,HL⟩:=H;have hh:=HL.wal.head;unfold z1F at hh;obtain⟨h0,h1,h2,h3,h4,h5,h6,h7,hf,hb⟩:=z3P hh;unfold gone at hg;simp only[Bool.or_eq_false_iff] at hg;have hg2:=hg.2;rw[hg.1] at h7;have HL:=hid HL;clear hh h1 h2 h3 h4 h5 h6 hg
 go_in
 go_wp2_with fail;refine(zqM w d Fd D HL.o.disk).mono ?_;rintro e w1 ⟨rfl,rfl⟩;rw[hg2];go_wp2_with fail;go_ret;exact⟨rfl,rfl⟩
theorem zfB(w:World)(b d:Nat)(F Fd:Nat->Prop)(D:Dk)(G:Lg)(H:LogAt w b d F Fd D G)(hg:gone D G=true):Calls Tryz.prog 177 #[.pointer (some ⟨b,0,none⟩)] w λx w'=>x = .returned (.int .i64 6)/\LogTo b d F Fd w D (WM.mark D G) w':=by
 have fin:=hid (show LogTo b d F Fd w D (WM.mark D G) (w.setCell ⟨b,7,none⟩ (.bool true)) by{unfold WM.mark;rw[hg];exact H.dead true});obtain⟨ga,ca,vl,vs,HL⟩:=H;have hh:=HL.wal.head;unfold z1F at hh;obtain⟨h0,h1,h2,h3,h4,h5,h6,h7,hf,hb⟩:=z3P hh;unfold gone at hg;have HL:=hid HL;clear hh h1 h2 h3 h4 h5 h6;cases hd:G.dead with | true=>{rw[hd] at h7;clear hg;(go_in);go_wp2_with fail;go_ret;exact⟨rfl,fin.out⟩} | false=>{rw[hd] at h7;have hg2:D.down=true:=by{simpa [hd] using hg};clear hg;(go_in);go_wp2_with fail;refine(zqM w d Fd D HL.o.disk).mono ?_;rintro e w1 ⟨rfl,rfl⟩;rw[hg2];go_wp2_with fail;go_ret;exact⟨rfl,fin.out⟩}
theorem ziV(w:World)(b d:Nat)(ep h:Nat)(va vl:Value)(sf en:Nat)(dead:Bool)(H:w.heap[b]?=some (.cells (z1F d ep h va vl sf en dead) 301 (0,0)))(e:Int):Calls Tryz.prog 180 #[.pointer (some ⟨b,0,none⟩),.int .i64 e] w λx w'=>x = .returned (.int .i64 e)/\w'=w.setCell ⟨b,7,none⟩ (.bool (dead || decide (e≠0))):=by
 unfold z1F at H;obtain⟨h0,h1,h2,h3,h4,h5,h6,h7,hf,hb⟩:=z3P H;clear H h0 h1 h2 h3 h4 h5 h6;cases dead with | true=>{(go_in);go_wp2_with fail;go_ret;exact⟨rfl,rfl⟩} | false=>{by_cases he:e=0;{subst he;(go_in);go_wp2_with fail;go_ret;exact⟨rfl,rfl⟩};{have u1:(e == 0)=false:=by{simp[he]};have u2:(e != 0)=true:=by{simp[he]};have u3:decide (e=0)=false:=by{simp[he]};have HE:=hid he;clear he;(go_in);go_wp2_with fail;go_ret;refine⟨rfl,?_⟩;have:=HE.o;simp[this]}}
end
section
open Go.RowKit
open DM BM WM
theorem zrL(w:World)(b d:Nat)(F Fd:Nat->Prop)(D:Dk)(G:Lg)(H:LogAt w b d F Fd D G)(hg:gone D G=false):Calls Tryz.prog 179 #[.pointer (some ⟨b,0,none⟩)] w λx w'=>x = .returned (.int .i64 (room D G:Nat))/\w'=w.drew:=by
 have HH:=hid H;obtain⟨ga,ca,vl,vs,HL⟩:=H;have hh:=HL.wal.head;unfold z1F at hh;obtain⟨h0,h1,h2,h3,h4,h5,h6,h7,hf,hb⟩:=z3P hh;have hfit:=HL.wal.ok.fit;have hfew:=HL.wal.ok.few;obtain⟨r,hr⟩:=zX1 (room D G);have q:((32 * half D:Nat):Int) - ((flat G.l).length:Int)=(r:Int):=by{rw[hr];unfold room;omega};have hn:((32 * half D:Nat):Int)<=40000:=by{omega};rw[<-hr];obtain⟨n,hn'⟩:=zX1 (32 * half D);rw[<-hn'] at q hn h3;have hr2:r<=40000:=by{rw[hr];unfold room;omega};have q2:=wi64 r (by omega);have HR:=zB1 hr hn';clear hr hn' hh HL hfit;generalize (flat G.l).length=m at *
 go_in
 go_wp2_with fail;refine(z8T w b d F Fd D G HH.o hg).mono ?_;rintro e w1 ⟨rfl,rfl⟩;go_wp2_with fail;refine z0F [] (by kernel_rfl) (by kernel_rfl) ?_
 repeat (first | (apply z0C (by rfl);(intro K w';go_simp;exact id)) | (apply z0L (by rfl);(intro K;go_simp;exact id)))
 refine z0P ?_;go_wp2_with fail;go_ret;exact⟨rfl,rfl⟩
theorem zmN(w:World)(b fn:Nat)(caps:Array Value)(fr lo hi en n ca:Nat)(va:Value)(Inv:Nat->World->Prop)(Done:Int->World->Prop)(hlo:lo=fr / 32)(hk:∀ i,i * 32<en↔i<hi)(hkl:lo<=hi)(hn:hi * 32<=n)(hca:n<=ca)(_hbig:ca<=maxLen)(hfr:fr<=1000000000)(hen:en<=n)(hnb:n<=1000000000)(ga:Option Addr)(hva:va = .slice ga n ca)(hc:∀ i wr,Inv i wr->wr.cell? ⟨b,3,none⟩=some va)(h0:Inv lo w)(hent:∀ args w,(callFunc fn args).run Tryz.prog w = .ok (.enter fn args) w)(hcall:∀ i wr,lo<=i->i<hi->Inv i wr->Calls Tryz.prog fn (#[.int .i64 (i:Nat),.slice (z1T ga ca (i * 32) 1) 32 (ca - i * 32)] ++ caps) wr λe w'=>∃ c:Int,e = .returned (.int .i64 c)/\(c=0->Inv (i+1) w')/\(c≠0->Done c w')):Calls Tryz.prog 181 #[.pointer (some ⟨b,0,none⟩),.int .i64 (fr:Nat),.int .i64 (en:Nat),.func (.func fn) #[] caps] w λe w'=>∃ c:Int,e = .returned (.int .i64 c)/\(c=0->Inv hi w')/\(c≠0->Done c w'):=by
 have q1:(fr:Int) / 32=(lo:Int):=by{omega};have q2:(fr:Int).tdiv 32=(lo:Int):=by{rw[Int.tdiv_eq_ediv_of_nonneg (by omega)];exact q1};have q3:=wi64 lo (by omega);have HK:=hid hk;have H0:=hid h0;have HC:=hid hc;have HCALL:=hid hcall;clear hk h0 hc hcall hlo q1
 go_in
 go_wp2_with fail
 go_loopw [9] (λiv wr=>∃ i:Nat,lo<=i/\i<=hi/\iv = .int .i64 i/\zH (Inv i wr)) (λiv _=>hi - (intOf iv).toNat)
 case atStart=>exact⟨lo,Nat.le_refl _,by omega,rfl,H0⟩
 case round=>(clear H0;obtain⟨i,hi1,hi2,rfl,HI⟩:=hrel;obtain⟨p,hp⟩:=zX1 (i * 32);have e1:(i:Int) * 32=(p:Int):=by{omega};have e2:=wi64 p (by omega);by_cases hik:i<hi;{have hlt:=(HK.o i).2 hik;have e3:(p:Int)<(en:Int):=by{omega};obtain⟨p2,hp2⟩:∃ p,p=(i+1) * 32:=⟨_,rfl⟩;have e4:((i:Int)+1) * 32=(p2:Int):=by{omega};have e5:=wi64 p2 (by omega);have hc:=HC.o i wr HI.o;rw[hva] at hc;have hs:=λw=>z3U (P:=Tryz.prog) z1L ga n ca .i64 .i64 p p2 (by omega) (by omega) w;have e6:p2 - p=32:=by{omega};rw[e6] at hs;have HP:=zB1 hp hp2;clear hp hp2 e6;go_wp2_with fail;have hcl:=HCALL.o i wr hi1 hik HI.o;rw[<-HP.x1] at hcl;refine hcl.mono ?_;clear hcl;rintro e w1 ⟨c,rfl,hc1,hc2⟩;by_cases hc0:c=0;{subst hc0;have HN:=hid (hc1 rfl);clear hc1 hc2 hc;go_wp2_with fail;go_roundw;(case rel=>exact⟨i+1,by omega,by omega,by go_num,HN⟩);case measure=>simp[intOf];omega};{have u1:(c == 0)=false:=by{simp[hc0]};have u2:(c != 0)=true:=by{simp[hc0]};have u3:decide (c=0)=false:=by{simp[hc0]};have HD:=zB1 hc0 (hc2 hc0);clear hc1 hc2 hc hc0;go_wp2_with fail;go_ret;exact⟨c,rfl,λx=>absurd x HD.x1,λ_=>HD.y1⟩}};{obtain rfl:hi=i:=by{omega};have hnlt:¬ hi * 32<en:=λx=>hik ((HK.o hi).1 x);have e3:¬ ((p:Int)<(en:Int)):=by{omega};have e7:decide ((p:Int)<(en:Int))=false:=decide_eq_false e3;have e8:decide (p<en)=false:=decide_eq_false (by omega);have HP:=hid hp;clear hp hnlt hik e3;go_wp2_with fail;go_ret;exact⟨0,rfl,λ_=>HI.o,λx=>absurd rfl x⟩})
end
section
open Go.RowKit
open BM
end
end Go.Proofs.YtkhddpiopbmhjaaGreat
