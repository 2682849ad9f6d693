/- Texts StoD, StoE, StoF, StoG, StoH, StoI, StoJ, StoQ, AccM, AccA, AccB, AccN, StoR, StoK, AccF, AccE, AccC in one. Conditions: as each law names them. -/
import Derived.Test.YtkhddpiopbmhjaaGreatUaa
import Derived.Test.YtkhddpiopbmhjaaGreatUab
import Derived.Test.YtkhddpiopbmhjaaGreatUac
import Derived.Test.YtkhddpiopbmhjaaGreatUad
import Derived.Test.YtkhddpiopbmhjaaGreatUae
import Derived.Test.YtkhddpiopbmhjaaGreatUaj
import Derived.Test.YtkhddpiopbmhjaaGreatUak
import Derived.Test.YtkhddpiopbmhjaaGreatUan
import Derived.Test.YtkhddpiopbmhjaaGreatUap
import Derived.Test.YtkhddpiopbmhjaaGreatUaq
import Derived.Test.YtkhddpiopbmhjaaGreatUar
import Derived.Test.YtkhddpiopbmhjaaGreatUav
import Derived.Test.YtkhddpiopbmhjaaGreatUaw
set_option maxRecDepth 20000
set_option maxHeartbeats 8000000
namespace Go.Proofs.YtkhddpiopbmhjaaGreat
section
open Go.RowKit
open MI SO BM
end
section
open Go.RowKit
open MI SO BM
theorem zxL(w:World)(b:Nat):(Builtin.max_ #[3,3] 3 #[.int .i64 (b:Int),.int .i64 0]).run Tryz.prog w = .ok (.int .i64 (b:Int)) w:=by
 simp[Builtin.max_,Builtin.max2];omega
theorem zeP{b:List UInt8}{at_:Nat}:∀ (f i v e:Nat),digits b at_ f i v = .no e->e≠0/\e<100
 | 0,_,_,e,h=>by cases h;decide
 | f+1,i,v,e,h=>by{unfold digits at h;split at h;{cases h;decide};simp only at h;split at h;{cases h;decide};split at h;{cases h;decide};split at h;{cases h};exact zeP f _ _ e h}
theorem z8Y{b:List UInt8}{at_ e:Nat}(h:uint b at_ = .no e):e≠0/\e<100:=by
 unfold uint at h;split at h;{cases h;decide};exact zeP _ _ _ _ h
theorem zaY{b:List UInt8}{at_ most e:Nat}(h:z1Z b at_ most = .no e):e≠0/\e<100:=by
 unfold z1Z at h;split at h;{rename_i hu;cases h;exact z8Y hu};split at h;{cases h;decide};split at h;{cases h;decide};cases h
theorem Cells.part{w:World}{ao:Option Addr}{n cap:Nat}{l:List UInt8}(h:Cells w ao n 1 (z0B l))(lo m:Nat)(h1:lo+m<=n)(h2:n<=cap):Cells w (z1T ao cap lo 1) m 1 (z0B ((l.drop lo).take m)):=by
 have h3:=(h.tail lo (by omega) h2 (by decide)).take m (by omega);simpa [z0B,List.map_take,List.map_drop] using h3
def BytPost(w:World)(R:Byt)(e:Ending)(w':World):Prop:=
 match R with
 | .no x=>e = .returned (.tuple #[.slice none 0 0,.int .i64 0,.int .i64 (x:Int)])∧Keep (fun _=>False) w w'
 | .yes s t=>∃ v,e = .returned (.tuple #[v,.int .i64 (t:Int),.int .i64 0])∧Fresh w v s w'
theorem ziP(w:World)(ao:Option Addr)(n c a most:Nat)(l:List UInt8)(h:Cells w ao n 1 (z0B l))(hnc:n<=c)(ha:a<=n)(hn:n<=1000000000)(hm:most<=1000000):Calls Tryz.prog 105 #[.slice ao n c,.int .i64 a,.int .i64 most] w (BytPost w (z1Z l a most)):=by
 have hl:l.length=n:=by{have:=h.1;rw[z0E] at this;omega};have H:=zB1 h hl;have hcall:=zgH w ao n c a l h ha hn;have hmx:=λw=>zxL w most;have hw1:=wu64 most (by omega);obtain⟨R,hR⟩:=zX1 (z1Z l a most);rw[<-hR];unfold z1Z at hR;clear h;cases hu:BM.uint l a with | no e=>{rw[hu] at hR hcall;simp only at hR;subst hR;have te:((e:Int) != 0)=true:=by{have:=(z8Y hu).1;simp;omega};clear hu hl;simp only[numV] at hcall;(go_in);go_wp2_with fail;refine hcall.mono ?_;rintro e2 w2 ⟨rfl,hk2⟩;have HK:=hid hk2;clear hcall hk2;go_wp2_with fail;(go_ret3);exact⟨by rfl,HK.o⟩} | yes m t=>{rw[hu] at hR hcall;simp only at hR;simp only[numV] at hcall;obtain⟨u1,u2,u3,u4⟩:=z7J hu;rw[hl] at u3 hR;by_cases h1:most<m;{rw[if_pos h1] at hR;subst hR;have t1:decide ((most:Int)<(m:Int))=true:=by{simp;omega};clear hu hl u4;(go_in);go_wp2_with fail;refine hcall.mono ?_;rintro e2 w2 ⟨rfl,hk2⟩;have HK:=hid hk2;clear hcall hk2;go_wp2_with fail;(go_ret3);exact⟨by rfl,HK.o⟩};{rw[if_neg h1] at hR;have t1:decide ((most:Int)<(m:Int))=false:=by{simp;omega};obtain⟨d,hd⟩:=zX1 (n - t);have t2:(n:Int) - (t:Int)=(d:Int):=by{omega};have t3:=wi64 d (by omega);have t4:=wu64 d (by omega);rw[<-hd] at hR;by_cases h2:d<m;{rw[if_pos h2] at hR;subst hR;have t5:decide ((d:Int)<(m:Int))=true:=by{simp;omega};clear hu hl u4;(go_in);go_wp2_with fail;refine hcall.mono ?_;rintro e2 w2 ⟨rfl,hk2⟩;have HK:=hid hk2;clear hcall hk2;go_wp2_with fail;(go_ret3);exact⟨by rfl,HK.o⟩};{rw[if_neg h2] at hR;have t5:decide ((d:Int)<(m:Int))=false:=by{simp;omega};obtain⟨en,hen⟩:=zX1 (t+m);have t6:=wi64 m (by omega);have hsl:∀ w,(Instr.sliceAt 39 (.slice ao n c) (some (.int .i64 (t:Int))) (some (.int .i64 ((t:Int)+(m:Int)))) none).run Tryz.prog w = .ok (.slice (z1T ao c t 1) m (c - t)) w:=λw=>by{have h:=z3U (P:=Tryz.prog) z1L ao n c .i64 .i64 t en (by omega) (by omega) w;rw[show en - t=m by omega,hen,Int.natCast_add] at h;exact h};rw[<-hen] at hR;obtain⟨T,hT⟩:=zX1 (z1T ao c t 1);rw[<-hT] at hsl;have HH:=zB3 hR hT hen hd;clear hu u4 hR hT hl;(go_in);go_wp2_with fail;refine hcall.mono ?_;rintro e2 w2 ⟨rfl,hk2⟩;have HK:=hid hk2;clear hcall hk2;go_wp2_with (at_builtin;refine z0Q ?_;intro q hq);(refine hq.out ?_;clear hq q);have hf6:Fresh w2 (.slice (some ⟨w2.heap.size,0,none⟩) 0 0) [] (w2.alloc (.cells #[] 5)):=z1O rfl rfl rfl (by unfold maxLen;decide);obtain⟨w6,hw6⟩:=zX1 (w2.alloc (.cells #[] 5));rw[<-hw6] at hf6 |-;clear hw6;refine wpList_plain rfl (λK hK=>?_);refine z1W _ _ rfl rfl (hf6.since HK.o) T m (c - t) rfl (r:=(l.drop t).take m) (by{rw[HH.x2];exact(H.x1.keep (HK.o.next hf6.keep zI zI) zI).part t m (by have:=HH.y2;omega) hnc}) (by omega) ?_;intro v8 w8 hf8 hk8;refine hK _ _ ?_;clear hK K hf6 hk8;have HF8:=hid hf8;clear hf8;go_wp2_with fail;(go_ret3);rw[HH.x1,HH.x3];exact⟨_,by rw[Int.natCast_add];rfl,HF8.o⟩}}}
theorem zdZ(w:World)(ao:Option Addr)(n c a most:Nat)(l:List UInt8)(h:Cells w ao n 1 (z0B l))(hnc:n<=c)(ha:a<=n)(hn:n<=1000000000)(hm:most<=1000000):Calls Tryz.prog 107 #[.slice ao n c,.int .i64 a,.int .i64 most] w (BytPost w (z1Z l a most)):=by
 have hl:l.length=n:=by{have:=h.1;rw[z0E] at this;omega};have H:=zB1 h hl;have hcall:=zdE w ao n c a l h ha hn;have tm:decide ((most:Int)<0)=false:=by{simp};have hw1:=wu64 most (by omega);obtain⟨R,hR⟩:=zX1 (z1Z l a most);rw[<-hR];unfold z1Z at hR;clear h;cases hu:BM.uint l a with | no e=>{rw[hu] at hR hcall;simp only at hR;subst hR;have te:((e:Int) != 0)=true:=by{have:=(z8Y hu).1;simp;omega};clear hu hl;simp only[numV] at hcall;(go_in);go_wp2_with fail;refine hcall.mono ?_;rintro e2 w2 ⟨rfl,hk2⟩;have HK:=hid hk2;clear hcall hk2;go_wp2_with fail;(go_ret3);exact⟨by rfl,HK.o⟩} | yes m t=>{rw[hu] at hR hcall;simp only at hR;simp only[numV] at hcall;obtain⟨u1,u2,u3,u4⟩:=z7J hu;rw[hl] at u3 hR;by_cases h1:most<m;{rw[if_pos h1] at hR;subst hR;have t1:decide ((most:Int)<(m:Int))=true:=by{simp;omega};clear hu hl u4;(go_in);go_wp2_with fail;refine hcall.mono ?_;rintro e2 w2 ⟨rfl,hk2⟩;have HK:=hid hk2;clear hcall hk2;go_wp2_with fail;(go_ret3);exact⟨by rfl,HK.o⟩};{rw[if_neg h1] at hR;have t1:decide ((most:Int)<(m:Int))=false:=by{simp;omega};obtain⟨d,hd⟩:=zX1 (n - t);have t2:(n:Int) - (t:Int)=(d:Int):=by{omega};have t3:=wi64 d (by omega);have t4:=wu64 d (by omega);rw[<-hd] at hR;by_cases h2:d<m;{rw[if_pos h2] at hR;subst hR;have t5:decide ((d:Int)<(m:Int))=true:=by{simp;omega};clear hu hl u4;(go_in);go_wp2_with fail;refine hcall.mono ?_;rintro e2 w2 ⟨rfl,hk2⟩;have HK:=hid hk2;clear hcall hk2;go_wp2_with fail;(go_ret3);exact⟨by rfl,HK.o⟩};{rw[if_neg h2] at hR;have t5:decide ((d:Int)<(m:Int))=false:=by{simp;omega};obtain⟨en,hen⟩:=zX1 (t+m);have t6:=wi64 m (by omega);have hsl:∀ w,(Instr.sliceAt 39 (.slice ao n c) (some (.int .i64 (t:Int))) (some (.int .i64 ((t:Int)+(m:Int)))) none).run Tryz.prog w = .ok (.slice (z1T ao c t 1) m (c - t)) w:=λw=>by{have h:=z3U (P:=Tryz.prog) z1L ao n c .i64 .i64 t en (by omega) (by omega) w;rw[show en - t=m by omega,hen,Int.natCast_add] at h;exact h};rw[<-hen] at hR;obtain⟨T,hT⟩:=zX1 (z1T ao c t 1);rw[<-hT] at hsl;have HH:=zB3 hR hT hen hd;clear hu u4 hR hT hl;(go_in);go_wp2_with fail;refine hcall.mono ?_;rintro e2 w2 ⟨rfl,hk2⟩;have HK:=hid hk2;clear hcall hk2;go_wp2_with (at_builtin;refine z0Q ?_;intro q hq);(refine hq.out ?_;clear hq q);refine wpList_plain rfl (λK hK=>?_);refine z0U _ _ rfl rfl ((Fresh.nil w).later HK.o) T m (c - t) rfl (r:=(l.drop t).take m) (by{rw[HH.x2];exact(H.x1.keep HK.o zI).part t m (by have:=HH.y2;omega) hnc}) (by simp;omega) ?_;intro v8 w8 hf8 hk8;refine hK _ _ ?_;clear hK K hk8;have HF8:=hid hf8;clear hf8;go_wp2_with fail;(go_ret3);rw[HH.x1,HH.x3];exact⟨_,by rw[Int.natCast_add];rfl,HF8.o⟩}}}
end
section
open Go.RowKit
open MI SO BM
structure RdAt (w:World) (g:Nat) (v:Value) (l:List UInt8) (at_ err:Nat):Prop where
 head:w.heap[g]?=some (.cells #[v,.int .i64 (at_:Int),.int .i64 (err:Int)] 196 (0,0))
 row:Row w 5 1 v l.length (z0B l)
theorem RdAt.keep{w w':World}{g:Nat}{v:Value}{l:List UInt8}{at_ err:Nat}{F:Nat->Prop}(h:RdAt w g v l at_ err)(hk:Keep F w w')(h1:¬ F g)(h2:∀ k,v.ownBlock=some k->¬ F k):RdAt w' g v l at_ err:=
 ⟨hk.get h.head h1,h.row.keep hk h2⟩
theorem RdAt.ne{w:World}{g:Nat}{v:Value}{l:List UInt8}{at_ err:Nat}(h:RdAt w g v l at_ err):¬ v.ownBlock=some g:=h.row.not_block h.head (by decide)
theorem RdAt.set{w w':World}{g:Nat}{v:Value}{l:List UInt8}{at_ err at2 err2:Nat}(h:RdAt w g v l at_ err)(hk:Keep (λk=>k=g) w w')(hh:w'.heap[g]?=some (.cells #[v,.int .i64 (at2:Int),.int .i64 (err2:Int)] 196 (0,0))):RdAt w' g v l at2 err2:=
 ⟨hh,h.row.keep hk (λk e x=>h.ne (by rw[e,x]))⟩
theorem RdAt.put1{w:World}{g:Nat}{v:Value}{l:List UInt8}{at_ err:Nat}(h:RdAt w g v l at_ err)(x:Nat):RdAt (w.setCell ⟨g,1,none⟩ (.int .i64 (x:Int))) g v l x err/\Keep (λk=>k=g) w (w.setCell ⟨g,1,none⟩ (.int .i64 (x:Int))):=by
 have hk:Keep (λk=>k=g) w (w.setCell ⟨g,1,none⟩ (.int .i64 (x:Int))):=kst;exact⟨h.set hk (heap_setCell_same w g 1 _ _ _ h.head),hk⟩
theorem RdAt.put2{w:World}{g:Nat}{v:Value}{l:List UInt8}{at_ err:Nat}(h:RdAt w g v l at_ err)(x:Nat):RdAt (w.setCell ⟨g,2,none⟩ (.int .i64 (x:Int))) g v l at_ x/\Keep (λk=>k=g) w (w.setCell ⟨g,2,none⟩ (.int .i64 (x:Int))):=by
 have hk:Keep (λk=>k=g) w (w.setCell ⟨g,2,none⟩ (.int .i64 (x:Int))):=kst;exact⟨h.set hk (heap_setCell_same w g 2 _ _ _ h.head),hk⟩
theorem zsR(w:World)(ao:Option Addr)(n c:Nat)(l:List UInt8)(h:Cells w ao n 1 (z0B l))(hn:n<=1000000000):Calls Tryz.prog 65 #[.slice ao n c] w λe w'=>∃ g v,e = .returned (.pointer (some ⟨g,0,none⟩))/\RdAt w' g v l 0 0/\Keep zF w w'/\w.heap.size<=g/\∀ k,v.ownBlock=some k->w.heap.size<=k:=by
 have hl:l.length=n:=by{have:=h.1;rw[z0E] at this;omega};have H:=zB1 h hl;clear hl h
 go_in
 go_wp2_with (at_builtin;refine z0Q ?_;intro q hq)
 (refine hq.out ?_;clear hq q)
 have hf6:Fresh w (.slice (some ⟨w.heap.size,0,none⟩) 0 0) [] (w.alloc (.cells #[] 5)):=z1O rfl rfl rfl (by unfold maxLen;decide);obtain⟨w6,hw6⟩:=zX1 (w.alloc (.cells #[] 5));obtain⟨gz,hgz⟩:=zX1 (w.heap.size);rw[<-hgz] at hf6;rw[<-hw6,<-hgz];rw[<-hw6] at hf6;clear hw6;refine wpList_plain rfl (λK hK=>?_);refine z1W _ _ rfl rfl hf6 ao n c rfl (H.x1.keep hf6.keep zI) (by omega) ?_;intro v8 w8 hf8 hk8;refine hK _ _ ?_;clear hK K hf6 hk8;obtain⟨bo,bc,rfl,-⟩:=hf8.row.form;have HF8:=zB1 hf8 hgz;clear hf8 hgz;go_wp2_with fail;have hn9:=heap_alloc_new w8 (.cells #[.slice bo l.length bc,.int .i64 0,.int .i64 0] 196);have hk9:=kal w8 (.cells #[.slice bo l.length bc,.int .i64 0,.int .i64 0] 196);go_ret;exact⟨_,_,rfl,⟨hn9,HF8.x1.row.keep hk9 zI⟩,HF8.x1.keep.next hk9 zI zI,HF8.x1.keep.size,HF8.x1.own⟩
theorem zrP(w:World)(g:Nat)(v:Value)(l:List UInt8)(at_ err:Nat)(h:RdAt w g v l at_ err):Calls Tryz.prog 68 #[.pointer (some ⟨g,0,none⟩)] w λe w'=>e = .returned (.int .i64 (err:Int))/\w'=w:=by
 obtain⟨i0,i1,i2,jf,jb⟩:=z1N h.head;clear h
 go_in
 go_wp2_with fail;go_ret;exact⟨rfl,rfl⟩
theorem zoX(w:World)(g:Nat)(v:Value)(l:List UInt8)(at_:Nat)(h:RdAt w g v l at_ 0)(ha:at_<=l.length)(hn:l.length<=1000000000):Calls Tryz.prog 69 #[.pointer (some ⟨g,0,none⟩)] w λe w'=>e = .returned (.int .i64 ((l.length - at_:Nat):Int))/\Keep zF w w':=by
 obtain⟨i0,i1,i2,jf,jb⟩:=z1N h.head;obtain⟨bo,bc,rfl,-⟩:=h.row.form;clear h
 go_in
 go_wp2_with fail;have q0:=λs:Later w=>s.cell i0;have q1:=λs:Later w=>s.cell i1
 (refine z0V (by kernel_rfl) (by kernel_rfl) ?_;(repeat (go_big_quiet_step ((fail))));refine wpQuiet_nil ?_;rintro _ ⟨sq,rfl⟩)
 go_wp2_with fail;go_ret;refine⟨?_,sq.keep⟩;rw[show ((l.length - at_:Nat):Int)=(l.length:Int) - (at_:Int) by omega];rfl
theorem znY(w:World)(g:Nat)(v:Value)(l:List UInt8)(at_ err:Nat)(h:RdAt w g v l at_ err)(he:err≠0):Calls Tryz.prog 66 #[.pointer (some ⟨g,0,none⟩)] w λe w'=>e = .returned (.int .u64 0)/\w'=w:=by
 obtain⟨i0,i1,i2,jf,jb⟩:=z1N h.head;have te:((err:Int) != 0)=true:=by{simp;omega};clear h
 go_in
 go_wp2_with fail;go_ret;exact⟨rfl,rfl⟩
theorem zkW(w:World)(g:Nat)(v:Value)(l:List UInt8)(at_ err:Nat)(m:Int)(h:RdAt w g v l at_ err)(he:err≠0):Calls Tryz.prog 67 #[.pointer (some ⟨g,0,none⟩),.int .i64 m] w λe w'=>e = .returned (.slice none 0 0)/\w'=w:=by
 obtain⟨i0,i1,i2,jf,jb⟩:=z1N h.head;have te:((err:Int) != 0)=true:=by{simp;omega};clear h
 go_in
 go_wp2_with fail;go_ret;exact⟨rfl,rfl⟩
def RdU(w:World)(g:Nat)(v:Value)(l:List UInt8)(at_:Nat)(R:Num)(e:Ending)(w':World):Prop:=
 Keep (fun k=>k=g) w w'∧match R with
 | .no x=>e = .returned (.int .u64 0)∧RdAt w' g v l at_ x
 | .yes n t=>e = .returned (.int .u64 (n:Int))∧RdAt w' g v l t 0
theorem zpJ(w:World)(g:Nat)(v:Value)(l:List UInt8)(at_:Nat)(h:RdAt w g v l at_ 0)(ha:at_<=l.length)(hn:l.length<=1000000000):Calls Tryz.prog 66 #[.pointer (some ⟨g,0,none⟩)] w (RdU w g v l at_ (uint l at_)):=by
 obtain⟨i0,i1,i2,jf,jb⟩:=z1N h.head;obtain⟨bo,bc,rfl,-⟩:=h.row.form;have H:=hid h;clear h;cases hu:uint l at_ with | no x=>{have te:((x:Int) != 0)=true:=by{have:=(z8Y hu).1;simp;omega};have HU:=hid hu;clear hu;(go_in);go_wp2_with fail;refine z0F [24] (by kernel_rfl) (by kernel_rfl) ?_;(repeat (first | (apply z0C (by rfl);(intro K w';go_simp;exact id)) | (apply z0L (by rfl);(intro K;go_simp;exact id))));have hkd:Keep zF w w.drew:=(Keep.refl _ _).drew;have hd:=H.o.keep hkd id (λ_ _=>id);have hc:=zgH w.drew bo l.length bc at_ l (Cells.of_row hd.row) ha hn;rw[HU.o] at hc;simp only[numV] at hc;clear hd;refine z3S (by rfl) (by rfl) (λK hK=>?_);go_simp;refine hc.mono ?_;rintro e w3 ⟨rfl,hk3⟩;refine hK _ _ (Pre.of_keep hk3) ?_;clear hK K i0 i1 i2 jf jb;have hk13:=hkd.next hk3 zI zI;have hd3:=H.o.keep hk13 id (λ_ _=>id);obtain⟨i0,i1,i2,jf,jb⟩:=z1N hd3.head;have HK:=zB1 hd3 hk13;clear hk3 hc hd3 hk13 hkd;(repeat (first | (apply z0C (by rfl);(intro K w';go_simp;exact id)) | (apply z0L (by rfl);(intro K;go_simp;exact id))));refine z0P ?_;go_wp2_with fail;have hp:=HK.x1.put2 x;go_ret;exact⟨HK.y1.next hp.2 zE zI,rfl,hp.1⟩} | yes n t=>{have HU:=hid hu;clear hu;(go_in);go_wp2_with fail;refine z0F [24] (by kernel_rfl) (by kernel_rfl) ?_;(repeat (first | (apply z0C (by rfl);(intro K w';go_simp;exact id)) | (apply z0L (by rfl);(intro K;go_simp;exact id))));have hkd:Keep zF w w.drew:=(Keep.refl _ _).drew;have hd:=H.o.keep hkd id (λ_ _=>id);have hc:=zgH w.drew bo l.length bc at_ l (Cells.of_row hd.row) ha hn;rw[HU.o] at hc;simp only[numV] at hc;clear hd;refine z3S (by rfl) (by rfl) (λK hK=>?_);go_simp;refine hc.mono ?_;rintro e w3 ⟨rfl,hk3⟩;refine hK _ _ (Pre.of_keep hk3) ?_;clear hK K i0 i1 i2 jf jb;have hk13:=hkd.next hk3 zI zI;have hd3:=H.o.keep hk13 id (λ_ _=>id);obtain⟨i0,i1,i2,jf,jb⟩:=z1N hd3.head;have HK:=zB1 hd3 hk13;clear hk3 hc hd3 hk13 hkd;(repeat (first | (apply z0C (by rfl);(intro K w';go_simp;exact id)) | (apply z0L (by rfl);(intro K;go_simp;exact id))));refine z0P ?_;go_wp2_with fail;have hp:=HK.x1.put1 t;go_ret;exact⟨HK.y1.next hp.2 zE zI,rfl,hp.1⟩}
def RdB(w:World)(g:Nat)(v:Value)(l:List UInt8)(at_:Nat)(R:Byt)(e:Ending)(w':World):Prop:=
 Keep (fun k=>k=g) w w'∧match R with
 | .no x=>e = .returned (.slice none 0 0)∧RdAt w' g v l at_ x
 | .yes s t=>∃ u,e = .returned u∧RdAt w' g v l t 0∧Row w' 5 1 u s.length (z0B s)∧∀ k,u.ownBlock=some k→w.heap.size≤k
theorem zlK(w:World)(g:Nat)(v:Value)(l:List UInt8)(at_ most:Nat)(mz:Int)(hmz:mz=(most:Int))(h:RdAt w g v l at_ 0)(ha:at_<=l.length)(hn:l.length<=1000000000)(hm:most<=1000000):Calls Tryz.prog 67 #[.pointer (some ⟨g,0,none⟩),.int .i64 mz] w (RdB w g v l at_ (z1Z l at_ most)):=by
 subst hmz;obtain⟨i0,i1,i2,jf,jb⟩:=z1N h.head;obtain⟨bo,bc,rfl,hbc,-⟩:=h.row.form;have H:=hid h;clear h;cases hu:z1Z l at_ most with | no x=>{have te:((x:Int) != 0)=true:=by{have:=(zaY hu).1;simp;omega};have HU:=hid hu;clear hu;(go_in);go_wp2_with fail;refine z0F [27] (by kernel_rfl) (by kernel_rfl) ?_;(repeat (first | (apply z0C (by rfl);(intro K w';go_simp;exact id)) | (apply z0L (by rfl);(intro K;go_simp;exact id))));have hkd:Keep zF w w.drew:=(Keep.refl _ _).drew;have hd:=H.o.keep hkd id (λ_ _=>id);have hc:=ziP w.drew bo l.length bc at_ most l (Cells.of_row hd.row) hbc ha hn hm;rw[HU.o] at hc;clear hd;refine z3S (by rfl) (by rfl) (λK hK=>?_);go_simp;refine hc.mono ?_;rintro e w3 ⟨rfl,hk3⟩;refine hK _ _ (Pre.of_keep hk3) ?_;clear hK K i0 i1 i2 jf jb;have hk13:=hkd.next hk3 zI zI;have hd3:=H.o.keep hk13 id (λ_ _=>id);obtain⟨i0,i1,i2,jf,jb⟩:=z1N hd3.head;have HK:=zB1 hd3 hk13;clear hk3 hc hd3 hk13 hkd;(repeat (first | (apply z0C (by rfl);(intro K w';go_simp;exact id)) | (apply z0L (by rfl);(intro K;go_simp;exact id))));refine z0P ?_;go_wp2_with fail;have hp:=HK.x1.put2 x;go_ret;exact⟨HK.y1.next hp.2 zE zI,rfl,hp.1⟩} | yes s t=>{have HU:=hid hu;clear hu;(go_in);go_wp2_with fail;refine z0F [27] (by kernel_rfl) (by kernel_rfl) ?_;(repeat (first | (apply z0C (by rfl);(intro K w';go_simp;exact id)) | (apply z0L (by rfl);(intro K;go_simp;exact id))));have hkd:Keep zF w w.drew:=(Keep.refl _ _).drew;have hd:=H.o.keep hkd id (λ_ _=>id);have hc:=ziP w.drew bo l.length bc at_ most l (Cells.of_row hd.row) hbc ha hn hm;rw[HU.o] at hc;clear hd;refine z3S (by rfl) (by rfl) (λK hK=>?_);go_simp;refine hc.mono ?_;rintro e w3 ⟨v3,rfl,hf3⟩;refine hK _ _ (Pre.of_keep hf3.keep) ?_;clear hK K i0 i1 i2 jf jb;have hk13:=hkd.next hf3.keep zI zI;have hd3:=H.o.keep hk13 id (λ_ _=>id);obtain⟨i0,i1,i2,jf,jb⟩:=z1N hd3.head;have HK:=zB2 hd3 hk13 hf3;clear hf3 hc hd3 hk13 hkd;(repeat (first | (apply z0C (by rfl);(intro K w';go_simp;exact id)) | (apply z0L (by rfl);(intro K;go_simp;exact id))));refine z0P ?_;go_wp2_with fail;have hp:=HK.x1.put1 t;go_ret;exact⟨HK.x2.next hp.2 zE zI,_,rfl,hp.1,HK.y2.row.keep hp.2 (λk e x=>HK.y2.row.not_block HK.x1.head (by decide) (by rw[e,x])),HK.y2.own⟩}
def SO.uS(b:List UInt8)(s:Nat×Nat):Nat×Nat×Nat:=if s.2≠0 then (0,s) else match uint b s.1 with
 | .no x=>(0,s.1,x)
 | .yes n t=>(n,t,0)
def SO.bS(b:List UInt8)(most:Nat)(s:Nat×Nat):Str×Nat×Nat:=if s.2≠0 then ([],s) else match z1Z b s.1 most with
 | .no x=>([],s.1,x)
 | .yes v t=>(v,t,0)
theorem zaN(w:World)(g:Nat)(v:Value)(l:List UInt8)(at_ err:Nat)(h:RdAt w g v l at_ err)(ha:at_<=l.length)(hn:l.length<=1000000000):Calls Tryz.prog 66 #[.pointer (some ⟨g,0,none⟩)] w λe w'=>e = .returned (.int .u64 ((uS l (at_,err)).1:Int))/\RdAt w' g v l (uS l (at_,err)).2.1 (uS l (at_,err)).2.2/\Keep (λk=>k=g) w w':=by
 unfold uS;by_cases he:err≠0;{rw[if_pos he];refine(znY w g v l at_ err h he).mono ?_;rintro e w' ⟨rfl,rfl⟩;exact⟨rfl,h,Keep.refl _ _⟩};{rw[if_neg he];obtain rfl:err=0:=by{omega};refine(zpJ w g v l at_ h ha hn).mono ?_;rintro e w' ⟨hk,hr⟩;simp only;cases hu:uint l at_ with | no x=>{rw[hu] at hr;exact⟨hr.1,hr.2,hk⟩} | yes n t=>{rw[hu] at hr;exact⟨hr.1,hr.2,hk⟩}}
theorem ztF(b:List UInt8)(most:Nat){a e:Nat}(ha:a<=b.length):(bS b most (a,e)).2.1<=b.length/\(bS b most (a,e)).1.length<=most:=by
 unfold bS;by_cases he:e≠0;{simp[he,ha]};{rw[if_neg he];simp only;cases hu:z1Z b a most with | no x=>{exact⟨ha,Nat.zero_le _⟩} | yes s t=>{have:=z5P hu;exact⟨this.2.2.1,this.1⟩}}
theorem z4Z(b:List UInt8){a e:Nat}(ha:a<=b.length):(uS b (a,e)).2.1<=b.length/\(uS b (a,e)).1<18446744073709551616:=by
 unfold uS;by_cases he:e≠0;{simp[he,ha]};{rw[if_neg he];simp only;cases hu:uint b a with | no x=>{exact⟨ha,by show (0:Nat)<18446744073709551616;decide⟩} | yes n t=>{have:=z7J hu;exact⟨this.2.2.1,this.1⟩}}
end
section
open Go.RowKit
open MI SO BM
def chsV(l:List Ch):List Value:=l.flatMap chV
theorem znH:∀ (l:List Ch) (i:Nat) (hi:i<l.length) (t:Nat),t<3->(chsV l)[i * 3+t]?=(chV l[i])[t]?
 | [],i,hi,_,_=>by simp at hi
 | c :: l,0,_,t,ht=>by{rw[show chsV (c :: l)=chV c ++ chsV l from rfl,List.getElem?_append_left (by simp[chV];omega)];simp}
 | c :: l,i+1,hi,t,ht=>by{rw[show chsV (c :: l)=chV c ++ chsV l from rfl,List.getElem?_append_right (by simp[chV];omega)];have:=znH l i (by simpa using hi) t ht;rw[show (i+1) * 3+t - (chV c).length=i * 3+t by simp[chV];omega,this];rfl}
theorem Chs.of_row{w:World}{v:Value}{l:List Ch}(h:Row w 161 3 v l.length (chsV l))(hok:∀ c ∈ l,ChOk c):Chs w v l:=by
 obtain⟨ad,cap,rfl,h1,h2,-⟩:=h.form;refine⟨ad,cap,rfl,h1,h2,λhp=>?_⟩;obtain⟨g,cap',cur,fz,hv,-⟩:=h.some hp;cases hv;refine⟨_,rfl,λi hi=>⟨chV l[i],rfl,⟨rfl,hok _ (List.getElem_mem hi)⟩,λj u hu=>?_⟩⟩;have ht:j<3:=(List.getElem?_eq_some_iff.1 hu).1;obtain⟨g',c',hv',hc⟩:=h.getCell (show (chsV l)[i * 3+j]?=some u by rw[znH l i hi j ht];exact hu);cases hv';rw[z0R];simpa using hc
def DecPost(w:World)(b:List UInt8)(e:Ending)(w':World):Prop:=
 Keep (fun _=>False) w w'∧match dec b with
 | some l=>∃ v,e = .returned (.tuple #[v,.int .i64 0])∧Row w' 161 3 v l.length (chsV l)∧∀ k,v.ownBlock=some k→w.heap.size≤k
 | none=>e = .returned (.tuple #[.slice none 0 0,.int .i64 50])
structure DecRel (w:World) (g:Nat) (rv:Value) (b:List UInt8) (n t0 i:Nat) (acc:List Ch) (at_ err:Nat) (lv:Value) (wr:World):Prop where
 keep:Keep (fun _=>False) w wr
 rd:RdAt wr g rv b at_ err
 row:Row wr 161 3 lv i (chsV acc)
 own:∀ k,lv.ownBlock=some k→w.heap.size≤k
 len:acc.length=i
 ok:∀ c ∈ acc,ChOk c
 pos:at_≤b.length
 is:(err=0∧∀ k,i+k=n→z9A b n t0=(z9A b k at_).map fun p=>(acc ++ p.1,p.2))∨(err≠0∧z9A b n t0=none)
end
section
open Go.RowKit
open MI SO BM
theorem Cells.pre{w w':World}{ao:Option Addr}{n size:Nat}{xs:List Value}(h:Cells w ao n size xs)(hp:Pre w w'):Cells w' ao n size xs:=
 ⟨h.1,λh0=>by{obtain⟨ad,e,hc⟩:=h.2 h0;refine⟨ad,e,λj u hu=>?_⟩;have h1:=hc j u hu;rw[World.cell?_of_block (hp.2 _ (World.block_lt_of_cell? w _ h1))];exact h1}⟩
structure RDecRel (w:World) (b:List UInt8) (n t0 i:Nat) (acc:List Ch) (at_:Nat) (lv:Value) (wr:World):Prop where
 keep:Keep (fun _=>False) w wr
 row:Row wr 161 3 lv i (chsV acc)
 own:∀ k,lv.ownBlock=some k→w.heap.size≤k
 len:acc.length=i
 ok:∀ c ∈ acc,ChOk c
 pos:at_≤b.length
 is:∀ k,i+k=n→z9A b n t0=(z9A b k at_).map fun p=>(acc ++ p.1,p.2)
end
section
open Go.RowKit
open Go.Maps
open MI SO BM
def MI.mapC(m:List (Str×Str))(c:Ch):List (Str×Str):=if c.gone then AL.del m c.key else AL.put m c.key c.value
def MI.mapL(m:List (Str×Str))(l:List Ch):List (Str×Str):=l.foldl mapC m
def MI.layL(ps:List (Str×Str))(l:List Ch):List (Str×Str):=l.foldl lay1 ps
theorem MI.mapC_get{m ps:List (Str×Str)}(hs:Sorted ps)(h:∀ x,AL.get m x=AL.get ps x)(c:Ch)(x:Str):AL.get (mapC m c) x=AL.get (lay1 ps c) x:=by
 have:=zvP hs h ⟨0,false,c⟩ x;simpa [mapI,layI,mapC] using this
theorem MI.mapL_get:∀ (l:List Ch) {m ps:List (Str×Str)},Sorted ps->(∀ x,AL.get m x=AL.get ps x)->∀ x,AL.get (mapL m l) x=AL.get (layL ps l) x
 | [],_,_,_,h,x=>h x
 | c :: l,_,_,hs,h,x=>mapL_get l (z7G hs c) (mapC_get hs h c) x
theorem MI.mapC_len{m:List (Str×Str)}(h:AL.Ok m)(c:Ch):(mapC m c).length<=m.length+1:=by
 have h1:=AL.zaQ h c.key;unfold mapC;split;{omega};{unfold AL.put;rw[List.length_append];simp;omega}
def z4J(wp:Value)(mb:Nat)(dead:Bool):Array Value:=#[wp,.map (some mb),.bool dead]
structure LayRel (w:World) (mb:Nat) (m:List (Str×Str)) (m0 i:Nat) (wr:World):Prop where
 keep:Keep (fun k=>k=mb) w wr
 map:PairsAt wr mb m
 len:m.length≤m0+i
theorem zxJ(w:World)(b mb:Nat)(wp:Value)(dead:Bool)(m:List (Str×Str))(ao:Option Addr)(n c:Nat)(l:List Ch)(hh:w.heap[b]?=some (.cells (z4J wp mb dead) 269 (0,0)))(hp:PairsAt w mb m)(hbm:b≠mb)(h:Chs w (.slice ao n c) l)(hn:n=l.length)(ham:0<n->∀ x,ao=some x->x.block≠mb)(hml:m.length+n<=1000000):Calls Tryz.prog 153 #[.pointer (some ⟨b,0,none⟩),.slice ao n c] w λe w'=>e = .returned (.tuple #[])/\PairsAt w' mb (mapL m l)/\Keep (λk=>k=mb) w w':=by
 have HS:=zB1 h hn;have H0:=zB3 hh hp hbm ham;clear h hn hh hp hbm ham
 go_in
 go_wp2_with (at_builtin;refine z0Q ?_;intro q hq)
 go_loopw [8] (λiv wr=>∃ i:Nat,i<=n/\iv = .int .i64 i/\zH (LayRel w mb (mapL m (l.take i)) m.length i wr)) (λiv _=>n - (intOf iv).toNat)
 case atStart=>exact⟨0,Nat.zero_le _,rfl,hid ⟨Keep.refl _ _,H0.x2,by simp[mapL]⟩⟩
 case round=>(obtain⟨i,hi,rfl,HT⟩:=hrel;by_cases hin:i<n;{have h4:(i:Int)<n:=by{omega};have hil:i<l.length:=by{rw[<-HS.y1];exact hin};have hsu:mapL m (l.take (i+1))=mapC (mapL m (l.take i)) l[i]:=by{unfold mapL;rw[List.take_add_one,List.getElem?_eq_getElem hil,Option.toList_some,List.foldl_append];rfl};obtain⟨ad,rfl,a0,a1,a2,hok⟩:∃ ad,ao=some ad/\wr.cell? (ad.add (i * 3))=some (.string (str l[i].key))/\wr.cell? ⟨(ad.add (i * 3)).block,(ad.add (i * 3)).off+1,none⟩=some (.string (str l[i].value))/\wr.cell? ⟨(ad.add (i * 3)).block,(ad.add (i * 3)).off+2,none⟩=some (.bool l[i].gone)/\ChOk l[i]:=by{obtain⟨ad,e,a0,a1,a2,hok⟩:=HS.x1.get (Keep.refl _ w) i hil;have hb:(ad.add (i * 3)).block=ad.block:=by{unfold Addr.add;split <;> rfl};have hne:¬ (ad.add (i * 3)).block=mb:=by{rw[hb];exact H0.y3 (by omega) ad e};have hcc:∀ a u,a.block=(ad.add (i * 3)).block->w.cell? a=some u->wr.cell? a=some u:=λa u ha hu=>by{rw[World.cell?_of_block (HT.o.keep.block _ (World.block_lt_of_cell? w _ hu) (by rw[ha];exact hne))];exact hu};exact⟨ad,e,hcc _ _ rfl a0,hcc _ _ rfl a1,hcc _ _ rfl a2,hok⟩};obtain⟨q,hq⟩:=zX1 (l[i]);rw[<-hq] at a0 a1 a2 hok hsu;clear hq;obtain⟨m1,hm1⟩:=zX1 (mapL m (l.take i));rw[<-hm1] at hsu HT;have HX:=hid hsu;clear hsu hm1;obtain⟨key,value,gone⟩:=q;simp only at a0 a1 a2;(go_upto_region 3 with fail);have hn6:=heap_alloc_new wr (.cells #[.string (str key),.string (str value),.bool gone] 161);have hk6:=kal wr (.cells #[.string (str key),.string (str value),.bool gone] 161);obtain⟨gb,hgb⟩:=zX1 (wr.heap.size);obtain⟨w6,hw6⟩:=zX1 (wr.alloc (.cells #[.string (str key),.string (str value),.bool gone] 161));rw[<-hw6] at hn6 hk6 |-;rw[<-hgb] at hn6 |-;clear hw6 hgb a0 a1 a2;obtain⟨j0,j1,j2,jf,jb⟩:=z1N hn6;have hh6:=hk6.get (HT.o.keep.get H0.x1 H0.x3) id;obtain⟨i0,i1,i2,if0,ib0⟩:=z1N hh6;have hp6:PairsAt w6 mb m1:=MapAt.keep HT.o.map hk6 id;have hkey:=hok.1;have H6:=zB2 hk6 hp6 hkey;clear hn6 hk6 hh6 hp6 hok;cases gone with | true=>{(obtain⟨w7,hrun7,hp7,hk7⟩:=MapAt.drop (MapAt.keep H6.x2 ((Keep.refl zF w6).drew) id) zhC (t:=267) Tryz.underlying267 key hkey 0;have hk7:Keep (λi=>i=mb) w6 w7:=((Keep.refl _ w6).drew).next hk7 zI zI;have H7:=zB1 hp7 hk7;clear hp7 hk7;go_wp2_with fail;refine z0F [] (by kernel_rfl) (by kernel_rfl) ?_);(repeat (first | (apply z0C (by rfl);(intro K w';go_simp;exact id)) | (apply z0L (by rfl);(intro K;go_simp;exact id))));(refine z0G (by rfl) (by rfl) (λK hK=>?_);go_simp;refine hK _ _ ?_;clear hK K);refine z0P ?_;clear hrun7;go_wp2_with fail;go_roundw;(case rel=>exact⟨i+1,by omega,by go_num,by{rw[HX.o];exact hid ⟨(HT.o.keep.next H6.x1 zI zE).next H7.y1 zI zI,H7.x1,by have:=mapC_len HT.o.map.1 ⟨key,value,true⟩;have:=HT.o.len;omega⟩}⟩);case measure=>simp[intOf];omega} | false=>{have hml2:m1.length<maxLen:=by{have:=HT.o.len;unfold maxLen;omega};(obtain⟨w7,hrun7,hp7,hk7⟩:=MapAt.store (MapAt.keep H6.x2 ((Keep.refl zF w6).drew) id) zhC (t:=267) Tryz.underlying267 hml2 key hkey value;have hk7:Keep (λi=>i=mb) w6 w7:=((Keep.refl _ w6).drew).next hk7 zI zI;have H7:=zB1 hp7 hk7;simp only[zwE] at hrun7;clear hp7 hk7;go_wp2_with fail;refine z0F [] (by kernel_rfl) (by kernel_rfl) ?_);(repeat (first | (apply z0C (by rfl);(intro K w';go_simp;exact id)) | (apply z0L (by rfl);(intro K;go_simp;exact id))));(refine z0G (by rfl) (by rfl) (λK hK=>?_);go_simp;refine hK _ _ ?_;clear hK K);refine z0P ?_;clear hrun7;go_wp2_with fail;go_roundw;(case rel=>exact⟨i+1,by omega,by go_num,by{rw[HX.o];exact hid ⟨(HT.o.keep.next H6.x1 zI zE).next H7.y1 zI zI,H7.x1,by have:=mapC_len HT.o.map.1 ⟨key,value,false⟩;have:=HT.o.len;omega⟩}⟩);case measure=>simp[intOf];omega}};{have h4:decide ((i:Int)<n)=false:=by{simp;omega};obtain rfl:i=n:=by{omega};go_wp2_with fail;(go_end0);have:=HT.o.map;rw[show l.take i=l by rw[HS.y1];exact List.take_length] at this;exact⟨rfl,this,HT.o.keep⟩})
end
section
open Go.RowKit
open MI SO BM
def prV(p:Str×Str):List Value:=[.string (str p.1),.string (str p.2)]
def prsV(l:List (Str×Str)):List Value:=l.flatMap prV
theorem zkP(l m:List (Str×Str)):prsV (l ++ m)=prsV l ++ prsV m:=by simp[prsV]
theorem zkG(p:Str×Str):∀ u ∈ prV p,u.oneCell'=true:=by
 intro u hu;simp only[prV,List.mem_cons,List.not_mem_nil,or_false] at hu;rcases hu with rfl | rfl <;> rfl
def y1L:Value:=.agg #[.string { data:=#[] },.string { data:=#[] }]
theorem y2K:SliceTy Tryz.prog 43 117 y1L 2 32:=⟨by kernel_rfl,by kernel_rfl,rfl,by decide⟩
theorem ziJ{ps:List (Str×Str)}(h:Sorted ps):AL.Ok ps:=by
 unfold Sorted at h;unfold AL.Ok;exact h.imp λ{a b} hab e=>by{rw[e] at hab;exact z2P _ hab}
structure RLayRel (w1:World) (ps:List (Str×Str)) (key:Str) (k:Nat) (v:Value) (wr:World):Prop where
 keep:Keep (fun _=>False) w1 wr
 row:Row wr 117 2 v k (prsV (ps.take k))
 own:∀ b,v.ownBlock=some b→w1.heap.size≤b
 less:∀ i (h:i<ps.length),i<k→ps[i].1<key
structure LayEnd (w1:World) (out:List (Str×Str)) (v:Value) (wr:World):Prop where
 keep:Keep (fun _=>False) w1 wr
 row:Row wr 117 2 v out.length (prsV out)
 own:∀ b,v.ownBlock=some b→w1.heap.size≤b
structure RLayTo (w:World) (v0:Value) (ps:List (Str×Str)) (n i:Nat) (v:Value) (wr:World):Prop where
 keep:Keep (fun _=>False) w wr
 row:Row wr 117 2 v ps.length (prsV ps)
 own:∀ k,v.ownBlock=some k→w.heap.size≤k∨v0.ownBlock=some k
 len:ps.length≤n+i
end
namespace SO
open Go.Proofs.YtkhddpiopbmhjaaGreat MI BM DM WM
structure St where
 g:Lg
 ps:List (Str×Str)
 dead:Bool
def cpL(ps:List (Str×Str)):List (List UInt8):=ps.map fun p=>enc [⟨p.1,p.2,false⟩]
def cpS(D:Dk)(S:St):Int×Dk×St:=
 if S.dead then (6,D,S) else ((WM.reset D S.g (cpL S.ps)).1,(WM.reset D S.g (cpL S.ps)).2.1,⟨(WM.reset D S.g (cpL S.ps)).2.2,S.ps,decide ((WM.reset D S.g (cpL S.ps)).1=6)⟩)
def apS(D:Dk)(S:St)(b:List UInt8):Int×Dk×St:=
 ((WM.append D S.g b).1,(WM.append D S.g b).2.1,⟨(WM.append D S.g b).2.2,S.ps,decide ((WM.append D S.g b).1=6)⟩)
def z4O(D:Dk)(S:St)(b:List UInt8):Int×Dk×St:=
 if (apS D S b).1=5 then
  if (cpS (apS D S b).2.1 (apS D S b).2.2).1=0 then apS (cpS (apS D S b).2.1 (apS D S b).2.2).2.1 (cpS (apS D S b).2.1 (apS D S b).2.2).2.2 b
  else cpS (apS D S b).2.1 (apS D S b).2.2
 else apS D S b
def zeF(r:Int×Dk×St)(l:List Ch):Int×Dk×St:=(r.1,r.2.1,if r.1=0 then { r.2.2 with ps:=layL r.2.2.ps l } else r.2.2)
def doS(D:Dk)(S:St)(l:List Ch):Int×Dk×St:=
 if S.dead then (6,D,S) else if encE l≠0 then ((encE l:Int),D,S) else zeF (z4O D S (enc l)) l
def syS(D:Dk)(S:St):Int×Dk×St:=
 if S.dead then (6,D,S) else ((WM.z7H D S.g).1,(WM.z7H D S.g).2.1,⟨(WM.z7H D S.g).2.2,S.ps,decide ((WM.z7H D S.g).1=6)⟩)
def decL:List (List UInt8)→List (Str×Str)→Option (List (Str×Str))
 | [],ps=>some ps
 | b :: L,ps=>match dec b with
   | none=>none
   | some l=>decL L (layL ps l)
def opS(D:Dk):Int×Option St×Dk:=
 match (zdB D).2.1 with
 | none=>((zdB D).1,none,(zdB D).2.2)
 | some g=>match decL g.l [] with
   | none=>(50,none,(zdB D).2.2)
   | some ps=>(0,some ⟨g,ps,false⟩,(zdB D).2.2)
def OkP(p:Str×Str):Prop:=1≤p.1.length∧p.1.length≤16∧p.2.length≤128
structure PsOk (ps:List (Str×Str)):Prop where
 sorted:Sorted ps
 each:∀ p ∈ ps,OkP p
theorem PsOk.nil:PsOk []:=⟨List.Pairwise.nil,λ_ h=>by cases h⟩
theorem zqG{ps:List (Str×Str)}(hs:Sorted ps){c:Ch}{q:Str×Str}(h:q ∈ lay1 ps c):q ∈ ps∨(c.gone=false/\q=(c.key,c.value)):=by
 have h1:=z6P (ziJ (z7G hs c)) h;rw[zgV hs] at h1;split at h1;{split at h1;{cases h1};{rename_i hk hg;have h2:=Option.some.inj h1;refine .inr ⟨by simpa using hg,?_⟩;rw[h2,<-hk]}};{exact .inl (z5M h1)}
theorem PsOk.lay1{ps:List (Str×Str)}(h:PsOk ps){c:Ch}(hc:z2M c=true):PsOk (MI.lay1 ps c):=by
 refine⟨z7G h.sorted c,λp hp=>?_⟩;rcases zqG h.sorted hp with h1 | ⟨-,rfl⟩;{exact h.each p h1};{unfold z2M at hc;have:=of_decide_eq_true hc;exact⟨this.1,this.2.1,this.2.2.1⟩}
theorem PsOk.layL:∀ {l:List Ch} {ps:List (Str×Str)},PsOk ps->(∀ c ∈ l,z2M c=true)->PsOk (MI.layL ps l)
 | [],_,h,_=>h
 | c :: l,_,h,hc=>PsOk.layL (l:=l) (h.lay1 (hc c (by simp))) λc' h'=>hc c' (by simp[h'])
theorem ziS{p:Str×Str}(h:OkP p):right [⟨p.1,p.2,false⟩]=true:=by
 obtain⟨h1,h2,h3⟩:=h;unfold right;simp[z2M];omega
theorem y2E{m ps:List (Str×Str)}(hm:AL.Ok m)(hp:Sorted ps)(h:∀ x,AL.get m x=AL.get ps x):m.length=ps.length:=by
 have hp':AL.Ok ps:=ziJ hp;have hn:∀ {q:List (Str×Str)},AL.Ok q->(q.map (·.1)).Nodup:=λ{q} hq=>by{unfold List.Nodup;rw[List.pairwise_map];exact hq};have hmem:∀ {q:List (Str×Str)},AL.Ok q->∀ x,x ∈ q.map (·.1)↔(AL.get q x).isSome=true:=λ{q} hq x=>by{rw[List.mem_map];constructor;{rintro⟨p,hp,rfl⟩;rw[z6P hq hp];rfl};{intro h;cases hg:AL.get q x with | none=>{rw[hg] at h;cases h} | some y=>{exact⟨(x,y),z5M hg,rfl⟩}}};have:=(List.perm_ext_iff_of_nodup (hn hm) (hn hp')).2 λx=>by{rw[hmem hm,hmem hp',h]};have:=this.length_eq;simpa using this
end SO
namespace AC
open Go.Proofs.YtkhddpiopbmhjaaGreat MI SO BM
structure Bal where
 n:Nat
 node:Int
deriving DecidableEq,Inhabited
def Bal.zero:Bal:=⟨0,0⟩
def less(a b:Bal):Bool:=decide (a.n<b.n) || (decide (a.n=b.n) && decide (a.node<b.node))
def z3O(b:Bal):Bool:=decide (0<b.n) && (decide (0≤b.node) && decide (b.node<12))
def putB(b:Bal):Str:=z0H b.n ++ z0H b.node.toNat
def beN:Nat→Nat→Str
 | 0,_=>[]
 | k+1,s=>UInt8.ofNat (s / 256 ^ k % 256) :: beN k s
def keyS(s:Nat):Str:=118 :: beN 8 s
def valN:Str→Nat
 | []=>0
 | x :: l=>x.toNat * 256 ^ l.length+valN l
def zpW(k:Str):Nat:=match k with
 | []=>0
 | c :: r=>if c=118∧r.length=8 then valN r else 0
def pK:Str:=[112]
structure Vt where
 slot:Nat
 bal:Bal
 val:Str
deriving DecidableEq,Inhabited
def getB(s:Str):Option (Bal×Str):=match uint s 0 with
 | .no _=>none
 | .yes n a=>match uint s a with
   | .no _=>none
   | .yes k b=>if k<12∧0<n then some (⟨n,(k:Int)⟩,s.drop b) else none
theorem z5T(a:Bal):less a a=false:=by simp[less]
theorem znS{a b c:Bal}(h:less a b=true)(k:less b c=true):less a c=true:=by
 simp only[less,Bool.or_eq_true,Bool.and_eq_true,decide_eq_true_eq] at *;omega
theorem zbE{a b:Bal}(h:less a b=false)(k:less b a=false):a=b:=by
 obtain⟨an,ad⟩:=a;obtain⟨bn,bd⟩:=b;simp only[less,Bool.or_eq_false_iff,Bool.and_eq_false_iff,decide_eq_false_iff_not] at *;congr 1 <;> omega
theorem z5L{b:Bal}:z3O b=true↔0<b.n/\0<=b.node/\b.node<12:=by
 simp[z3O]
theorem zfK:∀ k s,(beN k s).length=k
 | 0,_=>rfl
 | k+1,s=>by simp[beN,zfK k]
theorem z7N(s:Nat):(keyS s).length=9:=by simp[keyS,zfK]
theorem ztZ:∀ k s m,beN k (s+m * 256 ^ k)=beN k s
 | 0,_,_=>rfl
 | k+1,s,m=>by{have hp:0<256 ^ k:=Nat.pow_pos (by decide);have e:s+m * 256 ^ (k+1)=s+(m * 256) * 256 ^ k:=by{rw[Nat.pow_succ,Nat.mul_assoc,Nat.mul_comm 256 (256 ^ k)]};unfold beN;rw[e,ztZ k s (m * 256),Nat.add_mul_div_right _ _ hp,Nat.add_mul_mod_self_right]}
theorem ztA(k s:Nat):beN k (s % 256 ^ k)=beN k s:=by
 have:=ztZ k (s % 256 ^ k) (s / 256 ^ k);rw[Nat.mul_comm,Nat.mod_add_div] at this;exact this.symm
theorem zyO:∀ k s t,s<t->t<256 ^ k->beN k s<beN k t
 | 0,s,t,h,h2=>by simp at h2;omega
 | k+1,s,t,h,h2=>by{have hp:0<256 ^ k:=Nat.pow_pos (by decide);have hdiv:∀ x,x<256 ^ (k+1)->x / 256 ^ k<256:=λx hx=>by{rw[Nat.div_lt_iff_lt_mul hp,Nat.mul_comm,<-Nat.pow_succ];exact hx};have hs:=hdiv s (by omega);have ht:=hdiv t h2;have hle:s / 256 ^ k<=t / 256 ^ k:=Nat.div_le_div_right (by omega);unfold beN;rw[List.cons_lt_cons_iff];rcases Nat.lt_or_eq_of_le hle with x | x;{left;rw[UInt8.lt_iff_toNat_lt];simp[Nat.mod_eq_of_lt hs,Nat.mod_eq_of_lt ht];exact x};{right;refine⟨by rw[x],?_⟩;rw[<-ztA k s,<-ztA k t];refine zyO k _ _ ?_ (Nat.mod_lt _ hp);have h3:=Nat.div_add_mod s (256 ^ k);have h4:=Nat.div_add_mod t (256 ^ k);rw[x] at h3;omega}}
theorem zlD{s t:Nat}(h:s<t)(h2:t<18446744073709551616):keyS s<keyS t:=by
 unfold keyS;rw[List.cons_lt_cons_iff];exact .inr ⟨rfl,zyO 8 s t h h2⟩
theorem y2D(s:Nat):pK<keyS s:=by
 unfold pK keyS;rw[List.cons_lt_cons_iff];exact .inl (by decide)
theorem z5Y(n:Nat):(z0H n).length<=10:=z3B 10 n
end AC
section
open Go.RowKit Go.Maps
open MI SO BM DM WM AC
abbrev balC(b:Bal):Array Value:=#[.int .u64 (b.n:Int),.int .i64 b.node]
abbrev balV(b:Bal):Value:=.agg (balC b)
def BalR(b:Bal):Prop:=b.n<18446744073709551616∧-9223372036854775808≤b.node∧b.node≤9223372036854775807
theorem zrJ(w:World)(b:Bal):(w.alloc (.cells (balC b) 32)).cell? ⟨w.heap.size,0,none⟩=some (.int .u64 (b.n:Int))/\(w.alloc (.cells (balC b) 32)).cell? ⟨w.heap.size,1,none⟩=some (.int .i64 b.node)/\
  (∀ o,(w.alloc (.cells (balC b) 32)).frozen? ⟨w.heap.size,o,none⟩=false)/\Keep zF w (w.alloc (.cells (balC b) 32)):=by
 have h:=heap_alloc_new w (.cells (balC b) 32);have hk:=kal w (.cells (balC b) 32);generalize w.alloc (.cells (balC b) 32)=w1 at *;refine⟨?_,?_,?_,hk⟩ <;> simp[World.cell?,World.frozen?,h]
theorem zwW(w:World)(a b:Bal):let w2:=(w.alloc (.cells (balC a) 32)).alloc (.cells (balC b) 32)
  w2.cell? ⟨w.heap.size,0,none⟩=some (.int .u64 (a.n:Int))/\w2.cell? ⟨w.heap.size,1,none⟩=some (.int .i64 a.node)/\(∀ o,w2.frozen? ⟨w.heap.size,o,none⟩=false)/\
  w2.cell? ⟨w.heap.size+1,0,none⟩=some (.int .u64 (b.n:Int))/\w2.cell? ⟨w.heap.size+1,1,none⟩=some (.int .i64 b.node)/\(∀ o,w2.frozen? ⟨w.heap.size+1,o,none⟩=false)/\Keep zF w w2:=by
 intro w2;have h1:=heap_alloc_new w (.cells (balC a) 32);have hk1:=kal w (.cells (balC a) 32);have hk2:Keep zF (w.alloc (.cells (balC a) 32)) w2:=(Keep.refl _ _).alloc _;have h2:=hk2.get h1 id;have h3:w2.heap[w.heap.size+1]?=some (.cells (balC b) 32 (0,0)):=by{have:=heap_alloc_new (w.alloc (.cells (balC a) 32)) (.cells (balC b) 32);have e:(w.alloc (.cells (balC a) 32)).heap.size=w.heap.size+1:=by{simp};rw[e] at this;exact this};have hk:=hk1.nx hk2;clear hk1 hk2 h1;generalize w2=w3 at *;refine⟨?_,?_,?_,?_,?_,?_,hk⟩ <;> simp[World.cell?,World.frozen?,h2,h3]
theorem z8X(w:World)(b:Bal):Calls Tryz.prog 87 #[balV b] w λe w'=>e = .returned (.bool (z3O b))/\Keep zF w w':=by
 obtain⟨c0,c1,cf,hk⟩:=zrJ w b;have HK:=hid hk;clear hk;obtain⟨n,d⟩:=b;obtain⟨r,hr⟩:=zX1 (z3O ⟨n,d⟩);rw[<-hr];have HR:=hid hr;clear hr;simp only at c0 c1;by_cases h0:0<n;{have q0:(0:Int)<(n:Int):=by{omega};by_cases h1:0<=d;{by_cases h2:d<12;{have HE:=hid (show r=true by rw[HR.o];exact z5L.2 ⟨h0,h1,h2⟩);(go_in);go_wp2_with fail;go_ret;exact⟨by rw[HE.o];first | rfl | (simp;omega),HK.o⟩};{have HE:=hid (show r=false by rw[HR.o];cases h:z3O ⟨n,d⟩ with | false=>rfl | true=>exact absurd (z5L.1 h).2.2 h2);have q2:decide (d<12)=false:=decide_eq_false h2;(go_in);go_wp2_with fail;go_ret;exact⟨by rw[HE.o];first | rfl | (simp;omega),HK.o⟩}};{have HE:=hid (show r=false by rw[HR.o];cases h:z3O ⟨n,d⟩ with | false=>rfl | true=>exact absurd (z5L.1 h).2.1 h1);have q1:decide (0<=d)=false:=decide_eq_false h1;(go_in);go_wp2_with fail;go_ret;exact⟨by rw[HE.o];first | rfl | (simp;omega),HK.o⟩}};{have HE:=hid (show r=false by rw[HR.o];cases h:z3O ⟨n,d⟩ with | false=>rfl | true=>exact absurd (z5L.1 h).1 h0);have q0:decide ((0:Int)<(n:Int))=false:=by{simp;omega};have q3:decide (0<n)=false:=by{simp;omega};(go_in);go_wp2_with fail;go_ret;exact⟨by rw[HE.o];first | rfl | (simp;omega),HK.o⟩}
theorem z9Z(w:World)(a b:Bal):Calls Tryz.prog 88 #[balV a,balV b] w λe w'=>e = .returned (.bool (less a b))/\Keep zF w w':=by
 obtain⟨c0,c1,cf,d0,d1,df,hk⟩:=zwW w a b;have HK:=hid hk;clear hk;obtain⟨an,ad⟩:=a;obtain⟨bn,bd⟩:=b;obtain⟨r,hr⟩:=zX1 (less ⟨an,ad⟩ ⟨bn,bd⟩);rw[<-hr];have HR:=hid hr;clear hr;simp only at c0 c1 d0 d1;rcases Nat.lt_trichotomy an bn with h | h | h;{have HE:=hid (show r=true by rw[HR.o];simp[less];omega);have q0:(an:Int)<(bn:Int):=by{omega};have q1:((an:Int) == (bn:Int))=false:=by{simp;omega};have q2:decide (an=bn)=false:=by{simp;omega};(go_in);go_wp2_with fail;go_ret;exact⟨by rw[HE.o];first | rfl | (simp;omega),HK.o⟩};{subst h;have q0:decide ((an:Int)<(an:Int))=false:=by{simp};by_cases hd:ad<bd;{have HE:=hid (show r=true by rw[HR.o];simp[less];omega);(go_in);go_wp2_with fail;go_ret;exact⟨by rw[HE.o];first | rfl | (simp;omega),HK.o⟩};{have HE:=hid (show r=false by rw[HR.o];simp[less];omega);have q3:decide (ad<bd)=false:=decide_eq_false hd;(go_in);go_wp2_with fail;go_ret;exact⟨by rw[HE.o];first | rfl | (simp;omega),HK.o⟩}};{have HE:=hid (show r=false by rw[HR.o];simp[less];omega);have q0:decide ((an:Int)<(bn:Int))=false:=by{simp;omega};have q1:((an:Int) == (bn:Int))=false:=by{simp;omega};have q2:decide (an=bn)=false:=by{simp;omega};have q4:decide (an<bn)=false:=by{simp;omega};(go_in);go_wp2_with fail;go_ret;exact⟨by rw[HE.o];first | rfl | (simp;omega),HK.o⟩}
end
section
open Go.RowKit Go.Maps
open MI SO BM DM WM AC
theorem z6F:SliceTy Tryz.prog 69 109 (.agg #[.int .u64 0,.int .u64 0,.int .i64 0,.slice none 0 0]) 4 48:=⟨by kernel_rfl,by kernel_rfl,rfl,by decide⟩
def z3A(v:Vt)(u:Value):List Value:=[.int .u64 (v.slot:Int),.int .u64 (v.bal.n:Int),.int .i64 v.bal.node,u]
def z1A(vs:List Vt)(us:List Value):List Value:=(vs.zip us).flatMap fun p=>z3A p.1 p.2
theorem z9L{vs:List Vt}{us:List Value}(h:us.length=vs.length)(v:Vt)(u:Value):z1A (vs ++ [v]) (us ++ [u])=z1A vs us ++ z3A v u:=by
 unfold z1A;rw[List.zip_append h.symm];simp
theorem zbG:∀ {vs:List Vt} {us:List Value},us.length=vs.length->∀ (i:Nat) (hi:i<vs.length) (j:Nat),j<4->(z1A vs us)[i * 4+j]?=(z3A vs[i] (us.getD i undef))[j]?
 | [],_,_,i,hi,_,_=>absurd hi (by simp)
 | v :: vs,[],h,_,_,_,_=>absurd h (by simp)
 | v :: vs,u :: us,h,0,_,j,hj=>by{have e:z1A (v :: vs) (u :: us)=z3A v u ++ z1A vs us:=rfl;rw[e,List.getElem?_append_left (by simp[z3A];omega)];simp}
 | v :: vs,u :: us,h,i+1,hi,j,hj=>by{have e:z1A (v :: vs) (u :: us)=z3A v u ++ z1A vs us:=rfl;rw[e,List.getElem?_append_right (by simp[z3A];omega),show (i+1) * 4+j - (z3A v u).length=i * 4+j by simp[z3A];omega];rw[zbG (by simpa using h) i (by simpa using hi) j hj];simp}
theorem z5G{vs:List Vt}{us:List Value}(h:us.length=vs.length):(z1A vs us).length=vs.length * 4:=by
 induction vs generalizing us with | nil=>{simp[z1A]} | cons v vs ih=>{cases us with | nil=>{simp at h} | cons u us=>{have e:z1A (v :: vs) (u :: us)=z3A v u ++ z1A vs us:=rfl;rw[e,List.length_append,ih (by simpa using h)];simp[z3A];omega}}
structure Votes (w:World) (F:Nat→Prop) (v:Value) (vs:List Vt) (us:List Value):Prop where
 row:Row w 109 4 v vs.length (z1A vs us)
 len:us.length=vs.length
 own:∀ k,v.ownBlock=some k→F k
 each:∀ j (hj:j<vs.length),Row w 5 1 (us.getD j undef) vs[j].val.length (z0B vs[j].val)∧∀ k,(us.getD j undef).ownBlock=some k→F k∧v.ownBlock≠some k
theorem Votes.keep{w w':World}{F G:Nat->Prop}{v:Value}{vs:List Vt}{us:List Value}(h:Votes w F v vs us)(hk:Keep G w w')(hG:∀ k,F k->¬ G k):Votes w' F v vs us:=
 ⟨h.row.keep hk λk e=>hG k (h.own k e),h.len,h.own,λj hj=>let ⟨h2,h3⟩:=h.each j hj;⟨h2.keep hk λk e=>hG k (h3 k e).1,h3⟩⟩
theorem Votes.mono{w:World}{F F':Nat->Prop}{v:Value}{vs:List Vt}{us:List Value}(h:Votes w F v vs us)(hF:∀ k,F k->F' k):Votes w F' v vs us:=
 ⟨h.row,h.len,λk e=>hF k (h.own k e),λj hj=>let ⟨h2,h3⟩:=h.each j hj;⟨h2,λk e=>⟨hF k (h3 k e).1,(h3 k e).2⟩⟩⟩
theorem Votes.nil(w:World)(F:Nat->Prop):Votes w F (.slice none 0 0) [] []:=
 ⟨Row.nil _ _ _,rfl,λk e=>by simp[Value.ownBlock] at e,λj hj=>by simp at hj⟩
theorem Votes.push{wr w':World}{F F':Nat->Prop}{v v' u:Value}{vs:List Vt}{us:List Value}{x:Vt}(h:Votes wr F v vs us)(hu:Row wr 5 1 u x.val.length (z0B x.val))(hou:∀ k,u.ownBlock=some k->F' k/\v.ownBlock≠some k)(hr:Row w' 109 4 v' (vs.length+1) (z1A vs us ++ z3A x u))(hk:Keep (λk=>v.ownBlock=some k) wr w')(hF:∀ k,F k->F' k)(hv:∀ k,v'.ownBlock=some k->F' k/\(v.ownBlock=some k∨wr.heap.size<=k)):Votes w' F' v' (vs ++ [x]) (us ++ [u]):=by
 have nov:∀ (y:Value) (n:Nat) (xs:List Value),Row wr 5 1 y n xs->∀ k,y.ownBlock=some k->v.ownBlock≠some k->v'.ownBlock≠some k:=by{intro y n xs hy k e hne e';rcases (hv k e').2 with z | z;{exact hne z};{have:=hy.lt e;omega}};refine⟨by rw[z9L h.len];simpa using hr,by simp[h.len],λk e=>(hv k e).1,λj hj=>?_⟩;by_cases hjl:j<vs.length;{obtain⟨h2,h3⟩:=h.each j hjl;have e:(us ++ [u]).getD j undef=us.getD j undef:=by{simp only[List.getD_eq_getElem?_getD];rw[List.getElem?_append_left (by rw[h.len];exact hjl)]};rw[List.getElem_append_left hjl,e];exact⟨h2.keep hk λk e=>(h3 k e).2,λk e=>⟨hF k (h3 k e).1,nov _ _ _ h2 k e (h3 k e).2⟩⟩};{obtain rfl:j=vs.length:=by{simp at hj;omega};have e:(us ++ [u]).getD vs.length undef=u:=by{simp only[List.getD_eq_getElem?_getD];rw[List.getElem?_append_right (by rw[h.len];exact Nat.le_refl _),h.len];simp};rw[List.getElem_append_right (Nat.le_refl _),e];simp only[Nat.sub_self,List.getElem_cons_zero];exact⟨hu.keep hk λk e=>(hou k e).2,λk e=>⟨(hou k e).1,nov u _ _ hu k e (hou k e).2⟩⟩}
theorem Votes.get{w:World}{F:Nat->Prop}{ao:Option Addr}{n c:Nat}{vs:List Vt}{us:List Value}(h:Votes w F (.slice ao n c) vs us)(i:Nat)(hi:i<vs.length):∃ g ua uc,ao=some ⟨g,0,none⟩/\(∀ j u,(z3A vs[i] (.slice ua vs[i].val.length uc))[j]?=some u->w.cell? ⟨g,i * 4+j,none⟩=some u)/\Row w 5 1 (.slice ua vs[i].val.length uc) vs[i].val.length (z0B vs[i].val):=by
 obtain⟨h2,-⟩:=h.each i hi;obtain⟨ua,uc,e,-⟩:=h2.form;have h0:=zbG h.len i hi 0 (by decide);obtain⟨g,cap,hv,-⟩:=h.row.getCell (show (z1A vs us)[i * 4+0]?=some (.int .u64 (vs[i].slot:Int)) by rw[h0];rfl);cases hv;refine⟨g,ua,uc,rfl,λj u hu=>?_,by rw[<-e];exact h2⟩;have hj:j<4:=(List.getElem?_eq_some_iff.1 hu).1;have h1:=zbG h.len i hi j hj;rw[e,hu] at h1;obtain⟨g',cap',hv',hc'⟩:=h.row.getCell h1;cases hv';exact hc'
end
namespace AC
open Go.Proofs.YtkhddpiopbmhjaaGreat MI SO BM
def rd1(st:Bal×List Vt)(p:Str×Str):Option (Bal×List Vt):=match getB p.2 with
 | none=>none
 | some (b,rest)=>if p.1=pK then (if rest = [] then some (b,st.2) else none) else if zpW p.1≠0∧rest.length≤100 then some (st.1,st.2 ++ [⟨zpW p.1,b,rest⟩]) else none
def rdL:Bal×List Vt→List (Str×Str)→Option (Bal×List Vt)
 | st,[]=>some st
 | st,p :: ps=>match rd1 st p with
   | none=>none
   | some st=>rdL st ps
def rd(ps:List (Str×Str)):Option (Bal×List Vt):=match rdL (Bal.zero,[]) ps with
 | none=>none
 | some (b,vs)=>if vs.any (fun v=>less b v.bal) then none else some (b,vs)
def encV(v:Vt):Str×Str:=(keyS v.slot,putB v.bal ++ v.val)
def encP(b:Bal)(vs:List Vt):List (Str×Str):=(if b=Bal.zero then [] else [(pK,putB b)]) ++ vs.map encV
def OkB(b:Bal):Prop:=z3O b=true∧b.n<18446744073709551616
structure OkV (b:Bal) (v:Vt):Prop where
 slot:0<v.slot
 lt:v.slot<18446744073709551616
 bal:OkB v.bal
 val:v.val.length≤100
 top:less b v.bal=false
def Rise(vs:List Vt):Prop:=vs.Pairwise fun u v=>u.slot<v.slot
structure VOk (b:Bal) (vs:List Vt):Prop where
 bal:b=Bal.zero∨OkB b
 rise:Rise vs
 each:∀ v ∈ vs,OkV b v
theorem OkB.ne{b:Bal}(h:OkB b):b≠Bal.zero:=λe=>by
 have:=(z5L.1 h.1).1;rw[e] at this;exact absurd this (by decide)
theorem y0E(s:Nat):keyS s≠pK:=λe=>by have:=z7N s;rw[e] at this;exact absurd this (by decide)
theorem y0B{u v:Vt}(h:(encV u).1<(encV v).1)(hu:u.slot<18446744073709551616):u.slot<v.slot:=by
 rcases Nat.lt_trichotomy u.slot v.slot with x | x | x;{exact x};{unfold encV at h;simp only at h;rw[x] at h;exact absurd h (z2P _)};{exact absurd (z9U h (zlD x hu)) (z2P _)}
theorem y0F{a b c:Bal}(h:less a b=false)(k:less b c=false):less a c=false:=by
 cases h2:less a c with | false=>{rfl} | true=>{cases h3:less b a with | true=>{rw[znS h3 h2] at k;cases k} | false=>{have:=zbE h h3;subst this;rw[h2] at k;cases k}}
theorem VOk.up{b c:Bal}{vs:List Vt}(h:VOk b vs)(hc:OkB c)(hle:less c b=false):VOk c vs:=
 ⟨.inr hc,h.rise,λv hv=>let q:=h.each v hv;⟨q.slot,q.lt,q.bal,q.val,y0F hle q.top⟩⟩
def insV:List Vt→Vt→List Vt
 | [],v=>[v]
 | u :: vs,v=>if u.slot<v.slot then u :: insV vs v else v :: (if u.slot=v.slot then vs else u :: vs)
theorem zfU{v x:Vt}:∀ {vs:List Vt},x ∈ insV vs v->x=v∨x ∈ vs
 | [],h=>by simp[insV] at h;exact .inl h
 | u :: vs,h=>by{unfold insV at h;split at h;{rcases List.mem_cons.1 h with rfl | h;{exact .inr (by simp)};{exact(zfU h).imp id λz=>by simp[z]}};{rcases List.mem_cons.1 h with rfl | h;{exact .inl rfl};{split at h;{exact .inr (by simp[h])};{exact .inr h}}}}
theorem zhN{v:Vt}:∀ {vs:List Vt},Rise vs->Rise (insV vs v)
 | [],_=>by simp[insV,Rise]
 | u :: vs,h=>by{have h1:=List.pairwise_cons.1 h;unfold insV;split;{rename_i hlt;refine List.pairwise_cons.2 ⟨λx hx=>?_,zhN h1.2⟩;rcases zfU hx with rfl | hx;{exact hlt};{exact h1.1 x hx}};{rename_i hlt;split;{rename_i he;exact List.pairwise_cons.2 ⟨λx hx=>by rw[<-he];exact h1.1 x hx,h1.2⟩};{rename_i he;refine List.pairwise_cons.2 ⟨λx hx=>?_,h⟩;rcases List.mem_cons.1 hx with rfl | hx;{omega};{have:=h1.1 x hx;omega}}}}
theorem VOk.ins{b:Bal}{vs:List Vt}{v:Vt}(h:VOk b vs)(hle:less v.bal b=false)(hs:0<v.slot)(hlt:v.slot<18446744073709551616)(hb:OkB v.bal)(hv:v.val.length<=100):VOk v.bal (insV vs v):=
 ⟨.inr hb,zhN h.rise,λx hx=>by{rcases zfU hx with rfl | hx;{exact⟨hs,hlt,hb,hv,z5T _⟩};{exact(h.up hb hle).each x hx}}⟩
theorem y1U{b c:Bal}{vs:List Vt}(hc:OkB c):lay1 (encP b vs) ⟨pK,putB c,false⟩=encP c vs:=by
 unfold encP;rw[if_neg hc.ne];by_cases hb:b=Bal.zero;{rw[if_pos hb,List.nil_append];cases vs with | nil=>{rfl} | cons v vs=>{have h1:¬ (encV v).1<pK:=λh=>z2P _ (z9U h (y2D _));have h2:¬ (encV v).1=pK:=y0E _;simp only[List.map_cons,lay1,if_neg h1,if_neg h2,Bool.false_eq_true,if_false]}};{rw[if_neg hb];simp only[List.singleton_append,lay1,if_neg (z2P pK),if_true,Bool.false_eq_true,if_false]}
theorem y1G{v:Vt}(hv:v.slot<18446744073709551616):∀ {vs:List Vt},(∀ u ∈ vs,u.slot<18446744073709551616)->lay1 (vs.map encV) ⟨keyS v.slot,putB v.bal ++ v.val,false⟩=(insV vs v).map encV
 | [],_=>rfl
 | u :: vs,h=>by{have hu:=h u (by simp);simp only[List.map_cons,lay1];unfold insV;by_cases h1:u.slot<v.slot;{have h2:(encV u).1<keyS v.slot:=zlD h1 hv;rw[if_pos h2,if_pos h1,y1G hv (λx hx=>h x (by simp[hx]))];rfl};{have h2:¬ (encV u).1<keyS v.slot:=λh=>h1 (y0B (u:=u) (v:=v) h hu);rw[if_neg h2,if_neg h1];by_cases h3:u.slot=v.slot;{have h4:(encV u).1=keyS v.slot:=by{unfold encV;simp only;rw[h3]};rw[if_pos h4,if_pos h3];rfl};{have h4:¬ (encV u).1=keyS v.slot:=λe=>by{rcases Nat.lt_or_gt_of_ne h3 with x | x;{exact h1 x};{have:=zlD x hu;unfold encV at e;simp only at e;rw[e] at this;exact z2P _ this}};rw[if_neg h4,if_neg h3];rfl}}}
theorem zvT{p:Str×Str}{ps:List (Str×Str)}{c:Ch}(h:p.1<c.key):lay1 (p :: ps) c=p :: lay1 ps c:=by simp only[lay1,if_pos h]
def z6B(b:Bal):List Ch:=[⟨pK,putB b,false⟩]
def z5W(v:Vt):List Ch:=[⟨pK,putB v.bal,false⟩,⟨keyS v.slot,putB v.bal ++ v.val,false⟩]
def zjV(us:List Vt):List Ch:=us.map fun u=>⟨keyS u.slot,[],true⟩
theorem zvL{b c:Bal}{vs:List Vt}(hc:OkB c):layL (encP b vs) (z6B c)=encP c vs:=y1U hc
theorem zvO{b:Bal}{vs:List Vt}{v:Vt}(h:VOk b vs)(hb:OkB v.bal)(hs:v.slot<18446744073709551616):layL (encP b vs) (z5W v)=encP v.bal (insV vs v):=by
 show lay1 (lay1 (encP b vs) _) _=_;rw[y1U hb];unfold encP;rw[if_neg hb.ne];simp only[List.singleton_append];rw[zvT (y2D _),y1G hs (λu hu=>(h.each u hu).lt)]
end AC
section
open Go.RowKit Go.Maps
open MI SO BM DM WM
theorem LogAt.ltz{w:World}{b d:Nat}{F Fd:Nat->Prop}{D:Dk}{G:Lg}(h:LogAt w b d F Fd D G):∀ k,(F k∨Fd k)->k<w.heap.size:=by
 obtain⟨_,_,_,_,h⟩:=h;exact λk x=>x.elim (h.wal.lt k) (h.disk.lt k)
theorem LogAt.disk_{w:World}{b d:Nat}{F Fd:Nat->Prop}{D:Dk}{G:Lg}(h:LogAt w b d F Fd D G):DiskAt w d Fd D:=by
 obtain⟨_,_,_,_,h⟩:=h;exact h.disk
theorem LogAt.apart_{w:World}{b d:Nat}{F Fd:Nat->Prop}{D:Dk}{G:Lg}(h:LogAt w b d F Fd D G):∀ k,F k->¬ Fd k:=by
 obtain⟨_,_,_,_,h⟩:=h;exact h.apart
structure StoIs (w:World) (b d:Nat) (F Fd:Nat→Prop) (D:Dk) (S:St) (wb mb:Nat) (m:List (Str×Str)) (Fl:Nat→Prop):Prop where
 head:w.heap[b]?=some (.cells (z4J (.pointer (some ⟨wb,0,none⟩)) mb S.dead) 269 (0,0))
 map:PairsAt w mb m
 log:LogAt w wb d Fl Fd D S.g
 get:∀ x,AL.get m x=AL.get S.ps x
 inl:∀ k,Fl k→F k∧k≠b∧k≠mb
 self:F b
 fm:F mb
 ne:b≠mb
 lt:∀ k,F k→k<w.heap.size
 apart:∀ k,F k→¬ Fd k
 ok:PsOk S.ps
def StoAt(w:World)(b d:Nat)(F Fd:Nat→Prop)(D:Dk)(S:St):Prop:=∃ wb mb m Fl,StoIs w b d F Fd D S wb mb m Fl
def StoTo(b d:Nat)(F Fd:Nat→Prop)(w:World)(D':Dk)(S':St)(w':World):Prop:=
 ∃ F' Fd',StoAt w' b d F' Fd' D' S'∧Keep (fun k=>F k∨Fd k) w w'∧(∀ k,F' k→F k∨w.heap.size≤k)∧∀ k,Fd' k→Fd k∨w.heap.size≤k
section
variable {w w' w1 w2:World} {b d wb mb:Nat} {F Fd Fl K:Nat→Prop} {D D':Dk} {S S':St} {m m':List (Str×Str)} {G':Lg}
theorem StoIs.keep(H:StoIs w b d F Fd D S wb mb m Fl)(hk:Keep K w w')(h1:∀ k,F k->¬ K k)(h2:∀ k,Fd k->¬ K k):StoIs w' b d F Fd D S wb mb m Fl:=
 ⟨hk.get H.head (h1 _ H.self),MapAt.keep H.map hk (h1 _ H.fm),H.log.keep hk (λk x=>h1 k (H.inl k x).1) h2,H.get,H.inl,H.self,H.fm,H.ne,λk x=>Nat.lt_of_lt_of_le (H.lt k x) hk.size,H.apart,H.ok⟩
theorem StoIs.len(H:StoIs w b d F Fd D S wb mb m Fl):m.length=S.ps.length:=y2E H.map.1 H.ok.sorted H.get
theorem StoIs.logTo(H:StoIs w b d F Fd D S wb mb m Fl)(ht:LogTo wb d Fl Fd w D' G' w'):∃ Fl' F' Fd',StoIs w' b d F' Fd' D' { S with g:=G' } wb mb m Fl'/\Keep (λk=>F k∨Fd k) w w'/\(∀ k,F' k->F k∨w.heap.size<=k)/\∀ k,Fd' k->Fd k∨w.heap.size<=k:=by
 obtain⟨Fl',Fd',h1,h2,h3,h4⟩:=ht;have hb:¬ (Fl b∨Fd b):=λx=>x.elim (λy=>(H.inl b y).2.1 rfl) (H.apart b H.self);have hm:¬ (Fl mb∨Fd mb):=λx=>x.elim (λy=>(H.inl mb y).2.2 rfl) (H.apart mb H.fm);refine⟨Fl',λk=>F k∨Fl' k,Fd',⟨h2.get H.head hb,MapAt.keep H.map h2 hm,h1,H.get,λk x=>⟨.inr x,?_,?_⟩,.inl H.self,.inl H.fm,H.ne,λk x=>?_,λk x=>?_,H.ok⟩,h2.mono λk _ x=>x.imp (λy=>(H.inl k y).1) id,λk x=>?_,h4⟩;{rintro rfl;rcases h3 _ x with z | z;{exact hb (.inl z)};{have:=H.lt _ H.self;omega}};{rintro rfl;rcases h3 _ x with z | z;{exact hm (.inl z)};{have:=H.lt _ H.fm;omega}};{rcases x with x | x;{exact Nat.lt_of_lt_of_le (H.lt k x) h2.size};{exact h1.ltz k (.inl x)}};{rcases x with x | x;{intro y;rcases h4 k y with z | z;{exact H.apart k x z};{have:=H.lt k x;omega}};{exact h1.apart_ k x}};{rcases x with x | x;{exact .inl x};{exact(h3 k x).imp (λz=>(H.inl k z).1) id}}
theorem StoIs.tell(H:StoIs w b d F Fd D S wb mb m Fl)(x:Bool)(hk:Keep (λk=>k=b) w w')(hh:w'.heap[b]?=some (.cells (z4J (.pointer (some ⟨wb,0,none⟩)) mb x) 269 (0,0))):StoIs w' b d F Fd D { S with dead:=x } wb mb m Fl:=
 ⟨hh,MapAt.keep H.map hk (λe=>H.ne e.symm),H.log.keep hk (λk y e=>(H.inl k y).2.1 e) (λk y e=>by subst e;exact H.apart _ H.self y),H.get,H.inl,H.self,H.fm,H.ne,λk y=>Nat.lt_of_lt_of_le (H.lt k y) hk.size,H.apart,H.ok⟩
theorem StoIs.laid(H:StoIs w b d F Fd D S wb mb m Fl){ps':List (Str×Str)}(hk:Keep (λk=>k=mb) w w')(hm:PairsAt w' mb m')(hg:∀ x,AL.get m' x=AL.get ps' x)(ok:PsOk ps'):StoIs w' b d F Fd D { S with ps:=ps' } wb mb m' Fl:=
 ⟨hk.get H.head H.ne,hm,H.log.keep hk (λk y e=>(H.inl k y).2.2 e) (λk y e=>by subst e;exact H.apart _ H.fm y),hg,H.inl,H.self,H.fm,H.ne,λk y=>Nat.lt_of_lt_of_le (H.lt k y) hk.size,H.apart,ok⟩
theorem StoAt.keep(H:StoAt w b d F Fd D S)(hk:Keep K w w')(h1:∀ k,F k->¬ K k)(h2:∀ k,Fd k->¬ K k):StoAt w' b d F Fd D S:=
 let ⟨wb,mb,m,Fl,h⟩:=H;⟨wb,mb,m,Fl,h.keep hk h1 h2⟩
theorem StoAt.later(H:StoAt w b d F Fd D S)(hk:Keep zF w w'):StoAt w' b d F Fd D S:=H.keep hk zI zI
theorem StoAt.ltw(H:StoAt w b d F Fd D S):∀ k,F k∨Fd k->k<w.heap.size:=let ⟨_,_,_,_,h⟩:=H;λk x=>x.elim (h.lt k) λy=>h.log.ltz k (.inr y)
theorem StoAt.diskAt(H:StoAt w b d F Fd D S):DiskAt w d Fd D:=let ⟨_,_,_,_,h⟩:=H;h.log.disk_
theorem StoAt.to(H:StoAt w b d F Fd D S):StoTo b d F Fd w D S w:=⟨F,Fd,H,Keep.refl _ _,λ_ x=>.inl x,λ_ x=>.inl x⟩
theorem StoTo.since(h:StoTo b d F Fd w1 D' S' w')(hk:Keep zF w w1):StoTo b d F Fd w D' S' w':=by
 obtain⟨F',Fd',h1,h2,h3,h4⟩:=h;exact⟨F',Fd',h1,hk.next h2 zE zI,λk x=>(h3 k x).imp id λy=>Nat.le_trans hk.size y,λk x=>(h4 k x).imp id λy=>Nat.le_trans hk.size y⟩
theorem StoIs.at(H:StoIs w b d F Fd D S wb mb m Fl):StoAt w b d F Fd D S:=⟨wb,mb,m,Fl,H⟩
end
def y1W(wp pv:Value)(dead:Bool):Array Value:=#[wp,pv,.bool dead]
section
variable {w w' w1 w2:World} {b d wb:Nat} {F Fd Fl K:Nat→Prop} {D D':Dk} {S S':St} {pv pv':Value} {G':Lg}
end
end
section
open Go.RowKit
open MI SO BM
end
section
open Go.RowKit Go.Maps
open MI SO BM DM WM AC
theorem zmU(w:World)(b:Bal)(hb:OkB b):Calls Tryz.prog 111 #[balV b] w (PutU w (AC.putB b)):=by
 obtain⟨c0,c1,cf,hk⟩:=zrJ w b;obtain⟨h0,h1,h2⟩:=z5L.1 hb.1;have hn:=hb.2;obtain⟨n,node⟩:=b;simp only at h0 h1 h2 hn;obtain⟨d,rfl⟩:∃ d:Nat,(d:Int)=node:=⟨node.toNat,by omega⟩;have hd:d<12:=by{omega};have t1:=wu64 d (by omega);have HE:=hid (show AC.putB ⟨n,(d:Int)⟩=z0H n ++ z0H d from rfl);rw[HE.o];simp only at c0 c1;have HK:=hid hk;clear hk h0 h1 h2 hb
 go_in
 go_upto_region 1 with fail
 obtain⟨w1,hw1⟩:=zX1 (w.alloc (.cells (balC ⟨n,(d:Int)⟩) 32));have hz1:w1.heap.size=w.heap.size+1:=by{rw[hw1];simp};rw[<-hw1] at c0 c1 HK
 first | rw[<-hw1] | skip
 clear hw1 cf;have x1:w1.drew.cell? ⟨w.heap.size,0,none⟩=some (.int .u64 (n:Int))/\w1.drew.cell? ⟨w.heap.size,1,none⟩=some (.int .i64 (d:Int)):=⟨c0,c1⟩;clear c0 c1;refine Held.z2C (λw'=>w'.cell? ⟨w.heap.size,0,none⟩=some (.int .u64 (n:Int))/\w'.cell? ⟨w.heap.size,1,none⟩=some (.int .i64 (d:Int))) [] [4,7] (by kernel_rfl) (by kernel_rfl) ?_
 repeat (apply Twin.z0C (by rfl) (by exact x1);(intro K w' hS;(try dsimp only at hS);go_simp;exact id))
 refine Twin.z0G (by decide) (by rfl) (by exact x1) (λK hK=>?_);go_simp;refine(z5O w1.drew n hn).mono ?_;rintro e w2 ⟨v2,rfl,hf2⟩;have x2:w2.cell? ⟨w.heap.size,0,none⟩=some (.int .u64 (n:Int))/\w2.cell? ⟨w.heap.size,1,none⟩=some (.int .i64 (d:Int)):=⟨z0D hf2.keep _ _ x1.1,z0D hf2.keep _ _ x1.2⟩;have hown:∀ k,v2.ownBlock=some k->w1.heap.size<=k:=λk e=>hf2.own k e;have HF2:=zB1 (hf2.since (HK.o.drew)) hown;clear hf2 hown;go_simp;refine hK _ _ (λh=>by cases h) (λ_=>x2) ?_;clear hK K x1
 repeat (apply Twin.z0C (by rfl) (by exact x2);(intro K w' hS;(try dsimp only at hS);go_simp;exact id))
 refine Twin.z0G (by decide) (by rfl) (by exact x2) (λK hK=>?_);go_simp;refine(z5O w2 d (by omega)).mono ?_;rintro e w3 ⟨v3,rfl,hf3⟩;obtain⟨ao3,m3,rfl,-⟩:=hf3.row.form;have x3:w3.cell? ⟨w.heap.size,0,none⟩=some (.int .u64 (n:Int))/\w3.cell? ⟨w.heap.size,1,none⟩=some (.int .i64 (d:Int)):=⟨z0D hf3.keep _ _ x2.1,z0D hf3.keep _ _ x2.2⟩;have HF3:=zB1 (HF2.x1.later hf3.keep) hf3.row;clear hf3;go_simp;refine hK _ _ (λh=>by cases h) (λ_=>x3) ?_;clear hK K x2
 repeat (apply Twin.z0C (by rfl) (by exact x3);(intro K w' hS;(try dsimp only at hS);go_simp;exact id))
 refine Twin.z0G (by decide) (by rfl) (by exact x3) (λK hK=>?_);refine z0U _ _ rfl rfl HF3.x1 ao3 (z0H d).length m3 rfl (Cells.of_row HF3.y1) (by have h1:=z3B 10 n;have h2:=z3B 10 d;unfold z0H;omega) ?_;intro v4 w4 hf4 hk4;have x4:w4.cell? ⟨w.heap.size,0,none⟩=some (.int .u64 (n:Int))/\w4.cell? ⟨w.heap.size,1,none⟩=some (.int .i64 (d:Int)):=by{have hb:w4.heap[w.heap.size]?=w3.heap[w.heap.size]?:=hk4.block _ (World.block_lt_of_cell? w3 _ x3.1) λe=>by{have:=HF2.y1 _ e;omega};exact⟨by rw[World.cell?_of_block (a:=⟨w.heap.size,0,none⟩) hb];exact x3.1,by rw[World.cell?_of_block (a:=⟨w.heap.size,1,none⟩) hb];exact x3.2⟩};refine hK _ _ (λh=>by cases h) (λ_=>x4) ?_;clear hK K;have HF4:=hid hf4;clear hf4 hk4
 repeat (apply Twin.z0C (by rfl) (by exact x4);(intro K w' hS;(try dsimp only at hS);go_simp;exact id))
 refine Twin.z0P ?_;go_wp2_with fail;go_ret;exact⟨_,rfl,HF4.o⟩
theorem z3I{P:Program}{fn:Func}{t:Tmp}{ty:TypeId}(h:fn.results = #[.cell t ty])(tmps:Array Value)(w:World)(g:Nat)(ht:tmps.getD t undef = .pointer (some ⟨g,0,none⟩))(cs:List Value)(hc:∀ j u,cs[j]?=some u->w.cell? ⟨g,j,none⟩=some u)(d:TypeDesc)(hu:P.underlying ty=some d)(hd:(match d with | .struct _ | .array _ _=>true | _=>false)=true)(hi:(P.info? ty).map (·.size)=some cs.length):(results fn tmps).run P w = .ok (.agg cs.toArray) w:=by
 have hl:=run_loadCells_list (P:=P) w ⟨g,0,none⟩ cs (λj v hv=>by rw[z0R,Nat.zero_add];exact hc j v hv);cases hq:P.info? ty with | none=>{simp[hq] at hi} | some i=>{have hs:i.size=cs.length:=by{simpa [hq] using hi};have hagg:(isAgg ty).run P w = .ok true w:=by{unfold isAgg;rw[Sem.run_bind,run_underlying hu w];cases d <;> simp_all};have hr:(loadVar ty ⟨g,0,none⟩).run P w = .ok (.agg cs.toArray) w:=by{simp[loadVar,Sem.run_bind,hagg,sizeOf,typeInfo,hq,hs,hl]};have ht':tmps[t]?.getD undef = .pointer (some ⟨g,0,none⟩):=by{simpa using ht};simp[results,h,ht',asAddr,hr]}
def zvK(b:Bal):Value:=.agg #[.string (str pK),.string (str (AC.putB b)),.bool false]
theorem ziO(w:World)(b:Bal)(hb:OkB b):Calls Tryz.prog 90 #[balV b] w λe w'=>e = .returned (zvK b)/\Keep zF w w':=by
 have hn:=heap_alloc_new w (.cells (balC b) 32);have hk1:=kal w (.cells (balC b) 32);have hn2:=heap_alloc_new (w.alloc (.cells (balC b) 32)) (.cells #[.string { data:=#[] },.string { data:=#[] },.bool false] 161);have hk2:Keep zF (w.alloc (.cells (balC b) 32)) ((w.alloc (.cells (balC b) 32)).alloc (.cells #[.string { data:=#[] },.string { data:=#[] },.bool false] 161)):=(Keep.refl _ _).alloc _;have hz:(w.alloc (.cells (balC b) 32)).heap.size=w.heap.size+1:=by{simp};rw[hz] at hn2;have hh:=hk2.get hn id;have hk:=hk1.nx hk2;clear hk1 hk2 hn
 go_in
 go_upto_region 1 with fail
 obtain⟨w2,hw2⟩:=zX1 ((w.alloc (.cells (balC b) 32)).alloc (.cells #[.string { data:=#[] },.string { data:=#[] },.bool false] 161));rw[<-hw2] at hn2 hh hk |-;clear hw2 hz;have c0:w2.cell? ⟨w.heap.size,0,none⟩=some (.int .u64 (b.n:Int)):=by{simp[World.cell?,hh]};have c1:w2.cell? ⟨w.heap.size,1,none⟩=some (.int .i64 b.node):=by{simp[World.cell?,hh]};have H2:=zB1 hk hn2;clear hh hn2 hk;have hput:=zmU w2 b hb;go_wp2_with fail;refine hput.mono ?_;rintro e w3 ⟨v3,rfl,hf3⟩;obtain⟨ao3,m3,rfl,-⟩:=hf3.row.form;have hcv:=z3E (P:=Tryz.prog) Tryz.underlying39 Tryz.underlying5 Tryz.underlying9 (c:=m3) (Cells.of_row hf3.row);have hn3:=hf3.keep.get H2.y1 id;have f0:∀ o,w3.frozen? ⟨w.heap.size+1,o,none⟩=false:=λo=>by{simp[World.frozen?,hn3]};have d0:w3.cell? ⟨w.heap.size+1,0,none⟩=some (.string { data:=#[] }):=by{simp[World.cell?,hn3]};have d1:w3.cell? ⟨w.heap.size+1,1,none⟩=some (.string { data:=#[] }):=by{simp[World.cell?,hn3]};have d2:w3.cell? ⟨w.heap.size+1,2,none⟩=some (.bool false):=by{simp[World.cell?,hn3]};have H3:=zB1 (H2.x1.nx hf3.keep) hn3;obtain⟨pl,hpl⟩:=zX1 ((AC.putB b).length);rw[<-hpl] at hcv |-;clear hput hf3 c0 c1 hn3 hpl;go_wp2_with fail;have g1:=z0A H3.y1 0 (.string { data:=#[112] });have g2:=z0A g1 1 (.string (str (AC.putB b)));have g3:=z0A g2 2 (.bool false);have hkz:Keep (λk=>k=w.heap.size+1) w3 (((w3.setCell ⟨w.heap.size+1,0,none⟩ (.string { data:=#[112] })).setCell ⟨w.heap.size+1,1,none⟩ (.string (str (AC.putB b)))).setCell ⟨w.heap.size+1,2,none⟩ (.bool false)):=by{refine Keep.setCell (Keep.setCell (Keep.setCell (Keep.refl _ _) (.inl ?_) _) (.inl ?_) _) (.inl ?_) _ <;> rfl};have hkw:=H3.x1.next hkz (H:=λ_=>False) zI (λk hk x=>by omega);refine bodyPost_ret (z3I rfl _ _ (w.heap.size+1) rfl [.string { data:=#[112] },.string (str (AC.putB b)),.bool false] (λj u hu=>?_) _ Tryz.underlying161 rfl (by kernel_rfl)) rfl ⟨rfl,hkw⟩;have hj:j<3:=(List.getElem?_eq_some_iff.1 hu).1;rw[cell_of_row _ _ _ _ _ _ g3]
 match j,hj with
 | 0,_=>simpa using hu
 | 1,_=>simpa using hu
 | 2,_=>simpa using hu
end
section
open Go.RowKit Go.Maps
open MI SO BM DM WM AC
theorem zyV(i s:Nat)(hi:i<8):(z0B (118 :: (List.replicate (8 - i) 0 ++ beN i s)))[8 - i]?=some (.int .u8 0):=by
 obtain⟨t,ht⟩:∃ t,8 - i=t+1:=⟨7 - i,by omega⟩;rw[ht];have e:z0B (118 :: (List.replicate (t+1) 0 ++ beN i s)) = .int .u8 118 :: z0B (List.replicate (t+1) 0 ++ beN i s):=rfl;rw[e,List.getElem?_cons_succ,z1J,List.getElem?_append_left (by rw[z0E];simp)];simp[z0B]
theorem zzB(i s:Nat)(hi:i<8):(118 :: (List.replicate (8 - i) 0 ++ beN i s)).set (8 - i) (UInt8.ofNat (s / 256 ^ i % 256))=118 :: (List.replicate (8 - (i+1)) 0 ++ beN (i+1) s):=by
 obtain⟨t,ht⟩:∃ t,8 - i=t+1:=⟨7 - i,by omega⟩;rw[ht,show 8 - (i+1)=t by omega,List.set_cons_succ,List.set_append_left _ _ (by simp),List.replicate_succ',List.set_append_right _ _ (by simp),List.append_assoc];simp[beN]
theorem zvJ(w:World)(s:Nat)(_hs:s<18446744073709551616):Calls Tryz.prog 110 #[.int .u64 (s:Int)] w λe w'=>e = .returned (.string (str (keyS s)))/\Keep zF w w':=by
 have hn:=heap_alloc_new w (.cells #[.int .u8 118,.int .u8 0,.int .u8 0,.int .u8 0,.int .u8 0,.int .u8 0,.int .u8 0,.int .u8 0,.int .u8 0] 5);have hk1:=kal w (.cells #[.int .u8 118,.int .u8 0,.int .u8 0,.int .u8 0,.int .u8 0,.int .u8 0,.int .u8 0,.int .u8 0,.int .u8 0] 5);have HR1:=hid (show Row (w.alloc (.cells #[.int .u8 118,.int .u8 0,.int .u8 0,.int .u8 0,.int .u8 0,.int .u8 0,.int .u8 0,.int .u8 0,.int .u8 0] 5)) 5 1 (.slice (some ⟨w.heap.size,0,none⟩) 9 9) 9 (z0B (118 :: (List.replicate 8 0 ++ beN 0 s)))/\Keep zF w _ from ⟨⟨rfl,.inr ⟨_,9,_,(0,0),rfl,hn,Free.zero _,Nat.le_refl _,by unfold maxLen;omega,rfl,rfl⟩⟩,hk1⟩);clear hn hk1
 go_in
 go_wp2_with fail;obtain⟨w1,hw1⟩:=zX1 (w.alloc (.cells #[.int .u8 118,.int .u8 0,.int .u8 0,.int .u8 0,.int .u8 0,.int .u8 0,.int .u8 0,.int .u8 0,.int .u8 0] 5));rw[<-hw1] at HR1 |-;clear hw1
 go_loopw [6] (λiv wr=>∃ i:Nat,i<=8/\iv = .int .i64 i/\zH (Row wr 5 1 (.slice (some ⟨w.heap.size,0,none⟩) 9 9) 9 (z0B (118 :: (List.replicate (8 - i) 0 ++ beN i s)))/\Keep zF w wr)) (λiv _=>8 - (intOf iv).toNat)
 case atStart=>exact⟨0,by omega,rfl,HR1⟩
 case round=>(obtain⟨i,hi,rfl,HR⟩:=hrel;by_cases hi8:i<8;{have q1:(i:Int)<8:=by{omega};obtain⟨k,hk⟩:=zX1 (8 - i);have e1:(8:Int) - (i:Int)=(k:Nat):=by{omega};have hk9:k<9:=by{omega};obtain⟨m,hm⟩:=zX1 (8 * i);have e2:(8:Int) * (i:Int)=(m:Nat):=by{omega};have z1:=wi64 k (by omega);have z2:=wi64 m (by omega);have c0:=HR.x1.cell k (by omega);have f0:=HR.x1.frozen k (by omega);rw[hk,zyV i s hi8,<-hk] at c0;have HK:=zB1 hk hm;clear hk hm;go_wp2_with fail;obtain⟨hk,hm⟩:=HK.o;have hv:((s:Int) / 2 ^ m % 256)=((s / 256 ^ i % 256:Nat):Int):=by{have h2:(2:Int) ^ m=((256 ^ i:Nat):Int):=by{rw[hm,Int.pow_mul];simp};rw[h2];simp};have hlt:s / 256 ^ i % 256<256:=Nat.mod_lt _ (by decide);have hset:=Row.setOne HR.x1 k hk9 (.int .u8 ((s / 256 ^ i % 256:Nat):Int)) rfl;rw[zbI _ _ _ hlt] at hset;rw[hv];refine⟨⟨i+1,by omega,by go_num,hid ⟨?_,Keep.setCell HR.y1 (.inr (Nat.le_refl _)) _⟩⟩,by simp[intOf];omega⟩;have e:(118 :: (List.replicate (8 - i) 0 ++ beN i s)).set k (UInt8.ofNat (s / 256 ^ i % 256))=118 :: (List.replicate (8 - (i+1)) 0 ++ beN (i+1) s):=by{rw[hk];exact zzB i s hi8};rw[e] at hset;exact hset};{obtain rfl:i=8:=by{omega};have hrow:=HR.x1;have hcv:=z3E (P:=Tryz.prog) Tryz.underlying39 Tryz.underlying5 Tryz.underlying9 (c:=9) (Cells.of_row hrow);have HE:=hid (show (118 :: (List.replicate (8 - 8) 0 ++ beN 8 s))=keyS s from rfl);rw[HE.o] at hcv;clear hrow;go_wp2_with fail;go_ret;exact⟨rfl,HR.y1⟩})
end
section
open Go.RowKit Go.Maps
open MI SO BM DM WM AC
def VotesC(w:World)(ao:Option Addr)(vs:List Vt):Prop:=
 ∀ i (hi:i<vs.length),∃ ad ua uc,ao=some ad∧(∀ j u,(z3A vs[i] (.slice ua vs[i].val.length uc))[j]?=some u→w.cell? ((ad.add (i * 4)).add j)=some u)∧vs[i].val.length≤uc∧uc≤maxLen∧Cells w ua vs[i].val.length 1 (z0B vs[i].val)
theorem VotesC.keep{w w':World}{ao:Option Addr}{vs:List Vt}(h:VotesC w ao vs)(hk:Keep zF w w'):VotesC w' ao vs:=λi hi=>by
 obtain⟨ad,ua,uc,e,h1,h2,h3,h4⟩:=h i hi;exact⟨ad,ua,uc,e,λj u hu=>z0D hk _ _ (h1 j u hu),h2,h3,h4.keep hk zI⟩
theorem Votes.read{w:World}{F:Nat->Prop}{ao:Option Addr}{n c:Nat}{vs:List Vt}{us:List Value}(h:Votes w F (.slice ao n c) vs us):VotesC w ao vs:=λi hi=>by
 obtain⟨g,ua,uc,rfl,h1,h2⟩:=h.get i hi;obtain⟨_,_,e,x1,x2,-⟩:=h2.form;cases e;refine⟨_,ua,uc,rfl,λj u hu=>?_,x1,x2,Cells.of_row h2⟩;rw[z0R,z0R,Nat.zero_add];exact h1 j u hu
theorem VotesC.get{w:World}{ao:Option Addr}{vs:List Vt}(h:VotesC w ao vs)(i:Nat)(hi:i<vs.length):∃ ad ua uc,ao=some ad/\w.cell? (ad.add (i * 4))=some (.int .u64 (vs[i].slot:Int))/\
  w.cell? { block:=(ad.add (i * 4)).block,off:=(ad.add (i * 4)).off+1 }=some (.int .u64 (vs[i].bal.n:Int))/\w.cell? { block:=(ad.add (i * 4)).block,off:=(ad.add (i * 4)).off+2 }=some (.int .i64 vs[i].bal.node)/\
  w.cell? { block:=(ad.add (i * 4)).block,off:=(ad.add (i * 4)).off+3 }=some (.slice ua vs[i].val.length uc)/\vs[i].val.length<=uc/\uc<=maxLen/\Cells w ua vs[i].val.length 1 (z0B vs[i].val):=by
 obtain⟨ad,ua,uc,e,h1,h2,h3,h4⟩:=h i hi;have h0:=h1 0 _ rfl;have k1:=h1 1 _ rfl;have k2:=h1 2 _ rfl;have k3:=h1 3 _ rfl;rw[show ∀ a:Addr,a.add 0=a from λa=>by simp[Addr.add]] at h0;rw[zqF _ _ (by decide)] at k1 k2 k3;exact⟨ad,ua,uc,e,h0,k1,k2,k3,h2,h3,h4⟩
end
end Go.Proofs.YtkhddpiopbmhjaaGreat
