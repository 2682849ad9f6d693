/- Texts StoD, StoE, StoF, StoG, StoH, StoI, StoJ, StoQ, AccM, AccA, AccB, AccN, StoR, StoK in one. Conditions: as each law names them. -/
import Derived.Test.YtkjofdocgaiedaaPaa
import Derived.Test.YtkjofdocgaiedaaPac
import Derived.Test.YtkjofdocgaiedaaPad
import Derived.Test.YtkjofdocgaiedaaPaj
import Derived.Test.YtkjofdocgaiedaaPak
import Derived.Test.YtkjofdocgaiedaaPap
import Derived.Test.YtkjofdocgaiedaaPaq
import Derived.Test.YtkjofdocgaiedaaPar
import Derived.Test.YtkjofdocgaiedaaPav
import Derived.Test.YtkjofdocgaiedaaPaw
import Derived.Test.YtkjofdocgaiedaaPax
namespace Go.Proofs.Ytkjofdocgaiedaa
open Go.RowKit
open MI SO BM
end Go.Proofs.Ytkjofdocgaiedaa
namespace Go.Proofs.Ytkjofdocgaiedaa
open Go.RowKit
open MI SO BM
theorem maxz_any (w:World) (b:Nat):(Builtin.max_ #[3,3] 3 #[.int .i64 (b:Int),.int .i64 0]).run Try.prog w = .ok (.int .i64 (b:Int)) w:=by
 simp[Builtin.max_,Builtin.max2]
 omega
theorem digits_no2 {b:List UInt8} {at_:Nat}:∀ (f i v e:Nat),digits b at_ f i v = .no e→e≠0∧e<100
 | 0,_,_,e,h=>by cases h;decide
 | f+1,i,v,e,h=>by
   unfold digits at h
   split at h
   ·cases h;decide
   simp only at h
   split at h
   ·cases h;decide
   split at h
   ·cases h;decide
   split at h
   ·cases h
   exact digits_no2 f _ _ e h
theorem uint_no2 {b:List UInt8} {at_ e:Nat} (h:uint b at_ = .no e):e≠0∧e<100:=by
 unfold uint at h
 split at h
 ·cases h;decide
 exact digits_no2 _ _ _ _ h
theorem bytesAt_no {b:List UInt8} {at_ most e:Nat} (h:bytesAt b at_ most = .no e):e≠0∧e<100:=by
 unfold bytesAt at h
 split at h
 ·rename_i hu;cases h;exact uint_no2 hu
 split at h
 ·cases h;decide
 split at h
 ·cases h;decide
 cases h
theorem Cells.part {w:World} {ao:Option Addr} {n cap:Nat} {l:List UInt8} (h:Cells w ao n 1 (bytesV l)) (lo m:Nat) (h1:lo+m≤n) (h2:n≤cap):Cells w (tailAt ao cap lo 1) m 1 (bytesV ((l.drop lo).take m)):=by
 have h3:=(h.tail lo (by omega) h2 (by decide)).take m (by omega)
 simpa [bytesV,List.map_take,List.map_drop] using h3
def BytPost (w:World) (R:Byt) (e:Ending) (w':World):Prop:=
 match R with
 | .no x=>e = .returned (.tuple #[.slice none 0 0,.int .i64 0,.int .i64 (x:Int)])∧Keep (fun _=>False) w w'
 | .yes s t=>∃ v,e = .returned (.tuple #[v,.int .i64 (t:Int),.int .i64 0])∧Fresh w v s w'
set_option maxRecDepth 20000 in
theorem bytes_any (w:World) (ao:Option Addr) (n c a most:Nat) (l:List UInt8) (h:Cells w ao n 1 (bytesV l)) (hnc:n≤c) (ha:a≤n) (hn:n≤1000000000) (hm:most≤1000000) :
  Calls Try.prog 82 #[.slice ao n c,.int .i64 a,.int .i64 most] w (BytPost w (bytesAt l a most)):=by
 have hl:l.length=n:=by have:=h.1;rw[bytesV_length] at this;omega
 have H:=hid (And.intro h hl)
 have hcall:=uint_any w ao n c a l h ha hn
 have hmx:=fun w=>maxz_any w most
 have hw1:=wu64 most (by omega)
 obtain⟨R,hR⟩:∃ R,R=bytesAt l a most:=⟨_,rfl⟩
 rw[← hR]
 unfold bytesAt at hR
 clear h
 cases hu:BM.uint l a with
 | no e=>
   rw[hu] at hR hcall
   simp only at hR
   subst hR
   have te:((e:Int) != 0)=true:=by have:=(uint_no2 hu).1;simp;omega
   clear hu hl
   simp only[numV] at hcall
   go_enter Try.func82,Try.ntmps82
   go_wp2_with (at_builtin;refine stopAt ?_;intro q hq)
   refine hcall.mono ?_
   rintro e2 w2 ⟨rfl,hk2⟩
   have HK:=hid hk2
   clear hcall hk2
   go_wp2_with (at_builtin;refine stopAt ?_;intro q hq)
   go_ret3
   exact⟨by rfl,HK.out⟩
 | yes m t=>
   rw[hu] at hR hcall
   simp only at hR
   simp only[numV] at hcall
   obtain⟨u1,u2,u3,u4⟩:=uint_put hu
   rw[hl] at u3 hR
   by_cases h1:most<m
   ·rw[if_pos h1] at hR
    subst hR
    have t1:decide ((most:Int)<(m:Int))=true:=by simp;omega
    clear hu hl u4
    go_enter Try.func82,Try.ntmps82
    go_wp2_with (at_builtin;refine stopAt ?_;intro q hq)
    refine hcall.mono ?_
    rintro e2 w2 ⟨rfl,hk2⟩
    have HK:=hid hk2
    clear hcall hk2
    go_wp2_with (at_builtin;refine stopAt ?_;intro q hq)
    go_ret3
    exact⟨by rfl,HK.out⟩
   ·rw[if_neg h1] at hR
    have t1:decide ((most:Int)<(m:Int))=false:=by simp;omega
    obtain⟨d,hd⟩:∃ d,d=n - t:=⟨_,rfl⟩
    have t2:(n:Int) - (t:Int)=(d:Int):=by omega
    have t3:=wi64 d (by omega)
    have t4:=wu64 d (by omega)
    rw[← hd] at hR
    by_cases h2:d<m
    ·rw[if_pos h2] at hR
     subst hR
     have t5:decide ((d:Int)<(m:Int))=true:=by simp;omega
     clear hu hl u4
     go_enter Try.func82,Try.ntmps82
     go_wp2_with (at_builtin;refine stopAt ?_;intro q hq)
     refine hcall.mono ?_
     rintro e2 w2 ⟨rfl,hk2⟩
     have HK:=hid hk2
     clear hcall hk2
     go_wp2_with (at_builtin;refine stopAt ?_;intro q hq)
     go_ret3
     exact⟨by rfl,HK.out⟩
    ·rw[if_neg h2] at hR
     have t5:decide ((d:Int)<(m:Int))=false:=by simp;omega
     obtain⟨en,hen⟩:∃ en,en=t+m:=⟨_,rfl⟩
     have t6:=wi64 m (by omega)
     have hsl:∀ w,(Instr.sliceAt 29 (.slice ao n c) (some (.int .i64 (t:Int))) (some (.int .i64 ((t:Int)+(m:Int)))) none).run Try.prog w = .ok (.slice (tailAt ao c t 1) m (c - t)) w:=fun w=>by
      have h:=run_sliceAt_lh (P:=Try.prog) ty_bytes ao n c .i64 .i64 t en (by omega) (by omega) w
      rw[show en - t=m by omega,hen,Int.natCast_add] at h
      exact h
     rw[← hen] at hR
     obtain⟨T,hT⟩:∃ T,T=tailAt ao c t 1:=⟨_,rfl⟩
     rw[← hT] at hsl
     have HH:=hid (And.intro hR (And.intro hT (And.intro hen hd)))
     clear hu u4 hR hT hl
     go_enter Try.func82,Try.ntmps82
     go_wp2_with (at_builtin;refine stopAt ?_;intro q hq)
     refine hcall.mono ?_
     rintro e2 w2 ⟨rfl,hk2⟩
     have HK:=hid hk2
     clear hcall hk2
     go_wp2_with (at_builtin;refine stopAt ?_;intro q hq)
     (refine hq.out ?_;clear hq q)
     have hf6:Fresh w2 (.slice (some ⟨w2.heap.size,0,none⟩) 0 0) [] (w2.alloc (.cells #[] 5)):=fresh_build rfl rfl rfl (by unfold maxLen;decide)
     obtain⟨w6,hw6⟩:∃ w6,w6=w2.alloc (.cells #[] 5):=⟨_,rfl⟩
     rw[← hw6] at hf6 ⊢
     clear hw6
     refine wpList_plain rfl (fun K hK=>?_)
     refine wp_append_new _ _ rfl rfl (hf6.since HK.out) T m (c - t) rfl (r:=(l.drop t).take m) (by
      rw[HH.out.2.1]
      exact(H.out.1.keep (HK.out.next hf6.keep (fun _ _ x=>x) (fun _ _ x=>x)) (fun _ _ x=>x)).part t m (by have:=HH.out.2.2;omega) hnc) (by omega) ?_
     intro v8 w8 hf8 hk8
     refine hK _ _ ?_
     clear hK K hf6 hk8
     have HF8:=hid hf8
     clear hf8
     go_wp2_with (at_builtin;refine stopAt ?_;intro q hq)
     go_ret3
     rw[HH.out.1,HH.out.2.2.1]
     exact⟨_,by rw[Int.natCast_add];rfl,HF8.out⟩
end Go.Proofs.Ytkjofdocgaiedaa
namespace Go.Proofs.Ytkjofdocgaiedaa
open Go.RowKit
open MI SO BM
structure RdAt (w:World) (g:Nat) (v:Value) (l:List UInt8) (at_ err:Nat):Prop where
 head:w.heap[g]?=some (.cells #[v,.int .i64 (at_:Int),.int .i64 (err:Int)] 134 (0,0))
 row:Row w 5 1 v l.length (bytesV l)
theorem RdAt.keep {w w':World} {g:Nat} {v:Value} {l:List UInt8} {at_ err:Nat} {F:Nat→Prop} (h:RdAt w g v l at_ err) (hk:Keep F w w') (h1:¬ F g) (h2:∀ k,v.ownBlock=some k→¬ F k):RdAt w' g v l at_ err:=
 ⟨hk.get h.head h1,h.row.keep hk h2⟩
theorem RdAt.ne {w:World} {g:Nat} {v:Value} {l:List UInt8} {at_ err:Nat} (h:RdAt w g v l at_ err):¬ v.ownBlock=some g:=h.row.not_block h.head (by decide)
theorem RdAt.set {w w':World} {g:Nat} {v:Value} {l:List UInt8} {at_ err at2 err2:Nat} (h:RdAt w g v l at_ err) (hk:Keep (fun k=>k=g) w w') (hh:w'.heap[g]?=some (.cells #[v,.int .i64 (at2:Int),.int .i64 (err2:Int)] 134 (0,0))):RdAt w' g v l at2 err2:=
 ⟨hh,h.row.keep hk (fun k e x=>h.ne (by rw[e,x]))⟩
theorem RdAt.put1 {w:World} {g:Nat} {v:Value} {l:List UInt8} {at_ err:Nat} (h:RdAt w g v l at_ err) (x:Nat):RdAt (w.setCell ⟨g,1,none⟩ (.int .i64 (x:Int))) g v l x err∧Keep (fun k=>k=g) w (w.setCell ⟨g,1,none⟩ (.int .i64 (x:Int))):=by
 have hk:Keep (fun k=>k=g) w (w.setCell ⟨g,1,none⟩ (.int .i64 (x:Int))):=by refine Keep.setCell (Keep.refl _ _) (.inl ?_) _;rfl
 exact⟨h.set hk (heap_setCell_same w g 1 _ _ _ h.head),hk⟩
theorem RdAt.put2 {w:World} {g:Nat} {v:Value} {l:List UInt8} {at_ err:Nat} (h:RdAt w g v l at_ err) (x:Nat):RdAt (w.setCell ⟨g,2,none⟩ (.int .i64 (x:Int))) g v l at_ x∧Keep (fun k=>k=g) w (w.setCell ⟨g,2,none⟩ (.int .i64 (x:Int))):=by
 have hk:Keep (fun k=>k=g) w (w.setCell ⟨g,2,none⟩ (.int .i64 (x:Int))):=by refine Keep.setCell (Keep.refl _ _) (.inl ?_) _;rfl
 exact⟨h.set hk (heap_setCell_same w g 2 _ _ _ h.head),hk⟩
set_option maxRecDepth 20000 in
theorem rdnew_any (w:World) (ao:Option Addr) (n c:Nat) (l:List UInt8) (h:Cells w ao n 1 (bytesV l)) (hn:n≤1000000000) :
  Calls Try.prog 64 #[.slice ao n c] w fun e w'=>∃ g v,e = .returned (.pointer (some ⟨g,0,none⟩))∧RdAt w' g v l 0 0∧Keep (fun _=>False) w w'∧w.heap.size≤g∧∀ k,v.ownBlock=some k→w.heap.size≤k:=by
 have hl:l.length=n:=by have:=h.1;rw[bytesV_length] at this;omega
 have H:=hid (And.intro h hl)
 clear hl h
 go_enter Try.func64,Try.ntmps64
 go_wp2_with (at_builtin;refine stopAt ?_;intro q hq)
 (refine hq.out ?_;clear hq q)
 have hf6:Fresh w (.slice (some ⟨w.heap.size,0,none⟩) 0 0) [] (w.alloc (.cells #[] 5)):=fresh_build rfl rfl rfl (by unfold maxLen;decide)
 obtain⟨w6,hw6⟩:∃ w6,w6=w.alloc (.cells #[] 5):=⟨_,rfl⟩
 obtain⟨gz,hgz⟩:∃ gz,gz=w.heap.size:=⟨_,rfl⟩
 rw[← hgz] at hf6
 rw[← hw6,← hgz]
 rw[← hw6] at hf6
 clear hw6
 refine wpList_plain rfl (fun K hK=>?_)
 refine wp_append_new _ _ rfl rfl hf6 ao n c rfl (H.out.1.keep hf6.keep (fun _ _ x=>x)) (by omega) ?_
 intro v8 w8 hf8 hk8
 refine hK _ _ ?_
 clear hK K hf6 hk8
 obtain⟨bo,bc,rfl,-⟩:=hf8.row.form
 have HF8:=hid (And.intro hf8 hgz)
 clear hf8 hgz
 go_wp2_with (at_builtin;refine stopAt ?_;intro q hq)
 have hn9:=heap_alloc_new w8 (.cells #[.slice bo l.length bc,.int .i64 0,.int .i64 0] 134)
 have hk9:Keep (fun _=>False) w8 (w8.alloc (.cells #[.slice bo l.length bc,.int .i64 0,.int .i64 0] 134)):=(Keep.refl _ _).alloc _
 go_ret
 exact⟨_,_,rfl,⟨hn9,HF8.out.1.row.keep hk9 (fun _ _ x=>x)⟩,HF8.out.1.keep.next hk9 (fun _ _ x=>x) (fun _ _ x=>x),HF8.out.1.keep.size,HF8.out.1.own⟩
set_option maxRecDepth 20000 in
theorem rderr_any (w:World) (g:Nat) (v:Value) (l:List UInt8) (at_ err:Nat) (h:RdAt w g v l at_ err) :
  Calls Try.prog 66 #[.pointer (some ⟨g,0,none⟩)] w fun e w'=>e = .returned (.int .i64 (err:Int))∧w'=w:=by
 obtain⟨i0,i1,i2,jf,jb⟩:=cells3i h.head
 clear h
 go_enter Try.func66,Try.ntmps66
 go_wp2_with (at_builtin;refine stopAt ?_;intro q hq)
 go_ret
 exact⟨rfl,rfl⟩
set_option maxRecDepth 20000 in
theorem rdleft_any (w:World) (g:Nat) (v:Value) (l:List UInt8) (at_:Nat) (h:RdAt w g v l at_ 0) (ha:at_≤l.length) (hn:l.length≤1000000000) :
  Calls Try.prog 68 #[.pointer (some ⟨g,0,none⟩)] w fun e w'=>e = .returned (.int .i64 ((l.length - at_:Nat):Int))∧Keep (fun _=>False) w w':=by
 obtain⟨i0,i1,i2,jf,jb⟩:=cells3i h.head
 obtain⟨bo,bc,rfl,-⟩:=h.row.form
 clear h
 go_enter Try.func68,Try.ntmps68
 go_wp2_with (at_builtin;refine stopAt ?_;intro q hq)
 have q0:=fun s:Later w=>s.cell i0
 have q1:=fun s:Later w=>s.cell i1
 (refine wp_region_later (by kernel_rfl) (by kernel_rfl) ?_;(repeat (go_big_quiet_step ((fail))));refine wpQuiet_nil ?_;rintro _ ⟨sq,rfl⟩)
 go_wp2_with (at_builtin;refine stopAt ?_;intro q hq)
 go_ret
 refine⟨?_,sq.keep⟩
 rw[show ((l.length - at_:Nat):Int)=(l.length:Int) - (at_:Int) by omega]
 rfl
set_option maxRecDepth 20000 in
theorem rduint_err (w:World) (g:Nat) (v:Value) (l:List UInt8) (at_ err:Nat) (h:RdAt w g v l at_ err) (he:err≠0) :
  Calls Try.prog 65 #[.pointer (some ⟨g,0,none⟩)] w fun e w'=>e = .returned (.int .u64 0)∧w'=w:=by
 obtain⟨i0,i1,i2,jf,jb⟩:=cells3i h.head
 have te:((err:Int) != 0)=true:=by simp;omega
 clear h
 go_enter Try.func65,Try.ntmps65
 go_wp2_with (at_builtin;refine stopAt ?_;intro q hq)
 go_ret
 exact⟨rfl,rfl⟩
set_option maxRecDepth 20000 in
theorem rdbytes_err (w:World) (g:Nat) (v:Value) (l:List UInt8) (at_ err:Nat) (m:Int) (h:RdAt w g v l at_ err) (he:err≠0) :
  Calls Try.prog 67 #[.pointer (some ⟨g,0,none⟩),.int .i64 m] w fun e w'=>e = .returned (.slice none 0 0)∧w'=w:=by
 obtain⟨i0,i1,i2,jf,jb⟩:=cells3i h.head
 have te:((err:Int) != 0)=true:=by simp;omega
 clear h
 go_enter Try.func67,Try.ntmps67
 go_wp2_with (at_builtin;refine stopAt ?_;intro q hq)
 go_ret
 exact⟨rfl,rfl⟩
def RdU (w:World) (g:Nat) (v:Value) (l:List UInt8) (at_:Nat) (R:Num) (e:Ending) (w':World):Prop:=
 Keep (fun k=>k=g) w w'∧match R with
 | .no x=>e = .returned (.int .u64 0)∧RdAt w' g v l at_ x
 | .yes n t=>e = .returned (.int .u64 (n:Int))∧RdAt w' g v l t 0
set_option maxRecDepth 20000 in
theorem rduint_any (w:World) (g:Nat) (v:Value) (l:List UInt8) (at_:Nat) (h:RdAt w g v l at_ 0) (ha:at_≤l.length) (hn:l.length≤1000000000) :
  Calls Try.prog 65 #[.pointer (some ⟨g,0,none⟩)] w (RdU w g v l at_ (uint l at_)):=by
 obtain⟨i0,i1,i2,jf,jb⟩:=cells3i h.head
 obtain⟨bo,bc,rfl,-⟩:=h.row.form
 have H:=hid h
 clear h
 cases hu:uint l at_ with
 | no x=>
   have te:((x:Int) != 0)=true:=by have:=(uint_no2 hu).1;simp;omega
   have HU:=hid hu
   clear hu
   go_enter Try.func65,Try.ntmps65
   go_wp2_with (at_builtin;refine stopAt ?_;intro q hq)
   refine wp_region_canon [24] (by kernel_rfl) (by kernel_rfl) ?_
   repeat (first | (apply wpC_pure (by rfl);(intro K w';go_simp;exact id)) | (apply wpC_load (by rfl);(intro K;go_simp;exact id)))
   have hkd:Keep (fun _=>False) w w.drew:=(Keep.refl _ _).drew
   have hd:=H.out.keep hkd id (fun _ _=>id)
   have hc:=uint_any w.drew bo l.length bc at_ l (Cells.of_row hd.row) ha hn
   rw[HU.out] at hc
   simp only[numV] at hc
   clear hd
   refine wpC_new (by rfl) (by rfl) (fun K hK=>?_)
   go_simp
   refine hc.mono ?_
   rintro e w3 ⟨rfl,hk3⟩
   refine hK _ _ (Pre.of_keep hk3) ?_
   clear hK K i0 i1 i2 jf jb
   have hk13:=hkd.next hk3 (fun _ _ x=>x) (fun _ _ x=>x)
   have hd3:=H.out.keep hk13 id (fun _ _=>id)
   obtain⟨i0,i1,i2,jf,jb⟩:=cells3i hd3.head
   have HK:=hid (And.intro hd3 hk13)
   clear hk3 hc hd3 hk13 hkd
   repeat (first | (apply wpC_pure (by rfl);(intro K w';go_simp;exact id)) | (apply wpC_load (by rfl);(intro K;go_simp;exact id)))
   refine wpC_nil ?_
   go_wp2_with (at_builtin;refine stopAt ?_;intro q hq)
   have hp:=HK.out.1.put2 x
   go_ret
   exact⟨HK.out.2.next hp.2 (fun _ _ x=>x.elim) (fun _ _ x=>x),rfl,hp.1⟩
 | yes n t=>
   have HU:=hid hu
   clear hu
   go_enter Try.func65,Try.ntmps65
   go_wp2_with (at_builtin;refine stopAt ?_;intro q hq)
   refine wp_region_canon [24] (by kernel_rfl) (by kernel_rfl) ?_
   repeat (first | (apply wpC_pure (by rfl);(intro K w';go_simp;exact id)) | (apply wpC_load (by rfl);(intro K;go_simp;exact id)))
   have hkd:Keep (fun _=>False) w w.drew:=(Keep.refl _ _).drew
   have hd:=H.out.keep hkd id (fun _ _=>id)
   have hc:=uint_any w.drew bo l.length bc at_ l (Cells.of_row hd.row) ha hn
   rw[HU.out] at hc
   simp only[numV] at hc
   clear hd
   refine wpC_new (by rfl) (by rfl) (fun K hK=>?_)
   go_simp
   refine hc.mono ?_
   rintro e w3 ⟨rfl,hk3⟩
   refine hK _ _ (Pre.of_keep hk3) ?_
   clear hK K i0 i1 i2 jf jb
   have hk13:=hkd.next hk3 (fun _ _ x=>x) (fun _ _ x=>x)
   have hd3:=H.out.keep hk13 id (fun _ _=>id)
   obtain⟨i0,i1,i2,jf,jb⟩:=cells3i hd3.head
   have HK:=hid (And.intro hd3 hk13)
   clear hk3 hc hd3 hk13 hkd
   repeat (first | (apply wpC_pure (by rfl);(intro K w';go_simp;exact id)) | (apply wpC_load (by rfl);(intro K;go_simp;exact id)))
   refine wpC_nil ?_
   go_wp2_with (at_builtin;refine stopAt ?_;intro q hq)
   have hp:=HK.out.1.put1 t
   go_ret
   exact⟨HK.out.2.next hp.2 (fun _ _ x=>x.elim) (fun _ _ x=>x),rfl,hp.1⟩
def RdB (w:World) (g:Nat) (v:Value) (l:List UInt8) (at_:Nat) (R:Byt) (e:Ending) (w':World):Prop:=
 Keep (fun k=>k=g) w w'∧match R with
 | .no x=>e = .returned (.slice none 0 0)∧RdAt w' g v l at_ x
 | .yes s t=>∃ u,e = .returned u∧RdAt w' g v l t 0∧Row w' 5 1 u s.length (bytesV s)∧∀ k,u.ownBlock=some k→w.heap.size≤k
set_option maxRecDepth 20000 in
theorem rdbytes_any (w:World) (g:Nat) (v:Value) (l:List UInt8) (at_ most:Nat) (mz:Int) (hmz:mz=(most:Int)) (h:RdAt w g v l at_ 0) (ha:at_≤l.length) (hn:l.length≤1000000000) (hm:most≤1000000) :
  Calls Try.prog 67 #[.pointer (some ⟨g,0,none⟩),.int .i64 mz] w (RdB w g v l at_ (bytesAt l at_ most)):=by
 subst hmz
 obtain⟨i0,i1,i2,jf,jb⟩:=cells3i h.head
 obtain⟨bo,bc,rfl,hbc,-⟩:=h.row.form
 have H:=hid h
 clear h
 cases hu:bytesAt l at_ most with
 | no x=>
   have te:((x:Int) != 0)=true:=by have:=(bytesAt_no hu).1;simp;omega
   have HU:=hid hu
   clear hu
   go_enter Try.func67,Try.ntmps67
   go_wp2_with (at_builtin;refine stopAt ?_;intro q hq)
   refine wp_region_canon [27] (by kernel_rfl) (by kernel_rfl) ?_
   repeat (first | (apply wpC_pure (by rfl);(intro K w';go_simp;exact id)) | (apply wpC_load (by rfl);(intro K;go_simp;exact id)))
   have hkd:Keep (fun _=>False) w w.drew:=(Keep.refl _ _).drew
   have hd:=H.out.keep hkd id (fun _ _=>id)
   have hc:=bytes_any w.drew bo l.length bc at_ most l (Cells.of_row hd.row) hbc ha hn hm
   rw[HU.out] at hc
   clear hd
   refine wpC_new (by rfl) (by rfl) (fun K hK=>?_)
   go_simp
   refine hc.mono ?_
   rintro e w3 ⟨rfl,hk3⟩
   refine hK _ _ (Pre.of_keep hk3) ?_
   clear hK K i0 i1 i2 jf jb
   have hk13:=hkd.next hk3 (fun _ _ x=>x) (fun _ _ x=>x)
   have hd3:=H.out.keep hk13 id (fun _ _=>id)
   obtain⟨i0,i1,i2,jf,jb⟩:=cells3i hd3.head
   have HK:=hid (And.intro hd3 hk13)
   clear hk3 hc hd3 hk13 hkd
   repeat (first | (apply wpC_pure (by rfl);(intro K w';go_simp;exact id)) | (apply wpC_load (by rfl);(intro K;go_simp;exact id)))
   refine wpC_nil ?_
   go_wp2_with (at_builtin;refine stopAt ?_;intro q hq)
   have hp:=HK.out.1.put2 x
   go_ret
   exact⟨HK.out.2.next hp.2 (fun _ _ x=>x.elim) (fun _ _ x=>x),rfl,hp.1⟩
 | yes s t=>
   have HU:=hid hu
   clear hu
   go_enter Try.func67,Try.ntmps67
   go_wp2_with (at_builtin;refine stopAt ?_;intro q hq)
   refine wp_region_canon [27] (by kernel_rfl) (by kernel_rfl) ?_
   repeat (first | (apply wpC_pure (by rfl);(intro K w';go_simp;exact id)) | (apply wpC_load (by rfl);(intro K;go_simp;exact id)))
   have hkd:Keep (fun _=>False) w w.drew:=(Keep.refl _ _).drew
   have hd:=H.out.keep hkd id (fun _ _=>id)
   have hc:=bytes_any w.drew bo l.length bc at_ most l (Cells.of_row hd.row) hbc ha hn hm
   rw[HU.out] at hc
   clear hd
   refine wpC_new (by rfl) (by rfl) (fun K hK=>?_)
   go_simp
   refine hc.mono ?_
   rintro e w3 ⟨v3,rfl,hf3⟩
   refine hK _ _ (Pre.of_keep hf3.keep) ?_
   clear hK K i0 i1 i2 jf jb
   have hk13:=hkd.next hf3.keep (fun _ _ x=>x) (fun _ _ x=>x)
   have hd3:=H.out.keep hk13 id (fun _ _=>id)
   obtain⟨i0,i1,i2,jf,jb⟩:=cells3i hd3.head
   have HK:=hid (And.intro hd3 (And.intro hk13 hf3))
   clear hf3 hc hd3 hk13 hkd
   repeat (first | (apply wpC_pure (by rfl);(intro K w';go_simp;exact id)) | (apply wpC_load (by rfl);(intro K;go_simp;exact id)))
   refine wpC_nil ?_
   go_wp2_with (at_builtin;refine stopAt ?_;intro q hq)
   have hp:=HK.out.1.put1 t
   go_ret
   exact⟨HK.out.2.1.next hp.2 (fun _ _ x=>x.elim) (fun _ _ x=>x),_,rfl,hp.1,HK.out.2.2.row.keep hp.2 (fun k e x=>HK.out.2.2.row.not_block HK.out.1.head (by decide) (by rw[e,x])),HK.out.2.2.own⟩
def SO.uS (b:List UInt8) (s:Nat×Nat):Nat×Nat×Nat:=if s.2≠0 then (0,s) else match uint b s.1 with
 | .no x=>(0,s.1,x)
 | .yes n t=>(n,t,0)
def SO.bS (b:List UInt8) (most:Nat) (s:Nat×Nat):Str×Nat×Nat:=if s.2≠0 then ([],s) else match bytesAt b s.1 most with
 | .no x=>([],s.1,x)
 | .yes v t=>(v,t,0)
set_option maxRecDepth 20000 in
theorem rduint_st (w:World) (g:Nat) (v:Value) (l:List UInt8) (at_ err:Nat) (h:RdAt w g v l at_ err) (ha:at_≤l.length) (hn:l.length≤1000000000) :
  Calls Try.prog 65 #[.pointer (some ⟨g,0,none⟩)] w fun e w'=>e = .returned (.int .u64 ((uS l (at_,err)).1:Int))∧RdAt w' g v l (uS l (at_,err)).2.1 (uS l (at_,err)).2.2∧Keep (fun k=>k=g) w w':=by
 unfold uS
 by_cases he:err≠0
 ·rw[if_pos he]
  refine(rduint_err w g v l at_ err h he).mono ?_
  rintro e w' ⟨rfl,rfl⟩
  exact⟨rfl,h,Keep.refl _ _⟩
 ·rw[if_neg he]
  obtain rfl:err=0:=by omega
  refine(rduint_any w g v l at_ h ha hn).mono ?_
  rintro e w' ⟨hk,hr⟩
  simp only
  cases hu:uint l at_ with
  | no x=>rw[hu] at hr;exact⟨hr.1,hr.2,hk⟩
  | yes n t=>rw[hu] at hr;exact⟨hr.1,hr.2,hk⟩
set_option maxRecDepth 20000 in
theorem rdbytes_st (w:World) (g:Nat) (v:Value) (l:List UInt8) (at_ err most:Nat) (mz:Int) (hmz:mz=(most:Int)) (h:RdAt w g v l at_ err) (ha:at_≤l.length) (hn:l.length≤1000000000) (hm:most≤1000000) :
  Calls Try.prog 67 #[.pointer (some ⟨g,0,none⟩),.int .i64 mz] w fun e w'=>∃ u,e = .returned u∧Row w' 5 1 u (bS l most (at_,err)).1.length (bytesV (bS l most (at_,err)).1)∧RdAt w' g v l (bS l most (at_,err)).2.1 (bS l most (at_,err)).2.2∧Keep (fun k=>k=g) w w':=by
 unfold bS
 by_cases he:err≠0
 ·rw[if_pos he]
  refine(rdbytes_err w g v l at_ err mz h he).mono ?_
  rintro e w' ⟨rfl,rfl⟩
  exact⟨_,rfl,Row.nil _ _ _,h,Keep.refl _ _⟩
 ·rw[if_neg he]
  obtain rfl:err=0:=by omega
  refine(rdbytes_any w g v l at_ most mz hmz h ha hn hm).mono ?_
  rintro e w' ⟨hk,hr⟩
  simp only
  cases hu:bytesAt l at_ most with
  | no x=>rw[hu] at hr;obtain⟨rfl,hr⟩:=hr;exact⟨_,rfl,Row.nil _ _ _,hr,hk⟩
  | yes s t=>rw[hu] at hr;obtain⟨u,rfl,h1,h2,-⟩:=hr;exact⟨_,rfl,h2,h1,hk⟩
theorem bS_pos (b:List UInt8) (most:Nat) {a e:Nat} (ha:a≤b.length):(bS b most (a,e)).2.1≤b.length∧(bS b most (a,e)).1.length≤most:=by
 unfold bS
 by_cases he:e≠0
 ·simp[he,ha]
 ·rw[if_neg he]
  simp only
  cases hu:bytesAt b a most with
  | no x=>exact⟨ha,Nat.zero_le _⟩
  | yes s t=>have:=bytesAt_put hu;exact⟨this.2.2.1,this.1⟩
theorem uS_pos (b:List UInt8) {a e:Nat} (ha:a≤b.length):(uS b (a,e)).2.1≤b.length∧(uS b (a,e)).1<18446744073709551616:=by
 unfold uS
 by_cases he:e≠0
 ·simp[he,ha]
 ·rw[if_neg he]
  simp only
  cases hu:uint b a with
  | no x=>exact⟨ha,by show (0:Nat)<18446744073709551616;decide⟩
  | yes n t=>have:=uint_put hu;exact⟨this.2.2.1,this.1⟩
theorem round_is {b:List UInt8} {at_ a1 e1 gn a2 e2:Nat} {key:Str} (h1:(key,a1,e1)=bS b 16 (at_,0)) (h2:(gn,a2,e2)=uS b (a1,e1)) :
  (1<gn→chAt b at_=none)∧(gn=1→e2=0∧chAt b at_=some (⟨key,[],true⟩,a2))∧
  (gn=0→∀ v a3 e3,(v,a3,e3)=bS b 128 (a2,e2)→(e3=0∧chAt b at_=some (⟨key,v,false⟩,a3))∨(e3≠0∧chAt b at_=none)):=by
 unfold bS at h1
 unfold chAt
 simp only[ne_eq,not_true_eq_false,if_false] at h1
 cases hb:bytesAt b at_ 16 with
 | no x=>
   have hx:=(bytesAt_no hb).1
   rw[hb] at h1
   simp only[Prod.mk.injEq] at h1
   obtain⟨rfl,rfl,rfl⟩:=h1
   unfold uS at h2
   rw[if_pos hx] at h2
   simp only[Prod.mk.injEq] at h2
   obtain⟨rfl,rfl,rfl⟩:=h2
   refine⟨fun h=>by omega,fun h=>by omega,fun _ v a3 e3 h3=>?_⟩
   unfold bS at h3
   rw[if_pos hx] at h3
   simp only[Prod.mk.injEq] at h3
   obtain⟨rfl,rfl,rfl⟩:=h3
   exact .inr ⟨hx,rfl⟩
 | yes k t=>
   rw[hb] at h1
   simp only[Prod.mk.injEq] at h1
   obtain⟨rfl,rfl,rfl⟩:=h1
   unfold uS at h2
   simp only[ne_eq,not_true_eq_false,if_false] at h2
   simp only
   cases hu:uint b a1 with
   | no x=>
     have hx:=(uint_no2 hu).1
     rw[hu] at h2
     simp only[Prod.mk.injEq] at h2
     obtain⟨rfl,rfl,rfl⟩:=h2
     refine⟨fun h=>by omega,fun h=>by omega,fun _ v a3 e3 h3=>?_⟩
     unfold bS at h3
     rw[if_pos hx] at h3
     simp only[Prod.mk.injEq] at h3
     obtain⟨rfl,rfl,rfl⟩:=h3
     exact .inr ⟨hx,rfl⟩
   | yes n t2=>
     rw[hu] at h2
     simp only[Prod.mk.injEq] at h2
     obtain⟨rfl,rfl,rfl⟩:=h2
     simp only
     refine⟨fun h=>if_pos h,fun h=>⟨by first | rfl | trivial,by rw[if_neg (by omega),if_pos h]⟩,fun h v a3 e3 h3=>?_⟩
     rw[if_neg (by omega),if_neg (by omega)]
     unfold bS at h3
     simp only[ne_eq,not_true_eq_false,if_false] at h3
     cases hv:bytesAt b a2 128 with
     | no x=>
       have hx:=(bytesAt_no hv).1
       rw[hv] at h3
       simp only[Prod.mk.injEq] at h3
       obtain⟨rfl,rfl,rfl⟩:=h3
       exact .inr ⟨hx,rfl⟩
     | yes s t3=>
       rw[hv] at h3
       simp only[Prod.mk.injEq] at h3
       obtain⟨rfl,rfl,rfl⟩:=h3
       exact .inl ⟨rfl,rfl⟩
end Go.Proofs.Ytkjofdocgaiedaa
namespace Go.Proofs.Ytkjofdocgaiedaa
open Go.RowKit
open MI SO BM
def chsV (l:List Ch):List Value:=l.flatMap chV
theorem ty_chs:SliceTy Try.prog 60 55 (.agg #[.string { data:=#[] },.string { data:=#[] },.bool false]) 3 40:=⟨by kernel_rfl,by kernel_rfl,rfl,by decide⟩
theorem chsV_append (a b:List Ch):chsV (a ++ b)=chsV a ++ chsV b:=List.flatMap_append
theorem chsV_one (c:Ch):chsV [c]=chV c:=by simp[chsV]
theorem chsV_get:∀ (l:List Ch) (i:Nat) (hi:i<l.length) (t:Nat),t<3→(chsV l)[i * 3+t]?=(chV l[i])[t]?
 | [],i,hi,_,_=>by simp at hi
 | c :: l,0,_,t,ht=>by
   rw[show chsV (c :: l)=chV c ++ chsV l from rfl,List.getElem?_append_left (by simp[chV];omega)]
   simp
 | c :: l,i+1,hi,t,ht=>by
   rw[show chsV (c :: l)=chV c ++ chsV l from rfl,List.getElem?_append_right (by simp[chV];omega)]
   have:=chsV_get l i (by simpa using hi) t ht
   rw[show (i+1) * 3+t - (chV c).length=i * 3+t by simp[chV];omega,this]
   rfl
theorem chV_oneCell (c:Ch):∀ u ∈ chV c,u.oneCell'=true:=by
 intro u hu
 simp only[chV,List.mem_cons,List.not_mem_nil,or_false] at hu
 rcases hu with rfl | rfl | rfl <;> rfl
theorem Chs.of_row {w:World} {v:Value} {l:List Ch} (h:Row w 55 3 v l.length (chsV l)) (hok:∀ c ∈ l,ChOk c):Chs w v l:=by
 obtain⟨ad,cap,rfl,h1,h2,-⟩:=h.form
 refine⟨ad,cap,rfl,h1,h2,fun hp=>?_⟩
 obtain⟨g,cap',cur,fz,hv,-⟩:=h.some hp
 cases hv
 refine⟨_,rfl,fun i hi=>⟨chV l[i],rfl,⟨rfl,hok _ (List.getElem_mem hi)⟩,fun j u hu=>?_⟩⟩
 have ht:j<3:=(List.getElem?_eq_some_iff.1 hu).1
 obtain⟨g',c',hv',hc⟩:=h.getCell (show (chsV l)[i * 3+j]?=some u by rw[chsV_get l i hi j ht];exact hu)
 cases hv'
 rw[addr_add]
 simpa using hc
theorem chOk_of {c:Ch} (h:rightC c=true):ChOk c:=by
 simp only[rightC,decide_eq_true_eq] at h
 exact⟨by unfold maxLen;omega,by unfold maxLen;omega⟩
theorem chsAt_next {b:List UInt8} {n t0 at_ i:Nat} {acc:List Ch} (h:∀ k,i+k=n→chsAt b n t0=(chsAt b k at_).map fun p=>(acc ++ p.1,p.2)) (hi:i<n) :
  (chAt b at_=none→chsAt b n t0=none)∧∀ c t2,chAt b at_=some (c,t2)→∀ k,i+1+k=n→chsAt b n t0=(chsAt b k t2).map fun p=>(acc ++ [c] ++ p.1,p.2):=by
 have h1:=h (n - i - 1+1) (by omega)
 refine⟨fun hc=>?_,fun c t2 hc k hk=>?_⟩
 ·rw[h1]
  unfold chsAt
  rw[hc]
  rfl
 ·have e:chsAt b (k+1) at_=(chsAt b k t2).map fun p=>(c :: p.1,p.2):=by
   show (match chAt b at_ with | none=>none | some (c,to_)=>match chsAt b k to_ with | none=>none | some (l,t2)=>some (c :: l,t2))=_
   rw[hc]
   simp only
   cases chsAt b k t2 <;> rfl
  rw[h1,show n - i - 1=k by omega,e]
  cases chsAt b k t2 <;> simp
def DecPost (w:World) (b:List UInt8) (e:Ending) (w':World):Prop:=
 Keep (fun _=>False) w w'∧match dec b with
 | some l=>∃ v,e = .returned (.tuple #[v,.int .i64 0])∧Row w' 55 3 v l.length (chsV l)∧∀ k,v.ownBlock=some k→w.heap.size≤k
 | none=>e = .returned (.tuple #[.slice none 0 0,.int .i64 50])
structure DecRel (w:World) (g:Nat) (rv:Value) (b:List UInt8) (n t0 i:Nat) (acc:List Ch) (at_ err:Nat) (lv:Value) (wr:World):Prop where
 keep:Keep (fun _=>False) w wr
 rd:RdAt wr g rv b at_ err
 row:Row wr 55 3 lv i (chsV acc)
 own:∀ k,lv.ownBlock=some k→w.heap.size≤k
 len:acc.length=i
 ok:∀ c ∈ acc,ChOk c
 pos:at_≤b.length
 is:(err=0∧∀ k,i+k=n→chsAt b n t0=(chsAt b k at_).map fun p=>(acc ++ p.1,p.2))∨(err≠0∧chsAt b n t0=none)
theorem Row.apart {w:World} {e e':TypeId} {size size':Nat} {v v':Value} {n n':Nat} {xs xs':List Value} (h:Row w e size v n xs) (h':Row w e' size' v' n' xs') (ht:e'≠e) (k:Nat) (hk:v'.ownBlock=Option.some k):¬ v.ownBlock=Option.some k:=by
 rcases h'.2 with ⟨rfl,_⟩ | ⟨g,cap,cur,fz,rfl,hg,_⟩
 ·simp[Value.ownBlock] at hk
 ·simp[Value.ownBlock] at hk
  subst hk
  exact h.not_block hg ht
theorem DecRel.next {w:World} {g:Nat} {rv:Value} {b:List UInt8} {n t0 i:Nat} {acc:List Ch} {a e:Nat} {lv:Value} {wr:World} (h:DecRel w g rv b n t0 i acc a e lv wr) {w9 w10:World} {c:Ch} {a' e':Nat} {lv':Value}
  (hkw:Keep (fun _=>False) w w9) (hrd:RdAt w9 g rv b a' e') (hrow:Row w9 55 3 lv i (chsV acc)) (hk:Keep (fun k=>lv.ownBlock=some k) w9 w10) (hr:Row w10 55 3 lv' (i+1) (chsV acc ++ chV c))
  (ho:∀ k,lv'.ownBlock=some k→w.heap.size≤k) (hc:ChOk c) (hp:a'≤b.length)
  (his:(e'=0∧∀ k,i+1+k=n→chsAt b n t0=(chsAt b k a').map fun p=>(acc ++ [c] ++ p.1,p.2))∨(e'≠0∧chsAt b n t0=none)):DecRel w g rv b n t0 (i+1) (acc ++ [c]) a' e' lv' w10 where
 keep:=hkw.next hk (fun _ _ x=>x) (fun j hj x=>by have:=h.own j x;omega)
 rd:=hrd.keep hk (hrow.not_block hrd.head (by decide)) (fun k hk=>hrow.apart hrd.row (by decide) k hk)
 row:=by rw[chsV_append,chsV_one];exact hr
 own:=ho
 len:=by simp[h.len]
 ok:=fun c' hc'=>by
  rcases List.mem_append.1 hc' with h1 | h1
  ·exact h.ok c' h1
  ·simp at h1;rw[h1];exact hc
 pos:=hp
 is:=his
theorem dec_none {b:List UInt8} {m t0:Nat} (hu:uint b 0 = .yes m t0) (h:chsAt b m t0=none):dec b=none:=by
 unfold dec
 rw[hu]
 simp only
 split
 ·rfl
 ·rw[h]
theorem dec_some {b:List UInt8} {m t0 a:Nat} {acc:List Ch} (hu:uint b 0 = .yes m t0) (h:chsAt b m t0=some (acc,a)) (hm:acc.length=m):dec b=if a=b.length∧right acc=true∧b.length≤1024 then some acc else none:=by
 unfold dec
 rw[hu]
 simp only
 split
 ·rw[if_neg]
  rintro⟨-,hr,-⟩
  have:=(right_all hr).1
  omega
 ·rw[h]
theorem dec_big {b:List UInt8} {m t0:Nat} (hu:uint b 0 = .yes m t0) (h:32<m):dec b=none:=by
 unfold dec
 rw[hu]
 simp only
 rw[if_pos h]
set_option maxRecDepth 20000 in
set_option maxHeartbeats 1000000 in
theorem decode_any (w:World) (ao:Option Addr) (n c:Nat) (b:List UInt8) (h:Cells w ao n 1 (bytesV b)) (hn:n≤1000000000) :
  Calls Try.prog 38 #[.slice ao n c] w (DecPost w b):=by
 have hl:b.length=n:=by have:=h.1;rw[bytesV_length] at this;omega
 have H:=hid (And.intro h hl)
 clear hl h
 go_enter Try.func38,Try.ntmps38
 go_wp2_with (at_builtin;refine stopAt ?_;intro q hq)
 refine(rdnew_any w ao n c b H.out.1 hn).mono ?_
 rintro e w1 ⟨g,rv,rfl,hr1,hk1,hg1,ho1⟩
 have hbl:b.length≤1000000000:=by rw[H.out.2];exact hn
 have HG:=hid (And.intro hr1 (And.intro hk1 (And.intro hg1 ho1)))
 clear hr1 hk1 hg1 ho1
 go_wp2_with (at_builtin;refine stopAt ?_;intro q hq)
 refine(rduint_any w1 g rv b 0 HG.out.1 (Nat.zero_le _) hbl).mono ?_
 rintro e w2 ⟨hk2,hres⟩
 have hk02:Keep (fun _=>False) w w2:=HG.out.2.1.next hk2 (fun _ _ x=>x) (fun j hj x=>by have h1:j=g:=x;have:=HG.out.2.2.1;omega)
 cases hu:uint b 0 with
 | no x=>
   rw[hu] at hres
   obtain⟨rfl,hr2⟩:=hres
   have hx:=(uint_no2 hu).1
   have te:((x:Int) != 0)=true:=by simp;omega
   have HR:=hid (And.intro hr2 (And.intro hk02 hu))
   clear hr2 hk2 hk02 hu
   go_wp2_with (at_builtin;refine stopAt ?_;intro q hq)
   refine wp_loop_rounds 1 ?_
   rw[rounds_succ]
   go_wp2_with (at_builtin;refine stopAt ?_;intro q hq)
   refine(rderr_any w2 g rv b 0 x HR.out.1).mono ?_
   rintro e w3 ⟨rfl,rfl⟩
   go_wp2_with (at_builtin;refine stopAt ?_;intro q hq)
   go_ret2
   have hd:dec b=none:=by unfold dec;rw[HR.out.2.2]
   refine⟨HR.out.2.1,?_⟩
   rw[hd]
   rfl
 | yes m t0=>
   rw[hu] at hres
   obtain⟨rfl,hr2⟩:=hres
   obtain⟨u1,u2,u3,-⟩:=uint_put hu
   have HU:=hid hu
   have HR:=hid (And.intro hr2 hk02)
   clear hr2 hk2 hk02 hu
   go_wp2_with (at_builtin;refine stopAt ?_;intro q hq)
   go_loopw [6,7] (fun lv iv wr=>∃ (i:Nat) (acc:List Ch) (at_ err:Nat),i≤33∧i≤m∧iv = .int .u64 i∧Hid (DecRel w g rv b m t0 i acc at_ err lv wr)) (fun _ iv _=>33 - (intOf iv).toNat)
   case atStart=>exact⟨0,[],t0,0,by omega,Nat.zero_le _,rfl,hid ⟨HR.out.2,HR.out.1,Row.nil _ _ _,fun k e=>by simp[Value.ownBlock] at e,rfl,fun c hc=>by simp at hc,u3,.inl ⟨rfl,fun k hk=>by
    obtain rfl:k=m:=by omega
    simp⟩⟩⟩
   case round=>
    obtain⟨i,acc,at_,err,hi33,him,rfl,HT⟩:=hrel
    rcases HT.out.is with ⟨rfl,hnx⟩ | ⟨herr,hnone⟩
    ·by_cases hin:i<m
     ·have t1:decide ((i:Int)<(m:Int))=true:=by simp;omega
      by_cases hi:i≤32
      ·have t2:decide ((i:Int)≤32)=true:=by simp;omega
       obtain⟨hno,hyes⟩:=chsAt_next hnx hin
       have HN:=hid (And.intro hno hyes)
       clear hno hyes hnx
       go_wp2_with (at_builtin;refine stopAt ?_;intro q hq)
       refine(rderr_any wr g rv b at_ 0 HT.out.rd).mono ?_
       rintro e w3 ⟨rfl,rfl⟩
       go_wp2_with (at_builtin;refine stopAt ?_;intro q hq)
       refine(rdbytes_st w3 g rv b at_ 0 16 16 rfl HT.out.rd HT.out.pos hbl (by decide)).mono ?_
       rintro e w4 ⟨ku,rfl,hku,hr4,hk4⟩
       have hb1:=bS_pos b 16 (e:=0) HT.out.pos
       obtain⟨kr,hkr⟩:∃ kr,kr=bS b 16 (at_,0):=⟨_,rfl⟩
       rw[← hkr] at hku hr4 hb1
       obtain⟨key,a1,e1⟩:=kr
       simp only at hku hr4 hb1
       obtain⟨ko,kc,rfl,-⟩:=hku.form
       have hcv:=run_str (P:=Try.prog) (c:=kc) Try.underlying29 Try.underlying5 Try.underlying9 (Cells.of_row hku)
       have hT4:Keep (fun _=>False) w w4:=HT.out.keep.next hk4 (fun _ _ x=>x) (fun j hj x=>by have h1:j=g:=x;have:=HG.out.2.2.1;omega)
       have hl4:=HT.out.row.keep hk4 (fun k e x=>HT.out.row.not_block HT.out.rd.head (by decide) (by rw[e,x]))
       have H4:=hid (And.intro hkr (And.intro hr4 (And.intro hT4 (And.intro hl4 hb1))))
       clear hkr hr4 hT4 hl4 hku hk4
       go_upto_region 8 with fail
       have hn5:=heap_alloc_new w4 (.cells #[.string (str key),.string { data:=#[] },.bool false] 55)
       have hk5:Keep (fun _=>False) w4 (w4.alloc (.cells #[.string (str key),.string { data:=#[] },.bool false] 55)):=(Keep.refl _ _).alloc _
       have hgg:=heap_lt H4.out.2.1.head
       obtain⟨gb,hgb⟩:∃ gb,gb=w4.heap.size:=⟨_,rfl⟩
       obtain⟨w5,hw5⟩:∃ w5,w5=w4.alloc (.cells #[.string (str key),.string { data:=#[] },.bool false] 55):=⟨_,rfl⟩
       rw[← hw5] at hn5 hk5 ⊢
       rw[← hgb] at hn5 hgg ⊢
       have hgb9:w.heap.size≤gb:=by rw[hgb];exact H4.out.2.2.1.size
       clear hw5 hcv
       have hr5:=H4.out.2.1.keep hk5 id (fun _ _=>id)
       have H5:=hid (And.intro hk5 hgb)
       clear hk5 hgb
       go_wp2_with (at_builtin;refine stopAt ?_;intro q hq)
       refine(rduint_st w5 g rv b a1 e1 hr5 H4.out.2.2.2.2.1 hbl).mono ?_
       rintro e w6 ⟨rfl,hr6,hk6⟩
       have hn6:=hk6.get hn5 (show ¬ gb=g by omega)
       have hb2:=uS_pos b (e:=e1) H4.out.2.2.2.2.1
       obtain⟨ur,hur⟩:∃ ur,ur=uS b (a1,e1):=⟨_,rfl⟩
       rw[← hur] at hr6 hb2 ⊢
       obtain⟨gn,a2,e2⟩:=ur
       simp only at hr6 hb2 ⊢
       obtain⟨r1,r2,r3⟩:=round_is H4.out.1 hur
       have hT6:Keep (fun _=>False) w w6:=(H4.out.2.2.1.next H5.out.1 (fun _ _ x=>x) (fun _ _ x=>x)).next hk6 (fun _ _ x=>x) (fun j hj x=>by have h1:j=g:=x;have:=HG.out.2.2.1;omega)
       have hl6:=(H4.out.2.2.2.1.keep H5.out.1 (fun _ _ x=>x)).keep hk6 (fun k e x=>by
        have h1:k=g:=x
        exact H4.out.2.2.2.1.not_block H4.out.2.1.head (by decide) (by rw[e,h1]))
       have hkl:ChOk ⟨key,[],true⟩:=⟨by have:=H4.out.2.2.2.2.2;simp only;unfold maxLen;omega,by simp only;unfold maxLen;decide⟩
       have H6:=hid (And.intro hr6 (And.intro hT6 (And.intro hl6 (And.intro hb2 hkl))))
       have HRD:=hid (And.intro r1 (And.intro r2 r3))
       clear hr5 hn5 hr6 hk6 hur r1 r2 r3 hT6 hl6 hb2 hkl
       obtain⟨j0,j1,j2,jf,jb⟩:=cells3i hn6
       by_cases hg1:1<gn
       ·have t3:decide ((1:Int)<(gn:Int))=true:=by simp;omega
        go_wp2_with (at_builtin;refine stopAt ?_;intro q hq)
        go_ret2
        refine⟨H6.out.2.1,?_⟩
        rw[dec_none HU.out (HN.out.1 (HRD.out.1 hg1))]
        rfl
       ·have t3:decide ((1:Int)<(gn:Int))=false:=by simp;omega
        rcases (show gn=1∨gn=0 by omega) with rfl | rfl
        ·obtain⟨rfl,hch⟩:=HRD.out.2.1 rfl
         have his:=HN.out.2 _ _ hch
         have HI:=hid his
         clear his hch t3 hg1
         go_upto_region 12 with fail
         have hk7:Keep (fun k=>k=gb) w6 (w6.setCell ⟨gb,2,none⟩ (.bool true)):=by refine Keep.setCell (Keep.refl _ _) (.inl ?_) _;rfl
         have hn7:=heap_setCell_same w6 gb 2 _ _ (.bool true) hn6
         obtain⟨w7,hw7⟩:∃ w7,w7=w6.setCell ⟨gb,2,none⟩ (.bool true):=⟨_,rfl⟩
         rw[← hw7] at hk7 hn7 ⊢
         clear hw7 j0 j1 j2 jf jb hn6
         obtain⟨j0,j1,j2,jf,jb⟩:=cells3i hn7
         have hT7:Keep (fun _=>False) w w7:=H6.out.2.1.next hk7 (fun _ _ x=>x) (fun j hj x=>by have h1:j=gb:=x;omega)
         have hl7:=H6.out.2.2.1.keep hk7 (fun k e x=>by
          have h1:k=gb:=x
          have:=H4.out.2.2.2.1.lt e
          have:=H5.out.2
          omega)
         have hr7:=H6.out.1.keep hk7 (show ¬ g=gb by omega) (fun k e x=>by
          have h1:k=gb:=x
          have:=H4.out.2.1.row.lt e
          have:=H5.out.2
          omega)
         have H7:=hid (And.intro hT7 (And.intro hl7 hr7))
         clear hk7 hn7 hT7 hl7 hr7
         go_wp2_with (at_builtin;refine stopAt ?_;intro q hq)
         (refine hq.out ?_;clear hq q)
         have hn8:=heap_alloc_new w7 (.cells #[.string (str key),.string { data:=#[] },.bool true] 55)
         have hk8:Keep (fun _=>False) w7 (w7.alloc (.cells #[.string (str key),.string { data:=#[] },.bool true] 55)):=(Keep.refl _ _).alloc _
         obtain⟨w8,hw8⟩:∃ w8,w8=w7.alloc (.cells #[.string (str key),.string { data:=#[] },.bool true] 55):=⟨_,rfl⟩
         rw[← hw8] at hn8 hk8 ⊢
         clear hw8
         have hrow8:=(H7.out.2.1.keep hk8 (fun _ _ x=>x))
         refine wpList_plain rfl (fun K hK=>?_)
         refine wp_append ty_chs (.tmp 46) (.tmp 48) rfl rfl hrow8 (some ⟨w7.heap.size,0,none⟩) 1 1 (chV ⟨key,[],true⟩) (by rfl)
          ⟨rfl,fun _=>⟨_,rfl,fun t u hu=>by rw[addr_add,Nat.zero_add,cell_of_row _ _ _ _ _ _ hn8];simpa [chV,str] using hu⟩⟩ (chV_oneCell _) (by unfold maxLen;omega) (by omega) ?_
         intro v9 w9 hr9 hk9 hv9
         refine hK _ _ ?_
         clear hK K
         have hs8:=hk8.size
         have hown9:∀ k,v9.ownBlock=some k→w.heap.size≤k:=fun k e=>by
          rcases hv9 with ⟨_,h0⟩ | ⟨b',h1,h2⟩
          ·omega
          ·rw[e] at h1
           cases h1
           rcases h2 with h2 | h2
           ·exact HT.out.own _ h2
           ·have:=H7.out.1.size;omega
         have HT9:=hid (HT.out.next (H7.out.1.next hk8 (fun _ _ x=>x) (fun _ _ x=>x.elim)) (H7.out.2.2.keep hk8 id (fun _ _=>id)) hrow8 hk9 hr9 hown9 H6.out.2.2.2.2 H6.out.2.2.2.1.1 (.inl ⟨rfl,HI.out⟩))
         clear hn8 hk8 hrow8 hr9 hk9 hv9 hs8 hown9 j0 j1 j2 jf jb
         go_wp2_with (at_builtin;refine stopAt ?_;intro q hq)
         go_roundw
         case rel=>exact⟨i+1,_,_,_,by omega,by omega,by go_num,HT9⟩
         case measure=>simp[intOf];omega
        ·have hch:=HRD.out.2.2 rfl
         have HI:=hid hch
         clear hch t3 hg1
         go_upto_region 12 with fail
         have hk7:Keep (fun k=>k=gb) w6 (w6.setCell ⟨gb,2,none⟩ (.bool false)):=by refine Keep.setCell (Keep.refl _ _) (.inl ?_) _;rfl
         have hn7:=heap_setCell_same w6 gb 2 _ _ (.bool false) hn6
         obtain⟨w7,hw7⟩:∃ w7,w7=w6.setCell ⟨gb,2,none⟩ (.bool false):=⟨_,rfl⟩
         rw[← hw7] at hk7 hn7 ⊢
         clear hw7 j0 j1 j2 jf jb hn6
         obtain⟨j0,j1,j2,jf,jb⟩:=cells3i hn7
         have hT7:Keep (fun _=>False) w w7:=H6.out.2.1.next hk7 (fun _ _ x=>x) (fun j hj x=>by have h1:j=gb:=x;omega)
         have hl7:=H6.out.2.2.1.keep hk7 (fun k e x=>by
          have h1:k=gb:=x
          have:=H4.out.2.2.2.1.lt e
          have:=H5.out.2
          omega)
         have hr7:=H6.out.1.keep hk7 (show ¬ g=gb by omega) (fun k e x=>by
          have h1:k=gb:=x
          have:=H4.out.2.1.row.lt e
          have:=H5.out.2
          omega)
         have H7:=hid (And.intro hT7 (And.intro hl7 hr7))
         have HN7:=hid hn7
         clear hk7 hn7 hT7 hl7 hr7
         go_wp2_with (at_builtin;refine stopAt ?_;intro q hq)
         refine(rdbytes_st w7 g rv b a2 e2 128 128 rfl H7.out.2.2 H6.out.2.2.2.1.1 hbl (by decide)).mono ?_
         rintro e w10 ⟨vu,rfl,hvu,hr10,hk10⟩
         have hb3:=bS_pos b 128 (e:=e2) H6.out.2.2.2.1.1
         obtain⟨vr,hvr⟩:∃ vr,vr=bS b 128 (a2,e2):=⟨_,rfl⟩
         rw[← hvr] at hvu hr10 hb3
         obtain⟨val,a3,e3⟩:=vr
         simp only at hvu hr10 hb3
         obtain⟨vo,vc,rfl,-⟩:=hvu.form
         have hcv:=run_str (P:=Try.prog) (c:=vc) Try.underlying29 Try.underlying5 Try.underlying9 (Cells.of_row hvu)
         have hn10:=hk10.get HN7.out (show ¬ gb=g by omega)
         have hl10:=H7.out.2.1.keep hk10 (fun k e x=>by
          have h1:k=g:=x
          exact H7.out.2.1.not_block H7.out.2.2.head (by decide) (by rw[e,h1]))
         have hT10:Keep (fun _=>False) w w10:=H7.out.1.next hk10 (fun _ _ x=>x) (fun j hj x=>by have h1:j=g:=x;have:=HG.out.2.2.1;omega)
         have his:(e3=0∧∀ k,i+1+k=m→chsAt b m t0=(chsAt b k a3).map fun p=>(acc ++ [⟨key,val,false⟩] ++ p.1,p.2))∨(e3≠0∧chsAt b m t0=none):=by
          rcases HI.out val a3 e3 hvr with ⟨h1,h2⟩ | ⟨h1,h2⟩
          ·exact .inl ⟨h1,HN.out.2 _ _ h2⟩
          ·exact .inr ⟨h1,HN.out.1 h2⟩
         have hvl:ChOk ⟨key,val,false⟩:=⟨H6.out.2.2.2.2.1,by have:=hb3.2;simp only;unfold maxLen;omega⟩
         have H10:=hid (And.intro hT10 (And.intro hl10 (And.intro hr10 (And.intro hvl (And.intro hb3.1 his)))))
         clear j0 j1 j2 jf jb
         obtain⟨j0,j1,j2,jf,jb⟩:=cells3i hn10
         clear hvu hr10 hk10 hvr hl10 hT10 his hvl hb3
         go_upto_region 14 with fail
         have hk11:Keep (fun k=>k=gb) w10 (w10.setCell ⟨gb,1,none⟩ (.string (str val))):=by refine Keep.setCell (Keep.refl _ _) (.inl ?_) _;rfl
         have hn11:=heap_setCell_same w10 gb 1 _ _ (.string (str val)) hn10
         obtain⟨w11,hw11⟩:∃ w11,w11=w10.setCell ⟨gb,1,none⟩ (.string (str val)):=⟨_,rfl⟩
         rw[← hw11] at hk11 hn11 ⊢
         clear hw11 j0 j1 j2 jf jb hn10 hcv
         obtain⟨j0,j1,j2,jf,jb⟩:=cells3i hn11
         have hT11:Keep (fun _=>False) w w11:=H10.out.1.next hk11 (fun _ _ x=>x) (fun j hj x=>by have h1:j=gb:=x;omega)
         have hl11:=H10.out.2.1.keep hk11 (fun k e x=>by
          have h1:k=gb:=x
          have:=H4.out.2.2.2.1.lt e
          have:=H5.out.2
          omega)
         have hr11:=H10.out.2.2.1.keep hk11 (show ¬ g=gb by omega) (fun k e x=>by
          have h1:k=gb:=x
          have:=H4.out.2.1.row.lt e
          have:=H5.out.2
          omega)
         have H11:=hid (And.intro hT11 (And.intro hl11 (And.intro hr11 H10.out.2.2.2)))
         clear hk11 hn11 hT11 hl11 hr11
         go_wp2_with (at_builtin;refine stopAt ?_;intro q hq)
         (refine hq.out ?_;clear hq q)
         have hn8:=heap_alloc_new w11 (.cells #[.string (str key),.string (str val),.bool false] 55)
         have hk8:Keep (fun _=>False) w11 (w11.alloc (.cells #[.string (str key),.string (str val),.bool false] 55)):=(Keep.refl _ _).alloc _
         obtain⟨w8,hw8⟩:∃ w8,w8=w11.alloc (.cells #[.string (str key),.string (str val),.bool false] 55):=⟨_,rfl⟩
         rw[← hw8] at hn8 hk8 ⊢
         clear hw8
         have hrow8:=(H11.out.2.1.keep hk8 (fun _ _ x=>x))
         refine wpList_plain rfl (fun K hK=>?_)
         refine wp_append ty_chs (.tmp 46) (.tmp 48) rfl rfl hrow8 (some ⟨w11.heap.size,0,none⟩) 1 1 (chV ⟨key,val,false⟩) (by rfl)
          ⟨rfl,fun _=>⟨_,rfl,fun t u hu=>by rw[addr_add,Nat.zero_add,cell_of_row _ _ _ _ _ _ hn8];simpa [chV,str] using hu⟩⟩ (chV_oneCell _) (by unfold maxLen;omega) (by omega) ?_
         intro v9 w9 hr9 hk9 hv9
         refine hK _ _ ?_
         clear hK K
         have hs8:=hk8.size
         have hown9:∀ k,v9.ownBlock=some k→w.heap.size≤k:=fun k e=>by
          rcases hv9 with ⟨_,h0⟩ | ⟨b',h1,h2⟩
          ·omega
          ·rw[e] at h1
           cases h1
           rcases h2 with h2 | h2
           ·exact HT.out.own _ h2
           ·have:=H11.out.1.size;omega
         have HT9:=hid (HT.out.next (H11.out.1.next hk8 (fun _ _ x=>x) (fun _ _ x=>x.elim)) (H11.out.2.2.1.keep hk8 id (fun _ _=>id)) hrow8 hk9 hr9 hown9 H11.out.2.2.2.1 H11.out.2.2.2.2.1 H11.out.2.2.2.2.2)
         clear hn8 hk8 hrow8 hr9 hk9 hv9 hs8 hown9 j0 j1 j2 jf jb
         go_wp2_with (at_builtin;refine stopAt ?_;intro q hq)
         go_roundw
         case rel=>exact⟨i+1,_,_,_,by omega,by omega,by go_num,HT9⟩
         case measure=>simp[intOf];omega
      ·have t2:decide ((i:Int)≤32)=false:=by simp;omega
       obtain rfl:i=33:=by omega
       obtain⟨lo,lc,rfl,-⟩:=HT.out.row.form
       have hd:=dec_big HU.out (by omega)
       have HD:=hid hd
       clear hd hnx
       go_wp2_with (at_builtin;refine stopAt ?_;intro q hq)
       refine(rderr_any wr g rv b at_ 0 HT.out.rd).mono ?_
       rintro e w3 ⟨rfl,rfl⟩
       go_wp2_with (at_builtin;refine stopAt ?_;intro q hq)
       refine(rderr_any w3 g rv b at_ 0 HT.out.rd).mono ?_
       rintro e w4 ⟨rfl,rfl⟩
       obtain⟨d,hd⟩:∃ d,d=b.length - at_:=⟨_,rfl⟩
       have hcall:=rdleft_any w4 g rv b at_ HT.out.rd HT.out.pos hbl
       rw[← hd] at hcall
       have t4:(((33:Nat):Int) != (m:Int))=true:=by simp;omega
       go_wp2_with (at_builtin;refine stopAt ?_;intro q hq)
       refine hcall.mono ?_
       rintro e w5 ⟨rfl,hk5⟩
       have HK5:=hid (HT.out.keep.next hk5 (fun _ _ x=>x) (fun _ _ x=>x))
       clear hcall hk5 hd
       by_cases hdz:d=0
       ·subst hdz
        go_wp2_with (at_builtin;refine stopAt ?_;intro q hq)
        go_ret2
        refine⟨HK5.out,?_⟩
        rw[HD.out]
        rfl
       ·have t5:decide ((0:Int)<(d:Int))=true:=by simp;omega
        go_wp2_with (at_builtin;refine stopAt ?_;intro q hq)
        go_ret2
        refine⟨HK5.out,?_⟩
        rw[HD.out]
        rfl
     ·obtain rfl:i=m:=by omega
      have t1:decide ((i:Int)<(i:Int))=false:=by simp
      obtain⟨lo,lc,rfl,-⟩:=HT.out.row.form
      have hd:=dec_some HU.out (show chsAt b i t0=some (acc,at_) by rw[hnx 0 rfl];simp[chsAt]) HT.out.len
      have hri:=fun wx (hk:Keep (fun _=>False) wr wx)=>right_any wx lo i lc acc (Chs.of_row (by rw[HT.out.len];exact HT.out.row.keep hk (fun _ _ x=>x)) HT.out.ok) HT.out.len.symm
      have HD:=hid hd
      have HRI:=hid hri
      clear hd hnx hri
      go_wp2_with (at_builtin;refine stopAt ?_;intro q hq)
      refine(rderr_any wr g rv b at_ 0 HT.out.rd).mono ?_
      rintro e w3 ⟨rfl,rfl⟩
      obtain⟨d,hd⟩:∃ d,d=b.length - at_:=⟨_,rfl⟩
      have hcall:=rdleft_any w3 g rv b at_ HT.out.rd HT.out.pos hbl
      rw[← hd] at hcall
      go_wp2_with (at_builtin;refine stopAt ?_;intro q hq)
      refine hcall.mono ?_
      rintro e w5 ⟨rfl,hk5⟩
      have HK5:=hid (And.intro hk5 (And.intro (HT.out.keep.next hk5 (fun _ _ x=>x) (fun _ _ x=>x)) hd))
      clear hcall hk5 hd
      by_cases hdz:d=0
      ·subst hdz
       have t4:=wu64 i (by omega)
       go_wp2_with (at_builtin;refine stopAt ?_;intro q hq)
       refine(HRI.out w5 HK5.out.1).mono ?_
       rintro e w6 ⟨rfl,hk6⟩
       have HK6:=hid (And.intro hk6 (HK5.out.2.1.next hk6 (fun _ _ x=>x) (fun _ _ x=>x)))
       clear hk6
       cases hr:right acc with
       | false=>
         have HRR:=hid hr
         clear hr
         simp only[Bool.false_eq_true,if_false]
         go_wp2_with (at_builtin;refine stopAt ?_;intro q hq)
         go_ret2
         refine⟨HK6.out.2,?_⟩
         rw[HD.out,if_neg (by rw[HRR.out];simp)]
         rfl
       | true=>
         have HRR:=hid hr
         clear hr
         simp only[if_true]
         by_cases hlong:1024<n
         ·have t6:decide ((1024:Int)<(n:Int))=true:=by simp;omega
          go_wp2_with (at_builtin;refine stopAt ?_;intro q hq)
          go_ret2
          refine⟨HK6.out.2,?_⟩
          rw[HD.out,if_neg (by have:=H.out.2;omega)]
          rfl
         ·have t6:decide ((1024:Int)<(n:Int))=false:=by simp;omega
          go_wp2_with (at_builtin;refine stopAt ?_;intro q hq)
          go_ret2
          refine⟨HK6.out.2,?_⟩
          rw[HD.out,if_pos ⟨by have:=HK5.out.2.2;have:=HT.out.pos;omega,HRR.out,by have:=H.out.2;omega⟩]
          exact⟨_,rfl,by rw[HT.out.len];exact(HT.out.row.keep HK5.out.1 (fun _ _ x=>x)).keep HK6.out.1 (fun _ _ x=>x),HT.out.own⟩
      ·have t5:decide ((0:Int)<(d:Int))=true:=by simp;omega
       go_wp2_with (at_builtin;refine stopAt ?_;intro q hq)
       go_ret2
       refine⟨HK5.out.2.1,?_⟩
       rw[HD.out,if_neg (by have:=HK5.out.2.2;omega)]
       rfl
    ·have te:((err:Int) != 0)=true:=by simp;omega
     have te2:((err:Int) == 0)=false:=by simp;omega
     have hd:=dec_none HU.out hnone
     have HD:=hid hd
     clear hd hnone
     by_cases hin:i<m
     ·have t1:decide ((i:Int)<(m:Int))=true:=by simp;omega
      go_wp2_with (at_builtin;refine stopAt ?_;intro q hq)
      refine(rderr_any wr g rv b at_ err HT.out.rd).mono ?_
      rintro e w3 ⟨rfl,rfl⟩
      go_wp2_with (at_builtin;refine stopAt ?_;intro q hq)
      refine(rderr_any w3 g rv b at_ err HT.out.rd).mono ?_
      rintro e w4 ⟨rfl,rfl⟩
      go_wp2_with (at_builtin;refine stopAt ?_;intro q hq)
      go_ret2
      refine⟨HT.out.keep,?_⟩
      rw[HD.out]
      rfl
     ·have t1:decide ((i:Int)<(m:Int))=false:=by simp;omega
      go_wp2_with (at_builtin;refine stopAt ?_;intro q hq)
      refine(rderr_any wr g rv b at_ err HT.out.rd).mono ?_
      rintro e w4 ⟨rfl,rfl⟩
      go_wp2_with (at_builtin;refine stopAt ?_;intro q hq)
      go_ret2
      refine⟨HT.out.keep,?_⟩
      rw[HD.out]
      rfl
end Go.Proofs.Ytkjofdocgaiedaa
namespace Go.Proofs.Ytkjofdocgaiedaa
open Go.RowKit
open MI SO BM
theorem Cells.pre {w w':World} {ao:Option Addr} {n size:Nat} {xs:List Value} (h:Cells w ao n size xs) (hp:Pre w w'):Cells w' ao n size xs:=
 ⟨h.1,fun h0=>by
  obtain⟨ad,e,hc⟩:=h.2 h0
  refine⟨ad,e,fun j u hu=>?_⟩
  have h1:=hc j u hu
  rw[World.cell?_of_block (hp.2 _ (World.block_lt_of_cell? w _ h1))]
  exact h1⟩
structure RDecRel (w:World) (b:List UInt8) (n t0 i:Nat) (acc:List Ch) (at_:Nat) (lv:Value) (wr:World):Prop where
 keep:Keep (fun _=>False) w wr
 row:Row wr 55 3 lv i (chsV acc)
 own:∀ k,lv.ownBlock=some k→w.heap.size≤k
 len:acc.length=i
 ok:∀ c ∈ acc,ChOk c
 pos:at_≤b.length
 is:∀ k,i+k=n→chsAt b n t0=(chsAt b k at_).map fun p=>(acc ++ p.1,p.2)
theorem RDecRel.next {w:World} {b:List UInt8} {n t0 i:Nat} {acc:List Ch} {a:Nat} {lv:Value} {wr:World} (h:RDecRel w b n t0 i acc a lv wr) {w9 w10:World} {c:Ch} {a':Nat} {lv':Value}
  (hkw:Keep (fun _=>False) w w9) (hk:Keep (fun k=>lv.ownBlock=some k) w9 w10) (hr:Row w10 55 3 lv' (i+1) (chsV acc ++ chV c))
  (ho:∀ k,lv'.ownBlock=some k→w.heap.size≤k) (hc:ChOk c) (hp:a'≤b.length) (his:∀ k,i+1+k=n→chsAt b n t0=(chsAt b k a').map fun p=>(acc ++ [c] ++ p.1,p.2)):RDecRel w b n t0 (i+1) (acc ++ [c]) a' lv' w10 where
 keep:=hkw.next hk (fun _ _ x=>x) (fun j hj x=>by have:=h.own j x;omega)
 row:=by rw[chsV_append,chsV_one];exact hr
 own:=ho
 len:=by simp[h.len]
 ok:=fun c' hc'=>by
  rcases List.mem_append.1 hc' with h1 | h1
  ·exact h.ok c' h1
  ·simp at h1;rw[h1];exact hc
 pos:=hp
 is:=his
end Go.Proofs.Ytkjofdocgaiedaa
namespace Go.Proofs.Ytkjofdocgaiedaa
open Go.RowKit
open Go.Maps
open MI SO BM
def MI.mapC (m:List (Str×Str)) (c:Ch):List (Str×Str):=if c.gone then AL.del m c.key else AL.put m c.key c.value
def MI.mapL (m:List (Str×Str)) (l:List Ch):List (Str×Str):=l.foldl mapC m
def MI.layL (ps:List (Str×Str)) (l:List Ch):List (Str×Str):=l.foldl lay1 ps
theorem MI.mapC_get {m ps:List (Str×Str)} (hs:Sorted ps) (h:∀ x,AL.get m x=AL.get ps x) (c:Ch) (x:Str):AL.get (mapC m c) x=AL.get (lay1 ps c) x:=by
 have:=mapI_get hs h ⟨0,false,c⟩ x
 simpa [mapI,layI,mapC] using this
theorem MI.mapL_get:∀ (l:List Ch) {m ps:List (Str×Str)},Sorted ps→(∀ x,AL.get m x=AL.get ps x)→∀ x,AL.get (mapL m l) x=AL.get (layL ps l) x
 | [],_,_,_,h,x=>h x
 | c :: l,_,_,hs,h,x=>mapL_get l (lay1_sorted hs c) (mapC_get hs h c) x
theorem MI.mapC_len {m:List (Str×Str)} (h:AL.Ok m) (c:Ch):(mapC m c).length≤m.length+1:=by
 have h1:=AL.del_length h c.key
 unfold mapC
 split
 ·omega
 ·unfold AL.put;rw[List.length_append];simp;omega
def stoCells (wp:Value) (mb:Nat) (dead:Bool):Array Value:=#[wp,.map (some mb),.bool dead]
structure LayRel (w:World) (mb:Nat) (m:List (Str×Str)) (m0 i:Nat) (wr:World):Prop where
 keep:Keep (fun k=>k=mb) w wr
 map:PairsAt wr mb m
 len:m.length≤m0+i
set_option maxRecDepth 20000 in
set_option maxHeartbeats 1000000 in
theorem slay_any (w:World) (b mb:Nat) (wp:Value) (dead:Bool) (m:List (Str×Str)) (ao:Option Addr) (n c:Nat) (l:List Ch) (hh:w.heap[b]?=some (.cells (stoCells wp mb dead) 85 (0,0))) (hp:PairsAt w mb m) (hbm:b≠mb) (h:Chs w (.slice ao n c) l) (hn:n=l.length)
  (ham:0<n→∀ x,ao=some x→x.block≠mb) (hml:m.length+n≤1000000) :
  Calls Try.prog 35 #[.pointer (some ⟨b,0,none⟩),.slice ao n c] w fun e w'=>e = .returned (.tuple #[])∧PairsAt w' mb (mapL m l)∧Keep (fun k=>k=mb) w w':=by
 have HS:=hid (And.intro h hn)
 have H0:=hid (And.intro hh (And.intro hp (And.intro hbm ham)))
 clear h hn hh hp hbm ham
 go_enter Try.func35,Try.ntmps35
 go_wp2_with (at_builtin;refine stopAt ?_;intro q hq)
 go_loopw [8] (fun iv wr=>∃ i:Nat,i≤n∧iv = .int .i64 i∧Hid (LayRel w mb (mapL m (l.take i)) m.length i wr)) (fun iv _=>n - (intOf iv).toNat)
 case atStart=>exact⟨0,Nat.zero_le _,rfl,hid ⟨Keep.refl _ _,H0.out.2.1,by simp[mapL]⟩⟩
 case round=>
  obtain⟨i,hi,rfl,HT⟩:=hrel
  by_cases hin:i<n
  ·have h4:(i:Int)<n:=by omega
   have hil:i<l.length:=by rw[← HS.out.2];exact hin
   have hsu:mapL m (l.take (i+1))=mapC (mapL m (l.take i)) l[i]:=by
    unfold mapL
    rw[List.take_add_one,List.getElem?_eq_getElem hil,Option.toList_some,List.foldl_append]
    rfl
   obtain⟨ad,rfl,a0,a1,a2,hok⟩:∃ ad,ao=some ad∧wr.cell? (ad.add (i * 3))=some (.string (str l[i].key))∧wr.cell? ⟨(ad.add (i * 3)).block,(ad.add (i * 3)).off+1,none⟩=some (.string (str l[i].value))∧wr.cell? ⟨(ad.add (i * 3)).block,(ad.add (i * 3)).off+2,none⟩=some (.bool l[i].gone)∧ChOk l[i]:=by
    obtain⟨ad,e,a0,a1,a2,hok⟩:=HS.out.1.get (Keep.refl _ w) i hil
    have hb:(ad.add (i * 3)).block=ad.block:=by unfold Addr.add;split <;> rfl
    have hne:¬ (ad.add (i * 3)).block=mb:=by rw[hb];exact H0.out.2.2.2 (by omega) ad e
    have hcc:∀ a u,a.block=(ad.add (i * 3)).block→w.cell? a=some u→wr.cell? a=some u:=fun a u ha hu=>by
     rw[World.cell?_of_block (HT.out.keep.block _ (World.block_lt_of_cell? w _ hu) (by rw[ha];exact hne))]
     exact hu
    exact⟨ad,e,hcc _ _ rfl a0,hcc _ _ rfl a1,hcc _ _ rfl a2,hok⟩
   obtain⟨q,hq⟩:∃ q,q=l[i]:=⟨_,rfl⟩
   rw[← hq] at a0 a1 a2 hok hsu
   clear hq
   obtain⟨m1,hm1⟩:∃ m1,m1=mapL m (l.take i):=⟨_,rfl⟩
   rw[← hm1] at hsu HT
   have HX:=hid hsu
   clear hsu hm1
   obtain⟨key,value,gone⟩:=q
   simp only at a0 a1 a2
   go_upto_region 3 with fail
   have hn6:=heap_alloc_new wr (.cells #[.string (str key),.string (str value),.bool gone] 55)
   have hk6:Keep (fun _=>False) wr (wr.alloc (.cells #[.string (str key),.string (str value),.bool gone] 55)):=(Keep.refl _ _).alloc _
   obtain⟨gb,hgb⟩:∃ gb,gb=wr.heap.size:=⟨_,rfl⟩
   obtain⟨w6,hw6⟩:∃ w6,w6=wr.alloc (.cells #[.string (str key),.string (str value),.bool gone] 55):=⟨_,rfl⟩
   rw[← hw6] at hn6 hk6 ⊢
   rw[← hgb] at hn6 ⊢
   clear hw6 hgb a0 a1 a2
   obtain⟨j0,j1,j2,jf,jb⟩:=cells3i hn6
   have hh6:=hk6.get (HT.out.keep.get H0.out.1 H0.out.2.2.1) id
   obtain⟨i0,i1,i2,if0,ib0⟩:=cells3i hh6
   have hp6:PairsAt w6 mb m1:=MapAt.keep HT.out.map hk6 id
   have hkey:=hok.1
   have H6:=hid (And.intro hk6 (And.intro hp6 hkey))
   clear hn6 hk6 hh6 hp6 hok
   cases gone with
   | true=>
     obtain⟨w7,hrun7,hp7,hk7⟩:=MapAt.drop (MapAt.keep H6.out.2.1 ((Keep.refl (fun _=>False) w6).drew) id) key_str (t:=83) Try.underlying83 key hkey 0
     have hk7:Keep (fun i=>i=mb) w6 w7:=((Keep.refl _ w6).drew).next hk7 (fun _ _ x=>x) (fun _ _ x=>x)
     have H7:=hid (And.intro hp7 hk7)
     clear hp7 hk7
     go_wp2_with (at_builtin;refine stopAt ?_;intro q hq)
     refine wp_region_canon [] (by kernel_rfl) (by kernel_rfl) ?_
     repeat (first | (apply wpC_pure (by rfl);(intro K w';go_simp;exact id)) | (apply wpC_load (by rfl);(intro K;go_simp;exact id)))
     (refine wpC_act (by rfl) (by rfl) (fun K hK=>?_);go_simp;refine hK _ _ ?_;clear hK K)
     refine wpC_nil ?_
     clear hrun7
     go_wp2_with (at_builtin;refine stopAt ?_;intro q hq)
     go_roundw
     case rel=>exact⟨i+1,by omega,by go_num,by
      rw[HX.out]
      exact hid ⟨(HT.out.keep.next H6.out.1 (fun _ _ x=>x) (fun _ _ x=>x.elim)).next H7.out.2 (fun _ _ x=>x) (fun _ _ x=>x),H7.out.1,by have:=mapC_len HT.out.map.1 ⟨key,value,true⟩;have:=HT.out.len;omega⟩⟩
     case measure=>simp[intOf];omega
   | false=>
     have hml2:m1.length<maxLen:=by have:=HT.out.len;unfold maxLen;omega
     obtain⟨w7,hrun7,hp7,hk7⟩:=MapAt.store (MapAt.keep H6.out.2.1 ((Keep.refl (fun _=>False) w6).drew) id) key_str (t:=83) Try.underlying83 hml2 key hkey value
     have hk7:Keep (fun i=>i=mb) w6 w7:=((Keep.refl _ w6).drew).next hk7 (fun _ _ x=>x) (fun _ _ x=>x)
     have H7:=hid (And.intro hp7 hk7)
     simp only[textV] at hrun7
     clear hp7 hk7
     go_wp2_with (at_builtin;refine stopAt ?_;intro q hq)
     refine wp_region_canon [] (by kernel_rfl) (by kernel_rfl) ?_
     repeat (first | (apply wpC_pure (by rfl);(intro K w';go_simp;exact id)) | (apply wpC_load (by rfl);(intro K;go_simp;exact id)))
     (refine wpC_act (by rfl) (by rfl) (fun K hK=>?_);go_simp;refine hK _ _ ?_;clear hK K)
     refine wpC_nil ?_
     clear hrun7
     go_wp2_with (at_builtin;refine stopAt ?_;intro q hq)
     go_roundw
     case rel=>exact⟨i+1,by omega,by go_num,by
      rw[HX.out]
      exact hid ⟨(HT.out.keep.next H6.out.1 (fun _ _ x=>x) (fun _ _ x=>x.elim)).next H7.out.2 (fun _ _ x=>x) (fun _ _ x=>x),H7.out.1,by have:=mapC_len HT.out.map.1 ⟨key,value,false⟩;have:=HT.out.len;omega⟩⟩
     case measure=>simp[intOf];omega
  ·have h4:decide ((i:Int)<n)=false:=by simp;omega
   obtain rfl:i=n:=by omega
   go_wp2_with (at_builtin;refine stopAt ?_;intro q hq)
   go_end0
   have:=HT.out.map
   rw[show l.take i=l by rw[HS.out.2];exact List.take_length] at this
   exact⟨rfl,this,HT.out.keep⟩
end Go.Proofs.Ytkjofdocgaiedaa
namespace Go.Proofs.Ytkjofdocgaiedaa
open Go.RowKit
open MI SO BM
def prV (p:Str×Str):List Value:=[.string (str p.1),.string (str p.2)]
def prsV (l:List (Str×Str)):List Value:=l.flatMap prV
def prZero:Value:=.agg #[.string { data:=#[] },.string { data:=#[] }]
theorem Sorted_ok {ps:List (Str×Str)} (h:Sorted ps):AL.Ok ps:=by
 unfold Sorted at h
 unfold AL.Ok
 exact h.imp fun {a b} hab e=>by
  rw[e] at hab
  exact str_irrefl _ hab
theorem MI.lay1_len (ps:List (Str×Str)) (c:Ch):(lay1 ps c).length≤ps.length+1:=by
 induction ps with
 | nil=>unfold lay1;split <;> simp
 | cons p ps ih=>
   unfold lay1
   split
   ·simp;omega
   ·rw[List.length_append]
    have e1:(if c.gone then [] else [(c.key,c.value)]).length≤1:=by split <;> simp
    have e2:(if p.1=c.key then ps else p :: ps).length≤ps.length+1:=by split <;> simp
    simp only[List.length_cons]
    omega
end Go.Proofs.Ytkjofdocgaiedaa
namespace Go.Proofs.Ytkjofdocgaiedaa.SO
open Go.Proofs.Ytkjofdocgaiedaa MI BM DM WM
structure St where
 g:Lg
 ps:List (Str×Str)
 dead:Bool
def cpL (ps:List (Str×Str)):List (List UInt8):=ps.map fun p=>enc [⟨p.1,p.2,false⟩]
def cpS (D:Dk) (S:St):Int×Dk×St:=
 if S.dead then (6,D,S) else ((WM.reset D S.g (cpL S.ps)).1,(WM.reset D S.g (cpL S.ps)).2.1,⟨(WM.reset D S.g (cpL S.ps)).2.2,S.ps,decide ((WM.reset D S.g (cpL S.ps)).1=6)⟩)
def apS (D:Dk) (S:St) (b:List UInt8):Int×Dk×St:=
 ((WM.append D S.g b).1,(WM.append D S.g b).2.1,⟨(WM.append D S.g b).2.2,S.ps,decide ((WM.append D S.g b).1=6)⟩)
def intoS (D:Dk) (S:St) (b:List UInt8):Int×Dk×St:=
 if (apS D S b).1=5 then
  if (cpS (apS D S b).2.1 (apS D S b).2.2).1=0 then apS (cpS (apS D S b).2.1 (apS D S b).2.2).2.1 (cpS (apS D S b).2.1 (apS D S b).2.2).2.2 b
  else cpS (apS D S b).2.1 (apS D S b).2.2
 else apS D S b
def laidS (r:Int×Dk×St) (l:List Ch):Int×Dk×St:=(r.1,r.2.1,if r.1=0 then { r.2.2 with ps:=layL r.2.2.ps l } else r.2.2)
def doS (D:Dk) (S:St) (l:List Ch):Int×Dk×St:=
 if S.dead then (6,D,S) else if encE l≠0 then ((encE l:Int),D,S) else laidS (intoS D S (enc l)) l
def syS (D:Dk) (S:St):Int×Dk×St:=
 if S.dead then (6,D,S) else ((WM.syncW D S.g).1,(WM.syncW D S.g).2.1,⟨(WM.syncW D S.g).2.2,S.ps,decide ((WM.syncW D S.g).1=6)⟩)
def decL:List (List UInt8)→List (Str×Str)→Option (List (Str×Str))
 | [],ps=>some ps
 | b :: L,ps=>match dec b with
   | none=>none
   | some l=>decL L (layL ps l)
def opS (D:Dk):Int×Option St×Dk:=
 match (openW D).2.1 with
 | none=>((openW D).1,none,(openW D).2.2)
 | some g=>match decL g.l [] with
   | none=>(50,none,(openW D).2.2)
   | some ps=>(0,some ⟨g,ps,false⟩,(openW D).2.2)
def OkP (p:Str×Str):Prop:=1≤p.1.length∧p.1.length≤16∧p.2.length≤128
structure PsOk (ps:List (Str×Str)):Prop where
 sorted:Sorted ps
 each:∀ p ∈ ps,OkP p
theorem PsOk.nil:PsOk []:=⟨List.Pairwise.nil,fun _ h=>by cases h⟩
theorem lay1_mem2 {ps:List (Str×Str)} (hs:Sorted ps) {c:Ch} {q:Str×Str} (h:q ∈ lay1 ps c):q ∈ ps∨(c.gone=false∧q=(c.key,c.value)):=by
 have h1:=get_of_mem (Sorted_ok (lay1_sorted hs c)) h
 rw[lay1_get hs] at h1
 split at h1
 ·split at h1
  ·cases h1
  ·rename_i hk hg
   have h2:=Option.some.inj h1
   refine .inr ⟨by simpa using hg,?_⟩
   rw[h2,← hk]
 ·exact .inl (mem_of_get h1)
theorem PsOk.lay1 {ps:List (Str×Str)} (h:PsOk ps) {c:Ch} (hc:rightC c=true):PsOk (MI.lay1 ps c):=by
 refine⟨lay1_sorted h.sorted c,fun p hp=>?_⟩
 rcases lay1_mem2 h.sorted hp with h1 | ⟨-,rfl⟩
 ·exact h.each p h1
 ·unfold rightC at hc
  have:=of_decide_eq_true hc
  exact⟨this.1,this.2.1,this.2.2.1⟩
theorem PsOk.layL:∀ {l:List Ch} {ps:List (Str×Str)},PsOk ps→(∀ c ∈ l,rightC c=true)→PsOk (MI.layL ps l)
 | [],_,h,_=>h
 | c :: l,_,h,hc=>PsOk.layL (l:=l) (h.lay1 (hc c (by simp))) fun c' h'=>hc c' (by simp[h'])
theorem layL_len:∀ (l:List Ch) (ps:List (Str×Str)),(MI.layL ps l).length≤ps.length+l.length
 | [],_=>Nat.le_refl _
 | c :: l,ps=>by
   have h1:=layL_len l (MI.lay1 ps c)
   have h2:=lay1_len ps c
   show (MI.layL (MI.lay1 ps c) l).length≤_
   rw[List.length_cons]
   omega
theorem right_one {p:Str×Str} (h:OkP p):right [⟨p.1,p.2,false⟩]=true:=by
 obtain⟨h1,h2,h3⟩:=h
 unfold right
 simp[rightC]
 omega
theorem len_eq {m ps:List (Str×Str)} (hm:AL.Ok m) (hp:Sorted ps) (h:∀ x,AL.get m x=AL.get ps x):m.length=ps.length:=by
 have hp':AL.Ok ps:=Sorted_ok hp
 have hn:∀ {q:List (Str×Str)},AL.Ok q→(q.map (·.1)).Nodup:=fun {q} hq=>by unfold List.Nodup;rw[List.pairwise_map];exact hq
 have hmem:∀ {q:List (Str×Str)},AL.Ok q→∀ x,x ∈ q.map (·.1)↔(AL.get q x).isSome=true:=fun {q} hq x=>by
  rw[List.mem_map]
  constructor
  ·rintro⟨p,hp,rfl⟩
   rw[get_of_mem hq hp]
   rfl
  ·intro h
   cases hg:AL.get q x with
   | none=>rw[hg] at h;cases h
   | some y=>exact⟨(x,y),mem_of_get hg,rfl⟩
 have:=(List.perm_ext_iff_of_nodup (hn hm) (hn hp')).2 fun x=>by rw[hmem hm,hmem hp',h]
 have:=this.length_eq
 simpa using this
end Go.Proofs.Ytkjofdocgaiedaa.SO
namespace Go.Proofs.Ytkjofdocgaiedaa.AC
open Go.Proofs.Ytkjofdocgaiedaa MI SO BM
structure Bal where
 n:Nat
 node:Int
deriving DecidableEq,Inhabited
def Bal.zero:Bal:=⟨0,0⟩
def less (a b:Bal):Bool:=decide (a.n<b.n) || (decide (a.n=b.n) && decide (a.node<b.node))
def rightB (b:Bal):Bool:=decide (0<b.n) && (decide (0≤b.node) && decide (b.node<12))
def putB (b:Bal):Str:=putUint b.n ++ putUint b.node.toNat
def beN:Nat→Nat→Str
 | 0,_=>[]
 | k+1,s=>UInt8.ofNat (s / 256 ^ k % 256) :: beN k s
def keyS (s:Nat):Str:=118 :: beN 8 s
def valN:Str→Nat
 | []=>0
 | x :: l=>x.toNat * 256 ^ l.length+valN l
def slotK (k:Str):Nat:=match k with
 | []=>0
 | c :: r=>if c=118∧r.length=8 then valN r else 0
def pK:Str:=[112]
structure Vt where
 slot:Nat
 bal:Bal
 val:Str
deriving DecidableEq,Inhabited
def getB (s:Str):Option (Bal×Str):=match uint s 0 with
 | .no _=>none
 | .yes n a=>match uint s a with
   | .no _=>none
   | .yes k b=>if k<12∧0<n then some (⟨n,(k:Int)⟩,s.drop b) else none
theorem less_irrefl (a:Bal):less a a=false:=by simp[less]
theorem less_trans {a b c:Bal} (h:less a b=true) (k:less b c=true):less a c=true:=by
 simp only[less,Bool.or_eq_true,Bool.and_eq_true,decide_eq_true_eq] at *
 omega
theorem less_total {a b:Bal} (h:less a b=false) (k:less b a=false):a=b:=by
 obtain⟨an,ad⟩:=a
 obtain⟨bn,bd⟩:=b
 simp only[less,Bool.or_eq_false_iff,Bool.and_eq_false_iff,decide_eq_false_iff_not] at *
 congr 1 <;> omega
theorem rightB_iff {b:Bal}:rightB b=true↔0<b.n∧0≤b.node∧b.node<12:=by
 simp[rightB]
theorem beN_length:∀ k s,(beN k s).length=k
 | 0,_=>rfl
 | k+1,s=>by simp[beN,beN_length k]
theorem keyS_length (s:Nat):(keyS s).length=9:=by simp[keyS,beN_length]
theorem beN_add:∀ k s m,beN k (s+m * 256 ^ k)=beN k s
 | 0,_,_=>rfl
 | k+1,s,m=>by
   have hp:0<256 ^ k:=Nat.pow_pos (by decide)
   have e:s+m * 256 ^ (k+1)=s+(m * 256) * 256 ^ k:=by rw[Nat.pow_succ,Nat.mul_assoc,Nat.mul_comm 256 (256 ^ k)]
   unfold beN
   rw[e,beN_add k s (m * 256),Nat.add_mul_div_right _ _ hp,Nat.add_mul_mod_self_right]
theorem beN_mod (k s:Nat):beN k (s % 256 ^ k)=beN k s:=by
 have:=beN_add k (s % 256 ^ k) (s / 256 ^ k)
 rw[Nat.mul_comm,Nat.mod_add_div] at this
 exact this.symm
theorem valN_lt:∀ l:Str,valN l<256 ^ l.length
 | []=>by simp[valN]
 | x :: l=>by
   have h1:=valN_lt l
   have h2:x.toNat<256:=x.toNat_lt
   have h3:x.toNat * 256 ^ l.length≤255 * 256 ^ l.length:=Nat.mul_le_mul_right _ (by omega)
   simp only[valN,List.length_cons,Nat.pow_succ]
   omega
theorem beN_valN:∀ l:Str,beN l.length (valN l)=l
 | []=>rfl
 | x :: l=>by
   have h1:=valN_lt l
   have hp:0<256 ^ l.length:=Nat.pow_pos (by decide)
   have e:valN (x :: l)=valN l+x.toNat * 256 ^ l.length:=by simp only[valN];omega
   simp only[List.length_cons,beN]
   rw[e,beN_add,beN_valN l,Nat.add_mul_div_right _ _ hp,Nat.div_eq_of_lt h1,Nat.zero_add,Nat.mod_eq_of_lt x.toNat_lt]
   simp
theorem valN_beN:∀ k s,s<256 ^ k→valN (beN k s)=s
 | 0,s,h=>by simp[beN,valN] at *;omega
 | k+1,s,h=>by
   have hp:0<256 ^ k:=Nat.pow_pos (by decide)
   have h2:s / 256 ^ k<256:=by rw[Nat.div_lt_iff_lt_mul hp,Nat.mul_comm,← Nat.pow_succ];exact h
   have h3:=valN_beN k (s % 256 ^ k) (Nat.mod_lt _ hp)
   rw[beN_mod] at h3
   simp only[beN,valN,beN_length,h3]
   have:(UInt8.ofNat (s / 256 ^ k % 256)).toNat=s / 256 ^ k:=by simp[Nat.mod_eq_of_lt h2]
   rw[this,Nat.mul_comm]
   exact Nat.div_add_mod _ _
theorem beN_lt:∀ k s t,s<t→t<256 ^ k→beN k s<beN k t
 | 0,s,t,h,h2=>by simp at h2;omega
 | k+1,s,t,h,h2=>by
   have hp:0<256 ^ k:=Nat.pow_pos (by decide)
   have hdiv:∀ x,x<256 ^ (k+1)→x / 256 ^ k<256:=fun x hx=>by rw[Nat.div_lt_iff_lt_mul hp,Nat.mul_comm,← Nat.pow_succ];exact hx
   have hs:=hdiv s (by omega)
   have ht:=hdiv t h2
   have hle:s / 256 ^ k≤t / 256 ^ k:=Nat.div_le_div_right (by omega)
   unfold beN
   rw[List.cons_lt_cons_iff]
   rcases Nat.lt_or_eq_of_le hle with x | x
   ·left
    rw[UInt8.lt_iff_toNat_lt]
    simp[Nat.mod_eq_of_lt hs,Nat.mod_eq_of_lt ht]
    exact x
   ·right
    refine⟨by rw[x],?_⟩
    rw[← beN_mod k s,← beN_mod k t]
    refine beN_lt k _ _ ?_ (Nat.mod_lt _ hp)
    have h3:=Nat.div_add_mod s (256 ^ k)
    have h4:=Nat.div_add_mod t (256 ^ k)
    rw[x] at h3
    omega
theorem keyS_lt {s t:Nat} (h:s<t) (h2:t<18446744073709551616):keyS s<keyS t:=by
 unfold keyS
 rw[List.cons_lt_cons_iff]
 exact .inr ⟨rfl,beN_lt 8 s t h h2⟩
theorem pK_lt (s:Nat):pK<keyS s:=by
 unfold pK keyS
 rw[List.cons_lt_cons_iff]
 exact .inl (by decide)
theorem slotK_keyS {s:Nat} (h:s<18446744073709551616):slotK (keyS s)=s:=by
 unfold slotK keyS
 simp only[beN_length,and_self,if_true]
 exact valN_beN 8 s h
theorem keyS_slotK {k:Str} (h:slotK k≠0):k=keyS (slotK k)∧slotK k<18446744073709551616:=by
 cases k with
 | nil=>simp[slotK] at h
 | cons c r=>
   unfold slotK at *
   simp only at *
   by_cases hc:c=118∧r.length=8
   ·rw[if_pos hc] at *
    have h1:=beN_valN r
    have h2:=valN_lt r
    rw[hc.2] at h1 h2
    exact⟨by unfold keyS;rw[h1,hc.1],h2⟩
   ·rw[if_neg hc] at h
    exact absurd rfl h
theorem putUint_le' (n:Nat):(putUint n).length≤10:=putU_le 10 n
theorem getB_put {b:Bal} (hb:rightB b=true) (hn:b.n<18446744073709551616) (v:Str):getB (putB b ++ v)=some (b,v):=by
 obtain⟨h0,h1,h2⟩:=rightB_iff.1 hb
 obtain⟨n,node⟩:=b
 simp only at *
 obtain⟨m,rfl⟩:∃ m:Nat,(m:Int)=node:=⟨node.toNat,by omega⟩
 have e1:uint (putB ⟨n,m⟩ ++ v) 0 = .yes n (0+(putUint n).length):=put_uint (rest:=putUint m ++ v) hn (by simp[putB]) (Nat.zero_le _)
 rw[Nat.zero_add] at e1
 have e2:uint (putB ⟨n,m⟩ ++ v) (putUint n).length = .yes m ((putUint n).length+(putUint m).length):=put_uint (rest:=v) (by omega) (by simp[putB]) (by simp[putB])
 unfold getB
 rw[e1]
 simp only
 rw[e2]
 simp only
 rw[if_pos ⟨by omega,h0⟩]
 simp only[Option.some.injEq,Prod.mk.injEq,true_and]
 simp[putB]
theorem put_getB {s v:Str} {b:Bal} (h:getB s=some (b,v)):rightB b=true∧b.n<18446744073709551616∧s=putB b ++ v:=by
 unfold getB at h
 cases h1:uint s 0 with
 | no _=>rw[h1] at h;cases h
 | yes n a=>
   rw[h1] at h
   simp only at h
   cases h2:uint s a with
   | no _=>rw[h2] at h;cases h
   | yes k c=>
     rw[h2] at h
     simp only at h
     by_cases hc:k<12∧0<n
     ·rw[if_pos hc] at h
      simp only[Option.some.injEq,Prod.mk.injEq] at h
      obtain⟨rfl,rfl⟩:=h
      obtain⟨p1,p2,p3,p4⟩:=uint_put h1
      obtain⟨q1,q2,q3,q4⟩:=uint_put h2
      refine⟨rightB_iff.2 ⟨hc.2,by simp,by simp;omega⟩,p1,?_⟩
      simp only[putB,Int.toNat_natCast]
      rw[← p4,← q4,List.drop_zero,Nat.sub_zero]
      have e:s.drop a=(s.drop a).take (c - a) ++ (s.drop a).drop (c - a):=(List.take_append_drop _ _).symm
      have e2:(s.drop a).drop (c - a)=s.drop c:=by rw[List.drop_drop];congr 1;omega
      rw[List.append_assoc,← e2,← e,List.take_append_drop]
     ·rw[if_neg hc] at h;cases h
end Go.Proofs.Ytkjofdocgaiedaa.AC
namespace Go.Proofs.Ytkjofdocgaiedaa
open Go.RowKit Go.Maps
open MI SO BM DM WM AC
abbrev balC (b:Bal):Array Value:=#[.int .u64 (b.n:Int),.int .i64 b.node]
abbrev balV (b:Bal):Value:=.agg (balC b)
def BalR (b:Bal):Prop:=b.n<18446744073709551616∧-9223372036854775808≤b.node∧b.node≤9223372036854775807
theorem box_bal (w:World) (b:Bal):(w.alloc (.cells (balC b) 24)).cell? ⟨w.heap.size,0,none⟩=some (.int .u64 (b.n:Int))∧(w.alloc (.cells (balC b) 24)).cell? ⟨w.heap.size,1,none⟩=some (.int .i64 b.node)∧
  (∀ o,(w.alloc (.cells (balC b) 24)).frozen? ⟨w.heap.size,o,none⟩=false)∧Keep (fun _=>False) w (w.alloc (.cells (balC b) 24)):=by
 have h:=heap_alloc_new w (.cells (balC b) 24)
 have hk:Keep (fun _=>False) w (w.alloc (.cells (balC b) 24)):=(Keep.refl _ _).alloc _
 generalize w.alloc (.cells (balC b) 24)=w1 at *
 refine⟨?_,?_,?_,hk⟩ <;> simp[World.cell?,World.frozen?,h]
theorem box_bal2 (w:World) (a b:Bal):let w2:=(w.alloc (.cells (balC a) 24)).alloc (.cells (balC b) 24)
  w2.cell? ⟨w.heap.size,0,none⟩=some (.int .u64 (a.n:Int))∧w2.cell? ⟨w.heap.size,1,none⟩=some (.int .i64 a.node)∧(∀ o,w2.frozen? ⟨w.heap.size,o,none⟩=false)∧
  w2.cell? ⟨w.heap.size+1,0,none⟩=some (.int .u64 (b.n:Int))∧w2.cell? ⟨w.heap.size+1,1,none⟩=some (.int .i64 b.node)∧(∀ o,w2.frozen? ⟨w.heap.size+1,o,none⟩=false)∧Keep (fun _=>False) w w2:=by
 intro w2
 have h1:=heap_alloc_new w (.cells (balC a) 24)
 have hk1:Keep (fun _=>False) w (w.alloc (.cells (balC a) 24)):=(Keep.refl _ _).alloc _
 have hk2:Keep (fun _=>False) (w.alloc (.cells (balC a) 24)) w2:=(Keep.refl _ _).alloc _
 have h2:=hk2.get h1 id
 have h3:w2.heap[w.heap.size+1]?=some (.cells (balC b) 24 (0,0)):=by
  have:=heap_alloc_new (w.alloc (.cells (balC a) 24)) (.cells (balC b) 24)
  have e:(w.alloc (.cells (balC a) 24)).heap.size=w.heap.size+1:=by simp
  rw[e] at this
  exact this
 have hk:=hk1.next hk2 (H:=fun _=>False) (fun _ _ x=>x) (fun _ _ x=>x)
 clear hk1 hk2 h1
 generalize w2=w3 at *
 refine⟨?_,?_,?_,?_,?_,?_,hk⟩ <;> simp[World.cell?,World.frozen?,h2,h3]
set_option maxRecDepth 20000 in
theorem aright_any (w:World) (b:Bal):Calls Try.prog 7 #[balV b] w fun e w'=>e = .returned (.bool (rightB b))∧Keep (fun _=>False) w w':=by
 obtain⟨c0,c1,cf,hk⟩:=box_bal w b
 have HK:=hid hk
 clear hk
 obtain⟨n,d⟩:=b
 obtain⟨r,hr⟩:∃ r,r=rightB ⟨n,d⟩:=⟨_,rfl⟩
 rw[← hr]
 have HR:=hid hr
 clear hr
 simp only at c0 c1
 by_cases h0:0<n
 ·have q0:(0:Int)<(n:Int):=by omega
  by_cases h1:0≤d
  ·by_cases h2:d<12
   ·have HE:=hid (show r=true by rw[HR.out];exact rightB_iff.2 ⟨h0,h1,h2⟩)
    go_enter Try.func7,Try.ntmps7
    go_wp2_with (at_builtin;refine stopAt ?_;intro q hq)
    go_ret
    exact⟨by rw[HE.out];first | rfl | (simp;omega),HK.out⟩
   ·have HE:=hid (show r=false by rw[HR.out];cases h:rightB ⟨n,d⟩ with | false=>rfl | true=>exact absurd (rightB_iff.1 h).2.2 h2)
    have q2:decide (d<12)=false:=decide_eq_false h2
    go_enter Try.func7,Try.ntmps7
    go_wp2_with (at_builtin;refine stopAt ?_;intro q hq)
    go_ret
    exact⟨by rw[HE.out];first | rfl | (simp;omega),HK.out⟩
  ·have HE:=hid (show r=false by rw[HR.out];cases h:rightB ⟨n,d⟩ with | false=>rfl | true=>exact absurd (rightB_iff.1 h).2.1 h1)
   have q1:decide (0≤d)=false:=decide_eq_false h1
   go_enter Try.func7,Try.ntmps7
   go_wp2_with (at_builtin;refine stopAt ?_;intro q hq)
   go_ret
   exact⟨by rw[HE.out];first | rfl | (simp;omega),HK.out⟩
 ·have HE:=hid (show r=false by rw[HR.out];cases h:rightB ⟨n,d⟩ with | false=>rfl | true=>exact absurd (rightB_iff.1 h).1 h0)
  have q0:decide ((0:Int)<(n:Int))=false:=by simp;omega
  have q3:decide (0<n)=false:=by simp;omega
  go_enter Try.func7,Try.ntmps7
  go_wp2_with (at_builtin;refine stopAt ?_;intro q hq)
  go_ret
  exact⟨by rw[HE.out];first | rfl | (simp;omega),HK.out⟩
set_option maxRecDepth 20000 in
theorem rright9_any (w:World) (b:Bal):Calls Try.prog 8 #[balV b] w fun e w'=>e = .returned (.bool (rightB b))∧Keep (fun _=>False) w w':=by
 obtain⟨c0,c1,cf,hk⟩:=box_bal w b
 have HK:=hid hk
 clear hk
 obtain⟨n,d⟩:=b
 obtain⟨r,hr⟩:∃ r,r=rightB ⟨n,d⟩:=⟨_,rfl⟩
 rw[← hr]
 have HR:=hid hr
 clear hr
 simp only at c0 c1
 by_cases h0:0<n
 ·have q0:(0:Int)<(n:Int):=by omega
  by_cases h1:0≤d
  ·by_cases h2:d<12
   ·have HE:=hid (show r=true by rw[HR.out];exact rightB_iff.2 ⟨h0,h1,h2⟩)
    go_enter Try.func8,Try.ntmps8
    go_wp2_with (at_builtin;refine stopAt ?_;intro q hq)
    go_ret
    exact⟨by rw[HE.out];first | rfl | (simp;omega),HK.out⟩
   ·have HE:=hid (show r=false by rw[HR.out];cases h:rightB ⟨n,d⟩ with | false=>rfl | true=>exact absurd (rightB_iff.1 h).2.2 h2)
    have q2:decide (d<12)=false:=decide_eq_false h2
    go_enter Try.func8,Try.ntmps8
    go_wp2_with (at_builtin;refine stopAt ?_;intro q hq)
    go_ret
    exact⟨by rw[HE.out];first | rfl | (simp;omega),HK.out⟩
  ·have HE:=hid (show r=false by rw[HR.out];cases h:rightB ⟨n,d⟩ with | false=>rfl | true=>exact absurd (rightB_iff.1 h).2.1 h1)
   have q1:decide (0≤d)=false:=decide_eq_false h1
   go_enter Try.func8,Try.ntmps8
   go_wp2_with (at_builtin;refine stopAt ?_;intro q hq)
   go_ret
   exact⟨by rw[HE.out];first | rfl | (simp;omega),HK.out⟩
 ·have HE:=hid (show r=false by rw[HR.out];cases h:rightB ⟨n,d⟩ with | false=>rfl | true=>exact absurd (rightB_iff.1 h).1 h0)
  have q0:decide ((0:Int)<(n:Int))=false:=by simp;omega
  have q3:decide (0<n)=false:=by simp;omega
  go_enter Try.func8,Try.ntmps8
  go_wp2_with (at_builtin;refine stopAt ?_;intro q hq)
  go_ret
  exact⟨by rw[HE.out];first | rfl | (simp;omega),HK.out⟩
set_option maxRecDepth 20000 in
theorem aless_any (w:World) (a b:Bal):Calls Try.prog 5 #[balV a,balV b] w fun e w'=>e = .returned (.bool (less a b))∧Keep (fun _=>False) w w':=by
 obtain⟨c0,c1,cf,d0,d1,df,hk⟩:=box_bal2 w a b
 have HK:=hid hk
 clear hk
 obtain⟨an,ad⟩:=a
 obtain⟨bn,bd⟩:=b
 obtain⟨r,hr⟩:∃ r,r=less ⟨an,ad⟩ ⟨bn,bd⟩:=⟨_,rfl⟩
 rw[← hr]
 have HR:=hid hr
 clear hr
 simp only at c0 c1 d0 d1
 rcases Nat.lt_trichotomy an bn with h | h | h
 ·have HE:=hid (show r=true by rw[HR.out];simp[less];omega)
  have q0:(an:Int)<(bn:Int):=by omega
  have q1:((an:Int) == (bn:Int))=false:=by simp;omega
  have q2:decide (an=bn)=false:=by simp;omega
  go_enter Try.func5,Try.ntmps5
  go_wp2_with (at_builtin;refine stopAt ?_;intro q hq)
  go_ret
  exact⟨by rw[HE.out];first | rfl | (simp;omega),HK.out⟩
 ·subst h
  have q0:decide ((an:Int)<(an:Int))=false:=by simp
  by_cases hd:ad<bd
  ·have HE:=hid (show r=true by rw[HR.out];simp[less];omega)
   go_enter Try.func5,Try.ntmps5
   go_wp2_with (at_builtin;refine stopAt ?_;intro q hq)
   go_ret
   exact⟨by rw[HE.out];first | rfl | (simp;omega),HK.out⟩
  ·have HE:=hid (show r=false by rw[HR.out];simp[less];omega)
   have q3:decide (ad<bd)=false:=decide_eq_false hd
   go_enter Try.func5,Try.ntmps5
   go_wp2_with (at_builtin;refine stopAt ?_;intro q hq)
   go_ret
   exact⟨by rw[HE.out];first | rfl | (simp;omega),HK.out⟩
 ·have HE:=hid (show r=false by rw[HR.out];simp[less];omega)
  have q0:decide ((an:Int)<(bn:Int))=false:=by simp;omega
  have q1:((an:Int) == (bn:Int))=false:=by simp;omega
  have q2:decide (an=bn)=false:=by simp;omega
  have q4:decide (an<bn)=false:=by simp;omega
  go_enter Try.func5,Try.ntmps5
  go_wp2_with (at_builtin;refine stopAt ?_;intro q hq)
  go_ret
  exact⟨by rw[HE.out];first | rfl | (simp;omega),HK.out⟩
set_option maxRecDepth 20000 in
theorem rless9_any (w:World) (a b:Bal):Calls Try.prog 6 #[balV a,balV b] w fun e w'=>e = .returned (.bool (less a b))∧Keep (fun _=>False) w w':=by
 obtain⟨c0,c1,cf,d0,d1,df,hk⟩:=box_bal2 w a b
 have HK:=hid hk
 clear hk
 obtain⟨an,ad⟩:=a
 obtain⟨bn,bd⟩:=b
 obtain⟨r,hr⟩:∃ r,r=less ⟨an,ad⟩ ⟨bn,bd⟩:=⟨_,rfl⟩
 rw[← hr]
 have HR:=hid hr
 clear hr
 simp only at c0 c1 d0 d1
 rcases Nat.lt_trichotomy an bn with h | h | h
 ·have HE:=hid (show r=true by rw[HR.out];simp[less];omega)
  have q0:(an:Int)<(bn:Int):=by omega
  have q1:((an:Int) == (bn:Int))=false:=by simp;omega
  have q2:decide (an=bn)=false:=by simp;omega
  go_enter Try.func6,Try.ntmps6
  go_wp2_with (at_builtin;refine stopAt ?_;intro q hq)
  go_ret
  exact⟨by rw[HE.out];first | rfl | (simp;omega),HK.out⟩
 ·subst h
  have q0:decide ((an:Int)<(an:Int))=false:=by simp
  by_cases hd:ad<bd
  ·have HE:=hid (show r=true by rw[HR.out];simp[less];omega)
   go_enter Try.func6,Try.ntmps6
   go_wp2_with (at_builtin;refine stopAt ?_;intro q hq)
   go_ret
   exact⟨by rw[HE.out];first | rfl | (simp;omega),HK.out⟩
  ·have HE:=hid (show r=false by rw[HR.out];simp[less];omega)
   have q3:decide (ad<bd)=false:=decide_eq_false hd
   go_enter Try.func6,Try.ntmps6
   go_wp2_with (at_builtin;refine stopAt ?_;intro q hq)
   go_ret
   exact⟨by rw[HE.out];first | rfl | (simp;omega),HK.out⟩
 ·have HE:=hid (show r=false by rw[HR.out];simp[less];omega)
  have q0:decide ((an:Int)<(bn:Int))=false:=by simp;omega
  have q1:((an:Int) == (bn:Int))=false:=by simp;omega
  have q2:decide (an=bn)=false:=by simp;omega
  have q4:decide (an<bn)=false:=by simp;omega
  go_enter Try.func6,Try.ntmps6
  go_wp2_with (at_builtin;refine stopAt ?_;intro q hq)
  go_ret
  exact⟨by rw[HE.out];first | rfl | (simp;omega),HK.out⟩
end Go.Proofs.Ytkjofdocgaiedaa
namespace Go.Proofs.Ytkjofdocgaiedaa
open Go.RowKit Go.Maps
open MI SO BM DM WM AC
theorem ty_votes:SliceTy Try.prog 33 31 (.agg #[.int .u64 0,.int .u64 0,.int .i64 0,.slice none 0 0]) 4 48:=⟨by kernel_rfl,by kernel_rfl,rfl,by decide⟩
def voteV (v:Vt) (u:Value):List Value:=[.int .u64 (v.slot:Int),.int .u64 (v.bal.n:Int),.int .i64 v.bal.node,u]
def votesV (vs:List Vt) (us:List Value):List Value:=(vs.zip us).flatMap fun p=>voteV p.1 p.2
theorem votesV_snoc {vs:List Vt} {us:List Value} (h:us.length=vs.length) (v:Vt) (u:Value):votesV (vs ++ [v]) (us ++ [u])=votesV vs us ++ voteV v u:=by
 unfold votesV
 rw[List.zip_append h.symm]
 simp
theorem votesV_get:∀ {vs:List Vt} {us:List Value},us.length=vs.length→∀ (i:Nat) (hi:i<vs.length) (j:Nat),j<4→(votesV vs us)[i * 4+j]?=(voteV vs[i] (us.getD i undef))[j]?
 | [],_,_,i,hi,_,_=>absurd hi (by simp)
 | v :: vs,[],h,_,_,_,_=>absurd h (by simp)
 | v :: vs,u :: us,h,0,_,j,hj=>by
   have e:votesV (v :: vs) (u :: us)=voteV v u ++ votesV vs us:=rfl
   rw[e,List.getElem?_append_left (by simp[voteV];omega)]
   simp
 | v :: vs,u :: us,h,i+1,hi,j,hj=>by
   have e:votesV (v :: vs) (u :: us)=voteV v u ++ votesV vs us:=rfl
   rw[e,List.getElem?_append_right (by simp[voteV];omega),show (i+1) * 4+j - (voteV v u).length=i * 4+j by simp[voteV];omega]
   rw[votesV_get (by simpa using h) i (by simpa using hi) j hj]
   simp
theorem votesV_length {vs:List Vt} {us:List Value} (h:us.length=vs.length):(votesV vs us).length=vs.length * 4:=by
 induction vs generalizing us with
 | nil=>simp[votesV]
 | cons v vs ih=>
   cases us with
   | nil=>simp at h
   | cons u us=>
     have e:votesV (v :: vs) (u :: us)=voteV v u ++ votesV vs us:=rfl
     rw[e,List.length_append,ih (by simpa using h)]
     simp[voteV]
     omega
structure Votes (w:World) (F:Nat→Prop) (v:Value) (vs:List Vt) (us:List Value):Prop where
 row:Row w 31 4 v vs.length (votesV vs us)
 len:us.length=vs.length
 own:∀ k,v.ownBlock=some k→F k
 each:∀ j (hj:j<vs.length),Row w 5 1 (us.getD j undef) vs[j].val.length (bytesV vs[j].val)∧∀ k,(us.getD j undef).ownBlock=some k→F k∧v.ownBlock≠some k
theorem Votes.keep {w w':World} {F G:Nat→Prop} {v:Value} {vs:List Vt} {us:List Value} (h:Votes w F v vs us) (hk:Keep G w w') (hG:∀ k,F k→¬ G k):Votes w' F v vs us:=
 ⟨h.row.keep hk fun k e=>hG k (h.own k e),h.len,h.own,fun j hj=>let ⟨h2,h3⟩:=h.each j hj;⟨h2.keep hk fun k e=>hG k (h3 k e).1,h3⟩⟩
theorem Votes.mono {w:World} {F F':Nat→Prop} {v:Value} {vs:List Vt} {us:List Value} (h:Votes w F v vs us) (hF:∀ k,F k→F' k):Votes w F' v vs us:=
 ⟨h.row,h.len,fun k e=>hF k (h.own k e),fun j hj=>let ⟨h2,h3⟩:=h.each j hj;⟨h2,fun k e=>⟨hF k (h3 k e).1,(h3 k e).2⟩⟩⟩
theorem Votes.nil (w:World) (F:Nat→Prop):Votes w F (.slice none 0 0) [] []:=
 ⟨Row.nil _ _ _,rfl,fun k e=>by simp[Value.ownBlock] at e,fun j hj=>by simp at hj⟩
theorem Votes.push {wr w':World} {F F':Nat→Prop} {v v' u:Value} {vs:List Vt} {us:List Value} {x:Vt} (h:Votes wr F v vs us)
  (hu:Row wr 5 1 u x.val.length (bytesV x.val)) (hou:∀ k,u.ownBlock=some k→F' k∧v.ownBlock≠some k)
  (hr:Row w' 31 4 v' (vs.length+1) (votesV vs us ++ voteV x u)) (hk:Keep (fun k=>v.ownBlock=some k) wr w') (hF:∀ k,F k→F' k)
  (hv:∀ k,v'.ownBlock=some k→F' k∧(v.ownBlock=some k∨wr.heap.size≤k)):Votes w' F' v' (vs ++ [x]) (us ++ [u]):=by
 have nov:∀ (y:Value) (n:Nat) (xs:List Value),Row wr 5 1 y n xs→∀ k,y.ownBlock=some k→v.ownBlock≠some k→v'.ownBlock≠some k:=by
  intro y n xs hy k e hne e'
  rcases (hv k e').2 with z | z
  ·exact hne z
  ·have:=hy.lt e;omega
 refine⟨by rw[votesV_snoc h.len];simpa using hr,by simp[h.len],fun k e=>(hv k e).1,fun j hj=>?_⟩
 by_cases hjl:j<vs.length
 ·obtain⟨h2,h3⟩:=h.each j hjl
  have e:(us ++ [u]).getD j undef=us.getD j undef:=by simp only[List.getD_eq_getElem?_getD];rw[List.getElem?_append_left (by rw[h.len];exact hjl)]
  rw[List.getElem_append_left hjl,e]
  exact⟨h2.keep hk fun k e=>(h3 k e).2,fun k e=>⟨hF k (h3 k e).1,nov _ _ _ h2 k e (h3 k e).2⟩⟩
 ·obtain rfl:j=vs.length:=by simp at hj;omega
  have e:(us ++ [u]).getD vs.length undef=u:=by simp only[List.getD_eq_getElem?_getD];rw[List.getElem?_append_right (by rw[h.len];exact Nat.le_refl _),h.len];simp
  rw[List.getElem_append_right (Nat.le_refl _),e]
  simp only[Nat.sub_self,List.getElem_cons_zero]
  exact⟨hu.keep hk fun k e=>(hou k e).2,fun k e=>⟨(hou k e).1,nov u _ _ hu k e (hou k e).2⟩⟩
theorem Votes.get {w:World} {F:Nat→Prop} {ao:Option Addr} {n c:Nat} {vs:List Vt} {us:List Value} (h:Votes w F (.slice ao n c) vs us) (i:Nat) (hi:i<vs.length) :
  ∃ g ua uc,ao=some ⟨g,0,none⟩∧(∀ j u,(voteV vs[i] (.slice ua vs[i].val.length uc))[j]?=some u→w.cell? ⟨g,i * 4+j,none⟩=some u)∧Row w 5 1 (.slice ua vs[i].val.length uc) vs[i].val.length (bytesV vs[i].val):=by
 obtain⟨h2,-⟩:=h.each i hi
 obtain⟨ua,uc,e,-⟩:=h2.form
 have h0:=votesV_get h.len i hi 0 (by decide)
 obtain⟨g,cap,hv,-⟩:=h.row.getCell (show (votesV vs us)[i * 4+0]?=some (.int .u64 (vs[i].slot:Int)) by rw[h0];rfl)
 cases hv
 refine⟨g,ua,uc,rfl,fun j u hu=>?_,by rw[← e];exact h2⟩
 have hj:j<4:=(List.getElem?_eq_some_iff.1 hu).1
 have h1:=votesV_get h.len i hi j hj
 rw[e,hu] at h1
 obtain⟨g',cap',hv',hc'⟩:=h.row.getCell h1
 cases hv'
 exact hc'
end Go.Proofs.Ytkjofdocgaiedaa
namespace Go.Proofs.Ytkjofdocgaiedaa.AC
open Go.Proofs.Ytkjofdocgaiedaa MI SO BM
def rd1 (st:Bal×List Vt) (p:Str×Str):Option (Bal×List Vt):=match getB p.2 with
 | none=>none
 | some (b,rest)=>if p.1=pK then (if rest = [] then some (b,st.2) else none) else if slotK p.1≠0∧rest.length≤100 then some (st.1,st.2 ++ [⟨slotK p.1,b,rest⟩]) else none
def rdL:Bal×List Vt→List (Str×Str)→Option (Bal×List Vt)
 | st,[]=>some st
 | st,p :: ps=>match rd1 st p with
   | none=>none
   | some st=>rdL st ps
def rd (ps:List (Str×Str)):Option (Bal×List Vt):=match rdL (Bal.zero,[]) ps with
 | none=>none
 | some (b,vs)=>if vs.any (fun v=>less b v.bal) then none else some (b,vs)
def encV (v:Vt):Str×Str:=(keyS v.slot,putB v.bal ++ v.val)
def encP (b:Bal) (vs:List Vt):List (Str×Str):=(if b=Bal.zero then [] else [(pK,putB b)]) ++ vs.map encV
def OkB (b:Bal):Prop:=rightB b=true∧b.n<18446744073709551616
structure OkV (b:Bal) (v:Vt):Prop where
 slot:0<v.slot
 lt:v.slot<18446744073709551616
 bal:OkB v.bal
 val:v.val.length≤100
 top:less b v.bal=false
def Rise (vs:List Vt):Prop:=vs.Pairwise fun u v=>u.slot<v.slot
structure VOk (b:Bal) (vs:List Vt):Prop where
 bal:b=Bal.zero∨OkB b
 rise:Rise vs
 each:∀ v ∈ vs,OkV b v
theorem zero_less {b:Bal} (h:rightB b=true):less Bal.zero b=true:=by
 unfold less
 rw[show decide (Bal.zero.n<b.n)=true from decide_eq_true (rightB_iff.1 h).1]
 rfl
theorem OkB.ne {b:Bal} (h:OkB b):b≠Bal.zero:=fun e=>by
 have:=(rightB_iff.1 h.1).1
 rw[e] at this
 exact absurd this (by decide)
theorem VOk.zero {vs:List Vt} (h:VOk Bal.zero vs):vs = []:=by
 cases vs with
 | nil=>rfl
 | cons v vs=>
   have h1:=h.each v (by simp)
   have:=h1.top
   rw[zero_less h1.bal.1] at this
   cases this
theorem keyS_ne (s:Nat):keyS s≠pK:=fun e=>by have:=keyS_length s;rw[e] at this;exact absurd this (by decide)
theorem rdL_votes:∀ (vs us:List Vt) (b c:Bal),(∀ v ∈ vs,OkV c v)→rdL (b,us) (vs.map encV)=some (b,us ++ vs)
 | [],us,b,c,_=>by simp[rdL]
 | v :: vs,us,b,c,h=>by
   have hv:=h v (by simp)
   have e:rd1 (b,us) (encV v)=some (b,us ++ [v]):=by
    unfold rd1 encV
    simp only
    rw[getB_put hv.bal.1 hv.bal.2]
    simp only
    rw[if_neg (keyS_ne _),slotK_keyS hv.lt,if_pos ⟨by have:=hv.slot;omega,hv.val⟩]
   simp only[List.map_cons,rdL]
   rw[e]
   simp only
   rw[rdL_votes vs (us ++ [v]) b c (fun x hx=>h x (by simp[hx])),List.append_assoc]
   rfl
theorem rd_enc {b:Bal} {vs:List Vt} (h:VOk b vs):rd (encP b vs)=some (b,vs):=by
 have hany:vs.any (fun v=>less b v.bal)=false:=by
  rw[List.any_eq_false]
  intro v hv
  rw[(h.each v hv).top]
  decide
 unfold rd encP
 rcases h.bal with rfl | hb
 ·rw[h.zero];rfl
 ·rw[if_neg hb.ne]
  have e:rd1 (Bal.zero,[]) (pK,putB b)=some (b,[]):=by
   unfold rd1
   simp only
   have:=getB_put hb.1 hb.2 []
   rw[List.append_nil] at this
   rw[this]
   simp
  simp only[List.singleton_append,rdL]
  rw[e]
  simp only
  rw[rdL_votes vs [] b b h.each]
  simp only[List.nil_append]
  rw[hany]
  simp
theorem rd1_enc {st st':Bal×List Vt} {p:Str×Str} (h:rd1 st p=some st') :
  (p.1=pK∧OkB st'.1∧st'.2=st.2∧p=(pK,putB st'.1))∨(p.1≠pK∧st'.1=st.1∧∃ v,st'.2=st.2 ++ [v]∧p=encV v∧0<v.slot∧v.slot<18446744073709551616∧OkB v.bal∧v.val.length≤100):=by
 unfold rd1 at h
 cases hg:getB p.2 with
 | none=>rw[hg] at h;cases h
 | some q=>
   obtain⟨b,rest⟩:=q
   rw[hg] at h
   simp only at h
   obtain⟨g1,g2,g3⟩:=put_getB hg
   by_cases hp:p.1=pK
   ·rw[if_pos hp] at h
    by_cases hr:rest = []
    ·rw[if_pos hr] at h
     cases h
     refine .inl ⟨hp,⟨g1,g2⟩,rfl,?_⟩
     rw[hr,List.append_nil] at g3
     rw[← g3,← hp]
    ·rw[if_neg hr] at h;cases h
   ·rw[if_neg hp] at h
    by_cases hs:slotK p.1≠0∧rest.length≤100
    ·rw[if_pos hs] at h
     cases h
     obtain⟨k1,k2⟩:=keyS_slotK hs.1
     refine .inr ⟨hp,rfl,_,rfl,?_,by have:=hs.1;simp only;omega,k2,⟨g1,g2⟩,hs.2⟩
     unfold encV
     simp only
     rw[← k1,← g3]
    ·rw[if_neg hs] at h;cases h
theorem slot_lt {u v:Vt} (h:(encV u).1<(encV v).1) (hu:u.slot<18446744073709551616):u.slot<v.slot:=by
 rcases Nat.lt_trichotomy u.slot v.slot with x | x | x
 ·exact x
 ·unfold encV at h;simp only at h;rw[x] at h;exact absurd h (str_irrefl _)
 ·exact absurd (str_trans h (keyS_lt x hu)) (str_irrefl _)
theorem less_le {a b c:Bal} (h:less a b=false) (k:less b c=false):less a c=false:=by
 cases h2:less a c with
 | false=>rfl
 | true=>
   cases h3:less b a with
   | true=>rw[less_trans h3 h2] at k;cases k
   | false=>
     have:=less_total h h3
     subst this
     rw[h2] at k
     cases k
theorem VOk.up {b c:Bal} {vs:List Vt} (h:VOk b vs) (hc:OkB c) (hle:less c b=false):VOk c vs:=
 ⟨.inr hc,h.rise,fun v hv=>let q:=h.each v hv;⟨q.slot,q.lt,q.bal,q.val,less_le hle q.top⟩⟩
def insV:List Vt→Vt→List Vt
 | [],v=>[v]
 | u :: vs,v=>if u.slot<v.slot then u :: insV vs v else v :: (if u.slot=v.slot then vs else u :: vs)
theorem mem_insV {v x:Vt}:∀ {vs:List Vt},x ∈ insV vs v→x=v∨x ∈ vs
 | [],h=>by simp[insV] at h;exact .inl h
 | u :: vs,h=>by
   unfold insV at h
   split at h
   ·rcases List.mem_cons.1 h with rfl | h
    ·exact .inr (by simp)
    ·exact(mem_insV h).imp id fun z=>by simp[z]
   ·rcases List.mem_cons.1 h with rfl | h
    ·exact .inl rfl
    ·split at h
     ·exact .inr (by simp[h])
     ·exact .inr h
theorem insV_rise {v:Vt}:∀ {vs:List Vt},Rise vs→Rise (insV vs v)
 | [],_=>by simp[insV,Rise]
 | u :: vs,h=>by
   have h1:=List.pairwise_cons.1 h
   unfold insV
   split
   ·rename_i hlt
    refine List.pairwise_cons.2 ⟨fun x hx=>?_,insV_rise h1.2⟩
    rcases mem_insV hx with rfl | hx
    ·exact hlt
    ·exact h1.1 x hx
   ·rename_i hlt
    split
    ·rename_i he
     exact List.pairwise_cons.2 ⟨fun x hx=>by rw[← he];exact h1.1 x hx,h1.2⟩
    ·rename_i he
     refine List.pairwise_cons.2 ⟨fun x hx=>?_,h⟩
     rcases List.mem_cons.1 hx with rfl | hx
     ·omega
     ·have:=h1.1 x hx;omega
theorem VOk.ins {b:Bal} {vs:List Vt} {v:Vt} (h:VOk b vs) (hle:less v.bal b=false) (hs:0<v.slot) (hlt:v.slot<18446744073709551616) (hb:OkB v.bal) (hv:v.val.length≤100):VOk v.bal (insV vs v):=
 ⟨.inr hb,insV_rise h.rise,fun x hx=>by
  rcases mem_insV hx with rfl | hx
  ·exact⟨hs,hlt,hb,hv,less_irrefl _⟩
  ·exact(h.up hb hle).each x hx⟩
theorem lay_p {b c:Bal} {vs:List Vt} (hc:OkB c):lay1 (encP b vs) ⟨pK,putB c,false⟩=encP c vs:=by
 unfold encP
 rw[if_neg hc.ne]
 by_cases hb:b=Bal.zero
 ·rw[if_pos hb,List.nil_append]
  cases vs with
  | nil=>rfl
  | cons v vs=>
    have h1:¬ (encV v).1<pK:=fun h=>str_irrefl _ (str_trans h (pK_lt _))
    have h2:¬ (encV v).1=pK:=keyS_ne _
    simp only[List.map_cons,lay1,if_neg h1,if_neg h2,Bool.false_eq_true,if_false]
 ·rw[if_neg hb]
  simp only[List.singleton_append,lay1,if_neg (str_irrefl pK),if_true,Bool.false_eq_true,if_false]
theorem lay_v {v:Vt} (hv:v.slot<18446744073709551616):∀ {vs:List Vt},(∀ u ∈ vs,u.slot<18446744073709551616)→lay1 (vs.map encV) ⟨keyS v.slot,putB v.bal ++ v.val,false⟩=(insV vs v).map encV
 | [],_=>rfl
 | u :: vs,h=>by
   have hu:=h u (by simp)
   simp only[List.map_cons,lay1]
   unfold insV
   by_cases h1:u.slot<v.slot
   ·have h2:(encV u).1<keyS v.slot:=keyS_lt h1 hv
    rw[if_pos h2,if_pos h1,lay_v hv (fun x hx=>h x (by simp[hx]))]
    rfl
   ·have h2:¬ (encV u).1<keyS v.slot:=fun h=>h1 (slot_lt (u:=u) (v:=v) h hu)
    rw[if_neg h2,if_neg h1]
    by_cases h3:u.slot=v.slot
    ·have h4:(encV u).1=keyS v.slot:=by unfold encV;simp only;rw[h3]
     rw[if_pos h4,if_pos h3]
     rfl
    ·have h4:¬ (encV u).1=keyS v.slot:=fun e=>by
      rcases Nat.lt_or_gt_of_ne h3 with x | x
      ·exact h1 x
      ·have:=keyS_lt x hu
       unfold encV at e
       simp only at e
       rw[e] at this
       exact str_irrefl _ this
     rw[if_neg h4,if_neg h3]
     rfl
theorem lay_head {p:Str×Str} {ps:List (Str×Str)} {c:Ch} (h:p.1<c.key):lay1 (p :: ps) c=p :: lay1 ps c:=by simp only[lay1,if_pos h]
def promL (b:Bal):List Ch:=[⟨pK,putB b,false⟩]
def voteL (v:Vt):List Ch:=[⟨pK,putB v.bal,false⟩,⟨keyS v.slot,putB v.bal ++ v.val,false⟩]
def trimL (us:List Vt):List Ch:=us.map fun u=>⟨keyS u.slot,[],true⟩
theorem lay_prom {b c:Bal} {vs:List Vt} (hc:OkB c):layL (encP b vs) (promL c)=encP c vs:=lay_p hc
theorem lay_vote {b:Bal} {vs:List Vt} {v:Vt} (h:VOk b vs) (hb:OkB v.bal) (hs:v.slot<18446744073709551616):layL (encP b vs) (voteL v)=encP v.bal (insV vs v):=by
 show lay1 (lay1 (encP b vs) _) _=_
 rw[lay_p hb]
 unfold encP
 rw[if_neg hb.ne]
 simp only[List.singleton_append]
 rw[lay_head (pK_lt _),lay_v hs (fun u hu=>(h.each u hu).lt)]
theorem lay_del1 {u:Vt} {vs:List Vt}:lay1 ((u :: vs).map encV) ⟨keyS u.slot,[],true⟩=vs.map encV:=by
 have h1:¬ (encV u).1<keyS u.slot:=str_irrefl _
 have h2:(encV u).1=keyS u.slot:=rfl
 simp only[List.map_cons,lay1,if_neg h1,if_pos h2,if_true,List.nil_append]
theorem lay_trim {b:Bal}:∀ {us vs:List Vt},layL (encP b (us ++ vs)) (trimL us)=encP b vs
 | [],vs=>rfl
 | u :: us,vs=>by
   show layL (lay1 (encP b (u :: (us ++ vs))) ⟨keyS u.slot,[],true⟩) (trimL us)=_
   have e:lay1 (encP b (u :: (us ++ vs))) ⟨keyS u.slot,[],true⟩=encP b (us ++ vs):=by
    unfold encP
    by_cases hb:b=Bal.zero
    ·rw[if_pos hb,List.nil_append,List.nil_append];exact lay_del1
    ·rw[if_neg hb]
     simp only[List.singleton_append]
     rw[lay_head (pK_lt _),lay_del1]
   rw[e]
   exact lay_trim
end Go.Proofs.Ytkjofdocgaiedaa.AC
namespace Go.Proofs.Ytkjofdocgaiedaa
open Go.RowKit Go.Maps
open MI SO BM DM WM
theorem LogAt.ltz {w:World} {b d:Nat} {F Fd:Nat→Prop} {D:Dk} {G:Lg} (h:LogAt w b d F Fd D G):∀ k,(F k∨Fd k)→k<w.heap.size:=by
 obtain⟨_,_,_,_,h⟩:=h
 exact fun k x=>x.elim (h.wal.lt k) (h.disk.lt k)
theorem LogAt.disk_ {w:World} {b d:Nat} {F Fd:Nat→Prop} {D:Dk} {G:Lg} (h:LogAt w b d F Fd D G):DiskAt w d Fd D:=by
 obtain⟨_,_,_,_,h⟩:=h;exact h.disk
theorem LogAt.apart_ {w:World} {b d:Nat} {F Fd:Nat→Prop} {D:Dk} {G:Lg} (h:LogAt w b d F Fd D G):∀ k,F k→¬ Fd k:=by
 obtain⟨_,_,_,_,h⟩:=h;exact h.apart
structure StoIs (w:World) (b d:Nat) (F Fd:Nat→Prop) (D:Dk) (S:St) (wb mb:Nat) (m:List (Str×Str)) (Fl:Nat→Prop):Prop where
 head:w.heap[b]?=some (.cells (stoCells (.pointer (some ⟨wb,0,none⟩)) mb S.dead) 85 (0,0))
 map:PairsAt w mb m
 log:LogAt w wb d Fl Fd D S.g
 get:∀ x,AL.get m x=AL.get S.ps x
 inl:∀ k,Fl k→F k∧k≠b∧k≠mb
 self:F b
 fm:F mb
 ne:b≠mb
 lt:∀ k,F k→k<w.heap.size
 apart:∀ k,F k→¬ Fd k
 ok:PsOk S.ps
def StoAt (w:World) (b d:Nat) (F Fd:Nat→Prop) (D:Dk) (S:St):Prop:=∃ wb mb m Fl,StoIs w b d F Fd D S wb mb m Fl
def StoTo (b d:Nat) (F Fd:Nat→Prop) (w:World) (D':Dk) (S':St) (w':World):Prop:=
 ∃ F' Fd',StoAt w' b d F' Fd' D' S'∧Keep (fun k=>F k∨Fd k) w w'∧(∀ k,F' k→F k∨w.heap.size≤k)∧∀ k,Fd' k→Fd k∨w.heap.size≤k
section
variable {w w' w1 w2:World} {b d wb mb:Nat} {F Fd Fl K:Nat→Prop} {D D':Dk} {S S':St} {m m':List (Str×Str)} {G':Lg}
theorem StoIs.keep (H:StoIs w b d F Fd D S wb mb m Fl) (hk:Keep K w w') (h1:∀ k,F k→¬ K k) (h2:∀ k,Fd k→¬ K k):StoIs w' b d F Fd D S wb mb m Fl:=
 ⟨hk.get H.head (h1 _ H.self),MapAt.keep H.map hk (h1 _ H.fm),H.log.keep hk (fun k x=>h1 k (H.inl k x).1) h2,H.get,H.inl,H.self,H.fm,H.ne,fun k x=>Nat.lt_of_lt_of_le (H.lt k x) hk.size,H.apart,H.ok⟩
theorem StoIs.len (H:StoIs w b d F Fd D S wb mb m Fl):m.length=S.ps.length:=len_eq H.map.1 H.ok.sorted H.get
theorem StoIs.logTo (H:StoIs w b d F Fd D S wb mb m Fl) (ht:LogTo wb d Fl Fd w D' G' w') :
  ∃ Fl' F' Fd',StoIs w' b d F' Fd' D' { S with g:=G' } wb mb m Fl'∧Keep (fun k=>F k∨Fd k) w w'∧(∀ k,F' k→F k∨w.heap.size≤k)∧∀ k,Fd' k→Fd k∨w.heap.size≤k:=by
 obtain⟨Fl',Fd',h1,h2,h3,h4⟩:=ht
 have hb:¬ (Fl b∨Fd b):=fun x=>x.elim (fun y=>(H.inl b y).2.1 rfl) (H.apart b H.self)
 have hm:¬ (Fl mb∨Fd mb):=fun x=>x.elim (fun y=>(H.inl mb y).2.2 rfl) (H.apart mb H.fm)
 refine⟨Fl',fun k=>F k∨Fl' k,Fd',⟨h2.get H.head hb,MapAt.keep H.map h2 hm,h1,H.get,fun k x=>⟨.inr x,?_,?_⟩,.inl H.self,.inl H.fm,H.ne,fun k x=>?_,fun k x=>?_,H.ok⟩,h2.mono fun k _ x=>x.imp (fun y=>(H.inl k y).1) id,fun k x=>?_,h4⟩
 ·rintro rfl
  rcases h3 _ x with z | z
  ·exact hb (.inl z)
  ·have:=H.lt _ H.self;omega
 ·rintro rfl
  rcases h3 _ x with z | z
  ·exact hm (.inl z)
  ·have:=H.lt _ H.fm;omega
 ·rcases x with x | x
  ·exact Nat.lt_of_lt_of_le (H.lt k x) h2.size
  ·exact h1.ltz k (.inl x)
 ·rcases x with x | x
  ·intro y
   rcases h4 k y with z | z
   ·exact H.apart k x z
   ·have:=H.lt k x;omega
  ·exact h1.apart_ k x
 ·rcases x with x | x
  ·exact .inl x
  ·exact(h3 k x).imp (fun z=>(H.inl k z).1) id
theorem StoIs.tell (H:StoIs w b d F Fd D S wb mb m Fl) (x:Bool) (hk:Keep (fun k=>k=b) w w') (hh:w'.heap[b]?=some (.cells (stoCells (.pointer (some ⟨wb,0,none⟩)) mb x) 85 (0,0))):StoIs w' b d F Fd D { S with dead:=x } wb mb m Fl:=
 ⟨hh,MapAt.keep H.map hk (fun e=>H.ne e.symm),H.log.keep hk (fun k y e=>(H.inl k y).2.1 e) (fun k y e=>by subst e;exact H.apart _ H.self y),H.get,H.inl,H.self,H.fm,H.ne,fun k y=>Nat.lt_of_lt_of_le (H.lt k y) hk.size,H.apart,H.ok⟩
theorem StoIs.laid (H:StoIs w b d F Fd D S wb mb m Fl) {ps':List (Str×Str)} (hk:Keep (fun k=>k=mb) w w') (hm:PairsAt w' mb m') (hg:∀ x,AL.get m' x=AL.get ps' x) (ok:PsOk ps'):StoIs w' b d F Fd D { S with ps:=ps' } wb mb m' Fl:=
 ⟨hk.get H.head H.ne,hm,H.log.keep hk (fun k y e=>(H.inl k y).2.2 e) (fun k y e=>by subst e;exact H.apart _ H.fm y),hg,H.inl,H.self,H.fm,H.ne,fun k y=>Nat.lt_of_lt_of_le (H.lt k y) hk.size,H.apart,ok⟩
theorem StoAt.keep (H:StoAt w b d F Fd D S) (hk:Keep K w w') (h1:∀ k,F k→¬ K k) (h2:∀ k,Fd k→¬ K k):StoAt w' b d F Fd D S:=
 let ⟨wb,mb,m,Fl,h⟩:=H;⟨wb,mb,m,Fl,h.keep hk h1 h2⟩
theorem StoAt.later (H:StoAt w b d F Fd D S) (hk:Keep (fun _=>False) w w'):StoAt w' b d F Fd D S:=H.keep hk (fun _ _ x=>x) (fun _ _ x=>x)
theorem StoAt.ltw (H:StoAt w b d F Fd D S):∀ k,F k∨Fd k→k<w.heap.size:=let ⟨_,_,_,_,h⟩:=H;fun k x=>x.elim (h.lt k) fun y=>h.log.ltz k (.inr y)
theorem StoAt.diskAt (H:StoAt w b d F Fd D S):DiskAt w d Fd D:=let ⟨_,_,_,_,h⟩:=H;h.log.disk_
theorem StoAt.apart (H:StoAt w b d F Fd D S):∀ k,F k→¬ Fd k:=let ⟨_,_,_,_,h⟩:=H;h.apart
theorem StoAt.ok (H:StoAt w b d F Fd D S):PsOk S.ps:=let ⟨_,_,_,_,h⟩:=H;h.ok
theorem StoAt.to (H:StoAt w b d F Fd D S):StoTo b d F Fd w D S w:=⟨F,Fd,H,Keep.refl _ _,fun _ x=>.inl x,fun _ x=>.inl x⟩
theorem StoTo.since (h:StoTo b d F Fd w1 D' S' w') (hk:Keep (fun _=>False) w w1):StoTo b d F Fd w D' S' w':=by
 obtain⟨F',Fd',h1,h2,h3,h4⟩:=h
 exact⟨F',Fd',h1,hk.next h2 (fun _ _ x=>x.elim) (fun _ _ x=>x),fun k x=>(h3 k x).imp id fun y=>Nat.le_trans hk.size y,fun k x=>(h4 k x).imp id fun y=>Nat.le_trans hk.size y⟩
theorem StoTo.later (h:StoTo b d F Fd w D' S' w1) (hk:Keep (fun _=>False) w1 w2):StoTo b d F Fd w D' S' w2:=by
 obtain⟨F',Fd',h1,h2,h3,h4⟩:=h
 exact⟨F',Fd',h1.later hk,h2.next hk (fun _ _ x=>x) (fun _ _ x=>x.elim),h3,h4⟩
theorem StoTo.next {D2:Dk} {S2:St} (h1:StoTo b d F Fd w D' S' w1) (h:∀ F1 Fd1,StoAt w1 b d F1 Fd1 D' S'→StoTo b d F1 Fd1 w1 D2 S2 w2):StoTo b d F Fd w D2 S2 w2:=by
 obtain⟨F1,Fd1,a1,hk,h1',h2'⟩:=h1
 obtain⟨F2,Fd2,b1,b2,b3,b4⟩:=h F1 Fd1 a1
 have s:=hk.size
 refine⟨F2,Fd2,b1,hk.next b2 (fun _ _ x=>x) (fun k hk' x=>?_),fun k x=>?_,fun k x=>?_⟩
 ·rcases x with x | x
  ·rcases h1' k x with y | y
   ·exact .inl y
   ·omega
  ·rcases h2' k x with y | y
   ·exact .inr y
   ·omega
 ·rcases b3 k x with y | y
  ·exact h1' k y
  ·right;omega
 ·rcases b4 k x with y | y
  ·exact h2' k y
  ·right;omega
theorem StoIs.at (H:StoIs w b d F Fd D S wb mb m Fl):StoAt w b d F Fd D S:=⟨wb,mb,m,Fl,H⟩
end
def rstoCells (wp pv:Value) (dead:Bool):Array Value:=#[wp,pv,.bool dead]
section
variable {w w' w1 w2:World} {b d wb:Nat} {F Fd Fl K:Nat→Prop} {D D':Dk} {S S':St} {pv pv':Value} {G':Lg}
end
end Go.Proofs.Ytkjofdocgaiedaa
namespace Go.Proofs.Ytkjofdocgaiedaa
open Go.RowKit
open MI SO BM
end Go.Proofs.Ytkjofdocgaiedaa
