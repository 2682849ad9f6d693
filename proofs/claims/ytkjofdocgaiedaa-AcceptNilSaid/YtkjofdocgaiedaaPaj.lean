/- Texts Lists, Slc, Disk, Ref, RefW, RefR, DiskW, DiskS, RefS, DiskN0, DiskC, RefN, Spoil, RefC in one. Conditions: as each law names them. -/
import Derived.Test.YtkjofdocgaiedaaChecked
import Derived.Laws.IdiomStrings
import Derived.WalkLawsBesides
import Derived.WalkSpells
import Derived.WalkKit
import Derived.Test.YtkjofdocgaiedaaPaa
import Derived.Test.YtkjofdocgaiedaaPac
namespace Go.Proofs.Ytkjofdocgaiedaa
open Go.RowKit
theorem ty_bytes:SliceTy Try.prog 29 5 (.int .u8 0) 1 1:=⟨by kernel_rfl,by kernel_rfl,rfl,by decide⟩
abbrev Fresh:=FreshU 5
end Go.Proofs.Ytkjofdocgaiedaa
namespace Go.Proofs.Ytkjofdocgaiedaa
open Go.RowKit
theorem run_sliceAt_hi2 {P:Program} {t e:TypeId} {z:Value} {size bytes:Nat} (T:SliceTy P t e z size bytes) (ao:Option Addr) (n cap:Nat) (k:IntKind) (hi:Nat) (h1:hi≤cap) (w:World) :
  (Instr.sliceAt t (.slice ao n cap) none (some (.int k (hi:Int))) none).run P w = .ok (.slice ao hi cap) w:=by
 obtain⟨ht,hinfo,hzs,hpos⟩:=T
 obtain⟨i,hi',hsize⟩:∃ i,P.info? e=some i∧i.size=size:=by
  cases hq:P.info? e with
  | none=>simp[hq] at hinfo
  | some i=>simp[hq] at hinfo;exact⟨i,rfl,hinfo.2.1⟩
 subst hsize
 have h0:(0:Int)≤(hi:Int)∧(hi:Int)≤(cap:Int):=by omega
 simp[Instr.sliceAt,Instr.slice,run_underlying ht,Instr.sliceBounds,Instr.sliceBound,asIntOf,h0,h1,sizeOf,typeInfo,hi',Addr.add]
theorem run_sliceAt_lh {P:Program} {t e:TypeId} {z:Value} {size bytes:Nat} (T:SliceTy P t e z size bytes) (ao:Option Addr) (n cap:Nat) (k k':IntKind) (lo hi:Nat) (h1:lo≤hi) (h2:hi≤cap) (w:World) :
  (Instr.sliceAt t (.slice ao n cap) (some (.int k (lo:Int))) (some (.int k' (hi:Int))) none).run P w = .ok (.slice (tailAt ao cap lo size) (hi - lo) (cap - lo)) w:=by
 obtain⟨ht,hinfo,hzs,hpos⟩:=T
 obtain⟨i,hi',hsize⟩:∃ i,P.info? e=some i∧i.size=size:=by
  cases hq:P.info? e with
  | none=>simp[hq] at hinfo
  | some i=>simp[hq] at hinfo;exact⟨i,rfl,hinfo.2.1⟩
 subst hsize
 have h0:(0:Int)≤(hi:Int)∧(hi:Int)≤(cap:Int):=by omega
 have h3:(0:Int)≤(lo:Int)∧(lo:Int)≤(hi:Int):=by omega
 simp[Instr.sliceAt,Instr.slice,run_underlying ht,Instr.sliceBounds,Instr.sliceBound,asIntOf,h0,h1,h2,h3,sizeOf,typeInfo,hi',tailAt]
end Go.Proofs.Ytkjofdocgaiedaa
namespace Go.Proofs.Ytkjofdocgaiedaa
open Go.RowKit
open DM
def waitV (p:Nat×Sec):List Value:=.int .i64 (p.1:Int) :: bytesV p.2
def waitsV (l:List (Nat×Sec)):List Value:=l.flatMap waitV
theorem waitsV_get:∀ (l:List (Nat×Sec)),(∀ p ∈ l,p.2.length=32)→∀ (k:Nat) (hk:k<l.length) (j:Nat),j<33→(waitsV l)[k * 33+j]?=(waitV l[k])[j]?
 | [],_,k,hk,_,_=>absurd hk (Nat.not_lt_zero _)
 | p :: l,h,0,_,j,hj=>by
   have hp:(waitV p).length=33:=by simp[waitV,bytesV_length,h p (by simp)]
   simp only[waitsV,List.flatMap_cons,Nat.zero_mul,Nat.zero_add,List.getElem_cons_zero]
   rw[List.getElem?_append_left (by omega)]
 | p :: l,h,k+1,hk,j,hj=>by
   have hp:(waitV p).length=33:=by simp[waitV,bytesV_length,h p (by simp)]
   have ih:=waitsV_get l (fun q hq=>h q (by simp[hq])) k (by simpa using hk) j hj
   simp only[waitsV,List.flatMap_cons,List.getElem_cons_succ] at ih ⊢
   rw[List.getElem?_append_right (by omega),← ih]
   congr 1
   omega
def secZero:Value:=.agg (Array.replicate 32 (.int .u8 0))
theorem ty_sectors:SliceTy Try.prog 68 74 secZero 32 32:=⟨by kernel_rfl,by kernel_rfl,by simp[secZero,Value.cells],by decide⟩
def waitZero:Value:=.agg (#[.int .i64 0] ++ Array.replicate 32 (.int .u8 0))
theorem ty_waits:SliceTy Try.prog 69 76 waitZero 33 40:=⟨by kernel_rfl,by kernel_rfl,by simp[waitZero,Value.cells],by decide⟩
structure DiskFoot (w:World) (b:Nat) (F:Nat→Prop) (vs vn vw:Value):Prop where
 self:F b
 safe:∀ k,vs.ownBlock=some k→F k∧k≠b
 now:∀ k,vn.ownBlock=some k→F k∧k≠b∧vs.ownBlock≠some k
 waits:∀ k,vw.ownBlock=some k→F k∧k≠b∧vs.ownBlock≠some k∧vn.ownBlock≠some k
 lt:∀ k,F k→k<w.heap.size
def diskCells (vs vn vw:Value) (D:Dk):Array Value:=#[vs,vn,vw,.bool D.left.isSome,.int .i64 (D.left.getD 0:Nat),.bool D.down]
structure DiskIs (w:World) (b:Nat) (F:Nat→Prop) (D:Dk) (vs vn vw:Value):Prop where
 head:w.heap[b]?=some (.cells (diskCells vs vn vw D) 71 (0,0))
 safe:Row w 74 32 vs D.safe.length (bytesV D.safe.flatten)
 now:Row w 74 32 vn D.safe.length (bytesV (DM.now D).flatten)
 waits:Row w 76 33 vw D.waits.length (waitsV D.waits)
 foot:DiskFoot w b F vs vn vw
 ok:Ok D
def DiskAt (w:World) (b:Nat) (F:Nat→Prop) (D:Dk):Prop:=∃ vs vn vw,DiskIs w b F D vs vn vw
theorem DiskIs.keep {w w':World} {b:Nat} {F G:Nat→Prop} {D:Dk} {vs vn vw:Value} (h:DiskIs w b F D vs vn vw) (hk:Keep G w w') (hn:∀ k,F k→¬ G k):DiskIs w' b F D vs vn vw:=
 ⟨hk.get h.head (hn _ h.foot.self),h.safe.keep hk fun k e=>hn _ (h.foot.safe k e).1,h.now.keep hk fun k e=>hn _ (h.foot.now k e).1,h.waits.keep hk fun k e=>hn _ (h.foot.waits k e).1,
  ⟨h.foot.self,h.foot.safe,h.foot.now,h.foot.waits,fun k hF=>Nat.lt_of_lt_of_le (h.foot.lt k hF) hk.size⟩,h.ok⟩
theorem DiskAt.keep {w w':World} {b:Nat} {F G:Nat→Prop} {D:Dk} (h:DiskAt w b F D) (hk:Keep G w w') (hn:∀ k,F k→¬ G k):DiskAt w' b F D:=
 let ⟨_,_,_,hh⟩:=h;⟨_,_,_,hh.keep hk hn⟩
theorem DiskAt.lt {w:World} {b:Nat} {F:Nat→Prop} {D:Dk} (h:DiskAt w b F D):∀ k,F k→k<w.heap.size:=let ⟨_,_,_,hh⟩:=h;hh.foot.lt
theorem DiskAt.ok {w:World} {b:Nat} {F:Nat→Prop} {D:Dk} (h:DiskAt w b F D):Ok D:=let ⟨_,_,_,hh⟩:=h;hh.ok
def DiskTo (b:Nat) (F:Nat→Prop) (w:World) (D':Dk) (w':World):Prop:=
 ∃ F',DiskAt w' b F' D'∧Keep F w w'∧∀ k,F' k→F k∨w.heap.size≤k
theorem cells6 {w:World} {b:Nat} {T:TypeId} {a0 a1 a2 a3 a4 a5:Value} (H:w.heap[b]?=some (.cells #[a0,a1,a2,a3,a4,a5] T (0,0))) :
  w.cell? ⟨b,0,none⟩=some a0∧w.cell? ⟨b,1,none⟩=some a1∧w.cell? ⟨b,2,none⟩=some a2∧w.cell? ⟨b,3,none⟩=some a3∧w.cell? ⟨b,4,none⟩=some a4∧w.cell? ⟨b,5,none⟩=some a5∧
  (∀ o,w.frozen? ⟨b,o,none⟩=false)∧b<w.heap.size:=by
 refine⟨?_,?_,?_,?_,?_,?_,?_,heap_lt H⟩ <;> simp[World.cell?,World.frozen?,H]
theorem heap_setCell6 {w:World} {b:Nat} {T:TypeId} {cs:Array Value} (H:w.heap[b]?=some (.cells cs T (0,0))) (i:Nat) (v:Value) :
  (w.setCell ⟨b,i,none⟩ v).heap[b]?=some (.cells (cs.setIfInBounds i v) T (0,0)):=heap_setCell_same w b i cs T v H
theorem DiskIs.head' {w w':World} {b:Nat} {F:Nat→Prop} {D D':Dk} {vs vn vw:Value} (h:DiskIs w b F D vs vn vw) (hk:Keep (fun k=>k=b) w w')
  (hh:w'.heap[b]?=some (.cells (diskCells vs vn vw D') 71 (0,0))) (e1:D'.safe=D.safe) (e2:D'.waits=D.waits) (ok:Ok D'):DiskIs w' b F D' vs vn vw:=by
 have hb:∀ k,k≠b→¬ (fun k=>k=b) k:=fun k hk=>hk
 have e3:DM.now D'=DM.now D:=by simp[DM.now,e1,e2]
 refine⟨hh,?_,?_,?_,⟨h.foot.self,h.foot.safe,h.foot.now,h.foot.waits,fun k hF=>Nat.lt_of_lt_of_le (h.foot.lt k hF) hk.size⟩,ok⟩
 ·rw[e1];exact h.safe.keep hk fun k e=>(h.foot.safe k e).2
 ·rw[e1,e3];exact h.now.keep hk fun k e=>(h.foot.now k e).2.1
 ·rw[e2];exact h.waits.keep hk fun k e=>(h.foot.waits k e).2.1
theorem DiskIs.to {w w':World} {b:Nat} {F:Nat→Prop} {D':Dk} {vs vn vw:Value} (h:DiskIs w' b F D' vs vn vw) (hk:Keep F w w'):DiskTo b F w D' w':=
 ⟨F,⟨_,_,_,h⟩,hk,fun _ hF=>.inl hF⟩
set_option maxRecDepth 20000 in
set_option maxHeartbeats 400000 in
theorem act_any (w:World) (b:Nat) (F:Nat→Prop) (D:Dk) (hD:DiskAt w b F D) :
  Calls Try.prog 76 #[.pointer (some ⟨b,0,none⟩)] w fun e w'=>e = .returned (.bool (act D).1)∧DiskTo b F w (act D).2 w':=by
 obtain⟨vs,vn,vw,hI⟩:=hD
 have hok:=hI.ok.act
 have hh:=hI.head
 unfold diskCells at hh
 obtain⟨h0,h1,h2,h3,h4,h5,hf,hb⟩:=cells6 hh
 have fin:∀ w',Keep (fun k=>k=b) w w'→w'.heap[b]?=some (.cells (diskCells vs vn vw (act D).2) 71 (0,0))→DiskTo b F w (act D).2 w':=fun w' hk hh'=>
  (hI.head' hk hh' (act_safe D) (act_waits D) hok).to (hk.mono fun i _ e=>by subst e;exact hI.foot.self)
 have Fin:=hid fin
 have Hh:=hid hh
 clear fin hh
 cases hd:D.down with
 | true=>
   rw[hd] at h5
   have ha:act D=(false,D):=by unfold DM.act;rw[hd];rfl
   have Ha:=hid ha
   clear ha
   go_enter Try.func76,Try.ntmps76
   go_wp2
   go_ret
   refine⟨by rw[Ha.out];rfl,Fin.out _ (Keep.refl _ _) (by rw[Ha.out];exact Hh.out)⟩
 | false=>
   rw[hd] at h5
   cases hl:D.left with
   | none=>
     rw[hl] at h3 h4
     have ha:act D=(true,D):=by unfold DM.act;rw[hd,hl];rfl
     have Ha:=hid ha
     clear ha
     go_enter Try.func76,Try.ntmps76
     go_wp2
     go_ret
     refine⟨by rw[Ha.out];rfl,Fin.out _ (Keep.refl _ _) (by rw[Ha.out];exact Hh.out)⟩
   | some k=>
     rw[hl] at h3 h4
     have hk:=hI.ok.left k hl
     cases k with
     | zero=>
       have ha:act D=(false,{ D with down:=true }):=by unfold DM.act;rw[hd,hl];rfl
       have Ha:=hid ha
       clear ha
       go_enter Try.func76,Try.ntmps76
       go_wp2
       go_ret
       refine⟨by rw[Ha.out];rfl,Fin.out _ (by refine Keep.setCell (Keep.refl _ _) (.inl ?_) _;rfl) (by rw[Ha.out,heap_setCell6 Hh.out];rfl)⟩
     | succ k=>
       have ha:act D=(true,{ D with left:=some k }):=by unfold DM.act;rw[hd,hl];rfl
       have Ha:=hid ha
       clear ha
       go_enter Try.func76,Try.ntmps76
       go_wp2
       go_ret
       refine⟨by rw[Ha.out];rfl,Fin.out _ (by refine Keep.setCell (Keep.refl _ _) (.inl ?_) _;rfl) (by rw[Ha.out,heap_setCell6 Hh.out];simp[diskCells,hl])⟩
set_option maxRecDepth 20000 in
set_option maxHeartbeats 400000 in
theorem up_any (w:World) (b:Nat) (F:Nat→Prop) (D:Dk) (hD:DiskAt w b F D) :
  Calls Try.prog 59 #[.pointer (some ⟨b,0,none⟩)] w fun e w'=>e = .returned (.bool (!D.down))∧w=w':=by
 obtain⟨vs,vn,vw,hI⟩:=hD
 have hh:=hI.head
 unfold diskCells at hh
 obtain⟨h0,h1,h2,h3,h4,h5,hf,hb⟩:=cells6 hh
 clear hh hI
 go_enter Try.func59,Try.ntmps59
 go_wp2
 go_ret
 exact⟨rfl,rfl⟩
set_option maxRecDepth 20000 in
set_option maxHeartbeats 400000 in
theorem sectors_any (w:World) (b:Nat) (F:Nat→Prop) (D:Dk) (hD:DiskAt w b F D) :
  Calls Try.prog 58 #[.pointer (some ⟨b,0,none⟩)] w fun e w'=>e = .returned (.int .i64 (D.safe.length:Int))∧w=w':=by
 obtain⟨vs,vn,vw,hI⟩:=hD
 have hh:=hI.head
 unfold diskCells at hh
 obtain⟨h0,h1,h2,h3,h4,h5,hf,hb⟩:=cells6 hh
 obtain⟨ad,cap,rfl,-⟩:=hI.now.form
 clear hh hI
 go_enter Try.func58,Try.ntmps58
 go_wp2
 go_ret
 exact⟨rfl,rfl⟩
end Go.Proofs.Ytkjofdocgaiedaa
namespace Go.Proofs.Ytkjofdocgaiedaa
open Go.RowKit
open DM
def secsV (l:List Sec):List Value:=l.map fun s=>.string (str s)
def putV (p:Nat×Sec):List Value:=[.int .i64 (p.1:Int),.string (str p.2)]
def putsV (l:List (Nat×Sec)):List Value:=l.flatMap putV
def leftV (l:Option Nat):Int:=match l with | none=>-1 | some k=>(k:Int)
def refCells (vs vw:Value) (D:Dk):Array Value:=#[vs,vw,.int .i64 (leftV D.left),.bool D.down]
structure RefFoot (w:World) (b:Nat) (F:Nat→Prop) (vs vw:Value):Prop where
 self:F b
 safe:∀ k,vs.ownBlock=some k→F k∧k≠b
 waits:∀ k,vw.ownBlock=some k→F k∧k≠b∧vs.ownBlock≠some k
 lt:∀ k,F k→k<w.heap.size
end Go.Proofs.Ytkjofdocgaiedaa
namespace Go.Proofs.Ytkjofdocgaiedaa
open Go.RowKit
open DM
def putZero:Value:=.agg #[.int .i64 0,.string (str [])]
end Go.Proofs.Ytkjofdocgaiedaa
namespace Go.Proofs.Ytkjofdocgaiedaa
open Go.RowKit
open DM
def seenTo (D:Dk) (i k:Nat):Sec:=(puts D.safe (D.waits.take k)).getD i []
theorem Row.of_str (w:World) (e:TypeId) (l:List UInt8) (hl:l.length≤maxLen) :
  Row (w.drew.alloc (.cells (bytesRow (str l) (grownCap w (str l).size 0 e)) e ((bytesRow (str l) (grownCap w (str l).size 0 e)).size,(bytesRow (str l) (grownCap w (str l).size 0 e)).size+1))) e 1
   (.slice (.some ⟨w.heap.size,0,none⟩) (str l).size (grownCap w (str l).size 0 e)) l.length (bytesV l):=by
 have h1:=grownCap_ge w (str l).size 0 e
 have h2:=grownCap_le_maxLen w (str l).size 0 e (by rw[str_size];exact hl)
 rw[str_size] at h1 h2
 have hsz:(bytesRow (str l) (grownCap w (str l).size 0 e)).size=grownCap w (str l).size 0 e:=by
  rw[str_size];simp[bytesRow,str,ByteArray.size];omega
 refine⟨by rw[bytesV_length,Nat.mul_one],.inr ⟨w.heap.size,_,_,_,by rw[str_size],heap_alloc_new w.drew _,?_,h1,h2,by rw[hsz,Nat.mul_one,str_size],?_⟩⟩
 ·intro j hj h
  omega
 ·simp[bytesRow,str,bytesV]
end Go.Proofs.Ytkjofdocgaiedaa
namespace Go.Proofs.Ytkjofdocgaiedaa
open Go.RowKit
open DM
set_option maxRecDepth 20000 in
set_option maxHeartbeats 800000 in
theorem write_any (w:World) (b:Nat) (F:Nat→Prop) (D:Dk) (at_:Int) (ao:Option Addr) (n c:Nat) (bs:List UInt8) (hD:DiskAt w b F D) (hsrc:Cells w ao n 1 (bytesV bs))
  (hap:0<n→∀ x,ao=some x→¬ F x.block) (hlt:at_<9223372036854775808) (hn:n≤9223372036854775807) (hfew:D.waits.length≤1000000) :
  Calls Try.prog 55 #[.pointer (some ⟨b,0,none⟩),.int .i64 at_,.slice ao n c] w fun e w'=>e = .returned (.int .i64 (DM.write D at_ bs).1)∧DiskTo b F w (DM.write D at_ bs).2 w':=by
 obtain⟨vs,vn,vw,hI⟩:=hD
 have hDat:DiskAt w b F D:=⟨_,_,_,hI⟩
 have hbl:bs.length=n:=by have:=hsrc.1;rw[bytesV_length] at this;omega
 have hh:=hI.head
 unfold diskCells at hh
 obtain⟨h0,h1,h2,h3,h4,h5,hf,hb⟩:=cells6 hh
 have hpos:=hI.ok.pos
 have hfewS:=hI.ok.few
 obtain⟨gn,cap,cur,fz,rfl,hgn,hfz,hncap,hcapm,hcurs,htk⟩:=hI.now.some hpos
 cases hd:D.down with
 | true=>
   rw[hd] at h5
   have hw:DM.write D at_ bs=(6,D):=by unfold DM.write;rw[hd];rfl
   have Hw:=hid hw
   have HI:=hid hI
   clear hw hI hh hgn htk hDat
   go_enter Try.func55,Try.ntmps55
   go_wp2
   go_ret
   exact⟨by rw[Hw.out];rfl,by rw[Hw.out];exact HI.out.to (Keep.refl _ _)⟩
 | false=>
   rw[hd] at h5
   have bad:(at_<0∨(D.safe.length:Int)≤at_∨bs.length≠32)→DM.write D at_ bs=(30,D):=fun h=>by unfold DM.write;rw[hd];simp[h]
   have Bad:=hid bad
   clear bad
   by_cases c1:at_<0
   ·have HI:=hid hI
    clear hI hh hgn htk hDat
    go_enter Try.func55,Try.ntmps55
    go_wp2
    go_ret
    rw[Bad.out (.inl c1)]
    exact⟨rfl,HI.out.to (Keep.refl _ _)⟩
   ·by_cases c2:(D.safe.length:Int)≤at_
    ·have HI:=hid hI
     clear hI hh hgn htk hDat
     go_enter Try.func55,Try.ntmps55
     go_wp2
     go_ret
     rw[Bad.out (.inr (.inl c2))]
     exact⟨rfl,HI.out.to (Keep.refl _ _)⟩
    ·by_cases c3:n=32
     ·subst c3
      have hgood:¬ (at_<0∨(D.safe.length:Int)≤at_∨bs.length≠32):=by omega
      cases ha:(act D).1 with
      | false=>
        have hw:DM.write D at_ bs=(6,(act D).2):=by unfold DM.write;rw[hd];simp[hgood,ha]
        have Hw:=hid hw
        clear hw hgn htk hI hgood
        go_enter Try.func55,Try.ntmps55
        go_wp2_with fail
        refine(act_any w b F D hDat).mono ?_
        rintro e w1 ⟨rfl,hto⟩
        go_wp2
        go_ret
        exact⟨by rw[Hw.out];rfl,by rw[Hw.out];exact hto⟩
      | true=>
        have hw:DM.write D at_ bs=(0,{ (act D).2 with waits:=(act D).2.waits ++ [(at_.toNat,bs)] }):=by unfold DM.write;rw[hd];simp[hgood,ha]
        have Hw:=hid hw
        have Hok:Hid (Ok (DM.write D at_ bs).2):=hid (hI.ok.write at_ bs)
        clear hw hgn htk hI hgood
        go_enter Try.func55,Try.ntmps55
        go_wp2_with fail
        refine(act_any w b F D hDat).mono ?_
        rintro e w1 ⟨rfl,F1,⟨vs1,vn1,vw1,hI1⟩,hk1,hF1⟩
        have hh1:=hI1.head
        unfold diskCells at hh1
        obtain⟨i0,i1,i2,i3,i4,i5,if1,ib1⟩:=cells6 hh1
        have hs1:=hsrc.keep0 hk1 (fun h=>hap (by omega))
        have hr1:=hI1.now
        have hl1:(act D).2.safe.length=D.safe.length:=by rw[act_safe]
        rw[hl1] at hr1
        obtain⟨g1,cap1,cur1,fz1,rfl,hg1,hfz1,hn1,hc1,hz1,ht1⟩:=hr1.some hpos
        go_wp2_with fail
        have hbs:at_.toNat * 32+(bytesV bs).length≤D.safe.length * 32:=by rw[bytesV_length];omega
        have hle:D.safe.length * 32≤cur1.size:=by rw[hz1];omega
        have hcp:=run_copy (P:=Try.prog) (w:=w1) (sT:=29) (ty:=3) ty_bytes g1 (at_.toNat * 32) 32 32 cur1 74 fz1 hg1 hfz1 ao 32 c (bytesV bs) 32 rfl hs1 (by omega) (bytesV_one _)
        have hr2:=hr1.spliced hg1 (at_.toNat * 32) (bytesV bs) hbs
        rw[hcp]
        clear hcp
        have hgb:g1≠b:=(hI1.foot.now g1 rfl).2.1
        have hk2:Keep (fun k=>k=g1) w1 (w1.setRow g1 (splice cur1.toList (at_.toNat * 32) (bytesV bs)).toArray):=by refine Keep.setRow (Keep.refl _ _) (.inl ?_) _;rfl
        obtain⟨w2,hw2⟩:∃ w2,w2=w1.setRow g1 (splice cur1.toList (at_.toNat * 32) (bytesV bs)).toArray:=⟨_,rfl⟩
        rw[← hw2] at hr2 hk2 ⊢
        clear hw2 i0 i1 i2 i3 i4 i5 if1 ib1 h0 h1 h2 h3 h4 h5 hf hb
        have hh2:=hk2.get hh1 (fun e=>hgb e.symm)
        obtain⟨i0,i1,i2,i3,i4,i5,if1,ib1⟩:=cells6 hh2
        have hsec:∀ j u,(bytesV bs)[j]?=some u→w2.cell? ⟨g1,at_.toNat * 32+j,none⟩=some u:=by
         intro j u hu
         have hj:j<(bytesV bs).length:=(List.getElem?_eq_some_iff.1 hu).1
         rw[hr2.cell _ (by omega),splice_get _ _ _ _ (by rw[hr1.len];omega) hj,hu]
        rw[splice_bytes] at hr2
        have Hr2:=hid hr2
        have Hh2:=hid hh2
        have HI1:=hid hI1
        clear hr2 hh2 hh1 hr1 hg1 hfz1 hz1 ht1 hbs hle hcurs hfz hI1 hl1 hh
        go_wp2_with fail
        refine wp_region_canon [] (by kernel_rfl) (by kernel_rfl) ?_
        repeat (apply wpC_pure (by rfl);(intro K w';go_simp;exact id))
        (apply wpC_load (by rfl);(intro K;go_simp;exact id))
        repeat (apply wpC_pure (by rfl);(intro K w';go_simp;exact id))
        (apply wpC_load (by rfl);(intro K;go_simp;exact id))
        repeat (apply wpC_pure (by rfl);(intro K w';go_simp;exact id))
        apply wpC_load (by rfl)
        ·intro K hK
         rw[if_pos (by rfl)]
         refine calm_load_at 74 (.tmp 56) rfl g1 (at_.toNat * 32) rfl (bytesV bs) hsec _ Try.underlying74 rfl (by rw[bytesV_length,hbl];kernel_rfl) ?_
         revert hK
         go_simp
         exact id
        have hwv:(waitV (at_.toNat,bs)).length=33:=by simp[waitV,bytesV_length,hbl]
        apply wpC_pure (by rfl)
        ·intro K w' hK
         rw[if_pos (by rfl)]
         refine calm_build 76 #[(0,.tmp 50),(1,.tmp 57)] rfl [(0,.int .i64 at_),(1,.agg (bytesV bs).toArray)] rfl waitZero _ #[(0,1),(1,32)] (waitV (at_.toNat,bs)).toArray (by kernel_rfl) Try.underlying76 (fun _=>by kernel_rfl) ?_ ?_
         ·rw[fill_cons _ _ 0 _ _ 0 1 rfl rfl (by decide),fill_cons _ _ 1 _ _ 1 32 rfl (by simp[Value.cells,bytesV_length,hbl]) (by simp[splice,Value.cells,waitZero])]
          simp[Instr.fill,splice,Value.cells,waitZero,waitV,Int.toNat_of_nonneg c1,bytesV_length,hbl]
         ·revert hK
          go_simp
          exact id
        refine wpC_new (by rfl) (by rfl) (fun K hK=>?_)
        refine wp_buildSlice1 ty_waits (.tmp 58) rfl (.agg (waitV (at_.toNat,bs)).toArray) rfl (by simp[Value.cells,hwv]) (by decide) ?_
        go_simp
        refine hK _ _ (Pre.push _ rfl) ?_
        clear hK K
        have hk3:Keep (fun _=>False) w2 (w2.alloc (Obj.cells (waitV (at_.toNat,bs)).toArray 76)).drew:=((Keep.refl _ _).alloc _).drew
        have hnew:(w2.alloc (Obj.cells (waitV (at_.toNat,bs)).toArray 76)).drew.heap[w2.heap.size]?=some (Obj.cells (waitV (at_.toNat,bs)).toArray 76):=heap_alloc_new w2 _
        obtain⟨w3,hw3⟩:∃ w3,w3=(w2.alloc (Obj.cells (waitV (at_.toNat,bs)).toArray 76)).drew:=⟨_,rfl⟩
        rw[← hw3] at hk3 hnew ⊢
        clear hw3
        have hrw:Row w3 76 33 vw1 (act D).2.waits.length (waitsV (act D).2.waits):=
         (HI1.out.waits.keep hk2 (fun k e x=>(HI1.out.foot.waits k e).2.2.2 (by rw[x];rfl))).keep hk3 (fun _ _ x=>x)
        have hl:(act D).2.waits.length=D.waits.length:=by rw[act_waits]
        refine wpC_act (by rfl) (by rfl) (fun K hK=>?_)
        refine wp_append ty_waits (.tmp 49) (.tmp 59) rfl rfl hrw (some ⟨w2.heap.size,0,none⟩) 1 1 (waitV (at_.toNat,bs)) rfl
         ⟨by omega,fun _=>⟨_,rfl,fun j u hu=>by rw[addr_add,Nat.zero_add,cell_of_row _ _ _ _ _ _ hnew];simpa using hu⟩⟩
         (by intro u hu;simp only[waitV,List.mem_cons] at hu;rcases hu with rfl | hu;rfl;exact bytesV_one _ u hu) (by unfold maxLen;omega) (by omega) ?_
        intro v4 w4 hr4 hk4 hv4
        refine hK _ _ ?_
        clear hK K
        have hvb:∀ k,vw1.ownBlock=some k→F1 k∧k≠b∧vs1.ownBlock≠some k∧(Value.slice (some ⟨g1,0,none⟩) D.safe.length cap1).ownBlock≠some k:=HI1.out.foot.waits
        have hh4:=hk4.get (hk3.get Hh2.out id) (fun e=>(hvb _ e).2.1 rfl)
        clear i0 i1 i2 i3 i4 i5 if1 ib1
        obtain⟨i0,i1,i2,i3,i4,i5,if1,ib1⟩:=cells6 hh4
        obtain⟨ad4,cap4,rfl,-⟩:=hr4.form
        have Hv4:=hid hv4
        have Hh4:=hid hh4
        have Hrw:=hid hrw
        have Hr4:=hid hr4
        have Hl:=hid hl
        clear hh4 hrw hr4 hl hnew hv4
        repeat (apply wpC_pure (by rfl);(intro K w';go_simp;exact id))
        (refine wpC_act (by rfl) (by rfl) (fun K hK=>?_);go_simp;refine hK _ _ ?_;clear hK K)
        refine wpC_nil ?_
        go_wp2
        go_ret
        refine⟨by rw[Hw.out];rfl,?_⟩
        have hok:=Hok.out
        rw[Hw.out] at hok ⊢
        have hk5:Keep (fun k=>k=b) w4 (w4.setCell ⟨b,2,none⟩ (.slice ad4 ((act D).2.waits.length+1) cap4)):=by refine Keep.setCell (Keep.refl _ _) (.inl ?_) _;rfl
        have hh5:=heap_setCell6 Hh4.out 2 (.slice ad4 ((act D).2.waits.length+1) cap4)
        obtain⟨w5,hw5⟩:∃ w5,w5=w4.setCell ⟨b,2,none⟩ (.slice ad4 ((act D).2.waits.length+1) cap4):=⟨_,rfl⟩
        rw[← hw5] at hk5 hh5 ⊢
        clear hw5 i0 i1 i2 i3 i4 i5 if1 ib1
        obtain⟨vD,hvD⟩:∃ v,v=Value.slice ad4 ((act D).2.waits.length+1) cap4:=⟨_,rfl⟩
        have hr4:=Hr4.out
        have hv4:=Hv4.out
        rw[← hvD] at hh5 hr4 hv4
        have hf1:=HI1.out.foot
        have hown:∀ k,vD.ownBlock=some k→vw1.ownBlock=some k∨k=w3.heap.size:=by
         intro k hk
         rcases hv4 with ⟨_,h0⟩ | ⟨k',h1,h2⟩
         ·omega
         ·rw[hk] at h1;cases h1;exact h2
        have hnew:∀ k,F1 k→k≠w3.heap.size:=fun k hF e=>by
         have h1:=hf1.lt k hF
         have h2:=hk2.size
         have h3:=hk3.size
         omega
        have kb:∀ k,F1 k→k≠g1→vw1.ownBlock≠some k→k≠b→w5.heap[k]?=w1.heap[k]?:=fun k hF h1 h2 h3=>by
         have hlt:=hf1.lt k hF
         rw[hk5.block k (by have:=hk2.size;have:=hk3.size;have:=hk4.size;omega) h3,hk4.block k (by have:=hk2.size;have:=hk3.size;omega) h2,hk3.block k (by have:=hk2.size;omega) id,hk2.block k hlt h1]
        have hob:∀ k,vD.ownBlock=some k→k≠b∧vs1.ownBlock≠some k∧(Value.slice (some ⟨g1,0,none⟩) D.safe.length cap1).ownBlock≠some k:=by
         intro k hk
         rcases hown k hk with h | h
         ·exact(hf1.waits k h).2
         ·subst h
          exact⟨fun e=>hnew _ hf1.self e.symm,fun e=>hnew _ (hf1.safe _ e).1 rfl,fun e=>hnew _ (hf1.now _ e).1 rfl⟩
        have kz:Keep (fun k=>vw1.ownBlock=some k∨k=b) w2 w5:=
         (hk3.next hk4 (H:=fun k=>vw1.ownBlock=some k) (fun _ _ x=>x.elim) (fun _ _ x=>x)).next hk5 (fun _ _ x=>.inl x) (fun _ _ x=>.inr x)
        have ks:Keep (fun k=>k=g1∨vw1.ownBlock=some k∨k=b) w1 w5:=
         hk2.next kz (fun _ _ x=>.inl x) (fun _ _ x=>.inr x)
        have hr5:=hr4.keep hk5 fun k e x=>(hob k e).1 x
        refine⟨fun k=>F1 k∨vD.ownBlock=some k,⟨vs1,.slice (some ⟨g1,0,none⟩) D.safe.length cap1,vD,?_⟩,?_,?_⟩
        ·refine⟨?_,?_,?_,?_,⟨.inl hf1.self,fun k e=>⟨.inl (hf1.safe k e).1,(hf1.safe k e).2⟩,fun k e=>⟨.inl (hf1.now k e).1,(hf1.now k e).2⟩,fun k e=>⟨.inr e,hob k e⟩,?_⟩,hok⟩
         ·rw[hh5];rfl
         ·refine HI1.out.safe.keep ks fun k e x=>?_
          rcases x with x | x | x
          ·subst x;exact(hf1.now k rfl).2.2 e
          ·exact(hf1.waits k x).2.2.1 e
          ·exact(hf1.safe k e).2 x
         ·have hr2:=Hr2.out.keep kz fun k e x=>by
           rcases x with x | x
           ·exact(hf1.waits k x).2.2.2 e
           ·exact(hf1.now k e).2.1 x
          have e1:(DM.now { (act D).2 with waits:=(act D).2.waits ++ [(at_.toNat,bs)] }).flatten=(DM.now (act D).2).flatten.take (at_.toNat * 32) ++ (bs ++ (DM.now (act D).2).flatten.drop (at_.toNat * 32+bs.length)):=by
           have e2:DM.now { (act D).2 with waits:=(act D).2.waits ++ [(at_.toNat,bs)] }=(DM.now (act D).2).set at_.toNat bs:=by simp[DM.now,puts]
           rw[e2,flat_set _ _ _ HI1.out.ok.now (by rw[now_length,act_safe];omega) hbl,hbl]
          show Row w5 _ 32 _ (act D).2.safe.length _
          rw[e1,act_safe]
          exact hr2
         ·show Row w5 _ 33 vD ((act D).2.waits ++ [(at_.toNat,bs)]).length (waitsV ((act D).2.waits ++ [(at_.toNat,bs)]))
          rw[List.length_append]
          have e3:waitsV ((act D).2.waits ++ [(at_.toNat,bs)])=waitsV (act D).2.waits ++ waitV (at_.toNat,bs):=by simp[waitsV]
          rw[e3]
          exact hr5
         ·intro k hF
          rcases hF with hF | hF
          ·exact Nat.lt_of_lt_of_le (hf1.lt k hF) ks.size
          ·exact hr5.lt hF
        ·refine hk1.next ks (fun _ _ x=>x) fun k hk x=>?_
         have inF:∀ k,k<w.heap.size→F1 k→F k:=fun k hk h=>(hF1 k h).elim id fun h=>by omega
         rcases x with x | x | x
         ·subst x;exact inF _ hk (hf1.now _ rfl).1
         ·exact inF _ hk (hf1.waits _ x).1
         ·subst x;exact inF _ hk hf1.self
        ·intro k hF
         rcases hF with hF | hF
         ·exact hF1 k hF
         ·rcases hown k hF with h | h
          ·exact hF1 k (hf1.waits k h).1
          ·exact .inr (by have:=hk1.size;have:=hk2.size;have:=hk3.size;omega)
     ·have c3':((n:Int) == 32)=false:=by simp;omega
      have c4:bs.length≠32:=by omega
      have HI:=hid hI
      clear hI hh hgn htk hDat
      go_enter Try.func55,Try.ntmps55
      go_wp2
      go_ret
      rw[Bad.out (.inr (.inr c4))]
      exact⟨rfl,HI.out.to (Keep.refl _ _)⟩
end Go.Proofs.Ytkjofdocgaiedaa
namespace Go.Proofs.Ytkjofdocgaiedaa
open Go.RowKit
open DM
set_option maxRecDepth 20000 in
set_option maxHeartbeats 800000 in
theorem sync_any (w:World) (b:Nat) (F:Nat→Prop) (D:Dk) (hD:DiskAt w b F D) (hfew:D.waits.length≤1000000) :
  Calls Try.prog 73 #[.pointer (some ⟨b,0,none⟩)] w fun e w'=>e = .returned (.int .i64 (DM.sync D).1)∧DiskTo b F w (DM.sync D).2 w':=by
 cases ha:(act D).1 with
 | false=>
   have hw:DM.sync D=(6,(act D).2):=by unfold DM.sync;simp[ha]
   have Hw:=hid hw
   clear hw
   go_enter Try.func73,Try.ntmps73
   go_wp2_with fail
   refine(act_any w b F D hD).mono ?_
   rintro e w1 ⟨rfl,hto⟩
   go_wp2
   go_ret
   exact⟨by rw[Hw.out];rfl,by rw[Hw.out];exact hto⟩
 | true=>
   have hw:DM.sync D=(0,{ (act D).2 with safe:=DM.now (act D).2,waits:=[] }):=by unfold DM.sync;simp[ha]
   have Hw:=hid hw
   have Hok:Hid (Ok (DM.sync D).2):=hid (hD.ok.sync)
   clear hw
   go_enter Try.func73,Try.ntmps73
   go_wp2_with fail
   refine(act_any w b F D hD).mono ?_
   rintro e w1 ⟨rfl,F1,⟨vs1,vn1,vw1,hI1⟩,hk1,hF1⟩
   have hpos:0<(act D).2.safe.length:=by rw[act_safe];exact hD.ok.pos
   obtain⟨D1,hD1⟩:∃ D1,D1=(act D).2:=⟨_,rfl⟩
   rw[← hD1] at hI1 hpos
   have hwl:D1.waits.length≤1000000:=by rw[hD1,act_waits];exact hfew
   have HD1:=hid hD1
   clear hD1
   have hh1:=hI1.head
   unfold diskCells at hh1
   obtain⟨g0,cap0,cur0,fz0,rfl,hg0,hfz0,hn0,hc0,hz0,ht0⟩:=hI1.safe.some hpos
   obtain⟨g1,cap1,cur1,fz1,rfl,hg1,hfz1,hn1,hc1,hz1,ht1⟩:=hI1.now.some hpos
   obtain⟨i0,i1,i2,i3,i4,i5,if1,ib1⟩:=cells6 hh1
   obtain⟨adw,capw,rfl,hwcap,hwmax,hwnil,hwad⟩:=hI1.waits.form
   have hnl:(bytesV (DM.now D1).flatten).length=D1.safe.length * 32:=hI1.now.len
   have hcp:=run_copy (P:=Try.prog) (w:=w1.drew) (sT:=68) (ty:=3) ty_sectors g0 0 D1.safe.length cap0 cur0 74 fz0 hg0 hfz0 (some ⟨g1,0,none⟩) D1.safe.length cap1 (bytesV (DM.now D1).flatten) _ (Nat.min_self _)
    (Cells.of_row (hI1.now.keep (Keep.refl (fun _=>False) w1).drew (fun _ _ x=>x))) (by rw[hnl,hz0];omega) (bytesV_one _)
   have hr2:Row (w1.drew.setRow g0 (splice cur0.toList 0 (bytesV (DM.now D1).flatten)).toArray) 74 32 (.slice (some ⟨g0,0,none⟩) D1.safe.length cap0) D1.safe.length (bytesV (DM.now D1).flatten):=by
    have h:=Row.spliced (w:=w1.drew) (hI1.safe.keep (Keep.refl (fun _=>False) w1).drew (fun _ _ x=>x)) hg0 0 (bytesV (DM.now D1).flatten) (by omega)
    rwa [splice_all (bytesV D1.safe.flatten) _ (by rw[hnl,hI1.safe.len])] at h
   have hgb:g0≠b:=(hI1.foot.safe g0 rfl).2
   have hk2:Keep (fun k=>k=g0) w1 (w1.drew.setRow g0 (splice cur0.toList 0 (bytesV (DM.now D1).flatten)).toArray):=by refine Keep.setRow (Keep.refl _ _).drew (.inl ?_) _;rfl
   have Hr2:=hid hr2
   have Hk2:=hid hk2
   have Hcp:=hid hcp
   have HI1:=hid hI1
   have Hh1:=hid hh1
   have Hhw:=hid hwad
   clear hr2 hk2 hcp hI1 hh1 hg0 hfz0 hz0 ht0 hg1 hfz1 hz1 ht1 hnl hwad
   go_wp2_with fail
   refine wp_region_canon [] (by kernel_rfl) (by kernel_rfl) ?_
   repeat (first | (apply wpC_pure (by rfl);(intro K w';go_simp;exact id)) | (apply wpC_load (by rfl);(intro K;go_simp;exact id)))
   refine wpC_act (by rfl) (by rfl) (fun K hK=>?_)
   go_simp
   rw[Hcp.out]
   go_simp
   refine hK _ _ ?_
   clear hK K
   obtain⟨w2,hw2⟩:∃ w2,w2=w1.drew.setRow g0 (splice cur0.toList 0 (bytesV (DM.now D1).flatten)).toArray:=⟨_,rfl⟩
   have hr2:=Hr2.out
   have hk2:=Hk2.out
   rw[← hw2] at hr2 hk2 ⊢
   clear Hr2 Hk2 Hcp hw2 i0 i1 i2 i3 i4 i5 if1 ib1
   have hh2:=hk2.get Hh1.out (fun e=>hgb e.symm)
   obtain⟨i0,i1,i2,i3,i4,i5,if1,ib1⟩:=cells6 hh2
   have Hh2:=hid hh2
   have Hr2:=hid hr2
   clear hh2 hr2
   refine wpC_nil ?_
   go_wp2_with fail
   have hrw:Row w2 76 33 (.slice adw D1.waits.length capw) D1.waits.length (waitsV D1.waits):=
    HI1.out.waits.keep hk2 fun k e x=>(HI1.out.foot.waits k e).2.2.1 (by rw[x];rfl)
   obtain⟨w3,ys,hcl,hr3,hk3⟩:=run_clear (P:=Try.prog) (ty:=0) ty_waits (by decide) hrw
   rw[hcl]
   clear hcl i0 i1 i2 i3 i4 i5 if1 ib1
   have hh3:=hk3.get Hh2.out (fun e=>(HI1.out.foot.waits _ e).2.1 rfl)
   obtain⟨i0,i1,i2,i3,i4,i5,if1,ib1⟩:=cells6 hh3
   have Hh3:=hid hh3
   have Hr3:=hid hr3
   have Hrw:=hid hrw
   clear hh3 hr3 hrw
   go_wp2_with fail
   go_ret
   refine⟨by rw[Hw.out];rfl,?_⟩
   have hok:=Hok.out
   rw[Hw.out] at hok ⊢
   rw[← HD1.out] at hok ⊢
   clear i0 i1 i2 i3 i4 i5 if1 ib1
   have hk4:Keep (fun k=>k=b) w3 (w3.setCell ⟨b,2,none⟩ (.slice adw 0 capw)):=by refine Keep.setCell (Keep.refl _ _) (.inl ?_) _;rfl
   have hh4:=heap_setCell6 Hh3.out 2 (.slice adw 0 capw)
   obtain⟨w4,hw4⟩:∃ w4,w4=w3.setCell ⟨b,2,none⟩ (.slice adw 0 capw):=⟨_,rfl⟩
   rw[← hw4] at hk4 hh4 ⊢
   clear hw4
   have hf1:=HI1.out.foot
   have kz:Keep (fun k=>(Value.slice adw D1.waits.length capw).ownBlock=some k∨k=b) w2 w4:=hk3.next hk4 (fun _ _ x=>.inl x) (fun _ _ x=>.inr x)
   have ks:Keep (fun k=>k=g0∨(Value.slice adw D1.waits.length capw).ownBlock=some k∨k=b) w1 w4:=hk2.next kz (fun _ _ x=>.inl x) (fun _ _ x=>.inr x)
   have hnl:(DM.now D1).length=D1.safe.length:=now_length _
   refine⟨F1,⟨.slice (some ⟨g0,0,none⟩) D1.safe.length cap0,.slice (some ⟨g1,0,none⟩) D1.safe.length cap1,.slice adw 0 capw,?_⟩,?_,hF1⟩
   ·refine⟨by rw[hh4];rfl,?_,?_,?_,⟨hf1.self,hf1.safe,hf1.now,fun k e=>hf1.waits k (by rw[← e];exact ownBlock_len _ _ _ _),fun k hF=>Nat.lt_of_lt_of_le (hf1.lt k hF) ks.size⟩,hok⟩
    ·show Row w4 _ 32 _ (DM.now D1).length _
     rw[hnl]
     exact Hr2.out.keep kz fun k e x=>by
      rcases x with x | x
      ·exact(hf1.waits k x).2.2.1 e
      ·exact(hf1.safe k e).2 x
    ·show Row w4 _ 32 _ (DM.now D1).length (bytesV (DM.now D1).flatten)
     rw[hnl]
     exact HI1.out.now.keep ks fun k e x=>by
      rcases x with x | x | x
      ·subst x;exact(hf1.now k e).2.2 rfl
      ·exact(hf1.waits k x).2.2.2 e
      ·exact(hf1.now k e).2.1 x
    ·have h5:=(Hr3.out.keep hk4 fun k e x=>(hf1.waits k e).2.1 x).cut 0 (Nat.zero_le _)
     simpa [waitsV] using h5
   ·refine hk1.next ks (fun _ _ x=>x) fun k hk x=>?_
    have inF:F1 k→F k:=fun h=>(hF1 k h).elim id fun h=>by omega
    rcases x with x | x | x
    ·subst x;exact inF (hf1.safe _ rfl).1
    ·exact inF (hf1.waits _ x).1
    ·subst x;exact inF hf1.self
set_option maxHeartbeats 800000 in
set_option maxRecDepth 20000 in
theorem read_any (w:World) (b:Nat) (F:Nat→Prop) (D:Dk) (at_:Int) (hD:DiskAt w b F D) (hlt:at_<9223372036854775808) :
  Calls Try.prog 61 #[.pointer (some ⟨b,0,none⟩),.int .i64 at_] w fun e w'=>
   ∃ v,e = .returned (.tuple #[v,.int .i64 (DM.read D at_).2])∧Row w' 5 1 v (DM.read D at_).1.length (bytesV (DM.read D at_).1)∧Keep (fun _=>False) w w'∧(∀ k,v.ownBlock=some k→w.heap.size≤k):=by
 obtain⟨vs,vn,vw,hI⟩:=hD
 have hh:=hI.head
 unfold diskCells at hh
 obtain⟨h0,h1,h2,h3,h4,h5,hf,hb⟩:=cells6 hh
 have hpos:=hI.ok.pos
 have hfewS:=hI.ok.few
 obtain⟨gn,cap,cur,fz,rfl,hgn,hfz,hncap,hcapm,hcurs,htk⟩:=hI.now.some hpos
 have out:∀ c,DM.read D at_=([],c)→∀ w',w'=w→∃ v,Ending.returned (.tuple #[.slice none 0 0,.int .i64 c]) = .returned (.tuple #[v,.int .i64 (DM.read D at_).2])∧Row w' 5 1 v (DM.read D at_).1.length (bytesV (DM.read D at_).1)∧Keep (fun _=>False) w w'∧(∀ k,v.ownBlock=some k→w.heap.size≤k):=by
  rintro c hc w' rfl
  refine⟨.slice none 0 0,by rw[hc],by rw[hc];exact Row.nil _ _ _,Keep.refl _ _,by simp[Value.ownBlock]⟩
 have Out:=hid out
 clear out
 cases hd:D.down with
 | true=>
   rw[hd] at h5
   have hw:DM.read D at_=([],6):=by unfold DM.read;rw[hd];rfl
   have Hw:=hid hw
   clear hw hh hgn htk
   go_enter Try.func61,Try.ntmps61
   go_wp2
   go_ret2
   exact Out.out _ Hw.out _ rfl
 | false=>
   rw[hd] at h5
   by_cases c1:at_<0
   ·have hw:DM.read D at_=([],30):=by unfold DM.read;rw[hd];simp[c1]
    have Hw:=hid hw
    clear hw hh hgn htk
    go_enter Try.func61,Try.ntmps61
    go_wp2
    go_ret2
    exact Out.out _ Hw.out _ rfl
   ·by_cases c2:(D.safe.length:Int)≤at_
    ·have hw:DM.read D at_=([],30):=by unfold DM.read;rw[hd];simp[c2]
     have Hw:=hid hw
     clear hw hh hgn htk
     go_enter Try.func61,Try.ntmps61
     go_wp2
     go_ret2
     exact Out.out _ Hw.out _ rfl
    ·have hw:DM.read D at_=((DM.now D).getD at_.toNat [],0):=by unfold DM.read;rw[hd];simp[c1,c2]
     have Hw:=hid hw
     have HI:=hid hI
     have hgn':=hgn
     clear hw hh hgn htk hI Out
     go_enter Try.func61,Try.ntmps61
     go_wp2_with (at_builtin;refine stopAt ?_;intro q hq)
     (refine hq.out ?_;clear hq q)
     have hsecl:((DM.now D).getD at_.toNat []).length=32:=by
      have hi:at_.toNat<(DM.now D).length:=by rw[now_length];omega
      have:=HI.out.ok.now _ (List.getElem_mem hi)
      simpa [List.getD,List.getElem?_eq_getElem hi] using this
     have hsec:∀ j u,(bytesV ((DM.now D).getD at_.toNat []))[j]?=some u→w.cell? ⟨gn,at_.toNat * 32+j,none⟩=some u:=by
      intro j u hu
      have hj:j<32:=by have:=(List.getElem?_eq_some_iff.1 hu).1;rw[bytesV_length,hsecl] at this;exact this
      rw[HI.out.now.cell _ (by omega),← hu,← flat_get _ _ HI.out.ok.now (by rw[now_length];omega)]
      simp[bytesV,hj,List.getElem?_drop]
     refine wpList_plain rfl (fun K hK=>?_)
     refine wp_append (v:=.slice (some ⟨w.heap.size,0,none⟩) 0 0) (n:=0) ty_bytes (.tmp 26) (.tmp 33) rfl rfl (Row.fresh w 5 1) (some ⟨gn,at_.toNat * 32,none⟩) 32 32 (bytesV ((DM.now D).getD at_.toNat [])) rfl
      ⟨by rw[bytesV_length,hsecl],fun _=>⟨_,rfl,fun j u hu=>by
       rw[addr_add,World.cell?_of_block (Below.heap_alloc w _ _ (heap_lt hgn'))];exact hsec j u hu⟩⟩ (bytesV_one _) (by decide) (by decide) ?_
     intro v1 w1 hr1 hk1 hv1
     refine hK _ _ ?_
     clear hK K
     have Hr1:=hid hr1
     have Hv1:=hid hv1
     clear hr1 hv1 hsec
     go_wp2_with (at_builtin;refine stopAt ?_;intro q hq)
     go_ret2
     refine⟨v1,by rw[Hw.out];rfl,by rw[Hw.out];show Row w1 _ 1 v1 ((DM.now D).getD at_.toNat []).length _;rw[hsecl];exact Hr1.out,?_,?_⟩
     ·exact(((Keep.refl (fun _=>False) w).alloc (.cells #[] 5)).next hk1 (H:=fun k=>k=w.heap.size) (fun _ _ x=>x.elim) (fun k _ x=>by simpa [Value.ownBlock] using x.symm)).mono fun k hk x=>by omega
     ·intro k hk
      rcases Hv1.out with ⟨_,h0⟩ | ⟨k',h1,h2⟩
      ·exact absurd h0 (by decide)
      ·rw[hk] at h1
       cases h1
       rcases h2 with h2 | h2
       ·simp[Value.ownBlock] at h2;omega
       ·simp at h2;omega
end Go.Proofs.Ytkjofdocgaiedaa
namespace Go.Proofs.Ytkjofdocgaiedaa
open Go.RowKit
open DM
structure RefSyncRel (w1:World) (b:Nat) (gs cap:Nat) (D1:Dk) (k:Nat) (wr:World):Prop where
 row:Row wr 9 1 (.slice (.some ⟨gs,0,none⟩) D1.safe.length cap) D1.safe.length (secsV (puts D1.safe (D1.waits.take k)))
 keep:Keep (fun j=>j=gs) w1 wr
end Go.Proofs.Ytkjofdocgaiedaa
namespace Go.Proofs.Ytkjofdocgaiedaa
open Go.RowKit
open DM
theorem blank_flat:∀ n,(List.replicate n DM.blank).flatten=List.replicate (n * 32) (0:UInt8)
 | 0=>by simp
 | n+1=>by
   rw[List.replicate_succ,List.flatten_cons,blank_flat n]
   apply List.ext_getElem
   ·simp[DM.blank];omega
   ·intro i h1 h2
    rw[List.getElem_replicate,List.getElem_append]
    split
    ·unfold DM.blank;exact List.getElem_replicate _
    ·exact List.getElem_replicate _
theorem new_rows (n:Nat):(madeCells secZero.cells (n * 32)).toList=bytesV (List.replicate n DM.blank).flatten:=by
 rw[madeCells_alike _ (.int .u8 0) (fun i hi=>by simp[secZero,Value.cells] at hi ⊢;simp[hi]) (by simp[secZero,Value.cells]),blank_flat]
 simp[bytesV]
theorem push3 {α:Type} (h:Array α) (a b c:α):(((h.push a).push b).push c)[h.size]?=some a∧(((h.push a).push b).push c)[h.size+1]?=some b∧(((h.push a).push b).push c)[h.size+2]?=some c:=by
 refine⟨?_,?_,?_⟩
 ·rw[Array.getElem?_push,if_neg (by simp;omega),Array.getElem?_push,if_neg (by simp),Array.getElem?_push,if_pos rfl]
 ·rw[Array.getElem?_push,if_neg (by simp),Array.getElem?_push,if_pos (by simp)]
 ·rw[Array.getElem?_push,if_pos (by simp)]
def newCells (n:Nat):Array Value:=madeCells secZero.cells (n * 32)
set_option maxRecDepth 20000 in
set_option maxHeartbeats 1000000 in
theorem new_any (w:World) (n:Nat) (h0:0<n) (h1:n≤2048) :
  Calls Try.prog 16 #[.int .i64 (n:Int)] w fun e w'=>∃ b F,e = .returned (.tuple #[.pointer (some ⟨b,0,none⟩),.int .i64 0])∧DiskAt w' b F (DM.new n)∧Keep (fun _=>False) w w'∧∀ k,F k→w.heap.size≤k:=by
 have c1:¬ (n:Int)<1:=by omega
 have c2:¬ 2048<(n:Int):=by omega
 have hmk:∀ wx:World,(Instr.makeSlice 68 (.int .i64 (n:Int)) (.int .i64 (n:Int))).run Try.prog wx = .ok (.slice (some ⟨wx.heap.size,0,none⟩) n n) (wx.alloc (.cells (newCells n) 74)):=
  fun wx=>run_make_n (P:=Try.prog) ty_sectors .i64 .i64 n (by omega) (by unfold maxLen;omega) wx
 have fin:∀ (gs gn:Nat),(gs=w.heap.size∧gn=w.heap.size+1∨gs=w.heap.size+1∧gn=w.heap.size)→∀ (w':World) (e:Ending),
   w'.heap=((w.heap.push (.cells (newCells n) 74)).push (.cells (newCells n) 74)).push (.cells #[.slice (some ⟨gs,0,none⟩) n n,.slice (some ⟨gn,0,none⟩) n n,.slice none 0 0,.bool false,.int .i64 0,.bool false] 71)→
   w'.os=w.os→w'.tape=w.tape→w'.output=w.output→e = .returned (.tuple #[.pointer (some ⟨w.heap.size+1+1,0,none⟩),.int .i64 0])→
   ∃ b F,e = .returned (.tuple #[.pointer (some ⟨b,0,none⟩),.int .i64 0])∧DiskAt w' b F (DM.new n)∧Keep (fun _=>False) w w'∧∀ k,F k→w.heap.size≤k:=by
  intro gs gn hg w' e hh ho ht hp he
  have hsz:w'.heap.size=w.heap.size+3:=by rw[hh];simp
  have b0:w'.heap[w.heap.size]?=some (.cells (newCells n) 74 (0,0)):=by rw[hh];exact(push3 _ _ _ _).1
  have b1:w'.heap[w.heap.size+1]?=some (.cells (newCells n) 74 (0,0)):=by rw[hh];exact(push3 _ _ _ _).2.1
  have b2:w'.heap[w.heap.size+2]?=some (.cells #[.slice (some ⟨gs,0,none⟩) n n,.slice (some ⟨gn,0,none⟩) n n,.slice none 0 0,.bool false,.int .i64 0,.bool false] 71 (0,0)):=by rw[hh];exact(push3 _ _ _ _).2.2
  have bs:w'.heap[gs]?=some (.cells (newCells n) 74 (0,0)):=by rcases hg with ⟨rfl,rfl⟩ | ⟨rfl,rfl⟩ <;> assumption
  have bn:w'.heap[gn]?=some (.cells (newCells n) 74 (0,0)):=by rcases hg with ⟨rfl,rfl⟩ | ⟨rfl,rfl⟩ <;> assumption
  have hm:n≤maxLen:=by unfold maxLen;omega
  have nl:(DM.new n).safe.length=n:=by simp[DM.new]
  have r:∀ g,w'.heap[g]?=some (.cells (newCells n) 74 (0,0))→Row w' 74 32 (.slice (some ⟨g,0,none⟩) n n) n (bytesV (List.replicate n DM.blank).flatten):=by
   intro g hg
   rw[← new_rows]
   exact Row.made hg hm
  refine⟨w.heap.size+2,fun k=>w.heap.size≤k∧k<w.heap.size+3,he,⟨_,_,_,b2,?_,?_,Row.nil _ _ _,⟨by omega,?_,?_,?_,fun k hk=>by omega⟩,Ok.new h0 h1⟩,⟨ho,ht,hp,by omega,?_⟩,fun k hk=>hk.1⟩
  ·rw[nl];exact r _ bs
  ·rw[nl];exact r _ bn
  ·intro k hk;simp[Value.ownBlock] at hk;omega
  ·intro k hk;simp[Value.ownBlock] at hk ⊢;omega
  ·intro k hk;simp[Value.ownBlock] at hk
  ·intro k hk _
   rw[hh,Array.getElem?_push,if_neg (by simp;omega),Array.getElem?_push,if_neg (by simp;omega),Array.getElem?_push,if_neg (by omega)]
 have Fin:=hid fin
 clear fin
 go_enter Try.func16,Try.ntmps16
 go_wp2
 go_region
 all_goals (go_wp2;go_ret2)
 all_goals (first | exact Fin.out _ _ (.inr ⟨rfl,rfl⟩) _ _ rfl rfl rfl rfl rfl | exact Fin.out _ _ (.inl ⟨rfl,rfl⟩) _ _ rfl rfl rfl rfl rfl)
end Go.Proofs.Ytkjofdocgaiedaa
namespace Go.Proofs.Ytkjofdocgaiedaa
open Go.RowKit
open DM
def intsV (l:List Int):List Value:=l.map (Value.int .i64)
theorem intsV_length (l:List Int):(intsV l).length=l.length:=by simp[intsV]
structure CrashRel (D:Dk) (ks:List Int) (wS:World) (vn:Value) (k:Nat) (wr:World):Prop where
 keep:Keep (fun i=>vn.ownBlock=some i) wS wr
 row:Row wr 74 32 vn D.safe.length (bytesV (tear D.safe (D.waits.take k) ks).flatten)
set_option maxRecDepth 20000 in
set_option maxHeartbeats 1600000 in
theorem crash_any (w:World) (b:Nat) (F:Nat→Prop) (D:Dk) (ao:Option Addr) (n c:Nat) (ks:List Int) (hD:DiskAt w b F D) (hsrc:Cells w ao n 1 (intsV ks))
  (hap:0<n→∀ x,ao=some x→¬ F x.block) (hn:n≤9223372036854775807) (hwf:∀ z ∈ ks,-9223372036854775808≤z∧z≤9223372036854775807) (hfew:D.waits.length≤1000000) :
  Calls Try.prog 17 #[.pointer (some ⟨b,0,none⟩),.slice ao n c] w fun e w'=>e = .returned (.tuple #[])∧DiskTo b F w (DM.crash D ks) w':=by
 obtain⟨vs1,vn1,vw1,hI1⟩:=hD
 have Hok:Hid (Ok (DM.crash D ks)):=hid (hI1.ok.crash ks)
 have hpos:=hI1.ok.pos
 have hkl:ks.length=n:=by have:=hsrc.1;rw[intsV_length] at this;omega
 have hh1:=hI1.head
 unfold diskCells at hh1
 obtain⟨g0,cap0,cur0,fz0,rfl,hg0,hfz0,hn0,hc0,hz0,ht0⟩:=hI1.safe.some hpos
 obtain⟨g1,cap1,cur1,fz1,rfl,hg1,hfz1,hn1,hc1,hz1,ht1⟩:=hI1.now.some hpos
 obtain⟨i0,i1,i2,i3,i4,i5,if1,ib1⟩:=cells6 hh1
 obtain⟨adw,capw,rfl,hwcap,hwmax,hwnil,hwad⟩:=hI1.waits.form
 have hnl:(bytesV D.safe.flatten).length=D.safe.length * 32:=hI1.safe.len
 have hcp:=run_copy (P:=Try.prog) (w:=w.drew) (sT:=68) (ty:=3) ty_sectors g1 0 D.safe.length cap1 cur1 74 fz1 hg1 hfz1 (some ⟨g0,0,none⟩) D.safe.length cap0 (bytesV D.safe.flatten) _ (Nat.min_self _)
   (Cells.of_row (hI1.safe.keep (Keep.refl (fun _=>False) w).drew (fun _ _ x=>x))) (by rw[hnl,hz1];omega) (bytesV_one _)
 have hr2:Row (w.drew.setRow g1 (splice cur1.toList 0 (bytesV D.safe.flatten)).toArray) 74 32 (.slice (some ⟨g1,0,none⟩) D.safe.length cap1) D.safe.length (bytesV D.safe.flatten):=by
   have h:=Row.spliced (w:=w.drew) (hI1.now.keep (Keep.refl (fun _=>False) w).drew (fun _ _ x=>x)) hg1 0 (bytesV D.safe.flatten) (by omega)
   rwa [splice_all (bytesV (DM.now D).flatten) _ (by rw[hnl,hI1.now.len])] at h
 have hgb:g1≠b:=(hI1.foot.now g1 rfl).2.1
 have hk2:Keep (fun k=>k=g1) w (w.drew.setRow g1 (splice cur1.toList 0 (bytesV D.safe.flatten)).toArray):=by refine Keep.setRow (Keep.refl _ _).drew (.inl ?_) _;rfl
 have Hr2:=hid hr2
 have Hk2:=hid hk2
 have Hcp:=hid hcp
 have HI1:=hid hI1
 have Hh1:=hid hh1
 have Hhw:=hid hwad
 have Hnil:=hid hwnil
 clear hr2 hk2 hcp hI1 hh1 hg0 hfz0 hz0 ht0 hg1 hfz1 hz1 ht1 hnl hwad hwnil
 go_enter Try.func17,Try.ntmps17
 go_wp2_with (at_builtin;refine stopAt ?_;intro q hq)
 refine wp_region_canon [] (by kernel_rfl) (by kernel_rfl) ?_
 repeat (first | (apply wpC_pure (by rfl);(intro K w';go_simp;exact id)) | (apply wpC_load (by rfl);(intro K;go_simp;exact id)))
 refine wpC_act (by rfl) (by rfl) (fun K hK=>?_)
 go_simp
 rw[Hcp.out]
 go_simp
 refine hK _ _ ?_
 clear hK K
 obtain⟨w2,hw2⟩:∃ w2,w2=w.drew.setRow g1 (splice cur1.toList 0 (bytesV D.safe.flatten)).toArray:=⟨_,rfl⟩
 have hr2:=Hr2.out
 have hk2:=Hk2.out
 rw[← hw2] at hr2 hk2 ⊢
 clear Hr2 Hk2 Hcp hw2 i0 i1 i2 i3 i4 i5 if1 ib1
 have hh2:=hk2.get Hh1.out (fun e=>hgb e.symm)
 obtain⟨i0,i1,i2,i3,i4,i5,if1,ib1⟩:=cells6 hh2
 have Hh2:=hid hh2
 have Hr2:=hid hr2
 have Hk2:=hid hk2
 clear hh2 hr2 hk2
 refine wpC_nil ?_
 go_wp2_with (at_builtin;refine stopAt ?_;intro q hq)
 clear i0 i1 i2 i3 i4 i5 if1 ib1
 go_loopw [22] (fun v wr=>∃ k:Nat,k≤D.waits.length∧v = .int .i64 k∧Hid (CrashRel D ks w2 (.slice (some ⟨g1,0,none⟩) D.safe.length cap1) k wr)) (fun v _=>D.waits.length - (intOf v).toNat)
 case atStart=>exact⟨0,Nat.zero_le _,rfl,hid ⟨Keep.refl _ _,by simpa [tear] using Hr2.out⟩⟩
 case round=>
  obtain⟨k,hk,rfl,HR⟩:=hrel
  have hrr:=HR.out.row
  have hkr:=HR.out.keep
  have kwr:Keep (fun i=>i=g1) w wr:=Hk2.out.next hkr (fun _ _ x=>x) (fun i _ x=>by simpa [Value.ownBlock] using x.symm)
  have hhr:=hkr.get Hh2.out (fun e=>hgb (by simpa [Value.ownBlock] using e))
  obtain⟨i0,i1,i2,i3,i4,i5,if1,ib1⟩:=cells6 hhr
  have hwr:Row wr 76 33 (.slice adw D.waits.length capw) D.waits.length (waitsV D.waits):=
   HI1.out.waits.keep kwr fun k e x=>(HI1.out.foot.waits k e).2.2.2 (by rw[x];rfl)
  by_cases hlt:k<D.waits.length
  ·obtain⟨gw,capw',curw,fzw,hvw,hgw,hfzw,-⟩:=hwr.some (by omega)
   simp only[Value.slice.injEq] at hvw
   obtain⟨rfl,-,rfl⟩:=hvw
   have hpl:=(HI1.out.ok.waits _ (List.getElem_mem hlt)).2
   have hcell:∀ j u,(waitV D.waits[k])[j]?=some u→wr.cell? ⟨gw,k * 33+j,none⟩=some u:=by
    intro j u hu
    have hj:j<33:=by have:=(List.getElem?_eq_some_iff.1 hu).1;simp[waitV,bytesV_length,hpl] at this;omega
    rw[hwr.cell _ (by omega),waitsV_get D.waits (fun p hp=>(HI1.out.ok.waits p hp).2) k hlt j hj]
    exact hu
   clear hgw hfzw hrr hkr hhr
   have Hwr:=hid hwr
   have Hcell:=hid hcell
   have Kwr:=hid kwr
   clear hwr hcell kwr
   go_wp2_with (first | (at_builtin;refine stopAt ?_;intro q hq) | (refine stopOp (.load 76 _) rfl ?_;intro q hq) | (refine stopOp (.alloc _) rfl ?_;intro q hq) | (refine stopOp (.store 76 _ _) rfl ?_;intro q hq))
   (refine hq.out ?_;clear hq q)
   have hwl:(waitV D.waits[k]).length=33:=by simp[waitV,bytesV_length,hpl]
   have Hwl:=hid hwl
   clear hwl
   refine wpList_plain rfl (fun K hK=>?_)
   refine wp_load_at 76 (.tmp 25) rfl gw (k * 33) rfl (waitV D.waits[k]) Hcell.out _ Try.underlying76 rfl (by rw[Hwl.out];kernel_rfl) ?_
   refine hK _ _ ?_
   clear hK K
   go_wp2_with (first | (at_builtin;refine stopAt ?_;intro q hq) | (refine stopOp (.alloc _) rfl ?_;intro q hq) | (refine stopOp (.store 76 _ _) rfl ?_;intro q hq))
   (refine hq.out ?_;clear hq q)
   refine wpList_plain rfl (fun K hK=>?_)
   refine wp_alloc 76 rfl waitZero (by kernel_rfl) ?_
   refine hK _ _ ?_
   clear hK K
   have hgn:=heap_alloc_new wr (.cells waitZero.cells 76)
   have hkA:Keep (fun _=>False) wr (wr.alloc (.cells waitZero.cells 76)):=(Keep.refl _ _).alloc _
   obtain⟨wA,hwA⟩:∃ wA,wA=wr.alloc (.cells waitZero.cells 76):=⟨_,rfl⟩
   rw[← hwA] at hgn hkA ⊢
   clear hwA
   have Hgn:=hid hgn
   clear hgn
   go_wp2_with (first | (at_builtin;refine stopAt ?_;intro q hq) | (refine stopOp (.store 76 _ _) rfl ?_;intro q hq))
   (refine hq.out ?_;clear hq q)
   refine wpList_plain rfl (fun K hK=>?_)
   have hgn:=Hgn.out
   refine wp_store_row 76 (.tmp 5) (.tmp 26) rfl wr.heap.size rfl (waitV D.waits[k]) rfl 76 waitZero.cells (0,0) hgn (Free.zero _) (by rw[Hwl.out];rfl) (by
    intro u hu;simp only[waitV,List.mem_cons] at hu;rcases hu with rfl | hu;rfl;exact bytesV_one _ u hu) (by rw[Hwl.out];kernel_rfl) ?_
   refine hK _ _ ?_
   clear hK K
   have hg3:=setRow_heap _ wr.heap.size _ (waitV D.waits[k]).toArray _ _ hgn
   have hk3:Keep (fun _=>False) wr (wA.setRow wr.heap.size (waitV D.waits[k]).toArray):=by
    refine Keep.setRow hkA (.inr ?_) _
    exact Nat.le_refl _
   obtain⟨w3,hw3⟩:∃ w3,w3=wA.setRow wr.heap.size (waitV D.waits[k]).toArray:=⟨_,rfl⟩
   rw[← hw3] at hg3 hk3 ⊢
   clear hw3 hgn Hgn hkA i0 i1 i2 i3 i4 i5 if1 ib1
   have hh3:=hk3.get (HR.out.keep.get Hh2.out (fun e=>hgb (by simpa [Value.ownBlock] using e))) id
   obtain⟨i0,i1,i2,i3,i4,i5,if1,ib1⟩:=cells6 hh3
   have Hh3:=hid hh3
   have f0:w3.cell? ⟨wr.heap.size,0,none⟩=some (.int .i64 (D.waits[k].1:Int)):=by rw[cell_of_row _ _ _ _ _ _ hg3];simp[waitV]
   have Hg3:=hid hg3
   clear hh3 hg3
   have hgr:wr.heap.size<w3.heap.size:=heap_lt Hg3.out
   by_cases hkn:k<n
   ·have hkk:(intsV ks)[k]?=some (.int .i64 (ks[k]'(by omega))):=by simp[intsV,show k<ks.length by omega]
    have hpk:=(HI1.out.ok.waits _ (List.getElem_mem hlt)).1
    have hpos':=HI1.out.ok.few
    obtain⟨ad,had,hadc⟩:=hsrc.2 (by omega)
    subst had
    have hadF:=hap (by omega) _ rfl
    have hkc:w3.cell? (ad.add k)=some (.int .i64 (ks[k]'(by omega))):=by
     have hb:(ad.add k).block=ad.block:=by unfold Addr.add;split <;> rfl
     have h1:=hadc k _ hkk
     have hlt1:=World.block_lt_of_cell? w _ h1
     rw[← h1]
     refine World.cell?_of_block ?_
     rw[hk3.block _ (Nat.lt_of_lt_of_le hlt1 Kwr.out.size) id,Kwr.out.block _ hlt1 (fun e=>hadF (by rw[← hb,e];exact(HI1.out.foot.now g1 rfl).1))]
    have hzb : -9223372036854775808≤ks[k]'(by omega)∧ks[k]'(by omega)≤9223372036854775807:=hwf _ (List.getElem_mem (by omega))
    obtain⟨z,hz⟩:∃ z,z=ks[k]'(by omega):=⟨_,rfl⟩
    rw[← hz] at hkc hzb
    have Hz:=hid hz
    obtain⟨p,hp⟩:∃ p,p=D.waits[k]:=⟨_,rfl⟩
    rw[← hp] at f0 hpk hpl Hg3 ⊢
    have Hp:=hid hp
    clear hz hp hadc hkk Hcell hadF
    go_wp2_with (at_builtin;refine stopAt ?_;intro q hq)
    refine wp_region_canon [] (by kernel_rfl) (by kernel_rfl) ?_
    repeat (first | (apply wpC_pure (by rfl);(intro K w';go_simp;exact id)) | (apply wpC_load (by rfl);(intro K;go_simp;exact id)))
    have ecl:(if 32<(if z<0 then 0 else z) then 32 else if z<0 then 0 else z)=((clamp z:Nat):Int):=by unfold clamp;split <;> split <;> omega
    rw[ecl]
    have hcl:=clamp_le z
    obtain⟨m,hm⟩:∃ m,m=clamp z:=⟨_,rfl⟩
    rw[← hm] at hcl ⊢
    have Hm:=hid hm
    clear hm ecl
    have hsl:=fun w'=>run_sliceAt_hi (P:=Try.prog) Try.underlying74 (by kernel_rfl) wr.heap.size 1 .i64 m hcl w'
    repeat (apply wpC_pure (by rfl);(intro K w';go_simp;exact id))
    clear hsl
    have hrr:=HR.out.row.keep (hk3.drew) (fun _ _ x=>x)
    obtain⟨g1',cap1',cur',fz',hv',hg',hfz',-,-,hz',-⟩:=hrr.some hpos
    simp only[Value.slice.injEq,Option.some.injEq,Addr.mk.injEq] at hv'
    obtain⟨⟨rfl,-,-⟩,-,rfl⟩:=hv'
    have hsr:Cells w3.drew (some ⟨wr.heap.size,1,none⟩) m 1 (bytesV (p.2.take m)):=by
     refine⟨by rw[bytesV_length,List.length_take];omega,fun _=>⟨_,rfl,fun j u hu=>?_⟩⟩
     rw[addr_add]
     show w3.cell? ⟨wr.heap.size,1+j,none⟩=some u
     rw[cell_of_row _ _ _ _ _ _ Hg3.out]
     have hj:j<m:=by have:=(List.getElem?_eq_some_iff.1 hu).1;rw[bytesV_length,List.length_take] at this;omega
     rw[← hu,Nat.add_comm]
     simp[waitV,bytesV,hj]
    have hTl:(tear D.safe (D.waits.take k) ks).length=D.safe.length:=tear_length _ _ _
    have hT32:∀ x ∈ tear D.safe (D.waits.take k) ks,x.length=32:=tear_len32 _ _ _ HI1.out.ok.safe fun q hq=>HI1.out.ok.waits q (List.mem_of_mem_take hq)
    have hfl:(bytesV (p.2.take m)).length=m:=by rw[bytesV_length,List.length_take];omega
    have hcp:=run_copy (P:=Try.prog) (w:=w3.drew) (sT:=29) (ty:=3) ty_bytes g1 (p.1 * 32) 32 32 cur' 74 fz' hg' hfz' (some ⟨wr.heap.size,1,none⟩) m 32 (bytesV (p.2.take m)) m (by omega) hsr (by rw[hfl,hz'];omega) (bytesV_one _)
    have hr4:=Row.spliced hrr hg' (p.1 * 32) (bytesV (p.2.take m)) (by omega)
    have hk4:Keep (fun k=>k=g1) wr (w3.drew.setRow g1 (splice cur'.toList (p.1 * 32) (bytesV (p.2.take m))).toArray):=by
     refine Keep.setRow (hk3.drew.mono (fun _ _ x=>x.elim)) (.inl ?_) _;rfl
    rw[splice_bytes,List.length_take,hpl,Nat.min_eq_left hcl,Hm.out,← torn_flat _ _ _ hT32 hpl (by omega)] at hr4
    refine wpC_act (by rfl) (by rfl) (fun K hK=>?_)
    go_simp
    refine hK _ _ ?_
    clear hK K hcp
    obtain⟨w4,hw4⟩:∃ w4,w4=w3.drew.setRow g1 (splice cur'.toList (p.1 * 32) (bytesV (p.2.take m))).toArray:=⟨_,rfl⟩
    have hr4':Row w4 74 32 (.slice (some ⟨g1,0,none⟩) D.safe.length cap1) D.safe.length (bytesV (torn (tear D.safe (D.waits.take k) ks) p z).flatten):=by rw[hw4,Hm.out];exact hr4
    rw[← hw4] at hk4 ⊢
    clear hw4 hr4 hrr hg' hz' hfz' hsr hTl hT32 hfl
    have Hr4:=hid hr4'
    have Hk4:=hid hk4
    clear hr4' hk4 i0 i1 i2 i3 i4 i5 if1 ib1
    refine wpC_nil ?_
    go_wp2_with (at_builtin;refine stopAt ?_;intro q hq)
    go_roundw
    case rel=>
     refine⟨k+1,by omega,by go_num,hid ⟨HR.out.keep.next Hk4.out (fun _ _ x=>x) (fun i _ x=>by subst x;rfl),?_⟩⟩
     rw[tear_take _ _ _ _ hlt,dif_pos (by omega:k<ks.length),← Hz.out,← Hp.out]
     exact Hr4.out
    case measure=>simp[intOf];omega
   ·go_wp2_with (at_builtin;refine stopAt ?_;intro q hq)
    go_roundw
    case rel=>
     refine⟨k+1,by omega,by go_num,hid ⟨HR.out.keep.next hk3 (fun _ _ x=>x) (fun i _ x=>x.elim),?_⟩⟩
     rw[tear_take _ _ _ _ hlt,dif_neg (by omega:¬ k<ks.length)]
     exact HR.out.row.keep hk3 (fun _ _ x=>x)
    case measure=>simp[intOf];omega
  ·obtain rfl:k=D.waits.length:=by omega
   rw[List.take_length] at hrr
   have hTl:(tear D.safe D.waits ks).length=D.safe.length:=tear_length _ _ _
   have hsr:=HI1.out.safe.keep kwr (fun k e x=>by subst x;exact(HI1.out.foot.now k rfl).2.2 e)
   obtain⟨g0',cap0',cur',fz',hv',hg',hfz',-,-,hz',-⟩:=hsr.some hpos
   simp only[Value.slice.injEq,Option.some.injEq,Addr.mk.injEq] at hv'
   obtain⟨⟨rfl,-,-⟩,-,rfl⟩:=hv'
   have hnl:=hrr.len
   have hcp:=run_copy (P:=Try.prog) (w:=wr.drew) (sT:=68) (ty:=3) ty_sectors g0 0 D.safe.length cap0 cur' 74 fz' hg' hfz' (some ⟨g1,0,none⟩) D.safe.length cap1 (bytesV (tear D.safe D.waits ks).flatten) _ (Nat.min_self _)
    (Cells.of_row (hrr.keep (Keep.refl (fun _=>False) wr).drew (fun _ _ x=>x))) (by rw[hnl,hz'];omega) (bytesV_one _)
   have hr3:Row (wr.drew.setRow g0 (splice cur'.toList 0 (bytesV (tear D.safe D.waits ks).flatten)).toArray) 74 32 (.slice (some ⟨g0,0,none⟩) D.safe.length cap0) D.safe.length (bytesV (tear D.safe D.waits ks).flatten):=by
    have h:=Row.spliced (w:=wr.drew) (hsr.keep (Keep.refl (fun _=>False) wr).drew (fun _ _ x=>x)) hg' 0 (bytesV (tear D.safe D.waits ks).flatten) (by omega)
    rwa [splice_all (bytesV D.safe.flatten) _ (by rw[hnl,hsr.len])] at h
   have hk3:Keep (fun k=>k=g0) wr (wr.drew.setRow g0 (splice cur'.toList 0 (bytesV (tear D.safe D.waits ks).flatten)).toArray):=by refine Keep.setRow (Keep.refl _ _).drew (.inl ?_) _;rfl
   have Hr3:=hid hr3
   have Hk3:=hid hk3
   have Hhr:=hid hhr
   have Hrr:=hid hrr
   have Hkr:=hid hkr
   have Kwr:=hid kwr
   clear hr3 hk3 hhr hrr hkr kwr hsr hg' hfz' hz' hnl hwr
   go_wp2_with (at_builtin;refine stopAt ?_;intro q hq)
   refine wp_region_canon [] (by kernel_rfl) (by kernel_rfl) ?_
   repeat (first | (apply wpC_pure (by rfl);(intro K w';go_simp;exact id)) | (apply wpC_load (by rfl);(intro K;go_simp;exact id)))
   refine wpC_act (by rfl) (by rfl) (fun K hK=>?_)
   go_simp
   refine hK _ _ ?_
   clear hK K hcp
   obtain⟨w3,hw3⟩:∃ w3,w3=wr.drew.setRow g0 (splice cur'.toList 0 (bytesV (tear D.safe D.waits ks).flatten)).toArray:=⟨_,rfl⟩
   have hr3:=Hr3.out
   have hk3:=Hk3.out
   rw[← hw3] at hr3 hk3 ⊢
   clear Hr3 Hk3 hw3 i0 i1 i2 i3 i4 i5 if1 ib1
   have hgb0:g0≠b:=(HI1.out.foot.safe g0 rfl).2
   have hh3:=hk3.get Hhr.out (fun e=>hgb0 e.symm)
   obtain⟨i0,i1,i2,i3,i4,i5,if1,ib1⟩:=cells6 hh3
   have Hh3:=hid hh3
   have Hr3:=hid hr3
   have Hk3:=hid hk3
   clear hh3 hr3 hk3
   refine wpC_nil ?_
   go_wp2_with (at_builtin;refine stopAt ?_;intro q hq)
   go_end0
   refine⟨rfl,?_⟩
   clear i0 i1 i2 i3 i4 i5 if1 ib1
   have hk4:Keep (fun k=>k=b) w3 ((((w3.setCell ⟨b,2,none⟩ (.slice none 0 0)).setCell ⟨b,3,none⟩ (.bool false)).setCell ⟨b,4,none⟩ (.int .i64 0)).setCell ⟨b,5,none⟩ (.bool false)):=by
    refine Keep.setCell (Keep.setCell (Keep.setCell (Keep.setCell (Keep.refl _ _) (.inl ?_) _) (.inl ?_) _) (.inl ?_) _) (.inl ?_) _ <;> rfl
   have hh4:=heap_setCell6 (heap_setCell6 (heap_setCell6 (heap_setCell6 Hh3.out 2 (.slice none 0 0)) 3 (.bool false)) 4 (.int .i64 0)) 5 (.bool false)
   obtain⟨w4,hw4⟩:∃ w4,w4=(((w3.setCell ⟨b,2,none⟩ (.slice none 0 0)).setCell ⟨b,3,none⟩ (.bool false)).setCell ⟨b,4,none⟩ (.int .i64 0)).setCell ⟨b,5,none⟩ (.bool false):=⟨_,rfl⟩
   rw[← hw4] at hk4 hh4 ⊢
   clear hw4
   have hf1:=HI1.out.foot
   have kz:Keep (fun k=>k=g0∨k=b) wr w4:=Hk3.out.next hk4 (fun _ _ x=>.inl x) (fun _ _ x=>.inr x)
   have ks':Keep (fun k=>k=g1∨k=g0∨k=b) w w4:=Kwr.out.next kz (fun _ _ x=>.inl x) (fun _ _ x=>.inr x)
   refine DiskIs.to (vs:=.slice (some ⟨g0,0,none⟩) D.safe.length cap0) (vn:=.slice (some ⟨g1,0,none⟩) D.safe.length cap1) (vw:=.slice none 0 0) ?_ (ks'.mono fun k hk x=>?_)
   ·refine⟨by rw[hh4];rfl,?_,?_,Row.nil _ _ _,⟨hf1.self,hf1.safe,hf1.now,fun k e=>by simp[Value.ownBlock] at e,fun k hF=>Nat.lt_of_lt_of_le (hf1.lt k hF) ks'.size⟩,Hok.out⟩
    ·show Row w4 _ 32 _ (tear D.safe D.waits ks).length (bytesV (tear D.safe D.waits ks).flatten)
     rw[hTl]
     exact Hr3.out.keep hk4 fun k e x=>(hf1.safe k e).2 x
    ·show Row w4 _ 32 _ (tear D.safe D.waits ks).length (bytesV (tear D.safe D.waits ks).flatten)
     rw[hTl]
     exact Hrr.out.keep kz fun k e x=>by
      rcases x with x | x
      ·subst x;exact(hf1.now k e).2.2 rfl
      ·exact(hf1.now k e).2.1 x
   ·rcases x with x | x | x
    ·subst x;exact(hf1.now _ rfl).1
    ·subst x;exact(hf1.safe _ rfl).1
    ·subst x;exact hf1.self
end Go.Proofs.Ytkjofdocgaiedaa
namespace Go.Proofs.Ytkjofdocgaiedaa
open Go.RowKit
open DM
end Go.Proofs.Ytkjofdocgaiedaa
namespace Go.Proofs.Ytkjofdocgaiedaa
open Go.RowKit
open DM
structure SpoilRel (w:World) (v:Value) (n:Nat) (wr:World):Prop where
 ex:∃ l:List UInt8,Row wr 5 1 v n (bytesV l)
 keep:Keep (fun j=>v.ownBlock=some j) w wr
end Go.Proofs.Ytkjofdocgaiedaa
namespace Go.Proofs.Ytkjofdocgaiedaa
open Go.RowKit
open DM
theorem str_extract (l:List UInt8) (i j:Nat):(str l).extract i j=str ((l.take j).drop i):=by
 apply ByteArray.ext
 simp[str,ByteArray.data_extract,List.extract_toArray,List.drop_take,List.extract]
structure RefCrashRel (w:World) (b:Nat) (gs cap:Nat) (D:Dk) (ks:List Int) (k:Nat) (wr:World):Prop where
 row:Row wr 9 1 (.slice (.some ⟨gs,0,none⟩) D.safe.length cap) D.safe.length (secsV (tear D.safe (D.waits.take k) ks))
 keep:Keep (fun j=>j=gs) w wr
end Go.Proofs.Ytkjofdocgaiedaa
