/- Texts Lists, Slc, Disk, Ref, RefW, RefR, DiskW, DiskS, RefS, DiskN0, DiskC, RefN, Spoil, RefC in one. Conditions: as each law names them. -/
import Derived.Test.YtkjofdocgaiedaaGreatChecked
import Derived.Laws.IdiomStrings
import Derived.WalkLawsBesides
import Derived.WalkSpells
import Derived.WalkKit
import Derived.Test.YtkjofdocgaiedaaGreatUaa
import Derived.Test.YtkjofdocgaiedaaGreatUac
set_option maxRecDepth 20000
set_option maxHeartbeats 8000000
namespace Go.Proofs.YtkjofdocgaiedaaGreat
section
open Go.RowKit
theorem z0U:SliceTy Tryz.prog 29 5 (.int .u8 0) 1 1:=⟨by kernel_rfl,by kernel_rfl,rfl,by decide⟩
abbrev Fresh:=FreshU 5
theorem zpR (w:World) (ao:Option Addr) (n c:Nat) (l:List UInt8) (h1:Cells w ao n 1 (z0B l)) (hn:n≤140737488355328) :
  Calls Tryz.prog 64 #[.slice ao n c] w fun e w'=>∃ v,e = .returned v∧Fresh w v l w':=by
 have hl:l.length=n:=by have:=h1.1;rw[z0D] at this;omega
 have Hl:=hid hl;clear hl;go_enter Tryz.func64,Tryz.ntmps64;go_wp2_with (at_builtin;refine z0A ?_;intro q hq)
 (refine hq.out ?_;clear hq q)
 refine wpList_plain rfl (fun K hK=>?_);refine z0R (v:=.slice none 0 0) (n:=0) z0U (.tmp 4) (.tmp 5) rfl rfl (Row.nil _ _ _) ao n c (z0B l) rfl h1 (z1I _) (by unfold maxLen;omega) (by omega) ?_;intro v2 w2 hr2 hk2 hv2;rw[Nat.zero_add,List.nil_append] at hr2;refine hK _ _ ?_;clear hK K
 have hF:Fresh w v2 l w2:=by
  refine⟨by rw[Hl.out];exact hr2,hk2.mono (fun i hi x=>by simp[Value.ownBlock] at x),fun k hk=>?_⟩
  rcases hv2 with ⟨h0,_⟩ | ⟨k',h1,h2⟩
  ·rw[h0] at hk;simp[Value.ownBlock] at hk
  ·rw[hk] at h1;cases h1
   rcases h2 with h2 | h2
   ·simp[Value.ownBlock] at h2
   ·omega
 have HF:=hid hF;clear hF hr2 hk2 hv2;go_wp2_with (at_builtin;refine z0A ?_;intro q hq);go_ret;exact⟨_,rfl,HF.out⟩
end
section
open Go.RowKit
theorem zaW {P:Program} {t e:TypeId} {z:Value} {size bytes:Nat} (T:SliceTy P t e z size bytes) (ao:Option Addr) (n cap:Nat) (k:IntKind) (hi:Nat) (h1:hi≤cap) (w:World) :
  (Instr.sliceAt t (.slice ao n cap) none (some (.int k (hi:Int))) none).run P w = .ok (.slice ao hi cap) w:=by
 obtain⟨ht,hinfo,hzs,hpos⟩:=T
 obtain⟨i,hi',hsize⟩:∃ i,P.info? e=some i∧i.size=size:=by
  cases hq:P.info? e with
  | none=>simp[hq] at hinfo
  | some i=>simp[hq] at hinfo;exact⟨i,rfl,hinfo.2.1⟩
 subst hsize;have h0:(0:Int)≤(hi:Int)∧(hi:Int)≤(cap:Int):=by omega
 simp[Instr.sliceAt,Instr.slice,run_underlying ht,Instr.sliceBounds,Instr.sliceBound,asIntOf,h0,h1,sizeOf,typeInfo,hi',Addr.add]
theorem z1R {P:Program} {t e:TypeId} {z:Value} {size bytes:Nat} (T:SliceTy P t e z size bytes) (ao:Option Addr) (n cap:Nat) (k k':IntKind) (lo hi:Nat) (h1:lo≤hi) (h2:hi≤cap) (w:World) :
  (Instr.sliceAt t (.slice ao n cap) (some (.int k (lo:Int))) (some (.int k' (hi:Int))) none).run P w = .ok (.slice (z1E ao cap lo size) (hi - lo) (cap - lo)) w:=by
 obtain⟨ht,hinfo,hzs,hpos⟩:=T
 obtain⟨i,hi',hsize⟩:∃ i,P.info? e=some i∧i.size=size:=by
  cases hq:P.info? e with
  | none=>simp[hq] at hinfo
  | some i=>simp[hq] at hinfo;exact⟨i,rfl,hinfo.2.1⟩
 subst hsize;have h0:(0:Int)≤(hi:Int)∧(hi:Int)≤(cap:Int):=by omega
 have h3:(0:Int)≤(lo:Int)∧(lo:Int)≤(hi:Int):=by omega
 simp[Instr.sliceAt,Instr.slice,run_underlying ht,Instr.sliceBounds,Instr.sliceBound,asIntOf,h0,h1,h2,h3,sizeOf,typeInfo,hi',z1E]
end
section
open Go.RowKit
open DM
def z3A (p:Nat×Sec):List Value:=.int .i64 (p.1:Int) :: z0B p.2
def z6I (l:List (Nat×Sec)):List Value:=l.flatMap z3A
theorem zcQ:∀ (l:List (Nat×Sec)),(∀ p ∈ l,p.2.length=32)→∀ (k:Nat) (hk:k<l.length) (j:Nat),j<33→(z6I l)[k * 33+j]?=(z3A l[k])[j]?
 | [],_,k,hk,_,_=>absurd hk (Nat.not_lt_zero _)
 | p :: l,h,0,_,j,hj=>by
   have hp:(z3A p).length=33:=by simp[z3A,z0D,h p (by simp)]
   simp only[z6I,List.flatMap_cons,Nat.zero_mul,Nat.zero_add,List.getElem_cons_zero];rw[List.getElem?_append_left (by omega)]
 | p :: l,h,k+1,hk,j,hj=>by
   have hp:(z3A p).length=33:=by simp[z3A,z0D,h p (by simp)]
   have ih:=zcQ l (fun q hq=>h q (by simp[hq])) k (by simpa using hk) j hj;simp only[z6I,List.flatMap_cons,List.getElem_cons_succ] at ih ⊢;rw[List.getElem?_append_right (by omega),← ih];congr 1;omega
def z9N:Value:=.agg (Array.replicate 32 (.int .u8 0))
theorem z7J:SliceTy Tryz.prog 92 157 z9N 32 32:=⟨by kernel_rfl,by kernel_rfl,by simp[z9N,Value.cells],by decide⟩
def z3T:Value:=.agg (#[.int .i64 0] ++ Array.replicate 32 (.int .u8 0))
theorem zdL:SliceTy Tryz.prog 93 159 z3T 33 40:=⟨by kernel_rfl,by kernel_rfl,by simp[z3T,Value.cells],by decide⟩
structure DiskFoot (w:World) (b:Nat) (F:Nat→Prop) (vs vn vw:Value):Prop where
 self:F b
 safe:∀ k,vs.ownBlock=some k→F k∧k≠b
 now:∀ k,vn.ownBlock=some k→F k∧k≠b∧vs.ownBlock≠some k
 waits:∀ k,vw.ownBlock=some k→F k∧k≠b∧vs.ownBlock≠some k∧vn.ownBlock≠some k
 lt:∀ k,F k→k<w.heap.size
def z2J (vs vn vw:Value) (D:Dk):Array Value:=#[vs,vn,vw,.bool D.left.isSome,.int .i64 (D.left.getD 0:Nat),.bool D.down]
structure DiskIs (w:World) (b:Nat) (F:Nat→Prop) (D:Dk) (vs vn vw:Value):Prop where
 head:w.heap[b]?=some (.cells (z2J vs vn vw D) 95 (0,0))
 safe:Row w 157 32 vs D.safe.length (z0B D.safe.flatten)
 now:Row w 157 32 vn D.safe.length (z0B (DM.now D).flatten)
 waits:Row w 159 33 vw D.waits.length (z6I D.waits)
 foot:DiskFoot w b F vs vn vw
 ok:Ok D
def DiskAt (w:World) (b:Nat) (F:Nat→Prop) (D:Dk):Prop:=∃ vs vn vw,DiskIs w b F D vs vn vw
theorem DiskIs.keep {w w':World} {b:Nat} {F G:Nat→Prop} {D:Dk} {vs vn vw:Value} (h:DiskIs w b F D vs vn vw) (hk:Keep G w w') (hn:∀ k,F k→¬ G k):DiskIs w' b F D vs vn vw:=
 ⟨hk.get h.head (hn _ h.foot.self),h.safe.keep hk fun k e=>hn _ (h.foot.safe k e).1,h.now.keep hk fun k e=>hn _ (h.foot.now k e).1,h.waits.keep hk fun k e=>hn _ (h.foot.waits k e).1,
  ⟨h.foot.self,h.foot.safe,h.foot.now,h.foot.waits,fun k hF=>Nat.lt_of_lt_of_le (h.foot.lt k hF) hk.size⟩,h.ok⟩
theorem DiskAt.keep {w w':World} {b:Nat} {F G:Nat→Prop} {D:Dk} (h:DiskAt w b F D) (hk:Keep G w w') (hn:∀ k,F k→¬ G k):DiskAt w' b F D:=
 let ⟨_,_,_,hh⟩:=h;⟨_,_,_,hh.keep hk hn⟩
theorem DiskAt.lt {w:World} {b:Nat} {F:Nat→Prop} {D:Dk} (h:DiskAt w b F D):∀ k,F k→k<w.heap.size:=let ⟨_,_,_,hh⟩:=h;hh.foot.lt
theorem DiskAt.ok {w:World} {b:Nat} {F:Nat→Prop} {D:Dk} (h:DiskAt w b F D):Ok D:=let ⟨_,_,_,hh⟩:=h;hh.ok
def DiskTo (b:Nat) (F:Nat→Prop) (w:World) (D':Dk) (w':World):Prop:=
 ∃ F',DiskAt w' b F' D'∧Keep F w w'∧∀ k,F' k→F k∨w.heap.size≤k
theorem z4C {w:World} {b:Nat} {T:TypeId} {a0 a1 a2 a3 a4 a5:Value} (H:w.heap[b]?=some (.cells #[a0,a1,a2,a3,a4,a5] T (0,0))) :
  w.cell? ⟨b,0,none⟩=some a0∧w.cell? ⟨b,1,none⟩=some a1∧w.cell? ⟨b,2,none⟩=some a2∧w.cell? ⟨b,3,none⟩=some a3∧w.cell? ⟨b,4,none⟩=some a4∧w.cell? ⟨b,5,none⟩=some a5∧
  (∀ o,w.frozen? ⟨b,o,none⟩=false)∧b<w.heap.size:=by
 refine⟨?_,?_,?_,?_,?_,?_,?_,z0L H⟩ <;> simp[World.cell?,World.frozen?,H]
theorem z0C {w:World} {b:Nat} {T:TypeId} {cs:Array Value} (H:w.heap[b]?=some (.cells cs T (0,0))) (i:Nat) (v:Value) :
  (w.setCell ⟨b,i,none⟩ v).heap[b]?=some (.cells (cs.setIfInBounds i v) T (0,0)):=heap_setCell_same w b i cs T v H
theorem DiskIs.head' {w w':World} {b:Nat} {F:Nat→Prop} {D D':Dk} {vs vn vw:Value} (h:DiskIs w b F D vs vn vw) (hk:Keep (fun k=>k=b) w w')
  (hh:w'.heap[b]?=some (.cells (z2J vs vn vw D') 95 (0,0))) (e1:D'.safe=D.safe) (e2:D'.waits=D.waits) (ok:Ok D'):DiskIs w' b F D' vs vn vw:=by
 have hb:∀ k,k≠b→¬ (fun k=>k=b) k:=fun k hk=>hk;have e3:DM.now D'=DM.now D:=by simp[DM.now,e1,e2]
 refine⟨hh,?_,?_,?_,⟨h.foot.self,h.foot.safe,h.foot.now,h.foot.waits,fun k hF=>Nat.lt_of_lt_of_le (h.foot.lt k hF) hk.size⟩,ok⟩
 ·rw[e1];exact h.safe.keep hk fun k e=>(h.foot.safe k e).2
 ·rw[e1,e3];exact h.now.keep hk fun k e=>(h.foot.now k e).2.1
 ·rw[e2];exact h.waits.keep hk fun k e=>(h.foot.waits k e).2.1
theorem DiskIs.to {w w':World} {b:Nat} {F:Nat→Prop} {D':Dk} {vs vn vw:Value} (h:DiskIs w' b F D' vs vn vw) (hk:Keep F w w'):DiskTo b F w D' w':=
 ⟨F,⟨_,_,_,h⟩,hk,fun _ hF=>.inl hF⟩
theorem zdZ (w:World) (b:Nat) (F:Nat→Prop) (D:Dk) (hD:DiskAt w b F D) :
  Calls Tryz.prog 141 #[.pointer (some ⟨b,0,none⟩)] w fun e w'=>e = .returned (.bool (act D).1)∧DiskTo b F w (act D).2 w':=by
 obtain⟨vs,vn,vw,hI⟩:=hD;have hok:=hI.ok.act;have hh:=hI.head;unfold z2J at hh;obtain⟨h0,h1,h2,h3,h4,h5,hf,hb⟩:=z4C hh
 have fin:∀ w',Keep (fun k=>k=b) w w'→w'.heap[b]?=some (.cells (z2J vs vn vw (act D).2) 95 (0,0))→DiskTo b F w (act D).2 w':=fun w' hk hh'=>
  (hI.head' hk hh' (z1P D) (z1V D) hok).to (hk.mono fun i _ e=>by subst e;exact hI.foot.self)
 have Fin:=hid fin;have Hh:=hid hh;clear fin hh
 cases hd:D.down with
 | true=>
   rw[hd] at h5;have ha:act D=(false,D):=by unfold DM.act;rw[hd];rfl
   have Ha:=hid ha;clear ha;go_enter Tryz.func141,Tryz.ntmps141
   go_wp2
   go_ret;refine⟨by rw[Ha.out];rfl,Fin.out _ (Keep.refl _ _) (by rw[Ha.out];exact Hh.out)⟩
 | false=>
   rw[hd] at h5
   cases hl:D.left with
   | none=>
     rw[hl] at h3 h4;have ha:act D=(true,D):=by unfold DM.act;rw[hd,hl];rfl
     have Ha:=hid ha;clear ha;go_enter Tryz.func141,Tryz.ntmps141
     go_wp2
     go_ret;refine⟨by rw[Ha.out];rfl,Fin.out _ (Keep.refl _ _) (by rw[Ha.out];exact Hh.out)⟩
   | some k=>
     rw[hl] at h3 h4;have hk:=hI.ok.left k hl
     cases k with
     | zero=>
       have ha:act D=(false,{ D with down:=true }):=by unfold DM.act;rw[hd,hl];rfl
       have Ha:=hid ha;clear ha;go_enter Tryz.func141,Tryz.ntmps141
       go_wp2
       go_ret;refine⟨by rw[Ha.out];rfl,Fin.out _ (by refine Keep.setCell (Keep.refl _ _) (.inl ?_) _;rfl) (by rw[Ha.out,z0C Hh.out];rfl)⟩
     | succ k=>
       have ha:act D=(true,{ D with left:=some k }):=by unfold DM.act;rw[hd,hl];rfl
       have Ha:=hid ha;clear ha;go_enter Tryz.func141,Tryz.ntmps141
       go_wp2
       go_ret;refine⟨by rw[Ha.out];rfl,Fin.out _ (by refine Keep.setCell (Keep.refl _ _) (.inl ?_) _;rfl) (by rw[Ha.out,z0C Hh.out];simp[z2J,hl])⟩
theorem zjP (w:World) (b:Nat) (F:Nat→Prop) (D:Dk) (hD:DiskAt w b F D) :
  Calls Tryz.prog 81 #[.pointer (some ⟨b,0,none⟩)] w fun e w'=>e = .returned (.bool (!D.down))∧w=w':=by
 obtain⟨vs,vn,vw,hI⟩:=hD;have hh:=hI.head;unfold z2J at hh;obtain⟨h0,h1,h2,h3,h4,h5,hf,hb⟩:=z4C hh;clear hh hI;go_enter Tryz.func81,Tryz.ntmps81
 go_wp2
 go_ret;exact⟨rfl,rfl⟩
theorem z7U (w:World) (b:Nat) (F:Nat→Prop) (D:Dk) (hD:DiskAt w b F D) :
  Calls Tryz.prog 80 #[.pointer (some ⟨b,0,none⟩)] w fun e w'=>e = .returned (.int .i64 (D.safe.length:Int))∧w=w':=by
 obtain⟨vs,vn,vw,hI⟩:=hD;have hh:=hI.head;unfold z2J at hh;obtain⟨h0,h1,h2,h3,h4,h5,hf,hb⟩:=z4C hh;obtain⟨ad,cap,rfl,-⟩:=hI.now.form;clear hh hI;go_enter Tryz.func80,Tryz.ntmps80
 go_wp2
 go_ret;exact⟨rfl,rfl⟩
end
section
open Go.RowKit
open DM
def z6Q (l:List Sec):List Value:=l.map fun s=>.string (str s)
def putV (p:Nat×Sec):List Value:=[.int .i64 (p.1:Int),.string (str p.2)]
def zeG (l:List (Nat×Sec)):List Value:=l.flatMap putV
def znP (l:Option Nat):Int:=match l with | none=>-1 | some k=>(k:Int)
theorem zdJ:znP none = -1:=rfl
theorem zkM:znP (some 0)=0:=rfl
theorem zcR (k:Nat):znP (some k)=(k:Int):=rfl
def z2M (vs vw:Value) (D:Dk):Array Value:=#[vs,vw,.int .i64 (znP D.left),.bool D.down]
theorem zfR (l:List Sec):(z6Q l).length=l.length:=by simp[z6Q]
structure RefFoot (w:World) (b:Nat) (F:Nat→Prop) (vs vw:Value):Prop where
 self:F b
 safe:∀ k,vs.ownBlock=some k→F k∧k≠b
 waits:∀ k,vw.ownBlock=some k→F k∧k≠b∧vs.ownBlock≠some k
 lt:∀ k,F k→k<w.heap.size
structure RefIs (w:World) (b:Nat) (F:Nat→Prop) (D:Dk) (vs vw:Value):Prop where
 head:w.heap[b]?=some (.cells (z2M vs vw D) 99 (0,0))
 safe:Row w 9 1 vs D.safe.length (z6Q D.safe)
 waits:Row w 161 2 vw D.waits.length (zeG D.waits)
 foot:RefFoot w b F vs vw
 ok:Ok D
def RefAt (w:World) (b:Nat) (F:Nat→Prop) (D:Dk):Prop:=∃ vs vw,RefIs w b F D vs vw
theorem RefIs.keep {w w':World} {b:Nat} {F G:Nat→Prop} {D:Dk} {vs vw:Value} (h:RefIs w b F D vs vw) (hk:Keep G w w') (hn:∀ k,F k→¬ G k):RefIs w' b F D vs vw:=
 ⟨hk.get h.head (hn _ h.foot.self),h.safe.keep hk fun k e=>hn _ (h.foot.safe k e).1,h.waits.keep hk fun k e=>hn _ (h.foot.waits k e).1,
  ⟨h.foot.self,h.foot.safe,h.foot.waits,fun k hF=>Nat.lt_of_lt_of_le (h.foot.lt k hF) hk.size⟩,h.ok⟩
theorem RefAt.keep {w w':World} {b:Nat} {F G:Nat→Prop} {D:Dk} (h:RefAt w b F D) (hk:Keep G w w') (hn:∀ k,F k→¬ G k):RefAt w' b F D:=
 let ⟨_,_,hh⟩:=h;⟨_,_,hh.keep hk hn⟩
theorem RefAt.lt {w:World} {b:Nat} {F:Nat→Prop} {D:Dk} (h:RefAt w b F D):∀ k,F k→k<w.heap.size:=let ⟨_,_,hh⟩:=h;hh.foot.lt
theorem RefAt.ok {w:World} {b:Nat} {F:Nat→Prop} {D:Dk} (h:RefAt w b F D):Ok D:=let ⟨_,_,hh⟩:=h;hh.ok
def RefTo (b:Nat) (F:Nat→Prop) (w:World) (D':Dk) (w':World):Prop:=
 ∃ F',RefAt w' b F' D'∧Keep F w w'∧∀ k,F' k→F k∨w.heap.size≤k
theorem z4D {w:World} {b:Nat} {T:TypeId} {a0 a1 a2 a3:Value} (H:w.heap[b]?=some (.cells #[a0,a1,a2,a3] T (0,0))) :
  w.cell? ⟨b,0,none⟩=some a0∧w.cell? ⟨b,1,none⟩=some a1∧w.cell? ⟨b,2,none⟩=some a2∧w.cell? ⟨b,3,none⟩=some a3∧(∀ o,w.frozen? ⟨b,o,none⟩=false)∧b<w.heap.size:=by
 refine⟨?_,?_,?_,?_,?_,z0L H⟩ <;> simp[World.cell?,World.frozen?,H]
theorem RefIs.head' {w w':World} {b:Nat} {F:Nat→Prop} {D D':Dk} {vs vw:Value} (h:RefIs w b F D vs vw) (hk:Keep (fun k=>k=b) w w')
  (hh:w'.heap[b]?=some (.cells (z2M vs vw D') 99 (0,0))) (e1:D'.safe=D.safe) (e2:D'.waits=D.waits) (ok:Ok D'):RefIs w' b F D' vs vw:=by
 refine⟨hh,?_,?_,⟨h.foot.self,h.foot.safe,h.foot.waits,fun k hF=>Nat.lt_of_lt_of_le (h.foot.lt k hF) hk.size⟩,ok⟩
 ·rw[e1];exact h.safe.keep hk fun k e=>(h.foot.safe k e).2
 ·rw[e2];exact h.waits.keep hk fun k e=>(h.foot.waits k e).2.1
theorem RefIs.to {w w':World} {b:Nat} {F:Nat→Prop} {D':Dk} {vs vw:Value} (h:RefIs w' b F D' vs vw) (hk:Keep F w w'):RefTo b F w D' w':=
 ⟨F,⟨_,_,h⟩,hk,fun _ hF=>.inl hF⟩
theorem zdK (w:World) (b:Nat) (F:Nat→Prop) (D:Dk) (hD:RefAt w b F D) :
  Calls Tryz.prog 152 #[.pointer (some ⟨b,0,none⟩)] w fun e w'=>e = .returned (.bool (act D).1)∧RefTo b F w (act D).2 w':=by
 obtain⟨vs,vw,hI⟩:=hD;have hok:=hI.ok.act;have hh:=hI.head;unfold z2M at hh;obtain⟨h0,h1,h2,h3,hf,hb⟩:=z4D hh
 have fin:∀ w',Keep (fun k=>k=b) w w'→w'.heap[b]?=some (.cells (z2M vs vw (act D).2) 99 (0,0))→RefTo b F w (act D).2 w':=fun w' hk hh'=>
  (hI.head' hk hh' (z1P D) (z1V D) hok).to (hk.mono fun i _ e=>by subst e;exact hI.foot.self)
 have Fin:=hid fin;have Hh:=hid hh;clear fin hh
 cases hd:D.down with
 | true=>
   rw[hd] at h3;have ha:act D=(false,D):=by unfold DM.act;rw[hd];rfl
   have Ha:=hid ha;clear ha;have Hd:=hid hd;clear hd
   cases hl:D.left with
   | none=>
     rw[hl] at h2;rw[zdJ] at h2;clear hl;go_enter Tryz.func152,Tryz.ntmps152
     go_wp2
     go_ret;refine⟨by rw[Ha.out];rfl,Fin.out _ (Keep.refl _ _) (by rw[Ha.out];exact Hh.out)⟩
   | some k=>
     cases k with
     | zero=>
       have Hl:=hid hl;rw[hl] at h2;rw[zkM] at h2;clear hl;go_enter Tryz.func152,Tryz.ntmps152
       go_wp2
       go_ret;refine⟨by rw[Ha.out];rfl,Fin.out _ (by refine Keep.setCell (Keep.refl _ _) (.inl ?_) _;rfl) (by rw[Ha.out,z0C Hh.out];simp[z2M,Hd.out])⟩
     | succ k=>
       have hk:=hI.ok.left _ hl;rw[hl] at h2;rw[zcR] at h2;clear hl;go_enter Tryz.func152,Tryz.ntmps152
       go_wp2
       go_ret;refine⟨by rw[Ha.out];rfl,Fin.out _ (Keep.refl _ _) (by rw[Ha.out];exact Hh.out)⟩
 | false=>
   rw[hd] at h3
   cases hl:D.left with
   | none=>
     rw[hl] at h2;rw[zdJ] at h2;have ha:act D=(true,D):=by unfold DM.act;rw[hd,hl];rfl
     have Ha:=hid ha;clear ha;go_enter Tryz.func152,Tryz.ntmps152
     go_wp2
     go_ret;refine⟨by rw[Ha.out];rfl,Fin.out _ (Keep.refl _ _) (by rw[Ha.out];exact Hh.out)⟩
   | some k=>
     rw[hl] at h2;rw[zcR] at h2;have hk:=hI.ok.left k hl
     cases k with
     | zero=>
       have ha:act D=(false,{ D with down:=true }):=by unfold DM.act;rw[hd,hl];rfl
       have Ha:=hid ha;clear ha;go_enter Tryz.func152,Tryz.ntmps152
       go_wp2
       go_ret;refine⟨by rw[Ha.out];rfl,Fin.out _ (by refine Keep.setCell (Keep.refl _ _) (.inl ?_) _;rfl) (by rw[Ha.out,z0C Hh.out];simp[z2M,hl])⟩
     | succ k=>
       have ha:act D=(true,{ D with left:=some k }):=by unfold DM.act;rw[hd,hl];rfl
       have Ha:=hid ha;clear ha;go_enter Tryz.func152,Tryz.ntmps152
       go_wp2
       go_ret;refine⟨by rw[Ha.out];rfl,Fin.out _ (by refine Keep.setCell (Keep.refl _ _) (.inl ?_) _;rfl) (by rw[Ha.out,z0C Hh.out];simp[z2M,hl,znP])⟩
end
section
open Go.RowKit
open DM
def zbG:Value:=.agg #[.int .i64 0,.string (str [])]
theorem znC:SliceTy Tryz.prog 97 161 zbG 2 24:=⟨by kernel_rfl,by kernel_rfl,by simp[zbG,Value.cells],by decide⟩
theorem zlT (w:World) (b:Nat) (F:Nat→Prop) (D:Dk) (at_:Int) (ao:Option Addr) (n c:Nat) (bs:List UInt8) (hD:RefAt w b F D) (hsrc:Cells w ao n 1 (z0B bs))
  (hap:0<n→∀ x,ao=some x→¬ F x.block) (hlt:at_<9223372036854775808) (hn:n≤9223372036854775807) (hfew:D.waits.length≤1000000) :
  Calls Tryz.prog 136 #[.pointer (some ⟨b,0,none⟩),.int .i64 at_,.slice ao n c] w fun e w'=>e = .returned (.int .i64 (DM.write D at_ bs).1)∧RefTo b F w (DM.write D at_ bs).2 w':=by
 obtain⟨vs,vw,hI⟩:=hD;have hDat:RefAt w b F D:=⟨_,_,hI⟩;have hbl:bs.length=n:=by have:=hsrc.1;rw[z0D] at this;omega
 have hh:=hI.head;unfold z2M at hh;obtain⟨h0,h1,h2,h3,hf,hb⟩:=z4D hh;obtain⟨ad0,cap0,rfl,-⟩:=hI.safe.form;have hpos:=hI.ok.few;have same:RefTo b F w D w:=hI.to (Keep.refl _ _);have Same:=hid same;clear same
 cases hd:D.down with
 | true=>
   rw[hd] at h3;have hw:DM.write D at_ bs=(6,D):=by simp[DM.write,hd]
   have Hw:=hid hw;clear hw;go_enter Tryz.func136,Tryz.ntmps136
   go_wp2
   go_ret;exact⟨by rw[Hw.out];rfl,by rw[Hw.out];exact Same.out⟩
 | false=>
   rw[hd] at h3
   by_cases c1:at_<0
   ·have hw:DM.write D at_ bs=(30,D):=by simp[DM.write,hd,c1]
    have Hw:=hid hw;clear hw;go_enter Tryz.func136,Tryz.ntmps136
    go_wp2
    go_ret;exact⟨by rw[Hw.out];rfl,by rw[Hw.out];exact Same.out⟩
   ·by_cases c2:(D.safe.length:Int)≤at_
    ·have hw:DM.write D at_ bs=(30,D):=by simp[DM.write,hd,c2]
     have Hw:=hid hw;clear hw;go_enter Tryz.func136,Tryz.ntmps136
     go_wp2
     go_ret;exact⟨by rw[Hw.out];rfl,by rw[Hw.out];exact Same.out⟩
    ·by_cases c3:n=32
     ·subst c3
      have hpure:¬ (at_<0∨(D.safe.length:Int)≤at_∨bs.length≠32):=by omega
      cases ha:(act D).1 with
      | false=>
        have hw:DM.write D at_ bs=(6,(act D).2):=by simp[DM.write,hd,hpure,ha]
        have Hw:=hid hw;clear hw;go_enter Tryz.func136,Tryz.ntmps136;go_wp2_with (at_builtin;refine z0A ?_;intro q hq);refine(zdK w b F D hDat).mono ?_;rintro e w1 ⟨rfl,ht1⟩;have Ht:=hid ht1;clear ht1;go_wp2_with (at_builtin;refine z0A ?_;intro q hq);go_ret;exact⟨by rw[Hw.out];rfl,by rw[Hw.out];exact Ht.out⟩
      | true=>
        have hw:DM.write D at_ bs=(0,{ (act D).2 with waits:=(act D).2.waits ++ [(at_.toNat,bs)] }):=by simp[DM.write,hd,hpure,ha]
        have Hw:=hid hw;have Hok:=hid (hI.ok.write at_ bs);clear hw;have hs:=fun w' (h:Cells w' ao 32 1 (z0B bs))=>z3C (P:=Tryz.prog) Tryz.underlying29 Tryz.underlying5 Tryz.underlying9 (c:=c) h;have Hs:=hid hs;clear hs;go_enter Tryz.func136,Tryz.ntmps136;go_wp2_with (at_builtin;refine z0A ?_;intro q hq);refine(zdK w b F D hDat).mono ?_;rintro e w1 ⟨rfl,F1,⟨vs1,vw1,hI1⟩,hk1,hF1⟩;have hh1:=hI1.head;unfold z2M at hh1;clear h0 h1 h2 h3 hf hb;obtain⟨i0,i1,i2,i3,if1,ib1⟩:=z4D hh1;have hs1:=hsrc.keep0 hk1 (fun h=>hap (by omega));have hcv:=Hs.out w1.drew (hs1.keep (F:=fun _=>False) (Keep.refl _ _).drew (fun _ _ x=>x));have HI1:=hid hI1;have Hh1:=hid hh1;have Hsame:=Same;clear hI1 hh1;go_wp2_with (at_builtin;refine z0A ?_;intro q hq);refine z0G [39] (by kernel_rfl) (by kernel_rfl) ?_
        repeat (first | (apply z0F (by rfl);(intro K w';go_simp;exact id)) | (apply z0I (by rfl);(intro K;go_simp;exact id)))
        refine z2G (by rfl) (by rfl) (fun K hK=>?_);go_simp;refine hK _ _ (Pre.refl _) ?_;clear hK K hcv;have hpv:(putV (at_.toNat,bs)).length=2:=rfl;apply z0F (by rfl)
        ·intro K w' hK
         rw[if_pos (by rfl)];refine zcE 161 #[(0,.tmp 37),(1,.tmp 39)] rfl [(0,.int .i64 at_),(1,.string (str bs))] rfl zbG _ #[(0,1),(1,1)] (putV (at_.toNat,bs)).toArray (by kernel_rfl) Tryz.underlying161 (fun _=>by kernel_rfl) ?_ ?_
         ·rw[z7B _ _ 0 _ _ 0 1 rfl rfl (by decide),z7B _ _ 1 _ _ 1 1 rfl rfl (by simp[splice,Value.cells,zbG])]
          simp[Instr.fill,splice,Value.cells,zbG,putV,Int.toNat_of_nonneg (by omega:0≤at_)]
         ·revert hK
          go_simp;exact id
        refine z2G (by rfl) (by rfl) (fun K hK=>?_);refine z7Q znC (.tmp 40) rfl (.agg (putV (at_.toNat,bs)).toArray) rfl rfl (by decide) ?_;go_simp;refine hK _ _ (Pre.push _ rfl) ?_;clear hK K;have hk3:Keep (fun _=>False) w1 (w1.alloc (Obj.cells (putV (at_.toNat,bs)).toArray 161)).drew:=((Keep.refl _ _).alloc _).drew;have hnew:(w1.alloc (Obj.cells (putV (at_.toNat,bs)).toArray 161)).drew.heap[w1.heap.size]?=some (Obj.cells (putV (at_.toNat,bs)).toArray 161):=heap_alloc_new w1 _;obtain⟨w3,hw3⟩:=zX1 ((w1.alloc (Obj.cells (putV (at_.toNat,bs)).toArray 161)).drew);have hw3':w1.drew.alloc (Obj.cells (putV (at_.toNat,bs)).toArray 161)=w3:=hw3.symm;rw[← hw3] at hk3 hnew
        first | rw[hw3'] | rw[← hw3]
        clear hw3 hw3';have hrw:Row w3 161 2 vw1 (act D).2.waits.length (zeG (act D).2.waits):=HI1.out.waits.keep hk3 (fun _ _ x=>x);have hl:(act D).2.waits.length=D.waits.length:=by rw[z1V]
        refine z0M (by rfl) (by rfl) (fun K hK=>?_)
        refine z0R znC (.tmp 36) (.tmp 41) rfl rfl hrw (some ⟨w1.heap.size,0,none⟩) 1 1 (putV (at_.toNat,bs)) rfl
         ⟨by omega,fun _=>⟨_,rfl,fun j u hu=>by rw[z0J,Nat.zero_add,cell_of_row _ _ _ _ _ _ hnew];simpa using hu⟩⟩
         (by intro u hu;simp only[putV,List.mem_cons,List.not_mem_nil,or_false] at hu;rcases hu with rfl | rfl <;> rfl) (by unfold maxLen;omega) (by omega) ?_
        intro v4 w4 hr4 hk4 hv4;refine hK _ _ ?_;clear hK K;have hvb:∀ k,vw1.ownBlock=some k→F1 k∧k≠b∧vs1.ownBlock≠some k:=HI1.out.foot.waits;have hh4:=hk4.get (hk3.get Hh1.out id) (fun e=>(hvb _ e).2.1 rfl);clear i0 i1 i2 i3 if1 ib1;obtain⟨i0,i1,i2,i3,if1,ib1⟩:=z4D hh4;obtain⟨ad4,cap4,rfl,-⟩:=hr4.form;have Hv4:=hid hv4;have Hh4:=hid hh4;have Hrw:=hid hrw;have Hr4:=hid hr4;have Hl:=hid hl;clear hh4 hrw hr4 hl hnew hv4
        repeat (apply z0F (by rfl);(intro K w';go_simp;exact id))
        (refine z0M (by rfl) (by rfl) (fun K hK=>?_);go_simp;refine hK _ _ ?_;clear hK K)
        refine z0S ?_
        go_wp2
        go_ret;refine⟨by rw[Hw.out];rfl,?_⟩;have hok:=Hok.out;rw[Hw.out] at hok ⊢;have hk5:Keep (fun k=>k=b) w4 (w4.setCell ⟨b,1,none⟩ (.slice ad4 ((act D).2.waits.length+1) cap4)):=kst;have hh5:=z0C Hh4.out 1 (.slice ad4 ((act D).2.waits.length+1) cap4);obtain⟨w5,hw5⟩:=zX1 (w4.setCell ⟨b,1,none⟩ (.slice ad4 ((act D).2.waits.length+1) cap4));rw[← hw5] at hk5 hh5 ⊢;clear hw5 i0 i1 i2 i3 if1 ib1;obtain⟨vD,hvD⟩:∃ v,v=Value.slice ad4 ((act D).2.waits.length+1) cap4:=⟨_,rfl⟩;have hr4:=Hr4.out;have hv4:=Hv4.out;rw[← hvD] at hh5 hr4 hv4;have hf1:=HI1.out.foot
        have hown:∀ k,vD.ownBlock=some k→vw1.ownBlock=some k∨k=w3.heap.size:=by
         intro k hk
         rcases hv4 with ⟨_,h0⟩ | ⟨k',h1,h2⟩
         ·omega
         ·rw[hk] at h1;cases h1;exact h2
        have hnew:∀ k,F1 k→k≠w3.heap.size:=fun k hF e=>by
         have h1:=hf1.lt k hF;have h3:=hk3.size;omega
        have hob:∀ k,vD.ownBlock=some k→k≠b∧vs1.ownBlock≠some k:=by
         intro k hk
         rcases hown k hk with h | h
         ·exact(hf1.waits k h).2
         ·subst h
          exact⟨fun e=>hnew _ hf1.self e.symm,fun e=>hnew _ (hf1.safe _ e).1 rfl⟩
        have ks:Keep (fun k=>vw1.ownBlock=some k∨k=b) w1 w5:=
         (hk3.next hk4 (H:=fun k=>vw1.ownBlock=some k) (fun _ _ x=>x.elim) (fun _ _ x=>x)).next hk5 (fun _ _ x=>.inl x) (fun _ _ x=>.inr x)
        have hr5:=hr4.keep hk5 fun k e x=>(hob k e).1 x;refine⟨fun k=>F1 k∨vD.ownBlock=some k,⟨vs1,vD,?_⟩,?_,?_⟩
        ·refine⟨?_,?_,?_,⟨.inl hf1.self,fun k e=>⟨.inl (hf1.safe k e).1,(hf1.safe k e).2⟩,fun k e=>⟨.inr e,hob k e⟩,?_⟩,hok⟩
         ·rw[hh5];rfl
         ·refine HI1.out.safe.keep ks fun k e x=>?_
          rcases x with x | x
          ·exact(hf1.waits k x).2.2 e
          ·exact(hf1.safe k e).2 x
         ·show Row w5 _ 2 vD ((act D).2.waits ++ [(at_.toNat,bs)]).length (zeG ((act D).2.waits ++ [(at_.toNat,bs)]))
          rw[List.length_append];have e3:zeG ((act D).2.waits ++ [(at_.toNat,bs)])=zeG (act D).2.waits ++ putV (at_.toNat,bs):=by simp[zeG]
          rw[e3];exact hr5
         ·intro k hF
          rcases hF with hF | hF
          ·exact Nat.lt_of_lt_of_le (hf1.lt k hF) ks.size
          ·exact hr5.lt hF
        ·refine hk1.next ks (fun _ _ x=>x) fun k hk x=>?_
         have inF:∀ k,k<w.heap.size→F1 k→F k:=fun k hk h=>(hF1 k h).elim id fun h=>by omega
         rcases x with x | x
         ·exact inF _ hk (hf1.waits _ x).1
         ·subst x;exact inF _ hk hf1.self
        ·intro k hF
         rcases hF with hF | hF
         ·exact hF1 k hF
         ·rcases hown k hF with h | h
          ·exact hF1 k (hf1.waits k h).1
          ·right
           have h1:=hk1.size;have h3:=hk3.size;omega
     ·have hw:DM.write D at_ bs=(30,D):=by simp[DM.write,hd,hbl,c3]
      have Hw:=hid hw;have c4:((n:Int) != 32)=true:=by rw[bne_iff_ne];omega
      clear hw;go_enter Tryz.func136,Tryz.ntmps136
      go_wp2
      go_ret;exact⟨by rw[Hw.out];rfl,by rw[Hw.out];exact Same.out⟩
end
section
open Go.RowKit
open DM
theorem z6Y:∀ (l:List (Nat×Sec)) (k:Nat) (hk:k<l.length) (j:Nat),j<2→(zeG l)[k * 2+j]?=(putV l[k])[j]?
 | [],k,hk,_,_=>absurd hk (Nat.not_lt_zero _)
 | p :: l,0,_,j,hj=>by
   simp only[zeG,List.flatMap_cons,Nat.zero_mul,Nat.zero_add,List.getElem_cons_zero];rw[List.getElem?_append_left (by show j<2;exact hj)]
 | p :: l,k+1,hk,j,hj=>by
   have ih:=z6Y l k (by simpa using hk) j hj;simp only[zeG,List.flatMap_cons,List.getElem_cons_succ] at ih ⊢;rw[List.getElem?_append_right (by show 2≤_;omega),← ih];congr 1;show _ - 2=_;omega
def z9X (D:Dk) (i k:Nat):Sec:=(puts D.safe (D.waits.take k)).getD i []
theorem seenTo_zero (D:Dk) (i:Nat):z9X D i 0=D.safe.getD i []:=rfl
theorem zjS (D:Dk) (i:Nat):z9X D i D.waits.length=(DM.now D).getD i []:=by unfold z9X;rw[List.take_length];rfl
theorem zhI (D:Dk) (i k:Nat) (hk:k<D.waits.length) (hi:i<D.safe.length):z9X D i (k+1)=if D.waits[k].1=i then D.waits[k].2 else z9X D i k:=by
 unfold z9X;rw[List.take_add_one,List.getElem?_eq_getElem hk,Option.toList_some,z7W];simp only[puts,List.foldl_cons,List.foldl_nil];have hl:(List.foldl (fun s p=>s.set p.1 p.2) D.safe (D.waits.take k)).length=D.safe.length:=z7X _ _;split
 ·rename_i e;subst e;simp[List.getD,hl,hi]
 ·rename_i e;simp[List.getD,List.getElem?_set_ne e]
theorem Row.of_str (w:World) (e:TypeId) (l:List UInt8) (hl:l.length≤maxLen) :
  Row (w.drew.alloc (.cells (bytesRow (str l) (grownCap w (str l).size 0 e)) e ((bytesRow (str l) (grownCap w (str l).size 0 e)).size,(bytesRow (str l) (grownCap w (str l).size 0 e)).size+1))) e 1
   (.slice (.some ⟨w.heap.size,0,none⟩) (str l).size (grownCap w (str l).size 0 e)) l.length (z0B l):=by
 have h1:=grownCap_ge w (str l).size 0 e;have h2:=grownCap_le_maxLen w (str l).size 0 e (by rw[z2F];exact hl);rw[z2F] at h1 h2
 have hsz:(bytesRow (str l) (grownCap w (str l).size 0 e)).size=grownCap w (str l).size 0 e:=by
  rw[z2F];simp[bytesRow,str,ByteArray.size];omega
 refine⟨by rw[z0D,Nat.mul_one],.inr ⟨w.heap.size,_,_,_,by rw[z2F],heap_alloc_new w.drew _,?_,h1,h2,by rw[hsz,Nat.mul_one,z2F],?_⟩⟩
 ·intro j hj h
  omega
 ·simp[bytesRow,str,z0B]
theorem zjB (w:World) (b:Nat) (F:Nat→Prop) (D:Dk) (at_:Int) (hD:RefAt w b F D) (hlt:at_<9223372036854775808) (hfew:D.waits.length≤1000000) :
  Calls Tryz.prog 131 #[.pointer (some ⟨b,0,none⟩),.int .i64 at_] w fun e w'=>
   ∃ v,e = .returned (.tuple #[v,.int .i64 (DM.read D at_).2])∧Row w' 5 1 v (DM.read D at_).1.length (z0B (DM.read D at_).1)∧Keep (fun _=>False) w w'∧(∀ k,v.ownBlock=some k→w.heap.size≤k):=by
 obtain⟨vs,vw,hI⟩:=hD;have hh:=hI.head;unfold z2M at hh;obtain⟨h0,h1,h2,h3,hf,hb⟩:=z4D hh;have hpos:=hI.ok.pos;have hfewS:=hI.ok.few;obtain⟨gs,cap,cur,fz,rfl,hgs,hfz,hncap,hcapm,hcurs,htk⟩:=hI.safe.some hpos
 have out:∀ c,DM.read D at_=([],c)→∀ w',w'=w→∃ v,Ending.returned (.tuple #[.slice none 0 0,.int .i64 c]) = .returned (.tuple #[v,.int .i64 (DM.read D at_).2])∧Row w' 5 1 v (DM.read D at_).1.length (z0B (DM.read D at_).1)∧Keep (fun _=>False) w w'∧(∀ k,v.ownBlock=some k→w.heap.size≤k):=by
  rintro c hc w' rfl;refine⟨.slice none 0 0,by rw[hc],by rw[hc];exact Row.nil _ _ _,Keep.refl _ _,by simp[Value.ownBlock]⟩
 have Out:=hid out;clear out
 cases hd:D.down with
 | true=>
   rw[hd] at h3;have hw:DM.read D at_=([],6):=by unfold DM.read;rw[hd];rfl
   have Hw:=hid hw;clear hw hh hgs htk;go_enter Tryz.func131,Tryz.ntmps131
   go_wp2
   go_ret2;exact Out.out _ Hw.out _ rfl
 | false=>
   rw[hd] at h3
   by_cases c1:at_<0
   ·have hw:DM.read D at_=([],30):=by unfold DM.read;rw[hd];simp[c1]
    have Hw:=hid hw;clear hw hh hgs htk;go_enter Tryz.func131,Tryz.ntmps131
    go_wp2
    go_ret2;exact Out.out _ Hw.out _ rfl
   ·by_cases c2:(D.safe.length:Int)≤at_
    ·have hw:DM.read D at_=([],30):=by unfold DM.read;rw[hd];simp[c2]
     have Hw:=hid hw;clear hw hh hgs htk;go_enter Tryz.func131,Tryz.ntmps131
     go_wp2
     go_ret2;exact Out.out _ Hw.out _ rfl
    ·have hw:DM.read D at_=((DM.now D).getD at_.toNat [],0):=by unfold DM.read;rw[hd];simp[c1,c2]
     have Hw:=hid hw;obtain⟨i,hi⟩:∃ i:Nat,(i:Int)=at_:=⟨at_.toNat,by omega⟩;subst hi;have his:i<D.safe.length:=by omega
     have a0:w.cell? ⟨gs,i,none⟩=some (.string (str (z9X D i 0))):=by
      rw[hI.safe.cell i (by omega)];simp[z6Q,his,seenTo_zero,List.getD]
     have hsecl:((DM.now D).getD i []).length=32:=by
      have hi:i<(DM.now D).length:=by rw[z1H];omega
      have:=hI.ok.now _ (List.getElem_mem hi);simpa [List.getD,List.getElem?_eq_getElem hi] using this
     obtain⟨aw,capw,rfl,-⟩:=hI.waits.form;have HI:=hid hI;clear hw hh hgs htk hI Out hcurs;go_enter Tryz.func131,Tryz.ntmps131;go_wp2_with (at_builtin;refine z0A ?_;intro q hq)
     go_loopw [6,7] (fun sv kv wr=>∃ k:Nat,k≤D.waits.length∧kv = .int .i64 k∧sv = .string (str (z9X D i k))∧wr=w) (fun _ kv _=>D.waits.length - (intOf kv).toNat)
     case atStart=>exact⟨0,Nat.zero_le _,rfl,rfl,rfl⟩
     case round=>
      obtain⟨k,hk,rfl,rfl,rfl⟩:=hrel
      by_cases hkn:k<D.waits.length
      ·have h4:(k:Int)<D.waits.length:=by omega
       obtain⟨gw,capw',hvw,b0⟩:=HI.out.waits.getCell (j:=k * 2) (u:=.int .i64 (D.waits[k].1:Int)) (by have:=z6Y D.waits k hkn 0 (by decide);simpa [putV] using this);obtain⟨gw2,capw2,hvw2,b1⟩:=HI.out.waits.getCell (j:=k * 2+1) (u:=.string (str D.waits[k].2)) (by have:=z6Y D.waits k hkn 1 (by decide);simpa [putV] using this);cases hvw;cases hvw2;have hss:=zhI D i k hkn his
       by_cases he:D.waits[k].1=i
       ·rw[if_pos he] at hss
        have Hss:=hid hss;have he':((D.waits[k].1:Int) == (i:Int))=true:=by simp[he]
        clear hss he;go_wp2_with (at_builtin;refine z0A ?_;intro q hq);go_roundw
        case rel=>exact⟨k+1,by omega,by go_num,by rw[Hss.out],trivial⟩
        case measure=>simp[intOf];omega
       ·rw[if_neg he] at hss
        have Hss:=hid hss;have he':((D.waits[k].1:Int) == (i:Int))=false:=by simp;omega
        clear hss he;go_wp2_with (at_builtin;refine z0A ?_;intro q hq);go_roundw
        case rel=>exact⟨k+1,by omega,by go_num,by rw[Hss.out],trivial⟩
        case measure=>simp[intOf];omega
      ·have h4:¬ (k:Int)<D.waits.length:=by omega
       obtain rfl:k=D.waits.length:=by omega
       rw[zjS];obtain⟨S,hS⟩:=zX1 ((DM.now D).getD i []);rw[← hS];have hcv:=run_bytes_of_string (P:=Tryz.prog) wr 9 29 5 (str S) Tryz.underlying9 Tryz.underlying29 Tryz.underlying5;have hr:=Row.of_str wr 5 S (by rw[hS,hsecl];decide);obtain⟨w2,hw2⟩:=zX1 ((wr.drew.alloc (.cells (bytesRow (str S) (grownCap wr (str S).size 0 5)) 5 ((bytesRow (str S) (grownCap wr (str S).size 0 5)).size,(bytesRow (str S) (grownCap wr (str S).size 0 5)).size+1))));rw[← hw2] at hcv hr;have hk2:Keep (fun _=>False) wr w2:=by rw[hw2];exact(Keep.refl _ _).drew.alloc _
       have HR:=hid hr;have HS:=hid hS;clear hr hw2 hS;go_wp2_with (at_builtin;refine z0A ?_;intro q hq);go_ret2;refine⟨_,by rw[Hw.out];rfl,?_,hk2,?_⟩
       ·rw[Hw.out]
        show Row w2 _ 1 _ ((DM.now D).getD _ []).length (z0B ((DM.now D).getD _ []));rw[Int.toNat_natCast,← HS.out];exact HR.out
       ·intro k hk
        simp[Value.ownBlock] at hk;omega
end
section
open Go.RowKit
open DM
theorem z8X (w:World) (b:Nat) (F:Nat→Prop) (D:Dk) (at_:Int) (ao:Option Addr) (n c:Nat) (bs:List UInt8) (hD:DiskAt w b F D) (hsrc:Cells w ao n 1 (z0B bs))
  (hap:0<n→∀ x,ao=some x→¬ F x.block) (hlt:at_<9223372036854775808) (hn:n≤9223372036854775807) (hfew:D.waits.length≤1000000) :
  Calls Tryz.prog 106 #[.pointer (some ⟨b,0,none⟩),.int .i64 at_,.slice ao n c] w fun e w'=>e = .returned (.int .i64 (DM.write D at_ bs).1)∧DiskTo b F w (DM.write D at_ bs).2 w':=by
 obtain⟨vs,vn,vw,hI⟩:=hD;have hDat:DiskAt w b F D:=⟨_,_,_,hI⟩;have hbl:bs.length=n:=by have:=hsrc.1;rw[z0D] at this;omega
 have hh:=hI.head;unfold z2J at hh;obtain⟨h0,h1,h2,h3,h4,h5,hf,hb⟩:=z4C hh;have hpos:=hI.ok.pos;have hfewS:=hI.ok.few;obtain⟨gn,cap,cur,fz,rfl,hgn,hfz,hncap,hcapm,hcurs,htk⟩:=hI.now.some hpos
 cases hd:D.down with
 | true=>
   rw[hd] at h5;have hw:DM.write D at_ bs=(6,D):=by unfold DM.write;rw[hd];rfl
   have Hw:=hid hw;have HI:=hid hI;clear hw hI hh hgn htk hDat;go_enter Tryz.func106,Tryz.ntmps106
   go_wp2
   go_ret;exact⟨by rw[Hw.out];rfl,by rw[Hw.out];exact HI.out.to (Keep.refl _ _)⟩
 | false=>
   rw[hd] at h5;have bad:(at_<0∨(D.safe.length:Int)≤at_∨bs.length≠32)→DM.write D at_ bs=(30,D):=fun h=>by unfold DM.write;rw[hd];simp[h]
   have Bad:=hid bad;clear bad
   by_cases c1:at_<0
   ·have HI:=hid hI
    clear hI hh hgn htk hDat;go_enter Tryz.func106,Tryz.ntmps106
    go_wp2
    go_ret;rw[Bad.out (.inl c1)];exact⟨rfl,HI.out.to (Keep.refl _ _)⟩
   ·by_cases c2:(D.safe.length:Int)≤at_
    ·have HI:=hid hI
     clear hI hh hgn htk hDat;go_enter Tryz.func106,Tryz.ntmps106
     go_wp2
     go_ret;rw[Bad.out (.inr (.inl c2))];exact⟨rfl,HI.out.to (Keep.refl _ _)⟩
    ·by_cases c3:n=32
     ·subst c3
      have hgood:¬ (at_<0∨(D.safe.length:Int)≤at_∨bs.length≠32):=by omega
      cases ha:(act D).1 with
      | false=>
        have hw:DM.write D at_ bs=(6,(act D).2):=by unfold DM.write;rw[hd];simp[hgood,ha]
        have Hw:=hid hw;clear hw hgn htk hI hgood;go_enter Tryz.func106,Tryz.ntmps106;go_wp2_with fail;refine(zdZ w b F D hDat).mono ?_;rintro e w1 ⟨rfl,hto⟩
        go_wp2
        go_ret;exact⟨by rw[Hw.out];rfl,by rw[Hw.out];exact hto⟩
      | true=>
        have hw:DM.write D at_ bs=(0,{ (act D).2 with waits:=(act D).2.waits ++ [(at_.toNat,bs)] }):=by unfold DM.write;rw[hd];simp[hgood,ha]
        have Hw:=hid hw;have Hok:Hid (Ok (DM.write D at_ bs).2):=hid (hI.ok.write at_ bs);clear hw hgn htk hI hgood;go_enter Tryz.func106,Tryz.ntmps106;go_wp2_with fail;refine(zdZ w b F D hDat).mono ?_;rintro e w1 ⟨rfl,F1,⟨vs1,vn1,vw1,hI1⟩,hk1,hF1⟩;have hh1:=hI1.head;unfold z2J at hh1;obtain⟨i0,i1,i2,i3,i4,i5,if1,ib1⟩:=z4C hh1;have hs1:=hsrc.keep0 hk1 (fun h=>hap (by omega));have hr1:=hI1.now;have hl1:(act D).2.safe.length=D.safe.length:=by rw[z1P]
        rw[hl1] at hr1;obtain⟨g1,cap1,cur1,fz1,rfl,hg1,hfz1,hn1,hc1,hz1,ht1⟩:=hr1.some hpos;go_wp2_with fail;have hbs:at_.toNat * 32+(z0B bs).length≤D.safe.length * 32:=by rw[z0D];omega
        have hle:D.safe.length * 32≤cur1.size:=by rw[hz1];omega
        have hcp:=z5C (P:=Tryz.prog) (w:=w1) (sT:=29) (ty:=3) z0U g1 (at_.toNat * 32) 32 32 cur1 157 fz1 hg1 hfz1 ao 32 c (z0B bs) 32 rfl hs1 (by omega) (z1I _);have hr2:=hr1.spliced hg1 (at_.toNat * 32) (z0B bs) hbs;rw[hcp];clear hcp;have hgb:g1≠b:=(hI1.foot.now g1 rfl).2.1;have hk2:Keep (fun k=>k=g1) w1 (w1.setRow g1 (splice cur1.toList (at_.toNat * 32) (z0B bs)).toArray):=by refine Keep.setRow (Keep.refl _ _) (.inl ?_) _;rfl
        obtain⟨w2,hw2⟩:=zX1 (w1.setRow g1 (splice cur1.toList (at_.toNat * 32) (z0B bs)).toArray);rw[← hw2] at hr2 hk2 ⊢;clear hw2 i0 i1 i2 i3 i4 i5 if1 ib1 h0 h1 h2 h3 h4 h5 hf hb;have hh2:=hk2.get hh1 (fun e=>hgb e.symm);obtain⟨i0,i1,i2,i3,i4,i5,if1,ib1⟩:=z4C hh2
        have hsec:∀ j u,(z0B bs)[j]?=some u→w2.cell? ⟨g1,at_.toNat * 32+j,none⟩=some u:=by
         intro j u hu;have hj:j<(z0B bs).length:=(List.getElem?_eq_some_iff.1 hu).1;rw[hr2.cell _ (by omega),zkY _ _ _ _ (by rw[hr1.len];omega) hj,hu]
        rw[z4Y] at hr2;have Hr2:=hid hr2;have Hh2:=hid hh2;have HI1:=hid hI1;clear hr2 hh2 hh1 hr1 hg1 hfz1 hz1 ht1 hbs hle hcurs hfz hI1 hl1 hh;go_wp2_with fail;refine z0G [] (by kernel_rfl) (by kernel_rfl) ?_
        repeat (apply z0F (by rfl);(intro K w';go_simp;exact id))
        (apply z0I (by rfl);(intro K;go_simp;exact id))
        repeat (apply z0F (by rfl);(intro K w';go_simp;exact id))
        (apply z0I (by rfl);(intro K;go_simp;exact id))
        repeat (apply z0F (by rfl);(intro K w';go_simp;exact id))
        apply z0I (by rfl)
        ·intro K hK
         rw[if_pos (by rfl)];refine zfU 157 (.tmp 56) rfl g1 (at_.toNat * 32) rfl (z0B bs) hsec _ Tryz.underlying157 rfl (by rw[z0D,hbl];kernel_rfl) ?_
         revert hK
         go_simp;exact id
        have hwv:(z3A (at_.toNat,bs)).length=33:=by simp[z3A,z0D,hbl]
        apply z0F (by rfl)
        ·intro K w' hK
         rw[if_pos (by rfl)];refine zcE 159 #[(0,.tmp 50),(1,.tmp 57)] rfl [(0,.int .i64 at_),(1,.agg (z0B bs).toArray)] rfl z3T _ #[(0,1),(1,32)] (z3A (at_.toNat,bs)).toArray (by kernel_rfl) Tryz.underlying159 (fun _=>by kernel_rfl) ?_ ?_
         ·rw[z7B _ _ 0 _ _ 0 1 rfl rfl (by decide),z7B _ _ 1 _ _ 1 32 rfl (by simp[Value.cells,z0D,hbl]) (by simp[splice,Value.cells,z3T])]
          simp[Instr.fill,splice,Value.cells,z3T,z3A,Int.toNat_of_nonneg c1,z0D,hbl]
         ·revert hK
          go_simp;exact id
        refine z2G (by rfl) (by rfl) (fun K hK=>?_);refine z7Q zdL (.tmp 58) rfl (.agg (z3A (at_.toNat,bs)).toArray) rfl (by simp[Value.cells,hwv]) (by decide) ?_;go_simp;refine hK _ _ (Pre.push _ rfl) ?_;clear hK K;have hk3:Keep (fun _=>False) w2 (w2.alloc (Obj.cells (z3A (at_.toNat,bs)).toArray 159)).drew:=((Keep.refl _ _).alloc _).drew;have hnew:(w2.alloc (Obj.cells (z3A (at_.toNat,bs)).toArray 159)).drew.heap[w2.heap.size]?=some (Obj.cells (z3A (at_.toNat,bs)).toArray 159):=heap_alloc_new w2 _;obtain⟨w3,hw3⟩:=zX1 ((w2.alloc (Obj.cells (z3A (at_.toNat,bs)).toArray 159)).drew);rw[← hw3] at hk3 hnew ⊢;clear hw3
        have hrw:Row w3 159 33 vw1 (act D).2.waits.length (z6I (act D).2.waits):=
         (HI1.out.waits.keep hk2 (fun k e x=>(HI1.out.foot.waits k e).2.2.2 (by rw[x];rfl))).keep hk3 (fun _ _ x=>x)
        have hl:(act D).2.waits.length=D.waits.length:=by rw[z1V]
        refine z0M (by rfl) (by rfl) (fun K hK=>?_)
        refine z0R zdL (.tmp 49) (.tmp 59) rfl rfl hrw (some ⟨w2.heap.size,0,none⟩) 1 1 (z3A (at_.toNat,bs)) rfl
         ⟨by omega,fun _=>⟨_,rfl,fun j u hu=>by rw[z0J,Nat.zero_add,cell_of_row _ _ _ _ _ _ hnew];simpa using hu⟩⟩
         (by intro u hu;simp only[z3A,List.mem_cons] at hu;rcases hu with rfl | hu;rfl;exact z1I _ u hu) (by unfold maxLen;omega) (by omega) ?_
        intro v4 w4 hr4 hk4 hv4;refine hK _ _ ?_;clear hK K;have hvb:∀ k,vw1.ownBlock=some k→F1 k∧k≠b∧vs1.ownBlock≠some k∧(Value.slice (some ⟨g1,0,none⟩) D.safe.length cap1).ownBlock≠some k:=HI1.out.foot.waits;have hh4:=hk4.get (hk3.get Hh2.out id) (fun e=>(hvb _ e).2.1 rfl);clear i0 i1 i2 i3 i4 i5 if1 ib1;obtain⟨i0,i1,i2,i3,i4,i5,if1,ib1⟩:=z4C hh4;obtain⟨ad4,cap4,rfl,-⟩:=hr4.form;have Hv4:=hid hv4;have Hh4:=hid hh4;have Hrw:=hid hrw;have Hr4:=hid hr4;have Hl:=hid hl;clear hh4 hrw hr4 hl hnew hv4
        repeat (apply z0F (by rfl);(intro K w';go_simp;exact id))
        (refine z0M (by rfl) (by rfl) (fun K hK=>?_);go_simp;refine hK _ _ ?_;clear hK K)
        refine z0S ?_
        go_wp2
        go_ret;refine⟨by rw[Hw.out];rfl,?_⟩;have hok:=Hok.out;rw[Hw.out] at hok ⊢;have hk5:Keep (fun k=>k=b) w4 (w4.setCell ⟨b,2,none⟩ (.slice ad4 ((act D).2.waits.length+1) cap4)):=kst;have hh5:=z0C Hh4.out 2 (.slice ad4 ((act D).2.waits.length+1) cap4);obtain⟨w5,hw5⟩:=zX1 (w4.setCell ⟨b,2,none⟩ (.slice ad4 ((act D).2.waits.length+1) cap4));rw[← hw5] at hk5 hh5 ⊢;clear hw5 i0 i1 i2 i3 i4 i5 if1 ib1;obtain⟨vD,hvD⟩:∃ v,v=Value.slice ad4 ((act D).2.waits.length+1) cap4:=⟨_,rfl⟩;have hr4:=Hr4.out;have hv4:=Hv4.out;rw[← hvD] at hh5 hr4 hv4;have hf1:=HI1.out.foot
        have hown:∀ k,vD.ownBlock=some k→vw1.ownBlock=some k∨k=w3.heap.size:=by
         intro k hk
         rcases hv4 with ⟨_,h0⟩ | ⟨k',h1,h2⟩
         ·omega
         ·rw[hk] at h1;cases h1;exact h2
        have hnew:∀ k,F1 k→k≠w3.heap.size:=fun k hF e=>by
         have h1:=hf1.lt k hF;have h2:=hk2.size;have h3:=hk3.size;omega
        have kb:∀ k,F1 k→k≠g1→vw1.ownBlock≠some k→k≠b→w5.heap[k]?=w1.heap[k]?:=fun k hF h1 h2 h3=>by
         have hlt:=hf1.lt k hF;rw[hk5.block k (by have:=hk2.size;have:=hk3.size;have:=hk4.size;omega) h3,hk4.block k (by have:=hk2.size;have:=hk3.size;omega) h2,hk3.block k (by have:=hk2.size;omega) id,hk2.block k hlt h1]
        have hob:∀ k,vD.ownBlock=some k→k≠b∧vs1.ownBlock≠some k∧(Value.slice (some ⟨g1,0,none⟩) D.safe.length cap1).ownBlock≠some k:=by
         intro k hk
         rcases hown k hk with h | h
         ·exact(hf1.waits k h).2
         ·subst h
          exact⟨fun e=>hnew _ hf1.self e.symm,fun e=>hnew _ (hf1.safe _ e).1 rfl,fun e=>hnew _ (hf1.now _ e).1 rfl⟩
        have kz:Keep (fun k=>vw1.ownBlock=some k∨k=b) w2 w5:=
         (hk3.next hk4 (H:=fun k=>vw1.ownBlock=some k) (fun _ _ x=>x.elim) (fun _ _ x=>x)).next hk5 (fun _ _ x=>.inl x) (fun _ _ x=>.inr x)
        have ks:Keep (fun k=>k=g1∨vw1.ownBlock=some k∨k=b) w1 w5:=
         hk2.next kz (fun _ _ x=>.inl x) (fun _ _ x=>.inr x)
        have hr5:=hr4.keep hk5 fun k e x=>(hob k e).1 x;refine⟨fun k=>F1 k∨vD.ownBlock=some k,⟨vs1,.slice (some ⟨g1,0,none⟩) D.safe.length cap1,vD,?_⟩,?_,?_⟩
        ·refine⟨?_,?_,?_,?_,⟨.inl hf1.self,fun k e=>⟨.inl (hf1.safe k e).1,(hf1.safe k e).2⟩,fun k e=>⟨.inl (hf1.now k e).1,(hf1.now k e).2⟩,fun k e=>⟨.inr e,hob k e⟩,?_⟩,hok⟩
         ·rw[hh5];rfl
         ·refine HI1.out.safe.keep ks fun k e x=>?_
          rcases x with x | x | x
          ·subst x;exact(hf1.now k rfl).2.2 e
          ·exact(hf1.waits k x).2.2.1 e
          ·exact(hf1.safe k e).2 x
         ·have hr2:=Hr2.out.keep kz fun k e x=>by
           rcases x with x | x
           ·exact(hf1.waits k x).2.2.2 e
           ·exact(hf1.now k e).2.1 x
          have e1:(DM.now { (act D).2 with waits:=(act D).2.waits ++ [(at_.toNat,bs)] }).flatten=(DM.now (act D).2).flatten.take (at_.toNat * 32) ++ (bs ++ (DM.now (act D).2).flatten.drop (at_.toNat * 32+bs.length)):=by
           have e2:DM.now { (act D).2 with waits:=(act D).2.waits ++ [(at_.toNat,bs)] }=(DM.now (act D).2).set at_.toNat bs:=by simp[DM.now,puts]
           rw[e2,zeD _ _ _ HI1.out.ok.now (by rw[z1H,z1P];omega) hbl,hbl]
          show Row w5 _ 32 _ (act D).2.safe.length _;rw[e1,z1P];exact hr2
         ·show Row w5 _ 33 vD ((act D).2.waits ++ [(at_.toNat,bs)]).length (z6I ((act D).2.waits ++ [(at_.toNat,bs)]))
          rw[List.length_append];have e3:z6I ((act D).2.waits ++ [(at_.toNat,bs)])=z6I (act D).2.waits ++ z3A (at_.toNat,bs):=by simp[z6I]
          rw[e3];exact hr5
         ·intro k hF
          rcases hF with hF | hF
          ·exact Nat.lt_of_lt_of_le (hf1.lt k hF) ks.size
          ·exact hr5.lt hF
        ·refine hk1.next ks (fun _ _ x=>x) fun k hk x=>?_
         have inF:∀ k,k<w.heap.size→F1 k→F k:=fun k hk h=>(hF1 k h).elim id fun h=>by omega
         rcases x with x | x | x
         ·subst x;exact inF _ hk (hf1.now _ rfl).1
         ·exact inF _ hk (hf1.waits _ x).1
         ·subst x;exact inF _ hk hf1.self
        ·intro k hF
         rcases hF with hF | hF
         ·exact hF1 k hF
         ·rcases hown k hF with h | h
          ·exact hF1 k (hf1.waits k h).1
          ·exact .inr (by have:=hk1.size;have:=hk2.size;have:=hk3.size;omega)
     ·have c3':((n:Int) == 32)=false:=by simp;omega
      have c4:bs.length≠32:=by omega
      have HI:=hid hI;clear hI hh hgn htk hDat;go_enter Tryz.func106,Tryz.ntmps106
      go_wp2
      go_ret;rw[Bad.out (.inr (.inr c4))];exact⟨rfl,HI.out.to (Keep.refl _ _)⟩
end
section
open Go.RowKit
open DM
theorem zaG (w:World) (b:Nat) (F:Nat→Prop) (D:Dk) (hD:DiskAt w b F D) (hfew:D.waits.length≤1000000) :
  Calls Tryz.prog 129 #[.pointer (some ⟨b,0,none⟩)] w fun e w'=>e = .returned (.int .i64 (DM.sync D).1)∧DiskTo b F w (DM.sync D).2 w':=by
 cases ha:(act D).1 with
 | false=>
   have hw:DM.sync D=(6,(act D).2):=by unfold DM.sync;simp[ha]
   have Hw:=hid hw;clear hw;go_enter Tryz.func129,Tryz.ntmps129;go_wp2_with fail;refine(zdZ w b F D hD).mono ?_;rintro e w1 ⟨rfl,hto⟩
   go_wp2
   go_ret;exact⟨by rw[Hw.out];rfl,by rw[Hw.out];exact hto⟩
 | true=>
   have hw:DM.sync D=(0,{ (act D).2 with safe:=DM.now (act D).2,waits:=[] }):=by unfold DM.sync;simp[ha]
   have Hw:=hid hw;have Hok:Hid (Ok (DM.sync D).2):=hid (hD.ok.sync);clear hw;go_enter Tryz.func129,Tryz.ntmps129;go_wp2_with fail;refine(zdZ w b F D hD).mono ?_;rintro e w1 ⟨rfl,F1,⟨vs1,vn1,vw1,hI1⟩,hk1,hF1⟩;have hpos:0<(act D).2.safe.length:=by rw[z1P];exact hD.ok.pos
   obtain⟨D1,hD1⟩:=zX1 ((act D).2);rw[← hD1] at hI1 hpos;have hwl:D1.waits.length≤1000000:=by rw[hD1,z1V];exact hfew
   have HD1:=hid hD1;clear hD1;have hh1:=hI1.head;unfold z2J at hh1;obtain⟨g0,cap0,cur0,fz0,rfl,hg0,hfz0,hn0,hc0,hz0,ht0⟩:=hI1.safe.some hpos;obtain⟨g1,cap1,cur1,fz1,rfl,hg1,hfz1,hn1,hc1,hz1,ht1⟩:=hI1.now.some hpos;obtain⟨i0,i1,i2,i3,i4,i5,if1,ib1⟩:=z4C hh1;obtain⟨adw,capw,rfl,hwcap,hwmax,hwnil,hwad⟩:=hI1.waits.form;have hnl:(z0B (DM.now D1).flatten).length=D1.safe.length * 32:=hI1.now.len
   have hcp:=z5C (P:=Tryz.prog) (w:=w1.drew) (sT:=92) (ty:=3) z7J g0 0 D1.safe.length cap0 cur0 157 fz0 hg0 hfz0 (some ⟨g1,0,none⟩) D1.safe.length cap1 (z0B (DM.now D1).flatten) _ (Nat.min_self _)
    (Cells.of_row (hI1.now.keep (Keep.refl (fun _=>False) w1).drew (fun _ _ x=>x))) (by rw[hnl,hz0];omega) (z1I _)
   have hr2:Row (w1.drew.setRow g0 (splice cur0.toList 0 (z0B (DM.now D1).flatten)).toArray) 157 32 (.slice (some ⟨g0,0,none⟩) D1.safe.length cap0) D1.safe.length (z0B (DM.now D1).flatten):=by
    have h:=Row.spliced (w:=w1.drew) (hI1.safe.keep (Keep.refl (fun _=>False) w1).drew (fun _ _ x=>x)) hg0 0 (z0B (DM.now D1).flatten) (by omega)
    rwa [z9H (z0B D1.safe.flatten) _ (by rw[hnl,hI1.safe.len])] at h
   have hgb:g0≠b:=(hI1.foot.safe g0 rfl).2;have hk2:Keep (fun k=>k=g0) w1 (w1.drew.setRow g0 (splice cur0.toList 0 (z0B (DM.now D1).flatten)).toArray):=by refine Keep.setRow (Keep.refl _ _).drew (.inl ?_) _;rfl
   have Hr2:=hid hr2;have Hk2:=hid hk2;have Hcp:=hid hcp;have HI1:=hid hI1;have Hh1:=hid hh1;have Hhw:=hid hwad;clear hr2 hk2 hcp hI1 hh1 hg0 hfz0 hz0 ht0 hg1 hfz1 hz1 ht1 hnl hwad;go_wp2_with fail;refine z0G [] (by kernel_rfl) (by kernel_rfl) ?_
   repeat (first | (apply z0F (by rfl);(intro K w';go_simp;exact id)) | (apply z0I (by rfl);(intro K;go_simp;exact id)))
   refine z0M (by rfl) (by rfl) (fun K hK=>?_);go_simp;rw[Hcp.out];go_simp;refine hK _ _ ?_;clear hK K;obtain⟨w2,hw2⟩:=zX1 (w1.drew.setRow g0 (splice cur0.toList 0 (z0B (DM.now D1).flatten)).toArray);have hr2:=Hr2.out;have hk2:=Hk2.out;rw[← hw2] at hr2 hk2 ⊢;clear Hr2 Hk2 Hcp hw2 i0 i1 i2 i3 i4 i5 if1 ib1;have hh2:=hk2.get Hh1.out (fun e=>hgb e.symm);obtain⟨i0,i1,i2,i3,i4,i5,if1,ib1⟩:=z4C hh2;have Hh2:=hid hh2;have Hr2:=hid hr2;clear hh2 hr2;refine z0S ?_;go_wp2_with fail
   have hrw:Row w2 159 33 (.slice adw D1.waits.length capw) D1.waits.length (z6I D1.waits):=
    HI1.out.waits.keep hk2 fun k e x=>(HI1.out.foot.waits k e).2.2.1 (by rw[x];rfl)
   obtain⟨w3,ys,hcl,hr3,hk3⟩:=znA (P:=Tryz.prog) (ty:=0) zdL (by decide) hrw;rw[hcl];clear hcl i0 i1 i2 i3 i4 i5 if1 ib1;have hh3:=hk3.get Hh2.out (fun e=>(HI1.out.foot.waits _ e).2.1 rfl);obtain⟨i0,i1,i2,i3,i4,i5,if1,ib1⟩:=z4C hh3;have Hh3:=hid hh3;have Hr3:=hid hr3;have Hrw:=hid hrw;clear hh3 hr3 hrw;go_wp2_with fail;go_ret;refine⟨by rw[Hw.out];rfl,?_⟩;have hok:=Hok.out;rw[Hw.out] at hok ⊢;rw[← HD1.out] at hok ⊢;clear i0 i1 i2 i3 i4 i5 if1 ib1;have hk4:Keep (fun k=>k=b) w3 (w3.setCell ⟨b,2,none⟩ (.slice adw 0 capw)):=kst;have hh4:=z0C Hh3.out 2 (.slice adw 0 capw);obtain⟨w4,hw4⟩:=zX1 (w3.setCell ⟨b,2,none⟩ (.slice adw 0 capw));rw[← hw4] at hk4 hh4 ⊢;clear hw4;have hf1:=HI1.out.foot;have kz:Keep (fun k=>(Value.slice adw D1.waits.length capw).ownBlock=some k∨k=b) w2 w4:=hk3.next hk4 (fun _ _ x=>.inl x) (fun _ _ x=>.inr x);have ks:Keep (fun k=>k=g0∨(Value.slice adw D1.waits.length capw).ownBlock=some k∨k=b) w1 w4:=hk2.next kz (fun _ _ x=>.inl x) (fun _ _ x=>.inr x);have hnl:(DM.now D1).length=D1.safe.length:=z1H _;refine⟨F1,⟨.slice (some ⟨g0,0,none⟩) D1.safe.length cap0,.slice (some ⟨g1,0,none⟩) D1.safe.length cap1,.slice adw 0 capw,?_⟩,?_,hF1⟩
   ·refine⟨by rw[hh4];rfl,?_,?_,?_,⟨hf1.self,hf1.safe,hf1.now,fun k e=>hf1.waits k (by rw[← e];exact z1W _ _ _ _),fun k hF=>Nat.lt_of_lt_of_le (hf1.lt k hF) ks.size⟩,hok⟩
    ·show Row w4 _ 32 _ (DM.now D1).length _
     rw[hnl]
     exact Hr2.out.keep kz fun k e x=>by
      rcases x with x | x
      ·exact(hf1.waits k x).2.2.1 e
      ·exact(hf1.safe k e).2 x
    ·show Row w4 _ 32 _ (DM.now D1).length (z0B (DM.now D1).flatten)
     rw[hnl]
     exact HI1.out.now.keep ks fun k e x=>by
      rcases x with x | x | x
      ·subst x;exact(hf1.now k e).2.2 rfl
      ·exact(hf1.waits k x).2.2.2 e
      ·exact(hf1.now k e).2.1 x
    ·have h5:=(Hr3.out.keep hk4 fun k e x=>(hf1.waits k e).2.1 x).cut 0 (Nat.zero_le _)
     simpa [z6I] using h5
   ·refine hk1.next ks (fun _ _ x=>x) fun k hk x=>?_
    have inF:F1 k→F k:=fun h=>(hF1 k h).elim id fun h=>by omega
    rcases x with x | x | x
    ·subst x;exact inF (hf1.safe _ rfl).1
    ·exact inF (hf1.waits _ x).1
    ·subst x;exact inF hf1.self
theorem ziP (w:World) (b:Nat) (F:Nat→Prop) (D:Dk) (at_:Int) (hD:DiskAt w b F D) (hlt:at_<9223372036854775808) :
  Calls Tryz.prog 83 #[.pointer (some ⟨b,0,none⟩),.int .i64 at_] w fun e w'=>
   ∃ v,e = .returned (.tuple #[v,.int .i64 (DM.read D at_).2])∧Row w' 5 1 v (DM.read D at_).1.length (z0B (DM.read D at_).1)∧Keep (fun _=>False) w w'∧(∀ k,v.ownBlock=some k→w.heap.size≤k):=by
 obtain⟨vs,vn,vw,hI⟩:=hD;have hh:=hI.head;unfold z2J at hh;obtain⟨h0,h1,h2,h3,h4,h5,hf,hb⟩:=z4C hh;have hpos:=hI.ok.pos;have hfewS:=hI.ok.few;obtain⟨gn,cap,cur,fz,rfl,hgn,hfz,hncap,hcapm,hcurs,htk⟩:=hI.now.some hpos
 have out:∀ c,DM.read D at_=([],c)→∀ w',w'=w→∃ v,Ending.returned (.tuple #[.slice none 0 0,.int .i64 c]) = .returned (.tuple #[v,.int .i64 (DM.read D at_).2])∧Row w' 5 1 v (DM.read D at_).1.length (z0B (DM.read D at_).1)∧Keep (fun _=>False) w w'∧(∀ k,v.ownBlock=some k→w.heap.size≤k):=by
  rintro c hc w' rfl;refine⟨.slice none 0 0,by rw[hc],by rw[hc];exact Row.nil _ _ _,Keep.refl _ _,by simp[Value.ownBlock]⟩
 have Out:=hid out;clear out
 cases hd:D.down with
 | true=>
   rw[hd] at h5;have hw:DM.read D at_=([],6):=by unfold DM.read;rw[hd];rfl
   have Hw:=hid hw;clear hw hh hgn htk;go_enter Tryz.func83,Tryz.ntmps83
   go_wp2
   go_ret2;exact Out.out _ Hw.out _ rfl
 | false=>
   rw[hd] at h5
   by_cases c1:at_<0
   ·have hw:DM.read D at_=([],30):=by unfold DM.read;rw[hd];simp[c1]
    have Hw:=hid hw;clear hw hh hgn htk;go_enter Tryz.func83,Tryz.ntmps83
    go_wp2
    go_ret2;exact Out.out _ Hw.out _ rfl
   ·by_cases c2:(D.safe.length:Int)≤at_
    ·have hw:DM.read D at_=([],30):=by unfold DM.read;rw[hd];simp[c2]
     have Hw:=hid hw;clear hw hh hgn htk;go_enter Tryz.func83,Tryz.ntmps83
     go_wp2
     go_ret2;exact Out.out _ Hw.out _ rfl
    ·have hw:DM.read D at_=((DM.now D).getD at_.toNat [],0):=by unfold DM.read;rw[hd];simp[c1,c2]
     have Hw:=hid hw;have HI:=hid hI;have hgn':=hgn;clear hw hh hgn htk hI Out;go_enter Tryz.func83,Tryz.ntmps83;go_wp2_with (at_builtin;refine z0A ?_;intro q hq)
     (refine hq.out ?_;clear hq q)
     have hsecl:((DM.now D).getD at_.toNat []).length=32:=by
      have hi:at_.toNat<(DM.now D).length:=by rw[z1H];omega
      have:=HI.out.ok.now _ (List.getElem_mem hi);simpa [List.getD,List.getElem?_eq_getElem hi] using this
     have hsec:∀ j u,(z0B ((DM.now D).getD at_.toNat []))[j]?=some u→w.cell? ⟨gn,at_.toNat * 32+j,none⟩=some u:=by
      intro j u hu;have hj:j<32:=by have:=(List.getElem?_eq_some_iff.1 hu).1;rw[z0D,hsecl] at this;exact this
      rw[HI.out.now.cell _ (by omega),← hu,← zeH _ _ HI.out.ok.now (by rw[z1H];omega)];simp[z0B,hj,List.getElem?_drop]
     refine wpList_plain rfl (fun K hK=>?_)
     refine z0R (v:=.slice (some ⟨w.heap.size,0,none⟩) 0 0) (n:=0) z0U (.tmp 26) (.tmp 33) rfl rfl (Row.fresh w 5 1) (some ⟨gn,at_.toNat * 32,none⟩) 32 32 (z0B ((DM.now D).getD at_.toNat [])) rfl
      ⟨by rw[z0D,hsecl],fun _=>⟨_,rfl,fun j u hu=>by
       rw[z0J,World.cell?_of_block (Below.heap_alloc w _ _ (z0L hgn'))];exact hsec j u hu⟩⟩ (z1I _) (by decide) (by decide) ?_
     intro v1 w1 hr1 hk1 hv1;refine hK _ _ ?_;clear hK K;have Hr1:=hid hr1;have Hv1:=hid hv1;clear hr1 hv1 hsec;go_wp2_with (at_builtin;refine z0A ?_;intro q hq);go_ret2;refine⟨v1,by rw[Hw.out];rfl,by rw[Hw.out];show Row w1 _ 1 v1 ((DM.now D).getD at_.toNat []).length _;rw[hsecl];exact Hr1.out,?_,?_⟩
     ·exact(((Keep.refl (fun _=>False) w).alloc (.cells #[] 5)).next hk1 (H:=fun k=>k=w.heap.size) (fun _ _ x=>x.elim) (fun k _ x=>by simpa [Value.ownBlock] using x.symm)).mono fun k hk x=>by omega
     ·intro k hk
      rcases Hv1.out with ⟨_,h0⟩ | ⟨k',h1,h2⟩
      ·exact absurd h0 (by decide)
      ·rw[hk] at h1
       cases h1
       rcases h2 with h2 | h2
       ·simp[Value.ownBlock] at h2;omega
       ·simp at h2;omega
end
section
open Go.RowKit
open DM
theorem zoL (s:List Sec) (i:Nat) (x:Sec):z6Q (s.set i x)=(z6Q s).set i (.string (str x)):=by simp[z6Q,List.map_set]
theorem znS (s:List Sec) (l:List (Nat×Sec)) (k:Nat) (hk:k<l.length):puts s (l.take (k+1))=(puts s (l.take k)).set l[k].1 l[k].2:=by
 rw[List.take_add_one,List.getElem?_eq_getElem hk,Option.toList_some,z7W];rfl
structure RefSyncRel (w1:World) (b:Nat) (gs cap:Nat) (D1:Dk) (k:Nat) (wr:World):Prop where
 row:Row wr 9 1 (.slice (.some ⟨gs,0,none⟩) D1.safe.length cap) D1.safe.length (z6Q (puts D1.safe (D1.waits.take k)))
 keep:Keep (fun j=>j=gs) w1 wr
theorem zqW (w:World) (b:Nat) (F:Nat→Prop) (D:Dk) (hD:RefAt w b F D) (hfew:D.waits.length≤1000000) :
  Calls Tryz.prog 137 #[.pointer (some ⟨b,0,none⟩)] w fun e w'=>e = .returned (.int .i64 (DM.sync D).1)∧RefTo b F w (DM.sync D).2 w':=by
 cases ha:(act D).1 with
 | false=>
   have hw:DM.sync D=(6,(act D).2):=by simp[DM.sync,ha]
   have Hw:=hid hw;clear hw;go_enter Tryz.func137,Tryz.ntmps137;go_wp2_with (at_builtin;refine z0A ?_;intro q hq);refine(zdK w b F D hD).mono ?_;rintro e w1 ⟨rfl,ht1⟩;have Ht:=hid ht1;clear ht1;go_wp2_with (at_builtin;refine z0A ?_;intro q hq);go_ret;exact⟨by rw[Hw.out];rfl,by rw[Hw.out];exact Ht.out⟩
 | true=>
   have hw:DM.sync D=(0,{ (act D).2 with safe:=now (act D).2,waits:=[] }):=by simp[DM.sync,ha]
   have Hw:=hid hw;have Hok:=hid (hD.ok.sync);clear hw;go_enter Tryz.func137,Tryz.ntmps137;go_wp2_with (at_builtin;refine z0A ?_;intro q hq);refine(zdK w b F D hD).mono ?_;rintro e w1 ⟨rfl,F1,⟨vs1,vw1,hI1⟩,hk1,hF1⟩;have hfew1:(act D).2.waits.length≤1000000:=by rw[z1V];exact hfew
   obtain⟨D1,hD1⟩:=zX1 ((act D).2);rw[← hD1] at hI1 hfew1;have HD1:=hid hD1;have hpos:=hI1.ok.pos;have hfewS:=hI1.ok.few;obtain⟨gs,cap,cur,fz,rfl,hgs,-⟩:=hI1.safe.some hpos;obtain⟨aw,capw,rfl,-⟩:=hI1.waits.form;have hne:b≠gs:=fun e=>(hI1.foot.safe gs rfl).2 e.symm;have HR1:=hid (RefSyncRel.mk (w1:=w1) (b:=b) (k:=0) hI1.safe (Keep.refl _ _));have HI1:=hid hI1;clear hD1 hI1 hgs;have hh1:=HI1.out.head;unfold z2M at hh1;obtain⟨i0,i1,i2,i3,if1,ib1⟩:=z4D hh1;have Hh1:=hid hh1;clear hh1;go_wp2_with (at_builtin;refine z0A ?_;intro q hq);clear i0 i1 i2 i3 if1
   go_loopw [4] (fun kv wr=>∃ k:Nat,k≤D1.waits.length∧kv = .int .i64 k∧Hid (RefSyncRel w1 b gs cap D1 k wr)) (fun kv _=>D1.waits.length - (intOf kv).toNat)
   case atStart=>exact⟨0,Nat.zero_le _,rfl,HR1⟩
   case round=>
    clear HR1;obtain⟨k,hk,rfl,HR⟩:=hrel;have hhr:=HR.out.keep.get Hh1.out hne;obtain⟨i0,i1,i2,i3,if1,ib2⟩:=z4D hhr;have Hhr:=hid hhr;clear hhr
    by_cases hkn:k<D1.waits.length
    ·have h4:(k:Int)<D1.waits.length:=by omega
     have hwr:=HI1.out.waits.keep HR.out.keep (fun j e x=>(HI1.out.foot.waits j e).2.2 (by rw[x];rfl));obtain⟨gw,capw',hvw,b0⟩:=hwr.getCell (j:=k * 2) (u:=.int .i64 (D1.waits[k].1:Int)) (by have:=z6Y D1.waits k hkn 0 (by decide);simpa [putV] using this);obtain⟨gw2,capw2,hvw2,b1⟩:=hwr.getCell (j:=k * 2+1) (u:=.string (str D1.waits[k].2)) (by have:=z6Y D1.waits k hkn 1 (by decide);simpa [putV] using this);cases hvw;cases hvw2;have hps:=(HI1.out.ok.waits _ (List.getElem_mem hkn)).1;obtain⟨p,hp⟩:=zX1 (D1.waits[k]);rw[← hp] at b0 b1 hps;have hrow:=HR.out.row;have hps2:=znS D1.safe D1.waits k hkn;rw[← hp] at hps2;have hpl:(z6Q (puts D1.safe (D1.waits.take k))).length=D1.safe.length:=by rw[zfR,z7X]
     obtain⟨u,hu⟩:∃ u,(z6Q (puts D1.safe (D1.waits.take k)))[p.1]?=some u:=⟨_,List.getElem?_eq_getElem (by omega)⟩;have c0:wr.cell? ⟨gs,p.1,none⟩=some u:=by rw[hrow.cell _ (by omega)];exact hu
     have f0:=hrow.frozen p.1 (by omega);have Hps2:=hid hps2;have h5:(p.1:Int)<(D1.safe.length:Int):=by omega
     clear hwr hp hrow hps2 hpl hu;go_wp2_with (at_builtin;refine z0A ?_;intro q hq);refine z0G [] (by kernel_rfl) (by kernel_rfl) ?_
     repeat (first | (apply z0F (by rfl);(intro K w';go_simp;exact id)) | (apply z0I (by rfl);(intro K;go_simp;exact id)))
     (refine z0M (by rfl) (by rfl) (fun K hK=>?_);go_simp;refine hK _ _ ?_;clear hK K)
     refine z0S ?_;obtain⟨w2,hw2⟩:=zX1 ((wr.setCell ⟨gs,p.1,none⟩ (.string (str p.2))).drew);rw[← hw2]
     have hr2:Row w2 9 1 (.slice (.some ⟨gs,0,none⟩) D1.safe.length cap) D1.safe.length (z6Q (puts D1.safe (D1.waits.take (k+1)))):=by
      rw[Hps2.out,zoL,hw2];exact((HR.out.row.setOne p.1 (by omega) (.string (str p.2)) rfl).keep (F:=fun _=>False) (Keep.refl _ _).drew (fun _ _ x=>x))
     have hk2:Keep (fun j=>j=gs) w1 w2:=by
      rw[hw2];refine(Keep.setCell HR.out.keep (.inl ?_) _).drew;rfl
     have HR2:=hid (RefSyncRel.mk (w1:=w1) (b:=b) (k:=k+1) hr2 hk2);clear hw2 hr2 hk2 b0 b1 c0 f0;go_wp2_with (at_builtin;refine z0A ?_;intro q hq);go_roundw
     case rel=>exact⟨k+1,by omega,by go_num,HR2⟩
     case measure=>simp[intOf];omega
    ·have h4:¬ (k:Int)<D1.waits.length:=by omega
     obtain rfl:k=D1.waits.length:=by omega
     go_wp2_with (at_builtin;refine z0A ?_;intro q hq);go_ret;refine⟨by rw[Hw.out];rfl,?_⟩;have hok:=Hok.out;rw[Hw.out] at hok ⊢;rw[← HD1.out] at hok ⊢;have hk5:Keep (fun j=>j=b) wr (wr.setCell ⟨b,1,none⟩ (.slice none 0 0)):=kst;have hh5:=z0C Hhr.out 1 (.slice none 0 0);obtain⟨w5,hw5⟩:=zX1 (wr.setCell ⟨b,1,none⟩ (.slice none 0 0));rw[← hw5] at hk5 hh5 ⊢;clear hw5;have hf1:=HI1.out.foot;have hrow:=HR.out.row.keep hk5 (fun j e x=>by subst x;simp[Value.ownBlock] at e;exact hne e.symm);rw[List.take_length] at hrow;have ks:=HR.out.keep.trans hk5;refine⟨F1,⟨.slice (.some ⟨gs,0,none⟩) D1.safe.length cap,.slice none 0 0,?_⟩,?_,fun j x=>hF1 j x⟩
     ·refine⟨?_,?_,?_,⟨hf1.self,hf1.safe,fun j e=>by simp[Value.ownBlock] at e,fun j x=>Nat.lt_of_lt_of_le (hf1.lt j x) ks.size⟩,hok⟩
      ·rw[hh5];simp[z2M]
      ·show Row w5 _ 1 _ (DM.now D1).length (z6Q (DM.now D1))
       rw[z1H];exact hrow
      ·exact Row.nil _ _ _
     ·refine hk1.next ks (fun _ _ x=>x) fun j hj x=>?_
      have inF:F1 j→F j:=fun h=>(hF1 j h).elim id fun h=>by omega
      rcases x with x | x
      ·subst x;exact inF (hf1.safe _ rfl).1
      ·subst x;exact inF hf1.self
end
section
open Go.RowKit
open DM
theorem zcH:∀ n,(List.replicate n DM.blank).flatten=List.replicate (n * 32) (0:UInt8)
 | 0=>by simp
 | n+1=>by
   rw[List.replicate_succ,List.flatten_cons,zcH n];apply List.ext_getElem
   ·simp[DM.blank];omega
   ·intro i h1 h2
    rw[List.getElem_replicate,List.getElem_append];split
    ·unfold DM.blank;exact List.getElem_replicate _
    ·exact List.getElem_replicate _
theorem zqG (n:Nat):(madeCells z9N.cells (n * 32)).toList=z0B (List.replicate n DM.blank).flatten:=by
 rw[z4U _ (.int .u8 0) (fun i hi=>by simp[z9N,Value.cells] at hi ⊢;simp[hi]) (by simp[z9N,Value.cells]),zcH];simp[z0B]
theorem ztF {α:Type} (h:Array α) (a b c:α):(((h.push a).push b).push c)[h.size]?=some a∧(((h.push a).push b).push c)[h.size+1]?=some b∧(((h.push a).push b).push c)[h.size+2]?=some c:=by
 refine⟨?_,?_,?_⟩
 ·rw[Array.getElem?_push,if_neg (by simp;omega),Array.getElem?_push,if_neg (by simp),Array.getElem?_push,if_pos rfl]
 ·rw[Array.getElem?_push,if_neg (by simp),Array.getElem?_push,if_pos (by simp)]
 ·rw[Array.getElem?_push,if_pos (by simp)]
def z5D (n:Nat):Array Value:=madeCells z9N.cells (n * 32)
theorem znU (w:World) (n:Nat) (h0:0<n) (h1:n≤2048) :
  Calls Tryz.prog 17 #[.int .i64 (n:Int)] w fun e w'=>∃ b F,e = .returned (.tuple #[.pointer (some ⟨b,0,none⟩),.int .i64 0])∧DiskAt w' b F (DM.new n)∧Keep (fun _=>False) w w'∧∀ k,F k→w.heap.size≤k:=by
 have c1:¬ (n:Int)<1:=by omega
 have c2:¬ 2048<(n:Int):=by omega
 have hmk:∀ wx:World,(Instr.makeSlice 92 (.int .i64 (n:Int)) (.int .i64 (n:Int))).run Tryz.prog wx = .ok (.slice (some ⟨wx.heap.size,0,none⟩) n n) (wx.alloc (.cells (z5D n) 157)):=
  fun wx=>z7H (P:=Tryz.prog) z7J .i64 .i64 n (by omega) (by unfold maxLen;omega) wx
 have fin:∀ (gs gn:Nat),(gs=w.heap.size∧gn=w.heap.size+1∨gs=w.heap.size+1∧gn=w.heap.size)→∀ (w':World) (e:Ending),
   w'.heap=((w.heap.push (.cells (z5D n) 157)).push (.cells (z5D n) 157)).push (.cells #[.slice (some ⟨gs,0,none⟩) n n,.slice (some ⟨gn,0,none⟩) n n,.slice none 0 0,.bool false,.int .i64 0,.bool false] 95)→
   w'.os=w.os→w'.tape=w.tape→w'.output=w.output→e = .returned (.tuple #[.pointer (some ⟨w.heap.size+1+1,0,none⟩),.int .i64 0])→
   ∃ b F,e = .returned (.tuple #[.pointer (some ⟨b,0,none⟩),.int .i64 0])∧DiskAt w' b F (DM.new n)∧Keep (fun _=>False) w w'∧∀ k,F k→w.heap.size≤k:=by
  intro gs gn hg w' e hh ho ht hp he;have hsz:w'.heap.size=w.heap.size+3:=by rw[hh];simp
  have b0:w'.heap[w.heap.size]?=some (.cells (z5D n) 157 (0,0)):=by rw[hh];exact(ztF _ _ _ _).1
  have b1:w'.heap[w.heap.size+1]?=some (.cells (z5D n) 157 (0,0)):=by rw[hh];exact(ztF _ _ _ _).2.1
  have b2:w'.heap[w.heap.size+2]?=some (.cells #[.slice (some ⟨gs,0,none⟩) n n,.slice (some ⟨gn,0,none⟩) n n,.slice none 0 0,.bool false,.int .i64 0,.bool false] 95 (0,0)):=by rw[hh];exact(ztF _ _ _ _).2.2
  have bs:w'.heap[gs]?=some (.cells (z5D n) 157 (0,0)):=by rcases hg with ⟨rfl,rfl⟩ | ⟨rfl,rfl⟩ <;> assumption
  have bn:w'.heap[gn]?=some (.cells (z5D n) 157 (0,0)):=by rcases hg with ⟨rfl,rfl⟩ | ⟨rfl,rfl⟩ <;> assumption
  have hm:n≤maxLen:=by unfold maxLen;omega
  have nl:(DM.new n).safe.length=n:=by simp[DM.new]
  have r:∀ g,w'.heap[g]?=some (.cells (z5D n) 157 (0,0))→Row w' 157 32 (.slice (some ⟨g,0,none⟩) n n) n (z0B (List.replicate n DM.blank).flatten):=by
   intro g hg;rw[← zqG];exact Row.made hg hm
  refine⟨w.heap.size+2,fun k=>w.heap.size≤k∧k<w.heap.size+3,he,⟨_,_,_,b2,?_,?_,Row.nil _ _ _,⟨by omega,?_,?_,?_,fun k hk=>by omega⟩,Ok.new h0 h1⟩,⟨ho,ht,hp,by omega,?_⟩,fun k hk=>hk.1⟩
  ·rw[nl];exact r _ bs
  ·rw[nl];exact r _ bn
  ·intro k hk;simp[Value.ownBlock] at hk;omega
  ·intro k hk;simp[Value.ownBlock] at hk ⊢;omega
  ·intro k hk;simp[Value.ownBlock] at hk
  ·intro k hk _
   rw[hh,Array.getElem?_push,if_neg (by simp;omega),Array.getElem?_push,if_neg (by simp;omega),Array.getElem?_push,if_neg (by omega)]
 have Fin:=hid fin;clear fin;go_enter Tryz.func17,Tryz.ntmps17
 go_wp2
 go_region
 all_goals (go_wp2;go_ret2)
 all_goals (first | exact Fin.out _ _ (.inr ⟨rfl,rfl⟩) _ _ rfl rfl rfl rfl rfl | exact Fin.out _ _ (.inl ⟨rfl,rfl⟩) _ _ rfl rfl rfl rfl rfl)
end
section
open Go.RowKit
open DM
def zlQ (l:List Int):List Value:=l.map (Value.int .i64)
theorem zeN (l:List Int):(zlQ l).length=l.length:=by simp[zlQ]
structure CrashRel (D:Dk) (ks:List Int) (wS:World) (vn:Value) (k:Nat) (wr:World):Prop where
 keep:Keep (fun i=>vn.ownBlock=some i) wS wr
 row:Row wr 157 32 vn D.safe.length (z0B (tear D.safe (D.waits.take k) ks).flatten)
theorem zoT (w:World) (b:Nat) (F:Nat→Prop) (D:Dk) (ao:Option Addr) (n c:Nat) (ks:List Int) (hD:DiskAt w b F D) (hsrc:Cells w ao n 1 (zlQ ks))
  (hap:0<n→∀ x,ao=some x→¬ F x.block) (hn:n≤9223372036854775807) (hwf:∀ z ∈ ks,-9223372036854775808≤z∧z≤9223372036854775807) (hfew:D.waits.length≤1000000) :
  Calls Tryz.prog 31 #[.pointer (some ⟨b,0,none⟩),.slice ao n c] w fun e w'=>e = .returned (.tuple #[])∧DiskTo b F w (DM.crash D ks) w':=by
 obtain⟨vs1,vn1,vw1,hI1⟩:=hD;have Hok:Hid (Ok (DM.crash D ks)):=hid (hI1.ok.crash ks);have hpos:=hI1.ok.pos;have hkl:ks.length=n:=by have:=hsrc.1;rw[zeN] at this;omega
 have hh1:=hI1.head;unfold z2J at hh1;obtain⟨g0,cap0,cur0,fz0,rfl,hg0,hfz0,hn0,hc0,hz0,ht0⟩:=hI1.safe.some hpos;obtain⟨g1,cap1,cur1,fz1,rfl,hg1,hfz1,hn1,hc1,hz1,ht1⟩:=hI1.now.some hpos;obtain⟨i0,i1,i2,i3,i4,i5,if1,ib1⟩:=z4C hh1;obtain⟨adw,capw,rfl,hwcap,hwmax,hwnil,hwad⟩:=hI1.waits.form;have hnl:(z0B D.safe.flatten).length=D.safe.length * 32:=hI1.safe.len
 have hcp:=z5C (P:=Tryz.prog) (w:=w.drew) (sT:=92) (ty:=3) z7J g1 0 D.safe.length cap1 cur1 157 fz1 hg1 hfz1 (some ⟨g0,0,none⟩) D.safe.length cap0 (z0B D.safe.flatten) _ (Nat.min_self _)
   (Cells.of_row (hI1.safe.keep (Keep.refl (fun _=>False) w).drew (fun _ _ x=>x))) (by rw[hnl,hz1];omega) (z1I _)
 have hr2:Row (w.drew.setRow g1 (splice cur1.toList 0 (z0B D.safe.flatten)).toArray) 157 32 (.slice (some ⟨g1,0,none⟩) D.safe.length cap1) D.safe.length (z0B D.safe.flatten):=by
   have h:=Row.spliced (w:=w.drew) (hI1.now.keep (Keep.refl (fun _=>False) w).drew (fun _ _ x=>x)) hg1 0 (z0B D.safe.flatten) (by omega)
   rwa [z9H (z0B (DM.now D).flatten) _ (by rw[hnl,hI1.now.len])] at h
 have hgb:g1≠b:=(hI1.foot.now g1 rfl).2.1;have hk2:Keep (fun k=>k=g1) w (w.drew.setRow g1 (splice cur1.toList 0 (z0B D.safe.flatten)).toArray):=by refine Keep.setRow (Keep.refl _ _).drew (.inl ?_) _;rfl
 have Hr2:=hid hr2;have Hk2:=hid hk2;have Hcp:=hid hcp;have HI1:=hid hI1;have Hh1:=hid hh1;have Hhw:=hid hwad;have Hnil:=hid hwnil;clear hr2 hk2 hcp hI1 hh1 hg0 hfz0 hz0 ht0 hg1 hfz1 hz1 ht1 hnl hwad hwnil;go_enter Tryz.func31,Tryz.ntmps31;go_wp2_with (at_builtin;refine z0A ?_;intro q hq);refine z0G [] (by kernel_rfl) (by kernel_rfl) ?_
 repeat (first | (apply z0F (by rfl);(intro K w';go_simp;exact id)) | (apply z0I (by rfl);(intro K;go_simp;exact id)))
 refine z0M (by rfl) (by rfl) (fun K hK=>?_);go_simp;rw[Hcp.out];go_simp;refine hK _ _ ?_;clear hK K;obtain⟨w2,hw2⟩:=zX1 (w.drew.setRow g1 (splice cur1.toList 0 (z0B D.safe.flatten)).toArray);have hr2:=Hr2.out;have hk2:=Hk2.out;rw[← hw2] at hr2 hk2 ⊢;clear Hr2 Hk2 Hcp hw2 i0 i1 i2 i3 i4 i5 if1 ib1;have hh2:=hk2.get Hh1.out (fun e=>hgb e.symm);obtain⟨i0,i1,i2,i3,i4,i5,if1,ib1⟩:=z4C hh2;have Hh2:=hid hh2;have Hr2:=hid hr2;have Hk2:=hid hk2;clear hh2 hr2 hk2;refine z0S ?_;go_wp2_with (at_builtin;refine z0A ?_;intro q hq);clear i0 i1 i2 i3 i4 i5 if1 ib1
 go_loopw [22] (fun v wr=>∃ k:Nat,k≤D.waits.length∧v = .int .i64 k∧Hid (CrashRel D ks w2 (.slice (some ⟨g1,0,none⟩) D.safe.length cap1) k wr)) (fun v _=>D.waits.length - (intOf v).toNat)
 case atStart=>exact⟨0,Nat.zero_le _,rfl,hid ⟨Keep.refl _ _,by simpa [tear] using Hr2.out⟩⟩
 case round=>
  obtain⟨k,hk,rfl,HR⟩:=hrel;have hrr:=HR.out.row;have hkr:=HR.out.keep;have kwr:Keep (fun i=>i=g1) w wr:=Hk2.out.next hkr (fun _ _ x=>x) (fun i _ x=>by simpa [Value.ownBlock] using x.symm);have hhr:=hkr.get Hh2.out (fun e=>hgb (by simpa [Value.ownBlock] using e));obtain⟨i0,i1,i2,i3,i4,i5,if1,ib1⟩:=z4C hhr
  have hwr:Row wr 159 33 (.slice adw D.waits.length capw) D.waits.length (z6I D.waits):=
   HI1.out.waits.keep kwr fun k e x=>(HI1.out.foot.waits k e).2.2.2 (by rw[x];rfl)
  by_cases hlt:k<D.waits.length
  ·obtain⟨gw,capw',curw,fzw,hvw,hgw,hfzw,-⟩:=hwr.some (by omega)
   simp only[Value.slice.injEq] at hvw;obtain⟨rfl,-,rfl⟩:=hvw;have hpl:=(HI1.out.ok.waits _ (List.getElem_mem hlt)).2
   have hcell:∀ j u,(z3A D.waits[k])[j]?=some u→wr.cell? ⟨gw,k * 33+j,none⟩=some u:=by
    intro j u hu;have hj:j<33:=by have:=(List.getElem?_eq_some_iff.1 hu).1;simp[z3A,z0D,hpl] at this;omega
    rw[hwr.cell _ (by omega),zcQ D.waits (fun p hp=>(HI1.out.ok.waits p hp).2) k hlt j hj];exact hu
   clear hgw hfzw hrr hkr hhr;have Hwr:=hid hwr;have Hcell:=hid hcell;have Kwr:=hid kwr;clear hwr hcell kwr;go_wp2_with (first | (at_builtin;refine z0A ?_;intro q hq) | (refine z9W (.load 159 _) rfl ?_;intro q hq) | (refine z9W (.alloc _) rfl ?_;intro q hq) | (refine z9W (.store 159 _ _) rfl ?_;intro q hq))
   (refine hq.out ?_;clear hq q)
   have hwl:(z3A D.waits[k]).length=33:=by simp[z3A,z0D,hpl]
   have Hwl:=hid hwl;clear hwl;refine wpList_plain rfl (fun K hK=>?_);refine zjY 159 (.tmp 25) rfl gw (k * 33) rfl (z3A D.waits[k]) Hcell.out _ Tryz.underlying159 rfl (by rw[Hwl.out];kernel_rfl) ?_;refine hK _ _ ?_;clear hK K;go_wp2_with (first | (at_builtin;refine z0A ?_;intro q hq) | (refine z9W (.alloc _) rfl ?_;intro q hq) | (refine z9W (.store 159 _ _) rfl ?_;intro q hq))
   (refine hq.out ?_;clear hq q)
   refine wpList_plain rfl (fun K hK=>?_);refine zqJ 159 rfl z3T (by kernel_rfl) ?_;refine hK _ _ ?_;clear hK K;have hgn:=heap_alloc_new wr (.cells z3T.cells 159);have hkA:=kal wr (.cells z3T.cells 159);obtain⟨wA,hwA⟩:=zX1 (wr.alloc (.cells z3T.cells 159));rw[← hwA] at hgn hkA ⊢;clear hwA;have Hgn:=hid hgn;clear hgn;go_wp2_with (first | (at_builtin;refine z0A ?_;intro q hq) | (refine z9W (.store 159 _ _) rfl ?_;intro q hq))
   (refine hq.out ?_;clear hq q)
   refine wpList_plain rfl (fun K hK=>?_);have hgn:=Hgn.out
   refine z3U 159 (.tmp 5) (.tmp 26) rfl wr.heap.size rfl (z3A D.waits[k]) rfl 159 z3T.cells (0,0) hgn (Free.zero _) (by rw[Hwl.out];rfl) (by
    intro u hu;simp only[z3A,List.mem_cons] at hu;rcases hu with rfl | hu;rfl;exact z1I _ u hu) (by rw[Hwl.out];kernel_rfl) ?_
   refine hK _ _ ?_;clear hK K;have hg3:=setRow_heap _ wr.heap.size _ (z3A D.waits[k]).toArray _ _ hgn
   have hk3:Keep (fun _=>False) wr (wA.setRow wr.heap.size (z3A D.waits[k]).toArray):=by
    refine Keep.setRow hkA (.inr ?_) _;exact Nat.le_refl _
   obtain⟨w3,hw3⟩:=zX1 (wA.setRow wr.heap.size (z3A D.waits[k]).toArray);rw[← hw3] at hg3 hk3 ⊢;clear hw3 hgn Hgn hkA i0 i1 i2 i3 i4 i5 if1 ib1;have hh3:=hk3.get (HR.out.keep.get Hh2.out (fun e=>hgb (by simpa [Value.ownBlock] using e))) id;obtain⟨i0,i1,i2,i3,i4,i5,if1,ib1⟩:=z4C hh3;have Hh3:=hid hh3;have f0:w3.cell? ⟨wr.heap.size,0,none⟩=some (.int .i64 (D.waits[k].1:Int)):=by rw[cell_of_row _ _ _ _ _ _ hg3];simp[z3A]
   have Hg3:=hid hg3;clear hh3 hg3;have hgr:wr.heap.size<w3.heap.size:=z0L Hg3.out
   by_cases hkn:k<n
   ·have hkk:(zlQ ks)[k]?=some (.int .i64 (ks[k]'(by omega))):=by simp[zlQ,show k<ks.length by omega]
    have hpk:=(HI1.out.ok.waits _ (List.getElem_mem hlt)).1;have hpos':=HI1.out.ok.few;obtain⟨ad,had,hadc⟩:=hsrc.2 (by omega);subst had;have hadF:=hap (by omega) _ rfl
    have hkc:w3.cell? (ad.add k)=some (.int .i64 (ks[k]'(by omega))):=by
     have hb:(ad.add k).block=ad.block:=by unfold Addr.add;split <;> rfl
     have h1:=hadc k _ hkk;have hlt1:=World.block_lt_of_cell? w _ h1;rw[← h1];refine World.cell?_of_block ?_;rw[hk3.block _ (Nat.lt_of_lt_of_le hlt1 Kwr.out.size) id,Kwr.out.block _ hlt1 (fun e=>hadF (by rw[← hb,e];exact(HI1.out.foot.now g1 rfl).1))]
    have hzb : -9223372036854775808≤ks[k]'(by omega)∧ks[k]'(by omega)≤9223372036854775807:=hwf _ (List.getElem_mem (by omega));obtain⟨z,hz⟩:=zX1 (ks[k]'(by omega));rw[← hz] at hkc hzb;have Hz:=hid hz;obtain⟨p,hp⟩:=zX1 (D.waits[k]);rw[← hp] at f0 hpk hpl Hg3 ⊢;have Hp:=hid hp;clear hz hp hadc hkk Hcell hadF;go_wp2_with (at_builtin;refine z0A ?_;intro q hq);refine z0G [] (by kernel_rfl) (by kernel_rfl) ?_
    repeat (first | (apply z0F (by rfl);(intro K w';go_simp;exact id)) | (apply z0I (by rfl);(intro K;go_simp;exact id)))
    have ecl:(if 32<(if z<0 then 0 else z) then 32 else if z<0 then 0 else z)=((clamp z:Nat):Int):=by unfold clamp;split <;> split <;> omega
    rw[ecl];have hcl:=zjC z;obtain⟨m,hm⟩:=zX1 (clamp z);rw[← hm] at hcl ⊢;have Hm:=hid hm;clear hm ecl;have hsl:=fun w'=>zcA (P:=Tryz.prog) Tryz.underlying157 (by kernel_rfl) wr.heap.size 1 .i64 m hcl w'
    repeat (apply z0F (by rfl);(intro K w';go_simp;exact id))
    clear hsl;have hrr:=HR.out.row.keep (hk3.drew) (fun _ _ x=>x);obtain⟨g1',cap1',cur',fz',hv',hg',hfz',-,-,hz',-⟩:=hrr.some hpos;simp only[Value.slice.injEq,Option.some.injEq,Addr.mk.injEq] at hv';obtain⟨⟨rfl,-,-⟩,-,rfl⟩:=hv'
    have hsr:Cells w3.drew (some ⟨wr.heap.size,1,none⟩) m 1 (z0B (p.2.take m)):=by
     refine⟨by rw[z0D,List.length_take];omega,fun _=>⟨_,rfl,fun j u hu=>?_⟩⟩;rw[z0J];show w3.cell? ⟨wr.heap.size,1+j,none⟩=some u;rw[cell_of_row _ _ _ _ _ _ Hg3.out];have hj:j<m:=by have:=(List.getElem?_eq_some_iff.1 hu).1;rw[z0D,List.length_take] at this;omega
     rw[← hu,Nat.add_comm];simp[z3A,z0B,hj]
    have hTl:(tear D.safe (D.waits.take k) ks).length=D.safe.length:=z4O _ _ _;have hT32:∀ x ∈ tear D.safe (D.waits.take k) ks,x.length=32:=z9E _ _ _ HI1.out.ok.safe fun q hq=>HI1.out.ok.waits q (List.mem_of_mem_take hq);have hfl:(z0B (p.2.take m)).length=m:=by rw[z0D,List.length_take];omega
    have hcp:=z5C (P:=Tryz.prog) (w:=w3.drew) (sT:=29) (ty:=3) z0U g1 (p.1 * 32) 32 32 cur' 157 fz' hg' hfz' (some ⟨wr.heap.size,1,none⟩) m 32 (z0B (p.2.take m)) m (by omega) hsr (by rw[hfl,hz'];omega) (z1I _);have hr4:=Row.spliced hrr hg' (p.1 * 32) (z0B (p.2.take m)) (by omega)
    have hk4:Keep (fun k=>k=g1) wr (w3.drew.setRow g1 (splice cur'.toList (p.1 * 32) (z0B (p.2.take m))).toArray):=by
     refine Keep.setRow (hk3.drew.mono (fun _ _ x=>x.elim)) (.inl ?_) _;rfl
    rw[z4Y,List.length_take,hpl,Nat.min_eq_left hcl,Hm.out,← zmZ _ _ _ hT32 hpl (by omega)] at hr4;refine z0M (by rfl) (by rfl) (fun K hK=>?_);go_simp;refine hK _ _ ?_;clear hK K hcp;obtain⟨w4,hw4⟩:=zX1 (w3.drew.setRow g1 (splice cur'.toList (p.1 * 32) (z0B (p.2.take m))).toArray);have hr4':Row w4 157 32 (.slice (some ⟨g1,0,none⟩) D.safe.length cap1) D.safe.length (z0B (torn (tear D.safe (D.waits.take k) ks) p z).flatten):=by rw[hw4,Hm.out];exact hr4
    rw[← hw4] at hk4 ⊢;clear hw4 hr4 hrr hg' hz' hfz' hsr hTl hT32 hfl;have Hr4:=hid hr4';have Hk4:=hid hk4;clear hr4' hk4 i0 i1 i2 i3 i4 i5 if1 ib1;refine z0S ?_;go_wp2_with (at_builtin;refine z0A ?_;intro q hq);go_roundw
    case rel=>
     refine⟨k+1,by omega,by go_num,hid ⟨HR.out.keep.next Hk4.out (fun _ _ x=>x) (fun i _ x=>by subst x;rfl),?_⟩⟩;rw[zeP _ _ _ _ hlt,dif_pos (by omega:k<ks.length),← Hz.out,← Hp.out];exact Hr4.out
    case measure=>simp[intOf];omega
   ·go_wp2_with (at_builtin;refine z0A ?_;intro q hq)
    go_roundw
    case rel=>
     refine⟨k+1,by omega,by go_num,hid ⟨HR.out.keep.next hk3 (fun _ _ x=>x) (fun i _ x=>x.elim),?_⟩⟩;rw[zeP _ _ _ _ hlt,dif_neg (by omega:¬ k<ks.length)];exact HR.out.row.keep hk3 (fun _ _ x=>x)
    case measure=>simp[intOf];omega
  ·obtain rfl:k=D.waits.length:=by omega
   rw[List.take_length] at hrr;have hTl:(tear D.safe D.waits ks).length=D.safe.length:=z4O _ _ _;have hsr:=HI1.out.safe.keep kwr (fun k e x=>by subst x;exact(HI1.out.foot.now k rfl).2.2 e);obtain⟨g0',cap0',cur',fz',hv',hg',hfz',-,-,hz',-⟩:=hsr.some hpos;simp only[Value.slice.injEq,Option.some.injEq,Addr.mk.injEq] at hv';obtain⟨⟨rfl,-,-⟩,-,rfl⟩:=hv';have hnl:=hrr.len
   have hcp:=z5C (P:=Tryz.prog) (w:=wr.drew) (sT:=92) (ty:=3) z7J g0 0 D.safe.length cap0 cur' 157 fz' hg' hfz' (some ⟨g1,0,none⟩) D.safe.length cap1 (z0B (tear D.safe D.waits ks).flatten) _ (Nat.min_self _)
    (Cells.of_row (hrr.keep (Keep.refl (fun _=>False) wr).drew (fun _ _ x=>x))) (by rw[hnl,hz'];omega) (z1I _)
   have hr3:Row (wr.drew.setRow g0 (splice cur'.toList 0 (z0B (tear D.safe D.waits ks).flatten)).toArray) 157 32 (.slice (some ⟨g0,0,none⟩) D.safe.length cap0) D.safe.length (z0B (tear D.safe D.waits ks).flatten):=by
    have h:=Row.spliced (w:=wr.drew) (hsr.keep (Keep.refl (fun _=>False) wr).drew (fun _ _ x=>x)) hg' 0 (z0B (tear D.safe D.waits ks).flatten) (by omega)
    rwa [z9H (z0B D.safe.flatten) _ (by rw[hnl,hsr.len])] at h
   have hk3:Keep (fun k=>k=g0) wr (wr.drew.setRow g0 (splice cur'.toList 0 (z0B (tear D.safe D.waits ks).flatten)).toArray):=by refine Keep.setRow (Keep.refl _ _).drew (.inl ?_) _;rfl
   have Hr3:=hid hr3;have Hk3:=hid hk3;have Hhr:=hid hhr;have Hrr:=hid hrr;have Hkr:=hid hkr;have Kwr:=hid kwr;clear hr3 hk3 hhr hrr hkr kwr hsr hg' hfz' hz' hnl hwr;go_wp2_with (at_builtin;refine z0A ?_;intro q hq);refine z0G [] (by kernel_rfl) (by kernel_rfl) ?_
   repeat (first | (apply z0F (by rfl);(intro K w';go_simp;exact id)) | (apply z0I (by rfl);(intro K;go_simp;exact id)))
   refine z0M (by rfl) (by rfl) (fun K hK=>?_);go_simp;refine hK _ _ ?_;clear hK K hcp;obtain⟨w3,hw3⟩:=zX1 (wr.drew.setRow g0 (splice cur'.toList 0 (z0B (tear D.safe D.waits ks).flatten)).toArray);have hr3:=Hr3.out;have hk3:=Hk3.out;rw[← hw3] at hr3 hk3 ⊢;clear Hr3 Hk3 hw3 i0 i1 i2 i3 i4 i5 if1 ib1;have hgb0:g0≠b:=(HI1.out.foot.safe g0 rfl).2;have hh3:=hk3.get Hhr.out (fun e=>hgb0 e.symm);obtain⟨i0,i1,i2,i3,i4,i5,if1,ib1⟩:=z4C hh3;have Hh3:=hid hh3;have Hr3:=hid hr3;have Hk3:=hid hk3;clear hh3 hr3 hk3;refine z0S ?_;go_wp2_with (at_builtin;refine z0A ?_;intro q hq)
   go_end0
   refine⟨rfl,?_⟩;clear i0 i1 i2 i3 i4 i5 if1 ib1
   have hk4:Keep (fun k=>k=b) w3 ((((w3.setCell ⟨b,2,none⟩ (.slice none 0 0)).setCell ⟨b,3,none⟩ (.bool false)).setCell ⟨b,4,none⟩ (.int .i64 0)).setCell ⟨b,5,none⟩ (.bool false)):=by
    refine Keep.setCell (Keep.setCell (Keep.setCell (Keep.setCell (Keep.refl _ _) (.inl ?_) _) (.inl ?_) _) (.inl ?_) _) (.inl ?_) _ <;> rfl
   have hh4:=z0C (z0C (z0C (z0C Hh3.out 2 (.slice none 0 0)) 3 (.bool false)) 4 (.int .i64 0)) 5 (.bool false);obtain⟨w4,hw4⟩:=zX1 ((((w3.setCell ⟨b,2,none⟩ (.slice none 0 0)).setCell ⟨b,3,none⟩ (.bool false)).setCell ⟨b,4,none⟩ (.int .i64 0)).setCell ⟨b,5,none⟩ (.bool false));rw[← hw4] at hk4 hh4 ⊢;clear hw4;have hf1:=HI1.out.foot;have kz:Keep (fun k=>k=g0∨k=b) wr w4:=Hk3.out.next hk4 (fun _ _ x=>.inl x) (fun _ _ x=>.inr x);have ks':Keep (fun k=>k=g1∨k=g0∨k=b) w w4:=Kwr.out.next kz (fun _ _ x=>.inl x) (fun _ _ x=>.inr x);refine DiskIs.to (vs:=.slice (some ⟨g0,0,none⟩) D.safe.length cap0) (vn:=.slice (some ⟨g1,0,none⟩) D.safe.length cap1) (vw:=.slice none 0 0) ?_ (ks'.mono fun k hk x=>?_)
   ·refine⟨by rw[hh4];rfl,?_,?_,Row.nil _ _ _,⟨hf1.self,hf1.safe,hf1.now,fun k e=>by simp[Value.ownBlock] at e,fun k hF=>Nat.lt_of_lt_of_le (hf1.lt k hF) ks'.size⟩,Hok.out⟩
    ·show Row w4 _ 32 _ (tear D.safe D.waits ks).length (z0B (tear D.safe D.waits ks).flatten)
     rw[hTl];exact Hr3.out.keep hk4 fun k e x=>(hf1.safe k e).2 x
    ·show Row w4 _ 32 _ (tear D.safe D.waits ks).length (z0B (tear D.safe D.waits ks).flatten)
     rw[hTl]
     exact Hrr.out.keep kz fun k e x=>by
      rcases x with x | x
      ·subst x;exact(hf1.now k e).2.2 rfl
      ·exact(hf1.now k e).2.1 x
   ·rcases x with x | x | x
    ·subst x;exact(hf1.now _ rfl).1
    ·subst x;exact(hf1.safe _ rfl).1
    ·subst x;exact hf1.self
end
section
open Go.RowKit
open DM
theorem zoJ (w:World):Calls Tryz.prog 42 #[] w fun e w'=>e = .returned (.string (str DM.blank))∧Keep (fun _=>False) w w':=by
 have hmk:(Instr.makeSlice 29 (.int .i64 32) (.int .i64 32)).run Tryz.prog w = .ok (.slice (some ⟨w.heap.size,0,none⟩) 32 32) (w.alloc (.cells (madeCells (Value.int .u8 0).cells (32 * 1)) 5)):=z7H (P:=Tryz.prog) z0U .i64 .i64 32 (by decide) (by decide) w;have hg:=heap_alloc_new w (.cells (madeCells (Value.int .u8 0).cells (32 * 1)) 5);have hk:=kal w (.cells (madeCells (Value.int .u8 0).cells (32 * 1)) 5);obtain⟨w2,hw2⟩:=zX1 (w.alloc (.cells (madeCells (Value.int .u8 0).cells (32 * 1)) 5));rw[← hw2] at hmk hg hk;have hr:=Row.made (n:=32) (size:=1) hg (by decide);rw[z4U _ (.int .u8 0) (by intro i hi;simp[Value.cells] at hi;subst hi;rfl) (by decide) (32 * 1)] at hr;have hb:List.replicate (32 * 1) (Value.int .u8 0)=z0B DM.blank:=by simp[z0B,DM.blank]
 rw[hb] at hr;have hcv:=z3C (P:=Tryz.prog) Tryz.underlying29 Tryz.underlying5 Tryz.underlying9 (c:=32) (Cells.of_row hr);have Hk:=hid hk;clear hg hk hw2 hr hb;go_enter Tryz.func42,Tryz.ntmps42;go_wp2_with (at_builtin;refine z0A ?_;intro q hq);go_ret;exact⟨rfl,Hk.out⟩
theorem zjT:SliceTy Tryz.prog 96 9 (.string (str [])) 1 16:=⟨by kernel_rfl,by kernel_rfl,rfl,by decide⟩
structure RefNewRel (w:World) (b n k:Nat) (wr:World):Prop where
 ex:∃ vs,wr.heap[b]?=some (.cells #[vs,.slice none 0 0,.int .i64 (-1),.bool false] 99 (0,0))∧Row wr 9 1 vs k (z6Q (List.replicate k DM.blank))∧
  (∀ j,vs.ownBlock=some j→w.heap.size≤j∧j≠b)∧Keep (fun _=>False) w wr∧w.heap.size≤b
theorem zsV (w:World) (n:Nat) (h0:0<n) (h1:n≤2048) :
  Calls Tryz.prog 18 #[.int .i64 (n:Int)] w fun e w'=>∃ b F,e = .returned (.tuple #[.pointer (some ⟨b,0,none⟩),.int .i64 0])∧RefAt w' b F (DM.new n)∧Keep (fun _=>False) w w'∧∀ k,F k→w.heap.size≤k:=by
 have c1:¬ (n:Int)<1:=by omega
 have c2:¬ (2048:Int)<n:=by omega
 go_enter Tryz.func18,Tryz.ntmps18;go_wp2_with (at_builtin;refine z0A ?_;intro q hq);have hg:=heap_alloc_new w (.cells #[.slice none 0 0,.slice none 0 0,.int .i64 (-1),.bool false] 99);have hk:=kal w (.cells #[.slice none 0 0,.slice none 0 0,.int .i64 (-1),.bool false] 99);obtain⟨w2,hw2⟩:=zX1 (w.alloc (.cells #[.slice none 0 0,.slice none 0 0,.int .i64 (-1),.bool false] 99));rw[← hw2] at hg hk ⊢;clear hw2;obtain⟨b,hb⟩:=zX1 (w.heap.size);rw[← hb] at hg ⊢;have hbw:w.heap.size≤b:=by omega
 clear hb;have HR2:=hid (RefNewRel.mk (w:=w) (n:=n) (k:=0) ⟨.slice none 0 0,hg,Row.nil _ _ _,by simp[Value.ownBlock],hk,hbw⟩);clear hg hk
 go_loopw [5] (fun kv wr=>∃ k:Nat,k≤n∧kv = .int .i64 k∧Hid (RefNewRel w b n k wr)) (fun kv _=>n - (intOf kv).toNat)
 case atStart=>exact⟨0,Nat.zero_le _,rfl,HR2⟩
 case round=>
  clear HR2;obtain⟨k,hk,rfl,HR⟩:=hrel;obtain⟨vs,hg,hr,ho,hkp,-⟩:=HR.out.ex;obtain⟨i0,i1,i2,i3,if1,ib1⟩:=z4D hg
  by_cases hkn:k<n
  ·have h4:(k:Int)<n:=by omega
   have Hx:=hid (zA1 hg (zA1 hr (zA1 ho hkp)));clear hg hr ho hkp;go_wp2_with (at_builtin;refine z0A ?_;intro q hq);refine z0G [24] (by kernel_rfl) (by kernel_rfl) ?_
   repeat (first | (apply z0F (by rfl);(intro K w';go_simp;exact id)) | (apply z0I (by rfl);(intro K;go_simp;exact id)))
   refine z2G (by rfl) (by rfl) (fun K hK=>?_);go_simp;refine(zoJ wr.drew).mono ?_;rintro e w3 ⟨rfl,hk3⟩;refine hK _ _ (Pre.of_keep hk3) ?_;clear hK K
   (refine z2G (by rfl) (by rfl) (fun K hK=>?_);go_simp;refine hK _ _ (Pre.push _ rfl) ?_;clear hK K)
   obtain⟨hg,hr,ho,hkp⟩:=Hx.out;have hkd:Keep (fun _=>False) wr w3:=((Keep.refl _ _).drew).next hk3 (fun _ _ x=>x) (fun _ _ x=>x);have hn4:=heap_alloc_new w3 (.cells #[.string (str DM.blank)] 9);have hk4:Keep (fun _=>False) wr (w3.alloc (.cells #[.string (str DM.blank)] 9)):=hkd.alloc _;have hsz3:=hkd.size;obtain⟨w4,hw4⟩:=zX1 (w3.alloc (.cells #[.string (str DM.blank)] 9));rw[← hw4] at hn4 hk4 ⊢;clear hw4;have hr4:=hr.keep hk4 (fun _ _ x=>x);have hg4:=hk4.get hg id;refine z0M (by rfl) (by rfl) (fun K hK=>?_)
   refine z0R zjT (.tmp 23) (.tmp 25) rfl rfl hr4 (some ⟨w3.heap.size,0,none⟩) 1 1 [.string (str DM.blank)] rfl
    ⟨rfl,fun _=>⟨_,rfl,fun j u hu=>by rw[z0J,Nat.zero_add,cell_of_row _ _ _ _ _ _ hn4];simpa using hu⟩⟩ (by intro u hu;simp at hu;subst hu;rfl) (by unfold maxLen;omega) (by omega) ?_
   intro v5 w5 hr5 hk5 hv5;refine hK _ _ ?_;clear hK K;have hg5:=hk5.get hg4 (fun e=>(ho b e).2 rfl);clear i0 i1 i2 i3 if1 ib1;obtain⟨i0,i1,i2,i3,if1,ib1⟩:=z4D hg5;obtain⟨ad5,cap5,rfl,-⟩:=hr5.form;have Hy:=hid (zA1 hg5 (zA1 hr5 (zA1 hk5 (zA1 hv5 hk4))));clear hg5 hr5 hk5 hv5 hk4 hn4 hr4 hg4 hg hr ho hkp hkd hk3
   repeat (apply z0F (by rfl);(intro K w';go_simp;exact id))
   (refine z0M (by rfl) (by rfl) (fun K hK=>?_);go_simp;refine hK _ _ ?_;clear hK K)
   refine z0S ?_;obtain⟨hg5,hr5,hk5,hv5,hk4⟩:=Hy.out;obtain⟨hg,hr,ho,hkp⟩:=Hx.out;obtain⟨vD,hvD⟩:∃ v,v=Value.slice ad5 (k+1) cap5:=⟨_,rfl⟩;rw[← hvD] at hr5 hv5 ⊢
   have hown:∀ j,vD.ownBlock=some j→w.heap.size≤j∧j≠b:=by
    intro j hj;have hbl:=z0L hg
    rcases hv5 with ⟨_,h0⟩ | ⟨k',h1,h2⟩
    ·omega
    ·rw[hj] at h1;cases h1
     rcases h2 with h2 | h2
     ·exact ho _ h2
     ·have:=hk4.size;have:=hkp.size;constructor <;> omega
   have hk6:Keep (fun j=>j=b) w5 (w5.setCell ⟨b,0,none⟩ vD):=kst;have hh6:=z0C hg5 0 vD;obtain⟨w6,hw6⟩:=zX1 (w5.setCell ⟨b,0,none⟩ vD);rw[← hw6] at hk6 hh6 ⊢
   have h7:RefNewRel w b n (k+1) w6:=by
    refine⟨vD,by rw[hh6];simp,?_,hown,?_,hbw⟩
    ·have h8:=hr5.keep hk6 fun j e x=>(hown j e).2 x
     rw[List.replicate_succ',show z6Q (List.replicate k DM.blank ++ [DM.blank])=z6Q (List.replicate k DM.blank) ++ [.string (str DM.blank)] by simp[z6Q]];exact h8
    ·exact((hkp.nx hk4).next hk5 (H:=fun _=>False) (fun _ _ x=>x) (fun j hj e=>by have:=(ho j e).1;omega)).next hk6 (fun _ _ x=>x) (fun j hj e=>by omega)
   have HR7:=hid h7;clear h7 hw6 hk6 hh6 hg5 hr5 hk5 hv5 hk4 hg hr ho hkp hown hvD i0 i1 i2 i3 if1 ib1;go_wp2_with (at_builtin;refine z0A ?_;intro q hq);go_roundw
   case rel=>exact⟨k+1,by omega,by go_num,HR7⟩
   case measure=>simp[intOf];omega
  ·have h4:¬ (k:Int)<n:=by omega
   obtain rfl:k=n:=by omega
   have Hx:=hid (zA1 hg (zA1 hr (zA1 ho hkp)));clear hg hr ho hkp;go_wp2_with (at_builtin;refine z0A ?_;intro q hq);go_ret2;obtain⟨hg,hr,ho,hkp⟩:=Hx.out;refine⟨b,rfl,fun j=>j=b∨vs.ownBlock=some j,⟨vs,.slice none 0 0,hg,?_,Row.nil _ _ _,⟨.inl rfl,fun j e=>⟨.inr e,(ho j e).2⟩,by simp[Value.ownBlock],?_⟩,Ok.new h0 h1⟩,hkp,?_⟩
   ·simpa [DM.new] using hr
   ·intro j hj
    rcases hj with rfl | hj
    ·exact z0L hg
    ·exact hr.lt hj
   ·intro j hj
    rcases hj with rfl | hj
    ·exact hbw
    ·exact(ho j hj).1
end
section
open Go.RowKit
open DM
structure SpoilRel (w:World) (v:Value) (n:Nat) (wr:World):Prop where
 ex:∃ l:List UInt8,Row wr 5 1 v n (z0B l)
 keep:Keep (fun j=>v.ownBlock=some j) w wr
end
section
open Go.RowKit
open DM
theorem zhC (l:List UInt8) (i j:Nat):(str l).extract i j=str ((l.take j).drop i):=by
 apply ByteArray.ext;simp[str,ByteArray.data_extract,List.extract_toArray,List.drop_take,List.extract]
structure RefCrashRel (w:World) (b:Nat) (gs cap:Nat) (D:Dk) (ks:List Int) (k:Nat) (wr:World):Prop where
 row:Row wr 9 1 (.slice (.some ⟨gs,0,none⟩) D.safe.length cap) D.safe.length (z6Q (tear D.safe (D.waits.take k) ks))
 keep:Keep (fun j=>j=gs) w wr
end
end Go.Proofs.YtkjofdocgaiedaaGreat
