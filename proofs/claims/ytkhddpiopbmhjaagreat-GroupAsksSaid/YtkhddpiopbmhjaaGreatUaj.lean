/- Texts Lists, Slc, Disk, Ref, RefW, RefR, DiskW, DiskS, RefS, DiskN0, DiskC, RefN, Spoil, RefC, Lent in one. Conditions: as each law names them. -/
import Derived.Test.YtkhddpiopbmhjaaGreatChecked
import Derived.Laws.IdiomStrings
import Derived.WalkLawsBesides
import Derived.WalkSpells
import Derived.WalkKit
import Derived.Test.YtkhddpiopbmhjaaGreatUaa
import Derived.Test.YtkhddpiopbmhjaaGreatUac
set_option maxRecDepth 20000
set_option maxHeartbeats 8000000
namespace Go.Proofs.YtkhddpiopbmhjaaGreat
section
open Go.RowKit
theorem z1L:SliceTy Tryz.prog 39 5 (.int .u8 0) 1 1:=⟨by kernel_rfl,by kernel_rfl,rfl,by decide⟩
abbrev Fresh:=FreshU 5
theorem zwQ(w:World)(ao bo:Option Addr)(n m c d:Nat)(l k:List UInt8)(h1:Cells w ao n 1 (z0B l))(h2:Cells w bo m 1 (z0B k)):Calls Tryz.prog 14 #[.slice ao n c,.slice bo m d] w λe w'=>e = .returned (.bool (decide (l=k)))/\w=w':=by
 have hs1:=z3E (P:=Tryz.prog) Tryz.underlying39 Tryz.underlying5 Tryz.underlying9 (c:=c) h1;have hs2:=z3E (P:=Tryz.prog) Tryz.underlying39 Tryz.underlying5 Tryz.underlying9 (c:=d) h2;have he:Value.bool ((str l).toList == (str k).toList) = .bool (decide (l=k)):=by{rw[z2Q,z2Q];congr 1;rw[Bool.eq_iff_iff];simp};have He:=hid he;clear he
 go_in
 go_wp2
 go_ret;exact⟨congrArg Ending.returned He.o,rfl⟩
theorem zxN(w:World)(ao:Option Addr)(n c:Nat)(l:List UInt8)(h1:Cells w ao n 1 (z0B l))(hn:n<=140737488355328):Calls Tryz.prog 60 #[.slice ao n c] w λe w'=>∃ v,e = .returned v/\Fresh w v l w':=by
 have hl:l.length=n:=by{have:=h1.1;rw[z0E] at this;omega};have Hl:=hid hl;clear hl
 go_in
 go_wp2_with (at_builtin;refine z0Q ?_;intro q hq)
 (refine hq.out ?_;clear hq q)
 refine wpList_plain rfl (λK hK=>?_);refine z1E (v:=.slice none 0 0) (n:=0) z1L (.tmp 4) (.tmp 5) rfl rfl (Row.nil _ _ _) ao n c (z0B l) rfl h1 (z2D _) (by unfold maxLen;omega) (by omega) ?_;intro v2 w2 hr2 hk2 hv2;rw[Nat.zero_add,List.nil_append] at hr2;refine hK _ _ ?_;clear hK K;have hF:Fresh w v2 l w2:=by{refine⟨by rw[Hl.o];exact hr2,hk2.mono (λi hi x=>by simp[Value.ownBlock] at x),λk hk=>?_⟩;rcases hv2 with ⟨h0,_⟩ | ⟨k',h1,h2⟩;{rw[h0] at hk;simp[Value.ownBlock] at hk};{rw[hk] at h1;cases h1;rcases h2 with h2 | h2;{simp[Value.ownBlock] at h2};{omega}}};have HF:=hid hF;clear hF hr2 hk2 hv2;go_wp2_with fail;go_ret;exact⟨_,rfl,HF.o⟩
end
section
open Go.RowKit
theorem z4C{P:Program}{t e:TypeId}{z:Value}{size bytes:Nat}(T:SliceTy P t e z size bytes)(ao:Option Addr)(n cap:Nat)(k:IntKind)(hi:Nat)(h1:hi<=cap)(w:World):(Instr.sliceAt t (.slice ao n cap) none (some (.int k (hi:Int))) none).run P w = .ok (.slice ao hi cap) w:=by
 obtain⟨ht,hinfo,hzs,hpos⟩:=T;obtain⟨i,hi',hsize⟩:∃ i,P.info? e=some i/\i.size=size:=by{cases hq:P.info? e with | none=>{simp[hq] at hinfo} | some i=>{simp[hq] at hinfo;exact⟨i,rfl,hinfo.2.1⟩}};subst hsize;have h0:(0:Int)<=(hi:Int)/\(hi:Int)<=(cap:Int):=by{omega};simp[Instr.sliceAt,Instr.slice,run_underlying ht,Instr.sliceBounds,Instr.sliceBound,asIntOf,h0,h1,sizeOf,typeInfo,hi',Addr.add]
theorem z3U{P:Program}{t e:TypeId}{z:Value}{size bytes:Nat}(T:SliceTy P t e z size bytes)(ao:Option Addr)(n cap:Nat)(k k':IntKind)(lo hi:Nat)(h1:lo<=hi)(h2:hi<=cap)(w:World):(Instr.sliceAt t (.slice ao n cap) (some (.int k (lo:Int))) (some (.int k' (hi:Int))) none).run P w = .ok (.slice (z1T ao cap lo size) (hi - lo) (cap - lo)) w:=by
 obtain⟨ht,hinfo,hzs,hpos⟩:=T;obtain⟨i,hi',hsize⟩:∃ i,P.info? e=some i/\i.size=size:=by{cases hq:P.info? e with | none=>{simp[hq] at hinfo} | some i=>{simp[hq] at hinfo;exact⟨i,rfl,hinfo.2.1⟩}};subst hsize;have h0:(0:Int)<=(hi:Int)/\(hi:Int)<=(cap:Int):=by{omega};have h3:(0:Int)<=(lo:Int)/\(lo:Int)<=(hi:Int):=by{omega};simp[Instr.sliceAt,Instr.slice,run_underlying ht,Instr.sliceBounds,Instr.sliceBound,asIntOf,h0,h1,h2,h3,sizeOf,typeInfo,hi',z1T]
theorem z7V{P:Program}{t e:TypeId}{z:Value}{size bytes:Nat}(T:SliceTy P t e z size bytes)(ao:Option Addr)(n cap:Nat)(k k' k'':IntKind)(lo hi mx:Nat)(h1:lo<=hi)(h2:hi<=mx)(h3:mx<=cap)(w:World):(Instr.sliceAt t (.slice ao n cap) (some (.int k (lo:Int))) (some (.int k' (hi:Int))) (some (.int k'' (mx:Int)))).run P w = .ok (.slice (z1T ao mx lo size) (hi - lo) (mx - lo)) w:=by
 obtain⟨ht,hinfo,hzs,hpos⟩:=T;obtain⟨i,hi',hsize⟩:∃ i,P.info? e=some i/\i.size=size:=by{cases hq:P.info? e with | none=>{simp[hq] at hinfo} | some i=>{simp[hq] at hinfo;exact⟨i,rfl,hinfo.2.1⟩}};subst hsize;have h0:(0:Int)<=(hi:Int)/\(hi:Int)<=(mx:Int):=by{omega};have h4:(0:Int)<=(lo:Int)/\(lo:Int)<=(hi:Int):=by{omega};have h5:(0:Int)<=(mx:Int)/\(mx:Int)<=(cap:Int):=by{omega};simp[Instr.sliceAt,Instr.slice,run_underlying ht,Instr.sliceBounds,Instr.sliceBound,asIntOf,h0,h1,h2,h3,h4,h5,sizeOf,typeInfo,hi',z1T]
end
section
open Go.RowKit
open DM
def zaS(p:Nat×Sec):List Value:=.int .i64 (p.1:Int) :: z0B p.2
def zbR(l:List (Nat×Sec)):List Value:=l.flatMap zaS
def zbF:Value:=.agg (Array.replicate 32 (.int .u8 0))
theorem zfQ:SliceTy Tryz.prog 179 184 zbF 32 32:=⟨by kernel_rfl,by kernel_rfl,by simp[zbF,Value.cells],by decide⟩
def zaL:Value:=.agg (#[.int .i64 0] ++ Array.replicate 32 (.int .u8 0))
theorem zgQ:SliceTy Tryz.prog 180 186 zaL 33 40:=⟨by kernel_rfl,by kernel_rfl,by simp[zaL,Value.cells],by decide⟩
structure DiskFoot (w:World) (b:Nat) (F:Nat→Prop) (vs vn vw:Value):Prop where
 self:F b
 safe:∀ k,vs.ownBlock=some k→F k∧k≠b
 now:∀ k,vn.ownBlock=some k→F k∧k≠b∧vs.ownBlock≠some k
 waits:∀ k,vw.ownBlock=some k→F k∧k≠b∧vs.ownBlock≠some k∧vn.ownBlock≠some k
 lt:∀ k,F k→k<w.heap.size
def z3L(vs vn vw:Value)(D:Dk):Array Value:=#[vs,vn,vw,.bool D.left.isSome,.int .i64 (D.left.getD 0:Nat),.bool D.down]
structure DiskIs (w:World) (b:Nat) (F:Nat→Prop) (D:Dk) (vs vn vw:Value):Prop where
 head:w.heap[b]?=some (.cells (z3L vs vn vw D) 182 (0,0))
 safe:Row w 184 32 vs D.safe.length (z0B D.safe.flatten)
 now:Row w 184 32 vn D.safe.length (z0B (DM.now D).flatten)
 waits:Row w 186 33 vw D.waits.length (zbR D.waits)
 foot:DiskFoot w b F vs vn vw
 ok:Ok D
def DiskAt(w:World)(b:Nat)(F:Nat→Prop)(D:Dk):Prop:=∃ vs vn vw,DiskIs w b F D vs vn vw
theorem DiskIs.keep{w w':World}{b:Nat}{F G:Nat->Prop}{D:Dk}{vs vn vw:Value}(h:DiskIs w b F D vs vn vw)(hk:Keep G w w')(hn:∀ k,F k->¬ G k):DiskIs w' b F D vs vn vw:=
 ⟨hk.get h.head (hn _ h.foot.self),h.safe.keep hk λk e=>hn _ (h.foot.safe k e).1,h.now.keep hk λk e=>hn _ (h.foot.now k e).1,h.waits.keep hk λk e=>hn _ (h.foot.waits k e).1,⟨h.foot.self,h.foot.safe,h.foot.now,h.foot.waits,λk hF=>Nat.lt_of_lt_of_le (h.foot.lt k hF) hk.size⟩,h.ok⟩
theorem DiskAt.keep{w w':World}{b:Nat}{F G:Nat->Prop}{D:Dk}(h:DiskAt w b F D)(hk:Keep G w w')(hn:∀ k,F k->¬ G k):DiskAt w' b F D:=
 let ⟨_,_,_,hh⟩:=h;⟨_,_,_,hh.keep hk hn⟩
theorem DiskAt.lt{w:World}{b:Nat}{F:Nat->Prop}{D:Dk}(h:DiskAt w b F D):∀ k,F k->k<w.heap.size:=let ⟨_,_,_,hh⟩:=h;hh.foot.lt
theorem DiskAt.ok{w:World}{b:Nat}{F:Nat->Prop}{D:Dk}(h:DiskAt w b F D):Ok D:=let ⟨_,_,_,hh⟩:=h;hh.ok
def DiskTo(b:Nat)(F:Nat→Prop)(w:World)(D':Dk)(w':World):Prop:=
 ∃ F',DiskAt w' b F' D'∧Keep F w w'∧∀ k,F' k→F k∨w.heap.size≤k
theorem z8A{w:World}{b:Nat}{T:TypeId}{a0 a1 a2 a3 a4 a5:Value}(H:w.heap[b]?=some (.cells #[a0,a1,a2,a3,a4,a5] T (0,0))):w.cell? ⟨b,0,none⟩=some a0/\w.cell? ⟨b,1,none⟩=some a1/\w.cell? ⟨b,2,none⟩=some a2/\w.cell? ⟨b,3,none⟩=some a3/\w.cell? ⟨b,4,none⟩=some a4/\w.cell? ⟨b,5,none⟩=some a5/\
  (∀ o,w.frozen? ⟨b,o,none⟩=false)/\b<w.heap.size:=by
 refine⟨?_,?_,?_,?_,?_,?_,?_,z0J H⟩ <;> simp[World.cell?,World.frozen?,H]
theorem z0A{w:World}{b:Nat}{T:TypeId}{cs:Array Value}(H:w.heap[b]?=some (.cells cs T (0,0)))(i:Nat)(v:Value):(w.setCell ⟨b,i,none⟩ v).heap[b]?=some (.cells (cs.setIfInBounds i v) T (0,0)):=heap_setCell_same w b i cs T v H
theorem DiskIs.head'{w w':World}{b:Nat}{F:Nat->Prop}{D D':Dk}{vs vn vw:Value}(h:DiskIs w b F D vs vn vw)(hk:Keep (λk=>k=b) w w')(hh:w'.heap[b]?=some (.cells (z3L vs vn vw D') 182 (0,0)))(e1:D'.safe=D.safe)(e2:D'.waits=D.waits)(ok:Ok D'):DiskIs w' b F D' vs vn vw:=by
 have hb:∀ k,k≠b->¬ (λk=>k=b) k:=λk hk=>hk;have e3:DM.now D'=DM.now D:=by{simp[DM.now,e1,e2]};refine⟨hh,?_,?_,?_,⟨h.foot.self,h.foot.safe,h.foot.now,h.foot.waits,λk hF=>Nat.lt_of_lt_of_le (h.foot.lt k hF) hk.size⟩,ok⟩;{rw[e1];exact h.safe.keep hk λk e=>(h.foot.safe k e).2};{rw[e1,e3];exact h.now.keep hk λk e=>(h.foot.now k e).2.1};{rw[e2];exact h.waits.keep hk λk e=>(h.foot.waits k e).2.1}
theorem DiskIs.to{w w':World}{b:Nat}{F:Nat->Prop}{D':Dk}{vs vn vw:Value}(h:DiskIs w' b F D' vs vn vw)(hk:Keep F w w'):DiskTo b F w D' w':=
 ⟨F,⟨_,_,_,h⟩,hk,λ_ hF=>.inl hF⟩
theorem zgO(w:World)(b:Nat)(F:Nat->Prop)(D:Dk)(hD:DiskAt w b F D):Calls Tryz.prog 204 #[.pointer (some ⟨b,0,none⟩)] w λe w'=>e = .returned (.bool (act D).1)/\DiskTo b F w (act D).2 w':=by
 obtain⟨vs,vn,vw,hI⟩:=hD;have hok:=hI.ok.act;have hh:=hI.head;unfold z3L at hh;obtain⟨h0,h1,h2,h3,h4,h5,hf,hb⟩:=z8A hh;have fin:∀ w',Keep (λk=>k=b) w w'->w'.heap[b]?=some (.cells (z3L vs vn vw (act D).2) 182 (0,0))->DiskTo b F w (act D).2 w':=λw' hk hh'=> (hI.head' hk hh' (z2I D) (z3J D) hok).to (hk.mono λi _ e=>by subst e;exact hI.foot.self);have Fin:=hid fin;have Hh:=hid hh;clear fin hh;cases hd:D.down with | true=>{rw[hd] at h5;have ha:act D=(false,D):=by{unfold DM.act;rw[hd];rfl};have Ha:=hid ha;clear ha;(go_in);(go_wp2);go_ret;refine⟨by rw[Ha.o];rfl,Fin.out _ (Keep.refl _ _) (by rw[Ha.o];exact Hh.o)⟩} | false=>{rw[hd] at h5;cases hl:D.left with | none=>{rw[hl] at h3 h4;have ha:act D=(true,D):=by{unfold DM.act;rw[hd,hl];rfl};have Ha:=hid ha;clear ha;(go_in);(go_wp2);go_ret;refine⟨by rw[Ha.o];rfl,Fin.out _ (Keep.refl _ _) (by rw[Ha.o];exact Hh.o)⟩} | some k=>{rw[hl] at h3 h4;have hk:=hI.ok.left k hl;cases k with | zero=>{have ha:act D=(false,{ D with down:=true }):=by{unfold DM.act;rw[hd,hl];rfl};have Ha:=hid ha;clear ha;(go_in);(go_wp2);go_ret;refine⟨by rw[Ha.o];rfl,Fin.out _ (by refine Keep.setCell (Keep.refl _ _) (.inl ?_) _;rfl) (by rw[Ha.o,z0A Hh.o];rfl)⟩} | succ k=>{have ha:act D=(true,{ D with left:=some k }):=by{unfold DM.act;rw[hd,hl];rfl};have Ha:=hid ha;clear ha;(go_in);(go_wp2);go_ret;refine⟨by rw[Ha.o];rfl,Fin.out _ (by refine Keep.setCell (Keep.refl _ _) (.inl ?_) _;rfl) (by rw[Ha.o,z0A Hh.o];simp[z3L,hl])⟩}}}
theorem zqM(w:World)(b:Nat)(F:Nat->Prop)(D:Dk)(hD:DiskAt w b F D):Calls Tryz.prog 189 #[.pointer (some ⟨b,0,none⟩)] w λe w'=>e = .returned (.bool (!D.down))/\w=w':=by
 obtain⟨vs,vn,vw,hI⟩:=hD;have hh:=hI.head;unfold z3L at hh;obtain⟨h0,h1,h2,h3,h4,h5,hf,hb⟩:=z8A hh;clear hh hI
 go_in
 go_wp2
 go_ret;exact⟨rfl,rfl⟩
theorem zkB(w:World)(b:Nat)(F:Nat->Prop)(D:Dk)(hD:DiskAt w b F D):Calls Tryz.prog 188 #[.pointer (some ⟨b,0,none⟩)] w λe w'=>e = .returned (.int .i64 (D.safe.length:Int))/\w=w':=by
 obtain⟨vs,vn,vw,hI⟩:=hD;have hh:=hI.head;unfold z3L at hh;obtain⟨h0,h1,h2,h3,h4,h5,hf,hb⟩:=z8A hh;obtain⟨ad,cap,rfl,-⟩:=hI.now.form;clear hh hI
 go_in
 go_wp2
 go_ret;exact⟨rfl,rfl⟩
end
section
open Go.RowKit
open DM
def y2I(l:List Sec):List Value:=l.map fun s=>.string (str s)
def putV(p:Nat×Sec):List Value:=[.int .i64 (p.1:Int),.string (str p.2)]
def putsV(l:List (Nat×Sec)):List Value:=l.flatMap putV
def leftV(l:Option Nat):Int:=match l with | none=>-1 | some k=>(k:Int)
def refCells(vs vw:Value)(D:Dk):Array Value:=#[vs,vw,.int .i64 (leftV D.left),.bool D.down]
structure RefFoot (w:World) (b:Nat) (F:Nat→Prop) (vs vw:Value):Prop where
 self:F b
 safe:∀ k,vs.ownBlock=some k→F k∧k≠b
 waits:∀ k,vw.ownBlock=some k→F k∧k≠b∧vs.ownBlock≠some k
 lt:∀ k,F k→k<w.heap.size
end
section
open Go.RowKit
open DM
def putZero:Value:=.agg #[.int .i64 0,.string (str [])]
end
section
open Go.RowKit
open DM
def seenTo(D:Dk)(i k:Nat):Sec:=(puts D.safe (D.waits.take k)).getD i []
theorem Row.of_str(w:World)(e:TypeId)(l:List UInt8)(hl:l.length<=maxLen):Row (w.drew.alloc (.cells (bytesRow (str l) (grownCap w (str l).size 0 e)) e ((bytesRow (str l) (grownCap w (str l).size 0 e)).size,(bytesRow (str l) (grownCap w (str l).size 0 e)).size+1))) e 1
   (.slice (.some ⟨w.heap.size,0,none⟩) (str l).size (grownCap w (str l).size 0 e)) l.length (z0B l):=by
 have h1:=grownCap_ge w (str l).size 0 e;have h2:=grownCap_le_maxLen w (str l).size 0 e (by rw[z5H];exact hl);rw[z5H] at h1 h2;have hsz:(bytesRow (str l) (grownCap w (str l).size 0 e)).size=grownCap w (str l).size 0 e:=by{rw[z5H];simp[bytesRow,str,ByteArray.size];omega};refine⟨by rw[z0E,Nat.mul_one],.inr ⟨w.heap.size,_,_,_,by rw[z5H],heap_alloc_new w.drew _,?_,h1,h2,by rw[hsz,Nat.mul_one,z5H],?_⟩⟩;{intro j hj h;omega};{simp[bytesRow,str,z0B]}
end
section
open Go.RowKit
open DM
theorem zuD(w:World)(b:Nat)(F:Nat->Prop)(D:Dk)(at_:Int)(ao:Option Addr)(n c:Nat)(bs:List UInt8)(hD:DiskAt w b F D)(hsrc:Cells w ao n 1 (z0B bs))(hap:0<n->∀ x,ao=some x->¬ F x.block)(hlt:at_<9223372036854775808)(hn:n<=9223372036854775807)(hfew:D.waits.length<=1000000):Calls Tryz.prog 183 #[.pointer (some ⟨b,0,none⟩),.int .i64 at_,.slice ao n c] w λe w'=>e = .returned (.int .i64 (DM.write D at_ bs).1)/\DiskTo b F w (DM.write D at_ bs).2 w':=by
 obtain⟨vs,vn,vw,hI⟩:=hD;have hDat:DiskAt w b F D:=⟨_,_,_,hI⟩;have hbl:bs.length=n:=by{have:=hsrc.1;rw[z0E] at this;omega};have hh:=hI.head;unfold z3L at hh;obtain⟨h0,h1,h2,h3,h4,h5,hf,hb⟩:=z8A hh;have hpos:=hI.ok.pos;have hfewS:=hI.ok.few;obtain⟨gn,cap,cur,fz,rfl,hgn,hfz,hncap,hcapm,hcurs,htk⟩:=hI.now.some hpos;cases hd:D.down with
 | true=>
   rw[hd] at h5;have hw:DM.write D at_ bs=(6,D):=by{unfold DM.write;rw[hd];rfl};have Hw:=hid hw;have HI:=hid hI;clear hw hI hh hgn htk hDat
   go_in
   go_wp2
   go_ret;exact⟨by rw[Hw.o];rfl,by rw[Hw.o];exact HI.o.to (Keep.refl _ _)⟩
 | false=>
   rw[hd] at h5;have bad:(at_<0∨(D.safe.length:Int)<=at_∨bs.length≠32)->DM.write D at_ bs=(30,D):=λh=>by{unfold DM.write;rw[hd];simp[h]};have Bad:=hid bad;clear bad;by_cases c1:at_<0;{have HI:=hid hI;clear hI hh hgn htk hDat;(go_in);(go_wp2);go_ret;rw[Bad.out (.inl c1)];exact⟨rfl,HI.o.to (Keep.refl _ _)⟩}
   ·by_cases c2:(D.safe.length:Int)<=at_
    {have HI:=hid hI;clear hI hh hgn htk hDat;(go_in);(go_wp2);go_ret;rw[Bad.out (.inr (.inl c2))];exact⟨rfl,HI.o.to (Keep.refl _ _)⟩}
    ·by_cases c3:n=32
     ·subst c3
      have hgood:¬ (at_<0∨(D.safe.length:Int)<=at_∨bs.length≠32):=by{omega};cases ha:(act D).1 with
      | false=>
        have hw:DM.write D at_ bs=(6,(act D).2):=by{unfold DM.write;rw[hd];simp[hgood,ha]};have Hw:=hid hw;clear hw hgn htk hI hgood
        go_in
        go_wp2_with fail;refine(zgO w b F D hDat).mono ?_;rintro e w1 ⟨rfl,hto⟩
        go_wp2
        go_ret;exact⟨by rw[Hw.o];rfl,by rw[Hw.o];exact hto⟩
      | true=>
        have hw:DM.write D at_ bs=(0,{ (act D).2 with waits:=(act D).2.waits ++ [(at_.toNat,bs)] }):=by{unfold DM.write;rw[hd];simp[hgood,ha]};have Hw:=hid hw;have Hok:zH (Ok (DM.write D at_ bs).2):=hid (hI.ok.write at_ bs);clear hw hgn htk hI hgood
        go_in
        go_wp2_with fail;refine(zgO w b F D hDat).mono ?_;rintro e w1 ⟨rfl,F1,⟨vs1,vn1,vw1,hI1⟩,hk1,hF1⟩;have hh1:=hI1.head;unfold z3L at hh1;obtain⟨i0,i1,i2,i3,i4,i5,if1,ib1⟩:=z8A hh1;have hs1:=hsrc.keep0 hk1 (λh=>hap (by omega));have hr1:=hI1.now;have hl1:(act D).2.safe.length=D.safe.length:=by{rw[z2I]};rw[hl1] at hr1;obtain⟨g1,cap1,cur1,fz1,rfl,hg1,hfz1,hn1,hc1,hz1,ht1⟩:=hr1.some hpos;go_wp2_with fail;have hbs:at_.toNat * 32+(z0B bs).length<=D.safe.length * 32:=by{rw[z0E];omega};have hle:D.safe.length * 32<=cur1.size:=by{rw[hz1];omega};have hcp:=z5F (P:=Tryz.prog) (w:=w1) (sT:=39) (ty:=3) z1L g1 (at_.toNat * 32) 32 32 cur1 184 fz1 hg1 hfz1 ao 32 c (z0B bs) 32 rfl hs1 (by omega) (z2D _);have hr2:=hr1.spliced hg1 (at_.toNat * 32) (z0B bs) hbs;rw[hcp];clear hcp;have hgb:g1≠b:=(hI1.foot.now g1 rfl).2.1;have hk2:Keep (λk=>k=g1) w1 (w1.setRow g1 (splice cur1.toList (at_.toNat * 32) (z0B bs)).toArray):=by{refine Keep.setRow (Keep.refl _ _) (.inl ?_) _;rfl};obtain⟨w2,hw2⟩:=zX1 (w1.setRow g1 (splice cur1.toList (at_.toNat * 32) (z0B bs)).toArray);rw[<-hw2] at hr2 hk2 |-;clear hw2 i0 i1 i2 i3 i4 i5 if1 ib1 h0 h1 h2 h3 h4 h5 hf hb;have hh2:=hk2.get hh1 (λe=>hgb e.symm);obtain⟨i0,i1,i2,i3,i4,i5,if1,ib1⟩:=z8A hh2;have hsec:∀ j u,(z0B bs)[j]?=some u->w2.cell? ⟨g1,at_.toNat * 32+j,none⟩=some u:=by{intro j u hu;have hj:j<(z0B bs).length:=(List.getElem?_eq_some_iff.1 hu).1;rw[hr2.cell _ (by omega),zoW _ _ _ _ (by rw[hr1.len];omega) hj,hu]};rw[z8C] at hr2;have Hr2:=hid hr2;have Hh2:=hid hh2;have HI1:=hid hI1;clear hr2 hh2 hh1 hr1 hg1 hfz1 hz1 ht1 hbs hle hcurs hfz hI1 hl1 hh;go_wp2_with fail;refine z0F [] (by kernel_rfl) (by kernel_rfl) ?_
        repeat (apply z0C (by rfl);(intro K w';go_simp;exact id))
        (apply z0L (by rfl);(intro K;go_simp;exact id))
        repeat (apply z0C (by rfl);(intro K w';go_simp;exact id))
        (apply z0L (by rfl);(intro K;go_simp;exact id))
        repeat (apply z0C (by rfl);(intro K w';go_simp;exact id))
        apply z0L (by rfl);{intro K hK;rw[if_pos (by rfl)];refine zjJ 184 (.tmp 56) rfl g1 (at_.toNat * 32) rfl (z0B bs) hsec _ Tryz.underlying184 rfl (by rw[z0E,hbl];kernel_rfl) ?_;(revert hK);go_simp;exact id};have hwv:(zaS (at_.toNat,bs)).length=33:=by{simp[zaS,z0E,hbl]};apply z0C (by rfl);{intro K w' hK;rw[if_pos (by rfl)];refine zoK 186 #[(0,.tmp 50),(1,.tmp 57)] rfl [(0,.int .i64 at_),(1,.agg (z0B bs).toArray)] rfl zaL _ #[(0,1),(1,32)] (zaS (at_.toNat,bs)).toArray (by kernel_rfl) Tryz.underlying186 (λ_=>by kernel_rfl) ?_ ?_;{rw[zcL _ _ 0 _ _ 0 1 rfl rfl (by decide),zcL _ _ 1 _ _ 1 32 rfl (by simp[Value.cells,z0E,hbl]) (by simp[splice,Value.cells,zaL])];simp[Instr.fill,splice,Value.cells,zaL,zaS,Int.toNat_of_nonneg c1,z0E,hbl]};{(revert hK);go_simp;exact id}};refine z3S (by rfl) (by rfl) (λK hK=>?_);refine zeK zgQ (.tmp 58) rfl (.agg (zaS (at_.toNat,bs)).toArray) rfl (by simp[Value.cells,hwv]) (by decide) ?_;go_simp;refine hK _ _ (Pre.push _ rfl) ?_;clear hK K;have hk3:Keep zF w2 (w2.alloc (Obj.cells (zaS (at_.toNat,bs)).toArray 186)).drew:=((Keep.refl _ _).alloc _).drew;have hnew:(w2.alloc (Obj.cells (zaS (at_.toNat,bs)).toArray 186)).drew.heap[w2.heap.size]?=some (Obj.cells (zaS (at_.toNat,bs)).toArray 186):=heap_alloc_new w2 _;obtain⟨w3,hw3⟩:=zX1 ((w2.alloc (Obj.cells (zaS (at_.toNat,bs)).toArray 186)).drew);rw[<-hw3] at hk3 hnew |-;clear hw3;have hrw:Row w3 186 33 vw1 (act D).2.waits.length (zbR (act D).2.waits):= (HI1.o.waits.keep hk2 (λk e x=>(HI1.o.foot.waits k e).2.2.2 (by rw[x];rfl))).keep hk3 zI;have hl:(act D).2.waits.length=D.waits.length:=by{rw[z3J]};refine z0G (by rfl) (by rfl) (λK hK=>?_);refine z1E zgQ (.tmp 49) (.tmp 59) rfl rfl hrw (some ⟨w2.heap.size,0,none⟩) 1 1 (zaS (at_.toNat,bs)) rfl ⟨by omega,λ_=>⟨_,rfl,λj u hu=>by rw[z0R,Nat.zero_add,cell_of_row _ _ _ _ _ _ hnew];simpa using hu⟩⟩ (by intro u hu;simp only[zaS,List.mem_cons] at hu;rcases hu with rfl | hu;rfl;exact z2D _ u hu) (by unfold maxLen;omega) (by omega) ?_;intro v4 w4 hr4 hk4 hv4;refine hK _ _ ?_;clear hK K;have hvb:∀ k,vw1.ownBlock=some k->F1 k/\k≠b/\vs1.ownBlock≠some k/\(Value.slice (some ⟨g1,0,none⟩) D.safe.length cap1).ownBlock≠some k:=HI1.o.foot.waits;have hh4:=hk4.get (hk3.get Hh2.o id) (λe=>(hvb _ e).2.1 rfl);clear i0 i1 i2 i3 i4 i5 if1 ib1;obtain⟨i0,i1,i2,i3,i4,i5,if1,ib1⟩:=z8A hh4;obtain⟨ad4,cap4,rfl,-⟩:=hr4.form;have Hv4:=hid hv4;have Hh4:=hid hh4;have Hrw:=hid hrw;have Hr4:=hid hr4;have Hl:=hid hl;clear hh4 hrw hr4 hl hnew hv4
        repeat (apply z0C (by rfl);(intro K w';go_simp;exact id))
        (refine z0G (by rfl) (by rfl) (λK hK=>?_);go_simp;refine hK _ _ ?_;clear hK K)
        refine z0P ?_
        go_wp2
        go_ret;refine⟨by rw[Hw.o];rfl,?_⟩;have hok:=Hok.o;rw[Hw.o] at hok |-;have hk5:Keep (λk=>k=b) w4 (w4.setCell ⟨b,2,none⟩ (.slice ad4 ((act D).2.waits.length+1) cap4)):=kst;have hh5:=z0A Hh4.o 2 (.slice ad4 ((act D).2.waits.length+1) cap4);obtain⟨w5,hw5⟩:=zX1 (w4.setCell ⟨b,2,none⟩ (.slice ad4 ((act D).2.waits.length+1) cap4));rw[<-hw5] at hk5 hh5 |-;clear hw5 i0 i1 i2 i3 i4 i5 if1 ib1;obtain⟨vD,hvD⟩:∃ v,v=Value.slice ad4 ((act D).2.waits.length+1) cap4:=⟨_,rfl⟩;have hr4:=Hr4.o;have hv4:=Hv4.o;rw[<-hvD] at hh5 hr4 hv4;have hf1:=HI1.o.foot;have hown:∀ k,vD.ownBlock=some k->vw1.ownBlock=some k∨k=w3.heap.size:=by{intro k hk;rcases hv4 with ⟨_,h0⟩ | ⟨k',h1,h2⟩;{omega};{rw[hk] at h1;cases h1;exact h2}};have hnew:∀ k,F1 k->k≠w3.heap.size:=λk hF e=>by{have h1:=hf1.lt k hF;have h2:=hk2.size;have h3:=hk3.size;omega};have kb:∀ k,F1 k->k≠g1->vw1.ownBlock≠some k->k≠b->w5.heap[k]?=w1.heap[k]?:=λk hF h1 h2 h3=>by{have hlt:=hf1.lt k hF;rw[hk5.block k (by have:=hk2.size;have:=hk3.size;have:=hk4.size;omega) h3,hk4.block k (by have:=hk2.size;have:=hk3.size;omega) h2,hk3.block k (by have:=hk2.size;omega) id,hk2.block k hlt h1]};have hob:∀ k,vD.ownBlock=some k->k≠b/\vs1.ownBlock≠some k/\(Value.slice (some ⟨g1,0,none⟩) D.safe.length cap1).ownBlock≠some k:=by{intro k hk;rcases hown k hk with h | h;{exact(hf1.waits k h).2};{subst h;exact⟨λe=>hnew _ hf1.self e.symm,λe=>hnew _ (hf1.safe _ e).1 rfl,λe=>hnew _ (hf1.now _ e).1 rfl⟩}};(have kz:Keep (λk=>vw1.ownBlock=some k∨k=b) w2 w5:= (hk3.next hk4 (H:=λk=>vw1.ownBlock=some k) zE zI).next hk5 (λ_ _ x=>.inl x) (λ_ _ x=>.inr x));have ks:Keep (λk=>k=g1∨vw1.ownBlock=some k∨k=b) w1 w5:= hk2.next kz (λ_ _ x=>.inl x) (λ_ _ x=>.inr x);have hr5:=hr4.keep hk5 λk e x=>(hob k e).1 x;refine⟨λk=>F1 k∨vD.ownBlock=some k,⟨vs1,.slice (some ⟨g1,0,none⟩) D.safe.length cap1,vD,?_⟩,?_,?_⟩;{refine⟨?_,?_,?_,?_,⟨.inl hf1.self,λk e=>⟨.inl (hf1.safe k e).1,(hf1.safe k e).2⟩,λk e=>⟨.inl (hf1.now k e).1,(hf1.now k e).2⟩,λk e=>⟨.inr e,hob k e⟩,?_⟩,hok⟩;{rw[hh5];rfl};{refine HI1.o.safe.keep ks λk e x=>?_;rcases x with x | x | x;{subst x;exact(hf1.now k rfl).2.2 e};{exact(hf1.waits k x).2.2.1 e};{exact(hf1.safe k e).2 x}};{have hr2:=Hr2.o.keep kz λk e x=>by{rcases x with x | x;{exact(hf1.waits k x).2.2.2 e};{exact(hf1.now k e).2.1 x}};have e1:(DM.now { (act D).2 with waits:=(act D).2.waits ++ [(at_.toNat,bs)] }).flatten=(DM.now (act D).2).flatten.take (at_.toNat * 32) ++ (bs ++ (DM.now (act D).2).flatten.drop (at_.toNat * 32+bs.length)):=by{have e2:DM.now { (act D).2 with waits:=(act D).2.waits ++ [(at_.toNat,bs)] }=(DM.now (act D).2).set at_.toNat bs:=by{simp[DM.now,puts]};rw[e2,znB _ _ _ HI1.o.ok.now (by rw[z2E,z2I];omega) hbl,hbl]};show Row w5 _ 32 _ (act D).2.safe.length _;rw[e1,z2I];exact hr2};{show Row w5 _ 33 vD ((act D).2.waits ++ [(at_.toNat,bs)]).length (zbR ((act D).2.waits ++ [(at_.toNat,bs)]));rw[List.length_append];have e3:zbR ((act D).2.waits ++ [(at_.toNat,bs)])=zbR (act D).2.waits ++ zaS (at_.toNat,bs):=by{simp[zbR]};rw[e3];exact hr5};{intro k hF;rcases hF with hF | hF;{exact Nat.lt_of_lt_of_le (hf1.lt k hF) ks.size};{exact hr5.lt hF}}};{refine hk1.next ks zI λk hk x=>?_;have inF:∀ k,k<w.heap.size->F1 k->F k:=λk hk h=>(hF1 k h).elim id λh=>by{omega};rcases x with x | x | x;{subst x;exact inF _ hk (hf1.now _ rfl).1};{exact inF _ hk (hf1.waits _ x).1};{subst x;exact inF _ hk hf1.self}};{intro k hF;rcases hF with hF | hF;{exact hF1 k hF};{rcases hown k hF with h | h;{exact hF1 k (hf1.waits k h).1};{exact .inr (by have:=hk1.size;have:=hk2.size;have:=hk3.size;omega)}}}
     {have c3':((n:Int) == 32)=false:=by{simp;omega};have c4:bs.length≠32:=by{omega};have HI:=hid hI;clear hI hh hgn htk hDat;(go_in);(go_wp2);go_ret;rw[Bad.out (.inr (.inr c4))];exact⟨rfl,HI.o.to (Keep.refl _ _)⟩}
end
section
open Go.RowKit
open DM
theorem zyG(w:World)(b:Nat)(F:Nat->Prop)(D:Dk)(hD:DiskAt w b F D)(hfew:D.waits.length<=1000000):Calls Tryz.prog 186 #[.pointer (some ⟨b,0,none⟩)] w λe w'=>e = .returned (.int .i64 (DM.sync D).1)/\DiskTo b F w (DM.sync D).2 w':=by
 cases ha:(act D).1 with | false=>{have hw:DM.sync D=(6,(act D).2):=by{unfold DM.sync;simp[ha]};have Hw:=hid hw;clear hw;(go_in);go_wp2_with fail;refine(zgO w b F D hD).mono ?_;rintro e w1 ⟨rfl,hto⟩;(go_wp2);go_ret;exact⟨by rw[Hw.o];rfl,by rw[Hw.o];exact hto⟩} | true=>{have hw:DM.sync D=(0,{ (act D).2 with safe:=DM.now (act D).2,waits:=[] }):=by{unfold DM.sync;simp[ha]};have Hw:=hid hw;have Hok:zH (Ok (DM.sync D).2):=hid (hD.ok.sync);clear hw;(go_in);go_wp2_with fail;refine(zgO w b F D hD).mono ?_;rintro e w1 ⟨rfl,F1,⟨vs1,vn1,vw1,hI1⟩,hk1,hF1⟩;have hpos:0<(act D).2.safe.length:=by{rw[z2I];exact hD.ok.pos};obtain⟨D1,hD1⟩:=zX1 ((act D).2);rw[<-hD1] at hI1 hpos;have hwl:D1.waits.length<=1000000:=by{rw[hD1,z3J];exact hfew};have HD1:=hid hD1;clear hD1;have hh1:=hI1.head;unfold z3L at hh1;obtain⟨g0,cap0,cur0,fz0,rfl,hg0,hfz0,hn0,hc0,hz0,ht0⟩:=hI1.safe.some hpos;obtain⟨g1,cap1,cur1,fz1,rfl,hg1,hfz1,hn1,hc1,hz1,ht1⟩:=hI1.now.some hpos;obtain⟨i0,i1,i2,i3,i4,i5,if1,ib1⟩:=z8A hh1;obtain⟨adw,capw,rfl,hwcap,hwmax,hwnil,hwad⟩:=hI1.waits.form;have hnl:(z0B (DM.now D1).flatten).length=D1.safe.length * 32:=hI1.now.len;have hcp:=z5F (P:=Tryz.prog) (w:=w1.drew) (sT:=179) (ty:=3) zfQ g0 0 D1.safe.length cap0 cur0 184 fz0 hg0 hfz0 (some ⟨g1,0,none⟩) D1.safe.length cap1 (z0B (DM.now D1).flatten) _ (Nat.min_self _) (Cells.of_row (hI1.now.keep (Keep.refl zF w1).drew zI)) (by rw[hnl,hz0];omega) (z2D _);have hr2:Row (w1.drew.setRow g0 (splice cur0.toList 0 (z0B (DM.now D1).flatten)).toArray) 184 32 (.slice (some ⟨g0,0,none⟩) D1.safe.length cap0) D1.safe.length (z0B (DM.now D1).flatten):=by{have h:=Row.spliced (w:=w1.drew) (hI1.safe.keep (Keep.refl zF w1).drew zI) hg0 0 (z0B (DM.now D1).flatten) (by omega);rwa [zpI (z0B D1.safe.flatten) _ (by rw[hnl,hI1.safe.len])] at h};have hgb:g0≠b:=(hI1.foot.safe g0 rfl).2;have hk2:Keep (λk=>k=g0) w1 (w1.drew.setRow g0 (splice cur0.toList 0 (z0B (DM.now D1).flatten)).toArray):=by{refine Keep.setRow (Keep.refl _ _).drew (.inl ?_) _;rfl};have Hr2:=hid hr2;have Hk2:=hid hk2;have Hcp:=hid hcp;have HI1:=hid hI1;have Hh1:=hid hh1;have Hhw:=hid hwad;clear hr2 hk2 hcp hI1 hh1 hg0 hfz0 hz0 ht0 hg1 hfz1 hz1 ht1 hnl hwad;go_wp2_with fail;refine z0F [] (by kernel_rfl) (by kernel_rfl) ?_;(repeat (first | (apply z0C (by rfl);(intro K w';go_simp;exact id)) | (apply z0L (by rfl);(intro K;go_simp;exact id))));refine z0G (by rfl) (by rfl) (λK hK=>?_);go_simp;rw[Hcp.o];go_simp;refine hK _ _ ?_;clear hK K;obtain⟨w2,hw2⟩:=zX1 (w1.drew.setRow g0 (splice cur0.toList 0 (z0B (DM.now D1).flatten)).toArray);have hr2:=Hr2.o;have hk2:=Hk2.o;rw[<-hw2] at hr2 hk2 |-;clear Hr2 Hk2 Hcp hw2 i0 i1 i2 i3 i4 i5 if1 ib1;have hh2:=hk2.get Hh1.o (λe=>hgb e.symm);obtain⟨i0,i1,i2,i3,i4,i5,if1,ib1⟩:=z8A hh2;have Hh2:=hid hh2;have Hr2:=hid hr2;clear hh2 hr2;refine z0P ?_;go_wp2_with fail;have hrw:Row w2 186 33 (.slice adw D1.waits.length capw) D1.waits.length (zbR D1.waits):= HI1.o.waits.keep hk2 λk e x=>(HI1.o.foot.waits k e).2.2.1 (by rw[x];rfl);obtain⟨w3,ys,hcl,hr3,hk3⟩:=ztH (P:=Tryz.prog) (ty:=0) zgQ (by decide) hrw;rw[hcl];clear hcl i0 i1 i2 i3 i4 i5 if1 ib1;have hh3:=hk3.get Hh2.o (λe=>(HI1.o.foot.waits _ e).2.1 rfl);obtain⟨i0,i1,i2,i3,i4,i5,if1,ib1⟩:=z8A hh3;have Hh3:=hid hh3;have Hr3:=hid hr3;have Hrw:=hid hrw;clear hh3 hr3 hrw;go_wp2_with fail;go_ret;refine⟨by rw[Hw.o];rfl,?_⟩;have hok:=Hok.o;rw[Hw.o] at hok |-;rw[<-HD1.o] at hok |-;clear i0 i1 i2 i3 i4 i5 if1 ib1;have hk4:Keep (λk=>k=b) w3 (w3.setCell ⟨b,2,none⟩ (.slice adw 0 capw)):=kst;have hh4:=z0A Hh3.o 2 (.slice adw 0 capw);obtain⟨w4,hw4⟩:=zX1 (w3.setCell ⟨b,2,none⟩ (.slice adw 0 capw));rw[<-hw4] at hk4 hh4 |-;clear hw4;have hf1:=HI1.o.foot;have kz:Keep (λk=>(Value.slice adw D1.waits.length capw).ownBlock=some k∨k=b) w2 w4:=hk3.next hk4 (λ_ _ x=>.inl x) (λ_ _ x=>.inr x);have ks:Keep (λk=>k=g0∨(Value.slice adw D1.waits.length capw).ownBlock=some k∨k=b) w1 w4:=hk2.next kz (λ_ _ x=>.inl x) (λ_ _ x=>.inr x);have hnl:(DM.now D1).length=D1.safe.length:=z2E _;refine⟨F1,⟨.slice (some ⟨g0,0,none⟩) D1.safe.length cap0,.slice (some ⟨g1,0,none⟩) D1.safe.length cap1,.slice adw 0 capw,?_⟩,?_,hF1⟩;{refine⟨by rw[hh4];rfl,?_,?_,?_,⟨hf1.self,hf1.safe,hf1.now,λk e=>hf1.waits k (by rw[<-e];exact z1G _ _ _ _),λk hF=>Nat.lt_of_lt_of_le (hf1.lt k hF) ks.size⟩,hok⟩;{show Row w4 _ 32 _ (DM.now D1).length _;rw[hnl];exact Hr2.o.keep kz λk e x=>by{rcases x with x | x;{exact(hf1.waits k x).2.2.1 e};{exact(hf1.safe k e).2 x}}};{show Row w4 _ 32 _ (DM.now D1).length (z0B (DM.now D1).flatten);rw[hnl];exact HI1.o.now.keep ks λk e x=>by{rcases x with x | x | x;{subst x;exact(hf1.now k e).2.2 rfl};{exact(hf1.waits k x).2.2.2 e};{exact(hf1.now k e).2.1 x}}};{have h5:=(Hr3.o.keep hk4 λk e x=>(hf1.waits k e).2.1 x).cut 0 (Nat.zero_le _);simpa [zbR] using h5}};{refine hk1.next ks zI λk hk x=>?_;have inF:F1 k->F k:=λh=>(hF1 k h).elim id λh=>by{omega};rcases x with x | x | x;{subst x;exact inF (hf1.safe _ rfl).1};{exact inF (hf1.waits _ x).1};{subst x;exact inF hf1.self}}}
theorem zmG(w:World)(b:Nat)(F:Nat->Prop)(D:Dk)(at_:Int)(hD:DiskAt w b F D)(hlt:at_<9223372036854775808):Calls Tryz.prog 191 #[.pointer (some ⟨b,0,none⟩),.int .i64 at_] w λe w'=>
   ∃ v,e = .returned (.tuple #[v,.int .i64 (DM.read D at_).2])/\Row w' 5 1 v (DM.read D at_).1.length (z0B (DM.read D at_).1)/\Keep zF w w'/\(∀ k,v.ownBlock=some k->w.heap.size<=k):=by
 obtain⟨vs,vn,vw,hI⟩:=hD;have hh:=hI.head;unfold z3L at hh;obtain⟨h0,h1,h2,h3,h4,h5,hf,hb⟩:=z8A hh;have hpos:=hI.ok.pos;have hfewS:=hI.ok.few;obtain⟨gn,cap,cur,fz,rfl,hgn,hfz,hncap,hcapm,hcurs,htk⟩:=hI.now.some hpos;have out:∀ c,DM.read D at_=([],c)->∀ w',w'=w->∃ v,Ending.returned (.tuple #[.slice none 0 0,.int .i64 c]) = .returned (.tuple #[v,.int .i64 (DM.read D at_).2])/\Row w' 5 1 v (DM.read D at_).1.length (z0B (DM.read D at_).1)/\Keep zF w w'/\(∀ k,v.ownBlock=some k->w.heap.size<=k):=by{rintro c hc w' rfl;refine⟨.slice none 0 0,by rw[hc],by rw[hc];exact Row.nil _ _ _,Keep.refl _ _,by simp[Value.ownBlock]⟩};have Out:=hid out;clear out;cases hd:D.down with | true=>{rw[hd] at h5;have hw:DM.read D at_=([],6):=by{unfold DM.read;rw[hd];rfl};have Hw:=hid hw;clear hw hh hgn htk;(go_in);(go_wp2);go_ret2;exact Out.out _ Hw.o _ rfl} | false=>{rw[hd] at h5;by_cases c1:at_<0;{have hw:DM.read D at_=([],30):=by{unfold DM.read;rw[hd];simp[c1]};have Hw:=hid hw;clear hw hh hgn htk;(go_in);(go_wp2);go_ret2;exact Out.out _ Hw.o _ rfl};{by_cases c2:(D.safe.length:Int)<=at_;{have hw:DM.read D at_=([],30):=by{unfold DM.read;rw[hd];simp[c2]};have Hw:=hid hw;clear hw hh hgn htk;(go_in);(go_wp2);go_ret2;exact Out.out _ Hw.o _ rfl};{have hw:DM.read D at_=((DM.now D).getD at_.toNat [],0):=by{unfold DM.read;rw[hd];simp[c1,c2]};have Hw:=hid hw;have HI:=hid hI;have hgn':=hgn;clear hw hh hgn htk hI Out;(go_in);go_wp2_with (at_builtin;refine z0Q ?_;intro q hq);(refine hq.out ?_;clear hq q);have hsecl:((DM.now D).getD at_.toNat []).length=32:=by{have hi:at_.toNat<(DM.now D).length:=by{rw[z2E];omega};have:=HI.o.ok.now _ (List.getElem_mem hi);simpa [List.getD,List.getElem?_eq_getElem hi] using this};have hsec:∀ j u,(z0B ((DM.now D).getD at_.toNat []))[j]?=some u->w.cell? ⟨gn,at_.toNat * 32+j,none⟩=some u:=by{intro j u hu;have hj:j<32:=by{have:=(List.getElem?_eq_some_iff.1 hu).1;rw[z0E,hsecl] at this;exact this};rw[HI.o.now.cell _ (by omega),<-hu,<-zlO _ _ HI.o.ok.now (by rw[z2E];omega)];simp[z0B,hj,List.getElem?_drop]};refine wpList_plain rfl (λK hK=>?_);refine z1E (v:=.slice (some ⟨w.heap.size,0,none⟩) 0 0) (n:=0) z1L (.tmp 26) (.tmp 33) rfl rfl (Row.fresh w 5 1) (some ⟨gn,at_.toNat * 32,none⟩) 32 32 (z0B ((DM.now D).getD at_.toNat [])) rfl ⟨by rw[z0E,hsecl],λ_=>⟨_,rfl,λj u hu=>by{rw[z0R,World.cell?_of_block (Below.heap_alloc w _ _ (z0J hgn'))];exact hsec j u hu}⟩⟩ (z2D _) (by decide) (by decide) ?_;intro v1 w1 hr1 hk1 hv1;refine hK _ _ ?_;clear hK K;have Hr1:=hid hr1;have Hv1:=hid hv1;clear hr1 hv1 hsec;go_wp2_with fail;go_ret2;refine⟨v1,by rw[Hw.o];rfl,by rw[Hw.o];show Row w1 _ 1 v1 ((DM.now D).getD at_.toNat []).length _;rw[hsecl];exact Hr1.o,?_,?_⟩;{exact(((Keep.refl zF w).alloc (.cells #[] 5)).next hk1 (H:=λk=>k=w.heap.size) zE (λk _ x=>by simpa [Value.ownBlock] using x.symm)).mono λk hk x=>by omega};{intro k hk;rcases Hv1.o with ⟨_,h0⟩ | ⟨k',h1,h2⟩;{exact absurd h0 (by decide)};{rw[hk] at h1;cases h1;rcases h2 with h2 | h2;{simp[Value.ownBlock] at h2;omega};{simp at h2;omega}}}}}}
end
section
open Go.RowKit
open DM
structure RefSyncRel (w1:World) (b:Nat) (gs cap:Nat) (D1:Dk) (k:Nat) (wr:World):Prop where
 row:Row wr 9 1 (.slice (.some ⟨gs,0,none⟩) D1.safe.length cap) D1.safe.length (y2I (puts D1.safe (D1.waits.take k)))
 keep:Keep (fun j=>j=gs) w1 wr
end
section
open Go.RowKit
open DM
theorem zfL:∀ n,(List.replicate n DM.blank).flatten=List.replicate (n * 32) (0:UInt8)
 | 0=>by simp
 | n+1=>by{rw[List.replicate_succ,List.flatten_cons,zfL n];apply List.ext_getElem;{simp[DM.blank];omega};{intro i h1 h2;rw[List.getElem_replicate,List.getElem_append];split;{unfold DM.blank;exact List.getElem_replicate _};{exact List.getElem_replicate _}}}
theorem zxD(n:Nat):(madeCells zbF.cells (n * 32)).toList=z0B (List.replicate n DM.blank).flatten:=by
 rw[z8F _ (.int .u8 0) (λi hi=>by simp[zbF,Value.cells] at hi |-;simp[hi]) (by simp[zbF,Value.cells]),zfL];simp[z0B]
theorem zpY{α:Type}(h:Array α)(a b c:α):(((h.push a).push b).push c)[h.size]?=some a/\(((h.push a).push b).push c)[h.size+1]?=some b/\(((h.push a).push b).push c)[h.size+2]?=some c:=by
 refine⟨?_,?_,?_⟩;{rw[Array.getElem?_push,if_neg (by simp;omega),Array.getElem?_push,if_neg (by simp),Array.getElem?_push,if_pos rfl]};{rw[Array.getElem?_push,if_neg (by simp),Array.getElem?_push,if_pos (by simp)]};{rw[Array.getElem?_push,if_pos (by simp)]}
def z6J(n:Nat):Array Value:=madeCells zbF.cells (n * 32)
theorem zzL(w:World)(n:Nat)(h0:0<n)(h1:n<=2048):Calls Tryz.prog 85 #[.int .i64 (n:Int)] w λe w'=>∃ b F,e = .returned (.tuple #[.pointer (some ⟨b,0,none⟩),.int .i64 0])/\DiskAt w' b F (DM.new n)/\Keep zF w w'/\∀ k,F k->w.heap.size<=k:=by
 have c1:¬ (n:Int)<1:=by{omega};have c2:¬ 2048<(n:Int):=by{omega};have hmk:∀ wx:World,(Instr.makeSlice 179 (.int .i64 (n:Int)) (.int .i64 (n:Int))).run Tryz.prog wx = .ok (.slice (some ⟨wx.heap.size,0,none⟩) n n) (wx.alloc (.cells (z6J n) 184)):= λwx=>zaU (P:=Tryz.prog) zfQ .i64 .i64 n (by omega) (by unfold maxLen;omega) wx;have fin:∀ (gs gn:Nat),(gs=w.heap.size/\gn=w.heap.size+1∨gs=w.heap.size+1/\gn=w.heap.size)->∀ (w':World) (e:Ending),w'.heap=((w.heap.push (.cells (z6J n) 184)).push (.cells (z6J n) 184)).push (.cells #[.slice (some ⟨gs,0,none⟩) n n,.slice (some ⟨gn,0,none⟩) n n,.slice none 0 0,.bool false,.int .i64 0,.bool false] 182)-> w'.os=w.os->w'.tape=w.tape->w'.output=w.output->e = .returned (.tuple #[.pointer (some ⟨w.heap.size+1+1,0,none⟩),.int .i64 0])-> ∃ b F,e = .returned (.tuple #[.pointer (some ⟨b,0,none⟩),.int .i64 0])/\DiskAt w' b F (DM.new n)/\Keep zF w w'/\∀ k,F k->w.heap.size<=k:=by{intro gs gn hg w' e hh ho ht hp he;have hsz:w'.heap.size=w.heap.size+3:=by{rw[hh];simp};have b0:w'.heap[w.heap.size]?=some (.cells (z6J n) 184 (0,0)):=by{rw[hh];exact(zpY _ _ _ _).1};have b1:w'.heap[w.heap.size+1]?=some (.cells (z6J n) 184 (0,0)):=by{rw[hh];exact(zpY _ _ _ _).2.1};have b2:w'.heap[w.heap.size+2]?=some (.cells #[.slice (some ⟨gs,0,none⟩) n n,.slice (some ⟨gn,0,none⟩) n n,.slice none 0 0,.bool false,.int .i64 0,.bool false] 182 (0,0)):=by{rw[hh];exact(zpY _ _ _ _).2.2};have bs:w'.heap[gs]?=some (.cells (z6J n) 184 (0,0)):=by{rcases hg with ⟨rfl,rfl⟩ | ⟨rfl,rfl⟩ <;> assumption};have bn:w'.heap[gn]?=some (.cells (z6J n) 184 (0,0)):=by{rcases hg with ⟨rfl,rfl⟩ | ⟨rfl,rfl⟩ <;> assumption};have hm:n<=maxLen:=by{unfold maxLen;omega};have nl:(DM.new n).safe.length=n:=by{simp[DM.new]};have r:∀ g,w'.heap[g]?=some (.cells (z6J n) 184 (0,0))->Row w' 184 32 (.slice (some ⟨g,0,none⟩) n n) n (z0B (List.replicate n DM.blank).flatten):=by{intro g hg;rw[<-zxD];exact Row.made hg hm};refine⟨w.heap.size+2,λk=>w.heap.size<=k/\k<w.heap.size+3,he,⟨_,_,_,b2,?_,?_,Row.nil _ _ _,⟨by omega,?_,?_,?_,λk hk=>by omega⟩,Ok.new h0 h1⟩,⟨ho,ht,hp,by omega,?_⟩,λk hk=>hk.1⟩;{rw[nl];exact r _ bs};{rw[nl];exact r _ bn};{intro k hk;simp[Value.ownBlock] at hk;omega};{intro k hk;simp[Value.ownBlock] at hk |-;omega};{intro k hk;simp[Value.ownBlock] at hk};{intro k hk _;rw[hh,Array.getElem?_push,if_neg (by simp;omega),Array.getElem?_push,if_neg (by simp;omega),Array.getElem?_push,if_neg (by omega)]}};have Fin:=hid fin;clear fin
 go_in
 go_wp2
 go_region
 all_goals (go_wp2;go_ret2)
 all_goals (first | exact Fin.out _ _ (.inr ⟨rfl,rfl⟩) _ _ rfl rfl rfl rfl rfl | exact Fin.out _ _ (.inl ⟨rfl,rfl⟩) _ _ rfl rfl rfl rfl rfl)
end
section
open Go.RowKit
open DM
def zuR(l:List Int):List Value:=l.map (Value.int .i64)
structure CrashRel (D:Dk) (ks:List Int) (wS:World) (vn:Value) (k:Nat) (wr:World):Prop where
 keep:Keep (fun i=>vn.ownBlock=some i) wS wr
 row:Row wr 184 32 vn D.safe.length (z0B (tear D.safe (D.waits.take k) ks).flatten)
end
section
open Go.RowKit
open DM
end
section
open Go.RowKit
open DM
theorem zzI(op:BinOp)(a b:Int):∃ u:UInt8,bits op .u8 a b=(u.toNat:Int):=by
 have h:∀ x:Int,∃ u:UInt8,IntKind.u8.wrap x=(u.toNat:Int):=λx=>by{have hx:0<=IntKind.u8.wrap x/\IntKind.u8.wrap x<=255:=by{simp[IntKind.wrap,IntKind.signed,IntKind.bits];omega};refine⟨UInt8.ofNat (IntKind.u8.wrap x).toNat,?_⟩;rw[UInt8.toNat_ofNat'];omega};unfold bits;exact h _
structure SpoilRel (w:World) (v:Value) (n:Nat) (wr:World):Prop where
 ex:∃ l:List UInt8,Row wr 5 1 v n (z0B l)
 keep:Keep (fun j=>v.ownBlock=some j) w wr
theorem zrV(w:World)(v:Value)(l:List UInt8)(hr:Row w 5 1 v l.length (z0B l)):Calls Tryz.prog 29 #[v] w λe w'=>e = .returned (.tuple #[])/\Keep (λj=>v.ownBlock=some j) w w':=by
 obtain⟨ad,cap,rfl,hcap,hmax,-⟩:=hr.form;obtain⟨n,hn⟩:=zX1 (l.length);rw[<-hn] at hr hcap |-;clear hn;have hn63:(n:Int)<=9223372036854775807:=by{unfold maxLen at hmax;omega};have HR:=hid (SpoilRel.mk (w:=w) ⟨l,hr⟩ (Keep.refl _ _));clear hr hmax
 go_in
 go_wp2_with fail
 go_loopw [2] (λkv wr=>∃ k:Nat,k<=n/\kv = .int .i64 k/\zH (SpoilRel w (.slice ad n cap) n wr)) (λkv _=>n - (intOf kv).toNat)
 case atStart=>exact⟨0,Nat.zero_le _,rfl,HR⟩
 case round=>(clear HR;obtain⟨k,hk,rfl,HR⟩:=hrel;by_cases hkn:k<n;{have h4:(k:Int)<n:=by{omega};obtain⟨l',hr'⟩:=HR.o.ex;have hll:l'.length=n:=by{have:=hr'.1;rw[z0E] at this;omega};obtain⟨g,cap',hv,c0⟩:=hr'.getCell (j:=k) (u:=.int .u8 ((l'[k]'(by omega)).toNat:Int)) (by simp[z0B,hll,hkn]);cases hv;have f0:=hr'.frozen k (by omega);have Hr:=hid hr';clear hr';go_wp2_with fail;obtain⟨z,hz⟩:=zzI BinOp.xor ((l'[k]'(by omega)).toNat:Int) 165;have hk2:Keep (λj=>(Value.slice (some ⟨g,0,none⟩) n cap).ownBlock=some j) w (wr.setCell ⟨g,k,none⟩ (.int .u8 (z.toNat:Int))):=by{refine Keep.setCell HR.o.keep (.inl ?_) _;rfl};have hr2:=Hr.o.setOne k hkn (.int .u8 (z.toNat:Int)) rfl;have hs:(z0B l').set k (.int .u8 (z.toNat:Int))=z0B (l'.set k z):=by{simp[z0B,List.map_set]};rw[hs] at hr2;have HR2:=hid (SpoilRel.mk ⟨_,hr2⟩ hk2);rw[hz];go_roundw;(case rel=>exact⟨k+1,by omega,by go_num,HR2⟩);case measure=>simp[intOf];omega};{have h4:¬ (k:Int)<n:=by{omega};go_wp2_with fail;(go_end0);exact⟨rfl,HR.o.keep⟩})
end
section
open Go.RowKit
open DM
structure RefCrashRel (w:World) (b:Nat) (gs cap:Nat) (D:Dk) (ks:List Int) (k:Nat) (wr:World):Prop where
 row:Row wr 9 1 (.slice (.some ⟨gs,0,none⟩) D.safe.length cap) D.safe.length (y2I (tear D.safe (D.waits.take k) ks))
 keep:Keep (fun j=>j=gs) w wr
end
section
open Go.RowKit
open BM
structure LentIs (w w':World) (g n cap:Nat) (l:List UInt8):Prop where
 row:Row w' 5 1 (.slice (some ⟨g,0,none⟩) (n+2) cap) (n+2) (z0B (l ++ [91,92]))
 new:w.heap.size≤g
 keep:Keep (fun _=>False) w w'
theorem zyB(w:World)(ao:Option Addr)(n c:Nat)(l:List UInt8)(h1:Cells w ao n 1 (z0B l))(hn:n<=1000000):Calls Tryz.prog 22 #[.slice ao n c] w λe w'=>∃ g cap,e = .returned (.slice (some ⟨g,0,none⟩) n cap)/\LentIs w w' g n cap l:=by
 have hl:l.length=n:=by{have:=h1.1;rw[z0E] at this;omega};have H1:=zB1 h1 hl;clear h1 hl
 go_in
 go_wp2_with fail;refine(zxN w ao n c l H1.x1 (by omega)).mono ?_;rintro e w2 ⟨v2,rfl,hF⟩;obtain⟨ao2,c2,rfl,-⟩:=hF.row.form;have hr:=hF.row;have ho:=hF.own;rw[H1.y1] at hr ho |-;have HF:=zB2 hr hF.keep ho;clear hr hF ho;go_wp2_with (at_builtin;refine z0Q ?_;intro q hq)
 (refine hq.out ?_;clear hq q)
 obtain⟨hr,hk2,ho⟩:=HF.o;obtain⟨wB,hwB,hB,kB⟩:=zAl w2 (.cells #[.int .u8 91,.int .u8 92] 5);rw[<-hwB];have hev:Cells wB (some ⟨w2.heap.size,0,none⟩) 2 1 (z0B [91,92]):=⟨rfl,λ_=>⟨_,rfl,λj u hu=>by rw[z0R,Nat.zero_add,cell_of_row _ _ _ _ _ _ hB];simpa [z0B] using hu⟩⟩;refine wpList_plain rfl (λK hK=>?_);refine z1E (v:=.slice ao2 n c2) z1L (.tmp 6) (.tmp 7) rfl rfl (hr.keep kB λ_ _ x=>x) (some ⟨w2.heap.size,0,none⟩) 2 2 (z0B [91,92]) rfl hev (z2D _) (by unfold maxLen;omega) (by omega) ?_;intro v6 w6 hr6 hk6 hv6;refine hK _ _ ?_;clear hK K;obtain⟨g,cap,rfl,hcap⟩:∃ g cap,v6 = .slice (some ⟨g,0,none⟩) (n+2) cap/\n+2<=cap:=by{obtain⟨g,cap,_,_,h1,_,_,h2,_⟩:=hr6.some (by omega);exact⟨g,cap,h1,h2⟩};have HL:=hid (show LentIs w w6 g n cap l from⟨by rw[z1J];exact hr6,by{rcases hv6 with ⟨_,z⟩ | ⟨k',y,z⟩;{exact absurd z (by omega)};{cases y;rcases z with z | z;{exact ho _ z};{have z':g=wB.heap.size:=z;have:=hk2.size;have:=kB.size;omega}}},(hk2.next kB zI zI).next hk6 zI (λk hk x=>by have:=ho k x;omega)⟩);have hsl:=λw=>z4C (P:=Tryz.prog) z1L (some ⟨g,0,none⟩) (n+2) cap .i64 n (by omega) w;clear hr6 hk6 hv6 hev hB kB hwB hr hk2 ho hcap;go_wp2_with fail;go_ret;exact⟨g,cap,by rfl,HL.o⟩
theorem zsW(w:World)(g n cap c:Nat)(ao:Option Addr)(l:List UInt8)(h1:Row w 5 1 (.slice (some ⟨g,0,none⟩) (n+2) cap) (n+2) (z0B (l ++ [91,92])))(h2:Cells w ao n 1 (z0B l))(hn:n<=1000000):Calls Tryz.prog 28 #[.slice (some ⟨g,0,none⟩) n cap,.slice ao n c] w λe w'=>e = .returned (.bool true)/\Keep zF w w':=by
 have hl:l.length=n:=by{have:=h2.1;rw[z0E] at this;omega};have hcap:n+2<=cap:=by{obtain⟨_,_,_,_,h,_,_,h3,_⟩:=h1.some (by omega);cases h;exact h3};have c0:w.cell? ⟨g,n,none⟩=some (.int .u8 91):=by{rw[h1.cell n (by omega)];rw[z1J,List.getElem?_append_right (by rw[z0E];omega),z0E,hl,Nat.sub_self];rfl};have c1:w.cell? ⟨g,n+1,none⟩=some (.int .u8 92):=by{rw[h1.cell (n+1) (by omega)];rw[z1J,List.getElem?_append_right (by rw[z0E];omega),z0E,hl,show n+1 - n=1 by omega];rfl};have hx:Cells w (some ⟨g,0,none⟩) n 1 (z0B l):=by{have:=Cells.of_row (h1.cut n (by omega));rwa [Nat.mul_one,z1J,List.take_left' (by rw[z0E];exact hl)] at this};have hs1:=z3E (P:=Tryz.prog) Tryz.underlying39 Tryz.underlying5 Tryz.underlying9 (c:=cap) hx;have hs2:=z3E (P:=Tryz.prog) Tryz.underlying39 Tryz.underlying5 Tryz.underlying9 (c:=c) h2;have hsl:=λw=>z4C (P:=Tryz.prog) z1L (some ⟨g,0,none⟩) n cap .i64 (n+2) hcap w;rw[show (((n+2:Nat):Nat):Int)=(n:Int)+2 by omega] at hsl;clear h1 h2 hl hx hcap
 go_in
 go_wp2_with fail;go_ret;exact⟨by rfl,Keep.refl _ _⟩
end
end Go.Proofs.YtkhddpiopbmhjaaGreat
