/- Texts RefC, Own, Lent in one. Conditions: as each law names them. -/
import Derived.Test.YtkjofdocgaiedaaGreatYaa
import Derived.Test.YtkjofdocgaiedaaGreatYaj
set_option maxRecDepth 20000
set_option maxHeartbeats 8000000
namespace Go.Proofs.YtkjofdocgaiedaaGreat
section
open Go.RowKit
open DM
theorem z5J (l:List UInt8) (i j:Nat):(str l).extract i j=str ((l.take j).drop i):=by
 apply ByteArray.ext;simp[str,ByteArray.data_extract,List.extract_toArray,List.drop_take,List.extract]
theorem zmY (a b:List UInt8):str a ++ str b=str (a ++ b):=by
 apply ByteArray.ext;simp[str,ByteArray.data_append]
structure RefCrashRel (w:World) (b:Nat) (gs cap:Nat) (D:Dk) (ks:List Int) (k:Nat) (wr:World):Prop where
 row:Row wr 9 1 (.slice (.some ⟨gs,0,none⟩) D.safe.length cap) D.safe.length (z6Q (tear D.safe (D.waits.take k) ks))
 keep:Keep (fun j=>j=gs) w wr
theorem z7D {w wr w3 w5:World} {b gs cap:Nat} {D:Dk} {ks:List Int} {k:Nat} (hkD:k<D.waits.length) (hkN:k<ks.length) (h:RefCrashRel w b gs cap D ks k wr) (hk3:Keep (fun _=>False) wr w3)
  {p:Nat×Sec} (hp:p=D.waits[k]) {z:Int} (hz:z=ks[k]) {S:Sec} (hS:S=(tear D.safe (D.waits.take k) ks).getD p.1 []) (hpl:p.1<D.safe.length)
  (hw:w5=(w3.setCell ⟨gs,p.1,none⟩ (.string (str (p.2.take (clamp z) ++ S.drop (clamp z))))).drew):RefCrashRel w b gs cap D ks (k+1) w5:=by
 subst hw;refine⟨?_,?_⟩
 ·have h1:=((h.row.keep hk3 (fun _ _ x=>x)).setOne p.1 hpl (.string (str (p.2.take (clamp z) ++ S.drop (clamp z)))) rfl).keep (F:=fun _=>False) (Keep.refl _ _).drew (fun _ _ x=>x)
  rw[zcZ _ _ _ _ hkD,dif_pos hkN,← hp,← hz];unfold torn;rw[zhY,← hS];exact h1
 ·refine(Keep.setCell (h.keep.next hk3 (H:=fun j=>j=gs) (fun _ _ x=>x) (fun _ _ x=>x.elim)) (.inl ?_) _).drew
  rfl
theorem zeF:∀ (l:List (Nat×Sec)) (ks:List Int) (s:List Sec) (k:Nat),l.length≤k∨ks.length≤k→tear s (l.take k) ks=tear s l ks
 | [],ks,s,k,_=>by simp
 | p :: l,[],s,k,_=>by cases k <;> simp[tear]
 | p :: l,x :: ks,s,0,h=>by simp at h
 | p :: l,x :: ks,s,k+1,h=>by
   rw[List.take_succ_cons,tear,tear];exact zeF l ks _ k (by simpa using h)
theorem zfW {w wr:World} {b gs cap k:Nat} {F:Nat→Prop} {D:Dk} {ks:List Int} {vw:Value} (hI:RefIs w b F D (.slice (.some ⟨gs,0,none⟩) D.safe.length cap) vw)
  (hR:RefCrashRel w b gs cap D ks k wr) (hx:D.waits.length≤k∨ks.length≤k) (hok:Ok (DM.crash D ks)) (hh:wr.heap[b]?=some (.cells (z1S (.slice (.some ⟨gs,0,none⟩) D.safe.length cap) vw D) 99 (0,0))) :
  RefTo b F w (DM.crash D ks) (((wr.setCell ⟨b,1,none⟩ (.slice none 0 0)).setCell ⟨b,2,none⟩ (.int .i64 (-1))).setCell ⟨b,3,none⟩ (.bool false)):=by
 have hf:=hI.foot
 have hk5:Keep (fun j=>j=b) wr (((wr.setCell ⟨b,1,none⟩ (.slice none 0 0)).setCell ⟨b,2,none⟩ (.int .i64 (-1))).setCell ⟨b,3,none⟩ (.bool false)):=by
  refine Keep.setCell (Keep.setCell (Keep.setCell (Keep.refl _ _) (.inl ?_) _) (.inl ?_) _) (.inl ?_) _ <;> rfl
 have hh5:=z0A (z0A (z0A hh 1 (.slice none 0 0)) 2 (.int .i64 (-1))) 3 (.bool false);obtain⟨w5,hw5⟩:=zX1 ((((wr.setCell ⟨b,1,none⟩ (.slice none 0 0)).setCell ⟨b,2,none⟩ (.int .i64 (-1))).setCell ⟨b,3,none⟩ (.bool false)));rw[← hw5] at hk5 hh5 ⊢;clear hw5;have hks:=hR.keep.next hk5 (H:=fun j=>j=gs∨j=b) (fun _ _ x=>.inl x) (fun _ _ x=>.inr x)
 have hrow:=hR.row.keep hk5 (fun j e x=>by
  simp[Value.ownBlock] at e
  exact(hf.safe gs rfl).2 (by rw[e];exact x))
 rw[zeF _ _ _ _ hx] at hrow;refine⟨F,⟨.slice (.some ⟨gs,0,none⟩) D.safe.length cap,.slice none 0 0,?_⟩,?_,fun j x=>.inl x⟩
 ·refine⟨by rw[hh5];simp[z1S,DM.crash,zhV],?_,Row.nil _ _ _,⟨hf.self,hf.safe,fun j e=>by simp[Value.ownBlock] at e,fun j x=>Nat.lt_of_lt_of_le (hf.lt j x) hks.size⟩,hok⟩
  show Row w5 _ 1 _ (tear D.safe D.waits ks).length (z6Q (tear D.safe D.waits ks));rw[z3O];exact hrow
 ·refine hks.mono fun j _ x=>?_
  rcases x with x | x
  ·subst x;exact(hf.safe _ rfl).1
  ·subst x;exact hf.self
theorem znV (w:World) (b:Nat) (F:Nat→Prop) (D:Dk) (ao:Option Addr) (n c:Nat) (ks:List Int) (hD:RefAt w b F D) (hsrc:Cells w ao n 1 (zbI ks))
  (hap:0<n→∀ x,ao=some x→¬ F x.block) (hn:n≤9223372036854775807) (hwf:∀ z ∈ ks,-9223372036854775808≤z∧z≤9223372036854775807) (_hfew:D.waits.length≤1000000) :
  Calls Tryz.prog 32 #[.pointer (some ⟨b,0,none⟩),.slice ao n c] w fun e w'=>e = .returned (.tuple #[])∧RefTo b F w (DM.crash D ks) w':=by
 obtain⟨vs1,vw1,hI1⟩:=hD;have Hok:Hid (Ok (DM.crash D ks)):=hid (hI1.ok.crash ks);have hkl:ks.length=n:=by have:=hsrc.1;rw[z5Z] at this;omega
 have hpos:=hI1.ok.pos;have hfewS:=hI1.ok.few;obtain⟨gs,cap,cur,fz,rfl,hgs,-⟩:=hI1.safe.some hpos;obtain⟨aw,capw,rfl,-⟩:=hI1.waits.form;have hne:b≠gs:=fun e=>(hI1.foot.safe gs rfl).2 e.symm;have HR1:=hid (RefCrashRel.mk (w:=w) (b:=b) (ks:=ks) (k:=0) (by simpa [tear] using hI1.safe) (Keep.refl _ _));have HI1:=hid hI1;have Hsrc:=hid hsrc;have Hap:=hid hap;have Hwf:=hid hwf;have Hkl:=hid hkl;clear hI1 hgs hsrc hap hwf hkl;have hh1:=HI1.out.head;unfold z1S at hh1;obtain⟨i0,i1,i2,i3,if1,ib1⟩:=z2I hh1;have Hh1:=hid hh1;clear hh1;go_enter Tryz.func32,Tryz.ntmps32;go_wp2_with fail;clear i0 i1 i2 i3 if1
 go_loopw [4] (fun kv wr=>∃ k:Nat,k≤D.waits.length∧kv = .int .i64 k∧Hid (RefCrashRel w b gs cap D ks k wr)) (fun kv _=>D.waits.length - (intOf kv).toNat)
 case atStart=>exact⟨0,Nat.zero_le _,rfl,HR1⟩
 case round=>
  clear HR1;obtain⟨k,hk,rfl,HR⟩:=hrel;have hhr:=HR.out.keep.get Hh1.out hne;obtain⟨i0,i1,i2,i3,if1,ib2⟩:=z2I hhr;have Hhr:=hid hhr;clear hhr
  by_cases hkn:k<D.waits.length∧k<n
  ·have h4:(k:Int)<D.waits.length:=by omega
   have h5:(k:Int)<n:=by omega
   have hkD:=hkn.1;have hkN:=hkn.2;clear hkn;have hwr:=HI1.out.waits.keep HR.out.keep (fun j e x=>(HI1.out.foot.waits j e).2.2 (by rw[x];rfl));obtain⟨gw,capw',hvw,b0⟩:=hwr.getCell (j:=k * 2) (u:=.int .i64 (D.waits[k].1:Int)) (by have:=z5S D.waits k hkD 0 (by decide);simpa [putV] using this);obtain⟨gw2,capw2,hvw2,b1⟩:=hwr.getCell (j:=k * 2+1) (u:=.string (str D.waits[k].2)) (by have:=z5S D.waits k hkD 1 (by decide);simpa [putV] using this);cases hvw;cases hvw2;have Hb:=hid (zA1 b0 b1);clear hwr b0 b1;go_wp2_with (first | (at_builtin;refine z0H ?_;intro q hq) | (refine z6B (.load 161 _) rfl ?_;intro q hq) | (refine z6B (.alloc _) rfl ?_;intro q hq) | (refine z6B (.store 161 _ _) rfl ?_;intro q hq))
   (refine hq.out ?_;clear hq q)
   refine wpList_plain rfl (fun K hK=>?_)
   refine zeO 161 (.tmp 27) rfl gw (k * 2) rfl (putV D.waits[k]) (fun j u hu=>by
    have hj:j<2:=(List.getElem?_eq_some_iff.1 hu).1
    match j,hj,hu with
    | 0,_,hu=>simp[putV] at hu;subst hu;exact Hb.out.1
    | 1,_,hu=>simp[putV] at hu;subst hu;exact Hb.out.2) _ Tryz.underlying161 rfl (by kernel_rfl) ?_
   refine hK _ _ ?_;clear hK K;go_wp2_with (first | (at_builtin;refine z0H ?_;intro q hq) | (refine z6B (.alloc _) rfl ?_;intro q hq) | (refine z6B (.store 161 _ _) rfl ?_;intro q hq))
   (refine hq.out ?_;clear hq q)
   refine wpList_plain rfl (fun K hK=>?_);refine zlO 161 rfl z6H (by kernel_rfl) ?_;refine hK _ _ ?_;clear hK K;have hgn:=heap_alloc_new wr (.cells z6H.cells 161);have hkA:=kal wr (.cells z6H.cells 161);obtain⟨wA,hwA⟩:=zX1 (wr.alloc (.cells z6H.cells 161));rw[← hwA] at hgn hkA ⊢;clear hwA;have Hgn:=hid hgn;clear hgn;go_wp2_with (first | (at_builtin;refine z0H ?_;intro q hq) | (refine z6B (.store 161 _ _) rfl ?_;intro q hq))
   (refine hq.out ?_;clear hq q)
   refine wpList_plain rfl (fun K hK=>?_);have hgn:=Hgn.out
   refine z3P 161 (.tmp 5) (.tmp 28) rfl wr.heap.size rfl (putV D.waits[k]) rfl 161 z6H.cells (0,0) hgn (Free.zero _) rfl (by
    intro u hu;simp only[putV,List.mem_cons,List.not_mem_nil,or_false] at hu;rcases hu with rfl | rfl <;> rfl) (by kernel_rfl) ?_
   refine hK _ _ ?_;clear hK K;have hg3:=setRow_heap _ wr.heap.size _ (putV D.waits[k]).toArray _ _ hgn
   have hk3:Keep (fun _=>False) wr (wA.setRow wr.heap.size (putV D.waits[k]).toArray):=by
    refine Keep.setRow hkA (.inr ?_) _;exact Nat.le_refl _
   obtain⟨w3,hw3⟩:=zX1 (wA.setRow wr.heap.size (putV D.waits[k]).toArray);rw[← hw3] at hg3 hk3 ⊢;clear hw3 hgn Hgn hkA i0 i1 i2 i3 if1;have hhr3:=hk3.get Hhr.out id;obtain⟨i0,i1,i2,i3,if1,ib3⟩:=z2I hhr3;have p0:w3.cell? ⟨wr.heap.size,0,none⟩=some (.int .i64 (D.waits[k].1:Int)):=by rw[cell_of_row _ _ _ _ _ _ hg3];simp[putV]
   have p1:w3.cell? ⟨wr.heap.size,1,none⟩=some (.string (str D.waits[k].2)):=by rw[cell_of_row _ _ _ _ _ _ hg3];simp[putV]
   have hks3:Cells w3 ao n 1 (zbI ks):=(Hsrc.out.keep0 HR.out.keep (fun hp x hx e=>Hap.out (by omega) x hx (by rw[e];exact(HI1.out.foot.safe gs rfl).1))).keep hk3 (fun _ _ x=>x);have hkk:(zbI ks)[k]?=some (.int .i64 (ks[k]'(by rw[Hkl.out];exact hkN))):=by simp[zbI,show k<ks.length by rw[Hkl.out];exact hkN]
   obtain⟨ad,had,hadc⟩:=hks3.2 (by omega);subst had;have hkc:=hadc k _ hkk;have hzb:=Hwf.out _ (List.getElem_mem (show k<ks.length by rw[Hkl.out];exact hkN));obtain⟨z,hz⟩:=zX1 (ks[k]'(by rw[Hkl.out];exact hkN));rw[← hz] at hkc hzb;have Hz:=hid hz;have Hg3:=hid hg3;have Hk3:=hid hk3;clear hz hadc hkk hks3 hhr3 hg3 hk3;have hr3:=HR.out.row.keep Hk3.out (fun _ _ x=>x);have hpw:=HI1.out.ok.waits _ (List.getElem_mem hkD);obtain⟨p,hp⟩:=zX1 (D.waits[k]);rw[← hp] at p0 p1 hpw Hg3 ⊢;have Hp:=hid hp;clear hp;have hTl:(tear D.safe (D.waits.take k) ks).length=D.safe.length:=z3O _ _ _;obtain⟨S,hS⟩:=zX1 ((tear D.safe (D.waits.take k) ks).getD p.1 [])
   have hS32:S.length=32:=by
    have hi:p.1<(tear D.safe (D.waits.take k) ks).length:=by rw[hTl];exact hpw.1
    have:=z8H (D.waits.take k) ks D.safe HI1.out.ok.safe (fun q hq=>HI1.out.ok.waits q (List.mem_of_mem_take hq)) _ (List.getElem_mem hi);rw[hS,List.getD,List.getElem?_eq_getElem hi];exact this
   have s0:w3.cell? ⟨gs,p.1,none⟩=some (.string (str S)):=by
    rw[hr3.cell _ (by omega),hS];simp[z6Q,List.getD,show p.1<(tear D.safe (D.waits.take k) ks).length by omega]
   have f0:=hr3.frozen p.1 (by omega);have hB:(str p.2).size=32:=by rw[z1Z];exact hpw.2
   have hSs:(str S).size=32:=by rw[z1Z];exact hS32
   have HS:=hid hS;have Hr3:=hid hr3;have hpl:=hpw.1;have Hpw:=hid hpw;have h6:(p.1:Int)<(D.safe.length:Int):=by omega
   clear hS hr3 hpw hTl hS32
   by_cases cz:z<0
   ·go_wp2_with (at_builtin;refine z0H ?_;intro q hq)
    refine z0F [] (by kernel_rfl) (by kernel_rfl) ?_
    repeat (first | (apply z0E (by rfl);(intro K w';go_simp;exact id)) | (apply z0I (by rfl);(intro K;go_simp;exact id)))
    (refine z0K (by rfl) (by rfl) (fun K hK=>?_);go_simp;refine hK _ _ ?_;clear hK K)
    refine z0P ?_;have hval:(str S).extract 0 32=str (p.2.take (clamp z) ++ S.drop (clamp z)):=by rw[z5J];simp[clamp,show z.toNat=0 by omega,List.take_of_length_le (Nat.le_of_eq (show S.length=32 by rw[← z1Z];exact hSs))]
    rw[hval];obtain⟨w5,hw5⟩:=zX1 ((w3.setCell ⟨gs,p.1,none⟩ (.string (str (p.2.take (clamp z) ++ S.drop (clamp z))))).drew);rw[← hw5];have HR5:Hid (RefCrashRel w b gs cap D ks (k+1) w5):=hid (z7D hkD (by rw[Hkl.out];exact hkN) HR.out Hk3.out Hp.out Hz.out HS.out hpl hw5);clear hw5 hval;go_wp2_with fail;go_roundw
    case rel=>exact⟨k+1,by omega,by go_num,HR5⟩
    case measure=>simp[intOf];omega
   ·by_cases cz2:32<z
    ·go_wp2_with (at_builtin;refine z0H ?_;intro q hq)
     refine z0F [] (by kernel_rfl) (by kernel_rfl) ?_
     repeat (first | (apply z0E (by rfl);(intro K w';go_simp;exact id)) | (apply z0I (by rfl);(intro K;go_simp;exact id)))
     (refine z0K (by rfl) (by rfl) (fun K hK=>?_);go_simp;refine hK _ _ ?_;clear hK K)
     refine z0P ?_;have hval:(str p.2).extract 0 32=str (p.2.take (clamp z) ++ S.drop (clamp z)):=by rw[z5J];simp[clamp,show min z.toNat 32=32 by omega,List.drop_of_length_le (Nat.le_of_eq (show S.length=32 by rw[← z1Z];exact hSs))]
     rw[hval];obtain⟨w5,hw5⟩:=zX1 ((w3.setCell ⟨gs,p.1,none⟩ (.string (str (p.2.take (clamp z) ++ S.drop (clamp z))))).drew);rw[← hw5];have HR5:Hid (RefCrashRel w b gs cap D ks (k+1) w5):=hid (z7D hkD (by rw[Hkl.out];exact hkN) HR.out Hk3.out Hp.out Hz.out HS.out hpl hw5);clear hw5 hval;go_wp2_with fail;go_roundw
     case rel=>exact⟨k+1,by omega,by go_num,HR5⟩
     case measure=>simp[intOf];omega
    ·obtain⟨m,hm⟩:∃ m:Nat,(m:Int)=z:=⟨z.toNat,by omega⟩
     subst hm;have hm1:m≤32:=by omega
     go_wp2_with fail;refine z0F [] (by kernel_rfl) (by kernel_rfl) ?_
     repeat (first | (apply z0E (by rfl);(intro K w';go_simp;exact id)) | (apply z0I (by rfl);(intro K;go_simp;exact id)))
     (refine z0K (by rfl) (by rfl) (fun K hK=>?_);go_simp;refine hK _ _ ?_;clear hK K)
     refine z0P ?_;have hval:(str p.2).extract 0 m ++ (str S).extract m 32=str (p.2.take (clamp (m:Int)) ++ S.drop (clamp (m:Int))):=by rw[z5J,z5J,zmY];simp[clamp,Nat.min_eq_left hm1,List.take_of_length_le (Nat.le_of_eq (show S.length=32 by rw[← z1Z];exact hSs))]
     rw[hval];obtain⟨w5,hw5⟩:=zX1 ((w3.setCell ⟨gs,p.1,none⟩ (.string (str (p.2.take (clamp (m:Int)) ++ S.drop (clamp (m:Int)))))).drew);rw[← hw5];have HR5:Hid (RefCrashRel w b gs cap D ks (k+1) w5):=hid (z7D hkD (by rw[Hkl.out];exact hkN) HR.out Hk3.out Hp.out Hz.out HS.out hpl hw5);clear hw5 hval;go_wp2_with fail;go_roundw
     case rel=>exact⟨k+1,by omega,by go_num,HR5⟩
     case measure=>simp[intOf];omega
  ·have fin:D.waits.length≤k∨ks.length≤k→RefTo b F w (DM.crash D ks) (((wr.setCell ⟨b,1,none⟩ (.slice none 0 0)).setCell ⟨b,2,none⟩ (.int .i64 (-1))).setCell ⟨b,3,none⟩ (.bool false)):=
    fun hx=>zfW HI1.out HR.out hx Hok.out Hhr.out
   have Fin:=hid fin;clear fin;have hc:¬ k<D.waits.length∨(k<D.waits.length∧¬ k<n):=by omega
   rcases hc with c1 | ⟨c0,c1⟩
   ·have h4:¬ (k:Int)<D.waits.length:=by omega
    go_wp2_with fail
    go_end0
    exact⟨rfl,Fin.out (.inl (by omega))⟩
   ·have h4:(k:Int)<D.waits.length:=by omega
    have h5:¬ (k:Int)<n:=by omega
    go_wp2_with fail
    go_end0
    exact⟨rfl,Fin.out (.inr (by rw[Hkl.out];omega))⟩
end
section
open Go.RowKit
structure Lot (c:Nat→Nat) (w:World) (v:Value) (vs:List Value) (n:Nat) (ns:Nat→Nat) (C:Nat→List Value→Prop):Prop where
 row:Row w 29 1 v n vs
 each:∀ j,j<n→∃ u xs,vs[j]?=some u∧Row w 5 1 u (ns j) xs∧C j xs
 cv:∀ k,v.ownBlock=some k→c k=0
 ce:∀ (j:Nat) u k,vs[j]?=some u→u.ownBlock=some k→c k=j+2
def patV (j t:Nat):Value:=.int .u8 (((j:Int) * 31+(t:Int) % 7) % 256)
def markV (j t:Nat):Value:=.int .u8 ((200+(j:Int) * 5+(t:Int)) % 256)
def Filled (j m:Nat) (xs:List Value):Prop:=∀ t,t<m→xs[t]?=some (patV j t)
structure Own1 (c:Nat→Nat) (w0:World) (v:Value) (vs:List Value) (n:Nat) (ns:Nat→Nat) (i k:Nat) (wr:World):Prop where
 lot:Lot c wr v vs n ns (fun j xs=>(j<i→Filled j (ns j) xs)∧(j=i→Filled j k xs))
 keep:Keep (fun b=>∃ u ∈ vs,u.ownBlock=some b) w0 wr
def Marked (j m k:Nat) (xs:List Value):Prop:=∀ t,t<k→xs[m+t]?=some (markV j t)
structure Own2 (c:Nat→Nat) (w0:World) (v:Value) (vs:List Value) (n:Nat) (ns:Nat→Nat) (i:Nat) (lv:Value) (ls:List Value) (wr:World):Prop where
 lot:Lot c wr v vs n ns (fun j xs=>Filled j (ns j) xs)
 lrow:Row wr 29 1 lv i ls
 lone:∀ j,j<i→∃ u xs,ls[j]?=some u∧Row wr 5 1 u (ns j+4) xs∧Filled j (ns j) xs∧Marked j (ns j) 4 xs
 cl:∀ b,lv.ownBlock=some b→c b=1
 cu:∀ (j:Nat) u b,ls[j]?=some u→u.ownBlock=some b→c b=j+2
 keep:Keep (fun b=>∃ u ∈ vs,u.ownBlock=some b) w0 wr
 fresh:∀ b,lv.ownBlock=some b→w0.heap.size≤b
structure Own3 (c:Nat→Nat) (w0:World) (v:Value) (vs:List Value) (n:Nat) (ns:Nat→Nat) (i:Nat) (lv:Value) (ls:List Value) (k:Nat) (x:Value) (wr:World):Prop where
 two:Own2 c w0 v vs n ns i lv ls wr
 row:∃ xs,Row wr 5 1 x (ns i+k) xs∧Filled i (ns i) xs∧Marked i (ns i) k xs
 cx:∀ b,x.ownBlock=some b→c b=i+2
 fx:∀ b,x.ownBlock=some b→(∃ u ∈ vs,u.ownBlock=some b)∨w0.heap.size≤b
end
section
open Go.RowKit
open BM
structure LentIs (w w':World) (g n cap:Nat) (l:List UInt8):Prop where
 row:Row w' 5 1 (.slice (some ⟨g,0,none⟩) (n+2) cap) (n+2) (z0B (l ++ [91,92]))
 new:w.heap.size≤g
 keep:Keep (fun _=>False) w w'
end
end Go.Proofs.YtkjofdocgaiedaaGreat
