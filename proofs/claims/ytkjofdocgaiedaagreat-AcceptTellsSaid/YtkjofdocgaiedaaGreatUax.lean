/- Texts WalV, WalO, RwA, RwB, RwC, RwD, RwE, RwF, Wts, RwG, RwH in one. Conditions: as each law names them. -/
import Derived.Deep.CutBlock
import Derived.Deep.DeepCutAuto
import Derived.Deep.RegionHeld3
import Derived.Test.YtkjofdocgaiedaaGreatUaj
import Derived.Test.YtkjofdocgaiedaaGreatUak
import Derived.Test.YtkjofdocgaiedaaGreatUaq
import Derived.Test.YtkjofdocgaiedaaGreatUav
set_option maxRecDepth 20000
set_option maxHeartbeats 8000000
namespace Go.Proofs.YtkjofdocgaiedaaGreat
section
open Go.RowKit
open DM BM WM
theorem z8C (ep:Nat) (B:List UInt8) (en:Nat):∀ (k i m:Nat) (wr:Bool) (D:Dk),(∀ j,i≤j→j<i+k→dirty B en j=false)→WM.wipe ep B en i (k+m) wr D=WM.wipe ep B en (i+k) m wr D
 | 0,i,m,wr,D,_=>by rw[Nat.zero_add,Nat.add_zero]
 | k+1,i,m,wr,D,h=>by
   rw[show k+1+m=(k+m)+1 by omega,WM.wipe,h i (Nat.le_refl _) (by omega)];simp only;rw[if_neg (by simp),z8C ep B en k (i+1) m wr D (fun j h1 h2=>h j (by omega) (by omega)),show i+1+k=i+(k+1) by omega]
theorem z9F (ep:Nat) (B:List UInt8) (en:Nat):∀ k i wr D,(WM.wipe ep B en i k wr D).2.2.waits.length≤D.waits.length+k
 | 0,i,wr,D=>Nat.le_refl _
 | k+1,i,wr,D=>by
   have h:=z2Y D ((WM.first D ep+i:Nat):Int) (z0Q (clean B en) i);rw[WM.wipe];split
   ·simp only
    split
    ·have:=z9F ep B en k (i+1) true (DM.write D ((WM.first D ep+i:Nat):Int) (z0Q (clean B en) i)).2
     omega
    ·show (DM.write D ((WM.first D ep+i:Nat):Int) (z0Q (clean B en) i)).2.waits.length≤_
     omega
   ·have:=z9F ep B en k (i+1) wr D
    omega
theorem zaM (ep:Nat) (B:List UInt8) (en:Nat):∀ k i wr D,(WM.wipe ep B en i k wr D).2.2.safe.length=D.safe.length
 | 0,i,wr,D=>rfl
 | k+1,i,wr,D=>by
   rw[WM.wipe];split
   ·simp only
    split
    ·rw[zaM ep B en k,z3K]
    ·exact z3K _ _ _
   ·rw[zaM ep B en k]
theorem zeV (B:List UInt8) (en i:Nat) (h:i<en / 32):dirty B en i=false:=by
 unfold dirty;rw[List.any_eq_false];intro k hk;rw[List.mem_range] at hk;simp;intro h2;omega
def z6K (ep:Nat) (B:List UInt8) (en:Nat) (D:Dk):Int×Dk:=
 let r:=WM.wipe ep B en 0 (half D) false D
 if r.1=0∧r.2.1=true then DM.sync r.2.2 else (r.1,r.2.2)
def WipeTo (w:World) (d ga ca nn:Nat) (Fd:Nat→Prop) (B:List UInt8) (en:Nat) (Y:Int×Dk) (e:Ending) (w':World):Prop:=
 e = .returned (.int .i64 Y.1)∧Keep (fun k=>Fd k∨k=ga) w w'∧(∃ Fd',DiskAt w' d Fd' Y.2∧∀ k,Fd' k→Fd k∨w.heap.size≤k)∧
  (Y.1=0→Row w' 5 1 (.slice (some ⟨ga,0,none⟩) nn ca) nn (z0B (clean B en)))
theorem zqB (w:World) (b d ga ca ep en nn:Nat) (Fd:Nat→Prop) (D:Dk) (B:List UInt8) (vl:Value) (sf:Nat)
  (H:w.heap[b]?=some (.cells (z0N d ep (half D) (.slice (some ⟨ga,0,none⟩) nn ca) vl sf en false) 164 (0,0)))
  (hrow:Row w 5 1 (.slice (some ⟨ga,0,none⟩) nn ca) nn (z0B B)) (hnn:nn=32 * half D) (hen:en≤nn) (hD:DiskAt w d Fd D)
  (hbF:¬ Fd b) (hgF:¬ Fd ga) (hgb:ga≠b) (hfew:D.waits.length≤800000) :
  Calls Tryz.prog 86 #[.pointer (some ⟨b,0,none⟩)] w (WipeTo w d ga ca nn Fd B en (z6K ep B en D)):=by
 have hBl:B.length=nn:=by have:=hrow.1;rw[z0D] at this;omega
 have hfewD:=hD.ok.few;have hhalf:half D≤1023:=by unfold half;omega
 obtain⟨adx,cax,hvx,hnca,hca,-⟩:=hrow.form;simp at hvx;obtain⟨rfl,rfl⟩:=hvx;have hblt:=z0L H;have hglt:=hrow.lt (k:=ga) (by simp[Value.ownBlock]);have hDlt:=hD.lt;obtain⟨w1,hw1⟩:=zX1 ((w.alloc (.cells #[.pointer (some ⟨b,0,none⟩)] 101)).alloc (.cells #[.bool false] 4));have hk1:Keep (fun _=>False) w w1:=by rw[hw1];exact((Keep.refl _ _).alloc _).alloc _
 have hsz:(w.alloc (.cells #[.pointer (some ⟨b,0,none⟩)] 101)).heap.size=w.heap.size+1:=by simp
 have hx1:w1.cell? ⟨w.heap.size,0,none⟩=some (.pointer (some ⟨b,0,none⟩)):=by
  have h1:=heap_alloc_new w (.cells #[.pointer (some ⟨b,0,none⟩)] 101);have h2:=((Keep.refl (fun _=>False) (w.alloc (.cells #[.pointer (some ⟨b,0,none⟩)] 101))).alloc (.cells #[.bool false] 4)).get h1 id;rw[hw1,cell_of_row _ _ _ _ _ _ h2];rfl
 have hy1:w1.heap[w.heap.size+1]?=some (.cells #[.bool false] 4 (0,0)):=by
  have h1:=heap_alloc_new (w.alloc (.cells #[.pointer (some ⟨b,0,none⟩)] 101)) (.cells #[.bool false] 4);rw[hsz] at h1;rw[hw1];exact h1
 have hs1:w1.heap.size=w.heap.size+2:=by rw[hw1];simp
 obtain⟨x,hx⟩:=zX1 (w.heap.size);rw[← hx] at hx1 hy1;obtain⟨y,hy⟩:=zX1 (x+1);rw[← hy] at hy1;have hh1:=hk1.get H id;have hr1:=hrow.keep hk1 fun _ _ x=>x;have hD1:=hD.keep hk1 fun _ _ x=>x;have hxF:¬ Fd x:=fun h=>by have:=hDlt x h;omega
 have hyF:¬ Fd y:=fun h=>by have:=hDlt y h;omega
 have hskip:WM.wipe ep B en 0 (half D) false D=WM.wipe ep B en (en / 32) (half D - en / 32) false D:=by
  have h:=z8C ep B en (en / 32) 0 (half D - en / 32) false D (fun j _ h2=>zeV B en j (by omega))
  rwa [show en / 32+(half D - en / 32)=half D by omega,Nat.zero_add] at h
 obtain⟨i0,i1,i2,i3,i4,i5,i6,i7,if1,ib1⟩:=z1F (show w1.heap[b]?=some (.cells #[_,_,_,_,_,_,_,_] _ (0,0)) from hh1)
 have heach:=ziQ w1.drew b 128 #[.pointer (some ⟨x,0,none⟩),.pointer (some ⟨y,0,none⟩)] en (en / 32) (half D) nn nn ca (.slice (some ⟨ga,0,none⟩) nn ca)
  (fun i wr=>en / 32≤i∧i≤half D∧∃ F' D' wf,WM.wipe ep B en 0 (half D) false D=WM.wipe ep B en i (half D - i) wf D'∧Keep (fun k=>Fd k∨k=ga∨k=y) w1 wr∧DiskAt wr d F' D'∧(∀ k,F' k→Fd k∨w1.heap.size≤k)∧D'.safe.length=D.safe.length∧D'.waits.length≤D.waits.length+(i - en / 32)∧
   Row wr 5 1 (.slice (some ⟨ga,0,none⟩) nn ca) nn (z0B (mixA B en (i * 32)))∧wr.heap[y]?=some (.cells #[.bool wf] 4 (0,0)))
  (fun c wr=>∃ F' D',WM.wipe ep B en 0 (half D) false D=(c,true,D')∧Keep (fun k=>Fd k∨k=ga∨k=y) w1 wr∧DiskAt wr d F' D'∧(∀ k,F' k→Fd k∨w1.heap.size≤k)∧wr.heap[y]?=some (.cells #[.bool true] 4 (0,0)))
  rfl (fun i=>by omega) (by omega) (by omega) hnca hca (by omega) (Nat.le_refl _) (by omega) (some ⟨ga,0,none⟩) rfl ?_ ?_
  (enters_of Tryz.func128 (by kernel_rfl) rfl) ?_
 ·have HE:=hid heach
  obtain⟨Y,hY⟩:=zX1 (z6K ep B en D);rw[← hY];have HY:=hid hY;obtain⟨Post,hPost⟩:=zX1 (WipeTo w d ga ca nn Fd B en Y);have fin:∀ wX,WipeTo w d ga ca nn Fd B en Y (.returned (.int .i64 Y.1)) wX→Post (.returned (.int .i64 Y.1)) wX:=fun wX h=>by rw[hPost];exact h
  rw[← hPost];have Fin:=hid fin;clear fin hPost;have H1:=hid (zA1 hk1 (zA1 hs1 (zA1 hx (zA1 hy (zA1 hh1 (zA1 hx1 hy1))))));have HNN:=hid hnn;clear hnn heach hY hskip hk1 hs1 hh1 hr1 hD1 hD hrow H hsz;go_enter Tryz.func86,Tryz.ntmps86;go_wp2_with (at_builtin;refine z0A ?_;intro q hq);rw[← hw1,← hx,← hy];clear hw1 hx hy;obtain⟨Z,hZ⟩:=zX1 (WM.wipe ep B en 0 (half D) false D)
  have he2:Calls Tryz.prog 104 #[.pointer (some ⟨b,0,none⟩),.int .i64 (en:Nat),.int .i64 (nn:Nat),.func (.func 128) #[] #[.pointer (some ⟨x,0,none⟩),.pointer (some ⟨y,0,none⟩)]] w1.drew fun e w'=>
    e = .returned (.int .i64 Z.1)∧(w'.cell? ⟨x,0,none⟩=some (.pointer (some ⟨b,0,none⟩))∧w'.cell? ⟨b,3,none⟩=some (.slice (some ⟨ga,0,none⟩) nn ca)∧w'.cell? ⟨b,6,none⟩=some (.int .i64 (en:Nat)))∧
     Hid (Keep (fun k=>Fd k∨k=ga∨k=y) w1 w'∧(∃ F',DiskAt w' d F' Z.2.2∧(∀ k,F' k→Fd k∨w1.heap.size≤k)∧Z.2.2.waits.length≤900000)∧w'.heap[y]?=some (.cells #[.bool Z.2.1] 4 (0,0))∧(Z.1=0→Row w' 5 1 (.slice (some ⟨ga,0,none⟩) nn ca) nn (z0B (clean B en)))):=by
   refine HE.out.mono ?_;have hnn:=HNN.out;rintro e w' ⟨c,rfl,g1,g2⟩
   have key:Keep (fun k=>Fd k∨k=ga∨k=y) w1 w'→(w'.cell? ⟨x,0,none⟩=some (.pointer (some ⟨b,0,none⟩))∧w'.cell? ⟨b,3,none⟩=some (.slice (some ⟨ga,0,none⟩) nn ca)∧w'.cell? ⟨b,6,none⟩=some (.int .i64 (en:Nat))):=fun hk=>by
    obtain⟨-,hs1,hx,hy,-,hx1,-⟩:=H1.out;refine⟨?_,?_,?_⟩
    ·rw[World.cell?_of_block (hk.block _ (World.block_lt_of_cell? _ _ hx1) (fun h=>by rcases h with h | h | h;exact hxF h;(have h':x=ga:=h;omega);(have h':x=y:=h;omega)))];exact hx1
    ·rw[World.cell?_of_block (hk.block _ ib1 (fun h=>by rcases h with h | h | h;exact hbF h;exact hgb h.symm;(have h':b=y:=h;omega)))];exact i3
    ·rw[World.cell?_of_block (hk.block _ ib1 (fun h=>by rcases h with h | h | h;exact hbF h;exact hgb h.symm;(have h':b=y:=h;omega)))];exact i6
   by_cases h0:c=0
   ·obtain⟨_,_,F',D',wf,hl,hkp,hD',hF',hs',hw',hrow',hy'⟩:=g1 h0
    rw[Nat.sub_self] at hl;have hz:Z=(0,wf,D'):=by rw[hZ,hl];rfl
    rw[hz,h0];refine⟨rfl,key hkp,hid ⟨hkp,⟨F',hD',hF',by show D'.waits.length≤_;omega⟩,hy',fun _=>?_⟩⟩;rw[show half D * 32=nn by omega] at hrow';rw[← zpV,hBl];exact hrow'
   ·obtain⟨F',D',hl,hkp,hD',hF',hy'⟩:=g2 h0
    have hz:Z=(c,true,D'):=by rw[hZ,hl]
    rw[hz];refine⟨rfl,key hkp,hid ⟨hkp,⟨F',hD',hF',?_⟩,hy',fun h=>absurd h h0⟩⟩;have:=z9F ep B en (half D) 0 false D;rw[hl] at this;show D'.waits.length≤_;have h9:D'.waits.length≤D.waits.length+half D:=this;omega
  have HE2:=hid he2;have HY2:=hid (show Y=if Z.1=0∧Z.2.1=true then DM.sync Z.2.2 else (Z.1,Z.2.2) by rw[hZ];exact HY.out);have hx1:=H1.out.2.2.2.2.2.1;clear HE he2 hZ HY i0 i1 i2 i4 i5 i7 if1;clear hDlt hxF hyF hfewD hBl
  go_region_held3 (fun w'=>w'.cell? ⟨x,0,none⟩=some (.pointer (some ⟨b,0,none⟩))∧w'.cell? ⟨b,3,none⟩=some (.slice (some ⟨ga,0,none⟩) nn ca)∧w'.cell? ⟨b,6,none⟩=some (.int .i64 (en:Nat)))
   (first | exact⟨hx1,i3,i6⟩ | assumption)
   (first | (go_simp;go_at_call 104;refine HE2.out.mono ?_;rintro e w2 ⟨rfl,hz2,HZ2⟩;go_simp))
  obtain⟨hk1,hs1,hx,hy,hh1,-,hy1⟩:=H1.out;obtain⟨zk,⟨F2,zD,zF,zw⟩,zy,zr⟩:=HZ2.out;have y0:w2.cell? ⟨y,0,none⟩=some (.bool Z.2.1):=by rw[cell_of_row _ _ _ _ _ _ zy];rfl
  have d0:w2.cell? ⟨b,0,none⟩=some (.pointer (some ⟨d,0,none⟩)):=by
   rw[World.cell?_of_block (zk.block _ ib1 (fun h=>by rcases h with h | h | h;exact hbF h;exact hgb h.symm;(have h':b=y:=h;omega)))];rw[cell_of_row _ _ _ _ _ _ hh1];rfl
  have x0:=hz2.1
  have hk02:Keep (fun k=>Fd k∨k=ga) w w2:=hk1.next zk (fun _ _ x=>x.elim) (fun k hk x=>by
   rcases x with x | x | x
   ·exact .inl x
   ·exact .inr x
   ·have h':k=y:=x
    omega)
  have hF02:∀ k,F2 k→Fd k∨w.heap.size≤k:=fun k x=>(zF k x).imp id fun h=>by omega
  have HW2:=hid (zA1 hk02 (zA1 zD (zA1 hF02 (zA1 zr zw))));clear zk zD zF zw zy zr hk02 hF02 hk1 hs1 hx hy hh1 hy1 hz2 HZ2
  by_cases z0:Z.1=0
  rotate_left
  ·have hy:Y=(Z.1,Z.2.2):=by rw[HY2.out,if_neg (fun h=>z0 h.1)]
   have hf:=Fin.out w2 (by rw[hy];exact⟨rfl,HW2.out.1,⟨F2,HW2.out.2.1,HW2.out.2.2.1⟩,fun h=>absurd h z0⟩);rw[hy] at hf;have HF:=hid hf;have u1:(Z.1 == 0)=false:=by simp[z0]
   have u3:decide (Z.1=0)=false:=by simp[z0]
   clear hf hy z0;go_wp2_with (at_builtin;refine z0A ?_;intro q hq);exact HF.out
  ·rw[z0]
   cases hwf:Z.2.1 with
   | false=>
     have hy:Y=(0,Z.2.2):=by rw[HY2.out,if_neg (by rw[hwf];simp),z0]
     have hf:=Fin.out w2 (by rw[hy];exact⟨rfl,HW2.out.1,⟨F2,HW2.out.2.1,HW2.out.2.2.1⟩,fun _=>HW2.out.2.2.2.1 z0⟩);rw[hy] at hf;have HF:=hid hf;rw[hwf] at y0;clear hf hy z0;go_wp2_with (at_builtin;refine z0A ?_;intro q hq);exact HF.out
   | true=>
     have hy:Y=DM.sync Z.2.2:=by rw[HY2.out,if_pos ⟨z0,hwf⟩]
     rw[hwf] at y0;have Hz0:=hid z0;have HYs:=hid hy;clear z0 hy;go_wp2_with (at_builtin;refine z0A ?_;intro q hq);refine(zaG w2 d F2 Z.2.2 HW2.out.2.1 (by have:=HW2.out.2.2.2.2;omega)).mono ?_;rintro e w3 ⟨rfl,F3,s1,s2,s3⟩;have hgF2:¬ F2 ga:=fun h=>(HW2.out.2.2.1 ga h).elim hgF fun h=>by omega
     have hf:=Fin.out w3 (by
      rw[HYs.out];refine⟨rfl,HW2.out.1.next s2 (fun _ _ x=>x) (fun k hk x=>(HW2.out.2.2.1 k x).elim .inl fun h=>by omega),⟨F3,s1,fun k x=>(s3 k x).elim (HW2.out.2.2.1 k) fun h=>.inr (Nat.le_trans HW2.out.1.size h)⟩,fun _=>(HW2.out.2.2.2.1 Hz0.out).keep s2 fun k e x=>?_⟩;simp[Value.ownBlock] at e;subst e
      exact hgF2 x)
     rw[HYs.out] at hf;have HF:=hid hf;clear hf s1 s2 s3;go_wp2_with (at_builtin;refine z0A ?_;intro q hq);exact HF.out
 ·rintro i wr ⟨_,_,F',D',wf,_,hkp,_⟩
  rw[World.cell?_of_block (hkp.block b ib1 (by rintro(h | h | h);exact hbF h;exact hgb h.symm;omega))];exact i3
 ·exact⟨Nat.le_refl _,by omega,Fd,D,false,hskip,(Keep.refl _ _).drew,hD1.keep (Keep.refl (fun _=>False) _).drew (fun _ _ x=>x),fun _ x=>.inl x,rfl,by omega,by rw[znE _ _ _ (by omega)];exact hr1.keep (F:=fun _=>False) (Keep.refl _ _).drew (fun _ _ x=>x),hy1⟩
 ·rintro i wr hi1 hi2 ⟨_,_,F',D',wf,hl,hkp,hD',hF',hs',hw',hrow',hy'⟩
  have hhl:=z3J hs'
  have hxr:wr.cell? ⟨x,0,none⟩=some (.pointer (some ⟨b,0,none⟩)):=by
   rw[World.cell?_of_block (hkp.block _ (World.block_lt_of_cell? _ _ hx1) (fun h=>by rcases h with h | h | h;exact hxF h;(have h':x=ga:=h;omega);(have h':x=y:=h;omega)))];exact hx1
  have hhr:=hkp.get hh1 (by rintro(h | h | h);exact hbF h;exact hgb h.symm;omega);rw[← hhl] at hhr;have nF:∀ k,¬ Fd k→k<w1.heap.size→¬ F' k:=fun k h1 h2 h3=>(hF' k h3).elim h1 fun h=>by omega
  have hcall:=zlV wr x y b d ga ca ep en nn i F' D' B vl sf false wf hxr hy' hhr hrow' (by rw[hhl];exact hnn) (by rw[hhl];exact hi2) hD'
   (nF x hxF (by omega)) (nF y hyF (by omega)) (nF b hbF ib1) (nF ga hgF (by omega)) (by omega) (by omega) (by omega) hgb (by omega) (by omega)
  have ht:z1E (some ⟨ga,0,none⟩) ca (i * 32) 1=some ⟨ga,i * 32,none⟩:=by
   unfold z1E;rw[if_neg (by omega)];simp[z0J]
  rw[ht];refine hcall.mono ?_;rintro e w' ⟨rfl,hk2,⟨F2,hD2,hF2⟩,hrow2,hy2⟩;obtain⟨j,hj⟩:∃ j,half D - i=j+1:=⟨half D - i - 1,by omega⟩
  have hkw:Keep (fun k=>Fd k∨k=ga∨k=y) w1 w':=hkp.next hk2 (fun _ _ x=>x) fun k hk x=>by
   rcases x with x | x
   ·rcases hF' k x with z | z
    ·exact .inl z
    ·omega
   ·exact .inr x
  have hFw:∀ k,F2 k→Fd k∨w1.heap.size≤k:=fun k x=>(hF2 k x).elim (hF' k) fun z=>.inr (Nat.le_trans hkp.size z);rw[z5L hs'] at hD2 ⊢
  cases hdi:dirty B en i with
  | false=>
    rw[hdi] at hD2 hy2;rw[if_neg (by simp)] at hD2 ⊢;rw[Bool.or_false] at hy2;refine⟨0,rfl,fun _=>⟨by omega,by omega,F2,D',wf,?_,hkw,hD2,hFw,hs',by omega,hrow2,hy2⟩,fun h=>absurd rfl h⟩;rw[hl,hj,WM.wipe,hdi];simp only;rw[if_neg (by simp),show half D - (i+1)=j by omega]
  | true=>
    rw[hdi] at hD2 hy2;rw[if_pos rfl] at hD2 ⊢;rw[Bool.or_true] at hy2
    have hst:WM.wipe ep B en i (half D - i) wf D'=if (DM.write D' ((WM.first D ep+i:Nat):Int) (z0Q (clean B en) i)).1=0 then WM.wipe ep B en (i+1) j true (DM.write D' ((WM.first D ep+i:Nat):Int) (z0Q (clean B en) i)).2 else ((DM.write D' ((WM.first D ep+i:Nat):Int) (z0Q (clean B en) i)).1,true,(DM.write D' ((WM.first D ep+i:Nat):Int) (z0Q (clean B en) i)).2):=by
     rw[hj,WM.wipe,hdi,z5L hs'];rfl
    have hwl:=z3K D' ((WM.first D ep+i:Nat):Int) (z0Q (clean B en) i);have hww:=z2Y D' ((WM.first D ep+i:Nat):Int) (z0Q (clean B en) i);refine⟨_,rfl,fun h0=>⟨by omega,by omega,F2,_,true,?_,hkw,hD2,hFw,by rw[hwl];exact hs',by omega,hrow2,hy2⟩,fun h0=>⟨F2,_,?_,hkw,hD2,hFw,hy2⟩⟩
    ·rw[hl,hst,if_pos h0,show half D - (i+1)=j by omega]
    ·rw[hl,hst,if_neg h0]
end
section
open Go.RowKit
open DM BM WM
theorem zoG (w:World) (a b:Nat):(Builtin.max_ #[23,23] 23 #[.int .u64 (a:Int),.int .u64 (b:Int)]).run Tryz.prog w = .ok (.int .u64 ((max a b:Nat):Int)) w:=by
 rcases Nat.lt_or_ge a b with q | q
 ·rw[Nat.max_eq_right (by omega)]
  simp[Builtin.max_,Builtin.max2];omega
 ·rw[Nat.max_eq_left q]
  simp[Builtin.max_,Builtin.max2];omega
def epTo (D:Dk):Nat→Nat
 | 0=>0
 | i+1=>max (epTo D i) ((WM.head D i).getD 0)
theorem z8L (D:Dk):epTo D 2=epoch D:=by simp[epTo,epoch]
theorem zsK {D:Dk} {i n:Nat} (h:WM.head D i=some n):n<4611686018427387904:=by
 unfold WM.head at h;split at h
 ·cases h
 ·split at h
  ·cases h
  ·split at h
   ·cases h
   ·split at h
    ·rename_i hc
     cases h;exact hc.2.1
    ·cases h
theorem zeJ (D:Dk):∀ i,epTo D i<4611686018427387904
 | 0=>by show 0<_;decide
 | i+1=>by
   have h1:=zeJ D i
   have h2:(WM.head D i).getD 0<4611686018427387904:=by
    cases h:WM.head D i with
    | none=>decide
    | some n=>exact zsK h
   unfold epTo;omega
def z1Z (D:Dk) (ep i:Nat):List UInt8:=((List.range i).map fun i=>(DM.read D ((WM.first D ep+i:Nat):Int)).1).flatten
theorem z6N (D:Dk) (ep i:Nat):z1Z D ep (i+1)=z1Z D ep i ++ (DM.read D ((WM.first D ep+i:Nat):Int)).1:=by simp[z1Z,List.range_succ]
theorem z3R {D:Dk} (ep i:Nat) (h6:6≤D.safe.length) (hi:i<half D):WM.first D ep+i<D.safe.length:=by
 unfold WM.first;unfold half at *;have:ep % 2=0∨ep % 2=1:=by omega
 rcases this with h | h <;> rw[h] <;> omega
theorem z2K {D:Dk} (ep:Nat) (h6:6≤D.safe.length) (hd:D.down=false) (ok:Ok D):∀ i,i≤half D→(z1Z D ep i).length=32 * i
 | 0,_=>rfl
 | i+1,hi=>by
   rw[z6N,List.length_append,z2K ep h6 hd ok i (by omega),(z8Q D _ hd (z3R ep i h6 (by omega)) ok).2];omega
theorem zcL {D:Dk} {B:List UInt8} (hB:B.length=32 * half D):clean B (scan B (B.length+1) 0).2=z1X (half D) (scan B (B.length+1) 0).1:=by
 obtain⟨h1,h2,h3,-⟩:=z6Z B (B.length+1) 0 (Nat.zero_le _);unfold clean z1X;rw[List.drop_zero] at h3;rw[h1,Nat.zero_add,h3,hB]
theorem zeR (ep:Nat) (B:List UInt8) (en:Nat) (D:Dk):(z6K ep B en D).2.safe.length=D.safe.length:=by
 unfold z6K;simp only;split
 ·rw[z6D,zaM]
 ·exact zaM _ _ _ _ _ _ _
def OpenTo (d:Nat) (Fd:Nat→Prop) (w:World) (R:Int×Option Lg×Dk) (e:Ending) (w':World):Prop:=
 match R.2.1 with
 | none=>e = .returned (.tuple #[.pointer none,.int .i64 R.1])∧DiskTo d Fd w R.2.2 w'
 | some g=>∃ b F Fd',e = .returned (.tuple #[.pointer (some ⟨b,0,none⟩),.int .i64 R.1])∧LogAt w' b d F Fd' R.2.2 g∧Keep Fd w w'∧(∀ k,F k→w.heap.size≤k)∧∀ k,Fd' k→Fd k∨w.heap.size≤k
structure OpRel (w:World) (b d ep h ga ca nn:Nat) (bs:List UInt8) (wr:World):Prop where
 head:wr.heap[b]?=some (.cells (z0N d ep h (.slice (some ⟨ga,0,none⟩) nn ca) (.slice none 0 0) 0 0 false) 164 (0,0))
 row:Row wr 5 1 (.slice (some ⟨ga,0,none⟩) nn ca) nn (z0B bs)
 keep:Keep (fun _=>False) w wr
theorem zpH (w:World) (d:Nat) (Fd:Nat→Prop) (D:Dk) (hD:DiskAt w d Fd D) (hfew:D.waits.length≤800000) :
  Calls Tryz.prog 43 #[.pointer (some ⟨d,0,none⟩)] w (OpenTo d Fd w (z1S D)):=by
 obtain⟨R,hR⟩:=zX1 (z1S D);rw[← hR]
 have no:∀ c,R=(c,none,D)→∀ w',Keep (fun _=>False) w w'→OpenTo d Fd w R (.returned (.tuple #[.pointer none,.int .i64 c])) w':=fun c h w' hk=>by
  rw[h];exact⟨rfl,Fd,hD.keep hk fun _ _ x=>x,hk.mono fun _ _ x=>x.elim,fun _ x=>.inl x⟩
 obtain⟨Post,hPost⟩:=zX1 (OpenTo d Fd w R);have HPost:=hid hPost;rw[← hPost] at no ⊢;have No:=hid no;have HR:=hid hR;have HD:=hid hD;clear no hR hD hPost;have hfewD:=HD.out.ok.few;obtain⟨ns,hns⟩:=zX1 (D.safe.length)
 by_cases h6:ns<6
 ·have hN:=No.out 40 (by rw[HR.out];unfold z1S;rw[if_pos (by omega)]) w (Keep.refl _ _)
  have HN:=hid hN;have q1:(ns:Int)<6:=by omega
  have hsec:=z7U w d Fd D HD.out;rw[← hns] at hsec;clear hN hns;go_enter Tryz.func43,Tryz.ntmps43;go_wp2_with (at_builtin;refine z0A ?_;intro q hq);refine hsec.mono ?_;rintro e w2 ⟨rfl,rfl⟩;go_wp2_with (at_builtin;refine z0A ?_;intro q hq);exact HN.out
 cases hd:D.down with
 | true=>
   have hN:=No.out 6 (by rw[HR.out];unfold z1S;rw[if_neg (by omega),if_pos hd]) w (Keep.refl _ _);have HN:=hid hN;have q1:¬ (ns:Int)<6:=by omega
   have hsec:=z7U w d Fd D HD.out;have hup:=zjP w d Fd D HD.out;rw[← hns] at hsec;rw[hd] at hup;clear hN hns;go_enter Tryz.func43,Tryz.ntmps43;go_wp2_with (at_builtin;refine z0A ?_;intro q hq);refine hsec.mono ?_;rintro e w2 ⟨rfl,rfl⟩;go_wp2_with (at_builtin;refine z0A ?_;intro q hq);refine hup.mono ?_;rintro e w2 ⟨rfl,rfl⟩;go_wp2_with (at_builtin;refine z0A ?_;intro q hq);exact HN.out
 | false=>
   have q1:¬ (ns:Int)<6:=by omega
   have hsec:=z7U w d Fd D HD.out;have hup:=zjP w d Fd D HD.out;rw[← hns] at hsec;rw[hd] at hup;obtain⟨h,hh⟩:=zX1 (half D);have hh2:h=(ns - 2) / 2:=by rw[hh,hns];rfl
   obtain⟨n2,hn2⟩:=zX1 (ns - 2);have q2:(ns:Int) - 2=(n2:Int):=by omega
   have q3:(n2:Int).tdiv 2=(h:Int):=by rw[Int.tdiv_eq_ediv_of_nonneg (by omega)];omega
   have q4:(n2:Int) / 2=(h:Int):=by omega
   have q5:=wi64 n2 (by omega);have q6:=wi64 h (by omega);have hH:=hid (zA1 hh (zA1 hh2 hn2));have hns6:6≤D.safe.length:=by omega
   have hh1023:h≤1023:=by omega
   have Hns:=hid hns;clear hh hh2 hn2 hns;go_enter Tryz.func43,Tryz.ntmps43;go_wp2_with (at_builtin;refine z0A ?_;intro q hq);refine hsec.mono ?_;rintro e w2 ⟨rfl,rfl⟩;go_wp2_with (at_builtin;refine z0A ?_;intro q hq);refine hup.mono ?_;rintro e w2 ⟨rfl,rfl⟩;go_wp2_with (at_builtin;refine z0A ?_;intro q hq);refine hsec.mono ?_;rintro e w2 ⟨rfl,rfl⟩;go_wp2_with (at_builtin;refine z0A ?_;intro q hq);have hh1:=heap_alloc_new w (.cells #[.pointer (some ⟨d,0,none⟩),.int .u64 0,.int .i64 (h:Nat),.slice none 0 0,.slice none 0 0,.int .i64 0,.int .i64 0,.bool false] 164);have hk1:=kal w (.cells #[.pointer (some ⟨d,0,none⟩),.int .u64 0,.int .i64 (h:Nat),.slice none 0 0,.slice none 0 0,.int .i64 0,.int .i64 0,.bool false] 164);obtain⟨w1,hw1⟩:=zX1 (w.alloc (.cells #[.pointer (some ⟨d,0,none⟩),.int .u64 0,.int .i64 (h:Nat),.slice none 0 0,.slice none 0 0,.int .i64 0,.int .i64 0,.bool false] 164));obtain⟨b,hb⟩:=zX1 (w.heap.size);rw[← hw1] at hh1 hk1 ⊢;rw[← hb] at hh1 ⊢;have H0:=hid (show w1.heap[b]?=some (.cells (z0N d (epTo D 0) h (.slice none 0 0) (.slice none 0 0) 0 0 false) 164 (0,0))∧Keep (fun _=>False) w w1 from⟨hh1,hk1⟩);have Hb:=hid hb;have HS:=hid (zA1 hsec hup);clear hw1 hh1 hk1 hb hsec hup q1 q2 q3 q4 q5
   go_loopw [5,6,7,30] (fun _ _ _ iv wr=>∃ i:Nat,i≤2∧iv = .int .i64 i∧Hid (wr.heap[b]?=some (.cells (z0N d (epTo D i) h (.slice none 0 0) (.slice none 0 0) 0 0 false) 164 (0,0))∧Keep (fun _=>False) w wr)) (fun _ _ _ iv _=>2 - (intOf iv).toNat)
   case atStart=>exact⟨0,by decide,rfl,H0⟩
   case round=>
    clear H0;obtain⟨i,hi,rfl,HI⟩:=hrel
    by_cases hi2:i<2
    ·have t1:(i:Int)<2:=by omega
     have hhead:=zpD wr d Fd D i (HD.out.keep HI.out.2 fun _ _ x=>x) hd (by omega) hi2;go_wp2_with (at_builtin;refine z0A ?_;intro q hq);refine hhead.mono ?_;clear hhead;rintro e w2 ⟨n,rfl,hn,hk2⟩;have hh2:=hk2.get HI.out.1 id;obtain⟨i0,i1,i2,i3,i4,i5,i6,i7,if1,ib1⟩:=z1F (show w2.heap[b]?=some (.cells #[_,_,_,_,_,_,_,_] _ (0,0)) from hh2);have hk02:Keep (fun _=>False) w w2:=HI.out.2.next hk2 (fun _ _ x=>x) (fun _ _ x=>x);have H2:=hid (zA1 hh2 hk02);clear hh2 hk02 hk2
     cases hm:WM.head D i with
     | none=>
       have he:epTo D (i+1)=epTo D i:=by simp[epTo,hm]
       have HZ:=hid (show w2.heap[b]?=some (.cells (z0N d (epTo D (i+1)) h (.slice none 0 0) (.slice none 0 0) 0 0 false) 164 (0,0))∧Keep (fun _=>False) w w2 by rw[he];exact H2.out);clear hm hn he;rw[show (none:Option Nat).isSome=false from rfl];go_wp2_with (at_builtin;refine z0A ?_;intro q hq);go_roundw
       case rel=>exact⟨i+1,by omega,by go_num,HZ⟩
       case measure=>simp[intOf];omega
     | some m=>
       have hnm:n=m:=hn m hm;have he:epTo D (i+1)=max (epTo D i) n:=by simp[epTo,hm,hnm]
       have He:=hid he;have hmx:=fun w:World=>zoG w (epTo D i) n;obtain⟨ep,hep⟩:=zX1 (epTo D i);rw[← hep] at hmx i1 H2 He;clear hm hn he hnm hep;rw[show (some m:Option Nat).isSome=true from rfl];go_wp2_with (at_builtin;refine z0A ?_;intro q hq);have hk3:Keep (fun k=>k=b) w2 (w2.setCell ⟨b,1,none⟩ (.int .u64 ((max ep n:Nat):Int))):=kst;have hh3:=z0C H2.out.1 1 (.int .u64 ((max ep n:Nat):Int))
       have HZ:=hid (show (w2.setCell ⟨b,1,none⟩ (.int .u64 ((max ep n:Nat):Int))).heap[b]?=some (.cells (z0N d (epTo D (i+1)) h (.slice none 0 0) (.slice none 0 0) 0 0 false) 164 (0,0))∧Keep (fun _=>False) w (w2.setCell ⟨b,1,none⟩ (.int .u64 ((max ep n:Nat):Int))) by
        refine⟨by rw[hh3,He.out];rfl,H2.out.2.next hk3 (fun _ _ x=>x) (fun k hk x=>by have:=Hb.out;omega)⟩)
       clear hk3 hh3;go_roundw
       case rel=>exact⟨i+1,by omega,by go_num,HZ⟩
       case measure=>simp[intOf];omega
    ·obtain rfl:i=2:=by omega
     have t1:¬ ((2:Nat):Int)<2:=by omega
     obtain⟨hh2,hk2⟩:=HI.out;rw[z8L] at hh2;obtain⟨ep,hep⟩:=zX1 (epoch D);rw[← hep] at hh2;obtain⟨i0,i1,i2,i3,i4,i5,i6,i7,if1,ib1⟩:=z1F (show wr.heap[b]?=some (.cells #[_,_,_,_,_,_,_,_] _ (0,0)) from hh2);obtain⟨nn,hnn⟩:=zX1 (32 * h);have t2:(h:Int) * 32=(nn:Int):=by omega
     have t3:=wi64 nn (by omega);have hmk:=fun w:World=>z7H (P:=Tryz.prog) z0U .i64 .i64 nn (by omega) (by unfold maxLen;omega) w;have H2:=hid (zA1 hh2 (zA1 hk2 (zA1 hep hnn)));clear hh2 hk2 hep hnn HI;go_wp2_with (at_builtin;refine z0A ?_;intro q hq);obtain⟨ga,hga⟩:=zX1 (wr.heap.size);have hkA:Keep (fun k=>k=b) wr (wr.setCell ⟨b,3,none⟩ (.slice (some ⟨wr.heap.size,0,none⟩) nn nn)):=kst;have hhA:=z0C H2.out.1 3 (.slice (some ⟨wr.heap.size,0,none⟩) nn nn);have hszA:(wr.setCell ⟨b,3,none⟩ (.slice (some ⟨wr.heap.size,0,none⟩) nn nn)).heap.size=wr.heap.size:=by simp[World.setCell]
     obtain⟨wA,hwA⟩:=zX1 (wr.setCell ⟨b,3,none⟩ (.slice (some ⟨wr.heap.size,0,none⟩) nn nn));rw[← hwA] at hkA hhA hszA ⊢;have hg3:=heap_alloc_new wA (.cells (madeCells #[.int .u8 0] nn) 5);have hk3:=kal wA (.cells (madeCells #[.int .u8 0] nn) 5);obtain⟨w3,hw3⟩:=zX1 (wA.alloc (.cells (madeCells #[.int .u8 0] nn) 5));rw[← hw3] at hg3 hk3 ⊢;rw[hszA,← hga] at hg3;rw[← hga] at hhA
     have hrow3:Row w3 5 1 (.slice (some ⟨ga,0,none⟩) nn nn) nn (z0B (List.replicate nn 0)):=by
      have h1:=Row.made (w:=w3) (e:=5) (size:=1) (g:=ga) (n:=nn) (z:=(Value.int .u8 0).cells) (by rw[Nat.mul_one];exact hg3) (by unfold maxLen;omega);rw[zaP] at h1;exact h1
     have hgab:ga≠b:=fun e=>by have:=z0L H2.out.1;omega
     have hh3:=hk3.get hhA id;have hkw3:Keep (fun _=>False) w w3:=(H2.out.2.1.next hkA (fun _ _ x=>x) (fun k hk x=>by have:=Hb.out;omega)).next hk3 (fun _ _ x=>x) (fun _ _ x=>x);have hga0:w.heap.size≤ga:=by have:=H2.out.2.1.size;omega
     have hga3:=z0L hg3;have R0:=hid (show OpRel w b d ep h ga nn nn (z1Z D ep 0 ++ List.replicate (nn - 32 * 0) 0) w3 from⟨hh3,by simpa [z1Z] using hrow3,hkw3⟩);have HG:=hid (zA1 hga0 hgab);have H2':=hid (zA1 H2.out.2.2.1 H2.out.2.2.2);clear hwA hw3 hkA hhA hszA hg3 hk3 hrow3 hh3 hkw3 hga i0 i1 i2 i3 i4 i5 i6 i7 if1 ib1 hmk H2 hga0 hga3
     go_loopw [8,9,10,63] (fun _ _ _ iv wx=>∃ i:Nat,i≤h∧iv = .int .i64 i∧Hid (OpRel w b d ep h ga nn nn (z1Z D ep i ++ List.replicate (nn - 32 * i) 0) wx)) (fun _ _ _ iv _=>h - (intOf iv).toNat)
     case atStart=>exact⟨0,Nat.zero_le _,rfl,R0⟩
     case round=>
      clear R0;obtain⟨i,hi,rfl,HI⟩:=hrel;obtain⟨i0,i1,i2,i3,i4,i5,i6,i7,if1,ib1⟩:=z1F (show wr.heap[b]?=some (.cells #[_,_,_,_,_,_,_,_] _ (0,0)) from HI.out.head)
      by_cases hih:i<h
      ·have s1:(i:Int)<(h:Int):=by omega
       have hfst:=z7G wr b d ep h _ _ 0 0 false HI.out.head hh1023 ep;have hfi:2+ep % 2 * h=WM.first D ep:=by rw[hH.out.1];rfl
       have hfl:=z3R (D:=D) ep i hns6 (by have:=hH.out.1;omega);rw[hfi] at hfst;obtain⟨q,hq⟩:=zX1 (WM.first D ep);rw[← hq] at hfst hfl;obtain⟨t,ht⟩:=zX1 (q+i);have g1:(q:Int)+(i:Int)=(t:Int):=by omega
       have g2:=wi64 t (by omega);have hrd:=ziP wr d Fd D (t:Int) (HD.out.keep HI.out.keep fun _ _ x=>x) (by omega);obtain⟨r1,r2⟩:=z8Q D t hd (by omega) HD.out.ok;rw[r1,r2] at hrd;have hsuc:=z6N D ep i;rw[← hq,← ht] at hsuc;obtain⟨S,hS⟩:=zX1 ((DM.read D (t:Int)).1);rw[← hS] at hrd hsuc r2;have HS2:=hid (zA1 hsuc (zA1 r2 (z2K ep hns6 hd HD.out.ok i (by have:=hH.out.1;omega))));obtain⟨p,hp⟩:=zX1 (i * 32);have g3:(i:Int) * 32=(p:Int):=by omega
       have g4:=wi64 p (by omega);have Hnn:=H2'.out.2
       have hsl:∀ w,(Instr.sliceAt 29 (.slice (some ⟨ga,0,none⟩) nn nn) (some (.int .i64 (p:Int))) none none).run Tryz.prog w = .ok (.slice (some ⟨ga,p,none⟩) (nn - p) (nn - p)) w:=fun w=>by
        have h:=z1Q (P:=Tryz.prog) z0U (some ⟨ga,0,none⟩) nn nn .i64 p (by omega) w
        have e:z1E (some ⟨ga,0,none⟩) nn p 1=some ⟨ga,p,none⟩:=by
         unfold z1E;rw[if_neg (by omega)];simp[z0J]
        rw[e] at h;exact h
       have HP:=hid (zA1 hp Hnn);clear hfi hfl hq ht r1 r2 hsuc hS hp Hnn;go_wp2_with (at_builtin;refine z0A ?_;intro q hq);refine hfst.mono ?_;rintro e w4 ⟨rfl,rfl⟩;go_wp2_with (at_builtin;refine z0A ?_;intro q hq);refine hrd.mono ?_;rintro e w5 ⟨v5,rfl,hrow5,hk5,hown5⟩;obtain⟨ad5,c5,rfl,-⟩:=hrow5.form;have hh5:=hk5.get HI.out.head id;have hga5:=HI.out.row.keep hk5 fun _ _ x=>x;clear i0 i1 i2 i3 i4 i5 i6 i7 if1 ib1;obtain⟨i0,i1,i2,i3,i4,i5,i6,i7,if1,ib1⟩:=z1F (show w5.heap[b]?=some (.cells #[_,_,_,_,_,_,_,_] _ (0,0)) from hh5);obtain⟨gx,capx,cur,fz,hvx,hg5,hfz,hn5,hc5,hz5,ht5⟩:=hga5.some (by have:=HP.out;omega);simp at hvx;obtain⟨rfl,rfl⟩:=hvx;have hSl:(z0B S).length=32:=by rw[z0D];exact HS2.out.2.1
       have hcp:=z5C (P:=Tryz.prog) (w:=w5) (sT:=29) (ty:=3) z0U ga p (nn - p) (nn - p) cur 5 fz hg5 hfz ad5 32 c5 (z0B S) 32 (Nat.min_eq_left (by have:=HP.out;omega)) (by have h:=Cells.of_row hrow5;exact h) (by have:=HP.out;omega) (z1I _);have hr6:=Row.spliced hga5 hg5 p (z0B S) (by have:=HP.out;omega);have hk6:Keep (fun k=>k=ga) w5 (w5.setRow ga (splice cur.toList p (z0B S)).toArray):=by refine Keep.setRow (Keep.refl _ _) (.inl ?_) _;rfl
       obtain⟨w6,hw6⟩:=zX1 (w5.setRow ga (splice cur.toList p (z0B S)).toArray);rw[← hw6] at hcp hr6 hk6;have hh6:=hk6.get hh5 (fun e=>HG.out.2 e.symm)
       have HZ:=hid (show OpRel w b d ep h ga nn nn (z1Z D ep (i+1) ++ List.replicate (nn - 32 * (i+1)) 0) w6 from
        ⟨hh6,by
         obtain⟨z1,z2,z3⟩:=HS2.out;obtain⟨hp,hnn⟩:=HP.out;rw[z4Y] at hr6
         have e:(z1Z D ep i ++ List.replicate (nn - 32 * i) 0).take p ++ (S ++ (z1Z D ep i ++ List.replicate (nn - 32 * i) 0).drop (p+S.length))=z1Z D ep (i+1) ++ List.replicate (nn - 32 * (i+1)) 0:=by
          rw[z1,List.append_assoc,show p=(z1Z D ep i).length by omega,List.take_left,z2,List.drop_append,List.drop_of_length_le (by omega),List.nil_append,List.drop_replicate];congr 3;omega
         rw[e] at hr6
         exact hr6,(HI.out.keep.nx hk5).next hk6 (fun _ _ x=>x) (fun k hk x=>by have:=HG.out.1;omega)⟩)
       clear hh5 hga5 hg5 hfz hn5 hc5 hz5 ht5 hr6 hk6 hw6 hh6 hrow5 hk5 hown5 hSl;go_wp2_with (at_builtin;refine z0A ?_;intro q hq);go_roundw
       case rel=>exact⟨i+1,by omega,by go_num,HZ⟩
       case measure=>simp[intOf];omega
      ·obtain rfl:h=i:=by omega
       have s1:¬ (h:Int)<(h:Int):=by omega
       obtain⟨z1,z2⟩:=H2'.out;have hBe:z1Z D ep h ++ List.replicate (nn - 32 * h) 0=z1Z D ep h:=by rw[show nn - 32 * h=0 by omega];simp
       have hhead:=HI.out.head;have hrow:=HI.out.row;have hkeep:=HI.out.keep;rw[hBe] at hrow;obtain⟨B,hB⟩:=zX1 (z1Z D ep h);rw[← hB] at hrow;have hBl:B.length=nn:=by rw[hB,z2K ep hns6 hd HD.out.ok h (by have:=hH.out.1;omega),z2]
       have hgab:=HG.out.2;have hscan:=zpU wr b d ep h ga nn nn B hhead hrow (by omega) (fun e=>hgab e.symm);obtain⟨L,hL⟩:=zX1 ((scan B (B.length+1) 0).1);obtain⟨en,hen⟩:=zX1 ((scan B (B.length+1) 0).2);obtain⟨sp1,sp2,sp3,sp4⟩:=z6Z B (B.length+1) 0 (Nat.zero_le _);rw[← hL,← hen] at hscan sp1;rw[← hL] at sp4;rw[← hen] at sp2;have hcl:clean B en=z1X (half D) L:=by rw[hen,hL];exact zcL (by rw[hBl,z2,hH.out.1])
       have hRR:R=if (z6K ep B en D).1≠0 then ((z6K ep B en D).1,none,(z6K ep B en D).2) else (0,some ⟨ep,L,L.length,false⟩,(z6K ep B en D).2):=by
        rw[HR.out];unfold z1S;rw[if_neg (by have:=Hns.out;omega),if_neg (by rw[hd];simp)];have e1:WM.bytes D (epoch D)=B:=by rw[hB,← z1,hH.out.1];rfl
        simp only;rw[e1,← z1,← hen,← hL];unfold z6K;simp only;generalize WM.wipe ep B en 0 (half D) false D=Z
        by_cases c1:Z.1=0
        ·rw[if_neg (by simp[c1])]
         by_cases c2:Z.2.1=true
         ·have e:(if Z.1=0∧Z.2.1=true then DM.sync Z.2.2 else (Z.1,Z.2.2))=DM.sync Z.2.2:=if_pos ⟨c1,c2⟩
          rw[if_pos c2,e]
         ·have e:(if Z.1=0∧Z.2.1=true then DM.sync Z.2.2 else (Z.1,Z.2.2))=(Z.1,Z.2.2):=if_neg (fun h=>c2 h.2)
          rw[if_neg c2,e,if_neg (by simp[c1])]
        ·have e:(if Z.1=0∧Z.2.1=true then DM.sync Z.2.2 else (Z.1,Z.2.2))=(Z.1,Z.2.2):=if_neg (fun h=>c1 h.1)
         rw[if_pos c1,e,if_pos c1]
       have HRR:=hid hRR;have HX:=hid (zA1 hhead (zA1 hrow (zA1 hkeep (zA1 hBl (zA1 sp1 (zA1 sp2 (zA1 sp4 (zA1 hcl (zA1 z1 z2)))))))));clear hRR hhead hrow hkeep hBl sp1 sp2 sp3 sp4 hcl z1 z2 hBe hB hL hen i0 i1 i2 i3 i4 i5 i6 i7 if1 ib1;go_wp2_with (at_builtin;refine z0A ?_;intro q hq);refine hscan.mono ?_;rintro e w4 ⟨rfl,hk4,vl,vs,hh4,hrec4⟩;have hk04:Keep (fun _=>False) w w4:=HX.out.2.2.1.next hk4 (fun _ _ x=>x) (fun k hk x=>by have:=Hb.out;omega);have hrow4:=HX.out.2.1.keep hk4 (fun k e x=>by simp[Value.ownBlock] at e;omega);have hDl:=HD.out.lt;have hbn:¬ Fd b:=fun x=>by have:=hDl b x;have:=Hb.out;omega
       have hgn:¬ Fd ga:=fun x=>by have:=hDl ga x;have:=HG.out.1;omega
       have hhh:=hH.out.1;have hwipe:=zqB w4 b d ga nn ep en nn Fd D B vl L.length (by rw[← hhh];exact hh4) hrow4 (by rw[← hhh];exact HX.out.2.2.2.2.2.2.2.2.2) (by have h1:=HX.out.2.2.2.1;have h2:=HX.out.2.2.2.2.2.1;omega) (HD.out.keep hk04 fun _ _ x=>x) hbn hgn hgab hfew;obtain⟨Y,hY⟩:=zX1 (z6K ep B en D);have hYl:Y.2.safe.length=D.safe.length:=by rw[hY];exact zeR _ _ _ _
       rw[← hY] at hwipe HRR;have H4:=hid (zA1 hk04 (zA1 hh4 (zA1 hrec4 (zA1 hYl (zA1 hhh (zA1 hbn (zA1 hgn (zA1 (z0L hh4) hk4.size))))))));have HWp:=hid hwipe;clear hwipe hk4 hh4 hrec4 hk04 hrow4 hDl hYl hhh hY hscan;go_wp2_with (at_builtin;refine z0A ?_;intro q hq);refine HWp.out.mono ?_;rintro e w5 ⟨rfl,hk5,⟨Fd',hD5,hF5⟩,hrow5⟩;have hk05:Keep Fd w w5:=H4.out.1.next hk5 (fun _ _ x=>x.elim) (fun k hk x=>x.elim id fun h=>by have:=HG.out.1;omega);have hF05:∀ k,Fd' k→Fd k∨w.heap.size≤k:=fun k x=>(hF5 k x).imp id fun h=>Nat.le_trans H4.out.1.size h;have hHP:=HPost.out
       by_cases y0:Y.1=0
       rotate_left
       ·have hR2:R=(Y.1,none,Y.2):=by rw[HRR.out,if_pos y0]
        have HF:=hid (show Post (.returned (.tuple #[.pointer none,.int .i64 Y.1])) w5 by rw[hHP,hR2];exact⟨rfl,Fd',hD5,hk05,hF05⟩);have u1:(Y.1 == 0)=false:=by simp[y0]
        have u2:(Y.1 != 0)=true:=by simp[y0]
        have u3:decide (Y.1=0)=false:=by simp[y0]
        clear hHP hR2 hk5 hD5 hF5 hrow5 hk05 hF05 y0;go_wp2_with (at_builtin;refine z0A ?_;intro q hq);exact HF.out
       ·have hR2:R=(0,some ⟨ep,L,L.length,false⟩,Y.2):=by rw[HRR.out,if_neg (by simp[y0])]
        have HF:=hid (show Post (.returned (.tuple #[.pointer (some ⟨b,0,none⟩),.int .i64 0])) w5 by
         rw[hHP,hR2];obtain⟨x1,x2,x3,x4,x5,x6,x7,x8,x9,x10⟩:=HX.out;obtain⟨t1,t2,t3,t4,t5,t6,t7,t8,t9⟩:=H4.out;have hb0:=Hb.out;have hg0:=HG.out.1;have s05:=hk05.size;have s45:=hk5.size;have s04:=t1.size;have s0r:=x3.size;have hrow:=hrow5 y0;rw[x8] at hrow;have hgl:=hrow.lt (k:=ga) (by simp[Value.ownBlock]);have hrec:=(t3.bound.mono (F':=fun k=>w.heap.size≤k∧k<w4.heap.size) (A':=fun k=>k=b∨k=ga) (fun k h1 h2=>⟨⟨Nat.le_trans s0r h1.1,h1.2⟩,h2⟩));refine⟨b,fun k=>w.heap.size≤k∧k<w4.heap.size,Fd',rfl,⟨ga,nn,vl,vs,?_,hD5,fun k h1 h2=>?_⟩,hk05,fun k h1=>h1.1,hF05⟩
         ·rw[z3J t4,← t5]
          rw[← t5] at hrow;refine⟨?_,by rw[← x10];exact hrow,hrec.keep hk5 fun k h1 h2 h3=>?_,⟨by omega,t8⟩,⟨hg0,?_⟩,fun e=>hgab e.symm,fun k h1=>Nat.lt_of_lt_of_le h1.2 s45,?_⟩
          ·have h9:=hk5.get t2 (fun h=>h.elim t6 fun h=>hgab h.symm)
           rw[h9,← x10];have h10:en=(flat L).length:=by omega
           rw[h10]
          ·rcases h3 with h3 | h3
           ·have:=HD.out.lt k h3;omega
           ·exact h2 (.inr h3)
          ·have h11:=x2.lt (k:=ga) (by simp[Value.ownBlock])
           omega
          ·have he:=zeJ D 2
           rw[z8L,← x9] at he;have h12:=hH.out.2.1;have h13:=Hns.out;exact⟨by show (flat L).length≤_;omega,by omega,hh1023,he,x7,Nat.le_refl _⟩
         ·rcases hF5 k h2 with h3 | h3
          ·have:=HD.out.lt k h3;omega
          ·omega)
        rw[y0];clear hHP hR2 hk5 hD5 hF5 hrow5 hk05 hF05 y0;go_wp2_with (at_builtin;refine z0A ?_;intro q hq);exact HF.out
end
section
open Go.RowKit
open DM BM WM
theorem zbF (w:World) (d:Nat) (Fd:Nat→Prop) (D:Dk) (hD:RefAt w d Fd D) :
  Calls Tryz.prog 132 #[.pointer (some ⟨d,0,none⟩)] w fun e w'=>e = .returned (.int .i64 (half D:Nat))∧w'=w:=by
 obtain⟨vs,vw,hI⟩:=hD;have hh:=hI.head;unfold z2M at hh;obtain⟨h0,h1,h2,h3,hf,hb⟩:=z4D hh;have hpos:=hI.ok.pos;have hfew:=hI.ok.few;obtain⟨ad,cap,rfl,-⟩:=hI.safe.form;obtain⟨ns,hns⟩:=zX1 (D.safe.length);rw[← hns] at h0 hpos hfew;obtain⟨x,hx⟩:∃ x:Int,x=(ns:Int) - 2:=⟨_,rfl⟩;have q0:(ns:Int) - 2=x:=hx.symm;have q1:=show IntKind.i64.wrap x=x by simp[IntKind.wrap,IntKind.signed,IntKind.bits];omega
 have q2:x.tdiv 2=(half D:Int):=by
  have e:half D=(ns - 2) / 2:=by rw[hns];rfl
  rw[e];have:ns=1∨2≤ns:=by omega
  rcases this with h | h
  ·subst h;subst hx;rfl
  ·rw[Int.tdiv_eq_ediv_of_nonneg (by omega)];omega
 have q3:=wi64 (half D) (by unfold half;omega);clear hh hI hns hx h1 h2 h3;generalize half D=hf2 at *;go_enter Tryz.func132,Tryz.ntmps132;go_wp2_with (at_builtin;refine z0A ?_;intro q hq);go_ret;exact⟨rfl,rfl⟩
theorem zdC (w:World) (d:Nat) (Fd:Nat→Prop) (D:Dk) (hD:RefAt w d Fd D) (ep:Nat) :
  Calls Tryz.prog 133 #[.pointer (some ⟨d,0,none⟩),.int .u64 (ep:Nat)] w fun e w'=>e = .returned (.int .i64 (WM.first D ep:Nat))∧w'=w:=by
 have hfew:=hD.ok.few;have hh:half D≤1023:=by unfold half;omega
 have hcall:=zbF w d Fd D hD;have hfi:WM.first D ep=2+ep % 2 * half D:=rfl;rw[hfi];obtain⟨h,hhd⟩:=zX1 (half D);rw[← hhd] at hcall hh ⊢;clear hhd hfi;have e2:ep % 2<2:=Nat.mod_lt _ (by decide);obtain⟨r,hr⟩:=zX1 (ep % 2);have q1:((ep:Int) % 2)=(r:Int):=by omega
 have q2:((ep:Int).tmod 2)=(r:Int):=by rw[Int.tmod_eq_emod_of_nonneg (by omega)];exact q1
 have q3:=wi64 r (by omega);obtain⟨p,hp⟩:=zX1 (r * h)
 have hp2:p≤1023:=by
  rw[hp];have:r=0∨r=1:=by omega
  rcases this with rfl | rfl <;> omega
 have q4:(r:Int) * (h:Int)=(p:Int):=by rw[hp];push_cast;rfl
 have q5:=wi64 p (by omega);have HP:=hid (show 2+ep % 2 * h=2+p by rw[hp,hr]);clear hr hp e2;go_enter Tryz.func133,Tryz.ntmps133;go_wp2_with (at_builtin;refine z0A ?_;intro q hq);refine hcall.mono ?_;rintro e w2 ⟨rfl,rfl⟩;go_wp2_with (at_builtin;refine z0A ?_;intro q hq);go_ret;refine⟨?_,rfl⟩;rw[HP.out]
 push_cast
 rfl
theorem zoC (w:World) (d:Nat) (Fd:Nat→Prop) (D:Dk) (i:Nat) (hD:RefAt w d Fd D) (hd:D.down=false) (hi:i<D.safe.length) (hi2:i<2) (hfewW:D.waits.length≤1000000) :
  Calls Tryz.prog 94 #[.pointer (some ⟨d,0,none⟩),.int .i64 (i:Nat)] w (HeadPost D i w):=by
 have hfew:=hD.ok.few;have hr:=zjB w d Fd D (i:Int) hD (by omega) hfewW;obtain⟨r1,r2⟩:=z8Q D i hd hi hD.ok;rw[r1,r2] at hr;obtain⟨B,hB⟩:=zX1 ((DM.read D (i:Int)).1);rw[← hB] at hr r2;have HHd:=hid (show WM.head D i=match BM.get B 0 with | .no _=>none | .yes k body _=>if k≠1 then none else match BM.uint body 0 with | .no _=>none | .yes n t=>if t=body.length∧n<4611686018427387904∧n % 2=i then some n else none by rw[hB];rfl)
 have no:WM.head D i=none→∀ w',Keep (fun _=>False) w w'→∀ n:Nat,HeadPost D i w (.returned (.tuple #[.int .u64 (n:Nat),.bool false])) w':=fun h w' hk n=>
  ⟨n,by rw[h];rfl,fun m hm=>(by rw[h] at hm;cases hm),hk⟩
 have No:=hid no
 have yes:∀ n,WM.head D i=some n→∀ w',Keep (fun _=>False) w w'→HeadPost D i w (.returned (.tuple #[.int .u64 (n:Nat),.bool true])) w':=fun n h w' hk=>
  ⟨n,by rw[h];rfl,fun m hm=>(by rw[h] at hm;cases hm;rfl),hk⟩
 have Yes:=hid yes;have R2:=hid r2;obtain⟨Post,hPost⟩:=zX1 (HeadPost D i w);rw[← hPost] at No Yes ⊢;clear no yes hB r1 r2 hD hPost;go_enter Tryz.func94,Tryz.ntmps94;go_wp2_with (at_builtin;refine z0A ?_;intro q hq);refine hr.mono ?_;rintro e w1 ⟨v1,rfl,hrow1,hk1,hown1⟩;obtain⟨ad1,c1,rfl,hc1,-⟩:=hrow1.form;have hget:=zjF w1 ad1 32 c1 0 B (by have h:=Cells.of_row hrow1;exact h) (Nat.zero_le _) hc1 (by decide);have HK1:=hid hk1;clear hr hrow1 hk1 hown1 hc1;go_wp2_with (at_builtin;refine z0A ?_;intro q hq);obtain⟨gt,hgt⟩:=zX1 (BM.get B 0);rw[← hgt] at hget HHd;refine hget.mono ?_;clear hget;intro e w2 hp
 cases gt with
 | no m=>
   obtain⟨rfl,hk2⟩:=hp;have hm:=zhV hgt.symm;have hz:WM.head D i=none:=HHd.out;have hk12:Keep (fun _=>False) w w2:=HK1.out.next hk2 (fun _ _ x=>x) (fun _ _ x=>x);have u1:((m:Int) != 0)=true:=by simp;omega
   have u2:((m:Int) == 0)=false:=by simp;omega
   have hN:=fun w' (h:Keep (fun _=>False) w2 w')=>No.out hz w' (hk12.next h (fun _ _ x=>x) (fun _ _ x=>x)) 0;have HN:=hid hN;clear hgt hm hz hk12 hk2 hN;go_wp2_with (at_builtin;refine z0A ?_;intro q hq);refine HN.out _ ?_
   first | exact(Keep.refl _ _).alloc _ | exact(((Keep.refl _ _).alloc _).setCell (.inr (Nat.le_refl _)) _).setCell (.inr (Nat.le_refl _)) _
 | yes k body q=>
   obtain⟨v,rfl,hf2⟩:=hp;obtain⟨ad2,c2,rfl,hc2,-⟩:=hf2.row.form;obtain⟨-,-,hb1,-⟩:=z5N hgt.symm;have hk12:Keep (fun _=>False) w w2:=HK1.out.next hf2.keep (fun _ _ x=>x) (fun _ _ x=>x)
   by_cases hk:k=1
   rotate_left
   ·have hz:WM.head D i=none:=by rw[HHd.out];simp[hk]
    have u1:((k.toNat:Int) != 1)=true:=by
     have:k.toNat≠1:=fun e=>hk (UInt8.toNat_inj.1 e);simp;omega
    have hN:=fun w' (h:Keep (fun _=>False) w2 w')=>No.out hz w' (hk12.next h (fun _ _ x=>x) (fun _ _ x=>x)) 0;have HN:=hid hN;clear hgt hz hk12 hN hk hf2;generalize k.toNat=kk at *;go_wp2_with (at_builtin;refine z0A ?_;intro q hq);refine HN.out _ ?_
    first | exact(Keep.refl _ _).alloc _ | exact(((Keep.refl _ _).alloc _).setCell (.inr (Nat.le_refl _)) _).setCell (.inr (Nat.le_refl _)) _
   ·subst hk
    have HHe:=hid (show WM.head D i=match BM.uint body 0 with | .no _=>none | .yes n t=>if t=body.length∧n<4611686018427387904∧n % 2=i then some n else none by rw[HHd.out];simp);have HF2:=hid hf2;have HK12:=hid hk12;clear hgt hk12 hf2 HHd;rw[show ((1:UInt8).toNat:Int)=1 from rfl];go_wp2_with (at_builtin;refine z0A ?_;intro q hq);obtain⟨w3,hw3⟩:=zX1 (w2.alloc (.cells #[.int .u8 1,.slice ad2 body.length c2] 177));have hh3:w3.heap[w2.heap.size]?=some (.cells #[.int .u8 1,.slice ad2 body.length c2] 177):=by rw[hw3];exact heap_alloc_new w2 _
    have hk3:Keep (fun _=>False) w2 w3:=by rw[hw3];exact(Keep.refl _ _).alloc _
    rw[← hw3];clear hw3;refine(z6X w3 ad2 body.length c2 0 body ((Cells.of_row HF2.out.row).keep hk3 fun _ _ x=>x) (Nat.zero_le _) (by omega)).mono ?_;rintro e w4 ⟨rfl,hk4⟩;have hh4:=hk4.get hh3 id;obtain⟨a0,a1,af,-⟩:=z4W (show w4.heap[w2.heap.size]?=some (.cells #[_,_] _ (0,0)) from hh4);have HK4:=hid ((HK12.out.nx hk3).nx hk4);clear hh3 hk3 hk4 hh4;generalize hu:BM.uint body 0=un at *
    cases un with
    | no m=>
      have hm:=zmN hu;have hz:WM.head D i=none:=HHe.out;have u1:((m:Int) != 0)=true:=by simp;omega
      have u2:((m:Int) == 0)=false:=by simp;omega
      have u3:decide (m=0)=false:=by simp;omega
      have HN:=hid (No.out hz w4 HK4.out 0);clear hm hz hu;unfold numV;go_wp2_with (at_builtin;refine z0A ?_;intro q hq);exact HN.out
    | yes n t=>
      have hz:=HHe.out;simp only at hz;obtain⟨bl,hbl⟩:=zX1 (body.length);obtain⟨r,hr⟩:=zX1 (n % 2);rw[← hbl] at hz a1 ⊢;have q1:((n:Int) % 2)=(r:Int):=by omega
      have q2:((n:Int).tmod 2)=(r:Int):=by rw[Int.tmod_eq_emod_of_nonneg (by omega)];exact q1
      have q3:=wi64 r (by omega);rw[← hr] at hz;unfold numV
      by_cases c1:t=bl
      rotate_left
      ·have HN:=hid (No.out (by rw[hz,if_neg (fun h=>c1 h.1)]) w4 HK4.out n)
       have u1:((t:Int) == (bl:Int))=false:=by simp;omega
       have u2:decide (t=bl)=false:=decide_eq_false c1;clear hz hbl hr hu c1;go_wp2_with (at_builtin;refine z0A ?_;intro q hq);exact HN.out
      ·have u1:((t:Int) == (bl:Int))=true:=by simp;omega
       by_cases c2:n<4611686018427387904
       rotate_left
       ·have HN:=hid (No.out (by rw[hz,if_neg (fun h=>c2 h.2.1)]) w4 HK4.out n)
        have u3:decide ((n:Int)<4611686018427387904)=false:=decide_eq_false (by omega);have u4:decide (n<4611686018427387904)=false:=decide_eq_false c2;clear hz hbl hr hu c2 c1;go_wp2_with (at_builtin;refine z0A ?_;intro q hq);exact HN.out
       ·have u3:(n:Int)<4611686018427387904:=by omega
        by_cases c3:r=i
        rotate_left
        ·have HN:=hid (No.out (by rw[hz,if_neg (fun h=>c3 h.2.2)]) w4 HK4.out n)
         have u5:((r:Int) == (i:Int))=false:=by simp;omega
         have u6:decide (r=i)=false:=decide_eq_false c3;clear hz hbl hr hu c2 c1 c3;go_wp2_with (at_builtin;refine z0A ?_;intro q hq);exact HN.out
        ·have HN:=hid (Yes.out n (by rw[hz,if_pos ⟨c1,c2,c3⟩]) w4 HK4.out)
         have u5:((r:Int) == (i:Int))=true:=by simp;omega
         clear hz hbl hr hu c2 c1 c3;go_wp2_with (at_builtin;refine z0A ?_;intro q hq);exact HN.out
end
section
open Go.RowKit
open DM BM WM
def Gives (w:World) (l:List UInt8) (e:Ending) (w':World):Prop:=∃ v,e = .returned v∧Fresh w v l w'
theorem zkL (w:World) (d:Nat) (Fd:Nat→Prop) (D:Dk) (hD:RefAt w d Fd D) (hd:D.down=false) (h6:6≤D.safe.length) (ep:Nat) (hfewW:D.waits.length≤1000000) :
  Calls Tryz.prog 95 #[.pointer (some ⟨d,0,none⟩),.int .u64 (ep:Nat)] w (Gives w (z1Z D ep (half D))):=by
 have hfew:=hD.ok.few;have HD:=hid hD;obtain⟨h,hh⟩:=zX1 (half D);have hh1023:h≤1023:=by rw[hh];unfold half;omega
 have Hh:=hid hh;rw[← hh];have H0:=hid (Fresh.nil w);clear hD hh;go_enter Tryz.func95,Tryz.ntmps95;go_wp2_with (at_builtin;refine z0A ?_;intro q hq)
 go_loopw [5,6,7,8] (fun ov iv _ _ wr=>∃ (i:Nat) (ad:Option Addr) (c:Nat),i≤h∧iv = .int .i64 i∧ov = .slice ad (32 * i) c∧Hid (Fresh w (.slice ad (32 * i) c) (z1Z D ep i) wr)) (fun _ iv _ _ _=>h - (intOf iv).toNat)
 case atStart=>exact⟨0,none,0,Nat.zero_le _,rfl,rfl,H0⟩
 case round=>
  clear H0;obtain⟨i,ad,c,hi,rfl,rfl,HI⟩:=hrel;have hcall:=zbF wr d Fd D (HD.out.keep HI.out.keep fun _ _ x=>x);rw[← Hh.out] at hcall;obtain⟨m,hm⟩:=zX1 (32 * i);rw[← hm] at HI ⊢;have Hm:=hid hm;clear hm
  by_cases hih:i<h
  ·have s1:(i:Int)<(h:Int):=by omega
   have hfst:=zdC wr d Fd D (HD.out.keep HI.out.keep fun _ _ x=>x) ep;have hfl:=z3R (D:=D) ep i h6 (by have:=Hh.out;omega);obtain⟨q,hq⟩:=zX1 (WM.first D ep);rw[← hq] at hfst hfl;obtain⟨t,ht⟩:=zX1 (q+i);have g1:(q:Int)+(i:Int)=(t:Int):=by omega
   have g2:=wi64 t (by omega);have hrd:=zjB wr d Fd D (t:Int) (HD.out.keep HI.out.keep fun _ _ x=>x) (by omega) hfewW;obtain⟨r1,r2⟩:=z8Q D t hd (by omega) HD.out.ok;rw[r1,r2] at hrd;have hsuc:=z6N D ep i;rw[← hq,← ht] at hsuc;obtain⟨S,hS⟩:=zX1 ((DM.read D (t:Int)).1);rw[← hS] at hrd hsuc r2;have HS2:=hid (zA1 hsuc (zA1 r2 (z2K ep h6 hd HD.out.ok i (by have:=Hh.out;omega))));clear hfl hq ht r1 r2 hsuc hS;go_wp2_with (at_builtin;refine z0A ?_;intro q hq);refine hcall.mono ?_;rintro e w2 ⟨rfl,rfl⟩;go_wp2_with (at_builtin;refine z0A ?_;intro q hq);refine hfst.mono ?_;rintro e w4 ⟨rfl,rfl⟩;go_wp2_with (at_builtin;refine z0A ?_;intro q hq);refine hrd.mono ?_;rintro e w5 ⟨v5,rfl,hrow5,hk5,hown5⟩;obtain⟨ad5,c5,rfl,-⟩:=hrow5.form;have H5:=hid (zA1 hrow5 hk5);clear hrow5 hk5 hown5;go_wp2_with (at_builtin;refine z0A ?_;intro q hq)
   (refine hq.out ?_;clear hq q)
   refine wpList_plain rfl (fun K hK=>?_);refine z0K (r:=S) _ _ rfl rfl (HI.out.later H5.out.2) ad5 32 c5 rfl (by have h:=Cells.of_row H5.out.1;exact h) (by have:=HS2.out.2.2;omega) ?_;intro v6 w6 hf6 _;have hl:z1Z D ep i ++ S=z1Z D ep (i+1):=HS2.out.1.symm;rw[hl] at hf6;have hln:(z1Z D ep (i+1)).length=32 * (i+1):=z2K ep h6 hd HD.out.ok (i+1) (by have:=Hh.out;omega);obtain⟨ad6,c6,hv6,-⟩:=hf6.row.form;rw[hln] at hv6;subst hv6;refine hK _ _ ?_;clear hK K;have HZ:=hid hf6;clear hf6 hl hln;go_wp2_with (at_builtin;refine z0A ?_;intro q hq);go_roundw
   case rel=>exact⟨i+1,ad6,c6,by omega,by go_num,rfl,HZ⟩
   case measure=>simp[intOf];omega
  ·obtain rfl:h=i:=by omega
   have s1:¬ (h:Int)<(h:Int):=by omega
   go_wp2_with (at_builtin;refine z0A ?_;intro q hq);refine hcall.mono ?_;rintro e w2 ⟨rfl,rfl⟩;go_wp2_with (at_builtin;refine z0A ?_;intro q hq);go_ret;exact⟨_,rfl,HI.out⟩
def FramesPost (w:World) (L:List (List UInt8)) (e:Ending) (w':World):Prop:=
 if L.any (fun x=>decide (1024<x.length)) then e = .returned (.tuple #[.slice none 0 0,.int .i64 3])∧w'=w
 else if 65536<(flat L).length then e = .returned (.tuple #[.slice none 0 0,.int .i64 5])∧Keep (fun _=>False) w w'
 else ∃ v,e = .returned (.tuple #[v,.int .i64 0])∧Fresh w v (flat L) w'
end
section
open Go.RowKit
open DM BM WM
def z4A (d ep:Nat) (vl:Value) (safe:Nat) (dead:Bool):Array Value:=#[.pointer (some ⟨d,0,none⟩),.int .u64 (ep:Nat),vl,.int .i64 (safe:Nat),.bool dead]
theorem z7A {w:World} {b:Nat} {T:TypeId} {a0 a1 a2 a3 a4:Value} (H:w.heap[b]?=some (.cells #[a0,a1,a2,a3,a4] T (0,0))) :
  w.cell? ⟨b,0,none⟩=some a0∧w.cell? ⟨b,1,none⟩=some a1∧w.cell? ⟨b,2,none⟩=some a2∧w.cell? ⟨b,3,none⟩=some a3∧w.cell? ⟨b,4,none⟩=some a4∧(∀ o,w.frozen? ⟨b,o,none⟩=false)∧b<w.heap.size:=by
 refine⟨?_,?_,?_,?_,?_,?_,z0L H⟩ <;> simp[World.cell?,World.frozen?,H]
structure RWalIs (w:World) (b d:Nat) (F:Nat→Prop) (h:Nat) (G:Lg) (vl:Value) (vs:List Value):Prop where
 head:w.heap[b]?=some (.cells (z4A d G.ep vl G.safe G.dead) 119 (0,0))
 recs:Recs w F (fun k=>k=b) vl G.l vs
 self:F b
 lt:∀ k,F k→k<w.heap.size
 ok:LgOk h G
theorem RWalIs.keep {w w':World} {b d:Nat} {F K:Nat→Prop} {h:Nat} {G:Lg} {vl:Value} {vs:List Value} (H:RWalIs w b d F h G vl vs) (hk:Keep K w w') (hn:∀ k,F k→¬ K k):RWalIs w' b d F h G vl vs:=
 ⟨hk.get H.head (hn _ H.self),H.recs.keep hk fun k e _=>hn k e,H.self,fun k x=>Nat.lt_of_lt_of_le (H.lt k x) hk.size,H.ok⟩
structure RLogIs (w:World) (b d:Nat) (F Fd:Nat→Prop) (D:Dk) (G:Lg) (vl:Value) (vs:List Value):Prop where
 wal:RWalIs w b d F (half D) G vl vs
 disk:RefAt w d Fd D
 apart:∀ k,F k→¬ Fd k
def RLogAt (w:World) (b d:Nat) (F Fd:Nat→Prop) (D:Dk) (G:Lg):Prop:=∃ vl vs,RLogIs w b d F Fd D G vl vs
theorem RLogAt.keep {w w':World} {b d:Nat} {F Fd K:Nat→Prop} {D:Dk} {G:Lg} (H:RLogAt w b d F Fd D G) (hk:Keep K w w') (h1:∀ k,F k→¬ K k) (h2:∀ k,Fd k→¬ K k):RLogAt w' b d F Fd D G:=
 let ⟨vl,vs,h⟩:=H;⟨vl,vs,h.wal.keep hk h1,h.disk.keep hk h2,h.apart⟩
theorem RLogAt.ok {w:World} {b d:Nat} {F Fd:Nat→Prop} {D:Dk} {G:Lg} (H:RLogAt w b d F Fd D G):LgOk (half D) G:=let ⟨_,_,h⟩:=H;h.wal.ok
def RLogTo (b d:Nat) (F Fd:Nat→Prop) (w:World) (D':Dk) (G':Lg) (w':World):Prop:=
 ∃ F' Fd',RLogAt w' b d F' Fd' D' G'∧Keep (fun k=>F k∨Fd k) w w'∧(∀ k,F' k→F k∨w.heap.size≤k)∧∀ k,Fd' k→Fd k∨w.heap.size≤k
end
section
open Go.RowKit
open DM BM WM
def LayTo (w:World) (b d ep:Nat) (vl:Value) (sf:Nat) (dead:Bool) (Fd:Nat→Prop) (R:Int×Dk) (e:Ending) (w':World):Prop:=
 e = .returned (.int .i64 R.1)∧(∃ Fd',RefAt w' d Fd' R.2∧∀ k,Fd' k→Fd k∨w.heap.size≤k)∧Keep (fun k=>Fd k∨k=b) w w'∧w'.heap[b]?=some (.cells (z4A d ep vl sf (dead || decide (R.1≠0))) 119 (0,0))
end
section
open Go.RowKit
open DM BM WM
end
section
open Go.RowKit
open DM BM WM
theorem RefTo.next {d:Nat} {Fd F1:Nat→Prop} {w w1 w2:World} {D2:Dk} (hk:Keep Fd w w1) (hF:∀ k,F1 k→Fd k∨w.heap.size≤k) (h:RefTo d F1 w1 D2 w2):RefTo d Fd w D2 w2:=by
 obtain⟨F2,h1,h2,h3⟩:=h;exact⟨F2,h1,hk.next h2 (fun _ _ x=>x) (fun k hk' x=>(hF k x).elim id fun y=>by omega),fun k x=>(h3 k x).elim (hF k) fun y=>.inr (Nat.le_trans hk.size y)⟩
end
section
open DM BM WM
theorem zoF {D:Dk} (h:D.safe.length≤2048):half D≤1023:=by unfold half;omega
theorem zaB {D:Dk} (h:D.safe.length≤2048) (G:Lg) (b:List UInt8):(WM.append D G b).2.1.waits.length≤D.waits.length+2048:=by
 have hh:=zoF h;unfold WM.append;split
 ·exact Nat.le_add_right _ _
 ·split
  ·exact Nat.le_add_right _ _
  ·split
   ·exact Nat.le_add_right _ _
   ·rename_i h3
    have h1:=z4N G.l b;have h2:=z8H G.ep (area D (G.l ++ [b])) (((flat (G.l ++ [b])).length - 1) / 32 - (flat G.l).length / 32+1) ((flat G.l).length / 32) D;unfold room at h3;simp only;omega
theorem zbH (D:Dk) (G:Lg):(WM.z5I D G).2.1.waits.length≤D.waits.length:=by
 unfold WM.z5I;split
 ·exact Nat.le_refl _
 ·have:=z7C D
  simp only;split <;> exact this
theorem zlB {D:Dk} (h:D.safe.length≤2048) (ep:Nat) (b:List UInt8):(z2T ep b D).2.waits.length≤D.waits.length+1024:=by
 have hh:=zoF h;unfold z2T;have h1:=z8H ep b (half D) 0 D;generalize lay ep b 0 (half D) D=r at *;simp only;split
 ·omega
 ·have h2:=z7C r.2
  generalize DM.sync r.2=y at *;split
  ·omega
  ·have h3:=z2Y y.2 ((ep % 2:Nat):Int) (z1B ep)
   generalize DM.write y.2 ((ep % 2:Nat):Int) (z1B ep)=z at *;split
   ·omega
   ·have h4:=z7C z.2
    omega
theorem zhN {D:Dk} (h:D.safe.length≤2048) (G:Lg) (L:List (List UInt8)):(WM.reset D G L).2.1.waits.length≤D.waits.length+1024:=by
 have h1:=zlB h (G.ep+1) (area D L);unfold WM.reset;split
 ·exact Nat.le_add_right _ _
 ·split
  ·exact Nat.le_add_right _ _
  ·split
   ·exact Nat.le_add_right _ _
   ·simp only
    split <;> exact h1
end
section
open Go.RowKit
open DM BM WM
structure RSt (w:World) (b d ep sf:Nat) (vl:Value) (dead:Bool) (Fd:Nat→Prop) (DX:Dk) (wX:World):Prop where
 keep:Keep (fun k=>Fd k∨k=b) w wX
 disk:∃ Fd',RefAt wX d Fd' DX∧∀ k,Fd' k→Fd k∨w.heap.size≤k
 head:wX.heap[b]?=some (.cells (z4A d ep vl sf dead) 119 (0,0))
structure RcRel (w:World) (b d ep sf:Nat) (L:List (List UInt8)) (i:Nat) (wr:World):Prop where
 new:∃ vl vs,wr.heap[b]?=some (.cells (z4A d ep vl sf false) 119 (0,0))∧Recs wr (fun k=>w.heap.size≤k) (fun k=>k=b) vl (L.take i) vs
 keep:Keep (fun k=>k=b) w wr
end
section
open Go.RowKit
open DM BM WM
theorem z9R (B:List UInt8) (i:Nat) (h:32 * i+32≤B.length):(z0Q B i).length=32:=by unfold z0Q;rw[List.length_take,List.length_drop];omega
theorem zoP (B:List UInt8) (i k:Nat) (x:UInt8) (hk:k<32) (_h:32 * i+32≤B.length):z0Q (B.set (32 * i+k) x) i=(z0Q B i).set k x:=by
 unfold z0Q;rw[List.drop_set,if_neg (by omega),List.take_set];congr 1;omega
theorem z3P (B:List UInt8) (i k:Nat) (hk:k<32):(z0Q B i).getD k 0=B.getD (32 * i+k) 0:=by
 unfold z0Q;rw[List.getD_eq_getElem?_getD,List.getElem?_take,if_pos hk,List.getElem?_drop,List.getD_eq_getElem?_getD]
theorem zkV (B:List UInt8) (en i:Nat) (h:32 * i+32≤B.length):z0Q (mixA B en (32 * i)) i=z0Q B i:=by
 unfold z0Q mixA;have hl:((clean B en).take (32 * i)).length=32 * i:=by rw[List.length_take,z2O];omega
 rw[List.drop_append,hl,Nat.sub_self,List.drop_of_length_le (by omega),List.nil_append,List.drop_zero]
def WipedTo (w:World) (b d:Nat) (Fd:Nat→Prop) (Y:Int×Dk) (e:Ending) (w':World):Prop:=
 e = .returned (.tuple #[if Y.1=0 then .pointer (some ⟨b,0,none⟩) else .pointer none,.int .i64 Y.1])∧RefTo d Fd w Y.2 w'
structure WpRel (w:World) (d ep h:Nat) (Fd:Nat→Prop) (D:Dk) (B:List UInt8) (en i:Nat) (wf:Bool) (wr:World):Prop where
 ex:∃ F' D',WM.wipe ep B en 0 h false D=WM.wipe ep B en i (h - i) wf D'∧RefAt wr d F' D'∧(∀ k,F' k→Fd k∨w.heap.size≤k)∧D'.safe.length=D.safe.length∧D'.waits.length≤D.waits.length+i
 keep:Keep Fd w wr
theorem zlG (w:World) (b d ep en sf n c:Nat) (vl:Value) (dead:Bool) (Fd:Nat→Prop) (D:Dk) (B:List UInt8) (ao:Option Addr) (H:w.heap[b]?=some (.cells (z4A d ep vl sf dead) 119 (0,0)))
  (hD:RefAt w d Fd D) (hb:¬ Fd b) (hsrc:Cells w ao n 1 (z0B B)) (hap:∀ x,ao=some x→¬ Fd x.block) (hn:n=32 * half D) (hnc:n≤c) (_hen:en≤n) (hfew:D.waits.length≤800000) :
  Calls Tryz.prog 97 #[.pointer (some ⟨b,0,none⟩),.slice ao n c,.int .i64 (en:Nat)] w (WipedTo w b d Fd (z6K ep B en D)):=by
 have hfewD:=hD.ok.few;have hBl:B.length=n:=by have:=hsrc.1;rw[z0D] at this;omega
 obtain⟨h,hhd⟩:=zX1 (half D);have hh1023:h≤1023:=by rw[hhd];unfold half;omega
 obtain⟨Y,hY⟩:=zX1 (z6K ep B en D);obtain⟨Z,hZ⟩:=zX1 (WM.wipe ep B en 0 h false D);have hYZ:Y=if Z.1=0∧Z.2.1=true then DM.sync Z.2.2 else (Z.1,Z.2.2):=by rw[hY,hZ,hhd];rfl
 rw[← hY];obtain⟨Post,hPost⟩:=zX1 (WipedTo w b d Fd Y);rw[← hPost]
 have bad:∀ (cc:Int) (DX:Dk) (wX:World),cc≠0→Y=(cc,DX)→RefTo d Fd w DX wX→Post (.returned (.tuple #[.pointer none,.int .i64 cc])) wX:=fun cc DX wX h0 h1 h2=>by
  rw[hPost,h1];exact⟨by rw[if_neg h0],h2⟩
 have good:∀ (DX:Dk) (wX:World),Y=(0,DX)→RefTo d Fd w DX wX→Post (.returned (.tuple #[.pointer (some ⟨b,0,none⟩),.int .i64 0])) wX:=fun DX wX h1 h2=>by
  rw[hPost,h1];exact⟨by rw[if_pos rfl],h2⟩
 have Bad:=hid bad;have Good:=hid good;have HYZ:=hid (zA1 hYZ hZ);have HH:=hid (zA1 H (zA1 hsrc (zA1 hap (zA1 hn (zA1 hBl hhd)))));have H0:=hid (show WpRel w d ep h Fd D B en 0 false w from⟨⟨Fd,D,by rw[Nat.sub_zero],hD,fun _ x=>.inl x,rfl,by omega⟩,Keep.refl _ _⟩);have hblt:=z0L H;have hn2:n≤40000:=by omega
 clear bad good hYZ hZ hY hPost H hsrc hap hn hBl hhd hD;go_enter Tryz.func97,Tryz.ntmps97;go_wp2_with (at_builtin;refine z0A ?_;intro q hq)
 go_loopw [8,9,10,11,12,13] (fun fv iv _ _ _ _ wr=>∃ (i:Nat) (wf:Bool),i≤h∧iv = .int .i64 i∧fv = .bool wf∧Hid (WpRel w d ep h Fd D B en i wf wr)) (fun _ iv _ _ _ _ _=>h - (intOf iv).toNat)
 case atStart=>exact⟨0,false,Nat.zero_le _,rfl,rfl,H0⟩
 case round=>
  clear H0;obtain⟨i,wf,hi,rfl,rfl,HI⟩:=hrel;obtain⟨F',D',hl,hD',hF',hs',hw'⟩:=HI.out.ex;have hk:=HI.out.keep;have hh:=hk.get HH.out.1 hb;obtain⟨i0,i1,i2,i3,i4,if1,ib1⟩:=z7A (show wr.heap[b]?=some (.cells #[_,_,_,_,_] _ (0,0)) from hh);have hhf:=zbF wr d F' D' hD';rw[z3J hs',← HH.out.2.2.2.2.2] at hhf;have HX:=hid (zA1 hl (zA1 hD' (zA1 hF' (zA1 hs' (zA1 hw' (zA1 hk hh))))));clear hl hD' hF' hs' hw' hk hh
  by_cases hih:i<h
  ·have s1:(i:Int)<(h:Int):=by omega
   obtain⟨p,hp⟩:=zX1 (32 * i);have g3:32 * (i:Int)=(p:Int):=by omega
   have g4:=wi64 p (by omega);obtain⟨p2,hp2⟩:=zX1 (p+32);have g5:(p:Int)+32=(p2:Int):=by omega
   have g6:=wi64 p2 (by omega);obtain⟨hH0,hsrc,hap,hn,hBl,hhd⟩:=HH.out;have hpn:p2≤n:=by omega
   have hsl:∀ w,(Instr.sliceAt 29 (.slice ao n c) (some (.int .i64 (p:Int))) (some (.int .i64 (p2:Int))) none).run Tryz.prog w = .ok (.slice (z1E ao c p 1) 32 (c - p)) w:=fun w=>by
    have h:=z1R (P:=Tryz.prog) z0U ao n c .i64 .i64 p p2 (by omega) (by omega) w;rw[show p2 - p=32 by omega] at h;exact h
   have hsrcr:=hsrc.keep HX.out.2.2.2.2.2.1 (fun x hx=>hap x hx);have hcs:=(Cells.tail hsrcr p (by omega) hnc (by decide)).take 32 (by omega)
   have hsec:List.take (32 * 1) (List.drop (p * 1) (z0B B))=z0B (z0Q B i):=by
    unfold z0Q;simp[z0B,List.map_take,List.map_drop,hp]
   rw[hsec] at hcs;have hcopy:=zpR wr (z1E ao c p 1) 32 (c - p) (z0Q B i) hcs (by decide);have hsl32:=z9R B i (by omega);have HP:=hid (zA1 hp (zA1 hpn (zA1 hBl hsl32)));generalize z1E ao c p 1=ta at *;clear hp hp2 hH0 hsrc hap hn hBl hhd hsrcr hcs hsec hsl32 hpn;go_wp2_with (at_builtin;refine z0A ?_;intro q hq);refine hhf.mono ?_;rintro e w2 ⟨rfl,rfl⟩;go_wp2_with (at_builtin;refine z0A ?_;intro q hq);refine hcopy.mono ?_;rintro e w3 ⟨v3,rfl,hf3⟩;have hr3:=hf3.row;rw[HP.out.2.2.2] at hr3;obtain⟨gs,cs,cur,fz,rfl,-⟩:=hr3.some (by decide);have hgs:=hf3.own gs rfl;have HF3:=hid hf3;have R0:=hid (show Row w3 5 1 (.slice (some ⟨gs,0,none⟩) 32 cs) 32 (z0B (z0Q (mixA B en (32 * i+0)) i))∧Keep (fun k=>k=gs) w3 w3 from⟨by rw[Nat.add_zero,zkV B en i (by have:=HP.out;omega)];exact hr3,Keep.refl _ _⟩);clear hf3 hr3 hcopy;go_wp2_with (at_builtin;refine z0A ?_;intro q hq)
   go_loopw [10,12] (fun dv kv wx=>∃ k:Nat,k≤32∧kv = .int .i64 k∧dv = .bool (z3N B en i k)∧Hid (Row wx 5 1 (.slice (some ⟨gs,0,none⟩) 32 cs) 32 (z0B (z0Q (mixA B en (32 * i+k)) i))∧Keep (fun k=>k=gs) w3 wx)) (fun _ kv _=>32 - (intOf kv).toNat)
   case atStart=>exact⟨0,Nat.zero_le _,rfl,rfl,R0⟩
   case round=>
    clear R0;obtain⟨k,hk,rfl,rfl,HK⟩:=hrel
    by_cases hk32:k<32
    ·have s2:(k:Int)<32:=by omega
     obtain⟨q,hq⟩:=zX1 (p+k);have q1:(p:Int)+(k:Int)=(q:Int):=by omega
     have q3:=wi64 q (by have:=HP.out;omega);obtain⟨u,hu⟩:=zX1 (B.getD q 0);have hrow:=HK.out.1;have hqi:32 * i+k=q:=by have:=HP.out;omega
     have hsm:32 * i+32≤(mixA B en q).length:=by rw[z5P];have:=HP.out;omega
     rw[hqi] at hrow
     have hc:wr.cell? ⟨gs,k,none⟩=some (.int .u8 (u.toNat:Int)):=by
      rw[hrow.cell k (by omega)];have hl:=z9R (mixA B en q) i hsm;have hg:=z3P (mixA B en q) i k hk32;rw[hqi,z8S B en q q (Nat.le_refl _) (by have:=HP.out;omega),← hu,List.getD_eq_getElem?_getD,List.getElem?_eq_getElem (by omega)] at hg;simp only[Option.getD_some] at hg;rw[z0B,List.getElem?_map,List.getElem?_eq_getElem (by omega),hg];rfl
     have hfz:=hrow.frozen k (by omega);have hu256:=u.toNat_lt;have hu0:u=0↔u.toNat=0:=⟨fun h=>by rw[h];rfl,fun h=>UInt8.toNat_inj.1 h⟩;have HS:=hid (zA1 (z9Z B en i k) (zA1 (zfY B en q (by have:=HP.out;omega)) (zA1 (zcZ B en q) (zA1 hrow (zA1 hqi (zA1 hu hsm))))));have HU:=hid hu0;clear hq hu hrow hqi hu0 hsm;generalize hub:u.toNat=ub at *;clear hub
     have stay:(q<en∨ub=0)→Hid (z3N B en i (k+1)=z3N B en i k∧Row wr 5 1 (.slice (some ⟨gs,0,none⟩) 32 cs) 32 (z0B (z0Q (mixA B en (32 * i+(k+1))) i))):=fun h=>by
      obtain⟨z1,z2,z3,z4,z5,z6,z7⟩:=HS.out
      have e0:(clean B en).getD q 0=B.getD q 0:=by
       rw[z3]
       rcases h with h | h
       ·rw[if_pos h]
       ·split
        ·rfl
        ·rw[← z6];exact(HU.out.2 h).symm
      refine hid ⟨?_,?_⟩
      ·rw[z1,z5]
       rcases h with h | h
       ·rw[decide_eq_false (show ¬ en≤q by omega)];simp
       ·rw[← z6,HU.out.2 h];simp
      ·rw[show 32 * i+(k+1)=q+1 by omega,z2,e0]
       have hl:q<(mixA B en q).length:=by omega
       have hg:=z8S B en q q (Nat.le_refl _) (by have:=HP.out;omega);have h5:=ziC (mixA B en q) q hl;rw[hg] at h5;rw[h5];exact z4
     by_cases c1:q<en
     ·have HZ:=stay (.inl c1)
      have t1:decide ((en:Int)≤(q:Int))=false:=decide_eq_false (by omega);have t2:decide (en≤q)=false:=decide_eq_false (by omega);clear stay hc hfz;rw[← HZ.out.1];go_wp2_with (at_builtin;refine z0A ?_;intro q hq);go_roundw
      case rel=>exact⟨k+1,by omega,by go_num,by first | trivial | rfl,hid ⟨HZ.out.2,HK.out.2⟩⟩
      case measure=>simp[intOf];omega
     ·by_cases c2:ub=0
      ·have HZ:=stay (.inr c2)
       have t1:(en:Int)≤(q:Int):=by omega
       have t2:((ub:Int) != 0)=false:=by simp[c2]
       have t3:((ub:Int) == 0)=true:=by simp[c2]
       clear stay hfz;subst c2;rw[← HZ.out.1];go_wp2_with (at_builtin;refine z0A ?_;intro q hq);go_roundw
       case rel=>exact⟨k+1,by omega,by go_num,by first | trivial | rfl,hid ⟨HZ.out.2,HK.out.2⟩⟩
       case measure=>simp[intOf];omega
      ·have t1:(en:Int)≤(q:Int):=by omega
       have t2:((ub:Int) != 0)=true:=by simp;omega
       have t3:((ub:Int) == 0)=false:=by simp;omega
       clear stay;go_wp2_with (at_builtin;refine z0A ?_;intro q hq);have hkS:Keep (fun k=>k=gs) wr (wr.setCell ⟨gs,k,none⟩ (.int .u8 0)):=kst
       have HZ:=hid (show z3N B en i (k+1)=true∧Row (wr.setCell ⟨gs,k,none⟩ (.int .u8 0)) 5 1 (.slice (some ⟨gs,0,none⟩) 32 cs) 32 (z0B (z0Q (mixA B en (32 * i+(k+1))) i))∧Keep (fun k=>k=gs) w3 (wr.setCell ⟨gs,k,none⟩ (.int .u8 0)) by
        obtain⟨z1,z2,z3,z4,z5,z6,z7⟩:=HS.out;refine⟨?_,?_,HK.out.2.next hkS (fun _ _ x=>x) (fun _ _ x=>x)⟩
        ·rw[z1,z5]
         have hb0:B.getD q 0≠0:=fun e=>c2 (HU.out.1 (by rw[z6];exact e));have hen:en≤q:=by omega
         rw[decide_eq_true hen,decide_eq_true hb0];simp
        ·rw[show 32 * i+(k+1)=q+1 by omega,z2,z3,if_neg c1,← z5,zoP _ i k 0 hk32 (by rw[z5];exact z7),z5]
         have h5:=z4.setOne k (by omega) (.int .u8 0) rfl;have h6:z0B ((z0Q (mixA B en q) i).set k 0)=(z0B (z0Q (mixA B en q) i)).set k (.int .u8 0):=(z5O _ k 0 (by decide)).symm;rw[h6]
         exact h5)
       go_roundw
       case rel=>exact⟨k+1,by omega,by go_num,by rw[HZ.out.1],hid HZ.out.2⟩
       case measure=>simp[intOf];omega
    ·obtain rfl:k=32:=by omega
     have s2:¬ ((32:Nat):Int)<32:=by omega
     have hdd:z3N B en i 32=dirty B en i:=rfl;rw[hdd];obtain⟨hl,hD',hF',hs',hw',hk',hh⟩:=HX.out;obtain⟨hrow,hkg⟩:=HK.out;rw[show 32 * i+32=(i+1) * 32 by omega,ziO] at hrow;have hs3:=HF3.out.keep.size;have hDl:=hD'.lt;have hkr:Keep (fun k=>k=gs∧False∨k=gs) w3 wr:=hkg.mono fun _ _ x=>.inr x;have hgF:¬ F' gs:=fun x=>by have:=hDl gs x;omega
     have hgb:b≠gs:=by omega
     have hDr:RefAt wr d F' D':=(hD'.keep HF3.out.keep fun _ _ x=>x).keep hkg fun k x y=>by subst y;exact hgF x
     have hhr:=hkg.get (HF3.out.keep.get hh id) hgb;have hkw:Keep Fd w wr:=(hk'.next HF3.out.keep (H:=Fd) (fun _ _ x=>x) (fun _ _ x=>x.elim)).next hkg (fun _ _ x=>x) (fun k hk x=>by have:=hk'.size;omega);obtain⟨j,hj⟩:∃ j,h - i=j+1:=⟨h - i - 1,by omega⟩;clear i0 i1 i2 i3 i4 if1 ib1;obtain⟨i0,i1,i2,i3,i4,if1,ib1⟩:=z7A (show wr.heap[b]?=some (.cells #[_,_,_,_,_] _ (0,0)) from hhr);have HX2:=hid (zA1 hl (zA1 hDr (zA1 hF' (zA1 hs' (zA1 hw' (zA1 hkw (zA1 hrow (zA1 hj (zA1 hgF hhr)))))))));clear hl hD' hF' hs' hw' hk' hh hrow hkg hs3 hDl hkr hgF hDr hhr hkw hj hdd HK HX
     cases hdi:dirty B en i with
     | false=>
       have HZ:=hid (show WpRel w d ep h Fd D B en (i+1) wf wr by
        obtain⟨hl,hDr,hF',hs',hw',hkw,hrow,hj,-,-⟩:=HX2.out;refine⟨⟨F',D',?_,hDr,hF',hs',by omega⟩,hkw⟩;rw[hl,hj,WM.wipe,hdi];simp only
        rw[if_neg (by simp),show h - (i+1)=j by omega])
       clear hdi;go_wp2_with (at_builtin;refine z0A ?_;intro q hq);go_roundw
       case rel=>exact⟨i+1,wf,by omega,by go_num,rfl,HZ⟩
       case measure=>simp[intOf];omega
     | true=>
       obtain⟨hl,hDr,hF',hs',hw',hkw,hrow,hj,hgF,hhr⟩:=HX2.out;obtain⟨q,hq⟩:=zX1 (WM.first D ep);have hq':q=WM.first D' ep:=by rw[hq,z5L hs']
       have hq2:q≤3000:=by
        rw[hq];unfold WM.first half;have:ep % 2=0∨ep % 2=1:=by omega
        rcases this with h | h <;> rw[h] <;> omega
       obtain⟨t,ht⟩:=zX1 (q+i);have g1:(q:Int)+(i:Int)=(t:Int):=by omega
       have g2:=wi64 t (by omega);have j0:=fun s:Later wr=>s.cell i0;have j1:=fun s:Later wr=>s.cell i1
       have HFi:=hid (show ∀ s:Later wr,Calls Tryz.prog 133 #[.pointer (some ⟨d,0,none⟩),.int .u64 (ep:Nat)] s.val fun e w'=>e = .returned (.int .i64 (q:Nat))∧Keep (fun _=>False) s.val w' from
        fun s=>by rw[hq'];exact(zdC s.val d F' D' (hDr.keep s.keep fun _ _ x=>x) ep).mono fun e w' ⟨h1,h2⟩=>⟨h1,by rw[h2];exact Keep.refl _ _⟩)
       have hW:=fun s:Later wr=>zlT s.val d F' D' (t:Int) (some ⟨gs,0,none⟩) 32 cs (z0Q (clean B en) i) (hDr.keep s.keep fun _ _ x=>x) ((by have h:=Cells.of_row hrow;exact h:Cells wr (some ⟨gs,0,none⟩) 32 1 _).later s) (fun _ x hx=>by cases hx;exact hgF) (by omega) (by decide) (by omega);obtain⟨W,hWd⟩:=zX1 (DM.write D' (t:Int) (z0Q (clean B en) i));simp only[← hWd] at hW
       have hst:WM.wipe ep B en i (h - i) wf D'=if W.1=0 then WM.wipe ep B en (i+1) j true W.2 else (W.1,true,W.2):=by
        rw[hj,WM.wipe,hdi,← hq',← ht,← hWd];rfl
       have hwl:W.2.safe.length=D.safe.length:=by rw[hWd,z3K];exact hs'
       have hww:W.2.waits.length≤D.waits.length+(i+1):=by rw[hWd];have:=z2Y D' (t:Int) (z0Q (clean B en) i);omega
       have HW:=hid hW;have HX3:=hid (zA1 hl (zA1 hF' (zA1 hkw (zA1 hst (zA1 hwl (zA1 hww hj))))));clear hl hDr hF' hs' hw' hkw hrow hj hgF hhr hq hq' ht hW hWd hst hwl hww hdi i0 i1 i2 i3 i4;go_wp2_with (at_builtin;refine z0A ?_;intro q hq)
       (refine z2L 16 (by kernel_rfl) (by kernel_rfl) ?_;simp only[List.take_succ_cons,List.take_zero,List.drop_succ_cons,List.drop_zero];(repeat (go_big_quiet_step ((go_at_call 133;exact Later.call (HFi.out _)))));refine wpQuiet_nil ?_;rintro _ ⟨sq,rfl⟩)
       clear j0 j1;go_wp2_with (at_builtin;refine z0A ?_;intro q hq);refine(HW.out sq).mono ?_;rintro e w6 ⟨rfl,F3,t1,t2,t3⟩;obtain⟨hl,hF',hkw,hst,hwl,hww,hj⟩:=HX3.out;have hk6:Keep Fd w w6:=(hkw.next sq.keep (H:=Fd) (fun _ _ x=>x) (fun _ _ x=>x.elim)).next t2 (fun _ _ x=>x) (fun k hk' x=>(hF' k x).elim id fun y=>by omega);have hF6:∀ k,F3 k→Fd k∨w.heap.size≤k:=fun k x=>(t3 k x).elim (hF' k) fun y=>.inr (Nat.le_trans (Nat.le_trans hkw.size sq.keep.size) y)
       by_cases w0:W.1=0
       ·have HZ:=hid (show WpRel w d ep h Fd D B en (i+1) true w6 from⟨⟨F3,W.2,by rw[hl,hst,if_pos w0,show h - (i+1)=j by omega],t1,hF6,hwl,hww⟩,hk6⟩)
        rw[w0];clear hl hF' hkw hst hwl hww hj t1 t2 t3 hk6 hF6;go_wp2_with (at_builtin;refine z0A ?_;intro q hq);go_roundw
        case rel=>exact⟨i+1,true,by omega,by go_num,rfl,HZ⟩
        case measure=>simp[intOf];omega
       ·have hZ:Z=(W.1,true,W.2):=by rw[HYZ.out.2,hl,hst,if_neg w0]
        have hB:=Bad.out W.1 W.2 w6 w0 (by rw[HYZ.out.1,hZ,if_neg (fun h=>w0 h.1)]) ⟨F3,t1,hk6,hF6⟩;have HB:=hid hB;have u1:(W.1 == 0)=false:=by simp[w0]
        have u2:(W.1 != 0)=true:=by simp[w0]
        have u3:decide (W.1=0)=false:=by simp[w0]
        clear hl hF' hkw hst hwl hww hj t1 t2 t3 hk6 hF6 hZ hB w0;go_wp2_with (at_builtin;refine z0A ?_;intro q hq);exact HB.out
  ·obtain rfl:h=i:=by omega
   have s1:¬ (h:Int)<(h:Int):=by omega
   obtain⟨hl,hD',hF',hs',hw',hk',hh⟩:=HX.out;rw[Nat.sub_self] at hl;have hZ:Z=(0,wf,D'):=by rw[HYZ.out.2,hl];rfl
   cases wf with
   | false=>
     have hG:=Good.out D' wr (by rw[HYZ.out.1,hZ];simp) ⟨F',hD',hk',hF'⟩;have HG:=hid hG;clear hl hD' hF' hs' hw' hk' hh hZ hG;go_wp2_with (at_builtin;refine z0A ?_;intro q hq);refine hhf.mono ?_;rintro e w2 ⟨rfl,rfl⟩;go_wp2_with (at_builtin;refine z0A ?_;intro q hq);exact HG.out
   | true=>
     obtain⟨X,hX⟩:=zX1 (DM.sync D');have hYX:Y=X:=by rw[HYZ.out.1,hZ,hX];simp
     have hsy:=zqW wr d F' D' hD' (by omega);rw[← hX] at hsy;have HF:=hid (zA1 hF' hk');have HYX:=hid hYX;clear hl hD' hF' hs' hw' hk' hh hZ hX hYX;go_wp2_with (at_builtin;refine z0A ?_;intro q hq);refine hhf.mono ?_;rintro e w2 ⟨rfl,rfl⟩;go_wp2_with (at_builtin;refine z0A ?_;intro q hq);refine hsy.mono ?_;rintro e w3 ⟨rfl,ht3⟩;have hto:=RefTo.next HF.out.2 HF.out.1 ht3
     by_cases x0:X.1=0
     ·have HG:=hid (Good.out X.2 w3 (by rw[HYX.out,← x0]) hto)
      rw[x0];clear hto ht3 x0;go_wp2_with (at_builtin;refine z0A ?_;intro q hq);exact HG.out
     ·have HB:=hid (Bad.out X.1 X.2 w3 x0 HYX.out hto)
      have u1:(X.1 == 0)=false:=by simp[x0]
      have u2:(X.1 != 0)=true:=by simp[x0]
      have u3:decide (X.1=0)=false:=by simp[x0]
      clear hto ht3 x0;go_wp2_with (at_builtin;refine z0A ?_;intro q hq);exact HB.out
end
end Go.Proofs.YtkjofdocgaiedaaGreat
