/- Texts WalV, WalO, RwA, RwB, RwC, RwD, RwE in one. Conditions: as each law names them. -/
import Derived.Test.YtkjofdocgaiedaaGreatYaj
import Derived.Test.YtkjofdocgaiedaaGreatYak
import Derived.Test.YtkjofdocgaiedaaGreatYaq
import Derived.Test.YtkjofdocgaiedaaGreatYav
set_option maxRecDepth 20000
set_option maxHeartbeats 8000000
namespace Go.Proofs.YtkjofdocgaiedaaGreat
section
open Go.RowKit
open DM BM WM
theorem z9N (ep:Nat) (B:List UInt8) (en:Nat):∀ (k i m:Nat) (wr:Bool) (D:Dk),(∀ j,i≤j→j<i+k→dirty B en j=false)→WM.wipe ep B en i (k+m) wr D=WM.wipe ep B en (i+k) m wr D
 | 0,i,m,wr,D,_=>by rw[Nat.zero_add,Nat.add_zero]
 | k+1,i,m,wr,D,h=>by
   rw[show k+1+m=(k+m)+1 by omega,WM.wipe,h i (Nat.le_refl _) (by omega)];simp only;rw[if_neg (by simp),z9N ep B en k (i+1) m wr D (fun j h1 h2=>h j (by omega) (by omega)),show i+1+k=i+(k+1) by omega]
theorem z8M (ep:Nat) (B:List UInt8) (en:Nat):∀ k i wr D,(WM.wipe ep B en i k wr D).2.2.waits.length≤D.waits.length+k
 | 0,i,wr,D=>Nat.le_refl _
 | k+1,i,wr,D=>by
   have h:=z2V D ((WM.first D ep+i:Nat):Int) (z0U (clean B en) i);rw[WM.wipe];split
   ·simp only
    split
    ·have:=z8M ep B en k (i+1) true (DM.write D ((WM.first D ep+i:Nat):Int) (z0U (clean B en) i)).2
     omega
    ·show (DM.write D ((WM.first D ep+i:Nat):Int) (z0U (clean B en) i)).2.waits.length≤_
     omega
   ·have:=z8M ep B en k (i+1) wr D
    omega
theorem zbV (ep:Nat) (B:List UInt8) (en:Nat):∀ k i wr D,(WM.wipe ep B en i k wr D).2.2.safe.length=D.safe.length
 | 0,i,wr,D=>rfl
 | k+1,i,wr,D=>by
   rw[WM.wipe];split
   ·simp only
    split
    ·rw[zbV ep B en k,z3M]
    ·exact z3M _ _ _
   ·rw[zbV ep B en k]
theorem zhM (B:List UInt8) (en i:Nat) (h:i<en / 32):dirty B en i=false:=by
 unfold dirty;rw[List.any_eq_false];intro k hk;rw[List.mem_range] at hk;simp;intro h2;omega
def z7K (ep:Nat) (B:List UInt8) (en:Nat) (D:Dk):Int×Dk:=
 let r:=WM.wipe ep B en 0 (half D) false D
 if r.1=0∧r.2.1=true then DM.sync r.2.2 else (r.1,r.2.2)
def WipeTo (w:World) (d ga ca nn:Nat) (Fd:Nat→Prop) (B:List UInt8) (en:Nat) (Y:Int×Dk) (e:Ending) (w':World):Prop:=
 e = .returned (.int .i64 Y.1)∧Keep (fun k=>Fd k∨k=ga) w w'∧(∃ Fd',DiskAt w' d Fd' Y.2∧∀ k,Fd' k→Fd k∨w.heap.size≤k)∧
  (Y.1=0→Row w' 5 1 (.slice (some ⟨ga,0,none⟩) nn ca) nn (z0B (clean B en)))
theorem zrO (w:World) (b d ga ca ep en nn:Nat) (Fd:Nat→Prop) (D:Dk) (B:List UInt8) (vl:Value) (sf:Nat)
  (H:w.heap[b]?=some (.cells (z0N d ep (half D) (.slice (some ⟨ga,0,none⟩) nn ca) vl sf en false) 164 (0,0)))
  (hrow:Row w 5 1 (.slice (some ⟨ga,0,none⟩) nn ca) nn (z0B B)) (hnn:nn=32 * half D) (hen:en≤nn) (hD:DiskAt w d Fd D)
  (hbF:¬ Fd b) (hgF:¬ Fd ga) (hgb:ga≠b) (hfew:D.waits.length≤800000) :
  Calls Tryz.prog 86 #[.pointer (some ⟨b,0,none⟩)] w (WipeTo w d ga ca nn Fd B en (z7K ep B en D)):=by
 have hBl:B.length=nn:=by have:=hrow.1;rw[z0D] at this;omega
 have hfewD:=hD.ok.few;have hhalf:half D≤1023:=by unfold half;omega
 obtain⟨adx,cax,hvx,hnca,hca,-⟩:=hrow.form;simp at hvx;obtain⟨rfl,rfl⟩:=hvx;have hblt:=z0M H;have hglt:=hrow.lt (k:=ga) (by simp[Value.ownBlock]);have hDlt:=hD.lt;obtain⟨w1,hw1⟩:=zX1 ((w.alloc (.cells #[.pointer (some ⟨b,0,none⟩)] 101)).alloc (.cells #[.bool false] 4));have hk1:Keep (fun _=>False) w w1:=by rw[hw1];exact((Keep.refl _ _).alloc _).alloc _
 have hsz:(w.alloc (.cells #[.pointer (some ⟨b,0,none⟩)] 101)).heap.size=w.heap.size+1:=by simp
 have hx1:w1.cell? ⟨w.heap.size,0,none⟩=some (.pointer (some ⟨b,0,none⟩)):=by
  have h1:=heap_alloc_new w (.cells #[.pointer (some ⟨b,0,none⟩)] 101);have h2:=((Keep.refl (fun _=>False) (w.alloc (.cells #[.pointer (some ⟨b,0,none⟩)] 101))).alloc (.cells #[.bool false] 4)).get h1 id;rw[hw1,cell_of_row _ _ _ _ _ _ h2];rfl
 have hy1:w1.heap[w.heap.size+1]?=some (.cells #[.bool false] 4 (0,0)):=by
  have h1:=heap_alloc_new (w.alloc (.cells #[.pointer (some ⟨b,0,none⟩)] 101)) (.cells #[.bool false] 4);rw[hsz] at h1;rw[hw1];exact h1
 have hs1:w1.heap.size=w.heap.size+2:=by rw[hw1];simp
 obtain⟨x,hx⟩:=zX1 (w.heap.size);rw[← hx] at hx1 hy1;obtain⟨y,hy⟩:=zX1 (x+1);rw[← hy] at hy1;have hh1:=hk1.get H id;have hr1:=hrow.keep hk1 fun _ _ x=>x;have hD1:=hD.keep hk1 fun _ _ x=>x;have hxF:¬ Fd x:=fun h=>by have:=hDlt x h;omega
 have hyF:¬ Fd y:=fun h=>by have:=hDlt y h;omega
 have hskip:WM.wipe ep B en 0 (half D) false D=WM.wipe ep B en (en / 32) (half D - en / 32) false D:=by
  have h:=z9N ep B en (en / 32) 0 (half D - en / 32) false D (fun j _ h2=>zhM B en j (by omega))
  rwa [show en / 32+(half D - en / 32)=half D by omega,Nat.zero_add] at h
 obtain⟨i0,i1,i2,i3,i4,i5,i6,i7,if1,ib1⟩:=z1K (show w1.heap[b]?=some (.cells #[_,_,_,_,_,_,_,_] _ (0,0)) from hh1)
 have heach:=zkF w1.drew b 128 #[.pointer (some ⟨x,0,none⟩),.pointer (some ⟨y,0,none⟩)] en (en / 32) (half D) nn nn ca (.slice (some ⟨ga,0,none⟩) nn ca)
  (fun i wr=>en / 32≤i∧i≤half D∧∃ F' D' wf,WM.wipe ep B en 0 (half D) false D=WM.wipe ep B en i (half D - i) wf D'∧Keep (fun k=>Fd k∨k=ga∨k=y) w1 wr∧DiskAt wr d F' D'∧(∀ k,F' k→Fd k∨w1.heap.size≤k)∧D'.safe.length=D.safe.length∧D'.waits.length≤D.waits.length+(i - en / 32)∧
   Row wr 5 1 (.slice (some ⟨ga,0,none⟩) nn ca) nn (z0B (mixA B en (i * 32)))∧wr.heap[y]?=some (.cells #[.bool wf] 4 (0,0)))
  (fun c wr=>∃ F' D',WM.wipe ep B en 0 (half D) false D=(c,true,D')∧Keep (fun k=>Fd k∨k=ga∨k=y) w1 wr∧DiskAt wr d F' D'∧(∀ k,F' k→Fd k∨w1.heap.size≤k)∧wr.heap[y]?=some (.cells #[.bool true] 4 (0,0)))
  rfl (fun i=>by omega) (by omega) (by omega) hnca hca (by omega) (Nat.le_refl _) (by omega) (some ⟨ga,0,none⟩) rfl ?_ ?_
  (enters_of Tryz.func128 (by kernel_rfl) rfl) ?_
 ·have HE:=hid heach
  obtain⟨Y,hY⟩:=zX1 (z7K ep B en D);rw[← hY];have HY:=hid hY;obtain⟨Post,hPost⟩:=zX1 (WipeTo w d ga ca nn Fd B en Y);have fin:∀ wX,WipeTo w d ga ca nn Fd B en Y (.returned (.int .i64 Y.1)) wX→Post (.returned (.int .i64 Y.1)) wX:=fun wX h=>by rw[hPost];exact h
  rw[← hPost];have Fin:=hid fin;clear fin hPost;have H1:=hid (zA1 hk1 (zA1 hs1 (zA1 hx (zA1 hy (zA1 hh1 (zA1 hx1 hy1))))));have HNN:=hid hnn;clear hnn heach hY hskip hk1 hs1 hh1 hr1 hD1 hD hrow H hsz;go_enter Tryz.func86,Tryz.ntmps86;go_wp2_with fail;rw[← hw1,← hx,← hy];clear hw1 hx hy;obtain⟨Z,hZ⟩:=zX1 (WM.wipe ep B en 0 (half D) false D)
  have he2:Calls Tryz.prog 104 #[.pointer (some ⟨b,0,none⟩),.int .i64 (en:Nat),.int .i64 (nn:Nat),.func (.func 128) #[] #[.pointer (some ⟨x,0,none⟩),.pointer (some ⟨y,0,none⟩)]] w1.drew fun e w'=>
    e = .returned (.int .i64 Z.1)∧(w'.cell? ⟨x,0,none⟩=some (.pointer (some ⟨b,0,none⟩))∧w'.cell? ⟨b,3,none⟩=some (.slice (some ⟨ga,0,none⟩) nn ca)∧w'.cell? ⟨b,6,none⟩=some (.int .i64 (en:Nat)))∧
     Hid (Keep (fun k=>Fd k∨k=ga∨k=y) w1 w'∧(∃ F',DiskAt w' d F' Z.2.2∧(∀ k,F' k→Fd k∨w1.heap.size≤k)∧Z.2.2.waits.length≤900000)∧w'.heap[y]?=some (.cells #[.bool Z.2.1] 4 (0,0))∧(Z.1=0→Row w' 5 1 (.slice (some ⟨ga,0,none⟩) nn ca) nn (z0B (clean B en)))):=by
   refine HE.out.mono ?_;have hnn:=HNN.out;rintro e w' ⟨c,rfl,g1,g2⟩
   have key:Keep (fun k=>Fd k∨k=ga∨k=y) w1 w'→(w'.cell? ⟨x,0,none⟩=some (.pointer (some ⟨b,0,none⟩))∧w'.cell? ⟨b,3,none⟩=some (.slice (some ⟨ga,0,none⟩) nn ca)∧w'.cell? ⟨b,6,none⟩=some (.int .i64 (en:Nat))):=fun hk=>by
    obtain⟨-,hs1,hx,hy,-,hx1,-⟩:=H1.out;refine⟨?_,?_,?_⟩
    ·rw[World.cell?_of_block (hk.block _ (World.block_lt_of_cell? _ _ hx1) (fun h=>by rcases h with h | h | h;exact hxF h;(have h':x=ga:=h;omega);(have h':x=y:=h;omega)))];exact hx1
    ·rw[World.cell?_of_block (hk.block _ ib1 (fun h=>by rcases h with h | h | h;exact hbF h;exact hgb h.symm;(have h':b=y:=h;omega)))];exact i3
    ·rw[World.cell?_of_block (hk.block _ ib1 (fun h=>by rcases h with h | h | h;exact hbF h;exact hgb h.symm;(have h':b=y:=h;omega)))];exact i6
   by_cases h0:c=0
   ·obtain⟨_,_,F',D',wf,hl,hkp,hD',hF',hs',hw',hrow',hy'⟩:=g1 h0
    rw[Nat.sub_self] at hl;have hz:Z=(0,wf,D'):=by rw[hZ,hl];rfl
    rw[hz,h0];refine⟨rfl,key hkp,hid ⟨hkp,⟨F',hD',hF',by show D'.waits.length≤_;omega⟩,hy',fun _=>?_⟩⟩;rw[show half D * 32=nn by omega] at hrow';rw[← zrU,hBl];exact hrow'
   ·obtain⟨F',D',hl,hkp,hD',hF',hy'⟩:=g2 h0
    have hz:Z=(c,true,D'):=by rw[hZ,hl]
    rw[hz];refine⟨rfl,key hkp,hid ⟨hkp,⟨F',hD',hF',?_⟩,hy',fun h=>absurd h h0⟩⟩;have:=z8M ep B en (half D) 0 false D;rw[hl] at this;show D'.waits.length≤_;have h9:D'.waits.length≤D.waits.length+half D:=this;omega
  have HE2:=hid he2;have HY2:=hid (show Y=if Z.1=0∧Z.2.1=true then DM.sync Z.2.2 else (Z.1,Z.2.2) by rw[hZ];exact HY.out);have hx1:=H1.out.2.2.2.2.2.1;clear HE he2 hZ HY i0 i1 i2 i4 i5 i7 if1;clear hDlt hxF hyF hfewD hBl
  go_region_held3 (fun w'=>w'.cell? ⟨x,0,none⟩=some (.pointer (some ⟨b,0,none⟩))∧w'.cell? ⟨b,3,none⟩=some (.slice (some ⟨ga,0,none⟩) nn ca)∧w'.cell? ⟨b,6,none⟩=some (.int .i64 (en:Nat)))
   (first | exact⟨hx1,i3,i6⟩ | assumption)
   (first | (go_simp;go_at_call 104;refine HE2.out.mono ?_;rintro e w2 ⟨rfl,hz2,HZ2⟩;go_simp))
  obtain⟨hk1,hs1,hx,hy,hh1,-,hy1⟩:=H1.out;obtain⟨zk,⟨F2,zD,zF,zw⟩,zy,zr⟩:=HZ2.out;have y0:w2.cell? ⟨y,0,none⟩=some (.bool Z.2.1):=by rw[cell_of_row _ _ _ _ _ _ zy];rfl
  have d0:w2.cell? ⟨b,0,none⟩=some (.pointer (some ⟨d,0,none⟩)):=by
   rw[World.cell?_of_block (zk.block _ ib1 (fun h=>by rcases h with h | h | h;exact hbF h;exact hgb h.symm;(have h':b=y:=h;omega)))];rw[cell_of_row _ _ _ _ _ _ hh1];rfl
  have x0:=hz2.1
  have hk02:Keep (fun k=>Fd k∨k=ga) w w2:=hk1.next zk (fun _ _ x=>x.elim) (fun k hk x=>by
   rcases x with x | x | x
   ·exact .inl x
   ·exact .inr x
   ·have h':k=y:=x
    omega)
  have hF02:∀ k,F2 k→Fd k∨w.heap.size≤k:=fun k x=>(zF k x).imp id fun h=>by omega
  have HW2:=hid (zA1 hk02 (zA1 zD (zA1 hF02 (zA1 zr zw))));clear zk zD zF zw zy zr hk02 hF02 hk1 hs1 hx hy hh1 hy1 hz2 HZ2
  by_cases z0:Z.1=0
  rotate_left
  ·have hy:Y=(Z.1,Z.2.2):=by rw[HY2.out,if_neg (fun h=>z0 h.1)]
   have hf:=Fin.out w2 (by rw[hy];exact⟨rfl,HW2.out.1,⟨F2,HW2.out.2.1,HW2.out.2.2.1⟩,fun h=>absurd h z0⟩);rw[hy] at hf;have HF:=hid hf;have u1:(Z.1 == 0)=false:=by simp[z0]
   have u3:decide (Z.1=0)=false:=by simp[z0]
   clear hf hy z0;go_wp2_with fail;exact HF.out
  ·rw[z0]
   cases hwf:Z.2.1 with
   | false=>
     have hy:Y=(0,Z.2.2):=by rw[HY2.out,if_neg (by rw[hwf];simp),z0]
     have hf:=Fin.out w2 (by rw[hy];exact⟨rfl,HW2.out.1,⟨F2,HW2.out.2.1,HW2.out.2.2.1⟩,fun _=>HW2.out.2.2.2.1 z0⟩);rw[hy] at hf;have HF:=hid hf;rw[hwf] at y0;clear hf hy z0;go_wp2_with fail;exact HF.out
   | true=>
     have hy:Y=DM.sync Z.2.2:=by rw[HY2.out,if_pos ⟨z0,hwf⟩]
     rw[hwf] at y0;have Hz0:=hid z0;have HYs:=hid hy;clear z0 hy;go_wp2_with fail;refine(zbQ w2 d F2 Z.2.2 HW2.out.2.1 (by have:=HW2.out.2.2.2.2;omega)).mono ?_;rintro e w3 ⟨rfl,F3,s1,s2,s3⟩;have hgF2:¬ F2 ga:=fun h=>(HW2.out.2.2.1 ga h).elim hgF fun h=>by omega
     have hf:=Fin.out w3 (by
      rw[HYs.out];refine⟨rfl,HW2.out.1.next s2 (fun _ _ x=>x) (fun k hk x=>(HW2.out.2.2.1 k x).elim .inl fun h=>by omega),⟨F3,s1,fun k x=>(s3 k x).elim (HW2.out.2.2.1 k) fun h=>.inr (Nat.le_trans HW2.out.1.size h)⟩,fun _=>(HW2.out.2.2.2.1 Hz0.out).keep s2 fun k e x=>?_⟩;simp[Value.ownBlock] at e;subst e
      exact hgF2 x)
     rw[HYs.out] at hf;have HF:=hid hf;clear hf s1 s2 s3;go_wp2_with fail;exact HF.out
 ·rintro i wr ⟨_,_,F',D',wf,_,hkp,_⟩
  rw[World.cell?_of_block (hkp.block b ib1 (by rintro(h | h | h);exact hbF h;exact hgb h.symm;omega))];exact i3
 ·exact⟨Nat.le_refl _,by omega,Fd,D,false,hskip,(Keep.refl _ _).drew,hD1.keep (Keep.refl (fun _=>False) _).drew (fun _ _ x=>x),fun _ x=>.inl x,rfl,by omega,by rw[zqH _ _ _ (by omega)];exact hr1.keep (F:=fun _=>False) (Keep.refl _ _).drew (fun _ _ x=>x),hy1⟩
 ·rintro i wr hi1 hi2 ⟨_,_,F',D',wf,hl,hkp,hD',hF',hs',hw',hrow',hy'⟩
  have hhl:=z2W hs'
  have hxr:wr.cell? ⟨x,0,none⟩=some (.pointer (some ⟨b,0,none⟩)):=by
   rw[World.cell?_of_block (hkp.block _ (World.block_lt_of_cell? _ _ hx1) (fun h=>by rcases h with h | h | h;exact hxF h;(have h':x=ga:=h;omega);(have h':x=y:=h;omega)))];exact hx1
  have hhr:=hkp.get hh1 (by rintro(h | h | h);exact hbF h;exact hgb h.symm;omega);rw[← hhl] at hhr;have nF:∀ k,¬ Fd k→k<w1.heap.size→¬ F' k:=fun k h1 h2 h3=>(hF' k h3).elim h1 fun h=>by omega
  have hcall:=zoL wr x y b d ga ca ep en nn i F' D' B vl sf false wf hxr hy' hhr hrow' (by rw[hhl];exact hnn) (by rw[hhl];exact hi2) hD'
   (nF x hxF (by omega)) (nF y hyF (by omega)) (nF b hbF ib1) (nF ga hgF (by omega)) (by omega) (by omega) (by omega) hgb (by omega) (by omega)
  have ht:z1J (some ⟨ga,0,none⟩) ca (i * 32) 1=some ⟨ga,i * 32,none⟩:=by
   unfold z1J;rw[if_neg (by omega)];simp[z0L]
  rw[ht];refine hcall.mono ?_;rintro e w' ⟨rfl,hk2,⟨F2,hD2,hF2⟩,hrow2,hy2⟩;obtain⟨j,hj⟩:∃ j,half D - i=j+1:=⟨half D - i - 1,by omega⟩
  have hkw:Keep (fun k=>Fd k∨k=ga∨k=y) w1 w':=hkp.next hk2 (fun _ _ x=>x) fun k hk x=>by
   rcases x with x | x
   ·rcases hF' k x with z | z
    ·exact .inl z
    ·omega
   ·exact .inr x
  have hFw:∀ k,F2 k→Fd k∨w1.heap.size≤k:=fun k x=>(hF2 k x).elim (hF' k) fun z=>.inr (Nat.le_trans hkp.size z);rw[z5L hs'] at hD2 ⊢
  cases hdi:dirty B en i with
  | false=>
    rw[hdi] at hD2 hy2;rw[if_neg (by simp)] at hD2 ⊢;rw[Bool.or_false] at hy2;refine⟨0,rfl,fun _=>⟨by omega,by omega,F2,D',wf,?_,hkw,hD2,hFw,hs',by omega,hrow2,hy2⟩,fun h=>absurd rfl h⟩;rw[hl,hj,WM.wipe,hdi];simp only;rw[if_neg (by simp),show half D - (i+1)=j by omega]
  | true=>
    rw[hdi] at hD2 hy2;rw[if_pos rfl] at hD2 ⊢;rw[Bool.or_true] at hy2
    have hst:WM.wipe ep B en i (half D - i) wf D'=if (DM.write D' ((WM.first D ep+i:Nat):Int) (z0U (clean B en) i)).1=0 then WM.wipe ep B en (i+1) j true (DM.write D' ((WM.first D ep+i:Nat):Int) (z0U (clean B en) i)).2 else ((DM.write D' ((WM.first D ep+i:Nat):Int) (z0U (clean B en) i)).1,true,(DM.write D' ((WM.first D ep+i:Nat):Int) (z0U (clean B en) i)).2):=by
     rw[hj,WM.wipe,hdi,z5L hs'];rfl
    have hwl:=z3M D' ((WM.first D ep+i:Nat):Int) (z0U (clean B en) i);have hww:=z2V D' ((WM.first D ep+i:Nat):Int) (z0U (clean B en) i);refine⟨_,rfl,fun h0=>⟨by omega,by omega,F2,_,true,?_,hkw,hD2,hFw,by rw[hwl];exact hs',by omega,hrow2,hy2⟩,fun h0=>⟨F2,_,?_,hkw,hD2,hFw,hy2⟩⟩
    ·rw[hl,hst,if_pos h0,show half D - (i+1)=j by omega]
    ·rw[hl,hst,if_neg h0]
end
section
open Go.RowKit
open DM BM WM
theorem zpP (w:World) (a b:Nat):(Builtin.max_ #[23,23] 23 #[.int .u64 (a:Int),.int .u64 (b:Int)]).run Tryz.prog w = .ok (.int .u64 ((max a b:Nat):Int)) w:=by
 rcases Nat.lt_or_ge a b with q | q
 ·rw[Nat.max_eq_right (by omega)]
  simp[Builtin.max_,Builtin.max2];omega
 ·rw[Nat.max_eq_left q]
  simp[Builtin.max_,Builtin.max2];omega
def epTo (D:Dk):Nat→Nat
 | 0=>0
 | i+1=>max (epTo D i) ((WM.head D i).getD 0)
theorem z9O (D:Dk):epTo D 2=epoch D:=by simp[epTo,epoch]
theorem zuO {D:Dk} {i n:Nat} (h:WM.head D i=some n):n<4611686018427387904:=by
 unfold WM.head at h;split at h
 ·cases h
 ·split at h
  ·cases h
  ·split at h
   ·cases h
   ·split at h
    ·rename_i hc
     cases h;exact hc.2.1
    ·cases h
theorem zfF (D:Dk):∀ i,epTo D i<4611686018427387904
 | 0=>by show 0<_;decide
 | i+1=>by
   have h1:=zfF D i
   have h2:(WM.head D i).getD 0<4611686018427387904:=by
    cases h:WM.head D i with
    | none=>decide
    | some n=>exact zuO h
   unfold epTo;omega
def z2O (D:Dk) (ep i:Nat):List UInt8:=((List.range i).map fun i=>(DM.read D ((WM.first D ep+i:Nat):Int)).1).flatten
theorem z7L (D:Dk) (ep i:Nat):z2O D ep (i+1)=z2O D ep i ++ (DM.read D ((WM.first D ep+i:Nat):Int)).1:=by simp[z2O,List.range_succ]
theorem z4I {D:Dk} (ep i:Nat) (h6:6≤D.safe.length) (hi:i<half D):WM.first D ep+i<D.safe.length:=by
 unfold WM.first;unfold half at *;have:ep % 2=0∨ep % 2=1:=by omega
 rcases this with h | h <;> rw[h] <;> omega
theorem z2Z {D:Dk} (ep:Nat) (h6:6≤D.safe.length) (hd:D.down=false) (ok:Ok D):∀ i,i≤half D→(z2O D ep i).length=32 * i
 | 0,_=>rfl
 | i+1,hi=>by
   rw[z7L,List.length_append,z2Z ep h6 hd ok i (by omega),(zaC D _ hd (z4I ep i h6 (by omega)) ok).2];omega
theorem zdS {D:Dk} {B:List UInt8} (hB:B.length=32 * half D):clean B (scan B (B.length+1) 0).2=z1F (half D) (scan B (B.length+1) 0).1:=by
 obtain⟨h1,h2,h3,-⟩:=z7V B (B.length+1) 0 (Nat.zero_le _);unfold clean z1F;rw[List.drop_zero] at h3;rw[h1,Nat.zero_add,h3,hB]
theorem zhG (ep:Nat) (B:List UInt8) (en:Nat) (D:Dk):(z7K ep B en D).2.safe.length=D.safe.length:=by
 unfold z7K;simp only;split
 ·rw[z6A,zbV]
 ·exact zbV _ _ _ _ _ _ _
def OpenTo (d:Nat) (Fd:Nat→Prop) (w:World) (R:Int×Option Lg×Dk) (e:Ending) (w':World):Prop:=
 match R.2.1 with
 | none=>e = .returned (.tuple #[.pointer none,.int .i64 R.1])∧DiskTo d Fd w R.2.2 w'
 | some g=>∃ b F Fd',e = .returned (.tuple #[.pointer (some ⟨b,0,none⟩),.int .i64 R.1])∧LogAt w' b d F Fd' R.2.2 g∧Keep Fd w w'∧(∀ k,F k→w.heap.size≤k)∧∀ k,Fd' k→Fd k∨w.heap.size≤k
structure OpRel (w:World) (b d ep h ga ca nn:Nat) (bs:List UInt8) (wr:World):Prop where
 head:wr.heap[b]?=some (.cells (z0N d ep h (.slice (some ⟨ga,0,none⟩) nn ca) (.slice none 0 0) 0 0 false) 164 (0,0))
 row:Row wr 5 1 (.slice (some ⟨ga,0,none⟩) nn ca) nn (z0B bs)
 keep:Keep (fun _=>False) w wr
theorem ztL (w:World) (d:Nat) (Fd:Nat→Prop) (D:Dk) (hD:DiskAt w d Fd D) (hfew:D.waits.length≤800000) :
  Calls Tryz.prog 43 #[.pointer (some ⟨d,0,none⟩)] w (OpenTo d Fd w (z2C D)):=by
 obtain⟨R,hR⟩:=zX1 (z2C D);rw[← hR]
 have no:∀ c,R=(c,none,D)→∀ w',Keep (fun _=>False) w w'→OpenTo d Fd w R (.returned (.tuple #[.pointer none,.int .i64 c])) w':=fun c h w' hk=>by
  rw[h];exact⟨rfl,Fd,hD.keep hk fun _ _ x=>x,hk.mono fun _ _ x=>x.elim,fun _ x=>.inl x⟩
 obtain⟨Post,hPost⟩:=zX1 (OpenTo d Fd w R);have HPost:=hid hPost;rw[← hPost] at no ⊢;have No:=hid no;have HR:=hid hR;have HD:=hid hD;clear no hR hD hPost;have hfewD:=HD.out.ok.few;obtain⟨ns,hns⟩:=zX1 (D.safe.length)
 by_cases h6:ns<6
 ·have hN:=No.out 40 (by rw[HR.out];unfold z2C;rw[if_pos (by omega)]) w (Keep.refl _ _)
  have HN:=hid hN;have q1:(ns:Int)<6:=by omega
  have hsec:=z8Z w d Fd D HD.out;rw[← hns] at hsec;clear hN hns;go_enter Tryz.func43,Tryz.ntmps43;go_wp2_with fail;refine hsec.mono ?_;rintro e w2 ⟨rfl,rfl⟩;go_wp2_with fail;exact HN.out
 cases hd:D.down with
 | true=>
   have hN:=No.out 6 (by rw[HR.out];unfold z2C;rw[if_neg (by omega),if_pos hd]) w (Keep.refl _ _);have HN:=hid hN;have q1:¬ (ns:Int)<6:=by omega
   have hsec:=z8Z w d Fd D HD.out;have hup:=zlT w d Fd D HD.out;rw[← hns] at hsec;rw[hd] at hup;clear hN hns;go_enter Tryz.func43,Tryz.ntmps43;go_wp2_with fail;refine hsec.mono ?_;rintro e w2 ⟨rfl,rfl⟩;go_wp2_with fail;refine hup.mono ?_;rintro e w2 ⟨rfl,rfl⟩;go_wp2_with fail;exact HN.out
 | false=>
   have q1:¬ (ns:Int)<6:=by omega
   have hsec:=z8Z w d Fd D HD.out;have hup:=zlT w d Fd D HD.out;rw[← hns] at hsec;rw[hd] at hup;obtain⟨h,hh⟩:=zX1 (half D);have hh2:h=(ns - 2) / 2:=by rw[hh,hns];rfl
   obtain⟨n2,hn2⟩:=zX1 (ns - 2);have q2:(ns:Int) - 2=(n2:Int):=by omega
   have q3:(n2:Int).tdiv 2=(h:Int):=by rw[Int.tdiv_eq_ediv_of_nonneg (by omega)];omega
   have q4:(n2:Int) / 2=(h:Int):=by omega
   have q5:=wi64 n2 (by omega);have q6:=wi64 h (by omega);have hH:=hid (zA1 hh (zA1 hh2 hn2));have hns6:6≤D.safe.length:=by omega
   have hh1023:h≤1023:=by omega
   have Hns:=hid hns;clear hh hh2 hn2 hns;go_enter Tryz.func43,Tryz.ntmps43;go_wp2_with fail;refine hsec.mono ?_;rintro e w2 ⟨rfl,rfl⟩;go_wp2_with fail;refine hup.mono ?_;rintro e w2 ⟨rfl,rfl⟩;go_wp2_with fail;refine hsec.mono ?_;rintro e w2 ⟨rfl,rfl⟩;go_wp2_with fail;have hh1:=heap_alloc_new w (.cells #[.pointer (some ⟨d,0,none⟩),.int .u64 0,.int .i64 (h:Nat),.slice none 0 0,.slice none 0 0,.int .i64 0,.int .i64 0,.bool false] 164);have hk1:=kal w (.cells #[.pointer (some ⟨d,0,none⟩),.int .u64 0,.int .i64 (h:Nat),.slice none 0 0,.slice none 0 0,.int .i64 0,.int .i64 0,.bool false] 164);obtain⟨w1,hw1⟩:=zX1 (w.alloc (.cells #[.pointer (some ⟨d,0,none⟩),.int .u64 0,.int .i64 (h:Nat),.slice none 0 0,.slice none 0 0,.int .i64 0,.int .i64 0,.bool false] 164));obtain⟨b,hb⟩:=zX1 (w.heap.size);rw[← hw1] at hh1 hk1 ⊢;rw[← hb] at hh1 ⊢;have H0:=hid (show w1.heap[b]?=some (.cells (z0N d (epTo D 0) h (.slice none 0 0) (.slice none 0 0) 0 0 false) 164 (0,0))∧Keep (fun _=>False) w w1 from⟨hh1,hk1⟩);have Hb:=hid hb;have HS:=hid (zA1 hsec hup);clear hw1 hh1 hk1 hb hsec hup q1 q2 q3 q4 q5
   go_loopw [5,6,7,30] (fun _ _ _ iv wr=>∃ i:Nat,i≤2∧iv = .int .i64 i∧Hid (wr.heap[b]?=some (.cells (z0N d (epTo D i) h (.slice none 0 0) (.slice none 0 0) 0 0 false) 164 (0,0))∧Keep (fun _=>False) w wr)) (fun _ _ _ iv _=>2 - (intOf iv).toNat)
   case atStart=>exact⟨0,by decide,rfl,H0⟩
   case round=>
    clear H0;obtain⟨i,hi,rfl,HI⟩:=hrel
    by_cases hi2:i<2
    ·have t1:(i:Int)<2:=by omega
     have hhead:=zrQ wr d Fd D i (HD.out.keep HI.out.2 fun _ _ x=>x) hd (by omega) hi2;go_wp2_with fail;refine hhead.mono ?_;clear hhead;rintro e w2 ⟨n,rfl,hn,hk2⟩;have hh2:=hk2.get HI.out.1 id;obtain⟨i0,i1,i2,i3,i4,i5,i6,i7,if1,ib1⟩:=z1K (show w2.heap[b]?=some (.cells #[_,_,_,_,_,_,_,_] _ (0,0)) from hh2);have hk02:Keep (fun _=>False) w w2:=HI.out.2.next hk2 (fun _ _ x=>x) (fun _ _ x=>x);have H2:=hid (zA1 hh2 hk02);clear hh2 hk02 hk2
     cases hm:WM.head D i with
     | none=>
       have he:epTo D (i+1)=epTo D i:=by simp[epTo,hm]
       have HZ:=hid (show w2.heap[b]?=some (.cells (z0N d (epTo D (i+1)) h (.slice none 0 0) (.slice none 0 0) 0 0 false) 164 (0,0))∧Keep (fun _=>False) w w2 by rw[he];exact H2.out);clear hm hn he;rw[show (none:Option Nat).isSome=false from rfl];go_wp2_with fail;go_roundw
       case rel=>exact⟨i+1,by omega,by go_num,HZ⟩
       case measure=>simp[intOf];omega
     | some m=>
       have hnm:n=m:=hn m hm;have he:epTo D (i+1)=max (epTo D i) n:=by simp[epTo,hm,hnm]
       have He:=hid he;have hmx:=fun w:World=>zpP w (epTo D i) n;obtain⟨ep,hep⟩:=zX1 (epTo D i);rw[← hep] at hmx i1 H2 He;clear hm hn he hnm hep;rw[show (some m:Option Nat).isSome=true from rfl];go_wp2_with fail;have hk3:Keep (fun k=>k=b) w2 (w2.setCell ⟨b,1,none⟩ (.int .u64 ((max ep n:Nat):Int))):=kst;have hh3:=z0A H2.out.1 1 (.int .u64 ((max ep n:Nat):Int))
       have HZ:=hid (show (w2.setCell ⟨b,1,none⟩ (.int .u64 ((max ep n:Nat):Int))).heap[b]?=some (.cells (z0N d (epTo D (i+1)) h (.slice none 0 0) (.slice none 0 0) 0 0 false) 164 (0,0))∧Keep (fun _=>False) w (w2.setCell ⟨b,1,none⟩ (.int .u64 ((max ep n:Nat):Int))) by
        refine⟨by rw[hh3,He.out];rfl,H2.out.2.next hk3 (fun _ _ x=>x) (fun k hk x=>by have:=Hb.out;omega)⟩)
       clear hk3 hh3;go_roundw
       case rel=>exact⟨i+1,by omega,by go_num,HZ⟩
       case measure=>simp[intOf];omega
    ·obtain rfl:i=2:=by omega
     have t1:¬ ((2:Nat):Int)<2:=by omega
     obtain⟨hh2,hk2⟩:=HI.out;rw[z9O] at hh2;obtain⟨ep,hep⟩:=zX1 (epoch D);rw[← hep] at hh2;obtain⟨i0,i1,i2,i3,i4,i5,i6,i7,if1,ib1⟩:=z1K (show wr.heap[b]?=some (.cells #[_,_,_,_,_,_,_,_] _ (0,0)) from hh2);obtain⟨nn,hnn⟩:=zX1 (32 * h);have t2:(h:Int) * 32=(nn:Int):=by omega
     have t3:=wi64 nn (by omega);have hmk:=fun w:World=>z8L (P:=Tryz.prog) z0W .i64 .i64 nn (by omega) (by unfold maxLen;omega) w;have H2:=hid (zA1 hh2 (zA1 hk2 (zA1 hep hnn)));clear hh2 hk2 hep hnn HI;go_wp2_with (at_builtin;refine z0H ?_;intro q hq);obtain⟨ga,hga⟩:=zX1 (wr.heap.size);have hkA:Keep (fun k=>k=b) wr (wr.setCell ⟨b,3,none⟩ (.slice (some ⟨wr.heap.size,0,none⟩) nn nn)):=kst;have hhA:=z0A H2.out.1 3 (.slice (some ⟨wr.heap.size,0,none⟩) nn nn);have hszA:(wr.setCell ⟨b,3,none⟩ (.slice (some ⟨wr.heap.size,0,none⟩) nn nn)).heap.size=wr.heap.size:=by simp[World.setCell]
     obtain⟨wA,hwA⟩:=zX1 (wr.setCell ⟨b,3,none⟩ (.slice (some ⟨wr.heap.size,0,none⟩) nn nn));rw[← hwA] at hkA hhA hszA ⊢;have hg3:=heap_alloc_new wA (.cells (madeCells #[.int .u8 0] nn) 5);have hk3:=kal wA (.cells (madeCells #[.int .u8 0] nn) 5);obtain⟨w3,hw3⟩:=zX1 (wA.alloc (.cells (madeCells #[.int .u8 0] nn) 5));rw[← hw3] at hg3 hk3 ⊢;rw[hszA,← hga] at hg3;rw[← hga] at hhA
     have hrow3:Row w3 5 1 (.slice (some ⟨ga,0,none⟩) nn nn) nn (z0B (List.replicate nn 0)):=by
      have h1:=Row.made (w:=w3) (e:=5) (size:=1) (g:=ga) (n:=nn) (z:=(Value.int .u8 0).cells) (by rw[Nat.mul_one];exact hg3) (by unfold maxLen;omega);rw[zdK] at h1;exact h1
     have hgab:ga≠b:=fun e=>by have:=z0M H2.out.1;omega
     have hh3:=hk3.get hhA id;have hkw3:Keep (fun _=>False) w w3:=(H2.out.2.1.next hkA (fun _ _ x=>x) (fun k hk x=>by have:=Hb.out;omega)).next hk3 (fun _ _ x=>x) (fun _ _ x=>x);have hga0:w.heap.size≤ga:=by have:=H2.out.2.1.size;omega
     have hga3:=z0M hg3;have R0:=hid (show OpRel w b d ep h ga nn nn (z2O D ep 0 ++ List.replicate (nn - 32 * 0) 0) w3 from⟨hh3,by simpa [z2O] using hrow3,hkw3⟩);have HG:=hid (zA1 hga0 hgab);have H2':=hid (zA1 H2.out.2.2.1 H2.out.2.2.2);clear hwA hw3 hkA hhA hszA hg3 hk3 hrow3 hh3 hkw3 hga i0 i1 i2 i3 i4 i5 i6 i7 if1 ib1 hmk H2 hga0 hga3
     go_loopw [8,9,10,63] (fun _ _ _ iv wx=>∃ i:Nat,i≤h∧iv = .int .i64 i∧Hid (OpRel w b d ep h ga nn nn (z2O D ep i ++ List.replicate (nn - 32 * i) 0) wx)) (fun _ _ _ iv _=>h - (intOf iv).toNat)
     case atStart=>exact⟨0,Nat.zero_le _,rfl,R0⟩
     case round=>
      clear R0;obtain⟨i,hi,rfl,HI⟩:=hrel;obtain⟨i0,i1,i2,i3,i4,i5,i6,i7,if1,ib1⟩:=z1K (show wr.heap[b]?=some (.cells #[_,_,_,_,_,_,_,_] _ (0,0)) from HI.out.head)
      by_cases hih:i<h
      ·have s1:(i:Int)<(h:Int):=by omega
       have hfst:=z8I wr b d ep h _ _ 0 0 false HI.out.head hh1023 ep;have hfi:2+ep % 2 * h=WM.first D ep:=by rw[hH.out.1];rfl
       have hfl:=z4I (D:=D) ep i hns6 (by have:=hH.out.1;omega);rw[hfi] at hfst;obtain⟨q,hq⟩:=zX1 (WM.first D ep);rw[← hq] at hfst hfl;obtain⟨t,ht⟩:=zX1 (q+i);have g1:(q:Int)+(i:Int)=(t:Int):=by omega
       have g2:=wi64 t (by omega);have hrd:=zlC wr d Fd D (t:Int) (HD.out.keep HI.out.keep fun _ _ x=>x) (by omega);obtain⟨r1,r2⟩:=zaC D t hd (by omega) HD.out.ok;rw[r1,r2] at hrd;have hsuc:=z7L D ep i;rw[← hq,← ht] at hsuc;obtain⟨S,hS⟩:=zX1 ((DM.read D (t:Int)).1);rw[← hS] at hrd hsuc r2;have HS2:=hid (zA1 hsuc (zA1 r2 (z2Z ep hns6 hd HD.out.ok i (by have:=hH.out.1;omega))));obtain⟨p,hp⟩:=zX1 (i * 32);have g3:(i:Int) * 32=(p:Int):=by omega
       have g4:=wi64 p (by omega);have Hnn:=H2'.out.2
       have hsl:∀ w,(Instr.sliceAt 29 (.slice (some ⟨ga,0,none⟩) nn nn) (some (.int .i64 (p:Int))) none none).run Tryz.prog w = .ok (.slice (some ⟨ga,p,none⟩) (nn - p) (nn - p)) w:=fun w=>by
        have h:=z2H (P:=Tryz.prog) z0W (some ⟨ga,0,none⟩) nn nn .i64 p (by omega) w
        have e:z1J (some ⟨ga,0,none⟩) nn p 1=some ⟨ga,p,none⟩:=by
         unfold z1J;rw[if_neg (by omega)];simp[z0L]
        rw[e] at h;exact h
       have HP:=hid (zA1 hp Hnn);clear hfi hfl hq ht r1 r2 hsuc hS hp Hnn;go_wp2_with fail;refine hfst.mono ?_;rintro e w4 ⟨rfl,rfl⟩;go_wp2_with fail;refine hrd.mono ?_;rintro e w5 ⟨v5,rfl,hrow5,hk5,hown5⟩;obtain⟨ad5,c5,rfl,-⟩:=hrow5.form;have hh5:=hk5.get HI.out.head id;have hga5:=HI.out.row.keep hk5 fun _ _ x=>x;clear i0 i1 i2 i3 i4 i5 i6 i7 if1 ib1;obtain⟨i0,i1,i2,i3,i4,i5,i6,i7,if1,ib1⟩:=z1K (show w5.heap[b]?=some (.cells #[_,_,_,_,_,_,_,_] _ (0,0)) from hh5);obtain⟨gx,capx,cur,fz,hvx,hg5,hfz,hn5,hc5,hz5,ht5⟩:=hga5.some (by have:=HP.out;omega);simp at hvx;obtain⟨rfl,rfl⟩:=hvx;have hSl:(z0B S).length=32:=by rw[z0D];exact HS2.out.2.1
       have hcp:=z6C (P:=Tryz.prog) (w:=w5) (sT:=29) (ty:=3) z0W ga p (nn - p) (nn - p) cur 5 fz hg5 hfz ad5 32 c5 (z0B S) 32 (Nat.min_eq_left (by have:=HP.out;omega)) (by have h:=Cells.of_row hrow5;exact h) (by have:=HP.out;omega) (z1R _);have hr6:=Row.spliced hga5 hg5 p (z0B S) (by have:=HP.out;omega);have hk6:Keep (fun k=>k=ga) w5 (w5.setRow ga (splice cur.toList p (z0B S)).toArray):=by refine Keep.setRow (Keep.refl _ _) (.inl ?_) _;rfl
       obtain⟨w6,hw6⟩:=zX1 (w5.setRow ga (splice cur.toList p (z0B S)).toArray);rw[← hw6] at hcp hr6 hk6;have hh6:=hk6.get hh5 (fun e=>HG.out.2 e.symm)
       have HZ:=hid (show OpRel w b d ep h ga nn nn (z2O D ep (i+1) ++ List.replicate (nn - 32 * (i+1)) 0) w6 from
        ⟨hh6,by
         obtain⟨z1,z2,z3⟩:=HS2.out;obtain⟨hp,hnn⟩:=HP.out;rw[z5Y] at hr6
         have e:(z2O D ep i ++ List.replicate (nn - 32 * i) 0).take p ++ (S ++ (z2O D ep i ++ List.replicate (nn - 32 * i) 0).drop (p+S.length))=z2O D ep (i+1) ++ List.replicate (nn - 32 * (i+1)) 0:=by
          rw[z1,List.append_assoc,show p=(z2O D ep i).length by omega,List.take_left,z2,List.drop_append,List.drop_of_length_le (by omega),List.nil_append,List.drop_replicate];congr 3;omega
         rw[e] at hr6
         exact hr6,(HI.out.keep.nx hk5).next hk6 (fun _ _ x=>x) (fun k hk x=>by have:=HG.out.1;omega)⟩)
       clear hh5 hga5 hg5 hfz hn5 hc5 hz5 ht5 hr6 hk6 hw6 hh6 hrow5 hk5 hown5 hSl;go_wp2_with fail;go_roundw
       case rel=>exact⟨i+1,by omega,by go_num,HZ⟩
       case measure=>simp[intOf];omega
      ·obtain rfl:h=i:=by omega
       have s1:¬ (h:Int)<(h:Int):=by omega
       obtain⟨z1,z2⟩:=H2'.out;have hBe:z2O D ep h ++ List.replicate (nn - 32 * h) 0=z2O D ep h:=by rw[show nn - 32 * h=0 by omega];simp
       have hhead:=HI.out.head;have hrow:=HI.out.row;have hkeep:=HI.out.keep;rw[hBe] at hrow;obtain⟨B,hB⟩:=zX1 (z2O D ep h);rw[← hB] at hrow;have hBl:B.length=nn:=by rw[hB,z2Z ep hns6 hd HD.out.ok h (by have:=hH.out.1;omega),z2]
       have hgab:=HG.out.2;have hscan:=zsU wr b d ep h ga nn nn B hhead hrow (by omega) (fun e=>hgab e.symm);obtain⟨L,hL⟩:=zX1 ((scan B (B.length+1) 0).1);obtain⟨en,hen⟩:=zX1 ((scan B (B.length+1) 0).2);obtain⟨sp1,sp2,sp3,sp4⟩:=z7V B (B.length+1) 0 (Nat.zero_le _);rw[← hL,← hen] at hscan sp1;rw[← hL] at sp4;rw[← hen] at sp2;have hcl:clean B en=z1F (half D) L:=by rw[hen,hL];exact zdS (by rw[hBl,z2,hH.out.1])
       have hRR:R=if (z7K ep B en D).1≠0 then ((z7K ep B en D).1,none,(z7K ep B en D).2) else (0,some ⟨ep,L,L.length,false⟩,(z7K ep B en D).2):=by
        rw[HR.out];unfold z2C;rw[if_neg (by have:=Hns.out;omega),if_neg (by rw[hd];simp)];have e1:WM.bytes D (epoch D)=B:=by rw[hB,← z1,hH.out.1];rfl
        simp only;rw[e1,← z1,← hen,← hL];unfold z7K;simp only;generalize WM.wipe ep B en 0 (half D) false D=Z
        by_cases c1:Z.1=0
        ·rw[if_neg (by simp[c1])]
         by_cases c2:Z.2.1=true
         ·have e:(if Z.1=0∧Z.2.1=true then DM.sync Z.2.2 else (Z.1,Z.2.2))=DM.sync Z.2.2:=if_pos ⟨c1,c2⟩
          rw[if_pos c2,e]
         ·have e:(if Z.1=0∧Z.2.1=true then DM.sync Z.2.2 else (Z.1,Z.2.2))=(Z.1,Z.2.2):=if_neg (fun h=>c2 h.2)
          rw[if_neg c2,e,if_neg (by simp[c1])]
        ·have e:(if Z.1=0∧Z.2.1=true then DM.sync Z.2.2 else (Z.1,Z.2.2))=(Z.1,Z.2.2):=if_neg (fun h=>c1 h.1)
         rw[if_pos c1,e,if_pos c1]
       have HRR:=hid hRR;have HX:=hid (zA1 hhead (zA1 hrow (zA1 hkeep (zA1 hBl (zA1 sp1 (zA1 sp2 (zA1 sp4 (zA1 hcl (zA1 z1 z2)))))))));clear hRR hhead hrow hkeep hBl sp1 sp2 sp3 sp4 hcl z1 z2 hBe hB hL hen i0 i1 i2 i3 i4 i5 i6 i7 if1 ib1;go_wp2_with fail;refine hscan.mono ?_;rintro e w4 ⟨rfl,hk4,vl,vs,hh4,hrec4⟩;have hk04:Keep (fun _=>False) w w4:=HX.out.2.2.1.next hk4 (fun _ _ x=>x) (fun k hk x=>by have:=Hb.out;omega);have hrow4:=HX.out.2.1.keep hk4 (fun k e x=>by simp[Value.ownBlock] at e;omega);have hDl:=HD.out.lt;have hbn:¬ Fd b:=fun x=>by have:=hDl b x;have:=Hb.out;omega
       have hgn:¬ Fd ga:=fun x=>by have:=hDl ga x;have:=HG.out.1;omega
       have hhh:=hH.out.1;have hwipe:=zrO w4 b d ga nn ep en nn Fd D B vl L.length (by rw[← hhh];exact hh4) hrow4 (by rw[← hhh];exact HX.out.2.2.2.2.2.2.2.2.2) (by have h1:=HX.out.2.2.2.1;have h2:=HX.out.2.2.2.2.2.1;omega) (HD.out.keep hk04 fun _ _ x=>x) hbn hgn hgab hfew;obtain⟨Y,hY⟩:=zX1 (z7K ep B en D);have hYl:Y.2.safe.length=D.safe.length:=by rw[hY];exact zhG _ _ _ _
       rw[← hY] at hwipe HRR;have H4:=hid (zA1 hk04 (zA1 hh4 (zA1 hrec4 (zA1 hYl (zA1 hhh (zA1 hbn (zA1 hgn (zA1 (z0M hh4) hk4.size))))))));have HWp:=hid hwipe;clear hwipe hk4 hh4 hrec4 hk04 hrow4 hDl hYl hhh hY hscan;go_wp2_with fail;refine HWp.out.mono ?_;rintro e w5 ⟨rfl,hk5,⟨Fd',hD5,hF5⟩,hrow5⟩;have hk05:Keep Fd w w5:=H4.out.1.next hk5 (fun _ _ x=>x.elim) (fun k hk x=>x.elim id fun h=>by have:=HG.out.1;omega);have hF05:∀ k,Fd' k→Fd k∨w.heap.size≤k:=fun k x=>(hF5 k x).imp id fun h=>Nat.le_trans H4.out.1.size h;have hHP:=HPost.out
       by_cases y0:Y.1=0
       rotate_left
       ·have hR2:R=(Y.1,none,Y.2):=by rw[HRR.out,if_pos y0]
        have HF:=hid (show Post (.returned (.tuple #[.pointer none,.int .i64 Y.1])) w5 by rw[hHP,hR2];exact⟨rfl,Fd',hD5,hk05,hF05⟩);have u1:(Y.1 == 0)=false:=by simp[y0]
        have u2:(Y.1 != 0)=true:=by simp[y0]
        have u3:decide (Y.1=0)=false:=by simp[y0]
        clear hHP hR2 hk5 hD5 hF5 hrow5 hk05 hF05 y0;go_wp2_with fail;exact HF.out
       ·have hR2:R=(0,some ⟨ep,L,L.length,false⟩,Y.2):=by rw[HRR.out,if_neg (by simp[y0])]
        have HF:=hid (show Post (.returned (.tuple #[.pointer (some ⟨b,0,none⟩),.int .i64 0])) w5 by
         rw[hHP,hR2];obtain⟨x1,x2,x3,x4,x5,x6,x7,x8,x9,x10⟩:=HX.out;obtain⟨t1,t2,t3,t4,t5,t6,t7,t8,t9⟩:=H4.out;have hb0:=Hb.out;have hg0:=HG.out.1;have s05:=hk05.size;have s45:=hk5.size;have s04:=t1.size;have s0r:=x3.size;have hrow:=hrow5 y0;rw[x8] at hrow;have hgl:=hrow.lt (k:=ga) (by simp[Value.ownBlock]);have hrec:=(t3.bound.mono (F':=fun k=>w.heap.size≤k∧k<w4.heap.size) (A':=fun k=>k=b∨k=ga) (fun k h1 h2=>⟨⟨Nat.le_trans s0r h1.1,h1.2⟩,h2⟩));refine⟨b,fun k=>w.heap.size≤k∧k<w4.heap.size,Fd',rfl,⟨ga,nn,vl,vs,?_,hD5,fun k h1 h2=>?_⟩,hk05,fun k h1=>h1.1,hF05⟩
         ·rw[z2W t4,← t5]
          rw[← t5] at hrow;refine⟨?_,by rw[← x10];exact hrow,hrec.keep hk5 fun k h1 h2 h3=>?_,⟨by omega,t8⟩,⟨hg0,?_⟩,fun e=>hgab e.symm,fun k h1=>Nat.lt_of_lt_of_le h1.2 s45,?_⟩
          ·have h9:=hk5.get t2 (fun h=>h.elim t6 fun h=>hgab h.symm)
           rw[h9,← x10];have h10:en=(flat L).length:=by omega
           rw[h10]
          ·rcases h3 with h3 | h3
           ·have:=HD.out.lt k h3;omega
           ·exact h2 (.inr h3)
          ·have h11:=x2.lt (k:=ga) (by simp[Value.ownBlock])
           omega
          ·have he:=zfF D 2
           rw[z9O,← x9] at he;have h12:=hH.out.2.1;have h13:=Hns.out;exact⟨by show (flat L).length≤_;omega,by omega,hh1023,he,x7,Nat.le_refl _⟩
         ·rcases hF5 k h2 with h3 | h3
          ·have:=HD.out.lt k h3;omega
          ·omega)
        rw[y0];clear hHP hR2 hk5 hD5 hF5 hrow5 hk05 hF05 y0;go_wp2_with fail;exact HF.out
end
section
open Go.RowKit
open DM BM WM
theorem z4N (w:World) (d:Nat) (Fd:Nat→Prop) (D:Dk) (hD:RefAt w d Fd D) :
  Calls Tryz.prog 132 #[.pointer (some ⟨d,0,none⟩)] w fun e w'=>e = .returned (.int .i64 (half D:Nat))∧w'=w:=by
 obtain⟨vs,vw,hI⟩:=hD;have hh:=hI.head;unfold z1S at hh;obtain⟨h0,h1,h2,h3,hf,hb⟩:=z2I hh;have hpos:=hI.ok.pos;have hfew:=hI.ok.few;obtain⟨ad,cap,rfl,-⟩:=hI.safe.form;obtain⟨ns,hns⟩:=zX1 (D.safe.length);rw[← hns] at h0 hpos hfew;obtain⟨x,hx⟩:∃ x:Int,x=(ns:Int) - 2:=⟨_,rfl⟩;have q0:(ns:Int) - 2=x:=hx.symm;have q1:=show IntKind.i64.wrap x=x by simp[IntKind.wrap,IntKind.signed,IntKind.bits];omega
 have q2:x.tdiv 2=(half D:Int):=by
  have e:half D=(ns - 2) / 2:=by rw[hns];rfl
  rw[e];have:ns=1∨2≤ns:=by omega
  rcases this with h | h
  ·subst h;subst hx;rfl
  ·rw[Int.tdiv_eq_ediv_of_nonneg (by omega)];omega
 have q3:=wi64 (half D) (by unfold half;omega);clear hh hI hns hx h1 h2 h3;generalize half D=hf2 at *;go_enter Tryz.func132,Tryz.ntmps132;go_wp2_with fail;go_ret;exact⟨rfl,rfl⟩
theorem zaD (w:World) (d:Nat) (Fd:Nat→Prop) (D:Dk) (hD:RefAt w d Fd D) (ep:Nat) :
  Calls Tryz.prog 133 #[.pointer (some ⟨d,0,none⟩),.int .u64 (ep:Nat)] w fun e w'=>e = .returned (.int .i64 (WM.first D ep:Nat))∧w'=w:=by
 have hfew:=hD.ok.few;have hh:half D≤1023:=by unfold half;omega
 have hcall:=z4N w d Fd D hD;have hfi:WM.first D ep=2+ep % 2 * half D:=rfl;rw[hfi];obtain⟨h,hhd⟩:=zX1 (half D);rw[← hhd] at hcall hh ⊢;clear hhd hfi;have e2:ep % 2<2:=Nat.mod_lt _ (by decide);obtain⟨r,hr⟩:=zX1 (ep % 2);have q1:((ep:Int) % 2)=(r:Int):=by omega
 have q2:((ep:Int).tmod 2)=(r:Int):=by rw[Int.tmod_eq_emod_of_nonneg (by omega)];exact q1
 have q3:=wi64 r (by omega);obtain⟨p,hp⟩:=zX1 (r * h)
 have hp2:p≤1023:=by
  rw[hp];have:r=0∨r=1:=by omega
  rcases this with rfl | rfl <;> omega
 have q4:(r:Int) * (h:Int)=(p:Int):=by rw[hp];push_cast;rfl
 have q5:=wi64 p (by omega);have HP:=hid (show 2+ep % 2 * h=2+p by rw[hp,hr]);clear hr hp e2;go_enter Tryz.func133,Tryz.ntmps133;go_wp2_with fail;refine hcall.mono ?_;rintro e w2 ⟨rfl,rfl⟩;go_wp2_with fail;go_ret;refine⟨?_,rfl⟩;rw[HP.out]
 push_cast
 rfl
theorem zoF (w:World) (d:Nat) (Fd:Nat→Prop) (D:Dk) (i:Nat) (hD:RefAt w d Fd D) (hd:D.down=false) (hi:i<D.safe.length) (hi2:i<2) (hfewW:D.waits.length≤1000000) :
  Calls Tryz.prog 94 #[.pointer (some ⟨d,0,none⟩),.int .i64 (i:Nat)] w (HeadPost D i w):=by
 have hfew:=hD.ok.few;have hr:=zjT w d Fd D (i:Int) hD (by omega) hfewW;obtain⟨r1,r2⟩:=zaC D i hd hi hD.ok;rw[r1,r2] at hr;obtain⟨B,hB⟩:=zX1 ((DM.read D (i:Int)).1);rw[← hB] at hr r2;have HHd:=hid (show WM.head D i=match BM.get B 0 with | .no _=>none | .yes k body _=>if k≠1 then none else match BM.uint body 0 with | .no _=>none | .yes n t=>if t=body.length∧n<4611686018427387904∧n % 2=i then some n else none by rw[hB];rfl)
 have no:WM.head D i=none→∀ w',Keep (fun _=>False) w w'→∀ n:Nat,HeadPost D i w (.returned (.tuple #[.int .u64 (n:Nat),.bool false])) w':=fun h w' hk n=>
  ⟨n,by rw[h];rfl,fun m hm=>(by rw[h] at hm;cases hm),hk⟩
 have No:=hid no
 have yes:∀ n,WM.head D i=some n→∀ w',Keep (fun _=>False) w w'→HeadPost D i w (.returned (.tuple #[.int .u64 (n:Nat),.bool true])) w':=fun n h w' hk=>
  ⟨n,by rw[h];rfl,fun m hm=>(by rw[h] at hm;cases hm;rfl),hk⟩
 have Yes:=hid yes;have R2:=hid r2;obtain⟨Post,hPost⟩:=zX1 (HeadPost D i w);rw[← hPost] at No Yes ⊢;clear no yes hB r1 r2 hD hPost;go_enter Tryz.func94,Tryz.ntmps94;go_wp2_with fail;refine hr.mono ?_;rintro e w1 ⟨v1,rfl,hrow1,hk1,hown1⟩;obtain⟨ad1,c1,rfl,hc1,-⟩:=hrow1.form;have hget:=zkJ w1 ad1 32 c1 0 B (by have h:=Cells.of_row hrow1;exact h) (Nat.zero_le _) hc1 (by decide);have HK1:=hid hk1;clear hr hrow1 hk1 hown1 hc1;go_wp2_with fail;obtain⟨gt,hgt⟩:=zX1 (BM.get B 0);rw[← hgt] at hget HHd;refine hget.mono ?_;clear hget;intro e w2 hp
 cases gt with
 | no m=>
   obtain⟨rfl,hk2⟩:=hp;have hm:=zlR hgt.symm;have hz:WM.head D i=none:=HHd.out;have hk12:Keep (fun _=>False) w w2:=HK1.out.next hk2 (fun _ _ x=>x) (fun _ _ x=>x);have u1:((m:Int) != 0)=true:=by simp;omega
   have u2:((m:Int) == 0)=false:=by simp;omega
   have hN:=fun w' (h:Keep (fun _=>False) w2 w')=>No.out hz w' (hk12.next h (fun _ _ x=>x) (fun _ _ x=>x)) 0;have HN:=hid hN;clear hgt hm hz hk12 hk2 hN;go_wp2_with fail;refine HN.out _ ?_
   first | exact(Keep.refl _ _).alloc _ | exact(((Keep.refl _ _).alloc _).setCell (.inr (Nat.le_refl _)) _).setCell (.inr (Nat.le_refl _)) _
 | yes k body q=>
   obtain⟨v,rfl,hf2⟩:=hp;obtain⟨ad2,c2,rfl,hc2,-⟩:=hf2.row.form;obtain⟨-,-,hb1,-⟩:=z6J hgt.symm;have hk12:Keep (fun _=>False) w w2:=HK1.out.next hf2.keep (fun _ _ x=>x) (fun _ _ x=>x)
   by_cases hk:k=1
   rotate_left
   ·have hz:WM.head D i=none:=by rw[HHd.out];simp[hk]
    have u1:((k.toNat:Int) != 1)=true:=by
     have:k.toNat≠1:=fun e=>hk (UInt8.toNat_inj.1 e);simp;omega
    have hN:=fun w' (h:Keep (fun _=>False) w2 w')=>No.out hz w' (hk12.next h (fun _ _ x=>x) (fun _ _ x=>x)) 0;have HN:=hid hN;clear hgt hz hk12 hN hk hf2;generalize k.toNat=kk at *;go_wp2_with fail;refine HN.out _ ?_
    first | exact(Keep.refl _ _).alloc _ | exact(((Keep.refl _ _).alloc _).setCell (.inr (Nat.le_refl _)) _).setCell (.inr (Nat.le_refl _)) _
   ·subst hk
    have HHe:=hid (show WM.head D i=match BM.uint body 0 with | .no _=>none | .yes n t=>if t=body.length∧n<4611686018427387904∧n % 2=i then some n else none by rw[HHd.out];simp);have HF2:=hid hf2;have HK12:=hid hk12;clear hgt hk12 hf2 HHd;rw[show ((1:UInt8).toNat:Int)=1 from rfl];go_wp2_with fail;obtain⟨w3,hw3⟩:=zX1 (w2.alloc (.cells #[.int .u8 1,.slice ad2 body.length c2] 177));have hh3:w3.heap[w2.heap.size]?=some (.cells #[.int .u8 1,.slice ad2 body.length c2] 177):=by rw[hw3];exact heap_alloc_new w2 _
    have hk3:Keep (fun _=>False) w2 w3:=by rw[hw3];exact(Keep.refl _ _).alloc _
    rw[← hw3];clear hw3;refine(z7N w3 ad2 body.length c2 0 body ((Cells.of_row HF2.out.row).keep hk3 fun _ _ x=>x) (Nat.zero_le _) (by omega)).mono ?_;rintro e w4 ⟨rfl,hk4⟩;have hh4:=hk4.get hh3 id;obtain⟨a0,a1,af,-⟩:=z5N (show w4.heap[w2.heap.size]?=some (.cells #[_,_] _ (0,0)) from hh4);have HK4:=hid ((HK12.out.nx hk3).nx hk4);clear hh3 hk3 hk4 hh4;generalize hu:BM.uint body 0=un at *
    cases un with
    | no m=>
      have hm:=zpL hu;have hz:WM.head D i=none:=HHe.out;have u1:((m:Int) != 0)=true:=by simp;omega
      have u2:((m:Int) == 0)=false:=by simp;omega
      have u3:decide (m=0)=false:=by simp;omega
      have HN:=hid (No.out hz w4 HK4.out 0);clear hm hz hu;unfold numV;go_wp2_with fail;exact HN.out
    | yes n t=>
      have hz:=HHe.out;simp only at hz;obtain⟨bl,hbl⟩:=zX1 (body.length);obtain⟨r,hr⟩:=zX1 (n % 2);rw[← hbl] at hz a1 ⊢;have q1:((n:Int) % 2)=(r:Int):=by omega
      have q2:((n:Int).tmod 2)=(r:Int):=by rw[Int.tmod_eq_emod_of_nonneg (by omega)];exact q1
      have q3:=wi64 r (by omega);rw[← hr] at hz;unfold numV
      by_cases c1:t=bl
      rotate_left
      ·have HN:=hid (No.out (by rw[hz,if_neg (fun h=>c1 h.1)]) w4 HK4.out n)
       have u1:((t:Int) == (bl:Int))=false:=by simp;omega
       have u2:decide (t=bl)=false:=decide_eq_false c1;clear hz hbl hr hu c1;go_wp2_with fail;exact HN.out
      ·have u1:((t:Int) == (bl:Int))=true:=by simp;omega
       by_cases c2:n<4611686018427387904
       rotate_left
       ·have HN:=hid (No.out (by rw[hz,if_neg (fun h=>c2 h.2.1)]) w4 HK4.out n)
        have u3:decide ((n:Int)<4611686018427387904)=false:=decide_eq_false (by omega);have u4:decide (n<4611686018427387904)=false:=decide_eq_false c2;clear hz hbl hr hu c2 c1;go_wp2_with fail;exact HN.out
       ·have u3:(n:Int)<4611686018427387904:=by omega
        by_cases c3:r=i
        rotate_left
        ·have HN:=hid (No.out (by rw[hz,if_neg (fun h=>c3 h.2.2)]) w4 HK4.out n)
         have u5:((r:Int) == (i:Int))=false:=by simp;omega
         have u6:decide (r=i)=false:=decide_eq_false c3;clear hz hbl hr hu c2 c1 c3;go_wp2_with fail;exact HN.out
        ·have HN:=hid (Yes.out n (by rw[hz,if_pos ⟨c1,c2,c3⟩]) w4 HK4.out)
         have u5:((r:Int) == (i:Int))=true:=by simp;omega
         clear hz hbl hr hu c2 c1 c3;go_wp2_with fail;exact HN.out
end
section
open Go.RowKit
open DM BM WM
def Gives (w:World) (l:List UInt8) (e:Ending) (w':World):Prop:=∃ v,e = .returned v∧Fresh w v l w'
theorem znH (w:World) (d:Nat) (Fd:Nat→Prop) (D:Dk) (hD:RefAt w d Fd D) (hd:D.down=false) (h6:6≤D.safe.length) (ep:Nat) (hfewW:D.waits.length≤1000000) :
  Calls Tryz.prog 95 #[.pointer (some ⟨d,0,none⟩),.int .u64 (ep:Nat)] w (Gives w (z2O D ep (half D))):=by
 have hfew:=hD.ok.few;have HD:=hid hD;obtain⟨h,hh⟩:=zX1 (half D);have hh1023:h≤1023:=by rw[hh];unfold half;omega
 have Hh:=hid hh;rw[← hh];have H0:=hid (Fresh.nil w);clear hD hh;go_enter Tryz.func95,Tryz.ntmps95;go_wp2_with (at_builtin;refine z0H ?_;intro q hq)
 go_loopw [5,6,7,8] (fun ov iv _ _ wr=>∃ (i:Nat) (ad:Option Addr) (c:Nat),i≤h∧iv = .int .i64 i∧ov = .slice ad (32 * i) c∧Hid (Fresh w (.slice ad (32 * i) c) (z2O D ep i) wr)) (fun _ iv _ _ _=>h - (intOf iv).toNat)
 case atStart=>exact⟨0,none,0,Nat.zero_le _,rfl,rfl,H0⟩
 case round=>
  clear H0;obtain⟨i,ad,c,hi,rfl,rfl,HI⟩:=hrel;have hcall:=z4N wr d Fd D (HD.out.keep HI.out.keep fun _ _ x=>x);rw[← Hh.out] at hcall;obtain⟨m,hm⟩:=zX1 (32 * i);rw[← hm] at HI ⊢;have Hm:=hid hm;clear hm
  by_cases hih:i<h
  ·have s1:(i:Int)<(h:Int):=by omega
   have hfst:=zaD wr d Fd D (HD.out.keep HI.out.keep fun _ _ x=>x) ep;have hfl:=z4I (D:=D) ep i h6 (by have:=Hh.out;omega);obtain⟨q,hq⟩:=zX1 (WM.first D ep);rw[← hq] at hfst hfl;obtain⟨t,ht⟩:=zX1 (q+i);have g1:(q:Int)+(i:Int)=(t:Int):=by omega
   have g2:=wi64 t (by omega);have hrd:=zjT wr d Fd D (t:Int) (HD.out.keep HI.out.keep fun _ _ x=>x) (by omega) hfewW;obtain⟨r1,r2⟩:=zaC D t hd (by omega) HD.out.ok;rw[r1,r2] at hrd;have hsuc:=z7L D ep i;rw[← hq,← ht] at hsuc;obtain⟨S,hS⟩:=zX1 ((DM.read D (t:Int)).1);rw[← hS] at hrd hsuc r2;have HS2:=hid (zA1 hsuc (zA1 r2 (z2Z ep h6 hd HD.out.ok i (by have:=Hh.out;omega))));clear hfl hq ht r1 r2 hsuc hS;go_wp2_with fail;refine hcall.mono ?_;rintro e w2 ⟨rfl,rfl⟩;go_wp2_with fail;refine hfst.mono ?_;rintro e w4 ⟨rfl,rfl⟩;go_wp2_with fail;refine hrd.mono ?_;rintro e w5 ⟨v5,rfl,hrow5,hk5,hown5⟩;obtain⟨ad5,c5,rfl,-⟩:=hrow5.form;have H5:=hid (zA1 hrow5 hk5);clear hrow5 hk5 hown5;go_wp2_with (at_builtin;refine z0H ?_;intro q hq)
   (refine hq.out ?_;clear hq q)
   refine wpList_plain rfl (fun K hK=>?_);refine z0G (r:=S) _ _ rfl rfl (HI.out.later H5.out.2) ad5 32 c5 rfl (by have h:=Cells.of_row H5.out.1;exact h) (by have:=HS2.out.2.2;omega) ?_;intro v6 w6 hf6 _;have hl:z2O D ep i ++ S=z2O D ep (i+1):=HS2.out.1.symm;rw[hl] at hf6;have hln:(z2O D ep (i+1)).length=32 * (i+1):=z2Z ep h6 hd HD.out.ok (i+1) (by have:=Hh.out;omega);obtain⟨ad6,c6,hv6,-⟩:=hf6.row.form;rw[hln] at hv6;subst hv6;refine hK _ _ ?_;clear hK K;have HZ:=hid hf6;clear hf6 hl hln;go_wp2_with fail;go_roundw
   case rel=>exact⟨i+1,ad6,c6,by omega,by go_num,rfl,HZ⟩
   case measure=>simp[intOf];omega
  ·obtain rfl:h=i:=by omega
   have s1:¬ (h:Int)<(h:Int):=by omega
   go_wp2_with fail;refine hcall.mono ?_;rintro e w2 ⟨rfl,rfl⟩;go_wp2_with fail;go_ret;exact⟨_,rfl,HI.out⟩
def FramesPost (w:World) (L:List (List UInt8)) (e:Ending) (w':World):Prop:=
 if L.any (fun x=>decide (1024<x.length)) then e = .returned (.tuple #[.slice none 0 0,.int .i64 3])∧w'=w
 else if 65536<(flat L).length then e = .returned (.tuple #[.slice none 0 0,.int .i64 5])∧Keep (fun _=>False) w w'
 else ∃ v,e = .returned (.tuple #[v,.int .i64 0])∧Fresh w v (flat L) w'
theorem zaJ (w:World) (ao:Option Addr) (c:Nat) (L:List (List UInt8)) (hL:Lists w ao L) (hn:L.length≤1000000000) :
  Calls Tryz.prog 144 #[.slice ao L.length c] w (FramesPost w L):=by
 obtain⟨n,hnl⟩:=zX1 (L.length);obtain⟨Post,hPost⟩:=zX1 (FramesPost w L);rw[← hPost];have HPost:=hid hPost;have H:=hid hL;have HN:=hid hnl;rw[← hnl] at hn ⊢;clear hL hnl hPost;have H0:=hid (show ∀ x ∈ L.take 0,¬ 1024<x.length by simp);go_enter Tryz.func144,Tryz.ntmps144;go_wp2_with fail
 go_loopw [5] (fun iv wr=>∃ i:Nat,i≤n∧iv = .int .i64 i∧wr=w∧Hid (∀ x ∈ L.take i,¬ 1024<x.length)) (fun iv _=>n - (intOf iv).toNat)
 case atStart=>exact⟨0,Nat.zero_le _,rfl,rfl,H0⟩
 case round=>
  clear H0;obtain⟨i,hi,rfl,rfl,HI⟩:=hrel
  by_cases hin:i<n
  ·have hil:i<L.length:=by have:=HN.out;omega
   obtain⟨ad,ao',c',rfl,hc,hc2,-⟩:=H.out i hil;obtain⟨x,hx⟩:=zX1 (L[i]);rw[← hx] at hc hc2;obtain⟨m,hm⟩:=zX1 (x.length);rw[← hm] at hc;have q1:(i:Int)<(n:Int):=by omega
   by_cases hb:1024<m
   ·have hr:L.any (fun x=>decide (1024<x.length))=true:=by
     rw[List.any_eq_true];exact⟨x,by rw[hx];exact List.getElem_mem hil,by simp;omega⟩
    have HF:=hid (show Post (.returned (.tuple #[.slice none 0 0,.int .i64 3])) wr by rw[HPost.out];unfold FramesPost;rw[if_pos hr];exact⟨rfl,rfl⟩);have q2:(1024:Int)<(m:Int):=by omega
    clear hr hx hm;go_wp2_with fail;exact HF.out
   ·have HZ:=hid (show ∀ y ∈ L.take (i+1),¬ 1024<y.length by
     intro y hy;rw[List.take_succ_eq_append_getElem hil] at hy
     rcases List.mem_append.1 hy with hy | hy
     ·exact HI.out y hy
     ·simp at hy;subst hy;rw[← hx];omega)
    have q2:¬ (1024:Int)<(m:Int):=by omega
    have q3:decide ((1024:Int)<(m:Int))=false:=decide_eq_false q2;clear hx hm;go_wp2_with fail;go_roundw
    case rel=>exact⟨i+1,by omega,by go_num,by first | trivial | rfl,HZ⟩
    case measure=>simp[intOf];omega
  ·obtain rfl:n=i:=by omega
   have hsm:∀ x ∈ L,x.length≤1024:=fun x hx=>by
    have:=HI.out x (by rw[HN.out,List.take_length];exact hx);omega
   have hr:L.any (fun x=>decide (1024<x.length))=false:=by
    rw[List.any_eq_false];intro x hx;have:=hsm x hx;simpa using this
   have Hr:=hid hr;have Hsm:=hid hsm;have H0:=hid (show Fresh wr (.slice none 0 0) (flat (L.take 0)) wr∧(flat (L.take 0)).length≤65536 from⟨Fresh.nil wr,by simp[flat]⟩);clear hr hsm HI;have q1:¬ ((n:Int)<(n:Int)):=by omega
   go_wp2_with fail;obtain⟨w0,hw0⟩:=zX1 (wr);subst hw0
   go_loopw [4,6,7,8] (fun ov iv _ _ wx=>∃ (i:Nat) (ad:Option Addr) (cc fl:Nat),i≤n∧iv = .int .i64 i∧ov = .slice ad fl cc∧Hid (fl=(flat (L.take i)).length∧Fresh w0 (.slice ad fl cc) (flat (L.take i)) wx∧(flat (L.take i)).length≤65536)) (fun _ iv _ _ _=>n - (intOf iv).toNat)
   case atStart=>exact⟨0,none,0,0,Nat.zero_le _,rfl,rfl,hid ⟨by simp[flat],H0.out⟩⟩
   case round=>
    clear H0;obtain⟨i,ad,cc,fl,hi,rfl,rfl,HI⟩:=hrel
    by_cases hin:i<n
    ·have hil:i<L.length:=by have:=HN.out;omega
     obtain⟨adl,ao',c',rfl,hc,hc2,hcs⟩:=(H.out.keep HI.out.2.1.keep) i hil;obtain⟨x,hx⟩:=zX1 (L[i]);rw[← hx] at hc hc2 hcs;have hx1024:=Hsm.out x (by rw[hx];exact List.getElem_mem hil);have htk:L.take (i+1)=L.take i ++ [x]:=by rw[List.take_succ_eq_append_getElem hil,hx]
     obtain⟨m,hm⟩:=zX1 (x.length);rw[← hm] at hc hc2 hcs hx1024;have q2:(i:Int)<(n:Int):=by omega
     have HX:=hid (zA1 hcs (zA1 hm htk));clear hcs hx hm htk hc2;go_wp2_with fail;refine(zkL wr 2 ao' m c' x HX.out.1 hx1024).mono ?_;rintro e w4 ⟨v4,rfl,hf4⟩;have hfl4:(frame 2 x).length=m+10:=by rw[z1B,HX.out.2.1]
     obtain⟨ad4,c4,hv4,-⟩:=hf4.row.form;rw[hfl4] at hv4;subst hv4;have HF4:=hid (zA1 hf4 hfl4);clear hf4 hfl4;go_wp2_with (at_builtin;refine z0H ?_;intro q hq)
     (refine hq.out ?_;clear hq q)
     refine wpList_plain rfl (fun K hK=>?_);refine z0G (r:=frame 2 x) _ _ rfl rfl (HI.out.2.1.later HF4.out.1.keep) ad4 (m+10) c4 rfl (by have h:=Cells.of_row (show Row w4 _ 1 (.slice ad4 (m+10) c4) (m+10) _ from HF4.out.2 ▸ HF4.out.1.row);exact h) (by have:=HI.out.2.2;omega) ?_;intro v5 w5 hf5 _;have e5:flat (L.take i) ++ frame 2 x=flat (L.take (i+1)):=by rw[HX.out.2.2,z5G];simp[flat]
     rw[e5] at hf5;obtain⟨f2,hf2⟩:=zX1 ((flat (L.take (i+1))).length);obtain⟨ad5,c5,hv5,-⟩:=hf5.row.form;rw[← hf2] at hv5;subst hv5;refine hK _ _ ?_;clear hK K
     by_cases hov:65536<f2
     ·have HF:=hid (show Post (.returned (.tuple #[.slice none 0 0,.int .i64 5])) w5 by
       rw[HPost.out];unfold FramesPost;have:=zbC L (i+1);rw[if_neg (by rw[Hr.out];simp),if_pos (by omega)]
       exact⟨rfl,hf5.keep⟩)
      have q4:(65536:Int)<(f2:Int):=by omega
      clear hf5 hf2 e5;go_wp2_with fail;exact HF.out
     ·have HZ:=hid (zA1 hf2 (zA1 hf5 (show (flat (L.take (i+1))).length≤65536 by omega)))
      have q4:¬ (65536:Int)<(f2:Int):=by omega
      have q5:decide ((65536:Int)<(f2:Int))=false:=decide_eq_false q4;clear hf5 hf2 e5;go_wp2_with fail;go_roundw
      case rel=>exact⟨i+1,ad5,c5,f2,by omega,by go_num,rfl,HZ⟩
      case measure=>simp[intOf];omega
    ·obtain rfl:n=i:=by omega
     have q2:¬ ((n:Int)<(n:Int)):=by omega
     obtain⟨hfl,hf,hle⟩:=HI.out;have htl:L.take n=L:=by rw[HN.out,List.take_length]
     rw[htl] at hf hle
     have HF:=hid (show Post (.returned (.tuple #[.slice ad fl cc,.int .i64 0])) wr by
      rw[HPost.out];unfold FramesPost;rw[if_neg (by rw[Hr.out];simp),if_neg (by omega)]
      exact⟨_,rfl,hf⟩)
     clear hf hle hfl htl HI;go_wp2_with fail;exact HF.out
end
section
open Go.RowKit
open DM BM WM
def z2A (d ep:Nat) (vl:Value) (safe:Nat) (dead:Bool):Array Value:=#[.pointer (some ⟨d,0,none⟩),.int .u64 (ep:Nat),vl,.int .i64 (safe:Nat),.bool dead]
theorem z1O {w:World} {b:Nat} {T:TypeId} {a0 a1 a2 a3 a4:Value} (H:w.heap[b]?=some (.cells #[a0,a1,a2,a3,a4] T (0,0))) :
  w.cell? ⟨b,0,none⟩=some a0∧w.cell? ⟨b,1,none⟩=some a1∧w.cell? ⟨b,2,none⟩=some a2∧w.cell? ⟨b,3,none⟩=some a3∧w.cell? ⟨b,4,none⟩=some a4∧(∀ o,w.frozen? ⟨b,o,none⟩=false)∧b<w.heap.size:=by
 refine⟨?_,?_,?_,?_,?_,?_,z0M H⟩ <;> simp[World.cell?,World.frozen?,H]
structure RWalIs (w:World) (b d:Nat) (F:Nat→Prop) (h:Nat) (G:Lg) (vl:Value) (vs:List Value):Prop where
 head:w.heap[b]?=some (.cells (z2A d G.ep vl G.safe G.dead) 119 (0,0))
 recs:Recs w F (fun k=>k=b) vl G.l vs
 self:F b
 lt:∀ k,F k→k<w.heap.size
 ok:LgOk h G
theorem RWalIs.keep {w w':World} {b d:Nat} {F K:Nat→Prop} {h:Nat} {G:Lg} {vl:Value} {vs:List Value} (H:RWalIs w b d F h G vl vs) (hk:Keep K w w') (hn:∀ k,F k→¬ K k):RWalIs w' b d F h G vl vs:=
 ⟨hk.get H.head (hn _ H.self),H.recs.keep hk fun k e _=>hn k e,H.self,fun k x=>Nat.lt_of_lt_of_le (H.lt k x) hk.size,H.ok⟩
theorem RWalIs.head2 {w w':World} {b d:Nat} {F K:Nat→Prop} {h:Nat} {G G':Lg} {vl:Value} {vs:List Value} (H:RWalIs w b d F h G vl vs) (hk:Keep K w w') (hK:∀ k,F k→K k→k=b) (hl:G'.l=G.l)
  (hh:w'.heap[b]?=some (.cells (z2A d G'.ep vl G'.safe G'.dead) 119 (0,0))) (ok:LgOk h G'):RWalIs w' b d F h G' vl vs:=
 ⟨hh,by rw[hl];exact H.recs.keep hk fun k f e x=>e (hK k f x),H.self,fun k x=>Nat.lt_of_lt_of_le (H.lt k x) hk.size,ok⟩
structure RLogIs (w:World) (b d:Nat) (F Fd:Nat→Prop) (D:Dk) (G:Lg) (vl:Value) (vs:List Value):Prop where
 wal:RWalIs w b d F (half D) G vl vs
 disk:RefAt w d Fd D
 apart:∀ k,F k→¬ Fd k
def RLogAt (w:World) (b d:Nat) (F Fd:Nat→Prop) (D:Dk) (G:Lg):Prop:=∃ vl vs,RLogIs w b d F Fd D G vl vs
theorem RLogAt.keep {w w':World} {b d:Nat} {F Fd K:Nat→Prop} {D:Dk} {G:Lg} (H:RLogAt w b d F Fd D G) (hk:Keep K w w') (h1:∀ k,F k→¬ K k) (h2:∀ k,Fd k→¬ K k):RLogAt w' b d F Fd D G:=
 let ⟨vl,vs,h⟩:=H;⟨vl,vs,h.wal.keep hk h1,h.disk.keep hk h2,h.apart⟩
theorem RLogAt.later {w w':World} {b d:Nat} {F Fd:Nat→Prop} {D:Dk} {G:Lg} (H:RLogAt w b d F Fd D G) (hk:Keep (fun _=>False) w w'):RLogAt w' b d F Fd D G:=H.keep hk (fun _ _ x=>x) (fun _ _ x=>x)
theorem RLogAt.ok {w:World} {b d:Nat} {F Fd:Nat→Prop} {D:Dk} {G:Lg} (H:RLogAt w b d F Fd D G):LgOk (half D) G:=let ⟨_,_,h⟩:=H;h.wal.ok
theorem RLogAt.diskOk {w:World} {b d:Nat} {F Fd:Nat→Prop} {D:Dk} {G:Lg} (H:RLogAt w b d F Fd D G):Ok D:=let ⟨_,_,h⟩:=H;h.disk.ok
def RLogTo (b d:Nat) (F Fd:Nat→Prop) (w:World) (D':Dk) (G':Lg) (w':World):Prop:=
 ∃ F' Fd',RLogAt w' b d F' Fd' D' G'∧Keep (fun k=>F k∨Fd k) w w'∧(∀ k,F' k→F k∨w.heap.size≤k)∧∀ k,Fd' k→Fd k∨w.heap.size≤k
theorem RLogAt.to {w:World} {b d:Nat} {F Fd:Nat→Prop} {D:Dk} {G:Lg} (H:RLogAt w b d F Fd D G):RLogTo b d F Fd w D G w:=⟨F,Fd,H,Keep.refl _ _,fun _ x=>.inl x,fun _ x=>.inl x⟩
theorem RLogTo.since {b d:Nat} {F Fd:Nat→Prop} {w w1 w':World} {D':Dk} {G':Lg} (h:RLogTo b d F Fd w1 D' G' w') (hk:Keep (fun _=>False) w w1):RLogTo b d F Fd w D' G' w':=by
 obtain⟨F',Fd',h1,h2,h3,h4⟩:=h;exact⟨F',Fd',h1,hk.next h2 (fun _ _ x=>x.elim) (fun _ _ x=>x),fun k x=>(h3 k x).imp id fun y=>Nat.le_trans hk.size y,fun k x=>(h4 k x).imp id fun y=>Nat.le_trans hk.size y⟩
theorem RLogAt.toLater {w w':World} {b d:Nat} {F Fd:Nat→Prop} {D:Dk} {G:Lg} (H:RLogAt w b d F Fd D G) (hk:Keep (fun _=>False) w w'):RLogTo b d F Fd w D G w':=(H.later hk).to.since hk
theorem RLogTo.next {w w1 w2:World} {b d:Nat} {F Fd:Nat→Prop} {D1 D2:Dk} {G1 G2:Lg} (h1:RLogTo b d F Fd w D1 G1 w1) (h:∀ F1 Fd1,RLogAt w1 b d F1 Fd1 D1 G1→RLogTo b d F1 Fd1 w1 D2 G2 w2):RLogTo b d F Fd w D2 G2 w2:=by
 obtain⟨F1,Fd1,a1,hk,h1',h2'⟩:=h1;obtain⟨F2,Fd2,b1,b2,b3,b4⟩:=h F1 Fd1 a1;have s:=hk.size;refine⟨F2,Fd2,b1,hk.next b2 (fun _ _ x=>x) (fun k hk' x=>?_),fun k x=>?_,fun k x=>?_⟩
 ·rcases x with x | x
  ·rcases h1' k x with y | y
   ·exact .inl y
   ·omega
  ·rcases h2' k x with y | y
   ·exact .inr y
   ·omega
 ·rcases b3 k x with y | y
  ·exact h1' k y
  ·right;omega
 ·rcases b4 k x with y | y
  ·exact h2' k y
  ·right;omega
theorem RLogAt.set {w w':World} {b d:Nat} {F Fd:Nat→Prop} {D:Dk} {G G':Lg} (H:RLogAt w b d F Fd D G) (hk:Keep (fun k=>k=b) w w') (hl:G'.l=G.l) (ok:LgOk (half D) G')
  (hh:∀ vl,w.heap[b]?=some (.cells (z2A d G.ep vl G.safe G.dead) 119 (0,0))→w'.heap[b]?=some (.cells (z2A d G'.ep vl G'.safe G'.dead) 119 (0,0))):RLogTo b d F Fd w D G' w':=by
 obtain⟨vl,vs,h⟩:=H;exact⟨F,Fd,⟨vl,vs,h.wal.head2 hk (fun _ _ x=>x) hl (hh vl h.wal.head) ok,h.disk.keep hk fun k e c=>by subst c;exact h.apart _ h.wal.self e,h.apart⟩,hk.mono fun i _ e=>by subst e;exact .inl h.wal.self,fun _ x=>.inl x,fun _ x=>.inl x⟩
theorem zfU (w:World) (b d:Nat) (F Fd:Nat→Prop) (D:Dk) (G:Lg) (H:RLogAt w b d F Fd D G) :
  Calls Tryz.prog 111 #[.pointer (some ⟨b,0,none⟩)] w fun x w'=>x = .returned (.bool (gone D G))∧RLogTo b d F Fd w D (WM.mark D G) w':=by
 have hk:∀ x:Bool,Keep (fun k=>k=b) w (w.setCell ⟨b,4,none⟩ (.bool x)):=fun x=>by refine Keep.setCell (Keep.refl _ _) (.inl ?_) _;rfl
 have fin:=hid (show RLogTo b d F Fd w D (WM.mark D G) (w.setCell ⟨b,4,none⟩ (.bool (gone D G))) from
  H.set (hk _) rfl H.ok.mark (fun vl h=>by rw[z0A h 4 (.bool (gone D G))];rfl))
 obtain⟨vl,vs,HL⟩:=H;have hh:=HL.wal.head;unfold z2A at hh;obtain⟨h0,h1,h2,h3,h4,hf,hb⟩:=z1O hh;obtain⟨vs2,vw2,hI⟩:=HL.disk;have hd:=hI.head;unfold z1S at hd;obtain⟨d0,d1,d2,d3,df,db⟩:=z2I hd;have hg:gone D G=(G.dead || D.down):=rfl;rw[hg] at fin ⊢;clear hh HL hI hd hk hg;generalize G.dead=x at *;generalize D.down=y at *;cases x <;> cases y
 all_goals
  go_enter Tryz.func111,Tryz.ntmps111;go_wp2_with fail;go_ret;exact⟨rfl,fin.out⟩
theorem z5E {D:Dk} (ok:Ok D):32 * half D≤65536:=by have:=ok.few;unfold half;omega
theorem LgOk.frames {w w':World} {D:Dk} {G:Lg} {e:Ending} (k:LgOk (half D) G) (ok:Ok D) (h:FramesPost w G.l e w'):∃ v,e = .returned (.tuple #[v,.int .i64 0])∧Fresh w v (flat G.l) w':=by
 unfold FramesPost at h
 have h1:G.l.any (fun x=>decide (1024<x.length))=false:=by
  rw[List.any_eq_false];intro x hx;have:=k.small x hx;simpa using this
 have h2:=k.fit;have h3:=z5E ok;rw[if_neg (by rw[h1];simp),if_neg (by omega)] at h;exact h
theorem zfV (w:World) (b d:Nat) (F Fd:Nat→Prop) (D:Dk) (G:Lg) (H:RLogAt w b d F Fd D G) :
  Calls Tryz.prog 113 #[.pointer (some ⟨b,0,none⟩)] w fun x w'=>x = .returned (.int .i64 ((flat G.l).length:Nat))∧Keep (fun _=>False) w w':=by
 have hok:=hid (zA1 H.ok H.diskOk);obtain⟨vl,vs,HL⟩:=H;have hh:=HL.wal.head;unfold z2A at hh;obtain⟨h0,h1,h2,h3,h4,hf,hb⟩:=z1O hh;obtain⟨adl,cl,rfl,-⟩:=HL.wal.recs.row.form;have hfr:=zaJ w adl cl G.l HL.wal.recs.lists (by have:=hok.out.1.count;omega);have HF:=hid hfr;clear hh HL h0 h1 h3 h4 hfr;go_enter Tryz.func113,Tryz.ntmps113;go_wp2_with fail;refine HF.out.mono ?_;intro e w2 hp;obtain⟨v,rfl,hf2⟩:=hok.out.1.frames hok.out.2 hp;obtain⟨ad,c,rfl,-⟩:=hf2.row.form;have HK:=hid hf2.keep;clear hf2 hp;go_wp2_with fail;go_ret;exact⟨rfl,HK.out⟩
theorem zgR (w:World) (b d:Nat) (F Fd:Nat→Prop) (D:Dk) (G:Lg) (H:RLogAt w b d F Fd D G) :
  Calls Tryz.prog 112 #[.pointer (some ⟨b,0,none⟩)] w fun x w'=>x = .returned (.int .i64 (room D G:Nat))∧Keep (fun _=>False) w w':=by
 have hus:=zfV w b d F Fd D G H;have hfit:=H.ok.fit;have hsm:=z5E H.diskOk;obtain⟨vl,vs,HL⟩:=H;have hh:=HL.wal.head;unfold z2A at hh;obtain⟨h0,h1,h2,h3,h4,hf,hb⟩:=z1O hh;have hhf:=z4N w d Fd D HL.disk;obtain⟨r,hr⟩:=zX1 (room D G);obtain⟨h,hhd⟩:=zX1 (half D);obtain⟨m,hm⟩:=zX1 ((flat G.l).length);obtain⟨nn,hnn⟩:=zX1 (32 * h);have hr2:r=nn - m:=by rw[hr,hnn,hhd,hm];rfl
 rw[← hr];rw[← hm] at hus;rw[← hhd] at hhf;have q0:(32:Int) * (h:Int)=(nn:Int):=by omega
 have q1:(nn:Int) - (m:Int)=(r:Int):=by rw[← hhd] at hfit;omega
 have q2:=wi64 nn (by omega);have q3:=wi64 r (by omega);clear hh HL hr hhd hm hnn hr2 h1 h2 h3 h4 hfit hsm;go_enter Tryz.func112,Tryz.ntmps112;go_wp2_with fail;refine hhf.mono ?_;rintro e w2 ⟨rfl,rfl⟩;go_wp2_with fail;refine hus.mono ?_;rintro e w3 ⟨rfl,hk⟩;have HK:=hid hk;clear hk;go_wp2_with fail;go_ret;exact⟨rfl,HK.out⟩
end
section
open Go.RowKit
open DM BM WM
theorem zhP (w:World) (b d:Nat) (Fd:Nat→Prop) (D:Dk) (hb0:w.cell? ⟨b,0,none⟩=some (.pointer (some ⟨d,0,none⟩))) (hD:RefAt w d Fd D) (ao:Option Addr) (c:Nat) (L:List (List UInt8)) (hL:Lists w ao L) (hn:L.length≤1000000000)
  (hsm:∀ x ∈ L,x.length≤1024) (hfit:(flat L).length≤32 * half D) :
  Calls Tryz.prog 114 #[.pointer (some ⟨b,0,none⟩),.slice ao L.length c] w (Gives w (z1F (half D) L)):=by
 have hfr:=zaJ w ao c L hL hn;have hsmall:=z5E hD.ok
 have HFr:=hid (show ∀ e w',FramesPost w L e w'→∃ v,e = .returned (.tuple #[v,.int .i64 0])∧Fresh w v (flat L) w' from fun e w' h=>by
  unfold FramesPost at h
  have h1:L.any (fun x=>decide (1024<x.length))=false:=by
   rw[List.any_eq_false];intro x hx;have:=hsm x hx;simpa using this
  rw[if_neg (by rw[h1];simp),if_neg (by omega)] at h
  exact h)
 have HD:=hid hD;have HC:=hid hfr;have hblt:=World.block_lt_of_cell? _ _ hb0;have Hb0:=hid hb0;obtain⟨h,hh⟩:=zX1 (half D);obtain⟨m,hm⟩:=zX1 ((flat L).length);obtain⟨nn,hnn⟩:=zX1 (32 * h);have q0:(32:Int) * (h:Int)=(nn:Int):=by omega
 have q1:=wi64 nn (by rw[hnn,hh];omega);have hmn:m≤nn:=by rw[hm,hnn,hh];exact hfit
 have hnn2:nn≤65536:=by rw[hnn,hh];exact hsmall
 have HH:=hid (zA1 hh (zA1 hm hnn));rw[← hh];clear hfr hD hL hh hm hnn hfit hsm hsmall hb0;go_enter Tryz.func114,Tryz.ntmps114;go_wp2_with fail;refine HC.out.mono ?_;intro e w2 hp;obtain⟨v,rfl,hf2⟩:=HFr.out e w2 hp;obtain⟨ad,cv,rfl,-⟩:=hf2.row.form;rw[← HH.out.2.1];have H0:=hid (show Fresh w (.slice ad m cv) (flat L ++ List.replicate 0 0) w2 by have h:=hf2;rw[← HH.out.2.1] at h;simpa using h);clear hp hf2;go_wp2_with fail
 go_loopw [5] (fun ov wr=>∃ (j:Nat) (ad:Option Addr) (cv t:Nat),t=m+j∧t≤nn∧ov = .slice ad t cv∧Hid (Fresh w (.slice ad t cv) (flat L ++ List.replicate j 0) wr)) (fun ov _=>nn - (match ov with | .slice _ n _=>n | _=>0))
 case atStart=>exact⟨0,ad,cv,m,rfl,hmn,rfl,H0⟩
 case round=>
  clear H0;obtain⟨j,ad,cv,t,ht,htn,rfl,HI⟩:=hrel;have Ht:=hid ht;clear ht;have hhf:=z4N wr d Fd D (HD.out.keep HI.out.keep fun _ _ x=>x);rw[← HH.out.1] at hhf;have b0:=Hb0.out;rw[← World.cell?_of_block (HI.out.keep.block _ hblt id)] at b0
  by_cases htl:t<nn
  ·have s1:(t:Int)<(nn:Int):=by omega
   go_wp2_with fail;refine hhf.mono ?_;rintro e w4 ⟨rfl,rfl⟩;go_wp2_with (at_builtin;refine z0H ?_;intro q hq)
   (refine hq.out ?_;clear hq q)
   have hnew:=heap_alloc_new w4 (.cells #[.int .u8 0] 5);have hk5:=kal w4 (.cells #[.int .u8 0] 5);obtain⟨w5,hw5⟩:=zX1 (w4.alloc (.cells #[.int .u8 0] 5));rw[← hw5] at hnew hk5 ⊢;clear hw5
   have hc1:Cells w5 (some ⟨w4.heap.size,0,none⟩) 1 1 (z0B [0]):=by
    have:=Cells.one (x:=0) (by decide) (show w5.heap[w4.heap.size]?=some (.cells #[.int .u8 ((0:Nat):Int)] 5 (0,0)) from hnew);exact this
   refine wpList_plain rfl (fun K hK=>?_);refine z0G (r:=[0]) _ _ rfl rfl (HI.out.later hk5) (some ⟨w4.heap.size,0,none⟩) 1 1 rfl hc1 (by have:=HH.out.2.1;have:=Ht.out;simp;omega) ?_;intro v6 w6 hf6 _;have e6:(flat L ++ List.replicate j 0) ++ [0]=flat L ++ List.replicate (j+1) 0:=by rw[List.append_assoc,List.replicate_succ']
   rw[e6] at hf6;obtain⟨ad6,c6,hv6,-⟩:=hf6.row.form;have hl6:(flat L ++ List.replicate (j+1) 0).length=t+1:=by have:=HH.out.2.1;have:=Ht.out;simp;omega
   rw[hl6] at hv6;subst hv6;refine hK _ _ ?_;clear hK K;have HZ:=hid hf6;clear hf6 e6 hl6 hc1 hnew hk5;go_wp2_with fail;go_roundw
   case rel=>exact⟨j+1,ad6,c6,t+1,by have:=Ht.out;omega,by omega,rfl,HZ⟩
   case measure=>simp;omega
  ·obtain rfl:t=nn:=by omega
   have s1:¬ (t:Int)<(t:Int):=by omega
   go_wp2_with fail;refine hhf.mono ?_;rintro e w4 ⟨rfl,rfl⟩;go_wp2_with fail;go_ret;refine⟨_,rfl,?_⟩;have h1:=HI.out
   have e1:flat L ++ List.replicate j 0=z1F h L:=by
    unfold z1F;have h2:=HH.out.2.1;have h3:=HH.out.2.2;have h4:=Ht.out;rw[show j=32 * h - (flat L).length by omega]
   rw[e1] at h1;exact h1
theorem Cells.below {w:World} {x:Addr} {n size:Nat} {xs:List Value} (h:Cells w (some x) n size xs) (hp:0<n * size):x.block<w.heap.size:=by
 obtain⟨ad,had,hc⟩:=h.2 hp;cases had;have hl:0<xs.length:=by rw[h.1];exact hp
 have:=World.block_lt_of_cell? w _ (hc 0 _ (List.getElem?_eq_getElem hl))
 rwa [show (x.add 0)=x by simp[Addr.add]] at this
def LayTo (w:World) (b d ep:Nat) (vl:Value) (sf:Nat) (dead:Bool) (Fd:Nat→Prop) (R:Int×Dk) (e:Ending) (w':World):Prop:=
 e = .returned (.int .i64 R.1)∧(∃ Fd',RefAt w' d Fd' R.2∧∀ k,Fd' k→Fd k∨w.heap.size≤k)∧Keep (fun k=>Fd k∨k=b) w w'∧w'.heap[b]?=some (.cells (z2A d ep vl sf (dead || decide (R.1≠0))) 119 (0,0))
theorem zkA (w:World) (b d ep ep2 sf lo hi n c:Nat) (vl:Value) (dead:Bool) (Fd:Nat→Prop) (D:Dk) (bs:List UInt8) (ao:Option Addr) (H:w.heap[b]?=some (.cells (z2A d ep vl sf dead) 119 (0,0)))
  (hD:RefAt w d Fd D) (hb:¬ Fd b) (hsrc:Cells w ao n 1 (z0B bs)) (hap:∀ x,ao=some x→¬ Fd x.block∧x.block≠b) (hn:n=32 * half D) (hnc:n≤c) (hlo:lo≤hi) (hhi:hi≤half D) (z:Int) (hz:z+1=(hi:Int)) (hfew:D.waits.length≤800000) :
  Calls Tryz.prog 115 #[.pointer (some ⟨b,0,none⟩),.int .u64 (ep2:Nat),.slice ao n c,.int .i64 (lo:Nat),.int .i64 z] w (LayTo w b d ep vl sf dead Fd (lay ep2 bs lo (hi - lo) D)):=by
 have hfewD:=hD.ok.few;have hhalf:half D≤1023:=by unfold half;omega
 obtain⟨R,hR⟩:=zX1 (lay ep2 bs lo (hi - lo) D);obtain⟨Post,hPost⟩:=zX1 (LayTo w b d ep vl sf dead Fd R);rw[← hR,← hPost];have HPost:=hid (zA1 hPost hR);have HH:=hid (zA1 H (zA1 hsrc (zA1 hap hn)));have H0:=hid (show ∃ F' D',lay ep2 bs lo (hi - lo) D=lay ep2 bs lo (hi - lo) D'∧Keep Fd w w∧RefAt w d F' D'∧(∀ k,F' k→Fd k∨w.heap.size≤k)∧D'.safe.length=D.safe.length∧D'.waits.length≤D.waits.length+(lo - lo) from⟨Fd,D,rfl,Keep.refl _ _,hD,fun _ x=>.inl x,rfl,by omega⟩);have hblt:=z0M H;clear hR hPost H hsrc hap hn hD;go_enter Tryz.func115,Tryz.ntmps115;go_wp2_with (at_builtin;refine z0H ?_;intro q hq)
 go_loopw [11,12] (fun iv _ wr=>∃ i:Nat,lo≤i∧i≤hi∧iv = .int .i64 i∧Hid (∃ F' D',lay ep2 bs lo (hi - lo) D=lay ep2 bs i (hi - i) D'∧Keep Fd w wr∧RefAt wr d F' D'∧(∀ k,F' k→Fd k∨w.heap.size≤k)∧D'.safe.length=D.safe.length∧D'.waits.length≤D.waits.length+(i - lo))) (fun iv _ _=>hi - (intOf iv).toNat)
 case atStart=>exact⟨lo,Nat.le_refl _,hlo,rfl,H0⟩
 case round=>
  clear H0;obtain⟨i,hi1,hi2,rfl,HI⟩:=hrel;obtain⟨F',D',hl,hk,hD',hF',hs',hw'⟩:=HI.out;have hh:=hk.get HH.out.1 hb;obtain⟨i0,i1,i2,i3,i4,if1,ib1⟩:=z1O (show wr.heap[b]?=some (.cells #[_,_,_,_,_] _ (0,0)) from hh);have Hh:=hid hh
  by_cases hih:i<hi
  ·have s1:(i:Int)≤z:=by omega
   obtain⟨j,hj⟩:∃ j,hi - i=j+1:=⟨hi - i - 1,by omega⟩;obtain⟨q,hq⟩:=zX1 (WM.first D ep2);have hq':q=WM.first D' ep2:=by rw[hq,z5L hs']
   have hq2:q≤3000:=by
    rw[hq];unfold WM.first;have:ep2 % 2=0∨ep2 % 2=1:=by omega
    rcases this with h | h <;> rw[h] <;> omega
   obtain⟨t,ht⟩:=zX1 (q+i);have g1:(q:Int)+(i:Int)=(t:Int):=by omega
   have g2:=wi64 t (by omega);obtain⟨p,hp⟩:=zX1 (32 * i);have g3:32 * (i:Int)=(p:Int):=by omega
   have g4:=wi64 p (by omega);obtain⟨p2,hp2⟩:=zX1 (p+32);have g5:(p:Int)+32=(p2:Int):=by omega
   have g6:=wi64 p2 (by omega);obtain⟨hH0,hsrc,hap,hn⟩:=HH.out
   have hsl:∀ w,(Instr.sliceAt 29 (.slice ao n c) (some (.int .i64 (p:Int))) (some (.int .i64 (p2:Int))) none).run Tryz.prog w = .ok (.slice (z1J ao c p 1) 32 (c - p)) w:=fun w=>by
    have h:=z1W (P:=Tryz.prog) z0W ao n c .i64 .i64 p p2 (by omega) (by omega) w;rw[show p2 - p=32 by omega] at h;exact h
   have hsrcr:=hsrc.keep hk (fun x hx=>(hap x hx).1);have hcs:=(Cells.tail hsrcr p (by omega) hnc (by decide)).take 32 (by omega)
   have hsec:List.take (32 * 1) (List.drop (p * 1) (z0B bs))=z0B (z0U bs i):=by
    unfold z0U;simp[z0B,List.map_take,List.map_drop,hp]
   rw[hsec] at hcs
   have hav:∀ x,z1J ao c p 1=some x→¬ F' x.block:=fun x hx hx2=>by
    have hbl:∃ y,ao=some y∧x.block=y.block:=by
     unfold z1J at hx;split at hx
     ·exact⟨x,hx,rfl⟩
     ·cases ao with
      | none=>simp at hx
      | some y=>simp at hx;subst hx;exact⟨y,rfl,by unfold Addr.add;split <;> rfl⟩
    obtain⟨y,hy,hxy⟩:=hbl;have h1:=(hap y hy).1;rw[hxy] at hx2
    rcases hF' _ hx2 with h | h
    ·exact h1 h
    ·have h2:=hsrc.1
     subst hy;have:=hsrc.below (by omega);omega
   have HF:=hid (show ∀ s:Later wr,Calls Tryz.prog 133 #[.pointer (some ⟨d,0,none⟩),.int .u64 (ep2:Nat)] s.val fun e w'=>e = .returned (.int .i64 (q:Nat))∧Keep (fun _=>False) s.val w' from
    fun s=>by rw[hq'];exact(zaD s.val d F' D' (hD'.keep s.keep fun _ _ x=>x) ep2).mono fun e w' ⟨h1,h2⟩=>⟨h1,by rw[h2];exact Keep.refl _ _⟩)
   have hst:lay ep2 bs i (hi - i) D'=if (DM.write D' (t:Int) (z0U bs i)).1=0 then lay ep2 bs (i+1) j (DM.write D' (t:Int) (z0U bs i)).2 else DM.write D' (t:Int) (z0U bs i):=by
    rw[hj,lay,← hq',← ht]
   have hW:=fun s:Later wr=>zcY s.val d F' D' (t:Int) (z1J ao c p 1) 32 (c - p) (z0U bs i) (hD'.keep s.keep fun _ _ x=>x) (hcs.later s) (fun _=>hav) (by omega) (by decide) (by omega);obtain⟨W,hWd⟩:=zX1 (DM.write D' (t:Int) (z0U bs i));have hwl:W.2.safe.length=D.safe.length:=by rw[hWd,z3M];exact hs'
   have hww:W.2.waits.length≤D.waits.length+(i+1 - lo):=by rw[hWd];have:=z2V D' (t:Int) (z0U bs i);omega
   rw[← hWd] at hst;simp only[← hWd] at hW;have j0:=fun s:Later wr=>s.cell i0;have HW:=hid hW;have HX:=hid (zA1 hl (zA1 hk (zA1 hF' (zA1 hst (zA1 hwl (zA1 hww hj))))));generalize z1J ao c p 1=ta at *;clear hW hWd hl hk hD' hF' hs' hw' hh HI hq hq' ht hp hp2 hH0 hsrc hap hn hsrcr hcs hsec hav hst hwl hww hj i0 i1 i2 i3 i4;go_wp2_with fail
   (refine z1D 19 (by kernel_rfl) (by kernel_rfl) ?_;simp only[List.take_succ_cons,List.take_zero,List.drop_succ_cons,List.drop_zero];(repeat (go_big_quiet_step ((go_at_call 133;exact Later.call (HF.out _)))));refine wpQuiet_nil ?_;rintro _ ⟨sq,rfl⟩)
   clear j0;go_wp2_with fail;refine(HW.out sq).mono ?_;rintro e w3 ⟨rfl,F3,t1,t2,t3⟩;obtain⟨hl,hk,hF',hst,hwl,hww,hj⟩:=HX.out;have hk3:Keep Fd w w3:=(hk.next sq.keep (H:=Fd) (fun _ _ x=>x) (fun _ _ x=>x.elim)).next t2 (fun _ _ x=>x) (fun k hk' x=>(hF' k x).elim id fun y=>by omega);have hF3:∀ k,F3 k→Fd k∨w.heap.size≤k:=fun k x=>(t3 k x).elim (hF' k) fun y=>.inr (Nat.le_trans (Nat.le_trans hk.size sq.keep.size) y);have hh3:=hk3.get HH.out.1 hb;obtain⟨i0,i1,i2,i3,i4,if1,ib3⟩:=z1O (show w3.heap[b]?=some (.cells #[_,_,_,_,_] _ (0,0)) from hh3)
   by_cases h0:W.1=0
   ·have HZ:=hid (show ∃ F' D',lay ep2 bs lo (hi - lo) D=lay ep2 bs (i+1) (hi - (i+1)) D'∧Keep Fd w w3∧RefAt w3 d F' D'∧(∀ k,F' k→Fd k∨w.heap.size≤k)∧D'.safe.length=D.safe.length∧D'.waits.length≤D.waits.length+(i+1 - lo) from
     ⟨F3,W.2,by rw[hl,hst,if_pos h0,show hi - (i+1)=j by omega],hk3,t1,hF3,hwl,hww⟩)
    rw[h0];clear hl hk hF' hst hwl hww hj t1 t2 t3 hk3 hF3 hh3;go_wp2_with fail;go_roundw
    case rel=>exact⟨i+1,by omega,by omega,by go_num,HZ⟩
    case measure=>simp[intOf];omega
   ·have u1:(W.1 == 0)=false:=by simp[h0]
    have u2:(W.1 != 0)=true:=by simp[h0]
    have u3:decide (W.1=0)=false:=by simp[h0]
    have hRW:R=W:=by rw[HPost.out.2,hl,hst,if_neg h0]
    have hk4:Keep (fun k=>k=b) w3 (w3.setCell ⟨b,4,none⟩ (.bool true)):=kst;have hFb3:¬ F3 b:=fun x=>(hF3 b x).elim hb fun y=>by omega
    have HF9:=hid (show Post (.returned (.int .i64 W.1)) (w3.setCell ⟨b,4,none⟩ (.bool true)) by
     rw[HPost.out.1,hRW];refine⟨rfl,⟨F3,t1.keep hk4 (fun k x y=>by subst y;exact hFb3 x),hF3⟩,hk3.next hk4 (fun _ _ x=>.inl x) (fun _ _ x=>.inr x),?_⟩;rw[z0A hh3 4 (.bool true),show (dead || decide (W.1≠0))=true by simp[h0]]
     rfl)
    clear hl hk hF' hst hwl hww hj t1 t2 t3 hk3 hF3 hh3 h0 hRW hk4;go_wp2_with fail;exact HF9.out
  ·obtain rfl:hi=i:=by omega
   have s1:¬ (hi:Int)≤z:=by omega
   rw[Nat.sub_self] at hl;have hR0:R=(0,D'):=by rw[HPost.out.2,hl];rfl
   have HF9:=hid (show Post (.returned (.int .i64 0)) wr by
    rw[HPost.out.1,hR0];refine⟨rfl,⟨F',hD',hF'⟩,hk.mono fun _ _ x=>.inl x,?_⟩
    rw[hh,show (dead || decide ((0:Int)≠0))=dead by simp])
   clear hl hk hD' hF' hs' hw' hh HI hR0;go_wp2_with fail;exact HF9.out
end
section
open Go.RowKit
open DM BM WM
theorem zjF {D:Dk} {G:Lg} (h:gone D G=false):WM.mark D G=G:=by
 have hd:G.dead=false:=by unfold gone at h;simp only[Bool.or_eq_false_iff] at h;exact h.1
 unfold WM.mark;rw[h];show ({ G with dead:=false }:Lg)=G;rw[← hd]
theorem RLogAt.laid {w w':World} {b d ep2:Nat} {F Fd:Nat→Prop} {D:Dk} {G:Lg} {bs:List UInt8} {lo k:Nat} {vl:Value} {vs:List Value} {e:Ending} (H:RLogIs w b d F Fd D G vl vs)
  (h:LayTo w b d G.ep vl G.safe G.dead Fd (lay ep2 bs lo k D) e w'):e = .returned (.int .i64 (lay ep2 bs lo k D).1)∧RLogTo b d F Fd w (lay ep2 bs lo k D).2 { G with dead:=G.dead || decide ((lay ep2 bs lo k D).1≠0) } w':=by
 obtain⟨he,⟨Fd',hD,hF⟩,hk,hh⟩:=h;have hl:=z7P ep2 bs k lo D
 have hw:RWalIs w' b d F (half D) { G with dead:=G.dead || decide ((lay ep2 bs lo k D).1≠0) } vl vs:=
  H.wal.head2 hk (fun k x y=>y.elim (fun z=>absurd z (H.apart k x)) id) rfl hh (H.wal.ok.die _)
 rw[← z2W hl] at hw;refine⟨he,F,Fd',⟨vl,vs,hw,hD,fun k x y=>?_⟩,hk.mono fun k _ x=>?_,fun _ x=>.inl x,hF⟩
 ·rcases hF k y with z | z
  ·exact H.apart k x z
  ·have:=H.wal.lt k x;omega
 ·rcases x with x | x
  ·exact .inr x
  ·subst x;exact .inl H.wal.self
theorem zbG (w:World) (b d:Nat) (F Fd:Nat→Prop) (D:Dk) (G:Lg) (H:RLogAt w b d F Fd D G) (ao:Option Addr) (n c:Nat) (body:List UInt8) (hsrc:Cells w ao n 1 (z0B body))
  (hap:∀ x,0<n→ao=some x→¬ F x.block∧¬ Fd x.block) (hn:n≤1000000000) (hfew:D.waits.length≤800000) :
  Calls Tryz.prog 56 #[.pointer (some ⟨b,0,none⟩),.slice ao n c] w fun e w'=>
   e = .returned (.int .i64 (WM.append D G body).1)∧RLogTo b d F Fd w (WM.append D G body).2.1 (WM.append D G body).2.2 w':=by
 have hbl:body.length=n:=by have:=hsrc.1;rw[z0D] at this;omega
 have hsml:=z5E H.diskOk;have hfit:=H.ok.fit;obtain⟨R,hR⟩:=zX1 (WM.append D G body);rw[← hR];have HR:=hid hR;have HS:=hid (zA1 hsrc (zA1 hap hbl));have HH:=hid H;have hgo:=zfU w b d F Fd D G H;clear hsrc hap H hR;obtain⟨r,hr⟩:=zX1 (room D G);have hr2:r≤65536:=by rw[hr];unfold room;omega
 have Hr:=hid (show r=room D (WM.mark D G) from hr);have Hr':=hid hr;clear hr hsml;obtain⟨m,hm⟩:=zX1 (n+10);have g1:(n:Int)+10=(m:Int):=by omega
 have g2:=wi64 m (by omega);have HM:=hid hm;clear hm
 cases hg:gone D G with
 | true=>
   rw[hg] at hgo;have hres:R=(6,D,WM.mark D G):=by rw[HR.out];unfold WM.append;rw[if_pos hg]
   have HRes:=hid hres;clear hres hg;go_enter Tryz.func56,Tryz.ntmps56;go_wp2_with fail;refine hgo.mono ?_;rintro e w1 ⟨rfl,ht⟩;have HT:=hid ht;clear ht;go_wp2_with fail;obtain⟨F1,Fd1,hL1,hk1,hF1,hFd1⟩:=HT.out;have hrm:=zgR w1 b d F1 Fd1 D _ hL1;rw[← Hr.out] at hrm;refine hrm.mono ?_;rintro e w2 ⟨rfl,hk2⟩;have HZ:=hid (show RLogTo b d F Fd w D (WM.mark D G) w2 from HT.out.next fun F2 Fd2 h=>h.toLater hk2);clear hL1 hk1 hF1 hFd1 hrm hk2 HT;go_wp2_with fail;go_ret;rw[HRes.out];exact⟨rfl,HZ.out⟩
 | false=>
   rw[hg,zjF hg] at hgo;have Hg:=hid hg;clear hg;go_enter Tryz.func56,Tryz.ntmps56;go_wp2_with fail;refine hgo.mono ?_;rintro e w1 ⟨rfl,ht⟩;have HT:=hid ht;clear ht;go_wp2_with fail;obtain⟨F1,Fd1,hL1,hk1,hF1,hFd1⟩:=HT.out;have hrm:=zgR w1 b d F1 Fd1 D _ hL1;rw[← Hr'.out] at hrm;refine hrm.mono ?_;rintro e w2 ⟨rfl,hk2⟩;have HZ:=hid (show RLogTo b d F Fd w D G w2 from HT.out.next fun F2 Fd2 h=>h.toLater hk2);have hks:Keep (fun k=>F k∨Fd k) w w2:=hk1.next hk2 (fun _ _ x=>x) (fun _ _ x=>x.elim);have H2:=hid (zA1 (hL1.later hk2) (zA1 hks (zA1 hF1 hFd1)));clear hL1 hk1 hF1 hFd1 hrm hk2 HT hks
   by_cases hlong:1024<n
   ·have hres:R=(3,D,G):=by rw[HR.out];unfold WM.append;rw[Hg.out];simp[hbl,hlong]
    have HRes:=hid hres;have q1:(1024:Int)<(n:Int):=by omega
    clear hres;go_wp2_with fail;go_ret;rw[HRes.out];exact⟨rfl,HZ.out⟩
   have q1:¬ (1024:Int)<(n:Int):=by omega
   by_cases hfull:r<m
   ·have hres:R=(5,D,G):=by rw[HR.out];unfold WM.append;rw[Hg.out];have:=HM.out;have:=Hr'.out;simp[hbl,hlong];omega
    have HRes:=hid hres;have q2:(r:Int)<(m:Int):=by omega
    clear hres;go_wp2_with fail;go_ret;rw[HRes.out];exact⟨rfl,HZ.out⟩
   have q2:¬ (r:Int)<(m:Int):=by omega
   have q3:decide ((r:Int)<(m:Int))=false:=decide_eq_false q2;have q4:decide (r<m)=false:=decide_eq_false hfull;clear HZ;obtain⟨hL2,hk2,hF2,hFd2⟩:=H2.out;have hus:=zfV w2 b d F1 Fd1 D G hL2;obtain⟨en,hen⟩:=zX1 ((flat G.l).length);rw[← hen] at hus;have Hen:=hid hen
   have hsrc2:Cells w2 ao n 1 (z0B body):=HS.out.1.keep0 hk2 fun hp x hx y=>by
    obtain⟨y1,y2⟩:=HS.out.2.1 x (by omega) hx;exact y.elim y1 y2
   have HS2:=hid hsrc2;clear hL2 hk2 hF2 hFd2 hen hsrc2;go_wp2_with fail;refine hus.mono ?_;rintro e w3 ⟨rfl,hk3⟩;obtain⟨vl,vs,HL⟩:=H2.out.1.later hk3;have hh:=HL.wal.head;have hhead:=HL.wal.head;unfold z2A at hh;obtain⟨h0,h1,h2,h3,h4,hf,hb⟩:=z1O hh;obtain⟨adl,cl,rfl,-⟩:=HL.wal.recs.row.form;have H3:=hid (zA1 HL (zA1 hk3 hhead));clear hh HL hk3 hhead hus;go_wp2_with fail;refine z0F [33] (by kernel_rfl) (by kernel_rfl) ?_
   repeat (first | (apply z0E (by rfl);(intro K w';go_simp;exact id)) | (apply z0I (by rfl);(intro K;go_simp;exact id)))
   refine z1X (by rfl) (by rfl) (fun K hK=>?_);go_simp;refine(zbL w3.drew ao n c body ((HS2.out.keep H3.out.2.1 fun _ _ x=>x).keep (Keep.refl (fun _=>False) _).drew fun _ _ x=>x) (by omega)).mono ?_;rintro e w4 ⟨v4,rfl,hf4⟩;obtain⟨ad4,c4,hv4,-⟩:=hf4.row.form;rw[hbl] at hv4;subst hv4;go_simp;refine hK _ _ (Pre.of_keep hf4.keep) ?_;clear hK K;have HF4:=hid hf4;clear hf4 h0 h1 h2 h3 h4 hf
   (refine z1X (by rfl) (by rfl) (fun K hK=>?_);go_simp;refine hK _ _ (Pre.push _ rfl) ?_;clear hK K)
   obtain⟨w5,hw5⟩:=zX1 (w4.alloc (.cells #[.slice ad4 n c4] 29));have hnew5:w5.heap[w4.heap.size]?=some (.cells #[.slice ad4 n c4] 29):=by rw[hw5];exact heap_alloc_new w4 _
   have hk45:Keep (fun _=>False) w4 w5:=by rw[hw5];exact(Keep.refl _ _).alloc _
   rw[← hw5];clear hw5;have hk35:Keep (fun _=>False) w3 w5:=(HF4.out.keep.undrew).next hk45 (fun _ _ x=>x) (fun _ _ x=>x);have hr5:=H3.out.1.wal.recs.keep hk35 (fun _ _ _ x=>x);have hcnt:=H3.out.1.wal.ok.count;have H5:=hid (zA1 hk45 (zA1 hk35 hr5));refine z0K (by rfl) (by rfl) (fun K hK=>?_)
   refine z0S z7E _ _ rfl rfl hr5.row (some ⟨w4.heap.size,0,none⟩) 1 1 [.slice ad4 n c4] rfl
    ⟨rfl,fun _=>⟨_,rfl,fun j u hu=>by rw[z0L,Nat.zero_add,cell_of_row _ _ _ _ _ _ hnew5];simpa using hu⟩⟩ (by intro u hu;simp at hu;subst hu;rfl) (by unfold maxLen;omega) (by omega) ?_
   intro v6 w6 hr6 hk6 hv6;obtain⟨ad6,c6,rfl,-⟩:=hr6.form;refine hK _ _ ?_;clear hK K;have hbv:(Value.slice adl G.l.length cl).ownBlock≠some b:=fun e=>(hr5.own b e).2 rfl;have hh6:=hk6.get (hk35.get H3.out.2.2 id) hbv;obtain⟨h0,h1,h2,h3,h4,hf,hb6⟩:=z1O (show w6.heap[b]?=some (.cells #[_,_,_,_,_] _ (0,0)) from hh6);have H6:=hid (zA1 hr6 (zA1 hk6 (zA1 hv6 hh6)));clear hk45 hk35 hr5 hnew5 hr6 hk6 hv6 hbv hh6
   repeat (apply z0E (by rfl);(intro K w';go_simp;exact id))
   (refine z0K (by rfl) (by rfl) (fun K hK=>?_);go_simp;refine hK _ _ ?_;clear hK K)
   refine z0P ?_;have hk7:Keep (fun k=>k=b) w6 (w6.setCell ⟨b,2,none⟩ (.slice ad6 (G.l.length+1) c6)):=kst;have hh7:=z0A H6.out.2.2.2 2 (.slice ad6 (G.l.length+1) c6);obtain⟨w7,hw7⟩:=zX1 (w6.setCell ⟨b,2,none⟩ (.slice ad6 (G.l.length+1) c6));rw[← hw7] at hk7 hh7 ⊢;clear hw7 h0 h1 h2 h3 h4 hf
   have hL7:RLogIs w7 b d (fun k=>F1 k∨(w3.heap.size≤k∧k<w7.heap.size)) Fd1 D { G with l:=G.l ++ [body] } (.slice ad6 (G.l.length+1) c6) (vs ++ [.slice ad4 n c4])∧Keep (fun k=>F1 k) w3 w7:=by
    obtain⟨HL,hk3,hhead⟩:=H3.out;obtain⟨k45,k35,r5⟩:=H5.out;obtain⟨r6,k6,v6o,hh6⟩:=H6.out;have s35:=k35.size;have s56:=k6.size;have s67:=hk7.size;have s34:w3.heap.size≤w4.heap.size:=HF4.out.keep.undrew.size;have s45:=k45.size;have hF3:=HL.wal.lt;have hD3:=HL.disk.lt;have k57:Keep (fun k=>(Value.slice adl G.l.length cl).ownBlock=some k∨k=b) w5 w7:=k6.next hk7 (fun _ _ x=>.inl x) (fun _ _ x=>.inr x);have k37:Keep (fun k=>F1 k) w3 w7:=k35.next k57 (fun _ _ x=>x.elim) (fun k _ x=>by rcases x with x | rfl;exact(r5.own k x).1;exact HL.wal.self)
    have ok1:LgOk (half D) { G with l:=G.l ++ [body] }:=by
     have k:=HL.wal.ok;have hroom:=Hr'.out;unfold room at hroom;have hmm:=HM.out;refine⟨by show (flat (G.l ++ [body])).length≤_;rw[z3V,hbl];omega,k.two,k.few,k.ep,?_,?_⟩
     ·intro x hx
      rcases List.mem_append.1 hx with hx | hx
      ·exact k.small x hx
      ·simp at hx;subst hx;omega
     ·have:=k.safe
      show G.safe≤(G.l ++ [body]).length;simp;omega
    refine⟨⟨⟨?_,?_,.inl HL.wal.self,fun k x=>?_,ok1⟩,HL.disk.keep k37 (fun k x y=>HL.apart k y x),fun k x y=>?_⟩,k37⟩
    ·rw[hh7];rfl
    ·refine(r5.push (F':=fun k=>F1 k∨(w3.heap.size≤k∧k<w7.heap.size)) (l:=body) (HF4.out.row.keep k45 (fun _ _ x=>x) |> fun h=>by rw[hbl] at h ⊢;exact h) (fun k e=>?_) r6 k6 (fun k x=>.inl x) (fun k e=>?_)).keep hk7 (fun k _ h2 h3=>h2 h3)
     ·have h1:w3.drew.heap.size≤k:=HF4.out.own k e
      have h1':w3.heap.size≤k:=h1;have h2:=HF4.out.row.lt e;have h3:=hF3 b HL.wal.self;refine⟨.inr ⟨h1',by omega⟩,by omega,fun e'=>?_⟩;have:=hF3 k (r5.own k e').1;omega
     ·rcases v6o with ⟨_,h0⟩ | ⟨k',h2,h3⟩
      ·omega
      ·rw[e] at h2;cases h2
       rcases h3 with h3 | h3
       ·exact .inl h3
       ·have h4:=r6.lt e
        have h5:=hF3 b HL.wal.self;exact .inr ⟨by omega,.inr ⟨by omega,by omega⟩,by omega⟩
    ·rcases x with x | x
     ·have:=hF3 k x;omega
     ·exact x.2
    ·have:=hD3 k y
     rcases x with x | x
     ·exact HL.apart k x y
     ·omega
   obtain⟨HL7,k37⟩:=hL7;have hh7':=HL7.wal.head;unfold z2A at hh7';obtain⟨h0,h1,h2,h3,h4,hf,hb7⟩:=z1O hh7';have hfu:=zhP w7 b d Fd1 D h0 HL7.disk ad6 c6 (G.l ++ [body]) HL7.wal.recs.lists (by simp;omega) HL7.wal.ok.small HL7.wal.ok.fit;rw[show (G.l ++ [body]).length=G.l.length+1 by simp] at hfu;have H7:=hid (zA1 HL7 k37);have HFu:=hid hfu;clear hfu HL7 k37 hk7 hh7 hh7';go_wp2_with fail;refine HFu.out.mono ?_;rintro e w8 ⟨v8,rfl,hf8⟩;obtain⟨ad8,c8,hv8,hc8,-⟩:=hf8.row.form;have hal:(z1F (half D) (G.l ++ [body])).length=32 * half D:=z1Y H7.out.1.wal.ok.fit;rw[hal] at hv8 hc8;subst hv8;have HL8:=hid (show RLogIs w8 b d _ Fd1 D { G with l:=G.l ++ [body] } _ _ from⟨H7.out.1.wal.keep hf8.keep (fun _ _ x=>x),H7.out.1.disk.keep hf8.keep (fun _ _ x=>x),H7.out.1.apart⟩);have hh8:=HL8.out.wal.head;unfold z2A at hh8;clear h0 h1 h2 h3 h4 hf;obtain⟨h0,h1,h2,h3,h4,hf,hb8⟩:=z1O hh8;obtain⟨nn,hnn⟩:=zX1 (32 * half D);rw[← hnn];obtain⟨e2,he2⟩:=zX1 ((flat (G.l ++ [body])).length);have he2':e2=en+m:=by rw[he2,z3V,hbl,Hen.out,HM.out]
   have hus8:∀ s:Later w8,Calls Tryz.prog 113 #[.pointer (some ⟨b,0,none⟩)] s.val fun e w'=>e = .returned (.int .i64 (e2:Nat))∧Keep (fun _=>False) s.val w':=fun s=>by
    have h:=zfV s.val b d _ Fd1 D { G with l:=G.l ++ [body] } (RLogAt.later ⟨_,_,HL8.out⟩ s.keep);rw[he2];exact h
   obtain⟨lo,hlo⟩:=zX1 (en / 32);have t1:(en:Int).tdiv 32=(lo:Int):=by rw[Int.tdiv_eq_ediv_of_nonneg (by omega)];omega
   obtain⟨e3,he3⟩:=zX1 (e2 - 1);have hmm:=HM.out;have t3:(e2:Int) - 1=(e3:Int):=by omega
   have he2fit:e2≤32 * half D:=by rw[he2];exact HL8.out.wal.ok.fit
   have hsm2:=z5E HL8.out.disk.ok;have t2:=wi64 lo (by omega);have t4:=wi64 e3 (by omega);obtain⟨hi,hhi⟩:=zX1 (e3 / 32);have t5:(e3:Int).tdiv 32=(hi:Int):=by rw[Int.tdiv_eq_ediv_of_nonneg (by omega)];omega
   have t6:=wi64 hi (by omega)
   have hlay:=fun s:Later w8=>zkA s.val b d G.ep G.ep G.safe lo (hi+1) nn c8 (.slice ad6 (G.l.length+1) c6) G.dead Fd1 D (z1F (half D) (G.l ++ [body])) ad8 (s.keep.get hh8 id) (HL8.out.disk.keep s.keep fun _ _ x=>x)
    (fun x=>HL8.out.apart b HL8.out.wal.self x) ((by rw[hnn];have h:=Cells.of_row (show Row w8 _ 1 (.slice ad8 (32 * half D) c8) (32 * half D) _ from hal ▸ hf8.row);exact h:Cells w8 ad8 nn 1 _).later s)
    (fun x hx=>by
     have h1:=hf8.own x.block (by rw[hx];rfl);have h2:=H7.out.1.disk.lt;have h3:=H7.out.1.wal.lt b H7.out.1.wal.self
     exact⟨fun y=>by have:=h2 _ y;omega,by omega⟩) hnn (by rw[hnn];exact hc8) (by omega) (by omega) (hi:Int) (by omega) hfew
   have j1:=fun s:Later w8=>s.cell h1;have HU:=hid hus8;have HLay:=hid hlay;have HE:=hid (zA1 he2 (zA1 he2' (zA1 hlo (zA1 he3 (zA1 hhi hmm)))));have HF8:=hid hf8.keep;clear hus8 hlay he2 he2' hlo he3 hhi hmm hf8 hh8 h0 h1 h2 h3 h4 hf hnn hal hc8 he2fit hsm2;go_wp2_with fail
   (refine z1D 12 (by kernel_rfl) (by kernel_rfl) ?_;simp only[List.take_succ_cons,List.take_zero,List.drop_succ_cons,List.drop_zero];(repeat (go_big_quiet_step ((go_at_call 113;exact Later.call (HU.out _)))));refine wpQuiet_nil ?_;rintro _ ⟨sq,rfl⟩)
   clear j1;go_wp2_with fail;refine(HLay.out sq).mono ?_;intro e w9 hp;have HL9:RLogIs sq.val b d _ Fd1 D { G with l:=G.l ++ [body] } _ _:=⟨HL8.out.wal.keep sq.keep (fun _ _ x=>x),HL8.out.disk.keep sq.keep (fun _ _ x=>x),HL8.out.apart⟩;obtain⟨rfl,hto⟩:=RLogAt.laid HL9 hp;obtain⟨a1,a2,a3,a4,a5,a6⟩:=HE.out;have hgd:G.dead=false:=by have h:=Hg.out;unfold gone at h;simp only[Bool.or_eq_false_iff] at h;exact h.1
   have hres:R=((lay G.ep (z1F (half D) (G.l ++ [body])) lo (hi+1 - lo) D).1,(lay G.ep (z1F (half D) (G.l ++ [body])) lo (hi+1 - lo) D).2,{ G with l:=G.l ++ [body],dead:=decide ((lay G.ep (z1F (half D) (G.l ++ [body])) lo (hi+1 - lo) D).1≠0) }):=by
    rw[HR.out];unfold WM.append;have h3:=Hr'.out;rw[Hg.out,if_neg (by simp),if_neg (by omega),if_neg (by omega)];have h1:(flat G.l).length / 32=lo:=by rw[a3,Hen.out]
    have h2:((flat (G.l ++ [body])).length - 1) / 32=hi:=by rw[a5,a4,a1]
    simp only;rw[h1,h2,show hi - lo+1=hi+1 - lo by omega];rfl
   have HRes:=hid hres;have HTo:=hid hto;have Hgd:=hid hgd;clear hp hres hto HL9 a1 a2 a3 a4 a5 a6 hgd;go_wp2_with fail;go_ret;rw[HRes.out];refine⟨rfl,?_⟩;have hto:=HTo.out;rw[show ({ G with l:=G.l ++ [body] }:Lg).dead=false from Hgd.out,Bool.false_or] at hto;obtain⟨hL2,hk2,hF2,hFd2⟩:=H2.out;obtain⟨F9,Fd9,b1,b2,b3,b4⟩:=hto;have k37:=H7.out.2;have k3:=H3.out.2.1;have s2:=hk2.size;have s23:=k3.size;have s37:=k37.size;have s78:=HF8.out.size;have s89:=sq.keep.size;have hD3:=H3.out.1.disk.lt
   have k29:Keep (fun k=>F1 k∨Fd1 k) w2 w9:=by
    have k28:Keep (fun k=>F1 k) w2 sq.val:=((k3.next k37 (H:=fun k=>F1 k) (fun _ _ x=>x.elim) (fun _ _ x=>x)).next HF8.out (H:=fun k=>F1 k) (fun _ _ x=>x) (fun _ _ x=>x.elim)).next sq.keep (fun _ _ x=>x) (fun _ _ x=>x.elim);refine k28.next b2 (fun _ _ x=>.inl x) fun k hk x=>?_
    rcases x with (x | x) | x
    ·exact .inl x
    ·omega
    ·exact .inr x
   refine⟨F9,Fd9,b1,hk2.next k29 (fun _ _ x=>x) (fun k hk x=>?_),fun k x=>?_,fun k x=>?_⟩
   ·rcases x with x | x
    ·rcases hF2 k x with y | y
     ·exact .inl y
     ·omega
    ·rcases hFd2 k x with y | y
     ·exact .inr y
     ·omega
   ·rcases b3 k x with (y | y) | y
    ·exact hF2 k y
    ·right;omega
    ·right;omega
   ·rcases b4 k x with y | y
    ·exact hFd2 k y
    ·right;omega
end
end Go.Proofs.YtkjofdocgaiedaaGreat
