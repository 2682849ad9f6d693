/- Texts WalV, WalO, RwA, RwB, RwC, RwD, RwE, RwF, Wts, RwG, RwH, RwI, Pur in one. Conditions: as each law names them. -/
import Derived.Deep.CutBlock
import Derived.Deep.DeepCutAuto
import Derived.Deep.RegionHeld3
import Derived.Test.YtkjofdocgaiedaaPaa
import Derived.Test.YtkjofdocgaiedaaPaj
import Derived.Test.YtkjofdocgaiedaaPak
import Derived.Test.YtkjofdocgaiedaaPaq
import Derived.Test.YtkjofdocgaiedaaPav
namespace Go.Proofs.Ytkjofdocgaiedaa
open Go.RowKit
open DM BM WM
theorem wipe_skip (ep:Nat) (B:List UInt8) (en:Nat):∀ (k i m:Nat) (wr:Bool) (D:Dk),(∀ j,i≤j→j<i+k→dirty B en j=false)→WM.wipe ep B en i (k+m) wr D=WM.wipe ep B en (i+k) m wr D
 | 0,i,m,wr,D,_=>by rw[Nat.zero_add,Nat.add_zero]
 | k+1,i,m,wr,D,h=>by
   rw[show k+1+m=(k+m)+1 by omega,WM.wipe,h i (Nat.le_refl _) (by omega)]
   simp only
   rw[if_neg (by simp),wipe_skip ep B en k (i+1) m wr D (fun j h1 h2=>h j (by omega) (by omega)),show i+1+k=i+(k+1) by omega]
theorem wipe_waits (ep:Nat) (B:List UInt8) (en:Nat):∀ k i wr D,(WM.wipe ep B en i k wr D).2.2.waits.length≤D.waits.length+k
 | 0,i,wr,D=>Nat.le_refl _
 | k+1,i,wr,D=>by
   have h:=write_waits D ((WM.first D ep+i:Nat):Int) (secOf (clean B en) i)
   rw[WM.wipe]
   split
   ·simp only
    split
    ·have:=wipe_waits ep B en k (i+1) true (DM.write D ((WM.first D ep+i:Nat):Int) (secOf (clean B en) i)).2
     omega
    ·show (DM.write D ((WM.first D ep+i:Nat):Int) (secOf (clean B en) i)).2.waits.length≤_
     omega
   ·have:=wipe_waits ep B en k (i+1) wr D
    omega
theorem wipe_len (ep:Nat) (B:List UInt8) (en:Nat):∀ k i wr D,(WM.wipe ep B en i k wr D).2.2.safe.length=D.safe.length
 | 0,i,wr,D=>rfl
 | k+1,i,wr,D=>by
   rw[WM.wipe]
   split
   ·simp only
    split
    ·rw[wipe_len ep B en k,write_len]
    ·exact write_len _ _ _
   ·rw[wipe_len ep B en k]
theorem dirty_before (B:List UInt8) (en i:Nat) (h:i<en / 32):dirty B en i=false:=by
 unfold dirty
 rw[List.any_eq_false]
 intro k hk
 rw[List.mem_range] at hk
 simp
 intro h2
 omega
def wipeS (ep:Nat) (B:List UInt8) (en:Nat) (D:Dk):Int×Dk:=
 let r:=WM.wipe ep B en 0 (half D) false D
 if r.1=0∧r.2.1=true then DM.sync r.2.2 else (r.1,r.2.2)
def WipeTo (w:World) (d ga ca nn:Nat) (Fd:Nat→Prop) (B:List UInt8) (en:Nat) (Y:Int×Dk) (e:Ending) (w':World):Prop:=
 e = .returned (.int .i64 Y.1)∧Keep (fun k=>Fd k∨k=ga) w w'∧(∃ Fd',DiskAt w' d Fd' Y.2∧∀ k,Fd' k→Fd k∨w.heap.size≤k)∧
  (Y.1=0→Row w' 5 1 (.slice (some ⟨ga,0,none⟩) nn ca) nn (bytesV (clean B en)))
set_option maxRecDepth 20000 in
set_option maxHeartbeats 2000000 in
theorem wipe_any (w:World) (b d ga ca ep en nn:Nat) (Fd:Nat→Prop) (D:Dk) (B:List UInt8) (vl:Value) (sf:Nat)
  (H:w.heap[b]?=some (.cells (walCells d ep (half D) (.slice (some ⟨ga,0,none⟩) nn ca) vl sf en false) 109 (0,0)))
  (hrow:Row w 5 1 (.slice (some ⟨ga,0,none⟩) nn ca) nn (bytesV B)) (hnn:nn=32 * half D) (hen:en≤nn) (hD:DiskAt w d Fd D)
  (hbF:¬ Fd b) (hgF:¬ Fd ga) (hgb:ga≠b) (hfew:D.waits.length≤800000) :
  Calls Try.prog 63 #[.pointer (some ⟨b,0,none⟩)] w (WipeTo w d ga ca nn Fd B en (wipeS ep B en D)):=by
 have hBl:B.length=nn:=by have:=hrow.1;rw[bytesV_length] at this;omega
 have hfewD:=hD.ok.few
 have hhalf:half D≤1023:=by unfold half;omega
 obtain⟨adx,cax,hvx,hnca,hca,-⟩:=hrow.form
 simp at hvx
 obtain⟨rfl,rfl⟩:=hvx
 have hblt:=heap_lt H
 have hglt:=hrow.lt (k:=ga) (by simp[Value.ownBlock])
 have hDlt:=hD.lt
 obtain⟨w1,hw1⟩:∃ w1,w1=(w.alloc (.cells #[.pointer (some ⟨b,0,none⟩)] 82)).alloc (.cells #[.bool false] 4):=⟨_,rfl⟩
 have hk1:Keep (fun _=>False) w w1:=by rw[hw1];exact((Keep.refl _ _).alloc _).alloc _
 have hsz:(w.alloc (.cells #[.pointer (some ⟨b,0,none⟩)] 82)).heap.size=w.heap.size+1:=by simp
 have hx1:w1.cell? ⟨w.heap.size,0,none⟩=some (.pointer (some ⟨b,0,none⟩)):=by
  have h1:=heap_alloc_new w (.cells #[.pointer (some ⟨b,0,none⟩)] 82)
  have h2:=((Keep.refl (fun _=>False) (w.alloc (.cells #[.pointer (some ⟨b,0,none⟩)] 82))).alloc (.cells #[.bool false] 4)).get h1 id
  rw[hw1,cell_of_row _ _ _ _ _ _ h2]
  rfl
 have hy1:w1.heap[w.heap.size+1]?=some (.cells #[.bool false] 4 (0,0)):=by
  have h1:=heap_alloc_new (w.alloc (.cells #[.pointer (some ⟨b,0,none⟩)] 82)) (.cells #[.bool false] 4)
  rw[hsz] at h1
  rw[hw1];exact h1
 have hs1:w1.heap.size=w.heap.size+2:=by rw[hw1];simp
 obtain⟨x,hx⟩:∃ x,x=w.heap.size:=⟨_,rfl⟩
 rw[← hx] at hx1 hy1
 obtain⟨y,hy⟩:∃ y,y=x+1:=⟨_,rfl⟩
 rw[← hy] at hy1
 have hh1:=hk1.get H id
 have hr1:=hrow.keep hk1 fun _ _ x=>x
 have hD1:=hD.keep hk1 fun _ _ x=>x
 have hxF:¬ Fd x:=fun h=>by have:=hDlt x h;omega
 have hyF:¬ Fd y:=fun h=>by have:=hDlt y h;omega
 have hskip:WM.wipe ep B en 0 (half D) false D=WM.wipe ep B en (en / 32) (half D - en / 32) false D:=by
  have h:=wipe_skip ep B en (en / 32) 0 (half D - en / 32) false D (fun j _ h2=>dirty_before B en j (by omega))
  rwa [show en / 32+(half D - en / 32)=half D by omega,Nat.zero_add] at h
 obtain⟨i0,i1,i2,i3,i4,i5,i6,i7,if1,ib1⟩:=cells8 (show w1.heap[b]?=some (.cells #[_,_,_,_,_,_,_,_] _ (0,0)) from hh1)
 have heach:=each_any w1.drew b 81 #[.pointer (some ⟨x,0,none⟩),.pointer (some ⟨y,0,none⟩)] en (en / 32) (half D) nn nn ca (.slice (some ⟨ga,0,none⟩) nn ca)
  (fun i wr=>en / 32≤i∧i≤half D∧∃ F' D' wf,WM.wipe ep B en 0 (half D) false D=WM.wipe ep B en i (half D - i) wf D'∧Keep (fun k=>Fd k∨k=ga∨k=y) w1 wr∧DiskAt wr d F' D'∧(∀ k,F' k→Fd k∨w1.heap.size≤k)∧D'.safe.length=D.safe.length∧D'.waits.length≤D.waits.length+(i - en / 32)∧
   Row wr 5 1 (.slice (some ⟨ga,0,none⟩) nn ca) nn (bytesV (mixA B en (i * 32)))∧wr.heap[y]?=some (.cells #[.bool wf] 4 (0,0)))
  (fun c wr=>∃ F' D',WM.wipe ep B en 0 (half D) false D=(c,true,D')∧Keep (fun k=>Fd k∨k=ga∨k=y) w1 wr∧DiskAt wr d F' D'∧(∀ k,F' k→Fd k∨w1.heap.size≤k)∧wr.heap[y]?=some (.cells #[.bool true] 4 (0,0)))
  rfl (fun i=>by omega) (by omega) (by omega) hnca hca (by omega) (Nat.le_refl _) (by omega) (some ⟨ga,0,none⟩) rfl ?_ ?_
  (enters_of Try.func81 (by kernel_rfl) rfl) ?_
 ·have HE:=hid heach
  obtain⟨Y,hY⟩:∃ Y,Y=wipeS ep B en D:=⟨_,rfl⟩
  rw[← hY]
  have HY:=hid hY
  obtain⟨Post,hPost⟩:∃ Post,Post=WipeTo w d ga ca nn Fd B en Y:=⟨_,rfl⟩
  have fin:∀ wX,WipeTo w d ga ca nn Fd B en Y (.returned (.int .i64 Y.1)) wX→Post (.returned (.int .i64 Y.1)) wX:=fun wX h=>by rw[hPost];exact h
  rw[← hPost]
  have Fin:=hid fin
  clear fin hPost
  have H1:=hid (And.intro hk1 (And.intro hs1 (And.intro hx (And.intro hy (And.intro hh1 (And.intro hx1 hy1))))))
  have HNN:=hid hnn
  clear hnn heach hY hskip hk1 hs1 hh1 hr1 hD1 hD hrow H hsz
  go_enter Try.func63,Try.ntmps63
  go_wp2_with (at_builtin;refine stopAt ?_;intro q hq)
  rw[← hw1,← hx,← hy]
  clear hw1 hx hy
  obtain⟨Z,hZ⟩:∃ Z,Z=WM.wipe ep B en 0 (half D) false D:=⟨_,rfl⟩
  have he2:Calls Try.prog 53 #[.pointer (some ⟨b,0,none⟩),.int .i64 (en:Nat),.int .i64 (nn:Nat),.func (.func 81) #[] #[.pointer (some ⟨x,0,none⟩),.pointer (some ⟨y,0,none⟩)]] w1.drew fun e w'=>
    e = .returned (.int .i64 Z.1)∧(w'.cell? ⟨x,0,none⟩=some (.pointer (some ⟨b,0,none⟩))∧w'.cell? ⟨b,3,none⟩=some (.slice (some ⟨ga,0,none⟩) nn ca)∧w'.cell? ⟨b,6,none⟩=some (.int .i64 (en:Nat)))∧
     Hid (Keep (fun k=>Fd k∨k=ga∨k=y) w1 w'∧(∃ F',DiskAt w' d F' Z.2.2∧(∀ k,F' k→Fd k∨w1.heap.size≤k)∧Z.2.2.waits.length≤900000)∧w'.heap[y]?=some (.cells #[.bool Z.2.1] 4 (0,0))∧(Z.1=0→Row w' 5 1 (.slice (some ⟨ga,0,none⟩) nn ca) nn (bytesV (clean B en)))):=by
   refine HE.out.mono ?_
   have hnn:=HNN.out
   rintro e w' ⟨c,rfl,g1,g2⟩
   have key:Keep (fun k=>Fd k∨k=ga∨k=y) w1 w'→(w'.cell? ⟨x,0,none⟩=some (.pointer (some ⟨b,0,none⟩))∧w'.cell? ⟨b,3,none⟩=some (.slice (some ⟨ga,0,none⟩) nn ca)∧w'.cell? ⟨b,6,none⟩=some (.int .i64 (en:Nat))):=fun hk=>by
    obtain⟨-,hs1,hx,hy,-,hx1,-⟩:=H1.out
    refine⟨?_,?_,?_⟩
    ·rw[World.cell?_of_block (hk.block _ (World.block_lt_of_cell? _ _ hx1) (fun h=>by rcases h with h | h | h;exact hxF h;(have h':x=ga:=h;omega);(have h':x=y:=h;omega)))];exact hx1
    ·rw[World.cell?_of_block (hk.block _ ib1 (fun h=>by rcases h with h | h | h;exact hbF h;exact hgb h.symm;(have h':b=y:=h;omega)))];exact i3
    ·rw[World.cell?_of_block (hk.block _ ib1 (fun h=>by rcases h with h | h | h;exact hbF h;exact hgb h.symm;(have h':b=y:=h;omega)))];exact i6
   by_cases h0:c=0
   ·obtain⟨_,_,F',D',wf,hl,hkp,hD',hF',hs',hw',hrow',hy'⟩:=g1 h0
    rw[Nat.sub_self] at hl
    have hz:Z=(0,wf,D'):=by rw[hZ,hl];rfl
    rw[hz,h0]
    refine⟨rfl,key hkp,hid ⟨hkp,⟨F',hD',hF',by show D'.waits.length≤_;omega⟩,hy',fun _=>?_⟩⟩
    rw[show half D * 32=nn by omega] at hrow'
    rw[← mixA_all,hBl]
    exact hrow'
   ·obtain⟨F',D',hl,hkp,hD',hF',hy'⟩:=g2 h0
    have hz:Z=(c,true,D'):=by rw[hZ,hl]
    rw[hz]
    refine⟨rfl,key hkp,hid ⟨hkp,⟨F',hD',hF',?_⟩,hy',fun h=>absurd h h0⟩⟩
    have:=wipe_waits ep B en (half D) 0 false D
    rw[hl] at this
    show D'.waits.length≤_
    have h9:D'.waits.length≤D.waits.length+half D:=this
    omega
  have HE2:=hid he2
  have HY2:=hid (show Y=if Z.1=0∧Z.2.1=true then DM.sync Z.2.2 else (Z.1,Z.2.2) by rw[hZ];exact HY.out)
  have hx1:=H1.out.2.2.2.2.2.1
  clear HE he2 hZ HY i0 i1 i2 i4 i5 i7 if1
  clear hDlt hxF hyF hfewD hBl
  go_region_held3 (fun w'=>w'.cell? ⟨x,0,none⟩=some (.pointer (some ⟨b,0,none⟩))∧w'.cell? ⟨b,3,none⟩=some (.slice (some ⟨ga,0,none⟩) nn ca)∧w'.cell? ⟨b,6,none⟩=some (.int .i64 (en:Nat)))
   (first | exact⟨hx1,i3,i6⟩ | assumption)
   (first | (go_simp;go_at_call 53;refine HE2.out.mono ?_;rintro e w2 ⟨rfl,hz2,HZ2⟩;go_simp))
  obtain⟨hk1,hs1,hx,hy,hh1,-,hy1⟩:=H1.out
  obtain⟨zk,⟨F2,zD,zF,zw⟩,zy,zr⟩:=HZ2.out
  have y0:w2.cell? ⟨y,0,none⟩=some (.bool Z.2.1):=by rw[cell_of_row _ _ _ _ _ _ zy];rfl
  have d0:w2.cell? ⟨b,0,none⟩=some (.pointer (some ⟨d,0,none⟩)):=by
   rw[World.cell?_of_block (zk.block _ ib1 (fun h=>by rcases h with h | h | h;exact hbF h;exact hgb h.symm;(have h':b=y:=h;omega)))]
   rw[cell_of_row _ _ _ _ _ _ hh1];rfl
  have x0:=hz2.1
  have hk02:Keep (fun k=>Fd k∨k=ga) w w2:=hk1.next zk (fun _ _ x=>x.elim) (fun k hk x=>by
   rcases x with x | x | x
   ·exact .inl x
   ·exact .inr x
   ·have h':k=y:=x
    omega)
  have hF02:∀ k,F2 k→Fd k∨w.heap.size≤k:=fun k x=>(zF k x).imp id fun h=>by omega
  have HW2:=hid (And.intro hk02 (And.intro zD (And.intro hF02 (And.intro zr zw))))
  clear zk zD zF zw zy zr hk02 hF02 hk1 hs1 hx hy hh1 hy1 hz2 HZ2
  by_cases z0:Z.1=0
  rotate_left
  ·have hy:Y=(Z.1,Z.2.2):=by rw[HY2.out,if_neg (fun h=>z0 h.1)]
   have hf:=Fin.out w2 (by rw[hy];exact⟨rfl,HW2.out.1,⟨F2,HW2.out.2.1,HW2.out.2.2.1⟩,fun h=>absurd h z0⟩)
   rw[hy] at hf
   have HF:=hid hf
   have u1:(Z.1 == 0)=false:=by simp[z0]
   have u3:decide (Z.1=0)=false:=by simp[z0]
   clear hf hy z0
   go_wp2_with (at_builtin;refine stopAt ?_;intro q hq)
   exact HF.out
  ·rw[z0]
   cases hwf:Z.2.1 with
   | false=>
     have hy:Y=(0,Z.2.2):=by rw[HY2.out,if_neg (by rw[hwf];simp),z0]
     have hf:=Fin.out w2 (by rw[hy];exact⟨rfl,HW2.out.1,⟨F2,HW2.out.2.1,HW2.out.2.2.1⟩,fun _=>HW2.out.2.2.2.1 z0⟩)
     rw[hy] at hf
     have HF:=hid hf
     rw[hwf] at y0
     clear hf hy z0
     go_wp2_with (at_builtin;refine stopAt ?_;intro q hq)
     exact HF.out
   | true=>
     have hy:Y=DM.sync Z.2.2:=by rw[HY2.out,if_pos ⟨z0,hwf⟩]
     rw[hwf] at y0
     have Hz0:=hid z0
     have HYs:=hid hy
     clear z0 hy
     go_wp2_with (at_builtin;refine stopAt ?_;intro q hq)
     refine(sync_any w2 d F2 Z.2.2 HW2.out.2.1 (by have:=HW2.out.2.2.2.2;omega)).mono ?_
     rintro e w3 ⟨rfl,F3,s1,s2,s3⟩
     have hgF2:¬ F2 ga:=fun h=>(HW2.out.2.2.1 ga h).elim hgF fun h=>by omega
     have hf:=Fin.out w3 (by
      rw[HYs.out]
      refine⟨rfl,HW2.out.1.next s2 (fun _ _ x=>x) (fun k hk x=>(HW2.out.2.2.1 k x).elim .inl fun h=>by omega),⟨F3,s1,fun k x=>(s3 k x).elim (HW2.out.2.2.1 k) fun h=>.inr (Nat.le_trans HW2.out.1.size h)⟩,fun _=>(HW2.out.2.2.2.1 Hz0.out).keep s2 fun k e x=>?_⟩
      simp[Value.ownBlock] at e
      subst e
      exact hgF2 x)
     rw[HYs.out] at hf
     have HF:=hid hf
     clear hf s1 s2 s3
     go_wp2_with (at_builtin;refine stopAt ?_;intro q hq)
     exact HF.out
 ·rintro i wr ⟨_,_,F',D',wf,_,hkp,_⟩
  rw[World.cell?_of_block (hkp.block b ib1 (by rintro(h | h | h);exact hbF h;exact hgb h.symm;omega))]
  exact i3
 ·exact⟨Nat.le_refl _,by omega,Fd,D,false,hskip,(Keep.refl _ _).drew,hD1.keep (Keep.refl (fun _=>False) _).drew (fun _ _ x=>x),fun _ x=>.inl x,rfl,by omega,by rw[mixA_zero _ _ _ (by omega)];exact hr1.keep (F:=fun _=>False) (Keep.refl _ _).drew (fun _ _ x=>x),hy1⟩
 ·rintro i wr hi1 hi2 ⟨_,_,F',D',wf,hl,hkp,hD',hF',hs',hw',hrow',hy'⟩
  have hhl:=half_len hs'
  have hxr:wr.cell? ⟨x,0,none⟩=some (.pointer (some ⟨b,0,none⟩)):=by
   rw[World.cell?_of_block (hkp.block _ (World.block_lt_of_cell? _ _ hx1) (fun h=>by rcases h with h | h | h;exact hxF h;(have h':x=ga:=h;omega);(have h':x=y:=h;omega)))];exact hx1
  have hhr:=hkp.get hh1 (by rintro(h | h | h);exact hbF h;exact hgb h.symm;omega)
  rw[← hhl] at hhr
  have nF:∀ k,¬ Fd k→k<w1.heap.size→¬ F' k:=fun k h1 h2 h3=>(hF' k h3).elim h1 fun h=>by omega
  have hcall:=wipe1_any wr x y b d ga ca ep en nn i F' D' B vl sf false wf hxr hy' hhr hrow' (by rw[hhl];exact hnn) (by rw[hhl];exact hi2) hD'
   (nF x hxF (by omega)) (nF y hyF (by omega)) (nF b hbF ib1) (nF ga hgF (by omega)) (by omega) (by omega) (by omega) hgb (by omega) (by omega)
  have ht:tailAt (some ⟨ga,0,none⟩) ca (i * 32) 1=some ⟨ga,i * 32,none⟩:=by
   unfold tailAt
   rw[if_neg (by omega)]
   simp[addr_add]
  rw[ht]
  refine hcall.mono ?_
  rintro e w' ⟨rfl,hk2,⟨F2,hD2,hF2⟩,hrow2,hy2⟩
  obtain⟨j,hj⟩:∃ j,half D - i=j+1:=⟨half D - i - 1,by omega⟩
  have hkw:Keep (fun k=>Fd k∨k=ga∨k=y) w1 w':=hkp.next hk2 (fun _ _ x=>x) fun k hk x=>by
   rcases x with x | x
   ·rcases hF' k x with z | z
    ·exact .inl z
    ·omega
   ·exact .inr x
  have hFw:∀ k,F2 k→Fd k∨w1.heap.size≤k:=fun k x=>(hF2 k x).elim (hF' k) fun z=>.inr (Nat.le_trans hkp.size z)
  rw[first_len hs'] at hD2 ⊢
  cases hdi:dirty B en i with
  | false=>
    rw[hdi] at hD2 hy2
    rw[if_neg (by simp)] at hD2 ⊢
    rw[Bool.or_false] at hy2
    refine⟨0,rfl,fun _=>⟨by omega,by omega,F2,D',wf,?_,hkw,hD2,hFw,hs',by omega,hrow2,hy2⟩,fun h=>absurd rfl h⟩
    rw[hl,hj,WM.wipe,hdi]
    simp only
    rw[if_neg (by simp),show half D - (i+1)=j by omega]
  | true=>
    rw[hdi] at hD2 hy2
    rw[if_pos rfl] at hD2 ⊢
    rw[Bool.or_true] at hy2
    have hst:WM.wipe ep B en i (half D - i) wf D'=if (DM.write D' ((WM.first D ep+i:Nat):Int) (secOf (clean B en) i)).1=0 then WM.wipe ep B en (i+1) j true (DM.write D' ((WM.first D ep+i:Nat):Int) (secOf (clean B en) i)).2 else ((DM.write D' ((WM.first D ep+i:Nat):Int) (secOf (clean B en) i)).1,true,(DM.write D' ((WM.first D ep+i:Nat):Int) (secOf (clean B en) i)).2):=by
     rw[hj,WM.wipe,hdi,first_len hs'];rfl
    have hwl:=write_len D' ((WM.first D ep+i:Nat):Int) (secOf (clean B en) i)
    have hww:=write_waits D' ((WM.first D ep+i:Nat):Int) (secOf (clean B en) i)
    refine⟨_,rfl,fun h0=>⟨by omega,by omega,F2,_,true,?_,hkw,hD2,hFw,by rw[hwl];exact hs',by omega,hrow2,hy2⟩,fun h0=>⟨F2,_,?_,hkw,hD2,hFw,hy2⟩⟩
    ·rw[hl,hst,if_pos h0,show half D - (i+1)=j by omega]
    ·rw[hl,hst,if_neg h0]
end Go.Proofs.Ytkjofdocgaiedaa
namespace Go.Proofs.Ytkjofdocgaiedaa
open Go.RowKit
open DM BM WM
theorem max64_any (w:World) (a b:Nat):(Builtin.max_ #[22,22] 22 #[.int .u64 (a:Int),.int .u64 (b:Int)]).run Try.prog w = .ok (.int .u64 ((max a b:Nat):Int)) w:=by
 rcases Nat.lt_or_ge a b with q | q
 ·rw[Nat.max_eq_right (by omega)]
  simp[Builtin.max_,Builtin.max2]
  omega
 ·rw[Nat.max_eq_left q]
  simp[Builtin.max_,Builtin.max2]
  omega
def epTo (D:Dk):Nat→Nat
 | 0=>0
 | i+1=>max (epTo D i) ((WM.head D i).getD 0)
theorem epTo_two (D:Dk):epTo D 2=epoch D:=by simp[epTo,epoch]
theorem head_lt {D:Dk} {i n:Nat} (h:WM.head D i=some n):n<4611686018427387904:=by
 unfold WM.head at h
 split at h
 ·cases h
 ·split at h
  ·cases h
  ·split at h
   ·cases h
   ·split at h
    ·rename_i hc
     cases h
     exact hc.2.1
    ·cases h
theorem epTo_lt (D:Dk):∀ i,epTo D i<4611686018427387904
 | 0=>by show 0<_;decide
 | i+1=>by
   have h1:=epTo_lt D i
   have h2:(WM.head D i).getD 0<4611686018427387904:=by
    cases h:WM.head D i with
    | none=>decide
    | some n=>exact head_lt h
   unfold epTo
   omega
def bytesTo (D:Dk) (ep i:Nat):List UInt8:=((List.range i).map fun i=>(DM.read D ((WM.first D ep+i:Nat):Int)).1).flatten
theorem bytesTo_succ (D:Dk) (ep i:Nat):bytesTo D ep (i+1)=bytesTo D ep i ++ (DM.read D ((WM.first D ep+i:Nat):Int)).1:=by simp[bytesTo,List.range_succ]
theorem first_lt {D:Dk} (ep i:Nat) (h6:6≤D.safe.length) (hi:i<half D):WM.first D ep+i<D.safe.length:=by
 unfold WM.first
 unfold half at *
 have:ep % 2=0∨ep % 2=1:=by omega
 rcases this with h | h <;> rw[h] <;> omega
theorem bytesTo_length {D:Dk} (ep:Nat) (h6:6≤D.safe.length) (hd:D.down=false) (ok:Ok D):∀ i,i≤half D→(bytesTo D ep i).length=32 * i
 | 0,_=>rfl
 | i+1,hi=>by
   rw[bytesTo_succ,List.length_append,bytesTo_length ep h6 hd ok i (by omega),(read_one D _ hd (first_lt ep i h6 (by omega)) ok).2]
   omega
theorem clean_area {D:Dk} {B:List UInt8} (hB:B.length=32 * half D):clean B (scan B (B.length+1) 0).2=areaH (half D) (scan B (B.length+1) 0).1:=by
 obtain⟨h1,h2,h3,-⟩:=scan_spec B (B.length+1) 0 (Nat.zero_le _)
 unfold clean areaH
 rw[List.drop_zero] at h3
 rw[h1,Nat.zero_add,h3,hB]
theorem wipeS_len (ep:Nat) (B:List UInt8) (en:Nat) (D:Dk):(wipeS ep B en D).2.safe.length=D.safe.length:=by
 unfold wipeS
 simp only
 split
 ·rw[sync_len,wipe_len]
 ·exact wipe_len _ _ _ _ _ _ _
def OpenTo (d:Nat) (Fd:Nat→Prop) (w:World) (R:Int×Option Lg×Dk) (e:Ending) (w':World):Prop:=
 match R.2.1 with
 | none=>e = .returned (.tuple #[.pointer none,.int .i64 R.1])∧DiskTo d Fd w R.2.2 w'
 | some g=>∃ b F Fd',e = .returned (.tuple #[.pointer (some ⟨b,0,none⟩),.int .i64 R.1])∧LogAt w' b d F Fd' R.2.2 g∧Keep Fd w w'∧(∀ k,F k→w.heap.size≤k)∧∀ k,Fd' k→Fd k∨w.heap.size≤k
set_option maxRecDepth 20000 in
theorem open_nil (w:World):Calls Try.prog 36 #[.pointer none] w fun e w'=>e = .returned (.tuple #[.pointer none,.int .i64 1])∧w'=w:=by
 go_enter Try.func36,Try.ntmps36
 go_wp2_with (at_builtin;refine stopAt ?_;intro q hq)
 go_ret2
 exact⟨rfl,rfl⟩
structure OpRel (w:World) (b d ep h ga ca nn:Nat) (bs:List UInt8) (wr:World):Prop where
 head:wr.heap[b]?=some (.cells (walCells d ep h (.slice (some ⟨ga,0,none⟩) nn ca) (.slice none 0 0) 0 0 false) 109 (0,0))
 row:Row wr 5 1 (.slice (some ⟨ga,0,none⟩) nn ca) nn (bytesV bs)
 keep:Keep (fun _=>False) w wr
set_option maxRecDepth 20000 in
set_option maxHeartbeats 2000000 in
theorem open_any (w:World) (d:Nat) (Fd:Nat→Prop) (D:Dk) (hD:DiskAt w d Fd D) (hfew:D.waits.length≤800000) :
  Calls Try.prog 36 #[.pointer (some ⟨d,0,none⟩)] w (OpenTo d Fd w (openW D)):=by
 obtain⟨R,hR⟩:∃ R,R=openW D:=⟨_,rfl⟩
 rw[← hR]
 have no:∀ c,R=(c,none,D)→∀ w',Keep (fun _=>False) w w'→OpenTo d Fd w R (.returned (.tuple #[.pointer none,.int .i64 c])) w':=fun c h w' hk=>by
  rw[h]
  exact⟨rfl,Fd,hD.keep hk fun _ _ x=>x,hk.mono fun _ _ x=>x.elim,fun _ x=>.inl x⟩
 obtain⟨Post,hPost⟩:∃ Post,Post=OpenTo d Fd w R:=⟨_,rfl⟩
 have HPost:=hid hPost
 rw[← hPost] at no ⊢
 have No:=hid no
 have HR:=hid hR
 have HD:=hid hD
 clear no hR hD hPost
 have hfewD:=HD.out.ok.few
 obtain⟨ns,hns⟩:∃ ns,ns=D.safe.length:=⟨_,rfl⟩
 by_cases h6:ns<6
 ·have hN:=No.out 40 (by rw[HR.out];unfold openW;rw[if_pos (by omega)]) w (Keep.refl _ _)
  have HN:=hid hN
  have q1:(ns:Int)<6:=by omega
  have hsec:=sectors_any w d Fd D HD.out
  rw[← hns] at hsec
  clear hN hns
  go_enter Try.func36,Try.ntmps36
  go_wp2_with (at_builtin;refine stopAt ?_;intro q hq)
  refine hsec.mono ?_
  rintro e w2 ⟨rfl,rfl⟩
  go_wp2_with (at_builtin;refine stopAt ?_;intro q hq)
  exact HN.out
 cases hd:D.down with
 | true=>
   have hN:=No.out 6 (by rw[HR.out];unfold openW;rw[if_neg (by omega),if_pos hd]) w (Keep.refl _ _)
   have HN:=hid hN
   have q1:¬ (ns:Int)<6:=by omega
   have hsec:=sectors_any w d Fd D HD.out
   have hup:=up_any w d Fd D HD.out
   rw[← hns] at hsec
   rw[hd] at hup
   clear hN hns
   go_enter Try.func36,Try.ntmps36
   go_wp2_with (at_builtin;refine stopAt ?_;intro q hq)
   refine hsec.mono ?_
   rintro e w2 ⟨rfl,rfl⟩
   go_wp2_with (at_builtin;refine stopAt ?_;intro q hq)
   refine hup.mono ?_
   rintro e w2 ⟨rfl,rfl⟩
   go_wp2_with (at_builtin;refine stopAt ?_;intro q hq)
   exact HN.out
 | false=>
   have q1:¬ (ns:Int)<6:=by omega
   have hsec:=sectors_any w d Fd D HD.out
   have hup:=up_any w d Fd D HD.out
   rw[← hns] at hsec
   rw[hd] at hup
   obtain⟨h,hh⟩:∃ h,h=half D:=⟨_,rfl⟩
   have hh2:h=(ns - 2) / 2:=by rw[hh,hns];rfl
   obtain⟨n2,hn2⟩:∃ n2,n2=ns - 2:=⟨_,rfl⟩
   have q2:(ns:Int) - 2=(n2:Int):=by omega
   have q3:(n2:Int).tdiv 2=(h:Int):=by rw[Int.tdiv_eq_ediv_of_nonneg (by omega)];omega
   have q4:(n2:Int) / 2=(h:Int):=by omega
   have q5:=wi64 n2 (by omega)
   have q6:=wi64 h (by omega)
   have hH:=hid (And.intro hh (And.intro hh2 hn2))
   have hns6:6≤D.safe.length:=by omega
   have hh1023:h≤1023:=by omega
   have Hns:=hid hns
   clear hh hh2 hn2 hns
   go_enter Try.func36,Try.ntmps36
   go_wp2_with (at_builtin;refine stopAt ?_;intro q hq)
   refine hsec.mono ?_
   rintro e w2 ⟨rfl,rfl⟩
   go_wp2_with (at_builtin;refine stopAt ?_;intro q hq)
   refine hup.mono ?_
   rintro e w2 ⟨rfl,rfl⟩
   go_wp2_with (at_builtin;refine stopAt ?_;intro q hq)
   refine hsec.mono ?_
   rintro e w2 ⟨rfl,rfl⟩
   go_wp2_with (at_builtin;refine stopAt ?_;intro q hq)
   have hh1:=heap_alloc_new w (.cells #[.pointer (some ⟨d,0,none⟩),.int .u64 0,.int .i64 (h:Nat),.slice none 0 0,.slice none 0 0,.int .i64 0,.int .i64 0,.bool false] 109)
   have hk1:Keep (fun _=>False) w (w.alloc (.cells #[.pointer (some ⟨d,0,none⟩),.int .u64 0,.int .i64 (h:Nat),.slice none 0 0,.slice none 0 0,.int .i64 0,.int .i64 0,.bool false] 109)):=(Keep.refl _ _).alloc _
   obtain⟨w1,hw1⟩:∃ w1,w1=w.alloc (.cells #[.pointer (some ⟨d,0,none⟩),.int .u64 0,.int .i64 (h:Nat),.slice none 0 0,.slice none 0 0,.int .i64 0,.int .i64 0,.bool false] 109):=⟨_,rfl⟩
   obtain⟨b,hb⟩:∃ b,b=w.heap.size:=⟨_,rfl⟩
   rw[← hw1] at hh1 hk1 ⊢
   rw[← hb] at hh1 ⊢
   have H0:=hid (show w1.heap[b]?=some (.cells (walCells d (epTo D 0) h (.slice none 0 0) (.slice none 0 0) 0 0 false) 109 (0,0))∧Keep (fun _=>False) w w1 from⟨hh1,hk1⟩)
   have Hb:=hid hb
   have HS:=hid (And.intro hsec hup)
   clear hw1 hh1 hk1 hb hsec hup q1 q2 q3 q4 q5
   go_loopw [5,6,7,30] (fun _ _ _ iv wr=>∃ i:Nat,i≤2∧iv = .int .i64 i∧Hid (wr.heap[b]?=some (.cells (walCells d (epTo D i) h (.slice none 0 0) (.slice none 0 0) 0 0 false) 109 (0,0))∧Keep (fun _=>False) w wr)) (fun _ _ _ iv _=>2 - (intOf iv).toNat)
   case atStart=>exact⟨0,by decide,rfl,H0⟩
   case round=>
    clear H0
    obtain⟨i,hi,rfl,HI⟩:=hrel
    by_cases hi2:i<2
    ·have t1:(i:Int)<2:=by omega
     have hhead:=head_any wr d Fd D i (HD.out.keep HI.out.2 fun _ _ x=>x) hd (by omega) hi2
     go_wp2_with (at_builtin;refine stopAt ?_;intro q hq)
     refine hhead.mono ?_
     clear hhead
     rintro e w2 ⟨n,rfl,hn,hk2⟩
     have hh2:=hk2.get HI.out.1 id
     obtain⟨i0,i1,i2,i3,i4,i5,i6,i7,if1,ib1⟩:=cells8 (show w2.heap[b]?=some (.cells #[_,_,_,_,_,_,_,_] _ (0,0)) from hh2)
     have hk02:Keep (fun _=>False) w w2:=HI.out.2.next hk2 (fun _ _ x=>x) (fun _ _ x=>x)
     have H2:=hid (And.intro hh2 hk02)
     clear hh2 hk02 hk2
     cases hm:WM.head D i with
     | none=>
       have he:epTo D (i+1)=epTo D i:=by simp[epTo,hm]
       have HZ:=hid (show w2.heap[b]?=some (.cells (walCells d (epTo D (i+1)) h (.slice none 0 0) (.slice none 0 0) 0 0 false) 109 (0,0))∧Keep (fun _=>False) w w2 by rw[he];exact H2.out)
       clear hm hn he
       rw[show (none:Option Nat).isSome=false from rfl]
       go_wp2_with (at_builtin;refine stopAt ?_;intro q hq)
       go_roundw
       case rel=>exact⟨i+1,by omega,by go_num,HZ⟩
       case measure=>simp[intOf];omega
     | some m=>
       have hnm:n=m:=hn m hm
       have he:epTo D (i+1)=max (epTo D i) n:=by simp[epTo,hm,hnm]
       have He:=hid he
       have hmx:=fun w:World=>max64_any w (epTo D i) n
       obtain⟨ep,hep⟩:∃ ep,ep=epTo D i:=⟨_,rfl⟩
       rw[← hep] at hmx i1 H2 He
       clear hm hn he hnm hep
       rw[show (some m:Option Nat).isSome=true from rfl]
       go_wp2_with (at_builtin;refine stopAt ?_;intro q hq)
       have hk3:Keep (fun k=>k=b) w2 (w2.setCell ⟨b,1,none⟩ (.int .u64 ((max ep n:Nat):Int))):=by refine Keep.setCell (Keep.refl _ _) (.inl ?_) _;rfl
       have hh3:=heap_setCell6 H2.out.1 1 (.int .u64 ((max ep n:Nat):Int))
       have HZ:=hid (show (w2.setCell ⟨b,1,none⟩ (.int .u64 ((max ep n:Nat):Int))).heap[b]?=some (.cells (walCells d (epTo D (i+1)) h (.slice none 0 0) (.slice none 0 0) 0 0 false) 109 (0,0))∧Keep (fun _=>False) w (w2.setCell ⟨b,1,none⟩ (.int .u64 ((max ep n:Nat):Int))) by
        refine⟨by rw[hh3,He.out];rfl,H2.out.2.next hk3 (fun _ _ x=>x) (fun k hk x=>by have:=Hb.out;omega)⟩)
       clear hk3 hh3
       go_roundw
       case rel=>exact⟨i+1,by omega,by go_num,HZ⟩
       case measure=>simp[intOf];omega
    ·obtain rfl:i=2:=by omega
     have t1:¬ ((2:Nat):Int)<2:=by omega
     obtain⟨hh2,hk2⟩:=HI.out
     rw[epTo_two] at hh2
     obtain⟨ep,hep⟩:∃ ep,ep=epoch D:=⟨_,rfl⟩
     rw[← hep] at hh2
     obtain⟨i0,i1,i2,i3,i4,i5,i6,i7,if1,ib1⟩:=cells8 (show wr.heap[b]?=some (.cells #[_,_,_,_,_,_,_,_] _ (0,0)) from hh2)
     obtain⟨nn,hnn⟩:∃ nn,nn=32 * h:=⟨_,rfl⟩
     have t2:(h:Int) * 32=(nn:Int):=by omega
     have t3:=wi64 nn (by omega)
     have hmk:=fun w:World=>run_make_n (P:=Try.prog) ty_bytes .i64 .i64 nn (by omega) (by unfold maxLen;omega) w
     have H2:=hid (And.intro hh2 (And.intro hk2 (And.intro hep hnn)))
     clear hh2 hk2 hep hnn HI
     go_wp2_with (at_builtin;refine stopAt ?_;intro q hq)
     obtain⟨ga,hga⟩:∃ ga,ga=wr.heap.size:=⟨_,rfl⟩
     have hkA:Keep (fun k=>k=b) wr (wr.setCell ⟨b,3,none⟩ (.slice (some ⟨wr.heap.size,0,none⟩) nn nn)):=by refine Keep.setCell (Keep.refl _ _) (.inl ?_) _;rfl
     have hhA:=heap_setCell6 H2.out.1 3 (.slice (some ⟨wr.heap.size,0,none⟩) nn nn)
     have hszA:(wr.setCell ⟨b,3,none⟩ (.slice (some ⟨wr.heap.size,0,none⟩) nn nn)).heap.size=wr.heap.size:=by simp[World.setCell]
     obtain⟨wA,hwA⟩:∃ wA,wA=wr.setCell ⟨b,3,none⟩ (.slice (some ⟨wr.heap.size,0,none⟩) nn nn):=⟨_,rfl⟩
     rw[← hwA] at hkA hhA hszA ⊢
     have hg3:=heap_alloc_new wA (.cells (madeCells #[.int .u8 0] nn) 5)
     have hk3:Keep (fun _=>False) wA (wA.alloc (.cells (madeCells #[.int .u8 0] nn) 5)):=(Keep.refl _ _).alloc _
     obtain⟨w3,hw3⟩:∃ w3,w3=wA.alloc (.cells (madeCells #[.int .u8 0] nn) 5):=⟨_,rfl⟩
     rw[← hw3] at hg3 hk3 ⊢
     rw[hszA,← hga] at hg3
     rw[← hga] at hhA
     have hrow3:Row w3 5 1 (.slice (some ⟨ga,0,none⟩) nn nn) nn (bytesV (List.replicate nn 0)):=by
      have h1:=Row.made (w:=w3) (e:=5) (size:=1) (g:=ga) (n:=nn) (z:=(Value.int .u8 0).cells) (by rw[Nat.mul_one];exact hg3) (by unfold maxLen;omega)
      rw[zeros_cells] at h1
      exact h1
     have hgab:ga≠b:=fun e=>by have:=heap_lt H2.out.1;omega
     have hh3:=hk3.get hhA id
     have hkw3:Keep (fun _=>False) w w3:=(H2.out.2.1.next hkA (fun _ _ x=>x) (fun k hk x=>by have:=Hb.out;omega)).next hk3 (fun _ _ x=>x) (fun _ _ x=>x)
     have hga0:w.heap.size≤ga:=by have:=H2.out.2.1.size;omega
     have hga3:=heap_lt hg3
     have R0:=hid (show OpRel w b d ep h ga nn nn (bytesTo D ep 0 ++ List.replicate (nn - 32 * 0) 0) w3 from⟨hh3,by simpa [bytesTo] using hrow3,hkw3⟩)
     have HG:=hid (And.intro hga0 hgab)
     have H2':=hid (And.intro H2.out.2.2.1 H2.out.2.2.2)
     clear hwA hw3 hkA hhA hszA hg3 hk3 hrow3 hh3 hkw3 hga i0 i1 i2 i3 i4 i5 i6 i7 if1 ib1 hmk H2 hga0 hga3
     go_loopw [8,9,10,63] (fun _ _ _ iv wx=>∃ i:Nat,i≤h∧iv = .int .i64 i∧Hid (OpRel w b d ep h ga nn nn (bytesTo D ep i ++ List.replicate (nn - 32 * i) 0) wx)) (fun _ _ _ iv _=>h - (intOf iv).toNat)
     case atStart=>exact⟨0,Nat.zero_le _,rfl,R0⟩
     case round=>
      clear R0
      obtain⟨i,hi,rfl,HI⟩:=hrel
      obtain⟨i0,i1,i2,i3,i4,i5,i6,i7,if1,ib1⟩:=cells8 (show wr.heap[b]?=some (.cells #[_,_,_,_,_,_,_,_] _ (0,0)) from HI.out.head)
      by_cases hih:i<h
      ·have s1:(i:Int)<(h:Int):=by omega
       have hfst:=wfirst_any wr b d ep h _ _ 0 0 false HI.out.head hh1023 ep
       have hfi:2+ep % 2 * h=WM.first D ep:=by rw[hH.out.1];rfl
       have hfl:=first_lt (D:=D) ep i hns6 (by have:=hH.out.1;omega)
       rw[hfi] at hfst
       obtain⟨q,hq⟩:∃ q,q=WM.first D ep:=⟨_,rfl⟩
       rw[← hq] at hfst hfl
       obtain⟨t,ht⟩:∃ t,t=q+i:=⟨_,rfl⟩
       have g1:(q:Int)+(i:Int)=(t:Int):=by omega
       have g2:=wi64 t (by omega)
       have hrd:=read_any wr d Fd D (t:Int) (HD.out.keep HI.out.keep fun _ _ x=>x) (by omega)
       obtain⟨r1,r2⟩:=read_one D t hd (by omega) HD.out.ok
       rw[r1,r2] at hrd
       have hsuc:=bytesTo_succ D ep i
       rw[← hq,← ht] at hsuc
       obtain⟨S,hS⟩:∃ S,S=(DM.read D (t:Int)).1:=⟨_,rfl⟩
       rw[← hS] at hrd hsuc r2
       have HS2:=hid (And.intro hsuc (And.intro r2 (bytesTo_length ep hns6 hd HD.out.ok i (by have:=hH.out.1;omega))))
       obtain⟨p,hp⟩:∃ p,p=i * 32:=⟨_,rfl⟩
       have g3:(i:Int) * 32=(p:Int):=by omega
       have g4:=wi64 p (by omega)
       have Hnn:=H2'.out.2
       have hsl:∀ w,(Instr.sliceAt 29 (.slice (some ⟨ga,0,none⟩) nn nn) (some (.int .i64 (p:Int))) none none).run Try.prog w = .ok (.slice (some ⟨ga,p,none⟩) (nn - p) (nn - p)) w:=fun w=>by
        have h:=run_sliceAt_lo (P:=Try.prog) ty_bytes (some ⟨ga,0,none⟩) nn nn .i64 p (by omega) w
        have e:tailAt (some ⟨ga,0,none⟩) nn p 1=some ⟨ga,p,none⟩:=by
         unfold tailAt
         rw[if_neg (by omega)]
         simp[addr_add]
        rw[e] at h
        exact h
       have HP:=hid (And.intro hp Hnn)
       clear hfi hfl hq ht r1 r2 hsuc hS hp Hnn
       go_wp2_with (at_builtin;refine stopAt ?_;intro q hq)
       refine hfst.mono ?_
       rintro e w4 ⟨rfl,rfl⟩
       go_wp2_with (at_builtin;refine stopAt ?_;intro q hq)
       refine hrd.mono ?_
       rintro e w5 ⟨v5,rfl,hrow5,hk5,hown5⟩
       obtain⟨ad5,c5,rfl,-⟩:=hrow5.form
       have hh5:=hk5.get HI.out.head id
       have hga5:=HI.out.row.keep hk5 fun _ _ x=>x
       clear i0 i1 i2 i3 i4 i5 i6 i7 if1 ib1
       obtain⟨i0,i1,i2,i3,i4,i5,i6,i7,if1,ib1⟩:=cells8 (show w5.heap[b]?=some (.cells #[_,_,_,_,_,_,_,_] _ (0,0)) from hh5)
       obtain⟨gx,capx,cur,fz,hvx,hg5,hfz,hn5,hc5,hz5,ht5⟩:=hga5.some (by have:=HP.out;omega)
       simp at hvx
       obtain⟨rfl,rfl⟩:=hvx
       have hSl:(bytesV S).length=32:=by rw[bytesV_length];exact HS2.out.2.1
       have hcp:=run_copy (P:=Try.prog) (w:=w5) (sT:=29) (ty:=3) ty_bytes ga p (nn - p) (nn - p) cur 5 fz hg5 hfz ad5 32 c5 (bytesV S) 32 (Nat.min_eq_left (by have:=HP.out;omega)) (by have h:=Cells.of_row hrow5;exact h) (by have:=HP.out;omega) (bytesV_one _)
       have hr6:=Row.spliced hga5 hg5 p (bytesV S) (by have:=HP.out;omega)
       have hk6:Keep (fun k=>k=ga) w5 (w5.setRow ga (splice cur.toList p (bytesV S)).toArray):=by refine Keep.setRow (Keep.refl _ _) (.inl ?_) _;rfl
       obtain⟨w6,hw6⟩:∃ w6,w6=w5.setRow ga (splice cur.toList p (bytesV S)).toArray:=⟨_,rfl⟩
       rw[← hw6] at hcp hr6 hk6
       have hh6:=hk6.get hh5 (fun e=>HG.out.2 e.symm)
       have HZ:=hid (show OpRel w b d ep h ga nn nn (bytesTo D ep (i+1) ++ List.replicate (nn - 32 * (i+1)) 0) w6 from
        ⟨hh6,by
         obtain⟨z1,z2,z3⟩:=HS2.out
         obtain⟨hp,hnn⟩:=HP.out
         rw[splice_bytes] at hr6
         have e:(bytesTo D ep i ++ List.replicate (nn - 32 * i) 0).take p ++ (S ++ (bytesTo D ep i ++ List.replicate (nn - 32 * i) 0).drop (p+S.length))=bytesTo D ep (i+1) ++ List.replicate (nn - 32 * (i+1)) 0:=by
          rw[z1,List.append_assoc,show p=(bytesTo D ep i).length by omega,List.take_left,z2,List.drop_append,List.drop_of_length_le (by omega),List.nil_append,List.drop_replicate]
          congr 3
          omega
         rw[e] at hr6
         exact hr6,(HI.out.keep.next hk5 (H:=fun _=>False) (fun _ _ x=>x) (fun _ _ x=>x)).next hk6 (fun _ _ x=>x) (fun k hk x=>by have:=HG.out.1;omega)⟩)
       clear hh5 hga5 hg5 hfz hn5 hc5 hz5 ht5 hr6 hk6 hw6 hh6 hrow5 hk5 hown5 hSl
       go_wp2_with (at_builtin;refine stopAt ?_;intro q hq)
       go_roundw
       case rel=>exact⟨i+1,by omega,by go_num,HZ⟩
       case measure=>simp[intOf];omega
      ·obtain rfl:h=i:=by omega
       have s1:¬ (h:Int)<(h:Int):=by omega
       obtain⟨z1,z2⟩:=H2'.out
       have hBe:bytesTo D ep h ++ List.replicate (nn - 32 * h) 0=bytesTo D ep h:=by rw[show nn - 32 * h=0 by omega];simp
       have hhead:=HI.out.head
       have hrow:=HI.out.row
       have hkeep:=HI.out.keep
       rw[hBe] at hrow
       obtain⟨B,hB⟩:∃ B,B=bytesTo D ep h:=⟨_,rfl⟩
       rw[← hB] at hrow
       have hBl:B.length=nn:=by rw[hB,bytesTo_length ep hns6 hd HD.out.ok h (by have:=hH.out.1;omega),z2]
       have hgab:=HG.out.2
       have hscan:=scan_any wr b d ep h ga nn nn B hhead hrow (by omega) (fun e=>hgab e.symm)
       obtain⟨L,hL⟩:∃ L,L=(scan B (B.length+1) 0).1:=⟨_,rfl⟩
       obtain⟨en,hen⟩:∃ en,en=(scan B (B.length+1) 0).2:=⟨_,rfl⟩
       obtain⟨sp1,sp2,sp3,sp4⟩:=scan_spec B (B.length+1) 0 (Nat.zero_le _)
       rw[← hL,← hen] at hscan sp1
       rw[← hL] at sp4
       rw[← hen] at sp2
       have hcl:clean B en=areaH (half D) L:=by rw[hen,hL];exact clean_area (by rw[hBl,z2,hH.out.1])
       have hRR:R=if (wipeS ep B en D).1≠0 then ((wipeS ep B en D).1,none,(wipeS ep B en D).2) else (0,some ⟨ep,L,L.length,false⟩,(wipeS ep B en D).2):=by
        rw[HR.out]
        unfold openW
        rw[if_neg (by have:=Hns.out;omega),if_neg (by rw[hd];simp)]
        have e1:WM.bytes D (epoch D)=B:=by rw[hB,← z1,hH.out.1];rfl
        simp only
        rw[e1,← z1,← hen,← hL]
        unfold wipeS
        simp only
        generalize WM.wipe ep B en 0 (half D) false D=Z
        by_cases c1:Z.1=0
        ·rw[if_neg (by simp[c1])]
         by_cases c2:Z.2.1=true
         ·have e:(if Z.1=0∧Z.2.1=true then DM.sync Z.2.2 else (Z.1,Z.2.2))=DM.sync Z.2.2:=if_pos ⟨c1,c2⟩
          rw[if_pos c2,e]
         ·have e:(if Z.1=0∧Z.2.1=true then DM.sync Z.2.2 else (Z.1,Z.2.2))=(Z.1,Z.2.2):=if_neg (fun h=>c2 h.2)
          rw[if_neg c2,e,if_neg (by simp[c1])]
        ·have e:(if Z.1=0∧Z.2.1=true then DM.sync Z.2.2 else (Z.1,Z.2.2))=(Z.1,Z.2.2):=if_neg (fun h=>c1 h.1)
         rw[if_pos c1,e,if_pos c1]
       have HRR:=hid hRR
       have HX:=hid (And.intro hhead (And.intro hrow (And.intro hkeep (And.intro hBl (And.intro sp1 (And.intro sp2 (And.intro sp4 (And.intro hcl (And.intro z1 z2)))))))))
       clear hRR hhead hrow hkeep hBl sp1 sp2 sp3 sp4 hcl z1 z2 hBe hB hL hen i0 i1 i2 i3 i4 i5 i6 i7 if1 ib1
       go_wp2_with (at_builtin;refine stopAt ?_;intro q hq)
       refine hscan.mono ?_
       rintro e w4 ⟨rfl,hk4,vl,vs,hh4,hrec4⟩
       have hk04:Keep (fun _=>False) w w4:=HX.out.2.2.1.next hk4 (fun _ _ x=>x) (fun k hk x=>by have:=Hb.out;omega)
       have hrow4:=HX.out.2.1.keep hk4 (fun k e x=>by simp[Value.ownBlock] at e;omega)
       have hDl:=HD.out.lt
       have hbn:¬ Fd b:=fun x=>by have:=hDl b x;have:=Hb.out;omega
       have hgn:¬ Fd ga:=fun x=>by have:=hDl ga x;have:=HG.out.1;omega
       have hhh:=hH.out.1
       have hwipe:=wipe_any w4 b d ga nn ep en nn Fd D B vl L.length (by rw[← hhh];exact hh4) hrow4 (by rw[← hhh];exact HX.out.2.2.2.2.2.2.2.2.2) (by have h1:=HX.out.2.2.2.1;have h2:=HX.out.2.2.2.2.2.1;omega) (HD.out.keep hk04 fun _ _ x=>x) hbn hgn hgab hfew
       obtain⟨Y,hY⟩:∃ Y,Y=wipeS ep B en D:=⟨_,rfl⟩
       have hYl:Y.2.safe.length=D.safe.length:=by rw[hY];exact wipeS_len _ _ _ _
       rw[← hY] at hwipe HRR
       have H4:=hid (And.intro hk04 (And.intro hh4 (And.intro hrec4 (And.intro hYl (And.intro hhh (And.intro hbn (And.intro hgn (And.intro (heap_lt hh4) hk4.size))))))))
       have HWp:=hid hwipe
       clear hwipe hk4 hh4 hrec4 hk04 hrow4 hDl hYl hhh hY hscan
       go_wp2_with (at_builtin;refine stopAt ?_;intro q hq)
       refine HWp.out.mono ?_
       rintro e w5 ⟨rfl,hk5,⟨Fd',hD5,hF5⟩,hrow5⟩
       have hk05:Keep Fd w w5:=H4.out.1.next hk5 (fun _ _ x=>x.elim) (fun k hk x=>x.elim id fun h=>by have:=HG.out.1;omega)
       have hF05:∀ k,Fd' k→Fd k∨w.heap.size≤k:=fun k x=>(hF5 k x).imp id fun h=>Nat.le_trans H4.out.1.size h
       have hHP:=HPost.out
       by_cases y0:Y.1=0
       rotate_left
       ·have hR2:R=(Y.1,none,Y.2):=by rw[HRR.out,if_pos y0]
        have HF:=hid (show Post (.returned (.tuple #[.pointer none,.int .i64 Y.1])) w5 by rw[hHP,hR2];exact⟨rfl,Fd',hD5,hk05,hF05⟩)
        have u1:(Y.1 == 0)=false:=by simp[y0]
        have u2:(Y.1 != 0)=true:=by simp[y0]
        have u3:decide (Y.1=0)=false:=by simp[y0]
        clear hHP hR2 hk5 hD5 hF5 hrow5 hk05 hF05 y0
        go_wp2_with (at_builtin;refine stopAt ?_;intro q hq)
        exact HF.out
       ·have hR2:R=(0,some ⟨ep,L,L.length,false⟩,Y.2):=by rw[HRR.out,if_neg (by simp[y0])]
        have HF:=hid (show Post (.returned (.tuple #[.pointer (some ⟨b,0,none⟩),.int .i64 0])) w5 by
         rw[hHP,hR2]
         obtain⟨x1,x2,x3,x4,x5,x6,x7,x8,x9,x10⟩:=HX.out
         obtain⟨t1,t2,t3,t4,t5,t6,t7,t8,t9⟩:=H4.out
         have hb0:=Hb.out
         have hg0:=HG.out.1
         have s05:=hk05.size
         have s45:=hk5.size
         have s04:=t1.size
         have s0r:=x3.size
         have hrow:=hrow5 y0
         rw[x8] at hrow
         have hgl:=hrow.lt (k:=ga) (by simp[Value.ownBlock])
         have hrec:=(t3.bound.mono (F':=fun k=>w.heap.size≤k∧k<w4.heap.size) (A':=fun k=>k=b∨k=ga) (fun k h1 h2=>⟨⟨Nat.le_trans s0r h1.1,h1.2⟩,h2⟩))
         refine⟨b,fun k=>w.heap.size≤k∧k<w4.heap.size,Fd',rfl,⟨ga,nn,vl,vs,?_,hD5,fun k h1 h2=>?_⟩,hk05,fun k h1=>h1.1,hF05⟩
         ·rw[half_len t4,← t5]
          rw[← t5] at hrow
          refine⟨?_,by rw[← x10];exact hrow,hrec.keep hk5 fun k h1 h2 h3=>?_,⟨by omega,t8⟩,⟨hg0,?_⟩,fun e=>hgab e.symm,fun k h1=>Nat.lt_of_lt_of_le h1.2 s45,?_⟩
          ·have h9:=hk5.get t2 (fun h=>h.elim t6 fun h=>hgab h.symm)
           rw[h9,← x10]
           have h10:en=(flat L).length:=by omega
           rw[h10]
          ·rcases h3 with h3 | h3
           ·have:=HD.out.lt k h3;omega
           ·exact h2 (.inr h3)
          ·have h11:=x2.lt (k:=ga) (by simp[Value.ownBlock])
           omega
          ·have he:=epTo_lt D 2
           rw[epTo_two,← x9] at he
           have h12:=hH.out.2.1
           have h13:=Hns.out
           exact⟨by show (flat L).length≤_;omega,by omega,hh1023,he,x7,Nat.le_refl _⟩
         ·rcases hF5 k h2 with h3 | h3
          ·have:=HD.out.lt k h3;omega
          ·omega)
        rw[y0]
        clear hHP hR2 hk5 hD5 hF5 hrow5 hk05 hF05 y0
        go_wp2_with (at_builtin;refine stopAt ?_;intro q hq)
        exact HF.out
end Go.Proofs.Ytkjofdocgaiedaa
namespace Go.Proofs.Ytkjofdocgaiedaa
open Go.RowKit
open DM BM WM
end Go.Proofs.Ytkjofdocgaiedaa
namespace Go.Proofs.Ytkjofdocgaiedaa
open Go.RowKit
open DM BM WM
def Gives (w:World) (l:List UInt8) (e:Ending) (w':World):Prop:=∃ v,e = .returned v∧Fresh w v l w'
def FramesPost (w:World) (L:List (List UInt8)) (e:Ending) (w':World):Prop:=
 if L.any (fun x=>decide (1024<x.length)) then e = .returned (.tuple #[.slice none 0 0,.int .i64 3])∧w'=w
 else if 65536<(flat L).length then e = .returned (.tuple #[.slice none 0 0,.int .i64 5])∧Keep (fun _=>False) w w'
 else ∃ v,e = .returned (.tuple #[v,.int .i64 0])∧Fresh w v (flat L) w'
end Go.Proofs.Ytkjofdocgaiedaa
namespace Go.Proofs.Ytkjofdocgaiedaa
open Go.RowKit
open DM BM WM
def rwCells (d ep:Nat) (vl:Value) (safe:Nat) (dead:Bool):Array Value:=#[.pointer (some ⟨d,0,none⟩),.int .u64 (ep:Nat),vl,.int .i64 (safe:Nat),.bool dead]
end Go.Proofs.Ytkjofdocgaiedaa
namespace Go.Proofs.Ytkjofdocgaiedaa
open Go.RowKit
open DM BM WM
theorem Cells.below {w:World} {x:Addr} {n size:Nat} {xs:List Value} (h:Cells w (some x) n size xs) (hp:0<n * size):x.block<w.heap.size:=by
 obtain⟨ad,had,hc⟩:=h.2 hp
 cases had
 have hl:0<xs.length:=by rw[h.1];exact hp
 have:=World.block_lt_of_cell? w _ (hc 0 _ (List.getElem?_eq_getElem hl))
 rwa [show (x.add 0)=x by simp[Addr.add]] at this
end Go.Proofs.Ytkjofdocgaiedaa
namespace Go.Proofs.Ytkjofdocgaiedaa
open Go.RowKit
open DM BM WM
theorem mark_up {D:Dk} {G:Lg} (h:gone D G=false):WM.mark D G=G:=by
 have hd:G.dead=false:=by unfold gone at h;simp only[Bool.or_eq_false_iff] at h;exact h.1
 unfold WM.mark
 rw[h]
 show ({ G with dead:=false }:Lg)=G
 rw[← hd]
end Go.Proofs.Ytkjofdocgaiedaa
namespace Go.Proofs.Ytkjofdocgaiedaa
open Go.RowKit
open DM BM WM
end Go.Proofs.Ytkjofdocgaiedaa
namespace Go.Proofs.Ytkjofdocgaiedaa
open DM BM WM
theorem half_le {D:Dk} (h:D.safe.length≤2048):half D≤1023:=by unfold half;omega
theorem append_waits {D:Dk} (h:D.safe.length≤2048) (G:Lg) (b:List UInt8):(WM.append D G b).2.1.waits.length≤D.waits.length+2048:=by
 have hh:=half_le h
 unfold WM.append
 split
 ·exact Nat.le_add_right _ _
 ·split
  ·exact Nat.le_add_right _ _
  ·split
   ·exact Nat.le_add_right _ _
   ·rename_i h3
    have h1:=flat_snoc G.l b
    have h2:=lay_waits G.ep (area D (G.l ++ [b])) (((flat (G.l ++ [b])).length - 1) / 32 - (flat G.l).length / 32+1) ((flat G.l).length / 32) D
    unfold room at h3
    simp only
    omega
theorem syncW_waits (D:Dk) (G:Lg):(WM.syncW D G).2.1.waits.length≤D.waits.length:=by
 unfold WM.syncW
 split
 ·exact Nat.le_refl _
 ·have:=sync_waits D
  simp only
  split <;> exact this
theorem turn_waits {D:Dk} (h:D.safe.length≤2048) (ep:Nat) (b:List UInt8):(turnW ep b D).2.waits.length≤D.waits.length+1024:=by
 have hh:=half_le h
 unfold turnW
 have h1:=lay_waits ep b (half D) 0 D
 generalize lay ep b 0 (half D) D=r at *
 simp only
 split
 ·omega
 ·have h2:=sync_waits r.2
  generalize DM.sync r.2=y at *
  split
  ·omega
  ·have h3:=write_waits y.2 ((ep % 2:Nat):Int) (headSec ep)
   generalize DM.write y.2 ((ep % 2:Nat):Int) (headSec ep)=z at *
   split
   ·omega
   ·have h4:=sync_waits z.2
    omega
theorem reset_waits {D:Dk} (h:D.safe.length≤2048) (G:Lg) (L:List (List UInt8)):(WM.reset D G L).2.1.waits.length≤D.waits.length+1024:=by
 have h1:=turn_waits h (G.ep+1) (area D L)
 unfold WM.reset
 split
 ·exact Nat.le_add_right _ _
 ·split
  ·exact Nat.le_add_right _ _
  ·split
   ·exact Nat.le_add_right _ _
   ·simp only
    split <;> exact h1
end Go.Proofs.Ytkjofdocgaiedaa
namespace Go.Proofs.Ytkjofdocgaiedaa
open Go.RowKit
open DM BM WM
end Go.Proofs.Ytkjofdocgaiedaa
namespace Go.Proofs.Ytkjofdocgaiedaa
open Go.RowKit
open DM BM WM
theorem secOf_getD (B:List UInt8) (i k:Nat) (hk:k<32):(secOf B i).getD k 0=B.getD (32 * i+k) 0:=by
 unfold secOf
 rw[List.getD_eq_getElem?_getD,List.getElem?_take,if_pos hk,List.getElem?_drop,List.getD_eq_getElem?_getD]
end Go.Proofs.Ytkjofdocgaiedaa
namespace Go.Proofs.Ytkjofdocgaiedaa
open Go.RowKit
open DM BM WM
end Go.Proofs.Ytkjofdocgaiedaa
namespace Go.Proofs.Ytkjofdocgaiedaa
open DM BM WM
def Calm (D:Dk):Prop:=D.left=none∧D.down=false
theorem write_calm {D:Dk} (h:Calm D) (i:Nat) (hi:i<D.safe.length) (b:Sec) (hb:b.length=32):DM.write D (i:Int) b=(0,{ D with waits:=D.waits ++ [(i,b)] }):=by
 have ha:DM.act D=(true,D):=by unfold DM.act;rw[h.2,h.1];rfl
 unfold DM.write
 rw[h.2,ha]
 rw[if_neg (by simp),if_neg (by omega)]
 simp[h.2]
theorem sync_calm {D:Dk} (h:Calm D):DM.sync D=(0,{ D with safe:=now D,waits:=[] }):=by
 have ha:DM.act D=(true,D):=by unfold DM.act;rw[h.2,h.1];rfl
 unfold DM.sync
 rw[ha]
 simp
theorem lay_calm (ep:Nat) (b:List UInt8) {s:Nat} (hs:6≤s) (hb:b.length=32 * ((s - 2) / 2)):∀ k i D,Calm D→D.safe.length=s→i+k≤(s - 2) / 2→(lay ep b i k D).1=0∧Calm (lay ep b i k D).2∧(lay ep b i k D).2.safe=D.safe
 | 0,i,D,hc,_,_=>⟨rfl,hc,rfl⟩
 | k+1,i,D,hc,hl,hik=>by
   have hh:half D=(s - 2) / 2:=by unfold half;rw[hl]
   have hw:=write_calm hc (WM.first D ep+i) (first_lt ep i (by omega) (by omega)) (secOf b i) (by unfold secOf;rw[List.length_take,List.length_drop];omega)
   unfold lay
   rw[hw]
   simp only[if_true]
   exact lay_calm ep b hs hb k (i+1) { D with waits:=D.waits ++ [(WM.first D ep+i,secOf b i)] } hc hl (by omega)
theorem append_calm {D:Dk} {G:Lg} {b:List UInt8} (hc:Calm D) (h6:6≤D.safe.length) (hd:G.dead=false) (hf:(flat G.l).length≤32 * half D) (hb:b.length≤1024) :
  if room D G<b.length+10 then WM.append D G b=(5,D,G)
  else (WM.append D G b).1=0∧(WM.append D G b).2.2 = { G with l:=G.l ++ [b] }∧Calm (WM.append D G b).2.1∧(WM.append D G b).2.1.safe=D.safe:=by
 have hg:gone D G=false:=by unfold gone;rw[hd,hc.2];rfl
 split
 ·rename_i h
  unfold WM.append
  rw[hg,if_neg (by simp),if_neg (by omega),if_pos h]
 ·rename_i h
  have hsn:=flat_snoc G.l b
  have hfit:(flat (G.l ++ [b])).length≤32 * half D:=by unfold room at h;omega
  have hal:(area D (G.l ++ [b])).length=32 * half D:=areaH_length hfit
  obtain⟨h1,h2,h3⟩:=lay_calm G.ep (area D (G.l ++ [b])) (s:=D.safe.length) h6 hal (((flat (G.l ++ [b])).length - 1) / 32 - (flat G.l).length / 32+1) ((flat G.l).length / 32) D hc rfl
   (by have:(D.safe.length - 2) / 2=half D:=rfl;omega)
  unfold WM.append
  rw[hg,if_neg (by simp),if_neg (by omega),if_neg h]
  simp only
  rw[h1]
  refine⟨rfl,?_,h2,h3⟩
  obtain⟨ep,l,safe,dead⟩:=G
  simp only at hd
  subst hd
  rfl
theorem append_len (D:Dk) (G:Lg) (b:List UInt8):(WM.append D G b).2.1.safe.length=D.safe.length:=by
 unfold WM.append
 split
 ·rfl
 ·split
  ·rfl
  ·split
   ·rfl
   ·exact lay_len _ _ _ _ _
theorem reset_len (D:Dk) (G:Lg) (L:List (List UInt8)):(WM.reset D G L).2.1.safe.length=D.safe.length:=by
 unfold WM.reset
 split
 ·rfl
 ·split
  ·rfl
  ·split
   ·rfl
   ·simp only
    split <;> exact turnW_len _ _ _
namespace WM
open DM BM Go.Proofs.Ytkjofdocgaiedaa
def nowAt (D:Dk) (p:Nat):Sec:=(now D).getD p []
theorem now_snoc {D E:Dk} {i:Nat} {b:Sec} (hs:E.safe=D.safe) (hw:E.waits=D.waits ++ [(i,b)]):now E=(now D).set i b:=by
 unfold now
 rw[hs,hw,puts_append]
 rfl
theorem nowAt_snoc {D E:Dk} {i:Nat} {b:Sec} (hs:E.safe=D.safe) (hw:E.waits=D.waits ++ [(i,b)]) (hi:i<D.safe.length) (p:Nat):nowAt E p=if p=i then b else nowAt D p:=by
 have hl:=now_length D
 unfold nowAt
 rw[now_snoc hs hw,List.getD_eq_getElem?_getD,List.getElem?_set]
 by_cases h:i=p
 ·subst h
  rw[if_pos rfl,if_pos (by omega),if_pos rfl]
  rfl
 ·rw[if_neg h,if_neg (fun e=>h e.symm),List.getD_eq_getElem?_getD]
theorem nowAt_flat {D E:Dk} (hs:E.safe=now D) (hw:E.waits = []) (p:Nat):nowAt E p=nowAt D p:=by
 unfold nowAt now
 rw[hs,hw]
 rfl
theorem read_nowAt {D:Dk} (hd:D.down=false) (i:Nat) (hi:i<D.safe.length):DM.read D (i:Int)=(nowAt D i,0):=by
 unfold DM.read nowAt
 rw[hd,if_neg (by simp),if_neg (by omega)]
 simp
theorem nowAt_len {D:Dk} (ok:Ok D) (i:Nat) (hi:i<D.safe.length):(nowAt D i).length=32:=by
 have hl:=now_length D
 have:=ok.now _ (List.getElem_mem (l:=now D) (n:=i) (by omega))
 unfold nowAt
 rw[List.getD_eq_getElem?_getD,List.getElem?_eq_getElem (by omega)]
 exact this
theorem write_ok {D:Dk} {i:Nat} {b:Sec} (h:(DM.write D (i:Int) b).1=0):i<D.safe.length∧b.length=32∧(DM.write D (i:Int) b).2.safe=D.safe∧(DM.write D (i:Int) b).2.waits=D.waits ++ [(i,b)]:=by
 unfold DM.write at h ⊢
 split at h
 ·cases h
 ·rename_i h1
  rw[if_neg h1]
  split at h
  ·cases h
  ·rename_i h2
   rw[if_neg h2]
   split at h
   ·rename_i h3
    rw[if_pos h3]
    refine⟨by omega,by omega,act_safe D,?_⟩
    show (DM.act D).2.waits ++ [((i:Int).toNat,b)]=_
    rw[act_waits]
    simp
   ·cases h
theorem write_no {D:Dk} {i:Nat} {b:Sec} (hi:i<D.safe.length) (hb:b.length=32) (h:(DM.write D (i:Int) b).1≠0):(DM.write D (i:Int) b).1=6∧(DM.write D (i:Int) b).2.safe=D.safe∧(DM.write D (i:Int) b).2.waits=D.waits:=by
 unfold DM.write at h ⊢
 split
 ·exact⟨rfl,rfl,rfl⟩
 ·rename_i h1
  rw[if_neg h1] at h
  rw[if_neg (by omega)] at h ⊢
  split
  ·rename_i h3
   rw[if_pos h3] at h
   exact absurd rfl h
  ·exact⟨rfl,act_safe D,act_waits D⟩
theorem sync_ok {D:Dk} (h:(DM.sync D).1=0):(DM.sync D).2.safe=now D∧(DM.sync D).2.waits = []:=by
 unfold DM.sync at h ⊢
 split at h
 ·rename_i h3
  rw[if_pos h3]
  refine⟨?_,rfl⟩
  show now (DM.act D).2=_
  unfold now
  rw[act_safe,act_waits]
 ·cases h
theorem sync_no {D:Dk} (h:(DM.sync D).1≠0):(DM.sync D).1=6∧(DM.sync D).2.safe=D.safe∧(DM.sync D).2.waits=D.waits:=by
 unfold DM.sync at h ⊢
 split
 ·rename_i h3
  rw[if_pos h3] at h
  exact absurd rfl h
 ·exact⟨rfl,act_safe D,act_waits D⟩
theorem first_eq {D E:Dk} (h:E.safe=D.safe) (ep:Nat):WM.first E ep=WM.first D ep:=by unfold WM.first half;rw[h]
theorem half_eq {D E:Dk} (h:E.safe.length=D.safe.length):half E=half D:=by unfold half;rw[h]
theorem lay_waits_all (ep:Nat) (b:List UInt8):∀ k i (D:Dk),6≤D.safe.length→i+k≤half D→b.length=32 * half D→
  (lay ep b i k D).2.safe=D.safe∧(∃ ws,(lay ep b i k D).2.waits=D.waits ++ ws∧∀ x ∈ ws,∃ j,i≤j∧j<i+k∧x=(WM.first D ep+j,secOf b j))∧((lay ep b i k D).1≠0→(lay ep b i k D).1=6)∧
  ((lay ep b i k D).1=0→∀ p,(∀ j,i≤j→j<i+k→p=WM.first D ep+j→nowAt (lay ep b i k D).2 p=secOf b j)∧((∀ j,i≤j→j<i+k→p≠WM.first D ep+j)→nowAt (lay ep b i k D).2 p=nowAt D p))
 | 0,i,D,_,_,_=>⟨rfl,⟨[],by simp[lay],by simp⟩,fun h=>absurd rfl h,fun _ p=>⟨fun j h1 h2=>by omega,fun _=>rfl⟩⟩
 | k+1,i,D,h6,hik,hb=>by
   have hfl:=first_lt (D:=D) ep i h6 (by omega)
   have hsl:(secOf b i).length=32:=by unfold secOf;rw[List.length_take,List.length_drop];omega
   unfold lay
   simp only
   by_cases h0:(DM.write D ((WM.first D ep+i:Nat):Int) (secOf b i)).1=0
   ·rw[if_pos h0]
    obtain⟨_,_,w1,w2⟩:=write_ok h0
    have hn:=fun p=>nowAt_snoc w1 w2 hfl p
    have hF:=first_eq w1 ep
    have hH:half (DM.write D ((WM.first D ep+i:Nat):Int) (secOf b i)).2=half D:=half_eq (by rw[w1])
    obtain⟨i1,⟨ws,i2,i3⟩,i4,i5⟩:=lay_waits_all ep b k (i+1) _ (by rw[w1];exact h6) (by rw[hH];omega) (by rw[hH];exact hb)
    generalize (DM.write D ((WM.first D ep+i:Nat):Int) (secOf b i)).2=E at *
    rw[hF] at i3 i5
    refine⟨i1.trans w1,⟨(WM.first D ep+i,secOf b i) :: ws,by rw[i2,w2];simp,fun x hx=>?_⟩,i4,fun h p=>?_⟩
    ·rcases List.mem_cons.1 hx with rfl | hx
     ·exact⟨i,Nat.le_refl _,by omega,rfl⟩
     ·obtain⟨j,j1,j2,j3⟩:=i3 x hx
      exact⟨j,by omega,by omega,j3⟩
    ·obtain⟨q1,q2⟩:=i5 h p
     refine⟨fun j j1 j2 j3=>?_,fun hne=>?_⟩
     ·by_cases hj:j=i
      ·subst hj
       rw[q2 (fun j' a1 a2 a3=>by omega),hn,if_pos j3]
      ·exact q1 j (by omega) (by omega) j3
     ·rw[q2 (fun j a1 a2=>hne j (by omega) (by omega)),hn,if_neg (hne i (Nat.le_refl _) (by omega))]
   ·rw[if_neg h0]
    obtain⟨w0,w1,w2⟩:=write_no hfl hsl h0
    exact⟨w1,⟨[],by rw[w2,List.append_nil],by simp⟩,fun _=>w0,fun h=>absurd h h0⟩
theorem gd0 (l:List UInt8) (k:Nat):l.getD k 0=(l[k]?).getD 0:=List.getD_eq_getElem?_getD
theorem secOf_getD (b:List UInt8) (i k:Nat) (hk:k<32):(secOf b i)[k]?=b[32 * i+k]?:=by
 unfold secOf
 rw[List.getElem?_take,if_pos hk,List.getElem?_drop]
theorem secOf_len {b:List UInt8} {h:Nat} (hb:b.length=32 * h) {i:Nat} (hi:i<h):(secOf b i).length=32:=by
 unfold secOf;rw[List.length_take,List.length_drop];omega
theorem secOf_ext {a b:List UInt8} {h i:Nat} (ha:a.length=32 * h) (hb:b.length=32 * h) (hi:i<h) (he:∀ k,k<32→a[32 * i+k]?=b[32 * i+k]?):secOf a i=secOf b i:=by
 apply List.ext_getElem?
 intro k
 by_cases hk:k<32
 ·rw[secOf_getD _ _ _ hk,secOf_getD _ _ _ hk,he k hk]
 ·rw[List.getElem?_eq_none (by rw[secOf_len ha hi];omega),List.getElem?_eq_none (by rw[secOf_len hb hi];omega)]
theorem clean_len (B:List UInt8) (en:Nat):(clean B en).length=B.length:=by unfold clean;rw[List.length_append,List.length_take,List.length_replicate];omega
theorem clean_get {B:List UInt8} {en j:Nat} (hj:j<B.length):(clean B en)[j]?=some (if j<en then B.getD j 0 else 0):=by
 unfold clean
 by_cases h:j<en
 ·rw[List.getElem?_append_left (by rw[List.length_take];omega),List.getElem?_take,if_pos h,if_pos h,gd _ _ hj]
 ·rw[List.getElem?_append_right (by rw[List.length_take];omega),List.length_take,List.getElem?_replicate,if_pos (by omega),if_neg h]
theorem dirty_no {B:List UInt8} {en i:Nat} (h:dirty B en i=false) {k:Nat} (hk:k<32) (he:en≤32 * i+k):B.getD (32 * i+k) 0=0:=by
 unfold dirty at h
 have h1:=List.any_eq_false.1 h k (List.mem_range.2 hk)
 simp only[Bool.and_eq_true,decide_eq_true_eq,not_and,Decidable.not_not] at h1
 exact h1 he
theorem clean_same {B:List UInt8} {en h i:Nat} (hb:B.length=32 * h) (hi:i<h) (hd:dirty B en i=false):secOf (clean B en) i=secOf B i:=
 secOf_ext (by rw[clean_len];exact hb) hb hi fun k hk=>by
  rw[clean_get (by omega),gd B _ (by omega)]
  split
  ·rfl
  ·rw[dirty_no hd hk (by omega)]
theorem clean_clean {B:List UInt8} {en h i:Nat} (hb:B.length=32 * h) (hi:i<h):dirty (clean B en) en i=false:=by
 unfold dirty
 rw[List.any_eq_false]
 intro k hk
 rw[List.mem_range] at hk
 simp only[Bool.and_eq_true,decide_eq_true_eq,not_and,Decidable.not_not]
 intro he
 rw[gd0,clean_get (by omega),if_neg (by omega)]
 rfl
theorem wipe_calm (ep:Nat) (B:List UInt8) (en:Nat):∀ k i wr (D:Dk),Calm D→Ok D→6≤D.safe.length→i+k≤half D→B.length=32 * half D→
  (wipe ep B en i k wr D).1=0∧Calm (wipe ep B en i k wr D).2.2∧Ok (wipe ep B en i k wr D).2.2∧(wipe ep B en i k wr D).2.2.safe=D.safe∧((wipe ep B en i k wr D).2.1=false→(wipe ep B en i k wr D).2.2=D)∧
  ∀ p,(∀ j,i≤j→j<i+k→p=WM.first D ep+j→nowAt (wipe ep B en i k wr D).2.2 p=if dirty B en j then secOf (clean B en) j else nowAt D p)∧((∀ j,i≤j→j<i+k→p≠WM.first D ep+j)→nowAt (wipe ep B en i k wr D).2.2 p=nowAt D p)
 | 0,i,wr,D,hc,ok,_,_,_=>⟨rfl,hc,ok,rfl,fun _=>rfl,fun p=>⟨fun j h1 h2=>by omega,fun _=>rfl⟩⟩
 | k+1,i,wr,D,hc,ok,h6,hik,hb=>by
   have hfl:=first_lt (D:=D) ep i h6 (by omega)
   have hcl:(clean B en).length=32 * half D:=by rw[clean_len];exact hb
   have hsl:=secOf_len hcl (i:=i) (by omega)
   unfold wipe
   by_cases hd:dirty B en i=true
   ·rw[if_pos hd]
    have hw:=write_calm hc (WM.first D ep+i) hfl (secOf (clean B en) i) hsl
    have hok:=ok.write ((WM.first D ep+i:Nat):Int) (secOf (clean B en) i)
    simp only
    rw[hw] at hok ⊢
    simp only[if_true]
    obtain⟨E,hE⟩:∃ E:Dk,E = { D with waits:=D.waits ++ [(WM.first D ep+i,secOf (clean B en) i)] }:=⟨_,rfl⟩
    rw[← hE] at hok ⊢
    have hEs:E.safe=D.safe:=by rw[hE]
    have hn:=fun p=>nowAt_snoc (D:=D) (E:=E) hEs (by rw[hE]) hfl p
    have hF:=first_eq hEs ep
    have hH:half E=half D:=half_eq (by rw[hEs])
    obtain⟨a1,a2,a3,a4,a5,a6⟩:=wipe_calm ep B en k (i+1) true E (by rw[hE];exact hc) hok (by rw[hEs];exact h6) (by rw[hH];omega) (by rw[hH];exact hb)
    rw[hF] at a6
    refine⟨a1,a2,a3,a4.trans hEs,fun h=>?_,fun p=>?_⟩
    ·exfalso
     have:∀ k i (D:Dk),(wipe ep B en i k true D).2.1=true:=by
      intro k
      induction k with
      | zero=>intro i D;rfl
      | succ k ih=>
        intro i D
        unfold wipe
        split
        ·simp only
         split
         ·exact ih _ _
         ·rfl
        ·exact ih _ _
     rw[this] at h
     cases h
    ·obtain⟨q1,q2⟩:=a6 p
     refine⟨fun j j1 j2 j3=>?_,fun hne=>?_⟩
     ·by_cases hj:j=i
      ·subst hj
       rw[q2 (fun j' b1 b2 b3=>by omega),hn,if_pos j3,if_pos hd]
      ·have he:nowAt E p=nowAt D p:=by rw[hn,if_neg (by omega)]
       rw[q1 j (by omega) (by omega) j3,he]
     ·rw[q2 (fun j b1 b2=>hne j (by omega) (by omega)),hn,if_neg (hne i (Nat.le_refl _) (by omega))]
   ·rw[if_neg hd]
    obtain⟨a1,a2,a3,a4,a5,a6⟩:=wipe_calm ep B en k (i+1) wr D hc ok h6 (by omega) hb
    refine⟨a1,a2,a3,a4,a5,fun p=>?_⟩
    obtain⟨q1,q2⟩:=a6 p
    refine⟨fun j j1 j2 j3=>?_,fun hne=>q2 (fun j b1 b2=>hne j (by omega) (by omega))⟩
    by_cases hj:j=i
    ·subst hj
     rw[q2 (fun j' b1 b2 b3=>by omega),if_neg hd]
    ·exact q1 j (by omega) (by omega) j3
theorem bytes_flat {D:Dk} (hd:D.down=false) (h6:6≤D.safe.length) (ep:Nat):WM.bytes D ep=((List.range (half D)).map fun i=>nowAt D (WM.first D ep+i)).flatten:=by
 unfold WM.bytes
 congr 1
 apply List.map_congr_left
 intro i hi
 rw[List.mem_range] at hi
 rw[read_nowAt hd _ (first_lt ep i h6 hi)]
theorem flat_secs (f:Nat→Sec) (hf:∀ i,(f i).length=32):∀ h,((List.range h).map f).flatten.length=32 * h∧∀ i k,i<h→k<32→((List.range h).map f).flatten[32 * i+k]?=(f i)[k]?
 | 0=>⟨rfl,fun i k h=>by omega⟩
 | h+1=>by
   obtain⟨h1,h2⟩:=flat_secs f hf h
   rw[List.range_succ,List.map_append,List.flatten_append]
   simp only[List.map_cons,List.map_nil,List.flatten_cons,List.flatten_nil,List.append_nil]
   refine⟨by rw[List.length_append,h1,hf];omega,fun i k hi hk=>?_⟩
   by_cases hih:i<h
   ·rw[List.getElem?_append_left (by omega)]
    exact h2 i k hih hk
   ·have:i=h:=by omega
    subst this
    rw[List.getElem?_append_right (by omega),h1]
    congr 1
    omega
theorem bytes_get {D:Dk} (hd:D.down=false) (h6:6≤D.safe.length) (ok:Ok D) (ep:Nat):(WM.bytes D ep).length=32 * half D∧∀ i,i<half D→secOf (WM.bytes D ep) i=nowAt D (WM.first D ep+i):=by
 have hg:∀ h,h≤half D→((List.range h).map fun i=>nowAt D (WM.first D ep+i))=(List.range h).map fun i=>if i<half D then nowAt D (WM.first D ep+i) else List.replicate 32 0:=fun h hh=>by
  apply List.map_congr_left
  intro i hi
  rw[List.mem_range] at hi
  rw[if_pos (by omega)]
 have hl:∀ i,(if i<half D then nowAt D (WM.first D ep+i) else List.replicate 32 0:List UInt8).length=32:=fun i=>by
  split
  ·exact nowAt_len ok _ (first_lt ep i h6 (by assumption))
  ·simp
 obtain⟨h1,h2⟩:=flat_secs _ hl (half D)
 rw[bytes_flat hd h6,hg _ (Nat.le_refl _)]
 refine⟨h1,fun i hi=>?_⟩
 apply List.ext_getElem?
 intro k
 by_cases hk:k<32
 ·rw[secOf_getD _ _ _ hk,h2 i k hi hk,if_pos hi]
 ·rw[List.getElem?_eq_none (by rw[secOf_len h1 hi];omega),List.getElem?_eq_none (by rw[nowAt_len ok _ (first_lt ep i h6 hi)];omega)]
theorem head_eq {D E:Dk} (hD:D.down=false) (hE:E.down=false) {i:Nat} (h1:i<D.safe.length) (h2:i<E.safe.length) (h:nowAt E i=nowAt D i):WM.head E i=WM.head D i:=by
 unfold WM.head
 rw[read_nowAt hD i h1,read_nowAt hE i h2,h]
theorem epoch_eq {D E:Dk} (hD:D.down=false) (hE:E.down=false) (h1:2≤D.safe.length) (h2:E.safe.length=D.safe.length) (h:∀ i,i<2→nowAt E i=nowAt D i):epoch E=epoch D:=by
 unfold epoch
 rw[head_eq hD hE (by omega) (by omega) (h 0 (by omega)),head_eq hD hE (by omega) (by omega) (h 1 (by omega))]
theorem first_ge (D:Dk) (ep:Nat):2≤WM.first D ep:=by unfold WM.first;omega
structure Opened (D D':Dk) (ep:Nat) (l:List (List UInt8)):Prop where
 eq:openW D=(0,some ⟨ep,l,l.length,false⟩,D')
 calm:Calm D'
 ok:Ok D'
 size:D'.safe.length=D.safe.length
 area:∀ i,i<half D→nowAt D' (WM.first D ep+i)=secOf (areaH (half D) l) i
 rest:∀ p,(∀ i,i<half D→p≠WM.first D ep+i)→nowAt D' p=nowAt D p
 none:D.waits = []→D'.waits = []
 small:∀ r ∈ l,r.length≤1024
 fit:(flat l).length≤32 * half D
theorem open_calm {D:Dk} (hc:Calm D) (ok:Ok D) (h6:6≤D.safe.length) :
  ∃ D',Opened D D' (epoch D) (scan (WM.bytes D (epoch D)) ((WM.bytes D (epoch D)).length+1) 0).1:=by
 obtain⟨ep,hep⟩:∃ ep,ep=epoch D:=⟨_,rfl⟩
 obtain⟨hbl,hbs⟩:=bytes_get hc.2 h6 ok ep
 obtain⟨B,hB⟩:∃ B,B=WM.bytes D ep:=⟨_,rfl⟩
 rw[← hB] at hbl hbs
 obtain⟨s1,s2,s3,s4⟩:=scan_spec B (B.length+1) 0 (Nat.zero_le _)
 have hca:=clean_area hbl
 obtain⟨r,hr⟩:∃ r,r=scan B (B.length+1) 0:=⟨_,rfl⟩
 rw[← hr] at s1 s2 s3 s4 hca
 obtain⟨a1,a2,a3,a4,a5,a6⟩:=wipe_calm ep B r.2 (half D) 0 false D hc ok h6 (by omega) hbl
 obtain⟨W,hW⟩:∃ W,W=wipe ep B r.2 0 (half D) false D:=⟨_,rfl⟩
 rw[← hW] at a1 a2 a3 a4 a5 a6
 have har:∀ i,i<half D→nowAt W.2.2 (WM.first D ep+i)=secOf (areaH (half D) r.1) i:=fun i hi=>by
  rw[(a6 _).1 i (Nat.zero_le _) (by omega) rfl,← hca]
  split
  ·rfl
  ·rename_i hd
   rw[← hbs i hi,clean_same hbl hi (by simpa using hd)]
 have hre:∀ p,(∀ i,i<half D→p≠WM.first D ep+i)→nowAt W.2.2 p=nowAt D p:=fun p hp=>(a6 p).2 fun j _ h2=>hp j (by omega)
 have hop:openW D=if W.2.1 then (0,some ⟨ep,r.1,r.1.length,false⟩,(DM.sync W.2.2).2) else (0,some ⟨ep,r.1,r.1.length,false⟩,W.2.2):=by
  unfold openW
  rw[if_neg (by omega),if_neg (by simp[hc.2]),← hep,← hB]
  simp only
  rw[← hr,← hW,a1,if_neg (by simp)]
  split
  ·rw[show (DM.sync W.2.2).1=0 by rw[sync_calm a2],if_neg (by simp)]
  ·rfl
 rw[← hep,← hB,← hr]
 have hfit:(flat r.1).length≤32 * half D:=by omega
 by_cases hw:W.2.1=true
 ·rw[if_pos hw] at hop
  have hsy:=sync_calm a2
  have hok:=a3.sync
  rw[hsy] at hop hok
  have hn:=fun p=>nowAt_flat (D:=W.2.2) (E:={ W.2.2 with safe:=now W.2.2,waits:=[] }) rfl rfl p
  refine⟨_,hop,a2,hok,by show (now W.2.2).length=_;rw[now_length,a4],fun i hi=>by rw[hn,har i hi],fun p hp=>by rw[hn,hre p hp],fun _=>rfl,s4,hfit⟩
 ·rw[if_neg hw] at hop
  refine⟨_,hop,a2,a3,by rw[a4],har,hre,fun h=>by rw[a5 (by simpa using hw)];exact h,s4,hfit⟩
theorem open_known {D:Dk} (hc:Calm D) (ok:Ok D) (h6:6≤D.safe.length) {ep:Nat} (hep:epoch D=ep) {l:List (List UInt8)} (hl:∀ r ∈ l,r.length≤1024) (hf:(flat l).length≤32 * half D)
  (ha:∀ i,i<half D→nowAt D (WM.first D ep+i)=secOf (areaH (half D) l) i):openW D=(0,some ⟨ep,l,l.length,false⟩,D):=by
 obtain⟨hbl,hbs⟩:=bytes_get hc.2 h6 ok ep
 have hal:=areaH_length hf
 have hB:WM.bytes D ep=areaH (half D) l:=by
  apply List.ext_getElem?
  intro q
  by_cases hq:q<32 * half D
  ·have h1:=secOf_getD (WM.bytes D ep) (q / 32) (q % 32) (by omega)
   have h2:=secOf_getD (areaH (half D) l) (q / 32) (q % 32) (by omega)
   rw[hbs _ (by omega),ha _ (by omega),h2,show 32 * (q / 32)+q % 32=q by omega] at h1
   exact h1.symm
  ·rw[List.getElem?_eq_none (by omega),List.getElem?_eq_none (by omega)]
 have hln:l.length<(areaH (half D) l).length+1:=by have:=flat_ge l;omega
 have hs:scan (areaH (half D) l) ((areaH (half D) l).length+1) 0=(l,(flat l).length):=by
  unfold areaH at hln ⊢
  exact scan_area l _ _ hl hln
 have hd:∀ j,j<half D→dirty (areaH (half D) l) (flat l).length j=false:=fun j hj=>by
  have h1:areaH (half D) l=clean (areaH (half D) l) (flat l).length:=by
   unfold clean
   rw[hal]
   show flat l ++ _=(flat l ++ _).take (flat l).length ++ _
   rw[List.take_left]
  rw[h1]
  exact clean_clean hal hj
 have hw:wipe ep (areaH (half D) l) (flat l).length 0 (half D) false D=(0,false,D):=by
  have:=wipe_skip ep (areaH (half D) l) (flat l).length (half D) 0 0 false D (fun j _ h=>hd j (by omega))
  rw[Nat.add_zero] at this
  rw[this]
  rfl
 unfold openW
 rw[if_neg (by omega),if_neg (by simp[hc.2]),hep,hB]
 simp only
 rw[hs]
 simp only
 rw[hw]
 simp
theorem Opened.again {D D':Dk} {l:List (List UInt8)} (hc:Calm D) (h6:6≤D.safe.length) (h:Opened D D' (epoch D) l):openW D'=(0,some ⟨epoch D,l,l.length,false⟩,D'):=by
 have hh:half D'=half D:=half_eq h.size
 have hF:WM.first D' (epoch D)=WM.first D (epoch D):=by unfold WM.first;rw[hh]
 refine open_known h.calm h.ok (by rw[h.size];exact h6) (epoch_eq hc.2 h.calm.2 (by omega) h.size fun i hi=>h.rest i fun j _ e=>?_) h.small (by rw[hh];exact h.fit) (fun i hi=>?_)
 ·have:=first_ge D (epoch D);omega
 ·rw[hF,hh]
  exact h.area i (by omega)
theorem turn_all {D:Dk} (h6:6≤D.safe.length) (ep:Nat) (b:List UInt8) (hb:b.length=32 * half D) (hh:(headSec ep).length=32) :
  ((turnW ep b D).1≠0→(turnW ep b D).1=6)∧((turnW ep b D).1=0→(turnW ep b D).2.waits = []∧(∀ i,i<half D→nowAt (turnW ep b D).2 (WM.first D ep+i)=secOf b i)∧nowAt (turnW ep b D).2 (ep % 2)=headSec ep∧
    ∀ p,p≠ep % 2→(∀ i,i<half D→p≠WM.first D ep+i)→nowAt (turnW ep b D).2 p=nowAt D p):=by
 obtain⟨a1,-,a3,a4⟩:=lay_waits_all ep b (half D) 0 D h6 (by omega) hb
 unfold turnW
 generalize lay ep b 0 (half D) D=r at *
 simp only
 by_cases h0:r.1=0
 ·rw[if_neg (by simpa using h0)]
  by_cases h1:(DM.sync r.2).1=0
  ·rw[if_neg (by simpa using h1)]
   obtain⟨s1,s2⟩:=sync_ok h1
   have hn1:=fun p=>nowAt_flat s1 s2 p
   have hsl:(DM.sync r.2).2.safe.length=D.safe.length:=by rw[sync_len,a1]
   generalize (DM.sync r.2).2=y at *
   have hep:ep % 2<y.safe.length:=by omega
   by_cases h2:(DM.write y ((ep % 2:Nat):Int) (headSec ep)).1=0
   ·rw[if_neg (by simpa using h2)]
    obtain⟨-,-,w1,w2⟩:=write_ok h2
    have hn2:=fun p=>nowAt_snoc w1 w2 hep p
    generalize (DM.write y ((ep % 2:Nat):Int) (headSec ep)).2=z at *
    refine⟨fun h=>(sync_no h).1,fun h=>?_⟩
    obtain⟨t1,t2⟩:=sync_ok h
    have hn3:=fun p=>nowAt_flat t1 t2 p
    have hall:∀ p,nowAt (DM.sync z).2 p=if p=ep % 2 then headSec ep else nowAt r.2 p:=fun p=>by rw[hn3,hn2,hn1]
    have hfg:=first_ge D ep
    refine⟨t2,fun i hi=>?_,by rw[hall,if_pos rfl],fun p p1 p2=>?_⟩
    ·rw[hall,if_neg (by omega)]
     exact((a4 h0 _).1 i (Nat.zero_le _) (by omega) rfl)
    ·rw[hall,if_neg p1]
     exact(a4 h0 p).2 fun j _ hj=>p2 j (by omega)
   ·rw[if_pos (by simpa using h2)]
    exact⟨fun _=>(write_no hep hh h2).1,fun h=>absurd h h2⟩
  ·rw[if_pos (by simpa using h1)]
   exact⟨fun _=>(sync_no h1).1,fun h=>absurd h h1⟩
 ·rw[if_pos (by simpa using h0)]
  exact⟨a3,fun h=>absurd h h0⟩
theorem turn_calm {D:Dk} (hc:Calm D) (h6:6≤D.safe.length) (ep:Nat) (b:List UInt8) (hb:b.length=32 * half D) (hh:(headSec ep).length=32):(turnW ep b D).1=0∧Calm (turnW ep b D).2:=by
 obtain⟨l1,l2,l3⟩:=lay_calm ep b h6 hb (half D) 0 D hc rfl (by show 0+half D≤half D;omega)
 unfold turnW
 simp only
 rw[if_neg (by simpa using l1),sync_calm l2]
 simp only
 rw[if_neg (by simp)]
 have hsl:(now (lay ep b 0 (half D) D).2).length=D.safe.length:=by rw[now_length,l3]
 have hc2:Calm { (lay ep b 0 (half D) D).2 with safe:=now (lay ep b 0 (half D) D).2,waits:=[] }:=l2
 rw[write_calm hc2 (ep % 2) (by show ep % 2<(now _).length;omega) (headSec ep) hh]
 simp only
 rw[if_neg (by simp)]
 rw[sync_calm (D:={ (lay ep b 0 (half D) D).2 with safe:=now (lay ep b 0 (half D) D).2,waits:=[] ++ [(ep % 2,headSec ep)] }) l2]
 exact⟨rfl,l2⟩
theorem area_get (h:Nat) (l:List (List UInt8)) {q:Nat} (hq:q<(flat l).length):(areaH h l)[q]?=(flat l)[q]?:=by
 unfold areaH
 rw[List.getElem?_append_left hq]
theorem area_nought (h:Nat) (l:List (List UInt8)) {q:Nat} (hq:(flat l).length≤q) (hh:q<32 * h):(areaH h l)[q]?=some 0:=by
 unfold areaH
 rw[List.getElem?_append_right hq,List.getElem?_replicate,if_pos (by omega)]
theorem head_at {D:Dk} (hd:D.down=false) {i:Nat} (hi:i<D.safe.length) (s:Sec) (h:nowAt D i=s):WM.head D i=(match BM.get s 0 with
  | .no _=>none
  | .yes k body _=>if k≠1 then none else match uint body 0 with | .no _=>none | .yes n t=>if t=body.length∧n<4611686018427387904∧n % 2=i then some n else none):=by
 unfold WM.head
 rw[read_nowAt hd i hi,h]
 rfl
end WM
end Go.Proofs.Ytkjofdocgaiedaa
