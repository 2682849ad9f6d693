/- Texts StrB, StrC in one. Conditions: as each law names them. -/
import Derived.Deep.CutBlock
import Derived.Deep.DeepCutAuto
import Derived.Test.YtnidpeeljoaelaaGreatRbf
namespace Go.Proofs.YtnidpeeljoaelaaGreat
open Go.RowKit Go.Maps
open MI SO BM DM WM
theorem AndT.box {p:Nat} {cs:Array Value} {t:TypeId} {E:Thing} {w:World} {F:Nat→Prop} (h:AndT (BoxT p cs t) E w F):w.heap[p]?=some (.cells cs t (0,0)):=let ⟨_,_,h,_⟩:=h;h.1
theorem Three.boxE {W w w':World} {p:Nat} {cs cs':Array Value} {t:TypeId} {U V E:Thing} {A G H:Nat→Prop} (h:Three W (AndT (BoxT p cs t) E) A U G V H w) (LE:Lives E) (LU:Lives U) (LV:Lives V) (hk:Keep (fun k=>k=p) w w') (hh:w'.heap[p]?=some (.cells cs' t (0,0))):∃ A',Three W (AndT (BoxT p cs' t) E) A' U G V H w':=
 h.turn1 LU LV (AndT.turn1 LE h.one fun A h1=>⟨A,⟨hh,h1.2.1,fun k x=>Nat.lt_of_lt_of_le (h1.2.2 k x) hk.size⟩,hk.mono fun k _ e=>by subst e;exact h1.2.1,fun _ x=>.inl x⟩)
set_option maxRecDepth 20000 in
set_option maxHeartbeats 1000000 in
theorem stopen_E (W w:World) (p:Nat) (D:Dk) (E:Thing) (LE:Lives E) (d m:Nat) (sv rv:Value) (A F G:Nat→Prop) (h:Three W (AndT (BoxT p (pairC d m sv rv) 38) E) A (DkT d D) F (RkT m D) G w) (hfew:D.waits.length≤800000) :
  Calls Tryz.prog 27 #[.pointer (some ⟨p,0,none⟩)] w fun e w'=>e = .returned (.bool true)∧∃ sv rv A F G,Three W (AndT (BoxT p (pairC d m sv rv) 38) E) A (SideP d (opS D).2.2 (opS D).2.1 sv) F (SideR m (opS D).2.2 (opS D).2.1 rv) G w':=by
 obtain⟨R,hR⟩:∃ R,R=opS D:=⟨_,rfl⟩
 have hop:=sopen_any w d F D h.two hfew
 rw[← hR] at hop ⊢
 obtain⟨h0,h1,h2,h3,hf,hb⟩:=cells4 h.one.box
 have H0:=hid (And.intro h (And.intro hR hfew))
 have LA:∀ cs t,Lives (AndT (BoxT p cs t) E):=fun cs t=>AndT.lives (BoxT.lives p cs t) LE
 clear h hR hfew
 go_enter Tryz.func27,Tryz.ntmps27
 go_wp2_with (at_builtin;refine stopAt ?_;intro q hq)
 refine hop.mono ?_
 intro e w1 hp
 obtain⟨sv1,rfl,ht⟩:=hp.side
 obtain⟨F1,T1⟩:=H0.out.1.turn2 (LA _ _) (RkT.lives _ _) ht
 have hrop:=sropen_any w1 m G D T1.three H0.out.2.2
 rw[← H0.out.2.1] at hrop
 clear hop hp ht h0 h1 h2 h3 hf hb
 obtain⟨h0,h1,h2,h3,hf,hb⟩:=cells4 T1.one.box
 have HT1:=hid T1
 clear T1
 go_wp2_with (at_builtin;refine stopAt ?_;intro q hq)
 refine hrop.mono ?_
 intro e w2 hp
 obtain⟨rv1,rfl,ht⟩:=hp.side
 obtain⟨G1,T2⟩:=HT1.out.turn3 (LA _ _) (SideP.lives _ _ _ _) ht
 clear hrop hp ht h0 h1 h2 h3 hf hb
 obtain⟨h0,h1,h2,h3,hf,hb⟩:=cells4 T2.one.box
 obtain⟨x,rfl,hx⟩:=ptr_nil T2.two
 obtain⟨y,rfl,hy⟩:=rptr_nil T2.three
 have hk3:Keep (fun k=>k=p) w2 ((w2.setCell ⟨p,1,none⟩ (.pointer x)).setCell ⟨p,3,none⟩ (.pointer y)):=by refine Keep.setCell (Keep.setCell (Keep.refl _ _) (.inl ?_) _) (.inl ?_) _ <;> rfl
 have hh3:=heap_setCell6 (heap_setCell6 T2.one.box 1 (.pointer x)) 3 (.pointer y)
 obtain⟨A3,T3⟩:=T2.boxE LE (SideP.lives _ _ _ _) (SideR.lives _ _ _ _) hk3 hh3
 have HZ:=hid T3
 clear T2 hk3 hh3 T3
 have hxy:x.isNone=y.isNone:=hx.trans hy.symm
 have HXY:=hid hxy
 clear hx hy hxy
 cases x with
 | none=>
   cases y with
   | none=>
     go_wp2_with (at_builtin;refine stopAt ?_;intro q hq)
     go_ret
     exact⟨by simp,_,_,_,_,_,HZ.out⟩
   | some y=>exact absurd HXY.out (by simp)
 | some x=>
   cases y with
   | none=>exact absurd HXY.out (by simp)
   | some y=>
     go_wp2_with (at_builtin;refine stopAt ?_;intro q hq)
     go_ret
     exact⟨by simp,_,_,_,_,_,HZ.out⟩
theorem ChLs.get {w w':World} {ao:Option Addr} {m c:Nat} {l:List (List Ch)} (h:ChLs w (.slice ao m c) l) (hk:Keep (fun _=>False) w w') (i:Nat) (hi:i<l.length) :
  ∃ ad lo lc,ao=some ad∧w'.cell? (ad.add i)=some (.slice lo l[i].length lc)∧Chs w (.slice lo l[i].length lc) l[i]:=by
 obtain⟨ao',c',hv,_,_,h3⟩:=h
 cases hv
 obtain⟨ad,rfl,h4⟩:=h3 (by omega)
 obtain⟨cs,_,⟨lv,rfl,h5⟩,hc⟩:=h4 i hi
 obtain⟨lo,lc,rfl,-⟩:=h5.form
 have:=hc 0 _ rfl
 rw[Nat.mul_one,Nat.add_zero] at this
 exact⟨ad,lo,lc,rfl,cell_old hk _ _ this,h5⟩
theorem Bools.get {w w':World} {ao:Option Addr} {m c:Nat} {l:List Bool} (h:Bools w (.slice ao m c) l) (hk:Keep (fun _=>False) w w') (i:Nat) (hi:i<l.length) :
  ∃ ad,ao=some ad∧w'.cell? (ad.add i)=some (.bool l[i]):=by
 obtain⟨ao',c',hv,_,_,h3⟩:=h
 cases hv
 obtain⟨ad,rfl,h4⟩:=h3 (by omega)
 obtain⟨cs,_,hb,hc⟩:=h4 i hi
 unfold BoolR at hb
 subst hb
 have:=hc 0 _ rfl
 rw[Nat.mul_one,Nat.add_zero] at this
 exact⟨ad,rfl,cell_old hk _ _ this⟩
theorem op_safe {D:Dk} {S:St} (h:(opS D).2.1=some S):S.dead=false∧S.g.safe=S.g.l.length:=by
 unfold opS at h
 split at h
 ·cases h
 ·rename_i g hg
  split at h
  ·cases h
  ·simp only[Option.some.injEq] at h
   subst h
   refine⟨rfl,?_⟩
   simp only
   unfold openW at hg
   split at hg
   ·cases hg
   ·split at hg
    ·cases hg
    ·simp only at hg
     split at hg
     ·cases hg
     ·split at hg
      ·split at hg
       ·cases hg
       ·simp only[Option.some.injEq] at hg
        rw[← hg]
      ·simp only[Option.some.injEq] at hg
       rw[← hg]
theorem doS_zero {D:Dk} {S:St} {l:List Ch} (h:(doS D S l).1=0):right l=true:=by
 unfold doS at h
 split at h
 ·simp at h
 ·split at h
  ·rename_i h2
   simp only at h
   omega
  ·rename_i h2
   exact(wbytes l (by simpa using h2)).2
theorem layL_len2 {l:List Ch} (ps:List (Str×Str)) (h:right l=true):(layL ps l).length≤ps.length+32:=by
 have h1:=layL_len l ps
 have h2:=(right_all h).1
 omega
end Go.Proofs.YtnidpeeljoaelaaGreat
namespace Go.Proofs.YtnidpeeljoaelaaGreat
open Go.RowKit Go.Maps
open MI SO BM DM WM
theorem wh_open50:opS (DM.new 50)=(0,some nS0,DM.new 50):=by kernel_rfl
abbrev whBox (p d m b c:Nat) (v:Value) (L:List (List (Str×Str))):Thing:=AndT (BoxT p (pairC d m (.pointer (some ⟨b,0,none⟩)) (.pointer (some ⟨c,0,none⟩))) 38) (StT v L)
theorem whBox.lives (p d m b c:Nat) (v:Value) (L:List (List (Str×Str))):Lives (whBox p d m b c v L):=AndT.lives (BoxT.lives _ _ _) (StT.lives _ _)
structure WhRel (W:World) (p k sf:Nat) (v:Value) (wr:World):Prop where
 ex:∃ D S S2 d m b c A F G L,(S2=S∨S2=markS D S)∧Three W (whBox p d m b c v L) A (SideP d D (some S) (.pointer (some ⟨b,0,none⟩))) F (SideR m D (some S2) (.pointer (some ⟨c,0,none⟩))) G wr∧
  Okay S∧D.waits.length≤5120 * k∧sf<L.length∧L.length≤k+1∧∀ x ∈ L,x.length≤32 * k
structure WhMid (W:World) (p k sf:Nat) (D:Dk) (S S2:St) (d m b c:Nat) (v:Value) (wr:World):Prop where
 ex:∃ A F G L,Three W (whBox p d m b c v L) A (SideP d D (some S) (.pointer (some ⟨b,0,none⟩))) F (SideR m D (some S2) (.pointer (some ⟨c,0,none⟩))) G wr∧
  sf<L.length∧L.length≤k+2∧∀ x ∈ L,x.length≤32 * (k+1)
theorem StT.form {v:Value} {L:List (List (Str×Str))} {w:World} {B:Nat→Prop} (h:StT v L w B):∃ ao c,v = .slice ao L.length c∧L.length≤c:=by
 obtain⟨vs,h⟩:=h
 obtain⟨ao,c,e,h1,-⟩:=h.row.form
 exact⟨ao,c,e,h1⟩
theorem whBox.form {p d m b c:Nat} {v:Value} {L:List (List (Str×Str))} {w:World} {A:Nat→Prop} (h:whBox p d m b c v L w A):∃ ao c,v = .slice ao L.length c∧L.length≤c:=let ⟨_,_,_,h,_⟩:=h;h.form
theorem flag_at (bd:Addr) (ns sc k:Nat) (h:k<ns):∀ w',(Instr.indexAt 65 (.slice (some bd) ns sc) (.int .i64 (k:Int))).run Tryz.prog w' = .ok (.pointer (some (bd.add k))) w':=fun w'=>by
 have hsz:(sizeOf (Tryz.prog.elem 65)).run Tryz.prog w' = .ok 1 w':=by kernel_rfl
 rw[run_indexAt_slice (h:=by kernel_rfl),if_pos (by omega),hsz]
 simp
theorem ix_bools (a:Addr) (n c i:Nat) (w:World) (h:(i:Int)<(n:Int)):(Instr.indexAt 65 (.slice (some a) n c) (.int .i64 (i:Int))).run Tryz.prog w = .ok (.pointer (some (a.add i))) w:=flag_at a n c i (by omega) w
attribute [local go_sem] ix_bools
set_option maxRecDepth 20000 in
set_option maxHeartbeats 4000000 in
theorem swhole_walk (w:World) (v0:Value) (l:List (List Ch)) (hl:ChLs w v0 l) (v1:Value) (sy:List Bool) (hsy:Bools w v1 sy) (a:Int) (ha : -9223372036854775808≤a) (hb:a≤9223372036854775807) (v3:Value) (kp:List Int) (hkp:Ints w v3 kp) :
  Calls Tryz.prog 5 #[v0,v1,.int .i64 a,v3] w fun e w'=>e = .returned (.bool true)∧Keep (fun _=>False) w w':=by
 obtain⟨ao,c,rfl,hlc,hcm⟩:=hl.form
 obtain⟨so,sc,rfl,hsc,hscm⟩:=hsy.form
 obtain⟨ko,kc,rfl,hkc,hkcm⟩:=hkp.form
 obtain⟨m,hm⟩:∃ m,m=l.length:=⟨_,rfl⟩
 obtain⟨ns,hns⟩:∃ ns,ns=sy.length:=⟨_,rfl⟩
 have HL:=hid (And.intro hl (And.intro hsy hkp))
 rw[← hm,← hns] at HL
 rw[← hm] at hlc ⊢
 rw[← hns] at hsc ⊢
 have Hm:=hid (And.intro hm hns)
 clear hl hsy hkp hcm hscm hkcm hm hns hkc
 go_enter Tryz.func5,Tryz.ntmps5
 go_wp2_with (at_builtin;refine stopAt ?_;intro q hq)
 refine(ststart_any w 50 (by decide) (by decide)).mono ?_
 rintro e w1 ⟨p,rfl,hP1⟩
 rw[wh_open50] at hP1
 have HP1:=hid hP1
 clear hP1
 by_cases big:20<m
 ·have g1:(20:Int)<m:=by omega
  go_wp2_with (at_builtin;refine stopAt ?_;intro q hq)
  refine(sknown_any _).mono ?_
  rintro e w4 ⟨rfl,hk4⟩
  have HZ2:=hid (HP1.out.keep.next hk4 (H:=fun _=>False) (fun _ _ x=>x) (fun _ _ x=>x))
  clear hk4
  go_wp2_with (at_builtin;refine stopAt ?_;intro q hq)
  go_ret
  exact⟨by rfl,HZ2.out⟩
 have g1:decide ((20:Int)<m)=false:=by simp;omega
 have Hbig:=hid big
 clear big
 go_upto_if 39 with fail
 go_cut [] (fun wx=>Hid (∃ D,PairS w p D (some nS0) wx∧D.waits = []))
 case first=>
  by_cases hneg:0≤a
  ·obtain⟨n,rfl⟩:∃ n:Nat,(n:Int)=a:=⟨a.toNat,by omega⟩
   have hr:((n:Int)).tmod 60=((n % 60:Nat):Int):=by rw[Int.tmod_eq_emod_of_nonneg (by omega)];omega
   obtain⟨z,hz⟩:∃ z,z=n % 60:=⟨_,rfl⟩
   rw[← hz] at hr
   have hz60:z<60:=by omega
   clear hz
   have hw:IntKind.i64.wrap (z:Int)=z:=by simp[IntKind.wrap,IntKind.signed,IntKind.bits];omega
   have hcr:=stplay_arm w w1 p _ _ (z:Int) (.slice none 0 0) (.slice none 0 0) HP1.out (by omega)
   go_wp2_with (at_builtin;refine stopAt ?_;intro q hq)
   refine hcr.mono ?_
   rintro e w2 ⟨rfl,hP⟩
   have HP:=hid hP
   clear hcr hP
   go_wp2_with (at_builtin;refine stopAt ?_;intro q hq)
   go_meet
   exact hid ⟨_,HP.out,rfl⟩
  ·have q1:decide (0≤a)=false:=by simp;omega
   go_wp2_with (at_builtin;refine stopAt ?_;intro q hq)
   go_meet
   exact hid ⟨_,HP1.out,rfl⟩
 case rest=>
  obtain⟨D1,hP,hD1⟩:=hcut.out
  clear hcut HP1
  have hn5:=heap_alloc_new wc (.cells #[.slice none 0 0] 43)
  have hk5:Keep (fun _=>False) wc (wc.alloc (.cells #[.slice none 0 0] 43)):=(Keep.refl _ _).alloc _
  have HR0:=hid (show WhRel w p 0 0 (.slice (some ⟨wc.heap.size,0,none⟩) 1 1) (wc.alloc (.cells #[.slice none 0 0] 43)) from by
   obtain⟨o2,hs,d,mm,sv,rv,A,F,G,T⟩:=hP
   obtain⟨S2,rfl,hs2⟩:=hs.some
   obtain⟨b,rfl,-⟩:=T.two
   obtain⟨c2,rfl,-⟩:=T.three
   refine⟨D1,nS0,S2,d,mm,b,c2,_,F,G,[[]],hs2,⟨AndT.make (BoxT.lives _ _ _) T.one hk5 (G:=fun k=>k=wc.heap.size) ⟨[.slice none 0 0],⟨⟨rfl,.inr ⟨_,1,_,(0,0),rfl,hn5,Free.zero _,Nat.le_refl _,by unfold maxLen;omega,rfl,rfl⟩⟩,fun k e=>by simp[Value.ownBlock] at e;exact e.symm,fun j hj=>?_,fun k e=>by subst e;simp⟩⟩ (fun k e=>by omega),(SideP.lives _ _ _ _).keep T.two hk5 (fun _ _ x=>x),(SideR.lives _ _ _ _).keep T.three hk5 (fun _ _ x=>x),fun k x y=>?_,fun k x y=>?_,T.a23,fun k x=>?_,T.new2,T.new3,T.keep.next hk5 (fun _ _ x=>x) (fun _ _ x=>x)⟩,
    (okay_op (DM.new 50)) nS0 (by rw[wh_open50]),by rw[hD1];simp,by simp,by simp,by simp⟩
   ·obtain rfl:j=0:=by simpa using hj
    exact⟨_,rfl,Row.nil _ _ _,fun k e=>by simp[Value.ownBlock] at e⟩
   ·rcases x with x | rfl
    ·exact T.a12 k x y
    ·exact absurd ((SideP.lives _ _ _ _).lt T.two _ y) (by omega)
   ·rcases x with x | rfl
    ·exact T.a13 k x y
    ·exact absurd ((SideR.lives _ _ _ _).lt T.three _ y) (by omega)
   ·rcases x with x | rfl
    ·exact T.new1 k x
    ·exact T.keep.size)
  clear hP hD1 hn5 hk5
  go_upto_block 0 with fail
  go_cut [11,12] (fun v sfv wx=>∃ sf:Nat,sfv = .int .i64 sf∧Hid (∃ k,k≤20∧WhRel w p k sf v wx))
  case first=>
   go_wp2_with (at_builtin;refine stopAt ?_;intro q hq)
   go_loopw [11,12,13] (fun v sfv iv wr=>∃ k sf:Nat,k≤m∧iv = .int .i64 k∧sfv = .int .i64 sf∧Hid (WhRel w p k sf v wr)) (fun _ _ iv _=>m - (intOf iv).toNat)
   case atStart=>exact⟨0,0,Nat.zero_le _,rfl,rfl,HR0⟩
   case round=>
    clear HR0
    obtain⟨k,sf,hk,rfl,rfl,HR⟩:=hrel
    by_cases hkm:k<m
    ·have h1:(k:Int)<m:=by omega
     have hkl:k<l.length:=by rw[← Hm.out.1];exact hkm
     have hk20:k<20:=by have:=Hbig.out;omega
     obtain⟨D,S,S2,d,mm,b,cc,A,F,G,L,hs2,T,hO,hw,hsf,hLk,hLx⟩:=HR.out.ex
     obtain⟨va,vc,rfl,hvc⟩:=T.one.form
     obtain⟨nL,hnL⟩:∃ nL,nL=L.length:=⟨_,rfl⟩
     obtain⟨ad,lo,lc,hao,a0,hch⟩:=HL.out.1.get T.keep k hkl
     subst hao
     obtain⟨li,hli⟩:∃ li,li=l[k]:=⟨_,rfl⟩
     rw[← hli] at a0 hch
     have hget:=HL.out.1.get (w':=w) (Keep.refl _ _) k hkl
     obtain⟨ad2,lo2,lc2,e2,a02,-⟩:=hget
     cases e2
     rw[← hli] at a02
     have e3:(Value.slice lo2 li.length lc2) = .slice lo li.length lc:=Option.some.inj ((cell_old T.keep _ _ a02).symm.trans a0)
     rw[e3] at a02
     obtain⟨ll,hll⟩:∃ ll,ll=li.length:=⟨_,rfl⟩
     rw[← hll] at a0 a02 hch
     have hhe:=sheavy_any wr lo ll lc li (SliceOf.keepF hch T.keep (fun _ _ _ _ _ x=>x)) hll
     rw[← hnL] at hvc T ⊢
     have HQ:=hid (And.intro T (And.intro hs2 (And.intro hO (And.intro hw (And.intro hsf (And.intro hLk (And.intro hLx (And.intro hch (And.intro hll (And.intro a02 hnL))))))))))
     clear T hs2 hO hw hsf hLk hLx hch hll hli hkl a02 e3 hnL
     go_wp2_with (at_builtin;refine stopAt ?_;intro q hq)
     refine hhe.mono ?_
     rintro e w3 ⟨x,rfl,hk3⟩
     clear hhe a0
     cases x with
     | true=>
       have HK3:=hid (HQ.out.1.keep.next hk3 (H:=fun _=>False) (fun _ _ x=>x) (fun _ _ x=>x))
       clear hk3
       go_wp2_with (at_builtin;refine stopAt ?_;intro q hq)
       refine(sknown_any _).mono ?_
       rintro e w4 ⟨rfl,hk4⟩
       have HZ:=hid (HK3.out.next hk4 (H:=fun _=>False) (fun _ _ x=>x) (fun _ _ x=>x))
       clear hk4
       go_wp2_with (at_builtin;refine stopAt ?_;intro q hq)
       go_ret
       exact⟨by rfl,HZ.out⟩
     | false=>
       have HT3:=hid (HQ.out.1.later (whBox.lives _ _ _ _ _ _ _) (SideP.lives _ _ _ _) (SideR.lives _ _ _ _) hk3)
       clear hk3
       obtain⟨p0,p1,p2,p3,pf,pb⟩:=cells4 HT3.out.one.box
       have a03:=cell_old HT3.out.keep _ _ HQ.out.2.2.2.2.2.2.2.2.2.1
       have j0:=fun s:Later w3=>s.cell p1
       have j1:=fun s:Later w3=>s.cell a03
       clear p0 p1 p2 p3 pf pb a03
       go_wp2_with (at_builtin;refine stopAt ?_;intro q hq)
       (refine wp_region_tail 8 (by kernel_rfl) (by kernel_rfl) ?_;simp only[List.take_succ_cons,List.take_zero,List.drop_succ_cons,List.drop_zero];(repeat (go_big_quiet_step ((fail))));refine wpQuiet_nil ?_;rintro _ ⟨sq,rfl⟩)
       have hkeep:=sq.keep
       obtain⟨w4,hw4⟩:∃ w4,w4=sq.val:=⟨_,rfl⟩
       rw[← hw4] at hkeep ⊢
       clear hw4 sq j0 j1
       have T4:=HT3.out.later (whBox.lives _ _ _ _ _ _ _) (SideP.lives _ _ _ _) (SideR.lives _ _ _ _) hkeep
       obtain⟨b',e,F1,F2,hst,hF⟩:=T4.two
       cases e
       obtain⟨hn,hc,hap⟩:=HQ.out.2.2.2.2.2.2.2.1.far T4.keep T4.new2
       have hfew:=HQ.out.2.2.1.few hst.facts.count
       have hdo:=sdo_any w4 b d F1 F2 D S hst lo ll lc li hc hn (fun hp x hx=>⟨fun y=>hap hp x hx (by rw[hF];exact .inl y),fun y=>hap hp x hx (by rw[hF];exact .inr y)⟩) (fun h=>by have:=hfew h;omega) (by have:=HQ.out.2.2.2.1;omega)
       have HF:=hid (And.intro hst.facts (DiskAt.ok hst.diskAt))
       obtain⟨R,hR⟩:∃ R,R=doS D S li:=⟨_,rfl⟩
       rw[← hR] at hdo
       have HR2:=hid hR
       have HT4:=hid (And.intro T4 hF)
       clear hkeep T4 hst hF hn hc hap hfew hR
       go_wp2_with (at_builtin;refine stopAt ?_;intro q hq)
       refine hdo.mono ?_
       rintro e w5 ⟨rfl,ht⟩
       have htt:=ht.turns
       rw[← HT4.out.2] at htt
       obtain⟨F5,T5⟩:=HT4.out.1.turn2 (whBox.lives _ _ _ _ _ _ _) (SideR.lives _ _ _ _) htt
       have HT5:=hid T5
       clear hdo ht htt T5
       obtain⟨p0,p1,p2,p3,pf,pb⟩:=cells4 HT5.out.one.box
       have a05:=cell_old HT5.out.keep _ _ HQ.out.2.2.2.2.2.2.2.2.2.1
       have j0:=fun s:Later w5=>s.cell p3
       have j1:=fun s:Later w5=>s.cell a05
       clear p0 p1 p2 p3 pf pb a05
       go_wp2_with (at_builtin;refine stopAt ?_;intro q hq)
       (refine wp_region_tail 8 (by kernel_rfl) (by kernel_rfl) ?_;simp only[List.take_succ_cons,List.take_zero,List.drop_succ_cons,List.drop_zero];(repeat (go_big_quiet_step ((fail))));refine wpQuiet_nil ?_;rintro _ ⟨sq,rfl⟩)
       have hkeep:=sq.keep
       obtain⟨w6,hw6⟩:∃ w6,w6=sq.val:=⟨_,rfl⟩
       rw[← hw6] at hkeep ⊢
       clear hw6 sq j0 j1
       have T6:=HT5.out.later (whBox.lives _ _ _ _ _ _ _) (SideP.lives _ _ _ _) (SideR.lives _ _ _ _) hkeep
       obtain⟨c',e,G1,G2,hst,hG⟩:=T6.three
       cases e
       obtain⟨hn,hc,hap⟩:=HQ.out.2.2.2.2.2.2.2.1.far T6.keep T6.new3
       have hcr:=rdo_any w6 cc mm G1 G2 D S2 hst lo ll lc li hc hn (fun hp x hx=>⟨fun y=>hap hp x hx (by rw[hG];exact .inl y),fun y=>hap hp x hx (by rw[hG];exact .inr y)⟩)
        (by rw[(sim_ps HQ.out.2.1).1,(sim_ps HQ.out.2.1).2.1];intro h;have:=HQ.out.2.2.1.few HF.out.1.count h;omega) (by have:=HQ.out.2.2.2.1;omega)
       obtain⟨q1,q2,q3⟩:=sim_do HQ.out.2.1 li
       rw[q1,q2,← HR2.out] at hcr
       rw[← HR2.out] at q3
       obtain⟨S3,hS3⟩:∃ S3,S3=(doS D S2 li).2.2:=⟨_,rfl⟩
       rw[← hS3] at hcr q3
       have HS3:=hid (show S3=R.2.2∨S3=markS R.2.1 R.2.2 from by
        obtain⟨S',e,h⟩:=q3.some
        cases e
        exact h)
       have HT6:=hid (And.intro T6 hG)
       clear hkeep T6 hst hG hn hc hap q1 q2 q3 hS3
       go_wp2_with (at_builtin;refine stopAt ?_;intro q hq)
       refine hcr.mono ?_
       rintro e w7 ⟨rfl,ht⟩
       have htt:=ht.turns
       rw[← HT6.out.2] at htt
       obtain⟨G7,T7⟩:=HT6.out.1.turn3 (whBox.lives _ _ _ _ _ _ _) (SideP.lives _ _ _ _) htt
       have HT7:=hid T7
       clear hcr ht htt T7
       obtain⟨z,hz⟩:∃ z,z=R.1:=⟨_,rfl⟩
       rw[← hz]
       have Hz:=hid hz
       clear hz
       have HB:=hid (show Chs w7 (.slice lo ll lc) li∧ll=li.length∧(nL=L.length∧0<nL∧nL≤k+1∧sf<nL∧k<20)∧∀ x ∈ L,x.length≤32 * k from
        ⟨SliceOf.keepF HQ.out.2.2.2.2.2.2.2.1 HT7.out.keep (fun _ _ _ _ _ x=>x),HQ.out.2.2.2.2.2.2.2.2.1,by
         have h1:=HQ.out.2.2.2.2.1
         have h2:=HQ.out.2.2.2.2.2.1
         have h3:=HQ.out.2.2.2.2.2.2.2.2.2.2
         exact⟨h3,by omega,by omega,by omega,hk20⟩,HQ.out.2.2.2.2.2.2.1⟩)
       have a07:=cell_old HT7.out.keep _ _ HQ.out.2.2.2.2.2.2.2.2.2.1
       have hno:=hid (show WhMid w p k sf R.2.1 R.2.2 S3 d mm b cc (.slice va nL vc) w7 from by
        obtain⟨hnL,h0,h1,h2,h3⟩:=HB.out.2.2.1
        refine⟨A,F5,G7,L,HT7.out,by omega,by omega,fun x hx=>by have:=HB.out.2.2.2 x hx;omega⟩)
       have cut:(z=0∧right li=true)∨(z=6∧right li=true)∨(z=6∧right li=false)∨(z≠0∧z≠6):=by
        by_cases h0:z=0
        ·exact .inl ⟨h0,doS_zero (by rw[← HR2.out,← Hz.out];exact h0)⟩
        ·by_cases h6:z=6
         ·cases hr:right li with
          | true=>exact .inr (.inl ⟨h6,rfl⟩)
          | false=>exact .inr (.inr (.inl ⟨h6,rfl⟩))
         ·exact .inr (.inr (.inr ⟨h0,h6⟩))
       rcases cut with ⟨h,hri⟩ | ⟨h,hri⟩ | ⟨h,hri⟩ | ⟨h0,h6⟩
       ·subst h
        clear hno
        obtain⟨wy,hwy⟩:∃ wy,wy=w7:=⟨_,rfl⟩
        have hky:Keep (fun _=>False) w7 wy:=by rw[hwy];exact Keep.refl _ _
        rw[← hwy]
        clear hwy
        have HTy:=hid (HT7.out.later (whBox.lives _ _ _ _ _ _ _) (SideP.lives _ _ _ _) (SideR.lives _ _ _ _) hky)
        have a0y:=cell_old hky _ _ a07
        have HBy:=hid (SliceOf.keepF HB.out.1 hky (fun _ _ _ _ _ x=>x))
        obtain⟨Ay1,By1,hby1,⟨vs,hsty⟩,hby2,hby3⟩:=HTy.out.one
        have HBY:=hid (And.intro hby1 (And.intro hby2 hby3))
        obtain⟨hnL,hn0,hnk,hsfn,hk20b⟩:=HB.out.2.2.1
        have HNL:=hid hnL
        clear hky a07 hby1 hby2 hby3 hnL
        have hnm:nL - 1<L.length:=by have:=HNL.out;omega
        obtain⟨u,hu1,hu2,hu3⟩:=hsty.each (nL - 1) hnm
        obtain⟨nm,hnm2⟩:∃ nm,nm=nL - 1:=⟨_,rfl⟩
        obtain⟨g,gcap,hge,hgc⟩:=(show Row wy 43 1 (.slice va nL vc) nL vs from by have h:=hsty.row;rw[← HNL.out] at h;exact h).getCell hu1
        cases hge
        obtain⟨last,hlast⟩:∃ last,last=L[nL - 1]'hnm:=⟨_,rfl⟩
        rw[← hlast] at hu2
        obtain⟨ua,uc,rfl,-⟩:=hu2.form
        obtain⟨un,hun⟩:∃ un,un=last.length:=⟨_,rfl⟩
        have hlb:last.length≤32 * k:=HB.out.2.2.2 last (by rw[hlast];exact List.getElem_mem _)
        have hmem:=hid hlb
        rw[← hun] at hu1 hu2 hgc
        rw[← hnm2] at hgc
        have e4:(nL:Int) - 1=(nm:Nat):=by omega
        have e7:nm<nL:=by omega
        have e9:IntKind.i64.wrap (nm:Int)=(nm:Nat):=by simp[IntKind.wrap,IntKind.signed,IntKind.bits];omega
        have HU:=hid (And.intro hsty (And.intro hu1 (And.intro hu2 (And.intro hu3 (And.intro hun hnm2)))))
        have e8:nm<9223372036854775807:=by omega
        clear hnm hu1 hu2 hu3 hlast hlb hsty hun hnm2
        go_wp2_with (at_builtin;refine stopAt ?_;intro q hq)
        refine wp_region_canon [104] (by kernel_rfl) (by kernel_rfl) ?_
        repeat (first | (apply wpC_pure (by rfl);(intro K w';go_simp;exact id)) | (apply wpC_load (by rfl);(intro K;go_simp;exact id)))
        refine wpC_new (by rfl) (by rfl) (fun K hK=>?_)
        go_simp
        have hk8:Keep (fun _=>False) wy wy.drew:=(Keep.refl _ _).drew
        obtain⟨w8,hw8⟩:∃ w8,w8=wy.drew:=⟨_,rfl⟩
        rw[← hw8] at hk8 hK ⊢
        clear hw8
        have hlay:=srlay_any w8 ua un uc last lo ll lc li (HU.out.2.2.1.keep hk8 (fun _ _ x=>x)) HU.out.2.2.2.2.1 (SliceOf.keepF HBy.out hk8 (fun _ _ _ _ _ x=>x)) HB.out.2.1 (by have:=hmem.out;have:=HU.out.2.2.2.2.1;have:=(right_all hri).1;have:=HB.out.2.1;omega)
        obtain⟨nw,hnw⟩:∃ nw,nw=layL last li:=⟨_,rfl⟩
        have hnl:nw.length≤32 * (k+1):=by have:=layL_len2 last hri;have:=hmem.out;rw[hnw];omega
        rw[← hnw] at hlay
        have H8:=hid (And.intro hk8 hnl)
        clear hk8 hnw hnl
        refine hlay.mono ?_
        rintro e w9 ⟨v9,rfl,hr9,hk9,ho9⟩
        refine hK _ _ (Pre.of_keep hk9) ?_
        clear hK K
        obtain⟨na,nc,rfl,-⟩:=hr9.form
        obtain⟨nn,hnn⟩:∃ nn,nn=nw.length:=⟨_,rfl⟩
        have H9:=hid (And.intro hr9 (And.intro hk9 (And.intro ho9 hnn)))
        rw[← hnn] at hr9 ⊢
        clear hlay ho9 hnn hr9 hk9
        repeat (first | (apply wpC_pure (by rfl);(intro K w';go_simp;exact id)) | (apply wpC_load (by rfl);(intro K;go_simp;exact id)))
        (refine wpC_new (by rfl) (by rfl) (fun K hK=>?_);go_simp;refine hK _ _ (Pre.push _ rfl) ?_;clear hK K)
        have hn10:=heap_alloc_new w9 (.cells #[.slice na nn nc] 43)
        have hk10:Keep (fun _=>False) w9 (w9.alloc (.cells #[.slice na nn nc] 43)):=(Keep.refl _ _).alloc _
        obtain⟨w10,hw10⟩:∃ w10,w10=w9.alloc (.cells #[.slice na nn nc] 43):=⟨_,rfl⟩
        rw[← hw10] at hn10 hk10 ⊢
        clear hw10
        have hky10:=(H8.out.1.next H9.out.2.1 (H:=fun _=>False) (fun _ _ x=>x) (fun _ _ x=>x)).next hk10 (H:=fun _=>False) (fun _ _ x=>x) (fun _ _ x=>x)
        refine wpC_act (by rfl) (by rfl) (fun K hK=>?_)
        refine wp_append ty_lprs (.tmp 93) (.tmp 105) rfl rfl (HU.out.1.row.keep hky10 (fun _ _ x=>x)) (some ⟨w9.heap.size,0,none⟩) 1 1 [.slice na nn nc] (by rfl)
         ⟨rfl,fun _=>⟨_,rfl,fun t u hu=>by rw[addr_add,Nat.zero_add,cell_of_row _ _ _ _ _ _ hn10];simpa using hu⟩⟩ (fun u hu=>by simp at hu;subst hu;rfl) (by unfold maxLen;have:=HB.out.2.2.1;omega) (by have:=HB.out.2.2.1;omega) ?_
        intro v11 w11 hr11 hk11 hv11
        refine hK _ _ ?_
        clear hK K
        have HZ:=hid (show WhMid w p k sf R.2.1 R.2.2 S3 d mm b cc v11 w11 from by
         obtain⟨hr9,hk9,ho9,hnn⟩:=H9.out
         obtain⟨hsty,hu1,hu2,hu3,hun,hnm2⟩:=HU.out
         have s8:=H8.out.1.size
         have s9:=hk9.size
         have s10:=hk10.size
         obtain⟨B',p1,p2,p3⟩:=hsty.push hky10 (u:=.slice na nn nc) (l:=nw) (by rw[hnn];exact hr9.keep hk10 (fun _ _ x=>x)) (fun i e=>by
          rcases ho9 i (by rw[ownBlock_len _ _ nn];exact e) with z | z
          ·exact⟨fun y=>by have:=hsty.row.lt y;omega,.inr (by omega)⟩
          ·have z':(Value.slice ua last.length uc).ownBlock=some i:=by rw[ownBlock_len _ _ un];exact z
           exact⟨(hu3 i z').2,.inl (hu3 i z').1⟩) hr11 hk11 (fun i e=>by
          rcases hv11 with ⟨_,z⟩ | ⟨q,z1,z2⟩
          ·omega
          ·rw[z1] at e
           cases e
           rcases z2 with z2 | z2
           ·exact .inl z2
           ·exact .inr (by omega))
         have ht:Turns (whBox p d mm b cc v11 (L ++ [nw])) A wy w11:=AndT.turnB (BoxT.lives _ _ _) HBY.out.1 HBY.out.2.1 HBY.out.2.2 ⟨_,p1⟩ p2 p3
         obtain⟨A11,T11⟩:=HTy.out.turn1 (SideP.lives _ _ _ _) (SideR.lives _ _ _ _) ht
         refine⟨A11,F5,G7,L ++ [nw],T11,?_,?_,?_⟩
         ·have:=HB.out.2.2.1;rw[List.length_append];simp;omega
         ·have:=HB.out.2.2.1;rw[List.length_append];simp;omega
         ·intro x hx
          rcases List.mem_append.1 hx with hx | hx
          ·have:=HB.out.2.2.2 x hx;omega
          ·simp at hx;subst hx;exact H8.out.2)
        clear hn10 hk10 hky10 hr11 hk11 hv11 e4 e7 e8 e9 hn0 hnk hsfn hk20b a0y hgc hri
        repeat (first | (apply wpC_pure (by rfl);(intro K w';go_simp;exact id)) | (apply wpC_load (by rfl);(intro K;go_simp;exact id)))
        refine wpC_nil ?_
        obtain⟨wz,hwz⟩:∃ wz,wz=w11:=⟨_,rfl⟩
        rw[← hwz] at HZ ⊢
        clear hwz
        obtain⟨A8,F8,G8,L8,T8,hsf8,hl8,hx8⟩:=HZ.out.ex
        obtain⟨va8,vc8,e8,hvc8⟩:=T8.one.form
        cases e8
        obtain⟨n8,hn8⟩:∃ n8,n8=L8.length:=⟨_,rfl⟩
        have hG:Okay R.2.2∧R.2.1.waits.length≤5120 * (k+1):=by
         rw[HR2.out]
         have:=doS_waits HF.out.2.few S li
         have:=HQ.out.2.2.2.1
         exact⟨okay_do HF.out.1.size HQ.out.2.2.1 HF.out.1.ok li,by omega⟩
        have HG:=hid (And.intro hG.1 (And.intro hG.2 (And.intro hsf8 (And.intro hl8 (And.intro hx8 hn8)))))
        rw[← hn8] at T8 hvc8 ⊢
        have HT8:=hid T8
        clear T8 hsf8 hl8 hx8 hn8 hG HZ
        have HW:=hid (show WhRel w p (k+1) sf (.slice _ n8 _) wz from
         ⟨R.2.1,R.2.2,S3,d,mm,b,cc,A8,F8,G8,L8,HS3.out,HT8.out,HG.out.1,HG.out.2.1,HG.out.2.2.1,by have:=HG.out.2.2.2.1;omega,HG.out.2.2.2.2.1⟩)
        by_cases hks:k<ns
        ·have q2:(k:Int)<ns:=by omega
         obtain⟨bd,hbo,b0⟩:=HL.out.2.1.get HT8.out.keep k (by rw[← Hm.out.2];exact hks)
         subst hbo
         obtain⟨bv,hbv⟩:∃ bv,bv=sy[k]'(by rw[← Hm.out.2];exact hks):=⟨_,rfl⟩
         rw[← hbv] at b0
         clear hbv
         cases bv with
         | false=>
           go_wp2_with (at_builtin;refine stopAt ?_;intro q hq)
           go_roundw
           case rel=>exact⟨k+1,sf,by omega,by go_num,rfl,HW⟩
           case measure=>simp[intOf];omega
         | true=>
           obtain⟨p0,p1,p2,p3,pf,pb⟩:=cells4 HT8.out.one.box
           obtain⟨b',e,F1,F2,hst,hF⟩:=HT8.out.two
           cases e
           have hcr:=ssync_any wz b d F1 F2 R.2.1 R.2.2 hst (by have:=HG.out.2.1;omega)
           obtain⟨Y,hY⟩:∃ Y,Y=syS R.2.1 R.2.2:=⟨_,rfl⟩
           rw[← hY] at hcr
           have HY:=hid hY
           have HF8:=hid hF
           clear hst hF hY
           go_wp2_with (at_builtin;refine stopAt ?_;intro q hq)
           refine hcr.mono ?_
           rintro e w9 ⟨rfl,ht⟩
           have htt:=ht.turns
           rw[← HF8.out] at htt
           obtain⟨F9,T9⟩:=HT8.out.turn2 (whBox.lives _ _ _ _ _ _ _) (SideR.lives _ _ _ _) htt
           clear hcr ht htt p0 p1 p2 p3 pf pb b0
           obtain⟨p0,p1,p2,p3,pf,pb⟩:=cells4 T9.one.box
           obtain⟨c',e,G1,G2,hst,hG⟩:=T9.three
           cases e
           have hcr2:=rsync_any w9 cc mm G1 G2 R.2.1 S3 hst (by have:=HG.out.2.1;omega)
           rw[sim_sy HS3.out,← HY.out] at hcr2
           have HT9:=hid (And.intro T9 hG)
           clear T9 hst hG
           go_wp2_with (at_builtin;refine stopAt ?_;intro q hq)
           refine hcr2.mono ?_
           rintro e w10 ⟨rfl,ht⟩
           have htt:=ht.turns
           rw[← HT9.out.2] at htt
           obtain⟨G10,T10⟩:=HT9.out.1.turn3 (whBox.lives _ _ _ _ _ _ _) (SideP.lives _ _ _ _) htt
           have HW2:=hid (show ∀ sf',sf'<n8→WhRel w p (k+1) sf' (.slice _ n8 _) w10 from fun sf' hs=>by
            refine⟨Y.2.1,Y.2.2,Y.2.2,d,mm,b,cc,A8,F9,G10,L8,.inl rfl,T10,?_,?_,by have:=HG.out.2.2.2.2.2;omega,by have:=HG.out.2.2.2.1;omega,HG.out.2.2.2.2.1⟩
            ·rw[HY.out];exact okay_sy _ HG.out.1
            ·rw[HY.out]
             have:=syS_waits R.2.1 R.2.2
             have:=HG.out.2.1
             omega)
           have hsn:sf<n8∧0<n8:=by have:=HG.out.2.2.1;have:=HG.out.2.2.2.2.2;omega
           obtain⟨hsn,hn0⟩:=hsn
           clear hcr2 ht htt T10 p0 p1 p2 p3 pf pb
           obtain⟨y,hy⟩:∃ y,y=Y.1:=⟨_,rfl⟩
           rw[← hy]
           clear hy
           by_cases hy0:y=0
           ·subst hy0
            obtain⟨n9,hn9⟩:∃ n9,n9=n8 - 1:=⟨_,rfl⟩
            have e4:(n8:Int) - 1=(n9:Nat):=by omega
            have e8:n9<n8:=by omega
            have e9:IntKind.i64.wrap (n9:Int)=(n9:Nat):=by have:=HG.out.2.2.2.1;have:=HG.out.2.2.2.2.2;simp[IntKind.wrap,IntKind.signed,IntKind.bits];omega
            clear hn9
            go_wp2_with (at_builtin;refine stopAt ?_;intro q hq)
            go_roundw
            case rel=>exact⟨k+1,n9,by omega,by go_num,by go_num,hid (HW2.out n9 e8)⟩
            case measure=>simp[intOf];omega
           ·have q8:(y == 0)=false:=by simpa using hy0
            have q9:(y != 0)=true:=by simpa using hy0
            have q5:decide (y=0)=false:=decide_eq_false hy0
            clear hy0
            go_wp2_with (at_builtin;refine stopAt ?_;intro q hq)
            go_meet
            exact⟨sf,rfl,hid ⟨k+1,by omega,HW2.out sf hsn⟩⟩
        ·have q2:decide ((k:Int)<ns)=false:=by simp;omega
         have q3:decide (k<ns)=false:=by simp;omega
         go_wp2_with (at_builtin;refine stopAt ?_;intro q hq)
         go_roundw
         case rel=>exact⟨k+1,sf,by omega,by go_num,rfl,HW⟩
         case measure=>simp[intOf];omega
       ·subst h
        clear hno
        have hrr:=rright_any w7 lo ll lc li HB.out.1 HB.out.2.1
        rw[hri] at hrr
        simp only[if_true] at hrr
        go_wp2_with (at_builtin;refine stopAt ?_;intro q hq)
        refine hrr.mono ?_
        rintro e wy ⟨rfl,hky⟩
        clear hrr
        have HTy:=hid (HT7.out.later (whBox.lives _ _ _ _ _ _ _) (SideP.lives _ _ _ _) (SideR.lives _ _ _ _) hky)
        have a0y:=cell_old hky _ _ a07
        have HBy:=hid (SliceOf.keepF HB.out.1 hky (fun _ _ _ _ _ x=>x))
        obtain⟨Ay1,By1,hby1,⟨vs,hsty⟩,hby2,hby3⟩:=HTy.out.one
        have HBY:=hid (And.intro hby1 (And.intro hby2 hby3))
        obtain⟨hnL,hn0,hnk,hsfn,hk20b⟩:=HB.out.2.2.1
        have HNL:=hid hnL
        clear hky a07 hby1 hby2 hby3 hnL
        have hnm:nL - 1<L.length:=by have:=HNL.out;omega
        obtain⟨u,hu1,hu2,hu3⟩:=hsty.each (nL - 1) hnm
        obtain⟨nm,hnm2⟩:∃ nm,nm=nL - 1:=⟨_,rfl⟩
        obtain⟨g,gcap,hge,hgc⟩:=(show Row wy 43 1 (.slice va nL vc) nL vs from by have h:=hsty.row;rw[← HNL.out] at h;exact h).getCell hu1
        cases hge
        obtain⟨last,hlast⟩:∃ last,last=L[nL - 1]'hnm:=⟨_,rfl⟩
        rw[← hlast] at hu2
        obtain⟨ua,uc,rfl,-⟩:=hu2.form
        obtain⟨un,hun⟩:∃ un,un=last.length:=⟨_,rfl⟩
        have hlb:last.length≤32 * k:=HB.out.2.2.2 last (by rw[hlast];exact List.getElem_mem _)
        have hmem:=hid hlb
        rw[← hun] at hu1 hu2 hgc
        rw[← hnm2] at hgc
        have e4:(nL:Int) - 1=(nm:Nat):=by omega
        have e7:nm<nL:=by omega
        have e9:IntKind.i64.wrap (nm:Int)=(nm:Nat):=by simp[IntKind.wrap,IntKind.signed,IntKind.bits];omega
        have HU:=hid (And.intro hsty (And.intro hu1 (And.intro hu2 (And.intro hu3 (And.intro hun hnm2)))))
        have e8:nm<9223372036854775807:=by omega
        clear hnm hu1 hu2 hu3 hlast hlb hsty hun hnm2
        go_wp2_with (at_builtin;refine stopAt ?_;intro q hq)
        refine wp_region_canon [104] (by kernel_rfl) (by kernel_rfl) ?_
        repeat (first | (apply wpC_pure (by rfl);(intro K w';go_simp;exact id)) | (apply wpC_load (by rfl);(intro K;go_simp;exact id)))
        refine wpC_new (by rfl) (by rfl) (fun K hK=>?_)
        go_simp
        have hk8:Keep (fun _=>False) wy wy.drew:=(Keep.refl _ _).drew
        obtain⟨w8,hw8⟩:∃ w8,w8=wy.drew:=⟨_,rfl⟩
        rw[← hw8] at hk8 hK ⊢
        clear hw8
        have hlay:=srlay_any w8 ua un uc last lo ll lc li (HU.out.2.2.1.keep hk8 (fun _ _ x=>x)) HU.out.2.2.2.2.1 (SliceOf.keepF HBy.out hk8 (fun _ _ _ _ _ x=>x)) HB.out.2.1 (by have:=hmem.out;have:=HU.out.2.2.2.2.1;have:=(right_all hri).1;have:=HB.out.2.1;omega)
        obtain⟨nw,hnw⟩:∃ nw,nw=layL last li:=⟨_,rfl⟩
        have hnl:nw.length≤32 * (k+1):=by have:=layL_len2 last hri;have:=hmem.out;rw[hnw];omega
        rw[← hnw] at hlay
        have H8:=hid (And.intro hk8 hnl)
        clear hk8 hnw hnl
        refine hlay.mono ?_
        rintro e w9 ⟨v9,rfl,hr9,hk9,ho9⟩
        refine hK _ _ (Pre.of_keep hk9) ?_
        clear hK K
        obtain⟨na,nc,rfl,-⟩:=hr9.form
        obtain⟨nn,hnn⟩:∃ nn,nn=nw.length:=⟨_,rfl⟩
        have H9:=hid (And.intro hr9 (And.intro hk9 (And.intro ho9 hnn)))
        rw[← hnn] at hr9 ⊢
        clear hlay ho9 hnn hr9 hk9
        repeat (first | (apply wpC_pure (by rfl);(intro K w';go_simp;exact id)) | (apply wpC_load (by rfl);(intro K;go_simp;exact id)))
        (refine wpC_new (by rfl) (by rfl) (fun K hK=>?_);go_simp;refine hK _ _ (Pre.push _ rfl) ?_;clear hK K)
        have hn10:=heap_alloc_new w9 (.cells #[.slice na nn nc] 43)
        have hk10:Keep (fun _=>False) w9 (w9.alloc (.cells #[.slice na nn nc] 43)):=(Keep.refl _ _).alloc _
        obtain⟨w10,hw10⟩:∃ w10,w10=w9.alloc (.cells #[.slice na nn nc] 43):=⟨_,rfl⟩
        rw[← hw10] at hn10 hk10 ⊢
        clear hw10
        have hky10:=(H8.out.1.next H9.out.2.1 (H:=fun _=>False) (fun _ _ x=>x) (fun _ _ x=>x)).next hk10 (H:=fun _=>False) (fun _ _ x=>x) (fun _ _ x=>x)
        refine wpC_act (by rfl) (by rfl) (fun K hK=>?_)
        refine wp_append ty_lprs (.tmp 93) (.tmp 105) rfl rfl (HU.out.1.row.keep hky10 (fun _ _ x=>x)) (some ⟨w9.heap.size,0,none⟩) 1 1 [.slice na nn nc] (by rfl)
         ⟨rfl,fun _=>⟨_,rfl,fun t u hu=>by rw[addr_add,Nat.zero_add,cell_of_row _ _ _ _ _ _ hn10];simpa using hu⟩⟩ (fun u hu=>by simp at hu;subst hu;rfl) (by unfold maxLen;have:=HB.out.2.2.1;omega) (by have:=HB.out.2.2.1;omega) ?_
        intro v11 w11 hr11 hk11 hv11
        refine hK _ _ ?_
        clear hK K
        have HZ:=hid (show WhMid w p k sf R.2.1 R.2.2 S3 d mm b cc v11 w11 from by
         obtain⟨hr9,hk9,ho9,hnn⟩:=H9.out
         obtain⟨hsty,hu1,hu2,hu3,hun,hnm2⟩:=HU.out
         have s8:=H8.out.1.size
         have s9:=hk9.size
         have s10:=hk10.size
         obtain⟨B',p1,p2,p3⟩:=hsty.push hky10 (u:=.slice na nn nc) (l:=nw) (by rw[hnn];exact hr9.keep hk10 (fun _ _ x=>x)) (fun i e=>by
          rcases ho9 i (by rw[ownBlock_len _ _ nn];exact e) with z | z
          ·exact⟨fun y=>by have:=hsty.row.lt y;omega,.inr (by omega)⟩
          ·have z':(Value.slice ua last.length uc).ownBlock=some i:=by rw[ownBlock_len _ _ un];exact z
           exact⟨(hu3 i z').2,.inl (hu3 i z').1⟩) hr11 hk11 (fun i e=>by
          rcases hv11 with ⟨_,z⟩ | ⟨q,z1,z2⟩
          ·omega
          ·rw[z1] at e
           cases e
           rcases z2 with z2 | z2
           ·exact .inl z2
           ·exact .inr (by omega))
         have ht:Turns (whBox p d mm b cc v11 (L ++ [nw])) A wy w11:=AndT.turnB (BoxT.lives _ _ _) HBY.out.1 HBY.out.2.1 HBY.out.2.2 ⟨_,p1⟩ p2 p3
         obtain⟨A11,T11⟩:=HTy.out.turn1 (SideP.lives _ _ _ _) (SideR.lives _ _ _ _) ht
         refine⟨A11,F5,G7,L ++ [nw],T11,?_,?_,?_⟩
         ·have:=HB.out.2.2.1;rw[List.length_append];simp;omega
         ·have:=HB.out.2.2.1;rw[List.length_append];simp;omega
         ·intro x hx
          rcases List.mem_append.1 hx with hx | hx
          ·have:=HB.out.2.2.2 x hx;omega
          ·simp at hx;subst hx;exact H8.out.2)
        clear hn10 hk10 hky10 hr11 hk11 hv11 e4 e7 e8 e9 hn0 hnk hsfn hk20b a0y hgc hri
        repeat (first | (apply wpC_pure (by rfl);(intro K w';go_simp;exact id)) | (apply wpC_load (by rfl);(intro K;go_simp;exact id)))
        refine wpC_nil ?_
        obtain⟨wz,hwz⟩:∃ wz,wz=w11:=⟨_,rfl⟩
        rw[← hwz] at HZ ⊢
        clear hwz
        obtain⟨A8,F8,G8,L8,T8,hsf8,hl8,hx8⟩:=HZ.out.ex
        obtain⟨va8,vc8,e8,hvc8⟩:=T8.one.form
        cases e8
        obtain⟨n8,hn8⟩:∃ n8,n8=L8.length:=⟨_,rfl⟩
        have hG:Okay R.2.2∧R.2.1.waits.length≤5120 * (k+1):=by
         rw[HR2.out]
         have:=doS_waits HF.out.2.few S li
         have:=HQ.out.2.2.2.1
         exact⟨okay_do HF.out.1.size HQ.out.2.2.1 HF.out.1.ok li,by omega⟩
        have HG:=hid (And.intro hG.1 (And.intro hG.2 (And.intro hsf8 (And.intro hl8 (And.intro hx8 hn8)))))
        rw[← hn8] at T8 hvc8 ⊢
        have HT8:=hid T8
        clear T8 hsf8 hl8 hx8 hn8 hG HZ
        have HW:=hid (show WhRel w p (k+1) sf (.slice _ n8 _) wz from
         ⟨R.2.1,R.2.2,S3,d,mm,b,cc,A8,F8,G8,L8,HS3.out,HT8.out,HG.out.1,HG.out.2.1,HG.out.2.2.1,by have:=HG.out.2.2.2.1;omega,HG.out.2.2.2.2.1⟩)
        go_wp2_with (at_builtin;refine stopAt ?_;intro q hq)
        go_meet
        exact⟨sf,rfl,hid ⟨k+1,by omega,HW.out⟩⟩
       ·subst h
        have hrr:=rright_any w7 lo ll lc li HB.out.1 HB.out.2.1
        rw[hri] at hrr
        simp only[Bool.false_eq_true,if_false] at hrr
        go_wp2_with (at_builtin;refine stopAt ?_;intro q hq)
        refine hrr.mono ?_
        rintro e wy ⟨rfl,hky⟩
        have HZ:=hid (show WhMid w p k sf R.2.1 R.2.2 S3 d mm b cc (.slice va nL vc) wy from by
         obtain⟨A1,F1,G1,L1,T1,hx⟩:=hno.out
         exact⟨A1,F1,G1,L1,T1.later (whBox.lives _ _ _ _ _ _ _) (SideP.lives _ _ _ _) (SideR.lives _ _ _ _) hky,hx⟩)
        clear hrr hky
        obtain⟨wz,hwz⟩:∃ wz,wz=wy:=⟨_,rfl⟩
        rw[← hwz] at HZ ⊢
        clear hwz
        obtain⟨A8,F8,G8,L8,T8,hsf8,hl8,hx8⟩:=HZ.out.ex
        obtain⟨va8,vc8,e8,hvc8⟩:=T8.one.form
        cases e8
        obtain⟨n8,hn8⟩:∃ n8,n8=L8.length:=⟨_,rfl⟩
        have hG:Okay R.2.2∧R.2.1.waits.length≤5120 * (k+1):=by
         rw[HR2.out]
         have:=doS_waits HF.out.2.few S li
         have:=HQ.out.2.2.2.1
         exact⟨okay_do HF.out.1.size HQ.out.2.2.1 HF.out.1.ok li,by omega⟩
        have HG:=hid (And.intro hG.1 (And.intro hG.2 (And.intro hsf8 (And.intro hl8 (And.intro hx8 hn8)))))
        rw[← hn8] at T8 hvc8 ⊢
        have HT8:=hid T8
        clear T8 hsf8 hl8 hx8 hn8 hG HZ
        have HW:=hid (show WhRel w p (k+1) sf (.slice _ n8 _) wz from
         ⟨R.2.1,R.2.2,S3,d,mm,b,cc,A8,F8,G8,L8,HS3.out,HT8.out,HG.out.1,HG.out.2.1,HG.out.2.2.1,by have:=HG.out.2.2.2.1;omega,HG.out.2.2.2.2.1⟩)
        go_wp2_with (at_builtin;refine stopAt ?_;intro q hq)
        go_meet
        exact⟨sf,rfl,hid ⟨k+1,by omega,HW.out⟩⟩
       ·have q0:(z == 0)=false:=by simpa using h0
        have q6:(z == 6)=false:=by simpa using h6
        have q1:decide (z=0)=false:=decide_eq_false h0
        have q7:decide (z=6)=false:=decide_eq_false h6
        clear h0 h6
        go_upto_region 20 with fail
        have HZ:=hno
        clear hno
        obtain⟨wz,hwz⟩:∃ wz,wz=w7:=⟨_,rfl⟩
        rw[← hwz] at HZ ⊢
        clear hwz
        obtain⟨A8,F8,G8,L8,T8,hsf8,hl8,hx8⟩:=HZ.out.ex
        obtain⟨va8,vc8,e8,hvc8⟩:=T8.one.form
        cases e8
        obtain⟨n8,hn8⟩:∃ n8,n8=L8.length:=⟨_,rfl⟩
        have hG:Okay R.2.2∧R.2.1.waits.length≤5120 * (k+1):=by
         rw[HR2.out]
         have:=doS_waits HF.out.2.few S li
         have:=HQ.out.2.2.2.1
         exact⟨okay_do HF.out.1.size HQ.out.2.2.1 HF.out.1.ok li,by omega⟩
        have HG:=hid (And.intro hG.1 (And.intro hG.2 (And.intro hsf8 (And.intro hl8 (And.intro hx8 hn8)))))
        rw[← hn8] at T8 hvc8 ⊢
        have HT8:=hid T8
        clear T8 hsf8 hl8 hx8 hn8 hG HZ
        have HW:=hid (show WhRel w p (k+1) sf (.slice _ n8 _) wz from
         ⟨R.2.1,R.2.2,S3,d,mm,b,cc,A8,F8,G8,L8,HS3.out,HT8.out,HG.out.1,HG.out.2.1,HG.out.2.2.1,by have:=HG.out.2.2.2.1;omega,HG.out.2.2.2.2.1⟩)
        by_cases hks:k<ns
        ·have q2:(k:Int)<ns:=by omega
         obtain⟨bd,hbo,b0⟩:=HL.out.2.1.get HT8.out.keep k (by rw[← Hm.out.2];exact hks)
         subst hbo
         obtain⟨bv,hbv⟩:∃ bv,bv=sy[k]'(by rw[← Hm.out.2];exact hks):=⟨_,rfl⟩
         rw[← hbv] at b0
         clear hbv
         cases bv with
         | false=>
           go_wp2_with (at_builtin;refine stopAt ?_;intro q hq)
           go_roundw
           case rel=>exact⟨k+1,sf,by omega,by go_num,rfl,HW⟩
           case measure=>simp[intOf];omega
         | true=>
           obtain⟨p0,p1,p2,p3,pf,pb⟩:=cells4 HT8.out.one.box
           obtain⟨b',e,F1,F2,hst,hF⟩:=HT8.out.two
           cases e
           have hcr:=ssync_any wz b d F1 F2 R.2.1 R.2.2 hst (by have:=HG.out.2.1;omega)
           obtain⟨Y,hY⟩:∃ Y,Y=syS R.2.1 R.2.2:=⟨_,rfl⟩
           rw[← hY] at hcr
           have HY:=hid hY
           have HF8:=hid hF
           clear hst hF hY
           go_wp2_with (at_builtin;refine stopAt ?_;intro q hq)
           refine hcr.mono ?_
           rintro e w9 ⟨rfl,ht⟩
           have htt:=ht.turns
           rw[← HF8.out] at htt
           obtain⟨F9,T9⟩:=HT8.out.turn2 (whBox.lives _ _ _ _ _ _ _) (SideR.lives _ _ _ _) htt
           clear hcr ht htt p0 p1 p2 p3 pf pb b0
           obtain⟨p0,p1,p2,p3,pf,pb⟩:=cells4 T9.one.box
           obtain⟨c',e,G1,G2,hst,hG⟩:=T9.three
           cases e
           have hcr2:=rsync_any w9 cc mm G1 G2 R.2.1 S3 hst (by have:=HG.out.2.1;omega)
           rw[sim_sy HS3.out,← HY.out] at hcr2
           have HT9:=hid (And.intro T9 hG)
           clear T9 hst hG
           go_wp2_with (at_builtin;refine stopAt ?_;intro q hq)
           refine hcr2.mono ?_
           rintro e w10 ⟨rfl,ht⟩
           have htt:=ht.turns
           rw[← HT9.out.2] at htt
           obtain⟨G10,T10⟩:=HT9.out.1.turn3 (whBox.lives _ _ _ _ _ _ _) (SideP.lives _ _ _ _) htt
           have HW2:=hid (show ∀ sf',sf'<n8→WhRel w p (k+1) sf' (.slice _ n8 _) w10 from fun sf' hs=>by
            refine⟨Y.2.1,Y.2.2,Y.2.2,d,mm,b,cc,A8,F9,G10,L8,.inl rfl,T10,?_,?_,by have:=HG.out.2.2.2.2.2;omega,by have:=HG.out.2.2.2.1;omega,HG.out.2.2.2.2.1⟩
            ·rw[HY.out];exact okay_sy _ HG.out.1
            ·rw[HY.out]
             have:=syS_waits R.2.1 R.2.2
             have:=HG.out.2.1
             omega)
           have hsn:sf<n8∧0<n8:=by have:=HG.out.2.2.1;have:=HG.out.2.2.2.2.2;omega
           obtain⟨hsn,hn0⟩:=hsn
           clear hcr2 ht htt T10 p0 p1 p2 p3 pf pb
           obtain⟨y,hy⟩:∃ y,y=Y.1:=⟨_,rfl⟩
           rw[← hy]
           clear hy
           by_cases hy0:y=0
           ·subst hy0
            obtain⟨n9,hn9⟩:∃ n9,n9=n8 - 1:=⟨_,rfl⟩
            have e4:(n8:Int) - 1=(n9:Nat):=by omega
            have e8:n9<n8:=by omega
            have e9:IntKind.i64.wrap (n9:Int)=(n9:Nat):=by have:=HG.out.2.2.2.1;have:=HG.out.2.2.2.2.2;simp[IntKind.wrap,IntKind.signed,IntKind.bits];omega
            clear hn9
            go_wp2_with (at_builtin;refine stopAt ?_;intro q hq)
            go_roundw
            case rel=>exact⟨k+1,n9,by omega,by go_num,by go_num,hid (HW2.out n9 e8)⟩
            case measure=>simp[intOf];omega
           ·have q8:(y == 0)=false:=by simpa using hy0
            have q9:(y != 0)=true:=by simpa using hy0
            have q5:decide (y=0)=false:=decide_eq_false hy0
            clear hy0
            go_wp2_with (at_builtin;refine stopAt ?_;intro q hq)
            go_meet
            exact⟨sf,rfl,hid ⟨k+1,by omega,HW2.out sf hsn⟩⟩
        ·have q2:decide ((k:Int)<ns)=false:=by simp;omega
         have q3:decide (k<ns)=false:=by simp;omega
         go_wp2_with (at_builtin;refine stopAt ?_;intro q hq)
         go_roundw
         case rel=>exact⟨k+1,sf,by omega,by go_num,rfl,HW⟩
         case measure=>simp[intOf];omega
    ·have q1:decide ((k:Int)<m)=false:=by simp;omega
     obtain rfl:k=m:=by omega
     have HF:=hid (show ∃ k,k≤20∧WhRel w p k sf _ wr from⟨k,by have:=Hbig.out;omega,HR.out⟩)
     go_wp2_with (at_builtin;refine stopAt ?_;intro q hq)
     go_meet
     exact⟨sf,rfl,HF⟩
  case rest=>
   obtain⟨sf,rfl,HR⟩:=hcut
   clear HR0
   obtain⟨k,hk,⟨D,S,S2,d,mm,b,cc,A,F,G,L,hs2,T,hO,hw,hsf,hLk,hLx⟩⟩:=HR.out
   clear HR hs2 hLx
   obtain⟨va,vc,rfl,hvc⟩:=T.one.form
   have hok:Ok D∧6≤D.safe.length:=by
    obtain⟨b',e,F1,F2,hst,hF⟩:=T.two
    exact⟨DiskAt.ok hst.diskAt,hst.facts.size⟩
   obtain⟨F',hd,sF⟩:=T.two.disk
   obtain⟨G',hr,sG⟩:=T.three.disk
   have T1:=T.shrink T.one hd hr (fun _ x=>x) sF sG
   obtain⟨nL,hnL⟩:∃ nL,nL=L.length:=⟨_,rfl⟩
   have HQ:=hid (And.intro hok (And.intro hsf (And.intro hLk (And.intro hw (And.intro hnL hk)))))
   have HT1:=hid T1
   rw[← hnL] at hvc HT1 ⊢
   clear T hd hr sF sG hO T1 hok hsf hLk hw hnL hk
   obtain⟨p0,p1,p2,p3,pf,pb⟩:=cells4 HT1.out.one.box
   obtain⟨-,c1,c2,c3,c4⟩:=HL.out.2.2.far HT1.out.keep HT1.out.new2
   have hcr:=crash_any wc d F' D ko kp.length kc kp HT1.out.two c2 c3 (by unfold maxLen at c1;omega) c4 (by have:=HQ.out.2.2.2.1;have:=HQ.out.2.2.2.2.2;omega)
   clear c1 c2 c3 c4
   go_wp2_with (at_builtin;refine stopAt ?_;intro q hq)
   refine hcr.mono ?_
   rintro e w3 ⟨rfl,ht⟩
   obtain⟨F3,T3⟩:=HT1.out.turn2 (U':=DkT d (DM.crash D kp)) (whBox.lives _ _ _ _ _ _ _) (RkT.lives _ _) ht
   have HT3:=hid T3
   clear hcr ht T3 p0 p1 p2 p3 pf pb
   obtain⟨p0,p1,p2,p3,pf,pb⟩:=cells4 HT3.out.one.box
   obtain⟨-,c1,c2,c3,c4⟩:=HL.out.2.2.far HT3.out.keep HT3.out.new3
   have hcr:=ref_crash w3 mm G' D ko kp.length kc kp HT3.out.three c2 c3 (by unfold maxLen at c1;omega) c4 (by have:=HQ.out.2.2.2.1;have:=HQ.out.2.2.2.2.2;omega)
   clear c1 c2 c3 c4
   go_wp2_with (at_builtin;refine stopAt ?_;intro q hq)
   refine hcr.mono ?_
   rintro e w5 ⟨rfl,ht⟩
   obtain⟨G5,T5⟩:=HT3.out.turn3 (V':=RkT mm (DM.crash D kp)) (whBox.lives _ _ _ _ _ _ _) (DkT.lives _ _) ht
   have hop:=stopen_E w w5 p (DM.crash D kp) (StT (.slice va nL vc) L) (StT.lives _ _) d mm _ _ _ _ _ T5 (by simp[DM.crash])
   clear hcr ht T5 p0 p1 p2 p3 pf pb
   obtain⟨R,hR⟩:∃ R,R=opS (DM.crash D kp):=⟨_,rfl⟩
   rw[← hR] at hop
   have HR:=hid hR
   clear hR
   go_wp2_with (at_builtin;refine stopAt ?_;intro q hq)
   refine hop.mono ?_
   rintro e w6 ⟨rfl,sv,rv,A6,F6,G6,T6⟩
   clear hop
   obtain⟨rz,ro,rd⟩:=R
   simp only at T6
   have HT6:=hid T6
   cases ro with
   | none=>
     obtain⟨rfl,-⟩:=T6.two
     obtain⟨rfl,-⟩:=T6.three
     obtain⟨p0,p1,p2,p3,pf,pb⟩:=cells4 T6.one.box
     clear T6 p0 p1 p2 pf pb
     have j3:=fun s:Later w6=>s.cell p3
     clear p3
     go_wp2_with (at_builtin;refine stopAt ?_;intro q hq)
     (refine wp_region_later (by kernel_rfl) (by kernel_rfl) ?_;(repeat (go_big_quiet_step ((fail))));refine wpQuiet_nil ?_;rintro _ ⟨sq,rfl⟩)
     have hk7:=sq.keep
     obtain⟨w7,hw7⟩:∃ w7,w7=sq.val:=⟨_,rfl⟩
     rw[← hw7] at hk7 ⊢
     clear hw7 sq j3
     have HK:=hid (HT6.out.keep.next hk7 (H:=fun _=>False) (fun _ _ x=>x) (fun _ _ x=>x))
     clear hk7
     go_wp2_with (at_builtin;refine stopAt ?_;intro q hq)
     refine(sknown_any _).mono ?_
     rintro e w8 ⟨rfl,hk8⟩
     have HZ:=hid (HK.out.next hk8 (H:=fun _=>False) (fun _ _ x=>x) (fun _ _ x=>x))
     clear hk8
     go_wp2_with (at_builtin;refine stopAt ?_;intro q hq)
     go_ret
     exact⟨by rfl,HZ.out⟩
   | some S'=>
     obtain⟨b',rfl,F1,F2,hst,hFe⟩:=T6.two
     obtain⟨c',rfl,G1,G2,hrt,hGe⟩:=T6.three
     obtain⟨p0,p1,p2,p3,pf,pb⟩:=cells4 T6.one.box
     obtain⟨rb,pv,Fl2,HR2⟩:=hrt
     obtain⟨i0,i1,i2,if2,ib2⟩:=cells3i (show w6.heap[c']?=some (.cells #[_,_,_] _ (0,0)) from HR2.head)
     have hrow:=HR2.row
     obtain⟨pa,pc,rfl,-⟩:=hrow.form
     obtain⟨A1,B1,-,⟨vs,hsts⟩,-,-⟩:=T6.one
     have hsf':sf≤nL:=by have:=HQ.out.2.1;have:=HQ.out.2.2.2.2.1;omega
     have hsh:=hsts.tail sf hsf' HQ.out.2.2.2.2.1 hvc
     have hopn:=op_safe (show (opS (DM.crash D kp)).2.1=some S' from by rw[← HR.out])
     have hsnd:=sound_op (crash_calm D kp) (HQ.out.1.1.crash kp) (by rw[show (DM.crash D kp).safe.length=D.safe.length from(by show (tear _ _ _).length=_;rw[tear_length])];exact HQ.out.1.2) S' (show (opS (DM.crash D kp)).2.1=some S' from by rw[← HR.out])
     rw[← HR.out] at hsnd
     obtain⟨N,hN⟩:∃ N,N=S'.ps.length:=⟨_,rfl⟩
     rw[← hN] at i1 hrow
     have hsl:=fun w=>run_sliceAt_lo (P:=Tryz.prog) ty_lprs va nL vc .i64 sf hsf' w
     obtain⟨ta,hta⟩:∃ ta,ta=tailAt va vc sf 1:=⟨_,rfl⟩
     obtain⟨tn,htn⟩:∃ tn,tn=nL - sf:=⟨_,rfl⟩
     obtain⟨tc,htc⟩:∃ tc,tc=vc - sf:=⟨_,rfl⟩
     rw[← hta] at hsh
     rw[← hta,← htn,← htc] at hsl
     obtain⟨q,hq0⟩:∃ q,q=decide (S'.ps ∈ L.drop sf):=⟨_,rfl⟩
     have HAm:=hid (show ∀ (qa:Option Addr) (qc:Nat) (s:World),Keep (fun _=>False) w6 s→Row s 49 2 (.slice qa N qc) N (prsV S'.ps)→Calls Tryz.prog 28 #[.slice ta tn tc,.slice qa N qc] s fun e w'=>e = .returned (.bool q)∧Keep (fun _=>False) s w' from fun qa qc s hk hr=>by
      rw[hq0]
      exact among_any s ta tn tc (L.drop sf) (hsh.keep hk) (by rw[htn,HQ.out.2.2.2.2.1,List.length_drop]) (by have:=HQ.out.2.2.1;have:=HQ.out.2.2.2.2;omega) qa N qc S'.ps hr hN)
     have HS:=hid (And.intro hst (And.intro hrow (And.intro hopn (And.intro hsnd hN))))
     clear T6 hst hFe hGe HR2 hsts hsh hopn hsnd hN hta htn htc hq0 hsf' p0 p2 pf pb i0 i2 if2 ib2 hrow
     have j1:=fun s:Later w6=>s.cell p1
     have j3:=fun s:Later w6=>s.cell p3
     have j5:=fun s:Later w6=>s.cell i1
     go_wp2_with (at_builtin;refine stopAt ?_;intro q hq)
     (refine wp_region_later (by kernel_rfl) (by kernel_rfl) ?_;(repeat (go_big_quiet_step ((go_at_call 28;exact Later.call (HAm.out _ _ _ (Later.keep _) (HS.out.2.1.keep (Later.keep _) (fun _ _ x=>x)))))));refine wpQuiet_nil ?_;rintro _ ⟨sq,rfl⟩)
     have hk7:=sq.keep
     obtain⟨w7,hw7⟩:∃ w7,w7=sq.val:=⟨_,rfl⟩
     rw[← hw7] at hk7 ⊢
     clear hw7 sq j1 j3 j5
     have HK:=hid (HT6.out.keep.next hk7 (H:=fun _=>False) (fun _ _ x=>x) (fun _ _ x=>x))
     have p1b:=cell_old hk7 _ _ p1
     have H7:=hid hk7
     clear hk7 p1 p3 i1
     cases q with
     | false=>
       go_wp2_with (at_builtin;refine stopAt ?_;intro q hq)
       refine(sknown_any _).mono ?_
       rintro e w8 ⟨rfl,hk8⟩
       have HZ:=hid (HK.out.next hk8 (H:=fun _=>False) (fun _ _ x=>x) (fun _ _ x=>x))
       clear hk8
       go_wp2_with (at_builtin;refine stopAt ?_;intro q hq)
       go_ret
       exact⟨by rfl,HZ.out⟩
     | true=>
       go_wp2_with (at_builtin;refine stopAt ?_;intro q hq)
       have j1:=fun s:Later w7=>s.cell p1b
       refine wp_region_pool [(13,fun v w'=>Row w' 49 2 v N (prsV S'.ps)),(14,fun v _=>v = .bool true),(21,fun v _=>v = .int .i64 0),(25,fun v _=>v = .bool true)] (by kernel_rfl) (by kernel_rfl) ?_ ?_
       ·intro q hq v w1 w3 hk hx
        simp only[List.mem_cons,List.not_mem_nil,or_false] at hq
        rcases hq with rfl | rfl | rfl | rfl
        ·exact hx.keep hk (fun _ _ x=>x)
        all_goals exact hx
       repeat (apply wpT_pure (by rfl);(intro K s;go_simp;exact id))
       refine wpT_made (by rfl) (by kernel_rfl) (fun s hs=>?_) (fun v hv K hK=>?_)
       ·go_simp
        have hst:=(HS.out.1.later H7.out).later s.keep
        refine(pairs_any s.val b' d F1 F2 rd S' hst (fun h=>?_)).mono ?_
        ·have:=HS.out.2.2.2.1.okay.few hst.facts.count h
         omega
        rintro e w' ⟨v,rfl,hr,hk,-⟩
        have ht:told S'=S'.ps:=by unfold told;rw[HS.out.2.2.1.1];rfl
        rw[ht,← HS.out.2.2.2.2] at hr
        exact⟨v,rfl,hk,hr⟩
       obtain⟨s1,-,hv1⟩:=hv
       obtain⟨qa,qc,rfl,-⟩:=hv1.form
       go_simp
       refine hK _ ?_
       clear hK K hv1 s1
       repeat (apply wpT_pure (by rfl);(intro K s;go_simp;exact id))
       refine wpT_made (by rfl) (by kernel_rfl) (fun s hs=>?_) (fun v hv K hK=>?_)
       ·go_simp
        have hm:=hs (13,fun w'=>Row w' 49 2 (.slice qa N qc) N (prsV S'.ps)) (by simp) (by kernel_rfl)
        refine(HAm.out qa qc s.val (H7.out.next s.keep (H:=fun _=>False) (fun _ _ x=>x) (fun _ _ x=>x)) hm).mono ?_
        rintro e w' ⟨rfl,hk⟩
        exact⟨rfl,hk⟩
       obtain⟨s1,-,rfl⟩:=hv
       go_simp
       refine hK _ ?_
       clear hK K s1
       repeat (apply wpT_pure (by rfl);(intro K s;go_simp;exact id))
       refine wpT_made (by rfl) (by kernel_rfl) (fun s hs=>?_) (fun v hv K hK=>?_)
       ·go_simp
        have hst:=(HS.out.1.later H7.out).later s.keep
        refine(swait_up s.val b' d F1 F2 rd S' hst HS.out.2.2.1.1 ?_).mono ?_
        ·exact HS.out.2.2.2.1.disk.gone
        rintro e w' ⟨rfl,hk⟩
        exact⟨by rw[HS.out.2.2.1.2];simp,hk⟩
       obtain⟨s1,-,rfl⟩:=hv
       go_simp
       refine hK _ ?_
       clear hK K s1
       repeat (apply wpT_pure (by rfl);(intro K s;go_simp;exact id))
       refine wpT_made (by rfl) (by kernel_rfl) (fun s hs=>?_) (fun v hv K hK=>?_)
       ·go_simp
        refine(sknown_any s.val).mono ?_
        rintro e w' ⟨rfl,hk⟩
        exact⟨rfl,hk⟩
       obtain⟨s1,-,rfl⟩:=hv
       go_simp
       refine hK _ ?_
       clear hK K s1
       repeat (apply wpT_pure (by rfl);(intro K s;go_simp;exact id))
       refine wpT_nil ?_
       intro s hs
       have HZ:=hid (HK.out.next s.keep (H:=fun _=>False) (fun _ _ x=>x) (fun _ _ x=>x))
       obtain⟨w8,hw8⟩:∃ w8,w8=s.val:=⟨_,rfl⟩
       rw[← hw8] at HZ ⊢
       clear hw8 hs s j1
       go_wp2_with (at_builtin;refine stopAt ?_;intro q hq)
       go_ret
       exact⟨by rfl,HZ.out⟩
end Go.Proofs.YtnidpeeljoaelaaGreat
