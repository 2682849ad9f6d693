/- Texts AccG, AccS, AccH, AccI, AccJ, AccK, AccL, AccT, AccU, AccP, StpP in one. Conditions: as each law names them. -/
import Derived.Defers
import Derived.Test.YtkjofdocgaiedaaPah
import Derived.Test.YtkjofdocgaiedaaPay
import Derived.Test.YtkjofdocgaiedaaPba
import Derived.Test.YtkjofdocgaiedaaPbb
namespace Go.Proofs.Ytkjofdocgaiedaa
open Go.RowKit Go.Maps
open MI SO BM DM WM AC
theorem Turns.trans {T' T'':Thing} {F:Nat→Prop} {w w' w'':World} (h:Turns T' F w w') (h2:∀ F',T' w' F'→Turns T'' F' w' w''):Turns T'' F w w'':=by
 obtain⟨F',a,b,c⟩:=h
 obtain⟨F'',a2,b2,c2⟩:=h2 F' a
 exact⟨F'',a2,b.next b2 (fun _ _ x=>x) (fun i hi x=>(c i x).elim id fun y=>absurd y (by omega)),fun i x=>(c2 i x).elim (fun y=>c i y) fun y=>.inr (Nat.le_trans b.size y)⟩
theorem Turns.later {T:Thing} {F:Nat→Prop} {w w':World} (LT:Lives T) (h:T w F) (hk:Keep (fun _=>False) w w'):Turns T F w w':=
 ⟨F,LT.keep h hk (fun _ _ x=>x),hk.mono fun _ _ x=>x.elim,fun _ x=>.inl x⟩
theorem Turns.ahead {T':Thing} {F:Nat→Prop} {w w1 w':World} (hk:Keep (fun _=>False) w w1) (h:Turns T' F w1 w'):Turns T' F w w':=by
 obtain⟨F',a,b,c⟩:=h
 exact⟨F',a,hk.next b (fun _ _ x=>x.elim) (fun _ _ x=>x),fun i x=>(c i x).imp id fun y=>Nat.le_trans hk.size y⟩
def TrioT (T U V:Thing):Thing:=fun w F=>∃ X Y Z,T w X∧U w Y∧V w Z∧(∀ i,X i→¬ Y i)∧(∀ i,X i→¬ Z i)∧(∀ i,Y i→¬ Z i)∧F=fun k=>X k∨Y k∨Z k
section
variable {T T' U U' V V':Thing} {w w':World} {F:Nat→Prop}
theorem TrioT.lives (LT:Lives T) (LU:Lives U) (LV:Lives V):Lives (TrioT T U V):=
 ⟨fun ⟨X,Y,Z,h1,h2,h3,a,b,c,e⟩ hk hn=>⟨X,Y,Z,LT.keep h1 hk (fun i x=>hn i (by rw[e];exact .inl x)),LU.keep h2 hk (fun i x=>hn i (by rw[e];exact .inr (.inl x))),LV.keep h3 hk (fun i x=>hn i (by rw[e];exact .inr (.inr x))),a,b,c,e⟩,
  fun ⟨X,Y,Z,h1,h2,h3,_,_,_,e⟩ i x=>by rw[e] at x;exact x.elim (LT.lt h1 i) fun x=>x.elim (LU.lt h2 i) (LV.lt h3 i)⟩
theorem TrioT.turn1 (LU:Lives U) (LV:Lives V) (h:TrioT T U V w F) (t:∀ X,T w X→Turns T' X w w'):Turns (TrioT T' U V) F w w':=by
 obtain⟨X,Y,Z,h1,h2,h3,a,b,c,rfl⟩:=h
 obtain⟨X',p,q,r⟩:=t X h1
 refine⟨fun k=>X' k∨Y k∨Z k,⟨X',Y,Z,p,LU.keep h2 q (fun i x y=>a i y x),LV.keep h3 q (fun i x y=>b i y x),fun i x y=>?_,fun i x y=>?_,c,rfl⟩,q.mono fun _ _ x=>.inl x,fun i x=>x.elim (fun x=>(r i x).imp .inl id) fun x=>.inl (.inr x)⟩
 ·rcases r i x with z | z
  ·exact a i z y
  ·have:=LU.lt h2 i y;omega
 ·rcases r i x with z | z
  ·exact b i z y
  ·have:=LV.lt h3 i y;omega
theorem TrioT.turnY {X Y Z:Nat→Prop} (LT:Lives T) (LV:Lives V) (h1:T w X) (h3:V w Z) (a:∀ i,X i→¬ Y i) (b:∀ i,X i→¬ Z i) (c:∀ i,Y i→¬ Z i) (e:F=fun k=>X k∨Y k∨Z k) (t:Turns U' Y w w'):Turns (TrioT T U' V) F w w':=by
 obtain⟨Y',p,q,r⟩:=t
 subst e
 refine⟨fun k=>X k∨Y' k∨Z k,⟨X,Y',Z,LT.keep h1 q a,p,LV.keep h3 q (fun i x y=>c i y x),fun i x y=>?_,b,fun i x y=>?_,rfl⟩,q.mono fun _ _ x=>.inr (.inl x),fun i x=>x.elim (fun x=>.inl (.inl x)) fun x=>x.elim (fun x=>(r i x).imp (fun y=>.inr (.inl y)) id) fun x=>.inl (.inr (.inr x))⟩
 ·rcases r i y with z | z
  ·exact a i x z
  ·have:=LT.lt h1 i x;omega
 ·rcases r i x with z | z
  ·exact c i z y
  ·have:=LV.lt h3 i y;omega
theorem TrioT.swap (h:TrioT T U V w F):TrioT U T V w F:=by
 obtain⟨X,Y,Z,h1,h2,h3,a,b,c,rfl⟩:=h
 refine⟨Y,X,Z,h2,h1,h3,fun i x y=>a i y x,c,b,?_⟩
 funext k
 exact propext ⟨fun x=>by rcases x with x | x | x <;> simp[x],fun x=>by rcases x with x | x | x <;> simp[x]⟩
theorem TrioT.turn (h:TrioT T U V w F):TrioT U V T w F:=by
 obtain⟨X,Y,Z,h1,h2,h3,a,b,c,rfl⟩:=h
 refine⟨Y,Z,X,h2,h3,h1,c,fun i x y=>a i y x,fun i x y=>b i y x,?_⟩
 funext k
 exact propext ⟨fun x=>by rcases x with x | x | x <;> simp[x],fun x=>by rcases x with x | x | x <;> simp[x]⟩
theorem Turns.map {T T':Thing} {F:Nat→Prop} {w w':World} (h:Turns T F w w') (f:∀ G,T w' G→T' w' G):Turns T' F w w':=let ⟨G,a,b,c⟩:=h;⟨G,f G a,b,c⟩
end
def VotesT (nv:Value) (vs:List Vt):Thing:=fun w F=>(∃ us,Votes w F nv vs us)∧∀ k,F k→k<w.heap.size
theorem VotesT.lives (nv:Value) (vs:List Vt):Lives (VotesT nv vs):=
 ⟨fun ⟨⟨us,h⟩,h2⟩ hk hn=>⟨⟨us,h.keep hk hn⟩,fun k x=>Nat.lt_of_lt_of_le (h2 k x) hk.size⟩,fun h=>h.2⟩
def BoxA (p:Nat) (cs:Array Value) (t:TypeId):Thing:=fun w F=>w.heap[p]?=some (.cells cs t (0,0))∧F p∧∀ k,F k→k<w.heap.size
theorem BoxA.lives (p:Nat) (cs:Array Value) (t:TypeId):Lives (BoxA p cs t):=
 ⟨fun ⟨h1,h2,h3⟩ hk hn=>⟨hk.get h1 (hn _ h2),h2,fun k x=>Nat.lt_of_lt_of_le (h3 k x) hk.size⟩,fun h=>h.2.2⟩
abbrev accC (sb:Nat) (b:Bal) (nv:Value) (dead:Bool):Array Value:=#[.pointer (some ⟨sb,0,none⟩),.int .u64 (b.n:Int),.int .i64 b.node,nv,.bool dead]
def AcT (a d:Nat) (D:Dk) (A:Ac):Thing:=fun w F=>∃ sb nv,TrioT (BoxA a (accC sb A.b nv A.s.dead) 52) (StoT sb d D A.s) (VotesT nv A.vs) w F
theorem AcT.lives (a d:Nat) (D:Dk) (A:Ac):Lives (AcT a d D A):=
 ⟨fun ⟨sb,nv,h⟩ hk hn=>⟨sb,nv,(TrioT.lives (BoxA.lives _ _ _) (StoT.lives _ _ _ _) (VotesT.lives _ _)).keep h hk hn⟩,fun ⟨_sb,_nv,h⟩=>(TrioT.lives (BoxA.lives _ _ _) (StoT.lives _ _ _ _) (VotesT.lives _ _)).lt h⟩
end Go.Proofs.Ytkjofdocgaiedaa
namespace Go.Proofs.Ytkjofdocgaiedaa.AC
open Go.Proofs.Ytkjofdocgaiedaa MI SO BM DM WM
def placeV:List Vt→Nat→Nat
 | [],_=>0
 | v :: vs,s=>if v.slot<s then placeV vs s+1 else 0
theorem placeV_le:∀ (vs:List Vt) (s:Nat),placeV vs s≤vs.length
 | [],_=>Nat.le_refl _
 | v :: vs,s=>by
   have:=placeV_le vs s
   unfold placeV
   split <;> simp <;> omega
theorem placeV_is:∀ {vs:List Vt} {s k:Nat},k≤vs.length→(∀ i (h:i<vs.length),i<k→vs[i].slot<s)→(∀ h:k<vs.length,¬ vs[k].slot<s)→k=placeV vs s
 | [],s,k,h,_,_=>by simp at h;rw[h];rfl
 | v :: vs,s,0,_,_,h2=>by
   have:=h2 (by simp)
   simp only[List.getElem_cons_zero] at this
   unfold placeV
   rw[if_neg this]
 | v :: vs,s,k+1,h,h1,h2=>by
   have h3:=h1 0 (by simp) (by omega)
   simp only[List.getElem_cons_zero] at h3
   unfold placeV
   rw[if_pos h3,← placeV_is (k:=k) (by simpa using h) (fun i hi hik=>by have:=h1 (i+1) (by simpa using hi) (by omega);simpa using this) (fun hh=>by have:=h2 (by simpa using hh);simpa using this)]
theorem insV_place:∀ (vs:List Vt) (v:Vt),insV vs v=vs.take (placeV vs v.slot) ++ v :: vs.drop (if (vs[placeV vs v.slot]?.map (·.slot))=some v.slot then placeV vs v.slot+1 else placeV vs v.slot)
 | [],v=>rfl
 | u :: vs,v=>by
   unfold insV placeV
   by_cases h:u.slot<v.slot
   ·rw[if_pos h,if_pos h,insV_place vs v]
    simp only[List.take_succ_cons,List.getElem?_cons_succ,List.cons_append]
    by_cases e:Option.map (fun x=>x.slot) vs[placeV vs v.slot]?=some v.slot
    ·rw[if_pos e,if_pos e];rfl
    ·rw[if_neg e,if_neg e];rfl
   ·rw[if_neg h,if_neg h]
    simp only[List.take_zero,List.nil_append,List.getElem?_cons_zero,Option.map_some,Option.some.injEq]
    by_cases e:u.slot=v.slot
    ·rw[if_pos e,if_pos e];rfl
    ·rw[if_neg e,if_neg e];rfl
theorem fromV_drop:∀ {vs:List Vt} (k:Nat),Rise vs→fromV vs k=vs.drop (placeV vs k)
 | [],_,_=>rfl
 | v :: vs,k,h=>by
   have h1:=List.pairwise_cons.1 h
   unfold fromV placeV
   by_cases hk:v.slot<k
   ·rw[if_pos hk,List.filter_cons,if_neg (by simp;omega)]
    exact fromV_drop k h1.2
   ·rw[if_neg hk,List.drop_zero,List.filter_eq_self]
    intro x hx
    rcases List.mem_cons.1 hx with rfl | hx
    ·simp;omega
    ·have:=h1.1 x hx
     simp
     omega
theorem valN_snoc:∀ (l:Str) (x:UInt8),valN (l ++ [x])=valN l * 256+x.toNat
 | [],x=>by simp[valN]
 | y :: l,x=>by
   simp only[List.cons_append,valN,List.length_append,List.length_singleton]
   rw[valN_snoc l x,Nat.pow_succ,Nat.add_mul]
   simp only[Nat.mul_assoc]
   omega
end Go.Proofs.Ytkjofdocgaiedaa.AC
namespace Go.Proofs.Ytkjofdocgaiedaa
open Go.RowKit Go.Maps
open MI SO BM DM WM AC
theorem cells5a {w:World} {b:Nat} {T:TypeId} {a0 a1 a2 a3 a4:Value} (H:w.heap[b]?=some (.cells #[a0,a1,a2,a3,a4] T (0,0))) :
  w.cell? ⟨b,0,none⟩=some a0∧w.cell? ⟨b,1,none⟩=some a1∧w.cell? ⟨b,2,none⟩=some a2∧w.cell? ⟨b,3,none⟩=some a3∧w.cell? ⟨b,4,none⟩=some a4∧(∀ o,w.frozen? ⟨b,o,none⟩=false)∧b<w.heap.size:=by
 refine⟨?_,?_,?_,?_,?_,?_,heap_lt H⟩ <;> simp[World.cell?,World.frozen?,H]
set_option maxRecDepth 20000 in
set_option maxHeartbeats 1000000 in
theorem aplace_any (w:World) (a sb:Nat) (b:Bal) (nv:Value) (dead:Bool) (F:Nat→Prop) (vs:List Vt) (us:List Value) (slot:Nat)
  (hh:w.heap[a]?=some (.cells (accC sb b nv dead) 52 (0,0))) (hv:Votes w F nv vs us) :
  Calls Try.prog 22 #[.pointer (some ⟨a,0,none⟩),.int .u64 (slot:Int)] w fun e w'=>e = .returned (.int .i64 (placeV vs slot:Nat))∧w'=w:=by
 obtain⟨ao,c,rfl,hc,hm,-⟩:=hv.row.form
 obtain⟨n,hn⟩:∃ n,n=vs.length:=⟨_,rfl⟩
 rw[← hn] at hh hv hc
 obtain⟨k0,k1,k2,k3,k4,kf,kb⟩:=cells5a hh
 have H:=hid (And.intro hv hn)
 have hn63:(n:Int)≤9223372036854775807:=by unfold maxLen at hm;omega
 obtain⟨P,hP⟩:∃ P,P=placeV vs slot:=⟨_,rfl⟩
 rw[← hP]
 have HP:=hid hP
 clear hv hh hn hP hc hm k0 k1 k2 k4 kf
 go_enter Try.func22,Try.ntmps22
 go_wp2_with (at_builtin;refine stopAt ?_;intro q hq)
 go_loopw [5] (fun iv wr=>∃ i:Nat,i≤n∧iv = .int .i64 i∧wr=w∧Hid (∀ j (hj:j<vs.length),j<i→vs[j].slot<slot)) (fun iv _=>n - (intOf iv).toNat)
 case atStart=>exact⟨0,Nat.zero_le _,rfl,rfl,hid fun j _ x=>by omega⟩
 case round=>
  obtain⟨i,hi,rfl,rfl,HR⟩:=hrel
  by_cases hin:i<n
  ·have h4:(i:Int)<n:=by omega
   have hil:i<vs.length:=by rw[← H.out.2];exact hin
   obtain⟨g,ua,uc,rfl,hcell,-⟩:=H.out.1.get i hil
   have a0:=hcell 0 _ rfl
   rw[Nat.add_zero] at a0
   obtain⟨s,hs⟩:∃ s,s=vs[i].slot:=⟨_,rfl⟩
   rw[← hs] at a0
   have HS:=hid (And.intro hil hs)
   clear hcell hs
   by_cases hlt:s<slot
   ·have q1:(s:Int)<(slot:Int):=by omega
    go_wp2_with (at_builtin;refine stopAt ?_;intro q hq)
    go_roundw
    case rel=>exact⟨i+1,by omega,by go_num,by first | rfl | trivial,hid fun j hj hji=>by
     rcases Nat.lt_or_eq_of_le (Nat.le_of_lt_succ hji) with x | x
     ·exact HR.out j hj x
     ·subst x;rw[← HS.out.2];exact hlt⟩
    case measure=>simp[intOf];omega
   ·have q1:decide ((s:Int)<(slot:Int))=false:=by simp;omega
    have q2:decide (s<slot)=false:=decide_eq_false hlt
    have HE:=hid (show i=P by
     rw[HP.out]
     exact placeV_is (Nat.le_of_lt HS.out.1) HR.out (fun h=>by rw[← HS.out.2];exact hlt))
    go_wp2_with (at_builtin;refine stopAt ?_;intro q hq)
    go_ret
    exact⟨by rw[HE.out];first | rfl | simp,rfl⟩
  ·have q1:decide ((i:Int)<(n:Int))=false:=by simp;omega
   have q2:decide (i<n)=false:=decide_eq_false hin
   have HE:=hid (show i=P by
    rw[HP.out]
    exact placeV_is (by have:=H.out.2;omega) HR.out (fun h=>by have:=H.out.2;omega))
   go_wp2_with (at_builtin;refine stopAt ?_;intro q hq)
   go_ret
   exact⟨by rw[HE.out];first | rfl | simp,rfl⟩
end Go.Proofs.Ytkjofdocgaiedaa
namespace Go.Proofs.Ytkjofdocgaiedaa
open Go.RowKit Go.Maps
open MI SO BM DM WM AC
def VotesPost (w:World) (vs:List Vt) (e:Ending) (w':World):Prop:=∃ v us Fv,e = .returned v∧Votes w' Fv v vs us∧(∀ k,Fv k→w.heap.size≤k)∧Keep (fun _=>False) w w'
set_option maxRecDepth 20000 in
set_option maxHeartbeats 2000000 in
theorem avotes_tell (w:World) (a sb:Nat) (b:Bal) (nv:Value) (dead:Bool) (F:Nat→Prop) (vs:List Vt) (us:List Value) (k:Nat)
  (hh:w.heap[a]?=some (.cells (accC sb b nv dead) 52 (0,0))) (hv:Votes w F nv vs us) (hr:Rise vs) (hb:∀ v ∈ vs,v.val.length≤1000) (hN:vs.length≤1000000) :
  Calls Try.prog 15 #[.pointer (some ⟨a,0,none⟩),.int .u64 (k:Int)] w (VotesPost w (if dead then [] else fromV vs k)):=by
 obtain⟨k0,k1,k2,k3,k4,kf,kb⟩:=cells5a hh
 cases dead with
 | true=>
   clear hh hv
   go_enter Try.func15,Try.ntmps15
   go_wp2_with (at_builtin;refine stopAt ?_;intro q hq)
   go_ret
   exact⟨_,[],fun _=>False,rfl,Votes.nil _ _,fun _ x=>x.elim,Keep.refl _ _⟩
 | false=>
   have hpl:=aplace_any w a sb b nv false F vs us k hh hv
   have hfd:=fromV_drop k hr
   have hple:=placeV_le vs k
   obtain⟨p,hp⟩:∃ p,p=placeV vs k:=⟨_,rfl⟩
   rw[← hp] at hpl hfd hple
   obtain⟨ao,c,rfl,hc,hm,hnil,hsome⟩:=hv.row.form
   obtain⟨n,hn⟩:∃ n,n=vs.length:=⟨_,rfl⟩
   rw[← hn] at hh hv hc hple k3
   obtain⟨m,hm2⟩:∃ m,m=n - p:=⟨_,rfl⟩
   have hsl:=fun w=>run_sliceAt_lo (P:=Try.prog) ty_votes ao n c .i64 p hple w
   obtain⟨ta,hta⟩:∃ ta,ta=tailAt ao c p 4:=⟨_,rfl⟩
   obtain⟨tc,htc⟩:∃ tc,tc=c - p:=⟨_,rfl⟩
   rw[← hta,← hm2,← htc] at hsl
   obtain⟨T,hT⟩:∃ T,T=vs.drop p:=⟨_,rfl⟩
   rw[← hT] at hfd
   simp only[Bool.false_eq_true,if_false]
   rw[hfd]
   have hTm:T.length=m:=by rw[hT,List.length_drop,hm2,hn]
   have H:=hid (And.intro hv (And.intro hn (And.intro hta (And.intro hT (And.intro hTm (And.intro hb (And.intro hc (And.intro hple hm2))))))))
   have HPl:=hid (fun s:Later w=>show Calls Try.prog 22 #[.pointer (some ⟨a,0,none⟩),.int .u64 (k:Int)] s.val fun e w'=>e = .returned (.int .i64 (p:Nat))∧Keep (fun _=>False) s.val w' from by
    have:=aplace_any s.val a sb b (.slice ao n c) false F vs us k (s.keep.get hh id) (hv.keep s.keep (fun _ _ x=>x))
    rw[← hp] at this
    exact this.mono fun e w' ⟨h1,h2⟩=>⟨h1,by rw[h2];exact Keep.refl _ _⟩)
   have hm63:(m:Int)≤9223372036854775807:=by unfold maxLen at hm;omega
   have HN:=hid hN
   clear hv hh hn hta hT hTm hfd hm2 hb hr hp hpl hnil hsome htc hm hN
   go_enter Try.func15,Try.ntmps15
   go_upto_region 4 with fail
   have j3:=fun s:Later w=>s.cell k3
   (refine wp_region_later (by kernel_rfl) (by kernel_rfl) ?_;(repeat (go_big_quiet_step ((go_at_call 22;exact Later.call (HPl.out _)))));refine wpQuiet_nil ?_;rintro _ ⟨sq,rfl⟩)
   have hk1:=sq.keep
   obtain⟨w1,hw1⟩:∃ w1,w1=sq.val:=⟨_,rfl⟩
   rw[← hw1] at hk1 ⊢
   clear hw1 sq j3 HPl hsl k0 k1 k2 k3 k4 kf kb
   go_wp2_with (at_builtin;refine stopAt ?_;intro q hq)
   go_loopw [5,25] (fun ov iv wr=>∃ i:Nat,i≤m∧iv = .int .i64 i∧Hid (∃ us Fo,Votes wr Fo ov (T.take i) us∧(∀ k,Fo k→w.heap.size≤k)∧Keep (fun _=>False) w wr)) (fun _ iv _=>m - (intOf iv).toNat)
   case atStart=>exact⟨0,Nat.zero_le _,rfl,hid ⟨[],fun _=>False,Votes.nil _ _,fun _ x=>x.elim,hk1⟩⟩
   case round=>
    obtain⟨i,hi,rfl,HR⟩:=hrel
    by_cases him:i<m
    ·have q1:(i:Int)<m:=by omega
     obtain⟨os,Fo,ho,hFo,hkr⟩:=HR.out
     have hil:p+i<vs.length:=by have:=H.out.2.1;have:=H.out.2.2.2.2.2.2.2.2;omega
     obtain⟨g,ua,uc,hao,hcell,hrow⟩:=(H.out.1.keep hkr (fun _ _ x=>x)).get (p+i) hil
     subst hao
     obtain⟨q,hq⟩:∃ q,q=p * 4:=⟨_,rfl⟩
     have hta:ta=some ⟨g,q,none⟩:=by
      rw[H.out.2.2.1]
      unfold tailAt
      rw[if_neg (by have:=H.out.2.2.2.2.2.2.1;have:=H.out.2.1;omega)]
      simp only[Option.map_some]
      rw[addr_add,Nat.zero_add,hq]
     subst hta
     obtain⟨x,hx⟩:∃ x,x=vs[p+i]:=⟨_,rfl⟩
     rw[← hx] at hcell hrow
     obtain⟨xl,hxl⟩:∃ xl,xl=x.val.length:=⟨_,rfl⟩
     rw[← hxl] at hcell hrow
     have b0:=hcell 0 _ rfl
     have b1:=hcell 1 _ rfl
     have b2:=hcell 2 _ rfl
     have b3:=hcell 3 _ rfl
     rw[show (p+i) * 4+0=q+i * 4 by rw[hq];omega] at b0
     rw[show (p+i) * 4+1=q+i * 4+1 by rw[hq];omega] at b1
     rw[show (p+i) * 4+2=q+i * 4+2 by rw[hq];omega] at b2
     rw[show (p+i) * 4+3=q+i * 4+3 by rw[hq];omega] at b3
     have HX:=hid (And.intro ho (And.intro hFo (And.intro hkr (And.intro hrow (And.intro hx (And.intro hxl hq))))))
     clear ho hFo hkr hcell hrow hx hxl hq
     go_upto_region 7 with fail
     have hn2:=heap_alloc_new wr (.cells #[.int .u64 (x.slot:Int),.int .u64 (x.bal.n:Int),.int .i64 x.bal.node,.slice ua xl uc] 31)
     have hk2:Keep (fun _=>False) wr (wr.alloc (.cells #[.int .u64 (x.slot:Int),.int .u64 (x.bal.n:Int),.int .i64 x.bal.node,.slice ua xl uc] 31)):=(Keep.refl _ _).alloc _
     have hz2:(wr.alloc (.cells #[.int .u64 (x.slot:Int),.int .u64 (x.bal.n:Int),.int .i64 x.bal.node,.slice ua xl uc] 31)).heap.size=wr.heap.size+1:=by simp
     obtain⟨w2,hw2⟩:∃ w2,w2=wr.alloc (.cells #[.int .u64 (x.slot:Int),.int .u64 (x.bal.n:Int),.int .i64 x.bal.node,.slice ua xl uc] 31):=⟨_,rfl⟩
     rw[← hw2] at hn2 hk2 hz2 ⊢
     clear hw2 b0 b1 b2 b3
     have hk3:Keep (fun _=>False) w2 (w2.alloc (.cells #[] 5)):=(Keep.refl _ _).alloc _
     have hf3:=Row.fresh w2 5 1
     have hn3:=hk3.get hn2 id
     have hz3:(w2.alloc (.cells #[] 5)).heap.size=w2.heap.size+1:=by simp
     have d3:(w2.alloc (.cells #[] 5)).cell? ⟨wr.heap.size,3,none⟩=some (.slice ua xl uc):=by
      obtain⟨w3,hw3⟩:∃ w3,w3=w2.alloc (.cells #[] 5):=⟨_,rfl⟩
      rw[← hw3] at hn3 ⊢
      simp[World.cell?,hn3]
     have H3:=hid (And.intro hk2 (And.intro hk3 (And.intro hf3 (And.intro hn3 (And.intro hz2 hz3)))))
     clear hn2 hk2 hz2 hk3 hf3 hn3 hz3
     go_wp2_with (at_builtin;refine stopAt ?_;intro q hq)
     (refine hq.out ?_;clear hq q)
     obtain⟨w3,hw3⟩:∃ w3,w3=w2.alloc (.cells #[] 5):=⟨_,rfl⟩
     rw[← hw3] at H3 d3
     first | rw[← hw3] | skip
     clear hw3
     obtain⟨hk2,hk3,hf3,hn3,hz2,hz3⟩:=H3.out
     have hbx:x.val.length≤1000:=H.out.2.2.2.2.2.1 x (by rw[HX.out.2.2.2.2.1];exact List.getElem_mem _)
     have hxl:=HX.out.2.2.2.2.2.1
     have hk13:=hk2.next hk3 (H:=fun _=>False) (fun _ _ x=>x) (fun _ _ x=>x)
     refine wpList_plain rfl (fun K hK=>?_)
     refine wp_append ty_bytes (.tmp 29) (.tmp 31) rfl rfl hf3 ua xl uc (bytesV x.val) rfl (Cells.of_row (HX.out.2.2.2.1.keep hk13 (fun _ _ x=>x))) (bytesV_one _) (by unfold maxLen;omega) (by omega) ?_
     intro v4 w4 hr4 hk4 hv4
     refine hK _ _ ?_
     clear hK K
     obtain⟨a4,c4,rfl,-⟩:=hr4.form
     rw[Nat.zero_add] at hr4
     try rw[Nat.zero_add] at hv4
     try rw[Nat.zero_add]
     have hn4:=hk4.get hn3 (fun e=>by have e2:w2.heap.size=wr.heap.size:=Option.some.inj e;omega)
     have d3b:w4.cell? ⟨wr.heap.size,3,none⟩=some (.slice ua xl uc):=by simp[World.cell?,hn4]
     have f3:w4.frozen? ⟨wr.heap.size,3,none⟩=false:=by simp[World.frozen?,hn4]
     have H4:=hid (And.intro hr4 (And.intro hk4 (And.intro hv4 hn4)))
     clear hr4 hk4 hv4 hn4 hk2 hk3 hf3 hn3 hz2 hz3 hk13 d3 hbx hxl
     go_upto_region 8 with fail
     have hn5:=heap_setCell6 H4.out.2.2.2 3 (.slice a4 xl c4)
     have hk5:Keep (fun k=>k=wr.heap.size) w4 (w4.setCell ⟨wr.heap.size,3,none⟩ (.slice a4 xl c4)):=by refine Keep.setCell (Keep.refl _ _) (.inl ?_) _;rfl
     obtain⟨w5,hw5⟩:∃ w5,w5=w4.setCell ⟨wr.heap.size,3,none⟩ (.slice a4 xl c4):=⟨_,rfl⟩
     rw[← hw5] at hn5 hk5 ⊢
     clear hw5 d3b f3
     have e0:w5.cell? ⟨wr.heap.size,0,none⟩=some (.int .u64 (x.slot:Int)):=by simp[World.cell?,hn5]
     have e1:w5.cell? ⟨wr.heap.size,1,none⟩=some (.int .u64 (x.bal.n:Int)):=by simp[World.cell?,hn5]
     have e2:w5.cell? ⟨wr.heap.size,2,none⟩=some (.int .i64 x.bal.node):=by simp[World.cell?,hn5]
     have e3:w5.cell? ⟨wr.heap.size,3,none⟩=some (.slice a4 xl c4):=by simp[World.cell?,hn5]
     have hk6:Keep (fun _=>False) w5 (w5.alloc (.cells #[.int .u64 (x.slot:Int),.int .u64 (x.bal.n:Int),.int .i64 x.bal.node,.slice a4 xl c4] 31)):=(Keep.refl _ _).alloc _
     have hn6:=heap_alloc_new w5 (.cells #[.int .u64 (x.slot:Int),.int .u64 (x.bal.n:Int),.int .i64 x.bal.node,.slice a4 xl c4] 31)
     have H5:=hid (And.intro hk5 (And.intro hk6 hn6))
     clear hk5 hk6 hn6 hn5
     go_wp2_with (at_builtin;refine stopAt ?_;intro q hq)
     (refine hq.out ?_;clear hq q)
     obtain⟨w6,hw6⟩:∃ w6,w6=w5.alloc (.cells #[.int .u64 (x.slot:Int),.int .u64 (x.bal.n:Int),.int .i64 x.bal.node,.slice a4 xl c4] 31):=⟨_,rfl⟩
     rw[← hw6] at H5
     first | rw[← hw6] | skip
     clear hw6 e0 e1 e2 e3
     obtain⟨ho,hFo,hkr,hrow,hx,hxl,hq⟩:=HX.out
     obtain⟨hk2,hk3,hf3,hn3,hz2,hz3⟩:=H3.out
     obtain⟨hr4,hk4,hv4,hn4⟩:=H4.out
     obtain⟨hk5,hk6,hn6⟩:=H5.out
     have hk23:=hk2.next hk3 (H:=fun _=>False) (fun _ _ x=>x) (fun _ _ x=>x)
     have hk24:Keep (fun _=>False) wr w4:=hk23.next hk4 (fun _ _ x=>x) (fun k hk e=>by have e2:w2.heap.size=k:=Option.some.inj e;omega)
     have hk25:Keep (fun _=>False) wr w5:=hk24.next hk5 (fun _ _ x=>x) (fun k hk e=>by omega)
     have hk26:=hk25.next hk6 (H:=fun _=>False) (fun _ _ x=>x) (fun _ _ x=>x)
     have ho6:=ho.keep hk26 (fun _ _ x=>x)
     have hTi:(T.take i).length=i:=by rw[List.length_take,H.out.2.2.2.2.1];omega
     obtain⟨oo,oc,rfl,-⟩:=ho6.row.form
     have hr6:=ho6.row
     rw[hTi] at hr6 ho6 ⊢
     have hns:i<1000000:=by have h1:=HN.out;have h2:=H.out.2.1;have h3:=H.out.2.2.2.2.2.2.2.2;omega
     refine wpList_plain rfl (fun K hK=>?_)
     refine wp_append ty_votes (.tmp 34) (.tmp 36) rfl rfl hr6 (some ⟨w5.heap.size,0,none⟩) 1 1 (voteV x (.slice a4 xl c4)) rfl
      ⟨rfl,fun _=>⟨_,rfl,fun t u hu=>by rw[addr_add,Nat.zero_add,cell_of_row _ _ _ _ _ _ hn6];simpa [voteV] using hu⟩⟩ (fun u hu=>by simp[voteV] at hu;rcases hu with rfl | rfl | rfl | rfl <;> rfl) (by unfold maxLen;omega) (by omega) ?_
     intro v7 w7 hr7 hk7 hv7
     have hk7:Keep (fun k=>(Value.slice oo i oc).ownBlock=some k) w6 w7:=hk7
     refine hK _ _ ?_
     clear hK K
     have HZ:=hid (show ∃ us Fo',Votes w7 Fo' v7 (T.take (i+1)) us∧(∀ k,Fo' k→w.heap.size≤k)∧Keep (fun _=>False) w w7 from by
      have hTx:T.take (i+1)=T.take i ++ [x]:=by
       have hiT:i<T.length:=by rw[H.out.2.2.2.2.1];exact him
       rw[List.take_add_one,List.getElem?_eq_getElem hiT,Option.toList_some]
       congr 2
       rw[hx]
       simp only[H.out.2.2.2.1,List.getElem_drop]
      have hown4:∀ k,(Value.slice a4 xl c4).ownBlock=some k→wr.heap.size<k:=fun k e=>by
       rcases hv4 with ⟨e1,-⟩ | ⟨k',h1,h2⟩
       ·rw[e1] at e
        have:=Option.some.inj e
        simp only at this
        omega
       ·rw[e] at h1
        cases h1
        rcases h2 with h2 | h2
        ·have:=Option.some.inj h2
         simp only at this
         omega
        ·omega
      have s1:=hkr.size
      have s2:=hk25.size
      have s3:=hk6.size
      rw[hTx]
      refine⟨os ++ [.slice a4 xl c4],fun k=>Fo k∨(wr.heap.size≤k),ho6.push (u:=.slice a4 xl c4) (F':=fun k=>Fo k∨(wr.heap.size≤k)) ?_ ?_ ?_ hk7 (fun k x=>.inl x) ?_,?_,?_⟩
      ·rw[← hxl]
       have h:=(hr4.keep hk5 (fun k e x=>by have:=hown4 k e;omega)).keep hk6 (fun _ _ x=>x)
       rw[List.nil_append] at h
       exact h
      ·intro k e
       have h1:=hown4 k e
       exact⟨.inr (by omega),fun e2=>by have:=ho.row.lt (by rw[ownBlock_len _ _ i];exact e2);omega⟩
      ·rw[hTi];exact hr7
      ·intro k e
       rcases hv7 with ⟨_,h0⟩ | ⟨k',h1,h2⟩
       ·omega
       ·rw[e] at h1
        cases h1
        rcases h2 with h2 | h2
        ·exact⟨.inl (ho6.own k h2),.inl h2⟩
        ·exact⟨.inr (by omega),.inr (by omega)⟩
      ·rintro k (x | x)
       ·exact hFo k x
       ·omega
      ·exact(hkr.next hk26 (fun _ _ x=>x) (fun _ _ x=>x)).next hk7 (fun _ _ x=>x) (fun k hk e=>by have:=hFo k (ho6.own k e);omega))
     clear ho hFo hkr hrow hx hxl hq hk2 hk3 hf3 hn3 hz2 hz3 hr4 hk4 hv4 hn4 hk5 hk6 hn6 hk23 hk24 hk25 hk26 ho6 hr6 hr7 hk7 hv7 hTi
     go_wp2_with (at_builtin;refine stopAt ?_;intro q hq)
     go_roundw
     case rel=>exact⟨i+1,by omega,by go_num,HZ⟩
     case measure=>simp[intOf];omega
    ·have q1:decide ((i:Int)<m)=false:=by simp;omega
     obtain⟨os,Fo,ho,hFo,hkr⟩:=HR.out
     rw[List.take_of_length_le (by have:=H.out.2.2.2.2.1;omega)] at ho
     have HZ:=hid (And.intro ho (And.intro hFo hkr))
     clear ho hFo hkr
     go_wp2_with (at_builtin;refine stopAt ?_;intro q hq)
     go_ret
     exact⟨_,os,Fo,rfl,HZ.out.1,HZ.out.2.1,HZ.out.2.2⟩
end Go.Proofs.Ytkjofdocgaiedaa
namespace Go.Proofs.Ytkjofdocgaiedaa
open Go.RowKit Go.Maps
open MI SO BM DM WM AC
set_option maxRecDepth 20000 in
theorem ado1_any (u:FrameMode) (w:World) (ba be a sb:Nat) (b:Bal) (nv:Value) (dead:Bool) (e:Int) (ha:w.cell? ⟨ba,0,none⟩=some (.pointer (some ⟨a,0,none⟩))) (he:w.cell? ⟨be,0,none⟩=some (.int .i64 e))
  (hh:w.heap[a]?=some (.cells (accC sb b nv dead) 52 (0,0))) :
  CallsD Try.prog 27 #[.pointer (some ⟨ba,0,none⟩),.pointer (some ⟨be,0,none⟩)] u w fun r u' w'=>u'=u∧(r = .returned (.tuple #[])∧w'.heap[a]?=some (.cells (accC sb b nv (dead || decide (e=6))) 52 (0,0))∧Keep (fun k=>k=a) w w'):=by
 obtain⟨k0,k1,k2,k3,k4,kf,kb⟩:=cells5a hh
 have HH:=hid hh
 clear hh k0 k1 k2 k3
 have hk:∀ (w1:World) (v:Value),Keep (fun _=>False) w w1→w1.heap[a]?=some (.cells (accC sb b nv dead) 52 (0,0))→(w1.setCell ⟨a,4,none⟩ v).heap[a]?=some (.cells #[.pointer (some ⟨sb,0,none⟩),.int .u64 (b.n:Int),.int .i64 b.node,nv,v] 52 (0,0))∧Keep (fun k=>k=a) w (w1.setCell ⟨a,4,none⟩ v):=fun w1 v h1 h2=>
  ⟨heap_setCell6 h2 4 v,h1.next (show Keep (fun k=>k=a) w1 _ from by refine Keep.setCell (Keep.refl _ _) (.inl ?_) _;rfl) (fun _ _ x=>x.elim) (fun _ _ x=>x)⟩
 have HK:=hid hk
 clear hk
 go_enter_d Try.func27,Try.ntmps27
 go_wp2_with (at_builtin;refine stopAt ?_;intro q hq)
 have j0:=fun s:Later w=>s.cell ha
 have j1:=fun s:Later w=>s.cell he
 have j2:=fun s:Later w=>s.cell k4
 have fin:∀ (w1:World) (x:Bool),Keep (fun _=>False) w w1→x=(dead || decide (e=6))→(w1.setCell ⟨a,4,none⟩ (.bool x)).heap[a]?=some (.cells (accC sb b nv (dead || decide (e=6))) 52 (0,0))∧Keep (fun k=>k=a) w (w1.setCell ⟨a,4,none⟩ (.bool x)):=fun w1 x h1 hx=>by
  rw[← hx]
  exact HK.out w1 (.bool x) h1 (h1.get HH.out id)
 have HF:=hid fin
 clear fin ha he k4
 cases dead with
 | true=>
   (refine wp_region_tail 11 (by kernel_rfl) (by kernel_rfl) ?_;simp only[List.take_succ_cons,List.take_zero,List.drop_succ_cons,List.drop_zero];(repeat (go_big_quiet_step ((fail))));refine wpQuiet_nil ?_;rintro _ ⟨sq,rfl⟩)
   have hk1:=sq.keep
   obtain⟨w1,hw1⟩:∃ w1,w1=sq.val:=⟨_,rfl⟩
   rw[← hw1] at hk1 ⊢
   clear hw1 sq j0 j1 j2
   have hh1:=hk1.get HH.out id
   have d4:w1.cell? ⟨a,4,none⟩=some (.bool true):=by simp[World.cell?,hh1]
   have f4:w1.frozen? ⟨a,4,none⟩=false:=by simp[World.frozen?,hh1]
   have HZ:=hid (HF.out w1 true hk1 rfl)
   clear hk1 hh1 kf
   go_wp2_with (at_builtin;refine stopAt ?_;intro q hq)
   go_end0
   exact⟨rfl,HZ.out⟩
 | false=>
   obtain⟨z,hz⟩:∃ z,z=decide (e=6):=⟨_,rfl⟩
   have hz2:(e == 6)=z:=by rw[hz];by_cases h:e=6 <;> simp[h]
   have HZ0:=hid hz
   have hz3:=hz.symm
   clear hz
   (refine wp_region_tail 11 (by kernel_rfl) (by kernel_rfl) ?_;simp only[List.take_succ_cons,List.take_zero,List.drop_succ_cons,List.drop_zero];(repeat (go_big_quiet_step ((fail))));refine wpQuiet_nil ?_;rintro _ ⟨sq,rfl⟩)
   have hk1:=sq.keep
   obtain⟨w1,hw1⟩:∃ w1,w1=sq.val:=⟨_,rfl⟩
   rw[← hw1] at hk1 ⊢
   clear hw1 sq j0 j1 j2
   have hh1:=hk1.get HH.out id
   have d4:w1.cell? ⟨a,4,none⟩=some (.bool false):=by simp[World.cell?,hh1]
   have f4:w1.frozen? ⟨a,4,none⟩=false:=by simp[World.frozen?,hh1]
   have HZ:=hid (HF.out w1 z hk1 (by rw[HZ0.out,Bool.false_or]))
   clear hk1 hh1 kf hz2 hz3
   go_wp2_with (at_builtin;refine stopAt ?_;intro q hq)
   go_end0
   exact⟨rfl,HZ.out⟩
theorem AC.doA_dead (D:Dk) (S:St) (l:List Ch):(doA D S l).2.2.dead=(S.dead || decide ((doA D S l).1=6)):=by
 cases hd:S.dead with
 | true=>
   have e:doS D S l=(6,D,S):=by unfold doS;rw[hd];rfl
   have e2:doA D S l=(6,D,S):=by unfold doA;rw[e];rfl
   rw[e2]
   exact hd
 | false=>
   rcases doA_cases (D:=D) hd l with ⟨h1,h2,h3⟩ | ⟨h1,h2⟩ | ⟨h1,h2,h3,h4⟩
   ·rw[h3,h1];rfl
   ·rw[h2,h1];rfl
   ·rw[h4,decide_eq_false h2];rfl
theorem StoTo.turnsT {b d:Nat} {F1 F2:Nat→Prop} {w w':World} {D:Dk} {S:St} (h:StoTo b d F1 F2 w D S w'):Turns (StoT b d D S) (fun k=>F1 k∨F2 k) w w':=by
 obtain⟨F',Fd',h1,h2,h3,h4⟩:=h
 exact⟨fun k=>F' k∨Fd' k,⟨F',Fd',h1,rfl⟩,h2,fun k x=>x.elim (fun y=>(h3 k y).imp .inl id) (fun y=>(h4 k y).imp .inr id)⟩
theorem res_cell {fn:Func} {t:Tmp} {ty:TypeId} (h:fn.results = #[.cell t ty]) (tm:Array Value) (w:World) (g:Nat) (ht:tm.getD t undef = .pointer (some ⟨g,0,none⟩)) (e:Int) (hc:w.cell? ⟨g,0,none⟩=some (.int .i64 e)) (ha:(isAgg ty).run Try.prog w = .ok false w):(results fn tm).run Try.prog w = .ok (.int .i64 e) w:=by
 have ht':tm[t]?.getD undef = .pointer (some ⟨g,0,none⟩):=by simpa using ht
 simp[results,h,ht',asAddr,loadVar,Sem.run_bind,ha,go_sem,hc]
theorem ado_fin {a sb d:Nat} {b:Bal} {nv:Value} {vs:List Vt} {D':Dk} {S':St} {dd dd':Bool} {F:Nat→Prop} {w w5 w6:World} (T5:Turns (TrioT (BoxA a (accC sb b nv dd) 52) (StoT sb d D' S') (VotesT nv vs)) F w w5)
  (hh6:w6.heap[a]?=some (.cells (accC sb b nv dd') 52 (0,0))) (hk6:Keep (fun k=>k=a) w5 w6):Turns (TrioT (BoxA a (accC sb b nv dd') 52) (StoT sb d D' S') (VotesT nv vs)) F w w6:=
 T5.trans fun F' h=>TrioT.turn1 (StoT.lives _ _ _ _) (VotesT.lives _ _) h fun X hX=>⟨X,⟨hh6,hX.2.1,fun k x=>Nat.lt_of_lt_of_le (hX.2.2 k x) hk6.size⟩,hk6.mono fun k _ e=>by subst e;exact hX.2.1,fun _ x=>.inl x⟩
theorem Turns.aside {T:Thing} {F:Nat→Prop} {w w1 w2:World} {q p:Nat} (LT:Lives T) (h:∃ F',T w1 F'∧Keep F w w1∧(∀ i,F' i→F i∨w.heap.size≤i)∧¬ F' q∧¬ F' p) (hk:Keep (fun k=>k=q) w1 w2) (hq:w.heap.size≤q):∃ F',T w2 F'∧Keep F w w2∧(∀ i,F' i→F i∨w.heap.size≤i)∧¬ F' q∧¬ F' p:=by
 obtain⟨F',a,b,c,d,e⟩:=h
 exact⟨F',LT.keep a hk (fun k x e=>d (e ▸ x)),b.next hk (fun _ _ x=>x) (fun k hk e=>by omega),c,d,e⟩
set_option maxRecDepth 20000 in
set_option maxHeartbeats 2000000 in
theorem ado_any (w:World) (a sb d:Nat) (b:Bal) (nv:Value) (vs:List Vt) (D:Dk) (S:St) (F:Nat→Prop) (H:TrioT (BoxA a (accC sb b nv S.dead) 52) (StoT sb d D S) (VotesT nv vs) w F)
  (ao:Option Addr) (n c:Nat) (l:List Ch) (hL:Chs w (.slice ao n c) l) (hn:n=l.length) (hap:0<n→∀ x,ao=some x→¬ F x.block) (hm:S.dead=false→S.ps.length≤900000) (hfew:D.waits.length≤490000) :
  Calls Try.prog 18 #[.pointer (some ⟨a,0,none⟩),.slice ao n c] w fun e w'=>e = .returned (.int .i64 (doA D S l).1)∧
   Turns (TrioT (BoxA a (accC sb b nv (doA D S l).2.2.dead) 52) (StoT sb d (doA D S l).2.1 (doA D S l).2.2) (VotesT nv vs)) F w w':=by
 obtain⟨E,hE⟩:∃ E,E=doA D S l:=⟨_,rfl⟩
 rw[← hE]
 have HE:=hid hE
 clear hE
 have hmf:∀ (fn:Fn) (first cap:Array Value) (w:World),(Instr.makeFunc fn first cap).run Try.prog w = .ok (.func fn first cap) w:=fun _ _ _ _=>rfl
 have LT:=TrioT.lives (BoxA.lives a (accC sb b nv S.dead) 52) (StoT.lives sb d D S) (VotesT.lives nv vs)
 have hFl:=LT.lt H
 have hn1:=heap_alloc_new w (.cells #[.pointer (some ⟨a,0,none⟩)] 32)
 have hk1:Keep (fun _=>False) w (w.alloc (.cells #[.pointer (some ⟨a,0,none⟩)] 32)):=(Keep.refl _ _).alloc _
 have hz1:(w.alloc (.cells #[.pointer (some ⟨a,0,none⟩)] 32)).heap.size=w.heap.size+1:=by simp
 have hn2:=heap_alloc_new (w.alloc (.cells #[.pointer (some ⟨a,0,none⟩)] 32)) (.cells #[.int .i64 0] 34)
 have hk2:Keep (fun _=>False) (w.alloc (.cells #[.pointer (some ⟨a,0,none⟩)] 32)) ((w.alloc (.cells #[.pointer (some ⟨a,0,none⟩)] 32)).alloc (.cells #[.int .i64 0] 34)):=(Keep.refl _ _).alloc _
 rw[hz1] at hn2
 have hn1b:=hk2.get hn1 id
 have hk:=hk1.next hk2 (H:=fun _=>False) (fun _ _ x=>x) (fun _ _ x=>x)
 go_enter_defers Try.func18,Try.ntmps18
 have HN:=hid hn
 clear hn
 go_upto_region 2 with fail
 obtain⟨w1,hw1⟩:∃ w1,w1=(w.alloc (.cells #[.pointer (some ⟨a,0,none⟩)] 32)).alloc (.cells #[.int .i64 0] 34):=⟨_,rfl⟩
 rw[← hw1] at hn2 hn1b hk ⊢
 clear hw1 hn1 hk1 hk2 hz1 hmf
 have H1:=LT.keep H hk (fun _ _ x=>x)
 obtain⟨X,Y,Z,hbox,⟨F1,F2,hsa,hY⟩,hvt,d1,d2,d3,hF⟩:=H1
 have hdo:=sdo_any w1 sb d F1 F2 D S hsa ao n c l (SliceOf.keepF hL hk (fun _ _ _ _ _ x=>x)) HN.out (fun hp x hx=>⟨fun y=>hap hp x hx (by rw[hF,hY];exact .inr (.inl (.inl y))),fun y=>hap hp x hx (by rw[hF,hY];exact .inr (.inl (.inr y)))⟩) hm (by omega)
 have hof:D.safe.length≤2048:=(DiskAt.ok hsa.diskAt).few
 have hwt:=doS_waits hof S l
 obtain⟨R,hR⟩:∃ R,R=doS D S l:=⟨_,rfl⟩
 have hE:=HE.out
 have hEd:=doA_dead D S l
 have hEr:E=if R.1=0 then syS R.2.1 R.2.2 else R:=by rw[hE,hR];rfl
 rw[← hE] at hEd
 rw[← hR] at hdo hwt
 clear hR hE hm hap hL hof LT H
 have c1:w1.cell? ⟨w.heap.size,0,none⟩=some (.pointer (some ⟨a,0,none⟩)):=by simp[World.cell?,hn1b]
 obtain⟨k0,-⟩:=cells5a hbox.1
 have HQ:=hid (And.intro hbox (And.intro hvt (And.intro d1 (And.intro d2 (And.intro d3 (And.intro hF (And.intro hn1b (And.intro hn2 (And.intro hk (And.intro hY (And.intro hEr (And.intro hEd (And.intro hwt hFl)))))))))))))
 clear hbox hsa hvt d1 d2 d3 hF hn1b hn2 hk hY hEr hEd hwt hFl
 go_wp2_with (at_builtin;refine stopAt ?_;intro q hq)
 refine hdo.mono ?_
 rintro e w2 ⟨rfl,ht⟩
 clear hdo c1 k0
 obtain⟨hbox,hvt,d1,d2,d3,hF,hn1b,hn2,hk,hY,hEr,hEd,hwt,hFl⟩:=HQ.out
 have htt:=ht.turnsT
 rw[← hY] at htt
 have T2:=TrioT.turnY (BoxA.lives _ _ _) (VotesT.lives _ _) hbox hvt d1 d2 d3 hF htt
 have hw1z:w.heap.size+1<w1.heap.size:=heap_lt hn2
 obtain⟨F',T2a,T2b,T2c⟩:=T2
 have g1:=T2b.get hn1b (fun x=>by have:=hFl _ x;omega)
 have g2:=T2b.get hn2 (fun x=>by have:=hFl _ x;omega)
 have f2:w2.frozen? ⟨w.heap.size+1,0,none⟩=false:=by simp[World.frozen?,g2]
 have e2:w2.cell? ⟨w.heap.size+1,0,none⟩=some (.int .i64 0):=by simp[World.cell?,g2]
 have g3:=heap_setCell6 g2 0 (.int .i64 R.1)
 have hk3:Keep (fun k=>k=w.heap.size+1) w2 (w2.setCell ⟨w.heap.size+1,0,none⟩ (.int .i64 R.1)):=by refine Keep.setCell (Keep.refl _ _) (.inl ?_) _;rfl
 have g1b:=hk3.get g1 (fun x=>by omega)
 obtain⟨w3,hw3⟩:∃ w3,w3=w2.setCell ⟨w.heap.size+1,0,none⟩ (.int .i64 R.1):=⟨_,rfl⟩
 have hF'n:∀ k,F' k→k<w.heap.size∨w1.heap.size≤k:=fun k x=>(T2c k x).imp (hFl k) id
 have H2:=hid (And.intro T2a (And.intro T2b (And.intro T2c (And.intro hF'n hw1z))))
 rw[← hw3] at g3 hk3 g1b
 have HW3:=hid hw3
 have H3:=hid (And.intro g3 (And.intro hk3 g1b))
 clear hbox hvt d1 d2 d3 hF hn1b hn2 hk hY hEr hEd hwt hFl htt ht T2a T2b T2c g1 g2 g3 hk3 g1b hw3 hF'n hw1z
 go_upto_region 3 with fail
 rw[← HW3.out]
 clear HW3 f2 e2
 have hk0:=HQ.out.2.2.2.2.2.2.2.2.1
 have T3:=hid (show ∃ F',TrioT (BoxA a (accC sb b nv S.dead) 52) (StoT sb d R.2.1 R.2.2) (VotesT nv vs) w3 F'∧Keep F w w3∧(∀ i,F' i→F i∨w.heap.size≤i)∧¬ F' (w.heap.size+1)∧¬ F' w.heap.size from
  Turns.aside (TrioT.lives (BoxA.lives _ _ _) (StoT.lives _ _ _ _) (VotesT.lives _ _)) ⟨F',H2.out.1,hk0.next H2.out.2.1 (fun _ _ x=>x.elim) (fun _ _ x=>x),fun i x=>(H2.out.2.2.1 i x).imp id fun y=>Nat.le_trans hk0.size y,fun x=>by
   have h1:=H2.out.2.2.2.1 _ x
   have h2:=H2.out.2.2.2.2
   omega,fun x=>by
   have h1:=H2.out.2.2.2.1 _ x
   have h2:=H2.out.2.2.2.2
   omega⟩ H3.out.2.1 (Nat.le_succ _))
 clear hk0
 have g3:=H3.out.1
 have e3:w3.cell? ⟨w.heap.size+1,0,none⟩=some (.int .i64 R.1):=by simp[World.cell?,g3]
 have f3:w3.frozen? ⟨w.heap.size+1,0,none⟩=false:=by simp[World.frozen?,g3]
 clear g3
 by_cases h0:R.1=0
 ·have q1:(R.1 == 0)=true:=by simpa using h0
  have q2:decide (R.1=0)=true:=decide_eq_true h0
  have hE2:E=syS R.2.1 R.2.2:=by
   have:=HQ.out.2.2.2.2.2.2.2.2.2.2.1
   rw[if_pos h0] at this
   exact this
  obtain⟨F3,T3a,T3b,T3c,T3d,T3e⟩:=T3.out
  have hz3:w.heap.size+1<w3.heap.size:=heap_lt H3.out.1
  obtain⟨X3,Y3,Z3,hbox,⟨F1',F2',hsa,hY⟩,hvt,d1,d2,d3,hF⟩:=T3a
  have hsy:=ssync_any w3 sb d F1' F2' R.2.1 R.2.2 hsa (by have:=HQ.out.2.2.2.2.2.2.2.2.2.2.2.2.1;omega)
  rw[← hE2] at hsy
  obtain⟨k0,-⟩:=cells5a hbox.1
  have c1:w3.cell? ⟨w.heap.size,0,none⟩=some (.pointer (some ⟨a,0,none⟩)):=by
   have:=H3.out.2.2
   simp[World.cell?,this]
  have H4:=hid (And.intro hbox (And.intro hvt (And.intro d1 (And.intro d2 (And.intro d3 (And.intro hF (And.intro hY (And.intro T3b (And.intro T3c (And.intro T3d (And.intro T3e hz3)))))))))))
  clear h0 hE2 T3b T3c T3d T3e hsa hvt d1 d2 d3 hF hY hbox hz3
  go_wp2_with (at_builtin;refine stopAt ?_;intro q hq)
  refine hsy.mono ?_
  rintro e w4 ⟨rfl,ht⟩
  clear hsy k0 c1 e3 f3 q1 q2
  obtain⟨hbox,hvt,d1,d2,d3,hF,hY,T3b,T3c,T3d,T3e,hz3⟩:=H4.out
  have htt:=ht.turnsT
  rw[← hY] at htt
  obtain⟨F4,T4a,T4b,T4c⟩:=TrioT.turnY (BoxA.lives _ _ _) (VotesT.lives _ _) hbox hvt d1 d2 d3 hF htt
  have g4a:=T4b.get H3.out.2.2 T3e
  have g4:=T4b.get H3.out.1 T3d
  have e4:w4.cell? ⟨w.heap.size+1,0,none⟩=some (.int .i64 R.1):=by simp[World.cell?,g4]
  have f4:w4.frozen? ⟨w.heap.size+1,0,none⟩=false:=by simp[World.frozen?,g4]
  have hk5:Keep (fun k=>k=w.heap.size+1) w4 (w4.setCell ⟨w.heap.size+1,0,none⟩ (.int .i64 E.1)):=by refine Keep.setCell (Keep.refl _ _) (.inl ?_) _;rfl
  have g5:=heap_setCell6 g4 0 (.int .i64 E.1)
  have g5a:=hk5.get g4a (fun x=>by omega)
  have hT:=Turns.aside (TrioT.lives (BoxA.lives _ _ _) (StoT.lives _ _ _ _) (VotesT.lives _ _)) ⟨F4,T4a,T3b.next T4b (fun _ _ x=>x) (fun k hk x=>(T3c k x).elim id fun y=>absurd y (by omega)),fun i x=>(T4c i x).elim (fun y=>T3c i y) fun y=>.inr (by have:=T3b.size;omega),fun x=>(T4c _ x).elim T3d fun y=>by omega,fun x=>(T4c _ x).elim T3e fun y=>by omega⟩ hk5 (Nat.le_succ _)
  obtain⟨w5,hw5⟩:∃ w5,w5=w4.setCell ⟨w.heap.size+1,0,none⟩ (.int .i64 E.1):=⟨_,rfl⟩
  rw[← hw5] at g5 g5a hT
  have TZ:=hid hT
  have GZ:=hid (show w5.heap[w.heap.size]?=some (.cells #[.pointer (some ⟨a,0,none⟩)] 32 (0,0))∧w5.heap[w.heap.size+1]?=some (.cells #[.int .i64 E.1] 34 (0,0))∧True from⟨g5a,g5,trivial⟩)
  have HW5:=hid hw5
  clear htt ht T4a T4b T4c g4 g4a hk5 g5 g5a hT hw5 hbox hvt d1 d2 d3 hF hY T3b T3c T3d T3e hz3
  go_upto_region 5 with fail
  rw[← HW5.out]
  have e5:w5.cell? ⟨w.heap.size+1,0,none⟩=some (.int .i64 E.1):=by
   have:=GZ.out.2.1
   simp[World.cell?,this]
  have f5:w5.frozen? ⟨w.heap.size+1,0,none⟩=false:=by
   have:=GZ.out.2.1
   simp[World.frozen?,this]
  clear e4 f4 HW5
  go_wp2_with (at_builtin;refine stopAt ?_;intro q hq)
  have g6:=heap_setCell6 GZ.out.2.1 0 (.int .i64 E.1)
  have hk6:Keep (fun k=>k=w.heap.size+1) w5 (w5.setCell ⟨w.heap.size+1,0,none⟩ (.int .i64 E.1)):=by refine Keep.setCell (Keep.refl _ _) (.inl ?_) _;rfl
  obtain⟨F6,T6,K6,N6,Q6,-⟩:=Turns.aside (TrioT.lives (BoxA.lives _ _ _) (StoT.lives _ _ _ _) (VotesT.lives _ _)) TZ.out hk6 (Nat.le_succ _)
  have g6a:=hk6.get GZ.out.1 (fun x=>by omega)
  have hb6:(w5.setCell ⟨w.heap.size+1,0,none⟩ (.int .i64 E.1)).heap[a]?=some (.cells (accC sb b nv S.dead) 52 (0,0)):=let ⟨_,_,_,h,_⟩:=T6;h.1
  obtain⟨w6,hw6⟩:∃ w6,w6=w5.setCell ⟨w.heap.size+1,0,none⟩ (.int .i64 E.1):=⟨_,rfl⟩
  rw[← hw6] at g6 T6 K6 g6a hb6 ⊢
  have cB1:w6.cell? ⟨w.heap.size,0,none⟩=some (.pointer (some ⟨a,0,none⟩)):=by simp[World.cell?,g6a]
  have cB2:w6.cell? ⟨w.heap.size+1,0,none⟩=some (.int .i64 E.1):=by simp[World.cell?,g6]
  refine leaves_cons (f:=27) (args:=#[.pointer (some ⟨w.heap.size,0,none⟩),.pointer (some ⟨w.heap.size+1,0,none⟩)]) (by simp) (by simp[go_sem]) ?_
  refine(ado1_any .returning w6 w.heap.size (w.heap.size+1) a sb b nv S.dead E.1 cB1 cB2 hb6).mono ?_
  rintro e u' w7 ⟨rfl,rfl,hh7,hk7⟩
  have hEd:=HQ.out.2.2.2.2.2.2.2.2.2.2.2.1
  rw[← hEd] at hh7
  have ha:a<w.heap.size:=by
   have h1:=HQ.out.1.2.1
   have h2:=HQ.out.2.2.2.2.2.2.2.2.2.2.2.2.2
   exact h2 a (by rw[HQ.out.2.2.2.2.2.1];exact .inl h1)
  have cB:w7.cell? ⟨w.heap.size+1,0,none⟩=some (.int .i64 E.1):=by
   have:=hk7.get g6 (fun x=>by omega)
   simp[World.cell?,this]
  exact⟨_,res_cell rfl _ _ (w.heap.size+1) rfl E.1 cB (by kernel_rfl),rfl,ado_fin ⟨F6,T6,K6,N6⟩ hh7 hk7⟩
 ·have q1:(R.1 == 0)=false:=by simpa using h0
  have q2:decide (R.1=0)=false:=decide_eq_false h0
  have hE2:E=R:=by
   have:=HQ.out.2.2.2.2.2.2.2.2.2.2.1
   rw[if_neg h0] at this
   exact this
  have e3b:=e3
  rw[← hE2] at e3 q1 q2
  have TZ:=hid (show ∃ F',TrioT (BoxA a (accC sb b nv S.dead) 52) (StoT sb d E.2.1 E.2.2) (VotesT nv vs) w3 F'∧Keep F w w3∧(∀ i,F' i→F i∨w.heap.size≤i)∧¬ F' (w.heap.size+1)∧¬ F' w.heap.size from by rw[hE2];exact T3.out)
  have GZ:=hid (show w3.heap[w.heap.size]?=some (.cells #[.pointer (some ⟨a,0,none⟩)] 32 (0,0))∧w3.heap[w.heap.size+1]?=some (.cells #[.int .i64 E.1] 34 (0,0))∧True from⟨H3.out.2.2,by rw[hE2];exact H3.out.1,trivial⟩)
  have HE2:=hid hE2
  rw[← hE2]
  clear hE2 h0 e3b
  go_wp2_with (at_builtin;refine stopAt ?_;intro q hq)
  have g6:=heap_setCell6 GZ.out.2.1 0 (.int .i64 E.1)
  have hk6:Keep (fun k=>k=w.heap.size+1) w3 (w3.setCell ⟨w.heap.size+1,0,none⟩ (.int .i64 E.1)):=by refine Keep.setCell (Keep.refl _ _) (.inl ?_) _;rfl
  obtain⟨F6,T6,K6,N6,Q6,-⟩:=Turns.aside (TrioT.lives (BoxA.lives _ _ _) (StoT.lives _ _ _ _) (VotesT.lives _ _)) TZ.out hk6 (Nat.le_succ _)
  have g6a:=hk6.get GZ.out.1 (fun x=>by omega)
  have hb6:(w3.setCell ⟨w.heap.size+1,0,none⟩ (.int .i64 E.1)).heap[a]?=some (.cells (accC sb b nv S.dead) 52 (0,0)):=let ⟨_,_,_,h,_⟩:=T6;h.1
  obtain⟨w6,hw6⟩:∃ w6,w6=w3.setCell ⟨w.heap.size+1,0,none⟩ (.int .i64 E.1):=⟨_,rfl⟩
  rw[← hw6] at g6 T6 K6 g6a hb6 ⊢
  have cB1:w6.cell? ⟨w.heap.size,0,none⟩=some (.pointer (some ⟨a,0,none⟩)):=by simp[World.cell?,g6a]
  have cB2:w6.cell? ⟨w.heap.size+1,0,none⟩=some (.int .i64 E.1):=by simp[World.cell?,g6]
  refine leaves_cons (f:=27) (args:=#[.pointer (some ⟨w.heap.size,0,none⟩),.pointer (some ⟨w.heap.size+1,0,none⟩)]) (by simp) (by simp[go_sem]) ?_
  refine(ado1_any .returning w6 w.heap.size (w.heap.size+1) a sb b nv S.dead E.1 cB1 cB2 hb6).mono ?_
  rintro e u' w7 ⟨rfl,rfl,hh7,hk7⟩
  have hEd:=HQ.out.2.2.2.2.2.2.2.2.2.2.2.1
  rw[← hEd] at hh7
  have ha:a<w.heap.size:=by
   have h1:=HQ.out.1.2.1
   have h2:=HQ.out.2.2.2.2.2.2.2.2.2.2.2.2.2
   exact h2 a (by rw[HQ.out.2.2.2.2.2.1];exact .inl h1)
  have cB:w7.cell? ⟨w.heap.size+1,0,none⟩=some (.int .i64 E.1):=by
   have:=hk7.get g6 (fun x=>by omega)
   simp[World.cell?,this]
  exact⟨_,res_cell rfl _ _ (w.heap.size+1) rfl E.1 cB (by kernel_rfl),rfl,ado_fin ⟨F6,T6,K6,N6⟩ hh7 hk7⟩
end Go.Proofs.Ytkjofdocgaiedaa
namespace Go.Proofs.Ytkjofdocgaiedaa
open Go.RowKit Go.Maps
open MI SO BM DM WM AC
theorem results_agg2 {P:Program} {fn:Func} {t u:Tmp} {ty:TypeId} (h:fn.results = #[.cell t ty,.tmp u]) (tmps:Array Value) (w:World) (g:Nat) (ht:tmps.getD t undef = .pointer (some ⟨g,0,none⟩)) (cs:List Value)
  (hc:∀ j u,cs[j]?=some u→w.cell? ⟨g,j,none⟩=some u) (d:TypeDesc)
  (hu:P.underlying ty=some d) (hd:(match d with | .struct _ | .array _ _=>true | _=>false)=true) (hi:(P.info? ty).map (·.size)=some cs.length) :
  (results fn tmps).run P w = .ok (.tuple #[.agg cs.toArray,tmps.getD u undef]) w:=by
 have hl:=run_loadCells_list (P:=P) w ⟨g,0,none⟩ cs (fun j v hv=>by rw[addr_add,Nat.zero_add];exact hc j v hv)
 cases hq:P.info? ty with
 | none=>simp[hq] at hi
 | some i=>
   have hs:i.size=cs.length:=by simpa [hq] using hi
   have hagg:(isAgg ty).run P w = .ok true w:=by
    unfold isAgg
    rw[Sem.run_bind,run_underlying hu w]
    cases d <;> simp_all
   have hr:(loadVar ty ⟨g,0,none⟩).run P w = .ok (.agg cs.toArray) w:=by
    simp[loadVar,Sem.run_bind,hagg,sizeOf,typeInfo,hq,hs,hl]
   have ht':tmps[t]?.getD undef = .pointer (some ⟨g,0,none⟩):=by simpa using ht
   simp[results,h,ht',asAddr,hr]
theorem results_tct {P:Program} {fn:Func} {s t u:Tmp} {ty:TypeId} (h:fn.results = #[.tmp s,.cell t ty,.tmp u]) (tmps:Array Value) (w:World) (g:Nat) (ht:tmps.getD t undef = .pointer (some ⟨g,0,none⟩)) (cs:List Value)
  (hc:∀ j u,cs[j]?=some u→w.cell? ⟨g,j,none⟩=some u) (d:TypeDesc)
  (hu:P.underlying ty=some d) (hd:(match d with | .struct _ | .array _ _=>true | _=>false)=true) (hi:(P.info? ty).map (·.size)=some cs.length) :
  (results fn tmps).run P w = .ok (.tuple #[tmps.getD s undef,.agg cs.toArray,tmps.getD u undef]) w:=by
 have hl:=run_loadCells_list (P:=P) w ⟨g,0,none⟩ cs (fun j v hv=>by rw[addr_add,Nat.zero_add];exact hc j v hv)
 cases hq:P.info? ty with
 | none=>simp[hq] at hi
 | some i=>
   have hs:i.size=cs.length:=by simpa [hq] using hi
   have hagg:(isAgg ty).run P w = .ok true w:=by
    unfold isAgg
    rw[Sem.run_bind,run_underlying hu w]
    cases d <;> simp_all
   have hr:(loadVar ty ⟨g,0,none⟩).run P w = .ok (.agg cs.toArray) w:=by
    simp[loadVar,Sem.run_bind,hagg,sizeOf,typeInfo,hq,hs,hl]
   have ht':tmps[t]?.getD undef = .pointer (some ⟨g,0,none⟩):=by simpa using ht
   simp[results,h,ht',asAddr,hr]
theorem balN (w1:World) (g:Nat) (h:w1.heap[g]?=some (.cells #[.int .u64 0,.int .i64 0] 24 (0,0))):let w2:=(w1.setCell ⟨g,0,none⟩ (.int .u64 0)).setCell ⟨g,1,none⟩ (.int .i64 0)
  (∀ j u,[Value.int .u64 0,.int .i64 0][j]?=some u→w2.cell? ⟨g,j,none⟩=some u)∧Keep (fun k=>k=g) w1 w2:=by
 intro w2
 have g1:=heap_setCell6 h 0 (.int .u64 0)
 have g2:=heap_setCell6 g1 1 (.int .i64 0)
 refine⟨fun j u hu=>?_,?_⟩
 ·rw[cell_of_row _ _ _ _ _ _ g2]
  simpa using hu
 ·refine Keep.setCell (Keep.setCell (Keep.refl _ _) (.inl ?_) _) (.inl ?_) _ <;> rfl
set_option maxRecDepth 20000 in
theorem apromised_nil (w:World):Calls Try.prog 14 #[.pointer none] w fun e w'=>e = .returned (balV Bal.zero)∧Keep (fun _=>False) w w':=by
 have hn:=heap_alloc_new w (.cells #[.int .u64 0,.int .i64 0] 24)
 have hk:Keep (fun _=>False) w (w.alloc (.cells #[.int .u64 0,.int .i64 0] 24)):=(Keep.refl _ _).alloc _
 go_enter Try.func14,Try.ntmps14
 go_upto_region 1 with fail
 obtain⟨w1,hw1⟩:∃ w1,w1=w.alloc (.cells #[.int .u64 0,.int .i64 0] 24):=⟨_,rfl⟩
 rw[← hw1] at hn hk ⊢
 clear hw1
 have d0:w1.cell? ⟨w.heap.size,0,none⟩=some (.int .u64 0):=by simp[World.cell?,hn]
 have d1:w1.cell? ⟨w.heap.size,1,none⟩=some (.int .i64 0):=by simp[World.cell?,hn]
 have f0:∀ o,w1.frozen? ⟨w.heap.size,o,none⟩=false:=fun o=>by simp[World.frozen?,hn]
 have H1:=hid (And.intro hn hk)
 clear hn hk
 go_wp2_with (at_builtin;refine stopAt ?_;intro q hq)
 obtain⟨h1,h2⟩:=balN w1 w.heap.size H1.out.1
 exact bodyPost_ret (results_agg rfl _ _ w.heap.size rfl [.int .u64 0,.int .i64 0] h1 _ Try.underlying24 rfl (by kernel_rfl)) rfl ⟨rfl,H1.out.2.next h2 (fun _ _ x=>x) (fun k hk x=>by omega)⟩
set_option maxRecDepth 20000 in
theorem avotes_nil (w:World) (k:Nat):Calls Try.prog 15 #[.pointer none,.int .u64 (k:Int)] w fun e w'=>e = .returned (.slice none 0 0)∧w'=w:=by
 go_enter Try.func15,Try.ntmps15
 go_wp2_with (at_builtin;refine stopAt ?_;intro q hq)
 go_ret
 exact⟨rfl,rfl⟩
set_option maxRecDepth 20000 in
theorem atrim_nil (w:World) (k:Nat):Calls Try.prog 12 #[.pointer none,.int .u64 (k:Int)] w fun e w'=>e = .returned (.tuple #[.int .i64 0,.int .i64 1])∧w'=w:=by
 go_enter Try.func12,Try.ntmps12
 go_wp2_with (at_builtin;refine stopAt ?_;intro q hq)
 go_ret2
 exact⟨rfl,rfl⟩
set_option maxRecDepth 20000 in
theorem aprep_nil (w:World) (b:Bal) (k:Nat):Calls Try.prog 10 #[.pointer none,balV b,.int .u64 (k:Int)] w fun e w'=>e = .returned (.tuple #[.slice none 0 0,balV Bal.zero,.int .i64 1])∧Keep (fun _=>False) w w':=by
 have hn1:=heap_alloc_new w (.cells (balC b) 24)
 have hk1:Keep (fun _=>False) w (w.alloc (.cells (balC b) 24)):=(Keep.refl _ _).alloc _
 have hz1:(w.alloc (.cells (balC b) 24)).heap.size=w.heap.size+1:=by simp
 have hn:=heap_alloc_new (w.alloc (.cells (balC b) 24)) (.cells #[.int .u64 0,.int .i64 0] 24)
 have hk2:Keep (fun _=>False) (w.alloc (.cells (balC b) 24)) ((w.alloc (.cells (balC b) 24)).alloc (.cells #[.int .u64 0,.int .i64 0] 24)):=(Keep.refl _ _).alloc _
 rw[hz1] at hn
 have hk:=hk1.next hk2 (H:=fun _=>False) (fun _ _ x=>x) (fun _ _ x=>x)
 clear hk1 hk2 hn1 hz1
 go_enter Try.func10,Try.ntmps10
 go_upto_region 1 with fail
 obtain⟨w1,hw1⟩:∃ w1,w1=(w.alloc (.cells (balC b) 24)).alloc (.cells #[.int .u64 0,.int .i64 0] 24):=⟨_,rfl⟩
 rw[← hw1] at hn hk ⊢
 clear hw1
 have d0:w1.cell? ⟨w.heap.size+1,0,none⟩=some (.int .u64 0):=by simp[World.cell?,hn]
 have d1:w1.cell? ⟨w.heap.size+1,1,none⟩=some (.int .i64 0):=by simp[World.cell?,hn]
 have f0:∀ o,w1.frozen? ⟨w.heap.size+1,o,none⟩=false:=fun o=>by simp[World.frozen?,hn]
 have H1:=hid (And.intro hn hk)
 clear hn hk
 go_wp2_with (at_builtin;refine stopAt ?_;intro q hq)
 obtain⟨h1,h2⟩:=balN w1 (w.heap.size+1) H1.out.1
 exact bodyPost_ret (results_tct rfl _ _ (w.heap.size+1) rfl [.int .u64 0,.int .i64 0] h1 _ Try.underlying24 rfl (by kernel_rfl)) rfl ⟨rfl,H1.out.2.next h2 (fun _ _ x=>x) (fun k hk x=>by omega)⟩
end Go.Proofs.Ytkjofdocgaiedaa
namespace Go.Proofs.Ytkjofdocgaiedaa
open Go.RowKit Go.Maps
open MI SO BM DM WM AC
set_option maxRecDepth 20000 in
theorem aacc_nil (w:World) (v:Vt) (u:Value):Calls Try.prog 11 #[.pointer none,.agg (voteV v u).toArray] w fun e w'=>e = .returned (.tuple #[balV Bal.zero,.int .i64 1])∧Keep (fun _=>False) w w':=by
 have hk1:Keep (fun _=>False) w (w.alloc (.cells (voteV v u).toArray 31)):=(Keep.refl _ _).alloc _
 have hz1:(w.alloc (.cells (voteV v u).toArray 31)).heap.size=w.heap.size+1:=by simp
 have hn:=heap_alloc_new (w.alloc (.cells (voteV v u).toArray 31)) (.cells #[.int .u64 0,.int .i64 0] 24)
 have hk2:Keep (fun _=>False) (w.alloc (.cells (voteV v u).toArray 31)) ((w.alloc (.cells (voteV v u).toArray 31)).alloc (.cells #[.int .u64 0,.int .i64 0] 24)):=(Keep.refl _ _).alloc _
 rw[hz1] at hn
 have hk:=hk1.next hk2 (H:=fun _=>False) (fun _ _ x=>x) (fun _ _ x=>x)
 clear hk1 hk2 hz1
 go_enter Try.func11,Try.ntmps11
 go_upto_region 1 with fail
 obtain⟨w1,hw1⟩:∃ w1,w1=(w.alloc (.cells (voteV v u).toArray 31)).alloc (.cells #[.int .u64 0,.int .i64 0] 24):=⟨_,rfl⟩
 rw[← hw1] at hn hk ⊢
 clear hw1
 have d0:w1.cell? ⟨w.heap.size+1,0,none⟩=some (.int .u64 0):=by simp[World.cell?,hn]
 have d1:w1.cell? ⟨w.heap.size+1,1,none⟩=some (.int .i64 0):=by simp[World.cell?,hn]
 have f0:∀ o,w1.frozen? ⟨w.heap.size+1,o,none⟩=false:=fun o=>by simp[World.frozen?,hn]
 have H1:=hid (And.intro hn hk)
 clear hn hk
 go_wp2_with (at_builtin;refine stopAt ?_;intro q hq)
 obtain⟨h1,h2⟩:=balN w1 (w.heap.size+1) H1.out.1
 exact bodyPost_ret (results_agg2 rfl _ _ (w.heap.size+1) rfl [.int .u64 0,.int .i64 0] h1 _ Try.underlying24 rfl (by kernel_rfl)) rfl ⟨rfl,H1.out.2.next h2 (fun _ _ x=>x) (fun k hk x=>by omega)⟩
theorem results_cc {P:Program} {fn:Func} {t u:Tmp} {ty tz:TypeId} (h:fn.results = #[.cell t ty,.cell u tz]) (tm:Array Value) (w:World) (g k:Nat) (ht:tm.getD t undef = .pointer (some ⟨g,0,none⟩)) (hu:tm.getD u undef = .pointer (some ⟨k,0,none⟩))
  (x:Option Addr) (y:Int) (hx:w.cell? ⟨g,0,none⟩=some (.pointer x)) (hy:w.cell? ⟨k,0,none⟩=some (.int .i64 y)) (ha:(isAgg ty).run P w = .ok false w) (hb:(isAgg tz).run P w = .ok false w):(results fn tm).run P w = .ok (.tuple #[.pointer x,.int .i64 y]) w:=by
 have ht':tm[t]?.getD undef = .pointer (some ⟨g,0,none⟩):=by simpa using ht
 have hu':tm[u]?.getD undef = .pointer (some ⟨k,0,none⟩):=by simpa using hu
 simp[results,h,ht',hu',asAddr,loadVar,Sem.run_bind,ha,hb,go_sem,hx,hy]
set_option maxRecDepth 20000 in
theorem aopen_nil (w:World):Calls Try.prog 13 #[.pointer none] w fun e w'=>e = .returned (.tuple #[.pointer none,.int .i64 1])∧Keep (fun _=>False) w w':=by
 have hk1:Keep (fun _=>False) w (w.alloc (.cells #[.pointer none] 32)):=(Keep.refl _ _).alloc _
 have hz1:(w.alloc (.cells #[.pointer none] 32)).heap.size=w.heap.size+1:=by simp
 have hn1:=heap_alloc_new w (.cells #[.pointer none] 32)
 have hn:=heap_alloc_new (w.alloc (.cells #[.pointer none] 32)) (.cells #[.int .i64 0] 34)
 have hk2:Keep (fun _=>False) (w.alloc (.cells #[.pointer none] 32)) ((w.alloc (.cells #[.pointer none] 32)).alloc (.cells #[.int .i64 0] 34)):=(Keep.refl _ _).alloc _
 have hn2:=hk2.get hn1 id
 rw[hz1] at hn
 have hk:=hk1.next hk2 (H:=fun _=>False) (fun _ _ x=>x) (fun _ _ x=>x)
 clear hk1 hk2 hz1 hn1
 go_enter Try.func13,Try.ntmps13
 go_upto_region 1 with fail
 obtain⟨w1,hw1⟩:∃ w1,w1=(w.alloc (.cells #[.pointer none] 32)).alloc (.cells #[.int .i64 0] 34):=⟨_,rfl⟩
 rw[← hw1] at hn hn2 hk ⊢
 clear hw1
 have d0:w1.cell? ⟨w.heap.size,0,none⟩=some (.pointer none):=by simp[World.cell?,hn2]
 have d1:w1.cell? ⟨w.heap.size+1,0,none⟩=some (.int .i64 0):=by simp[World.cell?,hn]
 have f0:∀ o,w1.frozen? ⟨w.heap.size,o,none⟩=false:=fun o=>by simp[World.frozen?,hn2]
 have f1:∀ o,w1.frozen? ⟨w.heap.size+1,o,none⟩=false:=fun o=>by simp[World.frozen?,hn]
 have H1:=hid (And.intro hn (And.intro hn2 hk))
 clear hn hn2 hk
 go_wp2_with (at_builtin;refine stopAt ?_;intro q hq)
 refine(sopen_nil w1).mono ?_
 rintro e w2 ⟨rfl,rfl⟩
 go_wp2_with (at_builtin;refine stopAt ?_;intro q hq)
 have g1:=heap_setCell6 H1.out.2.1 0 (.pointer none)
 have k1:Keep (fun k=>k=w.heap.size) w2 (w2.setCell ⟨w.heap.size,0,none⟩ (.pointer none)):=by refine Keep.setCell (Keep.refl _ _) (.inl ?_) _;rfl
 have g2:=k1.get H1.out.1 (fun x=>by omega)
 have g3:=heap_setCell6 g2 0 (.int .i64 1)
 have k2:Keep (fun k=>k=w.heap.size+1) (w2.setCell ⟨w.heap.size,0,none⟩ (.pointer none)) ((w2.setCell ⟨w.heap.size,0,none⟩ (.pointer none)).setCell ⟨w.heap.size+1,0,none⟩ (.int .i64 1)):=by refine Keep.setCell (Keep.refl _ _) (.inl ?_) _;rfl
 have g4:=k2.get g1 (fun x=>by omega)
 exact bodyPost_ret (results_cc rfl _ _ w.heap.size (w.heap.size+1) rfl rfl none 1 (by simp[World.cell?,g4]) (by simp[World.cell?,g3]) (by kernel_rfl) (by kernel_rfl)) rfl ⟨rfl,(H1.out.2.2.next k1 (fun _ _ x=>x) (fun k hk x=>by omega)).next k2 (fun _ _ x=>x) (fun k hk x=>by omega)⟩
end Go.Proofs.Ytkjofdocgaiedaa
namespace Go.Proofs.Ytkjofdocgaiedaa
open Go.RowKit Go.Maps
open MI SO BM DM WM AC
theorem box_bal3 (w w3:World) (a b c:Bal) (hw:w3=((w.alloc (.cells (balC a) 24)).alloc (.cells (balC b) 24)).alloc (.cells (balC c) 24)) :
  w3.heap[w.heap.size]?=some (.cells (balC a) 24 (0,0))∧w3.heap[w.heap.size+1]?=some (.cells (balC b) 24 (0,0))∧w3.heap[w.heap.size+2]?=some (.cells (balC c) 24 (0,0))∧Keep (fun _=>False) w w3:=by
 have h1:=heap_alloc_new w (.cells (balC a) 24)
 have hk1:Keep (fun _=>False) w (w.alloc (.cells (balC a) 24)):=(Keep.refl _ _).alloc _
 have e1:(w.alloc (.cells (balC a) 24)).heap.size=w.heap.size+1:=by simp
 generalize w.alloc (.cells (balC a) 24)=u1 at *
 have h2:=heap_alloc_new u1 (.cells (balC b) 24)
 have hk2:Keep (fun _=>False) u1 (u1.alloc (.cells (balC b) 24)):=(Keep.refl _ _).alloc _
 have e2:(u1.alloc (.cells (balC b) 24)).heap.size=w.heap.size+2:=by simp[e1]
 generalize u1.alloc (.cells (balC b) 24)=u2 at *
 have h3:=heap_alloc_new u2 (.cells (balC c) 24)
 have hk3:Keep (fun _=>False) u2 (u2.alloc (.cells (balC c) 24)):=(Keep.refl _ _).alloc _
 rw[← hw] at h3 hk3
 rw[e1] at h2
 rw[e2] at h3
 exact⟨hk3.get (hk2.get h1 id) id,hk3.get h2 id,h3,(hk1.next hk2 (H:=fun _=>False) (fun _ _ x=>x) (fun _ _ x=>x)).next hk3 (fun _ _ x=>x) (fun _ _ x=>x)⟩
structure Bx (w:World) (a b c:Bal) (W:World):Prop where
 a:W.heap[w.heap.size]?=some (.cells (balC a) 24 (0,0))
 b:W.heap[w.heap.size+1]?=some (.cells (balC b) 24 (0,0))
 c:W.heap[w.heap.size+2]?=some (.cells (balC c) 24 (0,0))
 keep:Keep (fun _=>False) w W
theorem Bx.next {w W W':World} {a b c:Bal} (h:Bx w a b c W) (k:Keep (fun _=>False) W W'):Bx w a b c W':=⟨k.get h.a id,k.get h.b id,k.get h.c id,h.keep.next k (fun _ _ x=>x) (fun _ _ x=>x)⟩
theorem Bx.cells {w W:World} {a b c:Bal} (h:Bx w a b c W):W.cell? ⟨w.heap.size,0,none⟩=some (.int .u64 (a.n:Int))∧W.cell? ⟨w.heap.size,1,none⟩=some (.int .i64 a.node)∧
  W.cell? ⟨w.heap.size+1,0,none⟩=some (.int .u64 (b.n:Int))∧W.cell? ⟨w.heap.size+1,1,none⟩=some (.int .i64 b.node)∧
  W.cell? ⟨w.heap.size+2,0,none⟩=some (.int .u64 (c.n:Int))∧W.cell? ⟨w.heap.size+2,1,none⟩=some (.int .i64 c.node):=by
 refine⟨?_,?_,?_,?_,?_,?_⟩ <;> simp[World.cell?,h.a,h.b,h.c,balC]
theorem zero_less {a:Bal} (h:rightB a=true):less Bal.zero a=true∧less a Bal.zero=false:=by
 have:=rightB_iff.1 h
 constructor
 ·show (decide (0<a.n) || _)=true
  rw[decide_eq_true this.1]
  rfl
 ·show (decide (a.n<0) || (decide (a.n=0) && _))=false
  rw[decide_eq_false (show ¬ a.n<0 by omega),decide_eq_false (show ¬ a.n=0 by omega)]
  rfl
set_option maxRecDepth 20000 in
set_option maxHeartbeats 4000000 in
theorem aballots_walk_of (hkn:∀ w:World,Calls Try.prog 9 #[] w fun e w'=>e = .returned (.bool true)∧Keep (fun _=>False) w w') (w:World) (a b c:Bal):Calls Try.prog 3 #[balV a,balV b,balV c] w fun e w'=>e = .returned (.bool true)∧Keep (fun _=>False) w w':=by
 obtain⟨w0,hw0⟩:∃ w0,w0=((w.alloc (.cells (balC a) 24)).alloc (.cells (balC b) 24)).alloc (.cells (balC c) 24):=⟨_,rfl⟩
 have B0:Bx w a b c w0:=let ⟨x,y,z,k⟩:=box_bal3 w w0 a b c hw0;⟨x,y,z,k⟩
 have HB:=hid B0
 obtain⟨c0,c1,c2,c3,c4,c5⟩:=B0.cells
 clear B0
 have HL:=hid (fun W x y=>aless_any W x y)
 have HK:=hid hkn
 clear hkn
 go_enter Try.func3,Try.ntmps3
 go_upto_region 1 with fail
 rw[← hw0]
 clear hw0
 go_wp2_with (at_builtin;refine stopAt ?_;intro q hq)
 refine(HL.out w0 a b).mono ?_
 rintro e w1 ⟨rfl,hk1⟩
 have B1:=HB.out.next hk1
 replace HB:=hid B1
 clear c0 c1 c2 c3 c4 c5
 obtain⟨c0,c1,c2,c3,c4,c5⟩:=B1.cells
 clear B1 hk1
 go_wp2_with (at_builtin;refine stopAt ?_;intro q hq)
 refine(HL.out w1 b a).mono ?_
 rintro e w2 ⟨rfl,hk2⟩
 have B2:=HB.out.next hk2
 replace HB:=hid B2
 clear c0 c1 c2 c3 c4 c5
 obtain⟨c0,c1,c2,c3,c4,c5⟩:=B2.cells
 clear B2 hk2
 go_wp2_with (at_builtin;refine stopAt ?_;intro q hq)
 refine(HL.out w2 b c).mono ?_
 rintro e w3 ⟨rfl,hk3⟩
 have B3:=HB.out.next hk3
 replace HB:=hid B3
 clear c0 c1 c2 c3 c4 c5
 obtain⟨c0,c1,c2,c3,c4,c5⟩:=B3.cells
 clear B3 hk3
 go_wp2_with (at_builtin;refine stopAt ?_;intro q hq)
 refine(HL.out w3 a c).mono ?_
 rintro e w4 ⟨rfl,hk4⟩
 have B4:=HB.out.next hk4
 replace HB:=hid B4
 clear c0 c1 c2 c3 c4 c5
 obtain⟨c0,c1,c2,c3,c4,c5⟩:=B4.cells
 clear B4 hk4
 go_upto_region 5 with fail
 obtain⟨p,hp⟩:∃ p,p=less a b:=⟨_,rfl⟩
 obtain⟨q,hq⟩:∃ q,q=less b a:=⟨_,rfl⟩
 obtain⟨r,hr⟩:∃ r,r=less b c:=⟨_,rfl⟩
 obtain⟨s,hs⟩:∃ s,s=less a c:=⟨_,rfl⟩
 rw[← hp,← hq,← hr,← hs]
 have HR:=hid (fun W=>rless9_any W a b)
 cases p with
 | true=>
   have hq0:q=false:=by
    cases q with
    | false=>rfl
    | true=>exact absurd (less_trans hp.symm hq.symm) (by rw[less_irrefl a];decide)
   subst hq0
   have hne:a≠b:=fun h=>by rw[h,less_irrefl] at hp;cases hp
   have HP:=hid (And.intro hp.symm (less_irrefl a))
   cases r with
   | true=>
     have hs0:s=true:=hs.trans (less_trans hp.symm hr.symm)
     subst hs0
     clear hp hq hr hs
     have dn:(a.n=b.n∧a.node≠b.node)∨a.n≠b.n:=by
      by_cases h:a.n=b.n
      ·refine .inl ⟨h,fun h2=>hne ?_⟩
       cases a;cases b;simp_all
      ·exact .inr h
     clear hne
     rcases dn with ⟨d1,d2⟩ | d1
     ·have t1:((a.n:Int) == (b.n:Int))=true:=by simp;omega
      have t2:decide (a.n=b.n)=true:=by simpa using d1
      have t3:(a.node == b.node)=false:=by simpa using d2
      have t4:decide (a.node=b.node)=false:=by simpa using d2
      clear d1 d2
      go_wp2_with (at_builtin;refine stopAt ?_;intro q hq)
      refine(HL.out w4 a a).mono ?_
      rintro e w5 ⟨rfl,hk5⟩
      replace HB:=hid (HB.out.next hk5)
      clear c0 c1 c2 c3 c4 c5 hk5
      obtain⟨c0,c1,c2,c3,c4,c5⟩:=HB.out.cells
      rw[HP.out.2]
      go_wp2_with (at_builtin;refine stopAt ?_;intro q hq)
      refine(HR.out w5).mono ?_
      rintro e w6 ⟨rfl,hk6⟩
      replace HB:=hid (HB.out.next hk6)
      clear c0 c1 c2 c3 c4 c5 hk6
      obtain⟨c0,c1,c2,c3,c4,c5⟩:=HB.out.cells
      rw[HP.out.1]
      go_upto_region 7 with fail
      cases hra:rightB a with
      | true=>
        obtain⟨z1,z2⟩:=zero_less hra
        have HA:=hid (show ∀ W:World,Calls Try.prog 7 #[balV a] W fun e w'=>e = .returned (.bool true)∧Keep (fun _=>False) W w' from fun W=>by have h:=aright_any W a;rw[hra] at h;exact h)
        have HB9:=hid (show ∀ W:World,Calls Try.prog 8 #[balV a] W fun e w'=>e = .returned (.bool true)∧Keep (fun _=>False) W w' from fun W=>by have h:=rright9_any W a;rw[hra] at h;exact h)
        have HZ1:=hid (show ∀ W:World,Calls Try.prog 5 #[.agg #[.int .u64 0,.int .i64 0],balV a] W fun e w'=>e = .returned (.bool true)∧Keep (fun _=>False) W w' from fun W=>by have h:=aless_any W Bal.zero a;rw[z1] at h;exact h)
        have HZ2:=hid (show ∀ W:World,Calls Try.prog 5 #[balV a,.agg #[.int .u64 0,.int .i64 0]] W fun e w'=>e = .returned (.bool false)∧Keep (fun _=>False) W w' from fun W=>by have h:=aless_any W a Bal.zero;rw[z2] at h;exact h)
        clear z1 z2 hra
        have j0:=fun s:Later w6=>s.cell c0
        have j1:=fun s:Later w6=>s.cell c1
        clear HL HR HP
        (refine wp_region_later (by kernel_rfl) (by kernel_rfl) ?_;(repeat (go_big_quiet_step ((first | (go_at_call 7;exact Later.call (HA.out _)) | (go_at_call 8;exact Later.call (HB9.out _)) | (go_at_call 5;first | (with_reducible exact Later.call (HZ1.out _)) | (with_reducible exact Later.call (HZ2.out _)) | exact Later.call (HZ1.out _) | exact Later.call (HZ2.out _)) | (go_at_call 9;exact Later.call (HK.out _))))));refine wpQuiet_nil ?_;rintro _ ⟨sq,rfl⟩)
        have hk7:=sq.keep
        replace HB:=hid (HB.out.next hk7)
        clear hk7 j0 j1 c0 c1 c2 c3 c4 c5
        go_wp2_with (at_builtin;refine stopAt ?_;intro q hq)
        go_ret
        exact⟨rfl,HB.out.keep⟩
      | false=>
        have HA:=hid (show ∀ W:World,Calls Try.prog 7 #[balV a] W fun e w'=>e = .returned (.bool false)∧Keep (fun _=>False) W w' from fun W=>by have h:=aright_any W a;rw[hra] at h;exact h)
        have HB9:=hid (show ∀ W:World,Calls Try.prog 8 #[balV a] W fun e w'=>e = .returned (.bool false)∧Keep (fun _=>False) W w' from fun W=>by have h:=rright9_any W a;rw[hra] at h;exact h)
        clear hra
        have j0:=fun s:Later w6=>s.cell c0
        have j1:=fun s:Later w6=>s.cell c1
        clear HL HR HP
        (refine wp_region_later (by kernel_rfl) (by kernel_rfl) ?_;(repeat (go_big_quiet_step ((first | (go_at_call 7;exact Later.call (HA.out _)) | (go_at_call 8;exact Later.call (HB9.out _)) | (go_at_call 9;exact Later.call (HK.out _))))));refine wpQuiet_nil ?_;rintro _ ⟨sq,rfl⟩)
        have hk7:=sq.keep
        replace HB:=hid (HB.out.next hk7)
        clear hk7 j0 j1 c0 c1 c2 c3 c4 c5
        go_wp2_with (at_builtin;refine stopAt ?_;intro q hq)
        go_ret
        exact⟨rfl,HB.out.keep⟩
     ·have t1:((a.n:Int) == (b.n:Int))=false:=by simp;omega
      have t2:decide (a.n=b.n)=false:=by simpa using d1
      clear d1
      go_wp2_with (at_builtin;refine stopAt ?_;intro q hq)
      refine(HL.out w4 a a).mono ?_
      rintro e w5 ⟨rfl,hk5⟩
      replace HB:=hid (HB.out.next hk5)
      clear c0 c1 c2 c3 c4 c5 hk5
      obtain⟨c0,c1,c2,c3,c4,c5⟩:=HB.out.cells
      rw[HP.out.2]
      go_wp2_with (at_builtin;refine stopAt ?_;intro q hq)
      refine(HR.out w5).mono ?_
      rintro e w6 ⟨rfl,hk6⟩
      replace HB:=hid (HB.out.next hk6)
      clear c0 c1 c2 c3 c4 c5 hk6
      obtain⟨c0,c1,c2,c3,c4,c5⟩:=HB.out.cells
      rw[HP.out.1]
      go_upto_region 7 with fail
      cases hra:rightB a with
      | true=>
        obtain⟨z1,z2⟩:=zero_less hra
        have HA:=hid (show ∀ W:World,Calls Try.prog 7 #[balV a] W fun e w'=>e = .returned (.bool true)∧Keep (fun _=>False) W w' from fun W=>by have h:=aright_any W a;rw[hra] at h;exact h)
        have HB9:=hid (show ∀ W:World,Calls Try.prog 8 #[balV a] W fun e w'=>e = .returned (.bool true)∧Keep (fun _=>False) W w' from fun W=>by have h:=rright9_any W a;rw[hra] at h;exact h)
        have HZ1:=hid (show ∀ W:World,Calls Try.prog 5 #[.agg #[.int .u64 0,.int .i64 0],balV a] W fun e w'=>e = .returned (.bool true)∧Keep (fun _=>False) W w' from fun W=>by have h:=aless_any W Bal.zero a;rw[z1] at h;exact h)
        have HZ2:=hid (show ∀ W:World,Calls Try.prog 5 #[balV a,.agg #[.int .u64 0,.int .i64 0]] W fun e w'=>e = .returned (.bool false)∧Keep (fun _=>False) W w' from fun W=>by have h:=aless_any W a Bal.zero;rw[z2] at h;exact h)
        clear z1 z2 hra
        have j0:=fun s:Later w6=>s.cell c0
        have j1:=fun s:Later w6=>s.cell c1
        clear HL HR HP
        (refine wp_region_later (by kernel_rfl) (by kernel_rfl) ?_;(repeat (go_big_quiet_step ((first | (go_at_call 7;exact Later.call (HA.out _)) | (go_at_call 8;exact Later.call (HB9.out _)) | (go_at_call 5;first | (with_reducible exact Later.call (HZ1.out _)) | (with_reducible exact Later.call (HZ2.out _)) | exact Later.call (HZ1.out _) | exact Later.call (HZ2.out _)) | (go_at_call 9;exact Later.call (HK.out _))))));refine wpQuiet_nil ?_;rintro _ ⟨sq,rfl⟩)
        have hk7:=sq.keep
        replace HB:=hid (HB.out.next hk7)
        clear hk7 j0 j1 c0 c1 c2 c3 c4 c5
        go_wp2_with (at_builtin;refine stopAt ?_;intro q hq)
        go_ret
        exact⟨rfl,HB.out.keep⟩
      | false=>
        have HA:=hid (show ∀ W:World,Calls Try.prog 7 #[balV a] W fun e w'=>e = .returned (.bool false)∧Keep (fun _=>False) W w' from fun W=>by have h:=aright_any W a;rw[hra] at h;exact h)
        have HB9:=hid (show ∀ W:World,Calls Try.prog 8 #[balV a] W fun e w'=>e = .returned (.bool false)∧Keep (fun _=>False) W w' from fun W=>by have h:=rright9_any W a;rw[hra] at h;exact h)
        clear hra
        have j0:=fun s:Later w6=>s.cell c0
        have j1:=fun s:Later w6=>s.cell c1
        clear HL HR HP
        (refine wp_region_later (by kernel_rfl) (by kernel_rfl) ?_;(repeat (go_big_quiet_step ((first | (go_at_call 7;exact Later.call (HA.out _)) | (go_at_call 8;exact Later.call (HB9.out _)) | (go_at_call 9;exact Later.call (HK.out _))))));refine wpQuiet_nil ?_;rintro _ ⟨sq,rfl⟩)
        have hk7:=sq.keep
        replace HB:=hid (HB.out.next hk7)
        clear hk7 j0 j1 c0 c1 c2 c3 c4 c5
        go_wp2_with (at_builtin;refine stopAt ?_;intro q hq)
        go_ret
        exact⟨rfl,HB.out.keep⟩
   | false=>
     clear hp hq hr hs
     have dn:(a.n=b.n∧a.node≠b.node)∨a.n≠b.n:=by
      by_cases h:a.n=b.n
      ·refine .inl ⟨h,fun h2=>hne ?_⟩
       cases a;cases b;simp_all
      ·exact .inr h
     clear hne
     rcases dn with ⟨d1,d2⟩ | d1
     ·have t1:((a.n:Int) == (b.n:Int))=true:=by simp;omega
      have t2:decide (a.n=b.n)=true:=by simpa using d1
      have t3:(a.node == b.node)=false:=by simpa using d2
      have t4:decide (a.node=b.node)=false:=by simpa using d2
      clear d1 d2
      go_wp2_with (at_builtin;refine stopAt ?_;intro q hq)
      refine(HL.out w4 a a).mono ?_
      rintro e w5 ⟨rfl,hk5⟩
      replace HB:=hid (HB.out.next hk5)
      clear c0 c1 c2 c3 c4 c5 hk5
      obtain⟨c0,c1,c2,c3,c4,c5⟩:=HB.out.cells
      rw[HP.out.2]
      go_wp2_with (at_builtin;refine stopAt ?_;intro q hq)
      refine(HR.out w5).mono ?_
      rintro e w6 ⟨rfl,hk6⟩
      replace HB:=hid (HB.out.next hk6)
      clear c0 c1 c2 c3 c4 c5 hk6
      obtain⟨c0,c1,c2,c3,c4,c5⟩:=HB.out.cells
      rw[HP.out.1]
      go_upto_region 7 with fail
      cases hra:rightB a with
      | true=>
        obtain⟨z1,z2⟩:=zero_less hra
        have HA:=hid (show ∀ W:World,Calls Try.prog 7 #[balV a] W fun e w'=>e = .returned (.bool true)∧Keep (fun _=>False) W w' from fun W=>by have h:=aright_any W a;rw[hra] at h;exact h)
        have HB9:=hid (show ∀ W:World,Calls Try.prog 8 #[balV a] W fun e w'=>e = .returned (.bool true)∧Keep (fun _=>False) W w' from fun W=>by have h:=rright9_any W a;rw[hra] at h;exact h)
        have HZ1:=hid (show ∀ W:World,Calls Try.prog 5 #[.agg #[.int .u64 0,.int .i64 0],balV a] W fun e w'=>e = .returned (.bool true)∧Keep (fun _=>False) W w' from fun W=>by have h:=aless_any W Bal.zero a;rw[z1] at h;exact h)
        have HZ2:=hid (show ∀ W:World,Calls Try.prog 5 #[balV a,.agg #[.int .u64 0,.int .i64 0]] W fun e w'=>e = .returned (.bool false)∧Keep (fun _=>False) W w' from fun W=>by have h:=aless_any W a Bal.zero;rw[z2] at h;exact h)
        clear z1 z2 hra
        have j0:=fun s:Later w6=>s.cell c0
        have j1:=fun s:Later w6=>s.cell c1
        clear HL HR HP
        (refine wp_region_later (by kernel_rfl) (by kernel_rfl) ?_;(repeat (go_big_quiet_step ((first | (go_at_call 7;exact Later.call (HA.out _)) | (go_at_call 8;exact Later.call (HB9.out _)) | (go_at_call 5;first | (with_reducible exact Later.call (HZ1.out _)) | (with_reducible exact Later.call (HZ2.out _)) | exact Later.call (HZ1.out _) | exact Later.call (HZ2.out _)) | (go_at_call 9;exact Later.call (HK.out _))))));refine wpQuiet_nil ?_;rintro _ ⟨sq,rfl⟩)
        have hk7:=sq.keep
        replace HB:=hid (HB.out.next hk7)
        clear hk7 j0 j1 c0 c1 c2 c3 c4 c5
        go_wp2_with (at_builtin;refine stopAt ?_;intro q hq)
        go_ret
        exact⟨rfl,HB.out.keep⟩
      | false=>
        have HA:=hid (show ∀ W:World,Calls Try.prog 7 #[balV a] W fun e w'=>e = .returned (.bool false)∧Keep (fun _=>False) W w' from fun W=>by have h:=aright_any W a;rw[hra] at h;exact h)
        have HB9:=hid (show ∀ W:World,Calls Try.prog 8 #[balV a] W fun e w'=>e = .returned (.bool false)∧Keep (fun _=>False) W w' from fun W=>by have h:=rright9_any W a;rw[hra] at h;exact h)
        clear hra
        have j0:=fun s:Later w6=>s.cell c0
        have j1:=fun s:Later w6=>s.cell c1
        clear HL HR HP
        (refine wp_region_later (by kernel_rfl) (by kernel_rfl) ?_;(repeat (go_big_quiet_step ((first | (go_at_call 7;exact Later.call (HA.out _)) | (go_at_call 8;exact Later.call (HB9.out _)) | (go_at_call 9;exact Later.call (HK.out _))))));refine wpQuiet_nil ?_;rintro _ ⟨sq,rfl⟩)
        have hk7:=sq.keep
        replace HB:=hid (HB.out.next hk7)
        clear hk7 j0 j1 c0 c1 c2 c3 c4 c5
        go_wp2_with (at_builtin;refine stopAt ?_;intro q hq)
        go_ret
        exact⟨rfl,HB.out.keep⟩
     ·have t1:((a.n:Int) == (b.n:Int))=false:=by simp;omega
      have t2:decide (a.n=b.n)=false:=by simpa using d1
      clear d1
      go_wp2_with (at_builtin;refine stopAt ?_;intro q hq)
      refine(HL.out w4 a a).mono ?_
      rintro e w5 ⟨rfl,hk5⟩
      replace HB:=hid (HB.out.next hk5)
      clear c0 c1 c2 c3 c4 c5 hk5
      obtain⟨c0,c1,c2,c3,c4,c5⟩:=HB.out.cells
      rw[HP.out.2]
      go_wp2_with (at_builtin;refine stopAt ?_;intro q hq)
      refine(HR.out w5).mono ?_
      rintro e w6 ⟨rfl,hk6⟩
      replace HB:=hid (HB.out.next hk6)
      clear c0 c1 c2 c3 c4 c5 hk6
      obtain⟨c0,c1,c2,c3,c4,c5⟩:=HB.out.cells
      rw[HP.out.1]
      go_upto_region 7 with fail
      cases hra:rightB a with
      | true=>
        obtain⟨z1,z2⟩:=zero_less hra
        have HA:=hid (show ∀ W:World,Calls Try.prog 7 #[balV a] W fun e w'=>e = .returned (.bool true)∧Keep (fun _=>False) W w' from fun W=>by have h:=aright_any W a;rw[hra] at h;exact h)
        have HB9:=hid (show ∀ W:World,Calls Try.prog 8 #[balV a] W fun e w'=>e = .returned (.bool true)∧Keep (fun _=>False) W w' from fun W=>by have h:=rright9_any W a;rw[hra] at h;exact h)
        have HZ1:=hid (show ∀ W:World,Calls Try.prog 5 #[.agg #[.int .u64 0,.int .i64 0],balV a] W fun e w'=>e = .returned (.bool true)∧Keep (fun _=>False) W w' from fun W=>by have h:=aless_any W Bal.zero a;rw[z1] at h;exact h)
        have HZ2:=hid (show ∀ W:World,Calls Try.prog 5 #[balV a,.agg #[.int .u64 0,.int .i64 0]] W fun e w'=>e = .returned (.bool false)∧Keep (fun _=>False) W w' from fun W=>by have h:=aless_any W a Bal.zero;rw[z2] at h;exact h)
        clear z1 z2 hra
        have j0:=fun s:Later w6=>s.cell c0
        have j1:=fun s:Later w6=>s.cell c1
        clear HL HR HP
        (refine wp_region_later (by kernel_rfl) (by kernel_rfl) ?_;(repeat (go_big_quiet_step ((first | (go_at_call 7;exact Later.call (HA.out _)) | (go_at_call 8;exact Later.call (HB9.out _)) | (go_at_call 5;first | (with_reducible exact Later.call (HZ1.out _)) | (with_reducible exact Later.call (HZ2.out _)) | exact Later.call (HZ1.out _) | exact Later.call (HZ2.out _)) | (go_at_call 9;exact Later.call (HK.out _))))));refine wpQuiet_nil ?_;rintro _ ⟨sq,rfl⟩)
        have hk7:=sq.keep
        replace HB:=hid (HB.out.next hk7)
        clear hk7 j0 j1 c0 c1 c2 c3 c4 c5
        go_wp2_with (at_builtin;refine stopAt ?_;intro q hq)
        go_ret
        exact⟨rfl,HB.out.keep⟩
      | false=>
        have HA:=hid (show ∀ W:World,Calls Try.prog 7 #[balV a] W fun e w'=>e = .returned (.bool false)∧Keep (fun _=>False) W w' from fun W=>by have h:=aright_any W a;rw[hra] at h;exact h)
        have HB9:=hid (show ∀ W:World,Calls Try.prog 8 #[balV a] W fun e w'=>e = .returned (.bool false)∧Keep (fun _=>False) W w' from fun W=>by have h:=rright9_any W a;rw[hra] at h;exact h)
        clear hra
        have j0:=fun s:Later w6=>s.cell c0
        have j1:=fun s:Later w6=>s.cell c1
        clear HL HR HP
        (refine wp_region_later (by kernel_rfl) (by kernel_rfl) ?_;(repeat (go_big_quiet_step ((first | (go_at_call 7;exact Later.call (HA.out _)) | (go_at_call 8;exact Later.call (HB9.out _)) | (go_at_call 9;exact Later.call (HK.out _))))));refine wpQuiet_nil ?_;rintro _ ⟨sq,rfl⟩)
        have hk7:=sq.keep
        replace HB:=hid (HB.out.next hk7)
        clear hk7 j0 j1 c0 c1 c2 c3 c4 c5
        go_wp2_with (at_builtin;refine stopAt ?_;intro q hq)
        go_ret
        exact⟨rfl,HB.out.keep⟩
 | false=>
   cases q with
   | true=>
     have hne:a≠b:=fun h=>by rw[h,less_irrefl] at hq;cases hq
     have HP:=hid (And.intro hp.symm (less_irrefl a))
     clear hp hq hr hs
     have dn:(a.n=b.n∧a.node≠b.node)∨a.n≠b.n:=by
      by_cases h:a.n=b.n
      ·refine .inl ⟨h,fun h2=>hne ?_⟩
       cases a;cases b;simp_all
      ·exact .inr h
     clear hne
     rcases dn with ⟨d1,d2⟩ | d1
     ·have t1:((a.n:Int) == (b.n:Int))=true:=by simp;omega
      have t2:decide (a.n=b.n)=true:=by simpa using d1
      have t3:(a.node == b.node)=false:=by simpa using d2
      have t4:decide (a.node=b.node)=false:=by simpa using d2
      clear d1 d2
      go_wp2_with (at_builtin;refine stopAt ?_;intro q hq)
      refine(HL.out w4 a a).mono ?_
      rintro e w5 ⟨rfl,hk5⟩
      replace HB:=hid (HB.out.next hk5)
      clear c0 c1 c2 c3 c4 c5 hk5
      obtain⟨c0,c1,c2,c3,c4,c5⟩:=HB.out.cells
      rw[HP.out.2]
      go_wp2_with (at_builtin;refine stopAt ?_;intro q hq)
      refine(HR.out w5).mono ?_
      rintro e w6 ⟨rfl,hk6⟩
      replace HB:=hid (HB.out.next hk6)
      clear c0 c1 c2 c3 c4 c5 hk6
      obtain⟨c0,c1,c2,c3,c4,c5⟩:=HB.out.cells
      rw[HP.out.1]
      go_upto_region 7 with fail
      cases hra:rightB a with
      | true=>
        obtain⟨z1,z2⟩:=zero_less hra
        have HA:=hid (show ∀ W:World,Calls Try.prog 7 #[balV a] W fun e w'=>e = .returned (.bool true)∧Keep (fun _=>False) W w' from fun W=>by have h:=aright_any W a;rw[hra] at h;exact h)
        have HB9:=hid (show ∀ W:World,Calls Try.prog 8 #[balV a] W fun e w'=>e = .returned (.bool true)∧Keep (fun _=>False) W w' from fun W=>by have h:=rright9_any W a;rw[hra] at h;exact h)
        have HZ1:=hid (show ∀ W:World,Calls Try.prog 5 #[.agg #[.int .u64 0,.int .i64 0],balV a] W fun e w'=>e = .returned (.bool true)∧Keep (fun _=>False) W w' from fun W=>by have h:=aless_any W Bal.zero a;rw[z1] at h;exact h)
        have HZ2:=hid (show ∀ W:World,Calls Try.prog 5 #[balV a,.agg #[.int .u64 0,.int .i64 0]] W fun e w'=>e = .returned (.bool false)∧Keep (fun _=>False) W w' from fun W=>by have h:=aless_any W a Bal.zero;rw[z2] at h;exact h)
        clear z1 z2 hra
        have j0:=fun s:Later w6=>s.cell c0
        have j1:=fun s:Later w6=>s.cell c1
        clear HL HR HP
        (refine wp_region_later (by kernel_rfl) (by kernel_rfl) ?_;(repeat (go_big_quiet_step ((first | (go_at_call 7;exact Later.call (HA.out _)) | (go_at_call 8;exact Later.call (HB9.out _)) | (go_at_call 5;first | (with_reducible exact Later.call (HZ1.out _)) | (with_reducible exact Later.call (HZ2.out _)) | exact Later.call (HZ1.out _) | exact Later.call (HZ2.out _)) | (go_at_call 9;exact Later.call (HK.out _))))));refine wpQuiet_nil ?_;rintro _ ⟨sq,rfl⟩)
        have hk7:=sq.keep
        replace HB:=hid (HB.out.next hk7)
        clear hk7 j0 j1 c0 c1 c2 c3 c4 c5
        go_wp2_with (at_builtin;refine stopAt ?_;intro q hq)
        go_ret
        exact⟨rfl,HB.out.keep⟩
      | false=>
        have HA:=hid (show ∀ W:World,Calls Try.prog 7 #[balV a] W fun e w'=>e = .returned (.bool false)∧Keep (fun _=>False) W w' from fun W=>by have h:=aright_any W a;rw[hra] at h;exact h)
        have HB9:=hid (show ∀ W:World,Calls Try.prog 8 #[balV a] W fun e w'=>e = .returned (.bool false)∧Keep (fun _=>False) W w' from fun W=>by have h:=rright9_any W a;rw[hra] at h;exact h)
        clear hra
        have j0:=fun s:Later w6=>s.cell c0
        have j1:=fun s:Later w6=>s.cell c1
        clear HL HR HP
        (refine wp_region_later (by kernel_rfl) (by kernel_rfl) ?_;(repeat (go_big_quiet_step ((first | (go_at_call 7;exact Later.call (HA.out _)) | (go_at_call 8;exact Later.call (HB9.out _)) | (go_at_call 9;exact Later.call (HK.out _))))));refine wpQuiet_nil ?_;rintro _ ⟨sq,rfl⟩)
        have hk7:=sq.keep
        replace HB:=hid (HB.out.next hk7)
        clear hk7 j0 j1 c0 c1 c2 c3 c4 c5
        go_wp2_with (at_builtin;refine stopAt ?_;intro q hq)
        go_ret
        exact⟨rfl,HB.out.keep⟩
     ·have t1:((a.n:Int) == (b.n:Int))=false:=by simp;omega
      have t2:decide (a.n=b.n)=false:=by simpa using d1
      clear d1
      go_wp2_with (at_builtin;refine stopAt ?_;intro q hq)
      refine(HL.out w4 a a).mono ?_
      rintro e w5 ⟨rfl,hk5⟩
      replace HB:=hid (HB.out.next hk5)
      clear c0 c1 c2 c3 c4 c5 hk5
      obtain⟨c0,c1,c2,c3,c4,c5⟩:=HB.out.cells
      rw[HP.out.2]
      go_wp2_with (at_builtin;refine stopAt ?_;intro q hq)
      refine(HR.out w5).mono ?_
      rintro e w6 ⟨rfl,hk6⟩
      replace HB:=hid (HB.out.next hk6)
      clear c0 c1 c2 c3 c4 c5 hk6
      obtain⟨c0,c1,c2,c3,c4,c5⟩:=HB.out.cells
      rw[HP.out.1]
      go_upto_region 7 with fail
      cases hra:rightB a with
      | true=>
        obtain⟨z1,z2⟩:=zero_less hra
        have HA:=hid (show ∀ W:World,Calls Try.prog 7 #[balV a] W fun e w'=>e = .returned (.bool true)∧Keep (fun _=>False) W w' from fun W=>by have h:=aright_any W a;rw[hra] at h;exact h)
        have HB9:=hid (show ∀ W:World,Calls Try.prog 8 #[balV a] W fun e w'=>e = .returned (.bool true)∧Keep (fun _=>False) W w' from fun W=>by have h:=rright9_any W a;rw[hra] at h;exact h)
        have HZ1:=hid (show ∀ W:World,Calls Try.prog 5 #[.agg #[.int .u64 0,.int .i64 0],balV a] W fun e w'=>e = .returned (.bool true)∧Keep (fun _=>False) W w' from fun W=>by have h:=aless_any W Bal.zero a;rw[z1] at h;exact h)
        have HZ2:=hid (show ∀ W:World,Calls Try.prog 5 #[balV a,.agg #[.int .u64 0,.int .i64 0]] W fun e w'=>e = .returned (.bool false)∧Keep (fun _=>False) W w' from fun W=>by have h:=aless_any W a Bal.zero;rw[z2] at h;exact h)
        clear z1 z2 hra
        have j0:=fun s:Later w6=>s.cell c0
        have j1:=fun s:Later w6=>s.cell c1
        clear HL HR HP
        (refine wp_region_later (by kernel_rfl) (by kernel_rfl) ?_;(repeat (go_big_quiet_step ((first | (go_at_call 7;exact Later.call (HA.out _)) | (go_at_call 8;exact Later.call (HB9.out _)) | (go_at_call 5;first | (with_reducible exact Later.call (HZ1.out _)) | (with_reducible exact Later.call (HZ2.out _)) | exact Later.call (HZ1.out _) | exact Later.call (HZ2.out _)) | (go_at_call 9;exact Later.call (HK.out _))))));refine wpQuiet_nil ?_;rintro _ ⟨sq,rfl⟩)
        have hk7:=sq.keep
        replace HB:=hid (HB.out.next hk7)
        clear hk7 j0 j1 c0 c1 c2 c3 c4 c5
        go_wp2_with (at_builtin;refine stopAt ?_;intro q hq)
        go_ret
        exact⟨rfl,HB.out.keep⟩
      | false=>
        have HA:=hid (show ∀ W:World,Calls Try.prog 7 #[balV a] W fun e w'=>e = .returned (.bool false)∧Keep (fun _=>False) W w' from fun W=>by have h:=aright_any W a;rw[hra] at h;exact h)
        have HB9:=hid (show ∀ W:World,Calls Try.prog 8 #[balV a] W fun e w'=>e = .returned (.bool false)∧Keep (fun _=>False) W w' from fun W=>by have h:=rright9_any W a;rw[hra] at h;exact h)
        clear hra
        have j0:=fun s:Later w6=>s.cell c0
        have j1:=fun s:Later w6=>s.cell c1
        clear HL HR HP
        (refine wp_region_later (by kernel_rfl) (by kernel_rfl) ?_;(repeat (go_big_quiet_step ((first | (go_at_call 7;exact Later.call (HA.out _)) | (go_at_call 8;exact Later.call (HB9.out _)) | (go_at_call 9;exact Later.call (HK.out _))))));refine wpQuiet_nil ?_;rintro _ ⟨sq,rfl⟩)
        have hk7:=sq.keep
        replace HB:=hid (HB.out.next hk7)
        clear hk7 j0 j1 c0 c1 c2 c3 c4 c5
        go_wp2_with (at_builtin;refine stopAt ?_;intro q hq)
        go_ret
        exact⟨rfl,HB.out.keep⟩
   | false=>
     have hab:=less_total hp.symm hq.symm
     subst hab
     have HP:=hid (And.intro hp.symm (less_irrefl a))
     clear hp hq hr hs
     go_wp2_with (at_builtin;refine stopAt ?_;intro q hq)
     refine(HL.out w4 a a).mono ?_
     rintro e w5 ⟨rfl,hk5⟩
     replace HB:=hid (HB.out.next hk5)
     clear c0 c1 c2 c3 c4 c5 hk5
     obtain⟨c0,c1,c2,c3,c4,c5⟩:=HB.out.cells
     rw[HP.out.2]
     go_wp2_with (at_builtin;refine stopAt ?_;intro q hq)
     refine(HR.out w5).mono ?_
     rintro e w6 ⟨rfl,hk6⟩
     replace HB:=hid (HB.out.next hk6)
     clear c0 c1 c2 c3 c4 c5 hk6
     obtain⟨c0,c1,c2,c3,c4,c5⟩:=HB.out.cells
     rw[HP.out.1]
     go_upto_region 7 with fail
     cases hra:rightB a with
     | true=>
       obtain⟨z1,z2⟩:=zero_less hra
       have HA:=hid (show ∀ W:World,Calls Try.prog 7 #[balV a] W fun e w'=>e = .returned (.bool true)∧Keep (fun _=>False) W w' from fun W=>by have h:=aright_any W a;rw[hra] at h;exact h)
       have HB9:=hid (show ∀ W:World,Calls Try.prog 8 #[balV a] W fun e w'=>e = .returned (.bool true)∧Keep (fun _=>False) W w' from fun W=>by have h:=rright9_any W a;rw[hra] at h;exact h)
       have HZ1:=hid (show ∀ W:World,Calls Try.prog 5 #[.agg #[.int .u64 0,.int .i64 0],balV a] W fun e w'=>e = .returned (.bool true)∧Keep (fun _=>False) W w' from fun W=>by have h:=aless_any W Bal.zero a;rw[z1] at h;exact h)
       have HZ2:=hid (show ∀ W:World,Calls Try.prog 5 #[balV a,.agg #[.int .u64 0,.int .i64 0]] W fun e w'=>e = .returned (.bool false)∧Keep (fun _=>False) W w' from fun W=>by have h:=aless_any W a Bal.zero;rw[z2] at h;exact h)
       clear z1 z2 hra
       have j0:=fun s:Later w6=>s.cell c0
       have j1:=fun s:Later w6=>s.cell c1
       clear HL HR HP
       (refine wp_region_later (by kernel_rfl) (by kernel_rfl) ?_;(repeat (go_big_quiet_step ((first | (go_at_call 7;exact Later.call (HA.out _)) | (go_at_call 8;exact Later.call (HB9.out _)) | (go_at_call 5;first | (with_reducible exact Later.call (HZ1.out _)) | (with_reducible exact Later.call (HZ2.out _)) | exact Later.call (HZ1.out _) | exact Later.call (HZ2.out _)) | (go_at_call 9;exact Later.call (HK.out _))))));refine wpQuiet_nil ?_;rintro _ ⟨sq,rfl⟩)
       have hk7:=sq.keep
       replace HB:=hid (HB.out.next hk7)
       clear hk7 j0 j1 c0 c1 c2 c3 c4 c5
       go_wp2_with (at_builtin;refine stopAt ?_;intro q hq)
       go_ret
       exact⟨rfl,HB.out.keep⟩
     | false=>
       have HA:=hid (show ∀ W:World,Calls Try.prog 7 #[balV a] W fun e w'=>e = .returned (.bool false)∧Keep (fun _=>False) W w' from fun W=>by have h:=aright_any W a;rw[hra] at h;exact h)
       have HB9:=hid (show ∀ W:World,Calls Try.prog 8 #[balV a] W fun e w'=>e = .returned (.bool false)∧Keep (fun _=>False) W w' from fun W=>by have h:=rright9_any W a;rw[hra] at h;exact h)
       clear hra
       have j0:=fun s:Later w6=>s.cell c0
       have j1:=fun s:Later w6=>s.cell c1
       clear HL HR HP
       (refine wp_region_later (by kernel_rfl) (by kernel_rfl) ?_;(repeat (go_big_quiet_step ((first | (go_at_call 7;exact Later.call (HA.out _)) | (go_at_call 8;exact Later.call (HB9.out _)) | (go_at_call 9;exact Later.call (HK.out _))))));refine wpQuiet_nil ?_;rintro _ ⟨sq,rfl⟩)
       have hk7:=sq.keep
       replace HB:=hid (HB.out.next hk7)
       clear hk7 j0 j1 c0 c1 c2 c3 c4 c5
       go_wp2_with (at_builtin;refine stopAt ?_;intro q hq)
       go_ret
       exact⟨rfl,HB.out.keep⟩
end Go.Proofs.Ytkjofdocgaiedaa
namespace Go.Proofs.Ytkjofdocgaiedaa
open Go.RowKit Go.Maps
open MI SO BM DM WM AC
theorem voteBox (w w0:World) (v:Vt) (u:Value) (hw:w0=w.alloc (.cells (voteV v u).toArray 31)):w0.heap[w.heap.size]?=some (.cells (voteV v u).toArray 31 (0,0))∧Keep (fun _=>False) w w0:=by
 subst hw
 exact⟨heap_alloc_new w _,(Keep.refl _ _).alloc _⟩
set_option maxRecDepth 20000 in
set_option maxHeartbeats 1000000 in
theorem anil_walk_of (hkn:∀ w:World,Calls Try.prog 9 #[] w fun e w'=>e = .returned (.bool true)∧Keep (fun _=>False) w w') (w:World) (v:Vt) (u:Value):Calls Try.prog 4 #[.agg (voteV v u).toArray] w fun e w'=>e = .returned (.bool true)∧Keep (fun _=>False) w w':=by
 obtain⟨w0,hw0⟩:∃ w0,w0=w.alloc (.cells (voteV v u).toArray 31):=⟨_,rfl⟩
 obtain⟨b0,hk0⟩:=voteBox w w0 v u hw0
 have HB:=hid (And.intro b0 hk0)
 have HK:=hid hkn
 have c0:w0.cell? ⟨w.heap.size,0,none⟩=some (.int .u64 (v.slot:Int)):=by simp[World.cell?,b0,voteV]
 have c1:w0.cell? ⟨w.heap.size,1,none⟩=some (.int .u64 (v.bal.n:Int)):=by simp[World.cell?,b0,voteV]
 have c2:w0.cell? ⟨w.heap.size,2,none⟩=some (.int .i64 v.bal.node):=by simp[World.cell?,b0,voteV]
 have c3:w0.cell? ⟨w.heap.size,3,none⟩=some u:=by simp[World.cell?,b0,voteV]
 clear b0 hk0 hkn
 go_enter Try.func4,Try.ntmps4
 go_upto_region 1 with fail
 rw[← hw0]
 clear hw0
 go_wp2_with (at_builtin;refine stopAt ?_;intro q hq)
 refine(aprep_nil w0 v.bal v.slot).mono ?_
 rintro e w1 ⟨rfl,hk1⟩
 have HB:=hid (And.intro (hk1.get HB.out.1 id) (HB.out.2.next hk1 (H:=fun _=>False) (fun _ _ x=>x) (fun _ _ x=>x)))
 clear hk1 c0 c1 c2 c3
 have b0:=HB.out.1
 have c0:w1.cell? ⟨w.heap.size,0,none⟩=some (.int .u64 (v.slot:Int)):=by simp[World.cell?,b0,voteV]
 have c1:w1.cell? ⟨w.heap.size,1,none⟩=some (.int .u64 (v.bal.n:Int)):=by simp[World.cell?,b0,voteV]
 have c2:w1.cell? ⟨w.heap.size,2,none⟩=some (.int .i64 v.bal.node):=by simp[World.cell?,b0,voteV]
 have c3:w1.cell? ⟨w.heap.size,3,none⟩=some u:=by simp[World.cell?,b0,voteV]
 clear b0
 go_upto_region 3 with fail
 have q1:=heap_alloc_new w1 (.cells #[.int .u64 (Bal.zero.n:Int),.int .i64 Bal.zero.node] 24)
 have k1:Keep (fun _=>False) w1 (w1.alloc (.cells #[.int .u64 (Bal.zero.n:Int),.int .i64 Bal.zero.node] 24)):=(Keep.refl _ _).alloc _
 obtain⟨w2,hw2⟩:∃ w2,w2=w1.alloc (.cells #[.int .u64 (Bal.zero.n:Int),.int .i64 Bal.zero.node] 24):=⟨_,rfl⟩
 rw[← hw2] at q1 k1 ⊢
 clear hw2 c0 c1 c2 c3
 obtain⟨g2,hg2⟩:∃ g,g=w1.heap.size:=⟨_,rfl⟩
 rw[← hg2] at q1 ⊢
 clear hg2
 have HB2:=hid (And.intro (k1.get HB.out.1 id) (And.intro q1 (HB.out.2.next k1 (H:=fun _=>False) (fun _ _ x=>x) (fun _ _ x=>x))))
 clear q1 k1 HB
 have b0:=HB2.out.1
 have c0:w2.cell? ⟨w.heap.size,0,none⟩=some (.int .u64 (v.slot:Int)):=by simp[World.cell?,b0,voteV]
 have c1:w2.cell? ⟨w.heap.size,1,none⟩=some (.int .u64 (v.bal.n:Int)):=by simp[World.cell?,b0,voteV]
 have c2:w2.cell? ⟨w.heap.size,2,none⟩=some (.int .i64 v.bal.node):=by simp[World.cell?,b0,voteV]
 have c3:w2.cell? ⟨w.heap.size,3,none⟩=some u:=by simp[World.cell?,b0,voteV]
 clear b0
 go_wp2_with (at_builtin;refine stopAt ?_;intro q hq)
 refine(aacc_nil w2 v u).mono ?_
 rintro e w3 ⟨rfl,hk3⟩
 have HB3:=hid (And.intro (hk3.get HB2.out.1 id) (And.intro (hk3.get HB2.out.2.1 id) (HB2.out.2.2.next hk3 (H:=fun _=>False) (fun _ _ x=>x) (fun _ _ x=>x))))
 clear hk3 c0 c1 c2 c3 HB2
 have b0:=HB3.out.1
 have c0:w3.cell? ⟨w.heap.size,0,none⟩=some (.int .u64 (v.slot:Int)):=by simp[World.cell?,b0,voteV]
 clear b0
 go_upto_region 4 with fail
 have q1:=heap_alloc_new w3 (.cells #[.int .u64 (Bal.zero.n:Int),.int .i64 Bal.zero.node] 24)
 have k1:Keep (fun _=>False) w3 (w3.alloc (.cells #[.int .u64 (Bal.zero.n:Int),.int .i64 Bal.zero.node] 24)):=(Keep.refl _ _).alloc _
 obtain⟨w4,hwn⟩:∃ w2,w2=w3.alloc (.cells #[.int .u64 (Bal.zero.n:Int),.int .i64 Bal.zero.node] 24):=⟨_,rfl⟩
 rw[← hwn] at q1 k1 ⊢
 obtain⟨g4,hg⟩:∃ g,g=w3.heap.size:=⟨_,rfl⟩
 rw[← hg] at q1 ⊢
 clear hwn hg
 have HB4:=hid (And.intro (k1.get HB3.out.1 id) (And.intro (k1.get HB3.out.2.1 id) (And.intro q1 (HB3.out.2.2.next k1 (H:=fun _=>False) (fun _ _ x=>x) (fun _ _ x=>x)))))
 clear q1 k1 HB3 c0
 have b0:=HB4.out.1
 have c0:w4.cell? ⟨w.heap.size,0,none⟩=some (.int .u64 (v.slot:Int)):=by simp[World.cell?,b0,voteV]
 clear b0
 go_wp2_with (at_builtin;refine stopAt ?_;intro q hq)
 refine(atrim_nil w4 v.slot).mono ?_
 rintro e w5 ⟨rfl,rfl⟩
 clear c0
 go_wp2_with (at_builtin;refine stopAt ?_;intro q hq)
 refine(aopen_nil _).mono ?_
 rintro e w5 ⟨rfl,hk5⟩
 have HB5:=hid (And.intro (hk5.get HB4.out.2.1 id) (And.intro (hk5.get HB4.out.2.2.1 id) (HB4.out.2.2.2.next hk5 (H:=fun _=>False) (fun _ _ x=>x) (fun _ _ x=>x))))
 clear hk5 HB4
 go_upto_region 7 with fail
 have q1:=heap_alloc_new w5 (.cells #[.int .u64 0,.int .i64 0] 24)
 have k1:Keep (fun _=>False) w5 (w5.alloc (.cells #[.int .u64 0,.int .i64 0] 24)):=(Keep.refl _ _).alloc _
 obtain⟨w6,hwn⟩:∃ w2,w2=w5.alloc (.cells #[.int .u64 0,.int .i64 0] 24):=⟨_,rfl⟩
 rw[← hwn] at q1 k1 ⊢
 obtain⟨g6,hg⟩:∃ g,g=w5.heap.size:=⟨_,rfl⟩
 rw[← hg] at q1 ⊢
 clear hwn hg
 have a2:=k1.get HB5.out.1 id
 have a4:=k1.get HB5.out.2.1 id
 have HB6:=hid (HB5.out.2.2.next k1 (H:=fun _=>False) (fun _ _ x=>x) (fun _ _ x=>x))
 clear k1 HB5
 have c0:w6.cell? ⟨g2,0,none⟩=some (.int .u64 0):=by simp[World.cell?,a2,Bal.zero]
 have c1:w6.cell? ⟨g2,1,none⟩=some (.int .i64 0):=by simp[World.cell?,a2,Bal.zero]
 have c2:w6.cell? ⟨g4,0,none⟩=some (.int .u64 0):=by simp[World.cell?,a4,Bal.zero]
 have c3:w6.cell? ⟨g4,1,none⟩=some (.int .i64 0):=by simp[World.cell?,a4,Bal.zero]
 have c4:w6.cell? ⟨g6,0,none⟩=some (.int .u64 0):=by simp[World.cell?,q1]
 have c5:w6.cell? ⟨g6,1,none⟩=some (.int .i64 0):=by simp[World.cell?,q1]
 clear a2 a4 q1
 have j0:=fun s:Later w6=>s.cell c0
 have j1:=fun s:Later w6=>s.cell c1
 have j2:=fun s:Later w6=>s.cell c2
 have j3:=fun s:Later w6=>s.cell c3
 have j4:=fun s:Later w6=>s.cell c4
 have j5:=fun s:Later w6=>s.cell c5
 have HP1:=hid (show ∀ W:World,Calls Try.prog 14 #[.pointer none] W fun e w'=>e = .returned (.agg #[.int .u64 0,.int .i64 0])∧Keep (fun _=>False) W w' from fun W=>apromised_nil W)
 have HV1:=hid (show ∀ W:World,Calls Try.prog 15 #[.pointer none,.int .u64 0] W fun e w'=>e = .returned (.slice none 0 0)∧Keep (fun _=>False) W w' from fun W=>(avotes_nil W 0).mono fun e w' h=>⟨h.1,h.2 ▸ Keep.refl _ _⟩)
 (refine wp_region_later (by kernel_rfl) (by kernel_rfl) ?_;(repeat (go_big_quiet_step ((first | (go_at_call 14;exact Later.call (HP1.out _)) | (go_at_call 15;exact Later.call (HV1.out _)) | (go_at_call 9;exact Later.call (HK.out _))))));refine wpQuiet_nil ?_;rintro _ ⟨sq,rfl⟩)
 have hk7:=sq.keep
 have HB7:=hid (HB6.out.next hk7 (H:=fun _=>False) (fun _ _ x=>x) (fun _ _ x=>x))
 clear hk7 j0 j1 j2 j3 j4 j5 c0 c1 c2 c3 c4 c5
 go_wp2_with (at_builtin;refine stopAt ?_;intro q hq)
 go_ret
 exact⟨rfl,HB7.out⟩
end Go.Proofs.Ytkjofdocgaiedaa
namespace Go.Proofs.Ytkjofdocgaiedaa.AC
open Go.Proofs.Ytkjofdocgaiedaa MI SO BM DM WM
def docB (ps:List (Str×Str)):Bal:=match AL.get ps pK with
 | none=>Bal.zero
 | some v=>match getB v with
   | none=>Bal.zero
   | some (b,_)=>b
def docV1 (k:Nat) (p:Str×Str):Option Vt:=match getB p.2 with
 | none=>none
 | some (b,rest)=>if 0<slotK p.1∧k≤slotK p.1 then some ⟨slotK p.1,b,rest⟩ else none
def docV (ps:List (Str×Str)) (k:Nat):List Vt:=ps.filterMap (docV1 k)
def docOk1 (top:Bal) (p:Str×Str):Bool:=match getB p.2 with
 | none=>false
 | some (b,rest)=>if p.1=pK then decide (rest = []) else (decide (slotK p.1≠0) && (decide (rest.length≤100) && !less top b))
def docOk (ps:List (Str×Str)):Bool:=ps.all (docOk1 (docB ps))
end Go.Proofs.Ytkjofdocgaiedaa.AC
namespace Go.Proofs.Ytkjofdocgaiedaa.SO
open Go.Proofs.Ytkjofdocgaiedaa MI BM DM WM
structure OnDisk (D:Dk) (G:Lg):Prop where
 calm:Calm D
 ok:Ok D
 h6:6≤D.safe.length
 dead:G.dead=false
 ep:WM.epoch D=G.ep
 epb:G.ep<4611686018427387904
 small:∀ r ∈ G.l,r.length≤1024
 fit:(flat G.l).length≤32 * half D
 area:∀ i,i<half D→nowAt D (WM.first D G.ep+i)=secOf (areaH (half D) G.l) i
theorem OnDisk.gone {D:Dk} {G:Lg} (h:OnDisk D G):WM.gone D G=false:=by unfold WM.gone;rw[h.dead,h.calm.2];rfl
theorem OnDisk.opens {D:Dk} {G:Lg} (h:OnDisk D G):openW D=(0,some ⟨G.ep,G.l,G.l.length,false⟩,D):=open_known h.calm h.ok h.h6 h.ep h.small h.fit h.area
theorem opened_on {D:Dk} (hc:Calm D) (ok:Ok D) (h6:6≤D.safe.length):∃ G D',openW D=(0,some G,D')∧OnDisk D' G∧G.safe=G.l.length:=by
 obtain⟨D',h⟩:=open_calm hc ok h6
 refine⟨_,D',h.eq,⟨h.calm,h.ok,by rw[h.size];exact h6,rfl,?_,?_,h.small,by rw[half_eq h.size];exact h.fit,fun i hi=>?_⟩,rfl⟩
 ·exact epoch_eq hc.2 h.calm.2 (by omega) h.size fun i hi=>h.rest i fun j _=>by have:=first_ge D (epoch D);omega
 ·rw[← epTo_two];exact epTo_lt D 2
 ·rw[half_eq h.size] at hi ⊢
  have hf:WM.first D' (epoch D)=WM.first D (epoch D):=by unfold WM.first;rw[half_eq h.size]
  rw[hf]
  exact h.area i hi
theorem OnDisk.sync {D:Dk} {G:Lg} (h:OnDisk D G):WM.syncW D G=(0,{ D with safe:=now D,waits:=[] },{ G with safe:=G.l.length })∧OnDisk { D with safe:=now D,waits:=[] } { G with safe:=G.l.length }:=by
 have hs:=sync_calm h.calm
 have hl:({ D with safe:=now D,waits:=[] }:Dk).safe.length=D.safe.length:=now_length D
 have hn:∀ p,nowAt { D with safe:=now D,waits:=[] } p=nowAt D p:=fun p=>nowAt_flat rfl rfl p
 have hh:half { D with safe:=now D,waits:=[] }=half D:=half_eq hl
 have hf:∀ e,WM.first { D with safe:=now D,waits:=[] } e=WM.first D e:=fun e=>by unfold WM.first;rw[hh]
 refine⟨?_,⟨h.calm,?_,by rw[hl];exact h.h6,h.dead,?_,h.epb,h.small,by rw[hh];exact h.fit,fun i hi=>?_⟩⟩
 ·unfold WM.syncW
  rw[h.gone,hs]
  rfl
 ·have:=h.ok.sync
  rw[hs] at this
  exact this
 ·have:=epoch_eq (D:=D) (E:={ D with safe:=now D,waits:=[] }) h.calm.2 h.calm.2 (by have:=h.h6;omega) hl (fun i _=>hn i)
  rw[this];exact h.ep
 ·rw[hh] at hi ⊢
  rw[hf,hn]
  exact h.area i hi
theorem lay_ok (ep:Nat) (b:List UInt8):∀ k i (D:Dk),Ok D→Ok (lay ep b i k D).2
 | 0,_,_,h=>h
 | k+1,i,D,h=>by
   unfold lay
   simp only
   split
   ·exact lay_ok ep b k (i+1) _ (h.write _ _)
   ·exact h.write _ _
theorem turn_ok (ep:Nat) (b:List UInt8) (D:Dk) (h:Ok D):Ok (turnW ep b D).2:=by
 have h1:=lay_ok ep b (half D) 0 D h
 unfold turnW
 simp only
 split
 ·exact h1
 ·split
  ·exact h1.sync
  ·split
   ·exact h1.sync.write _ _
   ·exact(h1.sync.write _ _).sync
theorem OnDisk.append {D:Dk} {G:Lg} (h:OnDisk D G) {b:List UInt8} (hb:b.length≤1024) :
  WM.append D G b=(5,D,G)∨((WM.append D G b).1=0∧(WM.append D G b).2.2 = { G with l:=G.l ++ [b] }∧OnDisk (WM.append D G b).2.1 { G with l:=G.l ++ [b] }):=by
 have hc:=append_calm h.calm h.h6 h.dead h.fit hb
 split at hc
 ·exact .inl hc
 ·rename_i hr
  right
  obtain⟨c1,c2,c3,c4⟩:=hc
  have hsn:=flat_snoc G.l b
  unfold room at hr
  have hfit:(flat (G.l ++ [b])).length≤32 * half D:=by omega
  have hal:(areaH (half D) (G.l ++ [b])).length=32 * half D:=areaH_length hfit
  have hal0:(areaH (half D) G.l).length=32 * half D:=areaH_length h.fit
  have hA:WM.area D (G.l ++ [b])=areaH (half D) (G.l ++ [b]):=rfl
  obtain⟨a1,-,-,a5⟩:=lay_waits_all G.ep (WM.area D (G.l ++ [b])) (((flat (G.l ++ [b])).length - 1) / 32 - (flat G.l).length / 32+1) ((flat G.l).length / 32) D h.h6 (by omega) hal
  have hr2:(WM.append D G b).2.1=(lay G.ep (WM.area D (G.l ++ [b])) ((flat G.l).length / 32) (((flat (G.l ++ [b])).length - 1) / 32 - (flat G.l).length / 32+1) D).2∧(WM.append D G b).1=(lay G.ep (WM.area D (G.l ++ [b])) ((flat G.l).length / 32) (((flat (G.l ++ [b])).length - 1) / 32 - (flat G.l).length / 32+1) D).1:=by
   unfold WM.append
   rw[h.gone,if_neg (by simp),if_neg (by omega),if_neg (by unfold room;omega)]
   exact⟨rfl,rfl⟩
  obtain⟨r,hr0⟩:∃ r,r=lay G.ep (WM.area D (G.l ++ [b])) ((flat G.l).length / 32) (((flat (G.l ++ [b])).length - 1) / 32 - (flat G.l).length / 32+1) D:=⟨_,rfl⟩
  rw[← hr0] at a1 a5 hr2
  have hz:r.1=0:=by rw[← hr2.2];exact c1
  have hok:Ok (WM.append D G b).2.1:=by
   rw[hr2.1,hr0]
   exact lay_ok G.ep _ _ _ _ h.ok
  have hl:(WM.append D G b).2.1.safe.length=D.safe.length:=by rw[c4]
  have hh:half (WM.append D G b).2.1=half D:=half_eq hl
  have hf:∀ e,WM.first (WM.append D G b).2.1 e=WM.first D e:=fun e=>by unfold WM.first;rw[hh]
  have hnw:∀ p,p<2→nowAt (WM.append D G b).2.1 p=nowAt D p:=fun p hp=>by
   rw[hr2.1]
   exact(a5 hz p).2 fun j _ _=>by have:=first_ge D G.ep;omega
  refine⟨c1,c2,c3,hok,by rw[hl];exact h.h6,h.dead,?_,h.epb,fun r hr=>?_,by rw[hh];exact hfit,fun i hi=>?_⟩
  ·rw[epoch_eq h.calm.2 c3.2 (by have:=h.h6;omega) hl hnw];exact h.ep
  ·rcases List.mem_append.1 hr with x | x
   ·exact h.small r x
   ·simp at x;subst x;exact hb
  ·rw[hh] at hi ⊢
   rw[hf,hr2.1]
   obtain⟨b1,b2⟩:=a5 hz (WM.first D G.ep+i)
   by_cases hin:(flat G.l).length / 32≤i∧i<(flat G.l).length / 32+(((flat (G.l ++ [b])).length - 1) / 32 - (flat G.l).length / 32+1)
   ·exact b1 i hin.1 hin.2 rfl
   ·rw[b2 (fun j j1 j2=>by omega),h.area i hi]
    refine secOf_ext hal0 hal hi fun k hk=>?_
    have hin':i<(flat G.l).length / 32∨((flat (G.l ++ [b])).length - 1) / 32<i:=by omega
    rcases hin' with q | q
    ·have hq1:32 * i+k<(flat G.l).length:=by omega
     have hq2:32 * i+k<(flat (G.l ++ [b])).length:=by omega
     rw[area_get _ _ hq1,area_get _ _ hq2]
     have he:flat (G.l ++ [b])=flat G.l ++ flat [b]:=by simp[flat]
     rw[he,List.getElem?_append_left hq1]
    ·have hq1:(flat G.l).length≤32 * i+k:=by omega
     have hq2:(flat (G.l ++ [b])).length≤32 * i+k:=by omega
     rw[area_nought _ _ hq1 (by omega),area_nought _ _ hq2 (by omega)]
theorem head_new {D:Dk} (hd:D.down=false) (h2:2≤D.safe.length) {n:Nat} (hn:n<4611686018427387904) (h:nowAt D (n % 2)=headSec n):WM.head D (n % 2)=some n:=by
 have hlt:n % 2<2:=Nat.mod_lt _ (by decide)
 have hl:(putUint n).length≤10:=putU_le 10 n
 rw[head_at hd (by omega) _ h]
 have hg:=get_found [] (List.replicate (32 - (frame 1 (putUint n)).length) 0) 1 (putUint n) (by omega)
 simp only[List.nil_append,List.length_nil] at hg
 have he:headSec n=frame 1 (putUint n) ++ List.replicate (32 - (frame 1 (putUint n)).length) 0:=rfl
 rw[he,hg]
 have hu:=put_uint (b:=putUint n) (at_:=0) (n:=n) (rest:=[]) (by omega) (by simp) (Nat.zero_le _)
 simp only[Nat.zero_add] at hu
 simp only[hu]
 simp[hn]
theorem head_le {D:Dk} {i n:Nat} (hi:i<2) (h:WM.head D i=some n):n≤WM.epoch D:=by
 unfold WM.epoch
 have:i=0∨i=1:=by omega
 rcases this with rfl | rfl <;> rw[h] <;> simp <;> omega
theorem epoch_new {D:Dk} {n:Nat} (hd:D.down=false) (h2:2≤D.safe.length) (hn:n<4611686018427387904) (h:nowAt D (n % 2)=headSec n) (ho:(WM.head D ((n+1) % 2)).getD 0≤n):WM.epoch D=n:=by
 have hh:=head_new hd h2 hn h
 unfold WM.epoch
 have:n % 2=0∨n % 2=1:=by omega
 rcases this with h0 | h0
 ·rw[h0] at hh
  rw[show (n+1) % 2=1 by omega] at ho
  rw[hh];simp;omega
 ·rw[h0] at hh
  rw[show (n+1) % 2=0 by omega] at ho
  rw[hh];simp;omega
theorem OnDisk.reset {D:Dk} {G:Lg} (h:OnDisk D G) (L:List (List UInt8)) (hL:∀ r ∈ L,r.length≤1024) :
  WM.reset D G L=(5,D,G)∨((WM.reset D G L).1=0∧(WM.reset D G L).2.2=⟨G.ep+1,L,L.length,false⟩∧OnDisk (WM.reset D G L).2.1 ⟨G.ep+1,L,L.length,false⟩):=by
 have hany:L.any (fun b=>decide (1024<b.length))=false:=by
  rw[List.any_eq_false]
  intro r hr
  have:=hL r hr
  simp;omega
 by_cases hf:32 * half D<(flat L).length∨G.ep+1=4611686018427387904
 ·left
  unfold WM.reset
  rw[h.gone,if_neg (by simp),hany,if_neg (by simp),if_pos hf]
 ·right
  have hfit:(flat L).length≤32 * half D:=by omega
  have hal:(WM.area D L).length=32 * half D:=areaH_length hfit
  obtain⟨c1,c2⟩:=turn_calm h.calm h.h6 (G.ep+1) (WM.area D L) hal (headSec_len _)
  obtain⟨-,t2⟩:=turn_all h.h6 (G.ep+1) (WM.area D L) hal (headSec_len _)
  obtain⟨-,t3,t4,t5⟩:=t2 c1
  have hr:WM.reset D G L=(0,(turnW (G.ep+1) (WM.area D L) D).2,⟨G.ep+1,L,L.length,false⟩):=by
   unfold WM.reset
   rw[h.gone,if_neg (by simp),hany,if_neg (by simp),if_neg hf]
   simp only
   rw[if_pos c1]
  have hok:=turn_ok (G.ep+1) (WM.area D L) D h.ok
  have hl:=turnW_len (G.ep+1) (WM.area D L) D
  obtain⟨E,hE⟩:∃ E,E=(turnW (G.ep+1) (WM.area D L) D).2:=⟨_,rfl⟩
  rw[← hE] at c2 t3 t4 t5 hok hl hr
  rw[hr]
  have hh:half E=half D:=half_eq hl
  have hfi:∀ e,WM.first E e=WM.first D e:=fun e=>by unfold WM.first;rw[hh]
  have hepb:=h.epb
  refine⟨rfl,rfl,⟨c2,hok,by rw[hl];exact h.h6,rfl,?_,by simp only;omega,hL,by rw[hh];exact hfit,fun i hi=>?_⟩⟩
  ·have h6:=h.h6
   refine epoch_new c2.2 (show 2≤E.safe.length by omega) (show G.ep+1<4611686018427387904 by omega) t4 ?_
   have hp:(G.ep+1+1) % 2<2:=Nat.mod_lt _ (by decide)
   have he:WM.head E ((G.ep+1+1) % 2)=WM.head D ((G.ep+1+1) % 2):=by
    refine head_eq h.calm.2 c2.2 (by omega) (by omega) (t5 _ (by omega) fun j _=>?_)
    have:=first_ge D (G.ep+1)
    omega
   rw[he]
   cases hx:WM.head D ((G.ep+1+1) % 2) with
   | none=>exact Nat.zero_le _
   | some n=>
     have:=head_le hp hx
     rw[h.ep] at this
     simp only[Option.getD_some]
     omega
  ·rw[hh] at hi ⊢
   rw[hfi]
   exact t3 i hi
structure Sound (D:Dk) (S:St):Prop where
 disk:OnDisk D S.g
 dead:S.dead=false
 okay:Okay S
 ok:PsOk S.ps
theorem cpL_small {ps:List (Str×Str)} (h:∀ p ∈ ps,OkP p):∀ r ∈ cpL ps,r.length≤1024:=fun r hr=>by
 unfold cpL at hr
 obtain⟨p,hp,rfl⟩:=List.mem_map.1 hr
 have:=enc_len (right_one (h p hp))
 simp at this
 omega
theorem Sound.cp {D:Dk} {S:St} (h:Sound D S):Sound (cpS D S).2.1 (cpS D S).2.2∧(((cpS D S).1=5∧(cpS D S).2=(D,S))∨((cpS D S).1=0∧(cpS D S).2.2.g.safe=(cpS D S).2.2.g.l.length)):=by
 have hk:=okay_cp (D:=D) h.disk.h6 h.okay h.ok
 rcases h.disk.reset (cpL S.ps) (cpL_small h.ok.each) with hr | ⟨h1,h2,h3⟩
 ·have e:cpS D S=(5,D,S):=by
   unfold cpS
   rw[h.dead,if_neg (by simp),hr]
   show ((5:Int),D,(⟨S.g,S.ps,decide ((5:Int)=6)⟩:St))=_
   rw[show decide ((5:Int)=6)=S.dead by rw[h.dead];rfl]
  rw[e]
  exact⟨h,.inl ⟨rfl,rfl⟩⟩
 ·have e:cpS D S=(0,(WM.reset D S.g (cpL S.ps)).2.1,⟨⟨S.g.ep+1,cpL S.ps,(cpL S.ps).length,false⟩,S.ps,false⟩):=by
   unfold cpS
   rw[h.dead,if_neg (by simp),h2,h1]
   rfl
  rw[e] at hk ⊢
  exact⟨⟨h3,rfl,hk,h.ok⟩,.inr ⟨rfl,rfl⟩⟩
theorem Sound.ap {D:Dk} {S:St} (h:Sound D S) {l:List Ch} (he:encE l=0) :
  ((apS D S (enc l)).1=5∧(apS D S (enc l)).2=(D,S))∨((apS D S (enc l)).1=0∧OnDisk (apS D S (enc l)).2.1 (apS D S (enc l)).2.2.g∧(apS D S (enc l)).2.2.dead=false):=by
 obtain⟨hl,-⟩:=wbytes l he
 unfold apS
 rcases h.disk.append hl with hr | ⟨h1,h2,h3⟩
 ·left
  rw[hr]
  refine⟨rfl,?_⟩
  show (D,(⟨S.g,S.ps,decide ((5:Int)=6)⟩:St))=_
  rw[show decide ((5:Int)=6)=S.dead by rw[h.dead];rfl]
 ·right
  refine⟨h1,?_,by simp only;rw[h1];rfl⟩
  simp only
  rw[h2]
  exact h3
theorem Sound.do {D:Dk} {S:St} (h:Sound D S) (l:List Ch):Sound (doS D S l).2.1 (doS D S l).2.2:=by
 have hk:=okay_do h.disk.h6 h.okay h.ok l
 unfold doS at hk ⊢
 rw[h.dead] at hk ⊢
 simp only[Bool.false_eq_true,if_false] at hk ⊢
 by_cases he:encE l=0
 ·rw[if_neg (by omega)] at hk ⊢
  have hps:=intoS_ps D S (enc l)
  have key:OnDisk (intoS D S (enc l)).2.1 (intoS D S (enc l)).2.2.g∧(intoS D S (enc l)).2.2.dead=false:=by
   unfold intoS
   rcases h.ap he with ⟨a1,a2⟩ | ⟨a1,a2,a3⟩
   ·rw[if_pos a1,a2]
    simp only
    obtain⟨hc,hcc⟩:=h.cp
    split
    ·rename_i h0
     rcases hc.ap he with ⟨b1,b2⟩ | ⟨b1,b2,b3⟩
     ·rw[b2]
      exact⟨hc.disk,hc.dead⟩
     ·exact⟨b2,b3⟩
    ·exact⟨hc.disk,hc.dead⟩
   ·rw[if_neg (by omega)]
    exact⟨a2,a3⟩
  have hps2:PsOk (layL S.ps l):=h.ok.layL (right_all (wbytes l he).2).2
  unfold laidS at hk ⊢
  by_cases h0:(intoS D S (enc l)).1=0
  ·rw[if_pos h0] at hk ⊢
   rw[hps] at hk ⊢
   exact⟨key.1,key.2,hk,hps2⟩
  ·rw[if_neg h0] at hk ⊢
   exact⟨key.1,key.2,hk,by rw[hps];exact h.ok⟩
 ·rw[if_pos he]
  exact h
theorem Sound.sy {D:Dk} {S:St} (h:Sound D S):(syS D S).1=0∧Sound (syS D S).2.1 (syS D S).2.2∧(syS D S).2.1.waits = []∧(syS D S).2.2.ps=S.ps:=by
 obtain⟨h1,h2⟩:=h.disk.sync
 have e:syS D S=(0,{ D with safe:=now D,waits:=[] },⟨{ S.g with safe:=S.g.l.length },S.ps,false⟩):=by
  unfold syS
  rw[h.dead,if_neg (by simp),h1]
  rfl
 have hk:=okay_sy D h.okay
 rw[e] at hk ⊢
 exact⟨rfl,⟨h2,rfl,hk,h.ok⟩,rfl,rfl⟩
theorem decL_ok:∀ (L:List (List UInt8)) (ps q:List (Str×Str)),PsOk ps→decL L ps=some q→PsOk q
 | [],ps,q,h,e=>by cases e;exact h
 | b :: L,ps,q,h,e=>by
   unfold decL at e
   cases hd:dec b with
   | none=>rw[hd] at e;cases e
   | some l=>
     rw[hd] at e
     exact decL_ok L _ q (h.layL (dec_len hd).2) e
theorem sound_op {D:Dk} (hc:Calm D) (ok:Ok D) (h6:6≤D.safe.length) (S:St) (h:(opS D).2.1=some S):Sound (opS D).2.2 S:=by
 obtain⟨G,D',e,hg,-⟩:=opened_on hc ok h6
 have hk:=okay_op D S h
 unfold opS at h ⊢
 rw[e] at h ⊢
 simp only at h ⊢
 cases hd:decL G.l [] with
 | none=>rw[hd] at h;cases h
 | some ps=>
   rw[hd] at h
   cases h
   exact⟨hg,rfl,hk,decL_ok _ _ _ PsOk.nil hd⟩
end Go.Proofs.Ytkjofdocgaiedaa.SO
