/- Texts AccQ, AccR, AcdE, AcdC, AccV, AccX, AcdA, AccW, AccZ, StpN in one. Conditions: as each law names them. -/
import Derived.Deep.CutBlock
import Derived.Deep.DeepCutAuto
import Derived.Test.YtkjofdocgaiedaaPah
import Derived.Test.YtkjofdocgaiedaaPaj
import Derived.Test.YtkjofdocgaiedaaPak
import Derived.Test.YtkjofdocgaiedaaPao
import Derived.Test.YtkjofdocgaiedaaPax
import Derived.Test.YtkjofdocgaiedaaPay
import Derived.Test.YtkjofdocgaiedaaPba
import Derived.Test.YtkjofdocgaiedaaPbb
import Derived.Test.YtkjofdocgaiedaaPbc
namespace Go.Proofs.Ytkjofdocgaiedaa.AC
open Go.Proofs.Ytkjofdocgaiedaa MI SO BM DM WM
theorem putUint_le (n:Nat):(putUint n).length≤10:=putU_le 10 n
theorem putB_le (b:Bal):(putB b).length≤20:=by
 have h1:=putUint_le b.n
 have h2:=putUint_le b.node.toNat
 simp[putB]
 omega
theorem encC_le (c:Ch):(encC c).length≤c.key.length+c.value.length+21:=by
 have h1:=putUint_le c.key.length
 have h2:=putUint_le c.value.length
 unfold encC
 split <;> simp[SO.putB] <;> omega
theorem right_prom {b:Bal}:right (promL b)=true:=by
 have h:=putB_le b
 simp[right,promL,rightC,pK]
 omega
theorem right_vote {v:Vt} (hv:v.val.length≤100):right (voteL v)=true:=by
 have h:=putB_le v.bal
 have h2:=keyS_length v.slot
 simp[right,voteL,rightC,pK,h2]
 omega
theorem enc_prom (b:Bal):encE (promL b)=0∧(enc (promL b)).length≤60:=by
 have h:=putB_le b
 have h1:=putUint_le 1
 have h2:=encC_le ⟨pK,putB b,false⟩
 have hl:(enc (promL b)).length≤60:=by
  simp[enc,promL,pK] at *
  omega
 refine⟨?_,hl⟩
 unfold encE
 rw[right_prom]
 simp only[if_true]
 rw[if_neg (by omega)]
theorem enc_vote {v:Vt} (hv:v.val.length≤100):encE (voteL v)=0∧(enc (voteL v)).length≤210:=by
 have h:=putB_le v.bal
 have h1:=putUint_le 2
 have h2:=encC_le ⟨pK,putB v.bal,false⟩
 have h3:=encC_le ⟨keyS v.slot,putB v.bal ++ v.val,false⟩
 have h4:=keyS_length v.slot
 have hl:(enc (voteL v)).length≤210:=by
  simp[enc,voteL,pK] at *
  omega
 refine⟨?_,hl⟩
 unfold encE
 rw[right_vote hv]
 simp only[if_true]
 rw[if_neg (by omega)]
theorem doA_room {D:Dk} {S:St} (h:Sound D S) {l:List Ch} (he:encE l=0) (hr:(flat S.g.l).length+((enc l).length+10)≤32 * half D) :
  (doA D S l).1=0∧Sound (doA D S l).2.1 (doA D S l).2.2∧(doA D S l).2.2.ps=layL S.ps l∧(flat (doA D S l).2.2.g.l).length=(flat S.g.l).length+((enc l).length+10)∧half (doA D S l).2.1=half D:=by
 have hc:=append_calm h.disk.calm h.disk.h6 h.disk.dead h.disk.fit (wbytes l he).1
 rw[if_neg (by unfold room;omega)] at hc
 obtain⟨c1,c2,c3,c4⟩:=hc
 have hap:(apS D S (enc l)).1=0:=c1
 have e:doS D S l=laidS (apS D S (enc l)) l:=by
  unfold doS
  rw[h.dead]
  simp only[Bool.false_eq_true,if_false]
  rw[if_neg (by omega)]
  unfold intoS
  rw[if_neg (by omega)]
 have h0:(doS D S l).1=0:=by rw[e];exact hap
 have hd:=h.do l
 obtain⟨s1,s2,s3,s4⟩:=hd.sy
 have hps:(doS D S l).2.2.ps=layL S.ps l:=by
  rw[e]
  unfold laidS
  rw[if_pos hap]
  rfl
 have hg:(doS D S l).2.2.g = { S.g with l:=S.g.l ++ [enc l] }:=by
  rw[e]
  unfold laidS
  rw[if_pos hap]
  exact c2
 have hh:half (doS D S l).2.1=half D:=by
  rw[e]
  refine half_eq ?_
  show (WM.append D S.g (enc l)).2.1.safe.length=_
  rw[c4]
 have ed:doA D S l=syS (doS D S l).2.1 (doS D S l).2.2:=by unfold doA;rw[if_pos h0]
 obtain⟨y1,-⟩:=hd.disk.sync
 have ey:syS (doS D S l).2.1 (doS D S l).2.2=(0,{ (doS D S l).2.1 with safe:=now (doS D S l).2.1,waits:=[] },⟨{ (doS D S l).2.2.g with safe:=(doS D S l).2.2.g.l.length },(doS D S l).2.2.ps,false⟩):=by
  unfold syS
  rw[hd.dead,if_neg (by simp),y1]
  rfl
 rw[ed]
 refine⟨s1,s2,by rw[s4,hps],?_,?_⟩
 ·rw[ey]
  simp only
  rw[hg]
  simp only
  exact flat_snoc _ _
 ·rw[ey,← hh]
  exact half_eq (now_length _)
end Go.Proofs.Ytkjofdocgaiedaa.AC
namespace Go.Proofs.Ytkjofdocgaiedaa.AC
open Go.Proofs.Ytkjofdocgaiedaa MI SO BM DM WM
structure Room (H m:Nat) (D:Dk) (A:Ac):Prop where
 sound:Sound D A.s
 ok:AOk A
 half:WM.half D=H
 few:(flat A.s.g.l).length≤m
theorem doA_still {D:Dk} {S:St} {l:List Ch} (h:Sound D S) (h0:(doA D S l).1=0):(doA D S l).2.1.waits = []:=by
 unfold doA at *
 split
 ·exact(h.do l).sy.2.2.1
 ·rename_i h1
  rw[if_neg h1] at h0
  exact absurd h0 h1
theorem Room.alive {H m:Nat} {D:Dk} {A:Ac} (h:Room H m D A):A.s.dead=false:=h.sound.dead
theorem Room.prep {H m:Nat} {D:Dk} {A:Ac} (h:Room H m D A) (hm:m+70≤32 * H) {b:Bal} (hb:OkB b) (hl:less b A.b=false) (k:Nat) :
  (prepA D A b k).1=(fromV A.vs k,b,0)∧Room H (m+70) (prepA D A b k).2.1 (prepA D A b k).2.2∧(prepA D A b k).2.2.b=b∧(prepA D A b k).2.2.vs=A.vs:=by
 have hok:=h.ok.prep (D:=D) b hb.2 k
 unfold prepA at hok ⊢
 rw[if_neg (by rw[hb.1];decide),if_neg (by rw[h.alive];decide),if_neg (by rw[hl];decide)] at hok ⊢
 by_cases e:b=A.b
 ·rw[if_pos e] at hok ⊢
  exact⟨rfl,⟨h.sound,h.ok,h.half,show (flat A.s.g.l).length≤_ from by have:=h.few;omega⟩,e.symm,rfl⟩
 ·rw[if_neg e] at hok ⊢
  obtain⟨e1,e2⟩:=enc_prom b
  obtain⟨r1,r2,r3,r4,r5⟩:=doA_room h.sound e1 (by have:=h.few;rw[h.half];omega)
  rw[if_pos r1] at hok ⊢
  exact⟨rfl,⟨r2,hok,by rw[r5];exact h.half,by simp only;rw[r4];have:=h.few;omega⟩,rfl,rfl⟩
theorem Room.accept {H m:Nat} {D:Dk} {A:Ac} (h:Room H m D A) (hm:m+220≤32 * H) {v:Vt} (hr:rightV v=true) (hn:v.bal.n<18446744073709551616) (hs:v.slot<18446744073709551616) (hl:less v.bal A.b=false) :
  (acceptA D A v).1=(v.bal,0)∧Room H (m+220) (acceptA D A v).2.1 (acceptA D A v).2.2∧(acceptA D A v).2.2.b=v.bal∧(acceptA D A v).2.2.vs=insV A.vs v:=by
 have hok:=h.ok.accept (D:=D) v hn hs
 have hv:v.val.length≤100:=by
  simp only[rightV,Bool.and_eq_true,decide_eq_true_eq] at hr
  exact hr.2.2
 unfold acceptA at hok ⊢
 rw[if_neg (by rw[hr];decide),if_neg (by rw[h.alive];decide),if_neg (by rw[hl];decide)] at hok ⊢
 obtain⟨e1,e2⟩:=enc_vote hv
 obtain⟨r1,r2,r3,r4,r5⟩:=doA_room h.sound e1 (by have:=h.few;rw[h.half];omega)
 rw[if_pos r1] at hok ⊢
 exact⟨rfl,⟨r2,hok,by rw[r5];exact h.half,by simp only;rw[r4];have:=h.few;omega⟩,rfl,rfl⟩
theorem Room.accept_still {H m:Nat} {D:Dk} {A:Ac} (h:Room H m D A) {v:Vt} (h0:(acceptA D A v).1.2=0):(acceptA D A v).2.1.waits = []:=by
 unfold acceptA at *
 split
 ·rename_i h1;rw[if_pos h1] at h0;exact absurd h0 (show ¬ (2:Int)=0 by decide)
 rename_i h1
 rw[if_neg h1] at h0
 split
 ·rename_i h2;rw[if_pos h2] at h0;exact absurd h0 (show ¬ (6:Int)=0 by decide)
 rename_i h2
 rw[if_neg h2] at h0
 split
 ·rename_i h3;rw[if_pos h3] at h0;exact absurd h0 (show ¬ (90:Int)=0 by decide)
 rename_i h3
 rw[if_neg h3] at h0
 split
 ·rename_i h4;exact doA_still h.sound h4
 ·rename_i h4;rw[if_neg h4] at h0;exact absurd h0 h4
theorem Room.again {H m:Nat} {D:Dk} {A:Ac} (h:Room H m D A) (hw:D.waits = []):∃ S',DM.crash D []=D∧openA D=(0,some ⟨S',A.b,A.vs⟩,D)∧Room H m D ⟨S',A.b,A.vs⟩:=by
 have hcr:DM.crash D []=D:=by
  obtain⟨sf,wt,lf,dn⟩:=D
  have hc:=h.sound.disk.calm
  simp only at hw
  subst hw
  obtain⟨c1,c2⟩:=hc
  simp only at c1 c2
  subst c1 c2
  rfl
 have ho:=h.sound.disk.opens
 have hk:=h.sound.okay h.sound.dead
 have hop:opS D=(0,some ⟨⟨A.s.g.ep,A.s.g.l,A.s.g.l.length,false⟩,A.s.ps,false⟩,D):=by
  unfold opS
  rw[ho]
  simp only
  rw[hk]
 have hps:=h.ok.ps h.alive
 have hrd:rd A.s.ps=some (A.b,A.vs):=by rw[hps];exact rd_enc (h.ok.ok h.alive)
 have hs:=sound_op h.sound.disk.calm h.sound.disk.ok h.sound.disk.h6 _ (by rw[hop])
 rw[hop] at hs
 refine⟨_,hcr,?_,⟨hs,⟨fun _=>h.ok.ok h.alive,fun _=>hps⟩,h.half,h.few⟩⟩
 unfold openA
 rw[hop]
 simp only
 rw[hrd]
theorem accept_less {D:Dk} {A:Ac} (hd:A.s.dead=false) {v:Vt} (hr:rightV v=true) (hl:less v.bal A.b=true):acceptA D A v=((A.b,90),D,A):=by
 unfold acceptA
 rw[if_neg (by rw[hr];decide),if_neg (by rw[hd];decide),if_pos hl]
theorem accept_not {D:Dk} {A:Ac} {v:Vt} (hr:rightV v=false):acceptA D A v=((Bal.zero,2),D,A):=by
 unfold acceptA
 rw[if_pos hr]
theorem prep_less {D:Dk} {A:Ac} (hd:A.s.dead=false) {b:Bal} (hr:rightB b=true) (hl:less b A.b=true) (k:Nat):prepA D A b k=(([],A.b,90),D,A):=by
 unfold prepA
 rw[if_neg (by rw[hr];decide),if_neg (by rw[hd];decide),if_pos hl]
theorem Room.any {H m:Nat} {D:Dk} {A:Ac} (h:Room H m D A) (hm:m+220≤32 * H) (v:Vt) (hn:v.bal.n<18446744073709551616) (hs:v.slot<18446744073709551616):Room H (m+220) (acceptA D A v).2.1 (acceptA D A v).2.2∧
  (((acceptA D A v).1.2=0∧(acceptA D A v).2.2.vs=insV A.vs v∧rightV v=true)∨((acceptA D A v).1.2≠0∧(acceptA D A v).2.2.vs=A.vs)):=by
 have up:Room H (m+220) D A:=⟨h.sound,h.ok,h.half,by have:=h.few;omega⟩
 cases hr:rightV v with
 | false=>
   rw[accept_not hr]
   exact⟨up,.inr ⟨show (2:Int)≠0 by decide,rfl⟩⟩
 | true=>
   cases hl:less v.bal A.b with
   | true=>
     rw[accept_less h.alive hr hl]
     exact⟨up,.inr ⟨show (90:Int)≠0 by decide,rfl⟩⟩
   | false=>
     obtain⟨h1,h2,h3,h4⟩:=h.accept hm hr hn hs hl
     exact⟨h2,.inl ⟨by rw[h1],h4,rfl⟩⟩
def lastV (last:List Vt) (v:Vt):List Vt:=last.filter (fun u=>decide (u.slot≠v.slot)) ++ [v]
end Go.Proofs.Ytkjofdocgaiedaa.AC
namespace Go.Proofs.Ytkjofdocgaiedaa.AC
open Go.Proofs.Ytkjofdocgaiedaa MI SO BM DM WM
theorem syS_waits (D:Dk) (S:St):(syS D S).2.1.waits.length≤D.waits.length:=by
 unfold syS
 split
 ·exact Nat.le_refl _
 ·exact syncW_waits D S.g
theorem doA_waits {D:Dk} (h:D.safe.length≤2048) (S:St) (l:List Ch):(doA D S l).2.1.waits.length≤D.waits.length+5120:=by
 have h1:=doS_waits h S l
 unfold doA
 split
 ·exact Nat.le_trans (syS_waits _ _) h1
 ·exact h1
theorem prepA_waits {D:Dk} (h:D.safe.length≤2048) (A:Ac) (b:Bal) (k:Nat):(prepA D A b k).2.1.waits.length≤D.waits.length+5120:=by
 have h1:=doA_waits h A.s (promL b)
 unfold prepA
 repeat' split
 all_goals simp only
 all_goals omega
theorem acceptA_waits {D:Dk} (h:D.safe.length≤2048) (A:Ac) (v:Vt):(acceptA D A v).2.1.waits.length≤D.waits.length+5120:=by
 have h1:=doA_waits h A.s (voteL v)
 unfold acceptA
 repeat' split
 all_goals simp only
 all_goals omega
theorem encP_len (b:Bal) (vs:List Vt):(encP b vs).length≤vs.length+1:=by
 unfold encP
 rw[List.length_append,List.length_map]
 split <;> simp <;> omega
theorem AOk.few {A:Ac} (h:AOk A) (hd:A.s.dead=false):A.s.ps.length≤A.vs.length+1:=by
 rw[h.ps hd]
 exact encP_len _ _
end Go.Proofs.Ytkjofdocgaiedaa.AC
namespace Go.Proofs.Ytkjofdocgaiedaa.AC
open Go.Proofs.Ytkjofdocgaiedaa MI SO BM DM WM
def kA0:Ac:=⟨nS0,Bal.zero,[]⟩
def kV:Vt:=⟨3,⟨1,2⟩,[120]⟩
theorem k_op:(opS (DM.new 60))=(0,some nS0,DM.new 60):=by kernel_rfl
theorem openA_some {D D':Dk} {S:St} {b:Bal} {vs:List Vt} (h:opS D=(0,some S,D')) (hr:rd S.ps=some (b,vs)):openA D=(0,some ⟨S,b,vs⟩,D'):=by
 unfold openA
 rw[h]
 simp only
 rw[hr]
theorem k_open:openA (DM.new 60)=(0,some kA0,DM.new 60):=openA_some k_op rfl
theorem k_half:WM.half (DM.new 60)=29:=by kernel_rfl
theorem k_sound:Sound (DM.new 60) nS0:=by
 have hs:=sound_op (D:=DM.new 60) ⟨rfl,rfl⟩ (Ok.new (by decide) (by decide)) (by decide) nS0 (by rw[k_op])
 rw[k_op] at hs
 exact hs
theorem k_room:Room 29 0 (DM.new 60) kA0:=⟨k_sound,⟨fun _=>⟨.inl rfl,List.Pairwise.nil,fun v hv=>by cases hv⟩,fun _=>rfl⟩,k_half,Nat.le_refl 0⟩
theorem k_go:∃ (D1:Dk) (A1:Ac) (D2:Dk) (A2 A3:Ac),prepA (DM.new 60) kA0 ⟨1,2⟩ 1=(([],⟨1,2⟩,0),D1,A1)∧acceptA D1 A1 kV=((⟨1,2⟩,0),D2,A2)∧prepA D2 A2 ⟨1,1⟩ 1=(([],⟨1,2⟩,90),D2,A2)∧
  DM.crash D2 []=D2∧openA D2=(0,some A3,D2)∧(prepA D2 A3 ⟨2,0⟩ 1).1=([kV],⟨2,0⟩,0)∧AOk A1∧AOk A2∧AOk A3∧A1.s.ps.length≤10∧A2.s.ps.length≤10∧A3.s.ps.length≤10∧D1.waits.length≤20000∧D2.waits.length≤20000:=by
 obtain⟨p1,p2,p3,p4⟩:=k_room.prep (by decide) (b:=⟨1,2⟩) ⟨by decide,by decide⟩ (by decide) 1
 obtain⟨R1,hR1⟩:∃ R1,R1=prepA (DM.new 60) kA0 ⟨1,2⟩ 1:=⟨_,rfl⟩
 rw[← hR1] at p1 p2 p3 p4
 obtain⟨a1,a2,a3,a4⟩:=p2.accept (by decide) (v:=kV) (by decide) (by decide) (by decide) (by rw[p3];decide)
 have st:=p2.accept_still (v:=kV) (by rw[a1])
 obtain⟨R2,hR2⟩:∃ R2,R2=acceptA R1.2.1 R1.2.2 kV:=⟨_,rfl⟩
 rw[← hR2] at a1 a2 a3 a4 st
 rw[p4] at a4
 have l1:=prep_less (D:=R2.2.1) a2.alive (b:=⟨1,1⟩) (by decide) (by rw[a3];decide) 1
 rw[a3] at l1
 obtain⟨S',g1,g2,g3⟩:=a2.again st
 rw[a3,a4] at g2 g3
 obtain⟨q1,-⟩:=g3.prep (by decide) (b:=⟨2,0⟩) ⟨by decide,by decide⟩ (show less ⟨2,0⟩ kV.bal=false by decide) 1
 have w1:=prepA_waits (D:=DM.new 60) (k_room.sound.disk.ok.few) kA0 ⟨1,2⟩ 1
 rw[← hR1] at w1
 have w2:=acceptA_waits p2.sound.disk.ok.few R1.2.2 kV
 rw[← hR2] at w2
 have w0:(DM.new 60).waits.length=0:=rfl
 have f1:=p2.ok.few p2.alive
 have f2:=a2.ok.few a2.alive
 have f3:=g3.ok.few g3.alive
 rw[p4,show kA0.vs.length=0 from rfl] at f1
 rw[a4,show (insV kA0.vs kV).length=1 from rfl] at f2
 rw[show (insV kA0.vs kV).length=1 from rfl] at f3
 refine⟨R1.2.1,R1.2.2,R2.2.1,R2.2.2,_,?_,?_,l1,g1,g2,?_,p2.ok,a2.ok,g3.ok,by omega,by omega,by omega,by omega,by omega⟩
 ·rw[← hR1]
  exact Prod.ext p1 rfl
 ·rw[← hR2]
  exact Prod.ext a1 rfl
 ·exact q1
end Go.Proofs.Ytkjofdocgaiedaa.AC
namespace Go.Proofs.Ytkjofdocgaiedaa
open Go.RowKit Go.Maps
open MI SO BM DM WM AC
def GetBPost (w:World) (s:Str) (e:Ending) (w':World):Prop:=Keep (fun _=>False) w w'∧match getB s with
 | some (b,rest)=>∃ u,e = .returned (.tuple #[balV b,u,.bool true])∧Row w' 5 1 u rest.length (bytesV rest)∧∀ k,u.ownBlock=some k→w.heap.size≤k
 | none=>∃ (n d:Nat) (ua:Option Addr) (k c:Nat),e = .returned (.tuple #[.agg #[.int .u64 (n:Int),.int .i64 (d:Int)],.slice ua k c,.bool false])
theorem AC.getB_bad {s:Str} {n1 a1 e1 n2 a2 e2:Nat} (h1:(n1,a1,e1)=uS s (0,0)) (h2:(n2,a2,e2)=uS s (a1,e1)) (h:e2≠0∨12≤n2):getB s=none:=by
 unfold uS at h1 h2
 unfold getB
 simp only[ne_eq,not_true_eq_false,if_false] at h1
 cases hu:uint s 0 with
 | no x=>rfl
 | yes n t=>
   rw[hu] at h1
   simp only at h1
   cases h1
   simp only[ne_eq,not_true_eq_false,if_false] at h2
   simp only
   cases hu2:uint s a1 with
   | no x=>rfl
   | yes k b=>
     rw[hu2] at h2
     simp only at h2
     cases h2
     simp only
     rw[if_neg (by omega)]
theorem AC.getB_good {s:Str} {n1 a1 e1 n2 a2:Nat} (h1:(n1,a1,e1)=uS s (0,0)) (h2:(n2,a2,0)=uS s (a1,e1)) (h:n2<12):getB s=if 0<n1 then some (⟨n1,(n2:Int)⟩,s.drop a2) else none:=by
 unfold uS at h1 h2
 unfold getB
 simp only[ne_eq,not_true_eq_false,if_false] at h1
 cases hu:uint s 0 with
 | no x=>
   exfalso
   rw[hu] at h1
   simp only at h1
   cases h1
   have:=(uint_no2 hu).1
   rw[if_pos this] at h2
   cases h2
   exact this rfl
 | yes n t=>
   rw[hu] at h1
   simp only at h1
   cases h1
   simp only[ne_eq,not_true_eq_false,if_false] at h2
   simp only
   cases hu2:uint s a1 with
   | no x=>
     exfalso
     rw[hu2] at h2
     simp only at h2
     cases h2
     exact(uint_no2 hu2).1 rfl
   | yes k b=>
     rw[hu2] at h2
     simp only at h2
     cases h2
     simp only
     by_cases hn:0<n1
     ·rw[if_pos ⟨h,hn⟩,if_pos hn]
     ·rw[if_neg (by omega),if_neg hn]
theorem setCell_same {w:World} {g i:Nat} {cs:Array Value} {t:TypeId} {v:Value} (h:w.heap[g]?=some (.cells cs t (0,0))) (hv:cs[i]?=some v):Keep (fun _=>False) w (w.setCell ⟨g,i,none⟩ v):=by
 have hk:Keep (fun k=>k=g) w (w.setCell ⟨g,i,none⟩ v):=by refine Keep.setCell (Keep.refl _ _) (.inl ?_) _;rfl
 have hh:=heap_setCell_same w g i cs t v h
 refine⟨hk.os,hk.tape,hk.output,hk.size,fun k hkl _=>?_⟩
 by_cases hkg:k=g
 ·subst hkg
  have e:cs.setIfInBounds i v=cs:=by
   apply Array.ext_getElem?
   intro j
   rw[Array.getElem?_setIfInBounds]
   split
   ·rename_i hij
    subst hij
    split
    ·exact hv.symm
    ·rename_i hlt
     rw[Array.getElem?_eq_none (by omega)]
   ·rfl
  rw[hh,e,h]
 ·exact hk.block k hkl hkg
theorem results_ctt {P:Program} {fn:Func} {t u v:Tmp} {ty:TypeId} (h:fn.results = #[.cell t ty,.tmp u,.tmp v]) (tmps:Array Value) (w:World) (g:Nat) (ht:tmps.getD t undef = .pointer (some ⟨g,0,none⟩)) (cs:List Value)
  (hc:∀ j u,cs[j]?=some u→w.cell? ⟨g,j,none⟩=some u) (d:TypeDesc)
  (hu:P.underlying ty=some d) (hd:(match d with | .struct _ | .array _ _=>true | _=>false)=true) (hi:(P.info? ty).map (·.size)=some cs.length) :
  (results fn tmps).run P w = .ok (.tuple #[.agg cs.toArray,tmps.getD u undef,tmps.getD v undef]) w:=by
 have hl:=run_loadCells_list (P:=P) w ⟨g,0,none⟩ cs (fun j v hv=>by rw[addr_add,Nat.zero_add];exact hc j v hv)
 cases hq:P.info? ty with
 | none=>simp[hq] at hi
 | some i=>
   have hs:i.size=cs.length:=by simpa [hq] using hi
   have hagg:(isAgg ty).run P w = .ok true w:=by
    unfold isAgg
    rw[Sem.run_bind,run_underlying hu w]
    cases d <;> simp_all
   have hr:(loadVar ty ⟨g,0,none⟩).run P w = .ok (.agg cs.toArray) w:=by
    simp[loadVar,Sem.run_bind,hagg,sizeOf,typeInfo,hq,hs,hl]
   have ht':tmps[t]?.getD undef = .pointer (some ⟨g,0,none⟩):=by simpa using ht
   simp[results,h,ht',asAddr,hr]
theorem bal_put (w1:World) (g:Nat) (a b:Value) (h:w1.heap[g]?=some (.cells #[a,b] 24 (0,0))) (c d:Value) :
  (∀ j u,[c,d][j]?=some u→((w1.setCell ⟨g,0,none⟩ c).setCell ⟨g,1,none⟩ d).cell? ⟨g,j,none⟩=some u)∧Keep (fun k=>k=g) w1 ((w1.setCell ⟨g,0,none⟩ c).setCell ⟨g,1,none⟩ d)∧
   ((w1.setCell ⟨g,0,none⟩ c).setCell ⟨g,1,none⟩ d).heap[g]?=some (.cells #[c,d] 24 (0,0)):=by
 have g1:=heap_setCell6 h 0 c
 have g2:=heap_setCell6 g1 1 d
 refine⟨fun j u hu=>?_,?_,g2⟩
 ·rw[cell_of_row _ _ _ _ _ _ g2]
  simpa using hu
 ·refine Keep.setCell (Keep.setCell (Keep.refl _ _) (.inl ?_) _) (.inl ?_) _ <;> rfl
set_option maxRecDepth 20000 in
set_option maxHeartbeats 2000000 in
theorem aget_any (w:World) (s:Str) (hs:s.length≤1000000):Calls Try.prog 44 #[.string (str s)] w (GetBPost w s):=by
 have hn1:=heap_alloc_new w (.cells #[.int .u64 0,.int .i64 0] 24)
 have hk1:Keep (fun _=>False) w (w.alloc (.cells #[.int .u64 0,.int .i64 0] 24)):=(Keep.refl _ _).alloc _
 obtain⟨w1,hw1⟩:∃ w1,w1=w.alloc (.cells #[.int .u64 0,.int .i64 0] 24):=⟨_,rfl⟩
 have hz1:w1.heap.size=w.heap.size+1:=by rw[hw1];simp
 rw[← hw1] at hn1 hk1
 obtain⟨c1,w2,hcv,hf2⟩:=conv_str w1 s (by unfold maxLen;omega)
 have H2:=hid (And.intro (hk1.next hf2.keep (H:=fun _=>False) (fun _ _ x=>x) (fun _ _ x=>x)) (And.intro (hf2.keep.get hn1 id) (And.intro hf2.row (And.intro hz1 hf2.keep.size))))
 have hrd:=rdnew_any w2 _ s.length c1 s (Cells.of_row hf2.row) (by omega)
 clear hn1 hk1 hf2 hz1
 go_enter Try.func44,Try.ntmps44
 go_upto_region 1 with fail
 rw[← hw1]
 clear hw1
 go_wp2_with (at_builtin;refine stopAt ?_;intro q hq)
 refine hrd.mono ?_
 rintro e w3 ⟨g,rv,rfl,hr3,hk3,hg3,-⟩
 obtain⟨hk02,hn2,hrow2,hz1,hz2⟩:=H2.out
 have hg:w.heap.size<g:=by omega
 have hn3:=hk3.get hn2 id
 have HA:=hid (And.intro (hk02.next hk3 (H:=fun _=>False) (fun _ _ x=>x) (fun _ _ x=>x)) (And.intro hn3 hr3))
 have hu1:=rduint_st w3 g rv s 0 0 hr3 (Nat.zero_le _) (by omega)
 have hp1:=uS_pos s (a:=0) (e:=0) (Nat.zero_le _)
 obtain⟨r1,hr1⟩:∃ r1,r1=uS s (0,0):=⟨_,rfl⟩
 rw[← hr1] at hu1 hp1
 obtain⟨n1,a1,e1⟩:=r1
 simp only at hu1 hp1
 have HE1:=hid hr1
 clear hrd hcv hk3 hr3 hk02 hn2 hrow2 hz1 hz2 H2 hg3 hn3 hr1
 go_wp2_with (at_builtin;refine stopAt ?_;intro q hq)
 refine hu1.mono ?_
 rintro e w4 ⟨rfl,hr4,hk4⟩
 have hn4:=hk4.get HA.out.2.1 (fun x=>by omega)
 have f4:w4.frozen? ⟨w.heap.size,0,none⟩=false:=by simp[World.frozen?,hn4]
 have c4:w4.cell? ⟨w.heap.size,0,none⟩=some (.int .u64 0):=by simp[World.cell?,hn4]
 have hk5:Keep (fun k=>k=w.heap.size) w4 (w4.setCell ⟨w.heap.size,0,none⟩ (.int .u64 (n1:Int))):=by refine Keep.setCell (Keep.refl _ _) (.inl ?_) _;rfl
 have hn5:=heap_setCell6 hn4 0 (.int .u64 (n1:Int))
 have hr5:=hr4.keep hk5 (show ¬ g=w.heap.size by omega) (fun k e x=>by
  have h1:k=w.heap.size:=x
  subst h1
  exact hr4.row.not_block hn4 (by decide) e)
 have hkA:=(HA.out.1.next hk4 (H:=fun _=>False) (fun _ _ x=>x) (fun j hj x=>by have h1:j=g:=x;omega)).next hk5 (H:=fun _=>False) (fun _ _ x=>x) (fun j hj x=>by have h1:j=w.heap.size:=x;omega)
 obtain⟨w5,hw5⟩:∃ w5,w5=w4.setCell ⟨w.heap.size,0,none⟩ (.int .u64 (n1:Int)):=⟨_,rfl⟩
 rw[← hw5] at hn5 hr5 hkA
 have H5:=hid (And.intro hn5 (And.intro hr5 hkA))
 clear hn4 hk5 hn5 hr4 hr5 hkA hk4 hu1 HA
 go_upto_region 3 with fail
 rw[← hw5]
 clear hw5 f4 c4
 have hu2:=rduint_st w5 g rv s a1 e1 H5.out.2.1 hp1.1 (by omega)
 have hp2:=uS_pos s (e:=e1) hp1.1
 obtain⟨r2,hr2⟩:∃ r2,r2=uS s (a1,e1):=⟨_,rfl⟩
 rw[← hr2] at hu2 hp2
 obtain⟨n2,a2,e2⟩:=r2
 simp only at hu2 hp2
 have HE2:=hid hr2
 clear hr2
 go_wp2_with (at_builtin;refine stopAt ?_;intro q hq)
 refine hu2.mono ?_
 rintro e w6 ⟨rfl,hr6,hk6⟩
 have hn6:=hk6.get H5.out.1 (fun x=>by omega)
 have H6:=hid (And.intro hn6 (And.intro hr6 (H5.out.2.2.next hk6 (H:=fun _=>False) (fun _ _ x=>x) (fun j hj x=>by have h1:j=g:=x;omega))))
 have f6:∀ o,w6.frozen? ⟨w.heap.size,o,none⟩=false:=fun o=>by simp[World.frozen?,hn6]
 have c60:w6.cell? ⟨w.heap.size,0,none⟩=some (.int .u64 (n1:Int)):=by simp[World.cell?,hn6]
 have c61:w6.cell? ⟨w.heap.size,1,none⟩=some (.int .i64 0):=by simp[World.cell?,hn6]
 have her:=rderr_any w6 g rv s a2 e2 hr6
 clear hu2 hr6 hn6 hk6 H5
 by_cases he:e2≠0
 ·have q1:((e2:Int) != 0)=true:=by simp;omega
  have q2:decide (e2=0)=false:=decide_eq_false he
  have HB:=hid (AC.getB_bad HE1.out HE2.out (.inl he))
  clear he
  go_wp2_with (at_builtin;refine stopAt ?_;intro q hq)
  refine her.mono ?_
  rintro e w7 ⟨rfl,rfl⟩
  clear her
  go_wp2_with (at_builtin;refine stopAt ?_;intro q hq)
  obtain⟨g1,g2,-⟩:=bal_put w7 w.heap.size _ _ H6.out.1 (.int .u64 (n1:Int)) (.int .i64 0)
  refine bodyPost_ret (results_ctt rfl _ _ w.heap.size rfl [.int .u64 (n1:Int),.int .i64 0] g1 _ Try.underlying24 rfl (by kernel_rfl)) rfl ⟨H6.out.2.2.next g2 (fun _ _ x=>x) (fun k hk x=>by omega),?_⟩
  rw[HB.out]
  exact⟨n1,0,none,0,0,rfl⟩
 ·obtain rfl:e2=0:=by omega
  clear he
  by_cases hb:12≤n2
  ·have q2:(12:Int)≤(n2:Int):=by omega
   have HB:=hid (AC.getB_bad HE1.out HE2.out (.inr hb))
   clear hb
   go_wp2_with (at_builtin;refine stopAt ?_;intro q hq)
   refine her.mono ?_
   rintro e w7 ⟨rfl,rfl⟩
   clear her
   go_wp2_with (at_builtin;refine stopAt ?_;intro q hq)
   obtain⟨g1,g2,-⟩:=bal_put w7 w.heap.size _ _ H6.out.1 (.int .u64 (n1:Int)) (.int .i64 0)
   refine bodyPost_ret (results_ctt rfl _ _ w.heap.size rfl [.int .u64 (n1:Int),.int .i64 0] g1 _ Try.underlying24 rfl (by kernel_rfl)) rfl ⟨H6.out.2.2.next g2 (fun _ _ x=>x) (fun k hk x=>by omega),?_⟩
   rw[HB.out]
   exact⟨n1,0,none,0,0,rfl⟩
  ·have q2:decide ((12:Int)≤(n2:Int))=false:=decide_eq_false (by omega)
   have q3:decide (12≤n2)=false:=decide_eq_false hb
   have q4:=wi64 n2 (by omega)
   have HB:=hid (AC.getB_good HE1.out HE2.out (by omega))
   have hn12:n2<12:=by omega
   clear hb
   go_wp2_with (at_builtin;refine stopAt ?_;intro q hq)
   refine her.mono ?_
   rintro e w7 ⟨rfl,rfl⟩
   clear her
   have hk8:Keep (fun k=>k=w.heap.size) w7 (w7.setCell ⟨w.heap.size,1,none⟩ (.int .i64 (n2:Int))):=by refine Keep.setCell (Keep.refl _ _) (.inl ?_) _;rfl
   have hn8:=heap_setCell6 H6.out.1 1 (.int .i64 (n2:Int))
   have hr8:=H6.out.2.1.keep hk8 (show ¬ g=w.heap.size by omega) (fun k e x=>by
    have h1:k=w.heap.size:=x
    subst h1
    exact H6.out.2.1.row.not_block H6.out.1 (by decide) e)
   have hkw:=H6.out.2.2.next hk8 (H:=fun _=>False) (fun _ _ x=>x) (fun j hj x=>by have h1:j=w.heap.size:=x;omega)
   obtain⟨w8,hw8⟩:∃ w8,w8=w7.setCell ⟨w.heap.size,1,none⟩ (.int .i64 (n2:Int)):=⟨_,rfl⟩
   rw[← hw8] at hn8 hr8 hkw
   have H8:=hid (And.intro hn8 (And.intro hr8 hkw))
   clear hk8 hn8 hr8 hkw
   go_upto_region 7 with fail
   rw[← hw8]
   clear hw8 f6 c60 c61 q2 q3 q4 H6
   have c80:w8.cell? ⟨w.heap.size,0,none⟩=some (.int .u64 (n1:Int)):=by have:=H8.out.1;simp[World.cell?,this]
   have c81:w8.cell? ⟨w.heap.size,1,none⟩=some (.int .i64 (n2:Int)):=by have:=H8.out.1;simp[World.cell?,this]
   obtain⟨sl,hsl⟩:∃ sl,sl=s.length:=⟨_,rfl⟩
   obtain⟨lf,hlf⟩:∃ lf,lf=s.length - a2:=⟨_,rfl⟩
   have hsz:(str s).size=sl:=by rw[hsl];exact str_size s
   obtain⟨r,hr⟩:∃ r,r=s.drop a2:=⟨_,rfl⟩
   have hrl:r.length=lf:=by rw[hr,List.length_drop,hlf]
   have hex:(str s).extract a2 sl=str r:=by rw[hr,str_extract,hsl,List.take_length]
   have hsub:(sl:Int) - (lf:Int)=(a2:Int):=by omega
   have t1:=wi64 a2 (by omega)
   obtain⟨rb,hrb⟩:∃ rb,rb=rightB ⟨n1,(n2:Int)⟩:=⟨_,rfl⟩
   have HX:=hid (And.intro hsl (And.intro hlf (And.intro hr (And.intro hrl hrb))))
   clear hsl hlf hr hrl hrb
   have HL:=hid (fun s':Later w8=>show Calls Try.prog 68 #[.pointer (some ⟨g,0,none⟩)] s'.val fun e w'=>e = .returned (.int .i64 (lf:Nat))∧Keep (fun _=>False) s'.val w' from by
    have:=rdleft_any s'.val g rv s a2 (H8.out.2.1.keep s'.keep id (fun _ _=>id)) hp2.1 (by omega)
    rw[← HX.out.2.1] at this
    exact this)
   have HRt:=hid (fun s':Later w8=>show Calls Try.prog 7 #[.agg #[.int .u64 (n1:Int),.int .i64 (n2:Int)]] s'.val fun e w'=>e = .returned (.bool rb)∧Keep (fun _=>False) s'.val w' from by
    have:=aright_any s'.val ⟨n1,(n2:Int)⟩
    rw[← HX.out.2.2.2.2] at this
    exact this)
   have j0:=fun s':Later w8=>s'.cell c80
   have j1:=fun s':Later w8=>s'.cell c81
   have hla:a2≤sl:=by have:=HX.out.1;have:=hp2.1;omega
   have hlz:(a2:Int)≤((str s).size:Nat):=by rw[hsz];omega
   refine wp_region_pool [(5,fun v _=>v = .int .i64 (lf:Nat)),(8,fun v w'=>∃ ua c,v = .slice ua lf c∧Row w' 5 1 v lf (bytesV r)∧∀ k,v.ownBlock=some k→w8.heap.size≤k),(10,fun v _=>v = .bool rb),(11,fun _ _=>True)] (by kernel_rfl) (by kernel_rfl) ?_ ?_
   ·intro q hq v w1 w3 hk hx
    simp only[List.mem_cons,List.not_mem_nil,or_false] at hq
    rcases hq with rfl | rfl | rfl | rfl
    ·exact hx
    ·obtain⟨ua,c,e,hrw,ho⟩:=hx
     exact⟨ua,c,e,hrw.keep hk (fun _ _ x=>x),ho⟩
    ·exact hx
    ·trivial
   repeat (apply wpT_pure (by rfl);(intro K s;go_simp;exact id))
   refine wpT_made (by rfl) (by kernel_rfl) (fun s1 hs=>?_) (fun v hv K hK=>?_)
   ·go_simp
    refine(HL.out s1).mono ?_
    rintro e w' ⟨rfl,hk⟩
    exact⟨rfl,hk⟩
   obtain⟨s1,-,rfl⟩:=hv
   go_simp
   refine hK _ ?_
   clear hK K s1
   repeat (apply wpT_pure (by rfl);(intro K s;go_simp;exact id))
   refine wpT_made (by rfl) (by kernel_rfl) (fun s1 hs=>?_) (fun v hv K hK=>?_)
   ·obtain⟨c,w2,hcv,hf⟩:=conv_str s1.val r (by have h1:=HX.out.2.2.2.1;have h2:=HX.out.2.1;unfold maxLen;omega)
    have hrl:=HX.out.2.2.2.1
    rw[hrl] at hcv hf
    go_simp
    exact⟨hf.keep,by have h:=hf.row;rwa [hrl] at h,fun k e=>Nat.le_trans s1.keep.size (hf.own k e)⟩
   obtain⟨s2,-,ua,c,rfl,-,-⟩:=hv
   go_simp
   refine hK _ ?_
   clear hK K s2
   repeat (apply wpT_pure (by rfl);(intro K s;go_simp;exact id))
   refine wpT_made (by rfl) (by kernel_rfl) (fun s1 hs=>?_) (fun v hv K hK=>?_)
   ·go_simp
    refine(HRt.out s1).mono ?_
    rintro e w' ⟨rfl,hk⟩
    exact⟨rfl,hk⟩
   obtain⟨s3,-,rfl⟩:=hv
   go_simp
   refine hK _ ?_
   clear hK K s3
   repeat (apply wpT_pure (by rfl);(intro K s;go_simp;exact id))
   refine wpT_made (by rfl) (by kernel_rfl) (fun s1 hs=>?_) (fun v hv K hK=>?_)
   ·have hb1:=s1.keep.get H8.out.1 id
    have f1:∀ o,s1.val.frozen? ⟨w.heap.size,o,none⟩=false:=fun o=>by simp[World.frozen?,hb1]
    have c1:=s1.cell c80
    have c2:=s1.cell c81
    have e1:=setCell_same hb1 (i:=0) rfl
    have hb2:=heap_setCell6 hb1 0 (.int .u64 (n1:Int))
    have e2:Keep (fun _=>False) (s1.val.setCell ⟨w.heap.size,0,none⟩ (.int .u64 (n1:Int))) ((s1.val.setCell ⟨w.heap.size,0,none⟩ (.int .u64 (n1:Int))).setCell ⟨w.heap.size,1,none⟩ (.int .i64 (n2:Int))):=setCell_same hb2 (i:=1) rfl
    have HS:=hid (e1.next e2 (H:=fun _=>False) (fun _ _ x=>x) (fun _ _ x=>x))
    clear e1 e2 hb1 hb2
    go_simp
    exact HS.out
   obtain⟨s4,-,-⟩:=hv
   go_simp
   refine hK _ ?_
   clear hK K s4
   repeat (apply wpT_pure (by rfl);(intro K s;go_simp;exact id))
   refine wpT_nil ?_
   intro s1 hs
   obtain⟨_,_,-,hrow,hown⟩:=hs (8,(fun (v:Value) (w':World)=>∃ ua c,v = .slice ua lf c∧Row w' 5 1 v lf (bytesV r)∧∀ k,v.ownBlock=some k→w8.heap.size≤k) (.slice ua lf c)) (List.mem_append_left _ (List.mem_append_left _ (List.mem_append_right _ (List.mem_singleton.2 rfl))))
   have hk1:=s1.keep
   obtain⟨w9,hw9⟩:∃ w9,w9=s1.val:=⟨_,rfl⟩
   rw[← hw9] at hk1 hrow ⊢
   clear hw9 hs s1 j0 j1 HL HRt
   go_wp2_with (at_builtin;refine stopAt ?_;intro q hq)
   have hb9:=hk1.get H8.out.1 id
   refine bodyPost_ret (results_ctt rfl _ _ w.heap.size rfl [.int .u64 (n1:Int),.int .i64 (n2:Int)] (fun j u hu=>by rw[cell_of_row _ _ _ _ _ _ hb9];simpa using hu) _ Try.underlying24 rfl (by kernel_rfl)) rfl ⟨H8.out.2.2.next hk1 (H:=fun _=>False) (fun _ _ x=>x) (fun _ _ x=>x),?_⟩
   rw[HB.out]
   by_cases hn:0<n1
   ·rw[if_pos hn]
    have hrb:rb=true:=by rw[HX.out.2.2.2.2];exact rightB_iff.2 ⟨hn,by simp,by simp only;omega⟩
    subst hrb
    simp only
    refine⟨.slice ua lf c,rfl,?_,fun k e=>Nat.le_trans H8.out.2.2.size (hown k e)⟩
    rw[← HX.out.2.2.1,HX.out.2.2.2.1]
    exact hrow
   ·rw[if_neg hn]
    have hrb:rb=false:=by
     rw[HX.out.2.2.2.2]
     cases h:rightB ⟨n1,(n2:Int)⟩ with
     | false=>rfl
     | true=>exact absurd (rightB_iff.1 h).1 hn
    subst hrb
    exact⟨n1,n2,ua,lf,c,rfl⟩
end Go.Proofs.Ytkjofdocgaiedaa
namespace Go.Proofs.Ytkjofdocgaiedaa
open Go.RowKit Go.Maps
open MI SO BM DM WM AC
theorem Row.setAt {w:World} {e:TypeId} {size g n cap:Nat} {xs:List Value} (h:Row w e size (.slice (.some ⟨g,0,none⟩) n cap) n xs) (i:Nat) (u:Value) :
  Row (w.setCell ⟨g,i,none⟩ u) e size (.slice (.some ⟨g,0,none⟩) n cap) n (xs.set i u):=by
 obtain⟨h0,h⟩:=h
 rcases h with ⟨hv,_⟩ | ⟨g',cap',cur,fz,hv,hg,hf,h1,h2,h3,h4⟩
 ·cases hv
 ·cases hv
  refine⟨by simpa using h0,.inr ⟨g,cap,cur.setIfInBounds i u,fz,rfl,?_,by simpa using hf,h1,h2,by simpa using h3,?_⟩⟩
  ·simp[World.setCell]
   rw[Array.getElem?_modify]
   simp[hg]
  ·rw[← h4]
   simp only[Array.toList_setIfInBounds]
   rw[List.take_set]
def put4 (l:List Value) (p:Nat) (y:List Value):List Value:=l.take p ++ y ++ l.drop (p+4)
theorem put4_set (l:List Value) (p:Nat) (a b c d:Value) (hp:p+4≤l.length):(((l.set p a).set (p+1) b).set (p+2) c).set (p+3) d=put4 l p [a,b,c,d]:=by
 unfold put4
 apply List.ext_getElem?
 intro j
 simp only[List.getElem?_set,List.length_set]
 by_cases h:j<p
 ·rw[if_neg (by omega),if_neg (by omega),if_neg (by omega),if_neg (by omega),List.append_assoc,List.getElem?_append_left (by simp;omega),List.getElem?_take_of_lt h]
 ·by_cases h4:j<p+4
  ·obtain⟨k,rfl⟩:∃ k,j=p+k:=⟨j - p,by omega⟩
   have hk:k<4:=by omega
   rw[List.getElem?_append_left (by simp;omega),List.getElem?_append_right (by simp;omega)]
   simp only[List.length_take,Nat.min_eq_left (show p≤l.length by omega),Nat.add_sub_cancel_left]
   match k,hk with
   | 0,_=>simp;omega
   | 1,_=>simp;omega
   | 2,_=>simp;omega
   | 3,_=>simp;omega
  ·rw[if_neg (by omega),if_neg (by omega),if_neg (by omega),if_neg (by omega),List.getElem?_append_right (by simp;omega),List.getElem?_drop]
   congr 1
   simp
   omega
theorem put4_ins (xs z y:List Value) (p:Nat) (hz:z.length=4) (hp:p≤xs.length):put4 (splice (xs ++ z) (p+4) (xs.drop p)) p y=xs.take p ++ y ++ xs.drop p:=by
 unfold put4 splice
 have h1:((xs ++ z).take (p+4)).length=p+4:=by simp;omega
 rw[List.append_assoc,List.take_append_of_le_length (by omega),List.drop_append,h1,Nat.sub_self,List.drop_zero,List.drop_of_length_le (by omega),List.nil_append]
 rw[List.take_take,Nat.min_eq_left (by omega),List.take_append_of_le_length hp]
 have h2:(xs ++ z).drop (p+4+(xs.drop p).length) = []:=List.drop_of_length_le (by simp;omega)
 rw[h2,List.append_nil,List.append_assoc]
theorem votesV_append {vs ws:List Vt} {us ts:List Value} (h:us.length=vs.length):votesV (vs ++ ws) (us ++ ts)=votesV vs us ++ votesV ws ts:=by
 unfold votesV
 rw[List.zip_append h.symm]
 simp
theorem votesV_take {vs:List Vt} {us:List Value} (h:us.length=vs.length) (p:Nat) (hp:p≤vs.length):(votesV vs us).take (p * 4)=votesV (vs.take p) (us.take p)∧(votesV vs us).drop (p * 4)=votesV (vs.drop p) (us.drop p):=by
 have e:votesV vs us=votesV (vs.take p) (us.take p) ++ votesV (vs.drop p) (us.drop p):=by
  rw[← votesV_append (by simp[h]),List.take_append_drop,List.take_append_drop]
 have hl:(votesV (vs.take p) (us.take p)).length=p * 4:=by rw[votesV_length (by simp[h])];simp;omega
 rw[e]
 exact⟨by rw[List.take_append_of_le_length (by omega),List.take_of_length_le (by omega)],by rw[List.drop_append_of_le_length (by omega),List.drop_of_length_le (by omega),List.nil_append]⟩
theorem votesV_put {vs:List Vt} {us:List Value} (h:us.length=vs.length) (p:Nat) (hp:p<vs.length) (x:Vt) (u:Value):put4 (votesV vs us) (p * 4) (voteV x u)=votesV (vs.set p x) (us.set p u):=by
 unfold put4
 rw[(votesV_take h p (by omega)).1,show p * 4+4=(p+1) * 4 by omega,(votesV_take h (p+1) (by omega)).2]
 have e:votesV (vs.set p x) (us.set p u)=votesV (vs.take p ++ x :: vs.drop (p+1)) (us.take p ++ u :: us.drop (p+1)):=by
  rw[List.set_eq_take_append_cons_drop,if_pos hp,List.set_eq_take_append_cons_drop,if_pos (by omega)]
 rw[e,votesV_append (by simp[h]),List.append_assoc]
 rfl
theorem votesV_ins {vs:List Vt} {us:List Value} (h:us.length=vs.length) (p:Nat) (hp:p≤vs.length) (x:Vt) (u:Value):(votesV vs us).take (p * 4) ++ voteV x u ++ (votesV vs us).drop (p * 4)=votesV (vs.take p ++ x :: vs.drop p) (us.take p ++ u :: us.drop p):=by
 rw[(votesV_take h p hp).1,(votesV_take h p hp).2,votesV_append (by simp[h]),List.append_assoc]
 rfl
theorem Votes.re {w1 w3:World} {F:Nat→Prop} {g m cap:Nat} {vs VS:List Vt} {us US:List Value} (h:Votes w1 F (.slice (some ⟨g,0,none⟩) m cap) vs us) (hk:Keep (fun k=>k=g) w1 w3)
  (hr:Row w3 31 4 (.slice (some ⟨g,0,none⟩) m cap) VS.length (votesV VS US)) (hlen:US.length=VS.length)
  (he:∀ j (hj:j<VS.length),(∃ i,∃ hi:i<vs.length,VS[j]=vs[i]∧US.getD j undef=us.getD i undef)∨(Row w1 5 1 (US.getD j undef) VS[j].val.length (bytesV VS[j].val)∧∀ k,(US.getD j undef).ownBlock=some k→F k∧k≠g)) :
  Votes w3 F (.slice (some ⟨g,0,none⟩) m cap) VS US:=by
 have hg:(Value.slice (some ⟨g,0,none⟩) m cap).ownBlock=some g:=rfl
 refine⟨hr,hlen,h.own,fun j hj=>?_⟩
 rcases he j hj with ⟨i,hi,e1,e2⟩ | ⟨h2,h3⟩
 ·obtain⟨h2,h3⟩:=h.each i hi
  rw[e1,e2]
  exact⟨h2.keep hk fun k e x=>by
   have x':k=g:=x
   subst x'
   exact(h3 k e).2 hg,h3⟩
 ·exact⟨h2.keep hk fun k e x=>(h3 k e).2 x,fun k e=>⟨(h3 k e).1,fun x=>by
   rw[hg] at x
   exact(h3 k e).2 (Option.some.inj x).symm⟩⟩
theorem Votes.put {w1 w3:World} {F:Nat→Prop} {g m cap:Nat} {vs:List Vt} {us:List Value} (h:Votes w1 F (.slice (some ⟨g,0,none⟩) m cap) vs us) (p:Nat) (hp:p<vs.length) (x:Vt) (u:Value)
  (hu:Row w1 5 1 u x.val.length (bytesV x.val)) (hou:∀ k,u.ownBlock=some k→F k∧k≠g) (hk:Keep (fun k=>k=g) w1 w3) (hr:Row w3 31 4 (.slice (some ⟨g,0,none⟩) m cap) vs.length (put4 (votesV vs us) (p * 4) (voteV x u))) :
  Votes w3 F (.slice (some ⟨g,0,none⟩) m cap) (vs.set p x) (us.set p u):=by
 rw[votesV_put h.len p hp] at hr
 refine h.re hk (by rw[List.length_set];exact hr) (by rw[List.length_set,List.length_set];exact h.len) fun j hj=>?_
 rw[List.length_set] at hj
 by_cases e:j=p
 ·subst e
  right
  have e2:(us.set j u).getD j undef=u:=by
   rw[List.getD_eq_getElem?_getD,List.getElem?_set_self (by rw[h.len];exact hp)]
   rfl
  rw[e2]
  simp only[List.getElem_set_self]
  exact⟨hu,hou⟩
 ·left
  refine⟨j,hj,by rw[List.getElem_set_ne (fun x=>e x.symm)],?_⟩
  simp only[List.getD_eq_getElem?_getD]
  rw[List.getElem?_set_ne (fun x=>e x.symm)]
theorem Votes.ins {w1 w3:World} {F:Nat→Prop} {g m cap:Nat} {vs:List Vt} {us:List Value} {z:Vt} {zu:Value} (h:Votes w1 F (.slice (some ⟨g,0,none⟩) m cap) (vs ++ [z]) (us ++ [zu])) (hlen:us.length=vs.length) (p:Nat) (hp:p≤vs.length) (x:Vt) (u:Value)
  (hu:Row w1 5 1 u x.val.length (bytesV x.val)) (hou:∀ k,u.ownBlock=some k→F k∧k≠g) (hk:Keep (fun k=>k=g) w1 w3)
  (hr:Row w3 31 4 (.slice (some ⟨g,0,none⟩) m cap) (vs.length+1) (put4 (splice (votesV (vs ++ [z]) (us ++ [zu])) (p * 4+4) ((votesV vs us).drop (p * 4))) (p * 4) (voteV x u))) :
  Votes w3 F (.slice (some ⟨g,0,none⟩) m cap) (vs.take p ++ x :: vs.drop p) (us.take p ++ u :: us.drop p):=by
 rw[votesV_snoc hlen,put4_ins _ _ _ _ (by simp[voteV]) (by rw[votesV_length hlen];omega),votesV_ins hlen p hp] at hr
 have hVl:(vs.take p ++ x :: vs.drop p).length=vs.length+1:=by simp;omega
 have hget:∀ i,i<vs.length→(us ++ [zu]).getD i undef=us.getD i undef:=fun i hi=>by
  simp only[List.getD_eq_getElem?_getD]
  rw[List.getElem?_append_left (by rw[hlen];exact hi)]
 refine h.re hk (by rw[hVl];exact hr) (by simp[hlen]) fun j hj=>?_
 rw[hVl] at hj
 rcases Nat.lt_trichotomy j p with e | e | e
 ·left
  refine⟨j,by simp;omega,?_,?_⟩
  ·rw[List.getElem_append_left (by simp;omega),List.getElem_append_left (by omega)]
   simp
  ·rw[hget j (by omega)]
   simp only[List.getD_eq_getElem?_getD]
   rw[List.getElem?_append_left (by simp;omega),List.getElem?_take_of_lt e]
 ·subst e
  right
  have e2:(us.take j ++ u :: us.drop j).getD j undef=u:=by
   simp only[List.getD_eq_getElem?_getD]
   rw[List.getElem?_append_right (by simp;omega)]
   simp[show min j us.length=j by omega]
  have e3:(vs.take j ++ x :: vs.drop j)[j]=x:=by
   rw[List.getElem_append_right (by simp;omega)]
   simp[show min j vs.length=j by omega]
  rw[e2,e3]
  exact⟨hu,hou⟩
 ·left
  obtain⟨i,rfl⟩:∃ i,j=i+1:=⟨j - 1,by omega⟩
  refine⟨i,by simp;omega,?_,?_⟩
  ·rw[List.getElem_append_right (by simp;omega),List.getElem_append_left (by omega)]
   simp only[List.length_take,show i+1 - min p vs.length=(i - p)+1 by omega,List.getElem_cons_succ,List.getElem_drop]
   congr 1
   omega
  ·rw[hget i (by omega)]
   simp only[List.getD_eq_getElem?_getD]
   rw[List.getElem?_append_right (by simp;omega)]
   simp only[List.length_take,show i+1 - min p us.length=(i - p)+1 by omega,List.getElem?_cons_succ,List.getElem?_drop]
   congr 2
   omega
theorem Votes.lts {w:World} {F:Nat→Prop} {v:Value} {vs:List Vt} {us:List Value} (h:Votes w F v vs us):Votes w (fun k=>F k∧k<w.heap.size) v vs us:=
 ⟨h.row,h.len,fun k e=>⟨h.own k e,h.row.lt e⟩,fun j hj=>let ⟨h2,h3⟩:=h.each j hj;⟨h2,fun k e=>⟨⟨(h3 k e).1,h2.lt e⟩,(h3 k e).2⟩⟩⟩
theorem tail_some (g cap lo size:Nat):tailAt (some ⟨g,0,none⟩) cap lo size=some ⟨g,if cap=lo then 0 else lo * size,none⟩:=by
 unfold tailAt
 split
 ·rfl
 ·simp only[Option.map_some]
  rw[addr_add,Nat.zero_add]
theorem splice_nil (l:List Value) (i:Nat):splice l i []=l:=by simp[splice]
theorem copied (xs z:List Value) (p m:Nat) (hx:xs.length=p+m):((xs ++ z).drop p).take m=xs.drop p:=by
 rw[List.drop_append_of_le_length (by omega),List.take_append_of_le_length (by simp;omega),List.take_of_length_le (by simp;omega)]
theorem acc_thing {w10 w13 w17:World} {a d sb:Nat} {D:Dk} {S:St} {b:Bal} {nv':Value} {vs':List Vt} {us':List Value} {X Y Z K:Nat→Prop} (e1:∀ i,X i→¬ Y i) (e2:∀ i,X i→¬ Z i) (e3:∀ i,Y i→¬ Z i)
  (hbx:BoxA a (accC sb b nv' S.dead) 52 w17 X) (hst:StoT sb d D S w13 Y) (hk:Keep K w13 w17) (hK:∀ k,Y k→¬ K k) (hv:Votes w17 (fun k=>Z k∨w10.heap.size≤k) nv' vs' us') (lX:∀ i,X i→i<w10.heap.size) (lY:∀ i,Y i→i<w10.heap.size) :
  AcT a d D ⟨S,b,vs'⟩ w17 (fun k=>X k∨Y k∨((Z k∨w10.heap.size≤k)∧k<w17.heap.size)):=
 ⟨sb,nv',X,Y,_,hbx,(StoT.lives _ _ _ _).keep hst hk hK,⟨⟨us',hv.lts⟩,fun k x=>x.2⟩,e1,fun i x y=>y.1.elim (e2 i x) fun z=>by have:=lX i x;omega,fun i x y=>y.1.elim (e3 i x) fun z=>by have:=lY i x;omega,rfl⟩
theorem Votes.one {w:World} {F:Nat→Prop} {v:Value} {vs:List Vt} {us:List Value} (h:Votes w F v vs us):∀ x ∈ votesV vs us,x.oneCell'=true:=fun x hx=>by
 unfold votesV at hx
 obtain⟨p,hp,hx⟩:=List.mem_flatMap.1 hx
 simp only[voteV,List.mem_cons,List.not_mem_nil,or_false] at hx
 rcases hx with rfl | rfl | rfl | rfl
 ·rfl
 ·rfl
 ·rfl
 ·obtain⟨j,hj,e⟩:=List.mem_iff_getElem.1 hp
  have hj2:j<vs.length:=by rw[List.length_zip] at hj;omega
  obtain⟨h2,-⟩:=h.each j hj2
  have e2:us.getD j undef=p.2:=by
   rw[← e,List.getElem_zip,List.getD_eq_getElem?_getD,List.getElem?_eq_getElem (by rw[h.len];exact hj2)]
   rfl
  rw[e2] at h2
  obtain⟨ad,cap,e3,-⟩:=h2.form
  rw[e3]
  rfl
theorem cells4v {w:World} {b:Nat} {T:TypeId} {a0 a1 a2 a3:Value} (H:w.heap[b]?=some (.cells #[a0,a1,a2,a3] T (0,0))) :
  w.cell? ⟨b,0,none⟩=some a0∧w.cell? ⟨b,1,none⟩=some a1∧w.cell? ⟨b,2,none⟩=some a2∧w.cell? ⟨b,3,none⟩=some a3∧(∀ o,w.frozen? ⟨b,o,none⟩=false)∧b<w.heap.size:=by
 refine⟨?_,?_,?_,?_,?_,heap_lt H⟩ <;> simp[World.cell?,World.frozen?,H]
end Go.Proofs.Ytkjofdocgaiedaa
namespace Go.Proofs.Ytkjofdocgaiedaa
open Go.RowKit Go.Maps
open MI SO BM DM WM AC
def ReadPost (w:World) (a sb B:Nat) (nv:Value) (st:Bal×List Vt) (p:Str×Str) (e:Ending) (w':World):Prop:=
 Keep (fun k=>k=a∨nv.ownBlock=some k) w w'∧match rd1 st p with
 | none=>e = .returned (.bool false)
 | some st'=>e = .returned (.bool true)∧∃ nv' us',w'.heap[a]?=some (.cells (accC sb st'.1 nv' false) 52 (0,0))∧Votes w' (fun k=>B≤k) nv' st'.2 us'
theorem str_ix (k:Str) (i:Nat) (h:i<(str k).size) (hi:i<k.length):(str k)[i]'h=k[i]:=by
 simp[str]
 rfl
theorem cells2b {w:World} {b:Nat} {T:TypeId} {a0 a1:Value} (H:w.heap[b]?=some (.cells #[a0,a1] T (0,0))) :
  w.cell? ⟨b,0,none⟩=some a0∧w.cell? ⟨b,1,none⟩=some a1∧(∀ o,w.frozen? ⟨b,o,none⟩=false)∧b<w.heap.size:=by
 refine⟨?_,?_,?_,heap_lt H⟩ <;> simp[World.cell?,World.frozen?,H]
set_option maxRecDepth 20000 in
set_option maxHeartbeats 4000000 in
theorem aread_any (w:World) (a sb B:Nat) (hB:a<B) (hBw:B≤w.heap.size) (st:Bal×List Vt) (nv:Value) (us:List Value) (k v:Str) (hh:w.heap[a]?=some (.cells (accC sb st.1 nv false) 52 (0,0))) (hv:Votes w (fun k=>B≤k) nv st.2 us) (hk:k.length≤1000000) (hvl:v.length≤1000000) (hN:st.2.length≤1000000) :
  Calls Try.prog 26 #[.pointer (some ⟨a,0,none⟩),.string (str k),.string (str v)] w (ReadPost w a sb B nv st (k,v)):=by
 obtain⟨Post,hPost⟩:∃ Post,Post=ReadPost w a sb B nv st (k,v):=⟨_,rfl⟩
 rw[← hPost]
 have hgt:=aget_any w v hvl
 have H0:=hid (And.intro hh (And.intro hv (And.intro hk hN)))
 have HP:=hid hPost
 clear hh hv hk hN hvl hPost
 go_enter Try.func26,Try.ntmps26
 go_wp2_with (at_builtin;refine stopAt ?_;intro q hq)
 refine hgt.mono ?_
 rintro e w1 ⟨hk1,hres⟩
 clear hgt
 cases hg:getB v with
 | none=>
   rw[hg] at hres
   obtain⟨n,d,ua,kk,c,rfl⟩:=hres
   have hR:rd1 st (k,v)=none:=by unfold rd1;rw[hg]
   have HR:=hid hR
   have hn2:=heap_alloc_new w1 (.cells #[.int .u64 (n:Int),.int .i64 (d:Int)] 24)
   have hk2:Keep (fun _=>False) w1 (w1.alloc (.cells #[.int .u64 (n:Int),.int .i64 (d:Int)] 24)):=(Keep.refl _ _).alloc _
   have H2:=hid (And.intro hn2 (hk1.next hk2 (H:=fun _=>False) (fun _ _ x=>x) (fun _ _ x=>x)))
   clear hn2 hk2 hg hR hk1
   go_upto_region 2 with fail
   obtain⟨w2,hw2⟩:∃ w2,w2=w1.alloc (.cells #[.int .u64 (n:Int),.int .i64 (d:Int)] 24):=⟨_,rfl⟩
   rw[← hw2] at H2 ⊢
   clear hw2
   obtain⟨c0,c1,cf,cb⟩:=cells2b H2.out.1
   have hb2:=H2.out.2.get H0.out.1 id
   obtain⟨p0,p1,p2,p3,p4,pf,pb⟩:=cells5a hb2
   clear c0 c1 cf cb
   obtain⟨c0,c1,cf,cb⟩:=cells2b H2.out.1
   have hsz:=str_size k
   obtain⟨kl,hkl⟩:∃ kl,kl=k.length:=⟨_,rfl⟩
   rw[← hkl] at hsz
   have hk6:kl≤1000000:=by rw[hkl];exact H0.out.2.2.1
   by_cases hp:k=pK
   ·have q1:((str k).toList == [112])=true:=by rw[str_toList,hp];rfl
    have hkz:Keep (fun j=>j=a) w2 ((w2.setCell ⟨a,1,none⟩ (.int .u64 (n:Int))).setCell ⟨a,2,none⟩ (.int .i64 (d:Int))):=by refine Keep.setCell (Keep.setCell (Keep.refl _ _) (.inl ?_) _) (.inl ?_) _ <;> rfl
    have HZ:=hid (H2.out.2.next hkz (H:=fun j=>j=a∨nv.ownBlock=some j) (fun _ _ x=>x.elim) (fun _ _ x=>.inl x))
    clear p0 p3 p4 pb hp hb2 hkz hkl hsz
    go_wp2_with (at_builtin;refine stopAt ?_;intro q hq)
    show Post (.returned (.bool false)) _
    rw[HP.out]
    exact⟨HZ.out,by rw[HR.out]⟩
   ·have q1:((str k).toList == [112])=false:=by rw[str_toList,beq_eq_false_iff_ne];exact hp
    have HZ:=hid (H2.out.2.mono (G:=fun j=>j=a∨nv.ownBlock=some j) (fun _ _ x=>x.elim))
    have fin:Post (.returned (.bool false)) w2:=by rw[HP.out];exact⟨HZ.out,by rw[HR.out]⟩
    have HF:=hid fin
    clear p0 p1 p2 p3 p4 pf pb hb2 hp c0 c1 cf cb fin
    by_cases h9:kl=9
    ·subst h9
     cases k with
     | nil=>cases hkl
     | cons ch r=>
       have hix:=str_ix (ch :: r) 0 (by rw[hsz];decide) (by simp)
       rw[List.getElem_cons_zero] at hix
       by_cases hch:ch.toNat=118
       ·have q2:((ch.toNat:Int) != 118)=false:=by simp;omega
        clear hkl
        go_wp2_with (at_builtin;refine stopAt ?_;intro q hq)
        exact HF.out
       ·have q2:((ch.toNat:Int) != 118)=true:=by simp;omega
        clear hkl
        go_wp2_with (at_builtin;refine stopAt ?_;intro q hq)
        exact HF.out
    ·have q2:((kl:Int) != 9)=true:=by simp;omega
     clear hkl
     go_wp2_with (at_builtin;refine stopAt ?_;intro q hq)
     exact HF.out
 | some q=>
   obtain⟨b,rest⟩:=q
   rw[hg] at hres
   obtain⟨u,rfl,hrow,hown⟩:=hres
   obtain⟨ua,uc,rfl,-⟩:=hrow.form
   have hR:rd1 st (k,v)=if k=pK then (if rest = [] then some (b,st.2) else none) else if slotK k≠0∧rest.length≤100 then some (st.1,st.2 ++ [⟨slotK k,b,rest⟩]) else none:=by unfold rd1;rw[hg]
   have HR:=hid hR
   obtain⟨rl,hrl⟩:∃ rl,rl=rest.length:=⟨_,rfl⟩
   rw[← hrl] at hrow hown ⊢
   have Hrl:=hid hrl
   have hn2:=heap_alloc_new w1 (.cells (balC b) 24)
   have hk2:Keep (fun _=>False) w1 (w1.alloc (.cells (balC b) 24)):=(Keep.refl _ _).alloc _
   have H2:=hid (And.intro hn2 (And.intro (hk1.next hk2 (H:=fun _=>False) (fun _ _ x=>x) (fun _ _ x=>x)) (And.intro (hrow.keep hk2 (fun _ _ x=>x)) hown)))
   clear hn2 hk2 hg hR hk1 hrow hown hrl
   go_upto_region 2 with fail
   obtain⟨w2,hw2⟩:∃ w2,w2=w1.alloc (.cells (balC b) 24):=⟨_,rfl⟩
   rw[← hw2] at H2 ⊢
   clear hw2
   have hb2:=H2.out.2.1.get H0.out.1 id
   obtain⟨p0,p1,p2,p3,p4,pf,pb⟩:=cells5a hb2
   obtain⟨c0,c1,cf,cb⟩:=cells2b H2.out.1
   have hsz:=str_size k
   obtain⟨kl,hkl⟩:∃ kl,kl=k.length:=⟨_,rfl⟩
   rw[← hkl] at hsz
   have hk6:kl≤1000000:=by rw[hkl];exact H0.out.2.2.1
   by_cases hp:k=pK
   ·have q1:((str k).toList == [112])=true:=by rw[str_toList,hp];rfl
    have hkz:Keep (fun j=>j=a) w2 ((w2.setCell ⟨a,1,none⟩ (.int .u64 (b.n:Int))).setCell ⟨a,2,none⟩ (.int .i64 b.node)):=by refine Keep.setCell (Keep.setCell (Keep.refl _ _) (.inl ?_) _) (.inl ?_) _ <;> rfl
    have HZ:=hid (And.intro (H2.out.2.1.next hkz (H:=fun j=>j=a∨nv.ownBlock=some j) (fun _ _ x=>x.elim) (fun _ _ x=>.inl x)) (And.intro (heap_setCell6 (heap_setCell6 hb2 1 (.int .u64 (b.n:Int))) 2 (.int .i64 b.node))
     ((H0.out.2.1.keep H2.out.2.1 (fun _ _ x=>x)).keep hkz (fun j x e=>by have e':j=a:=e;have x':B≤j:=x;omega))))
    have Hp:=hid hp
    clear p0 p3 p4 pb hp hb2 hkz hkl hsz
    by_cases hr0:rl=0
    ·have q2:((rl:Int) == 0)=true:=by simp[hr0]
     have Hr:=hid hr0
     subst hr0
     go_wp2_with (at_builtin;refine stopAt ?_;intro q hq)
     show Post (.returned (.bool true)) _
     rw[HP.out]
     refine⟨HZ.out.1,?_⟩
     rw[HR.out,if_pos Hp.out,if_pos (List.length_eq_zero_iff.1 Hrl.out.symm)]
     exact⟨rfl,nv,us,HZ.out.2.1,HZ.out.2.2⟩
    ·have q2:((rl:Int) == 0)=false:=by simp;omega
     have q3:decide (rl=0)=false:=decide_eq_false hr0
     have Hr:=hid hr0
     go_wp2_with (at_builtin;refine stopAt ?_;intro q hq)
     show Post (.returned (.bool false)) _
     rw[HP.out]
     refine⟨HZ.out.1,?_⟩
     rw[HR.out,if_pos Hp.out,if_neg (fun e=>Hr.out (by rw[Hrl.out,e];rfl))]
   ·have q1:((str k).toList == [112])=false:=by rw[str_toList,beq_eq_false_iff_ne];exact hp
    have HZ:=hid (H2.out.2.1.mono (G:=fun j=>j=a∨nv.ownBlock=some j) (fun _ _ x=>x.elim))
    have fin:(slotK k=0∨100<rl)→Post (.returned (.bool false)) w2:=fun h=>by
     rw[HP.out]
     refine⟨HZ.out,?_⟩
     rw[HR.out,if_neg hp,if_neg (fun x=>h.elim x.1 (fun y=>by have:=x.2;have:=Hrl.out;omega))]
    have HF:=hid fin
    have Hp:=hid hp
    clear p0 p1 p2 p4 hb2 hp fin
    by_cases h9:kl=9
    ·subst h9
     cases k with
     | nil=>cases hkl
     | cons ch r=>
       have hix:=str_ix (ch :: r) 0 (by rw[hsz];decide) (by simp)
       rw[List.getElem_cons_zero] at hix
       by_cases hch:ch.toNat=118
       ·have q2:((ch.toNat:Int) != 118)=false:=by simp;omega
        have hr8:r.length=8:=by simp at hkl;omega
        have hch2:ch=118:=by rw[← UInt8.toNat_inj];exact hch
        have hsK:slotK (ch :: r)=valN r:=by unfold slotK;simp only;rw[if_pos ⟨hch2,hr8⟩]
        by_cases hl:rl≤100
        ·have q3:decide ((100:Int)<(rl:Int))=false:=decide_eq_false (by omega)
         have q4:decide (100<rl)=false:=decide_eq_false (by omega)
         have HC:=hid (And.intro hr8 (And.intro hsK (And.intro hl hch2)))
         clear hkl hr8 hsK hl hch2
         go_wp2_with (at_builtin;refine stopAt ?_;intro q hq)
         clear hix q2 q3 q4 hch
         go_loopw [10,11] (fun sv iv wr=>∃ i:Nat,i≤8∧sv = .int .u64 (valN (r.take i):Nat)∧iv = .int .i64 (i+1:Nat)∧wr=w2) (fun _ iv _=>9 - (intOf iv).toNat)
         case atStart=>exact⟨0,by omega,rfl,rfl,rfl⟩
         case round=>
          obtain⟨i,hi,rfl,rfl,rfl⟩:=hrel
          obtain⟨i1,hi1⟩:∃ i1,i1=i+1:=⟨_,rfl⟩
          rw[← hi1]
          have hsz9:i1≤9:=by omega
          by_cases hi8:i<8
          ·have q2:(i1:Int)<9:=by omega
           have hir:i<r.length:=by have:=HC.out.1;omega
           have hlt:i1<(str (ch :: r)).size:=by rw[hsz];omega
           have hix:=str_ix (ch :: r) i1 hlt (by simp;omega)
           have hel:(ch :: r)[i1]'(by simp;omega)=r[i]:=by subst hi1;simp
           rw[hel] at hix
           have hv:=valN_lt (r.take i)
           have hv7:valN (r.take i)<72057594037927936:=Nat.lt_of_lt_of_le hv (by
            rw[List.length_take,Nat.min_eq_left (by omega)]
            exact Nat.le_trans (Nat.pow_le_pow_right (by decide) (show i≤7 by omega)) (by decide))
           have hsn:valN (r.take (i+1))=valN (r.take i) * 256+(r[i]).toNat:=by
            rw[List.take_add_one,List.getElem?_eq_getElem hir,Option.toList_some,valN_snoc]
           have hb:=(r[i]).toNat_lt
           obtain⟨x,hx⟩:∃ x,x=r[i]:=⟨_,rfl⟩
           rw[← hx] at hix hsn hb
           obtain⟨xn,hxn⟩:∃ xn,xn=x.toNat:=⟨_,rfl⟩
           rw[← hxn] at hsn hb
           have hxn':=hxn.symm
           obtain⟨vv,hvv⟩:∃ vv,vv=valN (r.take i):=⟨_,rfl⟩
           rw[← hvv] at hv7 hsn ⊢
           obtain⟨v8,e8⟩:∃ v8,v8=vv * 256:=⟨_,rfl⟩
           have b1:(vv:Int) * 256=(v8:Int):=by omega
           have b2:=wu64 v8 (by omega)
           have b3:=wu64 xn (by omega)
           have b4:=u64_or_nat v8 xn (by omega) (by omega)
           rw[nat_join 8 v8 xn (by omega) (by omega)] at b4
           obtain⟨y,hy⟩:∃ y,y=v8+xn:=⟨_,rfl⟩
           rw[← hy] at b4
           have HY:=hid (show y=valN (r.take (i+1)) by rw[hsn];omega)
           have HI:=hid hi1
           clear hv hir hel hsn hb hx hvv hv7 e8 hy hxn hi1
           go_wp2_with (at_builtin;refine stopAt ?_;intro q hq)
           exact⟨⟨i+1,by omega,by rw[HY.out],by have:=HI.out;go_num,by first | rfl | trivial⟩,by have:=HI.out;simp[intOf];omega⟩
          ·obtain rfl:i=8:=by omega
           subst hi1
           rw[show r.take 8=r from List.take_of_length_le (by have:=HC.out.1;omega)]
           obtain⟨sl,hsl⟩:∃ sl,sl=valN r:=⟨_,rfl⟩
           rw[← hsl]
           have Hsl:=hid hsl
           clear hsl hi hsz9
           go_wp2_with (at_builtin;refine stopAt ?_;intro q hq)
           obtain⟨ao,nc,hnv,-⟩:=H0.out.2.1.row.form
           subst hnv
           obtain⟨n,hn⟩:∃ n,n=st.2.length:=⟨_,rfl⟩
           rw[← hn] at p3
           have hn6:n≤1000000:=by rw[hn];exact H0.out.2.2.2
           have Hn:=hid hn
           clear hn
           refine wp_region_canon [] (by kernel_rfl) (by kernel_rfl) ?_
           repeat (first | (apply wpC_pure (by rfl);(intro K w';go_simp;exact id)) | (apply wpC_load (by rfl);(intro K;go_simp;exact id)))
           (refine wpC_new (by rfl) (by rfl) (fun K hK=>?_);go_simp;refine hK _ _ (Pre.push _ rfl) ?_;clear hK K)
           have hk4:Keep (fun _=>False) wr (wr.alloc (.cells #[.int .u64 (sl:Int),.int .u64 (b.n:Int),.int .i64 b.node,.slice ua rl uc] 31)).drew:=((Keep.refl _ _).alloc _).drew
           have hn4:(wr.alloc (.cells #[.int .u64 (sl:Int),.int .u64 (b.n:Int),.int .i64 b.node,.slice ua rl uc] 31)).drew.heap[wr.heap.size]?=some (.cells #[.int .u64 (sl:Int),.int .u64 (b.n:Int),.int .i64 b.node,.slice ua rl uc] 31):=heap_alloc_new wr _
           obtain⟨w4,hw4⟩:∃ w4,w4=(wr.alloc (.cells #[.int .u64 (sl:Int),.int .u64 (b.n:Int),.int .i64 b.node,.slice ua rl uc] 31)).drew:=⟨_,rfl⟩
           rw[← hw4] at hk4 hn4 ⊢
           clear hw4
           have hv4:=(H0.out.2.1.keep H2.out.2.1 (fun _ _ x=>x)).keep hk4 (fun _ _ x=>x)
           have hb4:=hk4.get (H2.out.2.1.get H0.out.1 id) id
           have hrow4:=H2.out.2.2.1.keep hk4 (fun _ _ x=>x)
           have hvr:=hv4.row
           rw[← Hn.out] at hvr hb4
           refine wpC_act (by rfl) (by rfl) (fun K hK=>?_)
           refine wp_append ty_votes (.tmp 62) (.tmp 67) rfl rfl hvr (some ⟨wr.heap.size,0,none⟩) 1 1 (voteV ⟨sl,b,rest⟩ (.slice ua rl uc)) rfl
            ⟨rfl,fun _=>⟨_,rfl,fun t u hu=>by rw[addr_add,Nat.zero_add,cell_of_row _ _ _ _ _ _ hn4];simpa [voteV] using hu⟩⟩ (fun u hu=>by simp[voteV] at hu;rcases hu with rfl | rfl | rfl | rfl <;> rfl) (by unfold maxLen;omega) (by omega) ?_
           intro v5 w5 hr5 hk5 hv5
           have hk5:Keep (fun k=>(Value.slice ao n nc).ownBlock=some k) w4 w5:=hk5
           have hv5:(v5 = .slice ao n nc∧1=0)∨∃ j,v5.ownBlock=some j∧((Value.slice ao n nc).ownBlock=some j∨j=w4.heap.size):=hv5
           refine hK _ _ ?_
           clear hK K
           obtain⟨a5,c5,rfl,-⟩:=hr5.form
           have hall:∀ j,(Value.slice ao n nc).ownBlock=some j→B≤j:=fun j e=>H0.out.2.1.own j (by rw[ownBlock_len ao _ n];exact e)
           have hown5:∀ j,(Value.slice a5 (n+1) c5).ownBlock=some j→B≤j∧((Value.slice ao n nc).ownBlock=some j∨w4.heap.size≤j):=fun j e=>by
            rcases hv5 with ⟨-,h⟩ | ⟨j',h1,h2⟩
            ·omega
            ·rw[e] at h1
             cases h1
             rcases h2 with h2 | h2
             ·exact⟨hall j h2,.inl h2⟩
             ·have h7:=H2.out.2.1.size;have h8:=hk4.size;exact⟨by omega,.inr (by omega)⟩
           have hb5:=hk5.get hb4 (fun e=>by have:=hall a e;omega)
           have hvp:=hv4.push (x:=⟨sl,b,rest⟩) (u:=.slice ua rl uc) (F':=fun k=>B≤k) (w':=w5) (v':=.slice a5 (n+1) c5) (by rw[← Hrl.out];exact hrow4) (fun j e=>by
            have h1:=H2.out.2.2.2 j e
            have h2:=heap_lt H0.out.1
            refine⟨by omega,fun x=>?_⟩
            have h3:=H0.out.2.1.row.lt x
            omega) (by rw[← Hn.out];exact hr5) (hk5.mono fun j _ e=>by rw[ownBlock_len ao _ n];exact e) (fun _ x=>x) (fun j e=>⟨(hown5 j e).1,(hown5 j e).2.imp (fun y=>by rw[ownBlock_len ao _ n];exact y) id⟩)
           obtain⟨p0,p1,p2,p3,p4,pf,pb⟩:=cells5a hb5
           have hkz:Keep (fun j=>j=a) w5 (w5.setCell ⟨a,3,none⟩ (.slice a5 (n+1) c5)):=by refine Keep.setCell (Keep.refl _ _) (.inl ?_) _;rfl
           have hb6:=heap_setCell6 hb5 3 (.slice a5 (n+1) c5)
           have hv6:=hvp.keep hkz (fun j x e=>by have e':j=a:=e;have x':B≤j:=x;omega)
           have hkA:Keep (fun j=>j=a∨(Value.slice ao st.2.length nc).ownBlock=some j) w (w5.setCell ⟨a,3,none⟩ (.slice a5 (n+1) c5)):=
            ((H2.out.2.1.next hk4 (H:=fun _=>False) (fun _ _ x=>x) (fun _ _ x=>x)).next hk5 (fun _ _ x=>x.elim) (fun j _ e=>.inr (by rw[ownBlock_len ao _ n];exact e))).next hkz (fun _ _ x=>x) (fun _ _ e=>.inl e)
           have HW:=hid (And.intro hkA (And.intro hb6 hv6))
           clear hr5 hk5 hv5 hall hown5 hvp p0 p1 p2 p4 pb hkz hb6 hv6 hkA hb5 hk4 hn4 hv4 hb4 hrow4 hvr
           repeat (first | (apply wpC_pure (by rfl);(intro K w';go_simp;exact id)) | (apply wpC_load (by rfl);(intro K;go_simp;exact id)))
           (refine wpC_act (by rfl) (by rfl) (fun K hK=>?_);go_simp;refine hK _ _ ?_;clear hK K)
           refine wpC_nil ?_
           by_cases hs0:sl=0
           ·have q5:decide ((0:Int)<(sl:Int))=false:=by simp;omega
            have q6:decide (0<sl)=false:=decide_eq_false (by omega)
            have Hs:=hid hs0
            clear hs0
            go_wp2_with (at_builtin;refine stopAt ?_;intro q hq)
            show Post (.returned (.bool false)) _
            rw[HP.out]
            refine⟨HW.out.1,?_⟩
            rw[HR.out,if_neg Hp.out,if_neg (fun x=>x.1 (by rw[HC.out.2.1,← Hsl.out,Hs.out]))]
           ·have q5:(0:Int)<(sl:Int):=by omega
            have q6:decide (0<sl)=true:=decide_eq_true (by omega)
            have Hs:=hid hs0
            clear hs0
            go_wp2_with (at_builtin;refine stopAt ?_;intro q hq)
            show Post (.returned (.bool true)) _
            rw[HP.out]
            refine⟨HW.out.1,?_⟩
            rw[HR.out,if_neg Hp.out,if_pos ⟨by rw[HC.out.2.1,← Hsl.out];exact Hs.out,by rw[← Hrl.out];exact HC.out.2.2.1⟩,HC.out.2.1,← Hsl.out]
            exact⟨rfl,_,_,HW.out.2.1,HW.out.2.2⟩
        ·have q3:(100:Int)<(rl:Int):=by omega
         have Hl:=hid hl
         clear hkl hr8 hsK hl hch2
         go_wp2_with (at_builtin;refine stopAt ?_;intro q hq)
         exact HF.out (.inr (by have:=Hl.out;omega))
       ·have q2:((ch.toNat:Int) != 118)=true:=by simp;omega
        have hs0:slotK (ch :: r)=0:=by unfold slotK;simp only;rw[if_neg (fun x=>hch (by rw[x.1];rfl))]
        have HS:=hid hs0
        clear hkl hs0
        go_wp2_with (at_builtin;refine stopAt ?_;intro q hq)
        exact HF.out (.inl HS.out)
    ·have q2:((kl:Int) != 9)=true:=by simp;omega
     have hs0:slotK k=0:=by
      cases k with
      | nil=>rfl
      | cons ch r=>unfold slotK;simp only;rw[if_neg (fun x=>h9 (by rw[hkl];simp;omega))]
     have HS:=hid hs0
     clear hkl hs0
     go_wp2_with (at_builtin;refine stopAt ?_;intro q hq)
     exact HF.out (.inl HS.out)
end Go.Proofs.Ytkjofdocgaiedaa
namespace Go.Proofs.Ytkjofdocgaiedaa
open Go.RowKit Go.Maps
open MI SO BM DM WM AC
def PrepPost (a d:Nat) (F:Nat→Prop) (w:World) (R:(List Vt×Bal×Int)×Dk×Ac) (e:Ending) (w':World):Prop:=
 ∃ v us Fv F',e = .returned (.tuple #[v,balV R.1.2.1,.int .i64 R.1.2.2])∧AcT a d R.2.1 R.2.2 w' F'∧Keep F w w'∧(∀ i,F' i→F i∨w.heap.size≤i)∧Votes w' Fv v R.1.1 us∧∀ k,Fv k→w.heap.size≤k∧¬ F' k
theorem Turns.shut {T:Thing} {w w9 w10:World} {F F9:Nat→Prop} {g B:Nat} (LT:Lives T) (hT:T w9 F9) (hk:Keep F w w9) (hF:∀ i,F i→i<w.heap.size) (h9:∀ i,F9 i→F i∨B≤i) (hgB:g<B) (hg:w.heap.size≤g) (hkz:Keep (fun k=>k=g) w9 w10) :
  T w10 F9∧Keep F w w10∧∀ i,F9 i→F i∨w.heap.size≤i:=
 ⟨LT.keep hT hkz fun i x e=>by
  have e':i=g:=e
  rcases h9 i x with y | y
  ·have:=hF i y;omega
  ·omega,hk.next hkz (fun _ _ x=>x) (fun k hk x=>by omega),fun i x=>(h9 i x).imp id fun y=>by omega⟩
theorem Turns.shut0 {T:Thing} {w w9 w10:World} {F:Nat→Prop} {g:Nat} (LT:Lives T) (hT:T w F) (hk:Keep (fun _=>False) w w9) (hg:w.heap.size≤g) (hkz:Keep (fun k=>k=g) w9 w10) :
  T w10 F∧Keep F w w10∧∀ i,F i→F i∨w.heap.size≤i:=
 ⟨LT.keep hT (hk.next hkz (H:=fun _=>False) (fun _ _ x=>x) (fun k hk x=>by omega)) (fun _ _ x=>x),(hk.next hkz (H:=fun _=>False) (fun _ _ x=>x) (fun k hk x=>by omega)).mono (fun _ _ x=>x.elim),fun i x=>.inl x⟩
theorem AC.AOk.lens {A:Ac} (h:AOk A) (hd:A.s.dead=false) (hm:A.s.ps.length≤900000):Rise A.vs∧(∀ v ∈ A.vs,v.val.length≤1000)∧A.vs.length≤1000000:=by
 have hok:=h.ok hd
 refine⟨hok.rise,fun v hv=>by have:=(hok.each v hv).val;omega,?_⟩
 have h2:=h.ps hd
 rw[h2] at hm
 unfold AC.encP at hm
 rw[List.length_append,List.length_map] at hm
 omega
theorem prep_none {a d:Nat} {D:Dk} {A:Ac} {F:Nat→Prop} {w w2:World} {g:Nat} {x0 x1:Value} (hT:AcT a d D A w F) (hk:Keep (fun _=>False) w w2) (hg:w.heap.size≤g) (h:w2.heap[g]?=some (.cells #[x0,x1] 24 (0,0))) (B:Bal) (c:Int) :
  (∀ j u,[Value.int .u64 (B.n:Int),.int .i64 B.node][j]?=some u→((w2.setCell ⟨g,0,none⟩ (.int .u64 (B.n:Int))).setCell ⟨g,1,none⟩ (.int .i64 B.node)).cell? ⟨g,j,none⟩=some u)∧
  PrepPost a d F w (([],B,c),D,A) (.returned (.tuple #[.slice none 0 0,balV B,.int .i64 c])) ((w2.setCell ⟨g,0,none⟩ (.int .u64 (B.n:Int))).setCell ⟨g,1,none⟩ (.int .i64 B.node)):=by
 obtain⟨g1,g2,-⟩:=bal_put w2 g _ _ h (.int .u64 (B.n:Int)) (.int .i64 B.node)
 obtain⟨h1,h2,h3⟩:=Turns.shut0 (AcT.lives a d D A) hT hk hg g2
 exact⟨g1,.slice none 0 0,[],fun _=>False,F,rfl,h1,h2,h3,Votes.nil _ _,fun _ x=>x.elim⟩
theorem prep_gone {a d:Nat} {D:Dk} {A:Ac} {F F9:Nat→Prop} {w w9:World} {g B:Nat} {x0 x1:Value} (hT:AcT a d D A w9 F9) (hk:Keep F w w9) (hF:∀ i,F i→i<w.heap.size) (h9:∀ i,F9 i→F i∨B≤i) (hgB:g<B) (hg:w.heap.size≤g)
  (h:w9.heap[g]?=some (.cells #[x0,x1] 24 (0,0))) (v:Value) (vs:List Vt) (us:List Value) (Fv:Nat→Prop) (hv:Votes w9 Fv v vs us) (hFv:∀ k,Fv k→g<k∧¬ F9 k) (b:Bal) (c:Int) :
  (∀ j u,[Value.int .u64 (b.n:Int),.int .i64 b.node][j]?=some u→((w9.setCell ⟨g,0,none⟩ (.int .u64 (b.n:Int))).setCell ⟨g,1,none⟩ (.int .i64 b.node)).cell? ⟨g,j,none⟩=some u)∧
  PrepPost a d F w ((vs,b,c),D,A) (.returned (.tuple #[v,balV b,.int .i64 c])) ((w9.setCell ⟨g,0,none⟩ (.int .u64 (b.n:Int))).setCell ⟨g,1,none⟩ (.int .i64 b.node)):=by
 obtain⟨g1,g2,-⟩:=bal_put w9 g _ _ h (.int .u64 (b.n:Int)) (.int .i64 b.node)
 obtain⟨h1,h2,h3⟩:=Turns.shut (AcT.lives a d D A) hT hk hF h9 hgB hg g2
 exact⟨g1,v,us,Fv,F9,rfl,h1,h2,h3,hv.keep g2 (fun k x e=>by have:=(hFv k x).1;have e':k=g:=e;omega),fun k x=>⟨by have:=(hFv k x).1;omega,(hFv k x).2⟩⟩
structure PrepIn (w:World) (a d:Nat) (D:Dk) (A:Ac) (F:Nat→Prop) (b:Bal) (k:Nat) (g:Nat) (wx:World):Prop where
 ex:∃ D' A' F',prepA D A b k=((fromV A'.vs k,b,0),D',A')∧A'.b=b∧A'.s.dead=false∧A'.vs=A.vs∧AcT a d D' A' wx F'∧∀ i,F' i→F i∨g<i
 keep:Keep F w wx
 box:wx.heap[w.heap.size]?=some (.cells (balC b) 24 (0,0))
 res:wx.heap[g]?=some (.cells #[.int .u64 0,.int .i64 0] 24 (0,0))
theorem chs_prom (w:World) (b:Bal) (hb:(AC.putB b).length≤maxLen):Chs (w.alloc (.cells #[.string (str pK),.string (str (AC.putB b)),.bool false] 55)) (.slice (some ⟨w.heap.size,0,none⟩) 1 1) (promL b):=
 Chs.of_row ⟨rfl,.inr ⟨_,1,_,(0,0),rfl,heap_alloc_new w _,Free.zero _,Nat.le_refl _,by decide,rfl,rfl⟩⟩ (fun c hc=>by
  unfold promL at hc
  simp at hc
  subst hc
  exact⟨show pK.length≤maxLen by decide,hb⟩)
theorem AC.putB_len (b:Bal):(AC.putB b).length≤20:=by
 have h1:=putUint_le' b.n
 have h2:=putUint_le' b.node.toNat
 unfold AC.putB
 rw[List.length_append]
 omega
set_option maxRecDepth 20000 in
set_option maxHeartbeats 4000000 in
theorem aprep_any (w:World) (a d:Nat) (D:Dk) (A:Ac) (F:Nat→Prop) (H:AcT a d D A w F) (hO:AOk A) (hm:A.s.dead=false→A.s.ps.length≤900000) (hfew:D.waits.length≤490000) (b:Bal) (hb:b.n<18446744073709551616) (k:Nat) :
  Calls Try.prog 10 #[.pointer (some ⟨a,0,none⟩),balV b,.int .u64 (k:Int)] w (PrepPost a d F w (prepA D A b k)):=by
 obtain⟨Post,hPost⟩:∃ Post,Post=PrepPost a d F w (prepA D A b k):=⟨_,rfl⟩
 rw[← hPost]
 have hn1:=heap_alloc_new w (.cells (balC b) 24)
 have hk1:Keep (fun _=>False) w (w.alloc (.cells (balC b) 24)):=(Keep.refl _ _).alloc _
 have hz1:(w.alloc (.cells (balC b) 24)).heap.size=w.heap.size+1:=by simp
 have hn:=heap_alloc_new (w.alloc (.cells (balC b) 24)) (.cells #[.int .u64 0,.int .i64 0] 24)
 have hk2:Keep (fun _=>False) (w.alloc (.cells (balC b) 24)) ((w.alloc (.cells (balC b) 24)).alloc (.cells #[.int .u64 0,.int .i64 0] 24)):=(Keep.refl _ _).alloc _
 have hz2:((w.alloc (.cells (balC b) 24)).alloc (.cells #[.int .u64 0,.int .i64 0] 24)).heap.size=w.heap.size+2:=by simp
 rw[hz1] at hn
 have hn1b:=hk2.get hn1 id
 have hk:=hk1.next hk2 (H:=fun _=>False) (fun _ _ x=>x) (fun _ _ x=>x)
 clear hk1 hk2 hn1 hz1
 have HP:=hid hPost
 have H0:=hid (And.intro H (And.intro hO (And.intro hm (And.intro hfew hb))))
 clear hPost H hO hm hfew hb
 go_enter Try.func10,Try.ntmps10
 go_upto_region 1 with fail
 obtain⟨w1,hw1⟩:∃ w1,w1=(w.alloc (.cells (balC b) 24)).alloc (.cells #[.int .u64 0,.int .i64 0] 24):=⟨_,rfl⟩
 rw[← hw1] at hn hn1b hk hz2 ⊢
 clear hw1
 obtain⟨g,hg⟩:∃ g,g=w.heap.size+1:=⟨_,rfl⟩
 rw[← hg] at hn ⊢
 have LA:=AcT.lives a d D A
 have HA1:=LA.keep H0.out.1 hk (fun _ _ x=>x)
 obtain⟨sb,nv,X,Y,Z,hbox,hst,hvt,d1,d2,d3,hF⟩:=HA1
 obtain⟨p0,p1,p2,p3,p4,pf,pb⟩:=cells5a hbox.1
 have b0:w1.cell? ⟨w.heap.size,0,none⟩=some (.int .u64 (b.n:Int)):=by simp[World.cell?,hn1b]
 have b1:w1.cell? ⟨w.heap.size,1,none⟩=some (.int .i64 b.node):=by simp[World.cell?,hn1b]
 have hrt:=aright_any w1 b
 have H1:=hid (And.intro hn (And.intro hk (And.intro hg (And.intro hz2 (And.intro hn1b (And.intro hbox (And.intro hst (And.intro hvt (And.intro d1 (And.intro d2 (And.intro d3 hF)))))))))))
 clear hn hk hg hz2 hn1b hbox hst hvt d1 d2 d3 hF p0 p3 pf LA
 obtain⟨rb,hrb⟩:∃ rb,rb=rightB b:=⟨_,rfl⟩
 rw[← hrb] at hrt
 have HR:=hid hrb
 clear hrb
 go_wp2_with (at_builtin;refine stopAt ?_;intro q hq)
 refine hrt.mono ?_
 rintro e w2 ⟨rfl,hk2⟩
 clear hrt
 have b0:=cell_old hk2 _ _ b0
 have b1:=cell_old hk2 _ _ b1
 have p1:=cell_old hk2 _ _ p1
 have p2:=cell_old hk2 _ _ p2
 have p4:=cell_old hk2 _ _ p4
 have r0:=hk2.get H1.out.1 id
 cases rb with
 | false=>
   have d0:w2.cell? ⟨g,0,none⟩=some (.int .u64 0):=by simp[World.cell?,r0]
   have d1:w2.cell? ⟨g,1,none⟩=some (.int .i64 0):=by simp[World.cell?,r0]
   have f0:∀ o,w2.frozen? ⟨g,o,none⟩=false:=fun o=>by simp[World.frozen?,r0]
   have HK:=hid hk2
   have R0:=hid r0
   clear hk2 r0
   go_wp2_with (at_builtin;refine stopAt ?_;intro q hq)
   obtain⟨q1,q2⟩:=prep_none H0.out.1 (H1.out.2.1.next HK.out (H:=fun _=>False) (fun _ _ x=>x) (fun _ _ x=>x)) (by have:=H1.out.2.2.1;omega) R0.out Bal.zero 2
   refine bodyPost_ret (results_tct rfl _ _ g rfl _ q1 _ Try.underlying24 rfl (by kernel_rfl)) rfl ?_
   have hE:prepA D A b k=(([],Bal.zero,2),D,A):=by unfold prepA;rw[if_pos HR.out.symm]
   rw[HP.out,hE]
   exact q2
 | true=>
   have hR2:=HR.out
   obtain⟨dd,hdd⟩:∃ dd,dd=A.s.dead:=⟨_,rfl⟩
   rw[← hdd] at p4
   have HD:=hid hdd
   clear hdd hR2
   cases dd with
   | true=>
     have d0:w2.cell? ⟨g,0,none⟩=some (.int .u64 0):=by simp[World.cell?,r0]
     have d1:w2.cell? ⟨g,1,none⟩=some (.int .i64 0):=by simp[World.cell?,r0]
     have f0:∀ o,w2.frozen? ⟨g,o,none⟩=false:=fun o=>by simp[World.frozen?,r0]
     have HK:=hid hk2
     have R0:=hid r0
     clear hk2 r0
     go_wp2_with (at_builtin;refine stopAt ?_;intro q hq)
     obtain⟨q1,q2⟩:=prep_none H0.out.1 (H1.out.2.1.next HK.out (H:=fun _=>False) (fun _ _ x=>x) (fun _ _ x=>x)) (by have:=H1.out.2.2.1;omega) R0.out Bal.zero 6
     refine bodyPost_ret (results_tct rfl _ _ g rfl _ q1 _ Try.underlying24 rfl (by kernel_rfl)) rfl ?_
     have hE:prepA D A b k=(([],Bal.zero,6),D,A):=by unfold prepA;rw[if_neg (by rw[← HR.out];decide),if_pos HD.out.symm]
     rw[HP.out,hE]
     exact q2
   | false=>
     obtain⟨lb,hlb⟩:∃ lb,lb=less b A.b:=⟨_,rfl⟩
     have HL1:=hid (fun s:Later w2=>show Calls Try.prog 5 #[balV b,balV A.b] s.val fun e w'=>e = .returned (.bool lb)∧Keep (fun _=>False) s.val w' from by rw[hlb];exact aless_any s.val b A.b)
     have HLB:=hid hlb
     have HK:=hid hk2
     clear hlb hk2 r0
     go_upto_region 7 with fail
     have j0:=fun s:Later w2=>s.cell b0
     have j1:=fun s:Later w2=>s.cell b1
     have j2:=fun s:Later w2=>s.cell p1
     have j3:=fun s:Later w2=>s.cell p2
     (refine wp_region_later (by kernel_rfl) (by kernel_rfl) ?_;(repeat (go_big_quiet_step ((go_at_call 5;exact Later.call (HL1.out _)))));refine wpQuiet_nil ?_;rintro _ ⟨sq,rfl⟩)
     have hk3:=sq.keep
     obtain⟨w3,hw3⟩:∃ w3,w3=sq.val:=⟨_,rfl⟩
     rw[← hw3] at hk3 ⊢
     clear hw3 sq j0 j1 j2 j3 HL1
     have b0:=cell_old hk3 _ _ b0
     have b1:=cell_old hk3 _ _ b1
     have p1:=cell_old hk3 _ _ p1
     have p2:=cell_old hk3 _ _ p2
     have hk13:=HK.out.next hk3 (H:=fun _=>False) (fun _ _ x=>x) (fun _ _ x=>x)
     have r0:=hk13.get H1.out.1 id
     have HK:=hid hk13
     clear hk3 hk13 p4
     cases lb with
     | true=>
       have d0:w3.cell? ⟨g,0,none⟩=some (.int .u64 0):=by simp[World.cell?,r0]
       have d1:w3.cell? ⟨g,1,none⟩=some (.int .i64 0):=by simp[World.cell?,r0]
       have f0:∀ o,w3.frozen? ⟨g,o,none⟩=false:=fun o=>by simp[World.frozen?,r0]
       have R0:=hid r0
       clear r0
       go_wp2_with (at_builtin;refine stopAt ?_;intro q hq)
       refine wp_region_canon [] (by kernel_rfl) (by kernel_rfl) ?_
       repeat (first | (apply wpC_pure (by rfl);(intro K w';go_simp;exact id)) | (apply wpC_load (by rfl);(intro K;go_simp;exact id)))
       (refine wpC_act (by rfl) (by rfl) (fun K hK=>?_);go_simp;refine hK _ _ ?_;clear hK K)
       repeat (first | (apply wpC_pure (by rfl);(intro K w';go_simp;exact id)) | (apply wpC_load (by rfl);(intro K;go_simp;exact id)))
       refine wpC_nil ?_
       go_wp2_with (at_builtin;refine stopAt ?_;intro q hq)
       obtain⟨q1,q2⟩:=prep_none H0.out.1 (H1.out.2.1.next HK.out (H:=fun _=>False) (fun _ _ x=>x) (fun _ _ x=>x)).drew (by have:=H1.out.2.2.1;omega) R0.out A.b 90
       refine bodyPost_ret (results_tct rfl _ _ g rfl _ q1 _ Try.underlying24 rfl (by kernel_rfl)) rfl ?_
       have hE:prepA D A b k=(([],A.b,90),D,A):=by unfold prepA;rw[if_neg (by rw[← HR.out];decide),if_neg (by rw[← HD.out];decide),if_pos HLB.out.symm]
       rw[HP.out,hE]
       exact q2
     | false=>
       obtain⟨lc,hlc⟩:∃ lc,lc=less A.b b:=⟨_,rfl⟩
       have HL2:=hid (fun s:Later w3=>show Calls Try.prog 5 #[balV A.b,balV b] s.val fun e w'=>e = .returned (.bool lc)∧Keep (fun _=>False) s.val w' from by rw[hlc];exact aless_any s.val A.b b)
       have HLC:=hid hlc
       clear hlc r0
       go_upto_region 9 with fail
       have j0:=fun s:Later w3=>s.cell b0
       have j1:=fun s:Later w3=>s.cell b1
       have j2:=fun s:Later w3=>s.cell p1
       have j3:=fun s:Later w3=>s.cell p2
       (refine wp_region_later (by kernel_rfl) (by kernel_rfl) ?_;(repeat (go_big_quiet_step ((go_at_call 5;exact Later.call (HL2.out _)))));refine wpQuiet_nil ?_;rintro _ ⟨sq,rfl⟩)
       have hk4:=sq.keep
       obtain⟨w4,hw4⟩:∃ w4,w4=sq.val:=⟨_,rfl⟩
       rw[← hw4] at hk4 ⊢
       clear hw4 sq j0 j1 j2 j3 HL2
       have b0:=cell_old hk4 _ _ b0
       have b1:=cell_old hk4 _ _ b1
       have HK:=hid (HK.out.next hk4 (H:=fun _=>False) (fun _ _ x=>x) (fun _ _ x=>x))
       clear hk4 p1 p2
       go_upto_if 41 with fail
       go_cut [9] (fun v wx=>Hid (PrepIn w a d D A F b k g wx))
       case first=>
        cases lc with
        | false=>
          have hE:prepA D A b k=((fromV A.vs k,b,0),D,A):=by unfold prepA;rw[if_neg (by rw[← HR.out];decide),if_neg (by rw[← HD.out];decide),if_neg (by rw[← HLB.out];decide),if_pos (less_total HLB.out.symm HLC.out.symm)]
          have hkw:=H1.out.2.1.next HK.out (H:=fun _=>False) (fun _ _ x=>x) (fun _ _ x=>x)
          have HZ:=hid (show PrepIn w a d D A F b k g w4 from
           ⟨⟨D,A,F,hE,(less_total HLB.out.symm HLC.out.symm).symm,HD.out.symm,rfl,(AcT.lives a d D A).keep H0.out.1 hkw (fun _ _ x=>x),fun i x=>.inl x⟩,hkw.mono (fun _ _ x=>x.elim),HK.out.get H1.out.2.2.2.2.1 id,HK.out.get H1.out.1 id⟩)
          clear hE hkw
          go_wp2_with (at_builtin;refine stopAt ?_;intro q hq)
          go_meet
          exact HZ
        | true=>
          have hOb:OkB b:=⟨HR.out.symm,H0.out.2.2.2.2⟩
          have hpr:=aprom_any w4 b hOb
          unfold promV at hpr
          clear hOb
          go_wp2_with (at_builtin;refine stopAt ?_;intro q hq)
          refine hpr.mono ?_
          rintro e w5 ⟨rfl,hk5⟩
          clear hpr
          have hk6:Keep (fun _=>False) w5 (w5.alloc (.cells #[.string (str pK),.string (str (AC.putB b)),.bool false] 55)):=(Keep.refl _ _).alloc _
          have hkw6:=(HK.out.next hk5 (H:=fun _=>False) (fun _ _ x=>x) (fun _ _ x=>x)).next hk6 (H:=fun _=>False) (fun _ _ x=>x) (fun _ _ x=>x)
          have LT:=TrioT.lives (BoxA.lives a (accC sb A.b nv A.s.dead) 52) (StoT.lives sb d D A.s) (VotesT.lives nv A.vs)
          have hT6:=LT.keep (show TrioT (BoxA a (accC sb A.b nv A.s.dead) 52) (StoT sb d D A.s) (VotesT nv A.vs) w1 F from⟨X,Y,Z,H1.out.2.2.2.2.2.1,H1.out.2.2.2.2.2.2.1,H1.out.2.2.2.2.2.2.2.1,H1.out.2.2.2.2.2.2.2.2.1,H1.out.2.2.2.2.2.2.2.2.2.1,H1.out.2.2.2.2.2.2.2.2.2.2.1,H1.out.2.2.2.2.2.2.2.2.2.2.2⟩) hkw6 (fun _ _ x=>x)
          have hFl:=(AcT.lives a d D A).lt H0.out.1
          have hdo:=ado_any _ a sb d A.b nv A.vs D A.s F hT6 (some ⟨w5.heap.size,0,none⟩) 1 1 (promL b) (chs_prom w5 b (by have:=AC.putB_len b;unfold maxLen;omega)) rfl (fun _ x hx y=>by
           cases hx
           have h1:=hFl _ y
           have h2:=H1.out.2.1.size
           have h3:=HK.out.size
           have h4:=hk5.size
           simp only at h1
           omega) H0.out.2.2.1 H0.out.2.2.2.1
          have hcs:=doA_cases (D:=D) HD.out.symm (promL b)
          obtain⟨E,hE⟩:∃ E,E=doA D A.s (promL b):=⟨_,rfl⟩
          rw[← hE] at hdo hcs
          have HE:=hid (And.intro hE (And.intro hcs (And.intro hkw6 hFl)))
          clear hE hcs hkw6 hFl hk6 hk5 hT6 LT
          go_wp2_with (at_builtin;refine stopAt ?_;intro q hq)
          refine hdo.mono ?_
          rintro e w7 ⟨rfl,F7,T7,K7,N7⟩
          clear hdo
          have hz1:=H1.out.2.2.2.1
          have hs6:=HE.out.2.2.1.size
          have r7:=K7.get (HE.out.2.2.1.get H1.out.1 id) (fun x=>by have:=HE.out.2.2.2 _ x;have:=H1.out.2.2.1;omega)
          have x7:=K7.get (HE.out.2.2.1.get H1.out.2.2.2.2.1 id) (fun x=>by have:=HE.out.2.2.2 _ x;omega)
          have hkF:Keep F w w7:=(H1.out.2.1.next HE.out.2.2.1 (H:=fun _=>False) (fun _ _ x=>x) (fun _ _ x=>x)).next K7 (fun _ _ x=>x.elim) (fun _ _ x=>x)
          have hne:∀ i,F7 i→F i∨g<i:=fun i x=>(N7 i x).imp id fun y=>by have:=H1.out.2.2.1;omega
          have H7:=hid (And.intro T7 (And.intro hkF (And.intro hne (And.intro r7 x7))))
          clear T7 K7 N7 x7 hkF hne hz1 hs6
          have hE4:prepA D A b k=if E.1=0 then ((fromV A.vs k,b,0),E.2.1,⟨E.2.2,b,A.vs⟩) else (([],Bal.zero,E.1),E.2.1,⟨E.2.2,A.b,A.vs⟩):=by
           unfold prepA
           rw[if_neg (by rw[← HR.out];decide),if_neg (by rw[← HD.out];decide),if_neg (by rw[← HLB.out];decide),if_neg (fun e=>by have:=HLC.out;rw[e,less_irrefl] at this;cases this),HE.out.1]
          have HE4:=hid hE4
          clear hE4
          by_cases h0:E.1=0
          ·have q1:(E.1 != 0)=false:=by simp[h0]
           have hdd:E.2.2.dead=false:=by
            rcases HE.out.2.1 with ⟨-,-,h⟩ | ⟨h,-⟩ | ⟨h,-⟩
            ·exact h
            ·omega
            ·exact absurd h0 h
           obtain⟨X7,Y7,Z7,hb7,hs7,hv7,a1,a2,a3,hF7⟩:=H7.out.1
           obtain⟨p0,p1,p2,p3,p4,pf,pb⟩:=cells5a hb7.1
           have xb:=H7.out.2.2.2.2
           have b0:w7.cell? ⟨w.heap.size,0,none⟩=some (.int .u64 (b.n:Int)):=by simp[World.cell?,xb]
           have b1:w7.cell? ⟨w.heap.size,1,none⟩=some (.int .i64 b.node):=by simp[World.cell?,xb]
           have g1:=heap_setCell6 hb7.1 1 (.int .u64 (b.n:Int))
           have g2:=heap_setCell6 g1 2 (.int .i64 b.node)
           have hkz:Keep (fun k=>k=a) w7 ((w7.setCell ⟨a,1,none⟩ (.int .u64 (b.n:Int))).setCell ⟨a,2,none⟩ (.int .i64 b.node)):=by
            refine Keep.setCell (Keep.setCell (Keep.refl _ _) (.inl ?_) _) (.inl ?_) _ <;> rfl
           have haX:F7 a:=by rw[hF7];exact .inl hb7.2.1
           have haw:a<w.heap.size:=by have:=H1.out.2.2.2.2.2.1;exact(AcT.lives a d D A).lt H0.out.1 a (by rw[H1.out.2.2.2.2.2.2.2.2.2.2.2];exact .inl this.2.1)
           have T8:=TrioT.turn1 (T':=BoxA a (accC sb b nv E.2.2.dead) 52) (StoT.lives _ _ _ _) (VotesT.lives _ _) H7.out.1 (fun X' hX'=>⟨X',⟨heap_setCell6 (heap_setCell6 hX'.1 1 (.int .u64 (b.n:Int))) 2 (.int .i64 b.node),hX'.2.1,fun k x=>Nat.lt_of_lt_of_le (hX'.2.2 k x) hkz.size⟩,hkz.mono fun k _ e=>by subst e;exact hX'.2.1,fun _ x=>.inl x⟩)
           obtain⟨F8,U8,K8,N8⟩:=T8
           have HZ:=hid (show PrepIn w a d D A F b k g ((w7.setCell ⟨a,1,none⟩ (.int .u64 (b.n:Int))).setCell ⟨a,2,none⟩ (.int .i64 b.node)) from
            ⟨⟨E.2.1,⟨E.2.2,b,A.vs⟩,F8,by rw[HE4.out,if_pos h0],rfl,hdd,rfl,⟨sb,nv,U8⟩,fun i x=>(N8 i x).elim (H7.out.2.2.1 i) fun y=>.inr (by have:=heap_lt r7;omega)⟩,
              H7.out.2.1.next hkz (fun _ _ x=>x) (fun k hk e=>by rw[e];exact H1.out.2.2.2.2.2.2.2.2.2.2.2 ▸ .inl H1.out.2.2.2.2.2.1.2.1),hkz.get xb (fun e=>by omega),hkz.get r7 (fun e=>by have:=H1.out.2.2.1;omega)⟩)
           clear p0 p3 p4 pb xb g1 g2 hkz haX haw U8 K8 N8 hb7 hs7 hv7 a1 a2 a3 hF7 hdd r7
           go_wp2_with (at_builtin;refine stopAt ?_;intro q hq)
           go_meet
           exact HZ
          ·have q1:(E.1 != 0)=true:=by simpa using h0
           have q2:decide (E.1=0)=false:=decide_eq_false h0
           have d0:w7.cell? ⟨g,0,none⟩=some (.int .u64 0):=by simp[World.cell?,r7]
           have d1:w7.cell? ⟨g,1,none⟩=some (.int .i64 0):=by simp[World.cell?,r7]
           have f0:∀ o,w7.frozen? ⟨g,o,none⟩=false:=fun o=>by simp[World.frozen?,r7]
           have H0':=hid h0
           clear r7 h0
           go_wp2_with (at_builtin;refine stopAt ?_;intro q hq)
           obtain⟨q1,q2⟩:=prep_gone (a:=a) (d:=d) (D:=E.2.1) (A:=⟨E.2.2,A.b,A.vs⟩) (B:=g+1) ⟨sb,nv,H7.out.1⟩ H7.out.2.1 HE.out.2.2.2 (fun i x=>(H7.out.2.2.1 i x).imp id fun y=>by omega) (Nat.lt_succ_self _) (by have:=H1.out.2.2.1;omega) H7.out.2.2.2.1 (.slice none 0 0) [] [] (fun _=>False) (Votes.nil _ _) (fun _ x=>x.elim) Bal.zero E.1
           refine bodyPost_ret (results_tct rfl _ _ g rfl _ q1 _ Try.underlying24 rfl (by kernel_rfl)) rfl ?_
           rw[HP.out,HE4.out,if_neg H0'.out]
           exact q2
       case rest=>
        have hgg:=H1.out.2.2.1
        subst hgg
        obtain⟨⟨D',A',F',hE,hAb,hAd,hAv,hT,hN⟩,hkw,hbx,hrs⟩:=hcut.out
        obtain⟨sb',nv',X',Y',Z',hbox,hst,⟨⟨us,hvt⟩,hvl⟩,e1,e2,e3,hF'⟩:=hT
        obtain⟨l1,l2,l3⟩:=H0.out.2.1.lens HD.out.symm (H0.out.2.2.1 HD.out.symm)
        rw[← hAv] at l1 l2 l3
        have hkd:Keep (fun _=>False) wc wc.drew:=(Keep.refl _ _).drew
        have hvo:=avotes_tell wc.drew a sb' A'.b nv' A'.s.dead Z' A'.vs us k (hkd.get hbox.1 id) (hvt.keep hkd (fun _ _ x=>x)) l1 l2 l3
        rw[hAd] at hvo
        simp only[Bool.false_eq_true,if_false] at hvo
        have x1:wc.drew.cell? ⟨w.heap.size,0,none⟩=some (.int .u64 (b.n:Int))∧wc.drew.cell? ⟨w.heap.size,1,none⟩=some (.int .i64 b.node):=by
         have:=hkd.get hbx id
         simp[World.cell?,this]
        have HC:=hid hcut.out
        have HW:=hid (And.intro (show AcT a d D' A' wc F' from⟨sb',nv',X',Y',Z',hbox,hst,⟨⟨us,hvt⟩,hvl⟩,e1,e2,e3,hF'⟩) (And.intro hkw (And.intro hbx (And.intro hrs (And.intro hE (And.intro hN hkd))))))
        clear hcut hbox hst hvt hvl e1 e2 e3 hF' hE hAb hAd hAv hN hkw hbx hrs l1 l2 l3 hkd b0 b1
        go_upto_region 14 with fail
        refine Held.wp_region_held (fun w'=>w'.cell? ⟨w.heap.size,0,none⟩=some (.int .u64 (b.n:Int))∧w'.cell? ⟨w.heap.size,1,none⟩=some (.int .i64 b.node)) [] [58] (by kernel_rfl) (by kernel_rfl) ?_
        repeat (apply Held.wpC_pure (by rfl) (by exact x1);(intro K w' hS;(try dsimp only at hS);go_simp;exact id))
        refine Held.wpC_act (by decide) (by rfl) (by exact x1) (fun K hK=>?_)
        go_simp
        refine hvo.mono ?_
        rintro e w2' ⟨v,us2,Fv,rfl,hv2,hFv,hk2⟩
        obtain⟨va,vc,rfl,-⟩:=hv2.row.form
        have x2:w2'.cell? ⟨w.heap.size,0,none⟩=some (.int .u64 (b.n:Int))∧w2'.cell? ⟨w.heap.size,1,none⟩=some (.int .i64 b.node):=⟨cell_old hk2 _ _ x1.1,cell_old hk2 _ _ x1.2⟩
        have hkw2:=HW.out.2.2.2.2.2.2.next hk2 (H:=fun _=>False) (fun _ _ x=>x) (fun _ _ x=>x)
        have hrs2:=hkw2.get HW.out.2.2.2.1 id
        have d0:w2'.cell? ⟨w.heap.size+1,0,none⟩=some (.int .u64 0):=by simp[World.cell?,hrs2]
        have d1:w2'.cell? ⟨w.heap.size+1,1,none⟩=some (.int .i64 0):=by simp[World.cell?,hrs2]
        have f0:∀ o,w2'.frozen? ⟨w.heap.size+1,o,none⟩=false:=fun o=>by simp[World.frozen?,hrs2]
        have hbx2:=hkw2.get HW.out.2.2.1 id
        have hg2:=H1.out.2.2.1
        have HV:=hid (And.intro hv2 (And.intro hFv (And.intro hkw2 (And.intro hrs2 (And.intro hbx2 hg2)))))
        go_simp
        refine hK _ _ (fun h=>by cases h) (fun _=>x2) ?_
        clear hK K x1 hvo hk2 hv2 hFv hkw2 hrs2 hbx2 hg2
        repeat (apply Held.wpC_pure (by rfl) (by exact x2);(intro K w' hS;(try dsimp only at hS);go_simp;exact id))
        refine Held.wpC_act (by decide) (by rfl) (by exact x2) (fun K hK=>?_)
        go_simp
        have x3:((w2'.setCell ⟨w.heap.size+1,0,none⟩ (.int .u64 (b.n:Int))).setCell ⟨w.heap.size+1,1,none⟩ (.int .i64 b.node)).cell? ⟨w.heap.size,0,none⟩=some (.int .u64 (b.n:Int))∧((w2'.setCell ⟨w.heap.size+1,0,none⟩ (.int .u64 (b.n:Int))).setCell ⟨w.heap.size+1,1,none⟩ (.int .i64 b.node)).cell? ⟨w.heap.size,1,none⟩=some (.int .i64 b.node):=by
         obtain⟨-,g2,-⟩:=bal_put w2' (w.heap.size+1) _ _ HV.out.2.2.2.1 (.int .u64 (b.n:Int)) (.int .i64 b.node)
         have:=g2.get HV.out.2.2.2.2.1 (fun e=>by have:=HV.out.2.2.2.2.2;omega)
         simp[World.cell?,this]
        refine hK _ _ (fun h=>by cases h) (fun _=>x3) ?_
        clear hK K x2
        repeat (apply Held.wpC_pure (by rfl) (by exact x3);(intro K w' hS;(try dsimp only at hS);go_simp;exact id))
        refine Held.wpC_nil ?_
        go_wp2_with (at_builtin;refine stopAt ?_;intro q hq)
        obtain⟨hT,hkw,hbx,hrs,hE,hN,hkd⟩:=HW.out
        obtain⟨hv2,hFv,hkw2,hrs2,hbx2,hg2⟩:=HV.out
        have hFl:=(AcT.lives a d D A).lt H0.out.1
        obtain⟨q1,q2⟩:=prep_gone (a:=a) (d:=d) (D:=D') (A:=A') (B:=w.heap.size+2) ((AcT.lives a d D' A').keep hT hkw2 (fun _ _ x=>x)) (hkw.next hkw2 (fun _ _ x=>x) (fun _ _ x=>x.elim)) hFl hN (Nat.lt_succ_self _) (by omega) hrs2 (.slice va (fromV A'.vs k).length vc) _ us2 Fv hv2 (fun i x=>by
         have h1:=hFv i x
         have h2:wc.heap.size≤i:=h1
         exact⟨Nat.lt_of_lt_of_le (heap_lt hrs) h2,fun y=>by have:=(AcT.lives a d D' A').lt hT i y;omega⟩) b 0
        refine bodyPost_ret (results_tct rfl _ _ (w.heap.size+1) rfl _ q1 _ Try.underlying24 rfl (by kernel_rfl)) rfl ?_
        rw[HP.out,hE]
        exact q2
end Go.Proofs.Ytkjofdocgaiedaa
namespace Go.Proofs.Ytkjofdocgaiedaa
open Go.RowKit Go.Maps
open MI SO BM DM WM AC
def TrimPost (a d:Nat) (F:Nat→Prop) (w:World) (R:(Nat×Int)×Dk×Ac) (e:Ending) (w':World):Prop:=
 e = .returned (.tuple #[.int .i64 (R.1.1:Nat),.int .i64 R.1.2])∧Turns (AcT a d R.2.1 R.2.2) F w w'
structure TrimIn (w:World) (vs:List Vt) (k i:Nat) (lv:Value) (wr:World):Prop where
 keep:Keep (fun _=>False) w wr
 row:Row wr 55 3 lv (cutV (vs.take i) k).length (chsV (trimL (cutV (vs.take i) k)))
 own:∀ j,lv.ownBlock=some j→w.heap.size≤j
end Go.Proofs.Ytkjofdocgaiedaa
namespace Go.Proofs.Ytkjofdocgaiedaa
open Go.RowKit Go.Maps
open MI SO BM DM WM
section
variable {P:Program} {o:Oper} {a:Act} {w:World} {K:Act→World→Prop} {Q:Exit→Act→World→Prop}
end
structure Facts2 (D:Dk) (S:St):Prop where
 size:6≤D.safe.length
 ok:PsOk S.ps
 count:S.g.l.length≤4000
 safe:S.g.safe≤S.g.l.length
 lg:LgOk (half D) S.g
theorem StoAt.facts {w:World} {b d:Nat} {F Fd:Nat→Prop} {D:Dk} {S:St} (h:StoAt w b d F Fd D S):Facts2 D S:=by
 have hok:=h.ok
 obtain⟨wb,mb,m,Fl,H⟩:=h
 have hl:=H.log.ok
 exact⟨by have:=hl.two;unfold half at this;omega,hok,hl.count,hl.safe,hl⟩
end Go.Proofs.Ytkjofdocgaiedaa
