/- Texts StpM, AccO, AccG, AccS, AccH, AccI, AccJ, AccK, AccL, AccV, AccX in one. Conditions: as each law names them. -/
import Derived.Defers
import Derived.Test.YtkjofdocgaiedaaGreatUah
import Derived.Test.YtkjofdocgaiedaaGreatUaj
import Derived.Test.YtkjofdocgaiedaaGreatUao
import Derived.Test.YtkjofdocgaiedaaGreatUay
import Derived.Test.YtkjofdocgaiedaaGreatUba
import Derived.Test.YtkjofdocgaiedaaGreatUbb
import Derived.Test.YtkjofdocgaiedaaGreatUbd
set_option maxRecDepth 20000
set_option maxHeartbeats 8000000
namespace Go.Proofs.YtkjofdocgaiedaaGreat
namespace SO
open Go.Proofs.YtkjofdocgaiedaaGreat MI BM DM WM
theorem zhJ {D:Dk} (h6:6≤D.safe.length) (G:Lg) (b:List UInt8) :
  ((WM.append D G b).1=0∧(WM.append D G b).2.2 = { G with l:=G.l ++ [b],dead:=false }∧(flat (G.l ++ [b])).length≤32 * half D∧b.length≤1024∧gone D G=false)∨(WM.append D G b).1=6∨(((WM.append D G b).1=3∨(WM.append D G b).1=5)∧(WM.append D G b).2=(D,G)∧gone D G=false):=by
 unfold WM.append;split
 ·exact .inr (.inl rfl)
 ·rename_i hg
  have hg:gone D G=false:=by simpa using hg
  split
  ·exact .inr (.inr ⟨.inl rfl,rfl,hg⟩)
  ·rename_i h3
   split
   ·exact .inr (.inr ⟨.inr rfl,rfl,hg⟩)
   ·rename_i hr
    have hf:=z4N G.l b;unfold room at hr;have hfit:(flat (G.l ++ [b])).length≤32 * half D:=by omega
    have ha:(area D (G.l ++ [b])).length=32 * half D:=z2D hfit;obtain⟨-,-,h4,-⟩:=z4F G.ep (area D (G.l ++ [b])) (((flat (G.l ++ [b])).length - 1) / 32 - (flat G.l).length / 32+1) ((flat G.l).length / 32) D h6 (by omega) ha;simp only
    by_cases h0:(lay G.ep (area D (G.l ++ [b])) ((flat G.l).length / 32) (((flat (G.l ++ [b])).length - 1) / 32 - (flat G.l).length / 32+1) D).1=0
    ·exact .inl ⟨h0,by rw[h0];rfl,hfit,by omega,hg⟩
    ·exact .inr (.inl (h4 h0))
theorem z7Z (ep:Nat):(z1B ep).length=32:=by
 have h1:=z4B 10 ep;have h2:=z1D 1 (z0H ep);have h3:(z0H ep).length≤10:=h1;unfold z1B;rw[List.length_append,List.length_replicate];omega
theorem zkJ {D:Dk} (h6:6≤D.safe.length) (G:Lg) (L:List (List UInt8)) :
  ((WM.reset D G L).1=0∧(WM.reset D G L).2.2=⟨G.ep+1,L,L.length,false⟩∧(flat L).length≤32 * half D∧gone D G=false)∨(WM.reset D G L).1=6∨(((WM.reset D G L).1=3∨(WM.reset D G L).1=5)∧(WM.reset D G L).2=(D,G)∧gone D G=false):=by
 unfold WM.reset;split
 ·exact .inr (.inl rfl)
 ·rename_i hg
  have hg:gone D G=false:=by simpa using hg
  split
  ·exact .inr (.inr ⟨.inl rfl,rfl,hg⟩)
  ·split
   ·exact .inr (.inr ⟨.inr rfl,rfl,hg⟩)
   ·rename_i hf
    have hfit:(flat L).length≤32 * half D:=by omega
    obtain⟨h1,-⟩:=ziI h6 (G.ep+1) (area D L) (z2D hfit) (z7Z _);simp only;split
    ·rename_i h0;exact .inl ⟨rfl,rfl,hfit,hg⟩
    ·rename_i h0;exact .inr (.inl (h1 h0))
theorem zlO (D:Dk):(DM.sync D).1=0∨(DM.sync D).1=6:=by
 unfold DM.sync;split
 ·exact .inl rfl
 ·exact .inr rfl
theorem zjM:∀ (q:List (Str×Str)) (k v:Str),(∀ p ∈ q,p.1<k)→lay1 q ⟨k,v,false⟩=q ++ [(k,v)]
 | [],k,v,_=>rfl
 | p :: q,k,v,h=>by
   unfold lay1;rw[if_pos (h p (by simp)),zjM q k v (fun p hp=>h p (by simp[hp]))];rfl
theorem zoE:∀ (ps q:List (Str×Str)),Sorted (q ++ ps)→(∀ p ∈ ps,OkP p)→decL (cpL ps) q=some (q ++ ps)
 | [],q,_,_=>by simp[cpL,decL]
 | p :: ps,q,hs,ho=>by
   have hp:=ho p (by simp);have hr:=zaT hp;have hl:=zgR hr;have hd:=zmP hr (by simp at hl;omega);show decL (enc [⟨p.1,p.2,false⟩] :: cpL ps) q=_;unfold decL;rw[hd]
   have e:layL q [⟨p.1,p.2,false⟩]=q ++ [p]:=by
    show lay1 q ⟨p.1,p.2,false⟩=_;rw[zjM q p.1 p.2 (fun a ha=>(List.pairwise_append.1 hs).2.2 a ha p (by simp))]
   simp only;rw[e,zoE ps (q ++ [p]) (by simpa using hs) (fun a ha=>ho a (by simp[ha]))];simp
theorem zjK:∀ (L:List (List UInt8)) (ps q:List (Str×Str)),decL L ps=some q→q.length≤ps.length+32 * L.length
 | [],ps,q,h=>by cases h;simp
 | b :: L,ps,q,h=>by
   unfold decL at h
   cases hd:dec b with
   | none=>rw[hd] at h;cases h
   | some l=>
     rw[hd] at h;have h1:=zjK L _ q h;have h2:=z5Y l ps;have h3:=(dec_len hd).1;simp only[List.length_cons];omega
def Okay (S:St):Prop:=S.dead=false→decL S.g.l []=some S.ps
def OkO (o:Option St):Prop:=∀ S,o=some S→Okay S
theorem Okay.few {S:St} (h:Okay S) (hl:S.g.l.length≤4000):S.dead=false→S.ps.length≤128000:=fun hd=>by
 have:=zjK _ _ _ (h hd);simp at this;omega
theorem zoR {D:Dk} (h6:6≤D.safe.length) {S:St} (h:Okay S) (hd:S.dead=false) {l:List Ch} (he:encE l=0) :
  ((apS D S (enc l)).1=0→(apS D S (enc l)).2.2.dead=false∧decL (apS D S (enc l)).2.2.g.l []=some (layL S.ps l))∧((apS D S (enc l)).1≠0→Okay (apS D S (enc l)).2.2):=by
 obtain⟨hl,hr⟩:=wbytes l he;unfold apS
 rcases zhJ h6 S.g (enc l) with ⟨h0,h1,-⟩ | h1 | ⟨h0,h1,-⟩
 ·refine⟨fun _=>⟨by simp only;rw[h0];rfl,?_⟩,fun hne=>absurd h0 hne⟩
  simp only;rw[h1];simp only;rw[decL_append,h hd];simp only[decL];rw[zmP hr hl]
 ·refine⟨fun h0=>(by simp only at h0;rw[h1] at h0;cases h0),fun _ hd'=>?_⟩
  simp only at hd';rw[h1] at hd';cases hd'
 ·refine⟨fun h2=>(by simp only at h2;rcases h0 with h0 | h0 <;> rw[h0] at h2 <;> cases h2),fun _ _=>?_⟩
  simp only;rw[h1];exact h hd
theorem zhF {D:Dk} (h6:6≤D.safe.length) {S:St} (h:Okay S) (hp:PsOk S.ps):Okay (cpS D S).2.2:=by
 unfold cpS;split
 ·exact h
 ·rename_i hd
  rcases zkJ h6 S.g (cpL S.ps) with ⟨h0,h1,-⟩ | h1 | ⟨h0,h1,-⟩
  ·intro _
   simp only;rw[h1];exact zoE S.ps [] (by simpa using hp.sorted) hp.each
  ·intro hd'
   simp only at hd';rw[h1] at hd';cases hd'
  ·intro _
   simp only;rw[h1];exact h (by simpa using hd)
theorem zmB (D:Dk) (S:St):(cpS D S).2.1.safe.length=D.safe.length:=by
 unfold cpS;split
 ·rfl
 ·exact znV D S.g _
theorem zsF {D:Dk} (h6:6≤D.safe.length) {S:St} (h:Okay S) (hp:PsOk S.ps) (l:List Ch):Okay (doS D S l).2.2:=by
 unfold doS;split
 ·exact h
 ·rename_i hd
  have hd:S.dead=false:=by simpa using hd
  split
  ·exact h
  ·rename_i he
   have he:encE l=0:=by omega
   obtain⟨a1,a2⟩:=zoR h6 h hd he;have hcp:=zhF (D:=D) h6 h hp
   have key:((z3D D S (enc l)).1=0→(z3D D S (enc l)).2.2.dead=false∧decL (z3D D S (enc l)).2.2.g.l []=some (layL S.ps l))∧((z3D D S (enc l)).1≠0→Okay (z3D D S (enc l)).2.2):=by
    unfold z3D;split
    ·rename_i h5
     have hk:=a2 (by omega);have hps:(apS D S (enc l)).2.2.ps=S.ps:=rfl
     have h6':6≤(apS D S (enc l)).2.1.safe.length:=by
      show 6≤(WM.append D S.g (enc l)).2.1.safe.length;rw[zdG];exact h6
     have hk2:=zhF h6' hk (by rw[hps];exact hp);split
     ·rename_i hc
      have hdd:=cpS_dead hc;have:=zoR (D:=(cpS (apS D S (enc l)).2.1 (apS D S (enc l)).2.2).2.1) (by rw[zmB];exact h6') hk2 hdd he;rw[cpS_ps,hps] at this;exact this
     ·rename_i hc
      exact⟨fun h0=>absurd h0 hc,fun _=>hk2⟩
    ·exact⟨a1,a2⟩
   unfold zaE
   by_cases h0:(z3D D S (enc l)).1=0
   ·rw[if_pos h0]
    intro _;simp only;rw[intoS_ps];exact(key.1 h0).2
   ·rw[if_neg h0]
    exact key.2 h0
theorem ztC (D:Dk) {S:St} (h:Okay S):Okay (syS D S).2.2:=by
 unfold syS;split
 ·exact h
 ·rename_i hd
  intro _
  have e:(WM.z5I D S.g).2.2.l=S.g.l:=by
   unfold WM.z5I;split
   ·rfl
   ·simp only
    split <;> rfl
  simp only;rw[e];exact h (by simpa using hd)
theorem zgS (D:Dk):OkO (opS D).2.1:=by
 intro S hS _;unfold opS at hS;split at hS
 ·cases hS
 ·rename_i g hg
  split at hS
  ·cases hS
  ·rename_i ps hp
   cases hS;exact hp
theorem zeX {D:Dk} (h:D.safe.length≤2048) (S:St) (l:List Ch):(doS D S l).2.1.waits.length≤D.waits.length+5120:=by
 have ha:∀ (D:Dk) (S:St) (b:List UInt8),D.safe.length≤2048→(apS D S b).2.1.waits.length≤D.waits.length+2048:=fun D S b h=>zaB h S.g b
 have hi:(z3D D S (enc l)).2.1.waits.length≤D.waits.length+5120:=by
  have h1:=ha D S (enc l) h
  have hl:(apS D S (enc l)).2.1.safe.length≤2048:=by
   show (WM.append D S.g (enc l)).2.1.safe.length≤2048;rw[zdG];exact h
  have h2:=cpS_waits hl (S:=(apS D S (enc l)).2.2);unfold z3D;split
  ·split
   ·have h3:=ha (cpS (apS D S (enc l)).2.1 (apS D S (enc l)).2.2).2.1 (cpS (apS D S (enc l)).2.1 (apS D S (enc l)).2.2).2.2 (enc l) (by rw[zmB];exact hl)
    omega
   ·omega
  ·omega
 unfold doS;split
 ·exact Nat.le_add_right _ _
 ·split
  ·exact Nat.le_add_right _ _
  ·exact hi
theorem zeW (D:Dk) (S:St):(syS D S).2.1.waits.length≤D.waits.length:=by
 unfold syS;split
 ·exact Nat.le_refl _
 ·exact zbH D S.g
end SO
namespace AC
open Go.Proofs.YtkjofdocgaiedaaGreat MI SO BM DM WM
structure Ac where
 s:St
 b:Bal
 vs:List Vt
def doA (D:Dk) (S:St) (l:List Ch):Int×Dk×St:=if (doS D S l).1=0 then syS (doS D S l).2.1 (doS D S l).2.2 else doS D S l
def z7Y (vs:List Vt) (k:Nat):List Vt:=vs.filter fun v=>decide (k≤v.slot)
def z2U (D:Dk) (A:Ac) (b:Bal) (k:Nat):(List Vt×Bal×Int)×Dk×Ac:=
 if z2Z b=false then (([],Bal.zero,2),D,A)
 else if A.s.dead then (([],Bal.zero,6),D,A)
 else if less b A.b then (([],A.b,90),D,A)
 else if b=A.b then ((z7Y A.vs k,b,0),D,A)
 else if (doA D A.s (z5K b)).1=0 then ((z7Y A.vs k,b,0),(doA D A.s (z5K b)).2.1,⟨(doA D A.s (z5K b)).2.2,b,A.vs⟩)
 else (([],Bal.zero,(doA D A.s (z5K b)).1),(doA D A.s (z5K b)).2.1,⟨(doA D A.s (z5K b)).2.2,A.b,A.vs⟩)
def z6F (v:Vt):Bool:=z2Z v.bal && (decide (v.slot≠0) && decide (v.val.length≤100))
def z0O (D:Dk) (A:Ac) (v:Vt):(Bal×Int)×Dk×Ac:=
 if z6F v=false then ((Bal.zero,2),D,A)
 else if A.s.dead then ((Bal.zero,6),D,A)
 else if less v.bal A.b then ((A.b,90),D,A)
 else if (doA D A.s (z4X v)).1=0 then ((v.bal,0),(doA D A.s (z4X v)).2.1,⟨(doA D A.s (z4X v)).2.2,v.bal,insV A.vs v⟩)
 else ((Bal.zero,(doA D A.s (z4X v)).1),(doA D A.s (z4X v)).2.1,⟨(doA D A.s (z4X v)).2.2,A.b,A.vs⟩)
def cutV (vs:List Vt) (k:Nat):List Vt:=(vs.filter fun v=>decide (v.slot≤k)).take 32
def trimA (D:Dk) (A:Ac) (k:Nat):(Nat×Int)×Dk×Ac:=
 if A.s.dead then ((0,6),D,A)
 else if cutV A.vs k = [] then ((0,0),D,A)
 else if (doS D A.s (zgF (cutV A.vs k))).1=0 then (((cutV A.vs k).length,0),(doS D A.s (zgF (cutV A.vs k))).2.1,⟨(doS D A.s (zgF (cutV A.vs k))).2.2,A.b,A.vs.drop (cutV A.vs k).length⟩)
 else ((0,(doS D A.s (zgF (cutV A.vs k))).1),(doS D A.s (zgF (cutV A.vs k))).2.1,⟨(doS D A.s (zgF (cutV A.vs k))).2.2,A.b,A.vs⟩)
def z3V (D:Dk):Int×Option Ac×Dk:=match (opS D).2.1 with
 | none=>((opS D).1,none,(opS D).2.2)
 | some S=>match rd S.ps with
   | none=>(91,none,(opS D).2.2)
   | some (b,vs)=>(0,some ⟨S,b,vs⟩,(opS D).2.2)
def Ac.prom (A:Ac):Bal:=if A.s.dead then Bal.zero else A.b
def Ac.votes (A:Ac) (k:Nat):List Vt:=if A.s.dead then [] else z7Y A.vs k
structure AOk (A:Ac):Prop where
 ok:A.s.dead=false→VOk A.b A.vs
 ps:A.s.dead=false→A.s.ps=encP A.b A.vs
theorem zgX {D:Dk} {S:St} (_hd:S.dead=false) (b:List UInt8):(z3D D S b).2.2.dead=decide ((z3D D S b).1=6):=by
 have ha:∀ (D:Dk) (S:St),(apS D S b).2.2.dead=decide ((apS D S b).1=6):=fun D S=>rfl
 have hc:∀ (D:Dk) (S:St),S.dead=false→(cpS D S).2.2.dead=decide ((cpS D S).1=6):=fun D S h=>by
  unfold cpS;rw[h];rfl
 unfold z3D;split
 ·split
  ·exact ha _ _
  ·rename_i h5 h0
   refine hc _ _ ?_;rw[ha,h5];rfl
 ·exact ha _ _
theorem zoV {D:Dk} {S:St} (hd:S.dead=false) (l:List Ch) :
  ((doS D S l).1=0∧(doS D S l).2.2.ps=layL S.ps l∧(doS D S l).2.2.dead=false)∨((doS D S l).1=6∧(doS D S l).2.2.dead=true)∨
  ((doS D S l).1≠0∧(doS D S l).1≠6∧(doS D S l).2.2.ps=S.ps∧(doS D S l).2.2.dead=false):=by
 by_cases he:encE l=0
 ·have e:doS D S l=zaE (z3D D S (enc l)) l:=by unfold doS;rw[hd];simp[he]
  have h6:=zgX (D:=D) hd (enc l);have hps:=intoS_ps D S (enc l);rw[e];unfold zaE
  by_cases h0:(z3D D S (enc l)).1=0
  ·left
   rw[if_pos h0];refine⟨h0,by simp only;rw[hps],?_⟩;simp only;rw[h6,h0];rfl
  ·right
   rw[if_neg h0]
   by_cases h:(z3D D S (enc l)).1=6
   ·left
    exact⟨h,by simp only;rw[h6,h];rfl⟩
   ·right
    exact⟨h0,h,hps,by simp only;rw[h6];exact decide_eq_false h⟩
 ·have e:doS D S l=((encE l:Int),D,S):=by unfold doS;rw[hd];simp[he]
  have h6:encE l≠6:=by
   unfold encE;split
   ·split <;> decide
   ·decide
  right;right;rw[e];exact⟨by simp only;omega,by simp only;omega,rfl,hd⟩
theorem zlS {D:Dk} {S:St} (hd:S.dead=false):((syS D S).2.2.dead=decide ((syS D S).1=6))∧(syS D S).2.2.ps=S.ps∧((syS D S).1=0∨(syS D S).1=6):=by
 unfold syS;rw[hd];simp only[Bool.false_eq_true,if_false];refine⟨trivial,trivial,?_⟩;unfold WM.z5I;split
 ·exact .inr rfl
 ·simp only
  split
  ·exact .inl rfl
  ·right
   rename_i h
   rcases zlO D with x | x
   ·exact absurd x h
   ·exact x
theorem z6U {D:Dk} {S:St} (hd:S.dead=false) (l:List Ch) :
  ((doA D S l).1=0∧(doA D S l).2.2.ps=layL S.ps l∧(doA D S l).2.2.dead=false)∨((doA D S l).1=6∧(doA D S l).2.2.dead=true)∨
  ((doA D S l).1≠0∧(doA D S l).1≠6∧(doA D S l).2.2.ps=S.ps∧(doA D S l).2.2.dead=false):=by
 rcases zoV (D:=D) hd l with ⟨h1,h2,h3⟩ | ⟨h1,h2⟩ | ⟨h1,h2,h3,h4⟩
 ·have e:doA D S l=syS (doS D S l).2.1 (doS D S l).2.2:=by unfold doA;rw[if_pos h1]
  rw[e];obtain⟨g1,g2,g3⟩:=zlS (D:=(doS D S l).2.1) h3
  rcases g3 with g3 | g3
  ·exact .inl ⟨g3,by rw[g2,h2],by rw[g1,g3];rfl⟩
  ·exact .inr (.inl ⟨g3,by rw[g1,g3];rfl⟩)
 ·have e:doA D S l=doS D S l:=by unfold doA;rw[if_neg (by omega)]
  rw[e];exact .inr (.inl ⟨h1,h2⟩)
 ·have e:doA D S l=doS D S l:=by unfold doA;rw[if_neg h1]
  rw[e];exact .inr (.inr ⟨h1,h2,h3,h4⟩)
theorem AOk.of_dead {A:Ac} (h:A.s.dead=true):AOk A:=⟨fun e=>(by rw[h] at e;cases e),fun e=>(by rw[h] at e;cases e)⟩
theorem AOk.prep {D:Dk} {A:Ac} (h:AOk A) (b:Bal) (hn:b.n<18446744073709551616) (k:Nat):AOk (z2U D A b k).2.2:=by
 unfold z2U
 by_cases h1:z2Z b=false
 ·rw[if_pos h1];exact h
 rw[if_neg h1]
 by_cases h2:A.s.dead=true
 ·rw[if_pos h2];exact h
 rw[if_neg h2];have hd:A.s.dead=false:=by simpa using h2
 by_cases h3:less b A.b=true
 ·rw[if_pos h3];exact h
 rw[if_neg h3]
 by_cases h4:b=A.b
 ·rw[if_pos h4];exact h
 rw[if_neg h4];have hb:OkB b:=⟨by simpa using h1,hn⟩;have hl:less b A.b=false:=by simpa using h3
 have hok:=h.ok hd;have hps:=h.ps hd
 rcases z6U (D:=D) hd (z5K b) with ⟨g1,g2,g3⟩ | ⟨g1,g2⟩ | ⟨g1,g2,g3,g4⟩
 ·rw[if_pos g1]
  exact⟨fun _=>hok.up hb hl,fun _=>by rw[g2,hps];exact zrH hb⟩
 ·rw[if_neg (by omega)]
  exact AOk.of_dead g2
 ·rw[if_neg g1]
  exact⟨fun _=>hok,fun _=>by simp only;rw[g3];exact hps⟩
theorem AOk.accept {D:Dk} {A:Ac} (h:AOk A) (v:Vt) (hn:v.bal.n<18446744073709551616) (hs:v.slot<18446744073709551616):AOk (z0O D A v).2.2:=by
 unfold z0O
 by_cases h1:z6F v=false
 ·rw[if_pos h1];exact h
 rw[if_neg h1]
 by_cases h2:A.s.dead=true
 ·rw[if_pos h2];exact h
 rw[if_neg h2];have hd:A.s.dead=false:=by simpa using h2
 by_cases h3:less v.bal A.b=true
 ·rw[if_pos h3];exact h
 rw[if_neg h3]
 have hr:z2Z v.bal=true∧v.slot≠0∧v.val.length≤100:=by
  have:=h1;simp only[z6F,Bool.not_eq_false,Bool.and_eq_true,decide_eq_true_eq] at this;exact this
 have hb:OkB v.bal:=⟨hr.1,hn⟩;have hl:less v.bal A.b=false:=by simpa using h3
 have hok:=h.ok hd;have hps:=h.ps hd
 rcases z6U (D:=D) hd (z4X v) with ⟨g1,g2,g3⟩ | ⟨g1,g2⟩ | ⟨g1,g2,g3,g4⟩
 ·rw[if_pos g1]
  exact⟨fun _=>hok.ins hl (by have:=hr.2.1;omega) hs hb hr.2.2,fun _=>by simp only;rw[g2,hps];exact zpL hok hb hs⟩
 ·rw[if_neg (by omega)]
  exact AOk.of_dead g2
 ·rw[if_neg g1]
  exact⟨fun _=>hok,fun _=>by simp only;rw[g3];exact hps⟩
end AC
section
open Go.RowKit Go.Maps
open MI SO BM DM WM AC
theorem Turns.trans {T' T'':Thing} {F:Nat→Prop} {w w' w'':World} (h:Turns T' F w w') (h2:∀ F',T' w' F'→Turns T'' F' w' w''):Turns T'' F w w'':=by
 obtain⟨F',a,b,c⟩:=h;obtain⟨F'',a2,b2,c2⟩:=h2 F' a;exact⟨F'',a2,b.next b2 (fun _ _ x=>x) (fun i hi x=>(c i x).elim id fun y=>absurd y (by omega)),fun i x=>(c2 i x).elim (fun y=>c i y) fun y=>.inr (Nat.le_trans b.size y)⟩
def TrioT (T U V:Thing):Thing:=fun w F=>∃ X Y Z,T w X∧U w Y∧V w Z∧(∀ i,X i→¬ Y i)∧(∀ i,X i→¬ Z i)∧(∀ i,Y i→¬ Z i)∧F=fun k=>X k∨Y k∨Z k
section
variable {T T' U U' V V':Thing} {w w':World} {F:Nat→Prop}
theorem TrioT.lives (LT:Lives T) (LU:Lives U) (LV:Lives V):Lives (TrioT T U V):=
 ⟨fun ⟨X,Y,Z,h1,h2,h3,a,b,c,e⟩ hk hn=>⟨X,Y,Z,LT.keep h1 hk (fun i x=>hn i (by rw[e];exact .inl x)),LU.keep h2 hk (fun i x=>hn i (by rw[e];exact .inr (.inl x))),LV.keep h3 hk (fun i x=>hn i (by rw[e];exact .inr (.inr x))),a,b,c,e⟩,
  fun ⟨X,Y,Z,h1,h2,h3,_,_,_,e⟩ i x=>by rw[e] at x;exact x.elim (LT.lt h1 i) fun x=>x.elim (LU.lt h2 i) (LV.lt h3 i)⟩
theorem TrioT.turn1 (LU:Lives U) (LV:Lives V) (h:TrioT T U V w F) (t:∀ X,T w X→Turns T' X w w'):Turns (TrioT T' U V) F w w':=by
 obtain⟨X,Y,Z,h1,h2,h3,a,b,c,rfl⟩:=h;obtain⟨X',p,q,r⟩:=t X h1;refine⟨fun k=>X' k∨Y k∨Z k,⟨X',Y,Z,p,LU.keep h2 q (fun i x y=>a i y x),LV.keep h3 q (fun i x y=>b i y x),fun i x y=>?_,fun i x y=>?_,c,rfl⟩,q.mono fun _ _ x=>.inl x,fun i x=>x.elim (fun x=>(r i x).imp .inl id) fun x=>.inl (.inr x)⟩
 ·rcases r i x with z | z
  ·exact a i z y
  ·have:=LU.lt h2 i y;omega
 ·rcases r i x with z | z
  ·exact b i z y
  ·have:=LV.lt h3 i y;omega
theorem TrioT.turnY {X Y Z:Nat→Prop} (LT:Lives T) (LV:Lives V) (h1:T w X) (h3:V w Z) (a:∀ i,X i→¬ Y i) (b:∀ i,X i→¬ Z i) (c:∀ i,Y i→¬ Z i) (e:F=fun k=>X k∨Y k∨Z k) (t:Turns U' Y w w'):Turns (TrioT T U' V) F w w':=by
 obtain⟨Y',p,q,r⟩:=t;subst e;refine⟨fun k=>X k∨Y' k∨Z k,⟨X,Y',Z,LT.keep h1 q a,p,LV.keep h3 q (fun i x y=>c i y x),fun i x y=>?_,b,fun i x y=>?_,rfl⟩,q.mono fun _ _ x=>.inr (.inl x),fun i x=>x.elim (fun x=>.inl (.inl x)) fun x=>x.elim (fun x=>(r i x).imp (fun y=>.inr (.inl y)) id) fun x=>.inl (.inr (.inr x))⟩
 ·rcases r i y with z | z
  ·exact a i x z
  ·have:=LT.lt h1 i x;omega
 ·rcases r i x with z | z
  ·exact c i z y
  ·have:=LV.lt h3 i y;omega
end
def VotesT (nv:Value) (vs:List Vt):Thing:=fun w F=>(∃ us,Votes w F nv vs us)∧∀ k,F k→k<w.heap.size
theorem VotesT.lives (nv:Value) (vs:List Vt):Lives (VotesT nv vs):=
 ⟨fun ⟨⟨us,h⟩,h2⟩ hk hn=>⟨⟨us,h.keep hk hn⟩,fun k x=>Nat.lt_of_lt_of_le (h2 k x) hk.size⟩,fun h=>h.2⟩
def BoxA (p:Nat) (cs:Array Value) (t:TypeId):Thing:=fun w F=>w.heap[p]?=some (.cells cs t (0,0))∧F p∧∀ k,F k→k<w.heap.size
theorem BoxA.lives (p:Nat) (cs:Array Value) (t:TypeId):Lives (BoxA p cs t):=
 ⟨fun ⟨h1,h2,h3⟩ hk hn=>⟨hk.get h1 (hn _ h2),h2,fun k x=>Nat.lt_of_lt_of_le (h3 k x) hk.size⟩,fun h=>h.2.2⟩
abbrev accC (sb:Nat) (b:Bal) (nv:Value) (dead:Bool):Array Value:=#[.pointer (some ⟨sb,0,none⟩),.int .u64 (b.n:Int),.int .i64 b.node,nv,.bool dead]
def AcT (a d:Nat) (D:Dk) (A:Ac):Thing:=fun w F=>∃ sb nv,TrioT (BoxA a (accC sb A.b nv A.s.dead) 86) (StoT sb d D A.s) (VotesT nv A.vs) w F
theorem AcT.lives (a d:Nat) (D:Dk) (A:Ac):Lives (AcT a d D A):=
 ⟨fun ⟨sb,nv,h⟩ hk hn=>⟨sb,nv,(TrioT.lives (BoxA.lives _ _ _) (StoT.lives _ _ _ _) (VotesT.lives _ _)).keep h hk hn⟩,fun ⟨_sb,_nv,h⟩=>(TrioT.lives (BoxA.lives _ _ _) (StoT.lives _ _ _ _) (VotesT.lives _ _)).lt h⟩
end
namespace AC
open Go.Proofs.YtkjofdocgaiedaaGreat MI SO BM DM WM
def z3M:List Vt→Nat→Nat
 | [],_=>0
 | v :: vs,s=>if v.slot<s then z3M vs s+1 else 0
theorem zbN:∀ (vs:List Vt) (s:Nat),z3M vs s≤vs.length
 | [],_=>Nat.le_refl _
 | v :: vs,s=>by
   have:=zbN vs s;unfold z3M;split <;> simp <;> omega
theorem zbX:∀ {vs:List Vt} {s k:Nat},k≤vs.length→(∀ i (h:i<vs.length),i<k→vs[i].slot<s)→(∀ h:k<vs.length,¬ vs[k].slot<s)→k=z3M vs s
 | [],s,k,h,_,_=>by simp at h;rw[h];rfl
 | v :: vs,s,0,_,_,h2=>by
   have:=h2 (by simp);simp only[List.getElem_cons_zero] at this;unfold z3M;rw[if_neg this]
 | v :: vs,s,k+1,h,h1,h2=>by
   have h3:=h1 0 (by simp) (by omega);simp only[List.getElem_cons_zero] at h3;unfold z3M;rw[if_pos h3,← zbX (k:=k) (by simpa using h) (fun i hi hik=>by have:=h1 (i+1) (by simpa using hi) (by omega);simpa using this) (fun hh=>by have:=h2 (by simpa using hh);simpa using this)]
theorem z9J:∀ (vs:List Vt) (v:Vt),insV vs v=vs.take (z3M vs v.slot) ++ v :: vs.drop (if (vs[z3M vs v.slot]?.map (·.slot))=some v.slot then z3M vs v.slot+1 else z3M vs v.slot)
 | [],v=>rfl
 | u :: vs,v=>by
   unfold insV z3M
   by_cases h:u.slot<v.slot
   ·rw[if_pos h,if_pos h,z9J vs v]
    simp only[List.take_succ_cons,List.getElem?_cons_succ,List.cons_append]
    by_cases e:Option.map (fun x=>x.slot) vs[z3M vs v.slot]?=some v.slot
    ·rw[if_pos e,if_pos e];rfl
    ·rw[if_neg e,if_neg e];rfl
   ·rw[if_neg h,if_neg h]
    simp only[List.take_zero,List.nil_append,List.getElem?_cons_zero,Option.map_some,Option.some.injEq]
    by_cases e:u.slot=v.slot
    ·rw[if_pos e,if_pos e];rfl
    ·rw[if_neg e,if_neg e];rfl
theorem zcS:∀ {vs:List Vt} (k:Nat),Rise vs→z7Y vs k=vs.drop (z3M vs k)
 | [],_,_=>rfl
 | v :: vs,k,h=>by
   have h1:=List.pairwise_cons.1 h;unfold z7Y z3M
   by_cases hk:v.slot<k
   ·rw[if_pos hk,List.filter_cons,if_neg (by simp;omega)]
    exact zcS k h1.2
   ·rw[if_neg hk,List.drop_zero,List.filter_eq_self]
    intro x hx
    rcases List.mem_cons.1 hx with rfl | hx
    ·simp;omega
    ·have:=h1.1 x hx
     simp;omega
theorem zbJ:∀ (l:Str) (x:UInt8),valN (l ++ [x])=valN l * 256+x.toNat
 | [],x=>by simp[valN]
 | y :: l,x=>by
   simp only[List.cons_append,valN,List.length_append,List.length_singleton];rw[zbJ l x,Nat.pow_succ,Nat.add_mul];simp only[Nat.mul_assoc];omega
end AC
section
open Go.RowKit Go.Maps
open MI SO BM DM WM AC
theorem z2C {w:World} {b:Nat} {T:TypeId} {a0 a1 a2 a3 a4:Value} (H:w.heap[b]?=some (.cells #[a0,a1,a2,a3,a4] T (0,0))) :
  w.cell? ⟨b,0,none⟩=some a0∧w.cell? ⟨b,1,none⟩=some a1∧w.cell? ⟨b,2,none⟩=some a2∧w.cell? ⟨b,3,none⟩=some a3∧w.cell? ⟨b,4,none⟩=some a4∧(∀ o,w.frozen? ⟨b,o,none⟩=false)∧b<w.heap.size:=by
 refine⟨?_,?_,?_,?_,?_,?_,z0L H⟩ <;> simp[World.cell?,World.frozen?,H]
theorem z9M (w:World) (a sb:Nat) (b:Bal) (nv:Value) (dead:Bool) (F:Nat→Prop) (vs:List Vt) (us:List Value) (slot:Nat)
  (hh:w.heap[a]?=some (.cells (accC sb b nv dead) 86 (0,0))) (hv:Votes w F nv vs us) :
  Calls Tryz.prog 41 #[.pointer (some ⟨a,0,none⟩),.int .u64 (slot:Int)] w fun e w'=>e = .returned (.int .i64 (z3M vs slot:Nat))∧w'=w:=by
 obtain⟨ao,c,rfl,hc,hm,-⟩:=hv.row.form;obtain⟨n,hn⟩:=zX1 (vs.length);rw[← hn] at hh hv hc;obtain⟨k0,k1,k2,k3,k4,kf,kb⟩:=z2C hh;have H:=hid (zA1 hv hn);have hn63:(n:Int)≤9223372036854775807:=by unfold maxLen at hm;omega
 obtain⟨P,hP⟩:=zX1 (z3M vs slot);rw[← hP];have HP:=hid hP;clear hv hh hn hP hc hm k0 k1 k2 k4 kf;go_enter Tryz.func41,Tryz.ntmps41;go_wp2_with (at_builtin;refine z0A ?_;intro q hq)
 go_loopw [5] (fun iv wr=>∃ i:Nat,i≤n∧iv = .int .i64 i∧wr=w∧Hid (∀ j (hj:j<vs.length),j<i→vs[j].slot<slot)) (fun iv _=>n - (intOf iv).toNat)
 case atStart=>exact⟨0,Nat.zero_le _,rfl,rfl,hid fun j _ x=>by omega⟩
 case round=>
  obtain⟨i,hi,rfl,rfl,HR⟩:=hrel
  by_cases hin:i<n
  ·have h4:(i:Int)<n:=by omega
   have hil:i<vs.length:=by rw[← H.out.2];exact hin
   obtain⟨g,ua,uc,rfl,hcell,-⟩:=H.out.1.get i hil;have a0:=hcell 0 _ rfl;rw[Nat.add_zero] at a0;obtain⟨s,hs⟩:=zX1 (vs[i].slot);rw[← hs] at a0;have HS:=hid (zA1 hil hs);clear hcell hs
   by_cases hlt:s<slot
   ·have q1:(s:Int)<(slot:Int):=by omega
    go_wp2_with (at_builtin;refine z0A ?_;intro q hq);go_roundw
    case rel=>exact⟨i+1,by omega,by go_num,by first | rfl | trivial,hid fun j hj hji=>by
     rcases Nat.lt_or_eq_of_le (Nat.le_of_lt_succ hji) with x | x
     ·exact HR.out j hj x
     ·subst x;rw[← HS.out.2];exact hlt⟩
    case measure=>simp[intOf];omega
   ·have q1:decide ((s:Int)<(slot:Int))=false:=by simp;omega
    have q2:decide (s<slot)=false:=decide_eq_false hlt
    have HE:=hid (show i=P by
     rw[HP.out]
     exact zbX (Nat.le_of_lt HS.out.1) HR.out (fun h=>by rw[← HS.out.2];exact hlt))
    go_wp2_with (at_builtin;refine z0A ?_;intro q hq);go_ret;exact⟨by rw[HE.out];first | rfl | simp,rfl⟩
  ·have q1:decide ((i:Int)<(n:Int))=false:=by simp;omega
   have q2:decide (i<n)=false:=decide_eq_false hin
   have HE:=hid (show i=P by
    rw[HP.out]
    exact zbX (by have:=H.out.2;omega) HR.out (fun h=>by have:=H.out.2;omega))
   go_wp2_with (at_builtin;refine z0A ?_;intro q hq);go_ret;exact⟨by rw[HE.out];first | rfl | simp,rfl⟩
end
section
open Go.RowKit Go.Maps
open MI SO BM DM WM AC
def VotesPost (w:World) (vs:List Vt) (e:Ending) (w':World):Prop:=∃ v us Fv,e = .returned v∧Votes w' Fv v vs us∧(∀ k,Fv k→w.heap.size≤k)∧Keep (fun _=>False) w w'
def Apart (us:List Value):Prop:=∀ i j k,i<j→j<us.length→(us.getD i undef).ownBlock=some k→(us.getD j undef).ownBlock≠some k
theorem Apart.nil:Apart []:=fun _ _ _ _ h=>absurd h (by simp)
theorem Apart.push {us:List Value} {u:Value} (h:Apart us) (hu:∀ i k,i<us.length→(us.getD i undef).ownBlock=some k→u.ownBlock≠some k):Apart (us ++ [u]):=fun i j k hij hj e=>by
 rw[List.length_append,List.length_singleton] at hj;rw[List.getD_eq_getElem?_getD,List.getElem?_append_left (by omega),← List.getD_eq_getElem?_getD] at e
 rcases Nat.lt_or_eq_of_le (Nat.le_of_lt_succ hj) with y | y
 ·rw[List.getD_eq_getElem?_getD,List.getElem?_append_left y,← List.getD_eq_getElem?_getD]
  exact h i j k hij y e
 ·subst y
  rw[List.getD_eq_getElem?_getD,List.getElem?_append_right (Nat.le_refl _),Nat.sub_self];exact hu i k hij e
def VotesPostA (w:World) (vs:List Vt) (e:Ending) (w':World):Prop:=∃ v us Fv,e = .returned v∧Votes w' Fv v vs us∧(∀ k,Fv k→w.heap.size≤k)∧Keep (fun _=>False) w w'∧Apart us
theorem zfL (w:World) (a sb:Nat) (b:Bal) (nv:Value) (dead:Bool) (F:Nat→Prop) (vs:List Vt) (us:List Value) (k:Nat)
  (hh:w.heap[a]?=some (.cells (accC sb b nv dead) 86 (0,0))) (hv:Votes w F nv vs us) (hr:Rise vs) (hb:∀ v ∈ vs,v.val.length≤1000) (hN:vs.length≤1000000) :
  Calls Tryz.prog 14 #[.pointer (some ⟨a,0,none⟩),.int .u64 (k:Int)] w (VotesPostA w (if dead then [] else z7Y vs k)):=by
 obtain⟨k0,k1,k2,k3,k4,kf,kb⟩:=z2C hh
 cases dead with
 | true=>
   clear hh hv;go_enter Tryz.func14,Tryz.ntmps14;go_wp2_with (at_builtin;refine z0A ?_;intro q hq);go_ret;exact⟨_,[],fun _=>False,rfl,Votes.nil _ _,fun _ x=>x.elim,Keep.refl _ _,Apart.nil⟩
 | false=>
   have hpl:=z9M w a sb b nv false F vs us k hh hv;have hfd:=zcS k hr;have hple:=zbN vs k;obtain⟨p,hp⟩:=zX1 (z3M vs k);rw[← hp] at hpl hfd hple;obtain⟨ao,c,rfl,hc,hm,hnil,hsome⟩:=hv.row.form;obtain⟨n,hn⟩:=zX1 (vs.length);rw[← hn] at hh hv hc hple k3;obtain⟨m,hm2⟩:=zX1 (n - p);have hsl:=fun w=>z1Q (P:=Tryz.prog) z3E ao n c .i64 p hple w;obtain⟨ta,hta⟩:=zX1 (z1E ao c p 4);obtain⟨tc,htc⟩:=zX1 (c - p);rw[← hta,← hm2,← htc] at hsl;obtain⟨T,hT⟩:=zX1 (vs.drop p);rw[← hT] at hfd;simp only[Bool.false_eq_true,if_false];rw[hfd];have hTm:T.length=m:=by rw[hT,List.length_drop,hm2,hn]
   have H:=hid (zA1 hv (zA1 hn (zA1 hta (zA1 hT (zA1 hTm (zA1 hb (zA1 hc (zA1 hple hm2))))))))
   have HPl:=hid (fun s:Later w=>show Calls Tryz.prog 41 #[.pointer (some ⟨a,0,none⟩),.int .u64 (k:Int)] s.val fun e w'=>e = .returned (.int .i64 (p:Nat))∧Keep (fun _=>False) s.val w' from by
    have:=z9M s.val a sb b (.slice ao n c) false F vs us k (s.keep.get hh id) (hv.keep s.keep (fun _ _ x=>x));rw[← hp] at this
    exact this.mono fun e w' ⟨h1,h2⟩=>⟨h1,by rw[h2];exact Keep.refl _ _⟩)
   have hm63:(m:Int)≤9223372036854775807:=by unfold maxLen at hm;omega
   have HN:=hid hN;clear hv hh hn hta hT hTm hfd hm2 hb hr hp hpl hnil hsome htc hm hN;go_enter Tryz.func14,Tryz.ntmps14
   go_upto_region 4 with fail
   have j3:=fun s:Later w=>s.cell k3
   (refine z0X (by kernel_rfl) (by kernel_rfl) ?_;(repeat (go_big_quiet_step ((go_at_call 41;exact Later.call (HPl.out _)))));refine wpQuiet_nil ?_;rintro _ ⟨sq,rfl⟩)
   have hk1:=sq.keep;obtain⟨w1,hw1⟩:=zX1 (sq.val);rw[← hw1] at hk1 ⊢;clear hw1 sq j3 HPl hsl k0 k1 k2 k3 k4 kf kb;go_wp2_with (at_builtin;refine z0A ?_;intro q hq)
   go_loopw [5,25] (fun ov iv wr=>∃ i:Nat,i≤m∧iv = .int .i64 i∧Hid (∃ us Fo,Votes wr Fo ov (T.take i) us∧(∀ k,Fo k→w.heap.size≤k)∧Keep (fun _=>False) w wr∧Apart us)) (fun _ iv _=>m - (intOf iv).toNat)
   case atStart=>exact⟨0,Nat.zero_le _,rfl,hid ⟨[],fun _=>False,Votes.nil _ _,fun _ x=>x.elim,hk1,Apart.nil⟩⟩
   case round=>
    obtain⟨i,hi,rfl,HR⟩:=hrel
    by_cases him:i<m
    ·have q1:(i:Int)<m:=by omega
     obtain⟨os,Fo,ho,hFo,hkr,hap⟩:=HR.out;have hil:p+i<vs.length:=by have:=H.out.2.1;have:=H.out.2.2.2.2.2.2.2.2;omega
     obtain⟨g,ua,uc,hao,hcell,hrow⟩:=(H.out.1.keep hkr (fun _ _ x=>x)).get (p+i) hil;subst hao;obtain⟨q,hq⟩:=zX1 (p * 4)
     have hta:ta=some ⟨g,q,none⟩:=by
      rw[H.out.2.2.1];unfold z1E;rw[if_neg (by have:=H.out.2.2.2.2.2.2.1;have:=H.out.2.1;omega)];simp only[Option.map_some];rw[z0J,Nat.zero_add,hq]
     subst hta;obtain⟨x,hx⟩:=zX1 (vs[p+i]);rw[← hx] at hcell hrow;obtain⟨xl,hxl⟩:=zX1 (x.val.length);rw[← hxl] at hcell hrow;have b0:=hcell 0 _ rfl;have b1:=hcell 1 _ rfl;have b2:=hcell 2 _ rfl;have b3:=hcell 3 _ rfl;rw[show (p+i) * 4+0=q+i * 4 by rw[hq];omega] at b0;rw[show (p+i) * 4+1=q+i * 4+1 by rw[hq];omega] at b1;rw[show (p+i) * 4+2=q+i * 4+2 by rw[hq];omega] at b2;rw[show (p+i) * 4+3=q+i * 4+3 by rw[hq];omega] at b3;have HAp:=hid hap;clear hap;have HX:=hid (zA1 ho (zA1 hFo (zA1 hkr (zA1 hrow (zA1 hx (zA1 hxl hq))))));clear ho hFo hkr hcell hrow hx hxl hq
     go_upto_region 7 with fail
     have hn2:=heap_alloc_new wr (.cells #[.int .u64 (x.slot:Int),.int .u64 (x.bal.n:Int),.int .i64 x.bal.node,.slice ua xl uc] 31);have hk2:=kal wr (.cells #[.int .u64 (x.slot:Int),.int .u64 (x.bal.n:Int),.int .i64 x.bal.node,.slice ua xl uc] 31);have hz2:(wr.alloc (.cells #[.int .u64 (x.slot:Int),.int .u64 (x.bal.n:Int),.int .i64 x.bal.node,.slice ua xl uc] 31)).heap.size=wr.heap.size+1:=by simp
     obtain⟨w2,hw2⟩:=zX1 (wr.alloc (.cells #[.int .u64 (x.slot:Int),.int .u64 (x.bal.n:Int),.int .i64 x.bal.node,.slice ua xl uc] 31));rw[← hw2] at hn2 hk2 hz2 ⊢;clear hw2 b0 b1 b2 b3;have hk3:=kal w2 (.cells #[] 5);have hf3:=Row.fresh w2 5 1;have hn3:=hk3.get hn2 id;have hz3:(w2.alloc (.cells #[] 5)).heap.size=w2.heap.size+1:=by simp
     have d3:(w2.alloc (.cells #[] 5)).cell? ⟨wr.heap.size,3,none⟩=some (.slice ua xl uc):=by
      obtain⟨w3,hw3⟩:=zX1 (w2.alloc (.cells #[] 5));rw[← hw3] at hn3 ⊢;simp[World.cell?,hn3]
     have H3:=hid (zA1 hk2 (zA1 hk3 (zA1 hf3 (zA1 hn3 (zA1 hz2 hz3)))));clear hn2 hk2 hz2 hk3 hf3 hn3 hz3;go_wp2_with (at_builtin;refine z0A ?_;intro q hq)
     (refine hq.out ?_;clear hq q)
     obtain⟨w3,hw3⟩:=zX1 (w2.alloc (.cells #[] 5));rw[← hw3] at H3 d3
     first | rw[← hw3] | skip
     clear hw3;obtain⟨hk2,hk3,hf3,hn3,hz2,hz3⟩:=H3.out;have hbx:x.val.length≤1000:=H.out.2.2.2.2.2.1 x (by rw[HX.out.2.2.2.2.1];exact List.getElem_mem _);have hxl:=HX.out.2.2.2.2.2.1;have hk13:=hk2.nx hk3;refine wpList_plain rfl (fun K hK=>?_);refine z0R z0U (.tmp 29) (.tmp 31) rfl rfl hf3 ua xl uc (z0B x.val) rfl (Cells.of_row (HX.out.2.2.2.1.keep hk13 (fun _ _ x=>x))) (z1I _) (by unfold maxLen;omega) (by omega) ?_;intro v4 w4 hr4 hk4 hv4;refine hK _ _ ?_;clear hK K;obtain⟨a4,c4,rfl,-⟩:=hr4.form;rw[Nat.zero_add] at hr4
     try rw[Nat.zero_add] at hv4
     try rw[Nat.zero_add]
     have hn4:=hk4.get hn3 (fun e=>by have e2:w2.heap.size=wr.heap.size:=Option.some.inj e;omega);have d3b:w4.cell? ⟨wr.heap.size,3,none⟩=some (.slice ua xl uc):=by simp[World.cell?,hn4]
     have f3:w4.frozen? ⟨wr.heap.size,3,none⟩=false:=by simp[World.frozen?,hn4]
     have H4:=hid (zA1 hr4 (zA1 hk4 (zA1 hv4 hn4)));clear hr4 hk4 hv4 hn4 hk2 hk3 hf3 hn3 hz2 hz3 hk13 d3 hbx hxl
     go_upto_region 8 with fail
     have hn5:=z0C H4.out.2.2.2 3 (.slice a4 xl c4);have hk5:Keep (fun k=>k=wr.heap.size) w4 (w4.setCell ⟨wr.heap.size,3,none⟩ (.slice a4 xl c4)):=kst;obtain⟨w5,hw5⟩:=zX1 (w4.setCell ⟨wr.heap.size,3,none⟩ (.slice a4 xl c4));rw[← hw5] at hn5 hk5 ⊢;clear hw5 d3b f3;have e0:w5.cell? ⟨wr.heap.size,0,none⟩=some (.int .u64 (x.slot:Int)):=by simp[World.cell?,hn5]
     have e1:w5.cell? ⟨wr.heap.size,1,none⟩=some (.int .u64 (x.bal.n:Int)):=by simp[World.cell?,hn5]
     have e2:w5.cell? ⟨wr.heap.size,2,none⟩=some (.int .i64 x.bal.node):=by simp[World.cell?,hn5]
     have e3:w5.cell? ⟨wr.heap.size,3,none⟩=some (.slice a4 xl c4):=by simp[World.cell?,hn5]
     have hk6:=kal w5 (.cells #[.int .u64 (x.slot:Int),.int .u64 (x.bal.n:Int),.int .i64 x.bal.node,.slice a4 xl c4] 31);have hn6:=heap_alloc_new w5 (.cells #[.int .u64 (x.slot:Int),.int .u64 (x.bal.n:Int),.int .i64 x.bal.node,.slice a4 xl c4] 31);have H5:=hid (zA1 hk5 (zA1 hk6 hn6));clear hk5 hk6 hn6 hn5;go_wp2_with (at_builtin;refine z0A ?_;intro q hq)
     (refine hq.out ?_;clear hq q)
     obtain⟨w6,hw6⟩:=zX1 (w5.alloc (.cells #[.int .u64 (x.slot:Int),.int .u64 (x.bal.n:Int),.int .i64 x.bal.node,.slice a4 xl c4] 31));rw[← hw6] at H5
     first | rw[← hw6] | skip
     clear hw6 e0 e1 e2 e3;obtain⟨ho,hFo,hkr,hrow,hx,hxl,hq⟩:=HX.out;obtain⟨hk2,hk3,hf3,hn3,hz2,hz3⟩:=H3.out;obtain⟨hr4,hk4,hv4,hn4⟩:=H4.out;obtain⟨hk5,hk6,hn6⟩:=H5.out;have hk23:=hk2.nx hk3;have hk24:Keep (fun _=>False) wr w4:=hk23.next hk4 (fun _ _ x=>x) (fun k hk e=>by have e2:w2.heap.size=k:=Option.some.inj e;omega);have hk25:Keep (fun _=>False) wr w5:=hk24.next hk5 (fun _ _ x=>x) (fun k hk e=>by omega);have hk26:=hk25.nx hk6;have ho6:=ho.keep hk26 (fun _ _ x=>x);have hTi:(T.take i).length=i:=by rw[List.length_take,H.out.2.2.2.2.1];omega
     obtain⟨oo,oc,rfl,-⟩:=ho6.row.form;have hr6:=ho6.row;rw[hTi] at hr6 ho6 ⊢;have hns:i<1000000:=by have h1:=HN.out;have h2:=H.out.2.1;have h3:=H.out.2.2.2.2.2.2.2.2;omega
     refine wpList_plain rfl (fun K hK=>?_)
     refine z0R z3E (.tmp 34) (.tmp 36) rfl rfl hr6 (some ⟨w5.heap.size,0,none⟩) 1 1 (z2H x (.slice a4 xl c4)) rfl
      ⟨rfl,fun _=>⟨_,rfl,fun t u hu=>by rw[z0J,Nat.zero_add,cell_of_row _ _ _ _ _ _ hn6];simpa [z2H] using hu⟩⟩ (fun u hu=>by simp[z2H] at hu;rcases hu with rfl | rfl | rfl | rfl <;> rfl) (by unfold maxLen;omega) (by omega) ?_
     intro v7 w7 hr7 hk7 hv7;have hk7:Keep (fun k=>(Value.slice oo i oc).ownBlock=some k) w6 w7:=hk7;refine hK _ _ ?_;clear hK K
     have HZ:=hid (show ∃ us Fo',Votes w7 Fo' v7 (T.take (i+1)) us∧(∀ k,Fo' k→w.heap.size≤k)∧Keep (fun _=>False) w w7∧Apart us from by
      have hTx:T.take (i+1)=T.take i ++ [x]:=by
       have hiT:i<T.length:=by rw[H.out.2.2.2.2.1];exact him
       rw[List.take_add_one,List.getElem?_eq_getElem hiT,Option.toList_some];congr 2;rw[hx];simp only[H.out.2.2.2.1,List.getElem_drop]
      have hown4:∀ k,(Value.slice a4 xl c4).ownBlock=some k→wr.heap.size<k:=fun k e=>by
       rcases hv4 with ⟨e1,-⟩ | ⟨k',h1,h2⟩
       ·rw[e1] at e
        have:=Option.some.inj e;simp only at this;omega
       ·rw[e] at h1
        cases h1
        rcases h2 with h2 | h2
        ·have:=Option.some.inj h2
         simp only at this;omega
        ·omega
      have s1:=hkr.size;have s2:=hk25.size;have s3:=hk6.size;rw[hTx];refine⟨os ++ [.slice a4 xl c4],fun k=>Fo k∨(wr.heap.size≤k),ho6.push (u:=.slice a4 xl c4) (F':=fun k=>Fo k∨(wr.heap.size≤k)) ?_ ?_ ?_ hk7 (fun k x=>.inl x) ?_,?_,?_,HAp.out.push fun i' k' hi' e1 e2=>?_⟩
      ·rw[← hxl]
       have h:=(hr4.keep hk5 (fun k e x=>by have:=hown4 k e;omega)).keep hk6 (fun _ _ x=>x);rw[List.nil_append] at h;exact h
      ·intro k e
       have h1:=hown4 k e;exact⟨.inr (by omega),fun e2=>by have:=ho.row.lt (by rw[z1W _ _ i];exact e2);omega⟩
      ·rw[hTi];exact hr7
      ·intro k e
       rcases hv7 with ⟨_,h0⟩ | ⟨k',h1,h2⟩
       ·omega
       ·rw[e] at h1
        cases h1
        rcases h2 with h2 | h2
        ·exact⟨.inl (ho6.own k h2),.inl h2⟩
        ·exact⟨.inr (by omega),.inr (by omega)⟩
      ·rintro k (x | x)
       ·exact hFo k x
       ·omega
      ·exact(hkr.next hk26 (fun _ _ x=>x) (fun _ _ x=>x)).next hk7 (fun _ _ x=>x) (fun k hk e=>by have:=hFo k (ho6.own k e);omega)
      ·have h1:=hown4 k' e2
       have h2:=(ho.each i' (by rw[← ho.len];exact hi')).1.lt e1
       omega)
     clear ho hFo hkr hrow hx hxl hq hk2 hk3 hf3 hn3 hz2 hz3 hr4 hk4 hv4 hn4 hk5 hk6 hn6 hk23 hk24 hk25 hk26 ho6 hr6 hr7 hk7 hv7 hTi;go_wp2_with (at_builtin;refine z0A ?_;intro q hq);go_roundw
     case rel=>exact⟨i+1,by omega,by go_num,HZ⟩
     case measure=>simp[intOf];omega
    ·have q1:decide ((i:Int)<m)=false:=by simp;omega
     obtain⟨os,Fo,ho,hFo,hkr,hap⟩:=HR.out;rw[List.take_of_length_le (by have:=H.out.2.2.2.2.1;omega)] at ho;have HZ:=hid (zA1 ho (zA1 hFo (zA1 hkr hap)));clear ho hFo hkr hap;go_wp2_with (at_builtin;refine z0A ?_;intro q hq);go_ret;exact⟨_,os,Fo,rfl,HZ.out.1,HZ.out.2.1,HZ.out.2.2⟩
end
section
open Go.RowKit Go.Maps
open MI SO BM DM WM AC
theorem ziY (u:FrameMode) (w:World) (ba be a sb:Nat) (b:Bal) (nv:Value) (dead:Bool) (e:Int) (ha:w.cell? ⟨ba,0,none⟩=some (.pointer (some ⟨a,0,none⟩))) (he:w.cell? ⟨be,0,none⟩=some (.int .i64 e))
  (hh:w.heap[a]?=some (.cells (accC sb b nv dead) 86 (0,0))) :
  CallsD Tryz.prog 77 #[.pointer (some ⟨ba,0,none⟩),.pointer (some ⟨be,0,none⟩)] u w fun r u' w'=>u'=u∧(r = .returned (.tuple #[])∧w'.heap[a]?=some (.cells (accC sb b nv (dead || decide (e=6))) 86 (0,0))∧Keep (fun k=>k=a) w w'):=by
 obtain⟨k0,k1,k2,k3,k4,kf,kb⟩:=z2C hh;have HH:=hid hh;clear hh k0 k1 k2 k3
 have hk:∀ (w1:World) (v:Value),Keep (fun _=>False) w w1→w1.heap[a]?=some (.cells (accC sb b nv dead) 86 (0,0))→(w1.setCell ⟨a,4,none⟩ v).heap[a]?=some (.cells #[.pointer (some ⟨sb,0,none⟩),.int .u64 (b.n:Int),.int .i64 b.node,nv,v] 86 (0,0))∧Keep (fun k=>k=a) w (w1.setCell ⟨a,4,none⟩ v):=fun w1 v h1 h2=>
  ⟨z0C h2 4 v,h1.next (show Keep (fun k=>k=a) w1 _ from by refine Keep.setCell (Keep.refl _ _) (.inl ?_) _;rfl) (fun _ _ x=>x.elim) (fun _ _ x=>x)⟩
 have HK:=hid hk;clear hk
 go_enter_d Tryz.func77,Tryz.ntmps77
 go_wp2_with (at_builtin;refine z0A ?_;intro q hq);have j0:=fun s:Later w=>s.cell ha;have j1:=fun s:Later w=>s.cell he;have j2:=fun s:Later w=>s.cell k4
 have fin:∀ (w1:World) (x:Bool),Keep (fun _=>False) w w1→x=(dead || decide (e=6))→(w1.setCell ⟨a,4,none⟩ (.bool x)).heap[a]?=some (.cells (accC sb b nv (dead || decide (e=6))) 86 (0,0))∧Keep (fun k=>k=a) w (w1.setCell ⟨a,4,none⟩ (.bool x)):=fun w1 x h1 hx=>by
  rw[← hx];exact HK.out w1 (.bool x) h1 (h1.get HH.out id)
 have HF:=hid fin;clear fin ha he k4
 cases dead with
 | true=>
   (refine z2L 11 (by kernel_rfl) (by kernel_rfl) ?_;simp only[List.take_succ_cons,List.take_zero,List.drop_succ_cons,List.drop_zero];(repeat (go_big_quiet_step ((fail))));refine wpQuiet_nil ?_;rintro _ ⟨sq,rfl⟩)
   have hk1:=sq.keep;obtain⟨w1,hw1⟩:=zX1 (sq.val);rw[← hw1] at hk1 ⊢;clear hw1 sq j0 j1 j2;have hh1:=hk1.get HH.out id;have d4:w1.cell? ⟨a,4,none⟩=some (.bool true):=by simp[World.cell?,hh1]
   have f4:w1.frozen? ⟨a,4,none⟩=false:=by simp[World.frozen?,hh1]
   have HZ:=hid (HF.out w1 true hk1 rfl);clear hk1 hh1 kf;go_wp2_with (at_builtin;refine z0A ?_;intro q hq)
   go_end0
   exact⟨rfl,HZ.out⟩
 | false=>
   obtain⟨z,hz⟩:=zX1 (decide (e=6));have hz2:(e == 6)=z:=by rw[hz];by_cases h:e=6 <;> simp[h]
   have HZ0:=hid hz;have hz3:=hz.symm;clear hz
   (refine z2L 11 (by kernel_rfl) (by kernel_rfl) ?_;simp only[List.take_succ_cons,List.take_zero,List.drop_succ_cons,List.drop_zero];(repeat (go_big_quiet_step ((fail))));refine wpQuiet_nil ?_;rintro _ ⟨sq,rfl⟩)
   have hk1:=sq.keep;obtain⟨w1,hw1⟩:=zX1 (sq.val);rw[← hw1] at hk1 ⊢;clear hw1 sq j0 j1 j2;have hh1:=hk1.get HH.out id;have d4:w1.cell? ⟨a,4,none⟩=some (.bool false):=by simp[World.cell?,hh1]
   have f4:w1.frozen? ⟨a,4,none⟩=false:=by simp[World.frozen?,hh1]
   have HZ:=hid (HF.out w1 z hk1 (by rw[HZ0.out,Bool.false_or]));clear hk1 hh1 kf hz2 hz3;go_wp2_with (at_builtin;refine z0A ?_;intro q hq)
   go_end0
   exact⟨rfl,HZ.out⟩
theorem AC.doA_dead (D:Dk) (S:St) (l:List Ch):(doA D S l).2.2.dead=(S.dead || decide ((doA D S l).1=6)):=by
 cases hd:S.dead with
 | true=>
   have e:doS D S l=(6,D,S):=by unfold doS;rw[hd];rfl
   have e2:doA D S l=(6,D,S):=by unfold doA;rw[e];rfl
   rw[e2];exact hd
 | false=>
   rcases z6U (D:=D) hd l with ⟨h1,h2,h3⟩ | ⟨h1,h2⟩ | ⟨h1,h2,h3,h4⟩
   ·rw[h3,h1];rfl
   ·rw[h2,h1];rfl
   ·rw[h4,decide_eq_false h2];rfl
theorem StoTo.turnsT {b d:Nat} {F1 F2:Nat→Prop} {w w':World} {D:Dk} {S:St} (h:StoTo b d F1 F2 w D S w'):Turns (StoT b d D S) (fun k=>F1 k∨F2 k) w w':=by
 obtain⟨F',Fd',h1,h2,h3,h4⟩:=h;exact⟨fun k=>F' k∨Fd' k,⟨F',Fd',h1,rfl⟩,h2,fun k x=>x.elim (fun y=>(h3 k y).imp .inl id) (fun y=>(h4 k y).imp .inr id)⟩
theorem ziF {fn:Func} {t:Tmp} {ty:TypeId} (h:fn.results = #[.cell t ty]) (tm:Array Value) (w:World) (g:Nat) (ht:tm.getD t undef = .pointer (some ⟨g,0,none⟩)) (e:Int) (hc:w.cell? ⟨g,0,none⟩=some (.int .i64 e)) (ha:(isAgg ty).run Tryz.prog w = .ok false w):(results fn tm).run Tryz.prog w = .ok (.int .i64 e) w:=by
 have ht':tm[t]?.getD undef = .pointer (some ⟨g,0,none⟩):=by simpa using ht
 simp[results,h,ht',asAddr,loadVar,Sem.run_bind,ha,go_sem,hc]
theorem zmV {a sb d:Nat} {b:Bal} {nv:Value} {vs:List Vt} {D':Dk} {S':St} {dd dd':Bool} {F:Nat→Prop} {w w5 w6:World} (T5:Turns (TrioT (BoxA a (accC sb b nv dd) 86) (StoT sb d D' S') (VotesT nv vs)) F w w5)
  (hh6:w6.heap[a]?=some (.cells (accC sb b nv dd') 86 (0,0))) (hk6:Keep (fun k=>k=a) w5 w6):Turns (TrioT (BoxA a (accC sb b nv dd') 86) (StoT sb d D' S') (VotesT nv vs)) F w w6:=
 T5.trans fun F' h=>TrioT.turn1 (StoT.lives _ _ _ _) (VotesT.lives _ _) h fun X hX=>⟨X,⟨hh6,hX.2.1,fun k x=>Nat.lt_of_lt_of_le (hX.2.2 k x) hk6.size⟩,hk6.mono fun k _ e=>by subst e;exact hX.2.1,fun _ x=>.inl x⟩
theorem Turns.aside {T:Thing} {F:Nat→Prop} {w w1 w2:World} {q p:Nat} (LT:Lives T) (h:∃ F',T w1 F'∧Keep F w w1∧(∀ i,F' i→F i∨w.heap.size≤i)∧¬ F' q∧¬ F' p) (hk:Keep (fun k=>k=q) w1 w2) (hq:w.heap.size≤q):∃ F',T w2 F'∧Keep F w w2∧(∀ i,F' i→F i∨w.heap.size≤i)∧¬ F' q∧¬ F' p:=by
 obtain⟨F',a,b,c,d,e⟩:=h;exact⟨F',LT.keep a hk (fun k x e=>d (e ▸ x)),b.next hk (fun _ _ x=>x) (fun k hk e=>by omega),c,d,e⟩
theorem zmA (w:World) (a sb d:Nat) (b:Bal) (nv:Value) (vs:List Vt) (D:Dk) (S:St) (F:Nat→Prop) (H:TrioT (BoxA a (accC sb b nv S.dead) 86) (StoT sb d D S) (VotesT nv vs) w F)
  (ao:Option Addr) (n c:Nat) (l:List Ch) (hL:Chs w (.slice ao n c) l) (hn:n=l.length) (hap:0<n→∀ x,ao=some x→¬ F x.block) (hm:S.dead=false→S.ps.length≤900000) (hfew:D.waits.length≤490000) :
  Calls Tryz.prog 37 #[.pointer (some ⟨a,0,none⟩),.slice ao n c] w fun e w'=>e = .returned (.int .i64 (doA D S l).1)∧
   Turns (TrioT (BoxA a (accC sb b nv (doA D S l).2.2.dead) 86) (StoT sb d (doA D S l).2.1 (doA D S l).2.2) (VotesT nv vs)) F w w':=by
 obtain⟨E,hE⟩:=zX1 (doA D S l);rw[← hE];have HE:=hid hE;clear hE;have hmf:∀ (fn:Fn) (first cap:Array Value) (w:World),(Instr.makeFunc fn first cap).run Tryz.prog w = .ok (.func fn first cap) w:=fun _ _ _ _=>rfl;have LT:=TrioT.lives (BoxA.lives a (accC sb b nv S.dead) 86) (StoT.lives sb d D S) (VotesT.lives nv vs);have hFl:=LT.lt H;have hn1:=heap_alloc_new w (.cells #[.pointer (some ⟨a,0,none⟩)] 36);have hk1:=kal w (.cells #[.pointer (some ⟨a,0,none⟩)] 36);have hz1:(w.alloc (.cells #[.pointer (some ⟨a,0,none⟩)] 36)).heap.size=w.heap.size+1:=by simp
 have hn2:=heap_alloc_new (w.alloc (.cells #[.pointer (some ⟨a,0,none⟩)] 36)) (.cells #[.int .i64 0] 33);have hk2:Keep (fun _=>False) (w.alloc (.cells #[.pointer (some ⟨a,0,none⟩)] 36)) ((w.alloc (.cells #[.pointer (some ⟨a,0,none⟩)] 36)).alloc (.cells #[.int .i64 0] 33)):=(Keep.refl _ _).alloc _;rw[hz1] at hn2;have hn1b:=hk2.get hn1 id;have hk:=hk1.nx hk2
 go_enter_defers Tryz.func37,Tryz.ntmps37
 have HN:=hid hn;clear hn
 go_upto_region 2 with fail
 obtain⟨w1,hw1⟩:=zX1 ((w.alloc (.cells #[.pointer (some ⟨a,0,none⟩)] 36)).alloc (.cells #[.int .i64 0] 33));rw[← hw1] at hn2 hn1b hk ⊢;clear hw1 hn1 hk1 hk2 hz1 hmf;have H1:=LT.keep H hk (fun _ _ x=>x);obtain⟨X,Y,Z,hbox,⟨F1,F2,hsa,hY⟩,hvt,d1,d2,d3,hF⟩:=H1;have hdo:=zsQ w1 sb d F1 F2 D S hsa ao n c l (SliceOf.keepF hL hk (fun _ _ _ _ _ x=>x)) HN.out (fun hp x hx=>⟨fun y=>hap hp x hx (by rw[hF,hY];exact .inr (.inl (.inl y))),fun y=>hap hp x hx (by rw[hF,hY];exact .inr (.inl (.inr y)))⟩) hm (by omega);have hof:D.safe.length≤2048:=(DiskAt.ok hsa.diskAt).few;have hwt:=zeX hof S l;obtain⟨R,hR⟩:=zX1 (doS D S l);have hE:=HE.out;have hEd:=doA_dead D S l;have hEr:E=if R.1=0 then syS R.2.1 R.2.2 else R:=by rw[hE,hR];rfl
 rw[← hE] at hEd;rw[← hR] at hdo hwt;clear hR hE hm hap hL hof LT H;have c1:w1.cell? ⟨w.heap.size,0,none⟩=some (.pointer (some ⟨a,0,none⟩)):=by simp[World.cell?,hn1b]
 obtain⟨k0,-⟩:=z2C hbox.1;have HQ:=hid (zA1 hbox (zA1 hvt (zA1 d1 (zA1 d2 (zA1 d3 (zA1 hF (zA1 hn1b (zA1 hn2 (zA1 hk (zA1 hY (zA1 hEr (zA1 hEd (zA1 hwt hFl)))))))))))));clear hbox hsa hvt d1 d2 d3 hF hn1b hn2 hk hY hEr hEd hwt hFl;go_wp2_with (at_builtin;refine z0A ?_;intro q hq);refine hdo.mono ?_;rintro e w2 ⟨rfl,ht⟩;clear hdo c1 k0;obtain⟨hbox,hvt,d1,d2,d3,hF,hn1b,hn2,hk,hY,hEr,hEd,hwt,hFl⟩:=HQ.out;have htt:=ht.turnsT;rw[← hY] at htt;have T2:=TrioT.turnY (BoxA.lives _ _ _) (VotesT.lives _ _) hbox hvt d1 d2 d3 hF htt;have hw1z:w.heap.size+1<w1.heap.size:=z0L hn2;obtain⟨F',T2a,T2b,T2c⟩:=T2;have g1:=T2b.get hn1b (fun x=>by have:=hFl _ x;omega);have g2:=T2b.get hn2 (fun x=>by have:=hFl _ x;omega);have f2:w2.frozen? ⟨w.heap.size+1,0,none⟩=false:=by simp[World.frozen?,g2]
 have e2:w2.cell? ⟨w.heap.size+1,0,none⟩=some (.int .i64 0):=by simp[World.cell?,g2]
 have g3:=z0C g2 0 (.int .i64 R.1);have hk3:Keep (fun k=>k=w.heap.size+1) w2 (w2.setCell ⟨w.heap.size+1,0,none⟩ (.int .i64 R.1)):=kst;have g1b:=hk3.get g1 (fun x=>by omega);obtain⟨w3,hw3⟩:=zX1 (w2.setCell ⟨w.heap.size+1,0,none⟩ (.int .i64 R.1));have hF'n:∀ k,F' k→k<w.heap.size∨w1.heap.size≤k:=fun k x=>(T2c k x).imp (hFl k) id;have H2:=hid (zA1 T2a (zA1 T2b (zA1 T2c (zA1 hF'n hw1z))));rw[← hw3] at g3 hk3 g1b;have HW3:=hid hw3;have H3:=hid (zA1 g3 (zA1 hk3 g1b));clear hbox hvt d1 d2 d3 hF hn1b hn2 hk hY hEr hEd hwt hFl htt ht T2a T2b T2c g1 g2 g3 hk3 g1b hw3 hF'n hw1z
 go_upto_region 3 with fail
 rw[← HW3.out];clear HW3 f2 e2;have hk0:=HQ.out.2.2.2.2.2.2.2.2.1
 have T3:=hid (show ∃ F',TrioT (BoxA a (accC sb b nv S.dead) 86) (StoT sb d R.2.1 R.2.2) (VotesT nv vs) w3 F'∧Keep F w w3∧(∀ i,F' i→F i∨w.heap.size≤i)∧¬ F' (w.heap.size+1)∧¬ F' w.heap.size from
  Turns.aside (TrioT.lives (BoxA.lives _ _ _) (StoT.lives _ _ _ _) (VotesT.lives _ _)) ⟨F',H2.out.1,hk0.next H2.out.2.1 (fun _ _ x=>x.elim) (fun _ _ x=>x),fun i x=>(H2.out.2.2.1 i x).imp id fun y=>Nat.le_trans hk0.size y,fun x=>by
   have h1:=H2.out.2.2.2.1 _ x;have h2:=H2.out.2.2.2.2
   omega,fun x=>by
   have h1:=H2.out.2.2.2.1 _ x;have h2:=H2.out.2.2.2.2
   omega⟩ H3.out.2.1 (Nat.le_succ _))
 clear hk0;have g3:=H3.out.1;have e3:w3.cell? ⟨w.heap.size+1,0,none⟩=some (.int .i64 R.1):=by simp[World.cell?,g3]
 have f3:w3.frozen? ⟨w.heap.size+1,0,none⟩=false:=by simp[World.frozen?,g3]
 clear g3
 by_cases h0:R.1=0
 ·have q1:(R.1 == 0)=true:=by simpa using h0
  have q2:decide (R.1=0)=true:=decide_eq_true h0
  have hE2:E=syS R.2.1 R.2.2:=by
   have:=HQ.out.2.2.2.2.2.2.2.2.2.2.1;rw[if_pos h0] at this;exact this
  obtain⟨F3,T3a,T3b,T3c,T3d,T3e⟩:=T3.out;have hz3:w.heap.size+1<w3.heap.size:=z0L H3.out.1;obtain⟨X3,Y3,Z3,hbox,⟨F1',F2',hsa,hY⟩,hvt,d1,d2,d3,hF⟩:=T3a;have hsy:=zlX w3 sb d F1' F2' R.2.1 R.2.2 hsa (by have:=HQ.out.2.2.2.2.2.2.2.2.2.2.2.2.1;omega);rw[← hE2] at hsy;obtain⟨k0,-⟩:=z2C hbox.1
  have c1:w3.cell? ⟨w.heap.size,0,none⟩=some (.pointer (some ⟨a,0,none⟩)):=by
   have:=H3.out.2.2;simp[World.cell?,this]
  have H4:=hid (zA1 hbox (zA1 hvt (zA1 d1 (zA1 d2 (zA1 d3 (zA1 hF (zA1 hY (zA1 T3b (zA1 T3c (zA1 T3d (zA1 T3e hz3)))))))))));clear h0 hE2 T3b T3c T3d T3e hsa hvt d1 d2 d3 hF hY hbox hz3;go_wp2_with (at_builtin;refine z0A ?_;intro q hq);refine hsy.mono ?_;rintro e w4 ⟨rfl,ht⟩;clear hsy k0 c1 e3 f3 q1 q2;obtain⟨hbox,hvt,d1,d2,d3,hF,hY,T3b,T3c,T3d,T3e,hz3⟩:=H4.out;have htt:=ht.turnsT;rw[← hY] at htt;obtain⟨F4,T4a,T4b,T4c⟩:=TrioT.turnY (BoxA.lives _ _ _) (VotesT.lives _ _) hbox hvt d1 d2 d3 hF htt;have g4a:=T4b.get H3.out.2.2 T3e;have g4:=T4b.get H3.out.1 T3d;have e4:w4.cell? ⟨w.heap.size+1,0,none⟩=some (.int .i64 R.1):=by simp[World.cell?,g4]
  have f4:w4.frozen? ⟨w.heap.size+1,0,none⟩=false:=by simp[World.frozen?,g4]
  have hk5:Keep (fun k=>k=w.heap.size+1) w4 (w4.setCell ⟨w.heap.size+1,0,none⟩ (.int .i64 E.1)):=kst;have g5:=z0C g4 0 (.int .i64 E.1);have g5a:=hk5.get g4a (fun x=>by omega);have hT:=Turns.aside (TrioT.lives (BoxA.lives _ _ _) (StoT.lives _ _ _ _) (VotesT.lives _ _)) ⟨F4,T4a,T3b.next T4b (fun _ _ x=>x) (fun k hk x=>(T3c k x).elim id fun y=>absurd y (by omega)),fun i x=>(T4c i x).elim (fun y=>T3c i y) fun y=>.inr (by have:=T3b.size;omega),fun x=>(T4c _ x).elim T3d fun y=>by omega,fun x=>(T4c _ x).elim T3e fun y=>by omega⟩ hk5 (Nat.le_succ _);obtain⟨w5,hw5⟩:=zX1 (w4.setCell ⟨w.heap.size+1,0,none⟩ (.int .i64 E.1));rw[← hw5] at g5 g5a hT;have TZ:=hid hT;have GZ:=hid (show w5.heap[w.heap.size]?=some (.cells #[.pointer (some ⟨a,0,none⟩)] 36 (0,0))∧w5.heap[w.heap.size+1]?=some (.cells #[.int .i64 E.1] 33 (0,0))∧True from⟨g5a,g5,trivial⟩);have HW5:=hid hw5;clear htt ht T4a T4b T4c g4 g4a hk5 g5 g5a hT hw5 hbox hvt d1 d2 d3 hF hY T3b T3c T3d T3e hz3
  go_upto_region 5 with fail
  rw[← HW5.out]
  have e5:w5.cell? ⟨w.heap.size+1,0,none⟩=some (.int .i64 E.1):=by
   have:=GZ.out.2.1;simp[World.cell?,this]
  have f5:w5.frozen? ⟨w.heap.size+1,0,none⟩=false:=by
   have:=GZ.out.2.1;simp[World.frozen?,this]
  clear e4 f4 HW5;go_wp2_with (at_builtin;refine z0A ?_;intro q hq);have g6:=z0C GZ.out.2.1 0 (.int .i64 E.1);have hk6:Keep (fun k=>k=w.heap.size+1) w5 (w5.setCell ⟨w.heap.size+1,0,none⟩ (.int .i64 E.1)):=kst;obtain⟨F6,T6,K6,N6,Q6,-⟩:=Turns.aside (TrioT.lives (BoxA.lives _ _ _) (StoT.lives _ _ _ _) (VotesT.lives _ _)) TZ.out hk6 (Nat.le_succ _);have g6a:=hk6.get GZ.out.1 (fun x=>by omega);have hb6:(w5.setCell ⟨w.heap.size+1,0,none⟩ (.int .i64 E.1)).heap[a]?=some (.cells (accC sb b nv S.dead) 86 (0,0)):=let ⟨_,_,_,h,_⟩:=T6;h.1;obtain⟨w6,hw6⟩:=zX1 (w5.setCell ⟨w.heap.size+1,0,none⟩ (.int .i64 E.1));rw[← hw6] at g6 T6 K6 g6a hb6 ⊢;have cB1:w6.cell? ⟨w.heap.size,0,none⟩=some (.pointer (some ⟨a,0,none⟩)):=by simp[World.cell?,g6a]
  have cB2:w6.cell? ⟨w.heap.size+1,0,none⟩=some (.int .i64 E.1):=by simp[World.cell?,g6]
  refine leaves_cons (f:=77) (args:=#[.pointer (some ⟨w.heap.size,0,none⟩),.pointer (some ⟨w.heap.size+1,0,none⟩)]) (by simp) (by simp[go_sem]) ?_;refine(ziY .returning w6 w.heap.size (w.heap.size+1) a sb b nv S.dead E.1 cB1 cB2 hb6).mono ?_;rintro e u' w7 ⟨rfl,rfl,hh7,hk7⟩;have hEd:=HQ.out.2.2.2.2.2.2.2.2.2.2.2.1;rw[← hEd] at hh7
  have ha:a<w.heap.size:=by
   have h1:=HQ.out.1.2.1;have h2:=HQ.out.2.2.2.2.2.2.2.2.2.2.2.2.2;exact h2 a (by rw[HQ.out.2.2.2.2.2.1];exact .inl h1)
  have cB:w7.cell? ⟨w.heap.size+1,0,none⟩=some (.int .i64 E.1):=by
   have:=hk7.get g6 (fun x=>by omega);simp[World.cell?,this]
  exact⟨_,ziF rfl _ _ (w.heap.size+1) rfl E.1 cB (by kernel_rfl),rfl,zmV ⟨F6,T6,K6,N6⟩ hh7 hk7⟩
 ·have q1:(R.1 == 0)=false:=by simpa using h0
  have q2:decide (R.1=0)=false:=decide_eq_false h0
  have hE2:E=R:=by
   have:=HQ.out.2.2.2.2.2.2.2.2.2.2.1;rw[if_neg h0] at this;exact this
  have e3b:=e3;rw[← hE2] at e3 q1 q2;have TZ:=hid (show ∃ F',TrioT (BoxA a (accC sb b nv S.dead) 86) (StoT sb d E.2.1 E.2.2) (VotesT nv vs) w3 F'∧Keep F w w3∧(∀ i,F' i→F i∨w.heap.size≤i)∧¬ F' (w.heap.size+1)∧¬ F' w.heap.size from by rw[hE2];exact T3.out);have GZ:=hid (show w3.heap[w.heap.size]?=some (.cells #[.pointer (some ⟨a,0,none⟩)] 36 (0,0))∧w3.heap[w.heap.size+1]?=some (.cells #[.int .i64 E.1] 33 (0,0))∧True from⟨H3.out.2.2,by rw[hE2];exact H3.out.1,trivial⟩);have HE2:=hid hE2;rw[← hE2];clear hE2 h0 e3b;go_wp2_with (at_builtin;refine z0A ?_;intro q hq);have g6:=z0C GZ.out.2.1 0 (.int .i64 E.1);have hk6:Keep (fun k=>k=w.heap.size+1) w3 (w3.setCell ⟨w.heap.size+1,0,none⟩ (.int .i64 E.1)):=kst;obtain⟨F6,T6,K6,N6,Q6,-⟩:=Turns.aside (TrioT.lives (BoxA.lives _ _ _) (StoT.lives _ _ _ _) (VotesT.lives _ _)) TZ.out hk6 (Nat.le_succ _);have g6a:=hk6.get GZ.out.1 (fun x=>by omega);have hb6:(w3.setCell ⟨w.heap.size+1,0,none⟩ (.int .i64 E.1)).heap[a]?=some (.cells (accC sb b nv S.dead) 86 (0,0)):=let ⟨_,_,_,h,_⟩:=T6;h.1;obtain⟨w6,hw6⟩:=zX1 (w3.setCell ⟨w.heap.size+1,0,none⟩ (.int .i64 E.1));rw[← hw6] at g6 T6 K6 g6a hb6 ⊢;have cB1:w6.cell? ⟨w.heap.size,0,none⟩=some (.pointer (some ⟨a,0,none⟩)):=by simp[World.cell?,g6a]
  have cB2:w6.cell? ⟨w.heap.size+1,0,none⟩=some (.int .i64 E.1):=by simp[World.cell?,g6]
  refine leaves_cons (f:=77) (args:=#[.pointer (some ⟨w.heap.size,0,none⟩),.pointer (some ⟨w.heap.size+1,0,none⟩)]) (by simp) (by simp[go_sem]) ?_;refine(ziY .returning w6 w.heap.size (w.heap.size+1) a sb b nv S.dead E.1 cB1 cB2 hb6).mono ?_;rintro e u' w7 ⟨rfl,rfl,hh7,hk7⟩;have hEd:=HQ.out.2.2.2.2.2.2.2.2.2.2.2.1;rw[← hEd] at hh7
  have ha:a<w.heap.size:=by
   have h1:=HQ.out.1.2.1;have h2:=HQ.out.2.2.2.2.2.2.2.2.2.2.2.2.2;exact h2 a (by rw[HQ.out.2.2.2.2.2.1];exact .inl h1)
  have cB:w7.cell? ⟨w.heap.size+1,0,none⟩=some (.int .i64 E.1):=by
   have:=hk7.get g6 (fun x=>by omega);simp[World.cell?,this]
  exact⟨_,ziF rfl _ _ (w.heap.size+1) rfl E.1 cB (by kernel_rfl),rfl,zmV ⟨F6,T6,K6,N6⟩ hh7 hk7⟩
end
section
open Go.RowKit Go.Maps
open MI SO BM DM WM AC
theorem z2E {P:Program} {fn:Func} {t u:Tmp} {ty:TypeId} (h:fn.results = #[.cell t ty,.tmp u]) (tmps:Array Value) (w:World) (g:Nat) (ht:tmps.getD t undef = .pointer (some ⟨g,0,none⟩)) (cs:List Value)
  (hc:∀ j u,cs[j]?=some u→w.cell? ⟨g,j,none⟩=some u) (d:TypeDesc)
  (hu:P.underlying ty=some d) (hd:(match d with | .struct _ | .array _ _=>true | _=>false)=true) (hi:(P.info? ty).map (·.size)=some cs.length) :
  (results fn tmps).run P w = .ok (.tuple #[.agg cs.toArray,tmps.getD u undef]) w:=by
 have hl:=run_loadCells_list (P:=P) w ⟨g,0,none⟩ cs (fun j v hv=>by rw[z0J,Nat.zero_add];exact hc j v hv)
 cases hq:P.info? ty with
 | none=>simp[hq] at hi
 | some i=>
   have hs:i.size=cs.length:=by simpa [hq] using hi
   have hagg:(isAgg ty).run P w = .ok true w:=by
    unfold isAgg;rw[Sem.run_bind,run_underlying hu w];cases d <;> simp_all
   have hr:(loadVar ty ⟨g,0,none⟩).run P w = .ok (.agg cs.toArray) w:=by
    simp[loadVar,Sem.run_bind,hagg,sizeOf,typeInfo,hq,hs,hl]
   have ht':tmps[t]?.getD undef = .pointer (some ⟨g,0,none⟩):=by simpa using ht
   simp[results,h,ht',asAddr,hr]
theorem z4P {P:Program} {fn:Func} {s t u:Tmp} {ty:TypeId} (h:fn.results = #[.tmp s,.cell t ty,.tmp u]) (tmps:Array Value) (w:World) (g:Nat) (ht:tmps.getD t undef = .pointer (some ⟨g,0,none⟩)) (cs:List Value)
  (hc:∀ j u,cs[j]?=some u→w.cell? ⟨g,j,none⟩=some u) (d:TypeDesc)
  (hu:P.underlying ty=some d) (hd:(match d with | .struct _ | .array _ _=>true | _=>false)=true) (hi:(P.info? ty).map (·.size)=some cs.length) :
  (results fn tmps).run P w = .ok (.tuple #[tmps.getD s undef,.agg cs.toArray,tmps.getD u undef]) w:=by
 have hl:=run_loadCells_list (P:=P) w ⟨g,0,none⟩ cs (fun j v hv=>by rw[z0J,Nat.zero_add];exact hc j v hv)
 cases hq:P.info? ty with
 | none=>simp[hq] at hi
 | some i=>
   have hs:i.size=cs.length:=by simpa [hq] using hi
   have hagg:(isAgg ty).run P w = .ok true w:=by
    unfold isAgg;rw[Sem.run_bind,run_underlying hu w];cases d <;> simp_all
   have hr:(loadVar ty ⟨g,0,none⟩).run P w = .ok (.agg cs.toArray) w:=by
    simp[loadVar,Sem.run_bind,hagg,sizeOf,typeInfo,hq,hs,hl]
   have ht':tmps[t]?.getD undef = .pointer (some ⟨g,0,none⟩):=by simpa using ht
   simp[results,h,ht',asAddr,hr]
end
section
open Go.RowKit Go.Maps
open MI SO BM DM WM AC
theorem z7E {P:Program} {fn:Func} {t u:Tmp} {ty tz:TypeId} (h:fn.results = #[.cell t ty,.cell u tz]) (tm:Array Value) (w:World) (g k:Nat) (ht:tm.getD t undef = .pointer (some ⟨g,0,none⟩)) (hu:tm.getD u undef = .pointer (some ⟨k,0,none⟩))
  (x:Option Addr) (y:Int) (hx:w.cell? ⟨g,0,none⟩=some (.pointer x)) (hy:w.cell? ⟨k,0,none⟩=some (.int .i64 y)) (ha:(isAgg ty).run P w = .ok false w) (hb:(isAgg tz).run P w = .ok false w):(results fn tm).run P w = .ok (.tuple #[.pointer x,.int .i64 y]) w:=by
 have ht':tm[t]?.getD undef = .pointer (some ⟨g,0,none⟩):=by simpa using ht
 have hu':tm[u]?.getD undef = .pointer (some ⟨k,0,none⟩):=by simpa using hu
 simp[results,h,ht',hu',asAddr,loadVar,Sem.run_bind,ha,hb,go_sem,hx,hy]
end
section
open Go.RowKit Go.Maps
open MI SO BM DM WM AC
def GetBPost (w:World) (s:Str) (e:Ending) (w':World):Prop:=Keep (fun _=>False) w w'∧match getB s with
 | some (b,rest)=>∃ u,e = .returned (.tuple #[balV b,u,.bool true])∧Row w' 5 1 u rest.length (z0B rest)∧∀ k,u.ownBlock=some k→w.heap.size≤k
 | none=>∃ (n d:Nat) (ua:Option Addr) (k c:Nat),e = .returned (.tuple #[.agg #[.int .u64 (n:Int),.int .i64 (d:Int)],.slice ua k c,.bool false])
theorem AC.getB_bad {s:Str} {n1 a1 e1 n2 a2 e2:Nat} (h1:(n1,a1,e1)=uS s (0,0)) (h2:(n2,a2,e2)=uS s (a1,e1)) (h:e2≠0∨12≤n2):getB s=none:=by
 unfold uS at h1 h2;unfold getB;simp only[ne_eq,not_true_eq_false,if_false] at h1
 cases hu:uint s 0 with
 | no x=>rfl
 | yes n t=>
   rw[hu] at h1;simp only at h1;cases h1;simp only[ne_eq,not_true_eq_false,if_false] at h2;simp only
   cases hu2:uint s a1 with
   | no x=>rfl
   | yes k b=>
     rw[hu2] at h2;simp only at h2;cases h2;simp only;rw[if_neg (by omega)]
theorem AC.getB_good {s:Str} {n1 a1 e1 n2 a2:Nat} (h1:(n1,a1,e1)=uS s (0,0)) (h2:(n2,a2,0)=uS s (a1,e1)) (h:n2<12):getB s=if 0<n1 then some (⟨n1,(n2:Int)⟩,s.drop a2) else none:=by
 unfold uS at h1 h2;unfold getB;simp only[ne_eq,not_true_eq_false,if_false] at h1
 cases hu:uint s 0 with
 | no x=>
   exfalso;rw[hu] at h1;simp only at h1;cases h1;have:=(z3I hu).1;rw[if_pos this] at h2;cases h2;exact this rfl
 | yes n t=>
   rw[hu] at h1;simp only at h1;cases h1;simp only[ne_eq,not_true_eq_false,if_false] at h2;simp only
   cases hu2:uint s a1 with
   | no x=>
     exfalso;rw[hu2] at h2;simp only at h2;cases h2;exact(z3I hu2).1 rfl
   | yes k b=>
     rw[hu2] at h2;simp only at h2;cases h2;simp only
     by_cases hn:0<n1
     ·rw[if_pos ⟨h,hn⟩,if_pos hn]
     ·rw[if_neg (by omega),if_neg hn]
theorem z9S {w:World} {g i:Nat} {cs:Array Value} {t:TypeId} {v:Value} (h:w.heap[g]?=some (.cells cs t (0,0))) (hv:cs[i]?=some v):Keep (fun _=>False) w (w.setCell ⟨g,i,none⟩ v):=by
 have hk:Keep (fun k=>k=g) w (w.setCell ⟨g,i,none⟩ v):=kst;have hh:=heap_setCell_same w g i cs t v h;refine⟨hk.os,hk.tape,hk.output,hk.size,fun k hkl _=>?_⟩
 by_cases hkg:k=g
 ·subst hkg
  have e:cs.setIfInBounds i v=cs:=by
   apply Array.ext_getElem?;intro j;rw[Array.getElem?_setIfInBounds];split
   ·rename_i hij
    subst hij;split
    ·exact hv.symm
    ·rename_i hlt
     rw[Array.getElem?_eq_none (by omega)]
   ·rfl
  rw[hh,e,h]
 ·exact hk.block k hkl hkg
theorem z2R {P:Program} {fn:Func} {t u v:Tmp} {ty:TypeId} (h:fn.results = #[.cell t ty,.tmp u,.tmp v]) (tmps:Array Value) (w:World) (g:Nat) (ht:tmps.getD t undef = .pointer (some ⟨g,0,none⟩)) (cs:List Value)
  (hc:∀ j u,cs[j]?=some u→w.cell? ⟨g,j,none⟩=some u) (d:TypeDesc)
  (hu:P.underlying ty=some d) (hd:(match d with | .struct _ | .array _ _=>true | _=>false)=true) (hi:(P.info? ty).map (·.size)=some cs.length) :
  (results fn tmps).run P w = .ok (.tuple #[.agg cs.toArray,tmps.getD u undef,tmps.getD v undef]) w:=by
 have hl:=run_loadCells_list (P:=P) w ⟨g,0,none⟩ cs (fun j v hv=>by rw[z0J,Nat.zero_add];exact hc j v hv)
 cases hq:P.info? ty with
 | none=>simp[hq] at hi
 | some i=>
   have hs:i.size=cs.length:=by simpa [hq] using hi
   have hagg:(isAgg ty).run P w = .ok true w:=by
    unfold isAgg;rw[Sem.run_bind,run_underlying hu w];cases d <;> simp_all
   have hr:(loadVar ty ⟨g,0,none⟩).run P w = .ok (.agg cs.toArray) w:=by
    simp[loadVar,Sem.run_bind,hagg,sizeOf,typeInfo,hq,hs,hl]
   have ht':tmps[t]?.getD undef = .pointer (some ⟨g,0,none⟩):=by simpa using ht
   simp[results,h,ht',asAddr,hr]
theorem z3Z (w1:World) (g:Nat) (a b:Value) (h:w1.heap[g]?=some (.cells #[a,b] 28 (0,0))) (c d:Value) :
  (∀ j u,[c,d][j]?=some u→((w1.setCell ⟨g,0,none⟩ c).setCell ⟨g,1,none⟩ d).cell? ⟨g,j,none⟩=some u)∧Keep (fun k=>k=g) w1 ((w1.setCell ⟨g,0,none⟩ c).setCell ⟨g,1,none⟩ d)∧
   ((w1.setCell ⟨g,0,none⟩ c).setCell ⟨g,1,none⟩ d).heap[g]?=some (.cells #[c,d] 28 (0,0)):=by
 have g1:=z0C h 0 c;have g2:=z0C g1 1 d;refine⟨fun j u hu=>?_,?_,g2⟩
 ·rw[cell_of_row _ _ _ _ _ _ g2]
  simpa using hu
 ·refine Keep.setCell (Keep.setCell (Keep.refl _ _) (.inl ?_) _) (.inl ?_) _ <;> rfl
theorem zpA (w:World) (s:Str) (hs:s.length≤1000000):Calls Tryz.prog 122 #[.string (str s)] w (GetBPost w s):=by
 have hn1:=heap_alloc_new w (.cells #[.int .u64 0,.int .i64 0] 28);have hk1:=kal w (.cells #[.int .u64 0,.int .i64 0] 28);obtain⟨w1,hw1⟩:=zX1 (w.alloc (.cells #[.int .u64 0,.int .i64 0] 28));have hz1:w1.heap.size=w.heap.size+1:=by rw[hw1];simp
 rw[← hw1] at hn1 hk1;obtain⟨c1,w2,hcv,hf2⟩:=z6A w1 s (by unfold maxLen;omega);have H2:=hid (zA1 (hk1.nx hf2.keep) (zA1 (hf2.keep.get hn1 id) (zA1 hf2.row (zA1 hz1 hf2.keep.size))));have hrd:=zfF w2 _ s.length c1 s (Cells.of_row hf2.row) (by omega);clear hn1 hk1 hf2 hz1;go_enter Tryz.func122,Tryz.ntmps122
 go_upto_region 1 with fail
 rw[← hw1];clear hw1;go_wp2_with (at_builtin;refine z0A ?_;intro q hq);refine hrd.mono ?_;rintro e w3 ⟨g,rv,rfl,hr3,hk3,hg3,-⟩;obtain⟨hk02,hn2,hrow2,hz1,hz2⟩:=H2.out;have hg:w.heap.size<g:=by omega
 have hn3:=hk3.get hn2 id;have HA:=hid (zA1 (hk02.nx hk3) (zA1 hn3 hr3));have hu1:=zbS w3 g rv s 0 0 hr3 (Nat.zero_le _) (by omega);have hp1:=zlI s (a:=0) (e:=0) (Nat.zero_le _);obtain⟨r1,hr1⟩:=zX1 (uS s (0,0));rw[← hr1] at hu1 hp1;obtain⟨n1,a1,e1⟩:=r1;simp only at hu1 hp1;have HE1:=hid hr1;clear hrd hcv hk3 hr3 hk02 hn2 hrow2 hz1 hz2 H2 hg3 hn3 hr1;go_wp2_with (at_builtin;refine z0A ?_;intro q hq);refine hu1.mono ?_;rintro e w4 ⟨rfl,hr4,hk4⟩;have hn4:=hk4.get HA.out.2.1 (fun x=>by omega);have f4:w4.frozen? ⟨w.heap.size,0,none⟩=false:=by simp[World.frozen?,hn4]
 have c4:w4.cell? ⟨w.heap.size,0,none⟩=some (.int .u64 0):=by simp[World.cell?,hn4]
 have hk5:Keep (fun k=>k=w.heap.size) w4 (w4.setCell ⟨w.heap.size,0,none⟩ (.int .u64 (n1:Int))):=kst;have hn5:=z0C hn4 0 (.int .u64 (n1:Int))
 have hr5:=hr4.keep hk5 (show ¬ g=w.heap.size by omega) (fun k e x=>by
  have h1:k=w.heap.size:=x;subst h1
  exact hr4.row.not_block hn4 (by decide) e)
 have hkA:=(HA.out.1.next hk4 (H:=fun _=>False) (fun _ _ x=>x) (fun j hj x=>by have h1:j=g:=x;omega)).next hk5 (H:=fun _=>False) (fun _ _ x=>x) (fun j hj x=>by have h1:j=w.heap.size:=x;omega);obtain⟨w5,hw5⟩:=zX1 (w4.setCell ⟨w.heap.size,0,none⟩ (.int .u64 (n1:Int)));rw[← hw5] at hn5 hr5 hkA;have H5:=hid (zA1 hn5 (zA1 hr5 hkA));clear hn4 hk5 hn5 hr4 hr5 hkA hk4 hu1 HA
 go_upto_region 3 with fail
 rw[← hw5];clear hw5 f4 c4;have hu2:=zbS w5 g rv s a1 e1 H5.out.2.1 hp1.1 (by omega);have hp2:=zlI s (e:=e1) hp1.1;obtain⟨r2,hr2⟩:=zX1 (uS s (a1,e1));rw[← hr2] at hu2 hp2;obtain⟨n2,a2,e2⟩:=r2;simp only at hu2 hp2;have HE2:=hid hr2;clear hr2;go_wp2_with (at_builtin;refine z0A ?_;intro q hq);refine hu2.mono ?_;rintro e w6 ⟨rfl,hr6,hk6⟩;have hn6:=hk6.get H5.out.1 (fun x=>by omega);have H6:=hid (zA1 hn6 (zA1 hr6 (H5.out.2.2.next hk6 (H:=fun _=>False) (fun _ _ x=>x) (fun j hj x=>by have h1:j=g:=x;omega))));have f6:∀ o,w6.frozen? ⟨w.heap.size,o,none⟩=false:=fun o=>by simp[World.frozen?,hn6]
 have c60:w6.cell? ⟨w.heap.size,0,none⟩=some (.int .u64 (n1:Int)):=by simp[World.cell?,hn6]
 have c61:w6.cell? ⟨w.heap.size,1,none⟩=some (.int .i64 0):=by simp[World.cell?,hn6]
 have her:=z3L w6 g rv s a2 e2 hr6;clear hu2 hr6 hn6 hk6 H5
 by_cases he:e2≠0
 ·have q1:((e2:Int) != 0)=true:=by simp;omega
  have q2:decide (e2=0)=false:=decide_eq_false he;have HB:=hid (AC.getB_bad HE1.out HE2.out (.inl he));clear he;go_wp2_with (at_builtin;refine z0A ?_;intro q hq);refine her.mono ?_;rintro e w7 ⟨rfl,rfl⟩;clear her;go_wp2_with (at_builtin;refine z0A ?_;intro q hq);obtain⟨g1,g2,-⟩:=z3Z w7 w.heap.size _ _ H6.out.1 (.int .u64 (n1:Int)) (.int .i64 0);refine bodyPost_ret (z2R rfl _ _ w.heap.size rfl [.int .u64 (n1:Int),.int .i64 0] g1 _ Tryz.underlying28 rfl (by kernel_rfl)) rfl ⟨H6.out.2.2.next g2 (fun _ _ x=>x) (fun k hk x=>by omega),?_⟩;rw[HB.out];exact⟨n1,0,none,0,0,rfl⟩
 ·obtain rfl:e2=0:=by omega
  clear he
  by_cases hb:12≤n2
  ·have q2:(12:Int)≤(n2:Int):=by omega
   have HB:=hid (AC.getB_bad HE1.out HE2.out (.inr hb));clear hb;go_wp2_with (at_builtin;refine z0A ?_;intro q hq);refine her.mono ?_;rintro e w7 ⟨rfl,rfl⟩;clear her;go_wp2_with (at_builtin;refine z0A ?_;intro q hq);obtain⟨g1,g2,-⟩:=z3Z w7 w.heap.size _ _ H6.out.1 (.int .u64 (n1:Int)) (.int .i64 0);refine bodyPost_ret (z2R rfl _ _ w.heap.size rfl [.int .u64 (n1:Int),.int .i64 0] g1 _ Tryz.underlying28 rfl (by kernel_rfl)) rfl ⟨H6.out.2.2.next g2 (fun _ _ x=>x) (fun k hk x=>by omega),?_⟩;rw[HB.out];exact⟨n1,0,none,0,0,rfl⟩
  ·have q2:decide ((12:Int)≤(n2:Int))=false:=decide_eq_false (by omega)
   have q3:decide (12≤n2)=false:=decide_eq_false hb;have q4:=wi64 n2 (by omega);have HB:=hid (AC.getB_good HE1.out HE2.out (by omega));have hn12:n2<12:=by omega
   clear hb;go_wp2_with (at_builtin;refine z0A ?_;intro q hq);refine her.mono ?_;rintro e w7 ⟨rfl,rfl⟩;clear her;have hk8:Keep (fun k=>k=w.heap.size) w7 (w7.setCell ⟨w.heap.size,1,none⟩ (.int .i64 (n2:Int))):=kst;have hn8:=z0C H6.out.1 1 (.int .i64 (n2:Int))
   have hr8:=H6.out.2.1.keep hk8 (show ¬ g=w.heap.size by omega) (fun k e x=>by
    have h1:k=w.heap.size:=x;subst h1
    exact H6.out.2.1.row.not_block H6.out.1 (by decide) e)
   have hkw:=H6.out.2.2.next hk8 (H:=fun _=>False) (fun _ _ x=>x) (fun j hj x=>by have h1:j=w.heap.size:=x;omega);obtain⟨w8,hw8⟩:=zX1 (w7.setCell ⟨w.heap.size,1,none⟩ (.int .i64 (n2:Int)));rw[← hw8] at hn8 hr8 hkw;have H8:=hid (zA1 hn8 (zA1 hr8 hkw));clear hk8 hn8 hr8 hkw
   go_upto_region 7 with fail
   rw[← hw8];clear hw8 f6 c60 c61 q2 q3 q4 H6;have c80:w8.cell? ⟨w.heap.size,0,none⟩=some (.int .u64 (n1:Int)):=by have:=H8.out.1;simp[World.cell?,this]
   have c81:w8.cell? ⟨w.heap.size,1,none⟩=some (.int .i64 (n2:Int)):=by have:=H8.out.1;simp[World.cell?,this]
   obtain⟨sl,hsl⟩:=zX1 (s.length);obtain⟨lf,hlf⟩:=zX1 (s.length - a2);have hsz:(str s).size=sl:=by rw[hsl];exact z2F s
   obtain⟨r,hr⟩:=zX1 (s.drop a2);have hrl:r.length=lf:=by rw[hr,List.length_drop,hlf]
   have hex:(str s).extract a2 sl=str r:=by rw[hr,zhC,hsl,List.take_length]
   have hsub:(sl:Int) - (lf:Int)=(a2:Int):=by omega
   have t1:=wi64 a2 (by omega);obtain⟨rb,hrb⟩:=zX1 (z2Z ⟨n1,(n2:Int)⟩);have HX:=hid (zA1 hsl (zA1 hlf (zA1 hr (zA1 hrl hrb))));clear hsl hlf hr hrl hrb
   have HL:=hid (fun s':Later w8=>show Calls Tryz.prog 92 #[.pointer (some ⟨g,0,none⟩)] s'.val fun e w'=>e = .returned (.int .i64 (lf:Nat))∧Keep (fun _=>False) s'.val w' from by
    have:=z9L s'.val g rv s a2 (H8.out.2.1.keep s'.keep id (fun _ _=>id)) hp2.1 (by omega);rw[← HX.out.2.1] at this
    exact this)
   have HRt:=hid (fun s':Later w8=>show Calls Tryz.prog 35 #[.agg #[.int .u64 (n1:Int),.int .i64 (n2:Int)]] s'.val fun e w'=>e = .returned (.bool rb)∧Keep (fun _=>False) s'.val w' from by
    have:=z9Q s'.val ⟨n1,(n2:Int)⟩;rw[← HX.out.2.2.2.2] at this
    exact this)
   have j0:=fun s':Later w8=>s'.cell c80;have j1:=fun s':Later w8=>s'.cell c81;have hla:a2≤sl:=by have:=HX.out.1;have:=hp2.1;omega
   have hlz:(a2:Int)≤((str s).size:Nat):=by rw[hsz];omega
   refine zbZ [(5,fun v _=>v = .int .i64 (lf:Nat)),(8,fun v w'=>∃ ua c,v = .slice ua lf c∧Row w' 5 1 v lf (z0B r)∧∀ k,v.ownBlock=some k→w8.heap.size≤k),(10,fun v _=>v = .bool rb),(11,fun _ _=>True)] (by kernel_rfl) (by kernel_rfl) ?_ ?_
   ·intro q hq v w1 w3 hk hx
    simp only[List.mem_cons,List.not_mem_nil,or_false] at hq
    rcases hq with rfl | rfl | rfl | rfl
    ·exact hx
    ·obtain⟨ua,c,e,hrw,ho⟩:=hx
     exact⟨ua,c,e,hrw.keep hk (fun _ _ x=>x),ho⟩
    ·exact hx
    ·trivial
   repeat (apply z8T (by rfl);(intro K s;go_simp;exact id))
   refine zaI (by rfl) (by kernel_rfl) (fun s1 hs=>?_) (fun v hv K hK=>?_)
   ·go_simp
    refine(HL.out s1).mono ?_;rintro e w' ⟨rfl,hk⟩;exact⟨rfl,hk⟩
   obtain⟨s1,-,rfl⟩:=hv;go_simp;refine hK _ ?_;clear hK K s1
   repeat (apply z8T (by rfl);(intro K s;go_simp;exact id))
   refine zaI (by rfl) (by kernel_rfl) (fun s1 hs=>?_) (fun v hv K hK=>?_)
   ·obtain⟨c,w2,hcv,hf⟩:=z6A s1.val r (by have h1:=HX.out.2.2.2.1;have h2:=HX.out.2.1;unfold maxLen;omega)
    have hrl:=HX.out.2.2.2.1;rw[hrl] at hcv hf;go_simp;exact⟨hf.keep,by have h:=hf.row;rwa [hrl] at h,fun k e=>Nat.le_trans s1.keep.size (hf.own k e)⟩
   obtain⟨s2,-,ua,c,rfl,-,-⟩:=hv;go_simp;refine hK _ ?_;clear hK K s2
   repeat (apply z8T (by rfl);(intro K s;go_simp;exact id))
   refine zaI (by rfl) (by kernel_rfl) (fun s1 hs=>?_) (fun v hv K hK=>?_)
   ·go_simp
    refine(HRt.out s1).mono ?_;rintro e w' ⟨rfl,hk⟩;exact⟨rfl,hk⟩
   obtain⟨s3,-,rfl⟩:=hv;go_simp;refine hK _ ?_;clear hK K s3
   repeat (apply z8T (by rfl);(intro K s;go_simp;exact id))
   refine zaI (by rfl) (by kernel_rfl) (fun s1 hs=>?_) (fun v hv K hK=>?_)
   ·have hb1:=s1.keep.get H8.out.1 id
    have f1:∀ o,s1.val.frozen? ⟨w.heap.size,o,none⟩=false:=fun o=>by simp[World.frozen?,hb1]
    have c1:=s1.cell c80;have c2:=s1.cell c81;have e1:=z9S hb1 (i:=0) rfl;have hb2:=z0C hb1 0 (.int .u64 (n1:Int));have e2:Keep (fun _=>False) (s1.val.setCell ⟨w.heap.size,0,none⟩ (.int .u64 (n1:Int))) ((s1.val.setCell ⟨w.heap.size,0,none⟩ (.int .u64 (n1:Int))).setCell ⟨w.heap.size,1,none⟩ (.int .i64 (n2:Int))):=z9S hb2 (i:=1) rfl;have HS:=hid (e1.nx e2);clear e1 e2 hb1 hb2;go_simp;exact HS.out
   obtain⟨s4,-,-⟩:=hv;go_simp;refine hK _ ?_;clear hK K s4
   repeat (apply z8T (by rfl);(intro K s;go_simp;exact id))
   refine zsL ?_;intro s1 hs;obtain⟨_,_,-,hrow,hown⟩:=hs (8,(fun (v:Value) (w':World)=>∃ ua c,v = .slice ua lf c∧Row w' 5 1 v lf (z0B r)∧∀ k,v.ownBlock=some k→w8.heap.size≤k) (.slice ua lf c)) (List.mem_append_left _ (List.mem_append_left _ (List.mem_append_right _ (List.mem_singleton.2 rfl))));have hk1:=s1.keep;obtain⟨w9,hw9⟩:=zX1 (s1.val);rw[← hw9] at hk1 hrow ⊢;clear hw9 hs s1 j0 j1 HL HRt;go_wp2_with (at_builtin;refine z0A ?_;intro q hq);have hb9:=hk1.get H8.out.1 id;refine bodyPost_ret (z2R rfl _ _ w.heap.size rfl [.int .u64 (n1:Int),.int .i64 (n2:Int)] (fun j u hu=>by rw[cell_of_row _ _ _ _ _ _ hb9];simpa using hu) _ Tryz.underlying28 rfl (by kernel_rfl)) rfl ⟨H8.out.2.2.nx hk1,?_⟩;rw[HB.out]
   by_cases hn:0<n1
   ·rw[if_pos hn]
    have hrb:rb=true:=by rw[HX.out.2.2.2.2];exact z1U.2 ⟨hn,by simp,by simp only;omega⟩
    subst hrb;simp only;refine⟨.slice ua lf c,rfl,?_,fun k e=>Nat.le_trans H8.out.2.2.size (hown k e)⟩;rw[← HX.out.2.2.1,HX.out.2.2.2.1];exact hrow
   ·rw[if_neg hn]
    have hrb:rb=false:=by
     rw[HX.out.2.2.2.2]
     cases h:z2Z ⟨n1,(n2:Int)⟩ with
     | false=>rfl
     | true=>exact absurd (z1U.1 h).1 hn
    subst hrb;exact⟨n1,n2,ua,lf,c,rfl⟩
end
section
open Go.RowKit Go.Maps
open MI SO BM DM WM AC
theorem Row.setAt {w:World} {e:TypeId} {size g n cap:Nat} {xs:List Value} (h:Row w e size (.slice (.some ⟨g,0,none⟩) n cap) n xs) (i:Nat) (u:Value) :
  Row (w.setCell ⟨g,i,none⟩ u) e size (.slice (.some ⟨g,0,none⟩) n cap) n (xs.set i u):=by
 obtain⟨h0,h⟩:=h
 rcases h with ⟨hv,_⟩ | ⟨g',cap',cur,fz,hv,hg,hf,h1,h2,h3,h4⟩
 ·cases hv
 ·cases hv
  refine⟨by simpa using h0,.inr ⟨g,cap,cur.setIfInBounds i u,fz,rfl,?_,by simpa using hf,h1,h2,by simpa using h3,?_⟩⟩
  ·simp[World.setCell]
   rw[Array.getElem?_modify];simp[hg]
  ·rw[← h4]
   simp only[Array.toList_setIfInBounds];rw[List.take_set]
def put4 (l:List Value) (p:Nat) (y:List Value):List Value:=l.take p ++ y ++ l.drop (p+4)
theorem ziR (l:List Value) (p:Nat) (a b c d:Value) (hp:p+4≤l.length):(((l.set p a).set (p+1) b).set (p+2) c).set (p+3) d=put4 l p [a,b,c,d]:=by
 unfold put4;apply List.ext_getElem?;intro j;simp only[List.getElem?_set,List.length_set]
 by_cases h:j<p
 ·rw[if_neg (by omega),if_neg (by omega),if_neg (by omega),if_neg (by omega),List.append_assoc,List.getElem?_append_left (by simp;omega),List.getElem?_take_of_lt h]
 ·by_cases h4:j<p+4
  ·obtain⟨k,rfl⟩:∃ k,j=p+k:=⟨j - p,by omega⟩
   have hk:k<4:=by omega
   rw[List.getElem?_append_left (by simp;omega),List.getElem?_append_right (by simp;omega)];simp only[List.length_take,Nat.min_eq_left (show p≤l.length by omega),Nat.add_sub_cancel_left]
   match k,hk with
   | 0,_=>simp;omega
   | 1,_=>simp;omega
   | 2,_=>simp;omega
   | 3,_=>simp;omega
  ·rw[if_neg (by omega),if_neg (by omega),if_neg (by omega),if_neg (by omega),List.getElem?_append_right (by simp;omega),List.getElem?_drop]
   congr 1;simp;omega
theorem zqT (xs z y:List Value) (p:Nat) (hz:z.length=4) (hp:p≤xs.length):put4 (splice (xs ++ z) (p+4) (xs.drop p)) p y=xs.take p ++ y ++ xs.drop p:=by
 unfold put4 splice;have h1:((xs ++ z).take (p+4)).length=p+4:=by simp;omega
 rw[List.append_assoc,List.take_append_of_le_length (by omega),List.drop_append,h1,Nat.sub_self,List.drop_zero,List.drop_of_length_le (by omega),List.nil_append];rw[List.take_take,Nat.min_eq_left (by omega),List.take_append_of_le_length hp];have h2:(xs ++ z).drop (p+4+(xs.drop p).length) = []:=List.drop_of_length_le (by simp;omega);rw[h2,List.append_nil,List.append_assoc]
theorem z5Q {vs ws:List Vt} {us ts:List Value} (h:us.length=vs.length):z0P (vs ++ ws) (us ++ ts)=z0P vs us ++ z0P ws ts:=by
 unfold z0P;rw[List.zip_append h.symm];simp
theorem z5U {vs:List Vt} {us:List Value} (h:us.length=vs.length) (p:Nat) (hp:p≤vs.length):(z0P vs us).take (p * 4)=z0P (vs.take p) (us.take p)∧(z0P vs us).drop (p * 4)=z0P (vs.drop p) (us.drop p):=by
 have e:z0P vs us=z0P (vs.take p) (us.take p) ++ z0P (vs.drop p) (us.drop p):=by
  rw[← z5Q (by simp[h]),List.take_append_drop,List.take_append_drop]
 have hl:(z0P (vs.take p) (us.take p)).length=p * 4:=by rw[z4H (by simp[h])];simp;omega
 rw[e];exact⟨by rw[List.take_append_of_le_length (by omega),List.take_of_length_le (by omega)],by rw[List.drop_append_of_le_length (by omega),List.drop_of_length_le (by omega),List.nil_append]⟩
theorem zkX {vs:List Vt} {us:List Value} (h:us.length=vs.length) (p:Nat) (hp:p<vs.length) (x:Vt) (u:Value):put4 (z0P vs us) (p * 4) (z2H x u)=z0P (vs.set p x) (us.set p u):=by
 unfold put4;rw[(z5U h p (by omega)).1,show p * 4+4=(p+1) * 4 by omega,(z5U h (p+1) (by omega)).2]
 have e:z0P (vs.set p x) (us.set p u)=z0P (vs.take p ++ x :: vs.drop (p+1)) (us.take p ++ u :: us.drop (p+1)):=by
  rw[List.set_eq_take_append_cons_drop,if_pos hp,List.set_eq_take_append_cons_drop,if_pos (by omega)]
 rw[e,z5Q (by simp[h]),List.append_assoc];rfl
theorem zlH {vs:List Vt} {us:List Value} (h:us.length=vs.length) (p:Nat) (hp:p≤vs.length) (x:Vt) (u:Value):(z0P vs us).take (p * 4) ++ z2H x u ++ (z0P vs us).drop (p * 4)=z0P (vs.take p ++ x :: vs.drop p) (us.take p ++ u :: us.drop p):=by
 rw[(z5U h p hp).1,(z5U h p hp).2,z5Q (by simp[h]),List.append_assoc];rfl
theorem Votes.re {w1 w3:World} {F:Nat→Prop} {g m cap:Nat} {vs VS:List Vt} {us US:List Value} (h:Votes w1 F (.slice (some ⟨g,0,none⟩) m cap) vs us) (hk:Keep (fun k=>k=g) w1 w3)
  (hr:Row w3 31 4 (.slice (some ⟨g,0,none⟩) m cap) VS.length (z0P VS US)) (hlen:US.length=VS.length)
  (he:∀ j (hj:j<VS.length),(∃ i,∃ hi:i<vs.length,VS[j]=vs[i]∧US.getD j undef=us.getD i undef)∨(Row w1 5 1 (US.getD j undef) VS[j].val.length (z0B VS[j].val)∧∀ k,(US.getD j undef).ownBlock=some k→F k∧k≠g)) :
  Votes w3 F (.slice (some ⟨g,0,none⟩) m cap) VS US:=by
 have hg:(Value.slice (some ⟨g,0,none⟩) m cap).ownBlock=some g:=rfl;refine⟨hr,hlen,h.own,fun j hj=>?_⟩
 rcases he j hj with ⟨i,hi,e1,e2⟩ | ⟨h2,h3⟩
 ·obtain⟨h2,h3⟩:=h.each i hi
  rw[e1,e2]
  exact⟨h2.keep hk fun k e x=>by
   have x':k=g:=x;subst x'
   exact(h3 k e).2 hg,h3⟩
 ·exact⟨h2.keep hk fun k e x=>(h3 k e).2 x,fun k e=>⟨(h3 k e).1,fun x=>by
   rw[hg] at x
   exact(h3 k e).2 (Option.some.inj x).symm⟩⟩
theorem Votes.put {w1 w3:World} {F:Nat→Prop} {g m cap:Nat} {vs:List Vt} {us:List Value} (h:Votes w1 F (.slice (some ⟨g,0,none⟩) m cap) vs us) (p:Nat) (hp:p<vs.length) (x:Vt) (u:Value)
  (hu:Row w1 5 1 u x.val.length (z0B x.val)) (hou:∀ k,u.ownBlock=some k→F k∧k≠g) (hk:Keep (fun k=>k=g) w1 w3) (hr:Row w3 31 4 (.slice (some ⟨g,0,none⟩) m cap) vs.length (put4 (z0P vs us) (p * 4) (z2H x u))) :
  Votes w3 F (.slice (some ⟨g,0,none⟩) m cap) (vs.set p x) (us.set p u):=by
 rw[zkX h.len p hp] at hr;refine h.re hk (by rw[List.length_set];exact hr) (by rw[List.length_set,List.length_set];exact h.len) fun j hj=>?_;rw[List.length_set] at hj
 by_cases e:j=p
 ·subst e
  right
  have e2:(us.set j u).getD j undef=u:=by
   rw[List.getD_eq_getElem?_getD,List.getElem?_set_self (by rw[h.len];exact hp)];rfl
  rw[e2];simp only[List.getElem_set_self];exact⟨hu,hou⟩
 ·left
  refine⟨j,hj,by rw[List.getElem_set_ne (fun x=>e x.symm)],?_⟩;simp only[List.getD_eq_getElem?_getD];rw[List.getElem?_set_ne (fun x=>e x.symm)]
theorem Votes.ins {w1 w3:World} {F:Nat→Prop} {g m cap:Nat} {vs:List Vt} {us:List Value} {z:Vt} {zu:Value} (h:Votes w1 F (.slice (some ⟨g,0,none⟩) m cap) (vs ++ [z]) (us ++ [zu])) (hlen:us.length=vs.length) (p:Nat) (hp:p≤vs.length) (x:Vt) (u:Value)
  (hu:Row w1 5 1 u x.val.length (z0B x.val)) (hou:∀ k,u.ownBlock=some k→F k∧k≠g) (hk:Keep (fun k=>k=g) w1 w3)
  (hr:Row w3 31 4 (.slice (some ⟨g,0,none⟩) m cap) (vs.length+1) (put4 (splice (z0P (vs ++ [z]) (us ++ [zu])) (p * 4+4) ((z0P vs us).drop (p * 4))) (p * 4) (z2H x u))) :
  Votes w3 F (.slice (some ⟨g,0,none⟩) m cap) (vs.take p ++ x :: vs.drop p) (us.take p ++ u :: us.drop p):=by
 rw[z5Z hlen,zqT _ _ _ _ (by simp[z2H]) (by rw[z4H hlen];omega),zlH hlen p hp] at hr;have hVl:(vs.take p ++ x :: vs.drop p).length=vs.length+1:=by simp;omega
 have hget:∀ i,i<vs.length→(us ++ [zu]).getD i undef=us.getD i undef:=fun i hi=>by
  simp only[List.getD_eq_getElem?_getD];rw[List.getElem?_append_left (by rw[hlen];exact hi)]
 refine h.re hk (by rw[hVl];exact hr) (by simp[hlen]) fun j hj=>?_;rw[hVl] at hj
 rcases Nat.lt_trichotomy j p with e | e | e
 ·left
  refine⟨j,by simp;omega,?_,?_⟩
  ·rw[List.getElem_append_left (by simp;omega),List.getElem_append_left (by omega)]
   simp
  ·rw[hget j (by omega)]
   simp only[List.getD_eq_getElem?_getD];rw[List.getElem?_append_left (by simp;omega),List.getElem?_take_of_lt e]
 ·subst e
  right
  have e2:(us.take j ++ u :: us.drop j).getD j undef=u:=by
   simp only[List.getD_eq_getElem?_getD];rw[List.getElem?_append_right (by simp;omega)];simp[show min j us.length=j by omega]
  have e3:(vs.take j ++ x :: vs.drop j)[j]=x:=by
   rw[List.getElem_append_right (by simp;omega)];simp[show min j vs.length=j by omega]
  rw[e2,e3];exact⟨hu,hou⟩
 ·left
  obtain⟨i,rfl⟩:∃ i,j=i+1:=⟨j - 1,by omega⟩;refine⟨i,by simp;omega,?_,?_⟩
  ·rw[List.getElem_append_right (by simp;omega),List.getElem_append_left (by omega)]
   simp only[List.length_take,show i+1 - min p vs.length=(i - p)+1 by omega,List.getElem_cons_succ,List.getElem_drop];congr 1;omega
  ·rw[hget i (by omega)]
   simp only[List.getD_eq_getElem?_getD];rw[List.getElem?_append_right (by simp;omega)];simp only[List.length_take,show i+1 - min p us.length=(i - p)+1 by omega,List.getElem?_cons_succ,List.getElem?_drop];congr 2;omega
theorem Votes.lts {w:World} {F:Nat→Prop} {v:Value} {vs:List Vt} {us:List Value} (h:Votes w F v vs us):Votes w (fun k=>F k∧k<w.heap.size) v vs us:=
 ⟨h.row,h.len,fun k e=>⟨h.own k e,h.row.lt e⟩,fun j hj=>let ⟨h2,h3⟩:=h.each j hj;⟨h2,fun k e=>⟨⟨(h3 k e).1,h2.lt e⟩,(h3 k e).2⟩⟩⟩
theorem zgM (g cap lo size:Nat):z1E (some ⟨g,0,none⟩) cap lo size=some ⟨g,if cap=lo then 0 else lo * size,none⟩:=by
 unfold z1E;split
 ·rfl
 ·simp only[Option.map_some]
  rw[z0J,Nat.zero_add]
theorem zcV (l:List Value) (i:Nat):splice l i []=l:=by simp[splice]
theorem copied (xs z:List Value) (p m:Nat) (hx:xs.length=p+m):((xs ++ z).drop p).take m=xs.drop p:=by
 rw[List.drop_append_of_le_length (by omega),List.take_append_of_le_length (by simp;omega),List.take_of_length_le (by simp;omega)]
theorem zfG {w10 w13 w17:World} {a d sb:Nat} {D:Dk} {S:St} {b:Bal} {nv':Value} {vs':List Vt} {us':List Value} {X Y Z K:Nat→Prop} (e1:∀ i,X i→¬ Y i) (e2:∀ i,X i→¬ Z i) (e3:∀ i,Y i→¬ Z i)
  (hbx:BoxA a (accC sb b nv' S.dead) 86 w17 X) (hst:StoT sb d D S w13 Y) (hk:Keep K w13 w17) (hK:∀ k,Y k→¬ K k) (hv:Votes w17 (fun k=>Z k∨w10.heap.size≤k) nv' vs' us') (lX:∀ i,X i→i<w10.heap.size) (lY:∀ i,Y i→i<w10.heap.size) :
  AcT a d D ⟨S,b,vs'⟩ w17 (fun k=>X k∨Y k∨((Z k∨w10.heap.size≤k)∧k<w17.heap.size)):=
 ⟨sb,nv',X,Y,_,hbx,(StoT.lives _ _ _ _).keep hst hk hK,⟨⟨us',hv.lts⟩,fun k x=>x.2⟩,e1,fun i x y=>y.1.elim (e2 i x) fun z=>by have:=lX i x;omega,fun i x y=>y.1.elim (e3 i x) fun z=>by have:=lY i x;omega,rfl⟩
theorem Votes.one {w:World} {F:Nat→Prop} {v:Value} {vs:List Vt} {us:List Value} (h:Votes w F v vs us):∀ x ∈ z0P vs us,x.oneCell'=true:=fun x hx=>by
 unfold z0P at hx;obtain⟨p,hp,hx⟩:=List.mem_flatMap.1 hx;simp only[z2H,List.mem_cons,List.not_mem_nil,or_false] at hx
 rcases hx with rfl | rfl | rfl | rfl
 ·rfl
 ·rfl
 ·rfl
 ·obtain⟨j,hj,e⟩:=List.mem_iff_getElem.1 hp
  have hj2:j<vs.length:=by rw[List.length_zip] at hj;omega
  obtain⟨h2,-⟩:=h.each j hj2
  have e2:us.getD j undef=p.2:=by
   rw[← e,List.getElem_zip,List.getD_eq_getElem?_getD,List.getElem?_eq_getElem (by rw[h.len];exact hj2)];rfl
  rw[e2] at h2;obtain⟨ad,cap,e3,-⟩:=h2.form;rw[e3];rfl
theorem z5F {w:World} {b:Nat} {T:TypeId} {a0 a1 a2 a3:Value} (H:w.heap[b]?=some (.cells #[a0,a1,a2,a3] T (0,0))) :
  w.cell? ⟨b,0,none⟩=some a0∧w.cell? ⟨b,1,none⟩=some a1∧w.cell? ⟨b,2,none⟩=some a2∧w.cell? ⟨b,3,none⟩=some a3∧(∀ o,w.frozen? ⟨b,o,none⟩=false)∧b<w.heap.size:=by
 refine⟨?_,?_,?_,?_,?_,z0L H⟩ <;> simp[World.cell?,World.frozen?,H]
end
end Go.Proofs.YtkjofdocgaiedaaGreat
