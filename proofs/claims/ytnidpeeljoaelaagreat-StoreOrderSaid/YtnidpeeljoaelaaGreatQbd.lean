/- Texts StpB, StpC, StpD, StpE, StpF, StpG, StpH, StpI, StpM, StpP, StpN, StpR in one. Conditions: as each law names them. -/
import Derived.Deep.CutBlock
import Derived.Deep.DeepCutAuto
import Derived.Test.YtnidpeeljoaelaaGreatQah
import Derived.Test.YtnidpeeljoaelaaGreatQaj
import Derived.Test.YtnidpeeljoaelaaGreatQar
import Derived.Test.YtnidpeeljoaelaaGreatQax
import Derived.Test.YtnidpeeljoaelaaGreatQay
import Derived.Test.YtnidpeeljoaelaaGreatQaz
import Derived.Test.YtnidpeeljoaelaaGreatQbc
namespace Go.Proofs.YtnidpeeljoaelaaGreat
open Go.RowKit Go.Maps
open MI SO BM DM WM
def SROpenTo (d:Nat) (Fd:Nat→Prop) (w:World) (R:Int×Option St×Dk) (e:Ending) (w':World):Prop:=
 match R.2.1 with
 | none=>e = .returned (.tuple #[.pointer none,.int .i64 R.1])∧RefTo d Fd w R.2.2 w'
 | some s=>∃ b F Fd',e = .returned (.tuple #[.pointer (some ⟨b,0,none⟩),.int .i64 R.1])∧RStoAt w' b d F Fd' R.2.2 s∧Keep Fd w w'∧(∀ k,F k→w.heap.size≤k)∧∀ k,Fd' k→Fd k∨w.heap.size≤k
structure ROpR (w3:World) (b wb:Nat) (L:List (List UInt8)) (i:Nat) (wr:World):Prop where
 keep:Keep (fun k=>k=b) w3 wr
 ex:∃ pv ps,wr.heap[b]?=some (.cells (rstoCells (.pointer (some ⟨wb,0,none⟩)) pv false) 56 (0,0))∧Row wr 49 2 pv ps.length (prsV ps)∧(∀ k,pv.ownBlock=some k→w3.heap.size≤k)∧
  decL (L.take i) []=some ps∧PsOk ps∧ps.length≤32 * i
set_option maxRecDepth 20000 in
set_option maxHeartbeats 1000000 in
theorem sropen_any (w:World) (d:Nat) (Fd:Nat→Prop) (D:Dk) (hD:RefAt w d Fd D) (hfew:D.waits.length≤800000) :
  Calls Tryz.prog 54 #[.pointer (some ⟨d,0,none⟩)] w (SROpenTo d Fd w (opS D)):=by
 have hop:=ropen_any w d Fd D hD hfew
 obtain⟨R,hR⟩:∃ R,R=opS D:=⟨_,rfl⟩
 rw[← hR]
 obtain⟨Post,hPost⟩:∃ Post,Post=SROpenTo d Fd w R:=⟨_,rfl⟩
 rw[← hPost]
 have H0:=hid (And.intro hD (And.intro hR hPost))
 clear hD hfew hR hPost
 go_enter Tryz.func54,Tryz.ntmps54
 go_wp2_with (at_builtin;refine stopAt ?_;intro q hq)
 refine hop.mono ?_
 intro e w1 hp
 unfold ROpenTo at hp
 cases hg:(openW D).2.1 with
 | none=>
   have e1:R=((openW D).1,none,(openW D).2.2):=by rw[H0.out.2.1];unfold opS;rw[hg]
   rw[hg] at hp
   obtain⟨rfl,hto⟩:=hp
   have HZ:=hid (And.intro e1 (And.intro hto (open_none hg)))
   have q1:((openW D).1 != 0)=true:=by simp[open_none hg]
   have q2:((openW D).1 == 0)=false:=by simp[open_none hg]
   obtain⟨z,hz⟩:∃ z,z=(openW D).1:=⟨_,rfl⟩
   rw[← hz] at q1 q2 HZ ⊢
   clear hto e1 hg hop hz
   go_wp2_with (at_builtin;refine stopAt ?_;intro q hq)
   rw[H0.out.2.2]
   unfold SROpenTo
   rw[HZ.out.1]
   exact⟨rfl,HZ.out.2.1⟩
 | some g=>
   rw[hg] at hp
   obtain⟨wb,Fl,Fd1,rfl,a1,a2,a3,a4⟩:=hp
   obtain⟨z0,z1,-⟩:=open_up hg
   have HG:=hid (And.intro hg (And.intro z0 z1))
   rw[z0]
   have H1:=hid (And.intro a1 (And.intro a2 (And.intro a3 a4)))
   clear hop hg z0 z1 a1 a2 a3 a4
   have hk3:Keep (fun _=>False) w1 (w1.alloc (.cells #[.pointer (some ⟨wb,0,none⟩),.slice none 0 0,.bool false] 56)):=(Keep.refl _ _).alloc _
   have hn3:=heap_alloc_new w1 (.cells #[.pointer (some ⟨wb,0,none⟩),.slice none 0 0,.bool false] 56)
   obtain⟨N,hN⟩:∃ N,N=g.l.length:=⟨_,rfl⟩
   have HN:=hid hN
   have hNb:N≤4000:=by rw[hN];exact H1.out.1.ok.count
   have hs3:(w1.alloc (.cells #[.pointer (some ⟨wb,0,none⟩),.slice none 0 0,.bool false] 56)).heap.size=w1.heap.size+1:=by simp
   have H3:=hid (And.intro hk3 (And.intro hn3 hs3))
   clear hk3 hn3 hN hs3
   go_wp2_with (at_builtin;refine stopAt ?_;intro q hq)
   obtain⟨w3,hw3⟩:∃ w3,w3=w1.alloc (.cells #[.pointer (some ⟨wb,0,none⟩),.slice none 0 0,.bool false] 56):=⟨_,rfl⟩
   rw[← hw3] at H3 ⊢
   clear hw3
   go_loopw [7] (fun iv wr=>∃ i:Nat,i≤N∧iv = .int .i64 i∧Hid (ROpR w3 w1.heap.size wb g.l i wr)) (fun iv _=>N - (intOf iv).toNat)
   case atStart=>exact⟨0,Nat.zero_le _,rfl,hid ⟨Keep.refl _ _,.slice none 0 0,[],H3.out.2.1,Row.nil _ _ _,fun k e=>by simp[Value.ownBlock] at e,rfl,PsOk.nil,Nat.le_refl _⟩⟩
   case round=>
    obtain⟨i,hi,rfl,HT⟩:=hrel
    have hkr:Keep (fun _=>False) w1 wr:=H3.out.1.next HT.out.keep (fun _ _ x=>x) (fun k hk x=>by omega)
    obtain⟨vl,vs,hlog⟩:=H1.out.1.keep hkr (fun _ _ x=>x) (fun _ _ x=>x)
    obtain⟨j0,j1,j2,j3,j4,jf,jb⟩:=cells5w (show wr.heap[wb]?=some (.cells #[_,_,_,_,_] _ (0,0)) from hlog.wal.head)
    have hrecs:=hlog.wal.recs
    obtain⟨ra,rc,rfl,-⟩:=hrecs.row.form
    have hKr:=hid hkr
    clear hlog hkr
    by_cases hin:i<N
    ·have h4:(i:Int)<N:=by omega
     have hil:i<g.l.length:=by rw[← HN.out];exact hin
     obtain⟨gr,ad2,c2,rfl,hc,hrow,hlc⟩:=hrecs.one i hil
     have hsm:=H1.out.1.ok.small _ (List.getElem_mem hil)
     have hdrop:g.l=g.l.take i ++ (g.l[i] :: g.l.drop (i+1)):=by rw[List.getElem_cons_drop,List.take_append_drop]
     have htk:g.l.take (i+1)=g.l.take i ++ [g.l[i]]:=by rw[List.take_add_one,List.getElem?_eq_getElem hil,Option.toList_some]
     obtain⟨x,hx⟩:∃ x,x=g.l[i]:=⟨_,rfl⟩
     rw[← hx] at hc hrow hlc hsm hdrop htk
     clear hx hrecs
     have hdec:=rdecode_any wr ad2 x.length c2 x (Cells.of_row hrow) hlc (by omega)
     rw[← HN.out] at j2
     have HS:=hid (And.intro hdrop (And.intro htk hil))
     clear hdrop htk hrow hlc hsm
     go_wp2_with (at_builtin;refine stopAt ?_;intro q hq)
     refine hdec.mono ?_
     intro e w6 hp
     unfold DecPost at hp
     obtain⟨hk6,hp⟩:=hp
     have HK:=hid hk6
     clear hdec hk6
     cases hdx:dec x with
     | none=>
       rw[hdx] at hp
       simp only at hp
       subst hp
       have e1:R=(50,none,(openW D).2.2):=by
        obtain⟨m,ps,-,-,-,h2,-⟩:=HT.out.ex
        rw[H0.out.2.1]
        unfold opS
        rw[HG.out.1]
        simp only
        rw[HS.out.1,decL_append,h2]
        simp only[decL]
        rw[hdx]
       have HZ:=hid e1
       clear e1 hdx hc
       go_wp2_with (at_builtin;refine stopAt ?_;intro q hq)
       rw[H0.out.2.2]
       unfold SROpenTo
       rw[HZ.out]
       refine⟨rfl,?_⟩
       have hk:=hKr.out.next HK.out (H:=fun _=>False) (fun _ _ x=>x) (fun _ _ x=>x)
       exact⟨Fd1,H1.out.1.disk_.keep hk (fun _ _ x=>x),H1.out.2.1.next hk (fun _ _ x=>x) (fun _ _ x=>x.elim),H1.out.2.2.2⟩
     | some l=>
       rw[hdx] at hp
       obtain⟨v,rfl,hrow,hown⟩:=hp
       obtain⟨la,lc,rfl,-,-,-,hla⟩:=hrow.form
       obtain⟨hl32,hlr⟩:=dec_len hdx
       have hch:=Chs.of_row hrow (fun c hc=>chOk_of (hlr c hc))
       obtain⟨pv,ps,hh,hpr,hpo,hdl,hok,hpl⟩:=HT.out.ex
       obtain⟨pa,pc,rfl,-⟩:=hpr.form
       have hh6:=HK.out.get hh id
       obtain⟨M,hM⟩:∃ M,M=ps.length:=⟨_,rfl⟩
       have hpr6:=hpr.keep HK.out (fun _ _ x=>x)
       rw[← hM] at hh6 hpr6
       obtain⟨i0,i1,i2,if0,ib⟩:=cells3i (show w6.heap[w1.heap.size]?=some (.cells #[_,_,_] _ (0,0)) from hh6)
       have hlay:=srlay_any w6 pa M pc ps la l.length lc l hpr6 hM hch rfl (by omega)
       have H7:=hid (And.intro hdl (And.intro hok (And.intro hpl (And.intro hdx (And.intro hl32 (And.intro hlr (And.intro hpo (And.intro hM hh6))))))))
       clear hrow hown hla hl32 hlr hch hpr hpo hdl hok hpl hh hh6 hM hpr6 hdx hc
       go_wp2_with (at_builtin;refine stopAt ?_;intro q hq)
       refine hlay.mono ?_
       rintro e w8 ⟨v8,rfl,hr8,hk8,ho8⟩
       have hh8:=hk8.get H7.out.2.2.2.2.2.2.2.2 id
       obtain⟨a8,m8,rfl,-⟩:=hr8.form
       have hh9:=heap_setCell6 (show w8.heap[w1.heap.size]?=some (.cells #[_,_,_] _ (0,0)) from hh8) 1 (.slice a8 (layL ps l).length m8)
       have hk9:Keep (fun k=>k=w1.heap.size) w8 (w8.setCell ⟨w1.heap.size,1,none⟩ (.slice a8 (layL ps l).length m8)):=by refine Keep.setCell (Keep.refl _ _) (.inl ?_) _;rfl
       have H8:=hid (And.intro hr8 (And.intro hk8 (And.intro ho8 (And.intro hh8 (And.intro hh9 hk9)))))
       clear hlay hr8 hk8 ho8 hh9 hk9 i0 i1 i2 if0 ib j0 j1 j2 j3 j4 jf jb
       obtain⟨i0,i1,i2,jf,jb⟩:=cells3i (show w8.heap[w1.heap.size]?=some (.cells #[_,_,_] _ (0,0)) from hh8)
       clear hh8
       go_wp2_with (at_builtin;refine stopAt ?_;intro q hq)
       go_roundw
       case rel=>exact⟨i+1,by omega,by go_num,hid (by
        obtain⟨hdl,hok,hpl,hdx,hl32,hlr,hpo,hM,hh6⟩:=H7.out
        obtain⟨hr8,hk8,ho8,hh8,hh9,hk9⟩:=H8.out
        have s3:=HT.out.keep.size
        have s6:=HK.out.size
        refine⟨((HT.out.keep.next HK.out (fun _ _ x=>x) (fun _ _ x=>x.elim)).next hk8 (fun _ _ x=>x) (fun _ _ x=>x.elim)).next hk9 (fun _ _ x=>x) (fun _ _ x=>x),_,layL ps l,hh9,hr8.keep hk9 (fun k e x=>by subst x;exact hr8.not_block hh8 (by decide) e),fun k e=>?_,?_,hok.layL hlr,?_⟩
        ·rcases ho8 k e with z | z
         ·omega
         ·rw[hM] at z;exact hpo k z
        ·rw[HS.out.2.1,decL_append,hdl]
         simp only[decL]
         rw[hdx]
        ·have:=layL_len l ps
         omega)⟩
       case measure=>simp[intOf];omega
    ·have h4:decide ((i:Int)<N)=false:=by simp;omega
     rw[← HN.out] at j2
     clear hrecs
     go_wp2_with (at_builtin;refine stopAt ?_;intro q hq)
     rw[H0.out.2.2]
     obtain⟨pv,ps,hh,hpr,hpo,hdl,hok,hpl⟩:=HT.out.ex
     obtain rfl:i=N:=by omega
     rw[HN.out,List.take_length] at hdl
     have e1:R=(0,some ⟨g,ps,false⟩,(openW D).2.2):=by
      rw[H0.out.2.1]
      unfold opS
      rw[HG.out.1]
      simp only
      rw[hdl]
     unfold SROpenTo
     rw[e1]
     obtain⟨hlog,hkw,hFl,hFd⟩:=H1.out
     have hk:=hKr.out
     have hlt1:=hlog.ltz
     have s0:=hkw.size
     have s1:=hk.size
     have s3:=H3.out.2.2
     refine⟨w1.heap.size,fun k=>Fl k∨pv.ownBlock=some k∨k=w1.heap.size,Fd1,rfl,RStoIs.at (wb:=wb) (pv:=pv) (Fl:=Fl) ⟨hh,hpr,hlog.keep hk (fun _ _ x=>x) (fun _ _ x=>x),fun k e=>⟨.inr (.inl e),?_,?_⟩,fun k x=>⟨.inl x,?_⟩,.inr (.inr rfl),fun k x=>?_,fun k x y=>?_,hok⟩,
      hkw.next hk (fun _ _ x=>x) (fun _ _ x=>x.elim),fun k x=>?_,hFd⟩
     ·intro x;have:=hlt1 k (.inl x);have:=hpo k e;omega
     ·have:=hpo k e;omega
     ·have:=hlt1 k (.inl x);omega
     ·rcases x with x | x | x
      ·have:=hlt1 k (.inl x);omega
      ·exact hpr.lt x
      ·subst x;exact heap_lt hh
     ·have:=hlt1 k (.inr y)
      rcases x with x | x | x
      ·exact hlog.apart_ k x y
      ·have:=hpo k x;omega
      ·omega
     ·rcases x with x | x | x
      ·exact hFl k x
      ·have:=hpo k x;omega
      ·omega
end Go.Proofs.YtnidpeeljoaelaaGreat
namespace Go.Proofs.YtnidpeeljoaelaaGreat
open Go.RowKit Go.Maps
open MI SO BM DM WM
end Go.Proofs.YtnidpeeljoaelaaGreat
namespace Go.Proofs.YtnidpeeljoaelaaGreat
open Go.RowKit Go.Maps
open MI SO BM DM WM
def BoxT (p:Nat) (cs:Array Value) (t:TypeId):Thing:=fun w F=>w.heap[p]?=some (.cells cs t (0,0))∧F p∧∀ k,F k→k<w.heap.size
def RkT (d:Nat) (D:Dk):Thing:=fun w F=>RefAt w d F D
def RStoT (b d:Nat) (D:Dk) (S:St):Thing:=fun w F=>∃ F1 F2,RStoAt w b d F1 F2 D S∧F=fun k=>F1 k∨F2 k
def SideR (d:Nat) (D:Dk) (o:Option St) (sv:Value):Thing:=fun w F=>
 match o with
 | none=>sv = .pointer none∧RkT d D w F
 | some S=>∃ b,sv = .pointer (some ⟨b,0,none⟩)∧RStoT b d D S w F
theorem BoxT.lives (p:Nat) (cs:Array Value) (t:TypeId):Lives (BoxT p cs t):=
 ⟨fun ⟨h1,h2,h3⟩ hk hn=>⟨hk.get h1 (hn _ h2),h2,fun k x=>Nat.lt_of_lt_of_le (h3 k x) hk.size⟩,fun h=>h.2.2⟩
theorem RkT.lives (d:Nat) (D:Dk):Lives (RkT d D):=⟨fun h hk hn=>RefAt.keep h hk hn,fun h=>RefAt.lt h⟩
theorem RStoT.lives (b d:Nat) (D:Dk) (S:St):Lives (RStoT b d D S):=
 ⟨fun ⟨F1,F2,h,e⟩ hk hn=>⟨F1,F2,h.keep hk (fun k x=>hn k (by rw[e];exact .inl x)) (fun k x=>hn k (by rw[e];exact .inr x)),e⟩,fun ⟨F1,F2,h,e⟩ k x=>h.ltw k (by rw[e] at x;exact x)⟩
theorem SideR.lives (d:Nat) (D:Dk) (o:Option St) (sv:Value):Lives (SideR d D o sv):=by
 cases o with
 | none=>exact⟨fun h hk hn=>⟨h.1,(RkT.lives d D).keep h.2 hk hn⟩,fun h=>(RkT.lives d D).lt h.2⟩
 | some S=>exact⟨fun ⟨b,h1,h2⟩ hk hn=>⟨b,h1,(RStoT.lives b d D S).keep h2 hk hn⟩,fun ⟨b,_,h2⟩=>(RStoT.lives b d D S).lt h2⟩
theorem RStoTo.turns {b d:Nat} {F1 F2:Nat→Prop} {w w':World} {D:Dk} {S:St} (h:RStoTo b d F1 F2 w D S w'):Turns (SideR d D (some S) (.pointer (some ⟨b,0,none⟩))) (fun k=>F1 k∨F2 k) w w':=by
 obtain⟨F',Fd',h1,h2,h3,h4⟩:=h
 exact⟨fun k=>F' k∨Fd' k,⟨b,rfl,F',Fd',h1,rfl⟩,h2,fun k x=>x.elim (fun y=>(h3 k y).imp .inl id) (fun y=>(h4 k y).imp .inr id)⟩
theorem SideR.disk {d:Nat} {D:Dk} {o:Option St} {sv:Value} {w:World} {F:Nat→Prop} (h:SideR d D o sv w F):∃ F',RkT d D w F'∧∀ k,F' k→F k:=by
 cases o with
 | none=>exact⟨F,h.2,fun _ x=>x⟩
 | some S=>
   obtain⟨b,-,F1,F2,h1,rfl⟩:=h
   exact⟨F2,h1.diskAt,fun _ x=>.inr x⟩
theorem SROpenTo.side {d:Nat} {Fd:Nat→Prop} {w w':World} {R:Int×Option St×Dk} {e:Ending} (h:SROpenTo d Fd w R e w'):∃ sv,e = .returned (.tuple #[sv,.int .i64 R.1])∧Turns (SideR d R.2.2 R.2.1 sv) Fd w w':=by
 obtain⟨r,o,D⟩:=R
 cases o with
 | none=>
   obtain⟨rfl,F',h1,h2,h3⟩:=h
   exact⟨_,rfl,F',⟨rfl,h1⟩,h2,h3⟩
 | some S=>
   obtain⟨b,F,Fd',rfl,h1,h2,h3,h4⟩:=h
   exact⟨_,rfl,fun k=>F k∨Fd' k,⟨b,rfl,F,Fd',h1,rfl⟩,h2,fun k x=>x.elim (fun y=>.inr (h3 k y)) (h4 k)⟩
theorem Three.shrink {w0 w:World} {T U V T' U' V':Thing} {F G H F' G' H':Nat→Prop} (h:Three w0 T F U G V H w) (h1:T' w F') (h2:U' w G') (h3:V' w H') (s1:∀ k,F' k→F k) (s2:∀ k,G' k→G k) (s3:∀ k,H' k→H k):Three w0 T' F' U' G' V' H' w:=
 ⟨h1,h2,h3,fun i x y=>h.a12 i (s1 i x) (s2 i y),fun i x y=>h.a13 i (s1 i x) (s3 i y),fun i x y=>h.a23 i (s2 i x) (s3 i y),fun i x=>h.new1 i (s1 i x),fun i x=>h.new2 i (s2 i x),fun i x=>h.new3 i (s3 i x),h.keep⟩
abbrev pairC (d m:Nat) (sv rv:Value):Array Value:=#[.pointer (some ⟨d,0,none⟩),sv,.pointer (some ⟨m,0,none⟩),rv]
def SO.Sim (D:Dk) (o o2:Option St):Prop:=o2=o∨∃ S,o=some S∧o2=some (markS D S)
theorem SO.Sim.refl (D:Dk) (o:Option St):Sim D o o:=.inl rfl
theorem SO.Sim.none {D:Dk} {o2:Option St} (h:Sim D none o2):o2=none:=h.elim id fun ⟨_,h,_⟩=>by cases h
theorem SO.Sim.some {D:Dk} {S:St} {o2:Option St} (h:Sim D (some S) o2):∃ S2,o2=Option.some S2∧(S2=S∨S2=markS D S):=by
 rcases h with h | ⟨S',h1,h2⟩
 ·exact⟨S,h,.inl rfl⟩
 ·cases h1;exact⟨_,h2,.inr rfl⟩
theorem SO.Sim.arm {D:Dk} {o o2:Option St} (h:Sim D o o2) (n:Int):Sim (DM.arm D n) o o2:=h.imp id fun ⟨S,h1,h2⟩=>⟨S,h1,h2⟩
theorem SO.Sim.mk {D:Dk} {S S2:St} (h:S2=S∨S2=markS D S):Sim D (Option.some S) (Option.some S2):=h.imp (fun h=>by rw[h]) fun h=>⟨S,rfl,by rw[h]⟩
theorem SO.mark_cases {D:Dk} {S S2:St} (h:S2=S∨S2=markS D S):S2=S∨(S.dead=false∧gone D S.g=true∧S2=⟨WM.mark D S.g,S.ps,false⟩):=by
 rcases h with h | h
 ·exact .inl h
 ·unfold markS at h
  split at h
  ·exact .inl h
  ·rename_i hd
   cases hg:gone D S.g with
   | false=>rw[mark_up hg] at h;exact .inl h
   | true=>exact .inr ⟨by simpa using hd,rfl,by rw[h];simp at hd;rw[hd]⟩
theorem SO.sim_ps {D:Dk} {S S2:St} (h:S2=S∨S2=markS D S):S2.ps=S.ps∧S2.dead=S.dead∧S2.g.l=S.g.l∧S2.g.safe=S.g.safe∧gone D S2.g=gone D S.g:=by
 rcases mark_cases h with rfl | ⟨hd,hg,e⟩
 ·exact⟨rfl,rfl,rfl,rfl,rfl⟩
 ·subst e
  exact⟨rfl,hd.symm,rfl,rfl,gone_mark _ _⟩
def PairG (W:World) (p:Nat) (D:Dk) (o o2:Option St) (w:World):Prop:=
 ∃ d m sv rv A F G,Three W (BoxT p (pairC d m sv rv) 38) A (SideP d D o sv) F (SideR m D o2 rv) G w
def PairS (W:World) (p:Nat) (D:Dk) (o:Option St) (w:World):Prop:=∃ o2,Sim D o o2∧PairG W p D o o2 w
def PairB (W:World) (p:Nat) (D:Dk) (w:World):Prop:=
 ∃ d m sv rv A F G,Three W (BoxT p (pairC d m sv rv) 38) A (DkT d D) F (RkT m D) G w
theorem PairS.base {W w:World} {p:Nat} {D:Dk} {o:Option St} (h:PairS W p D o w):PairB W p D w:=by
 obtain⟨o2,-,d,m,sv,rv,A,F,G,h⟩:=h
 obtain⟨F',h2,s2⟩:=h.two.disk
 obtain⟨G',h3,s3⟩:=h.three.disk
 exact⟨d,m,sv,rv,A,F',G',h.shrink h.one h2 h3 (fun _ x=>x) s2 s3⟩
theorem PairS.later {W w w':World} {p:Nat} {D:Dk} {o:Option St} (h:PairS W p D o w) (hk:Keep (fun _=>False) w w'):PairS W p D o w':=by
 obtain⟨o2,hs,d,m,sv,rv,A,F,G,h⟩:=h
 exact⟨o2,hs,d,m,sv,rv,A,F,G,h.later (BoxT.lives _ _ _) (SideP.lives _ _ _ _) (SideR.lives _ _ _ _) hk⟩
theorem PairB.later {W w w':World} {p:Nat} {D:Dk} (h:PairB W p D w) (hk:Keep (fun _=>False) w w'):PairB W p D w':=by
 obtain⟨d,m,sv,rv,A,F,G,h⟩:=h
 exact⟨d,m,sv,rv,A,F,G,h.later (BoxT.lives _ _ _) (DkT.lives _ _) (RkT.lives _ _) hk⟩
theorem PairS.keep {W w:World} {p:Nat} {D:Dk} {o:Option St} (h:PairS W p D o w):Keep (fun _=>False) W w:=let ⟨_,_,_,_,_,_,_,_,_,h⟩:=h;h.keep
theorem Three.box {W w w':World} {p:Nat} {cs cs':Array Value} {t:TypeId} {U V:Thing} {A G H:Nat→Prop} (h:Three W (BoxT p cs t) A U G V H w) (LU:Lives U) (LV:Lives V) (hk:Keep (fun k=>k=p) w w') (hh:w'.heap[p]?=some (.cells cs' t (0,0))):∃ A',Three W (BoxT p cs' t) A' U G V H w':=
 h.turn1 LU LV ⟨A,⟨hh,h.one.2.1,fun k x=>Nat.lt_of_lt_of_le (h.one.2.2 k x) hk.size⟩,hk.mono fun k _ e=>by subst e;exact h.one.2.1,fun _ x=>.inl x⟩
theorem ptr_nil {d:Nat} {D:Dk} {o:Option St} {sv:Value} {w:World} {F:Nat→Prop} (h:SideP d D o sv w F):∃ x,sv = .pointer x∧(x.isNone=o.isNone):=by
 cases o with
 | none=>exact⟨none,h.1,rfl⟩
 | some S=>obtain⟨b,e,-⟩:=h;exact⟨_,e,rfl⟩
theorem rptr_nil {d:Nat} {D:Dk} {o:Option St} {sv:Value} {w:World} {F:Nat→Prop} (h:SideR d D o sv w F):∃ x,sv = .pointer x∧(x.isNone=o.isNone):=by
 cases o with
 | none=>exact⟨none,h.1,rfl⟩
 | some S=>obtain⟨b,e,-⟩:=h;exact⟨_,e,rfl⟩
set_option maxRecDepth 20000 in
set_option maxHeartbeats 1000000 in
theorem stopen_any (W w:World) (p:Nat) (D:Dk) (h:PairB W p D w) (hfew:D.waits.length≤800000) :
  Calls Tryz.prog 27 #[.pointer (some ⟨p,0,none⟩)] w fun e w'=>e = .returned (.bool true)∧PairS W p (opS D).2.2 (opS D).2.1 w':=by
 obtain⟨d,m,sv,rv,A,F,G,h⟩:=h
 obtain⟨R,hR⟩:∃ R,R=opS D:=⟨_,rfl⟩
 have hop:=sopen_any w d F D h.two hfew
 rw[← hR] at hop ⊢
 obtain⟨h0,h1,h2,h3,hf,hb⟩:=cells4 h.one.1
 have H0:=hid (And.intro h (And.intro hR hfew))
 clear h hR hfew
 go_enter Tryz.func27,Tryz.ntmps27
 go_wp2_with (at_builtin;refine stopAt ?_;intro q hq)
 refine hop.mono ?_
 intro e w1 hp
 obtain⟨sv1,rfl,ht⟩:=hp.side
 obtain⟨F1,T1⟩:=H0.out.1.turn2 (BoxT.lives _ _ _) (RkT.lives _ _) ht
 have hrop:=sropen_any w1 m G D T1.three H0.out.2.2
 rw[← H0.out.2.1] at hrop
 clear hop hp ht h0 h1 h2 h3 hf hb
 obtain⟨h0,h1,h2,h3,hf,hb⟩:=cells4 T1.one.1
 have HT1:=hid T1
 clear T1
 go_wp2_with (at_builtin;refine stopAt ?_;intro q hq)
 refine hrop.mono ?_
 intro e w2 hp
 obtain⟨rv1,rfl,ht⟩:=hp.side
 obtain⟨G1,T2⟩:=HT1.out.turn3 (BoxT.lives _ _ _) (SideP.lives _ _ _ _) ht
 clear hrop hp ht h0 h1 h2 h3 hf hb
 obtain⟨h0,h1,h2,h3,hf,hb⟩:=cells4 T2.one.1
 obtain⟨x,rfl,hx⟩:=ptr_nil T2.two
 obtain⟨y,rfl,hy⟩:=rptr_nil T2.three
 have hk3:Keep (fun k=>k=p) w2 ((w2.setCell ⟨p,1,none⟩ (.pointer x)).setCell ⟨p,3,none⟩ (.pointer y)):=by refine Keep.setCell (Keep.setCell (Keep.refl _ _) (.inl ?_) _) (.inl ?_) _ <;> rfl
 have hh3:=heap_setCell6 (heap_setCell6 T2.one.1 1 (.pointer x)) 3 (.pointer y)
 obtain⟨A3,T3⟩:=T2.box (SideP.lives _ _ _ _) (SideR.lives _ _ _ _) hk3 hh3
 have HZ:=hid (show PairS W p R.2.2 R.2.1 _ from⟨_,Sim.refl _ _,d,m,.pointer x,.pointer y,A3,F1,G1,T3⟩)
 clear T2 hk3 hh3 T3
 have hxy:x.isNone=y.isNone:=hx.trans hy.symm
 have HXY:=hid hxy
 clear hx hy hxy
 cases x with
 | none=>
   cases y with
   | none=>
     go_wp2_with (at_builtin;refine stopAt ?_;intro q hq)
     go_ret
     exact⟨by simp,HZ.out⟩
   | some y=>exact absurd HXY.out (by simp)
 | some x=>
   cases y with
   | none=>exact absurd HXY.out (by simp)
   | some y=>
     go_wp2_with (at_builtin;refine stopAt ?_;intro q hq)
     go_ret
     exact⟨by simp,HZ.out⟩
end Go.Proofs.YtnidpeeljoaelaaGreat
namespace Go.Proofs.YtnidpeeljoaelaaGreat
open Go.RowKit Go.Maps
open MI SO BM DM WM
set_option maxRecDepth 20000 in
set_option maxHeartbeats 1000000 in
theorem ststart_any (w:World) (s:Nat) (h0:0<s) (h1:s≤2048) :
  Calls Tryz.prog 7 #[.int .i64 (s:Nat)] w fun e w'=>∃ p,e = .returned (.tuple #[.pointer (some ⟨p,0,none⟩),.bool true])∧PairS w p (opS (DM.new s)).2.2 (opS (DM.new s)).2.1 w':=by
 have hn:=new_any w s h0 h1
 clear h0
 go_enter Tryz.func7,Tryz.ntmps7
 go_wp2_with (at_builtin;refine stopAt ?_;intro q hq)
 refine hn.mono ?_
 rintro e w1 ⟨d,Pd,rfl,hD1,hk1,hP1⟩
 have hr:=ref_new w1 s (by have:=hD1.ok.pos;simp[DM.new] at this;omega) h1
 have H1:=hid (And.intro hD1 (And.intro hk1 hP1))
 clear hD1 hk1 hP1
 go_wp2_with (at_builtin;refine stopAt ?_;intro q hq)
 refine hr.mono ?_
 rintro e w2 ⟨m,Qd,rfl,hD2,hk2,hP2⟩
 have H2:=hid (And.intro hD2 (And.intro hk2 hP2))
 clear hD2 hk2 hP2 hn hr
 go_wp2_with (at_builtin;refine stopAt ?_;intro q hq)
 have T2:=Two.make (T:=DkT d (DM.new s)) (U:=RkT m (DM.new s)) (w0:=w) H1.out.1 H1.out.2.2 H1.out.2.1 (DkT.lives _ _) H2.out.1 H2.out.2.2 H2.out.2.1
 have hk3:Keep (fun _=>False) w2 (w2.alloc (.cells (pairC d m (.pointer none) (.pointer none)) 38)):=(Keep.refl _ _).alloc _
 have T3:=T2.and (DkT.lives _ _) (RkT.lives _ _) (V:=BoxT w2.heap.size (pairC d m (.pointer none) (.pointer none)) 38) (H:=fun k=>k=w2.heap.size)
  ⟨heap_alloc_new w2 _,rfl,fun k e=>by subst e;simp⟩ (fun k e=>by omega) hk3
 have hop:=stopen_any w _ w2.heap.size (DM.new s) ⟨d,m,.pointer none,.pointer none,_,_,_,T3.turn.turn⟩ (by simp[DM.new])
 clear T2 hk3 T3
 go_wp2_with (at_builtin;refine stopAt ?_;intro q hq)
 refine hop.mono ?_
 rintro e w4 ⟨rfl,hZ⟩
 have HZ:=hid hZ
 clear hZ
 go_wp2_with (at_builtin;refine stopAt ?_;intro q hq)
 go_ret2
 exact⟨_,rfl,HZ.out⟩
end Go.Proofs.YtnidpeeljoaelaaGreat
namespace Go.Proofs.YtnidpeeljoaelaaGreat
open Go.RowKit Go.Maps
open MI SO BM DM WM
theorem Ints.cells {w:World} {v:Value} {l:List Int} (h:Ints w v l) :
  ∃ ao c,v = .slice ao l.length c∧l.length≤c∧c≤maxLen∧Cells w ao l.length 1 (intsV l)∧∀ z ∈ l,-9223372036854775808≤z∧z≤9223372036854775807:=by
 obtain⟨ao,c,rfl,h1,h2,h3⟩:=h
 refine⟨ao,c,rfl,h1,h2,⟨by simp[intsV_length],fun hp=>?_⟩,fun z hz=>?_⟩
 ·obtain⟨ad,rfl,h4⟩:=h3 (by omega)
  refine⟨ad,rfl,fun j u hu=>?_⟩
  have hj:j<l.length:=by have:=(List.getElem?_eq_some_iff.1 hu).1;rwa [intsV_length] at this
  obtain⟨cs,_,⟨rfl,_⟩,hc⟩:=h4 j hj
  have:=hc 0 _ rfl
  rw[Nat.mul_one,Nat.add_zero] at this
  rw[this]
  simpa [intsV,hj] using hu
 ·obtain⟨j,hj,rfl⟩:=List.getElem_of_mem hz
  obtain⟨ad,rfl,h4⟩:=h3 (by omega)
  obtain⟨cs,_,⟨_,h5⟩,_⟩:=h4 j hj
  exact h5
theorem Cells.lt {w:World} {x:Addr} {n size:Nat} {xs:List Value} (h:Cells w (some x) n size xs) (hp:0<n * size):x.block<w.heap.size:=by
 obtain⟨ad,had,hc⟩:=h.2 hp
 cases had
 have hl:0<xs.length:=by rw[h.1];exact hp
 have:=World.block_lt_of_cell? w _ (hc 0 _ (List.getElem?_eq_getElem hl))
 rwa [show (x.add 0)=x by simp[Addr.add]] at this
theorem Ints.far {W w:World} {ao:Option Addr} {n c:Nat} {l:List Int} {F:Nat→Prop} (h:Ints W (.slice ao n c) l) (hk:Keep (fun _=>False) W w) (hF:∀ k,F k→W.heap.size≤k) :
  n=l.length∧n≤maxLen∧Cells w ao n 1 (intsV l)∧(0<n→∀ x,ao=some x→¬ F x.block)∧∀ z ∈ l,-9223372036854775808≤z∧z≤9223372036854775807:=by
 obtain⟨ao',c',e,h1,h2,h3,h4⟩:=h.cells
 cases e
 refine⟨rfl,by omega,h3.keep hk (fun _ _ x=>x),fun hp x hx hF'=>?_,h4⟩
 subst hx
 have:=h3.lt (by omega)
 have:=hF _ hF'
 omega
end Go.Proofs.YtnidpeeljoaelaaGreat
namespace Go.Proofs.YtnidpeeljoaelaaGreat
open Go.RowKit Go.Maps
open MI SO BM DM WM
theorem StoAt.arm {w w':World} {b d:Nat} {F Fd:Nat→Prop} {D:Dk} {S:St} {n:Int} (H:StoAt w b d F Fd D S) (ht:DiskTo d Fd w (DM.arm D n) w'):StoTo b d F Fd w (DM.arm D n) S w':=by
 obtain⟨wb,mb,m,Fl,HI⟩:=H
 obtain⟨ga,ca,vl,vs,L⟩:=HI.log
 obtain⟨Fd',a1,a2,a3⟩:=ht
 refine⟨F,Fd',⟨wb,mb,m,Fl,⟨a2.get HI.head (HI.apart _ HI.self),MapAt.keep HI.map a2 (HI.apart _ HI.fm),⟨ga,ca,vl,vs,⟨L.wal.keep a2 (fun k x=>L.apart k x),a1,fun k x y=>?_⟩⟩,HI.get,HI.inl,HI.self,HI.fm,HI.ne,fun k x=>Nat.lt_of_lt_of_le (HI.lt k x) a2.size,fun k x y=>?_,HI.ok⟩⟩,a2.mono fun _ _ x=>.inr x,fun _ x=>.inl x,a3⟩
 ·rcases a3 k y with z | z
  ·exact L.apart k x z
  ·have:=L.wal.lt k x;omega
 ·rcases a3 k y with z | z
  ·exact HI.apart k x z
  ·have:=HI.lt k x;omega
theorem RStoAt.arm {w w':World} {b d:Nat} {F Fd:Nat→Prop} {D:Dk} {S:St} {n:Int} (H:RStoAt w b d F Fd D S) (ht:RefTo d Fd w (DM.arm D n) w'):RStoTo b d F Fd w (DM.arm D n) S w':=by
 obtain⟨wb,pv,Fl,HI⟩:=H
 obtain⟨vl,vs,L⟩:=HI.log
 obtain⟨Fd',a1,a2,a3⟩:=ht
 refine⟨F,Fd',⟨wb,pv,Fl,⟨a2.get HI.head (HI.apart _ HI.self),HI.row.keep a2 (fun k x=>HI.apart _ (HI.own k x).1),⟨vl,vs,⟨L.wal.keep a2 (fun k x=>L.apart k x),a1,fun k x y=>?_⟩⟩,HI.own,HI.inl,HI.self,fun k x=>Nat.lt_of_lt_of_le (HI.lt k x) a2.size,fun k x y=>?_,HI.ok⟩⟩,a2.mono fun _ _ x=>.inr x,fun _ x=>.inl x,a3⟩
 ·rcases a3 k y with z | z
  ·exact L.apart k x z
  ·have:=L.wal.lt k x;omega
 ·rcases a3 k y with z | z
  ·exact HI.apart k x z
  ·have:=HI.lt k x;omega
theorem SideP.arm {w:World} {d:Nat} {F:Nat→Prop} {D:Dk} {o:Option St} {sv:Value} (h:SideP d D o sv w F):∃ F',DiskAt w d F' D∧(∀ k,F' k→F k)∧∀ w' n,DiskTo d F' w (DM.arm D n) w'→Turns (SideP d (DM.arm D n) o sv) F w w':=by
 cases o with
 | none=>
   obtain⟨e,h1⟩:=h
   exact⟨F,h1,fun _ x=>x,fun w' n ⟨Fd',a1,a2,a3⟩=>⟨Fd',⟨e,a1⟩,a2,a3⟩⟩
 | some S=>
   obtain⟨b,rfl,F1,F2,h1,rfl⟩:=h
   exact⟨F2,h1.diskAt,fun _ x=>.inr x,fun w' n ht=>(h1.arm ht).turns⟩
theorem SideR.arm {w:World} {d:Nat} {F:Nat→Prop} {D:Dk} {o:Option St} {sv:Value} (h:SideR d D o sv w F):∃ F',RefAt w d F' D∧(∀ k,F' k→F k)∧∀ w' n,RefTo d F' w (DM.arm D n) w'→Turns (SideR d (DM.arm D n) o sv) F w w':=by
 cases o with
 | none=>
   obtain⟨e,h1⟩:=h
   exact⟨F,h1,fun _ x=>x,fun w' n ⟨Fd',a1,a2,a3⟩=>⟨Fd',⟨e,a1⟩,a2,a3⟩⟩
 | some S=>
   obtain⟨b,rfl,F1,F2,h1,rfl⟩:=h
   exact⟨F2,h1.diskAt,fun _ x=>.inr x,fun w' n ht=>(h1.arm ht).turns⟩
end Go.Proofs.YtnidpeeljoaelaaGreat
namespace Go.Proofs.YtnidpeeljoaelaaGreat
open Go.RowKit Go.Maps
open MI SO BM DM WM
theorem Chs.far {W w:World} {ao:Option Addr} {n c:Nat} {l:List Ch} {F:Nat→Prop} (h:Chs W (.slice ao n c) l) (hk:Keep (fun _=>False) W w) (hF:∀ k,F k→W.heap.size≤k) :
  n=l.length∧Chs w (.slice ao n c) l∧(0<n→∀ x,ao=some x→¬ F x.block):=by
 have hn:n=l.length:=by obtain⟨ao',c',e,-⟩:=h;cases e;rfl
 refine⟨hn,SliceOf.keepF h hk (fun _ _ _ _ _ x=>x),fun hp x hx y=>?_⟩
 have:=h.lt (by omega) x hx
 have:=hF _ y
 omega
end Go.Proofs.YtnidpeeljoaelaaGreat
namespace Go.Proofs.YtnidpeeljoaelaaGreat
open Go.ChangeShapes Go.WideShapes Go.RowKit Go.Deep
open MI SO BM DM WM
theorem addr_add2 (a:Addr) (i j:Nat):(a.add i).add j=a.add (i+j):=by
 by_cases hi:i=0
 ·subst hi;simp[Addr.add]
 ·rw[add_pos a i (by omega)]
  by_cases hj:j=0
  ·subst hj;rw[Nat.add_zero,add_pos a i (by omega)];simp[Addr.add]
  ·rw[add_pos _ j (by omega),add_pos a (i+j) (by omega),Nat.add_assoc]
theorem SActs.row {w w':World} {ao:Option Addr} {m c:Nat} {l:List SAct} (h:SActs w (.slice ao m c) l) (hk:Keep (fun _=>False) w w') (i:Nat) (hi:i<l.length) :
  ∃ ad lv kv,ao=some ad∧(∀ j u,[Value.int .i64 l[i].kind,.int .i64 l[i].n,lv,kv][j]?=some u→w'.cell? ((ad.add (i * 4)).add j)=some u)∧Chs w lv l[i].list∧Ints w kv l[i].keep∧
   (-9223372036854775808≤l[i].kind∧l[i].kind≤9223372036854775807)∧(-9223372036854775808≤l[i].n∧l[i].n≤9223372036854775807):=by
 obtain⟨ao',c',hv,_,_,h3⟩:=h
 cases hv
 obtain⟨ad,rfl,h4⟩:=h3 (by omega)
 obtain⟨cs,_,⟨lv,kv,rfl,h5⟩,hc⟩:=h4 i hi
 refine⟨ad,lv,kv,rfl,fun j u hu=>?_,h5⟩
 rw[addr_add2]
 exact cell_old hk _ _ (hc j u hu)
theorem SActs.get {w w':World} {ao:Option Addr} {m c:Nat} {l:List SAct} (h:SActs w (.slice ao m c) l) (hk:Keep (fun _=>False) w w') (i:Nat) (hi:i<l.length) :
  ∃ ad lv kv,ao=some ad∧w'.cell? (ad.add (i * 4))=some (.int .i64 l[i].kind)∧w'.cell? { block:=(ad.add (i * 4)).block,off:=(ad.add (i * 4)).off+1 }=some (.int .i64 l[i].n)∧
   w'.cell? { block:=(ad.add (i * 4)).block,off:=(ad.add (i * 4)).off+2 }=some lv∧w'.cell? { block:=(ad.add (i * 4)).block,off:=(ad.add (i * 4)).off+3 }=some kv∧
   (∀ j u,[Value.int .i64 l[i].kind,.int .i64 l[i].n,lv,kv][j]?=some u→w'.cell? ((ad.add (i * 4)).add j)=some u)∧Chs w lv l[i].list∧Ints w kv l[i].keep∧
   (-9223372036854775808≤l[i].kind∧l[i].kind≤9223372036854775807)∧(-9223372036854775808≤l[i].n∧l[i].n≤9223372036854775807):=by
 obtain⟨ad,lv,kv,rfl,hc,h5⟩:=h.row hk i hi
 have h0:=hc 0 _ rfl
 have h1:=hc 1 _ rfl
 have h2:=hc 2 _ rfl
 have h3:=hc 3 _ rfl
 rw[add_pos _ _ (by decide)] at h1 h2 h3
 exact⟨ad,lv,kv,rfl,h0,h1,h2,h3,hc,h5⟩
abbrev sactV (x:SAct) (lv kv:Value):Value:=.agg #[.int .i64 x.kind,.int .i64 x.n,lv,kv]
def stepS (D:Dk) (o:Option St) (x:SAct):Dk×Option St:=
 if x.kind=5 then ((opS (DM.crash D x.keep)).2.2,(opS (DM.crash D x.keep)).2.1)
 else if x.kind=6 then (DM.arm D x.n,o)
 else match o with
 | none=>(D,none)
 | some S=>
   if x.kind=0∨x.kind=1∨x.kind=2 then ((doS D S x.list).2.1,some (doS D S x.list).2.2)
   else if x.kind=3 then ((syS D S).2.1,some (syS D S).2.2)
   else if x.kind=4 then ((cpS D S).2.1,some (cpS D S).2.2)
   else (D,some S)
def few (o:Option St) (n:Nat):Prop:=∀ S,o=some S→S.dead=false→S.ps.length≤n
end Go.Proofs.YtnidpeeljoaelaaGreat
namespace Go.Proofs.YtnidpeeljoaelaaGreat.SO
open Go.Proofs.YtnidpeeljoaelaaGreat MI BM DM WM
theorem append_spec {D:Dk} (h6:6≤D.safe.length) (G:Lg) (b:List UInt8) :
  ((WM.append D G b).1=0∧(WM.append D G b).2.2 = { G with l:=G.l ++ [b],dead:=false }∧(flat (G.l ++ [b])).length≤32 * half D∧b.length≤1024∧gone D G=false)∨(WM.append D G b).1=6∨(((WM.append D G b).1=3∨(WM.append D G b).1=5)∧(WM.append D G b).2=(D,G)∧gone D G=false):=by
 unfold WM.append
 split
 ·exact .inr (.inl rfl)
 ·rename_i hg
  have hg:gone D G=false:=by simpa using hg
  split
  ·exact .inr (.inr ⟨.inl rfl,rfl,hg⟩)
  ·rename_i h3
   split
   ·exact .inr (.inr ⟨.inr rfl,rfl,hg⟩)
   ·rename_i hr
    have hf:=flat_snoc G.l b
    unfold room at hr
    have hfit:(flat (G.l ++ [b])).length≤32 * half D:=by omega
    have ha:(area D (G.l ++ [b])).length=32 * half D:=areaH_length hfit
    obtain⟨-,-,h4,-⟩:=lay_waits_all G.ep (area D (G.l ++ [b])) (((flat (G.l ++ [b])).length - 1) / 32 - (flat G.l).length / 32+1) ((flat G.l).length / 32) D h6 (by omega) ha
    simp only
    by_cases h0:(lay G.ep (area D (G.l ++ [b])) ((flat G.l).length / 32) (((flat (G.l ++ [b])).length - 1) / 32 - (flat G.l).length / 32+1) D).1=0
    ·exact .inl ⟨h0,by rw[h0];rfl,hfit,by omega,hg⟩
    ·exact .inr (.inl (h4 h0))
theorem headSec_len (ep:Nat):(headSec ep).length=32:=by
 have h1:=putU_le 10 ep
 have h2:=frame_length 1 (putUint ep)
 have h3:(putUint ep).length≤10:=h1
 unfold headSec
 rw[List.length_append,List.length_replicate]
 omega
theorem reset_spec {D:Dk} (h6:6≤D.safe.length) (G:Lg) (L:List (List UInt8)) :
  ((WM.reset D G L).1=0∧(WM.reset D G L).2.2=⟨G.ep+1,L,L.length,false⟩∧(flat L).length≤32 * half D∧gone D G=false)∨(WM.reset D G L).1=6∨(((WM.reset D G L).1=3∨(WM.reset D G L).1=5)∧(WM.reset D G L).2=(D,G)∧gone D G=false):=by
 unfold WM.reset
 split
 ·exact .inr (.inl rfl)
 ·rename_i hg
  have hg:gone D G=false:=by simpa using hg
  split
  ·exact .inr (.inr ⟨.inl rfl,rfl,hg⟩)
  ·split
   ·exact .inr (.inr ⟨.inr rfl,rfl,hg⟩)
   ·rename_i hf
    have hfit:(flat L).length≤32 * half D:=by omega
    obtain⟨h1,-⟩:=turn_all h6 (G.ep+1) (area D L) (areaH_length hfit) (headSec_len _)
    simp only
    split
    ·rename_i h0;exact .inl ⟨rfl,rfl,hfit,hg⟩
    ·rename_i h0;exact .inr (.inl (h1 h0))
theorem lay1_end:∀ (q:List (Str×Str)) (k v:Str),(∀ p ∈ q,p.1<k)→lay1 q ⟨k,v,false⟩=q ++ [(k,v)]
 | [],k,v,_=>rfl
 | p :: q,k,v,h=>by
   unfold lay1
   rw[if_pos (h p (by simp)),lay1_end q k v (fun p hp=>h p (by simp[hp]))]
   rfl
theorem decL_cp:∀ (ps q:List (Str×Str)),Sorted (q ++ ps)→(∀ p ∈ ps,OkP p)→decL (cpL ps) q=some (q ++ ps)
 | [],q,_,_=>by simp[cpL,decL]
 | p :: ps,q,hs,ho=>by
   have hp:=ho p (by simp)
   have hr:=right_one hp
   have hl:=enc_len hr
   have hd:=enc_dec hr (by simp at hl;omega)
   show decL (enc [⟨p.1,p.2,false⟩] :: cpL ps) q=_
   unfold decL
   rw[hd]
   have e:layL q [⟨p.1,p.2,false⟩]=q ++ [p]:=by
    show lay1 q ⟨p.1,p.2,false⟩=_
    rw[lay1_end q p.1 p.2 (fun a ha=>(List.pairwise_append.1 hs).2.2 a ha p (by simp))]
   simp only
   rw[e,decL_cp ps (q ++ [p]) (by simpa using hs) (fun a ha=>ho a (by simp[ha]))]
   simp
theorem decL_len:∀ (L:List (List UInt8)) (ps q:List (Str×Str)),decL L ps=some q→q.length≤ps.length+32 * L.length
 | [],ps,q,h=>by cases h;simp
 | b :: L,ps,q,h=>by
   unfold decL at h
   cases hd:dec b with
   | none=>rw[hd] at h;cases h
   | some l=>
     rw[hd] at h
     have h1:=decL_len L _ q h
     have h2:=layL_len l ps
     have h3:=(dec_len hd).1
     simp only[List.length_cons]
     omega
def Okay (S:St):Prop:=S.dead=false→decL S.g.l []=some S.ps
def OkO (o:Option St):Prop:=∀ S,o=some S→Okay S
theorem Okay.few {S:St} (h:Okay S) (hl:S.g.l.length≤4000):S.dead=false→S.ps.length≤128000:=fun hd=>by
 have:=decL_len _ _ _ (h hd)
 simp at this
 omega
theorem Okay.mark {D:Dk} {S S2:St} (h:Okay S) (hs:S2=S∨S2=markS D S):Okay S2:=by
 obtain⟨h1,h2,h3,-⟩:=sim_ps hs
 intro hd
 rw[h1,h3]
 exact h (by rw[← h2];exact hd)
theorem okay_ap {D:Dk} (h6:6≤D.safe.length) {S:St} (h:Okay S) (hd:S.dead=false) {l:List Ch} (he:encE l=0) :
  ((apS D S (enc l)).1=0→(apS D S (enc l)).2.2.dead=false∧decL (apS D S (enc l)).2.2.g.l []=some (layL S.ps l))∧((apS D S (enc l)).1≠0→Okay (apS D S (enc l)).2.2):=by
 obtain⟨hl,hr⟩:=wbytes l he
 unfold apS
 rcases append_spec h6 S.g (enc l) with ⟨h0,h1,-⟩ | h1 | ⟨h0,h1,-⟩
 ·refine⟨fun _=>⟨by simp only;rw[h0];rfl,?_⟩,fun hne=>absurd h0 hne⟩
  simp only
  rw[h1]
  simp only
  rw[decL_append,h hd]
  simp only[decL]
  rw[enc_dec hr hl]
 ·refine⟨fun h0=>(by simp only at h0;rw[h1] at h0;cases h0),fun _ hd'=>?_⟩
  simp only at hd'
  rw[h1] at hd'
  cases hd'
 ·refine⟨fun h2=>(by simp only at h2;rcases h0 with h0 | h0 <;> rw[h0] at h2 <;> cases h2),fun _ _=>?_⟩
  simp only
  rw[h1]
  exact h hd
theorem okay_cp {D:Dk} (h6:6≤D.safe.length) {S:St} (h:Okay S) (hp:PsOk S.ps):Okay (cpS D S).2.2:=by
 unfold cpS
 split
 ·exact h
 ·rename_i hd
  rcases reset_spec h6 S.g (cpL S.ps) with ⟨h0,h1,-⟩ | h1 | ⟨h0,h1,-⟩
  ·intro _
   simp only
   rw[h1]
   exact decL_cp S.ps [] (by simpa using hp.sorted) hp.each
  ·intro hd'
   simp only at hd'
   rw[h1] at hd'
   cases hd'
  ·intro _
   simp only
   rw[h1]
   exact h (by simpa using hd)
theorem cpS_len (D:Dk) (S:St):(cpS D S).2.1.safe.length=D.safe.length:=by
 unfold cpS
 split
 ·rfl
 ·exact reset_len D S.g _
theorem okay_do {D:Dk} (h6:6≤D.safe.length) {S:St} (h:Okay S) (hp:PsOk S.ps) (l:List Ch):Okay (doS D S l).2.2:=by
 unfold doS
 split
 ·exact h
 ·rename_i hd
  have hd:S.dead=false:=by simpa using hd
  split
  ·exact h
  ·rename_i he
   have he:encE l=0:=by omega
   obtain⟨a1,a2⟩:=okay_ap h6 h hd he
   have hcp:=okay_cp (D:=D) h6 h hp
   have key:((intoS D S (enc l)).1=0→(intoS D S (enc l)).2.2.dead=false∧decL (intoS D S (enc l)).2.2.g.l []=some (layL S.ps l))∧((intoS D S (enc l)).1≠0→Okay (intoS D S (enc l)).2.2):=by
    unfold intoS
    split
    ·rename_i h5
     have hk:=a2 (by omega)
     have hps:(apS D S (enc l)).2.2.ps=S.ps:=rfl
     have h6':6≤(apS D S (enc l)).2.1.safe.length:=by
      show 6≤(WM.append D S.g (enc l)).2.1.safe.length
      rw[append_len];exact h6
     have hk2:=okay_cp h6' hk (by rw[hps];exact hp)
     split
     ·rename_i hc
      have hdd:=cpS_dead hc
      have:=okay_ap (D:=(cpS (apS D S (enc l)).2.1 (apS D S (enc l)).2.2).2.1) (by rw[cpS_len];exact h6') hk2 hdd he
      rw[cpS_ps,hps] at this
      exact this
     ·rename_i hc
      exact⟨fun h0=>absurd h0 hc,fun _=>hk2⟩
    ·exact⟨a1,a2⟩
   unfold laidS
   by_cases h0:(intoS D S (enc l)).1=0
   ·rw[if_pos h0]
    intro _
    simp only
    rw[intoS_ps]
    exact(key.1 h0).2
   ·rw[if_neg h0]
    exact key.2 h0
theorem okay_sy (D:Dk) {S:St} (h:Okay S):Okay (syS D S).2.2:=by
 unfold syS
 split
 ·exact h
 ·rename_i hd
  intro _
  have e:(WM.syncW D S.g).2.2.l=S.g.l:=by
   unfold WM.syncW
   split
   ·rfl
   ·simp only
    split <;> rfl
  simp only
  rw[e]
  exact h (by simpa using hd)
theorem okay_op (D:Dk):OkO (opS D).2.1:=by
 intro S hS _
 unfold opS at hS
 split at hS
 ·cases hS
 ·rename_i g hg
  split at hS
  ·cases hS
  ·rename_i ps hp
   cases hS
   exact hp
theorem okay_step {D:Dk} {o:Option St} (h6:o≠none→6≤D.safe.length) (h:OkO o) (hp:∀ S,o=some S→PsOk S.ps) (x:SAct):OkO (stepS D o x).2:=by
 unfold stepS
 split
 ·exact okay_op _
 ·split
  ·exact h
  ·cases o with
   | none=>intro S hS;cases hS
   | some S=>
     have h6:=h6 (by simp)
     have hS:=h S rfl
     have hP:=hp S rfl
     simp only
     split
     ·intro S' e;cases e;exact okay_do h6 hS hP _
     ·split
      ·intro S' e;cases e;exact okay_sy D hS
      ·split
       ·intro S' e;cases e;exact okay_cp h6 hS hP
       ·exact h
theorem doS_waits {D:Dk} (h:D.safe.length≤2048) (S:St) (l:List Ch):(doS D S l).2.1.waits.length≤D.waits.length+5120:=by
 have ha:∀ (D:Dk) (S:St) (b:List UInt8),D.safe.length≤2048→(apS D S b).2.1.waits.length≤D.waits.length+2048:=fun D S b h=>append_waits h S.g b
 have hi:(intoS D S (enc l)).2.1.waits.length≤D.waits.length+5120:=by
  have h1:=ha D S (enc l) h
  have hl:(apS D S (enc l)).2.1.safe.length≤2048:=by
   show (WM.append D S.g (enc l)).2.1.safe.length≤2048
   rw[append_len];exact h
  have h2:=cpS_waits hl (S:=(apS D S (enc l)).2.2)
  unfold intoS
  split
  ·split
   ·have h3:=ha (cpS (apS D S (enc l)).2.1 (apS D S (enc l)).2.2).2.1 (cpS (apS D S (enc l)).2.1 (apS D S (enc l)).2.2).2.2 (enc l) (by rw[cpS_len];exact hl)
    omega
   ·omega
  ·omega
 unfold doS
 split
 ·exact Nat.le_add_right _ _
 ·split
  ·exact Nat.le_add_right _ _
  ·exact hi
theorem syS_waits (D:Dk) (S:St):(syS D S).2.1.waits.length≤D.waits.length:=by
 unfold syS
 split
 ·exact Nat.le_refl _
 ·exact syncW_waits D S.g
theorem opS_waits {D:Dk} (h:D.safe.length≤2048):(opS D).2.2.waits.length≤D.waits.length+1024:=by
 have:=openW_waits h
 unfold opS
 split
 ·exact this
 ·split <;> exact this
theorem stepS_waits {D:Dk} (h:D.safe.length≤2048) (o:Option St) (x:SAct):(stepS D o x).1.waits.length≤D.waits.length+5120:=by
 unfold stepS
 split
 ·have:=opS_waits (D:=DM.crash D x.keep) (by simp[DM.crash,tear_length];exact h)
  have e:(DM.crash D x.keep).waits.length=0:=rfl
  simp only
  omega
 ·split
  ·exact Nat.le_add_right _ _
  ·cases o with
   | none=>exact Nat.le_add_right _ _
   | some S=>
     simp only
     split
     ·exact doS_waits h S _
     ·split
      ·exact Nat.le_trans (syS_waits D S) (Nat.le_add_right _ _)
      ·split
       ·exact Nat.le_trans (cpS_waits h) (by omega)
       ·exact Nat.le_add_right _ _
end Go.Proofs.YtnidpeeljoaelaaGreat.SO
namespace Go.Proofs.YtnidpeeljoaelaaGreat.SO
open Go.Proofs.YtnidpeeljoaelaaGreat MI BM DM WM
structure OnDisk (D:Dk) (G:Lg):Prop where
 calm:Calm D
 ok:Ok D
 h6:6≤D.safe.length
 dead:G.dead=false
 ep:WM.epoch D=G.ep
 epb:G.ep<4611686018427387904
 small:∀ r ∈ G.l,r.length≤1024
 fit:(flat G.l).length≤32 * half D
 area:∀ i,i<half D→nowAt D (WM.first D G.ep+i)=secOf (areaH (half D) G.l) i
theorem OnDisk.gone {D:Dk} {G:Lg} (h:OnDisk D G):WM.gone D G=false:=by unfold WM.gone;rw[h.dead,h.calm.2];rfl
theorem OnDisk.sync {D:Dk} {G:Lg} (h:OnDisk D G):WM.syncW D G=(0,{ D with safe:=now D,waits:=[] },{ G with safe:=G.l.length })∧OnDisk { D with safe:=now D,waits:=[] } { G with safe:=G.l.length }:=by
 have hs:=sync_calm h.calm
 have hl:({ D with safe:=now D,waits:=[] }:Dk).safe.length=D.safe.length:=now_length D
 have hn:∀ p,nowAt { D with safe:=now D,waits:=[] } p=nowAt D p:=fun p=>nowAt_flat rfl rfl p
 have hh:half { D with safe:=now D,waits:=[] }=half D:=half_eq hl
 have hf:∀ e,WM.first { D with safe:=now D,waits:=[] } e=WM.first D e:=fun e=>by unfold WM.first;rw[hh]
 refine⟨?_,⟨h.calm,?_,by rw[hl];exact h.h6,h.dead,?_,h.epb,h.small,by rw[hh];exact h.fit,fun i hi=>?_⟩⟩
 ·unfold WM.syncW
  rw[h.gone,hs]
  rfl
 ·have:=h.ok.sync
  rw[hs] at this
  exact this
 ·have:=epoch_eq (D:=D) (E:={ D with safe:=now D,waits:=[] }) h.calm.2 h.calm.2 (by have:=h.h6;omega) hl (fun i _=>hn i)
  rw[this];exact h.ep
 ·rw[hh] at hi ⊢
  rw[hf,hn]
  exact h.area i hi
theorem lay_ok (ep:Nat) (b:List UInt8):∀ k i (D:Dk),Ok D→Ok (lay ep b i k D).2
 | 0,_,_,h=>h
 | k+1,i,D,h=>by
   unfold lay
   simp only
   split
   ·exact lay_ok ep b k (i+1) _ (h.write _ _)
   ·exact h.write _ _
theorem turn_ok (ep:Nat) (b:List UInt8) (D:Dk) (h:Ok D):Ok (turnW ep b D).2:=by
 have h1:=lay_ok ep b (half D) 0 D h
 unfold turnW
 simp only
 split
 ·exact h1
 ·split
  ·exact h1.sync
  ·split
   ·exact h1.sync.write _ _
   ·exact(h1.sync.write _ _).sync
theorem OnDisk.append {D:Dk} {G:Lg} (h:OnDisk D G) {b:List UInt8} (hb:b.length≤1024) :
  WM.append D G b=(5,D,G)∨((WM.append D G b).1=0∧(WM.append D G b).2.2 = { G with l:=G.l ++ [b] }∧OnDisk (WM.append D G b).2.1 { G with l:=G.l ++ [b] }):=by
 have hc:=append_calm h.calm h.h6 h.dead h.fit hb
 split at hc
 ·exact .inl hc
 ·rename_i hr
  right
  obtain⟨c1,c2,c3,c4⟩:=hc
  have hsn:=flat_snoc G.l b
  unfold room at hr
  have hfit:(flat (G.l ++ [b])).length≤32 * half D:=by omega
  have hal:(areaH (half D) (G.l ++ [b])).length=32 * half D:=areaH_length hfit
  have hal0:(areaH (half D) G.l).length=32 * half D:=areaH_length h.fit
  have hA:WM.area D (G.l ++ [b])=areaH (half D) (G.l ++ [b]):=rfl
  obtain⟨a1,-,-,a5⟩:=lay_waits_all G.ep (WM.area D (G.l ++ [b])) (((flat (G.l ++ [b])).length - 1) / 32 - (flat G.l).length / 32+1) ((flat G.l).length / 32) D h.h6 (by omega) hal
  have hr2:(WM.append D G b).2.1=(lay G.ep (WM.area D (G.l ++ [b])) ((flat G.l).length / 32) (((flat (G.l ++ [b])).length - 1) / 32 - (flat G.l).length / 32+1) D).2∧(WM.append D G b).1=(lay G.ep (WM.area D (G.l ++ [b])) ((flat G.l).length / 32) (((flat (G.l ++ [b])).length - 1) / 32 - (flat G.l).length / 32+1) D).1:=by
   unfold WM.append
   rw[h.gone,if_neg (by simp),if_neg (by omega),if_neg (by unfold room;omega)]
   exact⟨rfl,rfl⟩
  obtain⟨r,hr0⟩:∃ r,r=lay G.ep (WM.area D (G.l ++ [b])) ((flat G.l).length / 32) (((flat (G.l ++ [b])).length - 1) / 32 - (flat G.l).length / 32+1) D:=⟨_,rfl⟩
  rw[← hr0] at a1 a5 hr2
  have hz:r.1=0:=by rw[← hr2.2];exact c1
  have hok:Ok (WM.append D G b).2.1:=by
   rw[hr2.1,hr0]
   exact lay_ok G.ep _ _ _ _ h.ok
  have hl:(WM.append D G b).2.1.safe.length=D.safe.length:=by rw[c4]
  have hh:half (WM.append D G b).2.1=half D:=half_eq hl
  have hf:∀ e,WM.first (WM.append D G b).2.1 e=WM.first D e:=fun e=>by unfold WM.first;rw[hh]
  have hnw:∀ p,p<2→nowAt (WM.append D G b).2.1 p=nowAt D p:=fun p hp=>by
   rw[hr2.1]
   exact(a5 hz p).2 fun j _ _=>by have:=first_ge D G.ep;omega
  refine⟨c1,c2,c3,hok,by rw[hl];exact h.h6,h.dead,?_,h.epb,fun r hr=>?_,by rw[hh];exact hfit,fun i hi=>?_⟩
  ·rw[epoch_eq h.calm.2 c3.2 (by have:=h.h6;omega) hl hnw];exact h.ep
  ·rcases List.mem_append.1 hr with x | x
   ·exact h.small r x
   ·simp at x;subst x;exact hb
  ·rw[hh] at hi ⊢
   rw[hf,hr2.1]
   obtain⟨b1,b2⟩:=a5 hz (WM.first D G.ep+i)
   by_cases hin:(flat G.l).length / 32≤i∧i<(flat G.l).length / 32+(((flat (G.l ++ [b])).length - 1) / 32 - (flat G.l).length / 32+1)
   ·exact b1 i hin.1 hin.2 rfl
   ·rw[b2 (fun j j1 j2=>by omega),h.area i hi]
    refine secOf_ext hal0 hal hi fun k hk=>?_
    have hin':i<(flat G.l).length / 32∨((flat (G.l ++ [b])).length - 1) / 32<i:=by omega
    rcases hin' with q | q
    ·have hq1:32 * i+k<(flat G.l).length:=by omega
     have hq2:32 * i+k<(flat (G.l ++ [b])).length:=by omega
     rw[area_get _ _ hq1,area_get _ _ hq2]
     have he:flat (G.l ++ [b])=flat G.l ++ flat [b]:=by simp[flat]
     rw[he,List.getElem?_append_left hq1]
    ·have hq1:(flat G.l).length≤32 * i+k:=by omega
     have hq2:(flat (G.l ++ [b])).length≤32 * i+k:=by omega
     rw[area_nought _ _ hq1 (by omega),area_nought _ _ hq2 (by omega)]
theorem head_new {D:Dk} (hd:D.down=false) (h2:2≤D.safe.length) {n:Nat} (hn:n<4611686018427387904) (h:nowAt D (n % 2)=headSec n):WM.head D (n % 2)=some n:=by
 have hlt:n % 2<2:=Nat.mod_lt _ (by decide)
 have hl:(putUint n).length≤10:=putU_le 10 n
 rw[head_at hd (by omega) _ h]
 have hg:=get_found [] (List.replicate (32 - (frame 1 (putUint n)).length) 0) 1 (putUint n) (by omega)
 simp only[List.nil_append,List.length_nil] at hg
 have he:headSec n=frame 1 (putUint n) ++ List.replicate (32 - (frame 1 (putUint n)).length) 0:=rfl
 rw[he,hg]
 have hu:=put_uint (b:=putUint n) (at_:=0) (n:=n) (rest:=[]) (by omega) (by simp) (Nat.zero_le _)
 simp only[Nat.zero_add] at hu
 simp only[hu]
 simp[hn]
theorem head_le {D:Dk} {i n:Nat} (hi:i<2) (h:WM.head D i=some n):n≤WM.epoch D:=by
 unfold WM.epoch
 have:i=0∨i=1:=by omega
 rcases this with rfl | rfl <;> rw[h] <;> simp <;> omega
theorem epoch_new {D:Dk} {n:Nat} (hd:D.down=false) (h2:2≤D.safe.length) (hn:n<4611686018427387904) (h:nowAt D (n % 2)=headSec n) (ho:(WM.head D ((n+1) % 2)).getD 0≤n):WM.epoch D=n:=by
 have hh:=head_new hd h2 hn h
 unfold WM.epoch
 have:n % 2=0∨n % 2=1:=by omega
 rcases this with h0 | h0
 ·rw[h0] at hh
  rw[show (n+1) % 2=1 by omega] at ho
  rw[hh];simp;omega
 ·rw[h0] at hh
  rw[show (n+1) % 2=0 by omega] at ho
  rw[hh];simp;omega
theorem OnDisk.reset {D:Dk} {G:Lg} (h:OnDisk D G) (L:List (List UInt8)) (hL:∀ r ∈ L,r.length≤1024) :
  WM.reset D G L=(5,D,G)∨((WM.reset D G L).1=0∧(WM.reset D G L).2.2=⟨G.ep+1,L,L.length,false⟩∧OnDisk (WM.reset D G L).2.1 ⟨G.ep+1,L,L.length,false⟩):=by
 have hany:L.any (fun b=>decide (1024<b.length))=false:=by
  rw[List.any_eq_false]
  intro r hr
  have:=hL r hr
  simp;omega
 by_cases hf:32 * half D<(flat L).length∨G.ep+1=4611686018427387904
 ·left
  unfold WM.reset
  rw[h.gone,if_neg (by simp),hany,if_neg (by simp),if_pos hf]
 ·right
  have hfit:(flat L).length≤32 * half D:=by omega
  have hal:(WM.area D L).length=32 * half D:=areaH_length hfit
  obtain⟨c1,c2⟩:=turn_calm h.calm h.h6 (G.ep+1) (WM.area D L) hal (headSec_len _)
  obtain⟨-,t2⟩:=turn_all h.h6 (G.ep+1) (WM.area D L) hal (headSec_len _)
  obtain⟨-,t3,t4,t5⟩:=t2 c1
  have hr:WM.reset D G L=(0,(turnW (G.ep+1) (WM.area D L) D).2,⟨G.ep+1,L,L.length,false⟩):=by
   unfold WM.reset
   rw[h.gone,if_neg (by simp),hany,if_neg (by simp),if_neg hf]
   simp only
   rw[if_pos c1]
  have hok:=turn_ok (G.ep+1) (WM.area D L) D h.ok
  have hl:=turnW_len (G.ep+1) (WM.area D L) D
  obtain⟨E,hE⟩:∃ E,E=(turnW (G.ep+1) (WM.area D L) D).2:=⟨_,rfl⟩
  rw[← hE] at c2 t3 t4 t5 hok hl hr
  rw[hr]
  have hh:half E=half D:=half_eq hl
  have hfi:∀ e,WM.first E e=WM.first D e:=fun e=>by unfold WM.first;rw[hh]
  have hepb:=h.epb
  refine⟨rfl,rfl,⟨c2,hok,by rw[hl];exact h.h6,rfl,?_,by simp only;omega,hL,by rw[hh];exact hfit,fun i hi=>?_⟩⟩
  ·have h6:=h.h6
   refine epoch_new c2.2 (show 2≤E.safe.length by omega) (show G.ep+1<4611686018427387904 by omega) t4 ?_
   have hp:(G.ep+1+1) % 2<2:=Nat.mod_lt _ (by decide)
   have he:WM.head E ((G.ep+1+1) % 2)=WM.head D ((G.ep+1+1) % 2):=by
    refine head_eq h.calm.2 c2.2 (by omega) (by omega) (t5 _ (by omega) fun j _=>?_)
    have:=first_ge D (G.ep+1)
    omega
   rw[he]
   cases hx:WM.head D ((G.ep+1+1) % 2) with
   | none=>exact Nat.zero_le _
   | some n=>
     have:=head_le hp hx
     rw[h.ep] at this
     simp only[Option.getD_some]
     omega
  ·rw[hh] at hi ⊢
   rw[hfi]
   exact t3 i hi
structure Sound (D:Dk) (S:St):Prop where
 disk:OnDisk D S.g
 dead:S.dead=false
 okay:Okay S
 ok:PsOk S.ps
theorem cpL_small {ps:List (Str×Str)} (h:∀ p ∈ ps,OkP p):∀ r ∈ cpL ps,r.length≤1024:=fun r hr=>by
 unfold cpL at hr
 obtain⟨p,hp,rfl⟩:=List.mem_map.1 hr
 have:=enc_len (right_one (h p hp))
 simp at this
 omega
theorem Sound.cp {D:Dk} {S:St} (h:Sound D S):Sound (cpS D S).2.1 (cpS D S).2.2∧(((cpS D S).1=5∧(cpS D S).2=(D,S))∨((cpS D S).1=0∧(cpS D S).2.2.g.safe=(cpS D S).2.2.g.l.length)):=by
 have hk:=okay_cp (D:=D) h.disk.h6 h.okay h.ok
 rcases h.disk.reset (cpL S.ps) (cpL_small h.ok.each) with hr | ⟨h1,h2,h3⟩
 ·have e:cpS D S=(5,D,S):=by
   unfold cpS
   rw[h.dead,if_neg (by simp),hr]
   show ((5:Int),D,(⟨S.g,S.ps,decide ((5:Int)=6)⟩:St))=_
   rw[show decide ((5:Int)=6)=S.dead by rw[h.dead];rfl]
  rw[e]
  exact⟨h,.inl ⟨rfl,rfl⟩⟩
 ·have e:cpS D S=(0,(WM.reset D S.g (cpL S.ps)).2.1,⟨⟨S.g.ep+1,cpL S.ps,(cpL S.ps).length,false⟩,S.ps,false⟩):=by
   unfold cpS
   rw[h.dead,if_neg (by simp),h2,h1]
   rfl
  rw[e] at hk ⊢
  exact⟨⟨h3,rfl,hk,h.ok⟩,.inr ⟨rfl,rfl⟩⟩
theorem Sound.ap {D:Dk} {S:St} (h:Sound D S) {l:List Ch} (he:encE l=0) :
  ((apS D S (enc l)).1=5∧(apS D S (enc l)).2=(D,S))∨((apS D S (enc l)).1=0∧OnDisk (apS D S (enc l)).2.1 (apS D S (enc l)).2.2.g∧(apS D S (enc l)).2.2.dead=false):=by
 obtain⟨hl,-⟩:=wbytes l he
 unfold apS
 rcases h.disk.append hl with hr | ⟨h1,h2,h3⟩
 ·left
  rw[hr]
  refine⟨rfl,?_⟩
  show (D,(⟨S.g,S.ps,decide ((5:Int)=6)⟩:St))=_
  rw[show decide ((5:Int)=6)=S.dead by rw[h.dead];rfl]
 ·right
  refine⟨h1,?_,by simp only;rw[h1];rfl⟩
  simp only
  rw[h2]
  exact h3
theorem Sound.do {D:Dk} {S:St} (h:Sound D S) (l:List Ch):Sound (doS D S l).2.1 (doS D S l).2.2:=by
 have hk:=okay_do h.disk.h6 h.okay h.ok l
 unfold doS at hk ⊢
 rw[h.dead] at hk ⊢
 simp only[Bool.false_eq_true,if_false] at hk ⊢
 by_cases he:encE l=0
 ·rw[if_neg (by omega)] at hk ⊢
  have hps:=intoS_ps D S (enc l)
  have key:OnDisk (intoS D S (enc l)).2.1 (intoS D S (enc l)).2.2.g∧(intoS D S (enc l)).2.2.dead=false:=by
   unfold intoS
   rcases h.ap he with ⟨a1,a2⟩ | ⟨a1,a2,a3⟩
   ·rw[if_pos a1,a2]
    simp only
    obtain⟨hc,hcc⟩:=h.cp
    split
    ·rename_i h0
     rcases hc.ap he with ⟨b1,b2⟩ | ⟨b1,b2,b3⟩
     ·rw[b2]
      exact⟨hc.disk,hc.dead⟩
     ·exact⟨b2,b3⟩
    ·exact⟨hc.disk,hc.dead⟩
   ·rw[if_neg (by omega)]
    exact⟨a2,a3⟩
  have hps2:PsOk (layL S.ps l):=h.ok.layL (right_all (wbytes l he).2).2
  unfold laidS at hk ⊢
  by_cases h0:(intoS D S (enc l)).1=0
  ·rw[if_pos h0] at hk ⊢
   rw[hps] at hk ⊢
   exact⟨key.1,key.2,hk,hps2⟩
  ·rw[if_neg h0] at hk ⊢
   exact⟨key.1,key.2,hk,by rw[hps];exact h.ok⟩
 ·rw[if_pos he]
  exact h
end Go.Proofs.YtnidpeeljoaelaaGreat.SO
namespace Go.Proofs.YtnidpeeljoaelaaGreat
open Go.RowKit Go.Maps
open MI SO BM DM WM
section
variable {P:Program} {o:Oper} {a:Act} {w:World} {K:Act→World→Prop} {Q:Exit→Act→World→Prop}
end
structure Facts2 (D:Dk) (S:St):Prop where
 size:6≤D.safe.length
 ok:PsOk S.ps
 count:S.g.l.length≤4000
 safe:S.g.safe≤S.g.l.length
 lg:LgOk (half D) S.g
theorem StoAt.facts {w:World} {b d:Nat} {F Fd:Nat→Prop} {D:Dk} {S:St} (h:StoAt w b d F Fd D S):Facts2 D S:=by
 have hok:=h.ok
 obtain⟨wb,mb,m,Fl,H⟩:=h
 have hl:=H.log.ok
 exact⟨by have:=hl.two;unfold half at this;omega,hok,hl.count,hl.safe,hl⟩
theorem PairS.facts {W w:World} {p:Nat} {D:Dk} {o:Option St} (h:PairS W p D o w):Ok D∧∀ S,o=some S→Facts2 D S:=by
 obtain⟨o2,-,d,m,sv,rv,A,F,G,h⟩:=h
 refine⟨?_,fun S e=>?_⟩
 ·obtain⟨F',h1,-⟩:=h.two.disk
  exact DiskAt.ok h1
 ·subst e
  obtain⟨b,-,F1,F2,h1,-⟩:=h.two
  exact h1.facts
theorem PairS.few {W w:World} {p:Nat} {D:Dk} {o:Option St} (h:PairS W p D o w) (ho:OkO o):few o 128000:=fun S e=>(ho S e).few (h.facts.2 S e).count
theorem PairS.step {W w:World} {p:Nat} {D:Dk} {o:Option St} (h:PairS W p D o w) (ho:OkO o) (x:SAct):OkO (stepS D o x).2∧(stepS D o x).1.waits.length≤D.waits.length+5120:=by
 refine⟨okay_step (fun hne=>?_) ho (fun S e=>(h.facts.2 S e).ok) x,stepS_waits h.facts.1.few o x⟩
 cases o with
 | none=>exact absurd rfl hne
 | some S=>exact(h.facts.2 S rfl).size
end Go.Proofs.YtnidpeeljoaelaaGreat
namespace Go.Proofs.YtnidpeeljoaelaaGreat
open Go.RowKit Go.Maps Go.Shelf
open MI SO BM DM WM
attribute [local go_sem] Oper.semAt_some
theorem o_open60:opS (DM.new 60)=(0,some nS0,DM.new 60):=by kernel_rfl
structure OrRel (W:World) (p k:Nat) (wr:World):Prop where
 ex:∃ D S d m b rv A F1 F2,Two W (BoxT p (pairC d m (.pointer (some ⟨b,0,none⟩)) rv) 38) A (SideP d D (some S) (.pointer (some ⟨b,0,none⟩))) (fun k=>F1 k∨F2 k) wr∧StoAt wr b d F1 F2 D S∧Okay S∧D.waits.length≤5120 * k
theorem OrRel.do {W w w':World} {p k d m b:Nat} {rv:Value} {A F1 F2:Nat→Prop} {D:Dk} {S:St} (T:Two W (BoxT p (pairC d m (.pointer (some ⟨b,0,none⟩)) rv) 38) A (SideP d D (some S) (.pointer (some ⟨b,0,none⟩))) (fun k=>F1 k∨F2 k) w) (hst:StoAt w b d F1 F2 D S)
  (hO:Okay S) (hw:D.waits.length≤5120 * k) (l:List Ch) (ht:StoTo b d F1 F2 w (doS D S l).2.1 (doS D S l).2.2 w'):OrRel W p (k+1) w':=by
 obtain⟨F',T'⟩:=T.turn2 (BoxT.lives _ _ _) ht.turns
 obtain⟨b',e',G1,G2,h1,rfl⟩:=T'.two
 cases e'
 have hf:=hst.facts
 refine⟨_,_,d,m,b,rv,A,G1,G2,T',h1,okay_do hf.size hO hf.ok l,?_⟩
 have:=doS_waits (DiskAt.ok hst.diskAt).few S l
 omega
theorem chs_one (w:World):Chs (w.alloc (.cells #[.string (str [110,101,119]),.string (str [49]),.bool false] 51)) (.slice (some ⟨w.heap.size,0,none⟩) 1 1) [⟨[110,101,119],[49],false⟩]:=
 Chs.of_row ⟨rfl,.inr ⟨_,1,_,(0,0),rfl,heap_alloc_new w _,Free.zero _,Nat.le_refl _,by decide,rfl,rfl⟩⟩ (fun c hc=>by
  simp at hc
  subst hc
  exact⟨by decide,by decide⟩)
theorem o_behind {w wa wc w3 w7 w8:World} {p d m b:Nat} {rv:Value} {A F1 F2:Nat→Prop} {D D':Dk} {S S':St} (T:Two wa (BoxT p (pairC d m (.pointer (some ⟨b,0,none⟩)) rv) 38) A (SideP d D (some S) (.pointer (some ⟨b,0,none⟩))) (fun k=>F1 k∨F2 k) wc)
  (hst:StoAt wc b d F1 F2 D S) (hk0:Keep (fun _=>False) w wa) (hk3:Keep (fun _=>False) wc w3) (hk7:Keep (fun _=>False) w3 w7) (ht:StoTo b d F1 F2 w7 D' S' w8) :
  Keep (fun _=>False) wa w8∧Keep (fun k=>k<wc.heap.size∨w3.heap.size≤k) w3 w8∧(∀ k o,w7.heap[k]?=some o→wc.heap.size≤k→w8.heap[k]?=some o):=by
 obtain⟨G1,G2,-,hk8,-⟩:=ht
 have hF:∀ k,F1 k∨F2 k→k<wc.heap.size:=hst.ltw
 refine⟨((T.keep.next hk3 (H:=fun _=>False) (fun _ _ x=>x) (fun _ _ x=>x)).next hk7 (H:=fun _=>False) (fun _ _ x=>x) (fun _ _ x=>x)).next hk8 (fun _ _ x=>x) (fun k hk x=>?_),hk7.next hk8 (fun _ _ x=>x.elim) (fun k _ x=>.inl (hF k x)),fun k o h hk=>hk8.get h fun x=>?_⟩
 ·have:=T.new2 k x;omega
 ·have:=hF k x;omega
theorem o_end {w w':World} {a:Act} {g:Nat} (hd:a.defers = []) (ht:a.tmps.getD 4 undef = .pointer (some ⟨g,0,none⟩)) (hc:w'.heap[g]?=some (.cells #[.bool true] 4 (0,0))) (hk:Keep (fun _=>False) w w') :
  bodyPostM Fence.wide 5 Tryz.prog Tryz.f3 (fun e w'=>e = .returned (.bool true)∧Keep (fun _=>False) w w') .ret a w':=by
 have hcell:w'.cell? ⟨g,0,none⟩=some (.bool true):=by simp[World.cell?,hc]
 show LeavesInM Fence.wide 5 Tryz.prog Tryz.f3 a.tmps _ a.defers .returning w'
 rw[hd]
 have hr:(results Tryz.f3 a.tmps).run Tryz.prog w' = .ok (.bool true) w':=by
  have e:Tryz.f3.results = #[.cell 4 4]:=by kernel_rfl
  have ht':a.tmps[4]?.getD undef = .pointer (some ⟨g,0,none⟩):=by simpa using ht
  simp[results,e,ht',go_sem,hcell]
 exact⟨_,hr,rfl,hk⟩
theorem o_put {w wr:World} {g:Nat} (i4:wr.heap[g]?=some (.cells #[.bool false] 4 (0,0))) (hg:w.heap.size≤g) (hk:Keep (fun _=>False) w wr) :
  (wr.setCell ⟨g,0,none⟩ (.bool true)).heap[g]?=some (.cells #[.bool true] 4 (0,0))∧Keep (fun _=>False) w (wr.setCell ⟨g,0,none⟩ (.bool true)):=
 ⟨heap_setCell6 i4 0 (.bool true),hk.next (show Keep (fun k=>k=g) wr _ from by refine Keep.setCell (Keep.refl _ _) (.inl ?_) _;rfl) (fun _ _ x=>x) (fun k hk x=>by omega)⟩
structure OIn (w8:World) (k:Nat) (W:World):Prop where
 box:W.heap[w8.heap.size]?=some (.cells #[.int .i64 k] 3 (0,0))
 keep:Keep (fun k=>k=w8.heap.size) w8 W
theorem OIn.turn {w8 W W':World} {k:Nat} {r:Option Nat} {B:Nat} (h:OIn w8 k W) (hB:w8.heap.size≤B) (hk:Keep (fun k=>r=some k) W W') (h1:∀ k,r=some k→B≤k) (hr:∀ k,r=some k→∃ o:Obj,W.heap[k]?=some o∧o.isCells=false):OIn w8 k W':=
 ⟨box_turn h.box hk hr,h.keep.next hk (fun _ _ x=>x) (fun k hk x=>by have:=h1 k x;omega)⟩
def Led (ps:List (Str×Str)) (pre:List (InP ps)):Prop:=pre.map Subtype.val=ps.take pre.length
theorem Led.of {ps:List (Str×Str)} {pre:List (InP ps)} (h:pre <+: ps.attach):Led ps pre:=by
 obtain⟨t,ht⟩:=h
 have h2:=congrArg (List.map Subtype.val) ht
 rw[List.attach_map_subtype_val,List.map_append] at h2
 have h3:=congrArg (List.take pre.length) h2
 rw[List.take_append_of_le_length (by simp),List.take_of_length_le (by simp)] at h3
 exact h3
theorem Led.snoc {ps:List (Str×Str)} {pre:List (InP ps)} {x:InP ps} (h:Led ps pre) (hi:pre.length<ps.length) (e:x.1=ps[pre.length]):Led ps (pre ++ [x]):=by
 unfold Led at *
 rw[List.map_append,h,List.length_append,List.length_singleton,List.take_add_one,List.getElem?_eq_getElem hi,Option.toList_some,← e]
 rfl
theorem Led.last {ps:List (Str×Str)} {pre:List (InP ps)} {x:InP ps} (h:Led ps (pre ++ [x])) (hi:pre.length<ps.length):x.1=ps[pre.length]:=by
 unfold Led at h
 have h2:=congrArg (fun l=>l[pre.length]?) h
 simp only[List.map_append,List.length_append,List.length_singleton] at h2
 rw[List.getElem?_append_right (by simp),List.getElem?_take_of_lt (by omega),List.getElem?_eq_getElem hi] at h2
 simpa using h2
theorem o_res {w':World} {tm:Array Value} {g:Nat} (ht:tm.getD 4 undef = .pointer (some ⟨g,0,none⟩)) (hc:w'.heap[g]?=some (.cells #[.bool true] 4 (0,0))):(results Tryz.f3 tm).run Tryz.prog w' = .ok (.bool true) w':=by
 have hcell:w'.cell? ⟨g,0,none⟩=some (.bool true):=by simp[World.cell?,hc]
 have e:Tryz.f3.results = #[.cell 4 4]:=by kernel_rfl
 have ht':tm[4]?.getD undef = .pointer (some ⟨g,0,none⟩):=by simpa using ht
 simp[results,e,ht',go_sem,hcell]
set_option maxRecDepth 20000 in
set_option maxHeartbeats 4000000 in
theorem sorder_walk (w:World) (v:Value) (l:List SAct) (hl:SActs w v l) (stop:Int) (s1 : -9223372036854775808≤stop) (s2:stop≤9223372036854775807) :
  Calls Tryz.prog 3 #[v,.int .i64 stop] w fun e w'=>e = .returned (.bool true)∧Keep (fun _=>False) w w':=by
 obtain⟨ao,c,rfl,hlc,hcm⟩:=hl.form
 have HL:=hid hl
 clear hl hcm
 obtain⟨m,hm⟩:∃ m,m=l.length:=⟨_,rfl⟩
 rw[← hm] at HL hlc ⊢
 have Hm:=hid hm
 have Hst:=hid (And.intro s1 s2)
 clear hm s1 s2
 refine(callsIn_wide (n:=5)).1 ?_
 refine callsIn_of_wp_marks Tryz.func3 rfl trivial ?_ rfl
 simp only[Tryz.ntmps3,List.size_toArray,List.length_cons,List.length_nil,Nat.reduceAdd,Nat.reduceSub,Array.replicate_succ,Array.replicate_zero,List.push_toArray,List.append_toArray,List.nil_append,List.cons_append]
 have hn0:=heap_alloc_new w (.cells #[.int .i64 stop] 3)
 have hk0:Keep (fun _=>False) w (w.alloc (.cells #[.int .i64 stop] 3)):=(Keep.refl _ _).alloc _
 obtain⟨w0,hw0⟩:∃ w0,w0=w.alloc (.cells #[.int .i64 stop] 3):=⟨_,rfl⟩
 have hz0:w0.heap.size=w.heap.size+1:=by rw[hw0];simp
 have hn1:=heap_alloc_new w0 (.cells #[.bool false] 4)
 have hk1:Keep (fun _=>False) w0 (w0.alloc (.cells #[.bool false] 4)):=(Keep.refl _ _).alloc _
 rw[← hw0] at hn0 hk0
 rw[hz0] at hn1
 have H1:=hid (And.intro (hk1.get hn0 id) (And.intro hn1 (And.intro (hk0.next hk1 (H:=fun _=>False) (fun _ _ x=>x) (fun _ _ x=>x)) hz0)))
 have H0:=hid hw0
 clear hn0 hk0 hn1 hk1 hz0 hw0
 refine wpIn_wide.2 ?_
 go_wp2_with (at_builtin;refine stopAt ?_;intro q hq)
 refine(ststart_any _ 60 (by decide) (by decide)).mono ?_
 rintro e w1 ⟨p,rfl,hP1⟩
 rw[o_open60] at hP1
 obtain⟨wa,hwa⟩:∃ wa,wa=(w.alloc (.cells #[.int .i64 stop] 3)).alloc (.cells #[.bool false] 4):=⟨_,rfl⟩
 rw[H0.out,← hwa] at H1
 rw[← hwa] at hP1
 have H1':=hid H1.out
 clear hwa H1
 have HR1:=hid (show OrRel wa p 0 w1 from by
  obtain⟨o2,hs,d,mm,sv,rv,A,F,G,h⟩:=hP1
  obtain⟨b,rfl,F1,F2,hst,rfl⟩:=h.two
  exact⟨_,_,d,mm,b,rv,A,F1,F2,h.fst,hst,(okay_op (DM.new 60)) nS0 (by rw[o_open60]),by decide⟩)
 clear hP1
 go_upto_block 0 with fail
 go_cut [7] from 26 to 58 (fun _ wx=>Hid (∃ k,k≤30∧OrRel wa p k wx))
 case first=>
  go_wp2_with (at_builtin;refine stopAt ?_;intro q hq)
  go_loopw [7] (fun i wr=>∃ k:Nat,k≤m∧k≤30∧i = .int .i64 k∧Hid (OrRel wa p k wr)) (fun i _=>30 - (intOf i).toNat)
  case atStart=>exact⟨0,Nat.zero_le _,Nat.zero_le _,rfl,HR1⟩
  case round=>
   clear HR1
   obtain⟨k,hk,hk30,rfl,HR⟩:=hrel
   by_cases hgo:k<m∧k<30
   ·have h2:(k:Int)<m:=by omega
    have h1:(k:Int)<30:=by omega
    have hkl:k<l.length:=by rw[← Hm.out];exact hgo.1
    obtain⟨D,S,d,mm,b,rv,A,F1,F2,T,hst,hO,hw⟩:=HR.out.ex
    have hkW:=H1'.out.2.2.1.next T.keep (H:=fun _=>False) (fun _ _ x=>x) (fun _ _ x=>x)
    obtain⟨ad,lv,kv,rfl,a0,a1,a2,a3,hrow,hlv,hkv,b0,b1⟩:=HL.out.get hkW k hkl
    have hgo1:=hgo.1
    have hgo2:=hgo.2
    obtain⟨aol,cl,rfl,-⟩:=hlv.form
    have hhe:=sheavy_any wr aol _ cl _ (SliceOf.keepF hlv hkW (fun _ _ _ _ _ x=>x)) rfl
    obtain⟨ll,hll⟩:∃ ll,ll=(l[k]).list.length:=⟨_,rfl⟩
    have HQ:=hid (And.intro T (And.intro hst (And.intro hO (And.intro hw (And.intro hlv (And.intro hkW hll))))))
    rw[← hll] at hhe a2
    have i4:=T.keep.get H1'.out.2.1 id
    clear T hst hO hw hkW hlv hkv b0 b1 hll a1 a3 hrow hgo
    go_wp2_with (at_builtin;refine stopAt ?_;intro q hq)
    refine hhe.mono ?_
    rintro e w3 ⟨x,rfl,hk3⟩
    have a0b:=cell_old hk3 _ _ a0
    have a2b:=cell_old hk3 _ _ a2
    have i4b:=hk3.get i4 id
    clear hhe a2 a0 i4
    cases x with
    | true=>
      have HK3:=hid (HQ.out.1.keep.next hk3 (H:=fun _=>False) (fun _ _ x=>x) (fun _ _ x=>x))
      clear hk3
      go_wp2_with (at_builtin;refine stopAt ?_;intro q hq)
      refine(sknown_any _).mono ?_
      rintro e w4 ⟨rfl,hk4⟩
      have HZ:=hid (HK3.out.next hk4 (H:=fun _=>False) (fun _ _ x=>x) (fun _ _ x=>x))
      have i4c:=hk4.get i4b id
      have hfr:w4.frozen? ⟨w.heap.size+1,0,none⟩=false:=by simp[World.frozen?,i4c]
      have hcf:w4.cell? ⟨w.heap.size+1,0,none⟩=some (.bool false):=by simp[World.cell?,i4c]
      have HI:=hid i4c
      clear hk4 i4c i4b
      go_wp2_with (at_builtin;refine stopAt ?_;intro q hq)
      obtain⟨f1,f2⟩:=o_put HI.out (Nat.le_succ _) (H1'.out.2.2.1.next HZ.out (H:=fun _=>False) (fun _ _ x=>x) (fun _ _ x=>x))
      exact o_end rfl rfl f1 f2
    | false=>
      have HK3:=hid hk3
      obtain⟨zk,hzk⟩:∃ zk,zk=(l[k]).kind:=⟨_,rfl⟩
      rw[← hzk] at a0b
      have T3:=HQ.out.1.later (BoxT.lives _ _ _) (SideP.lives _ _ _ _) hk3
      clear hk3 hzk i4b
      by_cases hz:zk≤2
      ·obtain⟨p0,p1,p2,p3,pf,pb⟩:=cells4 T3.one.1
       have j0:=fun s:Later w3=>s.cell a2b
       have j1:=fun s:Later w3=>s.cell p1
       have HT3:=hid T3
       have Hz:=hid hz
       clear T3 p0 p1 p2 p3 pf
       go_wp2_with (at_builtin;refine stopAt ?_;intro q hq)
       (refine wp_region_tail 9 (by kernel_rfl) (by kernel_rfl) ?_;simp only[List.take_succ_cons,List.take_zero,List.drop_succ_cons,List.drop_zero];(repeat (go_big_quiet_step ((fail))));refine wpQuiet_nil ?_;rintro _ ⟨sq,rfl⟩)
       have hkeep:=sq.keep
       obtain⟨w4,hw4⟩:∃ w4,w4=sq.val:=⟨_,rfl⟩
       rw[← hw4] at hkeep ⊢
       clear hw4 sq j0 j1
       obtain⟨T,hst,hO,hw,hlv,hkW,hll⟩:=HQ.out
       have hkW4:=hkW.next (HK3.out.next hkeep (H:=fun _=>False) (fun _ _ x=>x) (fun _ _ x=>x)) (H:=fun _=>False) (fun _ _ x=>x) (fun _ _ x=>x)
       have T4:=HT3.out.later (BoxT.lives _ _ _) (SideP.lives _ _ _ _) hkeep
       have hst4:=(hst.later HK3.out).later hkeep
       rw[← hll] at hlv
       obtain⟨-,hlv4,hap⟩:=hlv.far hkW4 (fun k x=>by have h1:=T4.new2 k x;have h2:=H1'.out.2.2.1.size;omega)
       have hdo:=sdo_any w4 b d F1 F2 D S hst4 aol ll cl l[k].list hlv4 hll (fun hp x hx=>⟨fun y=>hap hp x hx (.inl y),fun y=>hap hp x hx (.inr y)⟩) (fun h=>by have:=hO.few hst.facts.count h;omega) (by omega)
       have HF:=hid (show ∀ w5,StoTo b d F1 F2 w4 (doS D S l[k].list).2.1 (doS D S l[k].list).2.2 w5→OrRel wa p (k+1) w5 from fun w5 ht=>OrRel.do T4 hst4 hO hw _ ht)
       obtain⟨R,hR⟩:∃ R,R=doS D S l[k].list:=⟨_,rfl⟩
       rw[← hR] at hdo HF
       clear T hst hO hw hlv hkW hll hkW4 T4 hst4 hlv4 hap hR hkeep a2b a0b hz pb
       go_wp2_with (at_builtin;refine stopAt ?_;intro q hq)
       refine hdo.mono ?_
       rintro e w5 ⟨rfl,ht⟩
       have HO:=hid (HF.out _ ht)
       clear hdo ht
       go_wp2_with (at_builtin;refine stopAt ?_;intro q hq)
       go_roundw
       case rel=>exact⟨k+1,by omega,by omega,by go_num,HO⟩
       case measure=>simp[intOf];omega
      ·have q1:decide (zk≤2)=false:=decide_eq_false hz
       have Hz:=hid hz
       clear hz
       go_wp2_with (at_builtin;refine stopAt ?_;intro q hq)
       go_roundw
       case rel=>exact⟨k+1,by omega,by omega,by go_num,hid ⟨_,_,_,_,_,_,_,_,_,T3,HQ.out.2.1.later HK3.out,HQ.out.2.2.1,by have:=HQ.out.2.2.2.1;omega⟩⟩
       case measure=>simp[intOf];omega
   ·have cut:(¬ (k:Int)<m)∨((k:Int)<m∧¬ (k:Int)<30):=by omega
    have HF:=hid (show ∃ k,k≤30∧OrRel wa p k wr from⟨k,hk30,HR.out⟩)
    clear hgo
    rcases cut with c1 | ⟨c0,c1⟩
    all_goals
     go_wp2_with (at_builtin;refine stopAt ?_;intro q hq)
     go_meet
     exact HF
 case rest=>
  obtain⟨k,hk,⟨D,S,d,mm,b,rv,A,F1,F2,T,hst,hO,hw⟩⟩:=hcut.out
  have hfew:=hO.few hst.facts.count
  have hall:=sall_any wc b d F1 F2 D S hst (fun h=>by have:=hfew h;omega)
  obtain⟨h0,h1,h2,h3,hf,hb⟩:=cells4 T.one.1
  have HC:=hid (And.intro T (And.intro hst (And.intro hO (And.intro hw hfew))))
  clear T hst hO hw hfew hcut HR1 h0 h2 h3 hf hb
  go_wp2_with (at_builtin;refine stopAt ?_;intro q hq)
  refine hall.mono ?_
  rintro e w3 ⟨v,rfl,hs,hk3⟩
  obtain⟨hbig,f,caps,rfl,hent,hseq⟩:=hs
  have hst3:=HC.out.2.1.later hk3
  have hpr:=pairs_any w3 b d F1 F2 D S hst3 (fun h=>by have:=HC.out.2.2.2.2 h;omega)
  have h1b:=cell_old hk3 _ _ h1
  have H3:=hid (And.intro hbig (And.intro hent (And.intro hseq (And.intro hst3 hk3))))
  clear hall hbig hent hseq hst3 hk3 h1
  go_wp2_with (at_builtin;refine stopAt ?_;intro q hq)
  refine hpr.mono ?_
  rintro e w4 ⟨pv,rfl,hrow,hk4,hown⟩
  obtain⟨qa,qc,rfl,-⟩:=hrow.form
  obtain⟨ps,hps⟩:∃ ps,ps=told S:=⟨_,rfl⟩
  obtain⟨N,hN⟩:∃ N,N=ps.length:=⟨_,rfl⟩
  rw[← hps,← hN] at hrow hown ⊢
  have hn5:=heap_alloc_new w4 (.cells #[.slice qa N qc] 43)
  have hk5:Keep (fun _=>False) w4 (w4.alloc (.cells #[.slice qa N qc] 43)):=(Keep.refl _ _).alloc _
  obtain⟨w5,hw5⟩:∃ w5,w5=w4.alloc (.cells #[.slice qa N qc] 43):=⟨_,rfl⟩
  rw[← hw5] at hn5 hk5
  have hst5:=(H3.out.2.2.2.1.later hk4).later hk5
  have h1c:=cell_old hk5 _ _ (cell_old hk4 _ _ h1b)
  have HLen:=hid (show ∀ s:Later w5,Calls Tryz.prog 13 #[.pointer (some ⟨b,0,none⟩)] s.val fun e w'=>e = .returned (.int .i64 (N:Nat))∧Keep (fun _=>False) s.val w' from fun s=>
   (slen_any s.val b d F1 F2 D S (hst5.later s.keep)).mono fun e w' ⟨g1,g2⟩=>⟨by rw[g1,← hps,← hN],by rw[g2];exact Keep.refl _ _⟩)
  have H5:=hid (And.intro hps (And.intro hN (And.intro hrow (And.intro hown (And.intro hk4 (And.intro hk5 (And.intro hst5 (And.intro hn5 hw5))))))))
  have c9:w5.cell? ⟨w4.heap.size,0,none⟩=some (.slice qa N qc):=by simp[World.cell?,hn5]
  have hq:∀ w,(binOp .eql 41 (.func (.func f) #[] caps) .nilFunc).run Tryz.prog w = .ok (.bool false) w:=fun _=>rfl
  clear hpr hrow hk4 hown hps hN hn5 hk5 hst5 h1b
  go_upto_region 13 with fail
  rw[← hw5]
  clear hw5
  have j0:=fun s:Later w5=>s.cell c9
  have j1:=fun s:Later w5=>s.cell h1c
  (refine wp_region_later (by kernel_rfl) (by kernel_rfl) ?_;(repeat (go_big_quiet_step ((go_at_call 13;exact Later.call (HLen.out _)))));refine wpQuiet_nil ?_;rintro _ ⟨sq,rfl⟩)
  have hk6:=sq.keep
  obtain⟨w6,hw6⟩:∃ w6,w6=sq.val:=⟨_,rfl⟩
  rw[← hw6] at hk6 ⊢
  clear hw6 sq j0 j1 HLen hq
  have c9b:=cell_old hk6 _ _ c9
  have h1d:=cell_old hk6 _ _ h1c
  clear c9 h1c
  go_wp2_with (at_builtin;refine stopAt ?_;intro q hq)
  have H6:=hid hk6
  clear hk6
  go_loopw [10] (fun iv wr=>∃ i:Nat,i≤N∧iv = .int .i64 i∧Hid (Keep (fun _=>False) w6 wr)) (fun iv _=>N - (intOf iv).toNat)
  case atStart=>exact⟨0,Nat.zero_le _,rfl,hid (Keep.refl _ _)⟩
  case round=>
   obtain⟨i,hi,rfl,HR⟩:=hrel
   have c9c:=cell_old HR.out _ _ c9b
   have h1e:=cell_old HR.out _ _ h1d
   by_cases hin:i<N
   ·have q1:(i:Int)<N:=by omega
    have hil:i<ps.length:=by rw[← H5.out.2.1];exact hin
    obtain⟨g,rfl,k0,k1⟩:=prs_at (H5.out.2.2.1.keep (((H5.out.2.2.2.2.2.1).next H6.out (H:=fun _=>False) (fun _ _ x=>x) (fun _ _ x=>x)).next HR.out (H:=fun _=>False) (fun _ _ x=>x) (fun _ _ x=>x)) (fun _ _ x=>x)) i hil
    obtain⟨y,hy⟩:∃ y,y=ps[i]:=⟨_,rfl⟩
    rw[← hy] at k0 k1
    have hsr:Sorted ps:=by
     rw[H5.out.1]
     unfold told
     split
     ·exact List.Pairwise.nil
     ·exact HC.out.2.1.facts.ok.sorted
    have hmem:y ∈ ps:=by rw[hy];exact List.getElem_mem _
    have hyl:y.1.length≤maxLen:=by
     have h1:=hmem
     rw[H5.out.1] at h1
     unfold told at h1
     split at h1
     ·cases h1
     ·have:=(HC.out.2.1.facts.ok.each y h1).2.1
      unfold maxLen
      omega
    have hgs:getS (told S) y.1 = .tuple #[.string (str y.2),.bool true]:=by
     rw[← H5.out.1]
     unfold getS
     rw[get_of_mem (Sorted_ok hsr) hmem]
     rfl
    have HGet:=hid (show ∀ s:Later wr,Calls Tryz.prog 14 #[.pointer (some ⟨b,0,none⟩),.string (str y.1)] s.val fun e w'=>e = .returned (.tuple #[.string (str y.2),.bool true])∧Keep (fun _=>False) s.val w' from fun s=>by
     have:=sget_any s.val b d F1 F2 D S (((H5.out.2.2.2.2.2.2.1.later H6.out).later HR.out).later s.keep) y.1 hyl
     rw[hgs] at this
     exact this)
    have HY:=hid (show (∃ h:i<ps.length,y=ps[i])∧Sorted ps from⟨⟨hil,hy⟩,hsr⟩)
    clear hy hsr hmem hyl hgs hil
    go_wp2_with (at_builtin;refine stopAt ?_;intro q hq)
    have j0:=fun s:Later wr=>s.cell c9c
    have j1:=fun s:Later wr=>s.cell h1e
    have j2:=fun s:Later wr=>s.cell k0
    (refine wp_region_later (by kernel_rfl) (by kernel_rfl) ?_;(repeat (go_big_quiet_step ((go_at_call 14;exact Later.call (HGet.out _)))));refine wpQuiet_nil ?_;rintro _ ⟨sq,rfl⟩)
    have hk7:=sq.keep
    obtain⟨w7,hw7⟩:∃ w7,w7=sq.val:=⟨_,rfl⟩
    rw[← hw7] at hk7 ⊢
    clear hw7 sq j0 j1 j2 HGet
    have k0b:=cell_old hk7 _ _ k0
    have k1b:=cell_old hk7 _ _ k1
    have c9d:=cell_old hk7 _ _ c9c
    have HR7:=hid (HR.out.next hk7 (H:=fun _=>False) (fun _ _ x=>x) (fun _ _ x=>x))
    by_cases hi0:i=0
    ·subst hi0
     clear k0 k1 hk7 HR c9c h1e
     go_wp2_with (at_builtin;refine stopAt ?_;intro q hq)
     go_quiet (fail)
     go_wp2_with (at_builtin;refine stopAt ?_;intro q hq)
     go_roundw
     case rel=>exact⟨1,by omega,by go_num,hid (HR7.out.drewN _)⟩
     case measure=>simp[intOf];omega
    ·obtain⟨im,him⟩:∃ im,im+1=i:=⟨i - 1,by omega⟩
     have Him:=hid him
     obtain⟨g',hg',m0,-⟩:=prs_at ((H5.out.2.2.1.keep (((H5.out.2.2.2.2.2.1).next H6.out (H:=fun _=>False) (fun _ _ x=>x) (fun _ _ x=>x)).next HR.out (H:=fun _=>False) (fun _ _ x=>x) (fun _ _ x=>x)) (fun _ _ x=>x)).keep hk7 (fun _ _ x=>x)) im (by have:=HY.out.1.1;omega)
     cases hg'
     obtain⟨x,hx⟩:∃ x,x=ps[im]'(by have:=HY.out.1.1;omega):=⟨_,rfl⟩
     rw[← hx] at m0
     have hlt:x.1<y.1:=by
      obtain⟨⟨hil,hy⟩,hsr⟩:=HY.out
      have h:=List.pairwise_iff_getElem.1 hsr im i (by omega) hil (by omega)
      rw[← hx,← hy] at h
      exact h
     have e3:Op.bytesLess (str x.1).toList (str y.1).toList=true:=by rw[str_lt];simpa using hlt
     have e4:(i:Int) - 1=(im:Nat):=by omega
     have e5:(0:Int)<(i:Int):=by omega
     have e6:decide (0<i)=true:=decide_eq_true (by omega)
     have e7:im<N:=by omega
     have e10:(N:Int)≤9223372036854775807:=by
      obtain⟨_,_,e,x1,x2,-⟩:=H5.out.2.2.1.form
      unfold maxLen at x2
      cases e
      omega
     have e8:im<9223372036854775807:=by omega
     have e9:IntKind.i64.wrap (im:Int)=(im:Nat):=by simp[IntKind.wrap,IntKind.signed,IntKind.bits];omega
     clear hx hlt k0 k1 hk7 HR c9c h1e hi0 him
     go_wp2_with (at_builtin;refine stopAt ?_;intro q hq)
     go_quiet (fail)
     go_wp2_with (at_builtin;refine stopAt ?_;intro q hq)
     go_roundw
     case rel=>exact⟨i+1,by omega,by go_num,hid (HR7.out.drewN _)⟩
     case measure=>simp[intOf];omega
   ·have q1:decide ((i:Int)<N)=false:=by simp;omega
    have hk7:Keep (fun _=>False) wr (wr.alloc (.cells #[.string (str [110,101,119]),.string (str [49]),.bool false] 51)):=(Keep.refl _ _).alloc _
    have hst7:=((H5.out.2.2.2.2.2.2.1.later H6.out).later HR.out).later hk7
    have hdo:=sdo_any _ b d F1 F2 D S hst7 (some ⟨wr.heap.size,0,none⟩) 1 1 [⟨[110,101,119],[49],false⟩] (chs_one wr) rfl (fun _ x hx=>by
     cases hx
     have hlt:=HC.out.2.1.ltw
     have h1:=H3.out.2.2.2.2.size
     have h2:=H5.out.2.2.2.2.1.size
     have h3:=H5.out.2.2.2.2.2.1.size
     have h4:=H6.out.size
     have h5:=HR.out.size
     exact⟨fun y=>by have:=hlt _ (.inl y);simp only at this;omega,fun y=>by have:=hlt _ (.inr y);simp only at this;omega⟩) (fun h=>by have:=HC.out.2.2.2.2 h;omega) (by have:=HC.out.2.2.2.1;omega)
    have H7:=hid (And.intro hk7 hst7)
    obtain⟨R,hR⟩:∃ R,R=doS D S [⟨[110,101,119],[49],false⟩]:=⟨_,rfl⟩
    rw[← hR] at hdo
    clear hk7 hst7 hR
    go_wp2_with (at_builtin;refine stopAt ?_;intro q hq)
    refine hdo.mono ?_
    rintro e w8 ⟨rfl,ht⟩
    have HW:=hid (o_behind HC.out.1 HC.out.2.1 H1'.out.2.2.1 H3.out.2.2.2.2 (show Keep (fun _=>False) _ _ from((((H5.out.2.2.2.2.1.next H5.out.2.2.2.2.2.1 (H:=fun _=>False) (fun _ _ x=>x) (fun _ _ x=>x)).next H6.out (H:=fun _=>False) (fun _ _ x=>x) (fun _ _ x=>x)).next HR.out (H:=fun _=>False) (fun _ _ x=>x) (fun _ _ x=>x)).next H7.out.1 (H:=fun _=>False) (fun _ _ x=>x) (fun _ _ x=>x))) ht)
    have hk8:Keep (fun k=>F1 k∨F2 k) (wr.alloc (.cells #[.string (str [110,101,119]),.string (str [49]),.bool false] 51)) w8:=let ⟨_,_,_,h,_⟩:=ht;h
    have hlt:=HC.out.2.1.ltw
    have hs3:=H3.out.2.2.2.2.size
    have hs4:=H5.out.2.2.2.2.1.size
    have hk57:=(H6.out.next HR.out (H:=fun _=>False) (fun _ _ x=>x) (fun _ _ x=>x)).next H7.out.1 (H:=fun _=>False) (fun _ _ x=>x) (fun _ _ x=>x)
    have H8:=hid (And.intro (((H5.out.2.2.1.keep H5.out.2.2.2.2.2.1 (fun _ _ x=>x)).keep hk57 (fun _ _ x=>x)).keep hk8 (fun k e x=>by have:=H5.out.2.2.2.1 k e;have:=hlt k x;omega))
     (And.intro (hk8.get (hk57.get H5.out.2.2.2.2.2.2.2.1 id) (fun x=>by have:=hlt _ x;omega)) (And.intro (HW.out.1.get H1'.out.2.1 id) (And.intro (HW.out.1.get H1'.out.1 id) (And.intro hs3 hs4)))))
    have hn9:=heap_alloc_new w8 (.cells #[.int .i64 0] 3)
    have hk9:Keep (fun _=>False) w8 (w8.alloc (.cells #[.int .i64 0] 3)):=(Keep.refl _ _).alloc _
    have H9:=hid (And.intro hn9 hk9)
    clear hk8 hlt hs3 hs4 hk57 hn9 hk9 ht hdo c9b h1d c9c h1e q1
    go_wp2_with (at_builtin;refine stopAt ?_;intro q hq)
    obtain⟨w9,hw9⟩:∃ w9,w9=w8.alloc (.cells #[.int .i64 0] 3):=⟨_,rfl⟩
    have hz9:w9.heap.size=w8.heap.size+1:=by rw[hw9];simp
    rw[← hw9] at H9 ⊢
    clear hw9
    have hseq:=H3.out.2.2.1
    have hpe:=H5.out.1
    rw[← hpe] at hseq
    have hs38:=HW.out.2.1.size
    have hK9:=HW.out.2.1.next H9.out.2 (H:=fun k=>k<wc.heap.size∨w3.heap.size≤k) (fun _ _ x=>x) (fun _ _ x=>x.elim)
    have hwc:=HC.out.1.keep.size
    have hwa:=H1'.out.2.2.1.size
    have hw0:=heap_lt H1'.out.2.1
    refine(wpIn_wide (n:=5)).1 ?_
    refine' wpIn_rangeFunc_ownF rfl (by omega) (gf:=f) (lb:=caps) rfl trivial H3.out.2.1 (hseq 4 w9 (by omega) hK9) (fun h k=>h.tr k) (fun W l o o' hl _ _ _=>keep_putObj W l o' (.inr (by omega))) (Below.refl _ _) (fun _=>rfl)
     (fun pre W=>OIn w8 pre.length W∧Led ps pre) (fun cc pre W=>(cc = .ret∧¬ Led ps pre)∨(cc = .exit 4∧OIn w8 pre.length W∧((pre.length:Nat):Int)=stop)) (ownFrom_of fun s W W' r h hk h1 hr=>⟨h.1.turn (by omega) hk h1 hr,h.2⟩)
     (fun cc=>ownFrom_of fun s W W' r h hk h1 hr=>h.imp id fun h=>⟨h.1,h.2.1.turn (by omega) hk h1 hr,h.2.2⟩)
     ⟨⟨H9.out.1,H9.out.2.mono fun _ _ x=>x.elim⟩,rfl⟩ _ ?assign ?body ?done ?stop
    case assign=>
     intro l x W K hK
     simp only[encP]
     gi_wp2
     exact hK
    case body=>
     rintro l pre ⟨x,hx⟩ W ⟨hO,hP⟩ hlt
     obtain⟨nn,hnn⟩:∃ nn,nn=pre.length:=⟨_,rfl⟩
     have HP:=hid (And.intro hP (And.intro hlt hnn))
     have e1:(pre ++ [(⟨x,hx⟩:InP ps)]).length=nn+1:=by rw[hnn];simp
     have HE:=hid e1
     rw[← hnn] at hO
     have hltN:nn<N:=by rw[hnn,H5.out.2.1];exact hlt
     have hnps:nn<ps.length:=by rw[hnn];exact hlt
     have hN63:(N:Int)≤9223372036854775807:=by
      obtain⟨_,_,e,x1,x2,-⟩:=H8.out.1.form
      unfold maxLen at x2
      cases e
      omega
     have h1:(nn:Int)<N:=by omega
     have hW:=hO.keep
     have hw38:=hs38
     have b1:=hW.get H8.out.2.1 (fun x=>by have:=heap_lt H8.out.2.1;omega)
     have b2:=hW.get H8.out.2.2.1 (fun x=>by have:=heap_lt H8.out.2.2.1;omega)
     have b3:=hW.get H8.out.2.2.2.1 (fun x=>by have:=heap_lt H8.out.2.2.2.1;omega)
     obtain⟨g,hg,k0,k1⟩:=prs_at (H8.out.1.keep hW (fun k e x=>by have:=H8.out.1.lt e;omega)) nn hnps
     subst hg
     have c13:W.cell? ⟨w8.heap.size,0,none⟩=some (.int .i64 nn):=by simp[World.cell?,hO.box]
     have f13:W.frozen? ⟨w8.heap.size,0,none⟩=false:=by simp[World.frozen?,hO.box]
     have c9:W.cell? ⟨w4.heap.size,0,none⟩=some (.slice (some ⟨g,0,none⟩) N qc):=by simp[World.cell?,b1]
     have c3:W.cell? ⟨w.heap.size,0,none⟩=some (.int .i64 stop):=by simp[World.cell?,b3]
     have c4:W.cell? ⟨w.heap.size+1,0,none⟩=some (.bool false):=by simp[World.cell?,b2]
     have f4:W.frozen? ⟨w.heap.size+1,0,none⟩=false:=by simp[World.frozen?,b2]
     have hh5:=heap_setCell6 hO.box 0 (.int .i64 ((nn+1:Nat):Int))
     have hk5:Keep (fun k=>k=w8.heap.size) W (W.setCell ⟨w8.heap.size,0,none⟩ (.int .i64 ((nn+1:Nat):Int))):=by refine Keep.setCell (Keep.refl _ _) (.inl ?_) _;rfl
     have c3b:(W.setCell ⟨w8.heap.size,0,none⟩ (.int .i64 ((nn+1:Nat):Int))).cell? ⟨w.heap.size,0,none⟩=some (.int .i64 stop):=by
      have h:=hk5.get b3 (fun x=>by have:=heap_lt H8.out.2.2.2.1;omega)
      unfold World.cell?
      simp only
      rw[h]
      rfl
     have HO:=hid (And.intro hO (And.intro hh5 (And.intro hk5 (And.intro b2 hs38))))
     obtain⟨y,hy⟩:∃ y,y=ps[nn]:=⟨_,rfl⟩
     rw[← hy] at k0 k1
     have HY:=hid (show ∃ h:nn<ps.length,y=ps[nn] from⟨hnps,hy⟩)
     have hadd:((nn+1:Nat):Int)=(nn:Int)+1:=by omega
     rw[hadd] at HO c3b
     clear hO hP hlt hnn e1 hnps hW b1 b2 b3 hh5 hk5 hy hadd
     by_cases hxy:x=y
     ·subst hxy
      have HL2:=hid (show Led ps (pre ++ [(⟨x,hx⟩:InP ps)]) by
       obtain⟨hP,hlt,hnn⟩:=HP.out
       obtain⟨hn,hy⟩:=HY.out
       subst hnn
       exact hP.snoc hlt hy)
      by_cases hs:(nn:Int)+1=stop
      ·have q5:((nn:Int)+1 == stop)=true:=by simpa using hs
       have q6:decide ((nn:Int)+1=stop)=true:=decide_eq_true hs
       have HS:=hid hs
       clear hs
       gi_wp2
       exact⟨KeepsOthers.setCell _ _ _,.inr ⟨rfl,by rw[HE.out];exact⟨HO.out.2.1,HO.out.1.keep.next HO.out.2.2.1 (fun _ _ x=>x) (fun _ _ x=>x)⟩,by rw[HE.out,← HS.out];omega⟩⟩
      ·have q5:((nn:Int)+1 == stop)=false:=by simpa using hs
       have q6:decide ((nn:Int)+1=stop)=false:=decide_eq_false hs
       clear hs
       gi_wp2
       exact⟨KeepsOthers.setCell _ _ _,HO.out.2.2.1.mono (fun k _ e=>.inr (by have:=HO.out.2.2.2.2;omega)),by rw[HE.out];exact⟨HO.out.2.1,HO.out.1.keep.next HO.out.2.2.1 (fun _ _ x=>x) (fun _ _ x=>x)⟩,HL2.out⟩
     ·have HN:=hid (show ¬ Led ps (pre ++ [(⟨x,hx⟩:InP ps)]) from fun h=>hxy (by
       obtain⟨hP,hlt,hnn⟩:=HP.out
       obtain⟨hn,hy⟩:=HY.out
       subst hnn
       rw[hy]
       exact h.last hlt))
      obtain⟨x1,x2⟩:=x
      obtain⟨y1,y2⟩:=y
      simp only at k0 k1
      have cut:y1≠x1∨(y1=x1∧y2≠x2):=by
       by_cases h:y1=x1
       ·exact .inr ⟨h,fun h2=>hxy (by rw[h,h2])⟩
       ·exact .inl h
      clear hxy
      rcases cut with h | ⟨rfl,h⟩
      ·have t1:((str y1).toList == (str x1).toList)=false:=by rw[str_toList,str_toList];simpa using h
       clear h
       gi_wp2
       exact⟨KeepsOthers.setCell _ _ _,.inl ⟨rfl,HN.out⟩⟩
      ·have t1:((str y2).toList == (str x2).toList)=false:=by rw[str_toList,str_toList];simpa using h
       clear h
       gi_wp2
       exact⟨KeepsOthers.setCell _ _ _,.inl ⟨rfl,HN.out⟩⟩
    case done=>
     rintro Db xs W hD rfl ⟨hO,hP⟩ hK
     rw[List.length_attach,← H5.out.2.1] at hO
     have hW:=hO.keep
     have b1:=hW.get H8.out.2.1 (fun x=>by have:=heap_lt H8.out.2.1;omega)
     have b2:=hW.get H8.out.2.2.1 (fun x=>by have:=heap_lt H8.out.2.2.1;omega)
     have c13:W.cell? ⟨w8.heap.size,0,none⟩=some (.int .i64 N):=by simp[World.cell?,hO.box]
     have c9:W.cell? ⟨w4.heap.size,0,none⟩=some (.slice qa N qc):=by simp[World.cell?,b1]
     have HO:=hid (And.intro hO (And.intro b2 (And.intro hK hD)))
     clear hO hP hW b1 b2 hK hD
     go_wp2_with (at_builtin;refine stopAt ?_;intro q hq)
     refine(sknown_any W).mono ?_
     rintro e w10 ⟨rfl,hk10⟩
     have b2:=hk10.get HO.out.2.1 id
     have c4:w10.cell? ⟨w.heap.size+1,0,none⟩=some (.bool false):=by simp[World.cell?,b2]
     have f4:w10.frozen? ⟨w.heap.size+1,0,none⟩=false:=by simp[World.frozen?,b2]
     have HX:=hid (And.intro hk10 b2)
     clear hk10 b2
     go_wp2_with (at_builtin;refine stopAt ?_;intro q hq)
     have hkp:=(H1'.out.2.2.1.next HW.out.1 (H:=fun _=>False) (fun _ _ x=>x) (fun _ _ x=>x))
     have hlt1:=heap_lt H8.out.2.2.1
     have hD:=HO.out.2.2.2
     have hkW:Keep (fun _=>False) w W:=hkp.next HO.out.1.keep (fun _ _ x=>x) (fun k hk x=>by have:=hkp.size;omega)
     have hkX:=hkW.next HX.out.1 (H:=fun _=>False) (fun _ _ x=>x) (fun _ _ x=>x)
     obtain⟨f1,f2⟩:=o_put HX.out.2 (Nat.le_succ _) hkX
     have hDl:=heap_lt HO.out.2.2.1
     have hK5:(w10.setCell ⟨w.heap.size+1,0,none⟩ (.bool true)).heap[Db]?=some (.deferred (some [])):=
      (show Keep (fun k=>k=w.heap.size+1) w10 _ from by refine Keep.setCell (Keep.refl _ _) (.inl ?_) _;rfl).get (HX.out.1.get HO.out.2.2.1 id) (fun x=>by omega)
     have hkD:=keep_putObj (K:=fun k=>k=Db) (w10.setCell ⟨w.heap.size+1,0,none⟩ (.bool true)) Db (.deferred none) rfl
     refine⟨by simp,.inl ⟨_,_,rfl,run_takeDeferred hK5,?_⟩⟩
     refine⟨_,o_res rfl (hkD.get f1 (fun x=>by omega)),rfl,f2.next hkD (fun _ _ x=>x) (fun k hk x=>by omega)⟩
    case stop=>
     rintro Db cc pre W hD hpre hX hK
     rcases hX with ⟨rfl,hn⟩ | ⟨rfl,hO,hst⟩
     ·exact absurd (Led.of hpre) hn
     obtain⟨nn,hnn⟩:∃ nn,nn=pre.length:=⟨_,rfl⟩
     rw[← hnn] at hO hst
     have hW:=hO.keep
     have b1:=hW.get H8.out.2.1 (fun x=>by have:=heap_lt H8.out.2.1;omega)
     have b2:=hW.get H8.out.2.2.1 (fun x=>by have:=heap_lt H8.out.2.2.1;omega)
     have b3:=hW.get H8.out.2.2.2.1 (fun x=>by have:=heap_lt H8.out.2.2.2.1;omega)
     rw[← hst] at b3
     have c13:W.cell? ⟨w8.heap.size,0,none⟩=some (.int .i64 nn):=by simp[World.cell?,hO.box]
     have c9:W.cell? ⟨w4.heap.size,0,none⟩=some (.slice qa N qc):=by simp[World.cell?,b1]
     have c3:W.cell? ⟨w.heap.size,0,none⟩=some (.int .i64 nn):=by simp[World.cell?,b3]
     have HO:=hid (And.intro hO (And.intro b2 (And.intro hK hD)))
     clear hO hW b1 b2 b3 hK hD hst hnn hpre
     have cut:((nn:Int) == (N:Int))=true∨((nn:Int) == (N:Int))=false:=by cases ((nn:Int) == (N:Int)) <;> simp
     refine wpIn_wide.2 ?_
     rcases cut with q1 | q1
     all_goals
      go_wp2_with (at_builtin;refine stopAt ?_;intro q hq)
      refine(sknown_any W).mono ?_
      rintro e w10 ⟨rfl,hk10⟩
      have b2:=hk10.get HO.out.2.1 id
      have c4:w10.cell? ⟨w.heap.size+1,0,none⟩=some (.bool false):=by simp[World.cell?,b2]
      have f4:w10.frozen? ⟨w.heap.size+1,0,none⟩=false:=by simp[World.frozen?,b2]
      have HX:=hid (And.intro hk10 b2)
      clear hk10 b2
      go_wp2_with (at_builtin;refine stopAt ?_;intro q hq)
      have hkp:=(H1'.out.2.2.1.next HW.out.1 (H:=fun _=>False) (fun _ _ x=>x) (fun _ _ x=>x))
      have hlt1:=heap_lt H8.out.2.2.1
      have hD:=HO.out.2.2.2
      have hkW:Keep (fun _=>False) w W:=hkp.next HO.out.1.keep (fun _ _ x=>x) (fun k hk x=>by have:=hkp.size;omega)
      have hkX:=hkW.next HX.out.1 (H:=fun _=>False) (fun _ _ x=>x) (fun _ _ x=>x)
      obtain⟨f1,f2⟩:=o_put HX.out.2 (Nat.le_succ _) hkX
      have hDl:=heap_lt HO.out.2.2.1
      have hK5:(w10.setCell ⟨w.heap.size+1,0,none⟩ (.bool true)).heap[Db]?=some (.deferred (some [])):=
       (show Keep (fun k=>k=w.heap.size+1) w10 _ from by refine Keep.setCell (Keep.refl _ _) (.inl ?_) _;rfl).get (HX.out.1.get HO.out.2.2.1 id) (fun x=>by omega)
      have hkD:=keep_putObj (K:=fun k=>k=Db) (w10.setCell ⟨w.heap.size+1,0,none⟩ (.bool true)) Db (.deferred none) rfl
      refine⟨by simp,.inl ⟨_,_,rfl,run_takeDeferred hK5,?_⟩⟩
      refine⟨_,o_res rfl (hkD.get f1 (fun x=>by omega)),rfl,f2.next hkD (fun _ _ x=>x) (fun k hk x=>by omega)⟩
end Go.Proofs.YtnidpeeljoaelaaGreat
