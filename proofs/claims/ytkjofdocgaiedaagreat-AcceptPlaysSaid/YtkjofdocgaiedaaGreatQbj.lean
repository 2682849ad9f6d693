/- Texts AcdO, StpN, AcdB, AcdP, AcdQ, StpP, AccQ, AccR, AcdE, AceA, AceB, AcdF in one. Conditions: as each law names them. -/
import Derived.Test.YtkjofdocgaiedaaGreatQae
import Derived.Test.YtkjofdocgaiedaaGreatQah
import Derived.Test.YtkjofdocgaiedaaGreatQay
import Derived.Test.YtkjofdocgaiedaaGreatQbc
import Derived.Test.YtkjofdocgaiedaaGreatQbe
import Derived.Test.YtkjofdocgaiedaaGreatQbf
import Derived.Test.YtkjofdocgaiedaaGreatQbg
import Derived.Test.YtkjofdocgaiedaaGreatQbi
set_option maxRecDepth 20000
set_option maxHeartbeats 8000000
namespace Go.Proofs.YtkjofdocgaiedaaGreat
section
open Go.RowKit Go.Maps MI SO BM DM WM AC
theorem AC.cut_first:∀ (vs:List Vt) (k n:Nat),Rise vs->(vs.take n).filter (λv=>decide (v.slot<=k))=(vs.filter λv=>decide (v.slot<=k)).take n
 | [],_,_,_=>by simp
 | v :: t,k,0,_=>by simp
 | v :: t,k,n+1,h=>by{have h1:∀ x ∈ t,v.slot<x.slot:=λx hx=>List.rel_of_pairwise_cons h hx;have h2:Rise t:=List.Pairwise.of_cons h;rw[List.take_succ_cons,List.filter_cons,List.filter_cons];by_cases hv:v.slot<=k;{rw[if_pos (by simpa using hv),if_pos (by simpa using hv),List.take_succ_cons,AC.cut_first t k n h2]};{have e:t.filter (λv=>decide (v.slot<=k)) = []:=List.filter_eq_nil_iff.2 λx hx=>by{have:=h1 x hx;simp;omega};rw[if_neg (by simpa using hv),if_neg (by simpa using hv),e,AC.cut_first t k n h2,e];simp}}
theorem AC.cutV_first {vs:List Vt} (k:Nat) (h:Rise vs):cutV vs k=(vs.take 32).filter (λv=>decide (v.slot<=k)):=by
 rw[AC.cut_first vs k 32 h];rfl
def RTrimPost (a d:Nat) (F:Nat→Prop) (w:World) (R:(Nat×Int)×Dk×Ac) (e:Ending) (w':World):Prop:=
 e = .returned (.tuple #[.int .i64 (R.1.1:Nat),.int .i64 R.1.2])∧Turns (RAcT a d R.2.1 R.2.2.s) F w w'
def AC.cutI (vs:List Vt) (k i:Nat):List Vt:=(vs.take i).filter fun v=>decide (v.slot≤k)
theorem AC.cutI_snoc (vs:List Vt) (k i:Nat) (hi:i<vs.length):cutI vs k (i+1)=if vs[i].slot<=k then cutI vs k i ++ [vs[i]] else cutI vs k i:=by
 unfold cutI;rw[List.take_add_one,List.getElem?_eq_getElem hi,Option.toList_some,List.filter_append,List.filter_cons];by_cases h:vs[i].slot<=k;{rw[if_pos (by simpa using h),if_pos h,List.filter_nil]};{rw[if_neg (by simpa using h),if_neg h,List.filter_nil,List.append_nil]}
theorem AC.cutI_len (vs:List Vt) (k i:Nat):(cutI vs k i).length<=i:=by
 unfold cutI;have h1:=List.length_filter_le (λv:Vt=>decide (v.slot<=k)) (vs.take i);rw[List.length_take] at h1;omega
structure RTrimIn (w:World) (vs:List Vt) (k i:Nat) (lv:Value) (wr:World):Prop where
 keep:Keep (fun _=>False) w wr
 row:Row wr 63 3 lv (cutI vs k i).length (chsV (z3L (cutI vs k i)))
 own:∀ j,lv.ownBlock=some j→w.heap.size≤j
theorem znG (w:World) (a d:Nat) (D:Dk) (A:Ac) (F:Nat->Prop) (H:RAcT a d D A.s w F) (hO:AOk A) (hm:A.s.ps.length<=890000) (hfew:D.waits.length<=490000) (k:Nat) :
  Calls Tryz.prog 73 #[.pointer (some ⟨a,0,none⟩),.int .u64 (k:Int)] w (RTrimPost a d F w (z3T D A k)):=by
 obtain⟨Post,hPost⟩:=zX1 (RTrimPost a d F w (z3T D A k));rw[<-hPost];have HP:=hid hPost;obtain⟨sb,pv,wp,hlk⟩:=H.look;obtain⟨m0,-,-⟩:=z6F hlk.box;obtain⟨-,-,s2,-,-⟩:=zaB hlk.sto;obtain⟨dd,hdd⟩:=zX1 (A.s.dead);rw[<-hdd] at s2;have HD:=hid hdd;cases dd with
 | true=>
   clear hdd hlk hPost;go_enter Tryz.func73,Tryz.ntmps73;go_wp2_with fail;show Post (.returned (.tuple #[.int .i64 0,.int .i64 6])) w;rw[HP.out,show z3T D A k=((0,6),D,A) by unfold z3T;rw[if_pos HD.out.symm]];exact⟨rfl,F,H,Keep.refl _ _,λ_ x=>.inl x⟩
 | false=>
   have hok:=hO.ok hdd.symm;have hvo:=z8V w a sb pv wp A.s 1 hlk (by omega);rw[<-hdd] at hvo;simp only[Bool.false_eq_true,if_false] at hvo;rw[hO.ps hdd.symm,zfC hok] at hvo;have hall:z5I A.vs 1=A.vs:=by{unfold z5I;exact List.filter_eq_self.2 λv hv=>by have:=(hok.each v hv).slot;simp;omega};rw[hall] at hvo;have hcut:=cutV_first k hok.rise;have H0:=hid (zA1 H (zA1 hO (zA1 hm (zA1 hfew (zA1 hcut (hO.vsfew hdd.symm hm))))));clear hdd hlk hPost hok hall hcut H hO hm hfew;go_enter Tryz.func73,Tryz.ntmps73;go_wp2_with fail;refine hvo.mono ?_;rintro e w1 ⟨v1,us,Fv,rfl,hv1,hFv,hk1⟩;obtain⟨ao,nc,rfl,-⟩:=hv1.row.form;obtain⟨n,hnn⟩:=zX1 (A.vs.length);rw[<-hnn];have H1:=hid (zA1 hv1 (zA1 hFv (zA1 hk1 hnn)));have m0:=z0D hk1 _ _ m0;clear hv1 hFv hk1 hnn hvo s2;go_wp2_with fail
   go_loopw [7,8] (λlv iv wr=>∃ i:Nat,i<=n/\i<=32/\iv = .int .i64 i/\Hid (RTrimIn w1 A.vs k i lv wr)) (λ_ iv _=>32 - (intOf iv).toNat)
   case atStart=>exact⟨0,Nat.zero_le _,Nat.zero_le _,rfl,hid ⟨Keep.refl _ _,Row.nil _ _ _,λj e=>by simp[Value.ownBlock] at e⟩⟩
   case round=>
    obtain⟨i,hi,hi32,rfl,HR⟩:=hrel;by_cases hin:i<n/\i<32;{have q1:(i:Int)<(n:Int):=by{omega};have q2:(i:Int)<32:=by{omega};have hil:i<A.vs.length:=by{have:=H1.out.2.2.2;omega};obtain⟨g',ua,uc,rfl,hcell,-⟩:=(H1.out.1.keep HR.out.keep zI).get i hil;obtain⟨x,hx⟩:=zX1 (A.vs[i]);rw[<-hx] at hcell;obtain⟨sl,hsl⟩:=zX1 (x.slot);have b0:=hcell 0 _ rfl;rw[Nat.add_zero] at b0;rw[<-hsl] at b0;have hsl64:sl<18446744073709551616:=by{rw[hsl,hx];exact((H0.out.2.1.ok HD.out.symm).each _ (List.getElem_mem _)).lt};have hsnoc:=AC.cutI_snoc A.vs k i hil;rw[<-hx,<-hsl] at hsnoc;have hrow:=HR.out.row;obtain⟨cs,hcs⟩:=zX1 (cutI A.vs k i);rw[<-hcs] at hsnoc hrow;obtain⟨cl,hcl⟩:=zX1 (cs.length);have hcl32:cl<=32:=by{have:=AC.cutI_len A.vs k i;rw[hcl,hcs];omega};obtain⟨la,lc,rfl,-⟩:=hrow.form;have HX:=hid (zA1 hsnoc (zA1 hrow (zA1 hcl (zA1 hsl hcs))));rw[<-hcl];clear hcell hsl hsnoc hrow hcs hcl hx;by_cases hgo:sl<=k;{have t1:(sl:Int)<=(k:Int):=by{omega};have hke:=ziC wr sl hsl64;have HG:=hid hgo;clear hgo;go_wp2_with fail;refine hke.mono ?_;rintro e w3 ⟨rfl,hk3⟩;have HK3:=hid (HR.out.keep.nx hk3);have H3:=hid (zA1 hk3 (HX.out.2.1.keep hk3 zI));have hk4:=kal w3 (.cells #[.string (str (keyS sl)),.string { data:=#[] },.bool true] 63);have hn4:=heap_alloc_new w3 (.cells #[.string (str (keyS sl)),.string { data:=#[] },.bool true] 63);have H4:=hid (zA1 hk4 hn4);clear hke hk3 hk4 hn4 b0;go_wp2_with (at_builtin;refine z0H ?_;intro q hq);(refine hq.out ?_;clear hq q);obtain⟨w4,hw4⟩:=zX1 (w3.alloc (.cells #[.string (str (keyS sl)),.string { data:=#[] },.bool true] 63));rw[<-hw4] at H4;(first | rw[<-hw4] | skip);clear hw4;have hn4:=H4.out.2;have hrow4:=H3.out.2.keep H4.out.1 zI;rw[<-HX.out.2.2.1] at hrow4;refine wpList_plain rfl (λK hK=>?_);refine z0P zeG (.tmp 36) (.tmp 44) rfl rfl hrow4 (some ⟨w3.heap.size,0,none⟩) 1 1 (chV ⟨keyS sl,[],true⟩) rfl ⟨rfl,λ_=>⟨_,rfl,λt u hu=>by rw[z0L,Nat.zero_add,cell_of_row _ _ _ _ _ _ hn4];simpa [chV,str] using hu⟩⟩ (z4B _) (by unfold maxLen;omega) (by omega) ?_;intro v5 w5 hr5 hk5 hv5;have hk5:Keep (λj=>(Value.slice la cl lc).ownBlock=some j) w4 w5:=hk5;have hv5:(v5 = .slice la cl lc/\1=0)∨∃ j,v5.ownBlock=some j/\((Value.slice la cl lc).ownBlock=some j∨j=w4.heap.size):=hv5;have hlo:∀ j,(Value.slice la cl lc).ownBlock=some j->w1.heap.size<=j:=λj e=>HR.out.own j (by rw[z0Y la _ cl];exact e);refine hK _ _ ?_;clear hK K;have HZ:=hid (show RTrimIn w1 A.vs k (i+1) v5 w5 from by{refine⟨((HK3.out.nx H4.out.1)).next hk5 zI (λj hj e=>by have:=hlo j e;omega),?_,λj e=>?_⟩;{rw[HX.out.1,if_pos HG.out,AC.trimL_snoc,z7C,zbP,List.length_append,<-HX.out.2.2.1,List.length_singleton,<-HX.out.2.2.2.1];exact hr5};{rcases hv5 with ⟨_,h⟩ | ⟨j',h1,h2⟩;{omega};{rw[e] at h1;cases h1;rcases h2 with h2 | h2;{exact hlo j h2};{have h3:=(HK3.out.nx H4.out.1).size;omega}}}});clear hr5 hk5 hv5 hrow4 hn4 hlo t1 q1 q2;go_wp2_with fail;go_roundw;(case rel=>exact⟨i+1,by omega,by omega,by go_num,HZ⟩);case measure=>simp[intOf];omega};{have HZ:=hid (show RTrimIn w1 A.vs k (i+1) (.slice la cl lc) wr from by{refine⟨HR.out.keep,?_,λj e=>HR.out.own j (by rw[z0Y la _ cl];exact e)⟩;rw[HX.out.1,if_neg hgo];have h:=HX.out.2.1;rw[<-HX.out.2.2.1] at h |-;exact h});have t1:decide ((sl:Int)<=(k:Int))=false:=decide_eq_false (by omega);have t3:decide (sl<=k)=false:=decide_eq_false hgo;clear hgo;go_wp2_with fail;go_roundw;(case rel=>exact⟨i+1,by omega,by omega,by go_num,HZ⟩);case measure=>simp[intOf];omega}}
    ·have hci:cutI A.vs k i=cutV A.vs k:=by
      rw[H0.out.2.2.2.2.1];unfold cutI;by_cases h:i=32;{rw[h]};{have h2:=H1.out.2.2.2;rw[List.take_of_length_le (by omega),List.take_of_length_le (by omega)]}
     have hrow:=HR.out.row;rw[hci] at hrow;obtain⟨cs,hcs⟩:=zX1 (cutV A.vs k);rw[<-hcs] at hrow;obtain⟨cl,hcl⟩:=zX1 (cs.length);rw[<-hcl] at hrow;have hcl32:cl<=32:=by{rw[hcl,hcs];exact(AC.cutV_len _ _).1};obtain⟨la,lc,rfl,-⟩:=hrow.form;have hrow2:=hrow;have HX:=hid (zA1 hrow (zA1 hcl (zA1 hcs HR.out.own)));have HKw:=hid (H1.out.2.2.1.nx HR.out.keep);obtain⟨sb2,X,Y,hbox,⟨F1,F2,hsa,hY⟩,hd,hF⟩:=(RAcT.lives a d D A.s).keep H0.out.1 HKw.out zI;have hFl:=(RAcT.lives a d D A.s).lt H0.out.1
     have hdo:=zoN wr sb2 d F1 F2 D A.s hsa la cl lc (z3L cs) (Chs.of_row (by
       have h:(z3L cs).length=cl:=by{unfold z3L;rw[List.length_map,hcl]};rw[h]
       exact hrow) (AC.trimL_ok cs)) (by unfold z3L;rw[List.length_map,hcl]) (λhp x hx=>by
       have h1:=HR.out.own x.block (by rw[hx];rfl);have h2:=H1.out.2.2.1.size
       exact⟨λy=>by have:=hFl x.block (by rw[hF,hY];exact .inr (.inl y));omega,λy=>by have:=hFl x.block (by rw[hF,hY];exact .inr (.inr y));omega⟩) (λ_=>by have:=H0.out.2.2.1;omega) (by have:=H0.out.2.2.2.1;omega)
     obtain⟨E,hE⟩:=zX1 (doS D A.s (z3L cs));rw[<-hE] at hdo;obtain⟨m0,-,-⟩:=z6F hbox.1;have HE:=hid hE;have HB:=hid (zA1 hbox (zA1 hY (zA1 hd hF)));clear hE hbox hsa hY hd hF hFl hrow hrow2 hcs hcl hci;have hfin:∃ q:Bool,q=decide ((i:Int)<32):=⟨_,rfl⟩;have cut:(decide ((i:Int)<(n:Int))=false/\decide (i<n)=false)∨((i:Int)<(n:Int)/\decide ((i:Int)<32)=false/\decide (i<32)=false/\i<n):=by{by_cases h:i<n;{exact .inr ⟨by omega,decide_eq_false (by omega),decide_eq_false (by omega),h⟩};{exact .inl ⟨decide_eq_false (by omega),decide_eq_false h⟩}};clear hfin;have HI:=hid hin;clear hin hi hi32;by_cases h0:cl=0;{subst h0;have hE:z3T D A k=((0,0),D,A):=by{have h1:=HX.out.2.1;unfold z3T;rw[if_neg (by rw[<-HD.out];decide),<-HX.out.2.2.1,if_pos (List.length_eq_zero_iff.1 h1.symm)]};have HEE:=hid hE;clear hE hdo m0;rcases cut with ⟨c1,c2⟩ | ⟨c1,c2,c3,c4⟩;all_goals go_wp2_with fail;show Post (.returned (.tuple #[.int .i64 0,.int .i64 0])) _;rw[HP.out,HEE.out];exact⟨rfl,F,(RAcT.lives a d D A.s).keep H0.out.1 HKw.out zI,HKw.out.mono zE,λ_ x=>.inl x⟩}
     ·have t1:((cl:Int) == 0)=false:=by simp;omega
      have t2:decide (cl=0)=false:=decide_eq_false h0;have hE:z3T D A k=if E.1=0 then ((cl,0),E.2.1,⟨E.2.2,A.b,A.vs.drop cl⟩) else ((0,E.1),E.2.1,⟨E.2.2,A.b,A.vs⟩):=by{have h1:=HX.out.2.1;unfold z3T;rw[if_neg (by rw[<-HD.out];decide),<-HX.out.2.2.1,if_neg (λe=>h0 (by rw[h1,e];rfl)),<-HE.out,<-h1]};have HEE:=hid hE;clear hE h0;rcases cut with ⟨c1,c2⟩ | ⟨c1,c2,c3,c4⟩
      all_goals
       go_wp2_with fail;refine hdo.mono ?_;rintro e w9 ⟨rfl,ht⟩;obtain⟨hbox,hY,hd,hF⟩:=HB.out;have htt:=ht.turnsR;rw[<-hY] at htt;have hTT:=RAcT.turn hbox hd hF htt;have HT:=hid (show Turns (RAcT a d E.2.1 E.2.2) F w w9 from by{obtain⟨F9,g1,g2,g3⟩:=hTT;have hs:=HKw.out.size;exact⟨F9,g1,HKw.out.next g2 zE zI,λj x=>(g3 j x).imp id λy=>by omega⟩});clear hdo ht hbox hY hd hF htt hTT m0;by_cases h0:E.1=0;{have q1:(E.1 != 0)=false:=by{simp[h0]};have HH:=hid h0;clear h0;go_wp2_with fail;show Post (.returned (.tuple #[.int .i64 (cl:Int),.int .i64 0])) _;rw[HP.out,HEE.out,if_pos HH.out];exact⟨rfl,HT.out⟩};{have q1:(E.1 != 0)=true:=by{simpa using h0};have q2:decide (E.1=0)=false:=decide_eq_false h0;have HH:=hid h0;clear h0;go_wp2_with fail;show Post (.returned (.tuple #[.int .i64 0,.int .i64 E.1])) _;rw[HP.out,HEE.out,if_neg HH.out];exact⟨rfl,HT.out⟩}
end
section
open Go.RowKit Go.Maps MI SO BM DM WM
section
variable {P:Program} {o:Oper} {a:Act} {w:World} {K:Act→World→Prop} {Q:Exit→Act→World→Prop}
theorem zjA (ty:TypeId) (x:Operand) (ho:o.op = .load ty x) (p:Addr) (hx:a.eval x = .pointer (some p)) (cs:List Value)
  (hc:∀ j u,cs[j]?=some u->w.cell? (p.add j)=some u) (d:TypeDesc)
  (hu:P.underlying ty=some d) (hd:(match d with | .struct _ | .array _ _=>true | _=>false)=true) (hi:(P.info? ty).map (·.size)=some cs.length)
  (h:K (a.put o.dst (.agg cs.toArray)) w):o.wp P a w K Q:=by
 have hl:=run_loadCells_list (P:=P) w p cs hc;cases hq:P.info? ty with | none=>{simp[hq] at hi} | some i=>{have hs:i.size=cs.length:=by{simpa [hq] using hi};have hagg:(isAgg ty).run P w = .ok true w:=by{unfold isAgg;rw[Sem.run_bind,run_underlying hu w];cases d <;> simp_all};have hr:(loadVar ty p).run P w = .ok (.agg cs.toArray) w:=by{simp[loadVar,Sem.run_bind,hagg,sizeOf,typeInfo,hq,hs,hl]};unfold Oper.wp execOp;simp only[ho,hx,Instr.loadAt,Instr.sureAddr,Sem.run_bind,Sem.run_pure,Result.andThen_ok,hr];exact h}
end
structure zwZ (D:Dk) (S:St):Prop where
 size:6≤D.safe.length
 ok:PsOk S.ps
 count:S.g.l.length≤4000
 safe:S.g.safe≤S.g.l.length
 lg:LgOk (half D) S.g
theorem StoAt.facts {w:World} {b d:Nat} {F Fd:Nat->Prop} {D:Dk} {S:St} (h:StoAt w b d F Fd D S):zwZ D S:=by
 have hok:=h.ok;obtain⟨wb,mb,m,Fl,H⟩:=h;have hl:=H.log.ok;exact⟨by have:=hl.two;unfold half at this;omega,hok,hl.count,hl.safe,hl⟩
end
section
open Go.RowKit Go.Maps Go.Shelf MI SO BM DM WM AC
attribute [local go_sem] Oper.semAt_some
def AcP (d:Nat) (D:Dk) (o:Option Ac) (av:Value):Thing:=fun w F=>
 match o with
 | none=>av = .pointer none∧DkT d D w F
 | some A=>∃ a,av = .pointer (some ⟨a,0,none⟩)∧AcT a d D A w F
theorem AcP.lives (d:Nat) (D:Dk) (o:Option Ac) (av:Value):Lives (AcP d D o av):=by
 cases o with | none=>{exact⟨λh hk hn=>⟨h.1,(DkT.lives d D).keep h.2 hk hn⟩,λh=>(DkT.lives d D).lt h.2⟩} | some A=>{exact⟨λ⟨b,h1,h2⟩ hk hn=>⟨b,h1,(AcT.lives b d D A).keep h2 hk hn⟩,λ⟨b,_,h2⟩=>(AcT.lives b d D A).lt h2⟩}
theorem AcT.disk {a d:Nat} {D:Dk} {A:Ac} {w:World} {F:Nat->Prop} (h:AcT a d D A w F):∃ F',DkT d D w F'/\∀ k,F' k->F k:=by
 obtain⟨sb,nv,X,Y,Z,-,⟨F1,F2,h1,hY⟩,-,-,-,-,hF⟩:=h;exact⟨F2,h1.diskAt,λk x=>by rw[hF,hY];exact .inr (.inl (.inr x))⟩
theorem AcP.disk {d:Nat} {D:Dk} {o:Option Ac} {av:Value} {w:World} {F:Nat->Prop} (h:AcP d D o av w F):∃ F',DkT d D w F'/\∀ k,F' k->F k:=by
 cases o with | none=>{exact⟨F,h.2,λ_ x=>x⟩} | some A=>{obtain⟨a,-,h⟩:=h;exact h.disk}
def AOpenPost (d:Nat) (F:Nat→Prop) (w:World) (R:Int×Option Ac×Dk) (e:Ending) (w':World):Prop:=
 ∃ av,e = .returned (.tuple #[av,.int .i64 R.1])∧Turns (AcP d R.2.2 R.2.1 av) F w w'
theorem AC.rdL_append:∀ (ps qs:List (Str×Str)) (st:Bal×List Vt),rdL st (ps ++ qs)=match rdL st ps with | none=>none | some s=>rdL s qs
 | [],_,_=>rfl
 | p :: ps,qs,st=>by{simp only[List.cons_append,rdL];cases rd1 st p with | none=>{rfl} | some s=>{exact AC.rdL_append ps qs s}}
theorem SO.op_code {D:Dk} {S:St} (h:(opS D).2.1=some S):(opS D).1=0:=by
 unfold opS at *;split at h;{cases h};{split at h;{cases h};{rfl}}
theorem SO.op_dead {D:Dk} {S:St} (h:(opS D).2.1=some S):S.dead=false:=by
 unfold opS at h;split at h;{cases h};{split at h;{cases h};{cases h;rfl}}
theorem SO.op_none {D:Dk} (h:(opS D).2.1=none):(opS D).1≠0:=by
 unfold opS at *;split;{rename_i ho;exact open_none ho};{rename_i ho;split;{show (50:Int)≠0;decide};{rename_i hd;rw[ho] at h;simp only at h;rw[hd] at h;cases h}}
structure RIn (w4:World) (a b:Nat) (pre:List (Str×Str)) (W:World):Prop where
 ex:∃ st nv us,rdL (Bal.zero,[]) pre=some st∧W.heap[a]?=some (.cells (accC b st.1 nv false) 86 (0,0))∧Votes W (fun k=>w4.heap.size≤k) nv st.2 us
 keep:Keep (fun k=>k=a) w4 W
theorem AC.rdL_len:∀ {ps:List (Str×Str)} {st st':Bal×List Vt},rdL st ps=some st'->st'.2.length<=st.2.length+ps.length
 | [],st,st',h=>by cases h;simp
 | p :: ps,st,st',h=>by{unfold rdL at h;cases h1:rd1 st p with | none=>{rw[h1] at h;cases h} | some s=>{rw[h1] at h;have h2:=AC.rdL_len (st:=s) h;have h3:s.2.length<=st.2.length+1:=by{rcases zfK h1 with ⟨-,-,e,-⟩ | ⟨-,-,v,e,-⟩;{rw[e];omega};{rw[e];simp}};simp only[List.length_cons];omega}}
theorem Votes.turn {w w':World} {F:Nat->Prop} {v:Value} {vs:List Vt} {us:List Value} {r:Option Nat} (h:Votes w F v vs us) (hk:Keep (λk=>r=some k) w w') (hr:∀ k,r=some k->∃ o:Obj,w.heap[k]?=some o/\o.isCells=false):Votes w' F v vs us:=
 ⟨h.row.turn hk hr,h.len,h.own,λj hj=>let ⟨h2,h3⟩:=h.each j hj;⟨h2.turn hk hr,h3⟩⟩
theorem RIn.turn {w4:World} {a b:Nat} {pre:List (Str×Str)} {W W':World} {r:Option Nat} {B:Nat} (h:RIn w4 a b pre W) (hB:w4.heap.size<=B) (hk:Keep (λk=>r=some k) W W') (h1:∀ k,r=some k->B<=k) (hr:∀ k,r=some k->∃ o:Obj,W.heap[k]?=some o/\o.isCells=false):RIn w4 a b pre W':=by
 obtain⟨⟨st,nv,us,e1,e2,e3⟩,k1⟩:=h;exact⟨⟨st,nv,us,e1,zbS e2 hk hr,e3.turn hk hr⟩,k1.next hk zI (λk hk x=>by have:=h1 k x;omega)⟩
structure ROut (w5:World) (a r2 r3:Nat) (ps:List (Str×Str)) (W:World):Prop where
 bad:rdL (Bal.zero,[]) ps=none
 c2:W.heap[r2]?=some (.cells #[.pointer none] 36 (0,0))
 c3:W.heap[r3]?=some (.cells #[.int .i64 91] 33 (0,0))
 keep:Keep (fun k=>k=a∨k=r2∨k=r3) w5 W
theorem ROut.turn {w5:World} {a r2 r3:Nat} {ps:List (Str×Str)} {W W':World} {r:Option Nat} {B:Nat} (h:ROut w5 a r2 r3 ps W) (hB:w5.heap.size<=B) (hk:Keep (λk=>r=some k) W W') (h1:∀ k,r=some k->B<=k) (hr:∀ k,r=some k->∃ o:Obj,W.heap[k]?=some o/\o.isCells=false):ROut w5 a r2 r3 ps W':=
 ⟨h.bad,zbS h.c2 hk hr,zbS h.c3 hk hr,h.keep.next hk zI (λk hk x=>by have:=h1 k x;omega)⟩
theorem AC.rdL_bad {ps:List (Str×Str)} {p:Str×Str} {st:Bal×List Vt} {s0:Bal×List Vt} (h:rdL s0 ps=some st) (hp:rd1 st p=none):rdL s0 (ps ++ [p])=none:=by
 rw[AC.rdL_append,h];simp only[rdL,hp]
theorem AC.rdL_next {ps:List (Str×Str)} {p:Str×Str} {st st':Bal×List Vt} {s0:Bal×List Vt} (h:rdL s0 ps=some st) (hp:rd1 st p=some st'):rdL s0 (ps ++ [p])=some st':=by
 rw[AC.rdL_append,h];simp only[rdL,hp]
theorem zcE (w:World) (d:Nat) (F:Nat->Prop) (D:Dk) (hD:DiskAt w d F D) (hfew:D.waits.length<=800000) :
  Calls Tryz.prog 23 #[.pointer (some ⟨d,0,none⟩)] w (AOpenPost d F w (z2T D)):=by
 obtain⟨Post,hPost⟩:=zX1 (AOpenPost d F w (z2T D));rw[<-hPost];refine(callsIn_wide (n:=5)).1 ?_;refine callsIn_of_wp_marks Tryz.func23 rfl trivial ?_ rfl;simp only[Tryz.ntmps23,List.size_toArray,List.length_cons,List.length_nil,Nat.reduceAdd,Nat.reduceSub,Array.replicate_succ,Array.replicate_zero,List.push_toArray,List.append_toArray,List.nil_append,List.cons_append];have hk1:=kal w (.cells #[.pointer none] 36);have hz1:(w.alloc (.cells #[.pointer none] 36)).heap.size=w.heap.size+1:=by{simp};have hn1:=heap_alloc_new w (.cells #[.pointer none] 36);have hn:=heap_alloc_new (w.alloc (.cells #[.pointer none] 36)) (.cells #[.int .i64 0] 33);have hk2:Keep zF (w.alloc (.cells #[.pointer none] 36)) ((w.alloc (.cells #[.pointer none] 36)).alloc (.cells #[.int .i64 0] 33)):=(Keep.refl _ _).alloc _;have hn2:=hk2.get hn1 id;rw[hz1] at hn;have hk:=hk1.nx hk2;obtain⟨w1,hw1⟩:=zX1 ((w.alloc (.cells #[.pointer none] 36)).alloc (.cells #[.int .i64 0] 33));rw[<-hw1] at hn hn2 hk;have hop:=zqJ w1 d F D (DiskAt.keep hD hk zI) hfew;have hFl:=DiskAt.lt hD;have H1:=hid (zA1 hn (zA1 hn2 (zA1 hk (zA1 hFl hPost))));clear hk1 hk2 hz1 hn1 hn hn2 hk hD hfew hFl hPost;refine wpIn_wide.2 ?_
 go_upto_region 1 with fail
 rw[<-hw1];clear hw1;go_wp2_with fail;refine hop.mono ?_;intro e w2 hp;clear hop;have hop:=zcT D;obtain⟨sv,rfl,F2,hs2,hk2,hN2⟩:=hp.side;clear hp;obtain⟨hn,hn2,hk,hFl,hPost⟩:=H1.out;have hz:=z0M hn;have r2:=hk2.get hn2 (λx=>by have:=hFl _ x;omega);have r3:=hk2.get hn (λx=>by have:=hFl _ x;omega);have hkF:=hk.next hk2 (H:=F) zE zI;have hNF:∀ i,F2 i->F i∨w.heap.size+2<=i:=λi x=>(hN2 i x).imp id λy=>by{omega};clear hn hn2 hk hk2 hN2;cases ho:(opS D).2.1 with
 | none=>
   rw[ho] at hs2;obtain⟨rfl,hdk⟩:=hs2;have hc0:=SO.op_none ho;have hE:z2T D=((opS D).1,none,(opS D).2.2):=by{unfold z2T;rw[ho]};have HE:=hid (zA1 hE (zA1 hdk (zA1 hkF (zA1 hNF (zA1 r2 (zA1 r3 hPost))))));obtain⟨c,hc⟩:=zX1 ((opS D).1);rw[<-hc] at hc0 HE |-;have q1:(c != 0)=true:=by{simpa using hc0};have d2:w2.cell? ⟨w.heap.size,0,none⟩=some (.pointer none):=by{simp[World.cell?,r2]};have d3:w2.cell? ⟨w.heap.size+1,0,none⟩=some (.int .i64 0):=by{simp[World.cell?,r3]};have f2:w2.frozen? ⟨w.heap.size,0,none⟩=false:=by{simp[World.frozen?,r2]};have f3:w2.frozen? ⟨w.heap.size+1,0,none⟩=false:=by{simp[World.frozen?,r3]};clear hc hc0 hE hdk hkF hNF r2 r3 hz hPost hop;go_wp2_with fail;obtain⟨hE,hdk,hkF,hNF,r2,r3,hPost⟩:=HE.out;have g2:=z0A r2 0 (.pointer none);have k2:Keep (λk=>k=w.heap.size) w2 (w2.setCell ⟨w.heap.size,0,none⟩ (.pointer none)):=kst;have g3:=z0A (k2.get r3 (λx=>by omega)) 0 (.int .i64 c);have k3:Keep (λk=>k=w.heap.size+1) (w2.setCell ⟨w.heap.size,0,none⟩ (.pointer none)) ((w2.setCell ⟨w.heap.size,0,none⟩ (.pointer none)).setCell ⟨w.heap.size+1,0,none⟩ (.int .i64 c)):=kst;have g4:=k3.get g2 (λx=>by omega);have hn2:∀ i,F2 i->i≠w.heap.size/\i≠w.heap.size+1:=λi x=>(hNF i x).elim (λy=>by have:=hFl i y;omega) (λy=>by omega);refine⟨_,z8L rfl _ _ w.heap.size (w.heap.size+1) rfl rfl none c (by simp[World.cell?,g4]) (by simp[World.cell?,g3]) (by kernel_rfl) (by kernel_rfl),?_⟩;rw[hPost,hE];exact⟨_,rfl,F2,⟨rfl,(DkT.lives _ _).keep ((DkT.lives _ _).keep hdk k2 (λi x=>(hn2 i x).1)) k3 (λi x=>(hn2 i x).2)⟩,(hkF.next k2 zI (λk hk e=>by omega)).next k3 zI (λk hk e=>by omega),λi x=>(hNF i x).imp id λy=>by omega⟩
 | some S=>
   rw[ho] at hs2;obtain⟨b,rfl,F1,Fd,hst,hF2⟩:=hs2;have hc0:=SO.op_code ho;have hOk:=hop S ho;have hps:=hst.ok;have hfw:=hOk.few hst.facts.count;have hdead:=SO.op_dead ho;have hE:z2T D=match rd S.ps with | none=>(91,none,(opS D).2.2) | some (b,vs)=>(0,some ⟨S,b,vs⟩,(opS D).2.2):=by{unfold z2T;rw[ho];rfl};rw[hc0];have hn3:=heap_alloc_new w2 (.cells #[.pointer (some ⟨b,0,none⟩),.int .u64 0,.int .i64 0,.slice none 0 0,.bool false] 86);have hk3:=kal w2 (.cells #[.pointer (some ⟨b,0,none⟩),.int .u64 0,.int .i64 0,.slice none 0 0,.bool false] 86);have hz3:(w2.alloc (.cells #[.pointer (some ⟨b,0,none⟩),.int .u64 0,.int .i64 0,.slice none 0 0,.bool false] 86)).heap.size=w2.heap.size+1:=by{simp};obtain⟨w3,hw3⟩:=zX1 (w2.alloc (.cells #[.pointer (some ⟨b,0,none⟩),.int .u64 0,.int .i64 0,.slice none 0 0,.bool false] 86));rw[<-hw3] at hn3 hk3 hz3;have hn4:=heap_alloc_new w3 (.cells #[.pointer (some ⟨w2.heap.size,0,none⟩)] 36);have hk4:=kal w3 (.cells #[.pointer (some ⟨w2.heap.size,0,none⟩)] 36);have hz4:(w3.alloc (.cells #[.pointer (some ⟨w2.heap.size,0,none⟩)] 36)).heap.size=w3.heap.size+1:=by{simp};obtain⟨w4,hw4⟩:=zX1 (w3.alloc (.cells #[.pointer (some ⟨w2.heap.size,0,none⟩)] 36));rw[<-hw4] at hn4 hk4 hz4;rw[hz3] at hn4 hz4;have hst4:=(hst.later hk3).later hk4;have hall:=zkP w4 b d F1 Fd (opS D).2.2 S hst4 (λh=>by have:=hfw h;omega);have htold:told S=S.ps:=by{unfold told;rw[hdead];rfl};rw[htold] at hall;have H4:=hid (zA1 (hk4.get hn3 id) (zA1 hn4 (zA1 (hk3.nx hk4) (zA1 hst4 (zA1 hE (zA1 hkF (zA1 hNF (zA1 r2 (zA1 r3 (zA1 hPost (zA1 hps (zA1 hfw (zA1 hdead (zA1 hF2 (zA1 hz hz4)))))))))))))));have HW4:=hid (zA1 hw3 hw4);have HLt:=hid hst.ltw;clear hn3 hk3 hz3 hn4 hk4 hz4 hst hst4 hE hkF hNF r2 r3 hPost hps hfw hdead htold hF2 hz hc0 hOk hop hw3 hw4
   go_upto_region 5 with fail
   rw[<-HW4.out.1,<-HW4.out.2];clear HW4;go_wp2_with (at_builtin;refine z0H ?_;intro q hq);refine hall.mono ?_;rintro e w5 ⟨v,rfl,hs,hk5⟩;obtain⟨hbig,f,caps,rfl,hent,hseq⟩:=hs;have H5:=hid (zA1 hbig (zA1 hent (zA1 hseq hk5)));clear hall hbig hent hseq hk5;have hq:∀ w,(binOp .eql 134 (.func (.func f) #[] caps) .nilFunc).run Tryz.prog w = .ok (.bool false) w:=λ_=>rfl;go_wp2_with (at_builtin;refine z0H ?_;intro q hq);have hn5r2:=(H4.out.2.2.1.nx H5.out.2.2.2).get H4.out.2.2.2.2.2.2.2.1 id;have hn5r3:=(H4.out.2.2.1.nx H5.out.2.2.2).get H4.out.2.2.2.2.2.2.2.2.1 id;have hn5a:=H5.out.2.2.2.get H4.out.1 id;have hn5p:=H5.out.2.2.2.get H4.out.2.1 id;have HN:=hid (zA1 hn5r2 (zA1 hn5r3 (zA1 hn5a hn5p)));have hz4:=H4.out.2.2.2.2.2.2.2.2.2.2.2.2.2.2.2;have hz45:=H5.out.2.2.2.size;have hw12:=z0M H4.out.2.2.2.2.2.2.2.2.1;clear hn5r2 hn5r3 hn5a hn5p hq;have hKst:∀ k,F1 k∨Fd k->¬ (k=w.heap.size∨k=w.heap.size+1∨w2.heap.size<=k):=λk x=>by{have h1:=HLt.out k x;have h2:=H4.out.2.2.2.2.2.2.1 k (by rw[H4.out.2.2.2.2.2.2.2.2.2.2.2.2.2.1];exact x);rcases h2 with h2 | h2;{have:=hFl k h2;omega};{omega}};(have hKf:∀ W9,Keep (λk=>k=w.heap.size∨k=w.heap.size+1∨w2.heap.size<=k) w4 W9->Keep F w W9:=λW9 h=> (H4.out.2.2.2.2.2.1.next H4.out.2.2.1 zI zE).next h zI (λk hk x=>by omega));have hNf:∀ i,F1 i∨Fd i->F i∨w.heap.size<=i:=λi x=>(H4.out.2.2.2.2.2.2.1 i (by rw[H4.out.2.2.2.2.2.2.2.2.2.2.2.2.2.1];exact x)).imp id λy=>by{omega};have HBad:=hid (show rd S.ps=none->∀ W9,Keep (λk=>k=w.heap.size∨k=w.heap.size+1∨w2.heap.size<=k) w4 W9->Post (.returned (.tuple #[.pointer none,.int .i64 91])) W9 from λh W9 hk=>by{rw[H4.out.2.2.2.2.2.2.2.2.2.1,H4.out.2.2.2.2.1,h];exact⟨_,rfl,Fd,⟨rfl,DiskAt.keep H4.out.2.2.2.1.diskAt hk (λk x=>hKst k (.inr x))⟩,hKf W9 hk,λi x=>hNf i (.inr x)⟩})
   have HGood:=hid (show ∀ b9 vs9,rd S.ps=some (b9,vs9)->∀ W9 nv us,W9.heap[w2.heap.size]?=some (.cells (accC b b9 nv false) 86 (0,0))->Votes W9 (λk=>w5.heap.size<=k) nv vs9 us->
    Keep (λk=>k=w.heap.size∨k=w.heap.size+1∨w2.heap.size<=k) w4 W9->Post (.returned (.tuple #[.pointer (some ⟨w2.heap.size,0,none⟩),.int .i64 0])) W9 from λb9 vs9 h W9 nv us hb hv hk=>by
    rw[H4.out.2.2.2.2.2.2.2.2.2.1,H4.out.2.2.2.2.1,h];refine⟨_,rfl,λk=>k=w2.heap.size∨(F1 k∨Fd k)∨(w5.heap.size<=k/\k<W9.heap.size),⟨_,rfl,b,nv,λk=>k=w2.heap.size,λk=>F1 k∨Fd k,_,⟨by rw[H4.out.2.2.2.2.2.2.2.2.2.2.2.2.1];exact hb,rfl,λk e=>by rw[e];exact z0M hb⟩,⟨F1,Fd,H4.out.2.2.2.1.keep hk (λk x=>hKst k (.inl x)) (λk x=>hKst k (.inr x)),rfl⟩,⟨⟨us,hv.lts⟩,λk x=>x.2⟩,λk e x=>?_,λk e x=>?_,λk x y=>?_,rfl⟩,hKf W9 hk,λi x=>?_⟩;{subst e;exact hKst _ x (.inr (.inr (Nat.le_refl _)))};{have h1:k=w2.heap.size:=e;have h2:=x.1;omega};{have h1:=HLt.out k x;have h2:=y.1;omega}
    ·rcases x with x | x | x
     {exact .inr (by omega)};{exact hNf i x}
     ·exact .inr (by have:=x.1;omega))
   clear hKst hKf hNf;refine(wpIn_wide (n:=5)).1 ?_;refine' wpIn_rangeFunc_ownF rfl (by omega) (gf:=f) (lb:=caps) rfl trivial H5.out.2.1 (H5.out.2.2.1 4 w5 (by omega) (Keep.refl _ _)) (λh k=>h.tr k) (λW l o o' hl _ _ _=>z3Z W l o' (.inr hl)) (Below.refl _ _) (λ_=>rfl) (λpre W=>RIn w5 w2.heap.size b (pre.map Subtype.val) W) (λcc pre W=>cc = .ret/\ROut w5 w2.heap.size w.heap.size (w.heap.size+1) (pre.map Subtype.val) W) (z8D λs W W' r h hk h1 hr=>h.turn (Nat.le_refl _) hk h1 hr) (λcc=>z8D λs W W' r h hk h1 hr=>⟨h.1,h.2.turn (Nat.le_refl _) hk h1 hr⟩) ⟨⟨(Bal.zero,[]),.slice none 0 0,[],rfl,HN.out.2.2.1,Votes.nil _ _⟩,Keep.refl _ _⟩ _ ?assign ?body ?done ?stop
   case assign=>(intro l x W K hK;simp only[encP];(gi_wp2);exact hK)
   case body=>(rintro l pre ⟨x,hx⟩ W hR hlt;obtain⟨qs,hqs⟩:=zX1 (pre.map Subtype.val);have hql:qs.length=pre.length:=by{rw[hqs,List.length_map]};have HQ:=hid (show List.map Subtype.val (pre ++ [(⟨x,hx⟩:InP S.ps)])=qs ++ [x] by rw[hqs];simp);rw[<-hqs] at hR;rw[<-hql] at hlt;clear hqs hql;obtain⟨⟨st,nv,us,e1,e2,e3⟩,hkW⟩:=hR;have hlen:=AC.rdL_len e1;have hpl:=H4.out.2.2.2.2.2.2.2.2.2.2.2.1 H4.out.2.2.2.2.2.2.2.2.2.2.2.2.1;have hsw:=hkW.size;have hok:=H4.out.2.2.2.2.2.2.2.2.2.2.1.each x hx;obtain⟨o1,o2,o3⟩:=hok;have hrd:=zoY W w2.heap.size b w5.heap.size (by omega) hsw st nv us x.1 x.2 e2 e3 (by omega) (by omega) (by simp only[List.length_nil,Nat.zero_add] at hlen;omega);have b1:=hkW.get HN.out.2.2.2 (λx=>by omega);have b2:=hkW.get HN.out.1 (λx=>by omega);have b3:=hkW.get HN.out.2.1 (λx=>by omega);have c6:W.cell? ⟨w2.heap.size+1,0,none⟩=some (.pointer (some ⟨w2.heap.size,0,none⟩)):=by{simp[World.cell?,b1]};have HB:=hid (zA1 e1 (zA1 e2 (zA1 e3 (zA1 hkW (zA1 b2 (zA1 b3 hx))))));have hxp:(λp:InP S.ps=>p.1) ⟨x,hx⟩=x:=rfl;simp only;clear e1 e2 e3 hkW b1 b2 b3 hlen hpl o1 o2 o3 hlt hxp;(gi_wp2);refine⟨trivial,(CallsIn.inRound l (callsIn_wide.2 hrd)).mono ?_⟩;rintro e W2 ⟨hk2,hres⟩;clear hrd;obtain⟨e1,e2,e3,hkW,b2,b3,-⟩:=HB.out;have hnr2:¬ (w.heap.size=w2.heap.size∨nv.ownBlock=some w.heap.size):=λx=>x.elim (λy=>by omega) (λy=>by have:w5.heap.size<=w.heap.size:=e3.own _ y;omega);have hnr3:¬ (w.heap.size+1=w2.heap.size∨nv.ownBlock=some (w.heap.size+1)):=λx=>x.elim (λy=>by omega) (λy=>by have:w5.heap.size<=w.heap.size+1:=e3.own _ y;omega);have b2:=hk2.get b2 hnr2;have b3:=hk2.get b3 hnr3;have hoth:KeepsOthers W W2:=zhX hk2 (λk h=>by{rcases h with rfl | h;{exact⟨_,_,_,e2⟩};{obtain⟨-,⟨h0,-⟩ | ⟨g,cap,cur,fz,h0,hg,-⟩⟩:=e3.row;{rw[h0] at h;simp[Value.ownBlock] at h};{rw[h0] at h;simp[Value.ownBlock] at h;subst h;exact⟨_,_,_,hg⟩}}});have hkK:Keep (λk=>k<w4.heap.size∨w5.heap.size<=k) W W2:=hk2.mono λk _ h=>h.elim (λy=>.inl (by omega)) (λy=>.inr (e3.own _ y));have hk5:Keep (λk=>k=w2.heap.size) w5 W2:=hkW.next hk2 zI (λk hk h=>h.elim id λy=>by have:w5.heap.size<=k:=e3.own _ y;omega);cases hr1:rd1 st x with | none=>{have hbad:=AC.rdL_bad e1 hr1;rw[show rd1 st (x.1,x.2)=none from hr1] at hres;subst hres;have d2:W2.cell? ⟨w.heap.size,0,none⟩=some (.pointer none):=by{simp[World.cell?,b2]};have d3:W2.cell? ⟨w.heap.size+1,0,none⟩=some (.int .i64 0):=by{simp[World.cell?,b3]};have f2:W2.frozen? ⟨w.heap.size,0,none⟩=false:=by{simp[World.frozen?,b2]};have f3:W2.frozen? ⟨w.heap.size+1,0,none⟩=false:=by{simp[World.frozen?,b3]};have HC:=hid (zA1 hbad (zA1 b2 (zA1 b3 (zA1 hoth (zA1 hkK hk5)))));clear e1 e2 e3 hkW b2 b3 hnr2 hnr3 hoth hkK hk5 hk2 hbad hr1;(gi_wp2);obtain⟨hbad,b2,b3,hoth,hkK,hk5⟩:=HC.out;rw[<-HQ.out] at hbad;have g2:=z0A b2 0 (.pointer none);have k2:Keep (λk=>k=w.heap.size) W2 (W2.setCell ⟨w.heap.size,0,none⟩ (.pointer none)):=kst;have g3:=z0A (k2.get b3 (λx=>by omega)) 0 (.int .i64 91);have k3:Keep (λk=>k=w.heap.size+1) (W2.setCell ⟨w.heap.size,0,none⟩ (.pointer none)) ((W2.setCell ⟨w.heap.size,0,none⟩ (.pointer none)).setCell ⟨w.heap.size+1,0,none⟩ (.int .i64 91)):=kst;have g4:=k3.get g2 (λx=>by omega);obtain⟨-,-,-,-,c2,c3,-⟩:=HB.out;refine⟨⟨Nat.le_trans hoth.size (Nat.le_trans k2.size k3.size),λk o h hc=>?_⟩,rfl,⟨hbad,g4,g3,(hk5.next k2 (H:=λk=>k=w2.heap.size∨k=w.heap.size∨k=w.heap.size+1) (λ_ _ x=>.inl x) (λ_ _ x=>.inr (.inl x))).next k3 zI (λ_ _ x=>.inr (.inr x))⟩⟩;refine k3.get (k2.get (hoth.same k o h hc) (λe=>?_)) (λe=>?_);{subst e;rw[c2] at h;cases h;cases hc};{subst e;rw[c3] at h;cases h;cases hc}} | some st'=>{rw[show rd1 st (x.1,x.2)=some st' from hr1] at hres;obtain⟨rfl,nv',us',g1,g2⟩:=hres;have HC:=hid (show RIn w5 w2.heap.size b (qs ++ [x]) W2 from⟨⟨st',nv',us',AC.rdL_next e1 hr1,g1,g2⟩,hk5⟩);have HD:=hid (zA1 hoth hkK);clear e1 e2 e3 hkW b2 b3 hnr2 hnr3 hoth hkK hk5 hk2 hr1 g1 g2;(gi_wp2);have hz:=HC.out;rw[<-HQ.out] at hz;exact⟨HD.out.1,HD.out.2,hz⟩})
   case done=>
    rintro Db xs W hD rfl hR hK;rw[List.attach_map_subtype_val] at hR;obtain⟨⟨st,nv,us,e1,e2,e3⟩,hkW⟩:=hR;obtain⟨ao,nc,rfl,hnc,hncm,-⟩:=e3.row.form;obtain⟨n,hn⟩:=zX1 (st.2.length);have hlen:=AC.rdL_len e1;have hpl:=H4.out.2.2.2.2.2.2.2.2.2.2.2.1 H4.out.2.2.2.2.2.2.2.2.2.2.2.2.1;have hn6:n<=200000:=by{simp only[List.length_nil,Nat.zero_add] at hlen;omega};have b1:=hkW.get HN.out.2.2.2 (λx=>by omega);have b2:=hkW.get HN.out.1 (λx=>by omega);have b3:=hkW.get HN.out.2.1 (λx=>by omega);have c6:W.cell? ⟨w2.heap.size+1,0,none⟩=some (.pointer (some ⟨w2.heap.size,0,none⟩)):=by{simp[World.cell?,b1]};have e2':=e2;rw[<-hn] at e2';obtain⟨p0,p1,p2,p3,p4,pf,pb⟩:=z1W e2';have HB:=hid (zA1 e1 (zA1 e2 (zA1 e3 (zA1 hkW (zA1 b2 (zA1 b3 (zA1 hK (zA1 hD (zA1 hn (zA1 b1 trivial))))))))));clear e1 e2 e3 hkW b1 b2 b3 hK hD hn e2' hlen hpl p0 p4 pf pb hnc;go_wp2_with fail
    go_loopw [36] (λiv wr=>∃ i:Nat,i<=n/\iv = .int .i64 i/\Hid (Keep zF W wr/\∀ j (hj:j<st.2.length),j<i->less st.1 st.2[j].bal=false)) (λiv _=>n - (intOf iv).toNat)
    case atStart=>exact⟨0,Nat.zero_le _,rfl,hid ⟨Keep.refl _ _,λj _ x=>by omega⟩⟩
    case round=>
     obtain⟨i,hi,rfl,HR⟩:=hrel;have c6:=z0D HR.out.1 _ _ c6;have p1:=z0D HR.out.1 _ _ p1;have p2:=z0D HR.out.1 _ _ p2;by_cases hin:i<n;{have q1:(i:Int)<(n:Int):=by{omega};have hil:i<st.2.length:=by{have:=HB.out.2.2.2.2.2.2.2.2.1;omega};obtain⟨g',ua,uc,rfl,hcell,-⟩:=(HB.out.2.2.1.keep HR.out.1 zI).get i hil;obtain⟨x,hx⟩:=zX1 (st.2[i]);rw[<-hx] at hcell;obtain⟨xl,hxl⟩:=zX1 (x.val.length);have a0:=hcell 0 _ rfl;have a1:=hcell 1 _ rfl;have a2:=hcell 2 _ rfl;have a3:=hcell 3 _ rfl;rw[Nat.add_zero] at a0;rw[<-hxl] at a3;have HX:=hid (show ∃ h:i<st.2.length,x=st.2[i] from⟨hil,hx⟩);clear hcell hx hxl hil;(go_upto_region 13 with fail);have hn2:=heap_alloc_new wr (.cells #[.int .u64 (x.slot:Int),.int .u64 (x.bal.n:Int),.int .i64 x.bal.node,.slice ua xl uc] 31);have hk2:=kal wr (.cells #[.int .u64 (x.slot:Int),.int .u64 (x.bal.n:Int),.int .i64 x.bal.node,.slice ua xl uc] 31);obtain⟨w6,hw6⟩:=zX1 (wr.alloc (.cells #[.int .u64 (x.slot:Int),.int .u64 (x.bal.n:Int),.int .i64 x.bal.node,.slice ua xl uc] 31));rw[<-hw6] at hn2 hk2 |-;clear hw6 a0 a1 a2 a3;obtain⟨a0,a1,a2,a3,af,ab⟩:=z3X hn2;obtain⟨lb,hlb⟩:=zX1 (less st.1 x.bal);have HL1:=hid (λs:Later w6=>show Calls Tryz.prog 36 #[balV st.1,balV x.bal] s.val λe w'=>e = .returned (.bool lb)/\Keep zF s.val w' from by rw[hlb];exact z9G s.val st.1 x.bal);have HLB:=hid hlb;have j0:=λs:Later w6=>s.cell (z0D hk2 _ _ c6);have j1:=λs:Later w6=>s.cell (z0D hk2 _ _ p1);have j2:=λs:Later w6=>s.cell (z0D hk2 _ _ p2);have j3:=λs:Later w6=>s.cell a1;have j4:=λs:Later w6=>s.cell a2;have HK:=hid (HR.out.1.nx hk2);clear hlb hk2 hn2 a0 a3 af ab;(refine z0W (by kernel_rfl) (by kernel_rfl) ?_;(repeat (go_big_quiet_step ((go_at_call 36;exact Later.call (HL1.out _)))));refine wpQuiet_nil ?_;rintro _ ⟨sq,rfl⟩);have hk3:=sq.keep;obtain⟨w7,hw7⟩:=zX1 (sq.val);rw[<-hw7] at hk3 |-;clear hw7 sq j0 j1 j2 j3 j4 HL1;have HK:=hid (HK.out.nx hk3);clear hk3;cases lb with | true=>{have b2:=HK.out.get HB.out.2.2.2.2.1 id;have b3:=HK.out.get HB.out.2.2.2.2.2.1 id;have d2:w7.cell? ⟨w.heap.size,0,none⟩=some (.pointer none):=by{simp[World.cell?,b2]};have d3:w7.cell? ⟨w.heap.size+1,0,none⟩=some (.int .i64 0):=by{simp[World.cell?,b3]};have f2:w7.frozen? ⟨w.heap.size,0,none⟩=false:=by{simp[World.frozen?,b2]};have f3:w7.frozen? ⟨w.heap.size+1,0,none⟩=false:=by{simp[World.frozen?,b3]};have H7:=hid (zA1 b2 b3);clear b2 b3;go_wp2_with fail;have hD:=HB.out.2.2.2.2.2.2.2.1;have g2:=z0A H7.out.1 0 (.pointer none);have k2:Keep (λk=>k=w.heap.size) w7 (w7.setCell ⟨w.heap.size,0,none⟩ (.pointer none)):=kst;have g3:=z0A (k2.get H7.out.2 (λx=>by omega)) 0 (.int .i64 91);have k3:Keep (λk=>k=w.heap.size+1) (w7.setCell ⟨w.heap.size,0,none⟩ (.pointer none)) ((w7.setCell ⟨w.heap.size,0,none⟩ (.pointer none)).setCell ⟨w.heap.size+1,0,none⟩ (.int .i64 91)):=kst;have g4:=k3.get g2 (λx=>by omega);have hK8:=k3.get (k2.get (HK.out.get HB.out.2.2.2.2.2.2.1 id) (λx=>by omega)) (λx=>by omega);obtain⟨w8,hw8⟩:=zX1 ((w7.setCell ⟨w.heap.size,0,none⟩ (.pointer none)).setCell ⟨w.heap.size+1,0,none⟩ (.int .i64 91));rw[<-hw8] at g3 g4 k3 hK8 |-;have hkD:=z3Z (K:=λk=>k=Db) w8 Db (.deferred none) rfl;have g5:=hkD.get g3 (λx=>by omega);have g6:=hkD.get g4 (λx=>by omega);refine⟨by simp,.inl ⟨_,_,rfl,run_takeDeferred hK8,?_⟩⟩;refine⟨_,z8L rfl _ _ w.heap.size (w.heap.size+1) rfl rfl none 91 (by simp[World.cell?,g6]) (by simp[World.cell?,g5]) (by kernel_rfl) (by kernel_rfl),HBad.out ?_ _ ?_⟩;{obtain⟨h1,h2⟩:=HX.out;unfold rd;rw[HB.out.1];simp only;rw[if_pos];exact List.any_eq_true.2 ⟨x,by rw[h2];exact List.getElem_mem _,HLB.out.symm⟩};{exact((((H5.out.2.2.2.next HB.out.2.2.2.1 zE (λk _ e=>.inr (.inr (by rw[show k=w2.heap.size from e];exact Nat.le_refl _)))).next HK.out zI zE).next k2 zI (λ_ _ e=>.inl e)).next k3 zI (λ_ _ e=>.inr (.inl e))).next hkD zI (λk _ e=>.inr (.inr (by rw[show k=Db from e];omega)))}} | false=>{have HZ:=hid (show Keep zF W w7/\∀ j (hj:j<st.2.length),j<i+1->less st.1 st.2[j].bal=false from⟨HK.out,λj hj hji=>by{rcases Nat.lt_or_eq_of_le (Nat.le_of_lt_succ hji) with y | y;{exact HR.out.2 j hj y};{subst y;obtain⟨h1,h2⟩:=HX.out;rw[<-h2];exact HLB.out.symm}}⟩);go_wp2_with fail;go_roundw;(case rel=>exact⟨i+1,by omega,by go_num,HZ⟩);case measure=>simp[intOf];omega}};{have q1:decide ((i:Int)<(n:Int))=false:=by{simp;omega};have q2:decide (i<n)=false:=decide_eq_false hin;have b2:=HR.out.1.get HB.out.2.2.2.2.1 id;have b3:=HR.out.1.get HB.out.2.2.2.2.2.1 id;have d2:wr.cell? ⟨w.heap.size,0,none⟩=some (.pointer none):=by{simp[World.cell?,b2]};have d3:wr.cell? ⟨w.heap.size+1,0,none⟩=some (.int .i64 0):=by{simp[World.cell?,b3]};have f2:wr.frozen? ⟨w.heap.size,0,none⟩=false:=by{simp[World.frozen?,b2]};have f3:wr.frozen? ⟨w.heap.size+1,0,none⟩=false:=by{simp[World.frozen?,b3]};have H7:=hid (zA1 b2 b3);clear b2 b3;go_wp2_with fail;have hD:=HB.out.2.2.2.2.2.2.2.1;have g2:=z0A H7.out.1 0 (.pointer (some ⟨w2.heap.size,0,none⟩));have k2:Keep (λk=>k=w.heap.size) wr (wr.setCell ⟨w.heap.size,0,none⟩ (.pointer (some ⟨w2.heap.size,0,none⟩))):=kst;have g3:=z0A (k2.get H7.out.2 (λx=>by omega)) 0 (.int .i64 0);have k3:Keep (λk=>k=w.heap.size+1) (wr.setCell ⟨w.heap.size,0,none⟩ (.pointer (some ⟨w2.heap.size,0,none⟩))) ((wr.setCell ⟨w.heap.size,0,none⟩ (.pointer (some ⟨w2.heap.size,0,none⟩))).setCell ⟨w.heap.size+1,0,none⟩ (.int .i64 0)):=kst;have g4:=k3.get g2 (λx=>by omega);have hK8:=k3.get (k2.get (HR.out.1.get HB.out.2.2.2.2.2.2.1 id) (λx=>by omega)) (λx=>by omega);obtain⟨w8,hw8⟩:=zX1 ((wr.setCell ⟨w.heap.size,0,none⟩ (.pointer (some ⟨w2.heap.size,0,none⟩))).setCell ⟨w.heap.size+1,0,none⟩ (.int .i64 0));rw[<-hw8] at g3 g4 k3 hK8 |-;have hkD:=z3Z (K:=λk=>k=Db) w8 Db (.deferred none) rfl;have g5:=hkD.get g3 (λx=>by omega);have g6:=hkD.get g4 (λx=>by omega);have hkz:Keep (λk=>k=w.heap.size∨k=w.heap.size+1∨k=Db) W (w8.putObj Db (.deferred none)):= (((HR.out.1.next k2 (H:=λk=>k=w.heap.size∨k=w.heap.size+1∨k=Db) zE (λ_ _ e=>.inl e)).next k3 zI (λ_ _ e=>.inr (.inl e))).next hkD zI (λ_ _ e=>.inr (.inr e)));have hnb:∀ k,w5.heap.size<=k->k≠Db->¬ (k=w.heap.size∨k=w.heap.size+1∨k=Db):=λk h1 h2=>by{omega};refine⟨by simp,.inl ⟨_,_,rfl,run_takeDeferred hK8,?_⟩⟩;refine⟨_,z8L rfl _ _ w.heap.size (w.heap.size+1) rfl rfl (some ⟨w2.heap.size,0,none⟩) 0 (by simp[World.cell?,g6]) (by simp[World.cell?,g5]) (by kernel_rfl) (by kernel_rfl),HGood.out st.1 st.2 ?_ _ _ us (hkz.get HB.out.2.1 (λx=>by omega)) ?_ ?_⟩;{unfold rd;rw[HB.out.1];simp only;rw[if_neg];intro h;obtain⟨v,hv,h2⟩:=List.any_eq_true.1 h;obtain⟨j,hj,e⟩:=List.mem_iff_getElem.1 hv;have:=HR.out.2 j hj (by have:=HB.out.2.2.2.2.2.2.2.2.1;omega);rw[e] at this;rw[this] at h2;cases h2};{exact(((HB.out.2.2.1.keep HR.out.1 zI).keep k2 (λk x e=>by have h1:w5.heap.size<=k:=x;have h2:k=w.heap.size:=e;omega)).keep k3 (λk x e=>by have h1:w5.heap.size<=k:=x;have h2:k=w.heap.size+1:=e;omega)).turn (r:=some Db) (hkD.mono λk _ e=>by subst e;rfl) (λk e=>by cases e;exact⟨_,hK8,rfl⟩)};{exact(H5.out.2.2.2.next HB.out.2.2.2.1 zE (λk _ e=>.inr (.inr (by rw[show k=w2.heap.size from e];exact Nat.le_refl _)))).next hkz zI (λk _ e=>e.elim .inl λe=>e.elim (λe=>.inr (.inl e)) λe=>.inr (.inr (by omega)))}}
   case stop=>(rintro Db cc pre W hD hpre ⟨rfl,hR⟩ hK;have hbad:rdL (Bal.zero,[]) S.ps=none:=by{obtain⟨t,ht⟩:=hpre;have h2:=congrArg (List.map Subtype.val) ht;rw[List.attach_map_subtype_val,List.map_append] at h2;rw[<-h2,AC.rdL_append,hR.bad]};have hrd:rd S.ps=none:=by{unfold rd;rw[hbad]};have hkD:=z3Z (K:=λk=>k=Db) W Db (.deferred none) rfl;have hDl:=hR.keep.size;have g5:=hkD.get hR.c3 (λx=>by omega);have g6:=hkD.get hR.c2 (λx=>by omega);have hbk:=HBad.out hrd (W.putObj Db (.deferred none)) ((H5.out.2.2.2.next hR.keep (H:=λk=>k=w.heap.size∨k=w.heap.size+1∨w2.heap.size<=k) zE (λk _ e=>e.elim (λe=>.inr (.inr (by omega))) λe=>e.elim .inl λe=>.inr (.inl e))).next hkD zI (λk _ e=>.inr (.inr (by rw[show k=Db from e];omega))));have HZ:=hid (zA1 hbk (zA1 g5 (zA1 g6 hK)));clear hbk g5 g6 hK hkD hDl hrd hbad hpre hR;refine wpIn_wide.2 ?_;go_wp2_with fail;obtain⟨hbk,g5,g6,hK⟩:=HZ.out;refine⟨by simp,.inl ⟨_,_,rfl,run_takeDeferred hK,?_⟩⟩;exact⟨_,z8L rfl _ _ w.heap.size (w.heap.size+1) rfl rfl none 91 (by simp[World.cell?,g6]) (by simp[World.cell?,g5]) (by kernel_rfl) (by kernel_rfl),hbk⟩)
end
section
open Go.RowKit Go.Maps MI SO BM DM WM AC
def RAcP (d:Nat) (D:Dk) (o:Option Ac) (rv:Value):Thing:=fun w F=>
 match o with
 | none=>rv = .pointer none∧RkT d D w F
 | some A=>∃ a,rv = .pointer (some ⟨a,0,none⟩)∧RAcT a d D A.s w F
theorem RAcP.lives (d:Nat) (D:Dk) (o:Option Ac) (rv:Value):Lives (RAcP d D o rv):=by
 cases o with | none=>{exact⟨λh hk hn=>⟨h.1,(RkT.lives d D).keep h.2 hk hn⟩,λh=>(RkT.lives d D).lt h.2⟩} | some A=>{exact⟨λ⟨b,h1,h2⟩ hk hn=>⟨b,h1,(RAcT.lives b d D A.s).keep h2 hk hn⟩,λ⟨b,_,h2⟩=>(RAcT.lives b d D A.s).lt h2⟩}
theorem RAcT.disk {a d:Nat} {D:Dk} {S:St} {w:World} {F:Nat->Prop} (h:RAcT a d D S w F):∃ F',RkT d D w F'/\∀ k,F' k->F k:=by
 obtain⟨sb,X,Y,-,⟨F1,F2,h1,hY⟩,-,hF⟩:=h;exact⟨F2,h1.diskAt,λk x=>by rw[hF,hY];exact .inr (.inr x)⟩
theorem RAcP.disk {d:Nat} {D:Dk} {o:Option Ac} {rv:Value} {w:World} {F:Nat->Prop} (h:RAcP d D o rv w F):∃ F',RkT d D w F'/\∀ k,F' k->F k:=by
 cases o with | none=>{exact⟨F,h.2,λ_ x=>x⟩} | some A=>{obtain⟨a,-,h⟩:=h;exact h.disk}
def RAOpenPost (d:Nat) (F:Nat→Prop) (w:World) (R:Int×Option Ac×Dk) (e:Ending) (w':World):Prop:=
 ∃ rv,e = .returned (.tuple #[rv,.int .i64 R.1])∧Turns (RAcP d R.2.2 R.2.1 rv) F w w'
theorem RStoT.count {b d:Nat} {D:Dk} {S:St} {w:World} {F:Nat->Prop} (h:RStoT b d D S w F):S.g.l.length<=4000/\PsOk S.ps:=by
 obtain⟨F1,F2,⟨wb,pv,Fl,H⟩,-⟩:=h;obtain⟨vl,vs,L⟩:=H.log;exact⟨L.wal.ok.count,H.ok⟩
theorem AC.openA_none {D:Dk} (ho:(opS D).2.1=none):z2T D=((opS D).1,none,(opS D).2.2):=by unfold z2T;rw[ho]
theorem AC.openA_bad {D:Dk} {S:St} (ho:(opS D).2.1=some S) (hs:Sorted S.ps) (h:z9W S.ps=false):z2T D=(91,none,(opS D).2.2):=by
 rw[zgM hs] at h;unfold z2T;rw[ho];simp only;cases hr:rd S.ps with | none=>{rfl} | some st=>{rw[hr] at h;cases h}
theorem AC.openA_good {D:Dk} {S:St} (ho:(opS D).2.1=some S) (hs:Sorted S.ps) (h:z9W S.ps=true):∃ b vs,z2T D=(0,some ⟨S,b,vs⟩,(opS D).2.2):=by
 rw[zgM hs] at h;unfold z2T;rw[ho];simp only;cases hr:rd S.ps with | none=>{rw[hr] at h;cases h} | some st=>{exact⟨st.1,st.2,rfl⟩}
theorem AC.docOk_no {ps:List (Str×Str)} {x:Str×Str} (hx:x ∈ ps) (h:z4S (docB ps) x=false):z9W ps=false:=by
 unfold z9W;rw[List.all_eq_false];exact⟨x,hx,by rw[h];decide⟩
theorem AC.docOk_yes {ps:List (Str×Str)} (h:∀ j (hj:j<ps.length),z4S (docB ps) ps[j]=true):z9W ps=true:=by
 unfold z9W;rw[List.all_eq_true];intro x hx;obtain⟨j,hj,rfl⟩:=List.mem_iff_getElem.1 hx;exact h j hj
theorem znZ (w:World) (d:Nat) (F:Nat->Prop) (D:Dk) (hD:RefAt w d F D) (hfew:D.waits.length<=800000) :
  Calls Tryz.prog 24 #[.pointer (some ⟨d,0,none⟩)] w (RAOpenPost d F w (z2T D)):=by
 obtain⟨Post,hPost⟩:=zX1 (RAOpenPost d F w (z2T D));rw[<-hPost];have HP:=hid hPost;have hop:=zmI w d F D hD hfew;clear hPost hD hfew;go_enter Tryz.func24,Tryz.ntmps24;go_wp2_with fail;refine hop.mono ?_;intro e w1 hp;obtain⟨sv,rfl,ht⟩:=hp.side;clear hop hp;cases ho:(opS D).2.1 with
 | none=>
   rw[ho] at ht;obtain⟨F',⟨rfl,hdk⟩,hk,hn⟩:=ht;have fin:Post (.returned (.tuple #[.pointer none,.int .i64 (opS D).1])) w1:=by{rw[HP.out,AC.openA_none ho];exact⟨_,rfl,F',⟨rfl,hdk⟩,hk,hn⟩};have HF:=hid fin;have hc0:=SO.op_none ho;clear fin hdk hk hn ho;obtain⟨c,hc⟩:=zX1 ((opS D).1);rw[<-hc] at hc0 HF |-;have q1:(c != 0)=true:=by{simpa using hc0};have q2:decide (c=0)=false:=decide_eq_false hc0;clear hc hc0;go_wp2_with fail;exact HF.out
 | some S=>
   rw[ho] at ht;obtain⟨F',⟨sb,rfl,hst⟩,hk,hn⟩:=ht;rw[SO.op_code ho];obtain⟨hcnt,hpsok⟩:=hst.count;have hdead:=SO.op_dead ho;have hfw:=(zcT D S ho).few hcnt hdead;have hlt:=(RStoT.lives _ _ _ _).lt hst;have hn2:=heap_alloc_new w1 (.cells #[.pointer (some ⟨sb,0,none⟩)] 138);have hk2:=kal w1 (.cells #[.pointer (some ⟨sb,0,none⟩)] 138);obtain⟨w2,hw2⟩:=zX1 (w1.alloc (.cells #[.pointer (some ⟨sb,0,none⟩)] 138));rw[<-hw2] at hn2 hk2;have hst2:=(RStoT.lives _ _ _ _).keep hst hk2 zI;have hbx:=z0M hn2;have hac:RAcT w1.heap.size d (opS D).2.2 S w2 (λk=>k=w1.heap.size∨F' k):=⟨sb,λk=>k=w1.heap.size,F',⟨hn2,rfl,λk e=>by rw[e];exact hbx⟩,hst2,λi x y=>by have:=hlt i y;omega,rfl⟩;obtain⟨F1,F2,⟨wb,pv,Fl,h2⟩,hFe⟩:=id hst2;have L:RLook w2 w1.heap.size sb pv (.pointer (some ⟨wb,0,none⟩)) S:=⟨hn2,h2.head,h2.row,h2.ok⟩;have hpr:=z8J w2 _ sb pv _ S L (by omega);rw[hdead,if_neg (by decide)] at hpr;have hdk:RkT d (opS D).2.2 w2 F2:=RStoAt.diskAt ⟨wb,pv,Fl,h2⟩;have hkw:=hk.next hk2 (H:=F) zI zE;have hsz:=hk.size;have HBad:=hid (show z9W S.ps=false->∀ W9,Keep zF w2 W9->Post (.returned (.tuple #[.pointer none,.int .i64 91])) W9 from λh W9 hk9=>by{rw[HP.out,AC.openA_bad ho hpsok.sorted h];exact⟨_,rfl,F2,⟨rfl,(RkT.lives _ _).keep hdk hk9 zI⟩,hkw.next hk9 zI zE,λi x=>hn i (by rw[hFe];exact .inr x)⟩});have HGood:=hid (show z9W S.ps=true->∀ W9,Keep zF w2 W9->Post (.returned (.tuple #[.pointer (some ⟨w1.heap.size,0,none⟩),.int .i64 0])) W9 from λh W9 hk9=>by{obtain⟨b,vs,e⟩:=AC.openA_good ho hpsok.sorted h;rw[HP.out,e];exact⟨_,rfl,_,⟨w1.heap.size,rfl,(RAcT.lives _ _ _ _).keep hac hk9 zI⟩,hkw.next hk9 zI zE,λi x=>x.elim (λy=>.inr (by omega)) (λy=>hn i y)⟩});have hlong:∀ p ∈ S.ps,p.1.length<=1000000/\p.2.length<=1000000:=λp hp=>by{have:=hpsok.each p hp;have h1:=this.2.1;have h2:=this.2.2;omega};obtain⟨ps,hps⟩:=zX1 (S.ps);have hrow:=L.row;obtain⟨-,s1,-,-,-⟩:=zaB L.sto;obtain⟨ao,pc,hpv,-⟩:=hrow.form;subst hpv;rw[<-hps] at hpr HBad HGood hlong hrow s1 hfw;obtain⟨n,hnn⟩:=zX1 (ps.length);rw[<-hnn] at hrow s1 hfw;obtain⟨T,hT⟩:=zX1 (docB ps);rw[<-hT] at hpr;have HR:=hid (zA1 hnn (zA1 hrow (zA1 hlong hT)));clear hst hst2 hac h2 L hdk hkw hFe hk hn hk2 hn2 hlt hcnt hpsok hdead hbx hsz hps hrow hnn hT hlong ho
   go_upto_region 5 with fail
   rw[<-hw2];clear hw2;go_wp2_with fail;refine hpr.mono ?_;rintro e w3 ⟨rfl,hk3⟩;clear hpr;have s1:=z0D hk3 _ _ s1;have hn4:=heap_alloc_new w3 (.cells (balC T) 28);have hk4:=kal w3 (.cells (balC T) 28)
   go_upto_region 6 with fail
   obtain⟨w4,hw4⟩:=zX1 (w3.alloc (.cells (balC T) 28));rw[<-hw4] at hn4 hk4 |-;clear hw4;have s1:=z0D hk4 _ _ s1;have HK4:=hid (zA1 (hk3.nx hk4) hn4);clear hk3 hk4 hn4;go_wp2_with fail
   go_loopw [8] (λiv wr=>∃ i:Nat,i<=n/\iv = .int .i64 i/\Hid (Keep zF w4 wr/\∀ j (hj:j<ps.length),j<i->z4S (docB ps) ps[j]=true)) (λiv _=>n - (intOf iv).toNat)
   case atStart=>exact⟨0,Nat.zero_le _,rfl,hid ⟨Keep.refl _ _,λj _ x=>by omega⟩⟩
   case round=>(obtain⟨i,hi,rfl,HT⟩:=hrel;have s1:=z0D HT.out.1 _ _ s1;by_cases him:i<n;{have q1:(i:Int)<n:=by{omega};have hil:i<ps.length:=by{rw[<-HR.out.1];exact him};obtain⟨g,rfl,k0,k1⟩:=zkD (HR.out.2.1.keep (HK4.out.1.nx HT.out.1) zI) i hil;obtain⟨x,hx⟩:=zX1 (ps[i]);rw[<-hx] at k0 k1;have hlx:=HR.out.2.2.1 x (by rw[hx];exact List.getElem_mem hil);have hn5:=heap_alloc_new wr (.cells #[.string (str x.1),.string (str x.2)] 140);have hk5:=kal wr (.cells #[.string (str x.1),.string (str x.2)] 140);obtain⟨w5,hw5⟩:=zX1 (wr.alloc (.cells #[.string (str x.1),.string (str x.2)] 140));rw[<-hw5] at hn5 hk5;obtain⟨c0,c1,-,-⟩:=z1B hn5;have hg9:=zcJ w5 x.2 hlx.2;have HX:=hid (show (∃ h:i<ps.length,x=ps[i])/\Keep zF w4 w5 from⟨⟨hil,hx⟩,HT.out.1.nx hk5⟩);have HL:=hid hlx;clear hx hk5 hlx hn5 hil;(go_upto_region 10 with fail);rw[<-hw5];clear hw5 k0 k1 s1;go_wp2_with fail;refine hg9.mono ?_;rintro e w6 ⟨hk6,hres⟩;obtain⟨bb,ua,ul,uc,okb,rfl,hul,hd1⟩:∃ (bb:Bal) (ua:Option Addr) (ul uc:Nat) (okb:Bool),e = .returned (.tuple #[balV bb,.slice ua ul uc,.bool okb])/\ul<=1000000/\ (z4S (docB ps) x=(okb && if x.1=pK then decide (ul=0) else (decide (z2Q x.1≠0) && (decide (ul<=100) && !less T bb)))):=by{unfold z4S;rw[HR.out.2.2.2];cases hg:getB x.2 with | none=>{rw[hg] at hres;exact⟨Bal.zero,none,0,0,false,hres,by decide,rfl⟩} | some q=>{rw[hg] at hres;obtain⟨ao',c',he,-⟩:=hres;have hql:q.2.length<=1000000:=by{have h1:=getB_rest hg;have:=HL.out.2;omega};refine⟨q.1,ao',_,c',true,he,hql,?_⟩;simp only[Bool.true_and,List.length_eq_zero_iff]}};have hn7:=heap_alloc_new w6 (.cells (balC bb) 28);have hk7:=kal w6 (.cells (balC bb) 28);have hs9:=λw7=>zdO w7 x.1 HL.out.1;obtain⟨s,hs⟩:=zX1 (z2Q x.1);rw[<-hs] at hd1;simp only[<-hs] at hs9;have c0:=z0D hk6 _ _ c0;(go_upto_region 11 with fail);obtain⟨w7,hw7⟩:=zX1 (w6.alloc (.cells (balC bb) 28));rw[<-hw7] at hn7 hk7 |-;clear hw7;have c0:=z0D hk7 _ _ c0;have hs9:=hs9 w7;have HX2:=hid (zA1 hd1 (zA1 hn7 (HX.out.2.nx (hk6.next hk7 (H:=λ_=>False) zI zI))));clear hd1 hn7 hk6 hk7 hg9 hres c1 hs;go_wp2_with fail;refine hs9.mono ?_;rintro e w8 ⟨rfl,hk8⟩;have c0:=z0D hk8 _ _ c0;have hn8:=hk8.get HX2.out.2.1 id;have hk48:=HX2.out.2.2.nx hk8;have hn4:=hk48.get HK4.out.2 id;obtain⟨t0,t1,-,-⟩:=z1B hn4;obtain⟨b0,b1,-,-⟩:=z1B hn8;have hbad:=hid (show z4S (docB ps) x=false->∀ W9,Keep zF w8 W9->Post (.returned (.tuple #[.pointer none,.int .i64 91])) W9 from λh W9 hk9=>by{obtain⟨⟨hil,hx⟩,-⟩:=HX.out;exact HBad.out (AC.docOk_no (by rw[hx];exact List.getElem_mem hil) h) W9 ((HK4.out.1.nx hk48).next hk9 zI zI)});have hnext:=hid (show z4S (docB ps) x=true->∀ W9,Keep zF w8 W9->Keep zF w4 W9/\∀ j (hj:j<ps.length),j<i+1->z4S (docB ps) ps[j]=true from λh W9 hk9=>by{obtain⟨⟨hil,hx⟩,-⟩:=HX.out;refine⟨hk48.next hk9 zI zI,λj hj hji=>?_⟩;rcases Nat.lt_or_eq_of_le (Nat.le_of_lt_succ hji) with y | y;{exact HT.out.2 j hj y};{subst y;rw[<-hx];exact h}});have HD:=hid HX2.out.1;clear hs9 hn8 hn4 HX2 hk8 hk48;cases okb with | false=>{have fin:=hbad.out (by rw[HD.out];rfl) w8 (Keep.refl _ _);have HF:=hid fin;clear fin t0 t1 b0 b1 c0;go_wp2_with fail;exact HF.out} | true=>{by_cases hp:x.1=pK;{have r1:((str x.1).toList == [112])=true:=by{rw[z1C,hp];rfl};have r2:((str x.1).toList != [112])=false:=by{rw[z1C,hp];rfl};by_cases hu:ul=0;{subst hu;have HN:=hid (hnext.out (by rw[HD.out,if_pos hp];rfl) w8 (Keep.refl _ _));clear hp t0 t1 b0 b1;go_wp2_with fail;go_roundw;(case rel=>exact⟨i+1,by omega,by go_num,HN⟩);case measure=>simp[intOf];omega};{have r3:(0:Int)<(ul:Int):=by{omega};have HF:=hid (hbad.out (by rw[HD.out,if_pos hp];simpa using hu) w8 (Keep.refl _ _));clear hp hu t0 t1 b0 b1;go_wp2_with fail;exact HF.out}};{have r1:((str x.1).toList == [112])=false:=by{rw[z1C,beq_eq_false_iff_ne];exact hp};have r2:((str x.1).toList != [112])=true:=by{rw[bne,r1];rfl};have HD2:=hid (show z4S (docB ps) x=(decide (s≠0) && (decide (ul<=100) && !less T bb)) from by rw[HD.out,if_neg hp,Bool.true_and]);clear hp HD;by_cases hs0:s=0;{subst hs0;have HF:=hid (hbad.out (by rw[HD2.out];rfl) w8 (Keep.refl _ _));clear t0 t1 b0 b1;go_wp2_with fail;exact HF.out};{have r3:((s:Int) == 0)=false:=by{simp;omega};have r4:decide (s=0)=false:=decide_eq_false hs0;by_cases hu:100<ul;{have r5:(100:Int)<(ul:Int):=by{omega};have HF:=hid (hbad.out (by rw[HD2.out,decide_eq_false (show ¬ ul<=100 by omega),Bool.false_and,Bool.and_false]) w8 (Keep.refl _ _));clear hs0 t0 t1 b0 b1;go_wp2_with fail;exact HF.out};{have r5:decide ((100:Int)<(ul:Int))=false:=decide_eq_false (by omega);have r6:decide (100<ul)=false:=decide_eq_false (by omega);obtain⟨lb,hlb⟩:=zX1 (less T bb);have hls:=zaK w8 T bb;rw[<-hlb] at hls;have HD3:=hid (show z4S (docB ps) x = !lb from by rw[HD2.out,decide_eq_true (show ul<=100 by omega),decide_eq_true (show s≠0 from hs0),hlb];rfl);clear hlb hu hs0 HD2;go_wp2_with fail;refine hls.mono ?_;rintro e w9 ⟨rfl,hk9⟩;clear hls t0 t1 b0 b1 c0;cases lb with | true=>{have HF:=hid (hbad.out (by rw[HD3.out];rfl) w9 hk9);clear hk9;go_wp2_with fail;exact HF.out} | false=>{have HN:=hid (hnext.out (by rw[HD3.out];rfl) w9 hk9);clear hk9;go_wp2_with fail;go_roundw;(case rel=>exact⟨i+1,by omega,by go_num,HN⟩);case measure=>simp[intOf];omega}}}}}};{have q1:decide ((i:Int)<n)=false:=by{simp;omega};have q2:decide (i<n)=false:=decide_eq_false him;have HF:=hid (HGood.out (AC.docOk_yes λj hj=>HT.out.2 j hj (by have:=HR.out.1;omega)) wr (HK4.out.1.next HT.out.1 zI zI));go_wp2_with fail;exact HF.out})
end
namespace SO
open Go.Proofs.YtkjofdocgaiedaaGreat MI BM DM WM
structure OnDisk (D:Dk) (G:Lg):Prop where
 calm:Calm D
 ok:Ok D
 h6:6≤D.safe.length
 dead:G.dead=false
 ep:WM.epoch D=G.ep
 epb:G.ep<4611686018427387904
 small:∀ r ∈ G.l,r.length≤1024
 fit:(flat G.l).length≤32 * half D
 area:∀ i,i<half D→z2E D (WM.first D G.ep+i)=z0U (z1F (half D) G.l) i
theorem OnDisk.gone {D:Dk} {G:Lg} (h:OnDisk D G):WM.gone D G=false:=by unfold WM.gone;rw[h.dead,h.calm.2];rfl
theorem OnDisk.opens {D:Dk} {G:Lg} (h:OnDisk D G):z2F D=(0,some ⟨G.ep,G.l,G.l.length,false⟩,D):=znO h.calm h.ok h.h6 h.ep h.small h.fit h.area
theorem zsC {D:Dk} (hc:Calm D) (ok:Ok D) (h6:6<=D.safe.length):∃ G D',z2F D=(0,some G,D')/\OnDisk D' G/\G.safe=G.l.length:=by
 obtain⟨D',h⟩:=zpG hc ok h6;refine⟨_,D',h.eq,⟨h.calm,h.ok,by rw[h.size];exact h6,rfl,?_,?_,h.small,by rw[z6D h.size];exact h.fit,λi hi=>?_⟩,rfl⟩;{exact zfB hc.2 h.calm.2 (by omega) h.size λi hi=>h.rest i λj _=>by have:=zbO D (epoch D);omega};{rw[<-z9Y];exact zfY D 2};{rw[z6D h.size] at hi |-;have hf:WM.first D' (epoch D)=WM.first D (epoch D):=by{unfold WM.first;rw[z6D h.size]};rw[hf];exact h.area i hi}
theorem OnDisk.sync {D:Dk} {G:Lg} (h:OnDisk D G):WM.z3V D G=(0,{ D with safe:=now D,waits:=[] },{ G with safe:=G.l.length })/\OnDisk { D with safe:=now D,waits:=[] } { G with safe:=G.l.length }:=by
 have hs:=z7J h.calm;have hl:({ D with safe:=now D,waits:=[] }:Dk).safe.length=D.safe.length:=z1O D;have hn:∀ p,z2E { D with safe:=now D,waits:=[] } p=z2E D p:=λp=>z8F rfl rfl p;have hh:half { D with safe:=now D,waits:=[] }=half D:=z6D hl;have hf:∀ e,WM.first { D with safe:=now D,waits:=[] } e=WM.first D e:=λe=>by{unfold WM.first;rw[hh]};refine⟨?_,⟨h.calm,?_,by rw[hl];exact h.h6,h.dead,?_,h.epb,h.small,by rw[hh];exact h.fit,λi hi=>?_⟩⟩;{unfold WM.z3V;rw[h.gone,hs];rfl};{have:=h.ok.sync;rw[hs] at this;exact this};{have:=zfB (D:=D) (E:={ D with safe:=now D,waits:=[] }) h.calm.2 h.calm.2 (by have:=h.h6;omega) hl (λi _=>hn i);rw[this];exact h.ep};{rw[hh] at hi |-;rw[hf,hn];exact h.area i hi}
theorem zpS (ep:Nat) (b:List UInt8):∀ k i (D:Dk),Ok D->Ok (lay ep b i k D).2
 | 0,_,_,h=>h
 | k+1,i,D,h=>by{unfold lay;simp only;split;{exact zpS ep b k (i+1) _ (h.write _ _)};{exact h.write _ _}}
theorem zwG (ep:Nat) (b:List UInt8) (D:Dk) (h:Ok D):Ok (z2U ep b D).2:=by
 have h1:=zpS ep b (half D) 0 D h;unfold z2U;simp only;split;{exact h1};{split;{exact h1.sync};{split;{exact h1.sync.write _ _};{exact(h1.sync.write _ _).sync}}}
theorem OnDisk.append {D:Dk} {G:Lg} (h:OnDisk D G) {b:List UInt8} (hb:b.length<=1024) :
  WM.append D G b=(5,D,G)∨((WM.append D G b).1=0/\(WM.append D G b).2.2 = { G with l:=G.l ++ [b] }/\OnDisk (WM.append D G b).2.1 { G with l:=G.l ++ [b] }):=by
 have hc:=zbT h.calm h.h6 h.dead h.fit hb;split at hc;{exact .inl hc};{rename_i hr;right;obtain⟨c1,c2,c3,c4⟩:=hc;have hsn:=z3P G.l b;unfold room at hr;have hfit:(flat (G.l ++ [b])).length<=32 * half D:=by{omega};have hal:(z1F (half D) (G.l ++ [b])).length=32 * half D:=z1X hfit;have hal0:(z1F (half D) G.l).length=32 * half D:=z1X h.fit;have hA:WM.area D (G.l ++ [b])=z1F (half D) (G.l ++ [b]):=rfl;obtain⟨a1,-,-,a5⟩:=z4Z G.ep (WM.area D (G.l ++ [b])) (((flat (G.l ++ [b])).length - 1) / 32 - (flat G.l).length / 32+1) ((flat G.l).length / 32) D h.h6 (by omega) hal;have hr2:(WM.append D G b).2.1=(lay G.ep (WM.area D (G.l ++ [b])) ((flat G.l).length / 32) (((flat (G.l ++ [b])).length - 1) / 32 - (flat G.l).length / 32+1) D).2/\(WM.append D G b).1=(lay G.ep (WM.area D (G.l ++ [b])) ((flat G.l).length / 32) (((flat (G.l ++ [b])).length - 1) / 32 - (flat G.l).length / 32+1) D).1:=by{unfold WM.append;rw[h.gone,if_neg (by simp),if_neg (by omega),if_neg (by unfold room;omega)];exact⟨rfl,rfl⟩};obtain⟨r,hr0⟩:=zX1 (lay G.ep (WM.area D (G.l ++ [b])) ((flat G.l).length / 32) (((flat (G.l ++ [b])).length - 1) / 32 - (flat G.l).length / 32+1) D);rw[<-hr0] at a1 a5 hr2;have hz:r.1=0:=by{rw[<-hr2.2];exact c1};have hok:Ok (WM.append D G b).2.1:=by{rw[hr2.1,hr0];exact zpS G.ep _ _ _ _ h.ok};have hl:(WM.append D G b).2.1.safe.length=D.safe.length:=by{rw[c4]};have hh:half (WM.append D G b).2.1=half D:=z6D hl;have hf:∀ e,WM.first (WM.append D G b).2.1 e=WM.first D e:=λe=>by{unfold WM.first;rw[hh]};have hnw:∀ p,p<2->z2E (WM.append D G b).2.1 p=z2E D p:=λp hp=>by{rw[hr2.1];exact(a5 hz p).2 λj _ _=>by have:=zbO D G.ep;omega};refine⟨c1,c2,c3,hok,by rw[hl];exact h.h6,h.dead,?_,h.epb,λr hr=>?_,by rw[hh];exact hfit,λi hi=>?_⟩;{rw[zfB h.calm.2 c3.2 (by have:=h.h6;omega) hl hnw];exact h.ep};{rcases List.mem_append.1 hr with x | x;{exact h.small r x};{simp at x;subst x;exact hb}};{rw[hh] at hi |-;rw[hf,hr2.1];obtain⟨b1,b2⟩:=a5 hz (WM.first D G.ep+i);by_cases hin:(flat G.l).length / 32<=i/\i<(flat G.l).length / 32+(((flat (G.l ++ [b])).length - 1) / 32 - (flat G.l).length / 32+1);{exact b1 i hin.1 hin.2 rfl};{rw[b2 (λj j1 j2=>by omega),h.area i hi];refine zhH hal0 hal hi λk hk=>?_;have hin':i<(flat G.l).length / 32∨((flat (G.l ++ [b])).length - 1) / 32<i:=by{omega};rcases hin' with q | q;{have hq1:32 * i+k<(flat G.l).length:=by{omega};have hq2:32 * i+k<(flat (G.l ++ [b])).length:=by{omega};rw[zlQ _ _ hq1,zlQ _ _ hq2];have he:flat (G.l ++ [b])=flat G.l ++ flat [b]:=by{simp[flat]};rw[he,List.getElem?_append_left hq1]};{have hq1:(flat G.l).length<=32 * i+k:=by{omega};have hq2:(flat (G.l ++ [b])).length<=32 * i+k:=by{omega};rw[zcK _ _ hq1 (by omega),zcK _ _ hq2 (by omega)]}}}}
theorem ztJ {D:Dk} (hd:D.down=false) (h2:2<=D.safe.length) {n:Nat} (hn:n<4611686018427387904) (h:z2E D (n % 2)=z0R n):WM.head D (n % 2)=some n:=by
 have hlt:n % 2<2:=Nat.mod_lt _ (by decide);have hl:(z0K n).length<=10:=z3S 10 n;rw[zvZ hd (by omega) _ h];have hg:=zhW [] (List.replicate (32 - (frame 1 (z0K n)).length) 0) 1 (z0K n) (by omega);simp only[List.nil_append,List.length_nil] at hg;have he:z0R n=frame 1 (z0K n) ++ List.replicate (32 - (frame 1 (z0K n)).length) 0:=rfl;rw[he,hg];have hu:=z6U (b:=z0K n) (at_:=0) (n:=n) (rest:=[]) (by omega) (by simp) (Nat.zero_le _);simp only[Nat.zero_add] at hu;simp only[hu];simp[hn]
theorem zwA {D:Dk} {i n:Nat} (hi:i<2) (h:WM.head D i=some n):n<=WM.epoch D:=by
 unfold WM.epoch;have:i=0∨i=1:=by{omega};rcases this with rfl | rfl <;> rw[h] <;> simp <;> omega
theorem zqN {D:Dk} {n:Nat} (hd:D.down=false) (h2:2<=D.safe.length) (hn:n<4611686018427387904) (h:z2E D (n % 2)=z0R n) (ho:(WM.head D ((n+1) % 2)).getD 0<=n):WM.epoch D=n:=by
 have hh:=ztJ hd h2 hn h;unfold WM.epoch;have:n % 2=0∨n % 2=1:=by{omega};rcases this with h0 | h0;{rw[h0] at hh;rw[show (n+1) % 2=1 by omega] at ho;rw[hh];simp;omega};{rw[h0] at hh;rw[show (n+1) % 2=0 by omega] at ho;rw[hh];simp;omega}
theorem OnDisk.reset {D:Dk} {G:Lg} (h:OnDisk D G) (L:List (List UInt8)) (hL:∀ r ∈ L,r.length<=1024) :
  WM.reset D G L=(5,D,G)∨((WM.reset D G L).1=0/\(WM.reset D G L).2.2=⟨G.ep+1,L,L.length,false⟩/\OnDisk (WM.reset D G L).2.1 ⟨G.ep+1,L,L.length,false⟩):=by
 have hany:L.any (λb=>decide (1024<b.length))=false:=by{rw[List.any_eq_false];intro r hr;have:=hL r hr;simp;omega};by_cases hf:32 * half D<(flat L).length∨G.ep+1=4611686018427387904;{left;unfold WM.reset;rw[h.gone,if_neg (by simp),hany,if_neg (by simp),if_pos hf]};{right;have hfit:(flat L).length<=32 * half D:=by{omega};have hal:(WM.area D L).length=32 * half D:=z1X hfit;obtain⟨c1,c2⟩:=zqC h.calm h.h6 (G.ep+1) (WM.area D L) hal (z9D _);obtain⟨-,t2⟩:=zlV h.h6 (G.ep+1) (WM.area D L) hal (z9D _);obtain⟨-,t3,t4,t5⟩:=t2 c1;have hr:WM.reset D G L=(0,(z2U (G.ep+1) (WM.area D L) D).2,⟨G.ep+1,L,L.length,false⟩):=by{unfold WM.reset;rw[h.gone,if_neg (by simp),hany,if_neg (by simp),if_neg hf];simp only;rw[if_pos c1]};have hok:=zwG (G.ep+1) (WM.area D L) D h.ok;have hl:=z9I (G.ep+1) (WM.area D L) D;obtain⟨E,hE⟩:=zX1 ((z2U (G.ep+1) (WM.area D L) D).2);rw[<-hE] at c2 t3 t4 t5 hok hl hr;rw[hr];have hh:half E=half D:=z6D hl;have hfi:∀ e,WM.first E e=WM.first D e:=λe=>by{unfold WM.first;rw[hh]};have hepb:=h.epb;refine⟨rfl,rfl,⟨c2,hok,by rw[hl];exact h.h6,rfl,?_,by simp only;omega,hL,by rw[hh];exact hfit,λi hi=>?_⟩⟩;{have h6:=h.h6;refine zqN c2.2 (show 2<=E.safe.length by omega) (show G.ep+1<4611686018427387904 by omega) t4 ?_;have hp:(G.ep+1+1) % 2<2:=Nat.mod_lt _ (by decide);have he:WM.head E ((G.ep+1+1) % 2)=WM.head D ((G.ep+1+1) % 2):=by{refine zjR h.calm.2 c2.2 (by omega) (by omega) (t5 _ (by omega) λj _=>?_);have:=zbO D (G.ep+1);omega};rw[he];cases hx:WM.head D ((G.ep+1+1) % 2) with | none=>{exact Nat.zero_le _} | some n=>{have:=zwA hp hx;rw[h.ep] at this;simp only[Option.getD_some];omega}};{rw[hh] at hi |-;rw[hfi];exact t3 i hi}}
structure Sound (D:Dk) (S:St):Prop where
 disk:OnDisk D S.g
 dead:S.dead=false
 okay:Okay S
 ok:PsOk S.ps
theorem zpC {ps:List (Str×Str)} (h:∀ p ∈ ps,OkP p):∀ r ∈ cpL ps,r.length<=1024:=λr hr=>by
 unfold cpL at hr;obtain⟨p,hp,rfl⟩:=List.mem_map.1 hr;have:=zjW (zcF (h p hp));simp at this;omega
theorem Sound.cp {D:Dk} {S:St} (h:Sound D S):Sound (cpS D S).2.1 (cpS D S).2.2/\(((cpS D S).1=5/\(cpS D S).2=(D,S))∨((cpS D S).1=0/\(cpS D S).2.2.g.safe=(cpS D S).2.2.g.l.length)):=by
 have hk:=zjS (D:=D) h.disk.h6 h.okay h.ok;rcases h.disk.reset (cpL S.ps) (zpC h.ok.each) with hr | ⟨h1,h2,h3⟩;{have e:cpS D S=(5,D,S):=by{unfold cpS;rw[h.dead,if_neg (by simp),hr];show ((5:Int),D,(⟨S.g,S.ps,decide ((5:Int)=6)⟩:St))=_;rw[show decide ((5:Int)=6)=S.dead by rw[h.dead];rfl]};rw[e];exact⟨h,.inl ⟨rfl,rfl⟩⟩};{have e:cpS D S=(0,(WM.reset D S.g (cpL S.ps)).2.1,⟨⟨S.g.ep+1,cpL S.ps,(cpL S.ps).length,false⟩,S.ps,false⟩):=by{unfold cpS;rw[h.dead,if_neg (by simp),h2,h1];rfl};rw[e] at hk |-;exact⟨⟨h3,rfl,hk,h.ok⟩,.inr ⟨rfl,rfl⟩⟩}
theorem Sound.ap {D:Dk} {S:St} (h:Sound D S) {l:List Ch} (he:encE l=0) :
  ((apS D S (enc l)).1=5/\(apS D S (enc l)).2=(D,S))∨((apS D S (enc l)).1=0/\OnDisk (apS D S (enc l)).2.1 (apS D S (enc l)).2.2.g/\(apS D S (enc l)).2.2.dead=false):=by
 obtain⟨hl,-⟩:=wbytes l he;unfold apS;rcases h.disk.append hl with hr | ⟨h1,h2,h3⟩;{left;rw[hr];refine⟨rfl,?_⟩;show (D,(⟨S.g,S.ps,decide ((5:Int)=6)⟩:St))=_;rw[show decide ((5:Int)=6)=S.dead by rw[h.dead];rfl]};{right;refine⟨h1,?_,by simp only;rw[h1];rfl⟩;simp only;rw[h2];exact h3}
theorem Sound.do {D:Dk} {S:St} (h:Sound D S) (l:List Ch):Sound (doS D S l).2.1 (doS D S l).2.2:=by
 have hk:=zwL h.disk.h6 h.okay h.ok l;unfold doS at hk |-;rw[h.dead] at hk |-;simp only[Bool.false_eq_true,if_false] at hk |-;by_cases he:encE l=0;{rw[if_neg (by omega)] at hk |-;have hps:=intoS_ps D S (enc l);have key:OnDisk (z3E D S (enc l)).2.1 (z3E D S (enc l)).2.2.g/\(z3E D S (enc l)).2.2.dead=false:=by{unfold z3E;rcases h.ap he with ⟨a1,a2⟩ | ⟨a1,a2,a3⟩;{rw[if_pos a1,a2];simp only;obtain⟨hc,hcc⟩:=h.cp;split;{rename_i h0;rcases hc.ap he with ⟨b1,b2⟩ | ⟨b1,b2,b3⟩;{rw[b2];exact⟨hc.disk,hc.dead⟩};{exact⟨b2,b3⟩}};{exact⟨hc.disk,hc.dead⟩}};{rw[if_neg (by omega)];exact⟨a2,a3⟩}};have hps2:PsOk (layL S.ps l):=h.ok.layL (z1S (wbytes l he).2).2;unfold z8W at hk |-;by_cases h0:(z3E D S (enc l)).1=0;{rw[if_pos h0] at hk |-;rw[hps] at hk |-;exact⟨key.1,key.2,hk,hps2⟩};{rw[if_neg h0] at hk |-;exact⟨key.1,key.2,hk,by rw[hps];exact h.ok⟩}};{rw[if_pos he];exact h}
theorem Sound.sy {D:Dk} {S:St} (h:Sound D S):(syS D S).1=0/\Sound (syS D S).2.1 (syS D S).2.2/\(syS D S).2.1.waits = []/\(syS D S).2.2.ps=S.ps:=by
 obtain⟨h1,h2⟩:=h.disk.sync;have e:syS D S=(0,{ D with safe:=now D,waits:=[] },⟨{ S.g with safe:=S.g.l.length },S.ps,false⟩):=by{unfold syS;rw[h.dead,if_neg (by simp),h1];rfl};have hk:=zvO D h.okay;rw[e] at hk |-;exact⟨rfl,⟨h2,rfl,hk,h.ok⟩,rfl,rfl⟩
theorem zjU:∀ (L:List (List UInt8)) (ps q:List (Str×Str)),PsOk ps->decL L ps=some q->PsOk q
 | [],ps,q,h,e=>by cases e;exact h
 | b :: L,ps,q,h,e=>by{unfold decL at e;cases hd:dec b with | none=>{rw[hd] at e;cases e} | some l=>{rw[hd] at e;exact zjU L _ q (h.layL (dec_len hd).2) e}}
theorem zkW {D:Dk} (hc:Calm D) (ok:Ok D) (h6:6<=D.safe.length) (S:St) (h:(opS D).2.1=some S):Sound (opS D).2.2 S:=by
 obtain⟨G,D',e,hg,-⟩:=zsC hc ok h6;have hk:=zcT D S h;unfold opS at h |-;rw[e] at h |-;simp only at h |-;cases hd:decL G.l [] with | none=>{rw[hd] at h;cases h} | some ps=>{rw[hd] at h;cases h;exact⟨hg,rfl,hk,zjU _ _ _ PsOk.nil hd⟩}
end SO
namespace AC
open Go.Proofs.YtkjofdocgaiedaaGreat MI SO BM DM WM
theorem z5B (n:Nat):(z0K n).length<=10:=z3S 10 n
theorem zfM (b:Bal):(putB b).length<=20:=by
 have h1:=z5B b.n;have h2:=z5B b.node.toNat;simp[putB];omega
theorem zjL (c:Ch):(encC c).length<=c.key.length+c.value.length+21:=by
 have h1:=z5B c.key.length;have h2:=z5B c.value.length;unfold encC;split <;> simp[SO.putB] <;> omega
theorem zmS {b:Bal}:right (z4Q b)=true:=by
 have h:=zfM b;simp[right,z4Q,z1L,pK];omega
theorem znF {v:Vt} (hv:v.val.length<=100):right (z4R v)=true:=by
 have h:=zfM v.bal;have h2:=z5J v.slot;simp[right,z4R,z1L,pK,h2];omega
theorem zuO (b:Bal):encE (z4Q b)=0/\(enc (z4Q b)).length<=60:=by
 have h:=zfM b;have h1:=z5B 1;have h2:=zjL ⟨pK,putB b,false⟩;have hl:(enc (z4Q b)).length<=60:=by{simp[enc,z4Q,pK] at *;omega};refine⟨?_,hl⟩;unfold encE;rw[zmS];simp only[if_true];rw[if_neg (by omega)]
theorem ztF {v:Vt} (hv:v.val.length<=100):encE (z4R v)=0/\(enc (z4R v)).length<=210:=by
 have h:=zfM v.bal;have h1:=z5B 2;have h2:=zjL ⟨pK,putB v.bal,false⟩;have h3:=zjL ⟨keyS v.slot,putB v.bal ++ v.val,false⟩;have h4:=z5J v.slot;have hl:(enc (z4R v)).length<=210:=by{simp[enc,z4R,pK] at *;omega};refine⟨?_,hl⟩;unfold encE;rw[znF hv];simp only[if_true];rw[if_neg (by omega)]
theorem zlB {D:Dk} {S:St} (h:Sound D S) {l:List Ch} (he:encE l=0) (hr:(flat S.g.l).length+((enc l).length+10)<=32 * half D) :
  (doA D S l).1=0/\Sound (doA D S l).2.1 (doA D S l).2.2/\(doA D S l).2.2.ps=layL S.ps l/\(flat (doA D S l).2.2.g.l).length=(flat S.g.l).length+((enc l).length+10)/\half (doA D S l).2.1=half D:=by
 have hc:=zbT h.disk.calm h.disk.h6 h.disk.dead h.disk.fit (wbytes l he).1;rw[if_neg (by unfold room;omega)] at hc;obtain⟨c1,c2,c3,c4⟩:=hc;have hap:(apS D S (enc l)).1=0:=c1;have e:doS D S l=z8W (apS D S (enc l)) l:=by{unfold doS;rw[h.dead];simp only[Bool.false_eq_true,if_false];rw[if_neg (by omega)];unfold z3E;rw[if_neg (by omega)]};have h0:(doS D S l).1=0:=by{rw[e];exact hap};have hd:=h.do l;obtain⟨s1,s2,s3,s4⟩:=hd.sy;have hps:(doS D S l).2.2.ps=layL S.ps l:=by{rw[e];unfold z8W;rw[if_pos hap];rfl};have hg:(doS D S l).2.2.g = { S.g with l:=S.g.l ++ [enc l] }:=by{rw[e];unfold z8W;rw[if_pos hap];exact c2};have hh:half (doS D S l).2.1=half D:=by{rw[e];refine z6D ?_;show (WM.append D S.g (enc l)).2.1.safe.length=_;rw[c4]};have ed:doA D S l=syS (doS D S l).2.1 (doS D S l).2.2:=by{unfold doA;rw[if_pos h0]};obtain⟨y1,-⟩:=hd.disk.sync;have ey:syS (doS D S l).2.1 (doS D S l).2.2=(0,{ (doS D S l).2.1 with safe:=now (doS D S l).2.1,waits:=[] },⟨{ (doS D S l).2.2.g with safe:=(doS D S l).2.2.g.l.length },(doS D S l).2.2.ps,false⟩):=by{unfold syS;rw[hd.dead,if_neg (by simp),y1];rfl};rw[ed];refine⟨s1,s2,by rw[s4,hps],?_,?_⟩;{rw[ey];simp only;rw[hg];simp only;exact z3P _ _};{rw[ey,<-hh];exact z6D (z1O _)}
end AC
namespace AC
open Go.Proofs.YtkjofdocgaiedaaGreat MI SO BM DM WM
structure Room (H m:Nat) (D:Dk) (A:Ac):Prop where
 sound:Sound D A.s
 ok:AOk A
 half:WM.half D=H
 few:(flat A.s.g.l).length≤m
theorem zpZ {D:Dk} {S:St} {l:List Ch} (h:Sound D S) (h0:(doA D S l).1=0):(doA D S l).2.1.waits = []:=by
 unfold doA at *;split;{exact(h.do l).sy.2.2.1};{rename_i h1;rw[if_neg h1] at h0;exact absurd h0 h1}
theorem Room.alive {H m:Nat} {D:Dk} {A:Ac} (h:Room H m D A):A.s.dead=false:=h.sound.dead
theorem Room.prep {H m:Nat} {D:Dk} {A:Ac} (h:Room H m D A) (hm:m+70<=32 * H) {b:Bal} (hb:OkB b) (hl:less b A.b=false) (k:Nat) :
  (z1R D A b k).1=(z5I A.vs k,b,0)/\Room H (m+70) (z1R D A b k).2.1 (z1R D A b k).2.2/\(z1R D A b k).2.2.b=b/\(z1R D A b k).2.2.vs=A.vs:=by
 have hok:=h.ok.prep (D:=D) b hb.2 k;unfold z1R at hok |-;rw[if_neg (by rw[hb.1];decide),if_neg (by rw[h.alive];decide),if_neg (by rw[hl];decide)] at hok |-;by_cases e:b=A.b;{rw[if_pos e] at hok |-;exact⟨rfl,⟨h.sound,h.ok,h.half,show (flat A.s.g.l).length<=_ from by have:=h.few;omega⟩,e.symm,rfl⟩};{rw[if_neg e] at hok |-;obtain⟨e1,e2⟩:=zuO b;obtain⟨r1,r2,r3,r4,r5⟩:=zlB h.sound e1 (by have:=h.few;rw[h.half];omega);rw[if_pos r1] at hok |-;exact⟨rfl,⟨r2,hok,by rw[r5];exact h.half,by simp only;rw[r4];have:=h.few;omega⟩,rfl,rfl⟩}
theorem Room.accept {H m:Nat} {D:Dk} {A:Ac} (h:Room H m D A) (hm:m+220<=32 * H) {v:Vt} (hr:z7N v=true) (hn:v.bal.n<18446744073709551616) (hs:v.slot<18446744073709551616) (hl:less v.bal A.b=false) :
  (z0Q D A v).1=(v.bal,0)/\Room H (m+220) (z0Q D A v).2.1 (z0Q D A v).2.2/\(z0Q D A v).2.2.b=v.bal/\(z0Q D A v).2.2.vs=insV A.vs v:=by
 have hok:=h.ok.accept (D:=D) v hn hs;have hv:v.val.length<=100:=by{simp only[z7N,Bool.and_eq_true,decide_eq_true_eq] at hr;exact hr.2.2};unfold z0Q at hok |-;rw[if_neg (by rw[hr];decide),if_neg (by rw[h.alive];decide),if_neg (by rw[hl];decide)] at hok |-;obtain⟨e1,e2⟩:=ztF hv;obtain⟨r1,r2,r3,r4,r5⟩:=zlB h.sound e1 (by have:=h.few;rw[h.half];omega);rw[if_pos r1] at hok |-;exact⟨rfl,⟨r2,hok,by rw[r5];exact h.half,by simp only;rw[r4];have:=h.few;omega⟩,rfl,rfl⟩
theorem Room.accept_still {H m:Nat} {D:Dk} {A:Ac} (h:Room H m D A) {v:Vt} (h0:(z0Q D A v).1.2=0):(z0Q D A v).2.1.waits = []:=by
 unfold z0Q at *;split;{rename_i h1;rw[if_pos h1] at h0;exact absurd h0 (show ¬ (2:Int)=0 by decide)};rename_i h1;rw[if_neg h1] at h0;split;{rename_i h2;rw[if_pos h2] at h0;exact absurd h0 (show ¬ (6:Int)=0 by decide)};rename_i h2;rw[if_neg h2] at h0;split;{rename_i h3;rw[if_pos h3] at h0;exact absurd h0 (show ¬ (90:Int)=0 by decide)};rename_i h3;rw[if_neg h3] at h0;split;{rename_i h4;exact zpZ h.sound h4};{rename_i h4;rw[if_neg h4] at h0;exact absurd h0 h4}
theorem Room.again {H m:Nat} {D:Dk} {A:Ac} (h:Room H m D A) (hw:D.waits = []):∃ S',DM.crash D []=D/\z2T D=(0,some ⟨S',A.b,A.vs⟩,D)/\Room H m D ⟨S',A.b,A.vs⟩:=by
 have hcr:DM.crash D []=D:=by{obtain⟨sf,wt,lf,dn⟩:=D;have hc:=h.sound.disk.calm;simp only at hw;subst hw;obtain⟨c1,c2⟩:=hc;simp only at c1 c2;subst c1 c2;rfl};have ho:=h.sound.disk.opens;have hk:=h.sound.okay h.sound.dead;have hop:opS D=(0,some ⟨⟨A.s.g.ep,A.s.g.l,A.s.g.l.length,false⟩,A.s.ps,false⟩,D):=by{unfold opS;rw[ho];simp only;rw[hk]};have hps:=h.ok.ps h.alive;have hrd:rd A.s.ps=some (A.b,A.vs):=by{rw[hps];exact zwP (h.ok.ok h.alive)};have hs:=zkW h.sound.disk.calm h.sound.disk.ok h.sound.disk.h6 _ (by rw[hop]);rw[hop] at hs;refine⟨_,hcr,?_,⟨hs,⟨λ_=>h.ok.ok h.alive,λ_=>hps⟩,h.half,h.few⟩⟩;unfold z2T;rw[hop];simp only;rw[hrd]
theorem zpO {D:Dk} {A:Ac} (hd:A.s.dead=false) {b:Bal} (hr:z2P b=true) (hl:less b A.b=true) (k:Nat):z1R D A b k=(([],A.b,90),D,A):=by
 unfold z1R;rw[if_neg (by rw[hr];decide),if_neg (by rw[hd];decide),if_pos hl]
def lastV (last:List Vt) (v:Vt):List Vt:=last.filter (fun u=>decide (u.slot≠v.slot)) ++ [v]
end AC
namespace AC
open Go.Proofs.YtkjofdocgaiedaaGreat MI SO BM DM WM
theorem zgY (D:Dk) (S:St):(syS D S).2.1.waits.length<=D.waits.length:=by
 unfold syS;split;{exact Nat.le_refl _};{exact zcV D S.g}
theorem ziF {D:Dk} (h:D.safe.length<=2048) (S:St) (l:List Ch):(doA D S l).2.1.waits.length<=D.waits.length+5120:=by
 have h1:=z9R h S l;unfold doA;split;{exact Nat.le_trans (zgY _ _) h1};{exact h1}
theorem zdI {D:Dk} (h:D.safe.length<=2048) (A:Ac) (b:Bal) (k:Nat):(z1R D A b k).2.1.waits.length<=D.waits.length+5120:=by
 have h1:=ziF h A.s (z4Q b);unfold z1R
 repeat' split
 all_goals simp only
 all_goals omega
theorem z9E {D:Dk} (h:D.safe.length<=2048) (A:Ac) (v:Vt):(z0Q D A v).2.1.waits.length<=D.waits.length+5120:=by
 have h1:=ziF h A.s (z4R v);unfold z0Q
 repeat' split
 all_goals simp only
 all_goals omega
theorem zjK {D:Dk} (h:D.safe.length<=2048) (A:Ac) (k:Nat):(z3T D A k).2.1.waits.length<=D.waits.length+5120:=by
 have h1:=z9R h A.s (z3L (cutV A.vs k));unfold z3T
 repeat' split
 all_goals simp only
 all_goals omega
theorem ziS {D:Dk} (h:D.safe.length<=2048):(z2T D).2.2.waits.length<=D.waits.length+1024:=by
 have h1:=zrQ h;unfold z2T
 repeat' split
 all_goals simp only
 all_goals omega
theorem ztR (b:Bal) (vs:List Vt):(encP b vs).length<=vs.length+1:=by
 unfold encP;rw[List.length_append,List.length_map];split <;> simp <;> omega
theorem AOk.few {A:Ac} (h:AOk A) (hd:A.s.dead=false):A.s.ps.length<=A.vs.length+1:=by
 rw[h.ps hd];exact ztR _ _
end AC
namespace AC
open Go.Proofs.YtkjofdocgaiedaaGreat MI SO BM DM WM
theorem z6Z:∀ (l:List Ch) (ps:List (Str×Str)),(layL ps l).length<=ps.length+l.length
 | [],ps=>by simp[layL]
 | c :: l,ps=>by{have h1:=MI.lay1_len ps c;have h2:=z6Z l (lay1 ps c);have e:layL ps (c :: l)=layL (lay1 ps c) l:=rfl;rw[e,List.length_cons];omega}
theorem zqA (D:Dk) (S:St) (l:List Ch):(doS D S l).2.2.ps.length<=S.ps.length+l.length:=by
 unfold doS;split;{simp only;omega};{split;{simp only;omega};{unfold z8W;have h:=intoS_ps D S (enc l);simp only;split;{simp only;rw[h];exact z6Z l S.ps};{rw[h];omega}}}
theorem zvM (D:Dk) (S:St):(syS D S).2.2.ps=S.ps:=by unfold syS;split <;> rfl
theorem zoW (D:Dk) (S:St) (l:List Ch):(doA D S l).2.2.ps.length<=S.ps.length+l.length:=by
 have h:=zqA D S l;unfold doA;split;{rw[zvM];exact h};{exact h}
theorem zrY (D:Dk) (A:Ac) (b:Bal) (k:Nat):(z1R D A b k).2.2.s.ps.length<=A.s.ps.length+1:=by
 have h:=zoW D A.s (z4Q b);have e:(z4Q b).length=1:=rfl;unfold z1R
 repeat' split
 all_goals simp only
 all_goals omega
theorem zjI (D:Dk) (A:Ac) (v:Vt):(z0Q D A v).2.2.s.ps.length<=A.s.ps.length+2:=by
 have h:=zoW D A.s (z4R v);have e:(z4R v).length=2:=rfl;unfold z0Q
 repeat' split
 all_goals simp only
 all_goals omega
theorem zsA (D:Dk) (A:Ac) (k:Nat):(z3T D A k).2.2.s.ps.length<=A.s.ps.length+32:=by
 have h:=zqA D A.s (z3L (cutV A.vs k));have e:(z3L (cutV A.vs k)).length=(cutV A.vs k).length:=List.length_map ..;have h2:=(cutV_len A.vs k).1;unfold z3T
 repeat' split
 all_goals simp only
 all_goals omega
theorem zvQ {D:Dk} {S:St} (h:(opS D).2.1=some S):PsOk S.ps:=by
 have:=zcT D S h (SO.op_dead h);exact zjU _ _ _ PsOk.nil this
structure Inv (k:Nat) (D:Dk) (o:Option Ac):Prop where
 waits:D.waits.length≤1024+6200 * k
 ok:∀ A,o=some A→AOk A∧A.s.ps.length≤128000+64 * k
theorem Inv.prep {k:Nat} {D:Dk} {A:Ac} (h:Inv k D (some A)) (hs:D.safe.length<=2048) (b:Bal) (hn:b.n<18446744073709551616) (f:Nat):Inv (k+1) (z1R D A b f).2.1 (some (z1R D A b f).2.2):=by
 obtain⟨h1,h2⟩:=h.ok A rfl;have h3:=h.waits;have h4:=zdI hs A b f;have h5:=zrY D A b f;exact⟨by omega,λA' e=>by rw[<-Option.some.inj e];exact⟨h1.prep b hn f,by omega⟩⟩
theorem Inv.acc {k:Nat} {D:Dk} {A:Ac} (h:Inv k D (some A)) (hs:D.safe.length<=2048) (v:Vt) (hn:v.bal.n<18446744073709551616) (hv:v.slot<18446744073709551616):Inv (k+1) (z0Q D A v).2.1 (some (z0Q D A v).2.2):=by
 obtain⟨h1,h2⟩:=h.ok A rfl;have h3:=h.waits;have h4:=z9E hs A v;have h5:=zjI D A v;exact⟨by omega,λA' e=>by rw[<-Option.some.inj e];exact⟨h1.accept v hn hv,by omega⟩⟩
theorem Inv.trim {k:Nat} {D:Dk} {A:Ac} (h:Inv k D (some A)) (hs:D.safe.length<=2048) (f:Nat):Inv (k+1) (z3T D A f).2.1 (some (z3T D A f).2.2):=by
 obtain⟨h1,h2⟩:=h.ok A rfl;have h3:=h.waits;have h4:=zjK hs A f;have h5:=zsA D A f;exact⟨by omega,λA' e=>by rw[<-Option.some.inj e];exact⟨h1.trim f,by omega⟩⟩
theorem Inv.mono {k l:Nat} {D:Dk} {o:Option Ac} (h:Inv k D o) (hkl:k<=l):Inv l D o:=⟨by have:=h.waits;omega,λA e=>let ⟨a,b⟩:=h.ok A e;⟨a,by omega⟩⟩
theorem Inv.arm {k:Nat} {D:Dk} {o:Option Ac} (h:Inv k D o) (n:Int):Inv k (DM.arm D n) o:=⟨h.waits,h.ok⟩
theorem Inv.open {D:Dk} (hs:D.safe.length<=2048) (hw:D.waits.length<=5000) (hc:∀ A,(z2T D).2.1=some A->A.s.g.l.length<=4000):Inv 1 (z2T D).2.2 (z2T D).2.1:=by
 have h:=ziS hs;refine⟨by omega,λA e=>?_⟩;obtain⟨h1,h2,h3⟩:=ztI (λS e=>(zvQ e).sorted) e;have h4:=(zcT D A.s h3).few (hc _ e) h2;exact⟨h1,by omega⟩
theorem Inv.few {k:Nat} {D:Dk} {A:Ac} (h:Inv k D (some A)) (hk:k<=60):A.s.ps.length<=890000/\D.waits.length<=490000/\AOk A:=by
 obtain⟨h1,h2⟩:=h.ok A rfl;have:=h.waits;exact⟨by omega,by omega,h1⟩
end AC
section
open Go.RowKit Go.Maps MI SO BM DM WM AC
def PairA (W:World) (p:Nat) (D:Dk) (o:Option Ac) (w:World):Prop:=
 ∃ d m av rv A F G,Three W (BoxT p (zhN d m av rv) 40) A (AcP d D o av) F (RAcP m D o rv) G w
def PairD (W:World) (p:Nat) (D:Dk) (w:World):Prop:=
 ∃ d m av rv A F G,Three W (BoxT p (zhN d m av rv) 40) A (DkT d D) F (RkT m D) G w
theorem PairA.base {W w:World} {p:Nat} {D:Dk} {o:Option Ac} (h:PairA W p D o w):PairD W p D w:=by
 obtain⟨d,m,av,rv,A,F,G,h⟩:=h;obtain⟨F',h2,s2⟩:=h.two.disk;obtain⟨G',h3,s3⟩:=h.three.disk;exact⟨d,m,av,rv,A,F',G',h.shrink h.one h2 h3 (λ_ x=>x) s2 s3⟩
theorem PairA.later {W w w':World} {p:Nat} {D:Dk} {o:Option Ac} (h:PairA W p D o w) (hk:Keep zF w w'):PairA W p D o w':=by
 obtain⟨d,m,av,rv,A,F,G,h⟩:=h;exact⟨d,m,av,rv,A,F,G,h.later (BoxT.lives _ _ _) (AcP.lives _ _ _ _) (RAcP.lives _ _ _ _) hk⟩
theorem PairA.keep {W w:World} {p:Nat} {D:Dk} {o:Option Ac} (h:PairA W p D o w):Keep zF W w:=let ⟨_,_,_,_,_,_,_,h⟩:=h;h.keep
theorem AcP.ptr {d:Nat} {D:Dk} {o:Option Ac} {av:Value} {w:World} {F:Nat->Prop} (h:AcP d D o av w F):∃ x,av = .pointer x/\x.isNone=o.isNone:=by
 cases o with | none=>{exact⟨none,h.1,rfl⟩} | some S=>{obtain⟨b,e,-⟩:=h;exact⟨_,e,rfl⟩}
theorem RAcP.ptr {d:Nat} {D:Dk} {o:Option Ac} {av:Value} {w:World} {F:Nat->Prop} (h:RAcP d D o av w F):∃ x,av = .pointer x/\x.isNone=o.isNone:=by
 cases o with | none=>{exact⟨none,h.1,rfl⟩} | some S=>{obtain⟨b,e,-⟩:=h;exact⟨_,e,rfl⟩}
theorem PairD.ok {W w:World} {p:Nat} {D:Dk} (h:PairD W p D w):Ok D:=let ⟨_,_,_,_,_,_,_,h⟩:=h;DiskAt.ok h.two
theorem PairA.ok {W w:World} {p:Nat} {D:Dk} {o:Option Ac} (h:PairA W p D o w):Ok D:=h.base.ok
theorem PairA.count {W w:World} {p:Nat} {D:Dk} {A:Ac} (h:PairA W p D (some A) w):A.s.g.l.length<=4000:=by
 obtain⟨d,m,av,rv,X,F,G,h⟩:=h;obtain⟨r,-,sb,X,Y,-,h2,-⟩:=h.three;exact h2.count.1
theorem zdM (W w:World) (p:Nat) (D:Dk) (h:PairD W p D w) (hfew:D.waits.length<=800000) :
  Calls Tryz.prog 33 #[.pointer (some ⟨p,0,none⟩)] w λe w'=>e = .returned (.bool true)/\PairA W p (z2T D).2.2 (z2T D).2.1 w':=by
 obtain⟨d,m,sv,rv,A,F,G,h⟩:=h;obtain⟨R,hR⟩:=zX1 (z2T D);have hop:=zcE w d F D h.two hfew;rw[<-hR] at hop |-;obtain⟨h0,h1,h2,h3,hf,hb⟩:=z2A h.one.1;have H0:=hid (zA1 h (zA1 hR hfew));clear h hR hfew;go_enter Tryz.func33,Tryz.ntmps33;go_wp2_with fail;refine hop.mono ?_;rintro e w1 ⟨sv1,rfl,ht⟩;obtain⟨F1,T1⟩:=H0.out.1.turn2 (BoxT.lives _ _ _) (RkT.lives _ _) ht;have hrop:=znZ w1 m G D T1.three H0.out.2.2;rw[<-H0.out.2.1] at hrop;clear hop ht h0 h1 h2 h3 hf hb;obtain⟨h0,h1,h2,h3,hf,hb⟩:=z2A T1.one.1;have HT1:=hid T1;clear T1;go_wp2_with fail;refine hrop.mono ?_;rintro e w2 ⟨rv1,rfl,ht⟩;obtain⟨G1,T2⟩:=HT1.out.turn3 (BoxT.lives _ _ _) (AcP.lives _ _ _ _) ht;clear hrop ht h0 h1 h2 h3 hf hb;obtain⟨h0,h1,h2,h3,hf,hb⟩:=z2A T2.one.1;obtain⟨x,rfl,hx⟩:=T2.two.ptr;obtain⟨y,rfl,hy⟩:=T2.three.ptr;have hk3:Keep (λk=>k=p) w2 ((w2.setCell ⟨p,1,none⟩ (.pointer x)).setCell ⟨p,3,none⟩ (.pointer y)):=by{refine Keep.setCell (Keep.setCell (Keep.refl _ _) (.inl ?_) _) (.inl ?_) _ <;> rfl};have hh3:=z0A (z0A T2.one.1 1 (.pointer x)) 3 (.pointer y);obtain⟨A3,T3⟩:=T2.box (AcP.lives _ _ _ _) (RAcP.lives _ _ _ _) hk3 hh3;have HZ:=hid (show PairA W p R.2.2 R.2.1 _ from⟨d,m,.pointer x,.pointer y,A3,F1,G1,T3⟩);clear T2 hk3 hh3 T3;have hxy:x.isNone=y.isNone:=hx.trans hy.symm;have HXY:=hid hxy;clear hx hy hxy;cases x with | none=>{cases y with | none=>{go_wp2_with fail;go_ret;exact⟨by simp,HZ.out⟩} | some y=>{exact absurd HXY.out (by simp)}} | some x=>{cases y with | none=>{exact absurd HXY.out (by simp)} | some y=>{go_wp2_with fail;go_ret;exact⟨by simp,HZ.out⟩}}
theorem ziN (w:World) (s:Nat) (h0:0<s) (h1:s<=2048) :
  Calls Tryz.prog 8 #[.int .i64 (s:Nat)] w λe w'=>∃ p,e = .returned (.tuple #[.pointer (some ⟨p,0,none⟩),.bool true])/\PairA w p (z2T (DM.new s)).2.2 (z2T (DM.new s)).2.1 w':=by
 have hn:=zqH w s h0 h1;clear h0;go_enter Tryz.func8,Tryz.ntmps8;go_wp2_with fail;refine hn.mono ?_;rintro e w1 ⟨d,Pd,rfl,hD1,hk1,hP1⟩;have hr:=zvP w1 s (by have:=hD1.ok.pos;simp[DM.new] at this;omega) h1;have H1:=hid (zA1 hD1 (zA1 hk1 hP1));clear hD1 hk1 hP1;go_wp2_with fail;refine hr.mono ?_;rintro e w2 ⟨m,Qd,rfl,hD2,hk2,hP2⟩;have H2:=hid (zA1 hD2 (zA1 hk2 hP2));clear hD2 hk2 hP2 hn hr;go_wp2_with fail;have T2:=Two.make (T:=DkT d (DM.new s)) (U:=RkT m (DM.new s)) (w0:=w) H1.out.1 H1.out.2.2 H1.out.2.1 (DkT.lives _ _) H2.out.1 H2.out.2.2 H2.out.2.1;have hk3:=kal w2 (.cells (zhN d m (.pointer none) (.pointer none)) 40);have T3:=T2.and (DkT.lives _ _) (RkT.lives _ _) (V:=BoxT w2.heap.size (zhN d m (.pointer none) (.pointer none)) 40) (H:=λk=>k=w2.heap.size) ⟨heap_alloc_new w2 _,rfl,λk e=>by subst e;simp⟩ (λk e=>by omega) hk3;have hop:=zdM w _ w2.heap.size (DM.new s) ⟨d,m,.pointer none,.pointer none,_,_,_,T3.turn.turn⟩ (by simp[DM.new]);clear T2 hk3 T3;go_wp2_with fail;refine hop.mono ?_;rintro e w4 ⟨rfl,hZ⟩;have HZ:=hid hZ;clear hZ;go_wp2_with fail;go_ret2;exact⟨_,rfl,HZ.out⟩
theorem zgJ (w:World) (s:Int) (h:s<1∨2048<s) :
  Calls Tryz.prog 8 #[.int .i64 s] w λe w'=>e = .returned (.tuple #[.pointer none,.bool false])/\w'=w:=by
 have h1:=zsN w s h;have h2:=zgS w s h;clear h;go_enter Tryz.func8,Tryz.ntmps8;go_wp2_with fail;refine h1.mono ?_;rintro e w1 ⟨rfl,rfl⟩;clear h1;go_wp2_with fail;refine h2.mono ?_;rintro e w1 ⟨rfl,rfl⟩;clear h2;go_wp2_with fail;go_ret2;exact⟨rfl,rfl⟩
end
section
open Go.ChangeShapes Go.WideShapes Go.RowKit Go.Deep MI SO BM DM WM AC
def U8R (cs:List Value) (u:UInt8):Prop:=cs = [.int .u8 (u.toNat:Int)]
abbrev Octs (w:World) (v:Value) (l:List UInt8):Prop:=SliceOf w 1 U8R v l
def BalsR (b:Bal):Prop:=b.n<18446744073709551616∧-9223372036854775808≤b.node∧b.node≤9223372036854775807
structure VtR (x:Vt):Prop where
 slot:x.slot<18446744073709551616
 bal:BalsR x.bal
def VoteR (w:World) (cs:List Value) (x:Vt):Prop:=∃ u,cs=z2X x u∧Octs w u x.val∧VtR x
abbrev VoteL (w:World) (v:Value) (l:List Vt):Prop:=SliceOf w 4 (VoteR w) v l
theorem Octs.cells {w:World} {ao:Option Addr} {n c:Nat} {l:List UInt8} (h:Octs w (.slice ao n c) l):n=l.length/\l.length<=c/\c<=maxLen/\Cells w ao l.length 1 (z0B l):=by
 obtain⟨ao',c',e,h1,h2,h3⟩:=h;cases e;refine⟨rfl,h1,h2,by rw[z0C];omega,λhp=>?_⟩;obtain⟨ad,rfl,hi⟩:=h3 (by omega);refine⟨ad,rfl,λt u hu=>?_⟩;have ht:t<l.length:=by{have:=(List.getElem?_eq_some_iff.1 hu).1;rw[z0C] at this;exact this};obtain⟨cs,-,hR,hc⟩:=hi t ht;have e:u = .int .u8 ((l[t]).toNat:Int):=by{simp only[z0B,List.getElem?_map,List.getElem?_eq_getElem ht,Option.map_some,Option.some.injEq] at hu;exact hu.symm};have:=hc 0 u (by rw[hR,e];rfl);rw[Nat.mul_one,Nat.add_zero] at this;exact this
section
variable {H:Type} {enc:TypeId×Value→H} {w:World} {base:Nat} {held:Bool} {fuel:Nat}
theorem zwX {a:Int} (h:(Lit.int .u8 a).wf=true):∃ u:UInt8,a=(u.toNat:Int):=by
 have hx:0<=a/\a<=255:=by{simpa [Lit.wf,IntKind.min,IntKind.max,IntKind.signed,IntKind.bits] using h};refine⟨UInt8.ofNat a.toNat,?_⟩;simp;omega
theorem zvY {v:Value} {x:DataW H×List MemPlace} (h:DataW.trod enc Tryz.prog w base (λ_=>true) held fuel 29 [v]=some x):∃ l,Octs w v l:=
 zbY Tryz.underlying29 (by kernel_rfl) (λ_ _ _ _ h=>let ⟨n,h1,h2⟩:=zcM Tryz.underlying5 h;let ⟨u,hu⟩:=zwX h2;⟨u,by rw[h1,hu];rfl⟩) h
theorem zpK {cs:List Value} {x:DataW H×List MemPlace} (h:DataW.trod enc Tryz.prog w base (λ_=>true) held fuel 28 cs=some x):∃ b:Bal,cs = [.int .u64 (b.n:Int),.int .i64 b.node]/\BalsR b:=by
 have hl:=zrB Tryz.underlying28 h;have c2:Tryz.prog.cellsOf 28=2:=by{kernel_rfl};have c1:Tryz.prog.cellsOf 23=1:=by{kernel_rfl};have cb:Tryz.prog.cellsOf 3=1:=by{kernel_rfl};obtain⟨n0,y0,h0⟩:=z4T Tryz.underlying28 h 0 _ rfl;obtain⟨n1,y1,h1⟩:=z4T Tryz.underlying28 h 1 _ rfl;rw[c2] at hl
 match cs,hl with
 | [x0,x1],_=>
   simp[c1,cb] at h0 h1;obtain⟨a,e0,w0⟩:=zcM Tryz.underlying23 h0;obtain⟨b,e1,w1⟩:=zcM Tryz.underlying3 h1;obtain⟨q1,q2⟩:=zvA w0;obtain⟨q3,q4⟩:=zlH w1;simp only[List.cons.injEq,and_true] at e0 e1;subst e0 e1;refine⟨⟨a.toNat,b⟩,?_,by simp only;omega,q3,q4⟩;simp only;rw[Int.toNat_of_nonneg q1]
theorem zvJ {cs:List Value} {x:DataW H×List MemPlace} (h:DataW.trod enc Tryz.prog w base (λ_=>true) held fuel 31 cs=some x):∃ v,VoteR w cs v:=by
 have hl:=zrB Tryz.underlying31 h;have c4:Tryz.prog.cellsOf 31=4:=by{kernel_rfl};have c2:Tryz.prog.cellsOf 28=2:=by{kernel_rfl};have c1:Tryz.prog.cellsOf 23=1:=by{kernel_rfl};have cb:Tryz.prog.cellsOf 29=1:=by{kernel_rfl};obtain⟨n0,y0,h0⟩:=z4T Tryz.underlying31 h 0 _ rfl;obtain⟨n1,y1,h1⟩:=z4T Tryz.underlying31 h 1 _ rfl;obtain⟨n2,y2,h2⟩:=z4T Tryz.underlying31 h 2 _ rfl;rw[c4] at hl
 match cs,hl with
 | [x0,x1,x2,x3],_=>
   simp[c1,cb,c2] at h0 h1 h2;obtain⟨a,e0,w0⟩:=zcM Tryz.underlying23 h0;obtain⟨b,e1,hb⟩:=zpK h1;obtain⟨l,hl⟩:=zvY h2;obtain⟨q1,q2⟩:=zvA w0;simp only[List.cons.injEq,and_true] at e0 e1;obtain⟨e1,e2⟩:=e1;subst e0 e1 e2;refine⟨⟨a.toNat,b,l⟩,x3,?_,hl,by simp only;omega,hb⟩;unfold z2X;simp only;rw[Int.toNat_of_nonneg q1]
end
end
end Go.Proofs.YtkjofdocgaiedaaGreat
