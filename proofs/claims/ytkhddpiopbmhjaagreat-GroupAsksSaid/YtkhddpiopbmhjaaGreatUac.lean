/- Texts Base, Bytes, Thing, OncS in one. Conditions: as each law names them. -/
import Derived.Test.YtkhddpiopbmhjaaGreatChecked
import Derived.WalkKit
import Derived.Laws.CopyOwn
import Derived.Deep.Draws
import Derived.Laws.IdiomStrings
import Derived.Defers
import Derived.Laws.Pointers
import Derived.Laws.LoneSync
import Derived.RegionTactic
import Derived.RegionCalls
import Derived.ChangeAlike
import Derived.Test.YtkhddpiopbmhjaaGreatUab
set_option maxRecDepth 20000
set_option maxHeartbeats 8000000
namespace Go.Proofs.YtkhddpiopbmhjaaGreat
section
open Go.RowKit
theorem hid{p:Prop}(h:p):zH p:=h
theorem z0Q{p:Prop}(h:∀ q:Prop,zH (p->q)->q):p:=h p (show zH _ from id)
theorem y2A{P:Program}{ops:Array Oper}{Q:Exit->Act->World->Prop}{o:Oper}{rest:List Oper}{a:Act}{w:World}(op:Op)(_ho:o.op=op)(h:∀ q:Prop,zH (wpList P ops Q (o :: rest) a w->q)->q):wpList P ops Q (o :: rest) a w:=z0Q h
structure Keep (F:Nat→Prop) (w w':World):Prop where
 os:w'.os=w.os
 tape:w'.tape=w.tape
 output:w'.output=w.output
 size:w.heap.size≤w'.heap.size
 block:∀ k,k<w.heap.size→¬ F k→w'.heap[k]?=w.heap[k]?
theorem Keep.refl(F:Nat->Prop)(w:World):Keep F w w:=⟨rfl,rfl,rfl,Nat.le_refl _,λ_ _ _=>rfl⟩
theorem Keep.trans{F G:Nat->Prop}{a b c:World}(h:Keep F a b)(k:Keep G b c):Keep (λi=>F i∨G i) a c:=
 ⟨k.os.trans h.os,k.tape.trans h.tape,k.output.trans h.output,Nat.le_trans h.size k.size,λi hi hn=> (k.block i (Nat.lt_of_lt_of_le hi h.size) (λx=>hn (.inr x))).trans (h.block i hi (λx=>hn (.inl x)))⟩
theorem Keep.mono{F G:Nat->Prop}{a b:World}(h:Keep F a b)(hs:∀ i,i<a.heap.size->F i->G i):Keep G a b:=
 ⟨h.os,h.tape,h.output,h.size,λi hi hn=>h.block i hi λx=>hn (hs i hi x)⟩
theorem Keep.next{F G H:Nat->Prop}{a b c:World}(h:Keep F a b)(k:Keep G b c)(hF:∀ i,i<a.heap.size->F i->H i)(hG:∀ i,i<a.heap.size->G i->H i):Keep H a c:=
 (h.trans k).mono λi hi x=>x.elim (hF i hi) (hG i hi)
theorem Keep.drew{F:Nat->Prop}{a w:World}(h:Keep F a w):Keep F a w.drew:=⟨h.os,h.tape,h.output,h.size,h.block⟩
theorem Keep.drewN{F:Nat->Prop}{a w:World}(h:Keep F a w)(n:Nat):Keep F a (w.drewN n):=⟨h.os,h.tape,h.output,h.size,h.block⟩
theorem Keep.alloc{F:Nat->Prop}{a w:World}(h:Keep F a w)(o:Obj):Keep F a (w.alloc o):=
 ⟨h.os,h.tape,h.output,Nat.le_trans h.size (by simp),λi hi hn=>(Below.heap_alloc w o i (Nat.lt_of_lt_of_le hi h.size)).trans (h.block i hi hn)⟩
theorem Keep.setCell{F:Nat->Prop}{a w:World}(h:Keep F a w){p:Addr}(hp:F p.block∨a.heap.size<=p.block)(u:Value):Keep F a (w.setCell p u):=
 ⟨h.os,h.tape,h.output,Nat.le_trans h.size (by simp[World.setCell]),λi hi hn=>(Below.heap_setCell w p u i (λe=>by subst e;rcases hp with x | x;exact hn x;omega)).trans (h.block i hi hn)⟩
theorem Keep.nx{a b c:World}(h:Keep zF a b)(k:Keep zF b c):Keep zF a c:=h.next k zI zI
theorem kal(w:World)(o:Obj):Keep zF w (w.alloc o):=(Keep.refl _ _).alloc _
theorem kst{w:World}{b o:Nat}{v:Value}:Keep (λk=>k=b) w (w.setCell ⟨b,o,none⟩ v):=by refine Keep.setCell (Keep.refl _ _) (.inl ?_) _;rfl
theorem zAl(w:World)(o:Obj):∃ w1,w1=w.alloc o/\w1.heap[w.heap.size]?=some o/\Keep zF w w1:=⟨_,rfl,heap_alloc_new w o,(Keep.refl _ _).alloc _⟩
theorem zPo{P:Program}{f:FuncId}{ar:Array Value}{w:World}{Q:Ending->World->Prop}(h:∀ Post,zH (Post=Q)->Calls P f ar w Post):Calls P f ar w Q:=h Q rfl
theorem zkH(w:World)(g:Nat)(cs:Array Value):(w.setRow g cs).heap.size=w.heap.size:=by simp[World.setRow]
theorem Keep.setRow{F:Nat->Prop}{a w:World}(h:Keep F a w){g:Nat}(hp:F g∨a.heap.size<=g)(cs:Array Value):Keep F a (w.setRow g cs):=
 ⟨h.os,h.tape,h.output,Nat.le_trans h.size (by rw[zkH];exact Nat.le_refl _),λi hi hn=>(setRow_other w g i cs (λe=>by subst e;rcases hp with x | x;exact hn x;omega)).trans (h.block i hi hn)⟩
theorem Keep.grown{F:Nat->Prop}{a w w':World}{row:Option Nat}(h:Keep F a w)(hg:w.grownBy w' row)(hr:∀ k,row=some k->F k∨a.heap.size<=k):Keep F a w':=
 ⟨hg.os.trans h.os,hg.tape.trans h.tape,hg.output.trans h.output,Nat.le_trans h.size hg.size,λi hi hn=> (hg.block i (Nat.lt_of_lt_of_le hi h.size) (λe=>by rcases hr i e.symm with x | x;exact hn x;omega)).trans (h.block i hi hn)⟩
theorem Keep.of_below{w w':World}(h:Below w.heap.size w w')(F:Nat->Prop):Keep F w w':=⟨h.os,h.tape,h.output,h.size,λk hk _=>h.block k hk⟩
theorem Keep.below{F:Nat->Prop}{w w':World}(h:Keep F w w')(hF:∀ i,F i->w.heap.size<=i):Below w.heap.size w w':=
 ⟨h.os,h.tape,h.output,h.size,λk hk=>h.block k hk λx=>by have:=hF k x;omega⟩
theorem Keep.get{F:Nat->Prop}{w w':World}(h:Keep F w w'){k:Nat}{o:Obj}(hk:w.heap[k]?=some o)(hn:¬ F k):w'.heap[k]?=some o:=by
 rw[h.block k (Array.getElem?_eq_some_iff.1 hk).1 hn];exact hk
theorem z0J{w:World}{k:Nat}{o:Obj}(hk:w.heap[k]?=some o):k<w.heap.size:=(Array.getElem?_eq_some_iff.1 hk).1
theorem Pre.of_keep{w w':World}(h:Keep zF w w'):Pre w w':=⟨h.size,λk hk=>h.block k hk id⟩
theorem Pre.push{w w':World}(o:Obj)(h:w'.heap=w.heap.push o):Pre w w':=
 ⟨by rw[h];simp,λk hk=>by rw[h,Array.getElem?_push,if_neg (by omega)]⟩
def Free(fz:Nat×Nat)(m:Nat):Prop:=∀ j,j<m→¬ (fz.1≤j∧j<fz.2)
theorem Free.zero(m:Nat):Free (0,0) m:=λ_ _ h=>by omega
def Row(w:World)(e:TypeId)(size:Nat)(v:Value)(n:Nat)(xs:List Value):Prop:=
 xs.length=n * size∧
 ((v = .slice none 0 0∧n=0)∨
  ∃ g cap cur fz,v = .slice (some ⟨g,0,none⟩) n cap∧w.heap[g]?=some (.cells cur e fz)∧Free fz cur.size∧n≤cap∧cap≤maxLen∧cur.size=cap * size∧cur.toList.take (n * size)=xs)
section
variable {w w':World} {e:TypeId} {size:Nat} {v:Value} {n:Nat} {xs:List Value}
theorem Row.len(h:Row w e size v n xs):xs.length=n * size:=h.1
theorem Row.lt(h:Row w e size v n xs){k:Nat}(hk:v.ownBlock=some k):k<w.heap.size:=by
 rcases h.2 with ⟨rfl,_⟩ | ⟨g,cap,cur,fz,rfl,hg,_⟩;{simp[Value.ownBlock] at hk};{simp[Value.ownBlock] at hk;subst hk;exact z0J hg}
theorem Row.keep{F:Nat->Prop}(h:Row w e size v n xs)(hk:Keep F w w')(hn:∀ k,v.ownBlock=some k->¬ F k):Row w' e size v n xs:=by
 refine⟨h.1,?_⟩;rcases h.2 with x | ⟨g,cap,cur,fz,rfl,hg,rest⟩;{exact .inl x};{exact .inr ⟨g,cap,cur,fz,rfl,hk.get hg (hn g rfl),rest⟩}
theorem Row.nil(w:World)(e:TypeId)(size:Nat):Row w e size (.slice none 0 0) 0 []:=⟨by simp,.inl ⟨rfl,rfl⟩⟩
theorem Row.some(h:Row w e size v n xs)(hn:0<n):∃ g cap cur fz,v = .slice (some ⟨g,0,none⟩) n cap/\w.heap[g]? = .some (.cells cur e fz)/\Free fz cur.size/\n<=cap/\cap<=maxLen/\cur.size=cap * size/\cur.toList.take (n * size)=xs:=by
 rcases h.2 with ⟨_,x⟩ | r;{omega};{exact r}
theorem Row.form(h:Row w e size v n xs):∃ ad cap,v = .slice ad n cap/\n<=cap/\cap<=maxLen/\(ad=none->n=0/\cap=0)/\(∀ x,ad = .some x->x=⟨x.block,0,none⟩/\v.ownBlock = .some x.block):=by
 rcases h.2 with ⟨rfl,rfl⟩ | ⟨g,cap,cur,fz,rfl,hg,_,h1,h2,_⟩;{exact⟨none,0,rfl,Nat.le_refl _,Nat.zero_le _,λ_=>⟨rfl,rfl⟩,by simp⟩};{exact⟨_,cap,rfl,h1,h2,by simp,λx hx=>by cases hx;exact⟨rfl,rfl⟩⟩}
theorem Row.cell{g cap:Nat}(h:Row w e size (.slice (.some ⟨g,0,none⟩) n cap) n xs)(j:Nat)(hj:j<n * size):w.cell? ⟨g,j,none⟩=xs[j]?:=by
 rcases h.2 with ⟨hv,_⟩ | ⟨g',cap',cur,fz,hv,hg,_,_,_,_,ht⟩;{simp at hv};{simp at hv;obtain⟨rfl,rfl⟩:=hv;rw[cell_of_row w g j cur e fz hg,<-ht,List.getElem?_take,if_pos hj];simp}
theorem Row.frozen{g cap:Nat}(h:Row w e size (.slice (.some ⟨g,0,none⟩) n cap) n xs)(j:Nat)(hj:j<n * size):w.frozen? ⟨g,j,none⟩=false:=by
 rcases h.2 with ⟨hv,_⟩ | ⟨g',cap',cur,fz,hv,hg,hf,hc,_,hs,ht⟩;{simp at hv};{simp at hv;obtain⟨rfl,rfl⟩:=hv;have hjs:j<cur.size:=by{rw[hs];exact Nat.lt_of_lt_of_le hj (Nat.mul_le_mul_right _ hc)};have:=hf j hjs;simp only[World.frozen?,hg];simpa using this}
theorem Row.cut{ad:Option Addr}{cap:Nat}(h:Row w e size (.slice ad n cap) n xs)(k:Nat)(hk:k<=n):Row w e size (.slice ad k cap) k (xs.take (k * size)):=by
 have hle:k * size<=n * size:=Nat.mul_le_mul_right _ hk;refine⟨by rw[List.length_take,h.1];omega,?_⟩;rcases h.2 with ⟨hv,hn⟩ | ⟨g,cap',cur,fz,hv,hg,hf,h1,h2,h3,h4⟩;{simp at hv;obtain⟨rfl,rfl,rfl⟩:=hv;exact .inl ⟨by rw[show k=0 by omega],by omega⟩};{simp at hv;obtain⟨rfl,rfl⟩:=hv;exact .inr ⟨g,cap,cur,fz,rfl,hg,hf,by omega,h2,h3,by rw[<-h4,List.take_take,Nat.min_eq_left hle]⟩}
theorem z1G(ad:Option Addr)(n k cap:Nat):(Value.slice ad n cap).ownBlock=(Value.slice ad k cap).ownBlock:=by cases ad <;> rfl
theorem Row.getCell(h:Row w e size v n xs){j:Nat}{u:Value}(hu:xs[j]? = .some u):∃ g cap,v = .slice (.some ⟨g,0,none⟩) n cap/\w.cell? ⟨g,j,none⟩ = .some u:=by
 have hj:j<n * size:=by{rw[<-h.1];exact(List.getElem?_eq_some_iff.1 hu).1};have hn:0<n:=by{rcases Nat.eq_zero_or_pos n with x | x;(subst x;simp at hj);exact x};obtain⟨g,cap,cur,fz,rfl,r⟩:=h.some hn;exact⟨g,cap,rfl,by rw[h.cell j hj];exact hu⟩
end
theorem Row.fresh(w:World)(e:TypeId)(size:Nat):Row (w.alloc (.cells #[] e)) e size (.slice (.some ⟨w.heap.size,0,none⟩) 0 0) 0 []:=
 ⟨by simp,.inr ⟨w.heap.size,0,#[],(0,0),rfl,heap_alloc_new w _,Free.zero _,Nat.le_refl _,Nat.zero_le _,by simp,by simp⟩⟩
def Cells(w:World)(ao:Option Addr)(m size:Nat)(xs:List Value):Prop:=
 xs.length=m * size∧(0<m * size→∃ ad,ao=some ad∧∀ j u,xs[j]?=some u→w.cell? (ad.add j)=some u)
theorem z0R(g o j:Nat):(⟨g,o,none⟩:Addr).add j=⟨g,o+j,none⟩:=by unfold Addr.add;split <;> simp_all
theorem Cells.of_row{w:World}{e:TypeId}{size:Nat}{ao:Option Addr}{n cap:Nat}{xs:List Value}(h:Row w e size (.slice ao n cap) n xs):Cells w ao n size xs:=by
 refine⟨h.1,λhp=>?_⟩;have hn:0<n:=by{rcases Nat.eq_zero_or_pos n with x | x;(subst x;simp at hp);exact x};obtain⟨g,cap',cur,fz,hv,_⟩:=h.some hn;simp at hv;obtain⟨rfl,rfl⟩:=hv;refine⟨_,rfl,λj u hu=>?_⟩;rw[z0R,Nat.zero_add,h.cell j (by rw[<-h.1];exact(List.getElem?_eq_some_iff.1 hu).1)];exact hu
theorem Cells.keep0{w w':World}{F:Nat->Prop}{ao:Option Addr}{m size:Nat}{xs:List Value}(h:Cells w ao m size xs)(hk:Keep F w w')(hn:0<m * size->∀ x,ao=some x->¬ F x.block):Cells w' ao m size xs:=by
 refine⟨h.1,λhp=>?_⟩;obtain⟨ad,rfl,hc⟩:=h.2 hp;refine⟨ad,rfl,λj u hu=>?_⟩;have hw:=hc j u hu;have hb:(ad.add j).block=ad.block:=by{unfold Addr.add;split <;> rfl};have:w'.heap[(ad.add j).block]?=w.heap[(ad.add j).block]?:=by{rw[hb];refine hk.block _ ?_ (hn hp ad rfl);have:=World.block_lt_of_cell? w _ hw;rw[hb] at this;exact this};rw[World.cell?_of_block this];exact hw
theorem Cells.keep{w w':World}{F:Nat->Prop}{ao:Option Addr}{m size:Nat}{xs:List Value}(h:Cells w ao m size xs)(hk:Keep F w w')(hn:∀ x,ao=some x->¬ F x.block):Cells w' ao m size xs:=
 h.keep0 hk λ_=>hn
theorem Cells.take{w:World}{ao:Option Addr}{n size:Nat}{xs:List Value}(h:Cells w ao n size xs)(m:Nat)(hm:m<=n):Cells w ao m size (xs.take (m * size)):=by
 have hle:m * size<=n * size:=Nat.mul_le_mul_right _ hm;refine⟨by rw[List.length_take,h.1];omega,λhp=>?_⟩;obtain⟨ad,rfl,hc⟩:=h.2 (by omega);refine⟨ad,rfl,λj u hu=>hc j u ?_⟩;rw[List.getElem?_take] at hu;split at hu;{exact hu};{cases hu}
theorem Cells.nil(w:World)(ao:Option Addr)(size:Nat):Cells w ao 0 size []:=⟨by simp,by simp⟩
structure SliceTy (P:Program) (t e:TypeId) (z:Value) (size bytes:Nat):Prop where
 under:P.underlying t=some (.slice e)
 info:(P.info? e).map (fun i=>(i.zero,i.size,i.bytes))=some (some z,size,bytes)
 zsize:z.cells.size=size
 pos:0<size
section
variable {P:Program} {o:Oper} {a:Act} {w:World} {K:Act→World→Prop} {Q:Exit→Act→World→Prop}
theorem z1Q(g o:Nat)(t:TypeId)(fz:Nat×Nat):∀ (vs:List Value) (i:Nat) (cur:Array Value) (w:World),w.heap[g]?=some (.cells cur t fz)->Free fz cur.size->o+i+vs.length<=cur.size->(∀ v ∈ vs,v.oneCell'=true)->
  (storeCells ⟨g,o,none⟩ vs i).run P w = .ok () (w.setRow g (cur.toList.take (o+i) ++ vs ++ cur.toList.drop (o+i+vs.length)).toArray)
 | [],i,cur,w,hg,_,_,_=>by{simp only[storeCells,List.append_nil,List.length_nil,Nat.add_zero,List.take_append_drop,Array.toArray_toList];rw[setRow_self w g cur t fz hg];rfl}
 | v :: rest,i,cur,w,hg,hfz,hl,h1=>by{have hi:o+i<cur.size:=by{simp at hl;omega};have hcell:w.cell? ⟨g,o+i,none⟩=some cur[o+i]:=by{simp[World.cell?,hg,hi]};have hfro:w.frozen? ⟨g,o+i,none⟩=false:=by{have:=hfz _ hi;simp only[World.frozen?,hg];simpa using this};have hst:(store ((⟨g,o,none⟩:Addr).add i) v).run P w = .ok () (w.setRow g (cur.setIfInBounds (o+i) v)):=by{rw[z0R,run_store P w _ v _ (h1 v (by simp)),hcell];simp[hfro,setCell_eq_setRow w g (o+i) cur t fz v hg]};have ih:=z1Q g o t fz rest (i+1) (cur.setIfInBounds (o+i) v) (w.setRow g (cur.setIfInBounds (o+i) v)) (setRow_heap w g cur _ t _ hg) (by simpa using hfz) (by simp at hl |-;omega) (λx hx=>h1 x (by simp[hx]));simp only[storeCells,Sem.run_bind,hst,Result.andThen_ok,ih,setRow_setRow];congr 3;have e:=list_seg_step cur.toList (o+i) v rest (by simp at hl |-;omega);simpa [Array.toList_setIfInBounds,Nat.add_assoc] using e}
theorem z4D(size m:Nat)(ao:Option Addr)(c k:Nat)(xs:List Value)(h:Cells w ao m size xs):(Builtin.firstCells size m (.slice ao k c)).run P w = .ok xs.toArray w:=by
 by_cases hp:0<m * size;{obtain⟨ad,rfl,hc⟩:=h.2 hp;have:=run_loadCells_list (P:=P) w ad xs hc;rw[h.1] at this;simpa [Builtin.firstCells] using this};{have h0:m * size=0:=by{omega};have hx:xs = []:=List.eq_nil_of_length_eq_zero (by rw[h.1,h0]);subst hx;cases ao <;> simp[Builtin.firstCells,h0,loadCells,loadCellsFrom]}
theorem z9C{t ty e:TypeId}{z:Value}{size bytes:Nat}(T:SliceTy P t e z size bytes){v:Value}{n:Nat}{xs:List Value}(hrow:Row w e size v n xs)(ao:Option Addr)(m c:Nat)(news:List Value)(hsrc:Cells w ao m size news)(h1:∀ u ∈ news,u.oneCell'=true)(h63:n+m≤maxLen)(hb:(n+m) * bytes≤140737488355328):∃ v' w',(Builtin.append_ #[t,t] ty #[v,.slice ao m c]).run P w = .ok v' w'∧Row w' e size v' (n+m) (xs ++ news)∧Keep (fun k=>v.ownBlock=some k) w w'∧
   ((v'=v∧m=0)∨(∃ k,v'.ownBlock=some k∧(v.ownBlock=some k∨k=w.heap.size)))∧Row w' e size v n xs:=by
 obtain⟨ht,hinfo,hzs,hpos⟩:=T
 obtain⟨i,hi,hz,hsize,hby⟩:∃ i,P.info? e=some i∧i.zero=some z∧i.size=size∧i.bytes=bytes:=by
  cases hq:P.info? e with
  | none=>simp[hq] at hinfo
  | some i=>simp[hq] at hinfo;exact⟨i,rfl,hinfo.1,hinfo.2.1,hinfo.2.2⟩
 subst hsize;subst hby;have hlen:(xs ++ news).length=(n+m) * i.size:=by rw[List.length_append,hrow.1,hsrc.1,Nat.add_mul]
 have hf:=z4D (P:=P) i.size m ao c m news hsrc;have hsrc':Cells w.drew ao m i.size news:=hsrc;have hf':=z4D (P:=P) (w:=w.drew) i.size m ao c m news hsrc';have hsmall:n+m≤9223372036854775807:=by simp only[maxLen] at h63;omega
 have grown:∀ (old:Nat),old<n+m→
   Row (w.drew.alloc (.cells (xs.toArray ++ news.toArray ++ Builtin.zeroCells z.cells (grownCap w (n+m) old e - (n+m))) e)) e i.size
    (.slice (some ⟨w.heap.size,0,none⟩) (n+m) (grownCap w (n+m) old e)) (n+m) (xs ++ news)∧
   Keep (fun _=>False) w (w.drew.alloc (.cells (xs.toArray ++ news.toArray ++ Builtin.zeroCells z.cells (grownCap w (n+m) old e - (n+m))) e)):=by
  intro old ho;have hge:=grownCap_ge w (n+m) old e;have hcm:grownCap w (n+m) old e≤maxLen:=grownCap_le_maxLen w (n+m) old e h63;refine⟨⟨hlen,.inr ⟨w.heap.size,_,_,(0,0),rfl,heap_alloc_new w.drew _,Free.zero _,hge,hcm,?_,?_⟩⟩,((Keep.refl _ w).drew).alloc _⟩
  ·simp only[Array.size_append,List.size_toArray,size_zeroCells,hzs,hrow.1,hsrc.1,← Nat.add_mul]
   congr 1;omega
  ·simp only[Array.toList_append,List.append_assoc]
   rw[← List.append_assoc,← hlen];exact List.take_left
 have big:∀ (v0:Value) (ad:Option Addr) (cap:Nat),v = .slice ad n cap→cap<n+m→Cells w ad n i.size xs→
   (Builtin.append_ #[t,t] ty #[.slice ad n cap,.slice ao m c]).run P w = .ok (.slice (some ⟨w.heap.size,0,none⟩) (n+m) (grownCap w (n+m) cap e))
    (w.drew.alloc (.cells (xs.toArray ++ news.toArray ++ Builtin.zeroCells z.cells (grownCap w (n+m) cap e - (n+m))) e)):=by
  intro v0 ad cap _ hcap hold;have hn:¬ (n+m≤cap):=by omega
  have h63':¬ (9223372036854775807<((n:Int)+(m:Int))):=by omega
  have h48':¬ (281474976710656<Builtin.nextslicecap (n+m) cap * i.bytes):=by have:=growslice_fits (need:=n+m) (old:=cap) (bytes:=i.bytes) hcap hb;omega
  have hfo:=z4D (P:=P) (w:=w.drew) i.size n ad cap n xs hold;simp[Builtin.append_,run_underlying ht,sizeOf,typeInfo,zeroValue,hi,hz,Builtin.lenOf,hn,h63',h48',Question.forced,hf',hfo,newRow,grownCap];congr 2;apply Array.ext';simp[List.append_assoc]
 rcases hrow.2 with ⟨rfl,rfl⟩ | ⟨g,cap,cur,fz,rfl,hg,hfz,hnc,hcm,hcs,htake⟩
 ·have hx:xs = []:=List.eq_nil_of_length_eq_zero (by simpa using hrow.1)
  subst hx
  by_cases hm:m=0
  ·subst hm
   have hnn:news = []:=List.eq_nil_of_length_eq_zero (by simpa using hsrc.1);subst hnn;refine⟨.slice none 0 0,w,?_,Row.nil w e i.size,Keep.refl _ _,.inl ⟨rfl,rfl⟩,Row.nil w e i.size⟩;simp[Builtin.append_,run_underlying ht,sizeOf,typeInfo,hi,Builtin.lenOf,hf]
  ·have hr:=big (.slice none 0 0) none 0 rfl (by omega) (Cells.nil w none _)
   exact⟨_,_,hr,(grown 0 (by omega)).1,(grown 0 (by omega)).2.mono (fun _ _ x=>x.elim),.inr ⟨_,rfl,.inr rfl⟩,Row.nil _ e i.size⟩
 ·by_cases hroom:n+m≤cap
  ·have hfit:n * i.size+news.length≤cur.size:=by rw[hsrc.1,hcs,← Nat.add_mul];exact Nat.mul_le_mul_right _ hroom
   have hst:=z1Q (P:=P) g (n * i.size) e fz news 0 cur w hg hfz (by simpa using hfit) h1;simp only[Nat.add_zero] at hst
   have hfr:Free fz (cur.toList.take (n * i.size) ++ news ++ cur.toList.drop (n * i.size+news.length)).toArray.size:=by
    simpa [Nat.min_eq_left (Nat.le_trans (Nat.le_add_right _ _) hfit),Nat.add_sub_of_le hfit,Nat.add_assoc] using (show Free fz ((n * i.size)+(news.length+(cur.size - (n * i.size+news.length)))) by rw[← Nat.add_assoc,Nat.add_sub_of_le hfit];exact hfz)
   have hsz:(cur.toList.take (n * i.size) ++ news ++ cur.toList.drop (n * i.size+news.length)).toArray.size=cap * i.size:=by
    simp only[List.size_toArray,List.length_append,List.length_take,List.length_drop,Array.length_toList];omega
   refine⟨.slice (some ⟨g,0,none⟩) (n+m) cap,w.setRow g (cur.toList.take (n * i.size) ++ news ++ cur.toList.drop (n * i.size+news.length)).toArray,?_,⟨hlen,.inr ⟨g,cap,_,fz,rfl,setRow_heap w g cur _ e _ hg,hfr,hroom,hcm,hsz,?_⟩⟩,(Keep.refl _ w).setRow (.inl (show Value.ownBlock _=some g from rfl)) _,.inr ⟨g,rfl,.inl rfl⟩,
    ⟨hrow.1,.inr ⟨g,cap,_,fz,rfl,setRow_heap w g cur _ e _ hg,hfr,hnc,hcm,hsz,?_⟩⟩⟩
   ·simp[Builtin.append_,run_underlying ht,sizeOf,typeInfo,hi,Builtin.lenOf,hroom,hf,Addr.add_lit,hst]
   ·rw[htake,← hlen]
    exact List.take_left
   ·rw[htake,← hrow.1,List.append_assoc]
    exact List.take_left
  ·have hold:Cells w (some ⟨g,0,none⟩) n i.size xs:=by
    refine⟨hrow.1,fun _=>⟨_,rfl,fun j u hu=>?_⟩⟩;rw[z0R,Nat.zero_add,hrow.cell j (by rw[← hrow.1];exact(List.getElem?_eq_some_iff.1 hu).1)];exact hu
   have hr:=big (.slice (some ⟨g,0,none⟩) n cap) (some ⟨g,0,none⟩) cap rfl (by omega) hold;exact⟨_,_,hr,(grown cap (by omega)).1,(grown cap (by omega)).2.mono (fun _ _ x=>x.elim),.inr ⟨_,rfl,.inr rfl⟩,hrow.keep (grown cap (by omega)).2 (fun _ _ x=>x)⟩
theorem z1E{t e:TypeId}{z:Value}{size bytes:Nat}(T:SliceTy P t e z size bytes)(s x:Operand)(ho:o.op = .call { callee:=.builtin .append,args:=#[s,x],argTypes:=#[t,t] }){v:Value}{n:Nat}{xs:List Value}(hs:a.eval s=v)(hrow:Row w e size v n xs)(ao:Option Addr)(m c:Nat)(news:List Value)(hx:a.eval x = .slice ao m c)(hsrc:Cells w ao m size news)(h1:∀ u ∈ news,u.oneCell'=true)(h63:n+m<=maxLen)(hb:(n+m) * bytes<=140737488355328)(h:∀ v' w',Row w' e size v' (n+m) (xs ++ news)->Keep (λk=>v.ownBlock=some k) w w'->
   ((v'=v/\m=0)∨(∃ k,v'.ownBlock=some k/\(v.ownBlock=some k∨k=w.heap.size)))->K (a.put o.dst v') w'):o.wp P a w K Q:=by
 obtain⟨v',w',hr,h2,h3,h4,-⟩:=z9C (P:=P) (w:=w) (ty:=o.type) T hrow ao m c news hsrc h1 h63 hb;unfold Oper.wp execOp;simp only[ho,resolve,invoke,builtin,Sem.run_bind,Sem.run_pure,Result.andThen_ok,List.map_toArray,List.map_cons,List.map_nil,hs,hx,hr];exact h v' w' h2 h3 h4
theorem z5F{dT sT ty elem:TypeId}{z:Value}{size bytes:Nat}(T:SliceTy P dT elem z size bytes)(g od dLen dCap:Nat)(cur:Array Value)(t:TypeId)(fz:Nat×Nat)(hg:w.heap[g]?=some (.cells cur t fz))(hfz:Free fz cur.size)(ao:Option Addr)(sLen sCap:Nat)(cs:List Value)(m:Nat)(hm:min sLen dLen=m)(hsrc:Cells w ao m size cs)(hfit:od+cs.length<=cur.size)(h1:∀ v ∈ cs,v.oneCell'=true):(Builtin.copy_ #[dT,sT] ty #[.slice (some ⟨g,od,none⟩) dLen dCap,.slice ao sLen sCap]).run P w =
   .ok (goInt m) (w.setRow g (splice cur.toList od cs).toArray):=by
 obtain⟨ht,hinfo,hzs,hpos⟩:=T;obtain⟨i,hi,hsize⟩:∃ i,P.info? elem=some i/\i.size=size:=by{cases hq:P.info? elem with | none=>{simp[hq] at hinfo} | some i=>{simp[hq] at hinfo;exact⟨i,rfl,hinfo.2.1⟩}};subst hsize;have hf:=z4D (P:=P) (w:=w) i.size m ao sCap sLen cs hsrc;have hm':Nat.min sLen dLen=m:=hm;have hst:=z1Q (P:=P) g od t fz cs 0 cur w hg hfz (by simpa using hfit) h1;simp only[Nat.add_zero] at hst;simp[Builtin.copy_,run_underlying ht,Builtin.lenOf,sizeOf,typeInfo,hi,hm',hf,hst,splice]
theorem zzG{dT sT elem:TypeId}{z:Value}{size bytes:Nat}(T:SliceTy P dT elem z size bytes)(d s:Operand)(ho:o.op = .call { callee:=.builtin .copy,args:=#[d,s],argTypes:=#[dT,sT] })(g od dLen dCap:Nat)(cur:Array Value)(t:TypeId)(fz:Nat×Nat)(hd:a.eval d = .slice (some ⟨g,od,none⟩) dLen dCap)(hg:w.heap[g]?=some (.cells cur t fz))(hfz:Free fz cur.size)(ao:Option Addr)(sLen sCap:Nat)(hs:a.eval s = .slice ao sLen sCap)(cs:List Value)(m:Nat)(hm:min sLen dLen=m)(hsrc:Cells w ao m size cs)(hfit:od+cs.length<=cur.size)(h1:∀ v ∈ cs,v.oneCell'=true)(h:K (a.put o.dst (goInt m)) (w.setRow g (splice cur.toList od cs).toArray)):o.wp P a w K Q:=by
 have hr:=z5F (P:=P) (w:=w) (sT:=sT) (ty:=o.type) T g od dLen dCap cur t fz hg hfz ao sLen sCap cs m hm hsrc hfit h1;unfold Oper.wp execOp;simp only[ho,resolve,invoke,builtin,Sem.run_bind,Sem.run_pure,Result.andThen_ok,List.map_toArray,List.map_cons,List.map_nil,hd,hs,hr];exact h
theorem Row.spliced{e:TypeId}{size g n cap:Nat}{xs:List Value}{cur:Array Value}{fz:Nat×Nat}(h:Row w e size (.slice (.some ⟨g,0,none⟩) n cap) n xs)(hg:w.heap[g]? = .some (.cells cur e fz))(od:Nat)(cs:List Value)(hfit:od+cs.length<=n * size):Row (w.setRow g (splice cur.toList od cs).toArray) e size (.slice (.some ⟨g,0,none⟩) n cap) n (splice xs od cs):=by
 have hl:=h.1;rcases h.2 with ⟨hv,_⟩ | ⟨g',cap',cur',fz',hv,hg',hf,hc,hm,hs,ht⟩;{simp at hv};{simp at hv;obtain⟨rfl,rfl⟩:=hv;rw[hg] at hg';simp at hg';obtain⟨rfl,rfl⟩:=hg';have hle:n * size<=cur.size:=by{rw[hs];exact Nat.mul_le_mul_right _ hc};have hlen:(splice cur.toList od cs).length=cur.size:=by{rw[length_splice _ _ _ (by simp;omega)];simp};refine⟨by rw[length_splice _ _ _ (by omega)];exact hl,.inr ⟨g,cap,_,fz,rfl,setRow_heap w g cur _ e fz hg,?_,hc,hm,?_,?_⟩⟩;{simpa [hlen] using hf};{simpa [hlen] using hs};{subst ht;simp only[splice,List.take_append,List.take_take,List.length_take,Array.length_toList,List.drop_take];rw[List.take_of_length_le (l:=cs) (by omega),Nat.min_eq_left (by omega:od<=n * size),Nat.min_eq_right (by omega:od<=n * size)];congr 2;rw[Nat.min_eq_left (by omega),Nat.sub_sub]}}
theorem ztH{t ty e:TypeId}{z:Value}{size bytes:Nat}(T:SliceTy P t e z size bytes)(hz1:∀ u ∈ z.cells,u.oneCell'=true){v:Value}{n:Nat}{xs:List Value}(hrow:Row w e size v n xs):∃ w' ys,(Builtin.clear_ #[t] ty #[v]).run P w = .ok (.tuple #[]) w'/\Row w' e size v n ys/\Keep (λk=>v.ownBlock=some k) w w':=by
 obtain⟨ht,hinfo,hzs,hpos⟩:=T;obtain⟨i,hi,hz,hsize⟩:∃ i,P.info? e=some i/\i.zero=some z/\i.size=size:=by{cases hq:P.info? e with | none=>{simp[hq] at hinfo} | some i=>{simp[hq] at hinfo;exact⟨i,rfl,hinfo.1,hinfo.2.1⟩}};rcases hrow.2 with ⟨rfl,rfl⟩ | ⟨g,cap,cur,fz,rfl,hg,hfz,hnc,hcm,hcs,htake⟩;{exact⟨w,_,by simp[Builtin.clear_,run_underlying ht],hrow,Keep.refl _ w⟩};{by_cases hn:n=0;{subst hn;exact⟨w,_,by simp[Builtin.clear_,run_underlying ht],hrow,Keep.refl _ w⟩};{have hzl:(Builtin.zeroCells z.cells n).toList.length=n * size:=by{simp[size_zeroCells,hzs]};have hle:n * size<=cur.size:=by{rw[hcs];exact Nat.mul_le_mul_right _ hnc};have hst:=z1Q (P:=P) g 0 e fz (Builtin.zeroCells z.cells n).toList 0 cur w hg hfz (by omega) (by{intro u hu;simp only[Builtin.zeroCells,Array.toList_map,List.mem_map] at hu;obtain⟨k,_,rfl⟩:=hu;have hzp:0<z.cells.size:=by{omega};have hk:k % z.cells.size<z.cells.size:=Nat.mod_lt _ hzp;rw[getElem!_pos z.cells (k % z.cells.size) hk];exact hz1 _ (Array.getElem_mem hk)});refine⟨_,_,?_,hrow.spliced hg 0 (Builtin.zeroCells z.cells n).toList (by rw[hzl];omega),(Keep.refl _ w).setRow (.inl (show Value.ownBlock _=some g from rfl)) _⟩;simp only[Nat.add_zero] at hst;obtain⟨n',rfl⟩:∃ n',n=n'+1:=⟨n - 1,by omega⟩;simp[Builtin.clear_,run_underlying ht,zeroValue,typeInfo,hi,hz,hst,splice]}}
theorem zjJ{next:Value->Prop}(ty:TypeId)(x:Operand)(ho:o.op = .load ty x)(g off:Nat)(hx:a.eval x = .pointer (some ⟨g,off,none⟩))(cs:List Value)(hc:∀ j u,cs[j]?=some u->w.cell? ⟨g,off+j,none⟩=some u)(d:TypeDesc)(hu:P.underlying ty=some d)(hd:(match d with | .struct _ | .array _ _=>true | _=>false)=true)(hi:(P.info? ty).map (·.size)=some cs.length)(h:next (.agg cs.toArray)):calm P o a w next:=by
 have hl:=run_loadCells_list (P:=P) w ⟨g,off,none⟩ cs (λj v hv=>by rw[z0R];exact hc j v hv);cases hq:P.info? ty with | none=>{simp[hq] at hi} | some i=>{have hs:i.size=cs.length:=by{simpa [hq] using hi};have hagg:(isAgg ty).run P w = .ok true w:=by{unfold isAgg;rw[Sem.run_bind,run_underlying hu w];cases d <;> simp_all};have hr:(loadVar ty ⟨g,off,none⟩).run P w = .ok (.agg cs.toArray) w:=by{simp[loadVar,Sem.run_bind,hagg,sizeOf,typeInfo,hq,hs,hl]};unfold calm execOp;simp only[ho,hx,Instr.loadAt,Instr.sureAddr,Sem.run_bind,Sem.run_pure,Result.andThen_ok,hr];exact⟨rfl,h⟩}
theorem zaU{t e:TypeId}{z:Value}{size bytes:Nat}(T:SliceTy P t e z size bytes)(kl kc:IntKind)(n:Nat)(hb:bytes * n<=140737488355328)(h63:n<=maxLen)(w:World):(Instr.makeSlice t (.int kl (n:Int)) (.int kc (n:Int))).run P w = .ok (.slice (some ⟨w.heap.size,0,none⟩) n n) (w.alloc (.cells (madeCells z.cells (n * size)) e)):=by
 obtain⟨ht,hinfo,hzs,hpos⟩:=T;obtain⟨i,hi,hz,hsize,hby⟩:∃ i,P.info? e=some i/\i.zero=some z/\i.size=size/\i.bytes=bytes:=by{cases hq:P.info? e with | none=>{simp[hq] at hinfo} | some i=>{simp[hq] at hinfo;exact⟨i,rfl,hinfo.1,hinfo.2.1,hinfo.2.2⟩}};subst hsize hby;have h63':(n:Int)<=9223372036854775807:=by{simp only[maxLen] at h63;omega};have hb':(i.bytes:Int) * (n:Int)<=281474976710656:=by{have h:((i.bytes * n:Nat):Int)<=281474976710656:=by{omega};rwa [Int.natCast_mul] at h};have hr:=run_make (P:=P) w t e i z ht hi hz kl kc n n (by omega) (Int.le_refl _) hb' h63';simpa only[Int.toNat_natCast] using hr
theorem Row.made{w:World}{e:TypeId}{size g n:Nat}{z:Array Value}(hg:w.heap[g]? = .some (.cells (madeCells z (n * size)) e (0,0)))(h63:n<=maxLen):Row w e size (.slice (.some ⟨g,0,none⟩) n n) n (madeCells z (n * size)).toList:=
 ⟨by simp[size_madeCells],.inr ⟨g,n,_,(0,0),rfl,hg,Free.zero _,Nat.le_refl _,h63,size_madeCells _ _,by simp[List.take_of_length_le,size_madeCells]⟩⟩
theorem z8F(z:Array Value)(u:Value)(hz:∀ i,i<z.size->z[i]! = u)(h0:0<z.size)(n:Nat):(madeCells z n).toList=List.replicate n u:=by
 apply List.ext_getElem;{simp[madeCells]};{intro i h1 h2;simp only[madeCells,Array.toList_map,List.getElem_map,List.getElem_replicate];exact hz _ (Nat.mod_lt _ h0)}
def z1T(ao:Option Addr)(cap lo size:Nat):Option Addr:=if cap=lo then ao else ao.map (·.add (lo * size))
theorem z1R{t e:TypeId}{z:Value}{size bytes:Nat}(T:SliceTy P t e z size bytes)(ao:Option Addr)(n cap:Nat)(k:IntKind)(lo:Nat)(h1:lo<=n)(w:World):(Instr.sliceAt t (.slice ao n cap) (some (.int k (lo:Int))) none none).run P w = .ok (.slice (z1T ao cap lo size) (n - lo) (cap - lo)) w:=by
 obtain⟨ht,hinfo,hzs,hpos⟩:=T;obtain⟨i,hi,hsize⟩:∃ i,P.info? e=some i/\i.size=size:=by{cases hq:P.info? e with | none=>{simp[hq] at hinfo} | some i=>{simp[hq] at hinfo;exact⟨i,rfl,hinfo.2.1⟩}};subst hsize;have h0:(0:Int)<=(lo:Int)/\(lo:Int)<=(n:Int):=by{omega};simp[Instr.sliceAt,Instr.slice,run_underlying ht,Instr.sliceBounds,Instr.sliceBound,asIntOf,h0,h1,sizeOf,typeInfo,hi,z1T]
theorem Cells.tail{ao:Option Addr}{n cap size:Nat}{xs:List Value}(h:Cells w ao n size xs)(lo:Nat)(h1:lo<=n)(h2:n<=cap)(hs:0<size):Cells w (z1T ao cap lo size) (n - lo) size (xs.drop (lo * size)):=by
 have hm:lo * size<=n * size:=Nat.mul_le_mul_right _ h1;refine⟨by rw[List.length_drop,h.1,Nat.sub_mul],λhp=>?_⟩;have hlt:lo<n:=by{rcases Nat.lt_or_ge lo n with x | x;{exact x};{rw[show n - lo=0 by omega,Nat.zero_mul] at hp;omega}};obtain⟨ad,rfl,hc⟩:=h.2 (Nat.mul_pos (by omega) hs);unfold z1T;rw[if_neg (by omega)];refine⟨_,rfl,λj u hu=>?_⟩;rw[List.getElem?_drop] at hu;have:=hc _ u hu;have e:(ad.add (lo * size)).add j=ad.add (lo * size+j):=by{by_cases h0:j=0;{subst h0;simp[Addr.add]};{by_cases h3:lo * size=0;{rw[h3,Nat.zero_add];simp[Addr.add,h0]};{have h4:lo * size+j≠0:=by{omega};simp only[Addr.add,if_neg h0,if_neg h3,if_neg h4,Nat.add_assoc]}}};rw[e];exact this
end
theorem zmQ(off:Nat):∀ (vs:List Value) (k:Nat) (cs:Array Value),off+k+vs.length<=cs.size->
  (vs.zipIdx k).foldl (λcs (c,j)=>cs.setIfInBounds (off+j) c) cs=(splice cs.toList (off+k) vs).toArray
 | [],k,cs,_=>by simp[splice]
 | v :: vs,k,cs,h=>by{simp only[List.zipIdx_cons,List.foldl_cons];rw[zmQ off vs (k+1) _ (by simp at h |-;omega)];congr 1;have e:=list_seg_step cs.toList (off+k) v vs (by simp at h |-;omega);simp only[splice,Array.toList_setIfInBounds,List.length_cons];simpa [Nat.add_assoc] using e}
theorem zcL(place:Nat->Option (Nat×Nat))(cells:Array Value)(i:Nat)(v:Value)(rest:List (Nat×Value))(off size:Nat)(hp:place i=some (off,size))(hv:v.cells.size=size)(hfit:off+size<=cells.size):Instr.fill place cells ((i,v) :: rest)=Instr.fill place (splice cells.toList off v.cells.toList).toArray rest:=by
 simp only[Instr.fill,hp];rw[if_neg (by simp[hv];omega)];congr 1;have:=zmQ off v.cells.toList 0 cells (by simp[hv];omega);simp only[Nat.add_zero] at this;rw[<-this,<-Array.foldl_toList,Array.toList_zipIdx]
section
variable {P:Program} {o:Oper} {a:Act} {w:World} {K:Act→World→Prop} {Q:Exit→Act→World→Prop}
theorem ztN(t:TypeId)(z:Value)(fields:Array Field)(places:Array (Nat×Nat))(parts:Array (Nat×Value))(cells:Array Value)(hz:(P.info? t).map (·.zero)=some (some z))(hu:P.underlying t=some (.struct fields))(hpl:∀ w,(fields.mapM λf=>do pure (f.offset,<-sizeOf f.type):Sem (Array (Nat×Nat))).run P w = .ok places w)(hf:Instr.fill (places[·]?) z.cells parts.toList=some cells):(Instr.build t parts).run P w = .ok (.agg cells) w:=by
 cases hq:P.info? t with | none=>{simp[hq] at hz} | some i=>{have hi:i.zero=some z:=by{simpa [hq] using hz};have hz':(zeroValue t).run P w = .ok z w:=by{simp[zeroValue,typeInfo,hq,hi]};simp only[Instr.build,Sem.run_bind,hz',Result.andThen_ok,run_underlying hu,hpl w,hf,Sem.run_pure]}
theorem zoK{next:Value->Prop}(t:TypeId)(parts:Array (Nat×Operand))(ho:o.op = .build t parts)(vs:List (Nat×Value))(hvs:(parts.toList.map λ(i,x)=>(i,a.eval x))=vs)(z:Value)(fields:Array Field)(places:Array (Nat×Nat))(cells:Array Value)(hz:(P.info? t).map (·.zero)=some (some z))(hu:P.underlying t=some (.struct fields))(hpl:∀ w,(fields.mapM λf=>do pure (f.offset,<-sizeOf f.type):Sem (Array (Nat×Nat))).run P w = .ok places w)(hf:Instr.fill (places[·]?) z.cells vs=some cells)(h:next (.agg cells)):calm P o a w next:=by
 have hr:=ztN (P:=P) (w:=w) t z fields places (parts.map λ(i,x)=>(i,a.eval x)) cells hz hu hpl (by rw[Array.toList_map,hvs];exact hf);unfold calm execOp;simp only[ho,Sem.run_bind,Sem.run_pure,Result.andThen_ok,hr];exact⟨rfl,h⟩
theorem zcZ{t e:TypeId}{z:Value}{size bytes:Nat}(T:SliceTy P t e z size bytes)(v:Value)(hv:v.cells.size=size)(hs:size<=16777216):(Instr.buildSlice t 1 #[(0,v)]).run P w = .ok (.slice (some ⟨w.heap.size,0,none⟩) 1 1) (w.alloc (.cells v.cells e)):=by
 obtain⟨ht,hinfo,hzs,hpos⟩:=T;obtain⟨i,hi,hz,hsize⟩:∃ i,P.info? e=some i/\i.zero=some z/\i.size=size:=by{cases hq:P.info? e with | none=>{simp[hq] at hinfo} | some i=>{simp[hq] at hinfo;exact⟨i,rfl,hinfo.1,hinfo.2.1⟩}};subst hsize;have n1:¬ (16777216<i.size):=by{omega};have n2:i.size≠0:=by{omega};have hfill:∀ cs:Array Value,cs.size=i.size->Instr.fill (λk=>some (k * i.size,i.size)) cs [(0,v)]=some v.cells:=by{intro cs hcs;rw[zcL _ _ _ _ _ (0 * i.size) i.size rfl hv (by omega)];simp only[Instr.fill,Option.some.injEq,Nat.zero_mul];have hl:v.cells.toList.length=cs.toList.length:=by{simp[hcs,hv]};simp[splice,hl];rw[List.drop_eq_nil_of_le (by simp[hcs])];simp};simp[Instr.buildSlice,run_underlying ht,n1,n2,hfill,newRow,sizeOf,typeInfo,zeroValue,hi,hz]
theorem zeK{t e:TypeId}{z:Value}{size bytes:Nat}(T:SliceTy P t e z size bytes)(x:Operand)(ho:o.op = .buildSlice t 1 #[(0,x)])(v:Value)(hx:a.eval x=v)(hv:v.cells.size=size)(hs:size<=16777216)(h:K (a.put o.dst (.slice (some ⟨w.heap.size,0,none⟩) 1 1)) (w.alloc (.cells v.cells e))):o.wp P a w K Q:=by
 have hr:=zcZ (P:=P) (w:=w) T v hv hs;unfold Oper.wp execOp;simp only[ho,List.map_toArray,List.map_cons,List.map_nil,hx,Sem.run_bind,Sem.run_pure,Result.andThen_ok,hr];exact h
end
theorem zpI{α:Type}(l b:List α)(h:b.length=l.length):splice l 0 b=b:=by
 simp[splice,h]
theorem zoW{α:Type}(l b:List α)(i j:Nat)(hi:i<=l.length)(hj:j<b.length):(splice l i b)[i+j]?=b[j]?:=by
 have ht:(l.take i).length=i:=by{rw[List.length_take];omega};unfold splice;rw[List.getElem?_append_right (by omega),List.getElem?_append_left (by omega),ht];congr 1;omega
theorem Row.setOne{w w':World}{e:TypeId}{g n cap:Nat}{xs:List Value}(h:Row w e 1 (.slice (.some ⟨g,0,none⟩) n cap) n xs)(i:Nat)(_hi:i<n)(u:Value)(hw:w'=w.setCell ⟨g,i,none⟩ u):Row w' e 1 (.slice (.some ⟨g,0,none⟩) n cap) n (xs.set i u):=by
 subst hw;obtain⟨h0,h⟩:=h;rcases h with ⟨hv,_⟩ | ⟨g',cap',cur,fz,hv,hg,hf,h1,h2,h3,h4⟩;{cases hv};{cases hv;refine⟨by simpa using h0,.inr ⟨g,cap,cur.setIfInBounds i u,fz,rfl,?_,by simpa using hf,h1,h2,by simpa using h3,?_⟩⟩;{simp[World.setCell];rw[Array.getElem?_modify];simp[hg]};{rw[<-h4];simp only[Array.toList_setIfInBounds];rw[List.take_set]}}
end
section
open Go.RowKit
def z0B(l:List UInt8):List Value:=l.map fun b=>Value.int .u8 (b.toNat:Int)
theorem z0E(l:List UInt8):(z0B l).length=l.length:=by simp[z0B]
theorem z2D(l:List UInt8):∀ u ∈ z0B l,u.oneCell'=true:=by simp[z0B,Value.oneCell']
theorem z1J(l m:List UInt8):z0B (l ++ m)=z0B l ++ z0B m:=by simp[z0B]
theorem z8C(l b:List UInt8)(i:Nat):splice (z0B l) i (z0B b)=z0B (l.take i ++ (b ++ l.drop (i+b.length))):=by
 simp[splice,z0B,List.map_take,List.map_drop]
def str(l:List UInt8):ByteArray:=⟨l.toArray⟩
theorem z5H(l:List UInt8):(str l).size=l.length:=by simp[str,ByteArray.size]
theorem z2Q(l:List UInt8):(str l).toList=l:=ByteArray.toList_mk l
structure FreshU (u:TypeId) (w:World) (v:Value) (l:List UInt8) (w':World):Prop where
 row:Row w' u 1 v l.length (z0B l)
 keep:Keep (fun _=>False) w w'
 own:∀ k,v.ownBlock=some k→w.heap.size≤k
section
variable {P:Program} {w:World}
theorem z3E{src dst e:TypeId}(hs:P.underlying src=some (.slice e))(he:P.underlying e=some (.int .u8))(hd:P.underlying dst=some .string){ao:Option Addr}{n c:Nat}{l:List UInt8}(h:Cells w ao n 1 (z0B l)):(convert src dst (.slice ao n c)).run P w = .ok (.string (str l)) w:=by
 have hl:l.length=n:=by{have:=h.1;rw[z0E] at this;omega};subst hl;cases l with | nil=>{cases ao with | none=>{rw[run_convert_bytes_nil w src e hs he _ _ dst hd];rfl} | some a=>{exact run_convert_bytes_back w src dst e a c [] hs he hd (by simp)}} | cons b l=>{obtain⟨ad,rfl,hc⟩:=h.2 (by simp);exact run_convert_bytes_back w src dst e ad c (b :: l) hs he hd λj hj=>hc j _ (by unfold z0B;rw[List.getElem?_map,List.getElem?_eq_getElem hj];rfl)}
end
end
section
open Go.RowKit
abbrev Thing:=World→(Nat→Prop)→Prop
structure Lives (T:Thing):Prop where
 keep:∀ {w w':World} {F K:Nat→Prop},T w F→Keep K w w'→(∀ i,F i→¬ K i)→T w' F
 lt:∀ {w:World} {F:Nat→Prop},T w F→∀ i,F i→i<w.heap.size
def Turns(T':Thing)(F:Nat→Prop)(w w':World):Prop:=∃ F',T' w' F'∧Keep F w w'∧∀ i,F' i→F i∨w.heap.size≤i
structure Two (w0:World) (T:Thing) (F:Nat→Prop) (U:Thing) (G:Nat→Prop) (w:World):Prop where
 one:T w F
 two:U w G
 apart:∀ i,F i→¬ G i
 new1:∀ i,F i→w0.heap.size≤i
 new2:∀ i,G i→w0.heap.size≤i
 keep:Keep (fun _=>False) w0 w
section
variable {w0 w w':World} {T T' U U' V V':Thing} {F G K:Nat→Prop}
structure Three (w0:World) (T:Thing) (F:Nat→Prop) (U:Thing) (G:Nat→Prop) (V:Thing) (H:Nat→Prop) (w:World):Prop where
 one:T w F
 two:U w G
 three:V w H
 a12:∀ i,F i→¬ G i
 a13:∀ i,F i→¬ H i
 a23:∀ i,G i→¬ H i
 new1:∀ i,F i→w0.heap.size≤i
 new2:∀ i,G i→w0.heap.size≤i
 new3:∀ i,H i→w0.heap.size≤i
 keep:Keep (fun _=>False) w0 w
variable {H:Nat→Prop}
end
def RowT(e:TypeId)(size:Nat)(v:Value)(n:Nat)(xs:List Value):Thing:=fun w F=>Row w e size v n xs∧(∀ i,v.ownBlock=some i→F i)∧∀ i,F i→i<w.heap.size
theorem RowT.lives(e:TypeId)(size:Nat)(v:Value)(n:Nat)(xs:List Value):Lives (RowT e size v n xs):=
 ⟨λh hk hn=>⟨h.1.keep hk (λi e=>hn i (h.2.1 i e)),h.2.1,λi x=>Nat.lt_of_lt_of_le (h.2.2 i x) hk.size⟩,λh=>h.2.2⟩
theorem RowT.of{e:TypeId}{size:Nat}{v:Value}{n:Nat}{xs:List Value}{w:World}(h:Row w e size v n xs):RowT e size v n xs w (λi=>v.ownBlock=some i):=
 ⟨h,λ_ x=>x,λ_ x=>h.lt x⟩
end
section
open Go.RowKit
theorem zbU(w:World):(callFunc 237 #[]).run Tryz.prog w = .ok (.value (.tuple #[])) w:=run_call_mark0 Tryz.func237 (by kernel_rfl) (by kernel_rfl) (by kernel_rfl) .disable (by kernel_rfl) w
theorem zcT(w:World):(callFunc 239 #[]).run Tryz.prog w = .ok (.value (.tuple #[])) w:=run_call_mark0 Tryz.func239 (by kernel_rfl) (by kernel_rfl) (by kernel_rfl) .enable (by kernel_rfl) w
theorem zhU(a:Addr)(w:World):(callFunc 240 #[.pointer (some a)]).run Tryz.prog w = .ok (.value (.tuple #[])) w:=run_call_marked Tryz.func240 (by kernel_rfl) (by kernel_rfl) (by kernel_rfl) .acquire (by kernel_rfl) a w
theorem zhH(a:Addr)(w:World):(callFunc 242 #[.pointer (some a)]).run Tryz.prog w = .ok (.value (.tuple #[])) w:=run_call_marked Tryz.func242 (by kernel_rfl) (by kernel_rfl) (by kernel_rfl) .releaseMerge (by kernel_rfl) a w
theorem zeL(a:Addr)(x:Value)(u:FrameMode)(w:World)(hc:w.cell? a=some x)(hz:w.frozen? a=false):CallsD Tryz.prog 227 #[.pointer (some a),.bool true] u w λe u' w'=>u'=u/\(e = .returned (.tuple #[])/\w'=w.drew.setCell a (.int .u32 1)):=by
 have hc':w.drew.cell? a=some x:=by{go_simp};have hz':w.drew.frozen? a=false:=by{go_simp};have hst:=run_call_store (P:=Tryz.prog) Tryz.func234 (by kernel_rfl) (by kernel_rfl) (by kernel_rfl) (by kernel_rfl) (k:=.u32) (y:=1) hc' hz'
 go_enter_d Tryz.func227,Tryz.ntmps227
 go_wp2
 go_region_calls
 all_goals (go_end0;exact⟨rfl,rfl⟩)
theorem zdR(a:Addr)(u:FrameMode)(w:World)(hc:w.cell? a=some (.int .i32 1))(hz:w.frozen? a=false):CallsD Tryz.prog 226 #[.pointer (some a)] u w λe u' w'=>u'=u/\(e = .returned (.tuple #[])/\w'=w.setCell a (.int .i32 0)):=by
 have hd:=zbU;have he:=zcT;have hr:=zhH;have hadd:=run_call_add (P:=Tryz.prog) Tryz.func243 (by kernel_rfl) (by kernel_rfl) (by kernel_rfl) .i32 (by kernel_rfl) (y:=-1) (s:=0) hc hz (by simp[go_sem];rfl);have hcv:=run_convert_to_unsafe (P:=Tryz.prog) (src:=346) (dst:=350) Tryz.underlying346 Tryz.underlying350 (by kernel_rfl) hc
 go_enter_d Tryz.func226,Tryz.ntmps226
 go_wp2
 go_end0
 go_wp2
 go_end0
 exact⟨rfl,rfl⟩
theorem ztX(a:Addr)(w:World)(hc:w.cell? a=some (.int .i32 0))(hz:w.frozen? a=false):Calls Tryz.prog 225 #[.pointer (some a)] w λe w'=>e = .returned (.tuple #[])/\w'=w.setCell a (.int .i32 1):=by
 have hd:=zbU;have he:=zcT;have ha:=zhU;have hcas:=run_call_cas_hit (P:=Tryz.prog) Tryz.func238 (by kernel_rfl) (by kernel_rfl) (by kernel_rfl) .i32 (by kernel_rfl) (y:=1) hc hz;have hc':(w.setCell a (.int .i32 1)).cell? a=some (.int .i32 1):=World.cell?_setCell_same w a _ hc;have hcv:=run_convert_to_unsafe (P:=Tryz.prog) (src:=346) (dst:=350) Tryz.underlying346 Tryz.underlying350 (by kernel_rfl) hc'
 go_in
 go_wp2
 first | go_end0 | (simp only[Exit.inBlock,Exit.then];refine bodyPost_ret (results_none rfl _ _ _) rfl ?_) | refine bodyPost_ret (results_none rfl _ _ _) rfl ?_
 go_wp2
 go_end0
 exact⟨rfl,rfl⟩
theorem zwT(b:Nat)(pl:Addr)(w:World)(Q:World->Prop)(h0:w.cell? ⟨b,0,none⟩=some (.int .u32 0))(h1:w.cell? ⟨b,1,none⟩=some (.int .i32 0))(f1:w.frozen? ⟨b,1,none⟩=false)(hq:Calls Tryz.prog 200 #[.pointer (some pl)] (w.setCell ⟨b,1,none⟩ (.int .i32 1)) λe w'=>e = .returned (.tuple #[])/\Q w'/\w'.cell? ⟨b,0,none⟩=some (.int .u32 0)/\w'.cell? ⟨b,1,none⟩=some (.int .i32 1)/\w'.frozen? ⟨b,0,none⟩=false/\w'.frozen? ⟨b,1,none⟩=false):Calls Tryz.prog 212 #[.pointer (some ⟨b,0,none⟩),.func (.func 200) #[] #[.pointer (some pl)]] w λe w'=>e = .returned (.tuple #[])/\
   ∃ w1,Q w1/\w'=(w1.drew.setCell ⟨b,0,none⟩ (.int .u32 1)).setCell ⟨b,1,none⟩ (.int .i32 0):=by
 have hl:=run_call_load (P:=Tryz.prog) Tryz.func224 (by kernel_rfl) (by kernel_rfl) (by kernel_rfl) .u32 (by kernel_rfl) (w:=w.setCell ⟨b,1,none⟩ (.int .i32 1)) (a:=⟨b,0,none⟩) (x:=0) ((World.cell?_setCell_other _ ⟨b,1,none⟩ ⟨b,0,none⟩ _ (by simp)).trans h0);have hnot:∀ (x:Bool) (w:World),(Op.unary .not (.bool x)).run Tryz.prog w = .ok (.bool (!x)) w:=λ_ _=>rfl
 go_enter_defers Tryz.func212,Tryz.ntmps212
 go_wp2_with (go_at_call 225;refine(ztX ⟨b,1,none⟩ _ (by go_simp) (by go_simp)).mono ?_;rintro e w' ⟨rfl,rfl⟩);go_wp2_with (first | (go_at_call 200;refine hq.mono ?_;rintro e w2 ⟨rfl,hQ,k0,k1,z0,z1⟩) | (go_at_call 211;go_in));refine leaves_cons (f:=227) (args:=#[.pointer (some ⟨b,0,none⟩),.bool true]) (by simp) (by simp[go_sem]) ?_;refine(zeL ⟨b,0,none⟩ (.int .u32 0) .returning _ k0 z0).mono ?_;rintro e u' w'' ⟨rfl,rfl,rfl⟩;refine leaves_cons (f:=226) (args:=#[.pointer (some ⟨b,1,none⟩)]) (by simp[settle]) (by simp[go_sem]) ?_;refine(zdR ⟨b,1,none⟩ _ _ ?_ (by simp[z1])).mono ?_;{refine(World.cell?_setCell_other _ ⟨b,0,none⟩ ⟨b,1,none⟩ _ (by simp)).trans ?_;rw[World.cell?_drew];exact k1};rintro e u' w'' ⟨rfl,rfl,rfl⟩;simp[Leaves,settle,results,Tryz.results212];exact⟨w2,hQ,rfl⟩
theorem zwH(b:Nat)(pl:Addr)(w:World)(Q:World->Prop)(h0:w.cell? ⟨b,0,none⟩=some (.int .u32 0))(h1:w.cell? ⟨b,1,none⟩=some (.int .i32 0))(f1:w.frozen? ⟨b,1,none⟩=false)(hq:Calls Tryz.prog 200 #[.pointer (some pl)] (w.setCell ⟨b,1,none⟩ (.int .i32 1)) λe w'=>e = .returned (.tuple #[])/\Q w'/\w'.cell? ⟨b,0,none⟩=some (.int .u32 0)/\w'.cell? ⟨b,1,none⟩=some (.int .i32 1)/\w'.frozen? ⟨b,0,none⟩=false/\w'.frozen? ⟨b,1,none⟩=false):Calls Tryz.prog 199 #[.pointer (some ⟨b,0,none⟩),.func (.func 200) #[] #[.pointer (some pl)]] w λe w'=>e = .returned (.tuple #[])/\
   ∃ w1,Q w1/\w'=(w1.drew.setCell ⟨b,0,none⟩ (.int .u32 1)).setCell ⟨b,1,none⟩ (.int .i32 0):=by
 have hl:=run_call_load (P:=Tryz.prog) Tryz.func224 (by kernel_rfl) (by kernel_rfl) (by kernel_rfl) .u32 (by kernel_rfl) h0;have hnot:∀ (x:Bool) (w:World),(Op.unary .not (.bool x)).run Tryz.prog w = .ok (.bool (!x)) w:=λ_ _=>rfl;have hs:=zwT b pl w Q h0 h1 f1 hq;clear hq
 go_in
 go_wp2_with (first | (go_at_call 212;refine hs.mono ?_;rintro e w' ⟨rfl,w1,hQ,rfl⟩) | (go_at_call 211;go_in))
 go_end0
 exact⟨rfl,w1,hQ,rfl⟩
theorem zzX(a:Addr)(d:Int)(hd:¬ d=0)(fv:Value)(w:World)(h0:w.cell? a=some (.int .u32 d)):Calls Tryz.prog 199 #[.pointer (some a),fv] w λe w'=>e = .returned (.tuple #[])/\w'=w:=by
 have hl:=run_call_load (P:=Tryz.prog) Tryz.func224 (by kernel_rfl) (by kernel_rfl) (by kernel_rfl) .u32 (by kernel_rfl) h0;have hnot:∀ (x:Bool) (w:World),(Op.unary .not (.bool x)).run Tryz.prog w = .ok (.bool (!x)) w:=λ_ _=>rfl;have hd':(d != 0)=true:=by simp[hd]
 go_in
 go_wp2
 go_end0
 exact⟨rfl,rfl⟩
end
end Go.Proofs.YtkhddpiopbmhjaaGreat
