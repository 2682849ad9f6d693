/- Texts ArgG in one. Conditions: as each law names them. -/
import Derived.Test.YtkhddpiopbmhjaaGreatChecked
import Derived.Deep.Slices
import Derived.ChangeShapes
import Derived.Test.YtkhddpiopbmhjaaGreatUac
set_option maxRecDepth 20000
set_option maxHeartbeats 8000000
namespace Go.Proofs.YtkhddpiopbmhjaaGreat
section
open Go.ChangeShapes Go.WideShapes Go.RowKit Go.Deep
def SliceOf{α:Type}(w:World)(size:Nat)(R:List Value→α→Prop)(v:Value)(l:List α):Prop:=
 ∃ ao c,v = .slice ao l.length c∧l.length≤c∧c≤maxLen∧(0<l.length→∃ ad,ao=some ad∧∀ i (hi:i<l.length),∃ cs,cs.length=size∧R cs l[i]∧∀ j u,cs[j]?=some u→w.cell? (ad.add (i * size+j))=some u)
section
variable {H:Type} {enc:TypeId×Value→H} {P:Program} {w:World} {base:Nat} {held:Bool}
theorem zpZ{α:Type}[Inhabited α]{t e:TypeId}{fuel size:Nat}{v:Value}{x:DataW H×List MemPlace}(ht:P.underlying t=some (.slice e))(hs:P.cellsOf e=size){R:List Value->α->Prop}(hR:∀ n cs y,cs.length=size->DataW.trod enc P w base (λ_=>true) held n e cs=some y->∃ a,R cs a)(h:DataW.trod enc P w base (λ_=>true) held fuel t [v]=some x):∃ l:List α,SliceOf w size R v l:=by
 subst hs;rcases open_slice ht h with ⟨h0,-⟩ | ⟨a,len,cap,m,n,D,Pl,h0,hb,hl,hm,hmm,-,hx⟩;{simp at h0;exact⟨[],none,0,h0,Nat.le_refl _,Nat.zero_le _,λh=>by simp at h⟩};{simp at h0 hmm;obtain⟨f,hf⟩:=choose_lt (α:=α) (n:=len) (p:=λi y=>∃ cs,cs.length=P.cellsOf e/\R cs y/\∀ j u,cs[j]?=some u->w.cell? (a.add (i * P.cellsOf e+j))=some u) (λi hi=>by{obtain⟨cs,h1,h2⟩:=hx i (by omega);obtain⟨_,hlen,hc⟩:=World.cells?_some h1;obtain⟨y,hy⟩:=hR _ _ _ hlen h2;refine⟨y,cs,hlen,hy,λj u hu=>?_⟩;have hj:j<P.cellsOf e:=by{rw[<-hlen];exact(List.getElem?_eq_some_iff.1 hu).1};rw[<-add_add,hc j hj];exact hu});refine⟨(List.range len).map f,some a,cap,by simpa using h0,by simpa using hl,hm,λ_=>⟨a,rfl,λi hi=>?_⟩⟩;simp at hi;simpa using hf i hi}
theorem zmT{t:TypeId}{k:IntKind}{fuel:Nat}{cs:List Value}{x:DataW H×List MemPlace}(ht:P.underlying t=some (.int k))(h:DataW.trod enc P w base (λ_=>true) held fuel t cs=some x):∃ n,cs = [.int k n]/\(Lit.int k n).wf=true:=
 let ⟨n,h1,_,h3⟩:=DataW.trod_int ht h
 ⟨n,h1,h3⟩
theorem zzZ{t:TypeId}{fuel:Nat}{cs:List Value}{x:DataW H×List MemPlace}(ht:P.underlying t=some .bool)(h:DataW.trod enc P w base (λ_=>true) held fuel t cs=some x):∃ b,cs = [.bool b]:=
 let ⟨b,h1,_⟩:=DataW.trod_bool ht h
 ⟨b,h1⟩
theorem z9W{t:TypeId}{fs:Array Field}{fuel:Nat}{cs:List Value}{x:DataW H×List MemPlace}(ht:P.underlying t=some (.struct fs))(h:DataW.trod enc P w base (λ_=>true) held fuel t cs=some x)(i:Nat)(f:Field)(hi:fs[i]?=some f):∃ n y,DataW.trod enc P w base (λ_=>true) held n f.type ((cs.drop f.offset).take (P.cellsOf f.type))=some y:=by
 obtain⟨xs,n,_,_,_,hlen,hf⟩:=DataW.trod_struct ht h;have:=hf i f hi;have hl:i<xs.length:=by{rw[hlen];exact(Array.getElem?_eq_some_iff.1 hi).1};rw[List.getElem?_eq_getElem hl] at this;exact⟨n,_,this⟩
theorem y1N{t:TypeId}{fs:Array Field}{fuel:Nat}{cs:List Value}{x:DataW H×List MemPlace}(ht:P.underlying t=some (.struct fs))(h:DataW.trod enc P w base (λ_=>true) held fuel t cs=some x):cs.length=P.cellsOf t:=by
 obtain⟨xs,n,_,_,hl,_,_⟩:=DataW.trod_struct ht h;exact hl
end
def IntR(cs:List Value)(z:Int):Prop:=cs = [.int .i64 z]∧-9223372036854775808≤z∧z≤9223372036854775807
def BoolR(cs:List Value)(z:Bool):Prop:=cs = [.bool z]
theorem y1Q{a:Int}(h:(Lit.int .i64 a).wf=true):-9223372036854775808<=a/\a<=9223372036854775807:=by
 simpa [Lit.wf,IntKind.min,IntKind.max,IntKind.signed,IntKind.bits] using h
theorem zyP{a:Int}(h:(Lit.int .u64 a).wf=true):0<=a/\a<=18446744073709551615:=by
 simpa [Lit.wf,IntKind.min,IntKind.max,IntKind.signed,IntKind.bits] using h
abbrev Ints(w:World)(v:Value)(l:List Int):Prop:=SliceOf w 1 IntR v l
abbrev Bools(w:World)(v:Value)(l:List Bool):Prop:=SliceOf w 1 BoolR v l
theorem zqF(a:Addr)(n:Nat)(h:0<n):a.add n = { block:=a.block,off:=a.off+n }:=by
 unfold Addr.add;rw[if_neg (by omega)]
theorem z0D{w w':World}(hk:Keep zF w w')(a:Addr)(u:Value)(hu:w.cell? a=some u):w'.cell? a=some u:=by
 rw[World.cell?_of_block (hk.block _ (World.block_lt_of_cell? w _ hu) id)];exact hu
theorem SliceOf.at{α:Type}{w w':World}{size:Nat}{R:List Value->α->Prop}{ao:Option Addr}{m c:Nat}{l:List α}(h:SliceOf w size R (.slice ao m c) l)(hk:Keep zF w w')(i:Nat)(hi:i<l.length):∃ ad cs,ao=some ad/\cs.length=size/\R cs l[i]/\(∀ u,cs[0]?=some u->w'.cell? (ad.add (i * size))=some u)/\
   ∀ j u,0<j->cs[j]?=some u->w'.cell? { block:=(ad.add (i * size)).block,off:=(ad.add (i * size)).off+j }=some u:=by
 obtain⟨ao',c',hv,_,_,h3⟩:=h;cases hv;obtain⟨ad,rfl,h4⟩:=h3 (by omega);obtain⟨cs,hl,hR,hc⟩:=h4 i hi;refine⟨ad,cs,rfl,hl,hR,λu hu=>z0D hk _ _ (by have:=hc 0 u hu;rwa [Nat.add_zero] at this),λj u hj hu=>z0D hk _ _ ?_⟩;rw[<-zqF _ _ hj,add_add];exact hc j u hu
theorem SliceOf.form{α:Type}{w:World}{size:Nat}{R:List Value->α->Prop}{v:Value}{l:List α}(h:SliceOf w size R v l):∃ ao c,v = .slice ao l.length c/\l.length<=c/\c<=maxLen:=by
 obtain⟨ao,c,h1,h2,h3,_⟩:=h;exact⟨ao,c,h1,h2,h3⟩
end
end Go.Proofs.YtkhddpiopbmhjaaGreat
