/- Texts Later, Pool in one. Conditions: as each law names them. -/
import Derived.BigQuiet
import Derived.Test.YtkhddpiopbmhjaaGreatUac
set_option maxRecDepth 20000
set_option maxHeartbeats 8000000
namespace Go.Proofs.YtkhddpiopbmhjaaGreat
section
open Go.RowKit
structure Later (w:World) where
 val:World
 keep:Keep (fun _=>False) w val
instance (w:World):Nonempty (Later w):=⟨⟨w,Keep.refl _ _⟩⟩
theorem z0V{P:Program}{id:Nat}{Q:Exit->Act->World->Prop}{a:Act}{w:World}{l:List Oper}(hm:P.follows .mixedOrders=true)(hB:Region.lexB .any l.toArray=true)(h:wpQuiet P l.toArray (λw'=>∃ s:Later w,w'=s.val) (λa'=>∀ w',(∃ s:Later w,w'=s.val)->Q .normal a' w') l a):(Code.region id l.toArray true).wp P Q a w:=
 wp_region_quiet (C:=λw'=>∃ s:Later w,w'=s.val) hm hB ⟨⟨_,(Keep.refl _ w).drew⟩,rfl⟩ (by simpa using h)
theorem Later.call{P:Program}{f:FuncId}{args:Array Value}{w:World}{s:Later w}{v:Value}(h:Calls P f args s.val λe w'=>e = .returned v/\Keep zF s.val w'):Calls P f args s.val λe w''=>e = .returned v/\∃ t:Later w,w''=t.val:=
 h.mono λ_ w'' ⟨he,hk⟩=>⟨he,⟨w'',s.keep.next hk zI zI⟩,rfl⟩
theorem Later.cell{w:World}(s:Later w){a:Addr}{v:Value}(h:w.cell? a=some v):s.val.cell? a=some v:=by
 rw[World.cell?_of_block (s.keep.block _ (World.block_lt_of_cell? w _ h) id)];exact h
end
section
open Go.RowKit
abbrev VRel:=Value→World→Prop
abbrev Facts:=List (Nat×(World→Prop))
abbrev Same(w w':World):Prop:=Keep (fun _=>False) w w'
def zmD(P:Program)(w:World)(R:VRel):Result Next→Prop
 | .ok (.value v) w'=>Same w w'∧R v w'
 | .ok .skip w'=>Same w w'∧R undef w'
 | .ok (.enter f args) w'=>Calls P f args w' fun e w''=>∃ v,e = .returned v∧Same w w''∧R v w''
 | _=>False
attribute [go_sem] zmD
def goes(P:Program)(B:List (Nat×VRel))(i:Nat)(o:Oper)(a:Act)(R:VRel)(w:World):Prop:=
 match B.lookup i with
 | some R'=>R=R'∧zmD P w R ((execOp a.eval o).run P w)
 | none=>∃ y,R=(fun v _=>v=y)∧(execOp a.eval o).run P w = .ok (.value y) w
def hold(E:Facts)(w:World):Prop:=∀ p ∈ E,p.2 w
def y1A(tbl:List Nat)(E:Facts)(i:Nat)(w:World):Prop:=∀ p ∈ E,ahead tbl p.1 i=true→p.2 w
def Stab(E:Facts):Prop:=∀ p ∈ E,∀ w w',Same w w'→p.2 w→p.2 w'
def StabB(B:List (Nat×VRel)):Prop:=∀ p ∈ B,∀ v w w',Same w w'→p.2 v w→p.2 v w'
def grow(B:List (Nat×VRel))(i:Nat)(R:VRel)(v:Value)(E:Facts):Facts:=
 match B.lookup i with
 | some _=>E ++ [(i,R v)]
 | none=>E
section
variable {P:Program} {ops:Array Oper} {tbl:List Nat} {w0:World} {B:List (Nat×VRel)} {Q:Exit→Act→World→Prop}
def y1T(P:Program)(ops:Array Oper)(tbl:List Nat)(w0:World)(B:List (Nat×VRel))(i:Nat)(o:Oper)(K:Act→Facts→Prop)(a:Act)(E:Facts):Prop:=
 if Region.wanted o (yielded ops a.tmps)=true then
  ∃ R:VRel,(∀ s:Later w0,y1A tbl E i s.val→goes P B i o a R s.val)∧∀ v,(∃ s:Later w0,hold E s.val∧R v s.val)→K (a.put o.dst v) (grow B i R v E)
 else K (a.put o.dst undef) E
def wpP(P:Program)(ops:Array Oper)(tbl:List Nat)(w0:World)(B:List (Nat×VRel))(Q:Exit→Act→World→Prop):List (Nat×Oper)→Act→Facts→Prop
 | [],a,E=>∀ s:Later w0,hold E s.val→Q .normal a s.val
 | p :: r,a,E=>y1T P ops tbl w0 B p.1 p.2 (wpP P ops tbl w0 B Q r) a E
def frontP(P:Program)(ops:Array Oper)(w0:World)(B:List (Nat×VRel))(i:Nat)(o:Oper)(K:Act→Facts→Prop)(a:Act)(E:Facts)(w:World):Prop:=
 if Region.wanted o (yielded ops a.tmps)=true then
  ∃ R:VRel,goes P B i o a R w∧∀ v,(∃ s:Later w0,hold E s.val∧R v s.val)→K (a.put o.dst v) (grow B i R v E)
 else K (a.put o.dst undef) E
end
def y2F(l:List Oper)(tbl:List Nat):Bool:=
 (List.range l.length).all fun i=>match l[i]? with
  | none=>true
  | some oi=>(oi.after.all fun e=>!Region.binds .any e || decide (e.on<i)) && (List.range i).all fun j=>match l[j]? with
    | none=>true
    | some oj=>ahead tbl j i || oj.apart l.toArray oi
def poolB(l:List Oper):Bool:=Region.noSelect l.toArray && zoI l (z2O l []) && y2F l (z2O l [])
section
variable {P:Program} {w0:World} {B:List (Nat×VRel)} {Q:Exit→Act→World→Prop}
def wpT(P:Program)(ops:Array Oper)(tbl:List Nat)(w0:World)(B:List (Nat×VRel))(Q:Exit→Act→World→Prop):Nat→List Oper→Act→Facts→Prop
 | _,[],a,E=>∀ s:Later w0,hold E s.val→Q .normal a s.val
 | k,o :: r,a,E=>y1T P ops tbl w0 B k o (wpT P ops tbl w0 B Q (k+1) r) a E
end
end
end Go.Proofs.YtkhddpiopbmhjaaGreat
