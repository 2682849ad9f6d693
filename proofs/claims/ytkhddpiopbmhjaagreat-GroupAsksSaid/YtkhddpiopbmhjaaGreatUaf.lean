/- Texts MapB in one. Conditions: as each law names them. -/
import Derived.Maps.RangeWalk
import Derived.Test.YtkhddpiopbmhjaaGreatUad
set_option maxRecDepth 20000
set_option maxHeartbeats 8000000
namespace Go.Proofs.YtkhddpiopbmhjaaGreat
section
open Go.RowKit
open Go.Maps
def RangeAt{κ α:Type}[DecidableEq κ](w:World)(b r:Nat)(k:TypeId)(ke:κ→Lit)(ve:α→Value)(l:List (κ×α))(done:List κ):Prop:=
 AL.Ok l∧done.Nodup∧(∀ x ∈ done,(AL.get l x).isSome=true)∧∃ D left cnt,w.ranges Tryz.prog k anyE b r l.length D left cnt∧Maps.size D=l.length∧
  (∀ x,Maps.has D (ke x)=(AL.get l x).isSome∧∀ v,AL.get l x=some v→∀ z,D.atKey (ke x) z = .held (ve v))∧
  (∀ kl,Maps.has D kl=true→∃ x,kl=ke x∧(AL.get l x).isSome=true)∧
  (∀ x,left (ke x)=((AL.get l x).isSome && !decide (x ∈ done)))∧∀ kl,left kl=true→∃ x,kl=ke x
section
variable {κ α:Type} [DecidableEq κ] {w w':World} {b r:Nat} {k t e:TypeId} {ke:κ→Lit} {kv:κ→Value} {ok:κ→Prop} {ve:α→Value} {l:List (κ×α)} {done:List κ}
theorem MapAt.range(h:MapAt w b k ke ve l)(K:Keyed Tryz.prog k)(ht:Tryz.prog.underlying t=some (.map k e)):∃ w',(Instr.range t (.map (some b))).run Tryz.prog w = .ok (.pointer (some ⟨w.heap.size,0,none⟩)) w'/\RangeAt w' b w.heap.size k ke ve l []/\Keep zF w w':=by
 obtain⟨h0,D,hD,h1,h2,h3⟩:=h;obtain⟨w',hrun,hr,hg,_⟩:=hD.range K ht;refine⟨w',hrun,⟨h0,List.nodup_nil,λx hx=>(by cases hx),D,_,_,hr,h1,h2,h3,λx=>by rw[(h2 x).1];simp,λkl hk=>?_⟩,(Keep.refl _ _).grown hg (λj hj=>by cases hj)⟩;obtain⟨x,hx,_⟩:=h3 kl hk;exact⟨x,hx⟩
theorem RangeAt.next(h:RangeAt w b r k ke ve l done)(K:KeyK k ke kv ok)(hinv:∀ v x,keyOf Tryz.prog k v=some (ke x)->v=kv x)(ty:TypeId):((∀ x,x ∈ done↔(AL.get l x).isSome=true)/\(Instr.next (.pointer (some ⟨r,0,none⟩)) false ty).run Tryz.prog w = .ok (.tuple #[.bool false]) w)∨
  ∃ x v w',x ∉ done/\AL.get l x=some v/\(Instr.next (.pointer (some ⟨r,0,none⟩)) false ty).run Tryz.prog w = .ok (.tuple #[.bool true,kv x,ve v]) w'/\RangeAt w' b r k ke ve l (done ++ [x])/\ Keep (λi=>i=r) w w'/\w'.rangeLeft b r<w.rangeLeft b r/\(Instr.entry (.pointer (some ⟨r,0,none⟩))).run Tryz.prog w' = .ok (.tuple #[kv x,ve v]) w':=by
 obtain⟨h0,h1,hd,D,left,cnt,hr,h2,h3,h4,h5,h6⟩:=h;rcases hr.next K.keyed ty with ⟨_,hl,hrun⟩ | ⟨key,v,kl,y,w',cnt',hkey,hlk,hv,hat,hrun,hr',hlt,hg,hsz,hen⟩;{refine .inl ⟨λx=>⟨λhx=>hd x hx,λhx=>?_⟩,hrun⟩;have:=h5 x;rw[hl,hx] at this;simpa using this};{obtain⟨x,rfl⟩:=h6 kl hlk;obtain rfl:=hinv key x hkey;have h7:=h5 x;rw[hlk] at h7;have h8:(AL.get l x).isSome=true/\x ∉ done:=by{simpa using h7.symm};obtain⟨u,hu⟩:=Option.isSome_iff_exists.1 h8.1;have h9:=hat .nil;rw[(h3 x).2 u hu] at h9;simp only[anyE,Option.some.injEq] at hv;subst hv;cases h9;refine .inr ⟨x,u,w',h8.2,hu,hrun,⟨h0,?_,?_,D,_,cnt',hr',h2,h3,h4,λz=>?_,λkl hk=>?_⟩,(Keep.refl _ _).grown hg (λj hj=>by cases hj;exact .inl rfl),?_,hen⟩;{exact List.nodup_append.2 ⟨h1,by simp,λa ha c hc=>by simp at hc;subst hc;exact λe=>h8.2 (e ▸ ha)⟩};{intro z hz;rcases List.mem_append.1 hz with hz | hz;{exact hd z hz};{simp at hz;subst hz;exact h8.1}};{rw[h5 z];by_cases hz:z=x;{subst hz;rw[WideAt.sameKey_self (K.lit z)];simp};{have:(ke z).sameKey (ke x)=false:=sameKey_ne λe=>hz (K.inj _ _ e);rw[this];simp[hz]}};{simp at hk;exact h6 kl hk.1};{rw[hr'.left_eq,hr.left_eq];exact hlt}}
end
end
end Go.Proofs.YtkhddpiopbmhjaaGreat
