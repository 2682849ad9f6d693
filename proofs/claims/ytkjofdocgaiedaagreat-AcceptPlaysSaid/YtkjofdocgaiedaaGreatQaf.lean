/- Texts MapB in one. Conditions: as each law names them. -/
import Derived.Maps.RangeWalk
import Derived.Test.YtkjofdocgaiedaaGreatQad
set_option maxRecDepth 20000
set_option maxHeartbeats 8000000
namespace Go.Proofs.YtkjofdocgaiedaaGreat
section
open Go.RowKit Go.Maps
def RangeAt {κ α:Type} [DecidableEq κ] (w:World) (b r:Nat) (k:TypeId) (ke:κ→Lit) (ve:α→Value) (l:List (κ×α)) (done:List κ):Prop:=
 AL.Ok l∧done.Nodup∧(∀ x ∈ done,(AL.get l x).isSome=true)∧∃ D left cnt,w.ranges Tryz.prog k anyE b r l.length D left cnt∧Maps.size D=l.length∧
  (∀ x,Maps.has D (ke x)=(AL.get l x).isSome∧∀ v,AL.get l x=some v→∀ z,D.atKey (ke x) z = .held (ve v))∧
  (∀ kl,Maps.has D kl=true→∃ x,kl=ke x∧(AL.get l x).isSome=true)∧
  (∀ x,left (ke x)=((AL.get l x).isSome && !decide (x ∈ done)))∧∀ kl,left kl=true→∃ x,kl=ke x
section
variable {κ α:Type} [DecidableEq κ] {w w':World} {b r:Nat} {k t e:TypeId} {ke:κ→Lit} {kv:κ→Value} {ok:κ→Prop} {ve:α→Value} {l:List (κ×α)} {done:List κ}
end
end
end Go.Proofs.YtkjofdocgaiedaaGreat
