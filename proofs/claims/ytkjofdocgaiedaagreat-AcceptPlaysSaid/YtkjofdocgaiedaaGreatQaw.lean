/- Texts MirA in one. Conditions: as each law names them. -/
import Derived.WalkKit
import Derived.WalkLawsBesides
import Derived.WalkSpells
import Derived.BigQuiet
import Derived.Test.YtkjofdocgaiedaaGreatQac
import Derived.Test.YtkjofdocgaiedaaGreatQad
import Derived.Test.YtkjofdocgaiedaaGreatQaf
import Derived.Test.YtkjofdocgaiedaaGreatQag
set_option maxRecDepth 20000
set_option maxHeartbeats 8000000
namespace Go.Proofs.YtkjofdocgaiedaaGreat
section
open Go.RowKit Go.Maps MI
theorem zeW:KeyK 9 (λs:Str=>Lit.string s) (λs=>Value.string (str s)) (λs=>s.length<=maxLen) where
 keyed:=string_keyed Tryz.underlying9
 inj:=λx y h=>by cases h;rfl
 lit:=λ_=>trivial
 key:=λx h=>by{have:=WideMaps.keyOf_string_mk (P:=Tryz.prog) Tryz.underlying9 (s:=str x) (by rw[z1Z];exact h);simpa [str] using this}
def zsW (s:Str):Value:=.agg #[.string (str s)]
def PairsAt (w:World) (b:Nat) (m:List (Str×Str)):Prop:=MapAt w b 9 (fun s:Str=>Lit.string s) zsW m
structure SortedRel (w1:World) (b r:Nat) (m:List (Str×Str)) (done:List Str) (v:Value) (wr:World):Prop where
 rg:RangeAt wr b r 9 (fun s:Str=>Lit.string s) zsW m done
 keep:Keep (fun i=>i=r) w1 wr
 row:Row wr 9 1 v done.length (ztH done)
 own:∀ i,v.ownBlock=some i→w1.heap.size≤i
end
end Go.Proofs.YtkjofdocgaiedaaGreat
