/- Texts MirA in one. Conditions: as each law names them. -/
import Derived.WalkKit
import Derived.WalkLawsBesides
import Derived.WalkSpells
import Derived.BigQuiet
import Derived.Test.YtkjofdocgaiedaaPac
import Derived.Test.YtkjofdocgaiedaaPad
import Derived.Test.YtkjofdocgaiedaaPaf
import Derived.Test.YtkjofdocgaiedaaPag
namespace Go.Proofs.Ytkjofdocgaiedaa
open Go.RowKit
open Go.Maps
open MI
theorem key_str:KeyK 9 (fun s:Str=>Lit.string s) (fun s=>Value.string (str s)) (fun s=>s.length≤maxLen) where
 keyed:=string_keyed Try.underlying9
 inj:=fun x y h=>by cases h;rfl
 lit:=fun _=>trivial
 key:=fun x h=>by
  have:=WideMaps.keyOf_string_mk (P:=Try.prog) Try.underlying9 (s:=str x) (by rw[str_size];exact h)
  simpa [str] using this
def textV (s:Str):Value:=.agg #[.string (str s)]
def PairsAt (w:World) (b:Nat) (m:List (Str×Str)):Prop:=MapAt w b 9 (fun s:Str=>Lit.string s) textV m
structure SortedRel (w1:World) (b r:Nat) (m:List (Str×Str)) (done:List Str) (v:Value) (wr:World):Prop where
 rg:RangeAt wr b r 9 (fun s:Str=>Lit.string s) textV m done
 keep:Keep (fun i=>i=r) w1 wr
 row:Row wr 9 1 v done.length (strsV done)
 own:∀ i,v.ownBlock=some i→w1.heap.size≤i
end Go.Proofs.Ytkjofdocgaiedaa
