/- Texts MirA in one. Conditions: as each law names them. -/
import Derived.WalkKit
import Derived.WalkLawsBesides
import Derived.WalkSpells
import Derived.BigQuiet
import Derived.Test.YtkhddpiopbmhjaaGreatUac
import Derived.Test.YtkhddpiopbmhjaaGreatUad
import Derived.Test.YtkhddpiopbmhjaaGreatUaf
import Derived.Test.YtkhddpiopbmhjaaGreatUag
set_option maxRecDepth 20000
set_option maxHeartbeats 8000000
namespace Go.Proofs.YtkhddpiopbmhjaaGreat
section
open Go.RowKit
open Go.Maps
open MI
theorem zhC:KeyK 9 (λs:Str=>Lit.string s) (λs=>Value.string (str s)) (λs=>s.length<=maxLen) where
 keyed:=string_keyed Tryz.underlying9
 inj:=λx y h=>by cases h;rfl
 lit:=λ_=>trivial
 key:=λx h=>by{have:=WideMaps.keyOf_string_mk (P:=Tryz.prog) Tryz.underlying9 (s:=str x) (by rw[z5H];exact h);simpa [str] using this}
theorem z5R:KeyK 30 (λn:Nat=>Lit.int .u64 n) (λn=>Value.int .u64 (n:Int)) (λn=>n<18446744073709551616) where
 keyed:=int_keyed Tryz.underlying30
 inj:=λx y h=>by simp at h;omega
 lit:=λ_=>trivial
 key:=λx h=>keyOf_int_mk Tryz.underlying30 (by simp[Lit.wf,IntKind.min,IntKind.max,IntKind.signed,IntKind.bits];omega)
def zwE(s:Str):Value:=.agg #[.string (str s)]
def PairsAt(w:World)(b:Nat)(m:List (Str×Str)):Prop:=MapAt w b 9 (fun s:Str=>Lit.string s) zwE m
structure SortedRel (w1:World) (b r:Nat) (m:List (Str×Str)) (done:List Str) (v:Value) (wr:World):Prop where
 rg:RangeAt wr b r 9 (fun s:Str=>Lit.string s) zwE m done
 keep:Keep (fun i=>i=r) w1 wr
 row:Row wr 9 1 v done.length (zvW done)
 own:∀ i,v.ownBlock=some i→w1.heap.size≤i
end
end Go.Proofs.YtkhddpiopbmhjaaGreat
