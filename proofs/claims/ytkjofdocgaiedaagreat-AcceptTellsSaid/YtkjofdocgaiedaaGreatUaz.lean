/- Texts Own, Lent in one. Conditions: as each law names them. -/
import Derived.Test.YtkjofdocgaiedaaGreatUaa
import Derived.Test.YtkjofdocgaiedaaGreatUaj
set_option maxRecDepth 20000
set_option maxHeartbeats 8000000
namespace Go.Proofs.YtkjofdocgaiedaaGreat
section
open Go.RowKit
structure Lot (c:Nat→Nat) (w:World) (v:Value) (vs:List Value) (n:Nat) (ns:Nat→Nat) (C:Nat→List Value→Prop):Prop where
 row:Row w 29 1 v n vs
 each:∀ j,j<n→∃ u xs,vs[j]?=some u∧Row w 5 1 u (ns j) xs∧C j xs
 cv:∀ k,v.ownBlock=some k→c k=0
 ce:∀ (j:Nat) u k,vs[j]?=some u→u.ownBlock=some k→c k=j+2
def patV (j t:Nat):Value:=.int .u8 (((j:Int) * 31+(t:Int) % 7) % 256)
def markV (j t:Nat):Value:=.int .u8 ((200+(j:Int) * 5+(t:Int)) % 256)
def Filled (j m:Nat) (xs:List Value):Prop:=∀ t,t<m→xs[t]?=some (patV j t)
structure Own1 (c:Nat→Nat) (w0:World) (v:Value) (vs:List Value) (n:Nat) (ns:Nat→Nat) (i k:Nat) (wr:World):Prop where
 lot:Lot c wr v vs n ns (fun j xs=>(j<i→Filled j (ns j) xs)∧(j=i→Filled j k xs))
 keep:Keep (fun b=>∃ u ∈ vs,u.ownBlock=some b) w0 wr
def Marked (j m k:Nat) (xs:List Value):Prop:=∀ t,t<k→xs[m+t]?=some (markV j t)
structure Own2 (c:Nat→Nat) (w0:World) (v:Value) (vs:List Value) (n:Nat) (ns:Nat→Nat) (i:Nat) (lv:Value) (ls:List Value) (wr:World):Prop where
 lot:Lot c wr v vs n ns (fun j xs=>Filled j (ns j) xs)
 lrow:Row wr 29 1 lv i ls
 lone:∀ j,j<i→∃ u xs,ls[j]?=some u∧Row wr 5 1 u (ns j+4) xs∧Filled j (ns j) xs∧Marked j (ns j) 4 xs
 cl:∀ b,lv.ownBlock=some b→c b=1
 cu:∀ (j:Nat) u b,ls[j]?=some u→u.ownBlock=some b→c b=j+2
 keep:Keep (fun b=>∃ u ∈ vs,u.ownBlock=some b) w0 wr
 fresh:∀ b,lv.ownBlock=some b→w0.heap.size≤b
structure Own3 (c:Nat→Nat) (w0:World) (v:Value) (vs:List Value) (n:Nat) (ns:Nat→Nat) (i:Nat) (lv:Value) (ls:List Value) (k:Nat) (x:Value) (wr:World):Prop where
 two:Own2 c w0 v vs n ns i lv ls wr
 row:∃ xs,Row wr 5 1 x (ns i+k) xs∧Filled i (ns i) xs∧Marked i (ns i) k xs
 cx:∀ b,x.ownBlock=some b→c b=i+2
 fx:∀ b,x.ownBlock=some b→(∃ u ∈ vs,u.ownBlock=some b)∨w0.heap.size≤b
end
section
open Go.RowKit
open BM
structure LentIs (w w':World) (g n cap:Nat) (l:List UInt8):Prop where
 row:Row w' 5 1 (.slice (some ⟨g,0,none⟩) (n+2) cap) (n+2) (z0B (l ++ [91,92]))
 new:w.heap.size≤g
 keep:Keep (fun _=>False) w w'
end
end Go.Proofs.YtkjofdocgaiedaaGreat
