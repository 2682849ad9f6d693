/- Texts StoL, StoN in one. Conditions: as each law names them. -/
import Derived.Shelf.SlIter.Nil
import Derived.Shelf.SlMaps.Clone
import Derived.Sort.KeysCollected
import Derived.Test.YtkhddpiopbmhjaaGreatUag
import Derived.Test.YtkhddpiopbmhjaaGreatUaz
set_option maxRecDepth 20000
set_option maxHeartbeats 8000000
namespace Go.Proofs.YtkhddpiopbmhjaaGreat
section
open Go.RowKit Go.Maps Go.Shelf
def renZ:Ren:=⟨fun x=>if x=6 then 166 else if x=7 then 167 else if x=8 then 195 else if x=9 then 196 else if x=10 then 197 else if x=11 then 209 else x,fun x=>if x=0 then 0 else if x=3 then 285 else if x=4 then 4 else if x=23 then 267 else if x=24 then 286 else if x=26 then 9 else if x=27 then 288 else if x=28 then 289 else if x=33 then 313 else x,fun x=>x⟩
theorem zsZ:SlLaysZ.n6 Tryz.prog renZ:=
 {mixed:=by kernel_rfl,f6:=⟨"slices.Sorted[string]",by kernel_rfl,by kernel_rfl⟩,f8:=⟨"slices.Collect[string]",by kernel_rfl,by kernel_rfl⟩,f11:=⟨"slices.AppendSeq[[]string,string]",by kernel_rfl,by kernel_rfl⟩,t0:=by kernel_rfl,a0:=λw=>by kernel_rfl,z0:=λw=>by kernel_rfl,v0:=λw=>by kernel_rfl,t24:=by kernel_rfl,a24:=λw=>by kernel_rfl,z24:=λw=>by kernel_rfl,v24:=λw=>by kernel_rfl,t26:=by kernel_rfl,a26:=λw=>by kernel_rfl,z26:=λw=>by kernel_rfl,v26:=λw=>by kernel_rfl,t28:=by kernel_rfl,a28:=λw=>by kernel_rfl,z28:=λw=>by kernel_rfl,v28:=λw=>by kernel_rfl,i26:=by kernel_rfl }
theorem zrK:SlLaysZ.n7 Tryz.prog renZ:=
 {mixed:=by kernel_rfl,f7:=⟨"maps.Keys[map[string]seawall/store.value,string,seawall/store.value]",by kernel_rfl,by kernel_rfl⟩,f10:=⟨"maps.Keys[map[string]seawall/store.value,string,seawall/store.value]$1",by kernel_rfl,by kernel_rfl⟩,t0:=by kernel_rfl,a0:=λw=>by kernel_rfl,z0:=λw=>by kernel_rfl,v0:=λw=>by kernel_rfl,t4:=by kernel_rfl,a4:=λw=>by kernel_rfl,z4:=λw=>by kernel_rfl,v4:=λw=>by kernel_rfl,t23:=by kernel_rfl,a23:=λw=>by kernel_rfl,z23:=λw=>by kernel_rfl,v23:=λw=>by kernel_rfl,t26:=by kernel_rfl,a26:=λw=>by kernel_rfl,z26:=λw=>by kernel_rfl,v26:=λw=>by kernel_rfl,t27:=by kernel_rfl,a27:=λw=>by kernel_rfl,z27:=λw=>by kernel_rfl,v27:=λw=>by kernel_rfl,t28:=by kernel_rfl,a28:=λw=>by kernel_rfl,z28:=λw=>by kernel_rfl,v28:=λw=>by kernel_rfl,t33:=by kernel_rfl,a33:=λw=>by kernel_rfl,z33:=λw=>by kernel_rfl,v33:=λw=>by kernel_rfl }
def renW:Ren:=⟨fun x=>if x=5 then 165 else if x=7 then 194 else x,fun x=>if x=3 then 285 else if x=4 then 4 else if x=20 then 20 else if x=23 then 267 else if x=25 then 9 else x,fun x=>x⟩
theorem zxK:SlLaysW.n5 Tryz.prog renW:=
 {mixed:=by kernel_rfl,f5:=⟨"maps.Clone[map[string]seawall/store.value,string,seawall/store.value]",by kernel_rfl,by kernel_rfl⟩,f7:=by kernel_rfl,t4:=by kernel_rfl,a4:=λw=>by kernel_rfl,z4:=λw=>by kernel_rfl,v4:=λw=>by kernel_rfl,t20:=by kernel_rfl,a20:=λw=>by kernel_rfl,z20:=λw=>by kernel_rfl,v20:=λw=>by kernel_rfl,t23:=by kernel_rfl,a23:=λw=>by kernel_rfl,z23:=λw=>by kernel_rfl,v23:=λw=>by kernel_rfl }
end
section
open Go.RowKit Go.Maps Go.Shelf Go.Sort
open MI SO
theorem zvZ(m:Nat):AnyZ.SortsIn Tryz.prog renZ Fence.wide m:=
 ⟨λblk off cap ss W hH hblk hsz=>callsIn_wide.2 (Any.slices_Sort_string zhV blk off cap ss W hH hblk hsz),λp cap W=>callsIn_wide.2 (Any.slices_Sort_string_none zhV p cap W)⟩
theorem zvM(mb:Option Nat)(w:World):Calls Tryz.prog 167 #[.map mb] w λe w'=>
  e = .returned (.func (.func 197) #[] #[.pointer (some ⟨w.heap.size,0,none⟩)])/\w'=w.alloc (.cells #[.map mb] 267):=
 callsIn_wide.1 (AnyZ.keys_in zrK Fence.wide 5 trivial rfl mb w)
theorem znU(w:World)(b:Nat)(m:List (Str×Str))(h:PairsAt w b m):Calls Tryz.prog 165 #[.map (some b)] w λe w'=>e = .returned (.map (some w.heap.size))/\PairsAt w' w.heap.size m/\Keep zF w w':=by
 obtain⟨h0,D,⟨es,clock,hb,F,hs,hD⟩,h1,h2,h3⟩:=h;refine(AnyW.maps_Clone zxK b es clock w hb).mono ?_;rintro e w' ⟨he,rfl⟩;exact⟨he,⟨h0,D,⟨es,clock,heap_alloc_new w _,F,hs,hD⟩,h1,h2,h3⟩,(Keep.refl _ _).alloc _⟩
theorem Row.of_owns{w:World}{base:Nat}{e:TypeId}{size:Nat}{v:Value}{n:Nat}{xs:List Value}(h:w.ownsRow base e size v n xs):Row w e size v n xs/\∀ k,v.ownBlock=Option.some k->base<=k:=by
 obtain⟨h1,⟨rfl,rfl⟩ | ⟨g,cap,cur,rfl,hb,hg,h2,h3,h4,h5⟩⟩:=h;{exact⟨⟨h1,.inl ⟨rfl,rfl⟩⟩,λk hk=>by simp[Value.ownBlock] at hk⟩};{exact⟨⟨h1,.inr ⟨g,cap,cur,(0,0),rfl,hg,Free.zero _,h2,h3,h4,h5⟩⟩,λk hk=>by simp[Value.ownBlock] at hk;omega⟩}
theorem zqT{w:World}{b n:Nat}{m:List (Str×Str)}{D:DataW Value}(hm:AL.Ok m)(hown:w.ownsMap Tryz.prog 9 anyE b n D)(h2:∀ x,Maps.has D (Lit.string x)=(AL.get m x).isSome):(m.map (·.1)).Perm (strKeys D):=by
 refine Collected.perm (left:=λ_=>false) ⟨?_,λx=>?_⟩ hown zhC.keyed Tryz.underlying9 (λ_=>rfl);{unfold List.Nodup;rw[List.pairwise_map];exact hm};{rw[h2 x];simp only[and_true,List.mem_map];constructor;{rintro⟨p,hp,rfl⟩;rw[z6P hm hp];rfl};{intro h;cases hg:AL.get m x with | none=>{rw[hg] at h;cases h} | some y=>{exact⟨(x,y),z5M hg,rfl⟩}}}
theorem ztE(w:World)(b Bm:Nat)(m:List (Str×Str))(h:PairsAt w b m)(hc:w.cell? ⟨Bm,0,none⟩=some (.map (some b)))(hm:m.length<=1000000):Calls Tryz.prog 166 #[.func (.func 197) #[] #[.pointer (some ⟨Bm,0,none⟩)]] w λe w'=>
   ∃ v ks,e = .returned v/\Row w' 9 1 v ks.length (zvW ks)/\(ks.Pairwise λa b=>a<b)/\(∀ x,x ∈ ks↔(AL.get m x).isSome=true)/\ks.length=m.length/\Keep zF w w'/\(∀ i,v.ownBlock=some i->w.heap.size<=i):=by
 obtain⟨h0,D,hown,h1,h2,h3⟩:=h;have hperm:=zqT h0 hown (λx=>(h2 x).1);have hseq:SeqGives Fence.wide 2 Tryz.prog (renZ.f 10) #[.pointer (some ⟨Bm,0,none⟩)] encStr (λss=>ss.Perm (strKeys D)) (Maps.size D) w:= AnyZ.keys_gives (ρ:=renZ) { zrK with } Fence.wide _ trivial rfl (by omega) Bm b m.length D _ (World.block_lt_of_cell? w _ hc) hc hown;refine(callsIn_wide.1 (AnyZ.sorted_in zsZ Fence.wide 5 trivial trivial trivial trivial rfl (by omega) (zvZ _) (enters_of Tryz.func196 (by kernel_rfl) rfl) (renZ.f 10) #[.pointer (some ⟨Bm,0,none⟩)] trivial (enters_of Tryz.func197 (by kernel_rfl) rfl) _ (Maps.size D) (by rw[h1];unfold maxLen;omega) (by rw[h1];omega) w hseq)).mono ?_;rintro e w' ⟨v,ss,rfl,hss,hrow,-,hb⟩;have hpm:ss.Perm (m.map (·.1)):=hss.trans hperm.symm;have hnd:(m.map (·.1)).Nodup:=by{unfold List.Nodup;rw[List.pairwise_map];exact h0};have hsp:=List.mergeSort_perm ss λx y=>decide (x<=y);have hle:(ss.mergeSort λx y=>decide (x<=y)).Pairwise λx y=>decide (x<=y)=true:=List.pairwise_mergeSort (λa b c h1 h2=>by simp at *;exact List.le_trans h1 h2) (λa b=>by simp;exact List.le_total a b) ss;obtain⟨hr,ho⟩:=Row.of_owns hrow;refine⟨v,ss.mergeSort λx y=>decide (x<=y),rfl,?_,?_,λx=>?_,?_,Keep.of_below hb _,ho⟩;{rw[List.length_mergeSort];exact hr};{refine(hle.and (hsp.nodup_iff.2 (hpm.nodup_iff.2 hnd))).imp λ{x y} h=>?_;rcases zkR x y with h1 | h1 | h1;{exact h1};{exact absurd h1 h.2};{have:=h.1;simp at this;exact absurd h1 (List.not_lt.2 this)}};{rw[hsp.mem_iff,hpm.mem_iff,List.mem_map];constructor;{rintro⟨p,hp,rfl⟩;rw[z6P h0 hp];rfl};{intro h;cases hg:AL.get m x with | none=>{rw[hg] at h;cases h} | some y=>{exact⟨(x,y),z5M hg,rfl⟩}}};{rw[List.length_mergeSort,hpm.length_eq,List.length_map]}
end
end Go.Proofs.YtkhddpiopbmhjaaGreat
