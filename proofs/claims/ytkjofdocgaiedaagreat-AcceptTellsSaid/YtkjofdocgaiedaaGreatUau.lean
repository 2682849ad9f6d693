/- Texts AppZ in one. Conditions: as each law names them. -/
import Derived.Lib.AppendZeros
import Derived.Lib.AppendZerosOnto
import Derived.Test.YtkjofdocgaiedaaGreatUak
set_option maxRecDepth 20000
set_option maxHeartbeats 8000000
namespace Go.Proofs.YtkjofdocgaiedaaGreat
section
open Go.RowKit
theorem z3W (k:Nat):(Builtin.zeroCells (Value.int .u8 0).cells k).toList=z0B (List.replicate k 0):=by
 apply List.ext_getElem
 ·simp[Builtin.zeroCells,z0B,Value.cells]
 ·intro i h1 h2
  simp[Builtin.zeroCells,z0B,Value.cells];rw[show i % 1=0 from Nat.mod_one i];rfl
theorem z6J {w0 w:World} {ty:TypeId} {v:Value} {l:List UInt8} (hf:Fresh w0 v l w) (k:Nat) (hb:l.length+k≤140737488355328) :
  ∃ v' w',(Builtin.append_ #[29,3] ty #[v,.int .i64 (k:Nat)]).run Tryz.prog w = .ok v' w'∧Fresh w0 v' (l ++ List.replicate k 0) w'∧Keep (fun j=>v.ownBlock=some j) w w'∧∀ j,v'.ownBlock=some j→v.ownBlock=some j∨w.heap.size≤j:=by
 obtain⟨ht,hinfo,hzs,hpos⟩:=z0U
 obtain⟨i,hi,hz,hsize,hby⟩:∃ i,Tryz.prog.info? 5=some i∧i.zero=some (.int .u8 0)∧i.size=1∧i.bytes=1:=by
  cases hq:Tryz.prog.info? 5 with
  | none=>simp[hq] at hinfo
  | some i=>simp[hq] at hinfo;exact⟨i,rfl,hinfo.1,hinfo.2.1,hinfo.2.2⟩
 have htn:=Tryz.underlying3;have hw:IntKind.i64.wrap (k:Int)=k:=by rw[IntKind.wrap_i64];omega
 have hneg:¬ ((k:Int)<0):=by omega
 have h48i:¬ (281474976710656<(k:Int) * (i.bytes:Int)):=by rw[hby];omega
 obtain⟨n,hn⟩:=zX1 (l.length);have hrow:=hf.row;rw[← hn] at hrow hb;have hxl:(z0B l).length=n:=by rw[z0D,hn]
 by_cases hk:k=0
 ·subst hk
  have hw0:IntKind.i64.wrap 0=0:=by decide
  refine⟨v,w,?_,by simpa using hf,Keep.refl _ _,fun j e=>.inl e⟩
  rcases hrow.2 with ⟨rfl,hn0⟩ | ⟨g,cap,cur,fz,rfl,hg,hfz,hnc,hcm,hcs,htk⟩
  ·simp[Builtin.append_,run_underlying ht,run_underlying htn,sizeOf,typeInfo,hi,asInt,asIntOf,hw0]
  ·simp[Builtin.append_,run_underlying ht,run_underlying htn,sizeOf,typeInfo,hi,asInt,asIntOf,hw0,hnc,Addr.add_lit,storeCells]
 ·have hns:¬ (k * i.size=0):=by rw[hsize];omega
  rcases hrow.2 with ⟨rfl,hn0⟩ | ⟨g,cap,cur,fz,rfl,hg,hfz,hnc,hcm,hcs,htk⟩
  ·have hl0:l = []:=List.eq_nil_of_length_eq_zero (by omega)
   subst hl0;have hr:=Lib.run_append_nil_zeros (P:=Tryz.prog) w 29 3 ty 5 i (.int .u8 0) .i64 .i64 ht htn hi hz k (by omega) (by omega) (by omega) (by rw[hby];omega);have hge:=grownCap_ge w k 0 5;have hcm:grownCap w k 0 5≤maxLen:=grownCap_le_maxLen w k 0 5 (by unfold maxLen;omega);refine⟨_,_,hr,⟨?_,hf.keep.next (((Keep.refl (fun _=>False) w).drew).alloc _) (fun _ _ x=>x) (fun _ _ x=>x),fun j e=>by simp[Value.ownBlock] at e;subst e;exact hf.keep.size⟩,(((Keep.refl _ w).drew).alloc _),fun j e=>by simp[Value.ownBlock] at e;omega⟩;refine⟨by rw[z0D];simp,.inr ⟨w.heap.size,_,_,(0,0),by simp,heap_alloc_new w.drew _,Free.zero _,by simpa using hge,hcm,by simp[size_zeroCells,Value.cells];omega,?_⟩⟩;rw[Array.toList_append,z3W,List.take_append_of_le_length (by rw[z0D];simp)];rw[List.take_of_length_le (by rw[z0D];simp)];simp
  ·by_cases hroom:n+k≤cap
   ·have hzl:(Builtin.zeroCells (Value.int .u8 0).cells k).toList.length=k:=by rw[z3W,z0D];simp
    have hst:=z1L (P:=Tryz.prog) g n 5 fz (Builtin.zeroCells (Value.int .u8 0).cells k).toList 0 cur w hg hfz (by rw[hzl];omega) (by rw[z3W];exact z1I _);simp only[Nat.add_zero] at hst;rw[hzl] at hst;obtain⟨cs2,hcs2⟩:=zX1 ((cur.toList.take n ++ (Builtin.zeroCells (Value.int .u8 0).cells k).toList ++ cur.toList.drop (n+k)).toArray);rw[← hcs2] at hst;have hsz2:cs2.size=cur.size:=by rw[hcs2];simp[size_zeroCells,Value.cells];omega
    have htk1:cur.toList.take n=z0B l:=by rw[← htk,Nat.mul_one]
    refine⟨.slice (some ⟨g,0,none⟩) (n+k) cap,w.setRow g cs2,?_,⟨?_,hf.keep.next ((Keep.refl (fun j=>j=g) w).setRow (.inl rfl) _) (fun _ _ x=>x) (fun j hj x=>by subst x;have:=hf.own j rfl;omega),fun j e=>hf.own j (by rw[← e];rfl)⟩,(Keep.refl _ w).setRow (.inl (show Value.ownBlock _=some g from rfl)) _,fun j e=>.inl (by rw[← e];rfl)⟩
    ·simp[Builtin.append_,run_underlying ht,run_underlying htn,sizeOf,typeInfo,zeroValue,hi,hz,asInt,asIntOf,hw,hneg,h48i,hroom,Addr.add_lit,hsize,hk]
     rw[hst];rfl
    ·refine⟨by rw[z0D];simp,.inr ⟨g,cap,cs2,fz,by simp[hn],setRow_heap w g cur _ 5 fz hg,by rw[hsz2];exact hfz,by simp;omega,hcm,by rw[hsz2];exact hcs,?_⟩⟩
     rw[hcs2,z3W,htk1,z2I];simp only[List.length_append,List.length_replicate,Nat.mul_one];rw[List.take_append_of_le_length (by rw[List.length_append,z0D,z0D];simp)];rw[List.take_of_length_le (by rw[List.length_append,z0D,z0D];simp)]
   ·have hold:Cells w.drew (some ⟨g,0,none⟩) n i.size (z0B l):=by rw[hsize];exact Cells.of_row (hrow.keep (F:=fun _=>False) (Keep.refl _ _).drew (fun _ _ x=>x))
    have hfo:=z3X (P:=Tryz.prog) (w:=w.drew) i.size n (some ⟨g,0,none⟩) cap n (z0B l) hold;have hr:=Lib.run_append_grow_zeros (P:=Tryz.prog) w 29 3 ty 5 i (.int .u8 0) .i64 .i64 ht htn hi hz (some ⟨g,0,none⟩) n cap (z0B l) hfo k (by omega) (by omega) (by omega) (by omega) (by rw[hby];omega) (by rw[hby];exact growslice_fits (by omega) (by omega));have hge:=grownCap_ge w (n+k) cap 5;have hcm2:grownCap w (n+k) cap 5≤maxLen:=grownCap_le_maxLen w (n+k) cap 5 (by unfold maxLen;omega);refine⟨_,_,hr,⟨?_,hf.keep.next (((Keep.refl (fun _=>False) w).drew).alloc _) (fun _ _ x=>x) (fun _ _ x=>x),fun j e=>by simp[Value.ownBlock] at e;subst e;exact hf.keep.size⟩,(((Keep.refl _ w).drew).alloc _),fun j e=>by simp[Value.ownBlock] at e;omega⟩;refine⟨by rw[z0D];simp,.inr ⟨w.heap.size,_,_,(0,0),by simp[hn],heap_alloc_new w.drew _,Free.zero _,by simpa [hn] using hge,hcm2,by simp[size_zeroCells,Value.cells,hxl];omega,?_⟩⟩;simp only[Array.toList_append,z3W,List.length_append,List.length_replicate,Nat.mul_one,z2I];rw[List.take_append_of_le_length (by rw[List.length_append,z0D,z0D];simp)];rw[List.take_of_length_le (by rw[List.length_append,z0D,z0D];simp)]
end
end Go.Proofs.YtkjofdocgaiedaaGreat
