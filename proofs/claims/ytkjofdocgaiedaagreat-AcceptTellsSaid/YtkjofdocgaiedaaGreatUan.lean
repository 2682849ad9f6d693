/- Texts PutUB in one. Conditions: as each law names them. -/
import Derived.Test.YtkjofdocgaiedaaGreatUak
import Derived.Test.YtkjofdocgaiedaaGreatUal
import Derived.Test.YtkjofdocgaiedaaGreatUam
set_option maxRecDepth 20000
set_option maxHeartbeats 8000000
namespace Go.Proofs.YtkjofdocgaiedaaGreat
section
open Go.RowKit
open BM
theorem zaP (n:Nat):(madeCells (Value.int .u8 0).cells (n * 1)).toList=z0B (List.replicate n 0):=by
 rw[z4U _ (.int .u8 0) (fun i hi=>by simp[Value.cells] at hi ⊢;simp[hi]) (by simp[Value.cells])];simp[z0B]
theorem z5O (l:List UInt8) (i b:Nat) (hb:b<256):(z0B l).set i (.int .u8 (b:Int))=z0B (l.set i (UInt8.ofNat b)):=by
 unfold z0B;rw[List.map_set];simp[Nat.mod_eq_of_lt hb]
theorem zqN (n i s:Nat) (h:i<s):(digc i n ++ List.replicate (s - i) 0).set i (UInt8.ofNat (n / 128 ^ i % 128+128))=digc (i+1) n ++ List.replicate (s - (i+1)) 0:=by
 obtain⟨t,ht⟩:∃ t,s - i=t+1:=⟨s - i - 1,by omega⟩;rw[ht,show s - (i+1)=t by omega,z8G,List.set_append_right _ _ (by rw[z1T];exact Nat.le_refl _),z1T,Nat.sub_self,List.append_assoc];rfl
theorem z4V (w:World) (n:Nat) (hn:n<18446744073709551616) :
  Calls Tryz.prog 79 #[.int .u64 (n:Nat)] w (PutU w (z0H n)):=by
 obtain⟨s1,s2,s3,s4,s5⟩:=z9P n hn;obtain⟨hp1,hp2⟩:=z9U n hn;obtain⟨L,hL⟩:=zX1 (Lib.bitLen n);obtain⟨L6,hL6⟩:=zX1 (L+6);obtain⟨q,hq⟩:=zX1 (L6 / 7);have hsz:z7L n=max 1 q:=by unfold z7L;rw[hq,hL6,hL]
 obtain⟨s,hs⟩:=zX1 (z7L n);rw[← hs] at s1 s2 s4 s5 hp1 hp2 hsz;rw[← hL] at s3;have HL:=hid (zmS w n hn);rw[← hL] at HL;have e1:(L:Int)+6=(L6:Int):=by omega
 have e2:(L6:Int) / 7=(q:Int):=by omega
 have em:max (1:Int) (q:Int)=(s:Int):=by omega
 have z1:=wi64 L6 (by omega);have z2:=wi64 q (by omega)
 have hmk:∀ w,(Instr.makeSlice 29 (.int .i64 (s:Int)) (.int .i64 (s:Int))).run Tryz.prog w = .ok (.slice (some ⟨w.heap.size,0,none⟩) s s) (w.alloc (.cells (madeCells (Value.int .u8 0).cells (s * 1)) 5)):=
  fun w=>z7H (P:=Tryz.prog) z0U .i64 .i64 s (by omega) (by unfold maxLen;omega) w
 have HP:=hid (zA1 hp1 (zA1 hp2 (zA1 s1 s2)));have HS:=hid hsz;clear hp1 hp2 hs hL hL6 hq hsz s4 s5 s1;go_enter Tryz.func79,Tryz.ntmps79;go_wp2_with (at_builtin;refine z0A ?_;intro q hq);refine HL.out.mono ?_;rintro _ w2 ⟨rfl,hw⟩;have hw:=hw.symm;subst hw;go_wp2_with (at_builtin;refine z0A ?_;intro q hq);clear hmk em;clear hw
 have hrow:Row (w.alloc (.cells (madeCells #[.int .u8 0] s) 5)) 5 1 (.slice (some ⟨w.heap.size,0,none⟩) s s) s (z0B (List.replicate s 0)):=by
  have h1:=Row.made (w:=w.alloc (.cells (madeCells #[.int .u8 0] (s * 1)) 5)) (size:=1) (n:=s) (heap_alloc_new w _) (by unfold maxLen;omega);have h2:=zaP s;simp only[Value.cells] at h2;rw[h2,Nat.mul_one] at h1;exact h1
 have k1:=kal w (.cells (madeCells #[.int .u8 0] s) 5);obtain⟨w1,hw1⟩:=zX1 (w.alloc (.cells (madeCells #[.int .u8 0] s) 5));rw[← hw1] at hrow k1 ⊢;clear hw1;have HR1:=hid (zA1 hrow k1);clear hrow k1
 go_loopw [0,5,15] (fun nv _ iv wr=>∃ i:Nat,i≤s∧nv = .int .u64 (n / 128 ^ i:Nat)∧iv = .int .i64 i∧Hid (Row wr 5 1 (.slice (some ⟨w.heap.size,0,none⟩) s s) s (z0B (digc i n ++ List.replicate (s - i) 0))∧Keep (fun _=>False) w wr)) (fun _ _ iv _=>s - (intOf iv).toNat)
 case atStart=>
  refine⟨0,Nat.zero_le _,by simp,rfl,hid ⟨?_,HR1.out.2⟩⟩;exact HR1.out.1
 case round=>
  obtain⟨i,hi,rfl,rfl,HR⟩:=hrel;have hrow:=HR.out.1;have hcap:s≤10:=s2;obtain⟨m,hm⟩:=zX1 (n / 128 ^ i);rw[← hm];have hm64:m<18446744073709551616:=by rw[hm];exact Nat.lt_of_le_of_lt (Nat.div_le_self _ _) hn
  by_cases his:i<s
  ·have q1:(i:Int)<s:=by omega
   obtain⟨r,hr⟩:=zX1 (m % 128);obtain⟨b,hb⟩:=zX1 (r+128);obtain⟨m2,hm2⟩:=zX1 (m / 128)
   have e1:bits .and .u64 (m:Int) 127=(r:Int):=by
    rw[show (127:Int)=((127:Nat):Int) from rfl,u64_and_nat m 127 hm64 (by decide),nat_mask7,hr]
   have e2:=wu8 r (by omega)
   have e3:bits .or .u8 (r:Int) 128=(b:Int):=by
    rw[show (128:Int)=((128:Nat):Int) from rfl,u8_or_nat r 128 (by omega) (by decide),Nat.or_comm,nat_join 7 128 r (by decide) (by omega),hb,Nat.add_comm]
   have e4:(m:Int) / 128=(m2:Int):=by omega
   have c0:=hrow.cell i (by omega);have f0:=hrow.frozen i (by omega)
   have hx:(z0B (digc i n ++ List.replicate (s - i) 0))[i]?=some (.int .u8 0):=by
    rw[z2I,List.getElem?_append_right (by rw[z0D,z1T];exact Nat.le_refl _),z0D,z1T,Nat.sub_self];obtain⟨t,ht⟩:∃ t,s - i=t+1:=⟨s - i - 1,by omega⟩;rw[ht];rfl
   rw[hx] at c0;have Hrow:=hid hrow;have HM:=hid (zA1 hm (zA1 hr (zA1 hb hm2)));clear hrow hm hr hb hm2 hx;go_wp2_with (at_builtin;refine z0A ?_;intro q hq);have hset:=Row.setOne Hrow.out i his (.int .u8 (b:Int)) rfl;obtain⟨hm,hr,hb,hm2⟩:=HM.out;rw[z5O _ _ _ (by omega),hb,hr,hm,zqN n i s his,← hm,← hr,← hb] at hset;refine⟨⟨i+1,by omega,?_,by go_num,hid ⟨hset,Keep.setCell HR.out.2 (.inr (Nat.le_refl _)) _⟩⟩,by simp[intOf];omega⟩;rw[hm2,hm,Nat.div_div_eq_div_mul,Nat.pow_succ]
  ·have q1:decide ((i:Int)<(s:Int))=false:=decide_eq_false (by omega)
   have q2:decide (i<s)=false:=decide_eq_false his;have hp:=HP.out;obtain⟨t,ht⟩:=zX1 (s - 1);have e1:(s:Int) - 1=(t:Int):=by omega
   have hts:t<s:=by omega
   have q3:(t:Int)<(s:Int):=by omega
   rw[show i=t+1 by omega,show s - (t+1)=0 by omega,List.replicate_zero,List.append_nil] at hrow;have c0:=hrow.cell t (by omega);have f0:=hrow.frozen t (by omega);obtain⟨z,hz⟩:=zX1 (n / 128 ^ t);rw[← ht,← hz] at hp;have hz8:z<128:=hp.2.1;obtain⟨y,hy⟩:=zX1 (z+128)
   have hx:(z0B (digc (t+1) n))[t]?=some (.int .u8 (y:Int)):=by
    rw[z8G,z2I,List.getElem?_append_right (by rw[z0D,z1T];exact Nat.le_refl _),z0D,z1T,Nat.sub_self,← hz,Nat.mod_eq_of_lt hz8,← hy];simp[z0B];omega
   rw[hx] at c0
   have e2:bits .and .u8 (y:Int) 127=(z:Int):=by
    rw[show (127:Int)=((127:Nat):Int) from rfl,u8_and_nat y 127 (by omega) (by decide),nat_mask7,show y % 128=z by omega]
   have hset:=Row.setOne hrow t hts (.int .u8 (z:Int)) rfl;rw[z5O _ _ _ (by omega),z8G,List.set_append_right _ _ (by rw[z1T];exact Nat.le_refl _),z1T,Nat.sub_self] at hset
   have hset2:Row (wr.setCell ⟨w.heap.size,t,none⟩ (.int .u8 (z:Int))) 5 1 (.slice (some ⟨w.heap.size,0,none⟩) s s) s (z0B (z0H n)):=by
    rw[hp.1];exact hset
   have hlen:(z0H n).length=s:=by rw[hp.1,List.length_append,z1T,List.length_singleton];omega
   have HF:=hid (show Fresh w (.slice (some ⟨w.heap.size,0,none⟩) s s) (z0H n) (wr.setCell ⟨w.heap.size,t,none⟩ (.int .u8 (z:Int))) from
    ⟨by rw[hlen];exact hset2,Keep.setCell HR.out.2 (.inr (Nat.le_refl _)) _,fun k hk=>by simp[Value.ownBlock] at hk;omega⟩)
   clear hset hset2 hrow hx hp ht hz hy hm;go_wp2_with (at_builtin;refine z0A ?_;intro q hq);go_ret;exact⟨_,rfl,HF.out⟩
end
end Go.Proofs.YtkjofdocgaiedaaGreat
