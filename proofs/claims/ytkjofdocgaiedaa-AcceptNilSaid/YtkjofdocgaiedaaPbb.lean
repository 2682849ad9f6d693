/- Texts AccF, AccE in one. Conditions: as each law names them. -/
import Derived.Test.YtkjofdocgaiedaaPab
import Derived.Test.YtkjofdocgaiedaaPan
import Derived.Test.YtkjofdocgaiedaaPay
namespace Go.Proofs.Ytkjofdocgaiedaa
open Go.RowKit Go.Maps
open MI SO BM DM WM AC
set_option maxRecDepth 20000 in
set_option maxHeartbeats 1000000 in
theorem aput_any (w:World) (b:Bal) (hb:OkB b):Calls Try.prog 21 #[balV b] w (PutU w (AC.putB b)):=by
 obtain⟨c0,c1,cf,hk⟩:=box_bal w b
 obtain⟨h0,h1,h2⟩:=rightB_iff.1 hb.1
 have hn:=hb.2
 obtain⟨n,node⟩:=b
 simp only at h0 h1 h2 hn
 obtain⟨d,rfl⟩:∃ d:Nat,(d:Int)=node:=⟨node.toNat,by omega⟩
 have hd:d<12:=by omega
 have t1:=wu64 d (by omega)
 have HE:=hid (show AC.putB ⟨n,(d:Int)⟩=putUint n ++ putUint d from rfl)
 rw[HE.out]
 simp only at c0 c1
 have HK:=hid hk
 clear hk h0 h1 h2 hb
 go_enter Try.func21,Try.ntmps21
 go_upto_region 1 with fail
 obtain⟨w1,hw1⟩:∃ w1,w1=w.alloc (.cells (balC ⟨n,(d:Int)⟩) 24):=⟨_,rfl⟩
 have hz1:w1.heap.size=w.heap.size+1:=by rw[hw1];simp
 rw[← hw1] at c0 c1 HK
 first | rw[← hw1] | skip
 clear hw1 cf
 have x1:w1.drew.cell? ⟨w.heap.size,0,none⟩=some (.int .u64 (n:Int))∧w1.drew.cell? ⟨w.heap.size,1,none⟩=some (.int .i64 (d:Int)):=⟨c0,c1⟩
 clear c0 c1
 refine Held.wp_region_held (fun w'=>w'.cell? ⟨w.heap.size,0,none⟩=some (.int .u64 (n:Int))∧w'.cell? ⟨w.heap.size,1,none⟩=some (.int .i64 (d:Int))) [] [4,7] (by kernel_rfl) (by kernel_rfl) ?_
 repeat (apply Held.wpC_pure (by rfl) (by exact x1);(intro K w' hS;(try dsimp only at hS);go_simp;exact id))
 refine Held.wpC_act (by decide) (by rfl) (by exact x1) (fun K hK=>?_)
 go_simp
 refine(putuint_any w1.drew n hn).mono ?_
 rintro e w2 ⟨v2,rfl,hf2⟩
 have x2:w2.cell? ⟨w.heap.size,0,none⟩=some (.int .u64 (n:Int))∧w2.cell? ⟨w.heap.size,1,none⟩=some (.int .i64 (d:Int)):=⟨cell_old hf2.keep _ _ x1.1,cell_old hf2.keep _ _ x1.2⟩
 have hown:∀ k,v2.ownBlock=some k→w1.heap.size≤k:=fun k e=>hf2.own k e
 have HF2:=hid (And.intro (hf2.since (HK.out.drew)) hown)
 clear hf2 hown
 go_simp
 refine hK _ _ (fun h=>by cases h) (fun _=>x2) ?_
 clear hK K x1
 repeat (apply Held.wpC_pure (by rfl) (by exact x2);(intro K w' hS;(try dsimp only at hS);go_simp;exact id))
 refine Held.wpC_act (by decide) (by rfl) (by exact x2) (fun K hK=>?_)
 go_simp
 refine(putuint_any w2 d (by omega)).mono ?_
 rintro e w3 ⟨v3,rfl,hf3⟩
 obtain⟨ao3,m3,rfl,-⟩:=hf3.row.form
 have x3:w3.cell? ⟨w.heap.size,0,none⟩=some (.int .u64 (n:Int))∧w3.cell? ⟨w.heap.size,1,none⟩=some (.int .i64 (d:Int)):=⟨cell_old hf3.keep _ _ x2.1,cell_old hf3.keep _ _ x2.2⟩
 have HF3:=hid (And.intro (HF2.out.1.later hf3.keep) hf3.row)
 clear hf3
 go_simp
 refine hK _ _ (fun h=>by cases h) (fun _=>x3) ?_
 clear hK K x2
 repeat (apply Held.wpC_pure (by rfl) (by exact x3);(intro K w' hS;(try dsimp only at hS);go_simp;exact id))
 refine Held.wpC_act (by decide) (by rfl) (by exact x3) (fun K hK=>?_)
 refine wp_append_fresh _ _ rfl rfl HF3.out.1 ao3 (putUint d).length m3 rfl (Cells.of_row HF3.out.2) (by have h1:=putU_le 10 n;have h2:=putU_le 10 d;unfold putUint;omega) ?_
 intro v4 w4 hf4 hk4
 have x4:w4.cell? ⟨w.heap.size,0,none⟩=some (.int .u64 (n:Int))∧w4.cell? ⟨w.heap.size,1,none⟩=some (.int .i64 (d:Int)):=by
  have hb:w4.heap[w.heap.size]?=w3.heap[w.heap.size]?:=hk4.block _ (World.block_lt_of_cell? w3 _ x3.1) fun e=>by have:=HF2.out.2 _ e;omega
  exact⟨by rw[World.cell?_of_block (a:=⟨w.heap.size,0,none⟩) hb];exact x3.1,by rw[World.cell?_of_block (a:=⟨w.heap.size,1,none⟩) hb];exact x3.2⟩
 refine hK _ _ (fun h=>by cases h) (fun _=>x4) ?_
 clear hK K
 have HF4:=hid hf4
 clear hf4 hk4
 repeat (apply Held.wpC_pure (by rfl) (by exact x4);(intro K w' hS;(try dsimp only at hS);go_simp;exact id))
 refine Held.wpC_nil ?_
 go_wp2_with (at_builtin;refine stopAt ?_;intro q hq)
 go_ret
 exact⟨_,rfl,HF4.out⟩
theorem results_agg {P:Program} {fn:Func} {t:Tmp} {ty:TypeId} (h:fn.results = #[.cell t ty]) (tmps:Array Value) (w:World) (g:Nat) (ht:tmps.getD t undef = .pointer (some ⟨g,0,none⟩)) (cs:List Value)
  (hc:∀ j u,cs[j]?=some u→w.cell? ⟨g,j,none⟩=some u) (d:TypeDesc)
  (hu:P.underlying ty=some d) (hd:(match d with | .struct _ | .array _ _=>true | _=>false)=true) (hi:(P.info? ty).map (·.size)=some cs.length) :
  (results fn tmps).run P w = .ok (.agg cs.toArray) w:=by
 have hl:=run_loadCells_list (P:=P) w ⟨g,0,none⟩ cs (fun j v hv=>by rw[addr_add,Nat.zero_add];exact hc j v hv)
 cases hq:P.info? ty with
 | none=>simp[hq] at hi
 | some i=>
   have hs:i.size=cs.length:=by simpa [hq] using hi
   have hagg:(isAgg ty).run P w = .ok true w:=by
    unfold isAgg
    rw[Sem.run_bind,run_underlying hu w]
    cases d <;> simp_all
   have hr:(loadVar ty ⟨g,0,none⟩).run P w = .ok (.agg cs.toArray) w:=by
    simp[loadVar,Sem.run_bind,hagg,sizeOf,typeInfo,hq,hs,hl]
   have ht':tmps[t]?.getD undef = .pointer (some ⟨g,0,none⟩):=by simpa using ht
   simp[results,h,ht',asAddr,hr]
def promV (b:Bal):Value:=.agg #[.string (str pK),.string (str (AC.putB b)),.bool false]
set_option maxRecDepth 20000 in
set_option maxHeartbeats 1000000 in
theorem aprom_any (w:World) (b:Bal) (hb:OkB b):Calls Try.prog 19 #[balV b] w fun e w'=>e = .returned (promV b)∧Keep (fun _=>False) w w':=by
 have hn:=heap_alloc_new w (.cells (balC b) 24)
 have hk1:Keep (fun _=>False) w (w.alloc (.cells (balC b) 24)):=(Keep.refl _ _).alloc _
 have hn2:=heap_alloc_new (w.alloc (.cells (balC b) 24)) (.cells #[.string { data:=#[] },.string { data:=#[] },.bool false] 55)
 have hk2:Keep (fun _=>False) (w.alloc (.cells (balC b) 24)) ((w.alloc (.cells (balC b) 24)).alloc (.cells #[.string { data:=#[] },.string { data:=#[] },.bool false] 55)):=(Keep.refl _ _).alloc _
 have hz:(w.alloc (.cells (balC b) 24)).heap.size=w.heap.size+1:=by simp
 rw[hz] at hn2
 have hh:=hk2.get hn id
 have hk:=hk1.next hk2 (H:=fun _=>False) (fun _ _ x=>x) (fun _ _ x=>x)
 clear hk1 hk2 hn
 go_enter Try.func19,Try.ntmps19
 go_upto_region 1 with fail
 obtain⟨w2,hw2⟩:∃ w2,w2=(w.alloc (.cells (balC b) 24)).alloc (.cells #[.string { data:=#[] },.string { data:=#[] },.bool false] 55):=⟨_,rfl⟩
 rw[← hw2] at hn2 hh hk ⊢
 clear hw2 hz
 have c0:w2.cell? ⟨w.heap.size,0,none⟩=some (.int .u64 (b.n:Int)):=by simp[World.cell?,hh]
 have c1:w2.cell? ⟨w.heap.size,1,none⟩=some (.int .i64 b.node):=by simp[World.cell?,hh]
 have H2:=hid (And.intro hk hn2)
 clear hh hn2 hk
 have hput:=aput_any w2 b hb
 go_wp2_with (at_builtin;refine stopAt ?_;intro q hq)
 refine hput.mono ?_
 rintro e w3 ⟨v3,rfl,hf3⟩
 obtain⟨ao3,m3,rfl,-⟩:=hf3.row.form
 have hcv:=run_str (P:=Try.prog) Try.underlying29 Try.underlying5 Try.underlying9 (c:=m3) (Cells.of_row hf3.row)
 have hn3:=hf3.keep.get H2.out.2 id
 have f0:∀ o,w3.frozen? ⟨w.heap.size+1,o,none⟩=false:=fun o=>by simp[World.frozen?,hn3]
 have d0:w3.cell? ⟨w.heap.size+1,0,none⟩=some (.string { data:=#[] }):=by simp[World.cell?,hn3]
 have d1:w3.cell? ⟨w.heap.size+1,1,none⟩=some (.string { data:=#[] }):=by simp[World.cell?,hn3]
 have d2:w3.cell? ⟨w.heap.size+1,2,none⟩=some (.bool false):=by simp[World.cell?,hn3]
 have H3:=hid (And.intro (H2.out.1.next hf3.keep (H:=fun _=>False) (fun _ _ x=>x) (fun _ _ x=>x)) hn3)
 obtain⟨pl,hpl⟩:∃ pl,pl=(AC.putB b).length:=⟨_,rfl⟩
 rw[← hpl] at hcv ⊢
 clear hput hf3 c0 c1 hn3 hpl
 go_wp2_with (at_builtin;refine stopAt ?_;intro q hq)
 have g1:=heap_setCell6 H3.out.2 0 (.string { data:=#[112] })
 have g2:=heap_setCell6 g1 1 (.string (str (AC.putB b)))
 have g3:=heap_setCell6 g2 2 (.bool false)
 have hkz:Keep (fun k=>k=w.heap.size+1) w3 (((w3.setCell ⟨w.heap.size+1,0,none⟩ (.string { data:=#[112] })).setCell ⟨w.heap.size+1,1,none⟩ (.string (str (AC.putB b)))).setCell ⟨w.heap.size+1,2,none⟩ (.bool false)):=by
  refine Keep.setCell (Keep.setCell (Keep.setCell (Keep.refl _ _) (.inl ?_) _) (.inl ?_) _) (.inl ?_) _ <;> rfl
 have hkw:=H3.out.1.next hkz (H:=fun _=>False) (fun _ _ x=>x) (fun k hk x=>by omega)
 refine bodyPost_ret (results_agg rfl _ _ (w.heap.size+1) rfl [.string { data:=#[112] },.string (str (AC.putB b)),.bool false] (fun j u hu=>?_) _ Try.underlying55 rfl (by kernel_rfl)) rfl ⟨rfl,hkw⟩
 have hj:j<3:=(List.getElem?_eq_some_iff.1 hu).1
 rw[cell_of_row _ _ _ _ _ _ g3]
 match j,hj with
 | 0,_=>simpa using hu
 | 1,_=>simpa using hu
 | 2,_=>simpa using hu
end Go.Proofs.Ytkjofdocgaiedaa
namespace Go.Proofs.Ytkjofdocgaiedaa
open Go.RowKit Go.Maps
open MI SO BM DM WM AC
theorem key_get (i s:Nat) (hi:i<8):(bytesV (118 :: (List.replicate (8 - i) 0 ++ beN i s)))[8 - i]?=some (.int .u8 0):=by
 obtain⟨t,ht⟩:∃ t,8 - i=t+1:=⟨7 - i,by omega⟩
 rw[ht]
 have e:bytesV (118 :: (List.replicate (t+1) 0 ++ beN i s)) = .int .u8 118 :: bytesV (List.replicate (t+1) 0 ++ beN i s):=rfl
 rw[e,List.getElem?_cons_succ,bytesV_append,List.getElem?_append_left (by rw[bytesV_length];simp)]
 simp[bytesV]
theorem key_set (i s:Nat) (hi:i<8):(118 :: (List.replicate (8 - i) 0 ++ beN i s)).set (8 - i) (UInt8.ofNat (s / 256 ^ i % 256))=118 :: (List.replicate (8 - (i+1)) 0 ++ beN (i+1) s):=by
 obtain⟨t,ht⟩:∃ t,8 - i=t+1:=⟨7 - i,by omega⟩
 rw[ht,show 8 - (i+1)=t by omega,List.set_cons_succ,List.set_append_left _ _ (by simp),List.replicate_succ',List.set_append_right _ _ (by simp),List.append_assoc]
 simp[beN]
set_option maxRecDepth 20000 in
set_option maxHeartbeats 1000000 in
theorem akey_any (w:World) (s:Nat) (_hs:s<18446744073709551616) :
  Calls Try.prog 20 #[.int .u64 (s:Int)] w fun e w'=>e = .returned (.string (str (keyS s)))∧Keep (fun _=>False) w w':=by
 have hn:=heap_alloc_new w (.cells #[.int .u8 118,.int .u8 0,.int .u8 0,.int .u8 0,.int .u8 0,.int .u8 0,.int .u8 0,.int .u8 0,.int .u8 0] 5)
 have hk1:Keep (fun _=>False) w (w.alloc (.cells #[.int .u8 118,.int .u8 0,.int .u8 0,.int .u8 0,.int .u8 0,.int .u8 0,.int .u8 0,.int .u8 0,.int .u8 0] 5)):=(Keep.refl _ _).alloc _
 have HR1:=hid (show Row (w.alloc (.cells #[.int .u8 118,.int .u8 0,.int .u8 0,.int .u8 0,.int .u8 0,.int .u8 0,.int .u8 0,.int .u8 0,.int .u8 0] 5)) 5 1 (.slice (some ⟨w.heap.size,0,none⟩) 9 9) 9 (bytesV (118 :: (List.replicate 8 0 ++ beN 0 s)))∧Keep (fun _=>False) w _ from
  ⟨⟨rfl,.inr ⟨_,9,_,(0,0),rfl,hn,Free.zero _,Nat.le_refl _,by unfold maxLen;omega,rfl,rfl⟩⟩,hk1⟩)
 clear hn hk1
 go_enter Try.func20,Try.ntmps20
 go_wp2_with (at_builtin;refine stopAt ?_;intro q hq)
 obtain⟨w1,hw1⟩:∃ w1,w1=w.alloc (.cells #[.int .u8 118,.int .u8 0,.int .u8 0,.int .u8 0,.int .u8 0,.int .u8 0,.int .u8 0,.int .u8 0,.int .u8 0] 5):=⟨_,rfl⟩
 rw[← hw1] at HR1 ⊢
 clear hw1
 go_loopw [6] (fun iv wr=>∃ i:Nat,i≤8∧iv = .int .i64 i∧Hid (Row wr 5 1 (.slice (some ⟨w.heap.size,0,none⟩) 9 9) 9 (bytesV (118 :: (List.replicate (8 - i) 0 ++ beN i s)))∧Keep (fun _=>False) w wr)) (fun iv _=>8 - (intOf iv).toNat)
 case atStart=>exact⟨0,by omega,rfl,HR1⟩
 case round=>
  obtain⟨i,hi,rfl,HR⟩:=hrel
  by_cases hi8:i<8
  ·have q1:(i:Int)<8:=by omega
   obtain⟨k,hk⟩:∃ k,k=8 - i:=⟨_,rfl⟩
   have e1:(8:Int) - (i:Int)=(k:Nat):=by omega
   have hk9:k<9:=by omega
   obtain⟨m,hm⟩:∃ m,m=8 * i:=⟨_,rfl⟩
   have e2:(8:Int) * (i:Int)=(m:Nat):=by omega
   have z1:=wi64 k (by omega)
   have z2:=wi64 m (by omega)
   have c0:=HR.out.1.cell k (by omega)
   have f0:=HR.out.1.frozen k (by omega)
   rw[hk,key_get i s hi8,← hk] at c0
   have HK:=hid (And.intro hk hm)
   clear hk hm
   go_wp2_with (at_builtin;refine stopAt ?_;intro q hq)
   obtain⟨hk,hm⟩:=HK.out
   have hv:((s:Int) / 2 ^ m % 256)=((s / 256 ^ i % 256:Nat):Int):=by
    have h2:(2:Int) ^ m=((256 ^ i:Nat):Int):=by
     rw[hm,Int.pow_mul]
     simp
    rw[h2]
    simp
   have hlt:s / 256 ^ i % 256<256:=Nat.mod_lt _ (by decide)
   have hset:=Row.setOne HR.out.1 k hk9 (.int .u8 ((s / 256 ^ i % 256:Nat):Int)) rfl
   rw[bytesV_set _ _ _ hlt] at hset
   rw[hv]
   refine⟨⟨i+1,by omega,by go_num,hid ⟨?_,Keep.setCell HR.out.2 (.inr (Nat.le_refl _)) _⟩⟩,by simp[intOf];omega⟩
   have e:(118 :: (List.replicate (8 - i) 0 ++ beN i s)).set k (UInt8.ofNat (s / 256 ^ i % 256))=118 :: (List.replicate (8 - (i+1)) 0 ++ beN (i+1) s):=by rw[hk];exact key_set i s hi8
   rw[e] at hset
   exact hset
  ·obtain rfl:i=8:=by omega
   have hrow:=HR.out.1
   have hcv:=run_str (P:=Try.prog) Try.underlying29 Try.underlying5 Try.underlying9 (c:=9) (Cells.of_row hrow)
   have HE:=hid (show (118 :: (List.replicate (8 - 8) 0 ++ beN 8 s))=keyS s from rfl)
   rw[HE.out] at hcv
   clear hrow
   go_wp2_with (at_builtin;refine stopAt ?_;intro q hq)
   go_ret
   exact⟨rfl,HR.out.2⟩
end Go.Proofs.Ytkjofdocgaiedaa
