/- Texts FrS, FrT, Fix, FixA, Put, PutU, AppN, Uint, UintR, PutR in one. Conditions: as each law names them. -/
import Derived.Laws.BitsAllLaws
import Derived.OwnWalk
import Derived.WalkMore
import Derived.Test.YtkjofdocgaiedaaGreatQaa
import Derived.Test.YtkjofdocgaiedaaGreatQah
import Derived.Test.YtkjofdocgaiedaaGreatQaj
set_option maxRecDepth 20000
set_option maxHeartbeats 8000000
namespace Go.Proofs.YtkjofdocgaiedaaGreat
section
open Go.RowKit BM
theorem zoD (r:Nat) (h:r<4294967296):4294967295 ^^^ r=4294967295 - r:=by
 have h1:=BitVec.toNat_not (x:=BitVec.ofNat 32 r);have h2:(~~~ (BitVec.ofNat 32 r))=BitVec.allOnes 32 ^^^ BitVec.ofNat 32 r:=by{rw[BitVec.not_def]};rw[h2,BitVec.toNat_xor,BitVec.toNat_allOnes,BitVec.toNat_ofNat,Nat.mod_eq_of_lt h] at h1;omega
theorem shr1 (r:Nat):(r:Int) / 2=((r / 2:Nat):Int):=by omega
theorem zsG {r:Nat} (h:r % 2=1):BM.turn r=r / 2 ^^^ 3988292384:=by unfold BM.turn;rw[if_pos h]
theorem zpJ {r:Nat} (h:r % 2=0):BM.turn r=r / 2:=by unfold BM.turn;rw[if_neg (by omega)]
theorem zsD (w:World) (g:Nat) (ao:Option Addr) (n c:Nat) (l:List UInt8) (hg:w.cell? ⟨g,0,none⟩=some (.slice ao n c)) (h:Cells w ao n 1 (z0B l)) (hn:n<=1000000000) :
  Calls Tryz.prog 140 #[.slice (some ⟨g,0,none⟩) 1 1] w λe w'=>e = .returned (.int .u32 (crc l:Nat))/\w'=w:=by
 have hl:l.length=n:=by{have:=h.1;rw[z0C] at this;omega};have H:=hid (zA1 h hl);clear h hl;go_enter Tryz.func140,Tryz.ntmps140;go_wp2_with fail
 go_loopw [3,5,7,8,11] (λrv _ _ _ iv wr=>∃ i r:Nat,i<=1/\r<4294967296/\rv = .int .u32 r/\iv = .int .i64 i/\Hid (wr=w/\(i=0->r=4294967295)/\(i=1->r=reg l))) (λ_ _ _ _ iv _=>1 - (intOf iv).toNat)
 case atStart=>exact⟨0,4294967295,Nat.zero_le _,by decide,rfl,rfl,hid ⟨by first | rfl | trivial,λ_=>rfl,λh=>by omega⟩⟩
 case round=>(obtain⟨i,r,hi,hr,rfl,rfl,HR⟩:=hrel;have hw:=HR.out.1.symm;subst hw;by_cases hi0:i<1;{obtain rfl:i=0:=by{omega};have HS:=hid (show r=reg (l.take 0) by rw[HR.out.2.1 rfl];simp[reg]);clear HR;go_wp2_with fail;(go_loopw [3,7,8,17] (λrv _ _ jv w'=>∃ j r:Nat,j<=n/\r<4294967296/\rv = .int .u32 r/\jv = .int .i64 j/\Hid (w'=w/\r=reg (l.take j))) (λ_ _ _ jv _=>n - (intOf jv).toNat));(case atStart=>exact⟨0,r,Nat.zero_le _,hr,rfl,rfl,hid ⟨by first | rfl | trivial,HS.out⟩⟩);case round=>(clear HS hr;obtain⟨j,r,hj,hr,rfl,rfl,HR⟩:=hrel;have hw:=HR.out.1.symm;subst hw;by_cases hjn:j<n;{have q1:(j:Int)<n:=by{omega};have hjl:j<l.length:=by{rw[H.out.2];exact hjn};obtain⟨ad,had,hc⟩:=H.out.1.2 (by omega);subst had;have c0:=hc j (.int .u8 (l[j].toNat:Int)) (by simp[z0B,hjl]);obtain⟨x,hx⟩:=zX1 (l[j].toNat);have hx2:x<256:=by{rw[hx];exact l[j].toNat_lt};rw[<-hx] at c0;have b0:=u32_xor_nat r x hr (by omega);have hr2:r ^^^ x<4294967296:=Nat.xor_lt_two_pow (n:=32) hr (by omega);have HS:=hid (show reg (l.take (j+1))=turns 8 (r ^^^ x) by{rw[List.take_add_one,List.getElem?_eq_getElem hjl,Option.toList_some,zlA,<-HR.out.2,hx];rfl});obtain⟨r2,hr2'⟩:=zX1 (r ^^^ x);rw[<-hr2'] at b0 hr2 HS;clear hc hx HR hr2';go_wp2_with (at_builtin;refine z0H ?_;intro q hq);clear b0 c0;(go_loopw [3,8,25] (λrv _ kv w'=>∃ k r:Nat,k<=8/\r<4294967296/\rv = .int .u32 r/\kv = .int .i64 k/\Hid (w'=w/\r=turns k r2)) (λ_ _ kv _=>8 - (intOf kv).toNat));(case atStart=>exact⟨0,r2,Nat.zero_le _,hr2,by first | rfl | simp,rfl,hid ⟨by first | rfl | trivial,rfl⟩⟩);case round=>(obtain⟨k,q,hk,hq,rfl,rfl,HR⟩:=hrel;have hw:=HR.out.1.symm;subst hw;by_cases hk8:k<8;{have q2:(k:Int)<8:=by{omega};have b1:=u32_and_nat q 1 hq (by decide);rw[nat_mask1] at b1;have b2:=shr1 q;have hq2:q / 2<4294967296:=by{omega};by_cases hodd:q % 2=1;{have b3:bits .and .u32 (q:Int) 1=1:=by{rw[show (1:Int)=((1:Nat):Int) from rfl,b1,hodd]};have b4:bits .xor .u32 ((q / 2:Nat):Int) 3988292384=((BM.turn q:Nat):Int):=by{rw[zsG hodd];exact u32_xor_nat (q / 2) 3988292384 hq2 (by decide)};have HT:=hid (show BM.turn q=turns (k+1) r2 by rw[zaM,<-HR.out.2]);have hT:=zwH hq;obtain⟨t,ht⟩:=zX1 (BM.turn q);obtain⟨h,hh⟩:∃ t,t=q / 2:=⟨_,rfl⟩;rw[<-ht] at HT hT b4;rw[<-hh] at b4 b2;clear b1 hq2 hodd ht hh;go_wp2_with fail;exact⟨⟨k+1,t,by omega,hT,by go_num,by go_num,hid ⟨by first | rfl | trivial,HT.out⟩⟩,by simp[intOf];omega⟩};{have b3:bits .and .u32 (q:Int) 1=0:=by{rw[show (1:Int)=((1:Nat):Int) from rfl,b1,show q % 2=0 by omega];rfl};have HT:=hid (show q / 2=turns (k+1) r2 by rw[zaM,<-HR.out.2,zpJ (by omega)]);obtain⟨h,hh⟩:∃ t,t=q / 2:=⟨_,rfl⟩;rw[<-hh] at b2 HT hq2;clear b1 hodd hh;go_wp2_with fail;exact⟨⟨k+1,h,by omega,hq2,by go_num,by go_num,hid ⟨by first | rfl | trivial,HT.out⟩⟩,by simp[intOf];omega⟩}};{have q2:decide ((k:Int)<8)=false:=by{simp;omega};obtain rfl:k=8:=by{omega};have HZ:=hid (show q=reg (l.take (j+1)) by rw[HS.out,<-HR.out.2]);clear HR;go_wp2_with (at_builtin;refine z0H ?_;intro q hq);go_roundw;(case rel=>exact⟨j+1,q,by omega,hq,by go_num,by go_num,hid ⟨by first | rfl | trivial,HZ.out⟩⟩);case measure=>simp[intOf];omega})};{have q1:decide ((j:Int)<(n:Int))=false:=by{simp;omega};have HZ:=hid (show r=reg l by rw[HR.out.2,List.take_of_length_le (by rw[H.out.2];omega)]);clear HR;go_wp2_with fail;go_roundw;(case rel=>exact⟨0+1,r,by omega,hr,by go_num,by go_num,hid ⟨by first | rfl | trivial,λh=>by omega,λ_=>HZ.out⟩⟩);case measure=>simp[intOf] <;> omega})};{have q0:decide ((i:Int)<1)=false:=by{simp;omega};have Hr:=hid (HR.out.2.2 (by omega));clear HR;go_wp2_with fail;go_ret;refine⟨?_,by first | rfl | trivial⟩;have e:bits .xor .u32 IntKind.u32.max (r:Int)=((4294967295 - r:Nat):Int):=by{rw[show IntKind.u32.max=((4294967295:Nat):Int) from rfl,u32_xor_nat _ _ (by decide) hr,zoD r hr]};show Ending.returned (Value.int .u32 (bits .xor .u32 IntKind.u32.max (r:Int)))=_;rw[e,Hr.out];rfl})
theorem zlE (w:World) (ao:Option Addr) (n c:Nat) (l:List UInt8) (h:Cells w ao n 1 (z0B l)) (hn:n<=1000000000) :
  Calls Tryz.prog 135 #[.slice ao n c] w λe w'=>e = .returned (.int .u32 (crc l:Nat))/\w'=w:=by
 have hl:l.length=n:=by{have:=h.1;rw[z0C] at this;omega};have H:=hid (zA1 h hl);clear h hl;go_enter Tryz.func135,Tryz.ntmps135;go_wp2_with fail
 go_loopw [3,4,5,6,7] (λrv jv _ _ _ w'=>∃ j r:Nat,j<=n/\r<4294967296/\rv = .int .u32 r/\jv = .int .i64 j/\Hid (w'=w/\r=reg (l.take j))) (λ_ jv _ _ _ _=>n - (intOf jv).toNat)
 case atStart=>exact⟨0,4294967295,Nat.zero_le _,by decide,by first | rfl | simp,rfl,hid ⟨by first | rfl | trivial,by simp[reg]⟩⟩
 case round=>
  obtain⟨j,r,hj,hr,rfl,rfl,HR⟩:=hrel;have hw:=HR.out.1.symm;subst hw;by_cases hjn:j<n
  ·have q1:(j:Int)<n:=by omega
   have hjl:j<l.length:=by{rw[H.out.2];exact hjn};obtain⟨ad,had,hc⟩:=H.out.1.2 (by omega);subst had;have c0:=hc j (.int .u8 (l[j].toNat:Int)) (by simp[z0B,hjl]);obtain⟨x,hx⟩:=zX1 (l[j].toNat);have hx2:x<256:=by{rw[hx];exact l[j].toNat_lt};rw[<-hx] at c0;have HS:=hid (show reg (l.take (j+1))=z8O x 8 r by{rw[List.take_add_one,List.getElem?_eq_getElem hjl,Option.toList_some,zlA,<-HR.out.2,hx,ztB _ _ l[j].toNat_lt]});clear hc hx HR;go_wp2_with (at_builtin;refine z0H ?_;intro q hq)
   go_loopw [3,5,6,7] (λrv kv _ _ w'=>∃ k q:Nat,k<=8/\q<4294967296/\rv = .int .u32 q/\kv = .int .i64 k/\Hid (w'=w/\q=z8O x k r)) (λ_ kv _ _ _=>8 - (intOf kv).toNat)
   case atStart=>exact⟨0,r,Nat.zero_le _,hr,rfl,rfl,hid ⟨by first | rfl | trivial,rfl⟩⟩
   case round=>
    obtain⟨k,q,hk,hq,rfl,rfl,HR⟩:=hrel;have hw:=HR.out.1.symm;subst hw;by_cases hk8:k<8
    ·have q2:(k:Int)<8:=by omega
     have e1:((q:Int) % 2 == 1)=decide (q % 2=1):=by{rw[Bool.eq_iff_iff];simp;omega};have e2:((x:Int) / 2 ^ k).tmod 2=((x / 2 ^ k % 2:Nat):Int):=by{have:(x:Int) / 2 ^ k=((x / 2 ^ k:Nat):Int):=by{simp};rw[this];rfl};have e3:(((x:Int) / 2 ^ k).tmod 2 == 1)=zjF x k:=by{rw[e2];unfold zjF;generalize x / 2 ^ k % 2=m;rw[Bool.eq_iff_iff,beq_iff_eq,decide_eq_true_iff];omega};have b4:bits .xor .u32 ((q / 2:Nat):Int) 3988292384=((q / 2 ^^^ 3988292384:Nat):Int):=u32_xor_nat (q / 2) 3988292384 (by omega) (by decide);have b5:=shr1 q;have HT:=hid (show z8O x (k+1) r=zrM q (zjF x k) by rw[HR.out.2];rfl);have hq2:q / 2<4294967296:=by{omega};have hq3:q / 2 ^^^ 3988292384<4294967296:=Nat.xor_lt_two_pow (n:=32) hq2 (by decide);unfold zrM at HT;cases hA:decide (q % 2=1)
     all_goals
      cases hB:zjF x k
      all_goals
       rw[hA] at e1;rw[hB] at e3;have h2:=HT.out;rw[hA,hB] at h2
       first
        | replace h2:=h2.trans (if_pos (by decide))
        | replace h2:=h2.trans (if_neg (by decide))
       have HT2:=hid h2;clear h2;obtain⟨h,hh⟩:=zX1 (q / 2);rw[<-hh] at b4 b5 HT2 hq2 hq3;obtain⟨t,ht⟩:=zX1 (h ^^^ 3988292384);rw[<-ht] at b4 hq3
       try rw[<-ht] at HT2
       clear hA hB e2 hh ht HT;go_wp2_with fail
       first
        | exact⟨⟨k+1,t,by omega,hq3,by go_num,by go_num,hid ⟨by first | rfl | trivial,HT2.out.symm⟩⟩,by simp[intOf];omega⟩
        | exact⟨⟨k+1,h,by omega,hq2,by go_num,by go_num,hid ⟨by first | rfl | trivial,HT2.out.symm⟩⟩,by simp[intOf];omega⟩
    {have q2:decide ((k:Int)<8)=false:=by{simp;omega};obtain rfl:k=8:=by{omega};have HZ:=hid (show q=reg (l.take (j+1)) by rw[HS.out,<-HR.out.2]);clear HR;go_wp2_with (at_builtin;refine z0H ?_;intro q hq);go_roundw;(case rel=>exact⟨j+1,q,by omega,hq,by go_num,by go_num,hid ⟨by first | rfl | trivial,HZ.out⟩⟩);case measure=>simp[intOf];omega}
  {have q1:decide ((j:Int)<(n:Int))=false:=by{simp;omega};have HZ:=hid (show r=reg l by rw[HR.out.2,List.take_of_length_le (by rw[H.out.2];omega)]);have q3:(4294967295:Int) - (r:Int)=((4294967295 - r:Nat):Int):=by{omega};clear HR;go_wp2_with fail;go_ret;exact⟨by rw[HZ.out];rfl,by first | rfl | trivial⟩}
theorem zhD (n:Nat) (hn:n<4294967296):z0B (be4 n) = [.int .u8 ((n / 16777216:Nat):Int),.int .u8 ((n / 65536 % 256:Nat):Int),.int .u8 ((n / 256 % 256:Nat):Int),.int .u8 ((n % 256:Nat):Int)]:=by
 simp only[z0B,be4,List.map_cons,List.map_nil,UInt8.toNat_ofNat'];rw[show n / 16777216 % 256=n / 16777216 by omega]
theorem zuX {w w1:World} {n:Nat} {cs:Array Value} (hw:w1=w.alloc (.cells cs 5)) (h:cs.toList=z0B (be4 n)):Fresh w (.slice (some ⟨w.heap.size,0,none⟩) 4 4) (be4 n) w1:=by
 subst hw;have hs:cs.size=4:=by{rw[<-Array.length_toList,h,z0C];rfl};refine⟨⟨by rw[z0C];rfl,.inr ⟨w.heap.size,4,cs,(0,0),rfl,heap_alloc_new w _,Free.zero _,Nat.le_refl _,by unfold maxLen;decide,hs,?_⟩⟩,(Keep.refl _ _).alloc _,λk e=>by simp[Value.ownBlock] at e;omega⟩;rw[List.take_of_length_le (by rw[Array.length_toList,hs];exact Nat.le_refl 4),h]
theorem wi64 (a:Nat) (h:a<=9223372036854775807):IntKind.i64.wrap (a:Int)=(a:Int):=by
 simp[IntKind.wrap,IntKind.signed,IntKind.bits];omega
theorem wu32 (a:Nat) (h:a<4294967296):IntKind.u32.wrap (a:Int)=(a:Int):=by
 rw[IntKind.wrap_u32];omega
theorem wu64 (a:Nat) (h:a<18446744073709551616):IntKind.u64.wrap (a:Int)=(a:Int):=by
 rw[IntKind.wrap_u64];omega
theorem wu8 (a:Nat) (h:a<256):IntKind.u8.wrap (a:Int)=(a:Int):=by
 rw[IntKind.wrap_u8];omega
theorem zaU (w:World) (n:Nat) (hn:n<4294967296) :
  Calls Tryz.prog 139 #[.int .u32 n] w λe w'=>e = .returned (.slice (some ⟨w.heap.size,0,none⟩) 4 4)/\Fresh w (.slice (some ⟨w.heap.size,0,none⟩) 4 4) (be4 n) w':=by
 go_enter Tryz.func139,Tryz.ntmps139;go_wp2_with fail;go_ret;refine⟨by rfl,zuX rfl ?_⟩;rw[zhD n hn];simp
theorem z9F (w:World) (n:Nat) (hn:n<4294967296) :
  Calls Tryz.prog 154 #[.int .u32 n] w λe w'=>e = .returned (.slice (some ⟨w.heap.size,0,none⟩) 4 4)/\Fresh w (.slice (some ⟨w.heap.size,0,none⟩) 4 4) (be4 n) w':=by
 go_enter Tryz.func154,Tryz.ntmps154;go_wp2_with fail;go_ret;refine⟨by rfl,zuX rfl ?_⟩;rw[zhD n hn];simp
theorem zmK (w:World) (ao:Option Addr) (n c a:Nat) (l:List UInt8) (h:Cells w ao n 1 (z0B l)) (ha:a+4<=n) (hn:n<=1000000000) :
  Calls Tryz.prog 134 #[.slice ao n c,.int .i64 a] w λe w'=>e = .returned (.tuple #[.int .u32 (val4 l a:Nat),.int .i64 (a+4:Nat),.int .i64 0])/\Keep zF w w':=by
 have hl:l.length=n:=by{have:=h.1;rw[z0C] at this;omega};obtain⟨ad,rfl,hc⟩:=h.2 (by omega);have get:∀ j,a<=j->j<a+4->w.cell? (ad.add j)=some (.int .u8 ((l.getD j 0).toNat:Int)):=λj h1 h2=>by{have hj:j<l.length:=by{omega};refine hc j _ ?_;simp[z0B,hj]};have g0:=get a (Nat.le_refl _) (by omega);have g1:=get (a+1) (by omega) (by omega);have g2:=get (a+2) (by omega) (by omega);have g3:=get (a+3) (by omega) (by omega);have hv:val4 l a=(l.getD a 0).toNat * 16777216+(l.getD (a+1) 0).toNat * 65536+(l.getD (a+2) 0).toNat * 256+(l.getD (a+3) 0).toNat:=rfl;have b0:=(l.getD a 0).toNat_lt;have b1:=(l.getD (a+1) 0).toNat_lt;have b2:=(l.getD (a+2) 0).toNat_lt;have b3:=(l.getD (a+3) 0).toNat_lt;generalize (l.getD a 0).toNat=x0 at *;generalize (l.getD (a+1) 0).toNat=x1 at *;generalize (l.getD (a+2) 0).toNat=x2 at *;generalize (l.getD (a+3) 0).toNat=x3 at *;have Hv:=hid hv;obtain⟨a1,ha1⟩:∃ k,k=a+1:=⟨_,rfl⟩;obtain⟨a2,ha2⟩:∃ k,k=a+2:=⟨_,rfl⟩;obtain⟨a3,ha3⟩:∃ k,k=a+3:=⟨_,rfl⟩;obtain⟨a4,ha4⟩:∃ k,k=a+4:=⟨_,rfl⟩;rw[<-ha1] at g1;rw[<-ha2] at g2;rw[<-ha3] at g3;have e1:(a:Int)+1=(a1:Int):=by{omega};have e2:(a:Int)+2=(a2:Int):=by{omega};have e3:(a:Int)+3=(a3:Int):=by{omega};have e4:(a:Int)+4=(a4:Int):=by{omega};obtain⟨p0,hp0⟩:∃ k,k=x0 * 16777216:=⟨_,rfl⟩;obtain⟨p1,hp1⟩:∃ k,k=x1 * 65536:=⟨_,rfl⟩;obtain⟨p2,hp2⟩:∃ k,k=x2 * 256:=⟨_,rfl⟩;obtain⟨s1,hs1⟩:∃ k,k=p0+p1:=⟨_,rfl⟩;obtain⟨s2,hs2⟩:∃ k,k=s1+p2:=⟨_,rfl⟩;obtain⟨s3,hs3⟩:∃ k,k=s2+x3:=⟨_,rfl⟩;have v0:(x0:Int) * 16777216=(p0:Int):=by{omega};have v1:(x1:Int) * 65536=(p1:Int):=by{omega};have v2:(x2:Int) * 256=(p2:Int):=by{omega};have v3:(p0:Int)+(p1:Int)=(s1:Int):=by{omega};have v4:(s1:Int)+(p2:Int)=(s2:Int):=by{omega};have v5:(s2:Int)+(x3:Int)=(s3:Int):=by{omega};have y0:=wu32 x0 (by omega);have y1:=wu32 x1 (by omega);have y2:=wu32 x2 (by omega);have y3:=wu32 x3 (by omega);have y4:=wu32 p0 (by omega);have y5:=wu32 p1 (by omega);have y6:=wu32 p2 (by omega);have y7:=wu32 s1 (by omega);have y8:=wu32 s2 (by omega);have y9:=wu32 s3 (by omega);have z1:=wi64 a1 (by omega);have z2:=wi64 a2 (by omega);have z3:=wi64 a3 (by omega);have z4:=wi64 a4 (by omega);have hval:s3=val4 l a:=by{omega};have Hval:=hid hval;have l0:a<n:=by{omega};have l1:a1<n:=by{omega};have l2:a2<n:=by{omega};have l3:a3<n:=by{omega};have Ha1:=hid ha1;have Ha2:=hid ha2;have Ha3:=hid ha3;have Ha4:=hid ha4;have t0:decide ((a:Int)<0)=false:=decide_eq_false (by omega);have t1:decide ((n:Int) - (a:Int)<4)=false:=decide_eq_false (by omega);have t3:decide ((n:Int)<(a:Int))=false:=decide_eq_false (by omega);have t2:decide (n<a)=false:=decide_eq_false (by omega);clear hc get hl hv hval hp0 hp1 hp2 hs1 hs2 hs3 b0 b1 b2 b3 ha1 ha2 ha3 ha4 ha;go_enter Tryz.func134,Tryz.ntmps134;go_wp2_with fail;refine z0F [] (by kernel_rfl) (by kernel_rfl) ?_
 repeat (first | (apply z0E (by rfl);(intro K w';go_simp;exact id)) | (apply z0J (by rfl);(intro K;go_simp;exact id)))
 refine z0O ?_;go_wp2_with fail
 go_ret3
 rw[<-Hval.out,<-Ha4.out];refine⟨?_,?_⟩;{first | rfl | simp};{exact(Keep.refl _ _).drew}
def hb (l:List UInt8) (a:Nat):Nat→Nat
 | 0=>0
 | k+1=>hb l a k * 256+(l.getD (a+k) 0).toNat
theorem zwS (l:List UInt8) (a:Nat):∀ k,hb l a k<256 ^ k
 | 0=>by simp[hb]
 | k+1=>by have:=zwS l a k;have h:=(l.getD (a+k) 0).toNat_lt;rw[Nat.pow_succ];unfold hb;omega
theorem hb4 (l:List UInt8) (a:Nat):hb l a 4=val4 l a:=by
 simp only[hb,val4,Nat.add_zero];omega
theorem zqD (w:World) (ao:Option Addr) (n c a:Nat) (l:List UInt8) (h:Cells w ao n 1 (z0B l)) (ha:a+4<=n) (hnc:n<=c) (hn:n<=1000000000) :
  Calls Tryz.prog 151 #[.slice ao n c,.int .i64 a] w λe w'=>e = .returned (.tuple #[.int .u32 (val4 l a:Nat),.int .i64 (a+4:Nat),.int .i64 0])/\Keep zF w w':=by
 have hl:l.length=n:=by{have:=h.1;rw[z0C] at this;omega};obtain⟨a4,ha4⟩:∃ k,k=a+4:=⟨_,rfl⟩;have e4:(a:Int)+4=(a4:Int):=by{omega};have hs:=λw=>z1V (P:=Tryz.prog) z0S ao n c .i64 .i64 a a4 (by omega) (by omega) w;rw[show a4 - a=4 by omega] at hs;have H0:=(show Cells w (z1G ao c a 1) 4 1 (z0B ((l.drop a).take 4)) by{have:=(h.tail a (by omega) hnc (by decide)).take 4 (by omega);simpa [z0B,List.map_drop,List.map_take] using this});obtain⟨ad,had,hc⟩:=H0.2 (by decide);rw[had] at hs;have H:=hid (show ∀ w',Keep zF w w'->∀ k,k<4->w'.cell? (ad.add k)=some (.int .u8 ((l.getD (a+k) 0).toNat:Int)) by{intro w' hw' k hk;rw[had] at H0;obtain⟨ad',e',hc'⟩:=(H0.keep hw' zI).2 (by decide);cases e';refine hc' k _ ?_;have hj:a+k<l.length:=by{omega};simp[z0B,hk,hj]});clear hc H0 had;have t0:decide ((a:Int)<0)=false:=decide_eq_false (by omega);obtain⟨d,hd⟩:=zX1 (n - a);have e5:(n:Int) - (a:Int)=(d:Int):=by{omega};have b5:d<=1000000000:=by{omega};have t1:decide ((d:Int)<4)=false:=decide_eq_false (by omega);have t4:decide (d<4)=false:=decide_eq_false (by omega);have t3:decide ((n:Int)<(a:Int))=false:=decide_eq_false (by omega);have t2:decide (n<a)=false:=decide_eq_false (by omega);have z4:=wi64 a4 (by omega);have Ha:=hid (zA1 ha4 hl);have Hn:=hid ha;clear ha4 hl ha h hn hnc hd;go_enter Tryz.func151,Tryz.ntmps151;go_wp2_with fail
 go_loopw [7,9,29,38] (λrv _ iv _ wr=>∃ k:Nat,k<=4/\rv = .int .u32 (hb l a k:Nat)/\iv = .int .i64 k/\Hid (Keep zF w wr)) (λ_ _ iv _ _=>4 - (intOf iv).toNat)
 case atStart=>exact⟨0,Nat.zero_le _,rfl,rfl,hid (by first | exact Keep.refl _ _ | exact(Keep.refl _ _).drew)⟩
 case round=>(obtain⟨k,hk,rfl,rfl,HR⟩:=hrel;by_cases hk4:k<4;{have c0:=H.out wr HR.out k hk4;have q1:(k:Int)<4:=by{omega};have b0:=(l.getD (a+k) 0).toNat_lt;have hv:=zwS l a k;have hv':hb l a k<16777216:=Nat.lt_of_lt_of_le hv (Nat.le_trans (Nat.pow_le_pow_right (by decide) (show k<=3 by omega)) (by decide));have hn1:=hid (show hb l a (k+1)=hb l a k * 256+(l.getD (a+k) 0).toNat from rfl);obtain⟨v,ev⟩:=zX1 (hb l a k);obtain⟨x,ex⟩:=zX1 ((l.getD (a+k) 0).toNat);rw[<-ev,<-ex] at hn1;rw[<-ex] at c0 b0;rw[<-ev] at hv' |-;obtain⟨v8,e8⟩:=zX1 (v * 256);have b1:(v:Int) * 256=(v8:Int):=by{omega};have b2:=wu32 v8 (by omega);have b3:=wu32 x (by omega);have b4:=u32_or_nat v8 x (by omega) (by omega);rw[nat_join 8 v8 x (by omega) (by omega)] at b4;obtain⟨y,hy⟩:=zX1 (v8+x);rw[<-hy] at b4;have HY:=hid (show y=hb l a (k+1) by rw[hn1.out];omega);clear hv ev ex e8 hv' b0 hy hn1;go_wp2_with fail;exact⟨⟨k+1,by omega,by rw[HY.out],by go_num,HR⟩,by simp[intOf];omega⟩};{have q1:decide ((k:Int)<4)=false:=decide_eq_false (by omega);obtain rfl:k=4:=by{omega};go_wp2_with fail;(go_ret3);refine⟨?_,HR.out⟩;rw[hb4 l a,<-Ha.out.1];rfl})
theorem Fresh.nil (w:World):Fresh w (.slice none 0 0) [] w:=⟨Row.nil _ _ _,Keep.refl _ _,λk e=>by simp[Value.ownBlock] at e⟩
theorem z3B {w w1:World} {l:List UInt8} {n:Nat} {cs:Array Value} (hw:w1=w.alloc (.cells cs 5)) (h:cs.toList=z0B l) (hn:l.length=n) (hm:n<=maxLen):Fresh w (.slice (some ⟨w.heap.size,0,none⟩) n n) l w1:=by
 subst hw;have hs:cs.size=n:=by{rw[<-Array.length_toList,h,z0C];exact hn};rw[<-hn] at hs |-;refine⟨⟨by rw[z0C];omega,.inr ⟨w.heap.size,l.length,cs,(0,0),rfl,heap_alloc_new w _,Free.zero _,Nat.le_refl _,by omega,by omega,?_⟩⟩,(Keep.refl _ _).alloc _,λk e=>by simp[Value.ownBlock] at e;omega⟩;rw[List.take_of_length_le (by rw[Array.length_toList,hs];omega),h]
theorem FreshU.later {u:TypeId} {w w1 w2:World} {v:Value} {l:List UInt8} (h:FreshU u w v l w1) (hk:Keep zF w1 w2):FreshU u w v l w2:=
 ⟨h.row.keep hk zI,h.keep.next hk zI zI,h.own⟩
theorem FreshU.since {u:TypeId} {w w1 w2:World} {v:Value} {l:List UInt8} (h:FreshU u w1 v l w2) (hk:Keep zF w w1):FreshU u w v l w2:=
 ⟨h.row,hk.next h.keep zI zI,λk e=>Nat.le_trans hk.size (h.own k e)⟩
theorem z0I {w0 w:World} {a:Act} {K:Act->World->Prop} {Q:Exit->Act->World->Prop} {o:Oper} {l r:List UInt8} (s x:Operand)
  (ho:o.op = .call { callee:=.builtin .append,args:=#[s,x],argTypes:=#[29,29] })
  {v:Value} (hs:a.eval s=v) (hf:Fresh w0 v l w) (ao:Option Addr) (m c:Nat) (hx:a.eval x = .slice ao m c) (hsrc:Cells w ao m 1 (z0B r)) (hb:l.length+m<=140737488355328)
  (h:∀ v' w',Fresh w0 v' (l ++ r) w'->Keep (λk=>v.ownBlock=some k) w w'->K (a.put o.dst v') w'):o.wp Tryz.prog a w K Q:=by
 have hm:r.length=m:=by{have:=hsrc.1;rw[z0C] at this;omega};refine z0P z0S s x ho hs hf.row ao m c (z0B r) hx hsrc (z1I _) (by unfold maxLen;omega) (by omega) ?_;intro v2 w2 hr2 hk2 hv2;refine h v2 w2 ⟨?_,?_,?_⟩ hk2;{rw[z0Z,List.length_append,hm];exact hr2};{exact hf.keep.next hk2 (λi hi x=>x) (λi hi x=>by have:=hf.own i x;omega)};{intro k hk;rcases hv2 with ⟨h0,_⟩ | ⟨k',h1,h2⟩;{rw[h0] at hk;exact hf.own k hk};{rw[hk] at h1;cases h1;rcases h2 with h2 | h2;{exact hf.own k h2};{have:=hf.keep.size;omega}}}
def PutPost (w:World) (v2:Value) (l:List UInt8) (e:Ending) (w':World):Prop:=∃ v,e = .returned (.tuple #[v,v2])∧Fresh w v l w'
theorem zmF (w:World) (k:UInt8) (ao:Option Addr) (n c:Nat) (hn:1024<n) :
  Calls Tryz.prog 101 #[.int .u8 (k.toNat:Nat),.slice ao n c] w λe w'=>e = .returned (.tuple #[.slice none 0 0,.int .i64 3])/\w'=w:=by
 have hk:=k.toNat_lt;generalize k.toNat=x at *;have t:(1024:Int)<(n:Int):=by{omega};go_enter Tryz.func101,Tryz.ntmps101;go_wp2_with fail;go_ret2;exact⟨by rfl,by first | rfl | trivial⟩
theorem zjN (w:World) (k:UInt8) (ao:Option Addr) (n c:Nat) (l:List UInt8) (h:Cells w ao n 1 (z0B l)) (hn:n<=1024) :
  Calls Tryz.prog 101 #[.int .u8 (k.toNat:Nat),.slice ao n c] w (PutPost w (.int .i64 0) (frame k l)):=by
 have hl:l.length=n:=by{have:=h.1;rw[z0C] at this;omega};have H:=hid (zA1 h hl);have hkx:=hid (show z0B [167,k] = [.int .u8 167,.int .u8 (k.toNat:Int)] from rfl);have hk:=k.toNat_lt;generalize k.toNat=x at *;have t:decide ((1024:Int)<(n:Int))=false:=decide_eq_false (by omega);have t2:=wu32 n (by omega);clear hl h;go_enter Tryz.func101,Tryz.ntmps101;go_wp2_with fail;have hf1:Fresh w (.slice (some ⟨w.heap.size,0,none⟩) 2 2) [167,k] (w.alloc (.cells #[.int .u8 167,.int .u8 (x:Int)] 5)):=z3B rfl hkx.out.symm rfl (by unfold maxLen;decide);generalize w.alloc (.cells #[.int .u8 167,.int .u8 (x:Int)] 5)=w1 at *;have HF1:=hid hf1;clear hf1;refine(zaU w1 n (by omega)).mono ?_;rintro e2 w2 ⟨rfl,hf2⟩;have hf12:Fresh w (.slice (some ⟨w.heap.size,0,none⟩) 2 2) [167,k] w2:=HF1.out.later hf2.keep;have HF2:=hid (zA1 hf12 hf2);clear hf12 hf2;go_wp2_with (at_builtin;refine z0H ?_;intro q hq)
 (refine hq.out ?_;clear hq q)
 refine wpList_plain rfl (λK hK=>?_);refine z0I _ _ rfl rfl HF2.out.1 _ 4 4 rfl (Cells.of_row HF2.out.2.row) (by simp) ?_;intro v3 w3 hf3 _;refine hK _ _ ?_;clear hK K;have HF3:=hid hf3;clear hf3;go_wp2_with (at_builtin;refine z0H ?_;intro q hq)
 (refine hq.out ?_;clear hq q)
 refine wpList_plain rfl (λK hK=>?_);refine z0I _ _ rfl rfl HF3.out ao n c rfl ((H.out.1).keep HF3.out.keep zI) (by simp[be4];omega) ?_;intro v4 w4 hf4 _;refine hK _ _ ?_;clear hK K;have e4:([167,k] ++ be4 n) ++ l=front k l:=by{simp[front,H.out.2]};rw[e4] at hf4;obtain⟨g4,c4,rfl⟩:∃ g c,v4 = .slice (some ⟨g,0,none⟩) (n+6) c:=by{have hlen:(front k l).length=n+6:=by{simp[front,be4,H.out.2]};have hr:=hf4.row;rw[hlen] at hr;obtain⟨g,c,cur,fz,hv,_⟩:=hr.some (by omega);exact⟨g,c,hv⟩};have HF4:=hid hf4;clear hf4 e4;go_wp2_with fail;obtain⟨w5,hw5⟩:=zX1 (w4.alloc (.cells #[.slice (some ⟨g4,0,none⟩) (n+6) c4] 29));have hk5:Keep zF w4 w5:=by{rw[hw5];exact(Keep.refl _ _).alloc _};have hc5:w5.cell? ⟨w4.heap.size,0,none⟩=some (.slice (some ⟨g4,0,none⟩) (n+6) c4):=by{rw[hw5,cell_of_row _ _ _ _ _ _ (heap_alloc_new w4 _)];rfl};rw[<-hw5];clear hw5;have hlen:(front k l).length=n+6:=by{simp[front,be4,H.out.2]};have hr5:=(HF4.out.later hk5).row;rw[hlen] at hr5;refine(zsD w5 w4.heap.size (some ⟨g4,0,none⟩) (n+6) c4 (front k l) hc5 (Cells.of_row hr5) (by omega)).mono ?_;rintro e6 w6 ⟨rfl,rfl⟩;have HF5:=hid (HF4.out.later hk5);clear hk5 hc5 hr5;go_wp2_with fail;refine(zaU w6 (crc (front k l)) (zoP _)).mono ?_;rintro e7 w7 ⟨rfl,hf7⟩;have HF6:=hid (zA1 (HF5.out.later hf7.keep) hf7);clear hf7;go_wp2_with (at_builtin;refine z0H ?_;intro q hq)
 (refine hq.out ?_;clear hq q)
 refine wpList_plain rfl (λK hK=>?_);refine z0I _ _ rfl rfl HF6.out.1 _ 4 4 rfl (Cells.of_row HF6.out.2.row) (by omega) ?_;intro v8 w8 hf8 _;refine hK _ _ ?_;clear hK K;have HF8:=hid hf8;clear hf8;go_wp2_with fail;go_ret2;exact⟨_,rfl,HF8.out⟩
theorem zuR {f m:Nat} (h:128<=m):putU (f+1) m=UInt8.ofNat (m % 128+128) :: putU f (m / 128):=by
 show (if m<128 then _ else _)=_;rw[if_neg (by omega)]
theorem znL {f m:Nat} (h:m<128):putU (f+1) m = [UInt8.ofNat m]:=by
 show (if m<128 then _ else _)=_;rw[if_pos h]
theorem Cells.one {w:World} {g:Nat} {x:Nat} {T:TypeId} {fz:Nat×Nat} (hx:x<256) (hg:w.heap[g]?=some (.cells #[.int .u8 (x:Int)] T fz)):Cells w (some ⟨g,0,none⟩) 1 1 (z0B [UInt8.ofNat x]):=by
 refine⟨rfl,λ_=>⟨_,rfl,λj u hu=>?_⟩⟩;rw[z0L,Nat.zero_add,cell_of_row _ _ _ _ _ _ hg];have e:z0B [UInt8.ofNat x] = [.int .u8 (x:Int)]:=by{simp[z0B,Nat.mod_eq_of_lt hx]};rw[e] at hu;simpa using hu
def PutU (w:World) (l:List UInt8) (e:Ending) (w':World):Prop:=∃ v,e = .returned v∧Fresh w v l w'
theorem z4M (w:World) (n:Nat) (hn:n<18446744073709551616) :
  Calls Tryz.prog 109 #[.int .u64 (n:Nat)] w (PutU w (z0K n)):=by
 go_enter Tryz.func109,Tryz.ntmps109;go_wp2_with fail
 go_loopw [0,3] (λnv ov wr=>∃ m f:Nat,∃ l,m<18446744073709551616/\nv = .int .u64 (m:Nat)/\Hid (Fresh w ov l wr/\f<=10/\0<f/\m<128 ^ f/\l.length<=10 - f/\l ++ putU f m=z0K n)) (λnv _ _=>(intOf nv).toNat)
 case atStart=>(refine⟨n,10,[],hn,rfl,hid ⟨?_,by omega,by omega,Nat.lt_of_lt_of_le hn (by decide),by simp,rfl⟩⟩;first | exact Fresh.nil w | exact(Fresh.nil w).later (Keep.refl _ _).drew)
 case round=>(obtain⟨m,f,l,hm,rfl,HR⟩:=hrel;obtain⟨f,rfl⟩:∃ f',f=f'+1:=⟨f - 1,by have:=HR.out.2.2.1;omega⟩;by_cases h128:128<=m;{obtain⟨r,hr⟩:=zX1 (m % 128);obtain⟨d,hd⟩:=zX1 (m / 128);obtain⟨r2,hr2⟩:=zX1 (r+128);have e1:(m:Int) % 128=(r:Int):=by{omega};have e2:(m:Int) / 128=(d:Int):=by{omega};have e3:(r:Int)+128=(r2:Int):=by{omega};have e4:=wu8 r (by omega);have e5:=wu8 r2 (by omega);have q1:(128:Int)<=(m:Int):=by{omega};have hd64:=hid (show d<18446744073709551616/\d<m/\r2<256 by omega);have HZ:=hid (show putU (f+1) m=UInt8.ofNat r2 :: putU f d by rw[zuR h128,hr2,hr,hd]);have HF:=hid (show 0<f/\d<128 ^ f by{have h1:=HR.out.2.2.2.1;rw[Nat.pow_succ] at h1;refine⟨Nat.pos_of_ne_zero λe=>?_,by omega⟩;subst e;simp at h1;omega});clear hr hd hr2;go_wp2_with (at_builtin;refine z0H ?_;intro q hq);(refine hq.out ?_;clear hq q);have hf:=HR.out.1;have hg:=heap_alloc_new wr (.cells #[.int .u8 (r2:Int)] 5);obtain⟨w2,hw2⟩:=zX1 (wr.alloc (.cells #[.int .u8 (r2:Int)] 5));have k2:Keep zF wr w2:=by{rw[hw2];exact(Keep.refl _ _).alloc _};rw[<-hw2] at hg |-;clear hw2;refine wpList_plain rfl (λK hK=>?_);refine z0I (r:=[UInt8.ofNat r2]) _ _ rfl rfl (hf.later k2) _ 1 1 rfl (Cells.one hd64.out.2.2 hg) (by have:=HR.out.2.2.2.2.1;omega) ?_;intro v3 w3 hf3 _;refine hK _ _ ?_;clear hK K;have HF3:=hid hf3;clear hf3 hf k2 hg;go_wp2_with fail;refine⟨⟨d,f,l ++ [UInt8.ofNat r2],hd64.out.1,rfl,hid ⟨HF3.out,by have:=HR.out.2.1;omega,HF.out.1,HF.out.2,?_,?_⟩⟩,?_⟩;{have h1:=HR.out.2.2.2.2.1;have h2:=HR.out.2.1;rw[List.length_append,List.length_singleton];omega};{rw[<-HR.out.2.2.2.2.2,HZ.out,List.append_assoc];rfl};{have:=hd64.out.2.1;simp[intOf];omega}};{have q1:decide ((128:Int)<=(m:Int))=false:=decide_eq_false (by omega);have q2:decide (128<=m)=false:=decide_eq_false (by omega);have e4:=wu8 m (by omega);have hm2:=hid (show m<128 by omega);clear h128;go_wp2_with (at_builtin;refine z0H ?_;intro q hq);(refine hq.out ?_;clear hq q);have hf:=HR.out.1;have hg:=heap_alloc_new wr (.cells #[.int .u8 (m:Int)] 5);obtain⟨w2,hw2⟩:=zX1 (wr.alloc (.cells #[.int .u8 (m:Int)] 5));have k2:Keep zF wr w2:=by{rw[hw2];exact(Keep.refl _ _).alloc _};rw[<-hw2] at hg |-;clear hw2;refine wpList_plain rfl (λK hK=>?_);refine z0I (r:=[UInt8.ofNat m]) _ _ rfl rfl (hf.later k2) _ 1 1 rfl (Cells.one (by have:=hm2.out;omega) hg) (by have:=HR.out.2.2.2.2.1;omega) ?_;intro v3 w3 hf3 _;refine hK _ _ ?_;clear hK K;rw[<-znL (f:=f) hm2.out,HR.out.2.2.2.2.2] at hf3;have HF3:=hid hf3;clear hf3 hf k2 hg;go_wp2_with fail;go_ret;exact⟨_,rfl,HF3.out⟩})
end
section
open Go.RowKit
theorem z8P {P:Program} {w:World} {t ty e:TypeId} {z:Value} {size bytes:Nat} (T:SliceTy P t e z size bytes) (g:Nat)
  (ao:Option Addr) (m c:Nat) (news:List Value) (hsrc:Cells w ao m size news) (h63:m<=maxLen) (hb:m * bytes<=140737488355328) :
  ∃ v' w',(Builtin.append_ #[t,t] ty #[.slice (some ⟨g,0,none⟩) 0 0,.slice ao m c]).run P w = .ok v' w'/\(m=0/\v' = .slice (some ⟨g,0,none⟩) 0 0/\w'=w∨0<m/\Row w' e size v' m news/\v'.ownBlock=some w.heap.size)/\Keep zF w w':=by
 obtain⟨ht,hinfo,hzs,hpos⟩:=T;obtain⟨i,hi,hz,hsize,hby⟩:∃ i,P.info? e=some i/\i.zero=some z/\i.size=size/\i.bytes=bytes:=by{cases hq:P.info? e with | none=>{simp[hq] at hinfo} | some i=>{simp[hq] at hinfo;exact⟨i,rfl,hinfo.1,hinfo.2.1,hinfo.2.2⟩}};subst hsize;subst hby;have hlen:news.length=m * i.size:=hsrc.1;have hf:=z4L (P:=P) i.size m ao c m news hsrc;by_cases hm:m=0;{subst hm;have hnn:news = []:=List.eq_nil_of_length_eq_zero (by simpa using hsrc.1);subst hnn;refine⟨.slice (some ⟨g,0,none⟩) 0 0,w,?_,.inl ⟨rfl,rfl,rfl⟩,Keep.refl _ _⟩;simp[Builtin.append_,run_underlying ht,sizeOf,typeInfo,hi,Builtin.lenOf,hf];rfl};{have hsrc':Cells w.drew ao m i.size news:=hsrc;have hf':=z4L (P:=P) (w:=w.drew) i.size m ao c m news hsrc';have hsmall:m<=9223372036854775807:=by{simp only[maxLen] at h63;omega};have hn:¬ (m<=0):=by{omega};have h63':¬ (9223372036854775807<(m:Int)):=by{omega};have h48':¬ (281474976710656<Builtin.nextslicecap m 0 * i.bytes):=by{have:=growslice_fits (need:=m) (old:=0) (bytes:=i.bytes) (by omega) hb;omega};have hold:Cells w.drew (some ⟨g,0,none⟩) 0 i.size []:=Cells.nil _ _ _;have hfo:=z4L (P:=P) (w:=w.drew) i.size 0 (some ⟨g,0,none⟩) 0 0 [] hold;have hge:=grownCap_ge w m 0 e;have hcm:grownCap w m 0 e<=maxLen:=grownCap_le_maxLen w m 0 e h63;refine⟨.slice (some ⟨w.heap.size,0,none⟩) m (grownCap w m 0 e),w.drew.alloc (.cells (news.toArray ++ Builtin.zeroCells z.cells (grownCap w m 0 e - m)) e),?_,.inr ⟨by omega,⟨hlen,.inr ⟨w.heap.size,_,_,(0,0),rfl,heap_alloc_new w.drew _,Free.zero _,hge,hcm,?_,?_⟩⟩,rfl⟩,((Keep.refl _ w).drew).alloc _⟩;{simp[Builtin.append_,run_underlying ht,sizeOf,typeInfo,zeroValue,hi,hz,Builtin.lenOf,hm,h63',h48',Question.forced,hf',hfo,newRow,grownCap]};{simp only[Array.size_append,List.size_toArray,size_zeroCells,hzs,hlen,<-Nat.add_mul];congr 1;omega};{simp only[Array.toList_append];rw[<-hlen];exact List.take_left}}
theorem z3N {w0 w:World} {a:Act} {K:Act->World->Prop} {Q:Exit->Act->World->Prop} {o:Oper} {r:List UInt8} (s x:Operand)
  (ho:o.op = .call { callee:=.builtin .append,args:=#[s,x],argTypes:=#[29,29] })
  {g:Nat} (hs:a.eval s = .slice (some ⟨g,0,none⟩) 0 0) (hf:Fresh w0 (.slice (some ⟨g,0,none⟩) 0 0) [] w) (ao:Option Addr) (m c:Nat) (hx:a.eval x = .slice ao m c) (hsrc:Cells w ao m 1 (z0B r)) (hb:m<=140737488355328)
  (h:∀ v' w',Fresh w0 v' r w'->Keep zF w w'->K (a.put o.dst v') w'):o.wp Tryz.prog a w K Q:=by
 have hm:r.length=m:=by{have:=hsrc.1;rw[z0C] at this;omega};obtain⟨v',w',hr,h2,h3⟩:=z8P (P:=Tryz.prog) (w:=w) (ty:=o.type) z0S g ao m c (z0B r) hsrc (by unfold maxLen;omega) (by omega);unfold Oper.wp execOp;simp only[ho,resolve,invoke,builtin,Sem.run_bind,Sem.run_pure,Result.andThen_ok,List.map_toArray,List.map_cons,List.map_nil,hs,hx,hr];refine h v' w' ?_ h3;rcases h2 with ⟨rfl,rfl,rfl⟩ | ⟨h0,h1,h2⟩;{have:r = []:=List.eq_nil_of_length_eq_zero hm;subst this;exact hf};{rw[<-hm] at h1;exact⟨h1,hf.keep.next h3 zI zI,λk hk=>by rw[h2] at hk;cases hk;exact hf.keep.size⟩}
open BM
def numV:Num→Value
 | .no e=>.tuple #[.int .u64 0,.int .i64 0,.int .i64 (e:Nat)]
 | .yes n to=>.tuple #[.int .u64 (n:Nat),.int .i64 (to:Nat),.int .i64 0]
theorem zbR (w:World) (ao:Option Addr) (n c a:Nat) (l:List UInt8) (h:Cells w ao n 1 (z0B l)) (ha:a≤n) (hn:n≤1000000000) :
  Calls Tryz.prog 127 #[.slice ao n c,.int .i64 a] w fun e w'=>e = .returned (numV (BM.uint l a))∧Keep (fun _=>False) w w':=by
 have hl:l.length=n:=by have:=h.1;rw[z0C] at this;omega
 have H:=hid (zA1 h hl);have HU:=hid (show BM.uint l a=digits l a 10 0 0 by unfold BM.uint;rw[if_neg (by omega)]);have t0:decide ((a:Int)<0)=false:=decide_eq_false (by omega);have t3:decide ((n:Int)<(a:Int))=false:=decide_eq_false (by omega);have t2:decide (n<a)=false:=decide_eq_false (by omega);clear hl h;go_enter Tryz.func127,Tryz.ntmps127;go_wp2_with fail
 go_step3
 go_wp2_with fail
 go_step3
 go_wp2_with fail
 go_loopw [7,8,9,18,62] (fun vv _ _ iv _ wr=>∃ i v:Nat,i≤10∧v<2 ^ (7 * i)∧vv = .int .u64 (v:Nat)∧iv = .int .i64 i∧Hid (Keep (fun _=>False) w wr∧BM.uint l a=digits l a (10 - i) i v)) (fun _ _ _ iv _ _=>10 - (intOf iv).toNat)
 case atStart=>exact⟨0,0,Nat.zero_le _,by decide,rfl,rfl,hid ⟨by first | exact Keep.refl _ _ | exact(Keep.refl _ _).drew,HU.out⟩⟩
 case round=>
  obtain⟨i,v,hi,hv,rfl,rfl,HR⟩:=hrel
  by_cases hi10:i<10
  ·have q1:(i:Int)<10:=by omega
   obtain⟨p,hp⟩:=zX1 (a+i);have e1:(a:Int)+(i:Int)=(p:Int):=by omega
   by_cases hpn:p<n
   ·have hpl:p<l.length:=by rw[H.out.2];exact hpn
    obtain⟨ad,had,hc⟩:=H.out.1.2 (by omega);subst had;obtain⟨x,hx⟩:=zX1 ((l.getD p 0).toNat);have hx2:x<256:=by rw[hx];exact(l.getD p 0).toNat_lt
    obtain⟨ad2,e2,hc2⟩:=((H.out.1).keep HR.out.1 (fun _ _ h=>h)).2 (by omega);cases e2
    have c0:wr.cell? (ad.add p)=some (.int .u8 (x:Int)):=by
     refine hc2 p _ ?_;rw[hx];simp[z0B,hpl]
    have HD:=hid (show BM.uint l a=if i=9∧1<x then .no 11 else if x=0∧0<i then .no 11 else if x<128 then .yes (v+x * 2 ^ (7 * i)) (a+i+1) else digits l a (9 - i) (i+1) (v+(x - 128) * 2 ^ (7 * i)) by
     rw[HR.out.2,show 10 - i=(9 - i)+1 by omega];show (if l.length≤a+i then _ else _)=_
     rw[if_neg (by omega),← hp,← hx])
    have HK:=hid HR.out.1;have q2:(p:Int)<n:=by omega
    have q3:decide (n≤p)=false:=decide_eq_false (by omega);have q4:decide ((n:Int)≤(p:Int))=false:=decide_eq_false (by omega);have HP:=hid hp;clear hc hc2 HR hx hp hpl;obtain⟨b9,hb9⟩:∃ b,b=decide (i=9):=⟨_,rfl⟩;obtain⟨b1,hb1⟩:∃ b,b=decide (1<x):=⟨_,rfl⟩;obtain⟨b0,hb0⟩:∃ b,b=decide (x=0):=⟨_,rfl⟩;obtain⟨bi,hbi⟩:∃ b,b=decide (0<i):=⟨_,rfl⟩;have r1:((i:Int) == 9)=b9:=by rw[hb9,Bool.eq_iff_iff];simp;omega
    have r3:decide ((1:Int)<(x:Int))=b1:=by rw[hb1,Bool.eq_iff_iff];simp;omega
    have r4:decide (1<x)=b1:=hb1.symm;have r5:((x:Int) == 0)=b0:=by rw[hb0,Bool.eq_iff_iff];simp
    have r7:decide ((0:Int)<(i:Int))=bi:=by rw[hbi,Bool.eq_iff_iff];simp <;> omega
    have r8:decide (0<i)=bi:=hbi.symm;have G:=hid (show (b9=true↔i=9)∧(b1=true↔1<x)∧(b0=true↔x=0)∧(bi=true↔0<i) by rw[hb9,hb1,hb0,hbi];simp);clear hb9 hb1 hb0 hbi
    have hc:(b9=true∧b1=true)∨(b9=true∧b1=false∧b0=true∧bi=true)∨(b9=false∧b0=true∧bi=true)∨(b9=true∧b1=false∧b0=false)∨(b9=false∧b0=true∧bi=false)∨(b9=false∧b0=false):=by
     have g:=G.out;cases b9 <;> cases b1 <;> cases b0 <;> cases bi <;> simp at g ⊢ <;> omega
    rcases hc with ⟨rfl,rfl⟩ | ⟨rfl,rfl,rfl,rfl⟩ | ⟨rfl,rfl,rfl⟩ | hc
    ·go_wp2_with (at_builtin;refine z0H ?_;intro q hq)
     try rw[Exit.noGoto_ret]
     go_ret3
     refine⟨?_,HK.out⟩;rw[HD.out,if_pos ⟨G.out.1.1 (by simp),G.out.2.1.1 (by simp)⟩];rfl
    ·go_wp2_with (at_builtin;refine z0H ?_;intro q hq)
     try rw[Exit.noGoto_ret]
     go_ret3
     refine⟨?_,HK.out⟩;rw[HD.out,if_neg (by intro h;have:=G.out.2.1.2 h.2;simp at this),if_pos ⟨G.out.2.2.1.1 (by simp),G.out.2.2.2.1 (by simp)⟩];rfl
    ·clear r3 r4
     go_wp2_with (at_builtin;refine z0H ?_;intro q hq)
     try rw[Exit.noGoto_ret]
     go_ret3
     refine⟨?_,HK.out⟩;rw[HD.out,if_neg (by intro h;have:=G.out.1.2 h.1;simp at this),if_pos ⟨G.out.2.2.1.1 (by simp),G.out.2.2.2.1 (by simp)⟩];rfl
    ·obtain⟨y,hy⟩:=zX1 (x % 128)
     have k1:bits .and .u8 (x:Int) 127=(y:Int):=by
      rw[show (127:Int)=((127:Nat):Int) from rfl,u8_and_nat x 127 hx2 (by decide),nat_mask7,hy]
     have k2:=wu64 y (by omega);obtain⟨s,hs⟩:=zX1 (7 * i);have k3:7 * (i:Int)=(s:Int):=by omega
     have hs63:s≤63:=by omega
     have HS:=hid (zA1 hs hy);clear hs hy
     have HC:=hid (show ¬ (i=9∧1<x)∧¬ (x=0∧0<i) by
      have g:=G.out
      rcases hc with ⟨rfl,rfl,rfl⟩ | ⟨rfl,rfl,rfl⟩ | ⟨rfl,rfl⟩ <;> simp at g <;> omega)
     have hq64:y * 2 ^ s<18446744073709551616:=by
      have h1:=HC.out.1;have hs:=HS.out.1;have hy:=HS.out.2
      by_cases h9:i=9
      ·have:y≤1:=by omega
       have:s=63:=by omega
       subst this;omega
      ·have hle:2 ^ s≤2 ^ 56:=Nat.pow_le_pow_right (by decide) (by omega)
       have hy2:y<128:=by omega
       calc y * 2 ^ s≤127 * 2 ^ 56:=Nat.mul_le_mul (by omega) hle
        _<_:=by decide
     have hv64:v<18446744073709551616:=Nat.lt_of_lt_of_le hv (Nat.le_trans (Nat.pow_le_pow_right (by decide) (show 7 * i≤63 by omega)) (by decide));have hj:=nat_join s (y * 2 ^ s) v (Nat.mul_mod_left _ _) (by rw[HS.out.1];exact hv);have k4:(y:Int) * 2 ^ s=((y * 2 ^ s:Nat):Int):=by push_cast;rfl
     obtain⟨q,hq⟩:=zX1 (y * 2 ^ s);rw[← hq] at hj k4 hq64;have k5:=wu64 q hq64;have k6:=u64_or_nat v q hv64 hq64;rw[Nat.or_comm,hj] at k6;obtain⟨z,hz⟩:=zX1 (q+v);rw[← hz] at k6;have HZ:=hid (zA1 hz hq);clear hz hq hj hv64 hq64
     by_cases hx8:x<128
     ·have HV:=hid (show BM.uint l a = .yes z (p+1) by
       rw[HD.out,if_neg HC.out.1,if_neg HC.out.2,if_pos hx8,HZ.out.1,HZ.out.2,HS.out.1,HS.out.2,HP.out,Nat.mod_eq_of_lt hx8,Nat.add_comm])
      have m1:(x:Int)<128:=by omega
      clear HD HC
      rcases hc with ⟨rfl,rfl,rfl⟩ | ⟨rfl,rfl,rfl⟩ | ⟨rfl,rfl⟩
      clear r7 r8
      rotate_left
      clear r3 r4
      rotate_left
      clear r3 r4 r7 r8
      rotate_left
      all_goals
       go_wp2_with fail
       try rw[Exit.noGoto_ret]
       go_ret3
       refine⟨?_,HK.out⟩;rw[HV.out];rfl
     ·have HV:=hid (show BM.uint l a=digits l a (10 - (i+1)) (i+1) z by
       rw[HD.out,if_neg HC.out.1,if_neg HC.out.2,if_neg hx8,HZ.out.1,HZ.out.2,HS.out.1,HS.out.2,show 10 - (i+1)=9 - i by omega,Nat.add_comm v];congr 3
       omega)
      have hz2:=hid (show z<2 ^ (7 * (i+1)) by
       have h1:=HZ.out;have h2:=HS.out;have hy2:y≤127:=by omega
       rw[show 7 * (i+1)=s+7 by omega,Nat.pow_add,h1.1,h1.2];rw[← h2.1] at hv;have:y * 2 ^ s≤127 * 2 ^ s:=Nat.mul_le_mul_right _ hy2
       omega)
      have m1:decide ((x:Int)<128)=false:=decide_eq_false (by omega);have m2:decide (x<128)=false:=decide_eq_false hx8;clear HD HC hx8
      rcases hc with ⟨rfl,rfl,rfl⟩ | ⟨rfl,rfl,rfl⟩ | ⟨rfl,rfl⟩
      clear r7 r8
      rotate_left
      clear r3 r4
      rotate_left
      clear r3 r4 r7 r8
      rotate_left
      all_goals
       go_wp2_with fail;exact⟨⟨i+1,z,by omega,hz2.out,by go_num,by go_num,hid ⟨HK.out,HV.out⟩⟩,by simp[intOf];omega⟩
   ·have q2:decide ((p:Int)<n)=false:=decide_eq_false (by omega)
    have q3:(n:Int)≤(p:Int):=by omega
    have HP:=hid (zA1 hp hpn);clear hp hpn;go_wp2_with fail
    try rw[Exit.noGoto_ret]
    go_ret3
    refine⟨?_,HR.out.1⟩;rw[HR.out.2,show 10 - i=(9 - i)+1 by omega];show _=Ending.returned (numV (if l.length≤a+i then _ else _));have hle:l.length≤a+i:=by have h1:=HP.out.1;have h2:=HP.out.2;have h3:=H.out.2;omega
    rw[if_pos hle];rfl
  ·obtain rfl:i=10:=by omega
   go_wp2_with fail
   try rw[Exit.noGoto_ret]
   try go_wp2
   try rw[Exit.noGoto_ret]
   go_ret3
   refine⟨?_,HR.out.1⟩;rw[HR.out.2];rfl
theorem zoB (w:World) (b:Value) (a m:Nat) (hm:m<=9) :
  Calls Tryz.prog 138 #[b,.int .i64 a,.int .i64 m] w λe w'=>e = .returned (.tuple #[.int .u64 0,.int .i64 0,.int .i64 10])/\w'=w:=by
 have t:((m:Int) == 10)=false:=by{simp;omega};go_enter Tryz.func138,Tryz.ntmps138;go_wp2_with fail
 go_ret3
 exact⟨by rfl,by first | rfl | trivial⟩
theorem z7Q (w:World) (ao:Option Addr) (n c a:Nat) (l:List UInt8) (h:Cells w ao n 1 (z0B l)) (ha:a≤n) (hn:n≤1000000000) :
  Calls Tryz.prog 98 #[.slice ao n c,.int .i64 a] w fun e w'=>e = .returned (numV (BM.uint l a))∧Keep (fun _=>False) w w':=by
 have hl:l.length=n:=by have:=h.1;rw[z0C] at this;omega
 have H:=hid (zA1 h hl);have t0:decide ((a:Int)<0)=false:=decide_eq_false (by omega);have t3:decide ((n:Int)<(a:Int))=false:=decide_eq_false (by omega);have t2:decide (n<a)=false:=decide_eq_false (by omega);clear hl h;go_enter Tryz.func98,Tryz.ntmps98;go_wp2_with fail
 go_loopw [7,19,39] (fun mv _ _ wr=>∃ m:Nat,m≤10∧mv = .int .i64 m∧Hid (Keep (fun _=>False) w wr∧a+m≤n∧∀ j,j<m→128≤(l.getD (a+j) 0).toNat)) (fun mv _ _ _=>10 - (intOf mv).toNat)
 case atStart=>exact⟨0,Nat.zero_le _,rfl,hid ⟨by first | exact Keep.refl _ _ | exact(Keep.refl _ _).drew,ha,fun j hj=>absurd hj (Nat.not_lt_zero _)⟩⟩
 case round=>
  obtain⟨m,hm,rfl,HR⟩:=hrel;obtain⟨p,hp⟩:=zX1 (a+m);have e1:(a:Int)+(m:Int)=(p:Int):=by omega
  have HP:=hid hp;have HK:=hid HR.out.1;have hpn:=HR.out.2.1;rw[← hp] at hpn;clear hp;have hB:=hid HR.out.2.2;clear HR
  by_cases hm10:m<10
  ·have q1:(m:Int)<10:=by omega
   by_cases hlt:p<n
   ·obtain⟨ad,had,hc⟩:=H.out.1.2 (by omega)
    subst had;have hpl:p<l.length:=by rw[H.out.2];exact hlt
    have G:=hid (show ∀ w',Keep (fun _=>False) w w'→∀ j,j<n→w'.cell? (ad.add j)=some (.int .u8 ((l.getD j 0).toNat:Int)) by
     intro w' hw' j hj;obtain⟨ad2,e2,hc2⟩:=((H.out.1).keep hw' (fun _ _ h=>h)).2 (by omega);cases e2;refine hc2 j _ ?_;have hjl:j<l.length:=by rw[H.out.2];exact hj
     simp[z0B,hjl])
    have c0:=G.out wr HK.out p hlt;obtain⟨x,hx⟩:=zX1 ((l.getD p 0).toNat);have hx2:x<256:=by rw[hx];exact(l.getD p 0).toNat_lt
    rw[← hx] at c0;have HX:=hid hx;have q2:(p:Int)<n:=by omega
    have q3:decide ((n:Int)≤(p:Int))=false:=decide_eq_false (by omega);have q4:decide (n≤p)=false:=decide_eq_false (by omega);clear hc hx hpl
    by_cases hx8:128≤x
    ·have m1:(128:Int)≤(x:Int):=by omega
     go_wp2_with fail;refine⟨⟨m+1,by omega,by go_num,hid ⟨HK.out,by have:=HP.out;omega,?_⟩⟩,by simp[intOf];omega⟩;intro j hj
     by_cases hjm:j<m
     ·exact hB.out j hjm
     ·obtain rfl:j=m:=by omega
      rw[← HP.out,← HX.out];exact hx8
    ·have m1:decide ((128:Int)≤(x:Int))=false:=decide_eq_false (by omega)
     have m2:decide (128≤x)=false:=decide_eq_false (by omega);have m3:((m:Int) == 10)=false:=by simp;omega
     obtain⟨b9,hb9⟩:∃ b,b=decide (m=9):=⟨_,rfl⟩;obtain⟨b1,hb1⟩:∃ b,b=decide (1<x):=⟨_,rfl⟩;obtain⟨b0,hb0⟩:∃ b,b=decide (x=0):=⟨_,rfl⟩;obtain⟨bi,hbi⟩:∃ b,b=decide (0<m):=⟨_,rfl⟩;have r1:((m:Int) == 9)=b9:=by rw[hb9,Bool.eq_iff_iff];simp;omega
     have r3:decide ((1:Int)<(x:Int))=b1:=by rw[hb1,Bool.eq_iff_iff];simp;omega
     have r4:decide (1<x)=b1:=hb1.symm;have r5:((x:Int) == 0)=b0:=by rw[hb0,Bool.eq_iff_iff];simp
     have r7:decide ((0:Int)<(m:Int))=bi:=by rw[hbi,Bool.eq_iff_iff];simp <;> omega
     have r8:decide (0<m)=bi:=hbi.symm;have G2:=hid (show (b9=true↔m=9)∧(b1=true↔1<x)∧(b0=true↔x=0)∧(bi=true↔0<m) by rw[hb9,hb1,hb0,hbi];simp);clear hb9 hb1 hb0 hbi
     have hc:(bi=true∧b0=true)∨(bi=true∧b0=false∧b9=true∧b1=true)∨((bi=true∧b0=false∧b9=true∧b1=false)∨(bi=true∧b0=false∧b9=false)∨(bi=false∧b9=false)):=by
      have g:=G2.out;cases b9 <;> cases b1 <;> cases b0 <;> cases bi <;> simp at g ⊢ <;> omega
     rcases hc with ⟨rfl,rfl⟩ | ⟨rfl,rfl,rfl,rfl⟩ | hc
     ·clear r1 r3 r4
      go_wp2_with fail
      go_ret3
      refine⟨?_,HK.out⟩;have g:=G2.out;rw[zkK (m:=m) (by omega) (by rw[H.out.2,← HP.out];exact hlt) hB.out (.inl ⟨g.2.2.2.1 (by simp),by rw[← HP.out,← HX.out];exact g.2.2.1.1 (by simp)⟩)];rfl
     ·go_wp2_with (at_builtin;refine z0H ?_;intro q hq)
      go_ret3
      refine⟨?_,HK.out⟩;have g:=G2.out;rw[zkK (m:=m) (by omega) (by rw[H.out.2,← HP.out];exact hlt) hB.out (.inr ⟨g.1.1 (by simp),by rw[← HP.out,← HX.out];exact g.2.1.1 (by simp)⟩)];rfl
     ·have HC:=hid (show ¬ (0<m∧x=0)∧¬ (m=9∧1<x) by
       have g:=G2.out
       rcases hc with ⟨rfl,rfl,rfl,rfl⟩ | ⟨rfl,rfl,rfl⟩ | ⟨rfl,rfl⟩ <;> simp at g <;> omega)
      have HB:=hid (show ∀ k,k≤m→back l a m k<18446744073709551616 by
       intro k hk;have h1:=HC.out.2;rw[HX.out,HP.out] at h1
       exact zuT (by omega) hk (by rw[← HP.out,← HX.out];omega) h1)
      have HZ:=hid (show x=back l a m 0 by show x=(l.getD (a+m) 0).toNat;rw[← HP.out,← HX.out])
      have HV:=hid (show BM.uint l a = .yes (back l a m m) (p+1) by
       have h1:=HC.out.1;have h2:=HC.out.2;rw[HX.out,HP.out] at h1 h2
       rw[zoT (m:=m) (by omega) (by rw[H.out.2,← HP.out];exact hlt) hB.out (by rw[← HP.out,← HX.out];omega) h1 h2,← HP.out])
      have k2:=wu64 x (by omega);clear HC
      rcases hc with ⟨rfl,rfl,rfl,rfl⟩ | ⟨rfl,rfl,rfl⟩ | ⟨rfl,rfl⟩
      rotate_left
      clear r3 r4
      rotate_left
      clear r3 r4 r5
      rotate_left
      all_goals
       go_wp2_with fail
       go_loopw [9,10] (fun vv iv wr=>∃ k:Nat,k≤m∧vv = .int .u64 (back l a m k:Nat)∧iv = .int .i64 ((m:Int) - 1 - (k:Int))∧Hid (Keep (fun _=>False) w wr)) (fun _ iv _=>(intOf iv+1).toNat)
       case atStart=>exact⟨0,Nat.zero_le _,congrArg (fun q:Nat=>Value.int .u64 (q:Int)) HZ.out,by go_num,hid HK.out⟩
       case round=>
        clear c0 m1 m2 m3 q1 q2 q3 q4 e1 k2;obtain⟨k,hk,rfl,rfl,HR⟩:=hrel
        by_cases hkm:k<m
        ·obtain⟨j,hj⟩:=zX1 (m - 1 - k)
         have ej:(m:Int) - 1 - (k:Int)=(j:Int):=by omega
         have hjm:j<m:=by omega
         obtain⟨r,hr⟩:=zX1 (a+j);have er:(a:Int)+(j:Int)=(r:Int):=by omega
         have hrn:r<n:=by have:=HP.out;omega
         have lr:(r:Int)<n:=by omega
         have c1:=G.out wr HR.out r hrn;have hx3:=hB.out j hjm;rw[← hr] at hx3;have hnext:=HB.out (k+1) (by omega);have heq:=hid (show back l a m (k+1)=back l a m k * 128+((l.getD r 0).toNat - 128) by rw[hr,hj];rfl);have hx4:=(l.getD r 0).toNat_lt;generalize (l.getD r 0).toNat=x2 at *;obtain⟨u,hu⟩:=zX1 (back l a m k);rw[← hu] at heq ⊢;obtain⟨u2,hu2⟩:∃ q,q=u * 128:=⟨_,rfl⟩;obtain⟨y,hy⟩:∃ u,u=x2 - 128:=⟨_,rfl⟩;obtain⟨z,hz⟩:∃ u,u=u2+y:=⟨_,rfl⟩;have heq2:=heq.out;rw[← hu2,← hy,← hz] at heq2;rw[heq2] at hnext;have f1:(u:Int) * 128=(u2:Int):=by omega
         have f2:(x2:Int) - 128=(y:Int):=by omega
         have f3:(u2:Int)+(y:Int)=(z:Int):=by omega
         have f4:=wu64 u2 (by omega);have f5:=wu64 y (by omega);have f6:=wu64 z hnext;have f7:=wu8 y (by omega);have HE:=hid heq2;have HJ:=hid (zA1 hj hr);rw[ej];clear heq heq2 hu hu2 hy hz hj hr hx3 hx4 hnext;go_wp2_with fail;refine⟨⟨k+1,by omega,by rw[HE.out],?_,HR⟩,?_⟩
         ·have:=HJ.out.1;congr 1;omega
         ·have:=HJ.out.1;simp[intOf] <;> omega
        ·rw[show (m:Int) - 1 - (k:Int) = -1 by omega]
         have hkm2:=hid (show k=m by omega);clear hkm;go_wp2_with fail
         go_ret3
         refine⟨?_,HR.out⟩;rw[HV.out,hkm2.out];simp[numV];have:=HP.out;omega
   ·have q2:decide ((p:Int)<n)=false:=decide_eq_false (by omega)
    have q3:(n:Int)≤(p:Int):=by omega
    have q5:decide (p<n)=false:=decide_eq_false (by omega);have m3:((m:Int) == 10)=false:=by simp;omega
    have HQ:=hid (show p=n by omega);have Hs:=hid (zoB wr (.slice ao n c) a m (by omega));clear hlt;go_wp2_with fail;refine Hs.out.mono ?_;rintro _ _ ⟨rfl,rfl⟩;go_wp2_with fail
    go_ret3
    refine⟨?_,HK.out⟩;rw[znE (m:=m) (by omega) (by rw[H.out.2,← HP.out];exact HQ.out) hB.out];rfl
  ·obtain rfl:m=10:=by omega
   go_wp2_with fail
   go_ret3
   refine⟨?_,HK.out⟩;rw[ztC (by rw[H.out.2];have:=HP.out;omega) hB.out];rfl
theorem zkH (w:World) (k:UInt8) (ao:Option Addr) (n c:Nat) (l:List UInt8) (h:Cells w ao n 1 (z0B l)) (hn:n<=1024) :
  Calls Tryz.prog 145 #[.int .u8 (k.toNat:Nat),.slice ao n c] w (PutPost w (.int .i64 0) (frame k l)):=by
 have hl:l.length=n:=by{have:=h.1;rw[z0C] at this;omega};have H:=hid (zA1 h hl);have hkx:=hid (show z0B [167,k] = [.int .u8 167,.int .u8 (k.toNat:Int)] from rfl);have hk:=k.toNat_lt;generalize k.toNat=x at *;have t:decide ((1024:Int)<(n:Int))=false:=decide_eq_false (by omega);have t2:=wu32 n (by omega);clear hl h;go_enter Tryz.func145,Tryz.ntmps145;go_wp2_with fail;have hf1:Fresh w (.slice (some ⟨w.heap.size,0,none⟩) 2 2) [167,k] (w.alloc (.cells #[.int .u8 167,.int .u8 (x:Int)] 5)):=z3B rfl hkx.out.symm rfl (by unfold maxLen;decide);generalize w.alloc (.cells #[.int .u8 167,.int .u8 (x:Int)] 5)=w1 at *;have HF1:=hid hf1;clear hf1;refine(z9F w1 n (by omega)).mono ?_;rintro e2 w2 ⟨rfl,hf2⟩;have hf12:Fresh w (.slice (some ⟨w.heap.size,0,none⟩) 2 2) [167,k] w2:=HF1.out.later hf2.keep;have HF2:=hid (zA1 hf12 hf2);clear hf12 hf2;go_wp2_with (at_builtin;refine z0H ?_;intro q hq)
 (refine hq.out ?_;clear hq q)
 refine wpList_plain rfl (λK hK=>?_);refine z0I _ _ rfl rfl HF2.out.1 _ 4 4 rfl (Cells.of_row HF2.out.2.row) (by simp) ?_;intro v3 w3 hf3 _;refine hK _ _ ?_;clear hK K;have HF3:=hid hf3;clear hf3;go_wp2_with (at_builtin;refine z0H ?_;intro q hq)
 (refine hq.out ?_;clear hq q)
 refine wpList_plain rfl (λK hK=>?_);refine z0I _ _ rfl rfl HF3.out ao n c rfl ((H.out.1).keep HF3.out.keep zI) (by simp[be4];omega) ?_;intro v4 w4 hf4 _;refine hK _ _ ?_;clear hK K;have e4:([167,k] ++ be4 n) ++ l=front k l:=by{simp[front,H.out.2]};rw[e4] at hf4;obtain⟨g4,c4,rfl⟩:∃ g c,v4 = .slice (some ⟨g,0,none⟩) (n+6) c:=by{have hlen:(front k l).length=n+6:=by{simp[front,be4,H.out.2]};have hr:=hf4.row;rw[hlen] at hr;obtain⟨g,c,cur,fz,hv,_⟩:=hr.some (by omega);exact⟨g,c,hv⟩};have HF4:=hid hf4;clear hf4 e4;go_wp2_with fail;have hlen:(front k l).length=n+6:=by{simp[front,be4,H.out.2]};have hr5:=HF4.out.row;rw[hlen] at hr5;refine(zlE w4 (some ⟨g4,0,none⟩) (n+6) c4 (front k l) (Cells.of_row hr5) (by omega)).mono ?_;rintro e6 w6 ⟨rfl,rfl⟩;have HF5:=hid HF4.out;clear hr5;go_wp2_with fail;refine(z9F w6 (crc (front k l)) (zoP _)).mono ?_;rintro e7 w7 ⟨rfl,hf7⟩;have HF6:=hid (zA1 (HF5.out.later hf7.keep) hf7);clear hf7;go_wp2_with (at_builtin;refine z0H ?_;intro q hq)
 (refine hq.out ?_;clear hq q)
 refine wpList_plain rfl (λK hK=>?_);refine z0I _ _ rfl rfl HF6.out.1 _ 4 4 rfl (Cells.of_row HF6.out.2.row) (by omega) ?_;intro v8 w8 hf8 _;refine hK _ _ ?_;clear hK K;have HF8:=hid hf8;clear hf8;go_wp2_with fail;go_ret2;exact⟨_,rfl,HF8.out⟩
end
end Go.Proofs.YtkjofdocgaiedaaGreat
