/- Texts FrS, FrT, Fix, FixA, Put, PutU, AppN, Uint, UintR, PutR, Ones, LoA, LoO in one. Conditions: as each law names them. -/
import Derived.Test.YtkhddpiopbmhjaaGreatChecked
import Derived.Laws.BitsAllLaws
import Derived.OwnWalk
import Derived.WalkMore
import Derived.WalkKit
import Derived.WalkLawsBesides
import Derived.WalkSpells
import Derived.BigQuiet
import Derived.Test.YtkhddpiopbmhjaaGreatUaa
import Derived.Test.YtkhddpiopbmhjaaGreatUab
import Derived.Test.YtkhddpiopbmhjaaGreatUac
import Derived.Test.YtkhddpiopbmhjaaGreatUah
import Derived.Test.YtkhddpiopbmhjaaGreatUaj
set_option maxRecDepth 20000
set_option maxHeartbeats 8000000
namespace Go.Proofs.YtkhddpiopbmhjaaGreat
section
open Go.RowKit
open BM
theorem zpF(r:Nat)(h:r<4294967296):4294967295 ^^^ r=4294967295 - r:=by
 have h1:=BitVec.toNat_not (x:=BitVec.ofNat 32 r);have h2:(~~~ (BitVec.ofNat 32 r))=BitVec.allOnes 32 ^^^ BitVec.ofNat 32 r:=by{rw[BitVec.not_def]};rw[h2,BitVec.toNat_xor,BitVec.toNat_allOnes,BitVec.toNat_ofNat,Nat.mod_eq_of_lt h] at h1;omega
theorem shr1(r:Nat):(r:Int) / 2=((r / 2:Nat):Int):=by omega
theorem zvS{r:Nat}(h:r % 2=1):BM.turn r=r / 2 ^^^ 3988292384:=by unfold BM.turn;rw[if_pos h]
theorem ztR{r:Nat}(h:r % 2=0):BM.turn r=r / 2:=by unfold BM.turn;rw[if_neg (by omega)]
theorem zyZ(w:World)(g:Nat)(ao:Option Addr)(n c:Nat)(l:List UInt8)(hg:w.cell? ⟨g,0,none⟩=some (.slice ao n c))(h:Cells w ao n 1 (z0B l))(hn:n<=1000000000):Calls Tryz.prog 203 #[.slice (some ⟨g,0,none⟩) 1 1] w λe w'=>e = .returned (.int .u32 (crc l:Nat))/\w'=w:=by
 have hl:l.length=n:=by{have:=h.1;rw[z0E] at this;omega};have H:=zB1 h hl;clear h hl
 go_in
 go_wp2_with fail
 go_loopw [3,5,7,8,11] (λrv _ _ _ iv wr=>∃ i r:Nat,i<=1/\r<4294967296/\rv = .int .u32 r/\iv = .int .i64 i/\zH (wr=w/\(i=0->r=4294967295)/\(i=1->r=reg l))) (λ_ _ _ _ iv _=>1 - (intOf iv).toNat)
 case atStart=>exact⟨0,4294967295,Nat.zero_le _,by decide,rfl,rfl,hid ⟨by first | rfl | trivial,λ_=>rfl,λh=>by omega⟩⟩
 case round=>(obtain⟨i,r,hi,hr,rfl,rfl,HR⟩:=hrel;have hw:=HR.x1.symm;subst hw;by_cases hi0:i<1;{obtain rfl:i=0:=by{omega};have HS:=hid (show r=reg (l.take 0) by rw[HR.x2 rfl];simp[reg]);clear HR;go_wp2_with fail;(go_loopw [3,7,8,17] (λrv _ _ jv w'=>∃ j r:Nat,j<=n/\r<4294967296/\rv = .int .u32 r/\jv = .int .i64 j/\zH (w'=w/\r=reg (l.take j))) (λ_ _ _ jv _=>n - (intOf jv).toNat));(case atStart=>exact⟨0,r,Nat.zero_le _,hr,rfl,rfl,hid ⟨by first | rfl | trivial,HS.o⟩⟩);case round=>(clear HS hr;obtain⟨j,r,hj,hr,rfl,rfl,HR⟩:=hrel;have hw:=HR.x1.symm;subst hw;by_cases hjn:j<n;{have q1:(j:Int)<n:=by{omega};have hjl:j<l.length:=by{rw[H.y1];exact hjn};obtain⟨ad,had,hc⟩:=H.x1.2 (by omega);subst had;have c0:=hc j (.int .u8 (l[j].toNat:Int)) (by simp[z0B,hjl]);obtain⟨x,hx⟩:=zX1 (l[j].toNat);have hx2:x<256:=by{rw[hx];exact l[j].toNat_lt};rw[<-hx] at c0;have b0:=u32_xor_nat r x hr (by omega);have hr2:r ^^^ x<4294967296:=Nat.xor_lt_two_pow (n:=32) hr (by omega);have HS:=hid (show reg (l.take (j+1))=turns 8 (r ^^^ x) by{rw[List.take_add_one,List.getElem?_eq_getElem hjl,Option.toList_some,zvU,<-HR.y1,hx];rfl});obtain⟨r2,hr2'⟩:=zX1 (r ^^^ x);rw[<-hr2'] at b0 hr2 HS;clear hc hx HR hr2';go_wp2_with (at_builtin;refine z0Q ?_;intro q hq);clear b0 c0;(go_loopw [3,8,25] (λrv _ kv w'=>∃ k r:Nat,k<=8/\r<4294967296/\rv = .int .u32 r/\kv = .int .i64 k/\zH (w'=w/\r=turns k r2)) (λ_ _ kv _=>8 - (intOf kv).toNat));(case atStart=>exact⟨0,r2,Nat.zero_le _,hr2,by first | rfl | simp,rfl,hid ⟨by first | rfl | trivial,rfl⟩⟩);case round=>(obtain⟨k,q,hk,hq,rfl,rfl,HR⟩:=hrel;have hw:=HR.x1.symm;subst hw;by_cases hk8:k<8;{have q2:(k:Int)<8:=by{omega};have b1:=u32_and_nat q 1 hq (by decide);rw[nat_mask1] at b1;have b2:=shr1 q;have hq2:q / 2<4294967296:=by{omega};by_cases hodd:q % 2=1;{have b3:bits .and .u32 (q:Int) 1=1:=by{rw[show (1:Int)=((1:Nat):Int) from rfl,b1,hodd]};have b4:bits .xor .u32 ((q / 2:Nat):Int) 3988292384=((BM.turn q:Nat):Int):=by{rw[zvS hodd];exact u32_xor_nat (q / 2) 3988292384 hq2 (by decide)};have HT:=hid (show BM.turn q=turns (k+1) r2 by rw[zfJ,<-HR.y1]);have hT:=zzN hq;obtain⟨t,ht⟩:=zX1 (BM.turn q);obtain⟨h,hh⟩:∃ t,t=q / 2:=⟨_,rfl⟩;rw[<-ht] at HT hT b4;rw[<-hh] at b4 b2;clear b1 hq2 hodd ht hh;go_wp2_with fail;exact⟨⟨k+1,t,by omega,hT,by go_num,by go_num,hid ⟨by first | rfl | trivial,HT.o⟩⟩,by simp[intOf];omega⟩};{have b3:bits .and .u32 (q:Int) 1=0:=by{rw[show (1:Int)=((1:Nat):Int) from rfl,b1,show q % 2=0 by omega];rfl};have HT:=hid (show q / 2=turns (k+1) r2 by rw[zfJ,<-HR.y1,ztR (by omega)]);obtain⟨h,hh⟩:∃ t,t=q / 2:=⟨_,rfl⟩;rw[<-hh] at b2 HT hq2;clear b1 hodd hh;go_wp2_with fail;exact⟨⟨k+1,h,by omega,hq2,by go_num,by go_num,hid ⟨by first | rfl | trivial,HT.o⟩⟩,by simp[intOf];omega⟩}};{have q2:decide ((k:Int)<8)=false:=by{simp;omega};obtain rfl:k=8:=by{omega};have HZ:=hid (show q=reg (l.take (j+1)) by rw[HS.o,<-HR.y1]);clear HR;go_wp2_with (at_builtin;refine z0Q ?_;intro q hq);go_roundw;(case rel=>exact⟨j+1,q,by omega,hq,by go_num,by go_num,hid ⟨by first | rfl | trivial,HZ.o⟩⟩);case measure=>simp[intOf];omega})};{have q1:decide ((j:Int)<(n:Int))=false:=by{simp;omega};have HZ:=hid (show r=reg l by rw[HR.y1,List.take_of_length_le (by rw[H.y1];omega)]);clear HR;go_wp2_with fail;go_roundw;(case rel=>exact⟨0+1,r,by omega,hr,by go_num,by go_num,hid ⟨by first | rfl | trivial,λh=>by omega,λ_=>HZ.o⟩⟩);case measure=>simp[intOf] <;> omega})};{have q0:decide ((i:Int)<1)=false:=by{simp;omega};have Hr:=hid (HR.y2 (by omega));clear HR;go_wp2_with fail;go_ret;refine⟨?_,by first | rfl | trivial⟩;have e:bits .xor .u32 IntKind.u32.max (r:Int)=((4294967295 - r:Nat):Int):=by{rw[show IntKind.u32.max=((4294967295:Nat):Int) from rfl,u32_xor_nat _ _ (by decide) hr,zpF r hr]};show Ending.returned (Value.int .u32 (bits .xor .u32 IntKind.u32.max (r:Int)))=_;rw[e,Hr.o];rfl})
end
section
open Go.RowKit
open BM
end
section
open Go.RowKit
open BM
theorem zrH(n:Nat)(hn:n<4294967296):z0B (be4 n) = [.int .u8 ((n / 16777216:Nat):Int),.int .u8 ((n / 65536 % 256:Nat):Int),.int .u8 ((n / 256 % 256:Nat):Int),.int .u8 ((n % 256:Nat):Int)]:=by
 simp only[z0B,be4,List.map_cons,List.map_nil,UInt8.toNat_ofNat'];rw[show n / 16777216 % 256=n / 16777216 by omega]
theorem y1X{w w1:World}{n:Nat}{cs:Array Value}(hw:w1=w.alloc (.cells cs 5))(h:cs.toList=z0B (be4 n)):Fresh w (.slice (some ⟨w.heap.size,0,none⟩) 4 4) (be4 n) w1:=by
 subst hw;have hs:cs.size=4:=by{rw[<-Array.length_toList,h,z0E];rfl};refine⟨⟨by rw[z0E];rfl,.inr ⟨w.heap.size,4,cs,(0,0),rfl,heap_alloc_new w _,Free.zero _,Nat.le_refl _,by unfold maxLen;decide,hs,?_⟩⟩,(Keep.refl _ _).alloc _,λk e=>by simp[Value.ownBlock] at e;omega⟩;rw[List.take_of_length_le (by rw[Array.length_toList,hs];exact Nat.le_refl 4),h]
theorem wi64(a:Nat)(h:a<=9223372036854775807):IntKind.i64.wrap (a:Int)=(a:Int):=by
 simp[IntKind.wrap,IntKind.signed,IntKind.bits];omega
theorem wu32(a:Nat)(h:a<4294967296):IntKind.u32.wrap (a:Int)=(a:Int):=by
 rw[IntKind.wrap_u32];omega
theorem wu64(a:Nat)(h:a<18446744073709551616):IntKind.u64.wrap (a:Int)=(a:Int):=by
 rw[IntKind.wrap_u64];omega
theorem wu8(a:Nat)(h:a<256):IntKind.u8.wrap (a:Int)=(a:Int):=by
 rw[IntKind.wrap_u8];omega
theorem z7Y(w:World)(n:Nat)(hn:n<4294967296):Calls Tryz.prog 54 #[.int .u32 n] w λe w'=>e = .returned (.slice (some ⟨w.heap.size,0,none⟩) 4 4)/\Fresh w (.slice (some ⟨w.heap.size,0,none⟩) 4 4) (be4 n) w':=by
 go_in
 go_wp2_with fail;go_ret;refine⟨by rfl,y1X rfl ?_⟩;rw[zrH n hn];simp
end
section
open Go.RowKit
open BM
def hb(l:List UInt8)(a:Nat):Nat→Nat
 | 0=>0
 | k+1=>hb l a k * 256+(l.getD (a+k) 0).toNat
end
section
open Go.RowKit
open BM
theorem Fresh.nil(w:World):Fresh w (.slice none 0 0) [] w:=⟨Row.nil _ _ _,Keep.refl _ _,λk e=>by simp[Value.ownBlock] at e⟩
theorem z1O{w w1:World}{l:List UInt8}{n:Nat}{cs:Array Value}(hw:w1=w.alloc (.cells cs 5))(h:cs.toList=z0B l)(hn:l.length=n)(hm:n<=maxLen):Fresh w (.slice (some ⟨w.heap.size,0,none⟩) n n) l w1:=by
 subst hw;have hs:cs.size=n:=by{rw[<-Array.length_toList,h,z0E];exact hn};rw[<-hn] at hs |-;refine⟨⟨by rw[z0E];omega,.inr ⟨w.heap.size,l.length,cs,(0,0),rfl,heap_alloc_new w _,Free.zero _,Nat.le_refl _,by omega,by omega,?_⟩⟩,(Keep.refl _ _).alloc _,λk e=>by simp[Value.ownBlock] at e;omega⟩;rw[List.take_of_length_le (by rw[Array.length_toList,hs];omega),h]
theorem FreshU.later{u:TypeId}{w w1 w2:World}{v:Value}{l:List UInt8}(h:FreshU u w v l w1)(hk:Keep zF w1 w2):FreshU u w v l w2:=
 ⟨h.row.keep hk zI,h.keep.next hk zI zI,h.own⟩
theorem FreshU.since{u:TypeId}{w w1 w2:World}{v:Value}{l:List UInt8}(h:FreshU u w1 v l w2)(hk:Keep zF w w1):FreshU u w v l w2:=
 ⟨h.row,hk.next h.keep zI zI,λk e=>Nat.le_trans hk.size (h.own k e)⟩
theorem z0U{w0 w:World}{a:Act}{K:Act->World->Prop}{Q:Exit->Act->World->Prop}{o:Oper}{l r:List UInt8}(s x:Operand)(ho:o.op = .call { callee:=.builtin .append,args:=#[s,x],argTypes:=#[39,39] }){v:Value}(hs:a.eval s=v)(hf:Fresh w0 v l w)(ao:Option Addr)(m c:Nat)(hx:a.eval x = .slice ao m c)(hsrc:Cells w ao m 1 (z0B r))(hb:l.length+m<=140737488355328)(h:∀ v' w',Fresh w0 v' (l ++ r) w'->Keep (λk=>v.ownBlock=some k) w w'->K (a.put o.dst v') w'):o.wp Tryz.prog a w K Q:=by
 have hm:r.length=m:=by{have:=hsrc.1;rw[z0E] at this;omega};refine z1E z1L s x ho hs hf.row ao m c (z0B r) hx hsrc (z2D _) (by unfold maxLen;omega) (by omega) ?_;intro v2 w2 hr2 hk2 hv2;refine h v2 w2 ⟨?_,?_,?_⟩ hk2;{rw[z1J,List.length_append,hm];exact hr2};{exact hf.keep.next hk2 (λi hi x=>x) (λi hi x=>by have:=hf.own i x;omega)};{intro k hk;rcases hv2 with ⟨h0,_⟩ | ⟨k',h1,h2⟩;{rw[h0] at hk;exact hf.own k hk};{rw[hk] at h1;cases h1;rcases h2 with h2 | h2;{exact hf.own k h2};{have:=hf.keep.size;omega}}}
def PutPost(w:World)(v2:Value)(l:List UInt8)(e:Ending)(w':World):Prop:=∃ v,e = .returned (.tuple #[v,v2])∧Fresh w v l w'
theorem zvG(w:World)(k:UInt8)(ao:Option Addr)(n c:Nat)(hn:1024<n):Calls Tryz.prog 178 #[.int .u8 (k.toNat:Nat),.slice ao n c] w λe w'=>e = .returned (.tuple #[.slice none 0 0,.int .i64 3])/\w'=w:=by
 have hk:=k.toNat_lt;generalize k.toNat=x at *;have t:(1024:Int)<(n:Int):=by omega
 go_in
 go_wp2_with fail;go_ret2;exact⟨by rfl,by first | rfl | trivial⟩
theorem zyW(w:World)(k:UInt8)(ao:Option Addr)(n c:Nat)(l:List UInt8)(h:Cells w ao n 1 (z0B l))(hn:n<=1024):Calls Tryz.prog 178 #[.int .u8 (k.toNat:Nat),.slice ao n c] w (PutPost w (.int .i64 0) (frame k l)):=by
 have hl:l.length=n:=by{have:=h.1;rw[z0E] at this;omega};have H:=zB1 h hl;have hkx:=hid (show z0B [167,k] = [.int .u8 167,.int .u8 (k.toNat:Int)] from rfl);have hk:=k.toNat_lt;generalize k.toNat=x at *;have t:decide ((1024:Int)<(n:Int))=false:=decide_eq_false (by omega);have t2:=wu32 n (by omega);clear hl h
 go_in
 go_wp2_with fail;have hf1:Fresh w (.slice (some ⟨w.heap.size,0,none⟩) 2 2) [167,k] (w.alloc (.cells #[.int .u8 167,.int .u8 (x:Int)] 5)):=z1O rfl hkx.out.symm rfl (by unfold maxLen;decide);generalize w.alloc (.cells #[.int .u8 167,.int .u8 (x:Int)] 5)=w1 at *;have HF1:=hid hf1;clear hf1;refine(z7Y w1 n (by omega)).mono ?_;rintro e2 w2 ⟨rfl,hf2⟩;have hf12:Fresh w (.slice (some ⟨w.heap.size,0,none⟩) 2 2) [167,k] w2:=HF1.o.later hf2.keep;have HF2:=zB1 hf12 hf2;clear hf12 hf2;go_wp2_with (at_builtin;refine z0Q ?_;intro q hq)
 (refine hq.out ?_;clear hq q)
 refine wpList_plain rfl (λK hK=>?_);refine z0U _ _ rfl rfl HF2.x1 _ 4 4 rfl (Cells.of_row HF2.y1.row) (by simp) ?_;intro v3 w3 hf3 _;refine hK _ _ ?_;clear hK K;have HF3:=hid hf3;clear hf3;go_wp2_with (at_builtin;refine z0Q ?_;intro q hq)
 (refine hq.out ?_;clear hq q)
 refine wpList_plain rfl (λK hK=>?_);refine z0U _ _ rfl rfl HF3.o ao n c rfl ((H.x1).keep HF3.o.keep zI) (by simp[be4];omega) ?_;intro v4 w4 hf4 _;refine hK _ _ ?_;clear hK K;have e4:([167,k] ++ be4 n) ++ l=front k l:=by{simp[front,H.y1]};rw[e4] at hf4;obtain⟨g4,c4,rfl⟩:∃ g c,v4 = .slice (some ⟨g,0,none⟩) (n+6) c:=by{have hlen:(front k l).length=n+6:=by{simp[front,be4,H.y1]};have hr:=hf4.row;rw[hlen] at hr;obtain⟨g,c,cur,fz,hv,_⟩:=hr.some (by omega);exact⟨g,c,hv⟩};have HF4:=hid hf4;clear hf4 e4;go_wp2_with fail;obtain⟨w5,hw5⟩:=zX1 (w4.alloc (.cells #[.slice (some ⟨g4,0,none⟩) (n+6) c4] 39));have hk5:Keep zF w4 w5:=by{rw[hw5];exact(Keep.refl _ _).alloc _};have hc5:w5.cell? ⟨w4.heap.size,0,none⟩=some (.slice (some ⟨g4,0,none⟩) (n+6) c4):=by{rw[hw5,cell_of_row _ _ _ _ _ _ (heap_alloc_new w4 _)];rfl};rw[<-hw5];clear hw5;have hlen:(front k l).length=n+6:=by{simp[front,be4,H.y1]};have hr5:=(HF4.o.later hk5).row;rw[hlen] at hr5;refine(zyZ w5 w4.heap.size (some ⟨g4,0,none⟩) (n+6) c4 (front k l) hc5 (Cells.of_row hr5) (by omega)).mono ?_;rintro e6 w6 ⟨rfl,rfl⟩;have HF5:=hid (HF4.o.later hk5);clear hk5 hc5 hr5;go_wp2_with fail;refine(z7Y w6 (crc (front k l)) (zyQ _)).mono ?_;rintro e7 w7 ⟨rfl,hf7⟩;have HF6:=zB1 (HF5.o.later hf7.keep) hf7;clear hf7;go_wp2_with (at_builtin;refine z0Q ?_;intro q hq)
 (refine hq.out ?_;clear hq q)
 refine wpList_plain rfl (λK hK=>?_);refine z0U _ _ rfl rfl HF6.x1 _ 4 4 rfl (Cells.of_row HF6.y1.row) (by omega) ?_;intro v8 w8 hf8 _;refine hK _ _ ?_;clear hK K;have HF8:=hid hf8;clear hf8;go_wp2_with fail;go_ret2;exact⟨_,rfl,HF8.o⟩
end
section
open Go.RowKit
open BM
theorem zwB{f m:Nat}(h:128<=m):putU (f+1) m=UInt8.ofNat (m % 128+128) :: putU f (m / 128):=by
 show (if m<128 then _ else _)=_;rw[if_neg (by omega)]
theorem zpE{f m:Nat}(h:m<128):putU (f+1) m = [UInt8.ofNat m]:=by
 show (if m<128 then _ else _)=_;rw[if_pos h]
theorem Cells.one{w:World}{g:Nat}{x:Nat}{T:TypeId}{fz:Nat×Nat}(hx:x<256)(hg:w.heap[g]?=some (.cells #[.int .u8 (x:Int)] T fz)):Cells w (some ⟨g,0,none⟩) 1 1 (z0B [UInt8.ofNat x]):=by
 refine⟨rfl,λ_=>⟨_,rfl,λj u hu=>?_⟩⟩;rw[z0R,Nat.zero_add,cell_of_row _ _ _ _ _ _ hg];have e:z0B [UInt8.ofNat x] = [.int .u8 (x:Int)]:=by{simp[z0B,Nat.mod_eq_of_lt hx]};rw[e] at hu;simpa using hu
def PutU(w:World)(l:List UInt8)(e:Ending)(w':World):Prop:=∃ v,e = .returned v∧Fresh w v l w'
theorem z6I(w:World)(n:Nat)(hn:n<18446744073709551616):Calls Tryz.prog 63 #[.int .u64 (n:Nat)] w (PutU w (z0H n)):=by
 go_in
 go_wp2_with fail
 go_loopw [0,3] (λnv ov wr=>∃ m f:Nat,∃ l,m<18446744073709551616/\nv = .int .u64 (m:Nat)/\zH (Fresh w ov l wr/\f<=10/\0<f/\m<128 ^ f/\l.length<=10 - f/\l ++ putU f m=z0H n)) (λnv _ _=>(intOf nv).toNat)
 case atStart=>(refine⟨n,10,[],hn,rfl,hid ⟨?_,by omega,by omega,Nat.lt_of_lt_of_le hn (by decide),by simp,rfl⟩⟩;first | exact Fresh.nil w | exact(Fresh.nil w).later (Keep.refl _ _).drew)
 case round=>(obtain⟨m,f,l,hm,rfl,HR⟩:=hrel;obtain⟨f,rfl⟩:∃ f',f=f'+1:=⟨f - 1,by have:=HR.x3;omega⟩;by_cases h128:128<=m;{obtain⟨r,hr⟩:=zX1 (m % 128);obtain⟨d,hd⟩:=zX1 (m / 128);obtain⟨r2,hr2⟩:=zX1 (r+128);have e1:(m:Int) % 128=(r:Int):=by{omega};have e2:(m:Int) / 128=(d:Int):=by{omega};have e3:(r:Int)+128=(r2:Int):=by{omega};have e4:=wu8 r (by omega);have e5:=wu8 r2 (by omega);have q1:(128:Int)<=(m:Int):=by{omega};have hd64:=hid (show d<18446744073709551616/\d<m/\r2<256 by omega);have HZ:=hid (show putU (f+1) m=UInt8.ofNat r2 :: putU f d by rw[zwB h128,hr2,hr,hd]);have HF:=hid (show 0<f/\d<128 ^ f by{have h1:=HR.x4;rw[Nat.pow_succ] at h1;refine⟨Nat.pos_of_ne_zero λe=>?_,by omega⟩;subst e;simp at h1;omega});clear hr hd hr2;go_wp2_with (at_builtin;refine z0Q ?_;intro q hq);(refine hq.out ?_;clear hq q);have hf:=HR.x1;have hg:=heap_alloc_new wr (.cells #[.int .u8 (r2:Int)] 5);obtain⟨w2,hw2⟩:=zX1 (wr.alloc (.cells #[.int .u8 (r2:Int)] 5));have k2:Keep zF wr w2:=by{rw[hw2];exact(Keep.refl _ _).alloc _};rw[<-hw2] at hg |-;clear hw2;refine wpList_plain rfl (λK hK=>?_);refine z0U (r:=[UInt8.ofNat r2]) _ _ rfl rfl (hf.later k2) _ 1 1 rfl (Cells.one hd64.out.2.2 hg) (by have:=HR.x5;omega) ?_;intro v3 w3 hf3 _;refine hK _ _ ?_;clear hK K;have HF3:=hid hf3;clear hf3 hf k2 hg;go_wp2_with fail;refine⟨⟨d,f,l ++ [UInt8.ofNat r2],hd64.out.1,rfl,hid ⟨HF3.o,by have:=HR.x2;omega,HF.x1,HF.y1,?_,?_⟩⟩,?_⟩;{have h1:=HR.x5;have h2:=HR.x2;rw[List.length_append,List.length_singleton];omega};{rw[<-HR.y5,HZ.o,List.append_assoc];rfl};{have:=hd64.out.2.1;simp[intOf];omega}};{have q1:decide ((128:Int)<=(m:Int))=false:=decide_eq_false (by omega);have q2:decide (128<=m)=false:=decide_eq_false (by omega);have e4:=wu8 m (by omega);have hm2:=hid (show m<128 by omega);clear h128;go_wp2_with (at_builtin;refine z0Q ?_;intro q hq);(refine hq.out ?_;clear hq q);have hf:=HR.x1;have hg:=heap_alloc_new wr (.cells #[.int .u8 (m:Int)] 5);obtain⟨w2,hw2⟩:=zX1 (wr.alloc (.cells #[.int .u8 (m:Int)] 5));have k2:Keep zF wr w2:=by{rw[hw2];exact(Keep.refl _ _).alloc _};rw[<-hw2] at hg |-;clear hw2;refine wpList_plain rfl (λK hK=>?_);refine z0U (r:=[UInt8.ofNat m]) _ _ rfl rfl (hf.later k2) _ 1 1 rfl (Cells.one (by have:=hm2.out;omega) hg) (by have:=HR.x5;omega) ?_;intro v3 w3 hf3 _;refine hK _ _ ?_;clear hK K;rw[<-zpE (f:=f) hm2.out,HR.y5] at hf3;have HF3:=hid hf3;clear hf3 hf k2 hg;go_wp2_with fail;go_ret;exact⟨_,rfl,HF3.o⟩})
end
section
open Go.RowKit
theorem z9D{P:Program}{w:World}{t ty e:TypeId}{z:Value}{size bytes:Nat}(T:SliceTy P t e z size bytes)(g:Nat)(ao:Option Addr)(m c:Nat)(news:List Value)(hsrc:Cells w ao m size news)(h63:m<=maxLen)(hb:m * bytes<=140737488355328):∃ v' w',(Builtin.append_ #[t,t] ty #[.slice (some ⟨g,0,none⟩) 0 0,.slice ao m c]).run P w = .ok v' w'/\(m=0/\v' = .slice (some ⟨g,0,none⟩) 0 0/\w'=w∨0<m/\Row w' e size v' m news/\v'.ownBlock=some w.heap.size)/\Keep zF w w':=by
 obtain⟨ht,hinfo,hzs,hpos⟩:=T;obtain⟨i,hi,hz,hsize,hby⟩:∃ i,P.info? e=some i/\i.zero=some z/\i.size=size/\i.bytes=bytes:=by{cases hq:P.info? e with | none=>{simp[hq] at hinfo} | some i=>{simp[hq] at hinfo;exact⟨i,rfl,hinfo.1,hinfo.2.1,hinfo.2.2⟩}};subst hsize;subst hby;have hlen:news.length=m * i.size:=hsrc.1;have hf:=z4D (P:=P) i.size m ao c m news hsrc;by_cases hm:m=0;{subst hm;have hnn:news = []:=List.eq_nil_of_length_eq_zero (by simpa using hsrc.1);subst hnn;refine⟨.slice (some ⟨g,0,none⟩) 0 0,w,?_,.inl ⟨rfl,rfl,rfl⟩,Keep.refl _ _⟩;simp[Builtin.append_,run_underlying ht,sizeOf,typeInfo,hi,Builtin.lenOf,hf];rfl};{have hsrc':Cells w.drew ao m i.size news:=hsrc;have hf':=z4D (P:=P) (w:=w.drew) i.size m ao c m news hsrc';have hsmall:m<=9223372036854775807:=by{simp only[maxLen] at h63;omega};have hn:¬ (m<=0):=by{omega};have h63':¬ (9223372036854775807<(m:Int)):=by{omega};have h48':¬ (281474976710656<Builtin.nextslicecap m 0 * i.bytes):=by{have:=growslice_fits (need:=m) (old:=0) (bytes:=i.bytes) (by omega) hb;omega};have hold:Cells w.drew (some ⟨g,0,none⟩) 0 i.size []:=Cells.nil _ _ _;have hfo:=z4D (P:=P) (w:=w.drew) i.size 0 (some ⟨g,0,none⟩) 0 0 [] hold;have hge:=grownCap_ge w m 0 e;have hcm:grownCap w m 0 e<=maxLen:=grownCap_le_maxLen w m 0 e h63;refine⟨.slice (some ⟨w.heap.size,0,none⟩) m (grownCap w m 0 e),w.drew.alloc (.cells (news.toArray ++ Builtin.zeroCells z.cells (grownCap w m 0 e - m)) e),?_,.inr ⟨by omega,⟨hlen,.inr ⟨w.heap.size,_,_,(0,0),rfl,heap_alloc_new w.drew _,Free.zero _,hge,hcm,?_,?_⟩⟩,rfl⟩,((Keep.refl _ w).drew).alloc _⟩;{simp[Builtin.append_,run_underlying ht,sizeOf,typeInfo,zeroValue,hi,hz,Builtin.lenOf,hm,h63',h48',Question.forced,hf',hfo,newRow,grownCap]};{simp only[Array.size_append,List.size_toArray,size_zeroCells,hzs,hlen,<-Nat.add_mul];congr 1;omega};{simp only[Array.toList_append];rw[<-hlen];exact List.take_left}}
theorem z1W{w0 w:World}{a:Act}{K:Act->World->Prop}{Q:Exit->Act->World->Prop}{o:Oper}{r:List UInt8}(s x:Operand)(ho:o.op = .call { callee:=.builtin .append,args:=#[s,x],argTypes:=#[39,39] }){g:Nat}(hs:a.eval s = .slice (some ⟨g,0,none⟩) 0 0)(hf:Fresh w0 (.slice (some ⟨g,0,none⟩) 0 0) [] w)(ao:Option Addr)(m c:Nat)(hx:a.eval x = .slice ao m c)(hsrc:Cells w ao m 1 (z0B r))(hb:m<=140737488355328)(h:∀ v' w',Fresh w0 v' r w'->Keep zF w w'->K (a.put o.dst v') w'):o.wp Tryz.prog a w K Q:=by
 have hm:r.length=m:=by{have:=hsrc.1;rw[z0E] at this;omega};obtain⟨v',w',hr,h2,h3⟩:=z9D (P:=Tryz.prog) (w:=w) (ty:=o.type) z1L g ao m c (z0B r) hsrc (by unfold maxLen;omega) (by omega);unfold Oper.wp execOp;simp only[ho,resolve,invoke,builtin,Sem.run_bind,Sem.run_pure,Result.andThen_ok,List.map_toArray,List.map_cons,List.map_nil,hs,hx,hr];refine h v' w' ?_ h3;rcases h2 with ⟨rfl,rfl,rfl⟩ | ⟨h0,h1,h2⟩;{have:r = []:=List.eq_nil_of_length_eq_zero hm;subst this;exact hf};{rw[<-hm] at h1;exact⟨h1,hf.keep.next h3 zI zI,λk hk=>by rw[h2] at hk;cases hk;exact hf.keep.size⟩}
end
section
open Go.RowKit
open BM
def numV:Num→Value
 | .no e=>.tuple #[.int .u64 0,.int .i64 0,.int .i64 (e:Nat)]
 | .yes n to=>.tuple #[.int .u64 (n:Nat),.int .i64 (to:Nat),.int .i64 0]
theorem zgH(w:World)(ao:Option Addr)(n c a:Nat)(l:List UInt8)(h:Cells w ao n 1 (z0B l))(ha:a≤n)(hn:n≤1000000000):Calls Tryz.prog 104 #[.slice ao n c,.int .i64 a] w fun e w'=>e = .returned (numV (BM.uint l a))∧Keep zF w w':=by
 have hl:l.length=n:=by have:=h.1;rw[z0E] at this;omega
 have H:=zB1 h hl;have HU:=hid (show BM.uint l a=digits l a 10 0 0 by unfold BM.uint;rw[if_neg (by omega)]);have t0:decide ((a:Int)<0)=false:=decide_eq_false (by omega);have t3:decide ((n:Int)<(a:Int))=false:=decide_eq_false (by omega);have t2:decide (n<a)=false:=decide_eq_false (by omega);clear hl h
 go_in
 go_wp2_with fail
 go_step3
 go_wp2_with fail
 go_step3
 go_wp2_with fail
 go_loopw [7,8,9,18,62] (fun vv _ _ iv _ wr=>∃ i v:Nat,i≤10∧v<2 ^ (7 * i)∧vv = .int .u64 (v:Nat)∧iv = .int .i64 i∧zH (Keep zF w wr∧BM.uint l a=digits l a (10 - i) i v)) (fun _ _ _ iv _ _=>10 - (intOf iv).toNat)
 case atStart=>exact⟨0,0,Nat.zero_le _,by decide,rfl,rfl,hid ⟨by first | exact Keep.refl _ _ | exact(Keep.refl _ _).drew,HU.o⟩⟩
 case round=>
  obtain⟨i,v,hi,hv,rfl,rfl,HR⟩:=hrel
  by_cases hi10:i<10
  ·have q1:(i:Int)<10:=by omega
   obtain⟨p,hp⟩:=zX1 (a+i);have e1:(a:Int)+(i:Int)=(p:Int):=by omega
   by_cases hpn:p<n
   ·have hpl:p<l.length:=by rw[H.y1];exact hpn
    obtain⟨ad,had,hc⟩:=H.x1.2 (by omega);subst had;obtain⟨x,hx⟩:=zX1 ((l.getD p 0).toNat);have hx2:x<256:=by rw[hx];exact(l.getD p 0).toNat_lt
    obtain⟨ad2,e2,hc2⟩:=((H.x1).keep HR.x1 zI).2 (by omega);cases e2
    have c0:wr.cell? (ad.add p)=some (.int .u8 (x:Int)):=by
     refine hc2 p _ ?_;rw[hx];simp[z0B,hpl]
    have HD:=hid (show BM.uint l a=if i=9∧1<x then .no 11 else if x=0∧0<i then .no 11 else if x<128 then .yes (v+x * 2 ^ (7 * i)) (a+i+1) else digits l a (9 - i) (i+1) (v+(x - 128) * 2 ^ (7 * i)) by
     rw[HR.y1,show 10 - i=(9 - i)+1 by omega];show (if l.length≤a+i then _ else _)=_
     rw[if_neg (by omega),← hp,← hx])
    have HK:=hid HR.x1;have q2:(p:Int)<n:=by omega
    have q3:decide (n≤p)=false:=decide_eq_false (by omega);have q4:decide ((n:Int)≤(p:Int))=false:=decide_eq_false (by omega);have HP:=hid hp;clear hc hc2 HR hx hp hpl;obtain⟨b9,hb9⟩:∃ b,b=decide (i=9):=⟨_,rfl⟩;obtain⟨b1,hb1⟩:∃ b,b=decide (1<x):=⟨_,rfl⟩;obtain⟨b0,hb0⟩:∃ b,b=decide (x=0):=⟨_,rfl⟩;obtain⟨bi,hbi⟩:∃ b,b=decide (0<i):=⟨_,rfl⟩;have r1:((i:Int) == 9)=b9:=by rw[hb9,Bool.eq_iff_iff];simp;omega
    have r3:decide ((1:Int)<(x:Int))=b1:=by rw[hb1,Bool.eq_iff_iff];simp;omega
    have r4:decide (1<x)=b1:=hb1.symm;have r5:((x:Int) == 0)=b0:=by rw[hb0,Bool.eq_iff_iff];simp
    have r7:decide ((0:Int)<(i:Int))=bi:=by rw[hbi,Bool.eq_iff_iff];simp <;> omega
    have r8:decide (0<i)=bi:=hbi.symm;have G:=hid (show (b9=true↔i=9)∧(b1=true↔1<x)∧(b0=true↔x=0)∧(bi=true↔0<i) by rw[hb9,hb1,hb0,hbi];simp);clear hb9 hb1 hb0 hbi
    have hc:(b9=true∧b1=true)∨(b9=true∧b1=false∧b0=true∧bi=true)∨(b9=false∧b0=true∧bi=true)∨(b9=true∧b1=false∧b0=false)∨(b9=false∧b0=true∧bi=false)∨(b9=false∧b0=false):=by
     have g:=G.out;cases b9 <;> cases b1 <;> cases b0 <;> cases bi <;> simp at g ⊢ <;> omega
    rcases hc with ⟨rfl,rfl⟩ | ⟨rfl,rfl,rfl,rfl⟩ | ⟨rfl,rfl,rfl⟩ | hc
    ·go_wp2_with (at_builtin;refine z0Q ?_;intro q hq)
     try rw[Exit.noGoto_ret]
     go_ret3
     refine⟨?_,HK.o⟩;rw[HD.o,if_pos ⟨G.out.1.1 (by simp),G.out.2.1.1 (by simp)⟩];rfl
    ·go_wp2_with (at_builtin;refine z0Q ?_;intro q hq)
     try rw[Exit.noGoto_ret]
     go_ret3
     refine⟨?_,HK.o⟩;rw[HD.o,if_neg (by intro h;have:=G.out.2.1.2 h.2;simp at this),if_pos ⟨G.out.2.2.1.1 (by simp),G.out.2.2.2.1 (by simp)⟩];rfl
    ·clear r3 r4
     go_wp2_with (at_builtin;refine z0Q ?_;intro q hq)
     try rw[Exit.noGoto_ret]
     go_ret3
     refine⟨?_,HK.o⟩;rw[HD.o,if_neg (by intro h;have:=G.out.1.2 h.1;simp at this),if_pos ⟨G.out.2.2.1.1 (by simp),G.out.2.2.2.1 (by simp)⟩];rfl
    ·obtain⟨y,hy⟩:=zX1 (x % 128)
     have k1:bits .and .u8 (x:Int) 127=(y:Int):=by
      rw[show (127:Int)=((127:Nat):Int) from rfl,u8_and_nat x 127 hx2 (by decide),nat_mask7,hy]
     have k2:=wu64 y (by omega);obtain⟨s,hs⟩:=zX1 (7 * i);have k3:7 * (i:Int)=(s:Int):=by omega
     have hs63:s≤63:=by omega
     have HS:=zB1 hs hy;clear hs hy
     have HC:=hid (show ¬ (i=9∧1<x)∧¬ (x=0∧0<i) by
      have g:=G.out
      rcases hc with ⟨rfl,rfl,rfl⟩ | ⟨rfl,rfl,rfl⟩ | ⟨rfl,rfl⟩ <;> simp at g <;> omega)
     have hq64:y * 2 ^ s<18446744073709551616:=by
      have h1:=HC.x1;have hs:=HS.x1;have hy:=HS.y1
      by_cases h9:i=9
      ·have:y≤1:=by omega
       have:s=63:=by omega
       subst this;omega
      ·have hle:2 ^ s≤2 ^ 56:=Nat.pow_le_pow_right (by decide) (by omega)
       have hy2:y<128:=by omega
       calc y * 2 ^ s≤127 * 2 ^ 56:=Nat.mul_le_mul (by omega) hle
        _<_:=by decide
     have hv64:v<18446744073709551616:=Nat.lt_of_lt_of_le hv (Nat.le_trans (Nat.pow_le_pow_right (by decide) (show 7 * i≤63 by omega)) (by decide));have hj:=nat_join s (y * 2 ^ s) v (Nat.mul_mod_left _ _) (by rw[HS.x1];exact hv);have k4:(y:Int) * 2 ^ s=((y * 2 ^ s:Nat):Int):=by push_cast;rfl
     obtain⟨q,hq⟩:=zX1 (y * 2 ^ s);rw[← hq] at hj k4 hq64;have k5:=wu64 q hq64;have k6:=u64_or_nat v q hv64 hq64;rw[Nat.or_comm,hj] at k6;obtain⟨z,hz⟩:=zX1 (q+v);rw[← hz] at k6;have HZ:=zB1 hz hq;clear hz hq hj hv64 hq64
     by_cases hx8:x<128
     ·have HV:=hid (show BM.uint l a = .yes z (p+1) by
       rw[HD.o,if_neg HC.x1,if_neg HC.y1,if_pos hx8,HZ.x1,HZ.y1,HS.x1,HS.y1,HP.o,Nat.mod_eq_of_lt hx8,Nat.add_comm])
      have m1:(x:Int)<128:=by omega
      clear HD HC
      rcases hc with ⟨rfl,rfl,rfl⟩ | ⟨rfl,rfl,rfl⟩ | ⟨rfl,rfl⟩
      clear r7 r8
      rotate_left
      clear r3 r4
      rotate_left
      clear r3 r4 r7 r8
      rotate_left
      all_goals
       go_wp2_with fail
       try rw[Exit.noGoto_ret]
       go_ret3
       refine⟨?_,HK.o⟩;rw[HV.o];rfl
     ·have HV:=hid (show BM.uint l a=digits l a (10 - (i+1)) (i+1) z by
       rw[HD.o,if_neg HC.x1,if_neg HC.y1,if_neg hx8,HZ.x1,HZ.y1,HS.x1,HS.y1,show 10 - (i+1)=9 - i by omega,Nat.add_comm v];congr 3
       omega)
      have hz2:=hid (show z<2 ^ (7 * (i+1)) by
       have h1:=HZ.o;have h2:=HS.o;have hy2:y≤127:=by omega
       rw[show 7 * (i+1)=s+7 by omega,Nat.pow_add,h1.1,h1.2];rw[← h2.1] at hv;have:y * 2 ^ s≤127 * 2 ^ s:=Nat.mul_le_mul_right _ hy2
       omega)
      have m1:decide ((x:Int)<128)=false:=decide_eq_false (by omega);have m2:decide (x<128)=false:=decide_eq_false hx8;clear HD HC hx8
      rcases hc with ⟨rfl,rfl,rfl⟩ | ⟨rfl,rfl,rfl⟩ | ⟨rfl,rfl⟩
      clear r7 r8
      rotate_left
      clear r3 r4
      rotate_left
      clear r3 r4 r7 r8
      rotate_left
      all_goals
       go_wp2_with fail;exact⟨⟨i+1,z,by omega,hz2.out,by go_num,by go_num,hid ⟨HK.o,HV.o⟩⟩,by simp[intOf];omega⟩
   ·have q2:decide ((p:Int)<n)=false:=decide_eq_false (by omega)
    have q3:(n:Int)≤(p:Int):=by omega
    have HP:=zB1 hp hpn;clear hp hpn;go_wp2_with fail
    try rw[Exit.noGoto_ret]
    go_ret3
    refine⟨?_,HR.x1⟩;rw[HR.y1,show 10 - i=(9 - i)+1 by omega];show _=Ending.returned (numV (if l.length≤a+i then _ else _));have hle:l.length≤a+i:=by have h1:=HP.x1;have h2:=HP.y1;have h3:=H.y1;omega
    rw[if_pos hle];rfl
  ·obtain rfl:i=10:=by omega
   go_wp2_with fail
   try rw[Exit.noGoto_ret]
   try go_wp2
   try rw[Exit.noGoto_ret]
   go_ret3
   refine⟨?_,HR.x1⟩;rw[HR.y1];rfl
end
section
open Go.RowKit
open BM
theorem zoV(w:World)(b:Value)(a m:Nat)(hm:m<=9):Calls Tryz.prog 140 #[b,.int .i64 a,.int .i64 m] w λe w'=>e = .returned (.tuple #[.int .u64 0,.int .i64 0,.int .i64 10])/\w'=w:=by
 have t:((m:Int) == 10)=false:=by simp;omega
 go_in
 go_wp2_with fail
 go_ret3
 exact⟨by rfl,by first | rfl | trivial⟩
theorem zdE(w:World)(ao:Option Addr)(n c a:Nat)(l:List UInt8)(h:Cells w ao n 1 (z0B l))(ha:a≤n)(hn:n≤1000000000):Calls Tryz.prog 106 #[.slice ao n c,.int .i64 a] w fun e w'=>e = .returned (numV (BM.uint l a))∧Keep zF w w':=by
 have hl:l.length=n:=by have:=h.1;rw[z0E] at this;omega
 have H:=zB1 h hl;have t0:decide ((a:Int)<0)=false:=decide_eq_false (by omega);have t3:decide ((n:Int)<(a:Int))=false:=decide_eq_false (by omega);have t2:decide (n<a)=false:=decide_eq_false (by omega);clear hl h
 go_in
 go_wp2_with fail
 go_loopw [7,19,39] (fun mv _ _ wr=>∃ m:Nat,m≤10∧mv = .int .i64 m∧zH (Keep zF w wr∧a+m≤n∧∀ j,j<m→128≤(l.getD (a+j) 0).toNat)) (fun mv _ _ _=>10 - (intOf mv).toNat)
 case atStart=>exact⟨0,Nat.zero_le _,rfl,hid ⟨by first | exact Keep.refl _ _ | exact(Keep.refl _ _).drew,ha,fun j hj=>absurd hj (Nat.not_lt_zero _)⟩⟩
 case round=>
  obtain⟨m,hm,rfl,HR⟩:=hrel;obtain⟨p,hp⟩:=zX1 (a+m);have e1:(a:Int)+(m:Int)=(p:Int):=by omega
  have HP:=hid hp;have HK:=hid HR.x1;have hpn:=HR.x2;rw[← hp] at hpn;clear hp;have hB:=hid HR.y2;clear HR
  by_cases hm10:m<10
  ·have q1:(m:Int)<10:=by omega
   by_cases hlt:p<n
   ·obtain⟨ad,had,hc⟩:=H.x1.2 (by omega)
    subst had;have hpl:p<l.length:=by rw[H.y1];exact hlt
    have G:=hid (show ∀ w',Keep zF w w'→∀ j,j<n→w'.cell? (ad.add j)=some (.int .u8 ((l.getD j 0).toNat:Int)) by
     intro w' hw' j hj;obtain⟨ad2,e2,hc2⟩:=((H.x1).keep hw' zI).2 (by omega);cases e2;refine hc2 j _ ?_;have hjl:j<l.length:=by rw[H.y1];exact hj
     simp[z0B,hjl])
    have c0:=G.out wr HK.o p hlt;obtain⟨x,hx⟩:=zX1 ((l.getD p 0).toNat);have hx2:x<256:=by rw[hx];exact(l.getD p 0).toNat_lt
    rw[← hx] at c0;have HX:=hid hx;have q2:(p:Int)<n:=by omega
    have q3:decide ((n:Int)≤(p:Int))=false:=decide_eq_false (by omega);have q4:decide (n≤p)=false:=decide_eq_false (by omega);clear hc hx hpl
    by_cases hx8:128≤x
    ·have m1:(128:Int)≤(x:Int):=by omega
     go_wp2_with fail;refine⟨⟨m+1,by omega,by go_num,hid ⟨HK.o,by have:=HP.o;omega,?_⟩⟩,by simp[intOf];omega⟩;intro j hj
     by_cases hjm:j<m
     ·exact hB.out j hjm
     ·obtain rfl:j=m:=by omega
      rw[← HP.o,← HX.o];exact hx8
    ·have m1:decide ((128:Int)≤(x:Int))=false:=decide_eq_false (by omega)
     have m2:decide (128≤x)=false:=decide_eq_false (by omega);have m3:((m:Int) == 10)=false:=by simp;omega
     obtain⟨b9,hb9⟩:∃ b,b=decide (m=9):=⟨_,rfl⟩;obtain⟨b1,hb1⟩:∃ b,b=decide (1<x):=⟨_,rfl⟩;obtain⟨b0,hb0⟩:∃ b,b=decide (x=0):=⟨_,rfl⟩;obtain⟨bi,hbi⟩:∃ b,b=decide (0<m):=⟨_,rfl⟩;have r1:((m:Int) == 9)=b9:=by rw[hb9,Bool.eq_iff_iff];simp;omega
     have r3:decide ((1:Int)<(x:Int))=b1:=by rw[hb1,Bool.eq_iff_iff];simp;omega
     have r4:decide (1<x)=b1:=hb1.symm;have r5:((x:Int) == 0)=b0:=by rw[hb0,Bool.eq_iff_iff];simp
     have r7:decide ((0:Int)<(m:Int))=bi:=by rw[hbi,Bool.eq_iff_iff];simp <;> omega
     have r8:decide (0<m)=bi:=hbi.symm;have G2:=hid (show (b9=true↔m=9)∧(b1=true↔1<x)∧(b0=true↔x=0)∧(bi=true↔0<m) by rw[hb9,hb1,hb0,hbi];simp);clear hb9 hb1 hb0 hbi
     have hc:(bi=true∧b0=true)∨(bi=true∧b0=false∧b9=true∧b1=true)∨((bi=true∧b0=false∧b9=true∧b1=false)∨(bi=true∧b0=false∧b9=false)∨(bi=false∧b9=false)):=by
      have g:=G2.out;cases b9 <;> cases b1 <;> cases b0 <;> cases bi <;> simp at g ⊢ <;> omega
     rcases hc with ⟨rfl,rfl⟩ | ⟨rfl,rfl,rfl,rfl⟩ | hc
     ·clear r1 r3 r4
      go_wp2_with fail
      go_ret3
      refine⟨?_,HK.o⟩;have g:=G2.out;rw[zmE (m:=m) (by omega) (by rw[H.y1,← HP.o];exact hlt) hB.out (.inl ⟨g.2.2.2.1 (by simp),by rw[← HP.o,← HX.o];exact g.2.2.1.1 (by simp)⟩)];rfl
     ·go_wp2_with (at_builtin;refine z0Q ?_;intro q hq)
      go_ret3
      refine⟨?_,HK.o⟩;have g:=G2.out;rw[zmE (m:=m) (by omega) (by rw[H.y1,← HP.o];exact hlt) hB.out (.inr ⟨g.1.1 (by simp),by rw[← HP.o,← HX.o];exact g.2.1.1 (by simp)⟩)];rfl
     ·have HC:=hid (show ¬ (0<m∧x=0)∧¬ (m=9∧1<x) by
       have g:=G2.out
       rcases hc with ⟨rfl,rfl,rfl,rfl⟩ | ⟨rfl,rfl,rfl⟩ | ⟨rfl,rfl⟩ <;> simp at g <;> omega)
      have HB:=hid (show ∀ k,k≤m→back l a m k<18446744073709551616 by
       intro k hk;have h1:=HC.y1;rw[HX.o,HP.o] at h1
       exact zvY (by omega) hk (by rw[← HP.o,← HX.o];omega) h1)
      have HZ:=hid (show x=back l a m 0 by show x=(l.getD (a+m) 0).toNat;rw[← HP.o,← HX.o])
      have HV:=hid (show BM.uint l a = .yes (back l a m m) (p+1) by
       have h1:=HC.x1;have h2:=HC.y1;rw[HX.o,HP.o] at h1 h2
       rw[zsH (m:=m) (by omega) (by rw[H.y1,← HP.o];exact hlt) hB.out (by rw[← HP.o,← HX.o];omega) h1 h2,← HP.o])
      have k2:=wu64 x (by omega);clear HC
      rcases hc with ⟨rfl,rfl,rfl,rfl⟩ | ⟨rfl,rfl,rfl⟩ | ⟨rfl,rfl⟩
      rotate_left
      clear r3 r4
      rotate_left
      clear r3 r4 r5
      rotate_left
      all_goals
       go_wp2_with fail
       go_loopw [9,10] (fun vv iv wr=>∃ k:Nat,k≤m∧vv = .int .u64 (back l a m k:Nat)∧iv = .int .i64 ((m:Int) - 1 - (k:Int))∧zH (Keep zF w wr)) (fun _ iv _=>(intOf iv+1).toNat)
       case atStart=>exact⟨0,Nat.zero_le _,congrArg (fun q:Nat=>Value.int .u64 (q:Int)) HZ.o,by go_num,hid HK.o⟩
       case round=>
        clear c0 m1 m2 m3 q1 q2 q3 q4 e1 k2;obtain⟨k,hk,rfl,rfl,HR⟩:=hrel
        by_cases hkm:k<m
        ·obtain⟨j,hj⟩:=zX1 (m - 1 - k)
         have ej:(m:Int) - 1 - (k:Int)=(j:Int):=by omega
         have hjm:j<m:=by omega
         obtain⟨r,hr⟩:=zX1 (a+j);have er:(a:Int)+(j:Int)=(r:Int):=by omega
         have hrn:r<n:=by have:=HP.o;omega
         have lr:(r:Int)<n:=by omega
         have c1:=G.out wr HR.o r hrn;have hx3:=hB.out j hjm;rw[← hr] at hx3;have hnext:=HB.o (k+1) (by omega);have heq:=hid (show back l a m (k+1)=back l a m k * 128+((l.getD r 0).toNat - 128) by rw[hr,hj];rfl);have hx4:=(l.getD r 0).toNat_lt;generalize (l.getD r 0).toNat=x2 at *;obtain⟨u,hu⟩:=zX1 (back l a m k);rw[← hu] at heq ⊢;obtain⟨u2,hu2⟩:∃ q,q=u * 128:=⟨_,rfl⟩;obtain⟨y,hy⟩:∃ u,u=x2 - 128:=⟨_,rfl⟩;obtain⟨z,hz⟩:∃ u,u=u2+y:=⟨_,rfl⟩;have heq2:=heq.out;rw[← hu2,← hy,← hz] at heq2;rw[heq2] at hnext;have f1:(u:Int) * 128=(u2:Int):=by omega
         have f2:(x2:Int) - 128=(y:Int):=by omega
         have f3:(u2:Int)+(y:Int)=(z:Int):=by omega
         have f4:=wu64 u2 (by omega);have f5:=wu64 y (by omega);have f6:=wu64 z hnext;have f7:=wu8 y (by omega);have HE:=hid heq2;have HJ:=zB1 hj hr;rw[ej];clear heq heq2 hu hu2 hy hz hj hr hx3 hx4 hnext;go_wp2_with fail;refine⟨⟨k+1,by omega,by rw[HE.o],?_,HR⟩,?_⟩
         ·have:=HJ.x1;congr 1;omega
         ·have:=HJ.x1;simp[intOf] <;> omega
        ·rw[show (m:Int) - 1 - (k:Int) = -1 by omega]
         have hkm2:=hid (show k=m by omega);clear hkm;go_wp2_with fail
         go_ret3
         refine⟨?_,HR.o⟩;rw[HV.o,hkm2.out];simp[numV];have:=HP.o;omega
   ·have q2:decide ((p:Int)<n)=false:=decide_eq_false (by omega)
    have q3:(n:Int)≤(p:Int):=by omega
    have q5:decide (p<n)=false:=decide_eq_false (by omega);have m3:((m:Int) == 10)=false:=by simp;omega
    have HQ:=hid (show p=n by omega);have Hs:=hid (zoV wr (.slice ao n c) a m (by omega));clear hlt;go_wp2_with fail;refine Hs.o.mono ?_;rintro _ _ ⟨rfl,rfl⟩;go_wp2_with fail
    go_ret3
    refine⟨?_,HK.o⟩;rw[zoM (m:=m) (by omega) (by rw[H.y1,← HP.o];exact HQ.o) hB.out];rfl
  ·obtain rfl:m=10:=by omega
   go_wp2_with fail
   go_ret3
   refine⟨?_,HK.o⟩;rw[zwA (by rw[H.y1];have:=HP.o;omega) hB.out];rfl
end
section
open Go.RowKit
open BM
end
section
open Go.RowKit
def pop8(x:Nat):Nat:=((List.range 8).filter fun i=>x.testBit i).length
theorem zjI(w:World)(x:Nat)(hx:x<8):Calls Tryz.prog 124 #[.int .u32 (x:Int)] w λe w'=>e = .returned (.int .i64 (pop8 x:Nat))/\Keep zF w w':=by
 have a0:bits .and .u32 0 255=0:=by{decide};have a1:bits .and .u32 1 255=1:=by{decide};have a2:bits .and .u32 2 255=2:=by{decide};have a3:bits .and .u32 3 255=3:=by{decide};have a4:bits .and .u32 4 255=4:=by{decide};have a5:bits .and .u32 5 255=5:=by{decide};have a6:bits .and .u32 6 255=6:=by{decide};have a7:bits .and .u32 7 255=7:=by decide
 match x,hx with
 | 0,_ | 1,_ | 2,_ | 3,_ | 4,_ | 5,_ | 6,_ | 7,_=>
   go_in
   generalize hS:ByteArray.mk _=B;have hsz:B.size=256:=by{rw[<-hS];rfl};have g0:∀ h,B[0]'h=0:=by{subst hS;intro h;rfl};have g1:∀ h,B[1]'h=1:=by{subst hS;intro h;rfl};have g2:∀ h,B[2]'h=1:=by{subst hS;intro h;rfl};have g3:∀ h,B[3]'h=2:=by{subst hS;intro h;rfl};have g4:∀ h,B[4]'h=1:=by{subst hS;intro h;rfl};have g5:∀ h,B[5]'h=2:=by{subst hS;intro h;rfl};have g6:∀ h,B[6]'h=2:=by{subst hS;intro h;rfl};have g7:∀ h,B[7]'h=3:=by{subst hS;intro h;rfl};clear hS;go_wp2_with fail;refine z0V (by kernel_rfl) (by kernel_rfl) ?_
   repeat (go_big_quiet_step (fail))
   refine wpQuiet_nil ?_;rintro _ ⟨sq,rfl⟩;go_wp2_with fail;go_ret;exact⟨rfl,sq.keep⟩
end
section
open Go.RowKit
open RM
def entV(e:Nat×Value):List Value:=[.int .u64 (e.1:Int),e.2]
def z1K(l:List (Nat×Value)):List Value:=l.flatMap entV
theorem z2V(l:List (Nat×Value)):(z1K l).length=l.length * 2:=by
 induction l with | nil=>{rfl} | cons p l ih=>{simp only[z1K,List.flatMap_cons,List.length_append,List.length_cons] at *;rw[ih];simp[entV];omega}
theorem z3K(l m:List (Nat×Value)):z1K (l ++ m)=z1K l ++ z1K m:=by simp[z1K]
theorem zdQ(p:Nat×Value):z1K [p]=entV p:=by simp[z1K]
theorem zoY(l:List (Nat×Value))(i:Nat):(z1K l).take (i * 2)=z1K (l.take i):=by
 by_cases hi:i<=l.length;{have e:z1K l=z1K (l.take i) ++ z1K (l.drop i):=by{rw[<-z3K,List.take_append_drop]};have hl:(z1K (l.take i)).length=i * 2:=by{rw[z2V,List.length_take];omega};rw[e,<-hl,List.take_left]};{rw[List.take_of_length_le (by rw[z2V];omega),List.take_of_length_le (by omega)]}
theorem zoH(l:List (Nat×Value))(i:Nat):(z1K l).drop (i * 2)=z1K (l.drop i):=by
 by_cases hi:i<=l.length;{have e:z1K l=z1K (l.take i) ++ z1K (l.drop i):=by{rw[<-z3K,List.take_append_drop]};have hl:(z1K (l.take i)).length=i * 2:=by{rw[z2V,List.length_take];omega};rw[e,<-hl,List.drop_left]};{rw[List.drop_of_length_le (by rw[z2V];omega),List.drop_of_length_le (by omega)];rfl}
theorem zjK(l:List (Nat×Value))(i:Nat)(hi:i<l.length)(j:Nat)(hj:j<2):(z1K l)[i * 2+j]?=(entV l[i])[j]?:=by
 have e:l=l.take i ++ [l[i]] ++ l.drop (i+1):=by{simp};have hl:(z1K (l.take i)).length=i * 2:=by rw[z2V,List.length_take];omega
 conv=>lhs;rw[e]
 rw[z3K,z3K,List.append_assoc,List.getElem?_append_right (by omega),hl,zdQ,show i * 2+j - i * 2=j by omega];rw[List.getElem?_append_left (by simp[entV];omega)]
def z8G:Value:=.agg #[.int .u64 0,.slice none 0 0]
theorem z7L:SliceTy Tryz.prog 57 127 z8G 2 32:=⟨by kernel_rfl,by kernel_rfl,rfl,by decide⟩
theorem z1Y{w:World}{b:Nat}{T:TypeId}{a0 a1:Value}(H:w.heap[b]?=some (.cells #[a0,a1] T (0,0))):w.cell? ⟨b,0,none⟩=some a0/\w.cell? ⟨b,1,none⟩=some a1/\(∀ o,w.frozen? ⟨b,o,none⟩=false)/\b<w.heap.size:=by
 refine⟨?_,?_,?_,z0J H⟩ <;> simp[World.cell?,World.frozen?,H]
theorem ziK{wr:World}{v:Value}{l:List (Nat×Value)}{n:Nat}(h:Row wr 127 2 v n (z1K l))(i:Nat)(hi:i<l.length):∃ g cap,v = .slice (some ⟨g,0,none⟩) n cap/\wr.cell? ⟨g,i * 2,none⟩=some (.int .u64 (l[i].1:Int))/\wr.cell? ⟨g,i * 2+1,none⟩=some l[i].2:=by
 have h0:=zjK l i hi 0 (by decide);have h1:=zjK l i hi 1 (by decide);obtain⟨g,cap,rfl,c0⟩:=h.getCell (show (z1K l)[i * 2+0]?=some (.int .u64 (l[i].1:Int)) by rw[h0];rfl);obtain⟨g',cap',hv,c1⟩:=h.getCell (show (z1K l)[i * 2+1]?=some l[i].2 by rw[h1];rfl);cases hv;exact⟨g,cap,rfl,c0,c1⟩
def cmpI(a b:Nat):Int:=if a<b then -1 else if b<a then 1 else 0
theorem zsM(w:World)(s t:Nat)(ao:Option Addr)(n c:Nat):Calls Tryz.prog 120 #[.agg #[.int .u64 s,.slice ao n c],.int .u64 t] w λe w'=>e = .returned (.int .i64 (cmpI s t))/\Keep zF w w':=by
 unfold cmpI;by_cases h:s<t;{rw[if_pos h];have d:decide (s<t)=true:=by{simpa using h};(go_in);go_wp2_with fail;go_ret;exact⟨by rfl,(Keep.refl _ _).alloc _⟩};{rw[if_neg h];have d:decide (s<t)=false:=by{simpa using h};by_cases h2:t<s;{rw[if_pos h2];have d2:decide (t<s)=true:=by{simpa using h2};(go_in);go_wp2_with fail;go_ret;exact⟨by rfl,(Keep.refl _ _).alloc _⟩};{rw[if_neg h2];have d2:decide (t<s)=false:=by{simpa using h2};(go_in);go_wp2_with fail;go_ret;exact⟨by rfl,(Keep.refl _ _).alloc _⟩}}
theorem zpA(w:World)(l:List (Nat×Value))(v:Value)(n t:Nat)(hr:Row w 127 2 v n (z1K l))(hn:l.length=n)(hsm:n<=1000000)(hus:∀ e ∈ l,∃ ao m c,e.2 = .slice ao m c)(hri:(l.map (·.1)).Pairwise (· < ·)):Calls Tryz.prog 119 #[v,.int .u64 t,.func (.func 120) #[] #[]] w λe w'=>
   ∃ i:Nat,e = .returned (.tuple #[.int .i64 i,.bool (decide ((l[i]?.map (·.1))=some t))])/\i<=n/\(∀ j (hj:j<l.length),j<i->l[j].1<t)/\(∀ j (hj:j<l.length),i<=j->t<=l[j].1)/\Keep zF w w':=by
 obtain⟨ad,cap,rfl,hcap,hmax,-⟩:=hr.form;have HR:=hid hr;have HU:=hid hus;have HS:=hid hri;have HN:=hid hn;have hn63:(n:Int)<=9223372036854775807:=by{unfold maxLen at hmax;omega};clear hr hus hri hn
 go_in
 go_wp2_with fail
 go_loopw [9,10] (λiv jv wr=>∃ i j:Nat,i<=j/\j<=n/\iv = .int .i64 i/\jv = .int .i64 j/\zH ((∀ p (hp:p<l.length),p<i->l[p].1<t)/\∀ p (hp:p<l.length),j<=p->t<=l[p].1)/\zH (Keep zF w wr)) (λiv jv _=>(intOf jv).toNat - (intOf iv).toNat)
 case atStart=>exact⟨0,n,Nat.zero_le _,Nat.le_refl _,rfl,rfl,hid ⟨λp _ h=>absurd h (Nat.not_lt_zero _),λp hp h=>by have:=HN.o;omega⟩,hid (Keep.refl _ _)⟩
 case round=>(obtain⟨i,j,hij,hjn,rfl,rfl,HP,HK⟩:=hrel;by_cases hlt:i<j;{have h4:(i:Int)<j:=by{omega};obtain⟨h,hh⟩:=zX1 ((i+j) / 2);have hhn:h<n:=by{omega};have hhl:h<l.length:=by{rw[HN.o];exact hhn};have r1:((i:Int)+(j:Int)) / 2=(h:Int):=by{omega};have h5:(h:Int)<n:=by{omega};have hhi:i<=h:=by{omega};have hhj:h<j:=by{omega};clear hh;obtain⟨g,cap',hv,c0,c1⟩:=ziK (HR.o.keep HK.o zI) h hhl;cases hv;obtain⟨ao,m,c,hu⟩:=HU.o _ (List.getElem_mem hhl);rw[hu] at c1;clear hu;have hcmp:=λw=>zsM w l[h].1 t ao m c;by_cases hs:l[h].1<t;{rw[show cmpI l[h].1 t = -1 by unfold cmpI;rw[if_pos hs]] at hcmp;have Hcmp:=hid hcmp;have Hs:=hid hs;obtain⟨sl,hsl⟩:∃ s,s=l[h].1:=⟨_,rfl⟩;rw[<-hsl] at c0 Hcmp;clear hcmp hs hsl;go_wp2_with fail;refine(Hcmp.o wr).mono ?_;rintro e w3 ⟨rfl,hk3⟩;have HK3:=hid (HK.o.next hk3 zI zI);clear hk3 c0 c1;go_wp2_with fail;go_roundw;(case rel=>exact⟨h+1,j,by omega,hjn,by go_num,rfl,hid ⟨λp hp hph=>by{rcases Nat.lt_or_eq_of_le (Nat.le_of_lt_succ hph) with x | x;{have:=List.pairwise_iff_getElem.1 HS.o p h (by simpa using hp) (by simpa using hhl) x;simp at this;have:=Hs.o;omega};{subst x;exact Hs.o}},HP.y1⟩,HK3⟩);case measure=>simp[intOf];omega};{rw[show cmpI l[h].1 t=if t<l[h].1 then 1 else 0 by unfold cmpI;rw[if_neg hs]] at hcmp;(have Hs:=hid hs;obtain⟨sl,hsl⟩:∃ s,s=l[h].1:=⟨_,rfl⟩;rw[<-hsl] at c0 hcmp;obtain⟨cv,hcv⟩:∃ z:Nat,(z:Int)=if t<sl then 1 else 0:=by split;exact⟨1,rfl⟩;exact⟨0,rfl⟩);rw[<-hcv] at hcmp;have Hcmp:=hid hcmp;clear hcmp hs hsl hcv;have h6:decide ((cv:Int)<0)=false:=by{simp};go_wp2_with fail;refine(Hcmp.o wr).mono ?_;rintro e w3 ⟨rfl,hk3⟩;have HK3:=hid (HK.o.next hk3 zI zI);clear hk3 c0 c1;go_wp2_with fail;go_roundw;(case rel=>exact⟨i,h,hhi,by omega,rfl,by go_num,hid ⟨HP.x1,λp hp hph=>by{rcases Nat.lt_or_eq_of_le hph with x | x;{have:=List.pairwise_iff_getElem.1 HS.o h p (by simpa using hhl) (by simpa using hp) x;simp at this;have:=Hs.o;omega};{subst x;have:=Hs.o;omega}}⟩,HK3⟩);case measure=>simp[intOf];omega}};{obtain rfl:i=j:=by{omega};have h4:decide ((i:Int)<i)=false:=by{simp};by_cases hin:i<n;{have h5:(i:Int)<n:=by{omega};have hil:i<l.length:=by{rw[HN.o];exact hin};obtain⟨g,cap',hv,c0,c1⟩:=ziK (HR.o.keep HK.o zI) i hil;cases hv;obtain⟨ao,m,c,hu⟩:=HU.o _ (List.getElem_mem hil);rw[hu] at c1;clear hu;have hcmp:=λw=>zsM w l[i].1 t ao m c;have hge:=HP.y1 i hil (Nat.le_refl _);by_cases hs:l[i].1=t;{rw[show cmpI l[i].1 t=0 by unfold cmpI;rw[if_neg (by omega),if_neg (by omega)]] at hcmp;have hfound:decide ((l[i]?.map (·.1))=some t)=true:=by{rw[List.getElem?_eq_getElem hil];simp[hs]};rw[hs] at c0 hcmp;have Hcmp:=hid hcmp;have Hf:=hid hfound;clear hcmp hs hfound hge;go_wp2_with fail;refine(Hcmp.o wr).mono ?_;rintro e w3 ⟨rfl,hk3⟩;have HK3:=hid (HK.o.next hk3 zI zI);clear hk3 c0 c1;go_wp2_with fail;go_ret2;exact⟨i,by rw[Hf.o];rfl,hjn,HP.x1,HP.y1,HK3.o⟩};{rw[show cmpI l[i].1 t=1 by unfold cmpI;rw[if_neg (by omega),if_pos (by omega)]] at hcmp;have hfound:decide ((l[i]?.map (·.1))=some t)=false:=by{rw[List.getElem?_eq_getElem hil];simp[hs]};obtain⟨sl,hsl⟩:∃ s,s=l[i].1:=⟨_,rfl⟩;rw[<-hsl] at c0 hcmp;have Hcmp:=hid hcmp;have Hf:=hid hfound;clear hcmp hs hfound hge hsl;go_wp2_with fail;refine(Hcmp.o wr).mono ?_;rintro e w3 ⟨rfl,hk3⟩;have HK3:=hid (HK.o.next hk3 zI zI);clear hk3 c0 c1;go_wp2_with fail;go_ret2;exact⟨i,by rw[Hf.o];rfl,hjn,HP.x1,HP.y1,HK3.o⟩}};{have h5:decide ((i:Int)<n)=false:=by{simp;omega};have hfound:decide ((l[i]?.map (·.1))=some t)=false:=by{rw[List.getElem?_eq_none (by rw[HN.o];omega)];simp};have Hf:=hid hfound;clear hfound;go_wp2_with fail;go_ret2;exact⟨i,by rw[Hf.o];rfl,hjn,HP.x1,HP.y1,HK.o⟩}})
end
section
open Go.RowKit
open RM
theorem zwS{P:Program}{fn:Func}{t:Tmp}{ty:TypeId}(h:fn.results = #[.cell t ty])(tmps:Array Value)(w:World)(g:Nat)(ht:tmps.getD t undef = .pointer (some ⟨g,0,none⟩))(cs:List Value)(hc:∀ j u,cs[j]?=some u->w.cell? ⟨g,j,none⟩=some u)(d:TypeDesc)(hu:P.underlying ty=some d)(hd:(match d with | .struct _ | .array _ _=>true | _=>false)=true)(hi:(P.info? ty).map (·.size)=some cs.length):(results fn tmps).run P w = .ok (.agg cs.toArray) w:=by
 have hl:=run_loadCells_list (P:=P) w ⟨g,0,none⟩ cs (λj v hv=>by rw[z0R,Nat.zero_add];exact hc j v hv);cases hq:P.info? ty with | none=>{simp[hq] at hi} | some i=>{have hs:i.size=cs.length:=by{simpa [hq] using hi};have hagg:(isAgg ty).run P w = .ok true w:=by{unfold isAgg;rw[Sem.run_bind,run_underlying hu w];cases d <;> simp_all};have hr:(loadVar ty ⟨g,0,none⟩).run P w = .ok (.agg cs.toArray) w:=by{simp[loadVar,Sem.run_bind,hagg,sizeOf,typeInfo,hq,hs,hl]};have ht':tmps[t]?.getD undef = .pointer (some ⟨g,0,none⟩):=by{simpa using ht};simp[results,h,ht',asAddr,hr]}
theorem zkF(w:World)(s:Nat)(ao:Option Addr)(n c:Nat)(bs:List UInt8)(hb:Cells w ao n 1 (z0B bs))(hn:n<=1000000):Calls Tryz.prog 102 #[.agg #[.int .u64 s,.slice ao n c]] w λe w'=>
   ∃ ao' c',e = .returned (.agg #[.int .u64 s,.slice ao' n c'])/\Row w' 5 1 (.slice ao' n c') n (z0B bs)/\(∀ k,(Value.slice ao' n c').ownBlock=some k->w.heap.size<=k)/\Keep zF w w':=by
 go_in
 go_wp2_with (at_builtin;refine z0Q ?_;intro q hq)
 (refine hq.out ?_;clear hq q)
 have hA:=heap_alloc_new w (.cells #[.int .u64 (s:Int),.slice ao n c] 127);have kA:=kal w (.cells #[.int .u64 (s:Int),.slice ao n c] 127);have zA:(w.alloc (.cells #[.int .u64 (s:Int),.slice ao n c] 127)).heap.size=w.heap.size+1:=by{simp};obtain⟨wA,hwA⟩:=zX1 (w.alloc (.cells #[.int .u64 (s:Int),.slice ao n c] 127));rw[<-hwA] at hA kA zA |-;have hB:=heap_alloc_new wA (.cells #[.int .u64 0,.slice none 0 0] 127);have kB:=kal wA (.cells #[.int .u64 0,.slice none 0 0] 127);have zB:(wA.alloc (.cells #[.int .u64 0,.slice none 0 0] 127)).heap.size=wA.heap.size+1:=by{simp};(obtain⟨wB,hwB⟩:=zX1 (wA.alloc (.cells #[.int .u64 0,.slice none 0 0] 127));rw[<-hwB] at hB kB zB |-;have hF:=Row.fresh wB 5 1;have kC:=kal wB (.cells #[] 5);rw[zA] at hB zB;rw[zB] at hF;obtain⟨wC,hwC⟩:=zX1 (wB.alloc (.cells #[] 5));rw[<-hwC] at hF kC |-;have hA':=kC.get (kB.get hA id) id;have hB':=kC.get hB id;have k0C:Keep zF w wC:=(kA.next kB zI zI).next kC zI zI;clear hwA hwB hwC hA hB kA kB kC zA zB;have hsC:=z0J hB';refine wpList_plain rfl (λK hK=>?_);refine z1E (v:=.slice (some ⟨w.heap.size+1+1,0,none⟩) 0 0) (n:=0) z1L (.tmp 3) (.tmp 5) rfl rfl hF ao n c (z0B bs) rfl (hb.keep k0C λ_ _ x=>x) (z2D _) (by unfold maxLen;omega) (by omega) ?_;intro v2 w2 hr2 hk2 hv2;rw[Nat.zero_add,List.nil_append] at hr2;refine hK _ _ ?_;clear hK K;have hA2:=hk2.get hA' (by intro e;simp[Value.ownBlock] at e <;> omega);have hB2:=hk2.get hB' (by intro e;simp[Value.ownBlock] at e <;> omega));have own2:∀ k,v2.ownBlock=some k->w.heap.size+1<k:=by{intro k hk;rcases hv2 with ⟨e,_⟩ | ⟨k',h1,h2⟩;{rw[e] at hk;simp[Value.ownBlock] at hk;omega};{rw[hk] at h1;cases h1;rcases h2 with h2 | h2;{simp[Value.ownBlock] at h2;omega};{omega}}};have k02:Keep zF w w2:=k0C.next hk2 zI (λi hi x=>by simp[Value.ownBlock] at x;omega);obtain⟨ao2,c2,rfl,-⟩:=hr2.form;obtain⟨a0,a1,af,-⟩:=z1Y hA2;obtain⟨b0,b1,bf,-⟩:=z1Y hB2;have HX:=zB4 hr2 hA2 hB2 own2 k02;clear hr2 hA2 hB2 own2 k02 hk2 hv2 hF hA' hB' k0C hb;go_wp2_with fail;obtain⟨hr2,hA2,hB2,own2,k02⟩:=HX.o;have k3:Keep (λk=>k=w.heap.size) w2 (w2.setCell ⟨w.heap.size,1,none⟩ (.slice ao2 n c2)):=kst;have hB3:=k3.get hB2 (by omega);obtain⟨w3,hw3⟩:=zX1 (w2.setCell ⟨w.heap.size,1,none⟩ (.slice ao2 n c2));rw[<-hw3] at k3 hB3 |-;have hB4:=heap_setCell_same w3 (w.heap.size+1) 0 _ _ (.int .u64 (s:Int)) hB3;have hB5:=heap_setCell_same (w3.setCell ⟨w.heap.size+1,0,none⟩ (.int .u64 (s:Int))) (w.heap.size+1) 1 _ _ (.slice ao2 n c2) hB4;have k5:Keep (λk=>k=w.heap.size+1) w3 ((w3.setCell ⟨w.heap.size+1,0,none⟩ (.int .u64 (s:Int))).setCell ⟨w.heap.size+1,1,none⟩ (.slice ao2 n c2)):=by{refine Keep.setCell (Keep.setCell (Keep.refl _ _) (.inl ?_) _) (.inl ?_) _ <;> rfl};obtain⟨w5,hw5⟩:=zX1 ((w3.setCell ⟨w.heap.size+1,0,none⟩ (.int .u64 (s:Int))).setCell ⟨w.heap.size+1,1,none⟩ (.slice ao2 n c2));rw[<-hw5] at hB5 k5 |-;have k25:Keep (λk=>k=w.heap.size∨k=w.heap.size+1) w2 w5:=k3.next k5 (λ_ _ x=>.inl x) (λ_ _ x=>.inr x);refine bodyPost_ret (zwS rfl _ _ (w.heap.size+1) rfl [.int .u64 (s:Int),.slice ao2 n c2] ?_ _ Tryz.underlying127 rfl (by kernel_rfl)) rfl ?_;{intro j u hu;rw[cell_of_row _ _ _ _ _ _ hB5];simpa using hu};{exact⟨ao2,c2,rfl,hr2.keep k25 (λk e x=>by have:=own2 k e;omega),λk e=>by have:=own2 k e;omega,k02.next k25 zI (λi hi x=>by omega)⟩}
structure RlIs (w:World) (b:Nat) (F:Nat→Prop) (g:Lg) (v:Value) (us:List (Nat×Value)):Prop where
 head:w.heap[b]?=some (.cells #[.int .u64 (g.ap:Int),v] 154 (0,0))
 row:Row w 127 2 v g.l.length (z1K us)
 keys:us.map (·.1)=g.l.map (·.1)
 each:∀ i (hi:i<g.l.length),∃ ao c,(us[i]?.map (·.2))=some (.slice ao g.l[i].2.length c)∧Cells w ao g.l[i].2.length 1 (z0B g.l[i].2)∧(0<g.l[i].2.length→∀ x,ao=some x→F x.block∧x.block≠b∧v.ownBlock≠some x.block)
 self:F b
 own:∀ k,v.ownBlock=some k→F k∧k≠b
 lt:∀ k,F k→k<w.heap.size
 ok:RM.Ok g
def RlAt(w:World)(b:Nat)(F:Nat→Prop)(g:Lg):Prop:=∃ v us,RlIs w b F g v us
theorem RlIs.len{w:World}{b:Nat}{F:Nat->Prop}{g:Lg}{v:Value}{us:List (Nat×Value)}(h:RlIs w b F g v us):us.length=g.l.length:=by
 have:=congrArg List.length h.keys;simpa using this
theorem RlIs.keep{w w':World}{b:Nat}{F G:Nat->Prop}{g:Lg}{v:Value}{us:List (Nat×Value)}(h:RlIs w b F g v us)(hk:Keep G w w')(hn:∀ k,F k->¬ G k):RlIs w' b F g v us:=by
 refine⟨hk.get h.head (hn _ h.self),h.row.keep hk λk e=>hn _ (h.own k e).1,h.keys,λi hi=>?_,h.self,h.own,λk hF=>Nat.lt_of_lt_of_le (h.lt k hF) hk.size,h.ok⟩;obtain⟨ao,c,h1,h2,h3⟩:=h.each i hi;exact⟨ao,c,h1,h2.keep0 hk λhp x hx=>hn _ (h3 (by omega) x hx).1,h3⟩
theorem RlAt.keep{w w':World}{b:Nat}{F G:Nat->Prop}{g:Lg}(h:RlAt w b F g)(hk:Keep G w w')(hn:∀ k,F k->¬ G k):RlAt w' b F g:=
 let ⟨_,_,hh⟩:=h;⟨_,_,hh.keep hk hn⟩
theorem RlIs.slices{w:World}{b:Nat}{F:Nat->Prop}{g:Lg}{v:Value}{us:List (Nat×Value)}(h:RlIs w b F g v us):∀ e ∈ us,∃ ao m c,e.2 = .slice ao m c:=λe he=>by
 obtain⟨i,hi,rfl⟩:=List.getElem_of_mem he;obtain⟨ao,c,h1,_⟩:=h.each i (by rw[<-h.len];exact hi);rw[List.getElem?_eq_getElem hi] at h1;exact⟨ao,_,c,by simpa using h1⟩
def RlTo(b:Nat)(F:Nat→Prop)(w:World)(g:Lg)(w':World):Prop:=∃ F',RlAt w' b F' g∧Keep F w w'∧∀ k,F' k→F k∨w.heap.size≤k
theorem zcI(w:World)(b:Nat)(F:Nat->Prop)(g:Lg)(t:Nat)(hL:RlAt w b F g):Calls Tryz.prog 86 #[.pointer (some ⟨b,0,none⟩),.int .u64 t] w λe w'=>
   e = .returned (.tuple #[.int .i64 ((below g.l t:Nat):Int),.bool (kept g.l t).isSome])/\Keep zF w w':=by
 obtain⟨v,us,hI⟩:=hL;obtain⟨a0,a1,af,-⟩:=z1Y hI.head;have hlen:=hI.len;have hri:(us.map (·.1)).Pairwise (· < ·):=by{rw[hI.keys];exact List.pairwise_map.2 hI.ok.rising};have hs:=zpA w us v g.l.length t hI.row hlen (by have:=hI.ok.few;omega) hI.slices hri;obtain⟨ao,c,rfl,-⟩:=hI.row.form;have HI:=hid hI;have HS:=hid hs;have HLn:=hid hlen;obtain⟨n,hn⟩:=zX1 (g.l.length);rw[<-hn] at a1;have Hn:=hid hn;clear hI hs hri hn hlen
 go_in
 go_wp2_with fail;have hs:=HS.o;rw[<-Hn.o] at hs;refine hs.mono ?_;rintro e w2 ⟨i,rfl,hin,h1,h2,hk⟩;have keyg:∀ j (hj:j<us.length),us[j].1=(g.l[j]'(by rw[<-HLn.o];exact hj)).1:=λj hj=>by{have h:=congrArg (λl=>l[j]?) HI.o.keys;simp only[List.getElem?_map,List.getElem?_eq_getElem hj,List.getElem?_eq_getElem (show j<g.l.length by rw[<-HLn.o];exact hj),Option.map_some,Option.some.injEq] at h;exact h};have hi:i=below g.l t:=z8M HI.o.ok.rising t i (by rw[<-Hn.o];exact hin) (λj hj hji=>by rw[<-keyg j (by rw[HLn.o];exact hj)];exact h1 j _ hji) (λj hj hji=>by rw[<-keyg j (by rw[HLn.o];exact hj)];exact h2 j _ hji);have hk2:decide ((us[i]?.map (·.1))=some t)=(kept g.l t).isSome:=by{have h:=congrArg (λl=>l[i]?) HI.o.keys;simp only[List.getElem?_map] at h;rw[h,hi,zcY HI.o.ok.rising t];cases hb:g.l[below g.l t]? with | none=>{simp} | some e=>{by_cases he:e.1=t <;> simp[he]}};rw[hk2,hi];have HK:=hid hk;clear hk h1 h2 keyg hk2 hi;go_wp2_with fail;go_ret2;exact⟨by rfl,HK.o⟩
end
end Go.Proofs.YtkhddpiopbmhjaaGreat
