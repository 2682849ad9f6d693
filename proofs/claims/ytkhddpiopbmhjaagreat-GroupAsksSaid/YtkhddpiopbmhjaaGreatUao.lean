/- Texts StoB in one. Conditions: as each law names them. -/
import Derived.Test.YtkhddpiopbmhjaaGreatUai
import Derived.Test.YtkhddpiopbmhjaaGreatUaj
import Derived.Test.YtkhddpiopbmhjaaGreatUan
set_option maxRecDepth 20000
set_option maxHeartbeats 8000000
namespace Go.Proofs.YtkhddpiopbmhjaaGreat
section
open Go.RowKit
open MI SO BM
theorem zgR(w:World)(s:Str)(hs:s.length<=maxLen):∃ c w2,(convert 9 39 (.string (str s))).run Tryz.prog w = .ok (.slice (some ⟨w.heap.size,0,none⟩) s.length c) w2/\Fresh w (.slice (some ⟨w.heap.size,0,none⟩) s.length c) s w2:=by
 have hcv:=run_bytes_of_string (P:=Tryz.prog) w 9 39 5 (str s) Tryz.underlying9 Tryz.underlying39 Tryz.underlying5;have hr:=Row.of_str w 5 s hs;generalize hw2:(w.drew.alloc (.cells (bytesRow (str s) (grownCap w (str s).size 0 5)) 5 ((bytesRow (str s) (grownCap w (str s).size 0 5)).size,(bytesRow (str s) (grownCap w (str s).size 0 5)).size+1)))=w2 at hcv hr;rw[z5H] at hcv hr;exact⟨_,w2,hcv,hr,by rw[<-hw2];exact(Keep.refl _ _).drew.alloc _,λk e=>by simp[Value.ownBlock] at e;omega⟩
theorem z8I(w:World)(ao:Option Addr)(n c:Nat)(l:List UInt8)(h:Cells w ao n 1 (z0B l))(hn:n<=1000000000):Calls Tryz.prog 62 #[.slice ao n c] w (PutU w (putB l)):=by
 have hl:l.length=n:=by{have:=h.1;rw[z0E] at this;omega};have H:=zB1 h hl;have t2:=wu64 n (by omega);clear hl h
 go_in
 go_wp2_with fail;refine(z5O w n (by omega)).mono ?_;rintro e w2 ⟨v2,rfl,hf2⟩;have HF2:=hid hf2;clear hf2;go_wp2_with (at_builtin;refine z0Q ?_;intro q hq)
 (refine hq.out ?_;clear hq q)
 refine wpList_plain rfl (λK hK=>?_);refine z0U _ _ rfl rfl HF2.o ao n c rfl (H.x1.keep HF2.o.keep zI) (by have:=z3B 10 n;unfold z0H;omega) ?_;intro v3 w3 hf3 _;refine hK _ _ ?_;clear hK K;have HF3:=hid hf3;clear hf3;go_wp2_with fail;go_ret;refine⟨_,rfl,?_⟩;have:=HF3.o;unfold putB;rw[H.y1];exact this
theorem zgD(w:World)(ao:Option Addr)(n c:Nat)(l:List UInt8)(h:Cells w ao n 1 (z0B l))(hn:n<=1000000000):Calls Tryz.prog 64 #[.slice ao n c] w (PutU w (putB l)):=by
 have hl:l.length=n:=by{have:=h.1;rw[z0E] at this;omega};have H:=zB1 h hl;have t2:=wu64 n (by omega);clear hl h
 go_in
 go_wp2_with fail;refine(z6I w n (by omega)).mono ?_;rintro e w2 ⟨v2,rfl,hf2⟩;have HF2:=hid hf2;clear hf2;go_wp2_with (at_builtin;refine z0Q ?_;intro q hq)
 (refine hq.out ?_;clear hq q)
 refine wpList_plain rfl (λK hK=>?_);refine z0U _ _ rfl rfl HF2.o ao n c rfl (H.x1.keep HF2.o.keep zI) (by have:=z3B 10 n;unfold z0H;omega) ?_;intro v3 w3 hf3 _;refine hK _ _ ?_;clear hK K;have HF3:=hid hf3;clear hf3;go_wp2_with fail;go_ret;refine⟨_,rfl,?_⟩;have:=HF3.o;unfold putB;rw[H.y1];exact this
end
end Go.Proofs.YtkhddpiopbmhjaaGreat
