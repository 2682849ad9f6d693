/- Texts StoB in one. Conditions: as each law names them. -/
import Derived.Test.YtkjofdocgaiedaaGreatQai
import Derived.Test.YtkjofdocgaiedaaGreatQaj
import Derived.Test.YtkjofdocgaiedaaGreatQan
set_option maxRecDepth 20000
set_option maxHeartbeats 8000000
namespace Go.Proofs.YtkjofdocgaiedaaGreat
section
open Go.RowKit MI SO BM
theorem z6S (w:World) (s:Str) (hs:s.length<=maxLen):∃ c w2,(convert 9 29 (.string (str s))).run Tryz.prog w = .ok (.slice (some ⟨w.heap.size,0,none⟩) s.length c) w2/\Fresh w (.slice (some ⟨w.heap.size,0,none⟩) s.length c) s w2:=by
 have hcv:=run_bytes_of_string (P:=Tryz.prog) w 9 29 5 (str s) Tryz.underlying9 Tryz.underlying29 Tryz.underlying5;have hr:=Row.of_str w 5 s hs;generalize hw2:(w.drew.alloc (.cells (bytesRow (str s) (grownCap w (str s).size 0 5)) 5 ((bytesRow (str s) (grownCap w (str s).size 0 5)).size,(bytesRow (str s) (grownCap w (str s).size 0 5)).size+1)))=w2 at hcv hr;rw[z1Z] at hcv hr;exact⟨_,w2,hcv,hr,by rw[<-hw2];exact(Keep.refl _ _).drew.alloc _,λk e=>by simp[Value.ownBlock] at e;omega⟩
theorem zaW (w:World) (ao:Option Addr) (n c:Nat) (l:List UInt8) (h:Cells w ao n 1 (z0B l)) (hn:n<=1000000000) :
  Calls Tryz.prog 100 #[.slice ao n c] w (PutU w (putB l)):=by
 have hl:l.length=n:=by{have:=h.1;rw[z0C] at this;omega};have H:=hid (zA1 h hl);have t2:=wu64 n (by omega);clear hl h;go_enter Tryz.func100,Tryz.ntmps100;go_wp2_with fail;refine(z5F w n (by omega)).mono ?_;rintro e w2 ⟨v2,rfl,hf2⟩;have HF2:=hid hf2;clear hf2;go_wp2_with (at_builtin;refine z0H ?_;intro q hq)
 (refine hq.out ?_;clear hq q)
 refine wpList_plain rfl (λK hK=>?_);refine z0I _ _ rfl rfl HF2.out ao n c rfl (H.out.1.keep HF2.out.keep zI) (by have:=z3S 10 n;unfold z0K;omega) ?_;intro v3 w3 hf3 _;refine hK _ _ ?_;clear hK K;have HF3:=hid hf3;clear hf3;go_wp2_with fail;go_ret;refine⟨_,rfl,?_⟩;have:=HF3.out;unfold putB;rw[H.out.2];exact this
theorem z9O (w:World) (ao:Option Addr) (n c:Nat) (l:List UInt8) (h:Cells w ao n 1 (z0B l)) (hn:n<=1000000000) :
  Calls Tryz.prog 110 #[.slice ao n c] w (PutU w (putB l)):=by
 have hl:l.length=n:=by{have:=h.1;rw[z0C] at this;omega};have H:=hid (zA1 h hl);have t2:=wu64 n (by omega);clear hl h;go_enter Tryz.func110,Tryz.ntmps110;go_wp2_with fail;refine(z4M w n (by omega)).mono ?_;rintro e w2 ⟨v2,rfl,hf2⟩;have HF2:=hid hf2;clear hf2;go_wp2_with (at_builtin;refine z0H ?_;intro q hq)
 (refine hq.out ?_;clear hq q)
 refine wpList_plain rfl (λK hK=>?_);refine z0I _ _ rfl rfl HF2.out ao n c rfl (H.out.1.keep HF2.out.keep zI) (by have:=z3S 10 n;unfold z0K;omega) ?_;intro v3 w3 hf3 _;refine hK _ _ ?_;clear hK K;have HF3:=hid hf3;clear hf3;go_wp2_with fail;go_ret;refine⟨_,rfl,?_⟩;have:=HF3.out;unfold putB;rw[H.out.2];exact this
end
end Go.Proofs.YtkjofdocgaiedaaGreat
