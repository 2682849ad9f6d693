/- Texts StoB in one. Conditions: as each law names them. -/
import Derived.Test.YtkjofdocgaiedaaPai
import Derived.Test.YtkjofdocgaiedaaPaj
import Derived.Test.YtkjofdocgaiedaaPan
namespace Go.Proofs.Ytkjofdocgaiedaa
open Go.RowKit
open MI SO BM
theorem conv_str (w:World) (s:Str) (hs:s.length≤maxLen):∃ c w2,(convert 9 29 (.string (str s))).run Try.prog w = .ok (.slice (some ⟨w.heap.size,0,none⟩) s.length c) w2∧Fresh w (.slice (some ⟨w.heap.size,0,none⟩) s.length c) s w2:=by
 have hcv:=run_bytes_of_string (P:=Try.prog) w 9 29 5 (str s) Try.underlying9 Try.underlying29 Try.underlying5
 have hr:=Row.of_str w 5 s hs
 generalize hw2:(w.drew.alloc (.cells (bytesRow (str s) (grownCap w (str s).size 0 5)) 5 ((bytesRow (str s) (grownCap w (str s).size 0 5)).size,(bytesRow (str s) (grownCap w (str s).size 0 5)).size+1)))=w2 at hcv hr
 rw[str_size] at hcv hr
 exact⟨_,w2,hcv,hr,by rw[← hw2];exact(Keep.refl _ _).drew.alloc _,fun k e=>by simp[Value.ownBlock] at e;omega⟩
set_option maxRecDepth 20000 in
theorem putbytes_any (w:World) (ao:Option Addr) (n c:Nat) (l:List UInt8) (h:Cells w ao n 1 (bytesV l)) (hn:n≤1000000000) :
  Calls Try.prog 48 #[.slice ao n c] w (PutU w (putB l)):=by
 have hl:l.length=n:=by have:=h.1;rw[bytesV_length] at this;omega
 have H:=hid (And.intro h hl)
 have t2:=wu64 n (by omega)
 clear hl h
 go_enter Try.func48,Try.ntmps48
 go_wp2_with (at_builtin;refine stopAt ?_;intro q hq)
 refine(putuint_any w n (by omega)).mono ?_
 rintro e w2 ⟨v2,rfl,hf2⟩
 have HF2:=hid hf2
 clear hf2
 go_wp2_with (at_builtin;refine stopAt ?_;intro q hq)
 (refine hq.out ?_;clear hq q)
 refine wpList_plain rfl (fun K hK=>?_)
 refine wp_append_fresh _ _ rfl rfl HF2.out ao n c rfl (H.out.1.keep HF2.out.keep (fun _ _ h=>h)) (by have:=putU_le 10 n;unfold putUint;omega) ?_
 intro v3 w3 hf3 _
 refine hK _ _ ?_
 clear hK K
 have HF3:=hid hf3
 clear hf3
 go_wp2_with (at_builtin;refine stopAt ?_;intro q hq)
 go_ret
 refine⟨_,rfl,?_⟩
 have:=HF3.out
 unfold putB
 rw[H.out.2]
 exact this
end Go.Proofs.Ytkjofdocgaiedaa
