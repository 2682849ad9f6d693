/- Texts StoA in one. Conditions: as each law names them. -/
import Derived.WalkKit
import Derived.WalkLawsBesides
import Derived.WalkSpells
import Derived.BigQuiet
import Derived.Test.YtkhddpiopbmhjaaGreatUad
import Derived.Test.YtkhddpiopbmhjaaGreatUae
import Derived.Test.YtkhddpiopbmhjaaGreatUaf
import Derived.Test.YtkhddpiopbmhjaaGreatUag
import Derived.Test.YtkhddpiopbmhjaaGreatUah
set_option maxRecDepth 20000
set_option maxHeartbeats 8000000
namespace Go.Proofs.YtkhddpiopbmhjaaGreat
section
open Go.RowKit
open MI SO
def ChOk(c:Ch):Prop:=c.key.length≤maxLen∧c.value.length≤maxLen
def chV(c:Ch):List Value:=[.string (str c.key),.string (str c.value),.bool c.gone]
def ChR(cs:List Value)(c:Ch):Prop:=cs=chV c∧ChOk c
abbrev Chs(w:World)(v:Value)(l:List Ch):Prop:=SliceOf w 3 ChR v l
theorem Chs.get{w wr:World}{ao:Option Addr}{n c:Nat}{l:List Ch}(h:Chs w (.slice ao n c) l)(hk:Keep zF w wr)(i:Nat)(hi:i<l.length):∃ ad,ao=some ad/\wr.cell? (ad.add (i * 3))=some (.string (str l[i].key))/\wr.cell? ⟨(ad.add (i * 3)).block,(ad.add (i * 3)).off+1,none⟩=some (.string (str l[i].value))/\wr.cell? ⟨(ad.add (i * 3)).block,(ad.add (i * 3)).off+2,none⟩=some (.bool l[i].gone)/\ChOk l[i]:=by
 obtain⟨ad,cs,rfl,_,⟨rfl,hok⟩,k0,kr⟩:=h.at hk i hi;exact⟨ad,rfl,k0 _ rfl,kr 1 _ (by decide) rfl,kr 2 _ (by decide) rfl,hok⟩
theorem zxR{l:List Ch}(h:l.length<=32)(h2:∀ j (h:j<l.length),z2M l[j]=true):right l=true:=by
 unfold right;rw[Bool.and_eq_true];refine⟨by simpa using h,List.all_eq_true.2 λc hc=>?_⟩;obtain⟨j,hj,rfl⟩:=List.getElem_of_mem hc;exact h2 j hj
theorem zvB{l:List Ch}{j:Nat}(hj:j<l.length)(h:z2M l[j]=false):right l=false:=by
 cases hr:right l with | false=>{rfl} | true=>{have:=(z2R hr).2 _ (List.getElem_mem hj);rw[h] at this;cases this}
theorem znX{l:List Ch}(h:32<l.length):right l=false:=by
 cases hr:right l with | false=>{rfl} | true=>{have:=(z2R hr).1;omega}
theorem zsP(w:World)(ao:Option Addr)(n c:Nat)(l:List Ch)(h:Chs w (.slice ao n c) l)(hn:n=l.length):Calls Tryz.prog 176 #[.slice ao n c] w fun e w'=>e = .returned (.int .i64 (if right l then 0 else 2))∧Keep zF w w':=by
 have HS:=zB1 h hn;clear h hn;obtain⟨E,hE⟩:∃ E:Int,E=if right l then 0 else 2:=⟨_,rfl⟩
 rw[← hE];have HE:=hid hE;clear hE
 by_cases hl:n≤32
 ·have t:decide ((32:Int)<n)=false:=by simp;omega
  go_in
  go_wp2_with (at_builtin;refine z0Q ?_;intro q hq)
  go_loopw [10] (fun iv wr=>∃ i:Nat,i≤n∧iv = .int .i64 i∧zH (Keep zF w wr∧∀ j (h:j<l.length),j<i→z2M l[j]=true)) (fun iv _=>n - (intOf iv).toNat)
  case atStart=>exact⟨0,Nat.zero_le _,rfl,hid ⟨Keep.refl _ _,fun j _ hj=>absurd hj (Nat.not_lt_zero _)⟩⟩
  case round=>
   obtain⟨i,hi,rfl,HT⟩:=hrel
   by_cases hin:i<n
   ·have h4:(i:Int)<n:=by omega
    have hil:i<l.length:=by rw[← HS.y1];exact hin
    obtain⟨ad,rfl,a0,a1,a2,hok⟩:=HS.x1.get HT.x1 i hil;have HO:=hid hok;clear hok;have hno:z2M l[i]=false→E=2:=fun h=>by rw[HE.o,zvB hil h];rfl
    have hgo:z2M l[i]=true→∀ j (h:j<l.length),j<i+1→z2M l[j]=true:=fun hr j h hj=>by
     rcases Nat.lt_or_eq_of_le (Nat.le_of_lt_succ hj) with h1 | h1
     ·exact HT.y1 j h h1
     ·subst h1;exact hr
    have HN:=zB1 hno hgo;clear hno hgo;obtain⟨q,hq⟩:=zX1 (l[i]);rw[← hq] at a0 a1 a2 HN;clear hq HO;obtain⟨key,value,gone⟩:=q;simp only at a0 a1 a2;go_wp2_with fail
    all_goals first
     | (go_ret
        have hr:z2M ⟨key,value,gone⟩=false:=by
         clear a0 a1 a2 HT HS;simp only[z2Q,z5H] at *;unfold z2M
         by_cases hv:value = [] <;> simp_all <;> omega
        exact⟨by rw[HN.x1 hr];rfl,HT.x1.alloc _⟩)
     | (have hr:z2M ⟨key,value,gone⟩=true:=by
         clear a0 a1 a2 HT HS;have hp:key≠[]→1≤key.length:=fun h=>List.length_pos_iff.2 h;simp only[z2Q,z5H] at *;unfold z2M
         by_cases hv:value = [] <;> simp_all <;> omega
        exact⟨⟨i+1,by omega,by go_num,hid ⟨HT.x1.alloc _,HN.y1 hr⟩⟩,by simp[intOf];omega⟩)
   ·have h4:decide ((i:Int)<n)=false:=by simp;omega
    have hok:=zxR (l:=l) (by rw[← HS.y1];exact hl) fun j h=>HT.y1 j h (by have:=HS.y1;omega);go_wp2_with fail;go_ret;exact⟨by rw[HE.o,hok];rfl,HT.x1⟩
 ·have t:decide ((32:Int)<n)=true:=by simp;omega
  go_in
  go_wp2_with fail;go_ret;exact⟨by rw[HE.o,znX (by rw[← HS.y1];omega)];rfl,Keep.refl _ _⟩
end
end Go.Proofs.YtkhddpiopbmhjaaGreat
