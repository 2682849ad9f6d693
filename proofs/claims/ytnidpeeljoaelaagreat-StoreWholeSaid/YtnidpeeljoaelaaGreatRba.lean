/- Texts Pur in one. Conditions: as each law names them. -/
import Derived.Test.YtnidpeeljoaelaaGreatRaa
import Derived.Test.YtnidpeeljoaelaaGreatRax
import Derived.Test.YtnidpeeljoaelaaGreatRay
namespace Go.Proofs.YtnidpeeljoaelaaGreat
open DM BM WM
def Calm (D:Dk):Prop:=D.left=none∧D.down=false
theorem write_calm {D:Dk} (h:Calm D) (i:Nat) (hi:i<D.safe.length) (b:Sec) (hb:b.length=32):DM.write D (i:Int) b=(0,{ D with waits:=D.waits ++ [(i,b)] }):=by
 have ha:DM.act D=(true,D):=by unfold DM.act;rw[h.2,h.1];rfl
 unfold DM.write
 rw[h.2,ha]
 rw[if_neg (by simp),if_neg (by omega)]
 simp[h.2]
theorem sync_calm {D:Dk} (h:Calm D):DM.sync D=(0,{ D with safe:=now D,waits:=[] }):=by
 have ha:DM.act D=(true,D):=by unfold DM.act;rw[h.2,h.1];rfl
 unfold DM.sync
 rw[ha]
 simp
theorem lay_calm (ep:Nat) (b:List UInt8) {s:Nat} (hs:6≤s) (hb:b.length=32 * ((s - 2) / 2)):∀ k i D,Calm D→D.safe.length=s→i+k≤(s - 2) / 2→(lay ep b i k D).1=0∧Calm (lay ep b i k D).2∧(lay ep b i k D).2.safe=D.safe
 | 0,i,D,hc,_,_=>⟨rfl,hc,rfl⟩
 | k+1,i,D,hc,hl,hik=>by
   have hh:half D=(s - 2) / 2:=by unfold half;rw[hl]
   have hw:=write_calm hc (WM.first D ep+i) (first_lt ep i (by omega) (by omega)) (secOf b i) (by unfold secOf;rw[List.length_take,List.length_drop];omega)
   unfold lay
   rw[hw]
   simp only[if_true]
   exact lay_calm ep b hs hb k (i+1) { D with waits:=D.waits ++ [(WM.first D ep+i,secOf b i)] } hc hl (by omega)
theorem append_calm {D:Dk} {G:Lg} {b:List UInt8} (hc:Calm D) (h6:6≤D.safe.length) (hd:G.dead=false) (hf:(flat G.l).length≤32 * half D) (hb:b.length≤1024) :
  if room D G<b.length+10 then WM.append D G b=(5,D,G)
  else (WM.append D G b).1=0∧(WM.append D G b).2.2 = { G with l:=G.l ++ [b] }∧Calm (WM.append D G b).2.1∧(WM.append D G b).2.1.safe=D.safe:=by
 have hg:gone D G=false:=by unfold gone;rw[hd,hc.2];rfl
 split
 ·rename_i h
  unfold WM.append
  rw[hg,if_neg (by simp),if_neg (by omega),if_pos h]
 ·rename_i h
  have hsn:=flat_snoc G.l b
  have hfit:(flat (G.l ++ [b])).length≤32 * half D:=by unfold room at h;omega
  have hal:(area D (G.l ++ [b])).length=32 * half D:=areaH_length hfit
  obtain⟨h1,h2,h3⟩:=lay_calm G.ep (area D (G.l ++ [b])) (s:=D.safe.length) h6 hal (((flat (G.l ++ [b])).length - 1) / 32 - (flat G.l).length / 32+1) ((flat G.l).length / 32) D hc rfl
   (by have:(D.safe.length - 2) / 2=half D:=rfl;omega)
  unfold WM.append
  rw[hg,if_neg (by simp),if_neg (by omega),if_neg h]
  simp only
  rw[h1]
  refine⟨rfl,?_,h2,h3⟩
  obtain⟨ep,l,safe,dead⟩:=G
  simp only at hd
  subst hd
  rfl
theorem append_len (D:Dk) (G:Lg) (b:List UInt8):(WM.append D G b).2.1.safe.length=D.safe.length:=by
 unfold WM.append
 split
 ·rfl
 ·split
  ·rfl
  ·split
   ·rfl
   ·exact lay_len _ _ _ _ _
theorem reset_len (D:Dk) (G:Lg) (L:List (List UInt8)):(WM.reset D G L).2.1.safe.length=D.safe.length:=by
 unfold WM.reset
 split
 ·rfl
 ·split
  ·rfl
  ·split
   ·rfl
   ·simp only
    split <;> exact turnW_len _ _ _
namespace WM
open DM BM Go.Proofs.YtnidpeeljoaelaaGreat
def nowAt (D:Dk) (p:Nat):Sec:=(now D).getD p []
theorem now_snoc {D E:Dk} {i:Nat} {b:Sec} (hs:E.safe=D.safe) (hw:E.waits=D.waits ++ [(i,b)]):now E=(now D).set i b:=by
 unfold now
 rw[hs,hw,puts_append]
 rfl
theorem nowAt_snoc {D E:Dk} {i:Nat} {b:Sec} (hs:E.safe=D.safe) (hw:E.waits=D.waits ++ [(i,b)]) (hi:i<D.safe.length) (p:Nat):nowAt E p=if p=i then b else nowAt D p:=by
 have hl:=now_length D
 unfold nowAt
 rw[now_snoc hs hw,List.getD_eq_getElem?_getD,List.getElem?_set]
 by_cases h:i=p
 ·subst h
  rw[if_pos rfl,if_pos (by omega),if_pos rfl]
  rfl
 ·rw[if_neg h,if_neg (fun e=>h e.symm),List.getD_eq_getElem?_getD]
theorem nowAt_flat {D E:Dk} (hs:E.safe=now D) (hw:E.waits = []) (p:Nat):nowAt E p=nowAt D p:=by
 unfold nowAt now
 rw[hs,hw]
 rfl
theorem read_nowAt {D:Dk} (hd:D.down=false) (i:Nat) (hi:i<D.safe.length):DM.read D (i:Int)=(nowAt D i,0):=by
 unfold DM.read nowAt
 rw[hd,if_neg (by simp),if_neg (by omega)]
 simp
theorem nowAt_len {D:Dk} (ok:Ok D) (i:Nat) (hi:i<D.safe.length):(nowAt D i).length=32:=by
 have hl:=now_length D
 have:=ok.now _ (List.getElem_mem (l:=now D) (n:=i) (by omega))
 unfold nowAt
 rw[List.getD_eq_getElem?_getD,List.getElem?_eq_getElem (by omega)]
 exact this
theorem write_ok {D:Dk} {i:Nat} {b:Sec} (h:(DM.write D (i:Int) b).1=0):i<D.safe.length∧b.length=32∧(DM.write D (i:Int) b).2.safe=D.safe∧(DM.write D (i:Int) b).2.waits=D.waits ++ [(i,b)]:=by
 unfold DM.write at h ⊢
 split at h
 ·cases h
 ·rename_i h1
  rw[if_neg h1]
  split at h
  ·cases h
  ·rename_i h2
   rw[if_neg h2]
   split at h
   ·rename_i h3
    rw[if_pos h3]
    refine⟨by omega,by omega,act_safe D,?_⟩
    show (DM.act D).2.waits ++ [((i:Int).toNat,b)]=_
    rw[act_waits]
    simp
   ·cases h
theorem write_no {D:Dk} {i:Nat} {b:Sec} (hi:i<D.safe.length) (hb:b.length=32) (h:(DM.write D (i:Int) b).1≠0):(DM.write D (i:Int) b).1=6∧(DM.write D (i:Int) b).2.safe=D.safe∧(DM.write D (i:Int) b).2.waits=D.waits:=by
 unfold DM.write at h ⊢
 split
 ·exact⟨rfl,rfl,rfl⟩
 ·rename_i h1
  rw[if_neg h1] at h
  rw[if_neg (by omega)] at h ⊢
  split
  ·rename_i h3
   rw[if_pos h3] at h
   exact absurd rfl h
  ·exact⟨rfl,act_safe D,act_waits D⟩
theorem sync_ok {D:Dk} (h:(DM.sync D).1=0):(DM.sync D).2.safe=now D∧(DM.sync D).2.waits = []:=by
 unfold DM.sync at h ⊢
 split at h
 ·rename_i h3
  rw[if_pos h3]
  refine⟨?_,rfl⟩
  show now (DM.act D).2=_
  unfold now
  rw[act_safe,act_waits]
 ·cases h
theorem sync_no {D:Dk} (h:(DM.sync D).1≠0):(DM.sync D).1=6∧(DM.sync D).2.safe=D.safe∧(DM.sync D).2.waits=D.waits:=by
 unfold DM.sync at h ⊢
 split
 ·rename_i h3
  rw[if_pos h3] at h
  exact absurd rfl h
 ·exact⟨rfl,act_safe D,act_waits D⟩
theorem first_eq {D E:Dk} (h:E.safe=D.safe) (ep:Nat):WM.first E ep=WM.first D ep:=by unfold WM.first half;rw[h]
theorem half_eq {D E:Dk} (h:E.safe.length=D.safe.length):half E=half D:=by unfold half;rw[h]
theorem lay_waits_all (ep:Nat) (b:List UInt8):∀ k i (D:Dk),6≤D.safe.length→i+k≤half D→b.length=32 * half D→
  (lay ep b i k D).2.safe=D.safe∧(∃ ws,(lay ep b i k D).2.waits=D.waits ++ ws∧∀ x ∈ ws,∃ j,i≤j∧j<i+k∧x=(WM.first D ep+j,secOf b j))∧((lay ep b i k D).1≠0→(lay ep b i k D).1=6)∧
  ((lay ep b i k D).1=0→∀ p,(∀ j,i≤j→j<i+k→p=WM.first D ep+j→nowAt (lay ep b i k D).2 p=secOf b j)∧((∀ j,i≤j→j<i+k→p≠WM.first D ep+j)→nowAt (lay ep b i k D).2 p=nowAt D p))
 | 0,i,D,_,_,_=>⟨rfl,⟨[],by simp[lay],by simp⟩,fun h=>absurd rfl h,fun _ p=>⟨fun j h1 h2=>by omega,fun _=>rfl⟩⟩
 | k+1,i,D,h6,hik,hb=>by
   have hfl:=first_lt (D:=D) ep i h6 (by omega)
   have hsl:(secOf b i).length=32:=by unfold secOf;rw[List.length_take,List.length_drop];omega
   unfold lay
   simp only
   by_cases h0:(DM.write D ((WM.first D ep+i:Nat):Int) (secOf b i)).1=0
   ·rw[if_pos h0]
    obtain⟨_,_,w1,w2⟩:=write_ok h0
    have hn:=fun p=>nowAt_snoc w1 w2 hfl p
    have hF:=first_eq w1 ep
    have hH:half (DM.write D ((WM.first D ep+i:Nat):Int) (secOf b i)).2=half D:=half_eq (by rw[w1])
    obtain⟨i1,⟨ws,i2,i3⟩,i4,i5⟩:=lay_waits_all ep b k (i+1) _ (by rw[w1];exact h6) (by rw[hH];omega) (by rw[hH];exact hb)
    generalize (DM.write D ((WM.first D ep+i:Nat):Int) (secOf b i)).2=E at *
    rw[hF] at i3 i5
    refine⟨i1.trans w1,⟨(WM.first D ep+i,secOf b i) :: ws,by rw[i2,w2];simp,fun x hx=>?_⟩,i4,fun h p=>?_⟩
    ·rcases List.mem_cons.1 hx with rfl | hx
     ·exact⟨i,Nat.le_refl _,by omega,rfl⟩
     ·obtain⟨j,j1,j2,j3⟩:=i3 x hx
      exact⟨j,by omega,by omega,j3⟩
    ·obtain⟨q1,q2⟩:=i5 h p
     refine⟨fun j j1 j2 j3=>?_,fun hne=>?_⟩
     ·by_cases hj:j=i
      ·subst hj
       rw[q2 (fun j' a1 a2 a3=>by omega),hn,if_pos j3]
      ·exact q1 j (by omega) (by omega) j3
     ·rw[q2 (fun j a1 a2=>hne j (by omega) (by omega)),hn,if_neg (hne i (Nat.le_refl _) (by omega))]
   ·rw[if_neg h0]
    obtain⟨w0,w1,w2⟩:=write_no hfl hsl h0
    exact⟨w1,⟨[],by rw[w2,List.append_nil],by simp⟩,fun _=>w0,fun h=>absurd h h0⟩
theorem secOf_getD (b:List UInt8) (i k:Nat) (hk:k<32):(secOf b i)[k]?=b[32 * i+k]?:=by
 unfold secOf
 rw[List.getElem?_take,if_pos hk,List.getElem?_drop]
theorem secOf_len {b:List UInt8} {h:Nat} (hb:b.length=32 * h) {i:Nat} (hi:i<h):(secOf b i).length=32:=by
 unfold secOf;rw[List.length_take,List.length_drop];omega
theorem secOf_ext {a b:List UInt8} {h i:Nat} (ha:a.length=32 * h) (hb:b.length=32 * h) (hi:i<h) (he:∀ k,k<32→a[32 * i+k]?=b[32 * i+k]?):secOf a i=secOf b i:=by
 apply List.ext_getElem?
 intro k
 by_cases hk:k<32
 ·rw[secOf_getD _ _ _ hk,secOf_getD _ _ _ hk,he k hk]
 ·rw[List.getElem?_eq_none (by rw[secOf_len ha hi];omega),List.getElem?_eq_none (by rw[secOf_len hb hi];omega)]
theorem clean_len (B:List UInt8) (en:Nat):(clean B en).length=B.length:=by unfold clean;rw[List.length_append,List.length_take,List.length_replicate];omega
theorem clean_get {B:List UInt8} {en j:Nat} (hj:j<B.length):(clean B en)[j]?=some (if j<en then B.getD j 0 else 0):=by
 unfold clean
 by_cases h:j<en
 ·rw[List.getElem?_append_left (by rw[List.length_take];omega),List.getElem?_take,if_pos h,if_pos h,gd _ _ hj]
 ·rw[List.getElem?_append_right (by rw[List.length_take];omega),List.length_take,List.getElem?_replicate,if_pos (by omega),if_neg h]
theorem dirty_no {B:List UInt8} {en i:Nat} (h:dirty B en i=false) {k:Nat} (hk:k<32) (he:en≤32 * i+k):B.getD (32 * i+k) 0=0:=by
 unfold dirty at h
 have h1:=List.any_eq_false.1 h k (List.mem_range.2 hk)
 simp only[Bool.and_eq_true,decide_eq_true_eq,not_and,Decidable.not_not] at h1
 exact h1 he
theorem clean_same {B:List UInt8} {en h i:Nat} (hb:B.length=32 * h) (hi:i<h) (hd:dirty B en i=false):secOf (clean B en) i=secOf B i:=
 secOf_ext (by rw[clean_len];exact hb) hb hi fun k hk=>by
  rw[clean_get (by omega),gd B _ (by omega)]
  split
  ·rfl
  ·rw[dirty_no hd hk (by omega)]
theorem wipe_calm (ep:Nat) (B:List UInt8) (en:Nat):∀ k i wr (D:Dk),Calm D→Ok D→6≤D.safe.length→i+k≤half D→B.length=32 * half D→
  (wipe ep B en i k wr D).1=0∧Calm (wipe ep B en i k wr D).2.2∧Ok (wipe ep B en i k wr D).2.2∧(wipe ep B en i k wr D).2.2.safe=D.safe∧((wipe ep B en i k wr D).2.1=false→(wipe ep B en i k wr D).2.2=D)∧
  ∀ p,(∀ j,i≤j→j<i+k→p=WM.first D ep+j→nowAt (wipe ep B en i k wr D).2.2 p=if dirty B en j then secOf (clean B en) j else nowAt D p)∧((∀ j,i≤j→j<i+k→p≠WM.first D ep+j)→nowAt (wipe ep B en i k wr D).2.2 p=nowAt D p)
 | 0,i,wr,D,hc,ok,_,_,_=>⟨rfl,hc,ok,rfl,fun _=>rfl,fun p=>⟨fun j h1 h2=>by omega,fun _=>rfl⟩⟩
 | k+1,i,wr,D,hc,ok,h6,hik,hb=>by
   have hfl:=first_lt (D:=D) ep i h6 (by omega)
   have hcl:(clean B en).length=32 * half D:=by rw[clean_len];exact hb
   have hsl:=secOf_len hcl (i:=i) (by omega)
   unfold wipe
   by_cases hd:dirty B en i=true
   ·rw[if_pos hd]
    have hw:=write_calm hc (WM.first D ep+i) hfl (secOf (clean B en) i) hsl
    have hok:=ok.write ((WM.first D ep+i:Nat):Int) (secOf (clean B en) i)
    simp only
    rw[hw] at hok ⊢
    simp only[if_true]
    obtain⟨E,hE⟩:∃ E:Dk,E = { D with waits:=D.waits ++ [(WM.first D ep+i,secOf (clean B en) i)] }:=⟨_,rfl⟩
    rw[← hE] at hok ⊢
    have hEs:E.safe=D.safe:=by rw[hE]
    have hn:=fun p=>nowAt_snoc (D:=D) (E:=E) hEs (by rw[hE]) hfl p
    have hF:=first_eq hEs ep
    have hH:half E=half D:=half_eq (by rw[hEs])
    obtain⟨a1,a2,a3,a4,a5,a6⟩:=wipe_calm ep B en k (i+1) true E (by rw[hE];exact hc) hok (by rw[hEs];exact h6) (by rw[hH];omega) (by rw[hH];exact hb)
    rw[hF] at a6
    refine⟨a1,a2,a3,a4.trans hEs,fun h=>?_,fun p=>?_⟩
    ·exfalso
     have:∀ k i (D:Dk),(wipe ep B en i k true D).2.1=true:=by
      intro k
      induction k with
      | zero=>intro i D;rfl
      | succ k ih=>
        intro i D
        unfold wipe
        split
        ·simp only
         split
         ·exact ih _ _
         ·rfl
        ·exact ih _ _
     rw[this] at h
     cases h
    ·obtain⟨q1,q2⟩:=a6 p
     refine⟨fun j j1 j2 j3=>?_,fun hne=>?_⟩
     ·by_cases hj:j=i
      ·subst hj
       rw[q2 (fun j' b1 b2 b3=>by omega),hn,if_pos j3,if_pos hd]
      ·have he:nowAt E p=nowAt D p:=by rw[hn,if_neg (by omega)]
       rw[q1 j (by omega) (by omega) j3,he]
     ·rw[q2 (fun j b1 b2=>hne j (by omega) (by omega)),hn,if_neg (hne i (Nat.le_refl _) (by omega))]
   ·rw[if_neg hd]
    obtain⟨a1,a2,a3,a4,a5,a6⟩:=wipe_calm ep B en k (i+1) wr D hc ok h6 (by omega) hb
    refine⟨a1,a2,a3,a4,a5,fun p=>?_⟩
    obtain⟨q1,q2⟩:=a6 p
    refine⟨fun j j1 j2 j3=>?_,fun hne=>q2 (fun j b1 b2=>hne j (by omega) (by omega))⟩
    by_cases hj:j=i
    ·subst hj
     rw[q2 (fun j' b1 b2 b3=>by omega),if_neg hd]
    ·exact q1 j (by omega) (by omega) j3
theorem bytes_flat {D:Dk} (hd:D.down=false) (h6:6≤D.safe.length) (ep:Nat):WM.bytes D ep=((List.range (half D)).map fun i=>nowAt D (WM.first D ep+i)).flatten:=by
 unfold WM.bytes
 congr 1
 apply List.map_congr_left
 intro i hi
 rw[List.mem_range] at hi
 rw[read_nowAt hd _ (first_lt ep i h6 hi)]
theorem flat_secs (f:Nat→Sec) (hf:∀ i,(f i).length=32):∀ h,((List.range h).map f).flatten.length=32 * h∧∀ i k,i<h→k<32→((List.range h).map f).flatten[32 * i+k]?=(f i)[k]?
 | 0=>⟨rfl,fun i k h=>by omega⟩
 | h+1=>by
   obtain⟨h1,h2⟩:=flat_secs f hf h
   rw[List.range_succ,List.map_append,List.flatten_append]
   simp only[List.map_cons,List.map_nil,List.flatten_cons,List.flatten_nil,List.append_nil]
   refine⟨by rw[List.length_append,h1,hf];omega,fun i k hi hk=>?_⟩
   by_cases hih:i<h
   ·rw[List.getElem?_append_left (by omega)]
    exact h2 i k hih hk
   ·have:i=h:=by omega
    subst this
    rw[List.getElem?_append_right (by omega),h1]
    congr 1
    omega
theorem bytes_get {D:Dk} (hd:D.down=false) (h6:6≤D.safe.length) (ok:Ok D) (ep:Nat):(WM.bytes D ep).length=32 * half D∧∀ i,i<half D→secOf (WM.bytes D ep) i=nowAt D (WM.first D ep+i):=by
 have hg:∀ h,h≤half D→((List.range h).map fun i=>nowAt D (WM.first D ep+i))=(List.range h).map fun i=>if i<half D then nowAt D (WM.first D ep+i) else List.replicate 32 0:=fun h hh=>by
  apply List.map_congr_left
  intro i hi
  rw[List.mem_range] at hi
  rw[if_pos (by omega)]
 have hl:∀ i,(if i<half D then nowAt D (WM.first D ep+i) else List.replicate 32 0:List UInt8).length=32:=fun i=>by
  split
  ·exact nowAt_len ok _ (first_lt ep i h6 (by assumption))
  ·simp
 obtain⟨h1,h2⟩:=flat_secs _ hl (half D)
 rw[bytes_flat hd h6,hg _ (Nat.le_refl _)]
 refine⟨h1,fun i hi=>?_⟩
 apply List.ext_getElem?
 intro k
 by_cases hk:k<32
 ·rw[secOf_getD _ _ _ hk,h2 i k hi hk,if_pos hi]
 ·rw[List.getElem?_eq_none (by rw[secOf_len h1 hi];omega),List.getElem?_eq_none (by rw[nowAt_len ok _ (first_lt ep i h6 hi)];omega)]
theorem head_eq {D E:Dk} (hD:D.down=false) (hE:E.down=false) {i:Nat} (h1:i<D.safe.length) (h2:i<E.safe.length) (h:nowAt E i=nowAt D i):WM.head E i=WM.head D i:=by
 unfold WM.head
 rw[read_nowAt hD i h1,read_nowAt hE i h2,h]
theorem epoch_eq {D E:Dk} (hD:D.down=false) (hE:E.down=false) (h1:2≤D.safe.length) (h2:E.safe.length=D.safe.length) (h:∀ i,i<2→nowAt E i=nowAt D i):epoch E=epoch D:=by
 unfold epoch
 rw[head_eq hD hE (by omega) (by omega) (h 0 (by omega)),head_eq hD hE (by omega) (by omega) (h 1 (by omega))]
theorem first_ge (D:Dk) (ep:Nat):2≤WM.first D ep:=by unfold WM.first;omega
structure Opened (D D':Dk) (ep:Nat) (l:List (List UInt8)):Prop where
 eq:openW D=(0,some ⟨ep,l,l.length,false⟩,D')
 calm:Calm D'
 ok:Ok D'
 size:D'.safe.length=D.safe.length
 area:∀ i,i<half D→nowAt D' (WM.first D ep+i)=secOf (areaH (half D) l) i
 rest:∀ p,(∀ i,i<half D→p≠WM.first D ep+i)→nowAt D' p=nowAt D p
 none:D.waits = []→D'.waits = []
 small:∀ r ∈ l,r.length≤1024
 fit:(flat l).length≤32 * half D
theorem open_calm {D:Dk} (hc:Calm D) (ok:Ok D) (h6:6≤D.safe.length) :
  ∃ D',Opened D D' (epoch D) (scan (WM.bytes D (epoch D)) ((WM.bytes D (epoch D)).length+1) 0).1:=by
 obtain⟨ep,hep⟩:∃ ep,ep=epoch D:=⟨_,rfl⟩
 obtain⟨hbl,hbs⟩:=bytes_get hc.2 h6 ok ep
 obtain⟨B,hB⟩:∃ B,B=WM.bytes D ep:=⟨_,rfl⟩
 rw[← hB] at hbl hbs
 obtain⟨s1,s2,s3,s4⟩:=scan_spec B (B.length+1) 0 (Nat.zero_le _)
 have hca:=clean_area hbl
 obtain⟨r,hr⟩:∃ r,r=scan B (B.length+1) 0:=⟨_,rfl⟩
 rw[← hr] at s1 s2 s3 s4 hca
 obtain⟨a1,a2,a3,a4,a5,a6⟩:=wipe_calm ep B r.2 (half D) 0 false D hc ok h6 (by omega) hbl
 obtain⟨W,hW⟩:∃ W,W=wipe ep B r.2 0 (half D) false D:=⟨_,rfl⟩
 rw[← hW] at a1 a2 a3 a4 a5 a6
 have har:∀ i,i<half D→nowAt W.2.2 (WM.first D ep+i)=secOf (areaH (half D) r.1) i:=fun i hi=>by
  rw[(a6 _).1 i (Nat.zero_le _) (by omega) rfl,← hca]
  split
  ·rfl
  ·rename_i hd
   rw[← hbs i hi,clean_same hbl hi (by simpa using hd)]
 have hre:∀ p,(∀ i,i<half D→p≠WM.first D ep+i)→nowAt W.2.2 p=nowAt D p:=fun p hp=>(a6 p).2 fun j _ h2=>hp j (by omega)
 have hop:openW D=if W.2.1 then (0,some ⟨ep,r.1,r.1.length,false⟩,(DM.sync W.2.2).2) else (0,some ⟨ep,r.1,r.1.length,false⟩,W.2.2):=by
  unfold openW
  rw[if_neg (by omega),if_neg (by simp[hc.2]),← hep,← hB]
  simp only
  rw[← hr,← hW,a1,if_neg (by simp)]
  split
  ·rw[show (DM.sync W.2.2).1=0 by rw[sync_calm a2],if_neg (by simp)]
  ·rfl
 rw[← hep,← hB,← hr]
 have hfit:(flat r.1).length≤32 * half D:=by omega
 by_cases hw:W.2.1=true
 ·rw[if_pos hw] at hop
  have hsy:=sync_calm a2
  have hok:=a3.sync
  rw[hsy] at hop hok
  have hn:=fun p=>nowAt_flat (D:=W.2.2) (E:={ W.2.2 with safe:=now W.2.2,waits:=[] }) rfl rfl p
  refine⟨_,hop,a2,hok,by show (now W.2.2).length=_;rw[now_length,a4],fun i hi=>by rw[hn,har i hi],fun p hp=>by rw[hn,hre p hp],fun _=>rfl,s4,hfit⟩
 ·rw[if_neg hw] at hop
  refine⟨_,hop,a2,a3,by rw[a4],har,hre,fun h=>by rw[a5 (by simpa using hw)];exact h,s4,hfit⟩
theorem crash_calm (D:Dk) (keep:List Int):Calm (DM.crash D keep):=⟨rfl,rfl⟩
theorem turn_all {D:Dk} (h6:6≤D.safe.length) (ep:Nat) (b:List UInt8) (hb:b.length=32 * half D) (hh:(headSec ep).length=32) :
  ((turnW ep b D).1≠0→(turnW ep b D).1=6)∧((turnW ep b D).1=0→(turnW ep b D).2.waits = []∧(∀ i,i<half D→nowAt (turnW ep b D).2 (WM.first D ep+i)=secOf b i)∧nowAt (turnW ep b D).2 (ep % 2)=headSec ep∧
    ∀ p,p≠ep % 2→(∀ i,i<half D→p≠WM.first D ep+i)→nowAt (turnW ep b D).2 p=nowAt D p):=by
 obtain⟨a1,-,a3,a4⟩:=lay_waits_all ep b (half D) 0 D h6 (by omega) hb
 unfold turnW
 generalize lay ep b 0 (half D) D=r at *
 simp only
 by_cases h0:r.1=0
 ·rw[if_neg (by simpa using h0)]
  by_cases h1:(DM.sync r.2).1=0
  ·rw[if_neg (by simpa using h1)]
   obtain⟨s1,s2⟩:=sync_ok h1
   have hn1:=fun p=>nowAt_flat s1 s2 p
   have hsl:(DM.sync r.2).2.safe.length=D.safe.length:=by rw[sync_len,a1]
   generalize (DM.sync r.2).2=y at *
   have hep:ep % 2<y.safe.length:=by omega
   by_cases h2:(DM.write y ((ep % 2:Nat):Int) (headSec ep)).1=0
   ·rw[if_neg (by simpa using h2)]
    obtain⟨-,-,w1,w2⟩:=write_ok h2
    have hn2:=fun p=>nowAt_snoc w1 w2 hep p
    generalize (DM.write y ((ep % 2:Nat):Int) (headSec ep)).2=z at *
    refine⟨fun h=>(sync_no h).1,fun h=>?_⟩
    obtain⟨t1,t2⟩:=sync_ok h
    have hn3:=fun p=>nowAt_flat t1 t2 p
    have hall:∀ p,nowAt (DM.sync z).2 p=if p=ep % 2 then headSec ep else nowAt r.2 p:=fun p=>by rw[hn3,hn2,hn1]
    have hfg:=first_ge D ep
    refine⟨t2,fun i hi=>?_,by rw[hall,if_pos rfl],fun p p1 p2=>?_⟩
    ·rw[hall,if_neg (by omega)]
     exact((a4 h0 _).1 i (Nat.zero_le _) (by omega) rfl)
    ·rw[hall,if_neg p1]
     exact(a4 h0 p).2 fun j _ hj=>p2 j (by omega)
   ·rw[if_pos (by simpa using h2)]
    exact⟨fun _=>(write_no hep hh h2).1,fun h=>absurd h h2⟩
  ·rw[if_pos (by simpa using h1)]
   exact⟨fun _=>(sync_no h1).1,fun h=>absurd h h1⟩
 ·rw[if_pos (by simpa using h0)]
  exact⟨a3,fun h=>absurd h h0⟩
theorem turn_calm {D:Dk} (hc:Calm D) (h6:6≤D.safe.length) (ep:Nat) (b:List UInt8) (hb:b.length=32 * half D) (hh:(headSec ep).length=32):(turnW ep b D).1=0∧Calm (turnW ep b D).2:=by
 obtain⟨l1,l2,l3⟩:=lay_calm ep b h6 hb (half D) 0 D hc rfl (by show 0+half D≤half D;omega)
 unfold turnW
 simp only
 rw[if_neg (by simpa using l1),sync_calm l2]
 simp only
 rw[if_neg (by simp)]
 have hsl:(now (lay ep b 0 (half D) D).2).length=D.safe.length:=by rw[now_length,l3]
 have hc2:Calm { (lay ep b 0 (half D) D).2 with safe:=now (lay ep b 0 (half D) D).2,waits:=[] }:=l2
 rw[write_calm hc2 (ep % 2) (by show ep % 2<(now _).length;omega) (headSec ep) hh]
 simp only
 rw[if_neg (by simp)]
 rw[sync_calm (D:={ (lay ep b 0 (half D) D).2 with safe:=now (lay ep b 0 (half D) D).2,waits:=[] ++ [(ep % 2,headSec ep)] }) l2]
 exact⟨rfl,l2⟩
theorem area_get (h:Nat) (l:List (List UInt8)) {q:Nat} (hq:q<(flat l).length):(areaH h l)[q]?=(flat l)[q]?:=by
 unfold areaH
 rw[List.getElem?_append_left hq]
theorem area_nought (h:Nat) (l:List (List UInt8)) {q:Nat} (hq:(flat l).length≤q) (hh:q<32 * h):(areaH h l)[q]?=some 0:=by
 unfold areaH
 rw[List.getElem?_append_right hq,List.getElem?_replicate,if_pos (by omega)]
theorem head_at {D:Dk} (hd:D.down=false) {i:Nat} (hi:i<D.safe.length) (s:Sec) (h:nowAt D i=s):WM.head D i=(match BM.get s 0 with
  | .no _=>none
  | .yes k body _=>if k≠1 then none else match uint body 0 with | .no _=>none | .yes n t=>if t=body.length∧n<4611686018427387904∧n % 2=i then some n else none):=by
 unfold WM.head
 rw[read_nowAt hd i hi,h]
 rfl
end WM
end Go.Proofs.YtnidpeeljoaelaaGreat
