/- Texts WalT, WalL, WalX, WalH, WalG, WalW, WalV, WalO, RwA, RwB, RwC, RwD, RwE, RwF, Wts, RwG, RwH, RwI, Pur in one. Conditions: as each law names them. -/
import Derived.Deep.CutBlock
import Derived.Deep.DeepCutAuto
import Derived.Deep.RegionHeld3
import Derived.Test.YtkhddpiopbmhjaaGreatUaa
import Derived.Test.YtkhddpiopbmhjaaGreatUaj
import Derived.Test.YtkhddpiopbmhjaaGreatUak
import Derived.Test.YtkhddpiopbmhjaaGreatUan
import Derived.Test.YtkhddpiopbmhjaaGreatUaq
import Derived.Test.YtkhddpiopbmhjaaGreatUat
import Derived.Test.YtkhddpiopbmhjaaGreatUau
set_option maxRecDepth 20000
set_option maxHeartbeats 8000000
namespace Go.Proofs.YtkhddpiopbmhjaaGreat
section
open Go.RowKit
open DM BM WM
theorem zeU(D:Dk):(DM.sync D).2.waits.length<=D.waits.length:=by
 unfold DM.sync;split;{simp};{rw[z3J];omega}
def TurnTo(b d:Nat)(Fd:Nat→Prop)(w:World)(cs ns:Array Value)(R:Int×Dk)(e:Ending)(w':World):Prop:=
 e = .returned (.int .i64 R.1)∧∃ Fd',DiskAt w' d Fd' R.2∧Keep (fun k=>Fd k∨k=b) w w'∧(∀ k,Fd' k→Fd k∨w.heap.size≤k)∧w'.heap[b]?=some (.cells (if R.1=0 then ns else cs) 301 (0,0))
end
section
open Go.RowKit
open DM BM WM
def Lists(w:World)(ao:Option Addr)(L:List (List UInt8)):Prop:=
 ∀ j (hj:j<L.length),∃ ad ao' c',ao=some ad∧w.cell? (ad.add j)=some (.slice ao' L[j].length c')∧L[j].length≤c'∧Cells w ao' L[j].length 1 (z0B L[j])
end
section
open Go.RowKit
open DM BM WM
theorem z3W{w0 w:World}{a:Act}{K:Act->World->Prop}{Q:Exit->Act->World->Prop}{o:Oper}{l r:List UInt8}(s x:Operand)(ho:o.op = .call { callee:=.builtin .append,args:=#[s,x],argTypes:=#[39,39] }){v:Value}(hs:a.eval s=v)(hf:Fresh w0 v l w)(ao:Option Addr)(m c:Nat)(hx:a.eval x = .slice ao m c)(hsrc:Cells w ao m 1 (z0B r))(hb:l.length+m<=140737488355328)(h:∀ v' w',Fresh w0 v' (l ++ r) w'->Keep (λk=>v.ownBlock=some k) w w'->(∀ k,v'.ownBlock=some k->v.ownBlock=some k∨w.heap.size<=k)->K (a.put o.dst v') w'):o.wp Tryz.prog a w K Q:=by
 have hm:r.length=m:=by{have:=hsrc.1;rw[z0E] at this;omega};refine z1E z1L s x ho hs hf.row ao m c (z0B r) hx hsrc (z2D _) (by unfold maxLen;omega) (by omega) ?_;intro v2 w2 hr2 hk2 hv2;have hown:∀ k,v2.ownBlock=some k->v.ownBlock=some k∨w.heap.size<=k:=by{intro k hk;rcases hv2 with ⟨h0,_⟩ | ⟨k',h1,h2⟩;{rw[h0] at hk;exact .inl hk};{rw[hk] at h1;cases h1;exact h2.imp id λe=>by omega}};refine h v2 w2 ⟨?_,?_,?_⟩ hk2 hown;{rw[z1J,List.length_append,hm];exact hr2};{exact hf.keep.next hk2 (λi hi x=>x) (λi hi x=>by have:=hf.own i x;omega)};{intro k hk;rcases hown k hk with h2 | h2;{exact hf.own k h2};{have:=hf.keep.size;omega}}
theorem zjT(ep:Nat)(b:List UInt8)(D:Dk):(z6V ep b D).2.safe.length=D.safe.length:=by
 unfold z6V;simp only;split;{exact z9R _ _ _ _ _};{split;{rw[z8S,z9R]};{split;{rw[z7T,z8S,z9R]};{rw[z8S,z7T,z8S,z9R]}}}
structure RstRel (w0:World) (nb d ep h:Nat) (va:Value) (sf en:Nat) (dead:Bool) (L:List (List UInt8)) (i:Nat) (bv:Value) (wr:World):Prop where
 keep:Keep (fun _=>False) w0 wr
 bytes:Fresh w0 bv (flat (L.take i)) wr
 off:∀ k,bv.ownBlock=some k→k≠nb
 new:∃ vl vs,wr.heap[nb]?=some (.cells (z1F d ep h va vl sf en dead) 301 (0,0))∧Recs wr (fun k=>w0.heap.size≤k) (fun k=>k=nb∨bv.ownBlock=some k) vl (L.take i) vs
 small:∀ x ∈ L.take i,x.length≤1024
 fit:(flat (L.take i)).length≤32 * h
end
section
open Go.RowKit
open DM BM WM
def HeadPost(D:Dk)(i:Nat)(w:World)(e:Ending)(w':World):Prop:=
 ∃ n:Nat,e = .returned (.tuple #[.int .u64 (n:Nat),.bool (WM.head D i).isSome])∧(∀ m,WM.head D i=some m→n=m)∧Keep (fun _=>False) w w'
end
section
open Go.RowKit
open DM BM WM
structure ScanRel (w:World) (b d ep h ga:Nat) (va:Value) (bs:List UInt8) (wr:World):Prop where
 ex:∃ (f a:Nat) (L:List (List UInt8)) (vl:Value) (vs:List Value),scan bs (bs.length+1) 0=(L ++ (scan bs f a).1,(scan bs f a).2)∧a≤bs.length∧bs.length<a+f∧10 * L.length≤a∧
  wr.heap[b]?=some (.cells (z1F d ep h va vl 0 a false) 301 (0,0))∧Recs wr (fun k=>w.heap.size≤k) (fun k=>k=b∨k=ga) vl L vs
 keep:Keep (fun k=>k=b) w wr
def GotAt(wr:World)(s2 s3 s4:Value)(g:Got)(wx:World):Prop:=
 ∃ f c0 c1,s2 = .pointer (some ⟨f,0,none⟩)∧wx.heap[f]?=some (.cells #[c0,c1] 323 (0,0))∧Keep (fun _=>False) wr wx∧wr.heap.size≤f∧
  match g with
  | .no m=>s4 = .int .i64 (m:Nat)
  | .yes k body q=>∃ ad c,c0 = .int .u8 (k.toNat:Nat)∧c1 = .slice ad body.length c∧Row wx 5 1 c1 body.length (z0B body)∧(∀ j,c1.ownBlock=some j→wr.heap.size≤j∧j≠f)∧s3 = .int .i64 (q:Nat)∧s4 = .int .i64 0
theorem Keep.undrew{F:Nat->Prop}{a b:World}(h:Keep F a.drew b):Keep F a b:=⟨h.os,h.tape,h.output,h.size,h.block⟩
theorem zzE{wr w2:World}(hk:Keep zF wr w2)(c0 c1:Value):(w2.alloc (.cells #[c0,c1] 323)).heap[w2.heap.size]?=some (Obj.cells #[c0,c1] 323 (0,0))/\Keep zF wr (w2.alloc (.cells #[c0,c1] 323))/\wr.heap.size<=w2.heap.size/\Keep zF w2 (w2.alloc (.cells #[c0,c1] 323)):=
 ⟨heap_alloc_new w2 _,hk.alloc _,hk.size,(Keep.refl _ _).alloc _⟩
theorem zzR{wr w2:World}(hk:Keep zF (wr.alloc (.cells #[.int .u8 0,.slice none 0 0] 323)) w2)(c0 c1:Value):((w2.setCell ⟨wr.heap.size,0,none⟩ c0).setCell ⟨wr.heap.size,1,none⟩ c1).heap[wr.heap.size]?=some (Obj.cells #[c0,c1] 323 (0,0))/\Keep zF wr ((w2.setCell ⟨wr.heap.size,0,none⟩ c0).setCell ⟨wr.heap.size,1,none⟩ c1)/\
    Keep (λk=>k=wr.heap.size) w2 ((w2.setCell ⟨wr.heap.size,0,none⟩ c0).setCell ⟨wr.heap.size,1,none⟩ c1):=by
 have h:=hk.get (heap_alloc_new wr _) id;have h2:=heap_setCell_same _ wr.heap.size 1 _ _ c1 (heap_setCell_same w2 wr.heap.size 0 _ _ c0 h);have hk2:Keep (λk=>k=wr.heap.size) w2 ((w2.setCell ⟨wr.heap.size,0,none⟩ c0).setCell ⟨wr.heap.size,1,none⟩ c1):=by{refine Keep.setCell (Keep.setCell (Keep.refl _ _) (.inl ?_) _) (.inl ?_) _ <;> rfl};exact⟨h2,(((Keep.refl _ wr).alloc _).nx hk).next hk2 zI (λk hk x=>by omega),hk2⟩
end
section
open Go.RowKit
open DM BM WM
def mixA(B:List UInt8)(en p:Nat):List UInt8:=(clean B en).take p ++ B.drop p
def dirtyTo(B:List UInt8)(en i j:Nat):Bool:=(List.range j).any fun k=>decide (en≤32 * i+k) && decide (B.getD (32 * i+k) 0≠0)
structure WipeRel (w:World) (ga ca nn:Nat) (B:List UInt8) (en i j:Nat) (wr:World):Prop where
 row:Row wr 5 1 (.slice (some ⟨ga,0,none⟩) nn ca) nn (z0B (mixA B en (i * 32+j)))
 keep:Keep (fun k=>k=ga) w wr
def Wiped(w:World)(d ga ca nn y:Nat)(Fd:Nat→Prop)(B:List UInt8)(en i:Nat)(wr0:Bool)(R:Int×Dk)(e:Ending)(w':World):Prop:=
 e = .returned (.int .i64 R.1)∧Keep (fun k=>Fd k∨k=ga∨k=y) w w'∧(∃ Fd',DiskAt w' d Fd' R.2∧∀ k,Fd' k→Fd k∨w.heap.size≤k)∧
  Row w' 5 1 (.slice (some ⟨ga,0,none⟩) nn ca) nn (z0B (mixA B en ((i+1) * 32)))∧w'.heap[y]?=some (.cells #[.bool (wr0 || dirty B en i)] 4 (0,0))
end
section
open Go.RowKit
open DM BM WM
theorem zjQ(ep:Nat)(B:List UInt8)(en:Nat):∀ (k i m:Nat) (wr:Bool) (D:Dk),(∀ j,i<=j->j<i+k->dirty B en j=false)->WM.wipe ep B en i (k+m) wr D=WM.wipe ep B en (i+k) m wr D
 | 0,i,m,wr,D,_=>by rw[Nat.zero_add,Nat.add_zero]
 | k+1,i,m,wr,D,h=>by{rw[show k+1+m=(k+m)+1 by omega,WM.wipe,h i (Nat.le_refl _) (by omega)];simp only;rw[if_neg (by simp),zjQ ep B en k (i+1) m wr D (λj h1 h2=>h j (by omega) (by omega)),show i+1+k=i+(k+1) by omega]}
def wipeS(ep:Nat)(B:List UInt8)(en:Nat)(D:Dk):Int×Dk:=
 let r:=WM.wipe ep B en 0 (half D) false D
 if r.1=0∧r.2.1=true then DM.sync r.2.2 else (r.1,r.2.2)
def WipeTo(w:World)(d ga ca nn:Nat)(Fd:Nat→Prop)(B:List UInt8)(en:Nat)(Y:Int×Dk)(e:Ending)(w':World):Prop:=
 e = .returned (.int .i64 Y.1)∧Keep (fun k=>Fd k∨k=ga) w w'∧(∃ Fd',DiskAt w' d Fd' Y.2∧∀ k,Fd' k→Fd k∨w.heap.size≤k)∧
  (Y.1=0→Row w' 5 1 (.slice (some ⟨ga,0,none⟩) nn ca) nn (z0B (clean B en)))
end
section
open Go.RowKit
open DM BM WM
def epTo(D:Dk):Nat→Nat
 | 0=>0
 | i+1=>max (epTo D i) ((WM.head D i).getD 0)
theorem zwU(D:Dk):epTo D 2=epoch D:=by simp[epTo,epoch]
theorem y1D{D:Dk}{i n:Nat}(h:WM.head D i=some n):n<4611686018427387904:=by
 unfold WM.head at h;split at h;{cases h};{split at h;{cases h};{split at h;{cases h};{split at h;{rename_i hc;cases h;exact hc.2.1};{cases h}}}}
theorem zsY(D:Dk):∀ i,epTo D i<4611686018427387904
 | 0=>by show 0<_;decide
 | i+1=>by{have h1:=zsY D i;have h2:(WM.head D i).getD 0<4611686018427387904:=by{cases h:WM.head D i with | none=>{decide} | some n=>{exact y1D h}};unfold epTo;omega}
def bytesTo(D:Dk)(ep i:Nat):List UInt8:=((List.range i).map fun i=>(DM.read D ((WM.first D ep+i:Nat):Int)).1).flatten
theorem z7I{D:Dk}(ep i:Nat)(h6:6<=D.safe.length)(hi:i<half D):WM.first D ep+i<D.safe.length:=by
 unfold WM.first;unfold half at *;have:ep % 2=0∨ep % 2=1:=by{omega};rcases this with h | h <;> rw[h] <;> omega
theorem znQ{D:Dk}{B:List UInt8}(hB:B.length=32 * half D):clean B (scan B (B.length+1) 0).2=z5V (half D) (scan B (B.length+1) 0).1:=by
 obtain⟨h1,h2,h3,-⟩:=zdW B (B.length+1) 0 (Nat.zero_le _);unfold clean z5V;rw[List.drop_zero] at h3;rw[h1,Nat.zero_add,h3,hB]
def OpenTo(d:Nat)(Fd:Nat→Prop)(w:World)(R:Int×Option Lg×Dk)(e:Ending)(w':World):Prop:=
 match R.2.1 with
 | none=>e = .returned (.tuple #[.pointer none,.int .i64 R.1])∧DiskTo d Fd w R.2.2 w'
 | some g=>∃ b F Fd',e = .returned (.tuple #[.pointer (some ⟨b,0,none⟩),.int .i64 R.1])∧LogAt w' b d F Fd' R.2.2 g∧Keep Fd w w'∧(∀ k,F k→w.heap.size≤k)∧∀ k,Fd' k→Fd k∨w.heap.size≤k
structure OpRel (w:World) (b d ep h ga ca nn:Nat) (bs:List UInt8) (wr:World):Prop where
 head:wr.heap[b]?=some (.cells (z1F d ep h (.slice (some ⟨ga,0,none⟩) nn ca) (.slice none 0 0) 0 0 false) 301 (0,0))
 row:Row wr 5 1 (.slice (some ⟨ga,0,none⟩) nn ca) nn (z0B bs)
 keep:Keep (fun _=>False) w wr
end
section
open Go.RowKit
open DM BM WM
end
section
open Go.RowKit
open DM BM WM
def Gives(w:World)(l:List UInt8)(e:Ending)(w':World):Prop:=∃ v,e = .returned v∧Fresh w v l w'
def FramesPost(w:World)(L:List (List UInt8))(e:Ending)(w':World):Prop:=
 if L.any (fun x=>decide (1024<x.length)) then e = .returned (.tuple #[.slice none 0 0,.int .i64 3])∧w'=w
 else if 65536<(flat L).length then e = .returned (.tuple #[.slice none 0 0,.int .i64 5])∧Keep (fun _=>False) w w'
 else ∃ v,e = .returned (.tuple #[v,.int .i64 0])∧Fresh w v (flat L) w'
end
section
open Go.RowKit
open DM BM WM
def rwCells(d ep:Nat)(vl:Value)(safe:Nat)(dead:Bool):Array Value:=#[.pointer (some ⟨d,0,none⟩),.int .u64 (ep:Nat),vl,.int .i64 (safe:Nat),.bool dead]
end
section
open Go.RowKit
open DM BM WM
end
section
open Go.RowKit
open DM BM WM
end
section
open Go.RowKit
open DM BM WM
end
section
open DM BM WM
theorem zqV{D:Dk}(h:D.safe.length<=2048):half D<=1023:=by unfold half;omega
theorem zjP{D:Dk}(h:D.safe.length<=2048)(G:Lg)(b:List UInt8):(WM.append D G b).2.1.waits.length<=D.waits.length+2048:=by
 have hh:=zqV h;unfold WM.append;split;{exact Nat.le_add_right _ _};{split;{exact Nat.le_add_right _ _};{split;{exact Nat.le_add_right _ _};{rename_i h3;have h1:=z6Y G.l b;have h2:=zdJ G.ep (area D (G.l ++ [b])) (((flat (G.l ++ [b])).length - 1) / 32 - (flat G.l).length / 32+1) ((flat G.l).length / 32) D;unfold room at h3;simp only;omega}}}
theorem zpC{D:Dk}(h:D.safe.length<=2048)(ep:Nat)(b:List UInt8):(z6V ep b D).2.waits.length<=D.waits.length+1024:=by
 have hh:=zqV h;unfold z6V;have h1:=zdJ ep b (half D) 0 D;generalize lay ep b 0 (half D) D=r at *;simp only;split;{omega};{have h2:=zeU r.2;generalize DM.sync r.2=y at *;split;{omega};{have h3:=z9I y.2 ((ep % 2:Nat):Int) (z3Q ep);generalize DM.write y.2 ((ep % 2:Nat):Int) (z3Q ep)=z at *;split;{omega};{have h4:=zeU z.2;omega}}}
theorem zjY{D:Dk}(h:D.safe.length<=2048)(G:Lg)(L:List (List UInt8)):(WM.reset D G L).2.1.waits.length<=D.waits.length+1024:=by
 have h1:=zpC h (G.ep+1) (area D L);unfold WM.reset;split;{exact Nat.le_add_right _ _};{split;{exact Nat.le_add_right _ _};{split;{exact Nat.le_add_right _ _};{simp only;split <;> exact h1}}}
end
section
open Go.RowKit
open DM BM WM
end
section
open Go.RowKit
open DM BM WM
theorem z8V(B:List UInt8)(i k:Nat)(hk:k<32):(z2S B i).getD k 0=B.getD (32 * i+k) 0:=by
 unfold z2S;rw[List.getD_eq_getElem?_getD,List.getElem?_take,if_pos hk,List.getElem?_drop,List.getD_eq_getElem?_getD]
end
section
open Go.RowKit
open DM BM WM
end
section
open DM BM WM
def Calm(D:Dk):Prop:=D.left=none∧D.down=false
theorem zbB{D:Dk}(h:Calm D)(i:Nat)(hi:i<D.safe.length)(b:Sec)(hb:b.length=32):DM.write D (i:Int) b=(0,{ D with waits:=D.waits ++ [(i,b)] }):=by
 have ha:DM.act D=(true,D):=by{unfold DM.act;rw[h.2,h.1];rfl};unfold DM.write;rw[h.2,ha];rw[if_neg (by simp),if_neg (by omega)];simp[h.2]
theorem z8N{D:Dk}(h:Calm D):DM.sync D=(0,{ D with safe:=now D,waits:=[] }):=by
 have ha:DM.act D=(true,D):=by{unfold DM.act;rw[h.2,h.1];rfl};unfold DM.sync;rw[ha];simp
theorem zgU(ep:Nat)(b:List UInt8){s:Nat}(hs:6<=s)(hb:b.length=32 * ((s - 2) / 2)):∀ k i D,Calm D->D.safe.length=s->i+k<=(s - 2) / 2->(lay ep b i k D).1=0/\Calm (lay ep b i k D).2/\(lay ep b i k D).2.safe=D.safe
 | 0,i,D,hc,_,_=>⟨rfl,hc,rfl⟩
 | k+1,i,D,hc,hl,hik=>by{have hh:half D=(s - 2) / 2:=by{unfold half;rw[hl]};have hw:=zbB hc (WM.first D ep+i) (z7I ep i (by omega) (by omega)) (z2S b i) (by unfold z2S;rw[List.length_take,List.length_drop];omega);unfold lay;rw[hw];simp only[if_true];exact zgU ep b hs hb k (i+1) { D with waits:=D.waits ++ [(WM.first D ep+i,z2S b i)] } hc hl (by omega)}
theorem z9K{D:Dk}{G:Lg}{b:List UInt8}(hc:Calm D)(h6:6<=D.safe.length)(hd:G.dead=false)(hf:(flat G.l).length<=32 * half D)(hb:b.length<=1024):if room D G<b.length+10 then WM.append D G b=(5,D,G)
  else (WM.append D G b).1=0/\(WM.append D G b).2.2 = { G with l:=G.l ++ [b] }/\Calm (WM.append D G b).2.1/\(WM.append D G b).2.1.safe=D.safe:=by
 have hg:gone D G=false:=by{unfold gone;rw[hd,hc.2];rfl};split;{rename_i h;unfold WM.append;rw[hg,if_neg (by simp),if_neg (by omega),if_pos h]};{rename_i h;have hsn:=z6Y G.l b;have hfit:(flat (G.l ++ [b])).length<=32 * half D:=by{unfold room at h;omega};have hal:(area D (G.l ++ [b])).length=32 * half D:=z3Z hfit;obtain⟨h1,h2,h3⟩:=zgU G.ep (area D (G.l ++ [b])) (s:=D.safe.length) h6 hal (((flat (G.l ++ [b])).length - 1) / 32 - (flat G.l).length / 32+1) ((flat G.l).length / 32) D hc rfl (by have:(D.safe.length - 2) / 2=half D:=rfl;omega);unfold WM.append;rw[hg,if_neg (by simp),if_neg (by omega),if_neg h];simp only;rw[h1];refine⟨rfl,?_,h2,h3⟩;obtain⟨ep,l,safe,dead⟩:=G;simp only at hd;subst hd;rfl}
theorem zfM(D:Dk)(G:Lg)(b:List UInt8):(WM.append D G b).2.1.safe.length=D.safe.length:=by
 unfold WM.append;split;{rfl};{split;{rfl};{split;{rfl};{exact z9R _ _ _ _ _}}}
theorem zqS(D:Dk)(G:Lg)(L:List (List UInt8)):(WM.reset D G L).2.1.safe.length=D.safe.length:=by
 unfold WM.reset;split;{rfl};{split;{rfl};{split;{rfl};{simp only;split <;> exact zjT _ _ _}}}
namespace WM
open DM BM Go.Proofs.YtkhddpiopbmhjaaGreat
def z2F(D:Dk)(p:Nat):Sec:=(now D).getD p []
theorem zvA{D E:Dk}{i:Nat}{b:Sec}(hs:E.safe=D.safe)(hw:E.waits=D.waits ++ [(i,b)]):now E=(now D).set i b:=by
 unfold now;rw[hs,hw,zlM];rfl
theorem zaR{D E:Dk}{i:Nat}{b:Sec}(hs:E.safe=D.safe)(hw:E.waits=D.waits ++ [(i,b)])(hi:i<D.safe.length)(p:Nat):z2F E p=if p=i then b else z2F D p:=by
 have hl:=z2E D;unfold z2F;rw[zvA hs hw,List.getD_eq_getElem?_getD,List.getElem?_set];by_cases h:i=p;{subst h;rw[if_pos rfl,if_pos (by omega),if_pos rfl];rfl};{rw[if_neg h,if_neg (λe=>h e.symm),List.getD_eq_getElem?_getD]}
theorem z8Q{D E:Dk}(hs:E.safe=now D)(hw:E.waits = [])(p:Nat):z2F E p=z2F D p:=by
 unfold z2F now;rw[hs,hw];rfl
theorem z8U{D:Dk}(hd:D.down=false)(i:Nat)(hi:i<D.safe.length):DM.read D (i:Int)=(z2F D i,0):=by
 unfold DM.read z2F;rw[hd,if_neg (by simp),if_neg (by omega)];simp
theorem zhJ{D:Dk}(ok:Ok D)(i:Nat)(hi:i<D.safe.length):(z2F D i).length=32:=by
 have hl:=z2E D;have:=ok.now _ (List.getElem_mem (l:=now D) (n:=i) (by omega));unfold z2F;rw[List.getD_eq_getElem?_getD,List.getElem?_eq_getElem (by omega)];exact this
theorem zmW{D:Dk}{i:Nat}{b:Sec}(h:(DM.write D (i:Int) b).1=0):i<D.safe.length/\b.length=32/\(DM.write D (i:Int) b).2.safe=D.safe/\(DM.write D (i:Int) b).2.waits=D.waits ++ [(i,b)]:=by
 unfold DM.write at h |-;split at h;{cases h};{rename_i h1;rw[if_neg h1];split at h;{cases h};{rename_i h2;rw[if_neg h2];split at h;{rename_i h3;rw[if_pos h3];refine⟨by omega,by omega,z2I D,?_⟩;show (DM.act D).2.waits ++ [((i:Int).toNat,b)]=_;rw[z3J];simp};{cases h}}}
theorem znM{D:Dk}{i:Nat}{b:Sec}(hi:i<D.safe.length)(hb:b.length=32)(h:(DM.write D (i:Int) b).1≠0):(DM.write D (i:Int) b).1=6/\(DM.write D (i:Int) b).2.safe=D.safe/\(DM.write D (i:Int) b).2.waits=D.waits:=by
 unfold DM.write at h |-;split;{exact⟨rfl,rfl,rfl⟩};{rename_i h1;rw[if_neg h1] at h;rw[if_neg (by omega)] at h |-;split;{rename_i h3;rw[if_pos h3] at h;exact absurd rfl h};{exact⟨rfl,z2I D,z3J D⟩}}
theorem zsU{D:Dk}(h:(DM.sync D).1=0):(DM.sync D).2.safe=now D/\(DM.sync D).2.waits = []:=by
 unfold DM.sync at h |-;split at h;{rename_i h3;rw[if_pos h3];refine⟨?_,rfl⟩;show now (DM.act D).2=_;unfold now;rw[z2I,z3J]};{cases h}
theorem zqR{D:Dk}(h:(DM.sync D).1≠0):(DM.sync D).1=6/\(DM.sync D).2.safe=D.safe/\(DM.sync D).2.waits=D.waits:=by
 unfold DM.sync at h |-;split;{rename_i h3;rw[if_pos h3] at h;exact absurd rfl h};{exact⟨rfl,z2I D,z3J D⟩}
theorem zmR{D E:Dk}(h:E.safe=D.safe)(ep:Nat):WM.first E ep=WM.first D ep:=by unfold WM.first half;rw[h]
theorem z6M{D E:Dk}(h:E.safe.length=D.safe.length):half E=half D:=by unfold half;rw[h]
theorem z5B(ep:Nat)(b:List UInt8):∀ k i (D:Dk),6<=D.safe.length->i+k<=half D->b.length=32 * half D->
  (lay ep b i k D).2.safe=D.safe/\(∃ ws,(lay ep b i k D).2.waits=D.waits ++ ws/\∀ x ∈ ws,∃ j,i<=j/\j<i+k/\x=(WM.first D ep+j,z2S b j))/\((lay ep b i k D).1≠0->(lay ep b i k D).1=6)/\
  ((lay ep b i k D).1=0->∀ p,(∀ j,i<=j->j<i+k->p=WM.first D ep+j->z2F (lay ep b i k D).2 p=z2S b j)/\((∀ j,i<=j->j<i+k->p≠WM.first D ep+j)->z2F (lay ep b i k D).2 p=z2F D p))
 | 0,i,D,_,_,_=>⟨rfl,⟨[],by simp[lay],by simp⟩,λh=>absurd rfl h,λ_ p=>⟨λj h1 h2=>by omega,λ_=>rfl⟩⟩
 | k+1,i,D,h6,hik,hb=>by{have hfl:=z7I (D:=D) ep i h6 (by omega);have hsl:(z2S b i).length=32:=by{unfold z2S;rw[List.length_take,List.length_drop];omega};unfold lay;simp only;by_cases h0:(DM.write D ((WM.first D ep+i:Nat):Int) (z2S b i)).1=0;{rw[if_pos h0];obtain⟨_,_,w1,w2⟩:=zmW h0;have hn:=λp=>zaR w1 w2 hfl p;have hF:=zmR w1 ep;have hH:half (DM.write D ((WM.first D ep+i:Nat):Int) (z2S b i)).2=half D:=z6M (by rw[w1]);obtain⟨i1,⟨ws,i2,i3⟩,i4,i5⟩:=z5B ep b k (i+1) _ (by rw[w1];exact h6) (by rw[hH];omega) (by rw[hH];exact hb);generalize (DM.write D ((WM.first D ep+i:Nat):Int) (z2S b i)).2=E at *;rw[hF] at i3 i5;refine⟨i1.trans w1,⟨(WM.first D ep+i,z2S b i) :: ws,by rw[i2,w2];simp,λx hx=>?_⟩,i4,λh p=>?_⟩;{rcases List.mem_cons.1 hx with rfl | hx;{exact⟨i,Nat.le_refl _,by omega,rfl⟩};{obtain⟨j,j1,j2,j3⟩:=i3 x hx;exact⟨j,by omega,by omega,j3⟩}};{obtain⟨q1,q2⟩:=i5 h p;refine⟨λj j1 j2 j3=>?_,λhne=>?_⟩;{by_cases hj:j=i;{subst hj;rw[q2 (λj' a1 a2 a3=>by omega),hn,if_pos j3]};{exact q1 j (by omega) (by omega) j3}};{rw[q2 (λj a1 a2=>hne j (by omega) (by omega)),hn,if_neg (hne i (Nat.le_refl _) (by omega))]}}};{rw[if_neg h0];obtain⟨w0,w1,w2⟩:=znM hfl hsl h0;exact⟨w1,⟨[],by rw[w2,List.append_nil],by simp⟩,λ_=>w0,λh=>absurd h h0⟩}}
theorem z8V(b:List UInt8)(i k:Nat)(hk:k<32):(z2S b i)[k]?=b[32 * i+k]?:=by
 unfold z2S;rw[List.getElem?_take,if_pos hk,List.getElem?_drop]
theorem zaI{b:List UInt8}{h:Nat}(hb:b.length=32 * h){i:Nat}(hi:i<h):(z2S b i).length=32:=by
 unfold z2S;rw[List.length_take,List.length_drop];omega
theorem ziR{a b:List UInt8}{h i:Nat}(ha:a.length=32 * h)(hb:b.length=32 * h)(hi:i<h)(he:∀ k,k<32->a[32 * i+k]?=b[32 * i+k]?):z2S a i=z2S b i:=by
 apply List.ext_getElem?;intro k;by_cases hk:k<32;{rw[z8V _ _ _ hk,z8V _ _ _ hk,he k hk]};{rw[List.getElem?_eq_none (by rw[zaI ha hi];omega),List.getElem?_eq_none (by rw[zaI hb hi];omega)]}
theorem zjL(B:List UInt8)(en:Nat):(clean B en).length=B.length:=by unfold clean;rw[List.length_append,List.length_take,List.length_replicate];omega
theorem ztK{B:List UInt8}{en j:Nat}(hj:j<B.length):(clean B en)[j]?=some (if j<en then B.getD j 0 else 0):=by
 unfold clean;by_cases h:j<en;{rw[List.getElem?_append_left (by rw[List.length_take];omega),List.getElem?_take,if_pos h,if_pos h,gd _ _ hj]};{rw[List.getElem?_append_right (by rw[List.length_take];omega),List.length_take,List.getElem?_replicate,if_pos (by omega),if_neg h]}
theorem zxG{B:List UInt8}{en i:Nat}(h:dirty B en i=false){k:Nat}(hk:k<32)(he:en<=32 * i+k):B.getD (32 * i+k) 0=0:=by
 unfold dirty at h;have h1:=List.any_eq_false.1 h k (List.mem_range.2 hk);simp only[Bool.and_eq_true,decide_eq_true_eq,not_and,Decidable.not_not] at h1;exact h1 he
theorem znV{B:List UInt8}{en h i:Nat}(hb:B.length=32 * h)(hi:i<h)(hd:dirty B en i=false):z2S (clean B en) i=z2S B i:=
 ziR (by rw[zjL];exact hb) hb hi λk hk=>by{rw[ztK (by omega),gd B _ (by omega)];split;{rfl};{rw[zxG hd hk (by omega)]}}
theorem zcQ(ep:Nat)(B:List UInt8)(en:Nat):∀ k i wr (D:Dk),Calm D->Ok D->6<=D.safe.length->i+k<=half D->B.length=32 * half D->
  (wipe ep B en i k wr D).1=0/\Calm (wipe ep B en i k wr D).2.2/\Ok (wipe ep B en i k wr D).2.2/\(wipe ep B en i k wr D).2.2.safe=D.safe/\((wipe ep B en i k wr D).2.1=false->(wipe ep B en i k wr D).2.2=D)/\
  ∀ p,(∀ j,i<=j->j<i+k->p=WM.first D ep+j->z2F (wipe ep B en i k wr D).2.2 p=if dirty B en j then z2S (clean B en) j else z2F D p)/\((∀ j,i<=j->j<i+k->p≠WM.first D ep+j)->z2F (wipe ep B en i k wr D).2.2 p=z2F D p)
 | 0,i,wr,D,hc,ok,_,_,_=>⟨rfl,hc,ok,rfl,λ_=>rfl,λp=>⟨λj h1 h2=>by omega,λ_=>rfl⟩⟩
 | k+1,i,wr,D,hc,ok,h6,hik,hb=>by{have hfl:=z7I (D:=D) ep i h6 (by omega);have hcl:(clean B en).length=32 * half D:=by{rw[zjL];exact hb};have hsl:=zaI hcl (i:=i) (by omega);unfold wipe;by_cases hd:dirty B en i=true;{rw[if_pos hd];have hw:=zbB hc (WM.first D ep+i) hfl (z2S (clean B en) i) hsl;have hok:=ok.write ((WM.first D ep+i:Nat):Int) (z2S (clean B en) i);simp only;rw[hw] at hok |-;simp only[if_true];obtain⟨E,hE⟩:∃ E:Dk,E = { D with waits:=D.waits ++ [(WM.first D ep+i,z2S (clean B en) i)] }:=⟨_,rfl⟩;rw[<-hE] at hok |-;have hEs:E.safe=D.safe:=by{rw[hE]};have hn:=λp=>zaR (D:=D) (E:=E) hEs (by rw[hE]) hfl p;have hF:=zmR hEs ep;have hH:half E=half D:=z6M (by rw[hEs]);obtain⟨a1,a2,a3,a4,a5,a6⟩:=zcQ ep B en k (i+1) true E (by rw[hE];exact hc) hok (by rw[hEs];exact h6) (by rw[hH];omega) (by rw[hH];exact hb);rw[hF] at a6;refine⟨a1,a2,a3,a4.trans hEs,λh=>?_,λp=>?_⟩;{exfalso;have:∀ k i (D:Dk),(wipe ep B en i k true D).2.1=true:=by{intro k;induction k with | zero=>{intro i D;rfl} | succ k ih=>{intro i D;unfold wipe;split;{simp only;split;{exact ih _ _};{rfl}};{exact ih _ _}}};rw[this] at h;cases h};{obtain⟨q1,q2⟩:=a6 p;refine⟨λj j1 j2 j3=>?_,λhne=>?_⟩;{by_cases hj:j=i;{subst hj;rw[q2 (λj' b1 b2 b3=>by omega),hn,if_pos j3,if_pos hd]};{have he:z2F E p=z2F D p:=by{rw[hn,if_neg (by omega)]};rw[q1 j (by omega) (by omega) j3,he]}};{rw[q2 (λj b1 b2=>hne j (by omega) (by omega)),hn,if_neg (hne i (Nat.le_refl _) (by omega))]}}};{rw[if_neg hd];obtain⟨a1,a2,a3,a4,a5,a6⟩:=zcQ ep B en k (i+1) wr D hc ok h6 (by omega) hb;refine⟨a1,a2,a3,a4,a5,λp=>?_⟩;obtain⟨q1,q2⟩:=a6 p;refine⟨λj j1 j2 j3=>?_,λhne=>q2 (λj b1 b2=>hne j (by omega) (by omega))⟩;by_cases hj:j=i;{subst hj;rw[q2 (λj' b1 b2 b3=>by omega),if_neg hd]};{exact q1 j (by omega) (by omega) j3}}}
theorem zoT{D:Dk}(hd:D.down=false)(h6:6<=D.safe.length)(ep:Nat):WM.bytes D ep=((List.range (half D)).map λi=>z2F D (WM.first D ep+i)).flatten:=by
 unfold WM.bytes;congr 1;apply List.map_congr_left;intro i hi;rw[List.mem_range] at hi;rw[z8U hd _ (z7I ep i h6 hi)]
theorem ziE(f:Nat->Sec)(hf:∀ i,(f i).length=32):∀ h,((List.range h).map f).flatten.length=32 * h/\∀ i k,i<h->k<32->((List.range h).map f).flatten[32 * i+k]?=(f i)[k]?
 | 0=>⟨rfl,λi k h=>by omega⟩
 | h+1=>by{obtain⟨h1,h2⟩:=ziE f hf h;rw[List.range_succ,List.map_append,List.flatten_append];simp only[List.map_cons,List.map_nil,List.flatten_cons,List.flatten_nil,List.append_nil];refine⟨by rw[List.length_append,h1,hf];omega,λi k hi hk=>?_⟩;by_cases hih:i<h;{rw[List.getElem?_append_left (by omega)];exact h2 i k hih hk};{have:i=h:=by{omega};subst this;rw[List.getElem?_append_right (by omega),h1];congr 1;omega}}
theorem ztP{D:Dk}(hd:D.down=false)(h6:6<=D.safe.length)(ok:Ok D)(ep:Nat):(WM.bytes D ep).length=32 * half D/\∀ i,i<half D->z2S (WM.bytes D ep) i=z2F D (WM.first D ep+i):=by
 have hg:∀ h,h<=half D->((List.range h).map λi=>z2F D (WM.first D ep+i))=(List.range h).map λi=>if i<half D then z2F D (WM.first D ep+i) else List.replicate 32 0:=λh hh=>by{apply List.map_congr_left;intro i hi;rw[List.mem_range] at hi;rw[if_pos (by omega)]};have hl:∀ i,(if i<half D then z2F D (WM.first D ep+i) else List.replicate 32 0:List UInt8).length=32:=λi=>by{split;{exact zhJ ok _ (z7I ep i h6 (by assumption))};{simp}};obtain⟨h1,h2⟩:=ziE _ hl (half D);rw[zoT hd h6,hg _ (Nat.le_refl _)];refine⟨h1,λi hi=>?_⟩;apply List.ext_getElem?;intro k;by_cases hk:k<32;{rw[z8V _ _ _ hk,h2 i k hi hk,if_pos hi]};{rw[List.getElem?_eq_none (by rw[zaI h1 hi];omega),List.getElem?_eq_none (by rw[zhJ ok _ (z7I ep i h6 hi)];omega)]}
theorem zlH{D E:Dk}(hD:D.down=false)(hE:E.down=false){i:Nat}(h1:i<D.safe.length)(h2:i<E.safe.length)(h:z2F E i=z2F D i):WM.head E i=WM.head D i:=by
 unfold WM.head;rw[z8U hD i h1,z8U hE i h2,h]
theorem zgW{D E:Dk}(hD:D.down=false)(hE:E.down=false)(h1:2<=D.safe.length)(h2:E.safe.length=D.safe.length)(h:∀ i,i<2->z2F E i=z2F D i):epoch E=epoch D:=by
 unfold epoch;rw[zlH hD hE (by omega) (by omega) (h 0 (by omega)),zlH hD hE (by omega) (by omega) (h 1 (by omega))]
theorem zcD(D:Dk)(ep:Nat):2<=WM.first D ep:=by unfold WM.first;omega
structure Opened (D D':Dk) (ep:Nat) (l:List (List UInt8)):Prop where
 eq:zdB D=(0,some ⟨ep,l,l.length,false⟩,D')
 calm:Calm D'
 ok:Ok D'
 size:D'.safe.length=D.safe.length
 area:∀ i,i<half D→z2F D' (WM.first D ep+i)=z2S (z5V (half D) l) i
 rest:∀ p,(∀ i,i<half D→p≠WM.first D ep+i)→z2F D' p=z2F D p
 none:D.waits = []→D'.waits = []
 small:∀ r ∈ l,r.length≤1024
 fit:(flat l).length≤32 * half D
theorem zuC{D:Dk}(hc:Calm D)(ok:Ok D)(h6:6<=D.safe.length):∃ D',Opened D D' (epoch D) (scan (WM.bytes D (epoch D)) ((WM.bytes D (epoch D)).length+1) 0).1:=by
 obtain⟨ep,hep⟩:=zX1 (epoch D);obtain⟨hbl,hbs⟩:=ztP hc.2 h6 ok ep;obtain⟨B,hB⟩:=zX1 (WM.bytes D ep);rw[<-hB] at hbl hbs;obtain⟨s1,s2,s3,s4⟩:=zdW B (B.length+1) 0 (Nat.zero_le _);have hca:=znQ hbl;obtain⟨r,hr⟩:=zX1 (scan B (B.length+1) 0);rw[<-hr] at s1 s2 s3 s4 hca;obtain⟨a1,a2,a3,a4,a5,a6⟩:=zcQ ep B r.2 (half D) 0 false D hc ok h6 (by omega) hbl;obtain⟨W,hW⟩:=zX1 (wipe ep B r.2 0 (half D) false D);rw[<-hW] at a1 a2 a3 a4 a5 a6;have har:∀ i,i<half D->z2F W.2.2 (WM.first D ep+i)=z2S (z5V (half D) r.1) i:=λi hi=>by{rw[(a6 _).1 i (Nat.zero_le _) (by omega) rfl,<-hca];split;{rfl};{rename_i hd;rw[<-hbs i hi,znV hbl hi (by simpa using hd)]}};have hre:∀ p,(∀ i,i<half D->p≠WM.first D ep+i)->z2F W.2.2 p=z2F D p:=λp hp=>(a6 p).2 λj _ h2=>hp j (by omega);have hop:zdB D=if W.2.1 then (0,some ⟨ep,r.1,r.1.length,false⟩,(DM.sync W.2.2).2) else (0,some ⟨ep,r.1,r.1.length,false⟩,W.2.2):=by{unfold zdB;rw[if_neg (by omega),if_neg (by simp[hc.2]),<-hep,<-hB];simp only;rw[<-hr,<-hW,a1,if_neg (by simp)];split;{rw[show (DM.sync W.2.2).1=0 by rw[z8N a2],if_neg (by simp)]};{rfl}};rw[<-hep,<-hB,<-hr];have hfit:(flat r.1).length<=32 * half D:=by{omega};by_cases hw:W.2.1=true;{rw[if_pos hw] at hop;have hsy:=z8N a2;have hok:=a3.sync;rw[hsy] at hop hok;have hn:=λp=>z8Q (D:=W.2.2) (E:={ W.2.2 with safe:=now W.2.2,waits:=[] }) rfl rfl p;refine⟨_,hop,a2,hok,by show (now W.2.2).length=_;rw[z2E,a4],λi hi=>by rw[hn,har i hi],λp hp=>by rw[hn,hre p hp],λ_=>rfl,s4,hfit⟩};{rw[if_neg hw] at hop;refine⟨_,hop,a2,a3,by rw[a4],har,hre,λh=>by rw[a5 (by simpa using hw)];exact h,s4,hfit⟩}
theorem znL{D:Dk}(h6:6<=D.safe.length)(ep:Nat)(b:List UInt8)(hb:b.length=32 * half D)(hh:(z3Q ep).length=32):((z6V ep b D).1≠0->(z6V ep b D).1=6)/\((z6V ep b D).1=0->(z6V ep b D).2.waits = []/\(∀ i,i<half D->z2F (z6V ep b D).2 (WM.first D ep+i)=z2S b i)/\z2F (z6V ep b D).2 (ep % 2)=z3Q ep/\
    ∀ p,p≠ep % 2->(∀ i,i<half D->p≠WM.first D ep+i)->z2F (z6V ep b D).2 p=z2F D p):=by
 obtain⟨a1,-,a3,a4⟩:=z5B ep b (half D) 0 D h6 (by omega) hb;unfold z6V;generalize lay ep b 0 (half D) D=r at *;simp only;by_cases h0:r.1=0;{rw[if_neg (by simpa using h0)];by_cases h1:(DM.sync r.2).1=0;{rw[if_neg (by simpa using h1)];obtain⟨s1,s2⟩:=zsU h1;have hn1:=λp=>z8Q s1 s2 p;have hsl:(DM.sync r.2).2.safe.length=D.safe.length:=by{rw[z8S,a1]};generalize (DM.sync r.2).2=y at *;have hep:ep % 2<y.safe.length:=by{omega};by_cases h2:(DM.write y ((ep % 2:Nat):Int) (z3Q ep)).1=0;{rw[if_neg (by simpa using h2)];(obtain⟨-,-,w1,w2⟩:=zmW h2;have hn2:=λp=>zaR w1 w2 hep p;generalize (DM.write y ((ep % 2:Nat):Int) (z3Q ep)).2=z at *;refine⟨λh=>(zqR h).1,λh=>?_⟩;obtain⟨t1,t2⟩:=zsU h;have hn3:=λp=>z8Q t1 t2 p;have hall:∀ p,z2F (DM.sync z).2 p=if p=ep % 2 then z3Q ep else z2F r.2 p:=λp=>by rw[hn3,hn2,hn1]);have hfg:=zcD D ep;refine⟨t2,λi hi=>?_,by rw[hall,if_pos rfl],λp p1 p2=>?_⟩;{rw[hall,if_neg (by omega)];exact((a4 h0 _).1 i (Nat.zero_le _) (by omega) rfl)};{rw[hall,if_neg p1];exact(a4 h0 p).2 λj _ hj=>p2 j (by omega)}};{rw[if_pos (by simpa using h2)];exact⟨λ_=>(znM hep hh h2).1,λh=>absurd h h2⟩}};{rw[if_pos (by simpa using h1)];exact⟨λ_=>(zqR h1).1,λh=>absurd h h1⟩}};{rw[if_pos (by simpa using h0)];exact⟨a3,λh=>absurd h h0⟩}
theorem zsV{D:Dk}(hc:Calm D)(h6:6<=D.safe.length)(ep:Nat)(b:List UInt8)(hb:b.length=32 * half D)(hh:(z3Q ep).length=32):(z6V ep b D).1=0/\Calm (z6V ep b D).2:=by
 obtain⟨l1,l2,l3⟩:=zgU ep b h6 hb (half D) 0 D hc rfl (by show 0+half D<=half D;omega);unfold z6V;simp only;rw[if_neg (by simpa using l1),z8N l2];simp only;rw[if_neg (by simp)];have hsl:(now (lay ep b 0 (half D) D).2).length=D.safe.length:=by{rw[z2E,l3]};have hc2:Calm { (lay ep b 0 (half D) D).2 with safe:=now (lay ep b 0 (half D) D).2,waits:=[] }:=l2;rw[zbB hc2 (ep % 2) (by show ep % 2<(now _).length;omega) (z3Q ep) hh];simp only;rw[if_neg (by simp)];rw[z8N (D:={ (lay ep b 0 (half D) D).2 with safe:=now (lay ep b 0 (half D) D).2,waits:=[] ++ [(ep % 2,z3Q ep)] }) l2];exact⟨rfl,l2⟩
theorem zlY(h:Nat)(l:List (List UInt8)){q:Nat}(hq:q<(flat l).length):(z5V h l)[q]?=(flat l)[q]?:=by
 unfold z5V;rw[List.getElem?_append_left hq]
theorem zcS(h:Nat)(l:List (List UInt8)){q:Nat}(hq:(flat l).length<=q)(hh:q<32 * h):(z5V h l)[q]?=some 0:=by
 unfold z5V;rw[List.getElem?_append_right hq,List.getElem?_replicate,if_pos (by omega)]
theorem y0O{D:Dk}(hd:D.down=false){i:Nat}(hi:i<D.safe.length)(s:Sec)(h:z2F D i=s):WM.head D i=(match BM.get s 0 with
  | .no _=>none
  | .yes k body _=>if k≠1 then none else match uint body 0 with | .no _=>none | .yes n t=>if t=body.length/\n<4611686018427387904/\n % 2=i then some n else none):=by
 unfold WM.head;rw[z8U hd i hi,h];rfl
end WM
end
end Go.Proofs.YtkhddpiopbmhjaaGreat
