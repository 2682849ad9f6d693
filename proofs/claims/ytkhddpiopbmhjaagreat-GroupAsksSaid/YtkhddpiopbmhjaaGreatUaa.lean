/- Texts BinM, DiskM, WalM, WalF, WalS, UintM, RlogM, RlogM2 in one. Conditions: as each law names them. -/
set_option maxRecDepth 20000
set_option maxHeartbeats 8000000
namespace Go.Proofs.YtkhddpiopbmhjaaGreat
theorem zA1{a b:Prop}(x:a)(y:b):a/\b:=⟨x,y⟩
theorem zX1{α:Sort _}(x:α):∃ y,y=x:=⟨x,rfl⟩
theorem zI {α : Sort _} {p q : α -> Prop} (i : α) (_ : p i) (x : q i) : q i := x
theorem zE {α : Sort _} {p q : α -> Prop} (i : α) (_ : p i) (x : False) : q i := x.elim
abbrev zF : Nat → Prop := fun _ => False
def zH(p:Prop):Prop:=p
theorem zH.out{p:Prop}(h:zH p):p:=h
theorem zH.o{p:Prop}(h:zH p):p:=h
section
variable {a b c d e f g h i j k l m n o p q r s t u v:Prop}
theorem zH.x1(z:zH (a/\b)):a:=z.1
theorem zH.y1(z:zH (a/\b)):b:=z.2
theorem zB1(a0:a)(b0:b):zH (a/\b):=⟨a0,b0⟩
theorem zH.x2(z:zH (a/\b/\c)):b:=z.2.1
theorem zH.y2(z:zH (a/\b/\c)):c:=z.2.2
theorem zB2(a0:a)(b0:b)(c0:c):zH (a/\b/\c):=⟨a0,b0,c0⟩
theorem zH.x3(z:zH (a/\b/\c/\d)):c:=z.2.2.1
theorem zH.y3(z:zH (a/\b/\c/\d)):d:=z.2.2.2
theorem zA3(a0:a)(b0:b)(c0:c)(d0:d):a/\b/\c/\d:=⟨a0,b0,c0,d0⟩
theorem zB3(a0:a)(b0:b)(c0:c)(d0:d):zH (a/\b/\c/\d):=⟨a0,b0,c0,d0⟩
theorem zH.x4(z:zH (a/\b/\c/\d/\e)):d:=z.2.2.2.1
theorem zH.y4(z:zH (a/\b/\c/\d/\e)):e:=z.2.2.2.2
theorem zB4(a0:a)(b0:b)(c0:c)(d0:d)(e0:e):zH (a/\b/\c/\d/\e):=⟨a0,b0,c0,d0,e0⟩
theorem zH.x5(z:zH (a/\b/\c/\d/\e/\f)):e:=z.2.2.2.2.1
theorem zH.y5(z:zH (a/\b/\c/\d/\e/\f)):f:=z.2.2.2.2.2
theorem zB5(a0:a)(b0:b)(c0:c)(d0:d)(e0:e)(f0:f):zH (a/\b/\c/\d/\e/\f):=⟨a0,b0,c0,d0,e0,f0⟩
theorem zH.x6(z:zH (a/\b/\c/\d/\e/\f/\g)):f:=z.2.2.2.2.2.1
theorem zH.y6(z:zH (a/\b/\c/\d/\e/\f/\g)):g:=z.2.2.2.2.2.2
theorem zB6(a0:a)(b0:b)(c0:c)(d0:d)(e0:e)(f0:f)(g0:g):zH (a/\b/\c/\d/\e/\f/\g):=⟨a0,b0,c0,d0,e0,f0,g0⟩
theorem zH.x7(z:zH (a/\b/\c/\d/\e/\f/\g/\h)):g:=z.2.2.2.2.2.2.1
theorem zH.y7(z:zH (a/\b/\c/\d/\e/\f/\g/\h)):h:=z.2.2.2.2.2.2.2
theorem zB7(a0:a)(b0:b)(c0:c)(d0:d)(e0:e)(f0:f)(g0:g)(h0:h):zH (a/\b/\c/\d/\e/\f/\g/\h):=⟨a0,b0,c0,d0,e0,f0,g0,h0⟩
theorem zH.x8(z:zH (a/\b/\c/\d/\e/\f/\g/\h/\i)):h:=z.2.2.2.2.2.2.2.1
theorem zH.y8(z:zH (a/\b/\c/\d/\e/\f/\g/\h/\i)):i:=z.2.2.2.2.2.2.2.2
theorem zB8(a0:a)(b0:b)(c0:c)(d0:d)(e0:e)(f0:f)(g0:g)(h0:h)(i0:i):zH (a/\b/\c/\d/\e/\f/\g/\h/\i):=⟨a0,b0,c0,d0,e0,f0,g0,h0,i0⟩
theorem zH.x9(z:zH (a/\b/\c/\d/\e/\f/\g/\h/\i/\j)):i:=z.2.2.2.2.2.2.2.2.1
theorem zH.y9(z:zH (a/\b/\c/\d/\e/\f/\g/\h/\i/\j)):j:=z.2.2.2.2.2.2.2.2.2
theorem zB9(a0:a)(b0:b)(c0:c)(d0:d)(e0:e)(f0:f)(g0:g)(h0:h)(i0:i)(j0:j):zH (a/\b/\c/\d/\e/\f/\g/\h/\i/\j):=⟨a0,b0,c0,d0,e0,f0,g0,h0,i0,j0⟩
theorem zH.x10(z:zH (a/\b/\c/\d/\e/\f/\g/\h/\i/\j/\k)):j:=z.2.2.2.2.2.2.2.2.2.1
theorem zH.y10(z:zH (a/\b/\c/\d/\e/\f/\g/\h/\i/\j/\k)):k:=z.2.2.2.2.2.2.2.2.2.2
theorem zB10(a0:a)(b0:b)(c0:c)(d0:d)(e0:e)(f0:f)(g0:g)(h0:h)(i0:i)(j0:j)(k0:k):zH (a/\b/\c/\d/\e/\f/\g/\h/\i/\j/\k):=⟨a0,b0,c0,d0,e0,f0,g0,h0,i0,j0,k0⟩
theorem zH.x11(z:zH (a/\b/\c/\d/\e/\f/\g/\h/\i/\j/\k/\l)):k:=z.2.2.2.2.2.2.2.2.2.2.1
theorem zH.y11(z:zH (a/\b/\c/\d/\e/\f/\g/\h/\i/\j/\k/\l)):l:=z.2.2.2.2.2.2.2.2.2.2.2
theorem zB11(a0:a)(b0:b)(c0:c)(d0:d)(e0:e)(f0:f)(g0:g)(h0:h)(i0:i)(j0:j)(k0:k)(l0:l):zH (a/\b/\c/\d/\e/\f/\g/\h/\i/\j/\k/\l):=⟨a0,b0,c0,d0,e0,f0,g0,h0,i0,j0,k0,l0⟩
theorem zH.x12(z:zH (a/\b/\c/\d/\e/\f/\g/\h/\i/\j/\k/\l/\m)):l:=z.2.2.2.2.2.2.2.2.2.2.2.1
theorem zH.y12(z:zH (a/\b/\c/\d/\e/\f/\g/\h/\i/\j/\k/\l/\m)):m:=z.2.2.2.2.2.2.2.2.2.2.2.2
theorem zB12(a0:a)(b0:b)(c0:c)(d0:d)(e0:e)(f0:f)(g0:g)(h0:h)(i0:i)(j0:j)(k0:k)(l0:l)(m0:m):zH (a/\b/\c/\d/\e/\f/\g/\h/\i/\j/\k/\l/\m):=⟨a0,b0,c0,d0,e0,f0,g0,h0,i0,j0,k0,l0,m0⟩
theorem zH.x13(z:zH (a/\b/\c/\d/\e/\f/\g/\h/\i/\j/\k/\l/\m/\n)):m:=z.2.2.2.2.2.2.2.2.2.2.2.2.1
theorem zH.y13(z:zH (a/\b/\c/\d/\e/\f/\g/\h/\i/\j/\k/\l/\m/\n)):n:=z.2.2.2.2.2.2.2.2.2.2.2.2.2
theorem zB13(a0:a)(b0:b)(c0:c)(d0:d)(e0:e)(f0:f)(g0:g)(h0:h)(i0:i)(j0:j)(k0:k)(l0:l)(m0:m)(n0:n):zH (a/\b/\c/\d/\e/\f/\g/\h/\i/\j/\k/\l/\m/\n):=⟨a0,b0,c0,d0,e0,f0,g0,h0,i0,j0,k0,l0,m0,n0⟩
theorem zH.x14(z:zH (a/\b/\c/\d/\e/\f/\g/\h/\i/\j/\k/\l/\m/\n/\o)):n:=z.2.2.2.2.2.2.2.2.2.2.2.2.2.1
theorem zH.x15(z:zH (a/\b/\c/\d/\e/\f/\g/\h/\i/\j/\k/\l/\m/\n/\o/\p)):o:=z.2.2.2.2.2.2.2.2.2.2.2.2.2.2.1
theorem zB15(a0:a)(b0:b)(c0:c)(d0:d)(e0:e)(f0:f)(g0:g)(h0:h)(i0:i)(j0:j)(k0:k)(l0:l)(m0:m)(n0:n)(o0:o)(p0:p):zH (a/\b/\c/\d/\e/\f/\g/\h/\i/\j/\k/\l/\m/\n/\o/\p):=⟨a0,b0,c0,d0,e0,f0,g0,h0,i0,j0,k0,l0,m0,n0,o0,p0⟩
theorem zH.x16(z:zH (a/\b/\c/\d/\e/\f/\g/\h/\i/\j/\k/\l/\m/\n/\o/\p/\q)):p:=z.2.2.2.2.2.2.2.2.2.2.2.2.2.2.2.1
theorem zH.y16(z:zH (a/\b/\c/\d/\e/\f/\g/\h/\i/\j/\k/\l/\m/\n/\o/\p/\q)):q:=z.2.2.2.2.2.2.2.2.2.2.2.2.2.2.2.2
theorem zB16(a0:a)(b0:b)(c0:c)(d0:d)(e0:e)(f0:f)(g0:g)(h0:h)(i0:i)(j0:j)(k0:k)(l0:l)(m0:m)(n0:n)(o0:o)(p0:p)(q0:q):zH (a/\b/\c/\d/\e/\f/\g/\h/\i/\j/\k/\l/\m/\n/\o/\p/\q):=⟨a0,b0,c0,d0,e0,f0,g0,h0,i0,j0,k0,l0,m0,n0,o0,p0,q0⟩
end
namespace BM
def turn(r:Nat):Nat:=if r % 2=1 then r / 2 ^^^ 3988292384 else r / 2
def turns:Nat→Nat→Nat
 | 0,r=>r
 | k+1,r=>turns k (turn r)
def eat(r c:Nat):Nat:=turns 8 (r ^^^ c)
def reg(l:List UInt8):Nat:=l.foldl (fun r c=>eat r c.toNat) 4294967295
def crc(l:List UInt8):Nat:=4294967295 - reg l
theorem zzN{r:Nat}(h:r<4294967296):turn r<4294967296:=by
 unfold turn;split;{exact Nat.xor_lt_two_pow (n:=32) (by omega) (by decide)};{omega}
theorem zyQ(l:List UInt8):crc l<4294967296:=by unfold crc;omega
theorem zfJ(k r:Nat):turns (k+1) r=turn (turns k r):=by
 induction k generalizing r with | zero=>{rfl} | succ k ih=>{exact ih (turn r)}
theorem zvU(l:List UInt8)(c:UInt8):reg (l ++ [c])=eat (reg l) c.toNat:=by simp[reg]
def turnB(r:Nat)(b:Bool):Nat:=if (decide (r % 2=1)) != b then r / 2 ^^^ 3988292384 else r / 2
def bitOf(c k:Nat):Bool:=decide (c / 2 ^ k % 2=1)
def y2B(c:Nat):Nat→Nat→Nat
 | 0,r=>r
 | k+1,r=>turnB (y2B c k r) (bitOf c k)
def be4(n:Nat):List UInt8:=[UInt8.ofNat (n / 16777216),UInt8.ofNat (n / 65536),UInt8.ofNat (n / 256),UInt8.ofNat n]
def val4(l:List UInt8)(at_:Nat):Nat:=(l.getD at_ 0).toNat * 16777216+(l.getD (at_+1) 0).toNat * 65536+(l.getD (at_+2) 0).toNat * 256+(l.getD (at_+3) 0).toNat
def front(kind:UInt8)(body:List UInt8):List UInt8:=167 :: kind :: (be4 body.length ++ body)
def frame(kind:UInt8)(body:List UInt8):List UInt8:=front kind body ++ be4 (crc (front kind body))
theorem z2A(kind:UInt8)(body:List UInt8):(frame kind body).length=body.length+10:=by
 simp[frame,front,be4]
inductive Got
 | no (e:Nat)
 | yes (kind:UInt8) (body:List UInt8) (to:Nat)
deriving DecidableEq
def get(b:List UInt8)(at_:Nat):Got:=
 if b.length<at_ then .no 2
 else if b.length=at_ then .no 10
 else if b.getD at_ 0≠167 then .no 20
 else if b.length<at_+6 then .no 10
 else if 1024<val4 b (at_+2) then .no 3
 else if b.length<at_+(10+val4 b (at_+2)) then .no 10
 else if val4 b (at_+6+val4 b (at_+2))≠crc ((b.drop at_).take (6+val4 b (at_+2))) then .no 21
 else .yes (b.getD (at_+1) 0) ((b.drop (at_+6)).take (val4 b (at_+2))) (at_+(10+val4 b (at_+2)))
inductive Num
 | no (e:Nat)
 | yes (n to:Nat)
deriving DecidableEq
def digits(b:List UInt8)(at_:Nat):Nat→Nat→Nat→Num
 | 0,_,_=>.no 11
 | f+1,i,v=>
   if b.length≤at_+i then .no 10
   else
    let c:=(b.getD (at_+i) 0).toNat
    if i=9∧1<c then .no 11
    else if c=0∧0<i then .no 11
    else if c<128 then .yes (v+c * 2 ^ (7 * i)) (at_+i+1)
    else digits b at_ f (i+1) (v+(c - 128) * 2 ^ (7 * i))
def uint(b:List UInt8)(at_:Nat):Num:=if b.length<at_ then .no 2 else digits b at_ 10 0 0
def putU:Nat→Nat→List UInt8
 | 0,_=>[]
 | f+1,n=>if n<128 then [UInt8.ofNat n] else UInt8.ofNat (n % 128+128) :: putU f (n / 128)
def z0H(n:Nat):List UInt8:=putU 10 n
end BM
namespace DM
abbrev Sec:=List UInt8
structure Dk where
 safe:List Sec
 waits:List (Nat×Sec)
 left:Option Nat
 down:Bool
def puts(s:List Sec)(l:List (Nat×Sec)):List Sec:=l.foldl (fun s p=>s.set p.1 p.2) s
def now(d:Dk):List Sec:=puts d.safe d.waits
def blank:Sec:=List.replicate 32 0
def new(n:Nat):Dk:={ safe:=List.replicate n blank,waits:=[],left:=none,down:=false }
def act(d:Dk):Bool×Dk:=
 if d.down then (false,d) else
 match d.left with
 | some 0=>(false,{ d with down:=true })
 | some (k+1)=>(true,{ d with left:=some k })
 | none=>(true,d)
def write(d:Dk)(at_:Int)(b:Sec):Int×Dk:=
 if d.down then (6,d) else
 if at_<0∨(d.safe.length:Int)≤at_∨b.length≠32 then (30,d) else
 if (act d).1 then (0,{ (act d).2 with waits:=(act d).2.waits ++ [(at_.toNat,b)] }) else (6,(act d).2)
def sync(d:Dk):Int×Dk:=
 if (act d).1 then (0,{ (act d).2 with safe:=now (act d).2,waits:=[] }) else (6,(act d).2)
def read(d:Dk)(at_:Int):Sec×Int:=
 if d.down then ([],6) else
 if at_<0∨(d.safe.length:Int)≤at_ then ([],30) else ((now d).getD at_.toNat [],0)
def arm(d:Dk)(n:Int):Dk:={ d with left:=if n<0 then none else some n.toNat }
def clamp(k:Int):Nat:=min k.toNat 32
def torn(s:List Sec)(p:Nat×Sec)(k:Int):List Sec:=s.set p.1 (p.2.take (clamp k) ++ (s.getD p.1 []).drop (clamp k))
def tear(s:List Sec):List (Nat×Sec)→List Int→List Sec
 | p :: l,k :: ks=>tear (torn s p k) l ks
 | _,_=>s
def crash(d:Dk)(keep:List Int):Dk:={ safe:=tear d.safe d.waits keep,waits:=[],left:=none,down:=false }
structure Ok (d:Dk):Prop where
 safe:∀ s ∈ d.safe,s.length=32
 waits:∀ p ∈ d.waits,p.1<d.safe.length∧p.2.length=32
 pos:0<d.safe.length
 few:d.safe.length≤2048
 left:∀ k,d.left=some k→k<9223372036854775808
theorem zkS(l:List (Nat×Sec)):∀ s,(puts s l).length=s.length:=by
 induction l with | nil=>{intro s;rfl} | cons p l ih=>{intro s;simp only[puts,List.foldl_cons] at *;rw[ih];simp}
theorem z2E(d:Dk):(now d).length=d.safe.length:=zkS _ _
theorem y0I{s:List Sec}{i:Nat}{x y:Sec}(h:y ∈ s.set i x):y ∈ s∨y=x:=List.mem_or_eq_of_mem_set h
theorem zeT:∀ (l:List (Nat×Sec)) (s:List Sec),(∀ x ∈ s,x.length=32)->(∀ p ∈ l,p.2.length=32)->∀ x ∈ puts s l,x.length=32
 | [],_,hs,_=>hs
 | p :: l,s,hs,hl=>zeT l (s.set p.1 p.2) (λx hx=>(y0I hx).elim (hs x) (λe=>e ▸ hl p (by simp))) (λq hq=>hl q (by simp[hq]))
theorem Ok.now{d:Dk}(h:Ok d):∀ s ∈ now d,s.length=32:=zeT _ _ h.safe λp hp=>(h.waits p hp).2
theorem zlM(s:List Sec)(l m:List (Nat×Sec)):puts s (l ++ m)=puts (puts s l) m:=by simp[puts,List.foldl_append]
theorem z2I(d:Dk):(act d).2.safe=d.safe:=by unfold act;split;rfl;split <;> rfl
theorem z3J(d:Dk):(act d).2.waits=d.waits:=by unfold act;split;rfl;split <;> rfl
theorem Ok.act{d:Dk}(h:Ok d):Ok (act d).2:=by
 refine⟨by rw[z2I];exact h.safe,by rw[z2I,z3J];exact h.waits,by rw[z2I];exact h.pos,by rw[z2I];exact h.few,?_⟩;intro k hk;have hl:=h.left;unfold DM.act at hk;split at hk;{exact hl k hk};{split at hk;{rename_i h0;exact hl k (by simpa using hk)};{rename_i j h0;have:=hl _ h0;simp at hk;omega};{exact hl k hk}}
theorem Ok.write{d:Dk}(h:Ok d)(at_:Int)(b:Sec):Ok (write d at_ b).2:=by
 unfold DM.write;split;{exact h};{split;{exact h};{rename_i hb;have ha:=h.act;split;{refine⟨ha.safe,λp hp=>?_,ha.pos,ha.few,ha.left⟩;rcases List.mem_append.1 hp with hp | hp;{exact ha.waits p hp};{simp at hp;subst hp;have:=z2I d;refine⟨?_,show b.length=32 by omega⟩;show _<(DM.act d).2.safe.length;rw[this];show at_.toNat<_;omega}};{exact ha}}}
theorem Ok.sync{d:Dk}(h:Ok d):Ok (sync d).2:=by
 unfold DM.sync;have ha:=h.act;split;{refine⟨ha.now,by simp,?_,?_,ha.left⟩;{show 0<(DM.now _).length;rw[z2E];exact ha.pos};{show (DM.now _).length<=_;rw[z2E];exact ha.few}};{exact ha}
theorem Ok.new{n:Nat}(h0:0<n)(h1:n<=2048):Ok (new n):=by
 refine⟨λs hs=>?_,by simp[DM.new],by simpa [DM.new] using h0,by simpa [DM.new] using h1,by simp[DM.new]⟩;simp[DM.new] at hs;rw[hs.2];rfl
theorem znB:∀ (s:List Sec) (i:Nat) (b:Sec),(∀ x ∈ s,x.length=32)->i<s.length->b.length=32->(s.set i b).flatten=s.flatten.take (i * 32) ++ (b ++ s.flatten.drop (i * 32+32))
 | [],i,b,_,hi,_=>by simp at hi
 | x :: s,0,b,hs,_,hb=>by{have hx:=hs x (by simp);simp only[List.set_cons_zero,List.flatten_cons,Nat.zero_mul,List.take_zero,List.nil_append,Nat.zero_add];rw[List.drop_append_of_le_length (by omega),List.drop_of_length_le (by omega),List.nil_append]}
 | x :: s,i+1,b,hs,hi,hb=>by{have hx:=hs x (by simp);have ih:=znB s i b (λy hy=>hs y (by simp[hy])) (by simpa using hi) hb;simp only[List.set_cons_succ,List.flatten_cons,ih];have e1:(i+1) * 32=x.length+i * 32:=by{omega};have e2:(i+1) * 32+32=x.length+(i * 32+32):=by{omega};rw[e2,List.drop_length_add_append,e1,List.take_length_add_append];simp}
theorem zlO:∀ (s:List Sec) (i:Nat),(∀ x ∈ s,x.length=32)->i<s.length->(s.flatten.drop (i * 32)).take 32=s.getD i []
 | [],i,_,hi=>by simp at hi
 | x :: s,0,hs,_=>by{have hx:=hs x (by simp);simp[hx]}
 | x :: s,i+1,hs,hi=>by{have hx:=hs x (by simp);have ih:=zlO s i (λy hy=>hs y (by simp[hy])) (by simpa using hi);have e1:(i+1) * 32=x.length+i * 32:=by{omega};rw[List.flatten_cons,e1,List.drop_length_add_append];simpa using ih}
end DM
namespace WM
open DM BM
structure Lg where
 ep:Nat
 l:List (List UInt8)
 safe:Nat
 dead:Bool
def flat(l:List (List UInt8)):List UInt8:=(l.map (frame 2)).flatten
def half(D:Dk):Nat:=(D.safe.length - 2) / 2
def first(D:Dk)(ep:Nat):Nat:=2+ep % 2 * half D
def area(D:Dk)(l:List (List UInt8)):List UInt8:=flat l ++ List.replicate (32 * half D - (flat l).length) 0
def z2S(b:List UInt8)(i:Nat):List UInt8:=(b.drop (32 * i)).take 32
def lay(ep:Nat)(b:List UInt8):Nat→Nat→Dk→Int×Dk
 | _,0,D=>(0,D)
 | i,k+1,D=>
   let r:=write D ((first D ep+i:Nat):Int) (z2S b i)
   if r.1=0 then lay ep b (i+1) k r.2 else r
def head(D:Dk)(i:Nat):Option Nat:=
 match get (read D (i:Int)).1 0 with
 | .no _=>none
 | .yes k body _=>
   if k≠1 then none else
   match uint body 0 with
   | .no _=>none
   | .yes n t=>if t=body.length∧n<4611686018427387904∧n % 2=i then some n else none
def epoch(D:Dk):Nat:=max ((head D 0).getD 0) ((head D 1).getD 0)
def bytes(D:Dk)(ep:Nat):List UInt8:=((List.range (half D)).map fun i=>(read D ((first D ep+i:Nat):Int)).1).flatten
def scan(b:List UInt8):Nat→Nat→List (List UInt8)×Nat
 | 0,a=>([],a)
 | f+1,a=>
   match get b a with
   | .yes k body t=>if k=2 then (body :: (scan b f t).1,(scan b f t).2) else ([],a)
   | .no _=>([],a)
def dirty(b:List UInt8)(en i:Nat):Bool:=(List.range 32).any fun k=>decide (en≤32 * i+k) && decide (b.getD (32 * i+k) 0≠0)
def clean(b:List UInt8)(en:Nat):List UInt8:=b.take en ++ List.replicate (b.length - en) 0
def wipe(ep:Nat)(b:List UInt8)(en:Nat):Nat→Nat→Bool→Dk→Int×Bool×Dk
 | _,0,wr,D=>(0,wr,D)
 | i,k+1,wr,D=>
   if dirty b en i then
    let r:=write D ((first D ep+i:Nat):Int) (z2S (clean b en) i)
    if r.1=0 then wipe ep b en (i+1) k true r.2 else (r.1,true,r.2)
   else wipe ep b en (i+1) k wr D
def zdB(D:Dk):Int×Option Lg×Dk:=
 if D.safe.length<6 then (40,none,D)
 else if D.down then (6,none,D)
 else
  let b:=bytes D (epoch D)
  let s:=scan b (b.length+1) 0
  let r:=wipe (epoch D) b s.2 0 (half D) false D
  if r.1≠0 then (r.1,none,r.2.2)
  else if r.2.1 then
   let y:=sync r.2.2
   if y.1≠0 then (y.1,none,y.2) else (0,some ⟨epoch D,s.1,s.1.length,false⟩,y.2)
  else (0,some ⟨epoch D,s.1,s.1.length,false⟩,r.2.2)
def gone(D:Dk)(g:Lg):Bool:=g.dead || D.down
def mark(D:Dk)(g:Lg):Lg:={ g with dead:=gone D g }
def room(D:Dk)(g:Lg):Nat:=32 * half D - (flat g.l).length
def append(D:Dk)(g:Lg)(body:List UInt8):Int×Dk×Lg:=
 if gone D g then (6,D,mark D g)
 else if 1024<body.length then (3,D,g)
 else if room D g<body.length+10 then (5,D,g)
 else
  let fr:=(flat g.l).length
  let l:=g.l ++ [body]
  let r:=lay g.ep (area D l) (fr / 32) (((flat l).length - 1) / 32 - fr / 32+1) D
  (r.1,r.2,{ g with l:=l,dead:=decide (r.1≠0) })
def z7H(D:Dk)(g:Lg):Int×Dk×Lg:=
 if gone D g then (6,D,mark D g)
 else
  let r:=sync D
  if r.1=0 then (0,r.2,{ g with safe:=g.l.length }) else (r.1,r.2,{ g with dead:=true })
def z3Q(ep:Nat):List UInt8:=frame 1 (z0H ep) ++ List.replicate (32 - (frame 1 (z0H ep)).length) 0
def z6V(ep:Nat)(b:List UInt8)(D:Dk):Int×Dk:=
 let r:=lay ep b 0 (half D) D
 if r.1≠0 then r
 else
  let y:=sync r.2
  if y.1≠0 then y
  else
   let h:=write y.2 ((ep % 2:Nat):Int) (z3Q ep)
   if h.1≠0 then h else sync h.2
def reset(D:Dk)(g:Lg)(l:List (List UInt8)):Int×Dk×Lg:=
 if gone D g then (6,D,mark D g)
 else if l.any fun b=>decide (1024<b.length) then (3,D,g)
 else if 32 * half D<(flat l).length∨g.ep+1=4611686018427387904 then (5,D,g)
 else
  let r:=z6V (g.ep+1) (area D l) D
  if r.1=0 then (0,r.2,⟨g.ep+1,l,l.length,false⟩) else (r.1,r.2,{ g with dead:=true })
end WM
namespace BM
theorem gd(l:List UInt8)(k:Nat)(h:k<l.length):l[k]?=some (l.getD k 0):=by
 rw[List.getD_eq_getElem?_getD,List.getElem?_eq_getElem h];rfl
theorem take4(l:List UInt8)(i:Nat)(h:i+4<=l.length):(l.drop i).take 4 = [l.getD i 0,l.getD (i+1) 0,l.getD (i+2) 0,l.getD (i+3) 0]:=by
 apply List.ext_getElem?;intro j;by_cases h3:j<4;{rw[List.getElem?_take,if_pos h3,List.getElem?_drop,gd l (i+j) (by omega)];have:j=0∨j=1∨j=2∨j=3:=by{omega};rcases this with rfl | rfl | rfl | rfl <;> rfl};{rw[List.getElem?_eq_none (by rw[List.length_take];omega),List.getElem?_eq_none (by simp;omega)]}
theorem z6E(x:UInt8)(n:Nat)(h:n % 256=x.toNat):UInt8.ofNat n=x:=by
 apply UInt8.toNat_inj.1;rw[UInt8.toNat_ofNat',<-h]
theorem zlT(l:List UInt8)(i:Nat)(h:i+4<=l.length):be4 (val4 l i)=(l.drop i).take 4:=by
 rw[take4 l i h];unfold be4 val4;have h0:=(l.getD i 0).toNat_lt;have h1:=(l.getD (i+1) 0).toNat_lt;have h2:=(l.getD (i+2) 0).toNat_lt;have h3:=(l.getD (i+3) 0).toNat_lt;congr 1;{exact z6E _ _ (by omega)};{congr 1;{exact z6E _ _ (by omega)};{congr 1;{exact z6E _ _ (by omega)};{congr 1;exact z6E _ _ (by omega)}}}
theorem zlW(n:Nat)(h:n<4294967296)(x y:List UInt8):val4 (x ++ (be4 n ++ y)) x.length=n:=by
 unfold val4;have g:∀ j,(x ++ (be4 n ++ y)).getD (x.length+j) 0=(be4 n ++ y).getD j 0:=λj=>by{rw[List.getD_eq_getElem?_getD,List.getD_eq_getElem?_getD,List.getElem?_append_right (by omega),Nat.add_sub_cancel_left]};have g0:=g 0;rw[Nat.add_zero] at g0;rw[g0,g 1,g 2,g 3];simp[be4];omega
theorem zhF{b:List UInt8}{a:Nat}{k:UInt8}{body:List UInt8}{t:Nat}(h:get b a = .yes k body t):(b.drop a).take (body.length+10)=frame k body/\t=a+(body.length+10)/\body.length<=1024/\t<=b.length:=by
 unfold get at h;split at h;{cases h};split at h;{cases h};split at h;{cases h};split at h;{cases h};split at h;{cases h};split at h;{cases h};split at h;{cases h};rename_i h1 h2 h3 h4 h5 h6 h7;obtain⟨q,hq⟩:=zX1 (val4 b (a+2));rw[<-hq] at h h5 h6 h7;have h3':b.getD a 0=167:=Classical.byContradiction h3;have h7':val4 b (a+6+q)=crc ((b.drop a).take (6+q)):=Classical.byContradiction h7;cases h;have hl:((b.drop (a+6)).take q).length=q:=by{rw[List.length_take,List.length_drop];omega};rw[hl];have hf:(b.drop a).take (6+q)=front (b.getD (a+1) 0) ((b.drop (a+6)).take q):=by{unfold front;rw[hl,hq,zlT b (a+2) (by omega),<-hq];have e0:b.drop a=b.getD a 0 :: b.drop (a+1):=by{rw[List.drop_eq_getElem_cons (by omega)];congr 1;rw[List.getD_eq_getElem?_getD,List.getElem?_eq_getElem (by omega)];rfl};have e1:b.drop (a+1)=b.getD (a+1) 0 :: b.drop (a+2):=by{rw[List.drop_eq_getElem_cons (by omega)];congr 1;rw[List.getD_eq_getElem?_getD,List.getElem?_eq_getElem (by omega)];rfl};rw[e0,e1,h3',show 6+q=(4+q)+1+1 by omega,List.take_succ_cons,List.take_succ_cons,List.take_add,List.drop_drop]};refine⟨?_,by omega,by omega,by omega⟩;unfold frame;rw[<-hf,<-h7',zlT b (a+6+q) (by omega),show q+10=(6+q)+4 by omega,List.take_add,List.drop_drop];rw[show a+(6+q)=a+6+q by omega]
theorem zeO(x y:List UInt8)(j:Nat):(x ++ y).getD (x.length+j) 0=y.getD j 0:=by
 rw[List.getD_eq_getElem?_getD,List.getD_eq_getElem?_getD,List.getElem?_append_right (by omega),Nat.add_sub_cancel_left]
theorem zhK(x y:List UInt8)(k:UInt8)(body:List UInt8)(hb:body.length<=1024):get (x ++ (frame k body ++ y)) x.length = .yes k body (x.length+(body.length+10)):=by
 obtain⟨b,hB⟩:=zX1 (x ++ (frame k body ++ y));have hlen:b.length=x.length+(body.length+10)+y.length:=by{rw[hB,List.length_append,List.length_append,z2A];omega};have e2:b=(x ++ [167,k]) ++ (be4 body.length ++ (body ++ (be4 (crc (front k body)) ++ y))):=by{rw[hB];simp[frame,front,List.append_assoc]};have e3:b=(x ++ front k body) ++ (be4 (crc (front k body)) ++ y):=by{rw[hB];simp[frame,List.append_assoc]};have hfl:(front k body).length=body.length+6:=by{simp[front,be4]};have v2:val4 b (x.length+2)=body.length:=by{have:=zlW body.length (by omega) (x ++ [167,k]) (body ++ (be4 (crc (front k body)) ++ y));rw[<-e2,List.length_append] at this;exact this};have v3:val4 b (x.length+6+body.length)=crc (front k body):=by{have:=zlW (crc (front k body)) (zyQ _) (x ++ front k body) y;rw[<-e3,List.length_append,hfl] at this;rw[show x.length+6+body.length=x.length+(body.length+6) by omega];exact this};have g0:b.getD x.length 0=167:=by{have:=zeO x (frame k body ++ y) 0;rw[<-hB,Nat.add_zero] at this;rw[this];rfl};have g1:b.getD (x.length+1) 0=k:=by{have:=zeO x (frame k body ++ y) 1;rw[<-hB] at this;rw[this];rfl};have d0:(b.drop x.length).take (6+body.length)=front k body:=by{rw[hB,List.drop_left];unfold frame;rw[List.append_assoc,List.take_append_of_le_length (by omega),List.take_of_length_le (by omega)]};have d6:(b.drop (x.length+6)).take body.length=body:=by{have e:b=(x ++ ([167,k] ++ be4 body.length)) ++ (body ++ (be4 (crc (front k body)) ++ y)):=by{rw[hB];simp[frame,front,List.append_assoc]};have hl6:(x ++ ([167,k] ++ be4 body.length)).length=x.length+6:=by{simp[be4]};rw[e,<-hl6,List.drop_left,List.take_left]};rw[<-hB];unfold get;rw[v2,v3,g0,g1,d0,d6];rw[if_neg (by omega),if_neg (by omega),if_neg (by simp),if_neg (by omega),if_neg (by omega),if_neg (by omega),if_neg (by simp)];congr 1;omega
end BM
namespace WM
open DM BM
theorem z7R(x:List UInt8)(l:List (List UInt8)):flat (x :: l)=frame 2 x ++ flat l:=rfl
theorem zcR(a b:List (List UInt8)):flat (a ++ b)=flat a ++ flat b:=by simp[flat]
theorem z6Y(l:List (List UInt8))(x:List UInt8):(flat (l ++ [x])).length=(flat l).length+(x.length+10):=by
 rw[zcR,List.length_append];simp[flat,z2A]
theorem zdW(b:List UInt8):∀ f a,a<=b.length->
  (scan b f a).2=a+(flat (scan b f a).1).length/\(scan b f a).2<=b.length/\(b.drop a).take (flat (scan b f a).1).length=flat (scan b f a).1/\∀ x ∈ (scan b f a).1,x.length<=1024
 | 0,a,ha=>⟨by simp[scan,flat],ha,by simp[scan,flat],by simp[scan]⟩
 | f+1,a,ha=>by{have stop:∀ r:List (List UInt8)×Nat,r=([],a)->r.2=a+(flat r.1).length/\r.2<=b.length/\(b.drop a).take (flat r.1).length=flat r.1/\∀ x ∈ r.1,x.length<=1024:=by{rintro r rfl;exact⟨by simp[flat],ha,by simp[flat],by simp⟩};unfold scan;cases hg:get b a with | no e=>{exact stop _ rfl} | yes k body t=>{obtain⟨h1,h2,h3,h4⟩:=zhF hg;by_cases hk:k=2;{subst hk;obtain⟨i1,i2,i3,i4⟩:=zdW b f t h4;simp only[if_true];generalize scan b f t=r at *;obtain⟨l,en⟩:=r;simp only at *;refine⟨?_,i2,?_,?_⟩;{rw[z7R,List.length_append,z2A];omega};{rw[z7R,List.length_append,z2A,List.take_add,h1,List.drop_drop,<-h2,i3]};{intro x hx;rcases List.mem_cons.1 hx with rfl | hx;{exact h3};{exact i4 x hx}}};{simp only[if_neg hk];exact stop _ rfl}}}
theorem zeW:∀ (l:List (List UInt8)) (x y:List UInt8) (f:Nat),(∀ r ∈ l,r.length<=1024)->
  scan (x ++ (flat l ++ y)) (l.length+f) x.length = (l ++ (scan (x ++ (flat l ++ y)) f (x.length+(flat l).length)).1,(scan (x ++ (flat l ++ y)) f (x.length+(flat l).length)).2)
 | [],x,y,f,_=>by simp[flat]
 | r :: l,x,y,f,h=>by{have e:x ++ (flat (r :: l) ++ y)=x ++ (frame 2 r ++ (flat l ++ y)):=by{rw[z7R,List.append_assoc]};have e2:x ++ (flat (r :: l) ++ y)=(x ++ frame 2 r) ++ (flat l ++ y):=by{rw[e,List.append_assoc]};have hg:=zhK x (flat l ++ y) 2 r (h r (by simp));rw[<-e] at hg;have ih:=zeW l (x ++ frame 2 r) y f (λq hq=>h q (by simp[hq]));rw[<-e2] at ih;rw[show (r :: l).length+f=(l.length+f)+1 by simp;omega];rw[scan,hg];simp only[if_true];have hl:x.length+(r.length+10)=(x ++ frame 2 r).length:=by{rw[List.length_append,z2A]};rw[hl,ih];have hl2:(x ++ frame 2 r).length+(flat l).length=x.length+(flat (r :: l)).length:=by{rw[z7R,List.length_append,List.length_append];omega};rw[hl2];rfl}
theorem zcE(x:List UInt8)(n:Nat)(t:Nat)(k:UInt8)(body:List UInt8):get (x ++ List.replicate n 0) x.length≠.yes k body t:=by
 intro h;obtain⟨h1,h2,-,h4⟩:=zhF h;rw[List.drop_left,List.take_replicate] at h1;have h5:=congrArg (λl:List UInt8=>l.getD 0 0) h1;simp only[frame,front,List.cons_append,List.getD_cons_zero] at h5;cases hq:min (body.length+10) n with | zero=>{rw[hq] at h5;simp at h5} | succ q=>{rw[hq] at h5;simp[List.replicate_succ] at h5}
theorem zuX(l:List (List UInt8))(n f:Nat)(h:∀ r ∈ l,r.length<=1024)(hf:l.length<f):scan (flat l ++ List.replicate n 0) f 0=(l,(flat l).length):=by
 obtain⟨g,rfl⟩:∃ g,f=l.length+(g+1):=⟨f - l.length - 1,by omega⟩;have:=zeW l [] (List.replicate n 0) (g+1) h;simp only[List.nil_append,List.length_nil,Nat.zero_add] at this;rw[this];have hz:scan (flat l ++ List.replicate n 0) (g+1) (flat l).length=([],(flat l).length):=by{rw[scan];cases hg:get (flat l ++ List.replicate n 0) (flat l).length with | no e=>{rfl} | yes k body t=>{exact absurd hg (zcE _ _ _ _ _)}};rw[hz,List.append_nil]
end WM
namespace BM
theorem dstep{l:List UInt8}{a i v:Nat}(h9:i<9)(hl:a+i<l.length)(hc:128<=(l.getD (a+i) 0).toNat):digits l a (10 - i) i v=digits l a (10 - (i+1)) (i+1) (v+((l.getD (a+i) 0).toNat - 128) * 2 ^ (7 * i)):=by
 rw[show 10 - i=(10 - (i+1))+1 by omega];show (if l.length<=a+i then _ else _)=_;rw[if_neg (by omega)];show (if i=9/\1<(l.getD (a+i) 0).toNat then _ else _)=_;rw[if_neg (by omega),if_neg (by omega),if_neg (by omega)]
theorem dskip{l:List UInt8}{a:Nat}:∀ m,m<=9->a+m<=l.length->(∀ j,j<m->128<=(l.getD (a+j) 0).toNat)->∃ v,digits l a 10 0 0=digits l a (10 - m) m v
 | 0,_,_,_=>⟨0,rfl⟩
 | m+1,h9,hl,hc=>by{obtain⟨v,hv⟩:=dskip m (by omega) (by omega) (λj hj=>hc j (by omega));exact⟨_,by rw[hv,dstep (by omega) (by omega) (hc m (by omega))]⟩}
theorem zwA{l:List UInt8}{a:Nat}(hl:a+10<=l.length)(hc:∀ j,j<10->128<=(l.getD (a+j) 0).toNat):uint l a = .no 11:=by
 obtain⟨v,hv⟩:=dskip (l:=l) (a:=a) 9 (by omega) (by omega) (λj hj=>hc j (by omega));unfold uint;rw[if_neg (by omega),hv];show (if l.length<=a+9 then _ else _)=_;rw[if_neg (by omega)];show (if 9=9/\1<(l.getD (a+9) 0).toNat then _ else _)=_;have:=hc 9 (by omega);rw[if_pos ⟨rfl,by omega⟩]
theorem zoM{l:List UInt8}{a m:Nat}(hm:m<=9)(hl:a+m=l.length)(hc:∀ j,j<m->128<=(l.getD (a+j) 0).toNat):uint l a = .no 10:=by
 obtain⟨v,hv⟩:=dskip (l:=l) (a:=a) m (by omega) (by omega) hc;unfold uint;rw[if_neg (by omega),hv,show 10 - m=(9 - m)+1 by omega];show (if l.length<=a+m then _ else _)=_;rw[if_pos (by omega)]
theorem zmE{l:List UInt8}{a m:Nat}(hm:m<=9)(hl:a+m<l.length)(hc:∀ j,j<m->128<=(l.getD (a+j) 0).toNat)(hb:(0<m/\(l.getD (a+m) 0).toNat=0)∨(m=9/\1<(l.getD (a+m) 0).toNat)):uint l a = .no 11:=by
 obtain⟨v,hv⟩:=dskip (l:=l) (a:=a) m (by omega) (by omega) hc;unfold uint;rw[if_neg (by omega),hv,show 10 - m=(9 - m)+1 by omega];show (if l.length<=a+m then _ else _)=_;rw[if_neg (by omega)];show (if m=9/\1<(l.getD (a+m) 0).toNat then _ else if (l.getD (a+m) 0).toNat=0/\0<m then _ else _)=_;by_cases h1:m=9/\1<(l.getD (a+m) 0).toNat;{rw[if_pos h1]};{rw[if_neg h1,if_pos (by omega)]}
def back(l:List UInt8)(a m:Nat):Nat→Nat
 | 0=>(l.getD (a+m) 0).toNat
 | k+1=>back l a m k * 128+((l.getD (a+(m - 1 - k)) 0).toNat - 128)
theorem zqP(l:List UInt8)(a m:Nat):∀ k,back l a m k<((l.getD (a+m) 0).toNat+1) * 128 ^ k
 | 0=>by rw[Nat.pow_zero,Nat.mul_one];unfold back;omega
 | k+1=>by{have:=zqP l a m k;have h:=(l.getD (a+(m - 1 - k)) 0).toNat_lt;rw[Nat.pow_succ,<-Nat.mul_assoc];unfold back;omega}
theorem zvY{l:List UInt8}{a m k:Nat}(hm:m<=9)(hk:k<=m)(hc:(l.getD (a+m) 0).toNat<128)(hb:¬ (m=9/\1<(l.getD (a+m) 0).toNat)):back l a m k<18446744073709551616:=by
 have h:=zqP l a m k;by_cases h9:m=9;{have:(l.getD (a+m) 0).toNat+1<=2:=by{omega};have hp:128 ^ k<=128 ^ 9:=Nat.pow_le_pow_right (by decide) (by omega);have:=Nat.mul_le_mul this hp;have e:2 * 128 ^ 9=18446744073709551616:=by{simp};exact Nat.lt_of_lt_of_le h (e ▸ this)};{have:(l.getD (a+m) 0).toNat+1<=128:=by{omega};have hp:128 ^ k<=128 ^ 8:=Nat.pow_le_pow_right (by decide) (by omega);have:=Nat.mul_le_mul this hp;have e:128 * 128 ^ 8<=18446744073709551616:=by{simp};exact Nat.lt_of_lt_of_le h (Nat.le_trans this e)}
theorem zdG{l:List UInt8}{a m:Nat}(hm:m<=9)(hl:a+m<l.length)(hc:∀ j,j<m->128<=(l.getD (a+j) 0).toNat)(h128:(l.getD (a+m) 0).toNat<128)(h0:¬ (0<m/\(l.getD (a+m) 0).toNat=0))(h1:¬ (m=9/\1<(l.getD (a+m) 0).toNat)):∀ k,k<=m->∀ v,digits l a (10 - (m - k)) (m - k) v = .yes (v+back l a m k * 2 ^ (7 * (m - k))) (a+m+1)
 | 0,_,v=>by{rw[Nat.sub_zero,show 10 - m=(9 - m)+1 by omega];show (if l.length<=a+m then _ else _)=_;rw[if_neg (by omega)];show (if m=9/\1<(l.getD (a+m) 0).toNat then _ else if (l.getD (a+m) 0).toNat=0/\0<m then _ else if (l.getD (a+m) 0).toNat<128 then _ else _)=_;rw[if_neg h1,if_neg (by omega),if_pos h128];rfl}
 | k+1,hk,v=>by{have ih:=zdG hm hl hc h128 h0 h1 k (by omega);obtain⟨i,hi⟩:=zX1 (m - (k+1));have e1:m - k=i+1:=by{omega};rw[e1] at ih;rw[<-hi,dstep (by omega) (by omega) (hc i (by omega)),ih];have eb:back l a m (k+1)=back l a m k * 128+((l.getD (a+i) 0).toNat - 128):=by{have e2:m - 1 - k=i:=by{omega};rw[<-e2];rfl};rw[eb];generalize back l a m k=B;generalize (l.getD (a+i) 0).toNat - 128=C;have e3:(2:Nat) ^ (7 * (i+1))=128 * 2 ^ (7 * i):=by{rw[show 7 * (i+1)=7 * i+7 by omega,Nat.pow_add,Nat.mul_comm]};rw[e3,Nat.add_mul,<-Nat.mul_assoc,Nat.add_assoc,Nat.add_comm (C * _)]}
theorem zsH{l:List UInt8}{a m:Nat}(hm:m<=9)(hl:a+m<l.length)(hc:∀ j,j<m->128<=(l.getD (a+j) 0).toNat)(h128:(l.getD (a+m) 0).toNat<128)(h0:¬ (0<m/\(l.getD (a+m) 0).toNat=0))(h1:¬ (m=9/\1<(l.getD (a+m) 0).toNat)):uint l a = .yes (back l a m m) (a+m+1):=by
 have:=zdG hm hl hc h128 h0 h1 m (Nat.le_refl _) 0;unfold uint;rw[if_neg (by omega)];rw[Nat.sub_self] at this;rw[show (10:Nat)=10 - 0 from rfl,this];simp
end BM
namespace RM
abbrev Ent:=Nat×List UInt8
structure Lg where
 ap:Nat
 l:List Ent
def Rising(l:List Ent):Prop:=l.Pairwise fun a b=>a.1<b.1
def below(l:List Ent)(s:Nat):Nat:=(l.filter fun e=>decide (e.1<s)).length
def kept(l:List Ent)(s:Nat):Option (List UInt8):=(l.find? fun e=>decide (e.1=s)).map (·.2)
theorem z4M{l:List Ent}(h:Rising l){i j:Nat}(hij:i<j)(hj:j<l.length):l[i].1<l[j].1:=List.pairwise_iff_getElem.1 h i j (by omega) hj hij
theorem z5Q:∀ {l:List Ent},Rising l→∀ s,(∀ i (hi:i<l.length),i<below l s→l[i].1<s)∧(∀ i (hi:i<l.length),below l s≤i→s≤l[i].1)
 | [],_,s=>⟨fun i hi=>by simp at hi,fun i hi=>by simp at hi⟩
 | e :: l,h,s=>by
   have hr:Rising l:=(List.pairwise_cons.1 h).2;have he:=(List.pairwise_cons.1 h).1;obtain⟨h1,h2⟩:=z5Q hr s
   by_cases hs:e.1<s
   ·have eb:below (e :: l) s=below l s+1:=by simp[below,hs]
    refine⟨fun i hi hb=>?_,fun i hi hb=>?_⟩
    ·match i with
     | 0=>exact hs
     | i+1=>exact h1 i (by simpa using hi) (by omega)
    ·match i with
     | 0=>omega
     | i+1=>exact h2 i (by simpa using hi) (by omega)
   ·have all:∀ x ∈ l,¬ x.1<s:=fun x hx=>by have:=he x hx;omega
    have eb:below (e :: l) s=0:=by
     simp only[below,List.filter_cons,hs,decide_false];have:l.filter (fun e=>decide (e.1<s)) = []:=List.filter_eq_nil_iff.2 fun x hx=>by simpa using all x hx
     simp[this]
    refine⟨fun i hi hb=>by omega,fun i hi _=>?_⟩
    match i with
    | 0=>simpa using hs
    | i+1=>
      have:=he _ (List.getElem_mem (show i<l.length by simpa using hi));simp only[List.getElem_cons_succ];omega
theorem z4R(l:List Ent)(s:Nat):below l s<=l.length:=List.length_filter_le _ _
theorem z8M{l:List Ent}(h:Rising l)(s i:Nat)(hi:i<=l.length)(h1:∀ j (hj:j<l.length),j<i->l[j].1<s)(h2:∀ j (hj:j<l.length),i<=j->s<=l[j].1):i=below l s:=by
 obtain⟨g1,g2⟩:=z5Q h s;have hb:=z4R l s;rcases Nat.lt_trichotomy i (below l s) with x | x | x;{have a:=g1 i (by omega) x;have b:=h2 i (by omega) (Nat.le_refl _);omega};{exact x};{have a:=h1 (below l s) (by omega) x;have b:=g2 (below l s) (by omega) (Nat.le_refl _);omega}
theorem zcY{l:List Ent}(h:Rising l)(s:Nat):kept l s=(l[below l s]?).bind λe=>if e.1=s then some e.2 else none:=by
 obtain⟨g1,g2⟩:=z5Q h s;unfold kept;cases hf:l.find? λe=>decide (e.1=s) with | none=>{have hn:=List.find?_eq_none.1 hf;cases hb:l[below l s]? with | none=>{rfl} | some e=>{have:=hn e (List.mem_of_getElem? hb);simp at this;simp[this]}} | some e=>{obtain⟨he,hm⟩:=zA1 (List.find?_some hf) (List.mem_of_find?_eq_some hf);simp at he;obtain⟨j,hj,hje⟩:=List.getElem_of_mem hm;have hjb:j=below l s:=by{rcases Nat.lt_trichotomy j (below l s) with x | x | x;{have:=g1 j hj x;rw[hje] at this;omega};{exact x};{have a:=g2 (below l s) (by omega) (Nat.le_refl _);have b:=z4M h x hj;rw[hje] at b;omega}};subst hjb;rw[List.getElem?_eq_getElem hj,hje];simp[he]}
def ins(l:List Ent)(s:Nat)(v:List UInt8):List Ent:=l.take (below l s) ++ (s,v) :: l.drop (below l s)
def learn(g:Lg)(s:Nat)(v:List UInt8):Nat×Lg:=
 if s=0∨s=18446744073709551615 then (2,g) else if 100<v.length then (3,g) else
 match kept g.l s with
 | some u=>if u=v then (0,g) else (120,g)
 | none=>if s≤g.ap then (0,g) else if 4096≤g.l.length then (5,g) else (0,{ g with l:=ins g.l s v })
def apply(g:Lg):Option Ent×Lg:=
 match kept g.l (g.ap+1) with
 | some v=>(some (g.ap+1,v),{ g with ap:=g.ap+1 })
 | none=>(none,g)
structure Ok (g:Lg):Prop where
 rising:Rising g.l
 slots:∀ e ∈ g.l,0<e.1∧e.1<18446744073709551615
 vals:∀ e ∈ g.l,e.2.length≤100
 few:g.l.length≤4096
 ap:g.ap<18446744073709551615
theorem zpK{l:List Ent}(h:Rising l){s:Nat}(v:List UInt8)(hk:kept l s=none):Rising (ins l s v):=by
 obtain⟨g1,g2⟩:=z5Q h s;have hb:=z4R l s;have hne:∀ i (hi:i<l.length),below l s<=i->s<l[i].1:=λi hi hib=>by{have h1:=g2 i hi hib;rcases Nat.lt_or_eq_of_le h1 with x | x;{exact x};{exfalso;have:=List.find?_eq_none.1 (show l.find? (λe=>decide (e.1=s))=none by simpa [kept] using hk) l[i] (List.getElem_mem hi);simp at this;omega}};unfold ins Rising;rw[List.pairwise_append];refine⟨h.sublist (List.take_sublist _ _),?_,λa ha b hb'=>?_⟩;{rw[List.pairwise_cons];refine⟨λa ha=>?_,h.sublist (List.drop_sublist _ _)⟩;obtain⟨i,hi,rfl⟩:=List.getElem_of_mem ha;rw[List.getElem_drop];exact hne _ _ (by omega)};{obtain⟨i,hi,rfl⟩:=List.getElem_of_mem ha;rw[List.length_take] at hi;rw[List.getElem_take];have h1:=g1 i (by omega) (by omega);rcases List.mem_cons.1 hb' with rfl | hb';{exact h1};{obtain⟨j,hj,rfl⟩:=List.getElem_of_mem hb';rw[List.getElem_drop];have:=hne (below l s+j) (by rw[List.length_drop] at hj;omega) (by omega);omega}}
theorem zkJ{l:List Ent}{s:Nat}{v:List UInt8}{e:Ent}(h:e ∈ ins l s v):e ∈ l∨e=(s,v):=by
 unfold ins at h;rcases List.mem_append.1 h with h | h;{exact .inl (List.mem_of_mem_take h)};{rcases List.mem_cons.1 h with h | h;{exact .inr h};{exact .inl (List.mem_of_mem_drop h)}}
theorem z6U(l:List Ent)(s:Nat)(v:List UInt8):(ins l s v).length=l.length+1:=by
 have:=z4R l s;simp[ins];omega
theorem Ok.learn{g:Lg}(h:Ok g)(s:Nat)(v:List UInt8)(hs:s<18446744073709551616):Ok (learn g s v).2:=by
 unfold RM.learn;split;{exact h}
 ·split
  {exact h}
  ·cases hk:kept g.l s with
   | some u=>simp only[];split <;> exact h
   | none=>
     simp only[];split;{exact h};{split;{exact h};{refine⟨zpK h.rising v hk,λe he=>?_,λe he=>?_,by simp only[];rw[z6U];omega,h.ap⟩;{rcases zkJ he with he | rfl;{exact h.slots e he};{simp only[];omega}};{rcases zkJ he with he | rfl;{exact h.vals e he};{simp only[];omega}}}}
end RM
namespace RM
def run:List Ent→Nat→Nat
 | [],s=>s
 | e :: l,s=>if e.1=s then run l (s+1) else s
def next(g:Lg):Nat:=run (g.l.drop (below g.l (g.ap+1))) (g.ap+1)
def gaps:List Ent→Nat→List Nat
 | [],_=>[]
 | e :: l,s=>List.range' s (e.1 - s) ++ gaps l (e.1+1)
def holes(g:Lg)(most:Int):List Nat:=(gaps (g.l.drop (below g.l (g.ap+1))) (g.ap+1)).take most.toNat
def train:List Ent→Nat→Nat→List Ent
 | [],_,_=>[]
 | _ :: _,_,0=>[]
 | e :: l,s,k+1=>if e.1=s then e :: train l (s+1) k else []
def z4H(g:Lg)(s:Nat)(most:Int):List Ent:=train (g.l.drop (below g.l s)) s most.toNat
def trim(g:Lg)(s:Nat):Nat×Lg:=(below g.l (min s g.ap+1),{ g with l:=g.l.drop (below g.l (min s g.ap+1)) })
def install(g:Lg)(s:Nat):Bool×Lg:=if s≤g.ap∨s=18446744073709551615 then (false,g) else (true,(trim { g with ap:=s } s).2)
def top(g:Lg):Nat:=match g.l.getLast? with | none=>g.ap | some e=>max g.ap e.1
end RM
end Go.Proofs.YtkhddpiopbmhjaaGreat
