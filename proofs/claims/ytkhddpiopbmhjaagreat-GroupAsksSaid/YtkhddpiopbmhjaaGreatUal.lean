/- Texts PutUM in one. Conditions: as each law names them. -/
import Derived.Lib.ItoaNum
import Derived.Test.YtkhddpiopbmhjaaGreatUaa
set_option maxRecDepth 20000
set_option maxHeartbeats 8000000
namespace Go.Proofs.YtkhddpiopbmhjaaGreat
namespace BM
def z9B(n:Nat):Nat:=max 1 ((Lib.bitLen n+6) / 7)
theorem zeV(n:Nat)(hn:n<18446744073709551616):1<=z9B n/\z9B n<=10/\Lib.bitLen n<=64/\n<128 ^ z9B n/\(z9B n=1∨128 ^ (z9B n - 1)<=n):=by
 have hL:Lib.bitLen n<=64:=Lib.bitLen_le n 64 (Nat.le_refl _) (by simpa using hn);have h7:∀ k,128 ^ k=2 ^ (7 * k):=λk=>by{rw[Nat.pow_mul]};by_cases h0:n=0;{subst h0;have:Lib.bitLen 0=0:=Lib.bitLenAux_zero 64;unfold z9B;rw[this];decide};{obtain⟨h1,h2,h3⟩:=Lib.bitLenAux_bounds 64 n (by simpa using hn) h0;have e:Lib.bitLen n=Lib.bitLenAux 64 n:=rfl;rw[<-e] at h1 h2 h3;obtain⟨s,hs⟩:=zX1 (z9B n);have hs2:s=(Lib.bitLen n+6) / 7:=by{rw[hs];unfold z9B;omega};rw[<-hs];refine⟨by omega,by omega,hL,?_,.inr ?_⟩;{rw[h7];exact Nat.lt_of_lt_of_le h3 (Nat.pow_le_pow_right (by decide) (by omega))};{rw[h7];exact Nat.le_trans (Nat.pow_le_pow_right (by decide) (by omega)) h2}}
def digc:Nat→Nat→List UInt8
 | 0,_=>[]
 | k+1,n=>UInt8.ofNat (n % 128+128) :: digc k (n / 128)
theorem z2K:∀ k n,(digc k n).length=k
 | 0,_=>rfl
 | k+1,n=>by simp[digc,z2K k]
theorem zaM:∀ k n,digc (k+1) n=digc k n ++ [UInt8.ofNat (n / 128 ^ k % 128+128)]
 | 0,n=>by simp[digc]
 | k+1,n=>by{show UInt8.ofNat (n % 128+128) :: digc (k+1) (n / 128)=(UInt8.ofNat (n % 128+128) :: digc k (n / 128)) ++ _;rw[zaM k,Nat.div_div_eq_div_mul,Nat.pow_succ,Nat.mul_comm];rfl}
theorem ziF:∀ s f n,s+1<=f->n<128 ^ (s+1)->(s=0∨128 ^ s<=n)->putU f n=digc s n ++ [UInt8.ofNat (n / 128 ^ s)]
 | 0,f,n,hf,h1,_=>by{obtain⟨f,rfl⟩:∃ g,f=g+1:=⟨f - 1,by omega⟩;show (if n<128 then _ else _)=_;rw[if_pos (by simpa using h1)];simp[digc]}
 | s+1,f,n,hf,h1,h2=>by{obtain⟨f,rfl⟩:∃ g,f=g+1:=⟨f - 1,by omega⟩;have h3:128 ^ (s+1)<=n:=by{omega};have hp:0<128 ^ s:=Nat.pow_pos (by decide);have h4:128 ^ s * 128<=n:=by{rw[<-Nat.pow_succ];exact h3};have ih:=ziF s f (n / 128) (by omega) ((Nat.div_lt_iff_lt_mul (by decide)).2 (by rw[<-Nat.pow_succ];exact h1)) (.inr ((Nat.le_div_iff_mul_le (by decide)).2 h4));show (if n<128 then _ else _)=_;rw[if_neg (by omega)];show UInt8.ofNat (n % 128+128) :: putU f (n / 128)=UInt8.ofNat (n % 128+128) :: digc s (n / 128) ++ _;rw[ih,Nat.div_div_eq_div_mul,Nat.pow_succ,Nat.mul_comm];rfl}
theorem zhY(n:Nat)(hn:n<18446744073709551616):z0H n=digc (z9B n - 1) n ++ [UInt8.ofNat (n / 128 ^ (z9B n - 1))]/\n / 128 ^ (z9B n - 1)<128:=by
 obtain⟨h1,h2,-,h3,h4⟩:=zeV n hn;obtain⟨s,hs⟩:∃ s,z9B n=s+1:=⟨z9B n - 1,by omega⟩;rw[hs] at h3 h4 h2 |-;refine⟨ziF s 10 n h2 h3 (by rcases h4 with h4 | h4;(left;omega);(right;exact h4)),?_⟩;show n / 128 ^ s<128;rw[Nat.pow_succ,Nat.mul_comm] at h3;exact(Nat.div_lt_iff_lt_mul (Nat.pow_pos (by decide))).2 h3
end BM
end Go.Proofs.YtkhddpiopbmhjaaGreat
