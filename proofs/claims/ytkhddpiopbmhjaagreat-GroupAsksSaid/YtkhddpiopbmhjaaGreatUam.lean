/- Texts Len64 in one. Conditions: as each law names them. -/
import Derived.Test.YtkhddpiopbmhjaaGreatUaa
import Derived.Test.YtkhddpiopbmhjaaGreatChecked
import Derived.Shelf.Strconv.Itoa0
set_option maxRecDepth 20000
set_option maxHeartbeats 8000000
namespace Go.Proofs.YtkhddpiopbmhjaaGreat
section
open Go.Shelf
def zzT:Ren:=⟨fun x=>if x=129 then 103 else x,fun x=>if x=3 then 3 else if x=4 then 4 else if x=5 then 5 else if x=9 then 9 else if x=46 then 123 else if x=53 then 30 else x,fun x=>x⟩
theorem zvN:Lays.n129 Tryz.prog zzT:=
 {mixed:=by kernel_rfl,f129:=by kernel_rfl,t3:=by kernel_rfl,a3:=λw=>by kernel_rfl,z3:=λw=>by kernel_rfl,v3:=λw=>by kernel_rfl,t4:=by kernel_rfl,a4:=λw=>by kernel_rfl,z4:=λw=>by kernel_rfl,v4:=λw=>by kernel_rfl,t5:=by kernel_rfl,a5:=λw=>by kernel_rfl,z5:=λw=>by kernel_rfl,v5:=λw=>by kernel_rfl,t9:=by kernel_rfl,a9:=λw=>by kernel_rfl,z9:=λw=>by kernel_rfl,v9:=λw=>by kernel_rfl,t46:=by kernel_rfl,a46:=λw=>by kernel_rfl,z46:=λw=>by kernel_rfl,v46:=λw=>by kernel_rfl,t53:=by kernel_rfl,a53:=λw=>by kernel_rfl,z53:=λw=>by kernel_rfl,v53:=λw=>by kernel_rfl }
theorem zqJ(w:World)(n:Nat)(hn:n<18446744073709551616):Calls Tryz.prog 103 #[.int .u64 (n:Nat)] w λe w'=>e = .returned (.int .i64 (Lib.bitLen n:Nat))/\w'=w:=by
 have h:=Any.bits_Len64 zvN (n:Int) w (by omega) (by omega);rw[Int.toNat_natCast] at h;exact h
end
end Go.Proofs.YtkhddpiopbmhjaaGreat
