/- Texts AcdC in one. Conditions: as each law names them. -/
import Derived.Test.YtkjofdocgaiedaaGreatQbe
import Derived.Test.YtkjofdocgaiedaaGreatQbj
set_option maxRecDepth 20000
set_option maxHeartbeats 8000000
namespace Go.Proofs.YtkjofdocgaiedaaGreat
namespace AC
open Go.Proofs.YtkjofdocgaiedaaGreat MI SO BM DM WM
def kA0:Ac:=⟨nS0,Bal.zero,[]⟩
def kV:Vt:=⟨3,⟨1,2⟩,[120]⟩
theorem k_op:(opS (DM.new 60))=(0,some nS0,DM.new 60):=by kernel_rfl
theorem znD {D D':Dk} {S:St} {b:Bal} {vs:List Vt} (h:opS D=(0,some S,D')) (hr:rd S.ps=some (b,vs)):z2T D=(0,some ⟨S,b,vs⟩,D'):=by
 unfold z2T;rw[h];simp only;rw[hr]
theorem zwN:z2T (DM.new 60)=(0,some kA0,DM.new 60):=znD k_op rfl
theorem zwT:WM.half (DM.new 60)=29:=by kernel_rfl
theorem zvR:Sound (DM.new 60) nS0:=by
 have hs:=zkW (D:=DM.new 60) ⟨rfl,rfl⟩ (Ok.new (by decide) (by decide)) (by decide) nS0 (by rw[k_op]);rw[k_op] at hs;exact hs
theorem zoI:Room 29 0 (DM.new 60) kA0:=⟨zvR,⟨λ_=>⟨.inl rfl,List.Pairwise.nil,λv hv=>by cases hv⟩,λ_=>rfl⟩,zwT,Nat.le_refl 0⟩
theorem k_go:∃ (D1:Dk) (A1:Ac) (D2:Dk) (A2 A3:Ac),z1R (DM.new 60) kA0 ⟨1,2⟩ 1=(([],⟨1,2⟩,0),D1,A1)/\z0Q D1 A1 kV=((⟨1,2⟩,0),D2,A2)/\z1R D2 A2 ⟨1,1⟩ 1=(([],⟨1,2⟩,90),D2,A2)/\
  DM.crash D2 []=D2/\z2T D2=(0,some A3,D2)/\(z1R D2 A3 ⟨2,0⟩ 1).1=([kV],⟨2,0⟩,0)/\AOk A1/\AOk A2/\AOk A3/\A1.s.ps.length<=10/\A2.s.ps.length<=10/\A3.s.ps.length<=10/\D1.waits.length<=20000/\D2.waits.length<=20000:=by
 obtain⟨p1,p2,p3,p4⟩:=zoI.prep (by decide) (b:=⟨1,2⟩) ⟨by decide,by decide⟩ (by decide) 1;obtain⟨R1,hR1⟩:=zX1 (z1R (DM.new 60) kA0 ⟨1,2⟩ 1);rw[<-hR1] at p1 p2 p3 p4;obtain⟨a1,a2,a3,a4⟩:=p2.accept (by decide) (v:=kV) (by decide) (by decide) (by decide) (by rw[p3];decide);have st:=p2.accept_still (v:=kV) (by rw[a1]);obtain⟨R2,hR2⟩:=zX1 (z0Q R1.2.1 R1.2.2 kV);rw[<-hR2] at a1 a2 a3 a4 st;rw[p4] at a4;have l1:=zpO (D:=R2.2.1) a2.alive (b:=⟨1,1⟩) (by decide) (by rw[a3];decide) 1;rw[a3] at l1;obtain⟨S',g1,g2,g3⟩:=a2.again st;rw[a3,a4] at g2 g3;obtain⟨q1,-⟩:=g3.prep (by decide) (b:=⟨2,0⟩) ⟨by decide,by decide⟩ (show less ⟨2,0⟩ kV.bal=false by decide) 1;have w1:=zdI (D:=DM.new 60) (zoI.sound.disk.ok.few) kA0 ⟨1,2⟩ 1;rw[<-hR1] at w1;have w2:=z9E p2.sound.disk.ok.few R1.2.2 kV;rw[<-hR2] at w2;have w0:(DM.new 60).waits.length=0:=rfl;have f1:=p2.ok.few p2.alive;have f2:=a2.ok.few a2.alive;have f3:=g3.ok.few g3.alive;rw[p4,show kA0.vs.length=0 from rfl] at f1;rw[a4,show (insV kA0.vs kV).length=1 from rfl] at f2;rw[show (insV kA0.vs kV).length=1 from rfl] at f3;refine⟨R1.2.1,R1.2.2,R2.2.1,R2.2.2,_,?_,?_,l1,g1,g2,?_,p2.ok,a2.ok,g3.ok,by omega,by omega,by omega,by omega,by omega⟩;{rw[<-hR1];exact Prod.ext p1 rfl};{rw[<-hR2];exact Prod.ext a1 rfl};{exact q1}
end AC
end Go.Proofs.YtkjofdocgaiedaaGreat
