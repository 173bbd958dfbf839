/- A part of the proof: nothing is stated here for its own sake. -/
import Derived.Test.YtplilfikcimcbaaGreatDoorPfF
set_option linter.unusedVariables false
set_option maxRecDepth 100000
namespace Go.X
end Go.X
namespace Go.Proofs
end Go.Proofs
open Go Go.X Go.Proofs
open _root_.Bool renaming true->Ta,false->Tc
open _root_.Option renaming some->Td,none->Te
namespace Go.X
section
open Go.Lib Go.RowKit
theorem Em:∀{l:List cK} {v:Tr} {i:Nat},Sm v->zh v=Ta->(∀o∈l,OpS o)->Sm (Qe v l i).1
 |[],v,i,hv,hr,hl=>by simpa[Qe]using hv
 |o::l,v,i,hv,hr,hl=>by rw[Qe];split;rename_i h1;exact Em (FU hv hr (hl o (by simp))) (yP h1) λx b=>hl x (by simp[b]);exact Xt
theorem UB{l:List cK}{v:Tr}(b:Sm v)(c:∀o∈l,OpS o):Sm (lX v l).1:=by unfold lX;split;rename_i h;exact Em b h c;exact Xt
theorem Fi:∀{l:List cK} {v:Tr} {i:Nat},zh v=Ta->(Qe v l i).2.2=0->zh (Qe v l i).1=Ta
 |[],v,i,hr,_=>by simpa[Qe]using hr
 |o::l,v,i,hr,h=>by rw[Qe]at h ⊢;split;rename_i h1;rw[zA h1]at h;exact Fi (yP h1) h;rename_i h1;rw[zv h1]at h;exact absurd h h1
set_option maxHeartbeats 1000000 in
theorem N9{gl:Fr}(h:GL gl)(B:Brn gl){a b:Tr}{R:Bool->Prop}(q:R Ta):PC Tp gl 10 [Arg.mk .tree a,Arg.mk .tree b] [.bool] R:=by
 apply W9;simp only[Y3];refine S1 h B ?_;refine HW (by omega) λb1 x=>⟨λr=>r=Ta->(jM b:Int)<=120/\Sm b,λ_=>HW (by omega) λb2 c=>c,λb2 c=>⟨λ_=>q,λk=>?_⟩⟩;have I:b1=Ta/\b2=Ta:=by cases b1 <;> cases b2 <;> simp at k;exact⟨rfl,rfl⟩
 obtain⟨D,G⟩:=I;obtain⟨N,sa⟩:=x D;obtain⟨Q,sb⟩:=c D G;refine CJ h B sa sb ⟨λk=>?_,λk=>?_⟩;have J:(jA a b).2≠0:=by simpa using k
 obtain⟨h1,e⟩:=UD J;rw[h1];refine⟨λr=>r=zh a,λ_=>xc h sa rfl,λS w=>⟨λr=>r=zh b,λ_=>xc h sb rfl,λO n=>?_⟩⟩;have w:=w rfl;subst w;cases er:zh a with
 |false=>exact q
 |true=>rw[er]at n e;have n:=n rfl;subst n;have e:zh b=Tc:=e;rw[e];exact q
 have hz:(jA a b).2=0:=by simpa using k
 obtain⟨m,rb,t⟩:=TK hz;have ga:GV a:=⟨m,sa⟩;have gb:GV b:=⟨rb,sb⟩;have P:=vF a;have L:=vF b;obtain⟨y,h1,e⟩:=KA uL (f:=33) (a:=a) (b:=b) (by have:=ga.dp;omega) m rb (by omega);have H:iB jU 33 [] a b=ke a b:=rfl;rw[H]at h1;rw[t];refine O4 h sa (λo u=>(Hd sa sb o (by rw[t];exact u)).s) (by have:=Bj ga gb;omega) ?_;rw[h1];have C:Sm y/\y8 y=Ta:=by
  have E:=UB (l:=ke a b) sa λo u=>(Hd sa sb o (by rw[t];exact u)).s;rw[h1]at E;refine⟨E,wu ?_⟩;have A:lX a (ke a b)=Qe a (ke a b) 0:=by unfold lX;rw[zA m]
  have z:=Fi (l:=ke a b) (i:=0) m (by rw[<-A,h1]);rw[<-A,h1]at z;exact z
 refine⟨λr=>r=Ta,λ_=>wD h C.1 sb (by rw[C.2,gb.open,e];rfl),λM j=>?_⟩;have F:(bif (bif Ta then((0:Int)==0)else Tc)then((((ke a b).length:Nat):Int)==(((ke a b).length:Nat):Int))else Tc)=Ta:=by simp
 rw[F]at j ⊢;rw[j rfl];exact q
end
end Go.X
