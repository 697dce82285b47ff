/- The texts ParseZ, Pool2, Pool3, Pool4, Pool5, Pool6, Pool7, Prov1, CompI, Prov2, Prov3, Prov4, Prov5, Prov6, Prov7, Prov8, Evr2, Evr3, Evr4, Evr5, Evr6, Ref7a, PoolP, OpenD, OpenV of the proof, joined. Each says at its theorems what it proves. -/
import Derived.Test.YtglcebdfdehidaaGreatDoorVW2
import Derived.Sort.OwnSortedInts
import Derived.Test.YtglcebdfdehidaaGreatDoorRows
import Derived.ChangeArms
import Derived.WideShapes
set_option linter.unusedSimpArgs false
set_option linter.unusedVariables false
open Go.Proofs.Tryz
set_option maxHeartbeats 2000000
set_option maxRecDepth 100000
namespace Go.Proofs.YtglcebdfdehidaaGreatDoor
open Go Go.RowKit
section
open Go Go.RowKit
namespace Sv
set_option maxHeartbeats 400000
set_option maxRecDepth 100000
def zeroQ:DepT:=.mk 0 [] 0 [] []
def N1 (d:DepT) (w:List UInt8):DepT × Int:=if w=[] then (if Cg d=0 then (d,0) else (zeroQ,Cg d)) else (zeroQ,50)
def Bw (s:List UInt8):DepT × Int:=match Cz (s.length+2) (Al s).2 (Al s).1 with
 |none=>(zeroQ,50)
 |some (d,_,w)=>N1 d w
theorem Y7:Imp (.agg [.int .i64 0,.str [],.int .i64 0,.str [],.nils]) (Aw zeroQ):=Imp.agg (p:=[.int .i64 0,.str [],.int .i64 0,.str []]) (Imp.nil.trans (Ko []))
theorem Q9g {φ:Phi}:VR φ (Aw zeroQ) (.agg #[.int .i64 0,S [],.int .i64 0,S [],.slice none 0 0]):=Y7 _ _ (by
 simp only[VR]
 exact⟨_,.cons (by simp only[VR]) (.cons (by simp only[VR]) (.cons (by simp only[VR]) (.cons (by simp only[VR]) (.single (by simp only[VR]))))),rfl⟩)
def Q0p (P:Program) (s:List UInt8):Exit→St→Prop
 |.panic c,y=>c=C0∧Bw s=(zeroQ,50)∧A3 0 y.h=some (.row [.int .i64 0,.str [],.int .i64 0,.str [],.nils] 86)∧A3 1 y.h=some (.row [.int .i64 0] 35)∧Ck 2 y.s=some (.ptr 0 0)∧Ck 3 y.s=some (.ptr 1 0)
 |e,y=>Ps P [.cell 2 86,.cell 3 35] (.tup [Aw (Bw s).1,.int .i64 (Bw s).2]) e y
theorem Q1i {P:Program} {s:List UInt8} {ks:List Nat} {x:St} {h2:AH} (hq:Bw s=(zeroQ,50)) (e:Ic ks [] x.h=some h2) (g0:(Ic ks [] x.h).bind (A3 0)=some (.row [.int .i64 0,.str [],.int .i64 0,.str [],.nils] 86)) (g1:(Ic ks [] x.h).bind (A3 1)=some (.row [.int .i64 0] 35))
  (l2:Ck 2 (J7 ks x.s)=some (.ptr 0 0)) (l3:Ck 3 (J7 ks x.s)=some (.ptr 1 0)):Q0p P s (.panic C0) ⟨J7 ks x.s,h2,x.nx⟩:=by
 rw[e] at g0 g1;exact⟨rfl,hq,g0,g1,l2,l3⟩
theorem Q1g {s:List UInt8} {d:DepT} {t w:List UInt8} (h:Cz (s.length+2) (Al s).2 (Al s).1=some (d,t,w)):d.size≤2*s.length:=by
 have h1:=(P0 _ _ _ _ h).2.1;have h2:=Gp s;simp only at h1;omega
attribute [local irreducible] SW SO SWD Bk
set_option maxHeartbeats 1000000 in
set_option maxRecDepth 100000 in
theorem Y6n (s:List UInt8) (hs:s.length≤1048576):FnV prog 174 [.str s] (.tup [Aw (Bw s).1,.int .i64 (Bw s).2]):=by
 intro F w vs hF hv;obtain⟨v,rfl,hv1⟩:=hv.single_inv;simp only[VR] at hv1;subst hv1
 have hx:Holds ⟨w,fun k=>k < w.heap.size,fun _ h=>h⟩ ⟨F,fun _=>none,0,fun _ _ e=>by cases e⟩ 28 ⟨Hc 0 [.str s],[],0⟩ (ofF F) (Fk [S s]) w:=by
  refine⟨fun t a e=>?_,⟨⟨rfl,rfl,rfl,Nat.le_refl _,fun _ _=>rfl⟩,hF,fun b o e=>(by cases e),fun b b' o o' k e=>(by cases e),fun b o k e=>(by cases e)⟩,fun b _=>⟨rfl,rfl⟩,fun b o e=>e,fun b o e => .inl e,fun b o e=>(by cases e)⟩;obtain⟨h1,h2,h3⟩:=Ms hv e;rw[Nat.sub_zero] at h2 h3
  have ht:Nat.blt t 28=true:=by simp only[Nat.blt_eq];simp at h3;omega
  simp only[sl,ht,cond_true,Fk];exact h2
 refine calls_of_wp_defers func174 rfl ?_;rw[show({ tmps := #[S s]++Array.replicate (Tryz.f174.ntmps - #[S s].size) undef,defers:=[] }:Act)=mk 28 (Fk [S s]) from by rw[ntmps174];kernel_rfl];refine Y38 (W_mono (Y46 (K:=fun e y=>e = .normal∧y=⟨[(0,.str s),(2,.ptr 0 0),(3,.ptr 1 0)],[(0,(.row [(.int .i64 0),(.str []),(.int .i64 0),(.str []),.nils] 86)),(1,(.row [(.int .i64 0)] 35))],2⟩) ?_ hx) ?_)
 ·refine Aj (An 0 [] [0,2,3] [] hk0 v0 c0 ?_);exact⟨rfl,by kernel_rfl⟩
 rintro e σ1 w1 ⟨y,φ1,hy,rfl,rfl⟩;have a2:=hy.fr 2 (.ptr 0 0) rfl;have a3:=hy.fr 3 (.ptr 1 0) rfl;simp only[VR] at a2 a3;obtain⟨p,κp,ep,a2⟩:=a2;obtain⟨q,κq,eq,a3⟩:=a3;have hf:=hy.fr.put (dst:=some 7) (a:=.raw (.func (.func 199) #[] #[(.pointer (some ⟨p,0,none⟩)),(.pointer (some ⟨q,0,none⟩))])) (s':=[(0,.str s),(2,.ptr 0 0),(3,.ptr 1 0),(7,.raw (.func (.func 199) #[] #[(.pointer (some ⟨p,0,none⟩)),(.pointer (some ⟨q,0,none⟩))]))]) (v:=(.func (.func 199) #[] #[(.pointer (some ⟨p,0,none⟩)),(.pointer (some ⟨q,0,none⟩))])) (by kernel_rfl) (by simp only[VR])
 have hcm:∀b x,(if b < 2 then φ1 b else none)=some x→b < 2:=by
  intro b x e;by_cases hb:b < 2
  ·exact hb
  ·rw[if_neg hb] at e;cases e
 have hy1:Holds ⟨w,fun k=>k < w.heap.size,fun _ h=>h⟩ ⟨F,fun b=>if b < 2 then φ1 b else none,2,hcm⟩ 28 ⟨[(0,.str s),(2,.ptr 0 0),(3,.ptr 1 0)],[(0,(.row [(.int .i64 0),(.str []),(.int .i64 0),(.str []),.nils] 86)),(1,(.row [(.int .i64 0)] 35))],2⟩ φ1 _ w1:=⟨fun t a e=>hf t a (Wm (ts:=[0,2,3]) rfl t a e),hy.rel,hy.dom,hy.old,hy.new,fun b x e=>by
  have e:(if b < 2 then φ1 b else none)=some x:=e;by_cases hb:b < 2
  ·rwa [if_pos hb] at e
  ·rw[if_neg hb] at e;cases e⟩
 refine D.wp_defer (v:=(.func (.func 199) #[] #[(.pointer (some ⟨p,0,none⟩)),(.pointer (some ⟨q,0,none⟩))])) (d:={ target:=.fn (.func 199) #[(.pointer (some ⟨p,0,none⟩)),(.pointer (some ⟨q,0,none⟩))],args := #[] }) rfl (Y14 a2 a3) (Y15 (by omega)) ?_;refine D.W_any (D.W_mono (Q:=E8 _ _ 28 (Q0p prog s)) (Y60 hy1 ?_) ?_)
 ·have hF':(⟨F,fun b=>if b < 2 then φ1 b else none,2,hcm⟩:Cx).lo=2:=rfl;have hN:=Gp s;refine K4 ?_;refine L2 (Ex [] [2,3,4] ?_);refine K4 (L2 ?_);refine A9 1 0 [] [2,3,4,11] [] hk0 v0 c0 (Ew [2] (al:=[(.ptr 2 0)]) (al':=[(.ptr 0 0)]) (r:=(.tup [])) (r':=(.tup [])) (H:=[(0,(.row [(.str s),(.str [])] 250))]) (H':=[(0,(.row [(.str ((Al s).2)),(.str ((Al s).1))] 250))]) (by kernel_rfl) (by exact Ov) (by kernel_rfl) (by kernel_rfl) (by kernel_rfl) (by kernel_rfl) (by kernel_rfl) (P3 s [] (by omega)) hS (by kernel_rfl) pS ?_);refine Bd (K4 ?_);refine L2 (A9 1 0 [] [2,3,4,13] [] hk0 v0 c0 ?_);refine Sy (Cz (s.length+2) (Al s).2 (Al s).1) (fun hz1=>H0 [2] (by exact Hu) ((V8 (s.length+2) (Al s).2 (Al s).1 (by omega) (by omega)).no hz1) (fun h2 e2=>Q1i (P:=prog) (by unfold Bw;rw[hz1]) e2 (by kernel_rfl) (by kernel_rfl) (by kernel_rfl) (by kernel_rfl))) (fun⟨d0,t1,w1⟩ hz1=>?_);have hsz:=Q1g hz1
  have hpq:Bw s=N1 d0 w1:=by unfold Bw;rw[hz1]
  refine Ew [2] (al:=[(.ptr 2 0)]) (al':=[(.ptr 0 0)]) (r:=(.agg [(.int .i64 d0.kind),(.str d0.name),(.int .i64 d0.op),(.str d0.evr),(.row 5 d0.args.length (depAt d0.args))])) (r':=(.agg [(.int .i64 d0.kind),(.str d0.name),(.int .i64 d0.op),(.str d0.evr),(.row 5 d0.args.length (depAt d0.args))])) (H:=[(0,(.row [(.str ((Al s).2)),(.str ((Al s).1))] 250))]) (H':=[(0,(.row [(.str t1),(.str w1)] 250))]) (by kernel_rfl) (by exact Hu) (by kernel_rfl) (by kernel_rfl) (by kernel_rfl) (by kernel_rfl) (by kernel_rfl) ((V8 (s.length+2) (Al s).2 (Al s).1 (by omega) (by omega)).yes hz1) hS (by kernel_rfl) pS ?_;refine An 2 [] [2,3,4,5] [] hk0 v0 c0 (K4 ?_);refine L2 (A9 5 0 [] [2,3,5,19] [(0,5)] hk0 v0 c0 ?_);refine I6 (decide (w1=[])) (fun hz2=>?_) (fun hz2=>H0 [] (by exact Gt) (Mn (decide (w1=[])) hz2) (fun h2 e2=>Q1i (P:=prog) (by rw[hpq,N1,if_neg (by simpa using hz2)]) e2 (by kernel_rfl) (by kernel_rfl) (by kernel_rfl) (by kernel_rfl)))
  have hpw:w1=[]:=by simpa using hz2
  refine Lz (al:=[(.bool (decide (w1=[])))]) (r:=(.tup [])) (by kernel_rfl) (by exact Gt) (by kernel_rfl) (by kernel_rfl) (Mm (decide (w1=[])) hz2) pS (Bd ?_);refine K4 (K4 ?_);refine L2 (An 0 [] [2,3,5,6] [] (hk 1 Q0 (Uy d0 (by omega))<|hk0) v0 c0 ?_);refine K4 ?_;refine L2 (Ex [] [2,3,5,6,24] ?_);refine Y6z (p:=(Cg d0)=0) (fun c1=>?_) fun c1=>?_
  ·refine K4 ?_;refine L2 (Ex [] [2,3] ?_);refine Q9d (RK wR [(.agg [(.int .i64 0),(.str []),(.int .i64 0),(.str []),.nils]),(.int .i64 (Cg d0))] ?_);rw[show Bw s=(zeroQ,Cg d0) from by rw[hpq,N1,if_pos hpw,if_neg (by simpa using c1)]];exact(Imp.tups (ImpL.cons Y7 (ImpL.cons Imp.refl ImpL.nil))).same
  ·refine Y6y (K4 ?_);refine L2 (Ex [] [2,3] ?_);refine Q9d (RK wR [(.agg [(.int .i64 d0.kind),(.str d0.name),(.int .i64 d0.op),(.str d0.evr),(.row 5 d0.args.length (depAt d0.args))]),(.int .i64 0)] ?_);rw[show Bw s=(d0,0) from by rw[hpq,N1,if_pos hpw,if_pos (by simpa using c1)]];exact Same.of_eq rfl
 ·rintro e σ2 w2 ⟨y,φ2,hy2,he⟩
  have fin:(e = .ret∨e = .normal)→Ps prog [.cell 2 86,.cell 3 35] (.tup [Aw (Bw s).1,.int .i64 (Bw s).2]) e y→Leaves prog Tryz.f174 (D.mk [{ target:=.fn (.func 199) #[(.pointer (some ⟨p,0,none⟩)),(.pointer (some ⟨q,0,none⟩))],args := #[] }] 28 σ2).tmps (Ret fun v w''=>Below w.heap.size w w''∧∃F',(∀b o,F b=some o→F' b=some o)∧Fro F' w''∧(∀b o,F' b=some o→F b=some o∨w.heap.size≤b)∧VR (ofF F') (.tup [Aw (Bw s).1,.int .i64 (Bw s).2]) v) [{ target:=.fn (.func 199) #[(.pointer (some ⟨p,0,none⟩)),(.pointer (some ⟨q,0,none⟩))],args := #[] }] .returning w2:=by
   rintro _ ⟨_,al',rl,h',k1,k2,k3⟩;refine leaves_cons (f:=199) (args := #[(.pointer (some ⟨p,0,none⟩)),(.pointer (some ⟨q,0,none⟩))]) (by simp) (by simp[go_sem]) ?_;refine(Y2p _ _ _).mono ?_;rintro e u' w'' ⟨rfl,rfl,hb⟩;have hrel:=hy2.rel.go (Phi.le_refl φ2) hb (fun b o e=>(hb.block b (Dl (hy2.rel.fro b o e))).trans (hy2.rel.fro b o e)) (fun b o e => .inl e);obtain⟨vs',hvs,hrun⟩:=Ma (P:=prog) hy2.fr hrel k1;obtain⟨F',f1,f2,f3,f4⟩:=frzVl_ok k2 _ φ2 w'' _ hrel hvs;exact⟨_,Nw (a:=mk 28 σ2) rfl hrun,_,rfl,⟨hrel.below.os,hrel.below.tape,hrel.below.output,hrel.below.size,hrel.below.block⟩,F',fun b o q=>f1 b o (hy2.old b o q),f3.fro,fun b o q=>((f2 b o q).elim (hy2.new b o) .inr).imp id Nat.le_of_not_lt,k3 _ _ (Pz f4)⟩
  cases e with
  |normal=>exact fin (.inr rfl) he
  |ret=>exact fin (.inl rfl) he
  |panic c =>
   obtain⟨rfl,hpq,g0,g1,l2,l3⟩:=he;obtain⟨x0,κ0,vs0,e0,m0,l0⟩:=hy2.rel.obj 0 _ g0;obtain⟨x1,κ1,vs1,e1,m1,l1⟩:=hy2.rel.obj 1 _ g1;have b0:=hy2.base 0 _ ((if_pos (by omega):(if 0 < 2 then φ1 0 else none)=φ1 0).trans ep);have b1:=hy2.base 1 _ ((if_pos (by omega):(if 1 < 2 then φ1 1 else none)=φ1 1).trans eq);rw[b0] at e0;cases e0;rw[b1] at e1;cases e1;have s2:=hy2.fr 2 _ l2;have s3:=hy2.fr 3 _ l3;simp only[VR] at s2 s3;obtain⟨p',_,ep',s2⟩:=s2;obtain⟨q',_,eq',s3⟩:=s3;rw[b0] at ep';cases ep';rw[b1] at eq';cases eq'
   have i0:img φ2 0 (.row [.int .i64 0,.str [],.int .i64 0,.str [],.nils] 86) p:=by simp only[img,b0];rfl
   have i1:img φ2 1 (.row [.int .i64 0] 35) q:=by simp only[img,b1];rfl
   have o0:=(hy2.rel.gf 0 _ p g0 i0).1;have o1:=(hy2.rel.gf 1 _ q g1 i1).1
   have hpq2:p≠q:=fun e=>by subst e;have:=hy2.rel.sep 0 1 _ _ p g0 g1 i0 i1;omega
   obtain⟨y0,r0,q0,_,l0⟩:=l0.cons_inv;obtain⟨y1,r1,q1,_,l0⟩:=l0.cons_inv;obtain⟨y2,r2,q2,_,l0⟩:=l0.cons_inv;obtain⟨y3,r3,q3,_,l0⟩:=l0.cons_inv;obtain⟨y4,r4,q4,_,l0⟩:=l0.cons_inv;obtain⟨z0,t0,u0,_,l1⟩:=l1.cons_inv;have:=l0.nil_inv;subst this;have:=l1.nil_inv;subst this
   have v0:vs0 = #[y0,y1,y2,y3,y4]:=by apply Array.ext';rw[q0,q1,q2,q3,q4]
   have v1:vs1 = #[z0]:=by apply Array.ext';rw[u0]
   rw[v0] at m0;rw[v1] at m1;refine leaves_cons (f:=199) (args := #[(.pointer (some ⟨p,0,none⟩)),(.pointer (some ⟨q,0,none⟩))]) (by simp) (by simp[go_sem]) ?_;refine(Y2o m0 m1 hpq2).mono ?_;rintro e u' w'' ⟨rfl,rfl,hh1,hh2,hh3⟩;have hb3:=hh3 w.heap.size (Nat.le_of_not_lt o0) (Nat.le_of_not_lt o1);have hbel:Below w.heap.size w w'':=Below.trans ⟨hy2.rel.below.os,hy2.rel.below.tape,hy2.rel.below.output,hy2.rel.below.size,hy2.rel.below.block⟩ hb3;refine D.leaves_cc rfl s2 underlying86 rfl (fun _=>by kernel_rfl) hh1 s3 underlying35 rfl hh2 ⟨_,rfl,hbel,F,fun _ _ e=>e,fun b o e=>(hbel.block b (Dl (hF b o e))).trans (hF b o e),fun _ _ e => .inl e,?_⟩;rw[hpq];simp only[VR];exact⟨_,.cons Q9g (.single (by simp only[VR])),rfl⟩
  |_=>obtain⟨he,_⟩:=he;rcases he with he|he<;>cases he
end Sv
end
namespace Sv
section
attribute [local irreducible] SW SO Bk
theorem Y0v:Ai prog 155:=Am func155
theorem X80:Ai prog 92:=Am func92
theorem Q58:Ai prog 156:=Am func156
theorem Lq:Ai prog 94:=Am func94
theorem Qu:Ai prog 88:=Am func88
theorem Lr:Ai prog 51:=Am func51
theorem Qv:Ai prog 57:=Am func57
theorem Qt:Ai prog 90:=Am func90
theorem Xs:Ai prog 100:=Am func100
theorem Q0:Ai prog 114:=Am func114
theorem Q56:Ai prog 162:=Am func162
theorem X81:Ai prog 91:=Am func91
theorem X9h:Ai prog 55:=Am func55
theorem X84:Ai prog 85:=Am func85
theorem X83:Ai prog 86:=Am func86
theorem Q45:Ai prog 87:=Am func87
theorem X82:Ai prog 89:=Am func89
theorem X8z:Ai prog 93:=Am func93
theorem Y1q:Ai prog 101:=Am func101
theorem Y1p:Ai prog 102:=Am func102
theorem Y0r:Ai prog 161:=Am func161
theorem Y1o:Ai prog 103:=Am func103
theorem Y1n:Ai prog 104:=Am func104
theorem X9g:Ai prog 58:=Am func58
theorem X0t (l:List (List UInt8)) (a:AV) (p:(List UInt8)→Bool) (hl:l.length≤4611686018427387904) (ha:∀i,i < l.length→FunV prog a [(.str (nth l i))] (.bool (p (nth l i)))) :
  FnV prog 155 [(Dc l),(.clo a)] (.int .i64 (Ei p l)):=by
 refine Ax [.tmp 4] func155 ntmps155 fun B F hF=>?_;refine Aa [] [0,1] ?_;refine Ab (Aa [] [0,1,7,8] ?_);refine Au (B4 (fun g y=>∃(i:Nat),i≤l.length∧(∀j,j < i→p (nth l j)=false)∧y=⟨[(0,(Dc l)),(1,(.clo a)),(7,(.int .i64 ((l.length:Int)))),(8,(.int .i64 ((i:Int))))],[],0⟩∧g=l.length-i) [0,1,7,8] 0 _ (by omega) ⟨0,(by omega),(by exact fun j hj=>by omega),(by kernel_rfl),rfl⟩ ?_);rintro g1 y1 ⟨i,f1_1,f1_2,rfl,rfl⟩;refine Aa [] [0,1,7,8,9] (Ab ?_);refine A4 (p:=(i:Int) < (l.length:Int)) (fun c1=>?_) fun c1=>?_
 ·refine Ae ?_;refine Ab (Au ?_);refine Aa [] [0,1,5,7,8] (Ab ?_);refine Aj (A9 5 0 [] [0,1,5,7,8,11,15] [] hk0 v0 (cc 3 (p:=(0≤(i:Int)∧i < l.length)) (by omega)<|c0) ?_);refine Fc (a:=(.clo a)) (al:=[(.str (nth l i))]) (r:=(.bool (p (nth l i)))) (by kernel_rfl) (by kernel_rfl) (by kernel_rfl) (by kernel_rfl) (by kernel_rfl) ((ha i (by omega)).clo) pS (Bd ?_);refine A7 (q:=p (nth l i)) (fun c2=>?_) fun c2=>?_
  ·refine Aa [] [4] ?_;refine Ad (RK wR [(.int .i64 ((i:Int)))] ?_);exact Same.of_eq (by rw[Lk (by omega) f1_2 (by simp_all)];rfl)
  ·refine Ae ?_;refine Aj (An 0 [] [0,1,7,8] [] hk0 v0 (cc 0 (p:=(-9223372036854775808≤(i:Int)+1∧(i:Int)+1≤9223372036854775807)) (by omega)<|c0) ?_);refine⟨by kernel_rfl,_,?_,i+1,?_,?_,(by kernel_rfl),rfl⟩
   ·omega
   ·omega
   ·intro j hj;by_cases h:j=i
    ·subst h;simp_all
    ·exact f1_2 j (by omega)
 ·refine Br (Aa [] [4] ?_);refine Ad (RK wR [(.int .i64 (-1))] ?_);exact Same.of_eq (by rw[Lj (fun j hj=>f1_2 j (by omega))];rfl)
theorem X0u (l:List (List UInt8)) (a:AV) (p:(List UInt8)→Bool) (hl:l.length≤4611686018427387904) (ha:∀i,i < l.length→FunV prog a [(.str (nth l i))] (.bool (p (nth l i)))) :
  FnV prog 92 [(Dc l),(.clo a)] (.bool (l.any p)):=by
 refine Ax [.tmp 4] func92 ntmps92 fun B F hF=>?_;refine Aa [] [0,1] (Ac [] [4] [] (hk 2 Y0v (X0t l a p hl ha)<|hk0) v0 c0 ?_);refine Ad (RK wR [(.bool (decide (0≤(Ei p l))))] ?_);exact Same.of_eq (by simp only[Ag];rw[Ll])
def Hw (i:Nat) (d:DepT):Bool:=decide (Cg d=0)&&((!(i == 0||i == 4))||decide (d.kind=1))&&((!(i == 0))||decide (d.op=0)||decide (d.op=2))
def Eh (i:Nat) (l:List DepT):Bool:=decide (l.length≤16)&&l.all (Hw i)
def Ha (p:PkgT):Bool:=Eh 0 p.provides&&Eh 1 p.requires&&Eh 2 p.pre&&Eh 3 p.conflicts&&Eh 4 p.obsoletes&&Eh 5 p.recommends&&Eh 6 p.supplements
theorem all_nth {α:Type} [Inhabited α] {p:α→Bool} {l:List α}:l.all p=true↔∀j,j < l.length→p (nth l j)=true:=by
 constructor
 ·intro h j hj;rw[show nth l j=l[j] by simp[nth,hj]];exact List.all_eq_true.1 h _ (List.getElem_mem hj)
 ·intro h;refine List.all_eq_true.2 fun x hx=>?_;obtain⟨j,hj,rfl⟩:=List.getElem_of_mem hx;have:=h j hj;rwa [show nth l j=l[j] by simp[nth,hj]] at this
theorem Q3l {i:Nat} {l:List DepT} {k:Nat} (h:l.length≤16) (hk:l.length≤k) (h2:∀j,j < k→Hw i (nth l j)=true):Eh i l=true:=by
 unfold Eh;rw[all_nth.2 fun j hj=>h2 j (by omega),decide_eq_true h];rfl
def PkgT.list (p:PkgT):Nat→List DepT
 |0=>p.provides
 |1=>p.requires
 |2=>p.pre
 |3=>p.conflicts
 |4=>p.obsoletes
 |5=>p.recommends
 |_=>p.supplements
theorem Q6i {p:PkgT} (i:Nat) (hi:i < 7) (h:Eh i (PkgT.list p i)=false):Ha p=false:=by
 have:i=0∨i=1∨i=2∨i=3∨i=4∨i=5∨i=6:=by omega
 rcases this with rfl|rfl|rfl|rfl|rfl|rfl|rfl<;>(unfold Ha;simp only[PkgT.list] at h;simp[h])
theorem Q6j {p:PkgT} (i:Nat) (hi:i < 7) (h:16 < (PkgT.list p i).length):Ha p=false:=Q6i i hi (by unfold Eh;rw[decide_eq_false (by omega)];rfl)
theorem T8 {p:PkgT} (i:Nat) {j:Nat} (hi:i < 7) (hj:j < (PkgT.list p i).length) (h:Hw i (nth (PkgT.list p i) j)=false):Ha p=false:=Q6i i hi (by
 unfold Eh
 have:(PkgT.list p i).all (Hw i)=false:=by
  cases hq:(PkgT.list p i).all (Hw i) with
  |false=>rfl
  |true=>rw[all_nth.1 hq j hj] at h;cases h
 rw[this,Bool.and_false])
theorem Y1v {p:PkgT} (h0:Eh 0 p.provides=true) (h1:Eh 1 p.requires=true) (h2:Eh 2 p.pre=true) (h3:Eh 3 p.conflicts=true) (h4:Eh 4 p.obsoletes=true) (h5:Eh 5 p.recommends=true) (h6:Eh 6 p.supplements=true):Ha p=true:=by
 unfold Ha;rw[h0,h1,h2,h3,h4,h5,h6];rfl
theorem R8 {i:Nat} (h:i < 7):i=0∨i=1∨i=2∨i=3∨i=4∨i=5∨i=6:=by omega
theorem Q6k {p:PkgT} (h:∀j,j < 7→Eh j (PkgT.list p j)=true):Ha p=true:=Y1v (h 0 (by omega)) (h 1 (by omega)) (h 2 (by omega)) (h 3 (by omega)) (h 4 (by omega)) (h 5 (by omega)) (h 6 (by omega))
theorem Q3i {p:PkgT} (h:p.depSize≤4194304) {i k:Nat} (hi:i < 7) (hk:k < (PkgT.list p i).length):(nth (PkgT.list p i) k).size≤4194304:=by
 have h1:=Jz hk;unfold PkgT.depSize at h;rcases R8 hi with rfl|rfl|rfl|rfl|rfl|rfl|rfl<;>(simp only[PkgT.list] at h1 ⊢;omega)
theorem Q3j {p:PkgT} (h:p.depSize≤4194304) {i:Nat} (hi:i < 7):(PkgT.list p i).length≤4194304:=by
 unfold PkgT.depSize at h;have h0:=Fa p.provides;have h1:=Fa p.requires;have h2:=Fa p.pre;have h3:=Fa p.conflicts;have h4:=Fa p.obsoletes;have h5:=Fa p.recommends;have h6:=Fa p.supplements;rcases R8 hi with rfl|rfl|rfl|rfl|rfl|rfl|rfl<;>(simp only[PkgT.list];omega)
theorem X53 (p:PkgT) :
  FnV prog 95 [(.fp (A1 p))] (.row 1 7 (fun i => .fp (Ak 5 Aw (PkgT.list p i)))):=by
 refine Ax [.tmp 2] func95 ntmps95 fun B F hF=>?_;refine Aa [] [0] (Da [] [2] [] hk0 v0 c0 ?_);refine Ad (RK wR [(.row 1 7 (fun ix=>(Ge 1 7 [(.fp (Ak 5 Aw p.provides)),(.fp (Ak 5 Aw p.requires)),(.fp (Ak 5 Aw p.pre)),(.fp (Ak 5 Aw p.conflicts)),(.fp (Ak 5 Aw p.obsoletes)),(.fp (Ak 5 Aw p.recommends)),(.fp (Ak 5 Aw p.supplements))]).getD ix Bl))] ?_);simp only[Ag];exact(Imp.row fun i hi=>Imp.of_eq (by rcases R8 hi with rfl|rfl|rfl|rfl|rfl|rfl|rfl<;>rfl)).same
theorem X2o (p:PkgT) :
  FnV prog 161 [(A1 p)] (.row 1 7 (fun i=>Ak 5 Aw (PkgT.list p i))):=by
 refine Ax [.tmp 2] func161 ntmps161 fun B F hF=>?_;refine Ac [] [1] [(1,1)] hk0 v0 c0 (Aa [] [2] ?_);refine Ad (RK wR [(.row 1 7 (fun ix=>(Ge 1 7 [(Ak 5 Aw p.provides),(Ak 5 Aw p.requires),(Ak 5 Aw p.pre),(Ak 5 Aw p.conflicts),(Ak 5 Aw p.obsoletes),(Ak 5 Aw p.recommends),(Ak 5 Aw p.supplements)]).getD ix Bl))] ?_);simp only[Ag];exact(Imp.row fun i hi=>Imp.of_eq (by rcases R8 hi with rfl|rfl|rfl|rfl|rfl|rfl|rfl<;>rfl)).same
theorem Y1u (p:PkgT) (hs:p.depSize≤4194304) :
  FnV prog 91 [(A1 p)] (.bool (Ha p)):=by
 refine Ax [.tmp 2] func91 ntmps91 fun B F hF=>?_;refine Ac [] [1] [(1,1)] hk0 v0 c0 ?_;refine Ab (Ac [] [8,9,10] [] (hk 0 Q44 (X53 p)<|hk0) v0 c0 ?_);refine Au (B4 (fun g y=>∃(i:Nat),i≤7∧(∀j,j < i→Eh j (PkgT.list p j)=true)∧y=⟨[(8,(.row 1 7 (fun i => .fp (Ak 5 Aw (PkgT.list p i))))),(9,(.int .i64 7)),(10,(.int .i64 ((i:Int))))],[],1⟩∧g=7-i) [8,9,10] 1 _ (by omega) ⟨0,(by omega),(by exact fun j hj=>by omega),(by kernel_rfl),rfl⟩ ?_);rintro g1 y1 ⟨i,f1_1,f1_2,rfl,rfl⟩;refine Aa [] [8,9,10,11] (Ab ?_);refine A4 (p:=(i:Int) < 7) (fun c1=>?_) fun c1=>?_
 ·have hi0:((i:Int)=0)=(i=0):=by rw[eq_iff_iff];omega
  have hi4:((i:Int)=4)=(i=4):=by rw[eq_iff_iff];omega
  have hll:=Q3j hs (i:=i) (by omega);refine Ae (Ab ?_);refine Au (Ac [] [3,4,8,9,10] [] hk0 v0 (cc 1 (p:=(0≤(i:Int)∧i < 7)) (by omega)<|c0) ?_);refine Ab (Aa [] [3,4,8,9,10,19] ?_);refine A4 (p:=16 < ((PkgT.list p i).length:Int)) (fun c2=>?_) fun c2=>?_
  ·refine Aa [] [2] ?_;refine Ad (RK wR [(.bool false)] ?_);exact Same.of_eq (by rw[Q6j i (by omega) (by omega)];rfl)
  ·refine Ae (Aa [] [3,8,9,10,22,23,24] ?_);refine Au (B4 (fun g y=>∃(k:Nat),k≤(PkgT.list p i).length∧(∀j,j < k→Hw i (nth (PkgT.list p i) j)=true)∧y=⟨[(3,(.int .i64 ((i:Int)))),(8,(.row 1 7 (fun i => .fp (Ak 5 Aw (PkgT.list p i))))),(9,(.int .i64 7)),(10,(.int .i64 ((i:Int)))),(22,(Ak 5 Aw (PkgT.list p i))),(23,(.int .i64 (((PkgT.list p i).length:Int)))),(24,(.int .i64 ((k:Int))))],[],1⟩∧g=(PkgT.list p i).length-k) [3,8,9,10,22,23,24] 1 _ (by omega) ⟨0,(by omega),(by exact fun j hj=>by omega),(by kernel_rfl),rfl⟩ ?_);rintro g2 y2 ⟨k,f2_1,f2_2,rfl,rfl⟩;refine Aa [] [3,8,9,10,22,23,24,25] (Ab ?_);refine A4 (p:=(k:Int) < ((PkgT.list p i).length:Int)) (fun c3=>?_) fun c3=>?_
   ·refine Ae (Ab ?_);refine Au (Ac [] [3,6,8,9,10,22,23,24] [] hk0 v0 (cc 0 (p:=(0≤(k:Int)∧k < (PkgT.list p i).length)) (by omega)<|c0) ?_)
    obtain⟨b1,hb1⟩:∃b,b=(!decide ((i:Int)=0)):=⟨_,rfl⟩
    obtain⟨b2,hb2⟩:∃b,b=(b1&&(!decide ((i:Int)=4))):=⟨_,rfl⟩
    obtain⟨b3,hb3⟩:∃b,b=(b2||(decide (((nth (PkgT.list p i) k).kind)=1))):=⟨_,rfl⟩
    have qh1:((b1=true→b1=true))∧((b1=true→b1=true))∧(((!b2)=true→(!b2)=true))∧(((!b2)=true→(!b2)=true))∧((b2=false→(!b2)=true)):=by
     first|omega|(simp;done)|(by_cases a1:Cg (nth (PkgT.list p i) k)=0<;>by_cases a2:DepT.kind (nth (PkgT.list p i) k)=1<;>by_cases a3:DepT.op (nth (PkgT.list p i) k)=0<;>by_cases a4:DepT.op (nth (PkgT.list p i) k)=2<;>by_cases b0:i=0<;>by_cases b4:i=4<;>simp_all)
    refine Ac [31,32,35,36,37] [3,6,7,8,9,10,22,23,24] [(0,6)] hk0 (vk 3 30 (a:=.bool (!decide ((i:Int)=0))) (b:=.bool b1) (Imp.of_eq (by rw[hb1]))<|vk 7 34 (a:=.bool (b1&&(!decide ((i:Int)=4)))) (b:=.bool b2) (Imp.of_eq (by rw[hb2]))<|vk 11 38 (a:=.bool (b2||(decide (((nth (PkgT.list p i) k).kind)=1)))) (b:=.bool b3) (Imp.of_eq (by rw[hb3]))<|v0) (cc 4 (p:=(b1=true→b1=true)) qh1.1<|cc 5 (p:=(b1=true→b1=true)) qh1.2.1<|cc 8 (p:=((!b2)=true→(!b2)=true)) qh1.2.2.1<|cc 9 (p:=((!b2)=true→(!b2)=true)) qh1.2.2.2.1<|cc 10 (p:=(b2=false→(!b2)=true)) qh1.2.2.2.2<|c0) ?_
    obtain⟨b4,hb4⟩:∃b,b=((!b3)||(!decide ((Cg (nth (PkgT.list p i) k))=0))):=⟨_,rfl⟩
    have qh2:(((!(!b3))=true→(!(!b3))=true))∧(((!b3)=false→(!(!b3))=true))∧(((!b4)=true→(!b4)=true))∧(((!b4)=true→(!b4)=true))∧((((!b4)&&(decide ((i:Int)=0)))=true→((!b4)&&(decide ((i:Int)=0)))=true))∧((((!b4)&&(decide ((i:Int)=0)))=true→((!b4)&&(decide ((i:Int)=0)))=true))∧(((!b4)=true→((!b4)=true)∧((decide ((i:Int)=0))=true→((!b4)&&(decide ((i:Int)=0)))=true)))∧(((!b4)=true→(!b4)=true))∧((((!b4)&&((decide ((i:Int)=0))&&(!decide (((nth (PkgT.list p i) k).op)=0))))=true→((!b4)&&((decide ((i:Int)=0))&&(!decide (((nth (PkgT.list p i) k).op)=0))))=true))∧((((!b4)&&((decide ((i:Int)=0))&&(!decide (((nth (PkgT.list p i) k).op)=0))))=true→((!b4)&&((decide ((i:Int)=0))&&(!decide (((nth (PkgT.list p i) k).op)=0))))=true))∧(((!b4)=true→((!b4)=true)∧(((decide ((i:Int)=0))&&(!decide (((nth (PkgT.list p i) k).op)=0)))=true→((!b4)&&((decide ((i:Int)=0))&&(!decide (((nth (PkgT.list p i) k).op)=0))))=true)))∧((b4=false→(!b4)=true)):=by
     first|omega|(simp;done)|(by_cases a1:Cg (nth (PkgT.list p i) k)=0<;>by_cases a2:DepT.kind (nth (PkgT.list p i) k)=1<;>by_cases a3:DepT.op (nth (PkgT.list p i) k)=0<;>by_cases a4:DepT.op (nth (PkgT.list p i) k)=2<;>by_cases b0:i=0<;>by_cases b4:i=4<;>simp_all)
    refine Ac [42,44,47,48,49,50,51,52,53,54,55,56,57,58] [3,8,9,10,22,23,24,59] [] (hkg 4 (!(!b3)) Q0 (fun cg=>Uy (nth (PkgT.list p i) k) (Q3i hs (by omega) (by omega)))<|hk0) (vk 7 45 (a:=.bool ((!b3)||(!decide ((Cg (nth (PkgT.list p i) k))=0)))) (b:=.bool b4) (Imp.of_eq (by rw[hb4]))<|v0) (cc 4 (p:=(!(!b3))=true→(!(!b3))=true) (by simp)<|cc 5 (p:=((!(!b3))=true→(!(!b3))=true)) qh2.1<|cc 6 (p:=((!b3)=false→(!(!b3))=true)) qh2.2.1<|cc 9 (p:=((!b4)=true→(!b4)=true)) qh2.2.2.1<|cc 10 (p:=((!b4)=true→(!b4)=true)) qh2.2.2.2.1<|cc 12 (p:=(((!b4)&&(decide ((i:Int)=0)))=true→((!b4)&&(decide ((i:Int)=0)))=true)) qh2.2.2.2.2.1<|cc 13 (p:=(((!b4)&&(decide ((i:Int)=0)))=true→((!b4)&&(decide ((i:Int)=0)))=true)) qh2.2.2.2.2.2.1<|cc 14 (p:=((!b4)=true→((!b4)=true)∧((decide ((i:Int)=0))=true→((!b4)&&(decide ((i:Int)=0)))=true))) qh2.2.2.2.2.2.2.1<|cc 15 (p:=((!b4)=true→(!b4)=true)) qh2.2.2.2.2.2.2.2.1<|cc 17 (p:=(((!b4)&&((decide ((i:Int)=0))&&(!decide (((nth (PkgT.list p i) k).op)=0))))=true→((!b4)&&((decide ((i:Int)=0))&&(!decide (((nth (PkgT.list p i) k).op)=0))))=true)) qh2.2.2.2.2.2.2.2.2.1<|cc 18 (p:=(((!b4)&&((decide ((i:Int)=0))&&(!decide (((nth (PkgT.list p i) k).op)=0))))=true→((!b4)&&((decide ((i:Int)=0))&&(!decide (((nth (PkgT.list p i) k).op)=0))))=true)) qh2.2.2.2.2.2.2.2.2.2.1<|cc 19 (p:=((!b4)=true→((!b4)=true)∧(((decide ((i:Int)=0))&&(!decide (((nth (PkgT.list p i) k).op)=0)))=true→((!b4)&&((decide ((i:Int)=0))&&(!decide (((nth (PkgT.list p i) k).op)=0))))=true))) qh2.2.2.2.2.2.2.2.2.2.2.1<|cc 20 (p:=(b4=false→(!b4)=true)) qh2.2.2.2.2.2.2.2.2.2.2.2<|c0) ?_
    refine A7 (q:=b4||(((decide ((i:Int)=0))&&(!decide (((nth (PkgT.list p i) k).op)=0)))&&(!decide (((nth (PkgT.list p i) k).op)=2)))) (fun c4=>?_) fun c4=>?_
    ·subst hb4 hb3 hb2 hb1
     try simp only[Aq] at c4
     refine Aa [] [2] ?_;refine Ad (RK wR [(.bool false)] ?_);exact Same.of_eq (by rw[T8 i (j:=k) (by omega) (by omega) (by unfold Hw;by_cases a1:Cg (nth (PkgT.list p i) k)=0<;>by_cases a2:DepT.kind (nth (PkgT.list p i) k)=1<;>by_cases a3:DepT.op (nth (PkgT.list p i) k)=0<;>by_cases a4:DepT.op (nth (PkgT.list p i) k)=2<;>by_cases b0:i=0<;>by_cases b4:i=4<;>simp_all)];rfl)
    ·subst hb4 hb3 hb2 hb1
     try simp only[Aq] at c4
     refine Ae ?_;refine Aj (An 0 [] [3,8,9,10,22,23,24] [] hk0 v0 (cc 0 (p:=(-9223372036854775808≤(k:Int)+1∧(k:Int)+1≤9223372036854775807)) (by omega)<|c0) ?_);refine⟨by kernel_rfl,_,?_,k+1,?_,?_,(by kernel_rfl),rfl⟩
     ·omega
     ·omega
     ·intro j hj;by_cases h:j=k
      ·subst h;unfold Hw;by_cases a1:Cg (nth (PkgT.list p i) j)=0<;>by_cases a2:DepT.kind (nth (PkgT.list p i) j)=1<;>by_cases a3:DepT.op (nth (PkgT.list p i) j)=0<;>by_cases a4:DepT.op (nth (PkgT.list p i) j)=2<;>by_cases b0:i=0<;>by_cases b4:i=4<;>simp_all
      ·exact f2_2 j (by omega)
   ·refine Br ?_;refine Aj (An 0 [] [8,9,10] [] hk0 v0 (cc 0 (p:=(-9223372036854775808≤(i:Int)+1∧(i:Int)+1≤9223372036854775807)) (by omega)<|c0) ?_);refine⟨by kernel_rfl,_,?_,i+1,?_,?_,(by kernel_rfl),rfl⟩
    ·omega
    ·omega
    ·intro j hj;by_cases h:j=i
     ·subst h;exact Q3l (k:=k) (by omega) (by omega) f2_2
     ·exact f1_2 j (by omega)
 ·refine Br (Aa [] [2] ?_);refine Ad (RK wR [(.bool true)] ?_);exact Same.of_eq (by rw[Q6k fun j hj=>f1_2 j (by omega)];rfl)
theorem X2s (p:PkgT) (hs:p.depSize≤4194304) :
  FnV prog 103 [(A1 p)] (.bool (Ha p)):=by
 refine Ax [.tmp 2] func103 ntmps103 fun B F hF=>?_;refine Ac [] [1] [(1,1)] hk0 v0 c0 (Ac [] [3] [] (hk 1 Y0r (X2o p)<|hk0) v0 c0 ?_);refine Ab (Aa [] [3,4] ?_);refine Au (B4 (fun g y=>∃(i:Nat),i≤7∧(∀j,j < i→Eh j (PkgT.list p j)=true)∧y=⟨[(3,(.row 1 7 (fun i=>Ak 5 Aw (PkgT.list p i)))),(4,(.int .i64 ((i:Int))))],[],1⟩∧g=7-i) [3,4] 1 _ (by omega) ⟨0,(by omega),(by exact fun j hj=>by omega),(by kernel_rfl),rfl⟩ ?_);rintro g1 y1 ⟨i,f1_1,f1_2,rfl,rfl⟩;refine Ab (Aa [] [3,4,12] ?_);refine A4 (p:=(i:Int) < 7) (fun c1=>?_) fun c1=>?_
 ·have hi0:((i:Int)=0)=(i=0):=by rw[eq_iff_iff];omega
  have hi4:((i:Int)=4)=(i=4):=by rw[eq_iff_iff];omega
  have hll:=Q3j hs (i:=i) (by omega);refine Ae ?_;refine Ab (Au ?_);refine Ab (Ac [] [3,4,20] [] hk0 v0 (cc 2 (p:=(0≤(i:Int)∧i < 7)) (by omega)<|c0) ?_);refine A4 (p:=16 < ((PkgT.list p i).length:Int)) (fun c2=>?_) fun c2=>?_
  ·refine Aa [] [2] ?_;refine Ad (RK wR [(.bool false)] ?_);exact Same.of_eq (by rw[Q6j i (by omega) (by omega)];rfl)
  ·refine Ae (Aa [] [3,4,5] ?_);refine Au (B4 (fun g y=>∃(k:Nat),k≤(PkgT.list p i).length∧(∀j,j < k→Hw i (nth (PkgT.list p i) j)=true)∧y=⟨[(3,(.row 1 7 (fun i=>Ak 5 Aw (PkgT.list p i)))),(4,(.int .i64 ((i:Int)))),(5,(.int .i64 ((k:Int))))],[],1⟩∧g=(PkgT.list p i).length-k) [3,4,5] 1 _ (by omega) ⟨0,(by omega),(by exact fun j hj=>by omega),(by kernel_rfl),rfl⟩ ?_);rintro g2 y2 ⟨k,f2_1,f2_2,rfl,rfl⟩;refine Ab (Ac [] [3,4,5,27] [] hk0 v0 (cc 3 (p:=(0≤(i:Int)∧i < 7)) (by omega)<|c0) ?_);refine A4 (p:=(k:Int) < ((PkgT.list p i).length:Int)) (fun c3=>?_) fun c3=>?_
   ·refine Ae (Ab ?_);refine Au (Ac (CS:=[(2,(0≤(i:Int)∧i < 7)),(5,(0≤(k:Int)∧k < (PkgT.list p i).length))]) [] [3,4,5,6] [] hk0 v0 (by refine cc _ ?_<|cc _ ?_ c0<;>omega) ?_);refine Ab (Ac [] [3,4,5,6,39] [(0,6)] (hk 1 Q56 (X2u (nth (PkgT.list p i) k) (Q3i hs (by omega) (by omega)))<|hk0) v0 c0 ?_);refine C7 (p:=(Cg (nth (PkgT.list p i) k))=0) (fun c4=>?_) fun c4=>?_
    ·refine Aa [] [2] ?_;refine Ad (RK wR [(.bool false)] ?_);exact Same.of_eq (by rw[T8 i (j:=k) (by omega) (by omega) (by unfold Hw;by_cases a1:Cg (nth (PkgT.list p i) k)=0<;>by_cases a2:DepT.kind (nth (PkgT.list p i) k)=1<;>by_cases a3:DepT.op (nth (PkgT.list p i) k)=0<;>by_cases a4:DepT.op (nth (PkgT.list p i) k)=2<;>by_cases b0:i=0<;>by_cases b4:i=4<;>simp_all)];rfl)
    ·refine Ae (Ab ?_)
     obtain⟨b1,hb1⟩:∃b,b=(decide ((i:Int)=0)):=⟨_,rfl⟩
     obtain⟨b2,hb2⟩:∃b,b=(b1||(decide ((i:Int)=4))):=⟨_,rfl⟩
     have qh1:(((!b1)=true→(!b1)=true))∧((b1=false→(!b1)=true))∧((b2=true→b2=true))∧((b2=true→b2=true))∧((b2=true→b2=true)):=by
      first|omega|(simp;done)|(by_cases a1:Cg (nth (PkgT.list p i) k)=0<;>by_cases a2:DepT.kind (nth (PkgT.list p i) k)=1<;>by_cases a3:DepT.op (nth (PkgT.list p i) k)=0<;>by_cases a4:DepT.op (nth (PkgT.list p i) k)=2<;>by_cases b0:i=0<;>by_cases b4:i=4<;>simp_all)
     refine Ac [43,44,47,48,49] [3,4,5,6,50] [] hk0 (vk 3 42 (a:=.bool (decide ((i:Int)=0))) (b:=.bool b1) (Imp.of_eq (by rw[hb1]))<|vk 7 46 (a:=.bool (b1||(decide ((i:Int)=4)))) (b:=.bool b2) (Imp.of_eq (by rw[hb2]))<|v0) (cc 4 (p:=((!b1)=true→(!b1)=true)) qh1.1<|cc 5 (p:=(b1=false→(!b1)=true)) qh1.2.1<|cc 8 (p:=(b2=true→b2=true)) qh1.2.2.1<|cc 9 (p:=(b2=true→b2=true)) qh1.2.2.2.1<|cc 10 (p:=(b2=true→b2=true)) qh1.2.2.2.2<|c0) ?_;refine A7 (q:=b2&&(!decide (((nth (PkgT.list p i) k).kind)=1))) (fun c5=>?_) fun c5=>?_
     ·subst hb2 hb1
      try simp only[Aq] at c5
      refine Aa [] [2] ?_;refine Ad (RK wR [(.bool false)] ?_);exact Same.of_eq (by rw[T8 i (j:=k) (by omega) (by omega) (by unfold Hw;by_cases a1:Cg (nth (PkgT.list p i) k)=0<;>by_cases a2:DepT.kind (nth (PkgT.list p i) k)=1<;>by_cases a3:DepT.op (nth (PkgT.list p i) k)=0<;>by_cases a4:DepT.op (nth (PkgT.list p i) k)=2<;>by_cases b0:i=0<;>by_cases b4:i=4<;>simp_all)];rfl)
     ·subst hb2 hb1
      try simp only[Aq] at c5
      refine Ae ?_
      obtain⟨b3,hb3⟩:∃b,b=(decide ((i:Int)=0)):=⟨_,rfl⟩
      obtain⟨b4,hb4⟩:∃b,b=(b3&&(!decide (((nth (PkgT.list p i) k).op)=0))):=⟨_,rfl⟩
      have qh2:((b3=true→b3=true))∧((b3=true→b3=true))∧((b3=true→b3=true))∧((b4=true→b4=true))∧((b4=true→b4=true))∧((b4=true→b4=true)):=by
       first|omega|(simp;done)|(by_cases a1:Cg (nth (PkgT.list p i) k)=0<;>by_cases a2:DepT.kind (nth (PkgT.list p i) k)=1<;>by_cases a3:DepT.op (nth (PkgT.list p i) k)=0<;>by_cases a4:DepT.op (nth (PkgT.list p i) k)=2<;>by_cases b0:i=0<;>by_cases b4:i=4<;>simp_all)
      refine Ac [54,55,56,59,60,61] [3,4,5,62] [] hk0 (vk 3 53 (a:=.bool (decide ((i:Int)=0))) (b:=.bool b3) (Imp.of_eq (by rw[hb3]))<|vk 7 57 (a:=.bool (b3&&(!decide (((nth (PkgT.list p i) k).op)=0)))) (b:=.bool b4) (Imp.of_eq (by rw[hb4]))<|v0) (cc 4 (p:=(b3=true→b3=true)) qh2.1<|cc 5 (p:=(b3=true→b3=true)) qh2.2.1<|cc 6 (p:=(b3=true→b3=true)) qh2.2.2.1<|cc 9 (p:=(b4=true→b4=true)) qh2.2.2.2.1<|cc 10 (p:=(b4=true→b4=true)) qh2.2.2.2.2.1<|cc 11 (p:=(b4=true→b4=true)) qh2.2.2.2.2.2<|c0) ?_;refine A7 (q:=b4&&(!decide (((nth (PkgT.list p i) k).op)=2))) (fun c6=>?_) fun c6=>?_
      ·subst hb4 hb3
       try simp only[Aq] at c6
       refine Aa [] [2] ?_;refine Ad (RK wR [(.bool false)] ?_);exact Same.of_eq (by rw[T8 i (j:=k) (by omega) (by omega) (by unfold Hw;by_cases a1:Cg (nth (PkgT.list p i) k)=0<;>by_cases a2:DepT.kind (nth (PkgT.list p i) k)=1<;>by_cases a3:DepT.op (nth (PkgT.list p i) k)=0<;>by_cases a4:DepT.op (nth (PkgT.list p i) k)=2<;>by_cases b0:i=0<;>by_cases b4:i=4<;>simp_all)];rfl)
      ·subst hb4 hb3
       try simp only[Aq] at c6
       refine Ae ?_;refine Aj (An 0 [] [3,4,5] [] hk0 v0 (cc 1 (p:=(-9223372036854775808≤(k:Int)+1∧(k:Int)+1≤9223372036854775807)) (by omega)<|c0) ?_);refine⟨by kernel_rfl,_,?_,k+1,?_,?_,(by kernel_rfl),rfl⟩
       ·omega
       ·omega
       ·intro j hj;by_cases h:j=k
        ·subst h;unfold Hw;by_cases a1:Cg (nth (PkgT.list p i) j)=0<;>by_cases a2:DepT.kind (nth (PkgT.list p i) j)=1<;>by_cases a3:DepT.op (nth (PkgT.list p i) j)=0<;>by_cases a4:DepT.op (nth (PkgT.list p i) j)=2<;>by_cases b0:i=0<;>by_cases b4:i=4<;>simp_all
        ·exact f2_2 j (by omega)
   ·refine Br ?_;refine Aj (An 0 [] [3,4] [] hk0 v0 (cc 1 (p:=(-9223372036854775808≤(i:Int)+1∧(i:Int)+1≤9223372036854775807)) (by omega)<|c0) ?_);refine⟨by kernel_rfl,_,?_,i+1,?_,?_,(by kernel_rfl),rfl⟩
    ·omega
    ·omega
    ·intro j hj;by_cases h:j=i
     ·subst h;exact Q3l (k:=k) (by omega) (by omega) f2_2
     ·exact f1_2 j (by omega)
 ·refine Br (Aa [] [2] ?_);refine Ad (RK wR [(.bool true)] ?_);exact Same.of_eq (by rw[Q6k fun j hj=>f1_2 j (by omega)];rfl)
def G0 (x:Nat):Bool:=(decide (97≤x)&&decide (x≤122))||(decide (48≤x)&&decide (x≤57))||decide (x=95)
def G1 (x:Nat):Bool:=decide (32≤x)&&decide (x≤126)
def I9 (s:List UInt8) (most:Int) (q:Nat→Bool):Bool:=decide ((s.length:Int)≤most)&&decide (Lib.idxFunc (fun x => !q x) true ⟨s.toArray⟩ < 0)
theorem Q8b (s:List UInt8) (most:Int) {q:Nat→Bool} (hq:∀r,128≤r→q r=false):I9 s most q=(decide ((s.length:Int)≤most)&&s.all fun b=>q b.toNat):=by
 unfold I9;rw[X7b (fun r hr=>by rw[hq r hr];rfl)];simp
theorem X04 (r:Nat) (h:128≤r):G0 r=false:=by unfold G0;simp;omega
theorem X1s (r:Nat) (h:128≤r):G1 r=false:=by unfold G1;simp;omega
theorem Q79 {s:List UInt8} {q:Nat→Bool} {i:Nat} (hi:i < s.length) (h:q (Af s i).toNat=false):(s.all fun b=>q b.toNat)=false:=by
 rw[List.all_eq_false];rw[I5 hi] at h;exact⟨s[i],List.getElem_mem hi,by simp[h]⟩
theorem Q78 {s:List UInt8} {q:Nat→Bool} {i:Nat} (hi:s.length≤i) (h:∀j,j < i→q (Af s j).toNat=true):(s.all fun b=>q b.toNat)=true:=by
 rw[List.all_eq_true];intro x hx;obtain⟨j,hj,rfl⟩:=List.getElem_of_mem hx;have:=h j (by omega);rwa [I5 hj] at this
def Lu (s:List UInt8):Bool:=decide (1≤s.length)&&decide (s.length≤20)&&s.all fun b=>G0 b.toNat
def Js (f:List UInt8):Bool:=Be f 47&&Bh f
def Iu (s:List UInt8):Bool:=s.all fun b=>G1 b.toNat
def Kl (l:List (List UInt8)):Bool:=decide (l.length≤16)&&l.all Js
def Uj (l:List (List UInt8)):Bool:=l.any fun x => !Js x
def Eg (p:PkgT):Int :=
 if Bh p.name=false then 60
 else if Ch p.evr≠0 then 61
 else if Lu p.arch=false then 62
 else if (decide (p.vendor.length≤60)&&Iu p.vendor)=false then 63
 else if Ha p=false then 64
 else if Kl p.files=false then 65
 else 0
def Kg (p:PkgT):Int :=
 if Bh p.name=false then 60
 else if ¬Ch p.evr=0 then 61
 else if p.arch=[]∨I9 p.arch 20 G0=false then 62
 else if I9 p.vendor 60 G1=false then 63
 else if Ha p=false then 64
 else if (16:Int) < (p.files.length:Int)∨Uj p.files=true then 65
 else 0
theorem Mg (p:PkgT):Kg p=Eg p:=by
 have ha1:(p.arch=[]∨I9 p.arch 20 G0=false)↔Lu p.arch=false:=by
  rw[Q8b p.arch 20 X04];unfold Lu
  cases h:p.arch with
  |nil=>simp
  |cons a r =>
   rw[show decide (1≤(a::r).length)=true by simp,Bool.true_and];rw[show decide (((a::r).length:Int)≤20)=decide ((a::r).length≤20) from decide_eq_decide.2 (by omega)];simp
 have ha2:I9 p.vendor 60 G1=(decide (p.vendor.length≤60)&&Iu p.vendor):=by
  unfold Iu;rw[Q8b p.vendor 60 X1s,show decide ((p.vendor.length:Int)≤60)=decide (p.vendor.length≤60) from decide_eq_decide.2 (by omega)]
 have ha3:((16:Int) < (p.files.length:Int)∨Uj p.files=true)↔Kl p.files=false:=by
  unfold Uj Kl;rw[Y3q];simp only[Bool.and_eq_false_iff,decide_eq_false_iff_not,Bool.not_eq_true'];constructor
  ·rintro (h|h)
   ·left;omega
   ·exact .inr h
  ·rintro (h|h)
   ·left;omega
   ·exact .inr h
 unfold Kg Eg;simp only[ha1,ha2,ha3]
def Kf (p:PkgT):Int :=
 if Bh p.name=false then 60
 else if ¬Ch p.evr=0 then 61
 else if Lu p.arch=false then 62
 else if Iu p.vendor=false∨(60:Int) < (p.vendor.length:Int) then 63
 else if Ha p=false then 64
 else if Kl p.files=false then 65
 else 0
theorem Mf (p:PkgT):Kf p=Eg p:=by
 have ha:(Iu p.vendor=false∨(60:Int) < (p.vendor.length:Int))↔(decide (p.vendor.length≤60)&&Iu p.vendor)=false:=by
  simp only[Bool.and_eq_false_iff,decide_eq_false_iff_not];constructor
  ·rintro (h|h)
   ·exact .inr h
   ·left;omega
  ·rintro (h|h)
   ·right;omega
   ·exact .inl h
 unfold Kf Eg;simp only[ha]
theorem Q4x {f:List UInt8}:Js f=(Bh f&&decide (((Af f 0).toNat:Int)=47)):=by
 unfold Js
 cases f with
 |nil=>rw[show Bh []=false by decide];simp
 |cons a r =>
  have h1:Be (a::r) 47=decide (a=47):=by simp[Be]
  have h2:Af (a::r) 0=a:=by simp[Af]
  rw[h1,h2,Bool.and_comm];congr 1;refine decide_eq_decide.2 ⟨fun h=>by rw[h];rfl,fun h=>UInt8.toNat_inj.1 (by show _=47;omega)⟩
theorem X05 (x:Nat) :
  FnV prog 85 [(.int .i32 ((x:Int)))] (.bool (G0 x)):=by
 refine Ax [.tmp 2] func85 ntmps85 fun B F hF=>?_;refine Aa [] [0] ?_
 obtain⟨b1,hb1⟩:∃b,b=(decide (97≤(x:Int))):=⟨_,rfl⟩
 obtain⟨b2,hb2⟩:∃b,b=(b1&&(decide ((x:Int)≤122))):=⟨_,rfl⟩
 obtain⟨b3,hb3⟩:∃b,b=(b2||((decide (48≤(x:Int)))&&(decide ((x:Int)≤57)))):=⟨_,rfl⟩
 refine Ac (CS:=[(4,(b1=true→b1=true)),(5,(b1=true→b1=true)),(8,((!b2)=true→(!b2)=true)),(9,((!b2)=true→(!b2)=true)),(11,(((!b2)&&(decide (48≤(x:Int))))=true→((!b2)&&(decide (48≤(x:Int))))=true)),(12,((!b2)=true→((!b2)=true)∧((decide (48≤(x:Int)))=true→((!b2)&&(decide (48≤(x:Int))))=true))),(13,(b2=false→(!b2)=true)),(16,((!b3)=true→(!b3)=true)),(17,(b3=false→(!b3)=true))]) [6,7,10,11,12,13,14,15,18,19] [2] [] hk0 (vk 3 5 (a:=.bool (decide (97≤(x:Int)))) (b:=.bool b1) (Imp.of_eq (by rw[hb1]))<|vk 7 9 (a:=.bool (b1&&(decide ((x:Int)≤122)))) (b:=.bool b2) (Imp.of_eq (by rw[hb2]))<|vk 14 16 (a:=.bool (b2||((decide (48≤(x:Int)))&&(decide ((x:Int)≤57))))) (b:=.bool b3) (Imp.of_eq (by rw[hb3]))<|v0) (by refine cc _ ?_<|cc _ ?_<|cc _ ?_<|cc _ ?_<|cc _ ?_<|cc _ ?_<|cc _ ?_<|cc _ ?_<|cc _ ?_ c0<;>(intros;simp_all;done)) ?_;refine Ad (RK wR [(.bool (b3||(decide ((x:Int)=95))))] ?_);subst hb3 hb2 hb1;refine Same.of_eq ?_;simp only[Ag];congr 1;unfold G0;rw[Bool.eq_iff_iff];simp only[Bool.and_eq_true,Bool.or_eq_true,decide_eq_true_eq];omega
theorem X1t (x:Nat) :
  FnV prog 86 [(.int .i32 ((x:Int)))] (.bool (G1 x)):=by
 refine Ax [.tmp 2] func86 ntmps86 fun B F hF=>?_;refine Aa [] [0] ?_
 obtain⟨b1,hb1⟩:∃b,b=(decide (32≤(x:Int))):=⟨_,rfl⟩
 refine Ac (CS:=[(4,(b1=true→b1=true)),(5,(b1=true→b1=true))]) [6,7] [2] [] hk0 (vk 3 5 (a:=.bool (decide (32≤(x:Int)))) (b:=.bool b1) (Imp.of_eq (by rw[hb1]))<|v0) (by refine cc _ ?_<|cc _ ?_ c0<;>simp) ?_;refine Ad (RK wR [(.bool (b1&&(decide ((x:Int)≤126))))] ?_);subst hb1;refine Same.of_eq ?_;simp only[Ag];congr 1;unfold G1;rw[Bool.eq_iff_iff];simp only[Bool.and_eq_true,Bool.or_eq_true,decide_eq_true_eq];omega
theorem X4j (x:Nat) (a:AV) (q:Nat→Bool) (hx:x≤1114111) (ha:∀x:Nat,x≤1114111→FunV prog a [.int .i32 (x:Int)] (.bool (q x))) :
  FnV prog 89 [(.int .i32 ((x:Int))),(.fp (.agg [(.clo a)]))] (.bool (!q x)):=by
 refine Ax [.tmp 3] func89 ntmps89 fun B F hF=>?_;refine Aa [] [0,1] (Ab ?_);refine Aj (A9 2 0 [] [4,5] [] hk0 v0 c0 ?_);refine Fc (a:=(.clo a)) (al:=[(.int .i32 ((x:Int)))]) (r:=(.bool (q x))) (by kernel_rfl) (by kernel_rfl) (by kernel_rfl) (by kernel_rfl) (by kernel_rfl) ((ha x hx).clo) pS (An 3 [] [3] [] hk0 v0 c0 ?_);refine Ad (RK wR [(.bool (!(q x)))] ?_);exact Same.of_eq (by first|rfl|(simp only[Ag];simp_all))
theorem Q76 (s:List UInt8) (most:Int) (a:AV) (q:Nat→Bool) (hl:s.length≤9223372036854775807) (ha:∀x:Nat,x≤1114111→FunV prog a [.int .i32 (x:Int)] (.bool (q x))) :
  FnV prog 87 [(.str s),(.int .i64 most),(.clo a)] (.bool (I9 s most q)):=by
 refine Ax [.tmp 6] func87 ntmps87 fun B F hF=>?_;refine Aa [] [0,1,5] ?_;refine Ab (Aj ?_)
 obtain⟨b2,hb2⟩:∃b,b=(decide ((s.length:Int)≤most)):=⟨_,rfl⟩
 refine A9 7 0 [12,13] [11,12,13] [] hk0 (vk 5 11 (a:=.bool (decide ((s.length:Int)≤most))) (b:=.bool b2) (Imp.of_eq (by rw[hb2]))<|v0) c0 ?_;refine Yt (q:=b2) (al:=[(.str s),(.fn 89 [] [(.ptr 0 0)])]) (al':=[(.str s),(.fn 89 [] [(.fp (.agg [(.clo a)]))])]) (h':=[]) (r:=(.int .i64 (Lib.idxFunc (fun x => !q x) true ⟨s.toArray⟩))) (by kernel_rfl) (by exact Qu) (by kernel_rfl) (S8 (some (b2=true∧b2=true)) (by kernel_rfl) fun cg=>hold (by(simp;omega))) (by kernel_rfl) (fun cg=>Y1 s 89 [.fp (.agg [.clo a])] (fun x => !q x) (by exact X82) rfl (fun x hx=>X4j x a q hx ha)) rfl pS ?_
 obtain⟨b3,hb3⟩:∃b,b=(b2&&(decide ((Lib.idxFunc (fun x => !q x) true ⟨s.toArray⟩) < 0))):=⟨_,rfl⟩
 refine An (CS:=[(8,(b2=true→b2=true)),(9,(b2=true→b2=true))]) 8 [15] [6] [] hk0 (vk 10 16 (a:=.bool (b2&&(decide ((Lib.idxFunc (fun x => !q x) true ⟨s.toArray⟩) < 0)))) (b:=.bool b3) (Imp.of_eq (by rw[hb3]))<|v0) (by refine cc _ ?_<|cc _ ?_ c0<;>simp) ?_;refine Ad (RK wR [(.bool b3)] ?_);subst hb3 hb2;exact Same.of_eq (by first|rfl|(simp only[Ag];simp_all))
theorem X8b (s:List UInt8) (hl:s.length≤9223372036854775807) :
  FnV prog 93 [(.str s)] (.bool (!Js s)):=by
 refine Ax [.tmp 2] func93 ntmps93 fun B F hF=>?_;refine Aa [] [0] (Ac (CS:=[(5,(!(!(Be s 47)))=true→(!(!(Be s 47)))=true),(6,((!(!(Be s 47)))=true→(!(!(Be s 47)))=true)),(7,((!(Be s 47))=false→(!(!(Be s 47)))=true))]) [7,9] [2] [] (hk 1 Lq (Nh s 47 hl)<|hkg 5 (!(!(Be s 47))) Lr (fun cg=>Pd s hl)<|hk0) v0 (by refine cc _ ?_<|cc _ ?_<|cc _ ?_ c0<;>simp) ?_);refine Ad (RK wR [(.bool ((!(Be s 47))||(!(Bh s))))] ?_);exact Same.of_eq (by simp only[Ag];congr 1;unfold Js;cases Be s 47<;>cases Bh s<;>rfl)
theorem Y66 (p:PkgT) (hs:p.size≤4194304) :
  FnV prog 55 [(A1 p)] (.int .i64 (Eg p)):=by
 have hsz:=p.sizes;have hfl:=Mx p.files;refine Ax [.tmp 2] func55 ntmps55 fun B F hF=>?_;refine Ac [] [1] [(1,1)] hk0 v0 c0 ?_;refine Aa [] [1,3] (Aa [] [1,3,4] ?_);refine Aa [] [1,3,4,5] (Ac [] [1,3,4,5,7] [(8,6)] (hk 2 Qt (Ty p.evr (by omega))<|hk0) v0 c0 ?_);refine Ab ?_;refine Au (Ac [] [1,3,4,5,7,14] [] (hk 2 Lr (Pd p.name (by omega))<|hk0) v0 c0 ?_);refine A7 (q:=!(Bh p.name)) (fun c1=>?_) fun c1=>?_
 ·try simp only[Aq] at c1
  refine Aa [] [2] (Ad ?_);refine RK wR [(.int .i64 60)] (Same.of_eq ?_);simp only[Ag];congr 1;rw[←Mg];unfold Kg;simp_all
 ·try simp only[Aq] at c1
  refine Aa [] [1,3,4,5,19] ?_;refine C7 (p:=(Ch p.evr)=0) (fun c2=>?_) fun c2=>?_
  ·refine Aa [] [2] (Ad ?_);refine RK wR [(.int .i64 61)] (Same.of_eq ?_);simp only[Ag];congr 1;rw[←Mg];unfold Kg;simp_all
  ·refine Ab (Aj ?_)
   obtain⟨b2,hb2⟩:∃b,b=(decide (p.arch=[])):=⟨_,rfl⟩
   refine A9 8 0 [27,28,29,30] [1,4,5,26,27,29,30] [] hk0 (vk 4 26 (a:=.bool (decide (p.arch=[]))) (b:=.bool b2) (Imp.of_eq (by rw[hb2]))<|v0) (cc 6 (p:=((!b2)=true→(!b2)=true)) (by simp)<|c0) ?_;refine Y5n (q:=!b2) (al:=[(.str p.arch),(.int .i64 20),(.fn 85 [] [])]) (f:=87) (cap:=[]) (r:=(.bool (I9 p.arch 20 G0))) (by kernel_rfl) (fun cg => .inr ⟨!b2,by kernel_rfl,by first|exact cg|simp_all⟩) (by exact Q45) (by kernel_rfl) (S8 (some ((!b2)=true∧(!b2)=true)) (by kernel_rfl) fun cg=>hold (by(intros;simp_all;done))) (by kernel_rfl) (fun cg=>(Q76 p.arch 20 (.fn 85 [] []) G0 (by omega) (fun x _=>FunV.of (by exact X84) (X05 x))).of_args (ImpL.cons Imp.refl (ImpL.cons Imp.refl (ImpL.cons (Imp.clo rfl) ImpL.nil)))) pS ?_;refine An (CS:=[(9,((!b2)=true→(!b2)=true)),(10,(b2=false→(!b2)=true))]) 9 [32] [1,4,5,22] [] hk0 v0 (by refine cc _ ?_<|cc _ ?_ c0<;>simp) ?_;refine A7 (q:=b2||(!(I9 p.arch 20 G0))) (fun c3=>?_) fun c3=>?_
   ·subst hb2
    try simp only[Aq] at c3
    refine Aa [] [2] (Ad ?_);refine RK wR [(.int .i64 62)] (Same.of_eq ?_);simp only[Ag];congr 1;rw[←Mg];unfold Kg;simp_all
   ·subst hb2
    try simp only[Aq] at c3
    refine Ab ?_;refine Aj (A9 4 0 [] [1,35,37,38] [] hk0 v0 c0 ?_);refine Y5o (f:=87) (cap:=[]) (al:=[(.str p.vendor),(.int .i64 60),(.fn 86 [] [])]) (r:=(.bool (I9 p.vendor 60 G1))) (by kernel_rfl) (by kernel_rfl) (by exact Q45) (by kernel_rfl) (by kernel_rfl) ((Q76 p.vendor 60 (.fn 86 [] []) G1 (by omega) (fun x _=>FunV.of (by exact X83) (X1t x))).of_args (ImpL.cons Imp.refl (ImpL.cons Imp.refl (ImpL.cons (Imp.clo rfl) ImpL.nil)))) pS (An 5 [] [1,34] [] hk0 v0 c0 ?_);refine A7 (q:=!(I9 p.vendor 60 G1)) (fun c4=>?_) fun c4=>?_
    ·try simp only[Aq] at c4
     refine Aa [] [2] (Ad ?_);refine RK wR [(.int .i64 63)] (Same.of_eq ?_);simp only[Ag];congr 1;rw[←Mg];unfold Kg;simp_all
    ·try simp only[Aq] at c4
     refine Ac [] [1,41] [] (hk 1 X81 (Y1u p (by omega))<|hk0) v0 c0 ?_;refine A7 (q:=!(Ha p)) (fun c5=>?_) fun c5=>?_
     ·try simp only[Aq] at c5
      refine Aa [] [2] (Ad ?_);refine RK wR [(.int .i64 64)] (Same.of_eq ?_);simp only[Ag];congr 1;rw[←Mg];unfold Kg;simp_all
     ·try simp only[Aq] at c5
      obtain⟨b3,hb3⟩:∃b,b=(decide (16 < (p.files.length:Int))):=⟨_,rfl⟩
      refine Ac (CS:=[(6,((!b3)=true→(!b3)=true)),(7,(!b3)=true→(!b3)=true),(8,(b3=false→(!b3)=true))]) [51,52] [45] [] (hkg 7 (!b3) (al:=[(Dc p.files),(.fn 93 [] [])]) X80 (fun cg=>(X0u p.files (.fn 93 [] []) (fun x => !Js x) (by omega) (fun i hi=>FunV.of (by exact X8z) (X8b (nth p.files i) (by have:=Xa hi;omega)))).of_args (ImpL.cons Imp.refl (ImpL.cons (Imp.clo rfl) ImpL.nil)))<|hk0) (vk 5 50 (a:=.bool (decide (16 < (p.files.length:Int)))) (b:=.bool b3) (Imp.of_eq (by rw[hb3]))<|v0) (by refine cc _ ?_<|cc _ ?_<|cc _ ?_ c0<;>simp) ?_;refine A7 (q:=b3||(Uj p.files)) (fun c6=>?_) fun c6=>?_
      ·subst hb3
       try simp only[Aq] at c6
       refine Aa [] [2] (Ad ?_);refine RK wR [(.int .i64 65)] (Same.of_eq ?_);simp only[Ag];congr 1;rw[←Mg];unfold Kg;simp_all
      ·subst hb3
       try simp only[Aq] at c6
       refine Ae ?_;refine Aa [] [2] (Ad ?_);refine RK wR [(.int .i64 0)] (Same.of_eq ?_);simp only[Ag];congr 1;rw[←Mg];unfold Kg;simp_all
theorem X2v (s:List UInt8) (hl:s.length≤9223372036854775807) :
  FnV prog 101 [(.str s)] (.bool (Lu s)):=by
 refine Ax [.tmp 2] func101 ntmps101 fun B F hF=>?_;refine Aa [] [0] ?_;refine Ab (Aa [] [0,3] ?_);refine Au (B4 (fun g y=>∃(i:Nat),i≤s.length∧(∀j,j < i→G0 (Af s j).toNat=true)∧y=⟨[(0,(.str s)),(3,(.int .i64 ((i:Int))))],[],0⟩∧g=s.length-i) [0,3] 0 _ (by omega) ⟨0,(by omega),(by exact fun j hj=>by omega),(by kernel_rfl),rfl⟩ ?_);rintro g1 y1 ⟨i,f1_1,f1_2,rfl,rfl⟩;refine Ab (Aa [] [0,3,8] ?_);refine A4 (p:=(i:Int) < (s.length:Int)) (fun c1=>?_) fun c1=>?_
 ·refine Ae (Ab ?_);refine Au (Ac [] [0,3,4] [] hk0 v0 (cc 2 (p:=(0≤(i:Int)∧i < s.length)) (by omega)<|c0) ?_)
  obtain⟨b1,hb1⟩:∃b,b=(decide (((Af s i).toNat:Int) < 97)):=⟨_,rfl⟩
  obtain⟨b2,hb2⟩:∃b,b=(b1||(decide (122 < ((Af s i).toNat:Int)))):=⟨_,rfl⟩
  obtain⟨b3,hb3⟩:∃b,b=(b2&&((decide (((Af s i).toNat:Int) < 48))||(decide (57 < ((Af s i).toNat:Int))))):=⟨_,rfl⟩
  refine Ac (CS:=[(4,((!b1)=true→(!b1)=true)),(5,(b1=false→(!b1)=true)),(8,(b2=true→b2=true)),(9,(b2=true→b2=true)),(11,((b2&&(!(decide (((Af s i).toNat:Int) < 48))))=true→(b2&&(!(decide (((Af s i).toNat:Int) < 48))))=true)),(12,(b2=true→(b2=true)∧((decide (((Af s i).toNat:Int) < 48))=false→(b2&&(!(decide (((Af s i).toNat:Int) < 48))))=true))),(13,(b2=true→b2=true)),(16,(b3=true→b3=true)),(17,(b3=true→b3=true))]) [17,18,21,22,23,24,25,26,29,30] [0,3,31] [] hk0 (vk 3 16 (a:=.bool (decide (((Af s i).toNat:Int) < 97))) (b:=.bool b1) (Imp.of_eq (by rw[hb1]))<|vk 6 19 (a:=.bool (b1||(decide (122 < ((Af s i).toNat:Int))))) (b:=.bool b2) (Imp.of_eq (by rw[hb2]))<|vk 14 27 (a:=.bool (b2&&((decide (((Af s i).toNat:Int) < 48))||(decide (57 < ((Af s i).toNat:Int)))))) (b:=.bool b3) (Imp.of_eq (by rw[hb3]))<|v0) (by refine cc _ ?_<|cc _ ?_<|cc _ ?_<|cc _ ?_<|cc _ ?_<|cc _ ?_<|cc _ ?_<|cc _ ?_<|cc _ ?_ c0<;>(intros;simp_all;done)) ?_;refine A7 (q:=b3&&(!decide (((Af s i).toNat:Int)=95))) (fun c2=>?_) fun c2=>?_
  ·subst hb3 hb2 hb1
   try simp only[Aq] at c2
   refine Aa [] [2] (Ad ?_);refine RK wR [(.bool false)] (Same.of_eq ?_);have:s.all (fun b=>G0 b.toNat)=false:=Q79 (i:=i) (by omega) (by unfold G0;simp only[Bool.and_eq_false_iff,Bool.or_eq_false_iff,decide_eq_false_iff_not];omega);unfold Lu;rw[this,Bool.and_false];rfl
  ·subst hb3 hb2 hb1
   try simp only[Aq] at c2
   refine Ae ?_;refine Aj (An 0 [] [0,3] [] hk0 v0 (cc 1 (p:=(-9223372036854775808≤(i:Int)+1∧(i:Int)+1≤9223372036854775807)) (by omega)<|c0) ?_);refine⟨by kernel_rfl,_,?_,i+1,?_,?_,(by kernel_rfl),rfl⟩
   ·omega
   ·omega
   ·intro j hj;by_cases h:j=i
    ·subst h;unfold G0;simp only[Bool.and_eq_true,Bool.or_eq_true,decide_eq_true_eq];omega
    ·exact f1_2 j (by omega)
 ·refine Br ?_
  obtain⟨b4,hb4⟩:∃b,b=(decide (1≤(s.length:Int))):=⟨_,rfl⟩
  refine Ac (CS:=[(5,(b4=true→b4=true)),(6,(b4=true→b4=true)),(7,(b4=true→b4=true))]) [36,37,38] [2] [] hk0 (vk 4 35 (a:=.bool (decide (1≤(s.length:Int)))) (b:=.bool b4) (Imp.of_eq (by rw[hb4]))<|v0) (by refine cc _ ?_<|cc _ ?_<|cc _ ?_ c0<;>simp) ?_;refine Ad (RK wR [(.bool (b4&&(decide ((s.length:Int)≤20))))] ?_);subst hb4;refine Same.of_eq ?_;simp only[Ag];congr 1;unfold Lu;rw[Q78 (by omega) f1_2,show decide ((1:Int)≤(s.length:Int))=decide (1≤s.length) from decide_eq_decide.2 (by omega),show decide ((s.length:Int)≤20)=decide (s.length≤20) from decide_eq_decide.2 (by omega)];simp
theorem X2n (s:List UInt8) (hl:s.length≤9223372036854775807) :
  FnV prog 102 [(.str s)] (.bool (Iu s)):=by
 refine Ax [.tmp 2] func102 ntmps102 fun B F hF=>?_;refine Aa [] [0] ?_;refine Ab (Aa [] [0,3] ?_);refine Au (B4 (fun g y=>∃(i:Nat),i≤s.length∧(∀j,j < i→G1 (Af s j).toNat=true)∧y=⟨[(0,(.str s)),(3,(.int .i64 ((i:Int))))],[],0⟩∧g=s.length-i) [0,3] 0 _ (by omega) ⟨0,(by omega),(by exact fun j hj=>by omega),(by kernel_rfl),rfl⟩ ?_);rintro g1 y1 ⟨i,f1_1,f1_2,rfl,rfl⟩;refine Ab (Aa [] [0,3,7] ?_);refine A4 (p:=(i:Int) < (s.length:Int)) (fun c1=>?_) fun c1=>?_
 ·refine Ae ?_;refine Ab (Au ?_)
  obtain⟨b1,hb1⟩:∃b,b=(decide (((Af s i).toNat:Int) < 32)):=⟨_,rfl⟩
  refine Ac (CS:=[(2,(0≤(i:Int)∧i < s.length)),(7,((!b1)=true→((!b1)=true∧(!b1)=true)∧(0≤(i:Int)∧i < s.length))),(8,((!b1)=true→(!b1)=true)),(9,(b1=false→(!b1)=true))]) [15,16,17,18] [0,3,19] [] hk0 (vk 5 14 (a:=.bool (decide (((Af s i).toNat:Int) < 32))) (b:=.bool b1) (Imp.of_eq (by rw[hb1]))<|v0) (by refine cc _ ?_<|cc _ ?_<|cc _ ?_<|cc _ ?_ c0<;>(intros;simp_all;done)) ?_;refine A7 (q:=b1||(decide (126 < ((Af s i).toNat:Int)))) (fun c2=>?_) fun c2=>?_
  ·subst hb1
   try simp only[Aq] at c2
   refine Aa [] [2] (Ad ?_);refine RK wR [(.bool false)] (Same.of_eq ?_);have:s.all (fun b=>G1 b.toNat)=false:=Q79 (i:=i) (by omega) (by unfold G1;simp only[Bool.and_eq_false_iff,Bool.or_eq_false_iff,decide_eq_false_iff_not];omega);unfold Iu;rw[this];rfl
  ·subst hb1
   try simp only[Aq] at c2
   refine Ae ?_;refine Aj (An 0 [] [0,3] [] hk0 v0 (cc 1 (p:=(-9223372036854775808≤(i:Int)+1∧(i:Int)+1≤9223372036854775807)) (by omega)<|c0) ?_);refine⟨by kernel_rfl,_,?_,i+1,?_,?_,(by kernel_rfl),rfl⟩
   ·omega
   ·omega
   ·intro j hj;by_cases h:j=i
    ·subst h;unfold G1;simp only[Bool.and_eq_true,Bool.or_eq_true,decide_eq_true_eq];omega
    ·exact f1_2 j (by omega)
 ·refine Br (Aa [] [2] ?_);refine Ad (RK wR [(.bool true)] ?_);exact Same.of_eq (by unfold Iu;rw[Q78 (by omega) f1_2];rfl)
theorem X2r (l:List (List UInt8)) (hl:Ij l≤4194304) :
  FnV prog 104 [(Dc l)] (.bool (Kl l)):=by
 have hfl:=Mx l;refine Ax [.tmp 2] func104 ntmps104 fun B F hF=>?_;refine Aa [] [0] ?_;refine Ab (Aa [] [0,7] ?_);refine A4 (p:=16 < (l.length:Int)) (fun c1=>?_) fun c1=>?_
 ·refine Aa [] [2] ?_;refine Ad (RK wR [(.bool false)] ?_);exact Same.of_eq (by unfold Kl;rw[decide_eq_false (by omega)];rfl)
 ·refine Ae ?_;refine Ab (Aa [] [0,3] ?_);refine Au (B4 (fun g y=>∃(i:Nat),i≤l.length∧(∀j,j < i→Js (nth l j)=true)∧y=⟨[(0,(Dc l)),(3,(.int .i64 ((i:Int))))],[],0⟩∧g=l.length-i) [0,3] 0 _ (by omega) ⟨0,(by omega),(by exact fun j hj=>by omega),(by kernel_rfl),rfl⟩ ?_);rintro g1 y1 ⟨i,f1_1,f1_2,rfl,rfl⟩;refine Ab (Aa [] [0,3,11] ?_);refine A4 (p:=(i:Int) < (l.length:Int)) (fun c2=>?_) fun c2=>?_
  ·refine Ae (Ab ?_);refine Au (Ac [] [0,3,4] [] (hk 4 Qv (Sj (nth l i) (by have:=Xa (l:=l) (i:=i) (by omega);omega))<|hk0) v0 (cc 2 (p:=(0≤(i:Int)∧i < l.length)) (by omega)<|c0) ?_)
   have qh1:(((!(!(Bh (nth l i))))=true→((!(!(Bh (nth l i))))=true∧(!(!(Bh (nth l i))))=true)∧(0≤(i:Int)∧i < l.length)))∧(((!(!(Bh (nth l i))))=true→(!(!(Bh (nth l i))))=true))∧(((!(!(Bh (nth l i))))=true→((!(!(Bh (nth l i))))=true)∧(0≤(0:Int)∧0 < (nth l i).length)))∧(((!(!(Bh (nth l i))))=true→(!(!(Bh (nth l i))))=true))∧(((!(Bh (nth l i)))=false→(!(!(Bh (nth l i))))=true)):=by
    have hp:=fun h=>X4y (l:=nth l i) h;simp only[Bool.not_not,Bool.not_eq_false'];exact⟨fun hq=>⟨⟨hq,hq⟩,by omega,by omega⟩,fun hq=>hq,fun hq=>⟨hq,by omega,hp hq⟩,fun hq=>hq,fun hq=>hq⟩
   refine Ac [22,23,24,25,26,27] [0,3,28] [] hk0 v0 (cc 5 (p:=((!(!(Bh (nth l i))))=true→((!(!(Bh (nth l i))))=true∧(!(!(Bh (nth l i))))=true)∧(0≤(i:Int)∧i < l.length))) qh1.1<|cc 6 (p:=((!(!(Bh (nth l i))))=true→(!(!(Bh (nth l i))))=true)) qh1.2.1<|cc 7 (p:=((!(!(Bh (nth l i))))=true→((!(!(Bh (nth l i))))=true)∧(0≤(0:Int)∧0 < (nth l i).length))) qh1.2.2.1<|cc 8 (p:=((!(!(Bh (nth l i))))=true→(!(!(Bh (nth l i))))=true)) qh1.2.2.2.1<|cc 9 (p:=((!(Bh (nth l i)))=false→(!(!(Bh (nth l i))))=true)) qh1.2.2.2.2<|c0) ?_;refine A7 (q:=(!(Bh (nth l i)))||(!decide (((Af (nth l i) 0).toNat:Int)=47))) (fun c3=>?_) fun c3=>?_
   ·try simp only[Aq] at c3
    refine Aa [] [2] (Ad ?_);refine RK wR [(.bool false)] (Same.of_eq ?_);unfold Kl
    have:l.all Js=false:=by
     cases hq:l.all Js with
     |false=>rfl
     |true=>have h1:=all_nth.1 hq i (by omega);rw[Q4x] at h1;simp_all
    rw[this,Bool.and_false];rfl
   ·try simp only[Aq] at c3
    refine Ae ?_;refine Aj (An 0 [] [0,3] [] hk0 v0 (cc 1 (p:=(-9223372036854775808≤(i:Int)+1∧(i:Int)+1≤9223372036854775807)) (by omega)<|c0) ?_);refine⟨by kernel_rfl,_,?_,i+1,?_,?_,(by kernel_rfl),rfl⟩
    ·omega
    ·omega
    ·intro j hj;by_cases h:j=i
     ·subst h;rw[Q4x];simp_all
     ·exact f1_2 j (by omega)
  ·refine Br (Aa [] [2] ?_);refine Ad (RK wR [(.bool true)] ?_);exact Same.of_eq (by unfold Kl;rw[all_nth.2 (fun j hj=>f1_2 j (by omega)),decide_eq_true (by omega)];rfl)
theorem X2t (p:PkgT) (hs:p.size≤4194304) :
  FnV prog 58 [(A1 p)] (.int .i64 (Eg p)):=by
 have hsz:=p.sizes;refine Ax [.tmp 2] func58 ntmps58 fun B F hF=>?_;refine Ac [] [1] [(1,1)] hk0 v0 c0 (Ac [] [1,3] [] (hk 2 Qv (Sj p.name (by omega))<|hk0) v0 c0 ?_);refine Ab (Aa [] [1,14] ?_);refine A7 (q:=!(Bh p.name)) (fun c1=>?_) fun c1=>?_
 ·try simp only[Aq] at c1
  refine Aa [] [2] (Ad ?_);refine RK wR [(.int .i64 60)] (Same.of_eq ?_);simp only[Ag];congr 1;rw[←Mf];unfold Kf;simp_all
 ·try simp only[Aq] at c1
  refine Ae (Ac [] [1,5] [(8,4)] (hk 2 Xs (Q0t p.evr (by omega))<|hk0) v0 c0 ?_);refine Ab (Aa [] [1,22] ?_);refine C7 (p:=(Ch p.evr)=0) (fun c2=>?_) fun c2=>?_
  ·refine Aa [] [2] (Ad ?_);refine RK wR [(.int .i64 61)] (Same.of_eq ?_);simp only[Ag];congr 1;rw[←Mf];unfold Kf;simp_all
  ·refine Ae (Ac [] [1,6] [] (hk 2 Y1q (X2v p.arch (by omega))<|hk0) v0 c0 ?_);refine Ab (Aa [] [1,27] ?_);refine A7 (q:=!(Lu p.arch)) (fun c3=>?_) fun c3=>?_
   ·try simp only[Aq] at c3
    refine Aa [] [2] (Ad ?_);refine RK wR [(.int .i64 62)] (Same.of_eq ?_);simp only[Ag];congr 1;rw[←Mf];unfold Kf;simp_all
   ·try simp only[Aq] at c3
    refine Ae (Ac [] [1,7] [] (hk 2 Y1p (X2n p.vendor (by omega))<|hk0) v0 c0 ?_);refine Ab ?_
    obtain⟨b1,hb1⟩:∃b,b=(!(Iu p.vendor)):=⟨_,rfl⟩
    refine Ac (CS:=[(4,((!b1)=true→(!b1)=true)),(5,((!b1)=true→(!b1)=true)),(6,((!b1)=true→(!b1)=true)),(7,(b1=false→(!b1)=true))]) [34,35,36,37] [1,38] [] hk0 (vk 3 33 (a:=.bool (!(Iu p.vendor))) (b:=.bool b1) (Imp.of_eq (by rw[hb1]))<|v0) (by refine cc _ ?_<|cc _ ?_<|cc _ ?_<|cc _ ?_ c0<;>simp) ?_;refine A7 (q:=b1||(decide (60 < (p.vendor.length:Int)))) (fun c4=>?_) fun c4=>?_
    ·subst hb1
     try simp only[Aq] at c4
     refine Aa [] [2] (Ad ?_);refine RK wR [(.int .i64 63)] (Same.of_eq ?_);simp only[Ag];congr 1;rw[←Mf];unfold Kf;simp_all
    ·subst hb1
     try simp only[Aq] at c4
     refine Ae (Ac [] [1,8] [] (hk 1 Y1o (X2s p (by omega))<|hk0) v0 c0 ?_);refine Ab (Aa [] [1,42] ?_);refine A7 (q:=!(Ha p)) (fun c5=>?_) fun c5=>?_
     ·try simp only[Aq] at c5
      refine Aa [] [2] (Ad ?_);refine RK wR [(.int .i64 64)] (Same.of_eq ?_);simp only[Ag];congr 1;rw[←Mf];unfold Kf;simp_all
     ·try simp only[Aq] at c5
      refine Ae (Ac [] [9] [] (hk 2 Y1n (X2r p.files (by omega))<|hk0) v0 c0 ?_);refine Ab (Aa [] [47] ?_);refine A7 (q:=!(Kl p.files)) (fun c6=>?_) fun c6=>?_
      ·try simp only[Aq] at c6
       refine Aa [] [2] (Ad ?_);refine RK wR [(.int .i64 65)] (Same.of_eq ?_);simp only[Ag];congr 1;rw[←Mf];unfold Kf;simp_all
      ·try simp only[Aq] at c6
       refine Ae ?_;refine Aa [] [2] (Ad ?_);refine RK wR [(.int .i64 0)] (Same.of_eq ?_);simp only[Ag];congr 1;rw[←Mf];unfold Kf;simp_all
theorem X92:Ai prog 23:=Am func23
theorem X9j:Ai prog 53:=Am func53
theorem X9i:Ai prog 54:=Am func54
noncomputable def Bg (r:RepoT):AV:=.agg [.str r.name,.int .i64 r.prio,.bool r.inst,.nils]
noncomputable def Bu (k:PkgT × Int):AV:=.agg [.str k.1.name,.str k.1.evr,.str k.1.arch,.str k.1.vendor,D0 k.1.provides,D0 k.1.requires,D0 k.1.pre,D0 k.1.conflicts,D0 k.1.obsoletes,D0 k.1.recommends,D0 k.1.supplements,Dc k.1.files,.int .i64 k.2]
structure PoolT where
 kind:Int
 repos:List RepoT
 all:List (PkgT × Int)
 deriving Inhabited
def Oo (l:List PkgT):Int:=match l.find? (fun p=>decide (Eg p≠0)) with
 |some p=>Eg p
 |none=>0
def C2 (st:PoolT) (r:RepoT):Int :=
 if Bh r.name=false∨st.repos.any (fun o=>decide (o.name=r.name))=true then 66
 else if r.inst=true∧st.repos.any (fun o=>o.inst)=true then 67
 else if 8≤st.repos.length∨200 < st.all.length+r.pkgs.length then 68
 else Oo r.pkgs
def A5 (st:PoolT) (r:RepoT) (i:Nat):List (PkgT × Int):=st.all++(r.pkgs.take i).map fun p=>(p,(st.repos.length:Int))
def Dp (st:PoolT) (r:RepoT):PoolT:=if C2 st r=0 then ⟨st.kind,st.repos++[r],A5 st r r.pkgs.length⟩ else st
def P5 (l:List (PkgT × Int)) (s:List UInt8):List Nat:=(List.range l.length).filter fun i=>decide ((nth l i).1.name=s)
noncomputable def Bt (l:List (PkgT × Int)) (s:List UInt8):List AV:=(P5 l s).map fun (i:Nat)=>AV.int .i64 (i:Int)
theorem Kx {st:PoolT} {r:RepoT} {e:Int} (h:C2 st r=e) (he:e≠0):Dp st r=st:=by unfold Dp;rw[if_neg (by rw[h];exact he)]
theorem Q4w {l:List PkgT} (h:∀j,j < l.length→Eg (nth l j)=0):Oo l=0:=by
 unfold Oo;rw[List.find?_eq_none.2];intro x hx;obtain⟨j,hj,rfl⟩:=List.getElem_of_mem hx;have:=h j hj;simpa [nth,hj] using this
theorem W8:∀{l:List PkgT} {i:Nat},i < l.length→(∀j,j < i→Eg (nth l j)=0)→Eg (nth l i)≠0→Oo l=Eg (nth l i)
 |[],_,h,_,_=>by simp at h
 |x::r,0,_,_,h=>by
  have h:Eg x≠0:=h;unfold Oo;rw[List.find?_cons_of_pos (by simpa using h)];rfl
 |x::r,i+1,hi,h,hp=>by
  have h0:Eg x=0:=h 0 (by omega);have:=W8 (l:=r) (i:=i) (by simpa using hi) (fun j hj=>h (j+1) (by omega)) hp;unfold Oo at this ⊢;rw[List.find?_cons_of_neg (by simp[h0])];exact this
theorem X6b {st:PoolT} {r:RepoT} {i:Nat} (h:i < r.pkgs.length):A5 st r (i+1)=A5 st r i++[(nth r.pkgs i,(st.repos.length:Int))]:=by
 unfold A5;rw[List.take_add_one,List.getElem?_eq_getElem h,List.map_append,List.append_assoc];simp[nth,h]
theorem X6c {st:PoolT} {r:RepoT} {i:Nat}:(A5 st r i).length≤st.all.length+i:=by unfold A5;simp;omega
theorem Q20 (l:List (PkgT × Int)) (k:PkgT × Int):Fd (Bt l) k.1.name (Bt l k.1.name++[.int .i64 (l.length:Int)])=Bt (l++[k]):=by
 funext s
 have e:P5 (l++[k]) s=P5 l s++(if k.1.name=s then [l.length] else []):=by
  unfold P5;rw[List.length_append,List.length_singleton,List.range_succ,List.filter_append];congr 1
  ·refine List.filter_congr fun i hi=>?_
   have:i < l.length:=by simpa using hi
   have:nth (l++[k]) i=nth l i:=by simp[nth,List.getElem?_append_left this]
   rw[this]
  ·have:nth (l++[k]) l.length=k:=by simp[nth]
   by_cases h:k.1.name=s<;>simp[this,h]
 unfold Fd Bt;rw[e];by_cases h:s=k.1.name
 ·subst h;rw[if_pos rfl,if_pos rfl,List.map_append];rfl
 ·rw[if_neg h,if_neg (fun q=>h q.symm),List.append_nil]
theorem X4v (l:List (PkgT × Int)) (s:List UInt8):(Bt l s).length≤l.length:=by
 unfold Bt P5;rw[List.length_map];exact Nat.le_trans (List.length_filter_le _ _) (by simp)
theorem X2l (l:List RepoT) (a:AV) (p:RepoT→Bool) (hl:l.length≤4611686018427387904) (ha:∀i,i < l.length→FunV prog a [(.agg [(.str ((nth l i).name)),(.int .i64 ((nth l i).prio)),(.bool ((nth l i).inst)),.nils])] (.bool (p (nth l i)))) :
  FnV prog 84 [(Ak 4 Bg l),(.clo a)] (.int .i64 (Ei p l)):=by
 refine Ax [.tmp 4] func84 ntmps84 fun B F hF=>?_;refine Aa [] [0,1] ?_;refine Ab (Aa [] [0,1,7,8] ?_);refine Au (B4 (fun g y=>∃(i:Nat),i≤l.length∧(∀j,j < i→p (nth l j)=false)∧y=⟨[(0,(Ak 4 Bg l)),(1,(.clo a)),(7,(.int .i64 ((l.length:Int)))),(8,(.int .i64 ((i:Int))))],[],0⟩∧g=l.length-i) [0,1,7,8] 0 _ (by omega) ⟨0,(by omega),(by exact fun j hj=>by omega),(by kernel_rfl),rfl⟩ ?_);rintro g1 y1 ⟨i,f1_1,f1_2,rfl,rfl⟩;refine Aa [] [0,1,7,8,9] (Ab ?_);refine A4 (p:=(i:Int) < (l.length:Int)) (fun c1=>?_) fun c1=>?_
 ·refine Ae ?_;refine Ab (Au ?_);refine Aa [] [0,1,5,7,8] (Ab ?_);refine Aj (A9 5 0 [] [0,1,5,7,8,11,15] [] hk0 v0 (cc 3 (p:=(0≤(i:Int)∧i < l.length)) (by omega)<|c0) ?_);refine Fc (a:=(.clo a)) (al:=[(.agg [(.str ((nth l i).name)),(.int .i64 ((nth l i).prio)),(.bool ((nth l i).inst)),.nils])]) (r:=(.bool (p (nth l i)))) (by kernel_rfl) (by kernel_rfl) (by kernel_rfl) (by kernel_rfl) (by kernel_rfl) ((ha i (by omega)).clo) pS (Bd ?_);refine A7 (q:=p (nth l i)) (fun c2=>?_) fun c2=>?_
  ·refine Aa [] [4] ?_;refine Ad (RK wR [(.int .i64 ((i:Int)))] ?_);exact Same.of_eq (by rw[Lk (by omega) f1_2 (by simp_all)];rfl)
  ·refine Ae ?_;refine Aj (An 0 [] [0,1,7,8] [] hk0 v0 (cc 0 (p:=(-9223372036854775808≤(i:Int)+1∧(i:Int)+1≤9223372036854775807)) (by omega)<|c0) ?_);refine⟨by kernel_rfl,_,?_,i+1,?_,?_,(by kernel_rfl),rfl⟩
   ·omega
   ·omega
   ·intro j hj;by_cases h:j=i
    ·subst h;simp_all
    ·exact f1_2 j (by omega)
 ·refine Br (Aa [] [4] ?_);refine Ad (RK wR [(.int .i64 (-1))] ?_);exact Same.of_eq (by rw[Lj (fun j hj=>f1_2 j (by omega))];rfl)
theorem Q0r (l:List RepoT) (a:AV) (p:RepoT→Bool) (hl:l.length≤4611686018427387904) (ha:∀i,i < l.length→FunV prog a [(.agg [(.str ((nth l i).name)),(.int .i64 ((nth l i).prio)),(.bool ((nth l i).inst)),.nils])] (.bool (p (nth l i)))) :
  FnV prog 52 [(Ak 4 Bg l),(.clo a)] (.bool (l.any p)):=by
 refine Ax [.tmp 4] func52 ntmps52 fun B F hF=>?_;refine Aa [] [0,1] (Ac [] [4] [] (hk 2 X85 (X2l l a p hl ha)<|hk0) v0 c0 ?_);refine Ad (RK wR [(.bool (decide (0≤(Ei p l))))] ?_);exact Same.of_eq (by simp only[Ag];rw[Ll])
theorem X11 (o r:RepoT) :
  FnV prog 53 [(.agg [(.str o.name),(.int .i64 o.prio),(.bool o.inst),.nils]),(.fp (.agg [(.str r.name),(.int .i64 r.prio),(.bool r.inst),(Ak 12 A1 r.pkgs)]))] (.bool (decide (o.name=r.name))):=by
 refine Ax [.tmp 3] func53 ntmps53 fun B F hF=>?_;refine Ac [] [1,2] [(1,2)] hk0 v0 c0 (Aa [] [3] ?_);refine Ad (RK wR [(.bool (decide (o.name=r.name)))] ?_);exact Same.of_eq (by first|rfl|(simp only[Ag];simp_all))
theorem X6z (o:RepoT) :
  FnV prog 54 [(.agg [(.str o.name),(.int .i64 o.prio),(.bool o.inst),.nils])] (.bool o.inst):=by
 refine Ax [.tmp 2] func54 ntmps54 fun B F hF=>?_;refine Ac [] [1] [(1,1)] hk0 v0 c0 (Aa [] [2] ?_);refine Ad (RK wR [(.bool o.inst)] ?_);exact Same.of_eq (by first|rfl|(simp only[Ag];simp_all))
theorem Y69 (st:PoolT) (r:RepoT) (hr:st.repos.length≤8) (ha:st.all.length≤200) (hn:r.name.length≤4194304) (hpl:r.pkgs.length≤4194304) (hp:∀i,i < r.pkgs.length→(nth r.pkgs i).size≤4194304) :
  Gz prog 23 [(.ptr 0 0),(.agg [(.str r.name),(.int .i64 r.prio),(.bool r.inst),(Ak 12 A1 r.pkgs)])] [(0,(.row [(.int .i64 st.kind),(.own 1),(.own 2),(.map 3)] 100)),(1,(.grow (st.repos.map Bg) 64 4)),(2,(.grow (st.all.map Bu) 103 13)),(3,(.mm (Bt st.all) none 3 1))] 4 (.int .i64 (C2 st r)) [(0,(.row [(.int .i64 ((Dp st r).kind)),(.own 1),(.own 2),(.map 3)] 100)),(1,(.grow ((Dp st r).repos.map Bg) 64 4)),(2,(.grow ((Dp st r).all.map Bu) 103 13)),(3,(.mm (Bt (Dp st r).all) none 3 1))]:=by
 have hml:(st.repos.map Bg).length=st.repos.length:=List.length_map _;have hma:(st.all.map Bu).length=st.all.length:=List.length_map _;refine Nj [.tmp 4] func23 rfl ntmps23 rfl rfl (by kernel_rfl) (by kernel_rfl) (by kernel_rfl) (fun B F hF=>?_);refine Aa [] [0,3] ?_;refine Ab (Au ?_);refine Aa [] [0,3,10] (Cy ?_);refine Ab (Aj ?_)
 obtain⟨b2,hb2⟩:∃b,b=(!(Bh r.name)):=⟨_,rfl⟩
 refine A9 (CS:=[(6,((!b2)=true→(!b2)=true)),(7,((!b2)=true→(!b2)=true)),(8,((!b2)=true→(!b2)=true))]) 10 0 [19,20,21,22,23] [0,3,18,22,23] [] (hk 2 Lr (Pd r.name (by omega))<|hk0) (vk 5 18 (a:=.bool (!(Bh r.name))) (b:=.bool b2) (Imp.of_eq (by rw[hb2]))<|v0) (by refine cc _ ?_<|cc _ ?_<|cc _ ?_ c0<;>simp) ?_
 refine Yt (q:=!b2) (al:=[(.own 1),(.fn 53 [] [(.ptr 4 0)])]) (al':=[(.row 4 (st.repos.map Bg).length (fun ix=>(st.repos.map Bg).getD ix Bl)),(.fn 53 [] [(.fp (.agg [(.str r.name),(.int .i64 r.prio),(.bool r.inst),(Ak 12 A1 r.pkgs)]))])]) (h':=[(0,(.row [(.int .i64 st.kind),(.own 1),(.own 2),(.map 3)] 100)),(2,(.grow (st.all.map Bu) 103 13)),(3,(.mm (Bt st.all) none 3 1))]) (r:=(.bool (st.repos.any (fun o=>decide (o.name=r.name))))) (by kernel_rfl) (by exact Q5g) (by kernel_rfl) (S8 (some ((!b2)=true∧(!b2)=true)) (by kernel_rfl) fun cg=>hold (by(intros;simp_all;done))) (by kernel_rfl) (fun cg=>(Q0r st.repos (.fn 53 [] [.fp (.agg [(.str r.name),(.int .i64 r.prio),(.bool r.inst),(Ak 12 A1 r.pkgs)])]) (fun o=>decide (o.name=r.name)) (by omega) (fun i hi=>FunV.of (by exact X9j) (X11 (nth st.repos i) r))).of_args (ImpL.cons (Imp.list (f:=Bg) (List.length_map _)) (ImpL.cons (Imp.clo (by kernel_rfl)) ImpL.nil))) rfl pS ?_
 obtain⟨b3,hb3⟩:∃b,b=(b2||(st.repos.any (fun o=>decide (o.name=r.name)))):=⟨_,rfl⟩
 refine An 11 [] [0,3,13] [] hk0 (vk 12 25 (a:=.bool (b2||(st.repos.any (fun o=>decide (o.name=r.name))))) (b:=.bool b3) (Imp.of_eq (by rw[hb3]))<|v0) (cc 11 (p:=(b2=false→(!b2)=true)) (by simp)<|c0) ?_;refine A7 (q:=b3) (fun c1=>?_) fun c1=>?_
 ·subst hb3 hb2
  try simp only[Aq] at c1
  refine Aa [] [4] (Ad ?_);refine E6 (.inl rfl) (al:=[(.int .i64 66)]) (by kernel_rfl) ?_ ((by kernel_rfl:Di 4 _=some [(0,(.row [(.int .i64 st.kind),(.own 1),(.own 2),(.map 3)] 100)),(1,(.grow (st.repos.map Bg) 64 4)),(2,(.grow (st.all.map Bu) 103 13)),(3,(.mm (Bt st.all) none 3 1))]).trans ?_)
  all_goals have hE:C2 st r=66:=by unfold C2;rw[if_pos c1]
  ·rw[hE];rfl
  ·rw[Kx hE (by decide)]
 ·subst hb3 hb2
  try simp only[Aq] at c1
  refine Ab ?_;refine Aj (A9 (CS:=[(4,(r.inst=true→r.inst=true)),(5,(r.inst=true→r.inst=true)),(6,(r.inst=true→r.inst=true))]) 7 0 [30,31,32,33] [0,3,29,33] [] hk0 v0 (by refine cc _ ?_<|cc _ ?_<|cc _ ?_ c0<;>simp) ?_);refine Yt (q:=r.inst) (al:=[(.own 1),(.fn 54 [] [])]) (al':=[(.row 4 (st.repos.map Bg).length (fun ix=>(st.repos.map Bg).getD ix Bl)),(.fn 54 [] [])]) (h':=[(0,(.row [(.int .i64 st.kind),(.own 1),(.own 2),(.map 3)] 100)),(2,(.grow (st.all.map Bu) 103 13)),(3,(.mm (Bt st.all) none 3 1)),(4,(.row [(.str r.name),(.int .i64 r.prio),(.bool r.inst),(Ak 12 A1 r.pkgs)] 64))]) (r:=(.bool (st.repos.any (fun o=>o.inst)))) (by kernel_rfl) (by exact Q5g) (by kernel_rfl) (S8 (some (r.inst=true)) (by kernel_rfl) fun cg=>hold (by omega)) (by kernel_rfl) (fun cg=>(Q0r st.repos (.fn 54 [] []) (fun o=>o.inst) (by omega) (fun i hi=>FunV.of (by exact X9i) (X6z (nth st.repos i)))).of_args (ImpL.cons (Imp.list (f:=Bg) (List.length_map _)) (ImpL.cons (Imp.clo (by kernel_rfl)) ImpL.nil))) rfl pS ?_;refine An 8 [] [0,3,26] [] hk0 v0 (cc 8 (p:=(r.inst=true→r.inst=true)) (by simp)<|c0) ?_;refine A7 (q:=r.inst&&(st.repos.any (fun o=>o.inst))) (fun c2=>?_) fun c2=>?_
  ·try simp only[Aq] at c2
   refine Aa [] [4] (Ad ?_);refine E6 (.inl rfl) (al:=[(.int .i64 67)]) (by kernel_rfl) ?_ ((by kernel_rfl:Di 4 _=some [(0,(.row [(.int .i64 st.kind),(.own 1),(.own 2),(.map 3)] 100)),(1,(.grow (st.repos.map Bg) 64 4)),(2,(.grow (st.all.map Bu) 103 13)),(3,(.mm (Bt st.all) none 3 1))]).trans ?_)
   all_goals have hE:C2 st r=67:=by unfold C2;rw[if_neg (by simp only[not_or];simp_all),if_pos (by simp_all)]
   ·rw[hE];rfl
   ·rw[Kx hE (by decide)]
  ·try simp only[Aq] at c2
   refine Ev (fun y=>y=⟨[(0,(.ptr 0 0)),(3,(.ptr 4 0)),(36,(.bool (decide ((8:Int)≤((st.repos.map Bg).length:Int))||decide ((200:Int) < ((st.all.map Bu).length:Int)+(r.pkgs.length:Int)))))],[(0,(.row [(.int .i64 st.kind),(.own 1),(.own 2),(.map 3)] 100)),(1,(.grow (st.repos.map Bg) 64 4)),(2,(.grow (st.all.map Bu) 103 13)),(3,(.mm (Bt st.all) none 3 1)),(4,(.row [(.str r.name),(.int .i64 r.prio),(.bool r.inst),(Ak 12 A1 r.pkgs)] 64))],5⟩) [0,3,36] 5 (by omega) ?_ ?_
   ·refine Hf (CS:=[(8,((!(decide (8≤((st.repos.map Bg).length:Int))))=true→(!(decide (8≤((st.repos.map Bg).length:Int))))=true)),(9,((!(decide (8≤((st.repos.map Bg).length:Int))))=true→(!(decide (8≤((st.repos.map Bg).length:Int))))=true)),(10,((!(decide (8≤((st.repos.map Bg).length:Int))))=true→(!(decide (8≤((st.repos.map Bg).length:Int))))=true)),(11,((!(decide (8≤((st.repos.map Bg).length:Int))))=true→(!(decide (8≤((st.repos.map Bg).length:Int))))=true)),(13,((!(decide (8≤((st.repos.map Bg).length:Int))))=true→(!(decide (8≤((st.repos.map Bg).length:Int))))=true)),(14,((!(decide (8≤((st.repos.map Bg).length:Int))))=true→(!(decide (8≤((st.repos.map Bg).length:Int))))=true)),(15,((!(decide (8≤((st.repos.map Bg).length:Int))))=true→((!(decide (8≤((st.repos.map Bg).length:Int))))=true∧(!(decide (8≤((st.repos.map Bg).length:Int))))=true)∧(-9223372036854775808≤((st.all.map Bu).length:Int)+(r.pkgs.length:Int)∧((st.all.map Bu).length:Int)+(r.pkgs.length:Int)≤9223372036854775807))),(16,((!(decide (8≤((st.repos.map Bg).length:Int))))=true→(!(decide (8≤((st.repos.map Bg).length:Int))))=true)),(17,((decide (8≤((st.repos.map Bg).length:Int)))=false→(!(decide (8≤((st.repos.map Bg).length:Int))))=true))]) [44,45,46,47,48,49,50,51,52,53] [0,3,36] [] hk0 v0 (by refine cc _ ?_<|cc _ ?_<|cc _ ?_<|cc _ ?_<|cc _ ?_<|cc _ ?_<|cc _ ?_<|cc _ ?_<|cc _ ?_ c0<;>first|omega|(simp;omega)|(simp;done)|(intros;simp_all;omega)|(intros;simp_all;done)) ?_
    refine⟨by kernel_rfl,(by kernel_rfl)⟩
   ·rintro y1 rfl;refine A7 (q:=decide ((8:Int)≤((st.repos.map Bg).length:Int))||decide ((200:Int) < ((st.all.map Bu).length:Int)+(r.pkgs.length:Int))) (fun c3=>?_) fun c3=>?_
    ·try simp only[Aq] at c3
     refine Aa [] [4] (Ad ?_);refine E6 (.inl rfl) (al:=[(.int .i64 68)]) (by kernel_rfl) ?_ ((by kernel_rfl:Di 4 _=some [(0,(.row [(.int .i64 st.kind),(.own 1),(.own 2),(.map 3)] 100)),(1,(.grow (st.repos.map Bg) 64 4)),(2,(.grow (st.all.map Bu) 103 13)),(3,(.mm (Bt st.all) none 3 1))]).trans ?_)
     all_goals have hE:C2 st r=68:=by unfold C2;rw[if_neg (by simp only[not_or];simp_all),if_neg (by rintro⟨h1,h2⟩;rw[h1,h2] at c2;simp at c2),if_pos (by omega)]
     ·rw[hE];rfl
     ·rw[Kx hE (by decide)]
    ·try simp only[Aq] at c3
     refine Ae ?_;refine Ab (Aa [] [0,3,56,57,58] ?_);refine Au (B4 (fun g y=>∃(i:Nat),i≤r.pkgs.length∧(∀j,j < i→Eg (nth r.pkgs j)=0)∧y=⟨[(0,(.ptr 0 0)),(3,(.ptr 4 0)),(56,(Ak 12 A1 r.pkgs)),(57,(.int .i64 ((r.pkgs.length:Int)))),(58,(.int .i64 ((i:Int))))],[(0,(.row [(.int .i64 st.kind),(.own 1),(.own 2),(.map 3)] 100)),(1,(.grow (st.repos.map Bg) 64 4)),(2,(.grow (st.all.map Bu) 103 13)),(3,(.mm (Bt st.all) none 3 1)),(4,(.row [(.str r.name),(.int .i64 r.prio),(.bool r.inst),(Ak 12 A1 r.pkgs)] 64))],5⟩∧g=r.pkgs.length-i) [0,3,56,57,58] 5 _ (by omega) ⟨0,(by omega),(by exact fun j hj=>by omega),(by kernel_rfl),rfl⟩ ?_);rintro g1 y1 ⟨i,f1_1,f1_2,rfl,rfl⟩;refine Aa [] [0,3,56,57,58,59] (Ab ?_);refine A4 (p:=(i:Int) < (r.pkgs.length:Int)) (fun c4=>?_) fun c4=>?_
     ·refine Ae (Ab ?_);refine Au (Ac [] [0,3,6,56,57,58] [] hk0 v0 (cc 0 (p:=(0≤(i:Int)∧i < r.pkgs.length)) (by omega)<|c0) ?_);refine Ac [] [0,3,7,56,57,58] [(0,6)] (hk 1 X9h (Y66 (nth r.pkgs i) (hp i (by omega)))<|hk0) v0 c0 ?_;refine Aa [] [0,3,7,56,57,58,65] ?_;refine C7 (p:=(Eg (nth r.pkgs i))=0) (fun c5=>?_) fun c5=>?_
      ·refine Aa [] [4] (Ad ?_);refine E6 (.inl rfl) (al:=[(.int .i64 (Eg (nth r.pkgs i)))]) (by kernel_rfl) ?_ ((by kernel_rfl:Di 4 _=some [(0,(.row [(.int .i64 st.kind),(.own 1),(.own 2),(.map 3)] 100)),(1,(.grow (st.repos.map Bg) 64 4)),(2,(.grow (st.all.map Bu) 103 13)),(3,(.mm (Bt st.all) none 3 1))]).trans ?_)
       all_goals have hE:C2 st r=Eg (nth r.pkgs i):=by unfold C2;rw[if_neg (by simp only[not_or];simp_all),if_neg (by rintro⟨h1,h2⟩;rw[h1,h2] at c2;simp at c2),if_neg (by omega)];exact W8 (by omega) f1_2 (by assumption)
       ·rw[hE];rfl
       ·rw[Kx hE (by assumption)]
      ·refine Ae ?_;refine Aj (An 0 [] [0,3,56,57,58] [] hk0 v0 (cc 0 (p:=(-9223372036854775808≤(i:Int)+1∧(i:Int)+1≤9223372036854775807)) (by omega)<|c0) ?_);refine⟨by kernel_rfl,_,?_,i+1,?_,?_,(by kernel_rfl),rfl⟩
       ·omega
       ·omega
       ·intro j hj;by_cases h:j=i
        ·subst h;simp_all
        ·exact f1_2 j (by omega)
     ·refine Br ?_;refine Ab (Aa [] [0,3,69,70,71] ?_);refine Au (B4 (fun g y=>∃(i:Nat),i≤r.pkgs.length∧y=⟨[(0,(.ptr 0 0)),(3,(.ptr 4 0)),(69,(Ak 12 A1 r.pkgs)),(70,(.int .i64 ((r.pkgs.length:Int)))),(71,(.int .i64 ((i:Int))))],[(0,(.row [(.int .i64 st.kind),(.own 1),(.own 2),(.map 3)] 100)),(1,(.grow (st.repos.map Bg) 64 4)),(2,(.grow ((A5 st r i).map Bu) 103 13)),(3,(.mm (Bt (A5 st r i)) none 3 1)),(4,(.row [(.str r.name),(.int .i64 r.prio),(.bool r.inst),(Ak 12 A1 r.pkgs)] 64))],5⟩∧g=r.pkgs.length-i) [0,3,69,70,71] 5 _ (by omega) ⟨0,(by omega),(Eq.trans (b:=(⟨[(0,(.ptr 0 0)),(3,(.ptr 4 0)),(69,(Ak 12 A1 r.pkgs)),(70,(.int .i64 ((r.pkgs.length:Int)))),(71,(.int .i64 0))],[(0,(.row [(.int .i64 st.kind),(.own 1),(.own 2),(.map 3)] 100)),(1,(.grow (st.repos.map Bg) 64 4)),(2,(.grow (st.all.map Bu) 103 13)),(3,(.mm (Bt st.all) none 3 1)),(4,(.row [(.str r.name),(.int .i64 r.prio),(.bool r.inst),(Ak 12 A1 r.pkgs)] 64))],5⟩:St)) (by kernel_rfl) (by rw[show A5 st r 0=st.all from by simp[A5]]<;>rfl)),rfl⟩ ?_);rintro g2 y2 ⟨i,f2_1,rfl,rfl⟩
      have hkl:((A5 st r i).map Bu).length≤200:=by have:=X6c (st:=st) (r:=r) (i:=i);rw[List.length_map];omega
      have hgl:(Bt (A5 st r i) (nth r.pkgs i).name).length≤200:=Nat.le_trans (X4v _ _) (by rwa [List.length_map] at hkl);refine Aa [] [0,3,69,70,71,72] (Ab ?_);refine A4 (p:=(i:Int) < (r.pkgs.length:Int)) (fun c6=>?_) fun c6=>?_
      ·refine Ae ?_;refine Ev (fun y=>y=⟨[(0,(.ptr 0 0)),(3,(.ptr 4 0)),(69,(Ak 12 A1 r.pkgs)),(70,(.int .i64 ((r.pkgs.length:Int)))),(71,(.int .i64 ((i:Int))))],[(0,(.row [(.int .i64 st.kind),(.own 1),(.own 2),(.map 3)] 100)),(1,(.grow (st.repos.map Bg) 64 4)),(2,(.grow ((A5 st r i++[(nth r.pkgs i,(st.repos.length:Int))]).map Bu) 103 13)),(3,(.mm (Bt (A5 st r i++[(nth r.pkgs i,(st.repos.length:Int))])) none 3 1)),(4,(.row [(.str r.name),(.int .i64 r.prio),(.bool r.inst),(Ak 12 A1 r.pkgs)] 64))],5⟩) [0,3,69,70,71] 5 (by omega) ?_ ?_
       ·refine Au (Ac [] [0,3,9,69,70,71] [] hk0 v0 (cc 0 (p:=(0≤(i:Int)∧i < r.pkgs.length)) (by omega)<|c0) ?_);refine Pa 9 yS ?_;refine Ev (fun y=>y=⟨[(0,(.ptr 0 0)),(3,(.ptr 4 0)),(9,(.fp (A1 (nth r.pkgs i)))),(69,(Ak 12 A1 r.pkgs)),(70,(.int .i64 ((r.pkgs.length:Int)))),(71,(.int .i64 ((i:Int))))],[(0,(.row [(.int .i64 st.kind),(.own 1),(.own 2),(.map 3)] 100)),(1,(.grow (st.repos.map Bg) 64 4)),(2,(.grow ((A5 st r i).map Bu) 103 13)),(3,(.mm (Bt (A5 st r i++[(nth r.pkgs i,(st.repos.length:Int))])) none 3 1)),(4,(.row [(.str r.name),(.int .i64 r.prio),(.bool r.inst),(Ak 12 A1 r.pkgs)] 64))],6⟩) [0,3,9,69,70,71] 6 (by omega) ?_ ?_
        ·refine E5 (by kernel_rfl) (fun F1 hF1=>?_);refine Ci false 1 (lsD 21 [0,1,2,3,4,5,6,7,8,9,10,11,12,13,14,15,16,17,18,19]) ⟨[(0,(.ptr 0 0)),(3,(.ptr 4 0)),(9,(.fp (A1 (nth r.pkgs i)))),(69,(Ak 12 A1 r.pkgs)),(70,(.int .i64 ((r.pkgs.length:Int)))),(71,(.int .i64 ((i:Int)))),(78,(.map 3)),(80,(.str ((nth r.pkgs i).name))),(94,(.own 6))],[(0,(.row [(.int .i64 st.kind),(.own 1),(.own 2),(.map 3)] 100)),(1,(.grow (st.repos.map Bg) 64 4)),(2,(.grow ((A5 st r i).map Bu) 103 13)),(3,(.mm (Bt (A5 st r i)) (some ((nth r.pkgs i).name)) 3 1)),(4,(.row [(.str r.name),(.int .i64 r.prio),(.bool r.inst),(Ak 12 A1 r.pkgs)] 64)),(6,(.grow (((Bt (A5 st r i)) ((nth r.pkgs i).name))++([(.int .i64 ((((A5 st r i).map Bu).length:Int)))]:List AV)) 3 1)),(7,(.row [(.int .i64 ((((A5 st r i).map Bu).length:Int)))] 3))],8⟩ ?_ (fun m1_1=>?_)
         ·refine C6 (fuel:=0) 20 (by kernel_rfl) ?_;refine Ce (fuel:=0) 20 rfl (Uq (b:=3) (c:=6) (s:=(nth r.pkgs i).name) (s1:=(nth r.pkgs i).name) (by kernel_rfl) (by kernel_rfl) (by kernel_rfl) (by kernel_rfl) (by kernel_rfl) rfl underlying98 underlying9 yS rfl ?_);refine Bd ⟨rfl,?_⟩;refine Ao [0,3,9,69,70,71] (Ek (by kernel_rfl) ?_)
          refine⟨by kernel_rfl,(Eq.trans (b:=(⟨[(0,(.ptr 0 0)),(3,(.ptr 4 0)),(9,(.fp (A1 (nth r.pkgs i)))),(69,(Ak 12 A1 r.pkgs)),(70,(.int .i64 ((r.pkgs.length:Int)))),(71,(.int .i64 ((i:Int))))],[(0,(.row [(.int .i64 st.kind),(.own 1),(.own 2),(.map 3)] 100)),(1,(.grow (st.repos.map Bg) 64 4)),(2,(.grow ((A5 st r i).map Bu) 103 13)),(3,(.mm (Fd (Bt (A5 st r i)) ((nth r.pkgs i).name) (((Bt (A5 st r i)) ((nth r.pkgs i).name))++([(.int .i64 ((((A5 st r i).map Bu).length:Int)))]:List AV))) none 3 1)),(4,(.row [(.str r.name),(.int .i64 r.prio),(.bool r.inst),(Ak 12 A1 r.pkgs)] 64))],6⟩:St)) (by kernel_rfl) (by rw[show(Fd (Bt (A5 st r i)) ((nth r.pkgs i).name) (((Bt (A5 st r i)) ((nth r.pkgs i).name))++([(.int .i64 ((((A5 st r i).map Bu).length:Int)))]:List AV)))=Bt (A5 st r i++[(nth r.pkgs i,(st.repos.length:Int))]) from by(try rw[List.length_map]);exact Q20 (A5 st r i) (nth r.pkgs i,(st.repos.length:Int))]<;>kernel_rfl))⟩
         refine Ci false 1 (lsD 21 [0,1,2,3,4,5,6,7,8,9,10,11,12,13,14,15,16,17,18,19]) ⟨[(0,(.ptr 0 0)),(3,(.ptr 4 0)),(9,(.fp (A1 (nth r.pkgs i)))),(69,(Ak 12 A1 r.pkgs)),(70,(.int .i64 ((r.pkgs.length:Int)))),(71,(.int .i64 ((i:Int)))),(78,(.map 3)),(80,(.str ((nth r.pkgs i).name))),(94,(.own 7))],[(0,(.row [(.int .i64 st.kind),(.own 1),(.own 2),(.map 3)] 100)),(1,(.grow (st.repos.map Bg) 64 4)),(2,(.grow ((A5 st r i).map Bu) 103 13)),(3,(.mm (Bt (A5 st r i)) (some ((nth r.pkgs i).name)) 3 1)),(4,(.row [(.str r.name),(.int .i64 r.prio),(.bool r.inst),(Ak 12 A1 r.pkgs)] 64)),(6,(.row [(.int .i64 ((((A5 st r i).map Bu).length:Int)))] 3)),(7,(.grow (((Bt (A5 st r i)) ((nth r.pkgs i).name))++([(.int .i64 ((((A5 st r i).map Bu).length:Int)))]:List AV)) 3 1))],8⟩ ?_ (fun m1_2=>?_)
         ·refine C6 (fuel:=0) 20 (by kernel_rfl) ?_;refine Ce (fuel:=0) 20 rfl (Uq (b:=3) (c:=7) (s:=(nth r.pkgs i).name) (s1:=(nth r.pkgs i).name) (by kernel_rfl) (by kernel_rfl) (by kernel_rfl) (by kernel_rfl) (by kernel_rfl) rfl underlying98 underlying9 yS rfl ?_);refine Bd ⟨rfl,?_⟩;refine Ao [0,3,9,69,70,71] (Ek (by kernel_rfl) ?_)
          refine⟨by kernel_rfl,(Eq.trans (b:=(⟨[(0,(.ptr 0 0)),(3,(.ptr 4 0)),(9,(.fp (A1 (nth r.pkgs i)))),(69,(Ak 12 A1 r.pkgs)),(70,(.int .i64 ((r.pkgs.length:Int)))),(71,(.int .i64 ((i:Int))))],[(0,(.row [(.int .i64 st.kind),(.own 1),(.own 2),(.map 3)] 100)),(1,(.grow (st.repos.map Bg) 64 4)),(2,(.grow ((A5 st r i).map Bu) 103 13)),(3,(.mm (Fd (Bt (A5 st r i)) ((nth r.pkgs i).name) (((Bt (A5 st r i)) ((nth r.pkgs i).name))++([(.int .i64 ((((A5 st r i).map Bu).length:Int)))]:List AV))) none 3 1)),(4,(.row [(.str r.name),(.int .i64 r.prio),(.bool r.inst),(Ak 12 A1 r.pkgs)] 64))],6⟩:St)) (by kernel_rfl) (by rw[show(Fd (Bt (A5 st r i)) ((nth r.pkgs i).name) (((Bt (A5 st r i)) ((nth r.pkgs i).name))++([(.int .i64 ((((A5 st r i).map Bu).length:Int)))]:List AV)))=Bt (A5 st r i++[(nth r.pkgs i,(st.repos.length:Int))]) from by(try rw[List.length_map]);exact Q20 (A5 st r i) (nth r.pkgs i,(st.repos.length:Int))]<;>kernel_rfl))⟩
         refine Ci false 2 (lsD 21 [0,1,2,3,4,5,6,7,8,9,10,11,12,13,14,15,16,17,18]) ⟨[(0,(.ptr 0 0)),(3,(.ptr 4 0)),(9,(.fp (A1 (nth r.pkgs i)))),(69,(Ak 12 A1 r.pkgs)),(70,(.int .i64 ((r.pkgs.length:Int)))),(71,(.int .i64 ((i:Int)))),(78,(.map 3)),(80,(.str ((nth r.pkgs i).name))),(87,(.own 6)),(93,(.sl 7 0 1 1 false))],[(0,(.row [(.int .i64 st.kind),(.own 1),(.own 2),(.map 3)] 100)),(1,(.grow (st.repos.map Bg) 64 4)),(2,(.grow ((A5 st r i).map Bu) 103 13)),(3,(.mm (Bt (A5 st r i)) (some ((nth r.pkgs i).name)) 3 1)),(4,(.row [(.str r.name),(.int .i64 r.prio),(.bool r.inst),(Ak 12 A1 r.pkgs)] 64)),(6,(.grow ((Bt (A5 st r i)) ((nth r.pkgs i).name)) 3 1)),(7,(.row [(.int .i64 ((((A5 st r i).map Bu).length:Int)))] 3))],8⟩ ?_ (fun m1_3=>?_)
         ·refine C8 (fuel:=1) 19 [] (hold (p:=((((Bt (A5 st r i)) ((nth r.pkgs i).name)).length+1)*8≤140737488355328)) (by omega)) (Ao [0,3,9,69,70,71,78,80,94] ?_);exact A6 m1_1
         refine Ci false 2 (lsD 21 [0,1,2,3,4,5,6,7,8,9,10,11,12,13,14,15,16,17,18]) ⟨[(0,(.ptr 0 0)),(3,(.ptr 4 0)),(9,(.fp (A1 (nth r.pkgs i)))),(69,(Ak 12 A1 r.pkgs)),(70,(.int .i64 ((r.pkgs.length:Int)))),(71,(.int .i64 ((i:Int)))),(78,(.map 3)),(80,(.str ((nth r.pkgs i).name))),(87,(.own 7)),(93,(.sl 6 0 1 1 false))],[(0,(.row [(.int .i64 st.kind),(.own 1),(.own 2),(.map 3)] 100)),(1,(.grow (st.repos.map Bg) 64 4)),(2,(.grow ((A5 st r i).map Bu) 103 13)),(3,(.mm (Bt (A5 st r i)) (some ((nth r.pkgs i).name)) 3 1)),(4,(.row [(.str r.name),(.int .i64 r.prio),(.bool r.inst),(Ak 12 A1 r.pkgs)] 64)),(6,(.row [(.int .i64 ((((A5 st r i).map Bu).length:Int)))] 3)),(7,(.grow ((Bt (A5 st r i)) ((nth r.pkgs i).name)) 3 1))],8⟩ ?_ (fun m1_4=>?_)
         ·refine C8 (fuel:=1) 19 [] (hold (p:=((((Bt (A5 st r i)) ((nth r.pkgs i).name)).length+1)*8≤140737488355328)) (by omega)) (Ao [0,3,9,69,70,71,78,80,94] ?_);exact A6 m1_2
         refine Ci false 3 (lsD 21 [0,1,2,3,4,5,6,7,8,9,10,11,12,13,14,15,16,17]) ⟨[(0,(.ptr 0 0)),(3,(.ptr 4 0)),(9,(.fp (A1 (nth r.pkgs i)))),(69,(Ak 12 A1 r.pkgs)),(70,(.int .i64 ((r.pkgs.length:Int)))),(71,(.int .i64 ((i:Int)))),(78,(.map 3)),(80,(.str ((nth r.pkgs i).name))),(87,(.own 6)),(92,(.int .i64 ((((A5 st r i).map Bu).length:Int))))],[(0,(.row [(.int .i64 st.kind),(.own 1),(.own 2),(.map 3)] 100)),(1,(.grow (st.repos.map Bg) 64 4)),(2,(.grow ((A5 st r i).map Bu) 103 13)),(3,(.mm (Bt (A5 st r i)) (some ((nth r.pkgs i).name)) 3 1)),(4,(.row [(.str r.name),(.int .i64 r.prio),(.bool r.inst),(Ak 12 A1 r.pkgs)] 64)),(6,(.grow ((Bt (A5 st r i)) ((nth r.pkgs i).name)) 3 1))],7⟩ ?_ (fun m1_5=>?_)
         ·refine C8 (fuel:=2) 18 [] Ap (Ao [0,3,9,69,70,71,78,80,87,93] ?_);exact A6 m1_3
         refine Ci true 3 (lsD 21 [0,1,2,3,4,5,6,7,8,9,10,11,13,14,15,16,17,18]) ⟨[(0,(.ptr 0 0)),(3,(.ptr 4 0)),(9,(.fp (A1 (nth r.pkgs i)))),(69,(Ak 12 A1 r.pkgs)),(70,(.int .i64 ((r.pkgs.length:Int)))),(71,(.int .i64 ((i:Int)))),(78,(.map 3)),(80,(.str ((nth r.pkgs i).name))),(84,(.map 3)),(86,(.str ((nth r.pkgs i).name))),(93,(.sl 6 0 1 1 false))],[(0,(.row [(.int .i64 st.kind),(.own 1),(.own 2),(.map 3)] 100)),(1,(.grow (st.repos.map Bg) 64 4)),(2,(.grow ((A5 st r i).map Bu) 103 13)),(3,(.mm (Bt (A5 st r i)) none 3 1)),(4,(.row [(.str r.name),(.int .i64 r.prio),(.bool r.inst),(Ak 12 A1 r.pkgs)] 64)),(6,(.row [(.int .i64 ((((A5 st r i).map Bu).length:Int)))] 3))],7⟩ ?_ (fun m1_6=>?_)
         ·refine C6 (fuel:=2) 12 (by kernel_rfl) ?_;refine Ce (fuel:=2) 12 rfl (Gh (b:=3) (s:=(nth r.pkgs i).name) (by kernel_rfl) (by kernel_rfl) (by kernel_rfl) underlying98 underlying9 (fun _=>by kernel_rfl) yS ?_);refine Bd ⟨rfl,?_⟩;refine Ao [0,3,9,69,70,71,78,80,87,93] ?_;exact A6 m1_4
         refine Ci false 4 (lsD 21 [0,1,2,3,4,5,6,7,8,9,10,11,12,13,14,15,16]) ⟨[(0,(.ptr 0 0)),(3,(.ptr 4 0)),(9,(.fp (A1 (nth r.pkgs i)))),(69,(Ak 12 A1 r.pkgs)),(70,(.int .i64 ((r.pkgs.length:Int)))),(71,(.int .i64 ((i:Int)))),(78,(.map 3)),(80,(.str ((nth r.pkgs i).name))),(87,(.own 6)),(91,(.own 2))],[(0,(.row [(.int .i64 st.kind),(.own 1),(.own 2),(.map 3)] 100)),(1,(.grow (st.repos.map Bg) 64 4)),(2,(.grow ((A5 st r i).map Bu) 103 13)),(3,(.mm (Bt (A5 st r i)) (some ((nth r.pkgs i).name)) 3 1)),(4,(.row [(.str r.name),(.int .i64 r.prio),(.bool r.inst),(Ak 12 A1 r.pkgs)] 64)),(6,(.grow ((Bt (A5 st r i)) ((nth r.pkgs i).name)) 3 1))],7⟩ ?_ (fun m1_7=>?_)
         ·refine C8 (fuel:=3) 17 [] Ap (Ao [0,3,9,69,70,71,78,80,87,92] ?_);exact A6 m1_5
         refine Ci true 4 (lsD 21 [0,1,2,3,4,5,6,7,8,9,10,11,13,14,15,16,17]) ⟨[(0,(.ptr 0 0)),(3,(.ptr 4 0)),(9,(.fp (A1 (nth r.pkgs i)))),(69,(Ak 12 A1 r.pkgs)),(70,(.int .i64 ((r.pkgs.length:Int)))),(71,(.int .i64 ((i:Int)))),(78,(.map 3)),(80,(.str ((nth r.pkgs i).name))),(84,(.map 3)),(86,(.str ((nth r.pkgs i).name))),(92,(.int .i64 ((((A5 st r i).map Bu).length:Int))))],[(0,(.row [(.int .i64 st.kind),(.own 1),(.own 2),(.map 3)] 100)),(1,(.grow (st.repos.map Bg) 64 4)),(2,(.grow ((A5 st r i).map Bu) 103 13)),(3,(.mm (Bt (A5 st r i)) none 3 1)),(4,(.row [(.str r.name),(.int .i64 r.prio),(.bool r.inst),(Ak 12 A1 r.pkgs)] 64))],6⟩ ?_ (fun m1_8=>?_)
         ·refine Cl 12 18 (by kernel_rfl) ?_ ?_
          ·refine Ce (fuel:=3) 12 rfl (Gh (b:=3) (s:=(nth r.pkgs i).name) (by kernel_rfl) (by kernel_rfl) (by kernel_rfl) underlying98 underlying9 (fun _=>by kernel_rfl) yS ?_);refine Bd ⟨rfl,?_⟩;refine Ao [0,3,9,69,70,71,78,80,87,92] ?_;exact A6 m1_5
          ·refine A8 (fuel:=3) 18 [] Ap (Ao [0,3,9,69,70,71,78,80,84,86,93] ?_);exact A6 m1_6
         refine Ci true 4 (lsD 21 [0,1,2,3,4,5,6,7,8,10,11,13,14,15,16,17,18]) ⟨[(0,(.ptr 0 0)),(3,(.ptr 4 0)),(9,(.fp (A1 (nth r.pkgs i)))),(69,(Ak 12 A1 r.pkgs)),(70,(.int .i64 ((r.pkgs.length:Int)))),(71,(.int .i64 ((i:Int)))),(78,(.map 3)),(80,(.str ((nth r.pkgs i).name))),(83,(.ptr 0 3)),(86,(.str ((nth r.pkgs i).name))),(93,(.sl 6 0 1 1 false))],[(0,(.row [(.int .i64 st.kind),(.own 1),(.own 2),(.map 3)] 100)),(1,(.grow (st.repos.map Bg) 64 4)),(2,(.grow ((A5 st r i).map Bu) 103 13)),(3,(.mm (Bt (A5 st r i)) none 3 1)),(4,(.row [(.str r.name),(.int .i64 r.prio),(.bool r.inst),(Ak 12 A1 r.pkgs)] 64)),(6,(.row [(.int .i64 ((((A5 st r i).map Bu).length:Int)))] 3))],7⟩ ?_ (fun m1_9=>?_)
         ·refine C8 (fuel:=3) 9 [] Ap (Ao [0,3,9,69,70,71,78,80,84,86,93] ?_);exact A6 m1_6
         refine Ci false 4 (lsD 21 [0,1,2,4,5,6,7,8,9,10,11,12,13,14,15,16,17]) ⟨[(0,(.ptr 0 0)),(3,(.ptr 4 0)),(9,(.fp (A1 (nth r.pkgs i)))),(69,(Ak 12 A1 r.pkgs)),(70,(.int .i64 ((r.pkgs.length:Int)))),(71,(.int .i64 ((i:Int)))),(77,(.ptr 0 3)),(80,(.str ((nth r.pkgs i).name))),(87,(.own 6)),(92,(.int .i64 ((((A5 st r i).map Bu).length:Int))))],[(0,(.row [(.int .i64 st.kind),(.own 1),(.own 2),(.map 3)] 100)),(1,(.grow (st.repos.map Bg) 64 4)),(2,(.grow ((A5 st r i).map Bu) 103 13)),(3,(.mm (Bt (A5 st r i)) (some ((nth r.pkgs i).name)) 3 1)),(4,(.row [(.str r.name),(.int .i64 r.prio),(.bool r.inst),(Ak 12 A1 r.pkgs)] 64)),(6,(.grow ((Bt (A5 st r i)) ((nth r.pkgs i).name)) 3 1))],7⟩ ?_ (fun m1_10=>?_)
         ·refine Cl 3 18 (by kernel_rfl) ?_ ?_
          ·refine A8 (fuel:=3) 3 [] Ap (Ao [0,3,9,69,70,71,78,80,87,92] ?_);exact A6 m1_5
          ·refine A8 (fuel:=3) 18 [] Ap (Ao [0,3,9,69,70,71,77,80,87,93] ?_);refine Cl 3 19 (by kernel_rfl) ?_ ?_
           ·refine A8 (fuel:=2) 3 [] Ap (Ao [0,3,9,69,70,71,78,80,87,93] ?_);exact A6 m1_3
           ·refine A8 (fuel:=2) 19 [] (hold (p:=((((Bt (A5 st r i)) ((nth r.pkgs i).name)).length+1)*8≤140737488355328)) (by omega)) (Ao [0,3,9,69,70,71,77,80,94] ?_);refine C8 (fuel:=1) 3 [] Ap (Ao [0,3,9,69,70,71,78,80,94] ?_);exact A6 m1_1
         refine Ci true 4 (lsD 21 [0,1,2,4,5,6,7,8,9,10,11,13,14,15,16,17,18]) ⟨[(0,(.ptr 0 0)),(3,(.ptr 4 0)),(9,(.fp (A1 (nth r.pkgs i)))),(69,(Ak 12 A1 r.pkgs)),(70,(.int .i64 ((r.pkgs.length:Int)))),(71,(.int .i64 ((i:Int)))),(77,(.ptr 0 3)),(80,(.str ((nth r.pkgs i).name))),(84,(.map 3)),(86,(.str ((nth r.pkgs i).name))),(93,(.sl 6 0 1 1 false))],[(0,(.row [(.int .i64 st.kind),(.own 1),(.own 2),(.map 3)] 100)),(1,(.grow (st.repos.map Bg) 64 4)),(2,(.grow ((A5 st r i).map Bu) 103 13)),(3,(.mm (Bt (A5 st r i)) none 3 1)),(4,(.row [(.str r.name),(.int .i64 r.prio),(.bool r.inst),(Ak 12 A1 r.pkgs)] 64)),(6,(.row [(.int .i64 ((((A5 st r i).map Bu).length:Int)))] 3))],7⟩ ?_ (fun m1_11=>?_)
         ·refine Cl 3 12 (by kernel_rfl) ?_ ?_
          ·refine A8 (fuel:=3) 3 [] Ap (Ao [0,3,9,69,70,71,78,80,84,86,93] ?_);exact A6 m1_6
          ·refine Ce (fuel:=3) 12 rfl (Gh (b:=3) (s:=(nth r.pkgs i).name) (by kernel_rfl) (by kernel_rfl) (by kernel_rfl) underlying98 underlying9 (fun _=>by kernel_rfl) yS ?_);refine Bd ⟨rfl,?_⟩;refine Ao [0,3,9,69,70,71,77,80,87,93] ?_;refine Cl 3 19 (by kernel_rfl) ?_ ?_
           ·refine A8 (fuel:=2) 3 [] Ap (Ao [0,3,9,69,70,71,78,80,87,93] ?_);exact A6 m1_4
           ·refine A8 (fuel:=2) 19 [] (hold (p:=((((Bt (A5 st r i)) ((nth r.pkgs i).name)).length+1)*8≤140737488355328)) (by omega)) (Ao [0,3,9,69,70,71,77,80,94] ?_);refine C8 (fuel:=1) 3 [] Ap (Ao [0,3,9,69,70,71,78,80,94] ?_);exact A6 m1_2
         refine Ci false 5 (lsD 21 [0,1,2,3,4,5,6,7,8,9,10,11,12,13,14,15]) ⟨[(0,(.ptr 0 0)),(3,(.ptr 4 0)),(9,(.fp (A1 (nth r.pkgs i)))),(69,(Ak 12 A1 r.pkgs)),(70,(.int .i64 ((r.pkgs.length:Int)))),(71,(.int .i64 ((i:Int)))),(78,(.map 3)),(80,(.str ((nth r.pkgs i).name))),(87,(.own 6)),(90,(.ptr 0 2))],[(0,(.row [(.int .i64 st.kind),(.own 1),(.own 2),(.map 3)] 100)),(1,(.grow (st.repos.map Bg) 64 4)),(2,(.grow ((A5 st r i).map Bu) 103 13)),(3,(.mm (Bt (A5 st r i)) (some ((nth r.pkgs i).name)) 3 1)),(4,(.row [(.str r.name),(.int .i64 r.prio),(.bool r.inst),(Ak 12 A1 r.pkgs)] 64)),(6,(.grow ((Bt (A5 st r i)) ((nth r.pkgs i).name)) 3 1))],7⟩ ?_ (fun m1_12=>?_)
         ·refine C8 (fuel:=4) 16 [] Ap (Ao [0,3,9,69,70,71,78,80,87,91] ?_);exact A6 m1_7
         refine Ci true 5 (lsD 21 [0,1,2,3,4,5,6,7,8,9,10,11,13,14,15,16]) ⟨[(0,(.ptr 0 0)),(3,(.ptr 4 0)),(9,(.fp (A1 (nth r.pkgs i)))),(69,(Ak 12 A1 r.pkgs)),(70,(.int .i64 ((r.pkgs.length:Int)))),(71,(.int .i64 ((i:Int)))),(78,(.map 3)),(80,(.str ((nth r.pkgs i).name))),(84,(.map 3)),(86,(.str ((nth r.pkgs i).name))),(91,(.own 2))],[(0,(.row [(.int .i64 st.kind),(.own 1),(.own 2),(.map 3)] 100)),(1,(.grow (st.repos.map Bg) 64 4)),(2,(.grow ((A5 st r i).map Bu) 103 13)),(3,(.mm (Bt (A5 st r i)) none 3 1)),(4,(.row [(.str r.name),(.int .i64 r.prio),(.bool r.inst),(Ak 12 A1 r.pkgs)] 64))],6⟩ ?_ (fun m1_13=>?_)
         ·refine Cl 12 17 (by kernel_rfl) ?_ ?_
          ·refine Ce (fuel:=4) 12 rfl (Gh (b:=3) (s:=(nth r.pkgs i).name) (by kernel_rfl) (by kernel_rfl) (by kernel_rfl) underlying98 underlying9 (fun _=>by kernel_rfl) yS ?_);refine Bd ⟨rfl,?_⟩;refine Ao [0,3,9,69,70,71,78,80,87,91] ?_;exact A6 m1_7
          ·refine A8 (fuel:=4) 17 [] Ap (Ao [0,3,9,69,70,71,78,80,84,86,92] ?_);exact A6 m1_8
         refine Ci true 5 (lsD 21 [0,1,2,3,4,5,6,7,8,10,11,13,14,15,16,17]) ⟨[(0,(.ptr 0 0)),(3,(.ptr 4 0)),(9,(.fp (A1 (nth r.pkgs i)))),(69,(Ak 12 A1 r.pkgs)),(70,(.int .i64 ((r.pkgs.length:Int)))),(71,(.int .i64 ((i:Int)))),(78,(.map 3)),(80,(.str ((nth r.pkgs i).name))),(83,(.ptr 0 3)),(86,(.str ((nth r.pkgs i).name))),(92,(.int .i64 ((((A5 st r i).map Bu).length:Int))))],[(0,(.row [(.int .i64 st.kind),(.own 1),(.own 2),(.map 3)] 100)),(1,(.grow (st.repos.map Bg) 64 4)),(2,(.grow ((A5 st r i).map Bu) 103 13)),(3,(.mm (Bt (A5 st r i)) none 3 1)),(4,(.row [(.str r.name),(.int .i64 r.prio),(.bool r.inst),(Ak 12 A1 r.pkgs)] 64))],6⟩ ?_ (fun m1_14=>?_)
         ·refine Cl 9 18 (by kernel_rfl) ?_ ?_
          ·refine A8 (fuel:=4) 9 [] Ap (Ao [0,3,9,69,70,71,78,80,84,86,92] ?_);exact A6 m1_8
          ·refine A8 (fuel:=4) 18 [] Ap (Ao [0,3,9,69,70,71,78,80,83,86,93] ?_);exact A6 m1_9
         refine Ci false 5 (lsD 21 [0,1,2,4,5,6,7,8,9,10,11,12,13,14,15,16]) ⟨[(0,(.ptr 0 0)),(3,(.ptr 4 0)),(9,(.fp (A1 (nth r.pkgs i)))),(69,(Ak 12 A1 r.pkgs)),(70,(.int .i64 ((r.pkgs.length:Int)))),(71,(.int .i64 ((i:Int)))),(77,(.ptr 0 3)),(80,(.str ((nth r.pkgs i).name))),(87,(.own 6)),(91,(.own 2))],[(0,(.row [(.int .i64 st.kind),(.own 1),(.own 2),(.map 3)] 100)),(1,(.grow (st.repos.map Bg) 64 4)),(2,(.grow ((A5 st r i).map Bu) 103 13)),(3,(.mm (Bt (A5 st r i)) (some ((nth r.pkgs i).name)) 3 1)),(4,(.row [(.str r.name),(.int .i64 r.prio),(.bool r.inst),(Ak 12 A1 r.pkgs)] 64)),(6,(.grow ((Bt (A5 st r i)) ((nth r.pkgs i).name)) 3 1))],7⟩ ?_ (fun m1_15=>?_)
         ·refine Cl 3 17 (by kernel_rfl) ?_ ?_
          ·refine A8 (fuel:=4) 3 [] Ap (Ao [0,3,9,69,70,71,78,80,87,91] ?_);exact A6 m1_7
          ·refine A8 (fuel:=4) 17 [] Ap (Ao [0,3,9,69,70,71,77,80,87,92] ?_);exact A6 m1_10
         refine Ci true 5 (lsD 21 [0,1,2,4,5,6,7,8,9,10,11,13,14,15,16,17]) ⟨[(0,(.ptr 0 0)),(3,(.ptr 4 0)),(9,(.fp (A1 (nth r.pkgs i)))),(69,(Ak 12 A1 r.pkgs)),(70,(.int .i64 ((r.pkgs.length:Int)))),(71,(.int .i64 ((i:Int)))),(77,(.ptr 0 3)),(80,(.str ((nth r.pkgs i).name))),(84,(.map 3)),(86,(.str ((nth r.pkgs i).name))),(92,(.int .i64 ((((A5 st r i).map Bu).length:Int))))],[(0,(.row [(.int .i64 st.kind),(.own 1),(.own 2),(.map 3)] 100)),(1,(.grow (st.repos.map Bg) 64 4)),(2,(.grow ((A5 st r i).map Bu) 103 13)),(3,(.mm (Bt (A5 st r i)) none 3 1)),(4,(.row [(.str r.name),(.int .i64 r.prio),(.bool r.inst),(Ak 12 A1 r.pkgs)] 64))],6⟩ ?_ (fun m1_16=>?_)
         ·refine Hg 3 12 18 (by kernel_rfl) ?_ ?_ ?_
          ·refine A8 (fuel:=4) 3 [] Ap (Ao [0,3,9,69,70,71,78,80,84,86,92] ?_);exact A6 m1_8
          ·refine Ce (fuel:=4) 12 rfl (Gh (b:=3) (s:=(nth r.pkgs i).name) (by kernel_rfl) (by kernel_rfl) (by kernel_rfl) underlying98 underlying9 (fun _=>by kernel_rfl) yS ?_);refine Bd ⟨rfl,?_⟩;refine Ao [0,3,9,69,70,71,77,80,87,92] ?_;exact A6 m1_10
          ·refine A8 (fuel:=4) 18 [] Ap (Ao [0,3,9,69,70,71,77,80,84,86,93] ?_);exact A6 m1_11
         refine Ci true 6 (lsD 21 [0,1,2,3,4,5,6,7,8,9,10,11,13,14,15]) ⟨[(0,(.ptr 0 0)),(3,(.ptr 4 0)),(9,(.fp (A1 (nth r.pkgs i)))),(69,(Ak 12 A1 r.pkgs)),(70,(.int .i64 ((r.pkgs.length:Int)))),(71,(.int .i64 ((i:Int)))),(78,(.map 3)),(80,(.str ((nth r.pkgs i).name))),(84,(.map 3)),(86,(.str ((nth r.pkgs i).name))),(90,(.ptr 0 2))],[(0,(.row [(.int .i64 st.kind),(.own 1),(.own 2),(.map 3)] 100)),(1,(.grow (st.repos.map Bg) 64 4)),(2,(.grow ((A5 st r i).map Bu) 103 13)),(3,(.mm (Bt (A5 st r i)) none 3 1)),(4,(.row [(.str r.name),(.int .i64 r.prio),(.bool r.inst),(Ak 12 A1 r.pkgs)] 64))],6⟩ ?_ (fun m1_17=>?_)
         ·refine Cl 12 16 (by kernel_rfl) ?_ ?_
          ·refine Ce (fuel:=5) 12 rfl (Gh (b:=3) (s:=(nth r.pkgs i).name) (by kernel_rfl) (by kernel_rfl) (by kernel_rfl) underlying98 underlying9 (fun _=>by kernel_rfl) yS ?_);refine Bd ⟨rfl,?_⟩;refine Ao [0,3,9,69,70,71,78,80,87,90] ?_;exact A6 m1_12
          ·refine A8 (fuel:=5) 16 [] Ap (Ao [0,3,9,69,70,71,78,80,84,86,91] ?_);exact A6 m1_13
         refine Ci true 6 (lsD 21 [0,1,2,3,4,5,6,7,8,10,11,13,14,15,16]) ⟨[(0,(.ptr 0 0)),(3,(.ptr 4 0)),(9,(.fp (A1 (nth r.pkgs i)))),(69,(Ak 12 A1 r.pkgs)),(70,(.int .i64 ((r.pkgs.length:Int)))),(71,(.int .i64 ((i:Int)))),(78,(.map 3)),(80,(.str ((nth r.pkgs i).name))),(83,(.ptr 0 3)),(86,(.str ((nth r.pkgs i).name))),(91,(.own 2))],[(0,(.row [(.int .i64 st.kind),(.own 1),(.own 2),(.map 3)] 100)),(1,(.grow (st.repos.map Bg) 64 4)),(2,(.grow ((A5 st r i).map Bu) 103 13)),(3,(.mm (Bt (A5 st r i)) none 3 1)),(4,(.row [(.str r.name),(.int .i64 r.prio),(.bool r.inst),(Ak 12 A1 r.pkgs)] 64))],6⟩ ?_ (fun m1_18=>?_)
         ·refine Cl 9 17 (by kernel_rfl) ?_ ?_
          ·refine A8 (fuel:=5) 9 [] Ap (Ao [0,3,9,69,70,71,78,80,84,86,91] ?_);exact A6 m1_13
          ·refine A8 (fuel:=5) 17 [] Ap (Ao [0,3,9,69,70,71,78,80,83,86,92] ?_);exact A6 m1_14
         refine Ci true 6 (lsD 21 [0,1,2,4,5,6,7,8,9,10,11,13,14,15,16]) ⟨[(0,(.ptr 0 0)),(3,(.ptr 4 0)),(9,(.fp (A1 (nth r.pkgs i)))),(69,(Ak 12 A1 r.pkgs)),(70,(.int .i64 ((r.pkgs.length:Int)))),(71,(.int .i64 ((i:Int)))),(77,(.ptr 0 3)),(80,(.str ((nth r.pkgs i).name))),(84,(.map 3)),(86,(.str ((nth r.pkgs i).name))),(91,(.own 2))],[(0,(.row [(.int .i64 st.kind),(.own 1),(.own 2),(.map 3)] 100)),(1,(.grow (st.repos.map Bg) 64 4)),(2,(.grow ((A5 st r i).map Bu) 103 13)),(3,(.mm (Bt (A5 st r i)) none 3 1)),(4,(.row [(.str r.name),(.int .i64 r.prio),(.bool r.inst),(Ak 12 A1 r.pkgs)] 64))],6⟩ ?_ (fun m1_19=>?_)
         ·refine Hg 3 12 17 (by kernel_rfl) ?_ ?_ ?_
          ·refine A8 (fuel:=5) 3 [] Ap (Ao [0,3,9,69,70,71,78,80,84,86,91] ?_);exact A6 m1_13
          ·refine Ce (fuel:=5) 12 rfl (Gh (b:=3) (s:=(nth r.pkgs i).name) (by kernel_rfl) (by kernel_rfl) (by kernel_rfl) underlying98 underlying9 (fun _=>by kernel_rfl) yS ?_);refine Bd ⟨rfl,?_⟩;refine Ao [0,3,9,69,70,71,77,80,87,91] ?_;exact A6 m1_15
          ·refine A8 (fuel:=5) 17 [] Ap (Ao [0,3,9,69,70,71,77,80,84,86,92] ?_);exact A6 m1_16
         refine Cb (fuel:=8) [] [0,1,2,4,5,6,7,8,10,11,13,14,15] [0,3,9,69,70,71,77,80,83,86,90] Ap ?_;refine Hg 3 9 16 (by kernel_rfl) ?_ ?_ ?_
         ·refine A8 (fuel:=7) 3 [] Ap (Ao [0,3,9,69,70,71,78,80,83,86,90] ?_);refine Cl 9 16 (by kernel_rfl) ?_ ?_
          ·refine A8 (fuel:=6) 9 [] Ap (Ao [0,3,9,69,70,71,78,80,84,86,90] ?_);exact A6 m1_17
          ·refine A8 (fuel:=6) 16 [] Ap (Ao [0,3,9,69,70,71,78,80,83,86,91] ?_);exact A6 m1_18
         ·refine A8 (fuel:=7) 9 [] Ap (Ao [0,3,9,69,70,71,77,80,84,86,90] ?_);refine Hg 3 12 16 (by kernel_rfl) ?_ ?_ ?_
          ·refine A8 (fuel:=6) 3 [] Ap (Ao [0,3,9,69,70,71,78,80,84,86,90] ?_);exact A6 m1_17
          ·refine Ce (fuel:=6) 12 rfl (Gh (b:=3) (s:=(nth r.pkgs i).name) (by kernel_rfl) (by kernel_rfl) (by kernel_rfl) underlying98 underlying9 (fun _=>by kernel_rfl) yS ?_);refine Bd ⟨rfl,?_⟩;refine Ao [0,3,9,69,70,71,77,80,87,90] ?_;refine Cl 3 16 (by kernel_rfl) ?_ ?_
           ·refine A8 (fuel:=5) 3 [] Ap (Ao [0,3,9,69,70,71,78,80,87,90] ?_);exact A6 m1_12
           ·refine A8 (fuel:=5) 16 [] Ap (Ao [0,3,9,69,70,71,77,80,87,91] ?_);exact A6 m1_15
          ·refine A8 (fuel:=6) 16 [] Ap (Ao [0,3,9,69,70,71,77,80,84,86,91] ?_);exact A6 m1_19
         ·refine A8 (fuel:=7) 16 [] Ap (Ao [0,3,9,69,70,71,77,80,83,86,91] ?_);refine Hg 3 9 17 (by kernel_rfl) ?_ ?_ ?_
          ·refine A8 (fuel:=6) 3 [] Ap (Ao [0,3,9,69,70,71,78,80,83,86,91] ?_);exact A6 m1_18
          ·refine A8 (fuel:=6) 9 [] Ap (Ao [0,3,9,69,70,71,77,80,84,86,91] ?_);exact A6 m1_19
          ·refine A8 (fuel:=6) 17 [] Ap (Ao [0,3,9,69,70,71,77,80,83,86,92] ?_);refine Hg 3 9 18 (by kernel_rfl) ?_ ?_ ?_
           ·refine A8 (fuel:=5) 3 [] Ap (Ao [0,3,9,69,70,71,78,80,83,86,92] ?_);exact A6 m1_14
           ·refine A8 (fuel:=5) 9 [] Ap (Ao [0,3,9,69,70,71,77,80,84,86,92] ?_);exact A6 m1_16
           ·refine A8 (fuel:=5) 18 [] Ap (Ao [0,3,9,69,70,71,77,80,83,86,93] ?_);refine Cl 3 9 (by kernel_rfl) ?_ ?_
            ·refine A8 (fuel:=4) 3 [] Ap (Ao [0,3,9,69,70,71,78,80,83,86,93] ?_);exact A6 m1_9
            ·refine A8 (fuel:=4) 9 [] Ap (Ao [0,3,9,69,70,71,77,80,84,86,93] ?_);exact A6 m1_11
        ·rintro y3 rfl;refine Hf [] [0,3,69,70,71] [] (hk 6 Q5f (Q6r (nth r.pkgs i) (by have:=(nth r.pkgs i).sizes;have:=hp i (by omega);omega) (by have:=(nth r.pkgs i).sizes;have:=Mx (nth r.pkgs i).files;have:=hp i (by omega);omega))<|hk0) v0 (cc 14 (p:=((((A5 st r i).map Bu).length+1)*264≤140737488355328)) (by omega)<|c0) ?_
         refine⟨by kernel_rfl,(Eq.trans (b:=(⟨[(0,(.ptr 0 0)),(3,(.ptr 4 0)),(69,(Ak 12 A1 r.pkgs)),(70,(.int .i64 ((r.pkgs.length:Int)))),(71,(.int .i64 ((i:Int))))],[(0,(.row [(.int .i64 st.kind),(.own 1),(.own 2),(.map 3)] 100)),(1,(.grow (st.repos.map Bg) 64 4)),(2,(.grow (((A5 st r i).map Bu)++([(.agg [(.str ((nth r.pkgs i).name)),(.str ((nth r.pkgs i).evr)),(.str ((nth r.pkgs i).arch)),(.str ((nth r.pkgs i).vendor)),(Ak 5 Aw ((nth r.pkgs i).provides)),(Ak 5 Aw ((nth r.pkgs i).requires)),(Ak 5 Aw ((nth r.pkgs i).pre)),(Ak 5 Aw ((nth r.pkgs i).conflicts)),(Ak 5 Aw ((nth r.pkgs i).obsoletes)),(Ak 5 Aw ((nth r.pkgs i).recommends)),(Ak 5 Aw ((nth r.pkgs i).supplements)),(Dc ((nth r.pkgs i).files)),(.int .i64 (((st.repos.map Bg).length:Int)))])]:List AV)) 103 13)),(3,(.mm (Bt (A5 st r i++[(nth r.pkgs i,(st.repos.length:Int))])) none 3 1)),(4,(.row [(.str r.name),(.int .i64 r.prio),(.bool r.inst),(Ak 12 A1 r.pkgs)] 64))],5⟩:St)) (by kernel_rfl) (by rw[show(((A5 st r i).map Bu)++([(.agg [(.str ((nth r.pkgs i).name)),(.str ((nth r.pkgs i).evr)),(.str ((nth r.pkgs i).arch)),(.str ((nth r.pkgs i).vendor)),(Ak 5 Aw ((nth r.pkgs i).provides)),(Ak 5 Aw ((nth r.pkgs i).requires)),(Ak 5 Aw ((nth r.pkgs i).pre)),(Ak 5 Aw ((nth r.pkgs i).conflicts)),(Ak 5 Aw ((nth r.pkgs i).obsoletes)),(Ak 5 Aw ((nth r.pkgs i).recommends)),(Ak 5 Aw ((nth r.pkgs i).supplements)),(Dc ((nth r.pkgs i).files)),(.int .i64 (((st.repos.map Bg).length:Int)))])]:List AV))=(A5 st r i++[(nth r.pkgs i,(st.repos.length:Int))]).map Bu from by rw[List.map_append,List.length_map];rfl]<;>kernel_rfl))⟩
       ·rintro y2 rfl;refine Aj (An 0 [] [0,3,69,70,71] [] hk0 v0 (cc 0 (p:=(-9223372036854775808≤(i:Int)+1∧(i:Int)+1≤9223372036854775807)) (by omega)<|c0) ?_);refine⟨by kernel_rfl,_,?_,i+1,?_,(Eq.trans (b:=(⟨[(0,(.ptr 0 0)),(3,(.ptr 4 0)),(69,(Ak 12 A1 r.pkgs)),(70,(.int .i64 ((r.pkgs.length:Int)))),(71,(.int .i64 ((i:Int)+1)))],[(0,(.row [(.int .i64 st.kind),(.own 1),(.own 2),(.map 3)] 100)),(1,(.grow (st.repos.map Bg) 64 4)),(2,(.grow ((A5 st r i++[(nth r.pkgs i,(st.repos.length:Int))]).map Bu) 103 13)),(3,(.mm (Bt (A5 st r i++[(nth r.pkgs i,(st.repos.length:Int))])) none 3 1)),(4,(.row [(.str r.name),(.int .i64 r.prio),(.bool r.inst),(Ak 12 A1 r.pkgs)] 64))],5⟩:St)) (by kernel_rfl) (by rw[←X6b (by omega)]<;>kernel_rfl)),rfl⟩
        ·omega
        ·omega
      ·refine Br (Aa [] [0,3] ?_);refine Ev (fun y=>y=⟨[],[(0,(.row [(.int .i64 st.kind),(.own 1),(.own 2),(.map 3)] 100)),(1,(.grow ((st.repos++[r]).map Bg) 64 4)),(2,(.grow ((A5 st r i).map Bu) 103 13)),(3,(.mm (Bt (A5 st r i)) none 3 1)),(4,(.row [(.str r.name),(.int .i64 r.prio),(.bool r.inst),.nils] 64))],5⟩) [] 5 (by omega) ?_ ?_
       ·refine Hf [] [] [] hk0 v0 (cc 7 (p:=(((st.repos.map Bg).length+1)*56≤140737488355328)) (by omega)<|c0) ?_;refine⟨by kernel_rfl,(Eq.trans (b:=(⟨[],[(0,(.row [(.int .i64 st.kind),(.own 1),(.own 2),(.map 3)] 100)),(1,(.grow ((st.repos.map Bg)++([(.agg [(.str r.name),(.int .i64 r.prio),(.bool r.inst),.nils])]:List AV)) 64 4)),(2,(.grow ((A5 st r i).map Bu) 103 13)),(3,(.mm (Bt (A5 st r i)) none 3 1)),(4,(.row [(.str r.name),(.int .i64 r.prio),(.bool r.inst),.nils] 64))],5⟩:St)) (by kernel_rfl) (by rw[show((st.repos.map Bg)++([(.agg [(.str r.name),(.int .i64 r.prio),(.bool r.inst),.nils])]:List AV))=(st.repos++[r]).map Bg from by rw[List.map_append];rfl]<;>kernel_rfl))⟩
       ·rintro y4 rfl;refine Aa [] [4] (Ad ?_);refine E6 (.inl rfl) (al:=[(.int .i64 0)]) (by kernel_rfl) ?_ ((by kernel_rfl:Di 4 _=some [(0,(.row [(.int .i64 st.kind),(.own 1),(.own 2),(.map 3)] 100)),(1,(.grow ((st.repos++[r]).map Bg) 64 4)),(2,(.grow ((A5 st r i).map Bu) 103 13)),(3,(.mm (Bt (A5 st r i)) none 3 1))]).trans ?_)
        all_goals have hE:C2 st r=0:=by unfold C2;rw[if_neg (by simp only[not_or];simp_all),if_neg (by rintro⟨h1,h2⟩;rw[h1,h2] at c2;simp at c2),if_neg (by omega)];exact Q4w fun j hj=>f1_2 j (by omega)
        ·rw[hE];rfl
        ·unfold Dp;rw[if_pos hE,show i=r.pkgs.length from by omega]
theorem X9y:Ai prog 24:=Am func24
noncomputable def atX (p:Int × Int):AV:=.agg [.int .i64 p.1,.int .i64 p.2]
def Dh (pl:List (Int × Int)) (st:PoolT) (r:RepoT) (i:Nat):List (Int × Int):=pl++(List.range i).map fun (k:Nat)=>((st.repos.length:Int),(k:Int))
def Gv (pl:List (Int × Int)) (st:PoolT) (r:RepoT):List (Int × Int):=if C2 st r=0 then Dh pl st r r.pkgs.length else pl
theorem Q8 {pl:List (Int × Int)} {st:PoolT} {r:RepoT} {e:Int} (h:C2 st r=e) (he:e≠0):Gv pl st r=pl:=by unfold Gv;rw[if_neg (by rw[h];exact he)]
theorem Y3c {pl:List (Int × Int)} {st:PoolT} {r:RepoT} {i:Nat}:Dh pl st r (i+1)=Dh pl st r i++[((st.repos.length:Int),(i:Int))]:=by
 unfold Dh;rw[List.range_succ,List.map_append,List.append_assoc];rfl
theorem Y3d {pl:List (Int × Int)} {st:PoolT} {r:RepoT} {i:Nat}:(Dh pl st r i).length=pl.length+i:=by unfold Dh;simp
theorem Q7z {α:Type} [Inhabited α] {p:α→Bool} {l:List α} {i:Nat} (hi:i < l.length) (h:p (nth l i)=true):l.any p=true:=by
 rw[List.any_eq_true];exact⟨nth l i,by simp[nth,hi],h⟩
theorem M6 {α:Type} [Inhabited α] {p:α→Bool} {l:List α} (h:∀i,i < l.length→p (nth l i)=false):l.any p=false:=by
 rw[List.any_eq_false];intro x hx;obtain⟨j,hj,rfl⟩:=List.getElem_of_mem hx;have:=h j hj;simpa [nth,hj] using this
theorem X2w (st:PoolT) (pl:List (Int × Int)) (r:RepoT) (hr:st.repos.length≤8) (ha:st.all.length≤200) (hpa:pl.length=st.all.length) (hn:r.name.length≤4194304) (hpl:r.pkgs.length≤4194304) (hp:∀i,i < r.pkgs.length→(nth r.pkgs i).size≤4194304) :
  Gz prog 24 [(.ptr 0 0),(.agg [(.str r.name),(.int .i64 r.prio),(.bool r.inst),(Ak 12 A1 r.pkgs)])] [(0,(.row [(.int .i64 st.kind),(.own 1),(.own 2)] 94)),(1,(.grow (st.repos.map Bp) 64 4)),(2,(.grow (pl.map atX) 115 2))] 3 (.int .i64 (C2 st r)) [(0,(.row [(.int .i64 ((Dp st r).kind)),(.own 1),(.own 2)] 94)),(1,(.grow ((Dp st r).repos.map Bp) 64 4)),(2,(.grow ((Gv pl st r).map atX) 115 2))]:=by
 have hml:(st.repos.map Bp).length=st.repos.length:=List.length_map _;have hma:(pl.map atX).length=pl.length:=List.length_map _;refine Nj [.tmp 4] func24 rfl ntmps24 rfl rfl (by kernel_rfl) (by kernel_rfl) (by kernel_rfl) (fun B F hF=>?_);refine Ac [] [0,3] [(1,3)] hk0 v0 c0 (Ac [] [0,3,5] [] (hk 2 Qv (Sj r.name (by omega))<|hk0) v0 c0 ?_);refine Ab (Aa [] [0,3,15] ?_);refine A7 (q:=!(Bh r.name)) (fun c1=>?_) fun c1=>?_
 ·try simp only[Aq] at c1
  refine Aa [] [4] (Ad ?_);refine E6 (.inl rfl) (al:=[(.int .i64 66)]) (by kernel_rfl) ?_ ((by kernel_rfl:Di 3 _=some [(0,(.row [(.int .i64 st.kind),(.own 1),(.own 2)] 94)),(1,(.grow (st.repos.map Bp) 64 4)),(2,(.grow (pl.map atX) 115 2))]).trans ?_)
  all_goals have hE:C2 st r=66:=by unfold C2;rw[if_pos (.inl c1)]
  ·rw[hE];rfl
  ·rw[Kx hE (by decide),Q8 hE (by decide)]
 ·try simp only[Aq] at c1
  refine Ae ?_;refine Ab (Aa [] [0,3,6] ?_);refine Au (B4 (fun g y=>∃(i:Nat),i≤st.repos.length∧(∀j,j < i→¬(nth st.repos j).name=r.name)∧y=⟨[(0,(.ptr 0 0)),(3,(.fp (.agg [(.str r.name),(.int .i64 r.prio),(.bool r.inst),(Ak 12 A1 r.pkgs)]))),(6,(.int .i64 ((i:Int))))],[(0,(.row [(.int .i64 st.kind),(.own 1),(.own 2)] 94)),(1,(.grow (st.repos.map Bp) 64 4)),(2,(.grow (pl.map atX) 115 2))],4⟩∧g=st.repos.length-i) [0,3,6] 4 _ (by omega) ⟨0,(by omega),(by exact fun j hj=>by omega),(by kernel_rfl),rfl⟩ ?_);rintro g1 y1 ⟨i,f1_1,f1_2,rfl,rfl⟩;refine Ab (Aa [] [0,3,6,22] ?_);refine A4 (p:=(i:Int) < ((st.repos.map Bp).length:Int)) (fun c2=>?_) fun c2=>?_
  ·refine Ae (Ab ?_);refine Au (Ab ?_);refine E5 (by kernel_rfl) (fun F1 hF1=>?_);refine Cb (fuel:=5) [] [0,1,2,4,8,9] [0,3,6,27,29,34] Ap ?_;refine C8 (fuel:=4) 3 [] Ap (C6 (fuel:=3) 5 (by kernel_rfl) ?_);refine Ce (fuel:=3) 5 rfl (Ng (b:=1) (i:=i) (es:=st.repos.map Bp) (e:=64) (sz:=4) (k:=.i64) (by kernel_rfl) (by kernel_rfl) (by kernel_rfl) (by kernel_rfl) (by kernel_rfl) (by kernel_rfl) (by(rw[List.length_map];omega)) pS ?_);refine Bd ⟨rfl,?_⟩;refine C6 (fuel:=2) 6 (by kernel_rfl) ?_;refine Ce (fuel:=2) 6 rfl (Gy (b:=1) (o:=i*4) (off:=0) (by kernel_rfl) (by kernel_rfl) (by kernel_rfl) pS ?_);refine Bd ⟨rfl,?_⟩;refine C6 (fuel:=1) 7 (by kernel_rfl) ?_;refine Ce (fuel:=1) 7 rfl (Ur (b:=1) (e:=64) (sz:=4) (es:=st.repos.map Bp) (o:=i*4+0) (i:=i) (j:=0) (a:=(.agg [(.str ((nth st.repos i).name)),(.int .i64 ((nth st.repos i).prio)),(.bool ((nth st.repos i).inst)),(Ak 12 A1 ((nth st.repos i).pkgs))])) (r:=(.str ((nth st.repos i).name))) (by kernel_rfl) (by kernel_rfl) rfl (by kernel_rfl) (Tl (l:=st.repos) Bp (by omega)) (by kernel_rfl) pS ?_);refine Bd ⟨rfl,?_⟩;refine Cb (fuel:=0) [] [10] [0,3,6,35] Ap (Ao [0,3,6,35] ?_)
   refine Ek (by kernel_rfl) ?_;refine A4 (p:=(nth st.repos i).name=r.name) (fun c3=>?_) fun c3=>?_
   ·refine Aa [] [4] (Ad ?_);refine E6 (.inl rfl) (al:=[(.int .i64 66)]) (by kernel_rfl) ?_ ((by kernel_rfl:Di 3 _=some [(0,(.row [(.int .i64 st.kind),(.own 1),(.own 2)] 94)),(1,(.grow (st.repos.map Bp) 64 4)),(2,(.grow (pl.map atX) 115 2))]).trans ?_)
    all_goals have hE:C2 st r=66:=by unfold C2;rw[if_pos (.inr (Q7z (i:=i) (by omega) (decide_eq_true (by assumption))))]
    ·rw[hE];rfl
    ·rw[Kx hE (by decide),Q8 hE (by decide)]
   ·refine Ae ?_;refine Aj (An 0 [] [0,3,6] [] hk0 v0 (cc 1 (p:=(-9223372036854775808≤(i:Int)+1∧(i:Int)+1≤9223372036854775807)) (by omega)<|c0) ?_);refine⟨by kernel_rfl,_,?_,i+1,?_,?_,(by kernel_rfl),rfl⟩
    ·omega
    ·omega
    ·intro j hj;by_cases h:j=i
     ·subst h;assumption
     ·exact f1_2 j (by omega)
  ·refine Br ?_;refine Ab (Aa [] [0,3,7] ?_);refine Au (B4 (fun g y=>∃(i:Nat),i≤st.repos.length∧(∀j,j < i→(r.inst&&(nth st.repos j).inst)=false)∧y=⟨[(0,(.ptr 0 0)),(3,(.fp (.agg [(.str r.name),(.int .i64 r.prio),(.bool r.inst),(Ak 12 A1 r.pkgs)]))),(7,(.int .i64 ((i:Int))))],[(0,(.row [(.int .i64 st.kind),(.own 1),(.own 2)] 94)),(1,(.grow (st.repos.map Bp) 64 4)),(2,(.grow (pl.map atX) 115 2))],4⟩∧g=st.repos.length-i) [0,3,7] 4 _ (by omega) ⟨0,(by omega),(by exact fun j hj=>by omega),(by kernel_rfl),rfl⟩ ?_);rintro g2 y2 ⟨i,f2_1,f2_2,rfl,rfl⟩;refine Ab (Aa [] [0,3,7,42] ?_);refine A4 (p:=(i:Int) < ((st.repos.map Bp).length:Int)) (fun c4=>?_) fun c4=>?_
   ·refine Ae (Ab ?_);refine Au (Ab ?_);refine Aj (A9 3 0 [] [0,3,7,47] [] hk0 v0 c0 ?_);refine I6 r.inst (fun c5=>?_) (fun c5=>?_)
    ·refine J4 47 (a:=.bool r.inst) (.bool true) (by kernel_rfl) (Imp.of_eq (by rw[c5])) (A9 5 3 [] [0,3,7,47,51,52] [] hk0 v0 c0 ?_);refine Ng (b:=1) (i:=i) (es:=st.repos.map Bp) (e:=64) (sz:=4) (k:=.i64) (by kernel_rfl) (by kernel_rfl) (by kernel_rfl) (by kernel_rfl) (by kernel_rfl) (by kernel_rfl) (by(rw[List.length_map];omega)) pS (Gy (b:=1) (o:=i*4) (off:=2) (by kernel_rfl) (by kernel_rfl) (by kernel_rfl) pS ?_);refine Ur (b:=1) (e:=64) (sz:=4) (es:=st.repos.map Bp) (o:=i*4+2) (i:=i) (j:=2) (a:=(.agg [(.str ((nth st.repos i).name)),(.int .i64 ((nth st.repos i).prio)),(.bool ((nth st.repos i).inst)),(Ak 12 A1 ((nth st.repos i).pkgs))])) (r:=(.bool ((nth st.repos i).inst))) (by kernel_rfl) (by kernel_rfl) rfl (by kernel_rfl) (Tl (l:=st.repos) Bp (by omega)) (by kernel_rfl) pS (An 11 [] [0,3,7,56] [] hk0 v0 c0 ?_);refine A7 (q:=(nth st.repos i).inst) (fun c6=>?_) fun c6=>?_
     ·refine Aa [] [4] (Ad ?_);refine E6 (.inl rfl) (al:=[(.int .i64 67)]) (by kernel_rfl) ?_ ((by kernel_rfl:Di 3 _=some [(0,(.row [(.int .i64 st.kind),(.own 1),(.own 2)] 94)),(1,(.grow (st.repos.map Bp) 64 4)),(2,(.grow (pl.map atX) 115 2))]).trans ?_)
      all_goals have hN:=M6 (l:=st.repos) (p:=fun o=>decide (o.name=r.name)) (fun j hj=>by simpa using f1_2 j (by omega))
      all_goals have hA:¬(Bh r.name=false∨st.repos.any (fun o=>decide (o.name=r.name))=true):=fun h=>h.elim (fun h=>by rw[c1] at h;cases h) (fun h=>by rw[hN] at h;cases h)
      all_goals have hE:C2 st r=67:=by unfold C2;rw[if_neg hA,if_pos ⟨by assumption,Q7z (i:=i) (by omega) (by assumption)⟩]
      ·rw[hE];rfl
      ·rw[Kx hE (by decide),Q8 hE (by decide)]
     ·refine Ae ?_;refine Aj (An 0 [] [0,3,7] [] hk0 v0 (cc 1 (p:=(-9223372036854775808≤(i:Int)+1∧(i:Int)+1≤9223372036854775807)) (by omega)<|c0) ?_);refine⟨by kernel_rfl,_,?_,i+1,?_,?_,(by kernel_rfl),rfl⟩
      ·omega
      ·omega
      ·intro j hj;by_cases h:j=i
       ·subst h;simp_all
       ·exact f2_2 j (by omega)
    ·refine J4 47 (a:=.bool r.inst) (.bool false) (by kernel_rfl) (Imp.of_eq (by rw[c5])) (An 3 [] [0,3,7,56] [] hk0 v0 c0 ?_);refine Cy (Ae ?_);refine Aj (An 0 [] [0,3,7] [] hk0 v0 (cc 1 (p:=(-9223372036854775808≤(i:Int)+1∧(i:Int)+1≤9223372036854775807)) (by omega)<|c0) ?_);refine⟨by kernel_rfl,_,?_,i+1,?_,?_,(by kernel_rfl),rfl⟩
     ·omega
     ·omega
     ·intro j hj;by_cases h:j=i
      ·subst h;simp_all
      ·exact f2_2 j (by omega)
   ·refine Br (Ab ?_);refine Ev (fun y=>y=⟨[(0,(.ptr 0 0)),(3,(.fp (.agg [(.str r.name),(.int .i64 r.prio),(.bool r.inst),(Ak 12 A1 r.pkgs)]))),(74,(.bool (decide ((8:Int)≤((st.repos.map Bp).length:Int))||decide ((200:Int) < ((pl.map atX).length:Int)+(r.pkgs.length:Int)))))],[(0,(.row [(.int .i64 st.kind),(.own 1),(.own 2)] 94)),(1,(.grow (st.repos.map Bp) 64 4)),(2,(.grow (pl.map atX) 115 2))],4⟩) [0,3,74] 4 (by omega) ?_ ?_
    ·refine Hf (CS:=[(8,((!(decide (8≤((st.repos.map Bp).length:Int))))=true→(!(decide (8≤((st.repos.map Bp).length:Int))))=true)),(9,((!(decide (8≤((st.repos.map Bp).length:Int))))=true→(!(decide (8≤((st.repos.map Bp).length:Int))))=true)),(10,((!(decide (8≤((st.repos.map Bp).length:Int))))=true→(!(decide (8≤((st.repos.map Bp).length:Int))))=true)),(11,((!(decide (8≤((st.repos.map Bp).length:Int))))=true→(!(decide (8≤((st.repos.map Bp).length:Int))))=true)),(13,((!(decide (8≤((st.repos.map Bp).length:Int))))=true→(!(decide (8≤((st.repos.map Bp).length:Int))))=true)),(14,((!(decide (8≤((st.repos.map Bp).length:Int))))=true→(!(decide (8≤((st.repos.map Bp).length:Int))))=true)),(15,((!(decide (8≤((st.repos.map Bp).length:Int))))=true→((!(decide (8≤((st.repos.map Bp).length:Int))))=true∧(!(decide (8≤((st.repos.map Bp).length:Int))))=true)∧(-9223372036854775808≤((pl.map atX).length:Int)+(r.pkgs.length:Int)∧((pl.map atX).length:Int)+(r.pkgs.length:Int)≤9223372036854775807))),(16,((!(decide (8≤((st.repos.map Bp).length:Int))))=true→(!(decide (8≤((st.repos.map Bp).length:Int))))=true)),(17,((decide (8≤((st.repos.map Bp).length:Int)))=false→(!(decide (8≤((st.repos.map Bp).length:Int))))=true))]) [64,65,66,67,68,69,70,71,72,73] [0,3,74] [] hk0 v0 (by refine cc _ ?_<|cc _ ?_<|cc _ ?_<|cc _ ?_<|cc _ ?_<|cc _ ?_<|cc _ ?_<|cc _ ?_<|cc _ ?_ c0<;>first|omega|(simp;omega)|(simp;done)|(intros;simp_all;omega)|(intros;simp_all;done)) ?_
     refine⟨by kernel_rfl,(by kernel_rfl)⟩
    ·rintro y1 rfl;refine A7 (q:=decide ((8:Int)≤((st.repos.map Bp).length:Int))||decide ((200:Int) < ((pl.map atX).length:Int)+(r.pkgs.length:Int))) (fun c7=>?_) fun c7=>?_
     ·try simp only[Aq] at c7
      refine Aa [] [4] (Ad ?_);refine E6 (.inl rfl) (al:=[(.int .i64 68)]) (by kernel_rfl) ?_ ((by kernel_rfl:Di 3 _=some [(0,(.row [(.int .i64 st.kind),(.own 1),(.own 2)] 94)),(1,(.grow (st.repos.map Bp) 64 4)),(2,(.grow (pl.map atX) 115 2))]).trans ?_)
      all_goals have hN:=M6 (l:=st.repos) (p:=fun o=>decide (o.name=r.name)) (fun j hj=>by simpa using f1_2 j (by omega))
      all_goals have hA:¬(Bh r.name=false∨st.repos.any (fun o=>decide (o.name=r.name))=true):=fun h=>h.elim (fun h=>by rw[c1] at h;cases h) (fun h=>by rw[hN] at h;cases h)
      all_goals have hI:¬(r.inst=true∧st.repos.any (fun o=>o.inst)=true):=fun⟨h1,h2⟩=>by rw[M6 (fun j hj=>by have:=f2_2 j (by omega);simpa [h1] using this)] at h2;cases h2
      all_goals have hE:C2 st r=68:=by unfold C2;rw[if_neg hA,if_neg hI,if_pos (by omega)]
      ·rw[hE];rfl
      ·rw[Kx hE (by decide),Q8 hE (by decide)]
     ·try simp only[Aq] at c7
      refine Ae ?_;refine Ab (Aa [] [0,3,8] ?_);refine Au (B4 (fun g y=>∃(i:Nat),i≤r.pkgs.length∧(∀j,j < i→Eg (nth r.pkgs j)=0)∧y=⟨[(0,(.ptr 0 0)),(3,(.fp (.agg [(.str r.name),(.int .i64 r.prio),(.bool r.inst),(Ak 12 A1 r.pkgs)]))),(8,(.int .i64 ((i:Int))))],[(0,(.row [(.int .i64 st.kind),(.own 1),(.own 2)] 94)),(1,(.grow (st.repos.map Bp) 64 4)),(2,(.grow (pl.map atX) 115 2))],4⟩∧g=r.pkgs.length-i) [0,3,8] 4 _ (by omega) ⟨0,(by omega),(by exact fun j hj=>by omega),(by kernel_rfl),rfl⟩ ?_);rintro g3 y3 ⟨i,f3_1,f3_2,rfl,rfl⟩;refine Ab (Aa [] [0,3,8,79] ?_);refine A4 (p:=(i:Int) < (r.pkgs.length:Int)) (fun c8=>?_) fun c8=>?_
      ·refine Ae (Ab ?_);refine Au (Ac [] [0,3,8,9] [] (hk 5 X9g (X2t (nth r.pkgs i) (hp i (by omega)))<|hk0) v0 (cc 3 (p:=(0≤(i:Int)∧i < r.pkgs.length)) (by omega)<|c0) ?_);refine Aa [] [0,3,8,9,89] ?_;refine C7 (p:=(Eg (nth r.pkgs i))=0) (fun c9=>?_) fun c9=>?_
       ·refine Aa [] [4] (Ad ?_);refine E6 (.inl rfl) (al:=[(.int .i64 (Eg (nth r.pkgs i)))]) (by kernel_rfl) ?_ ((by kernel_rfl:Di 3 _=some [(0,(.row [(.int .i64 st.kind),(.own 1),(.own 2)] 94)),(1,(.grow (st.repos.map Bp) 64 4)),(2,(.grow (pl.map atX) 115 2))]).trans ?_)
        all_goals have hN:=M6 (l:=st.repos) (p:=fun o=>decide (o.name=r.name)) (fun j hj=>by simpa using f1_2 j (by omega))
        all_goals have hA:¬(Bh r.name=false∨st.repos.any (fun o=>decide (o.name=r.name))=true):=fun h=>h.elim (fun h=>by rw[c1] at h;cases h) (fun h=>by rw[hN] at h;cases h)
        all_goals have hI:¬(r.inst=true∧st.repos.any (fun o=>o.inst)=true):=fun⟨h1,h2⟩=>by rw[M6 (fun j hj=>by have:=f2_2 j (by omega);simpa [h1] using this)] at h2;cases h2
        all_goals have hE:C2 st r=Eg (nth r.pkgs i):=by unfold C2;rw[if_neg hA,if_neg hI,if_neg (by omega)];exact W8 (by omega) f3_2 (by assumption)
        ·rw[hE];rfl
        ·rw[Kx hE (by assumption),Q8 hE (by assumption)]
       ·refine Ae ?_;refine Aj (An 0 [] [0,3,8] [] hk0 v0 (cc 1 (p:=(-9223372036854775808≤(i:Int)+1∧(i:Int)+1≤9223372036854775807)) (by omega)<|c0) ?_);refine⟨by kernel_rfl,_,?_,i+1,?_,?_,(by kernel_rfl),rfl⟩
        ·omega
        ·omega
        ·intro j hj;by_cases h:j=i
         ·subst h;simp_all
         ·exact f3_2 j (by omega)
      ·refine Br ?_;refine Ab (Aa [] [0,3,10] ?_);refine Au (B4 (fun g y=>∃(i:Nat),i≤r.pkgs.length∧y=⟨[(0,(.ptr 0 0)),(3,(.fp (.agg [(.str r.name),(.int .i64 r.prio),(.bool r.inst),(Ak 12 A1 r.pkgs)]))),(10,(.int .i64 ((i:Int))))],[(0,(.row [(.int .i64 st.kind),(.own 1),(.own 2)] 94)),(1,(.grow (st.repos.map Bp) 64 4)),(2,(.grow ((Dh pl st r i).map atX) 115 2))],4⟩∧g=r.pkgs.length-i) [0,3,10] 4 _ (by omega) ⟨0,(by omega),(Eq.trans (b:=(⟨[(0,(.ptr 0 0)),(3,(.fp (.agg [(.str r.name),(.int .i64 r.prio),(.bool r.inst),(Ak 12 A1 r.pkgs)]))),(10,(.int .i64 0))],[(0,(.row [(.int .i64 st.kind),(.own 1),(.own 2)] 94)),(1,(.grow (st.repos.map Bp) 64 4)),(2,(.grow (pl.map atX) 115 2))],4⟩:St)) (by kernel_rfl) (by rw[show Dh pl st r 0=pl from by simp[Dh]]<;>rfl)),rfl⟩ ?_);rintro g4 y4 ⟨i,f4_1,rfl,rfl⟩
       have hkl:((Dh pl st r i).map atX).length≤200:=by rw[List.length_map,Y3d];omega
       refine Ab (Aa [] [0,3,10,95] ?_);refine A4 (p:=(i:Int) < (r.pkgs.length:Int)) (fun c10=>?_) fun c10=>?_
       ·refine Ae ?_;refine Ev (fun y=>y=⟨[(0,(.ptr 0 0)),(3,(.fp (.agg [(.str r.name),(.int .i64 r.prio),(.bool r.inst),(Ak 12 A1 r.pkgs)]))),(10,(.int .i64 ((i:Int))))],[(0,(.row [(.int .i64 st.kind),(.own 1),(.own 2)] 94)),(1,(.grow (st.repos.map Bp) 64 4)),(2,(.grow ((Dh pl st r (i+1)).map atX) 115 2))],4⟩) [0,3,10] 4 (by omega) ?_ ?_
        ·refine Au (Hf [] [0,3,10] [] hk0 v0 (cc 13 (p:=((((Dh pl st r i).map atX).length+1)*16≤140737488355328)) (by omega)<|c0) ?_);refine⟨by kernel_rfl,(Eq.trans (b:=(⟨[(0,(.ptr 0 0)),(3,(.fp (.agg [(.str r.name),(.int .i64 r.prio),(.bool r.inst),(Ak 12 A1 r.pkgs)]))),(10,(.int .i64 ((i:Int))))],[(0,(.row [(.int .i64 st.kind),(.own 1),(.own 2)] 94)),(1,(.grow (st.repos.map Bp) 64 4)),(2,(.grow (((Dh pl st r i).map atX)++([(.agg [(.int .i64 (((st.repos.map Bp).length:Int))),(.int .i64 ((i:Int)))])]:List AV)) 115 2))],4⟩:St)) (by kernel_rfl) (by rw[show(((Dh pl st r i).map atX)++([(.agg [(.int .i64 (((st.repos.map Bp).length:Int))),(.int .i64 ((i:Int)))])]:List AV))=(Dh pl st r (i+1)).map atX from by rw[Y3c,List.map_append,List.length_map];rfl]<;>kernel_rfl))⟩
        ·rintro y2 rfl;refine Aj (An 0 [] [0,3,10] [] hk0 v0 (cc 1 (p:=(-9223372036854775808≤(i:Int)+1∧(i:Int)+1≤9223372036854775807)) (by omega)<|c0) ?_);refine⟨by kernel_rfl,_,?_,i+1,?_,(by kernel_rfl),rfl⟩
         ·omega
         ·omega
       ·refine Br ?_;refine Ev (fun y=>y=⟨[],[(0,(.row [(.int .i64 st.kind),(.own 1),(.own 2)] 94)),(1,(.grow ((st.repos++[r]).map Bp) 64 4)),(2,(.grow ((Dh pl st r i).map atX) 115 2))],4⟩) [] 4 (by omega) ?_ ?_
        ·refine Hf [] [] [] hk0 v0 (cc 7 (p:=(((st.repos.map Bp).length+1)*56≤140737488355328)) (by omega)<|c0) ?_;refine⟨by kernel_rfl,(Eq.trans (b:=(⟨[],[(0,(.row [(.int .i64 st.kind),(.own 1),(.own 2)] 94)),(1,(.grow ((st.repos.map Bp)++([(.agg [(.str r.name),(.int .i64 r.prio),(.bool r.inst),(Ak 12 A1 r.pkgs)])]:List AV)) 64 4)),(2,(.grow ((Dh pl st r i).map atX) 115 2))],4⟩:St)) (by kernel_rfl) (by rw[show((st.repos.map Bp)++([(.agg [(.str r.name),(.int .i64 r.prio),(.bool r.inst),(Ak 12 A1 r.pkgs)])]:List AV))=(st.repos++[r]).map Bp from by rw[List.map_append];rfl]<;>kernel_rfl))⟩
        ·rintro y3 rfl;refine Aa [] [4] (Ad ?_);refine E6 (.inl rfl) (al:=[(.int .i64 0)]) (by kernel_rfl) ?_ ((by kernel_rfl:Di 3 _=some [(0,(.row [(.int .i64 st.kind),(.own 1),(.own 2)] 94)),(1,(.grow ((st.repos++[r]).map Bp) 64 4)),(2,(.grow ((Dh pl st r i).map atX) 115 2))]).trans ?_)
         all_goals have hN:=M6 (l:=st.repos) (p:=fun o=>decide (o.name=r.name)) (fun j hj=>by simpa using f1_2 j (by omega))
         all_goals have hA:¬(Bh r.name=false∨st.repos.any (fun o=>decide (o.name=r.name))=true):=fun h=>h.elim (fun h=>by rw[c1] at h;cases h) (fun h=>by rw[hN] at h;cases h)
         all_goals have hI:¬(r.inst=true∧st.repos.any (fun o=>o.inst)=true):=fun⟨h1,h2⟩=>by rw[M6 (fun j hj=>by have:=f2_2 j (by omega);simpa [h1] using this)] at h2;cases h2
         all_goals have hE:C2 st r=0:=by unfold C2;rw[if_neg hA,if_neg hI,if_neg (by omega)];exact Q4w fun j hj=>f3_2 j (by omega)
         ·rw[hE];rfl
         ·unfold Dp Gv;rw[if_pos hE,if_pos hE,show i=r.pkgs.length from by omega]
theorem Xh:Ai prog 7:=Am func7
theorem X96:Ai prog 21:=Am func21
theorem X94:Ai prog 22:=Am func22
def Ar (k:Int):Int:=if k=2 then 2 else 1
theorem Q3r (k:Int):Ar k=1∨Ar k=2:=by unfold Ar;split<;>simp
theorem X6a {k:Int} (h:k=2):Ar k=k:=by unfold Ar;rw[if_pos h,h]
def Jl:List PkgT→Nat
 |[]=>0
 |p::r=>1+p.size+Jl r
theorem Q09:∀l:List PkgT,l.length≤Jl l
 |[]=>Nat.zero_le _
 |p::r=>by have:=Q09 r;simp only[Jl,List.length_cons];omega
theorem Q1a:∀{l:List PkgT} {i:Nat},i < l.length→(nth l i).size≤Jl l
 |[],_,h=>by simp at h
 |p::r,0,_=>by simp only[Jl];show p.size≤_;omega
 |p::r,i+1,h=>by
  have:=Q1a (l:=r) (i:=i) (by simpa using h);simp only[Jl];show(nth r i).size≤_;omega
def _root_.Go.Proofs.YtglcebdfdehidaaGreatDoor.RepoT.size (r:RepoT):Nat:=1+r.name.length+Jl r.pkgs
theorem _root_.Go.Proofs.YtglcebdfdehidaaGreatDoor.RepoT.sizes (r:RepoT):r.name.length≤r.size∧r.pkgs.length≤r.size:=by
 have:=Q09 r.pkgs;unfold RepoT.size;omega
theorem _root_.Go.Proofs.YtglcebdfdehidaaGreatDoor.RepoT.size_pkg {r:RepoT} {i:Nat} (h:i < r.pkgs.length):(nth r.pkgs i).size≤r.size:=by
 have:=Q1a h;unfold RepoT.size;omega
def As (k:Int) (l:List RepoT):PoolT × List (Int × Int):=l.foldl (fun s r=>(Dp s.1 r,Gv s.2 s.1 r)) (⟨k,[],[]⟩,[])
def M2 (s:PoolT × List (Int × Int)):Prop:=s.1.repos.length≤8∧s.1.all.length≤200∧s.2.length=s.1.all.length
theorem Y22 {s:PoolT × List (Int × Int)} {r:RepoT} (h:M2 s):M2 (Dp s.1 r,Gv s.2 s.1 r):=by
 obtain⟨h1,h2,h3⟩:=h;by_cases he:C2 s.1 r=0
 ·have hm:¬(8≤s.1.repos.length∨200 < s.1.all.length+r.pkgs.length):=by
   intro q;unfold C2 at he;rw[if_pos q] at he
   split at he<;>first|omega|(split at he<;>omega)
  unfold M2 Dp Gv;simp only[if_pos he,List.length_append,List.length_singleton,A5,Dh,List.length_map,List.length_take,List.length_range];omega
 ·unfold M2 Dp Gv;rw[if_neg he,if_neg he];exact⟨h1,h2,h3⟩
theorem Q7c (k:Int) (l:List RepoT):M2 (As k l):=by
 have key:∀(l:List RepoT) (s:PoolT × List (Int × Int)),M2 s→M2 (l.foldl (fun s r=>(Dp s.1 r,Gv s.2 s.1 r)) s):=by
  intro l
  induction l with
  |nil=>exact fun s h=>h
  |cons r l ih=>exact fun s h=>ih _ (Y22 h)
 exact key l _ ⟨by simp,by simp,by simp⟩
theorem Y20 {k:Int} {l:List RepoT} {i:Nat} (h:i < l.length):As k (l.take (i+1))=(Dp (As k (l.take i)).1 (nth l i),Gv (As k (l.take i)).2 (As k (l.take i)).1 (nth l i)):=by
 unfold As;rw[List.take_add_one,List.getElem?_eq_getElem h,List.foldl_append];simp[nth,h]
noncomputable def Co (st:PoolT):AV:=.agg [.int .i64 st.kind,Ak 4 Bg st.repos,Ak 13 Bu st.all,.smap (.slice none 0 0) (fun s => .row 1 (Bt st.all s).length (fun i=>(Bt st.all s).getD i Bl))]
noncomputable def Q02 (st:PoolT) (pl:List (Int × Int)):AV:=.agg [.int .i64 st.kind,Ak 4 Bp st.repos,Ak 2 atX pl]
theorem Yx (kind:Int) (l:List RepoT) (hll:l.length≤4611686018427387904) (hl:∀i,i < l.length→(nth l i).size≤4194304) :
  FnV prog 7 [(.int .i64 kind),(Ak 4 Bp l)] (.tup [.fp (Co (As (Ar kind) l).1),.fp (Q02 (As (Ar kind) l).1 (As (Ar kind) l).2)]):=by
 refine Ax [.tmp 4,.tmp 5] func7 ntmps7 fun B F hF=>?_;refine Aa [] [0,1] ?_;refine Ev (fun y=>y=⟨[(0,(.int .i64 ((Ar kind)))),(1,(Ak 4 Bp l))],[],0⟩) [0,1] 0 (by omega) ?_ ?_
 ·refine Aa [] [0,1,12] ?_;refine C7 (p:=kind=2) (fun c1=>?_) fun c1=>?_
  ·refine Aj (Ex [] [0,1] ?_);refine⟨by kernel_rfl,(Eq.trans (b:=(⟨[(0,(.int .i64 1)),(1,(Ak 4 Bp l))],[],0⟩:St)) (by kernel_rfl) (by rw[show Ar kind=1 from if_neg (by assumption)]<;>rfl))⟩
  ·refine Ae ?_;refine⟨by kernel_rfl,(Eq.trans (b:=(⟨[(0,(.int .i64 kind)),(1,(Ak 4 Bp l))],[],0⟩:St)) (by kernel_rfl) (by rw[show Ar kind=kind from X6a (by omega)]<;>rfl))⟩
 ·rintro y1 rfl;refine Ab ?_;refine Aj (A9 1 0 [] [0,1,14] [] hk0 v0 c0 ?_);refine K3 [.tmp 2,.tmp 3] (al:=[(.int .i64 ((Ar kind)))]) (s0:=[(0,(.int .i64 ((Ar kind)))),(1,(Ak 4 Bp l)),(14,(.int .i64 ((Ar kind))))]) (by kernel_rfl) (by exact X96) (by kernel_rfl) func21 rfl ntmps21 rfl (by kernel_rfl) (by kernel_rfl) (fun F1 hF1 hle1=>?_);refine Aa [] [0] (Ab ?_)
  obtain⟨b1_1,hb1_1⟩:∃b,b=(!decide ((Ar kind)=1)):=⟨_,rfl⟩
  refine Ac (CS:=[(4,(b1_1=true→b1_1=true)),(5,(b1_1=true→b1_1=true))]) [7,8] [0,9] [] hk0 (vk 3 6 (a:=.bool (!decide ((Ar kind)=1))) (b:=.bool b1_1) (Imp.of_eq (by rw[hb1_1]))<|v0) (by refine cc _ ?_<|cc _ ?_ c0<;>simp) ?_;refine A7 (q:=b1_1&&(!decide ((Ar kind)=2))) (fun c2=>?_) fun c2=>?_
  ·subst hb1_1
   try simp only[Aq] at c2
   exact absurd (Q3r kind) fun h=>h.elim c2.1 c2.2
  ·subst hb1_1
   try simp only[Aq] at c2
   refine Ae (Aa [] [2,3] ?_);refine Ad (Iw (.inl rfl) (al:=[(.ptr 1 0),(.int .i64 0)]) (s':=[(0,(.int .i64 ((Ar kind)))),(1,(Ak 4 Bp l)),(14,(.int .i64 ((Ar kind)))),(15,(.tup [(.ptr 1 0),(.int .i64 0)]))]) (by kernel_rfl) (by kernel_rfl) ?_);refine An 2 [] [0,1,6,7] [] hk0 v0 c0 (Ab ?_);refine Aj (A9 1 0 [] [1,6,7,19] [] hk0 v0 c0 ?_);refine K3 [.tmp 2,.tmp 3] (al:=[(.int .i64 ((Ar kind)))]) (s0:=[(1,(Ak 4 Bp l)),(6,(.ptr 1 0)),(7,(.int .i64 0)),(19,(.int .i64 ((Ar kind))))]) (by kernel_rfl) (by exact X94) (by kernel_rfl) func22 rfl ntmps22 rfl (by kernel_rfl) (by kernel_rfl) (fun F2 hF2 hle2=>?_);refine Aa [] [0] (Ab ?_)
   obtain⟨b2_1,hb2_1⟩:∃b,b=(!decide ((Ar kind)=1)):=⟨_,rfl⟩
   refine Ac (CS:=[(4,(b2_1=true→b2_1=true)),(5,(b2_1=true→b2_1=true))]) [7,8] [0,9] [] hk0 (vk 3 6 (a:=.bool (!decide ((Ar kind)=1))) (b:=.bool b2_1) (Imp.of_eq (by rw[hb2_1]))<|v0) (by refine cc _ ?_<|cc _ ?_ c0<;>simp) ?_;refine A7 (q:=b2_1&&(!decide ((Ar kind)=2))) (fun c3=>?_) fun c3=>?_
   ·subst hb2_1
    try simp only[Aq] at c3
    exact absurd (Q3r kind) fun h=>h.elim c3.1 c3.2
   ·subst hb2_1
    try simp only[Aq] at c3
    refine Ae ?_;refine Aa [] [2,3] (Ad ?_);refine Iw (.inl rfl) (al:=[(.ptr 2 0),(.int .i64 0)]) (s':=[(1,(Ak 4 Bp l)),(6,(.ptr 1 0)),(7,(.int .i64 0)),(19,(.int .i64 ((Ar kind)))),(20,(.tup [(.ptr 2 0),(.int .i64 0)]))]) (by kernel_rfl) (by kernel_rfl) (An 2 [] [1,6,7,8] [] hk0 v0 c0 ?_);refine Ab (Aa [] [1,6,8,28] ?_);refine Cy (Ae ?_);refine Ab (Aa [] [1,6,8,10] ?_);refine Au (Rc 64 4 1 1 (by kernel_rfl) yS ?_);refine Rc 103 13 1 2 (by kernel_rfl) yS (Rc 64 4 2 1 (by kernel_rfl) yS ?_);refine Rc 115 2 2 2 (by kernel_rfl) yS (Q8t 0 3 1 yS ?_)
    refine B4 (fun g y=>∃(i:Nat),i≤l.length∧y=⟨[(1,(Ak 4 Bp l)),(6,(.ptr 1 0)),(8,(.ptr 2 0)),(10,(.int .i64 ((i:Int))))],[(0,(.mm (Bt ((As (Ar kind) (l.take i)).1).all) none 3 1)),(1,(.row [(.int .i64 ((As (Ar kind) (l.take i)).1.kind)),(.own 3),(.own 4),(.map 0)] 100)),(2,(.row [(.int .i64 ((As (Ar kind) (l.take i)).1.kind)),(.own 5),(.own 6)] 94)),(3,(.grow (((As (Ar kind) (l.take i)).1).repos.map Bg) 64 4)),(4,(.grow (((As (Ar kind) (l.take i)).1).all.map Bu) 103 13)),(5,(.grow (((As (Ar kind) (l.take i)).1).repos.map Bp) 64 4)),(6,(.grow (((As (Ar kind) (l.take i)).2).map atX) 115 2))],7⟩∧g=l.length-i) [1,6,8,10] 7 _ (by omega) ⟨0,(by omega),(by kernel_rfl),rfl⟩ ?_;rintro g1 y1 ⟨i,f1_1,rfl,rfl⟩;have hb:=Q7c (Ar kind) (l.take i);refine Ab (Aa [] [1,6,8,10,32] ?_);refine A4 (p:=(i:Int) < (l.length:Int)) (fun c4=>?_) fun c4=>?_
    ·have hz:=RepoT.sizes (nth l i);have hw:=hl i (by omega);refine Ae (Ab ?_);refine Au (Ab ?_);refine E5 (by kernel_rfl) (fun F1 hF1=>?_);refine Cb (fuel:=3) [] [0,1,2,3,4,6,7,8,9,10] [1,6,8,10,35,39,41,45] (hold (p:=(0≤(i:Int)∧i < l.length)∧(0≤(i:Int)∧i < l.length)) (by omega)) ?_;refine C6 (fuel:=2) 5 (by kernel_rfl) (Ce (fuel:=2) 5 rfl ?_)
     refine Ew [1,3,4,0] (al:=[(.ptr 1 0),(.agg [(.str ((nth l i).name)),(.int .i64 ((nth l i).prio)),(.bool ((nth l i).inst)),(Ak 12 A1 ((nth l i).pkgs))])]) (al':=[(.ptr 0 0),(.agg [(.str ((nth l i).name)),(.int .i64 ((nth l i).prio)),(.bool ((nth l i).inst)),(Ak 12 A1 ((nth l i).pkgs))])]) (r:=(.int .i64 (C2 (As (Ar kind) (l.take i)).1 (nth l i)))) (r':=(.int .i64 (C2 (As (Ar kind) (l.take i)).1 (nth l i)))) (H:=[(0,(.row [(.int .i64 ((As (Ar kind) (l.take i)).1.kind)),(.own 1),(.own 2),(.map 3)] 100)),(1,(.grow (((As (Ar kind) (l.take i)).1).repos.map Bg) 64 4)),(2,(.grow (((As (Ar kind) (l.take i)).1).all.map Bu) 103 13)),(3,(.mm (Bt ((As (Ar kind) (l.take i)).1).all) none 3 1))]) (H':=[(0,(.row [(.int .i64 ((Dp (As (Ar kind) (l.take i)).1 (nth l i)).kind)),(.own 1),(.own 2),(.map 3)] 100)),(1,(.grow ((Dp (As (Ar kind) (l.take i)).1 (nth l i)).repos.map Bg) 64 4)),(2,(.grow ((Dp (As (Ar kind) (l.take i)).1 (nth l i)).all.map Bu) 103 13)),(3,(.mm (Bt (Dp (As (Ar kind) (l.take i)).1 (nth l i)).all) none 3 1))]) (by kernel_rfl) (by exact X92) (by kernel_rfl) (by kernel_rfl) (by kernel_rfl) (by kernel_rfl) (by kernel_rfl) (Y69 (As (Ar kind) (l.take i)).1 (nth l i) hb.1 hb.2.1 (by omega) (by omega) (fun j hj=>Nat.le_trans (RepoT.size_pkg hj) (hl i (by omega)))) hS (by kernel_rfl) pS ?_
     refine Bd ⟨rfl,?_⟩;refine C6 (fuel:=1) 11 (by kernel_rfl) (Ce (fuel:=1) 11 rfl ?_)
     refine Ew [2,5,6] (al:=[(.ptr 2 0),(.agg [(.str ((nth l i).name)),(.int .i64 ((nth l i).prio)),(.bool ((nth l i).inst)),(Ak 12 A1 ((nth l i).pkgs))])]) (al':=[(.ptr 0 0),(.agg [(.str ((nth l i).name)),(.int .i64 ((nth l i).prio)),(.bool ((nth l i).inst)),(Ak 12 A1 ((nth l i).pkgs))])]) (r:=(.int .i64 (C2 (As (Ar kind) (l.take i)).1 (nth l i)))) (r':=(.int .i64 (C2 (As (Ar kind) (l.take i)).1 (nth l i)))) (H:=[(0,(.row [(.int .i64 ((As (Ar kind) (l.take i)).1.kind)),(.own 1),(.own 2)] 94)),(1,(.grow (((As (Ar kind) (l.take i)).1).repos.map Bp) 64 4)),(2,(.grow (((As (Ar kind) (l.take i)).2).map atX) 115 2))]) (H':=[(0,(.row [(.int .i64 ((Dp (As (Ar kind) (l.take i)).1 (nth l i)).kind)),(.own 1),(.own 2)] 94)),(1,(.grow ((Dp (As (Ar kind) (l.take i)).1 (nth l i)).repos.map Bp) 64 4)),(2,(.grow ((Gv (As (Ar kind) (l.take i)).2 (As (Ar kind) (l.take i)).1 (nth l i)).map atX) 115 2))]) (by kernel_rfl) (by exact X9y) (by kernel_rfl) (by kernel_rfl) (by kernel_rfl) (by kernel_rfl) (by kernel_rfl) (X2w (As (Ar kind) (l.take i)).1 (As (Ar kind) (l.take i)).2 (nth l i) hb.1 hb.2.1 hb.2.2 (by omega) (by omega) (fun j hj=>Nat.le_trans (RepoT.size_pkg hj) (hl i (by omega)))) hS (by kernel_rfl) pS ?_
     refine Bd ⟨rfl,?_⟩;refine Cb (fuel:=0) [] [12] [1,6,8,10,47] Ap ?_;refine Ao [1,6,8,10,47] (Ek (by kernel_rfl) ?_);refine C7 (p:=(C2 (As (Ar kind) (l.take i)).1 (nth l i))=(C2 (As (Ar kind) (l.take i)).1 (nth l i))) (fun c5=>?_) fun c5=>?_
     ·exact absurd rfl c5
     ·refine Ae ?_;refine Aj (An 0 [] [1,6,8,10] [] hk0 v0 (cc 1 (p:=(-9223372036854775808≤(i:Int)+1∧(i:Int)+1≤9223372036854775807)) (by omega)<|c0) ?_);refine⟨by kernel_rfl,_,?_,i+1,?_,(by rw[Y20 (by omega)]<;>kernel_rfl),rfl⟩
      ·omega
      ·omega
    ·refine Br ?_;refine Ab (Aj ?_);refine Jb 1 1 yS (Jb 1 2 yS ?_);refine Jb 1 3 yS (Jb 2 1 yS ?_);refine Jb 2 2 yS (Ex [] [4,5] ?_);refine Ad (RK wR [(.fp (.agg [(.int .i64 ((As (Ar kind) (l.take i)).1.kind)),(.row 4 (((As (Ar kind) (l.take i)).1).repos.map Bg).length (fun ix=>(((As (Ar kind) (l.take i)).1).repos.map Bg).getD ix Bl)),(.row 13 (((As (Ar kind) (l.take i)).1).all.map Bu).length (fun ix=>(((As (Ar kind) (l.take i)).1).all.map Bu).getD ix Bl)),(.smap (.slice none 0 0) (fun kq => .row 1 ((Bt ((As (Ar kind) (l.take i)).1).all) kq).length (fun ix=>((Bt ((As (Ar kind) (l.take i)).1).all) kq).getD ix Bl)))])),(.fp (.agg [(.int .i64 ((As (Ar kind) (l.take i)).1.kind)),(.row 4 (((As (Ar kind) (l.take i)).1).repos.map Bp).length (fun ix=>(((As (Ar kind) (l.take i)).1).repos.map Bp).getD ix Bl)),(.row 2 (((As (Ar kind) (l.take i)).2).map atX).length (fun ix=>(((As (Ar kind) (l.take i)).2).map atX).getD ix Bl))]))] ?_);rw[show i=l.length from by omega,List.take_length];simp only[Ag]
     exact(Imp.tups (ImpL.cons (Imp.fp (Imp.aggs (ImpL.cons Imp.refl (ImpL.cons (Imp.list (f:=Bg) (List.length_map _)) (ImpL.cons (Imp.list (f:=Bu) (List.length_map _)) (ImpL.cons Imp.refl ImpL.nil)))))) (ImpL.cons (Imp.fp (Imp.aggs (ImpL.cons Imp.refl (ImpL.cons (Imp.list (f:=Bp) (List.length_map _)) (ImpL.cons (Imp.list (f:=atX) (List.length_map _)) ImpL.nil))))) ImpL.nil))).same
theorem Q5k:Ai prog 27:=Am func27
theorem Xq:Ai prog 12:=Am func12
theorem Xl:Ai prog 30:=Am func30
theorem Q9b (st:PoolT) :
  FnV prog 27 [(.fp (Co st))] (.int .i64 st.kind):=by
 refine Ax [.tmp 2] func27 ntmps27 fun B F hF=>?_;refine Aa [] [0] (Ab ?_);refine Aa [] [0,4] (Cy ?_);refine Ae (Aa [] [2] ?_);refine Ad (RK wR [(.int .i64 st.kind)] ?_);exact Same.of_eq (by first|rfl|(simp only[Ag];simp_all))
theorem Y0 (st:PoolT) :
  FnV prog 12 [(.fp (Co st))] (.int .i64 ((st.all.length:Int))):=by
 refine Ax [.tmp 2] func12 ntmps12 fun B F hF=>?_;refine Aa [] [0] (Ab ?_);refine Aa [] [0,4] (Cy ?_);refine Ae (Aa [] [2] ?_);refine Ad (RK wR [(.int .i64 ((st.all.length:Int)))] ?_);exact Same.of_eq (by first|rfl|(simp only[Ag];simp_all))
theorem Yy (st:PoolT) (i:Nat) (hi:i < st.all.length) (hs:(nth st.all i).1.size≤4194304) :
  FnV prog 30 [(.fp (Co st)),(.int .i64 ((i:Int)))] (.tup [A1 (nth st.all i).1,.int .i64 (nth st.all i).2,.int .i64 0]):=by
 refine Ax [.cell 4 77,.tmp 5,.tmp 6] func30 ntmps30 fun B F hF=>?_;refine Aa [] [0,1,4] ?_;refine Ab (Au ?_);refine Aa [] [0,1,4,7] (Cy ?_)
 obtain⟨b1,hb1⟩:∃b,b=(decide ((i:Int) < 0)):=⟨_,rfl⟩
 obtain⟨b2,hb2⟩:∃b,b=(b1||(decide ((st.all.length:Int)≤(i:Int)))):=⟨_,rfl⟩
 refine Ac (CS:=[(5,((!b1)=true→(!b1)=true)),(6,((!b1)=true→(!b1)=true)),(7,((!b1)=true→(!b1)=true)),(8,((!b1)=true→(!b1)=true)),(9,((!b1)=true→(!b1)=true∧(!b1)=true)),(10,(b1=false→(!b1)=true))]) [15,16,17,18,19,20,21] [0,1,4,11] [] hk0 (vk 3 14 (a:=.bool (decide ((i:Int) < 0))) (b:=.bool b1) (Imp.of_eq (by rw[hb1]))<|vk 11 22 (a:=.bool (b1||(decide ((st.all.length:Int)≤(i:Int))))) (b:=.bool b2) (Imp.of_eq (by rw[hb2]))<|v0) (by refine cc _ ?_<|cc _ ?_<|cc _ ?_<|cc _ ?_<|cc _ ?_<|cc _ ?_ c0<;>simp) ?_;refine A7 (q:=b2) (fun c1=>?_) fun c1=>?_
 ·subst hb2 hb1
  try simp only[Aq] at c1
  exfalso;simp at c1;omega
 ·subst hb2 hb1
  try simp only[Aq] at c1
  refine Ae (Da (CS:=[(5,(0≤(i:Int)∧i < st.all.length)),(14,(0≤(i:Int)∧i < st.all.length))]) [] [4,5,6] [] (hk 8 Q5f (Q6r (nth st.all i).1 (by have:=(nth st.all i).1.sizes;omega) (by have:=(nth st.all i).1.sizes;have:=Mx (nth st.all i).1.files;omega))<|hk0) v0 (by refine cc _ ?_<|cc _ ?_ c0<;>omega) ?_);refine Ad (RK wR [(A1 ((nth st.all i).1)),(.int .i64 ((nth st.all i).2)),(.int .i64 0)] ?_);exact Same.of_eq (by first|rfl|(simp only[Ag];simp_all))
theorem Q5j:Ai prog 28:=Am func28
theorem Xi:Ai prog 64:=Am func64
structure OfferT where
 id:Int
 own:Bool
 op:Int
 evr:List UInt8
 deriving Inhabited
noncomputable def N4 (o:OfferT):AV:=.agg [.int .i64 o.id,.bool o.own,.int .i64 o.op,.str o.evr]
def Ct (ps:List (List UInt8 × OfferT)) (s:List UInt8):List OfferT:=(ps.filter fun q=>decide (q.1=s)).map fun q=>q.2
noncomputable def Bq (ps:List (List UInt8 × OfferT)) (s:List UInt8):List AV:=(Ct ps s).map N4
theorem Q2c (ps:List (List UInt8 × OfferT)) (s:List UInt8) (o:OfferT):Fd (Bq ps) s (Bq ps s++[N4 o])=Bq (ps++[(s,o)]):=by
 funext t;unfold Fd Bq Ct;rw[List.filter_append,List.map_append,List.map_append];by_cases h:t=s
 ·subst h;rw[if_pos rfl];simp
 ·rw[if_neg h];have:¬s=t:=fun q=>h q.symm;simp[this]
theorem Sz (ps:List (List UInt8 × OfferT)) (s:List UInt8):(Bq ps s).length≤ps.length:=by
 unfold Bq Ct;rw[List.length_map,List.length_map];exact List.length_filter_le _ _
def Hj (i:Nat) (p:PkgT) (j:Nat):List (List UInt8 × OfferT):=(p.name,⟨i,true,2,p.evr⟩)::(p.provides.take j).map fun d=>(d.name,⟨i,false,d.op,d.evr⟩)
def Gk (i:Nat) (p:PkgT) (j:Nat):List (List UInt8 × OfferT):=Hj i p p.provides.length++(p.files.take j).map fun f=>(f,⟨i,false,0,[]⟩)
def La (i:Nat) (p:PkgT):List (List UInt8 × OfferT):=Gk i p p.files.length
def Bz (l:List (PkgT × Int)) (n:Nat):List (List UInt8 × OfferT):=(List.range n).flatMap fun i=>La i (nth l i).1
theorem X22 {i:Nat} {p:PkgT} {j:Nat} (h:j < p.provides.length):Hj i p (j+1)=Hj i p j++[((nth p.provides j).name,⟨i,false,(nth p.provides j).op,(nth p.provides j).evr⟩)]:=by
 unfold Hj;rw[List.take_add_one,List.getElem?_eq_getElem h,List.map_append];simp[nth,h]
theorem X21 {i:Nat} {p:PkgT} {j:Nat} (h:j < p.files.length):Gk i p (j+1)=Gk i p j++[(nth p.files j,⟨i,false,0,[]⟩)]:=by
 unfold Gk;rw[List.take_add_one,List.getElem?_eq_getElem h,List.map_append,List.append_assoc];simp[nth,h]
theorem V1 {l:List (PkgT × Int)} {n:Nat}:Bz l (n+1)=Bz l n++La n (nth l n).1:=by
 unfold Bz;rw[List.range_succ,List.flatMap_append];simp
theorem Sn {i:Nat} {p:PkgT} {j:Nat}:(Hj i p j).length≤1+p.provides.length:=by
 unfold Hj;simp only[List.length_cons,List.length_map,List.length_take];omega
theorem Sm {i:Nat} {p:PkgT} {j:Nat}:(Gk i p j).length≤1+p.provides.length+p.files.length:=by
 have:=Sn (i:=i) (p:=p) (j:=p.provides.length);unfold Gk;simp only[List.length_append,List.length_map,List.length_take];omega
theorem Q0x {l:List (PkgT × Int)} (hs:∀i,i < l.length→(nth l i).1.size≤4194304):∀n,n≤l.length→(Bz l n).length≤n*8388609:=by
 intro n
 induction n with
 |zero=>intro _;exact Nat.le_refl _
 |succ n ih =>
  intro h;have h1:=ih (by omega);have h2:=Sm (i:=n) (p:=(nth l n).1) (j:=(nth l n).1.files.length);have h3:=(nth l n).1.sizes;have h4:=hs n (by omega);have h5:=Fa (nth l n).1.provides;have h6:=Mx (nth l n).1.files
  have h7:argsSize (nth l n).1.provides≤(nth l n).1.depSize:=by unfold PkgT.depSize;omega
  rw[V1,List.length_append];unfold La;omega
noncomputable def E3 (st:PoolT):AV:=.agg [.int .i64 st.kind,.int .i64 (st.all.length:Int),.smap (.slice none 0 0) (fun s => .row 4 (Bq (Bz st.all st.all.length) s).length (fun i=>(Bq (Bz st.all st.all.length) s).getD i Bl))]
theorem V2 (kind count:Int) (ps:List (List UInt8 × OfferT)) (s:List UInt8) (o:OfferT) (hl:(Bq ps s).length≤2147483648) :
  Gz prog 64 [(.str s),(.agg [(.int .i64 o.id),(.bool o.own),(.int .i64 o.op),(.str o.evr)]),(.ptr 0 0)] [(0,(.row [(.ptr 1 0)] 72)),(1,(.row [(.int .i64 kind),(.int .i64 count),(.map 2)] 128)),(2,(.mm (Bq ps) none 130 4))] 3 (.tup []) [(0,(.row [(.ptr 1 0)] 72)),(1,(.row [(.int .i64 kind),(.int .i64 count),(.map 2)] 128)),(2,(.mm (Bq (ps++[(s,o)])) none 130 4))]:=by
 refine Nj [] func64 rfl ntmps64 rfl rfl (by kernel_rfl) (by kernel_rfl) (by kernel_rfl) (fun B F hF=>?_);refine Aa [] [0,2,4] (Pa 4 yS ?_);refine E5 (by kernel_rfl) (fun F1 hF1=>?_);refine Ci false 1 (lsD 15 [0,1,2,3,4,5,6,7,8,9,10,11,12,13]) ⟨[(8,(.map 2)),(9,(.str s)),(18,(.own 4))],[(0,(.row [(.ptr 1 0)] 72)),(1,(.row [(.int .i64 kind),(.int .i64 count),(.map 2)] 128)),(2,(.mm (Bq ps) (some s) 130 4)),(4,(.grow (((Bq ps) s)++([(.agg [(.int .i64 o.id),(.bool o.own),(.int .i64 o.op),(.str o.evr)])]:List AV)) 130 4)),(5,(.row [(.int .i64 o.id),(.bool o.own),(.int .i64 o.op),(.str o.evr)] 130))],6⟩ ?_ (fun m1_1=>?_)
 ·refine C6 (fuel:=0) 14 (by kernel_rfl) ?_;refine Ce (fuel:=0) 14 rfl (Uq (b:=2) (c:=4) (s:=s) (s1:=s) (by kernel_rfl) (by kernel_rfl) (by kernel_rfl) (by kernel_rfl) (by kernel_rfl) rfl underlying126 underlying9 yS rfl ?_);refine Bd ⟨rfl,?_⟩;refine Ao [] (Ek (by kernel_rfl) ?_);refine E6 (.inr rfl) (al:=[]) (by kernel_rfl) ?_ ((by kernel_rfl:Di 3 _=some [(0,(.row [(.ptr 1 0)] 72)),(1,(.row [(.int .i64 kind),(.int .i64 count),(.map 2)] 128)),(2,(.mm (Fd (Bq ps) s (((Bq ps) s)++([(.agg [(.int .i64 o.id),(.bool o.own),(.int .i64 o.op),(.str o.evr)])]:List AV))) none 130 4))]).trans ?_)
  ·rfl
  ·rw[show(Fd (Bq ps) s (((Bq ps) s)++([(.agg [(.int .i64 o.id),(.bool o.own),(.int .i64 o.op),(.str o.evr)])]:List AV)))=Bq (ps++[(s,o)]) from Q2c ps s o]<;>kernel_rfl
 refine Ci false 1 (lsD 15 [0,1,2,3,4,5,6,7,8,9,10,11,12,13]) ⟨[(8,(.map 2)),(9,(.str s)),(18,(.own 5))],[(0,(.row [(.ptr 1 0)] 72)),(1,(.row [(.int .i64 kind),(.int .i64 count),(.map 2)] 128)),(2,(.mm (Bq ps) (some s) 130 4)),(4,(.row [(.int .i64 o.id),(.bool o.own),(.int .i64 o.op),(.str o.evr)] 130)),(5,(.grow (((Bq ps) s)++([(.agg [(.int .i64 o.id),(.bool o.own),(.int .i64 o.op),(.str o.evr)])]:List AV)) 130 4))],6⟩ ?_ (fun m1_2=>?_)
 ·refine C6 (fuel:=0) 14 (by kernel_rfl) ?_;refine Ce (fuel:=0) 14 rfl (Uq (b:=2) (c:=5) (s:=s) (s1:=s) (by kernel_rfl) (by kernel_rfl) (by kernel_rfl) (by kernel_rfl) (by kernel_rfl) rfl underlying126 underlying9 yS rfl ?_);refine Bd ⟨rfl,?_⟩;refine Ao [] (Ek (by kernel_rfl) ?_);refine E6 (.inr rfl) (al:=[]) (by kernel_rfl) ?_ ((by kernel_rfl:Di 3 _=some [(0,(.row [(.ptr 1 0)] 72)),(1,(.row [(.int .i64 kind),(.int .i64 count),(.map 2)] 128)),(2,(.mm (Fd (Bq ps) s (((Bq ps) s)++([(.agg [(.int .i64 o.id),(.bool o.own),(.int .i64 o.op),(.str o.evr)])]:List AV))) none 130 4))]).trans ?_)
  ·rfl
  ·rw[show(Fd (Bq ps) s (((Bq ps) s)++([(.agg [(.int .i64 o.id),(.bool o.own),(.int .i64 o.op),(.str o.evr)])]:List AV)))=Bq (ps++[(s,o)]) from Q2c ps s o]<;>kernel_rfl
 refine Ci false 2 (lsD 15 [0,1,2,3,4,5,6,7,8,9,10,11,12]) ⟨[(8,(.map 2)),(9,(.str s)),(15,(.own 4)),(17,(.sl 5 0 1 1 false))],[(0,(.row [(.ptr 1 0)] 72)),(1,(.row [(.int .i64 kind),(.int .i64 count),(.map 2)] 128)),(2,(.mm (Bq ps) (some s) 130 4)),(4,(.grow ((Bq ps) s) 130 4)),(5,(.row [(.int .i64 o.id),(.bool o.own),(.int .i64 o.op),(.str o.evr)] 130))],6⟩ ?_ (fun m1_3=>?_)
 ·refine C8 (fuel:=1) 13 [] (hold (p:=((((Bq ps) s).length+1)*40≤140737488355328)) (by omega)) (Ao [8,9,18] ?_);exact A6 m1_1
 refine Ci false 2 (lsD 15 [0,1,2,3,4,5,6,7,8,9,10,11,12]) ⟨[(8,(.map 2)),(9,(.str s)),(15,(.own 5)),(17,(.sl 4 0 1 1 false))],[(0,(.row [(.ptr 1 0)] 72)),(1,(.row [(.int .i64 kind),(.int .i64 count),(.map 2)] 128)),(2,(.mm (Bq ps) (some s) 130 4)),(4,(.row [(.int .i64 o.id),(.bool o.own),(.int .i64 o.op),(.str o.evr)] 130)),(5,(.grow ((Bq ps) s) 130 4))],6⟩ ?_ (fun m1_4=>?_)
 ·refine C8 (fuel:=1) 13 [] (hold (p:=((((Bq ps) s).length+1)*40≤140737488355328)) (by omega)) (Ao [8,9,18] ?_);exact A6 m1_2
 refine Ci false 2 (lsD 15 [0,1,2,4,5,6,7,8,9,10,11,12,13]) ⟨[(7,(.ptr 1 2)),(9,(.str s)),(18,(.own 4))],[(0,(.row [(.ptr 1 0)] 72)),(1,(.row [(.int .i64 kind),(.int .i64 count),(.map 2)] 128)),(2,(.mm (Bq ps) (some s) 130 4)),(4,(.grow (((Bq ps) s)++([(.agg [(.int .i64 o.id),(.bool o.own),(.int .i64 o.op),(.str o.evr)])]:List AV)) 130 4)),(5,(.row [(.int .i64 o.id),(.bool o.own),(.int .i64 o.op),(.str o.evr)] 130))],6⟩ ?_ (fun m1_5=>?_)
 ·refine C8 (fuel:=1) 3 [] Ap (Ao [8,9,18] ?_);exact A6 m1_1
 refine Ci false 2 (lsD 15 [0,1,2,4,5,6,7,8,9,10,11,12,13]) ⟨[(7,(.ptr 1 2)),(9,(.str s)),(18,(.own 5))],[(0,(.row [(.ptr 1 0)] 72)),(1,(.row [(.int .i64 kind),(.int .i64 count),(.map 2)] 128)),(2,(.mm (Bq ps) (some s) 130 4)),(4,(.row [(.int .i64 o.id),(.bool o.own),(.int .i64 o.op),(.str o.evr)] 130)),(5,(.grow (((Bq ps) s)++([(.agg [(.int .i64 o.id),(.bool o.own),(.int .i64 o.op),(.str o.evr)])]:List AV)) 130 4))],6⟩ ?_ (fun m1_6=>?_)
 ·refine C8 (fuel:=1) 3 [] Ap (Ao [8,9,18] ?_);exact A6 m1_2
 refine Ci false 3 (lsD 15 [0,1,2,3,4,5,6,7,8,9,10,11]) ⟨[(8,(.map 2)),(9,(.str s)),(15,(.own 4)),(16,(.agg [(.int .i64 o.id),(.bool o.own),(.int .i64 o.op),(.str o.evr)]))],[(0,(.row [(.ptr 1 0)] 72)),(1,(.row [(.int .i64 kind),(.int .i64 count),(.map 2)] 128)),(2,(.mm (Bq ps) (some s) 130 4)),(4,(.grow ((Bq ps) s) 130 4))],5⟩ ?_ (fun m1_7=>?_)
 ·refine C8 (fuel:=2) 12 [] Ap (Ao [8,9,15,17] ?_);exact A6 m1_3
 refine Ci true 3 (lsD 15 [0,1,2,3,4,5,6,7,8,9,11,12]) ⟨[(8,(.map 2)),(9,(.str s)),(13,(.map 2)),(14,(.str s)),(17,(.sl 4 0 1 1 false))],[(0,(.row [(.ptr 1 0)] 72)),(1,(.row [(.int .i64 kind),(.int .i64 count),(.map 2)] 128)),(2,(.mm (Bq ps) none 130 4)),(4,(.row [(.int .i64 o.id),(.bool o.own),(.int .i64 o.op),(.str o.evr)] 130))],5⟩ ?_ (fun m1_8=>?_)
 ·refine C6 (fuel:=2) 10 (by kernel_rfl) ?_;refine Ce (fuel:=2) 10 rfl (Gh (b:=2) (s:=s) (by kernel_rfl) (by kernel_rfl) (by kernel_rfl) underlying126 underlying9 (fun _=>by kernel_rfl) yS ?_);refine Bd ⟨rfl,?_⟩;refine Ao [8,9,15,17] ?_;exact A6 m1_4
 refine Ci false 3 (lsD 15 [0,1,2,4,5,6,7,8,9,10,11,12]) ⟨[(7,(.ptr 1 2)),(9,(.str s)),(15,(.own 4)),(17,(.sl 5 0 1 1 false))],[(0,(.row [(.ptr 1 0)] 72)),(1,(.row [(.int .i64 kind),(.int .i64 count),(.map 2)] 128)),(2,(.mm (Bq ps) (some s) 130 4)),(4,(.grow ((Bq ps) s) 130 4)),(5,(.row [(.int .i64 o.id),(.bool o.own),(.int .i64 o.op),(.str o.evr)] 130))],6⟩ ?_ (fun m1_9=>?_)
 ·refine Cl 3 13 (by kernel_rfl) ?_ ?_
  ·refine A8 (fuel:=2) 3 [] Ap (Ao [8,9,15,17] ?_);exact A6 m1_3
  ·refine A8 (fuel:=2) 13 [] (hold (p:=((((Bq ps) s).length+1)*40≤140737488355328)) (by omega)) (Ao [7,9,18] ?_);exact A6 m1_5
 refine Ci false 3 (lsD 15 [0,1,2,4,5,6,7,8,9,10,11,12]) ⟨[(7,(.ptr 1 2)),(9,(.str s)),(15,(.own 5)),(17,(.sl 4 0 1 1 false))],[(0,(.row [(.ptr 1 0)] 72)),(1,(.row [(.int .i64 kind),(.int .i64 count),(.map 2)] 128)),(2,(.mm (Bq ps) (some s) 130 4)),(4,(.row [(.int .i64 o.id),(.bool o.own),(.int .i64 o.op),(.str o.evr)] 130)),(5,(.grow ((Bq ps) s) 130 4))],6⟩ ?_ (fun m1_10=>?_)
 ·refine Cl 3 13 (by kernel_rfl) ?_ ?_
  ·refine A8 (fuel:=2) 3 [] Ap (Ao [8,9,15,17] ?_);exact A6 m1_4
  ·refine A8 (fuel:=2) 13 [] (hold (p:=((((Bq ps) s).length+1)*40≤140737488355328)) (by omega)) (Ao [7,9,18] ?_);exact A6 m1_6
 refine Ci true 4 (lsD 15 [0,1,2,3,4,5,6,7,8,9,11]) ⟨[(8,(.map 2)),(9,(.str s)),(13,(.map 2)),(14,(.str s)),(16,(.agg [(.int .i64 o.id),(.bool o.own),(.int .i64 o.op),(.str o.evr)]))],[(0,(.row [(.ptr 1 0)] 72)),(1,(.row [(.int .i64 kind),(.int .i64 count),(.map 2)] 128)),(2,(.mm (Bq ps) none 130 4))],4⟩ ?_ (fun m1_11=>?_)
 ·refine Cl 10 12 (by kernel_rfl) ?_ ?_
  ·refine Ce (fuel:=3) 10 rfl (Gh (b:=2) (s:=s) (by kernel_rfl) (by kernel_rfl) (by kernel_rfl) underlying126 underlying9 (fun _=>by kernel_rfl) yS ?_);refine Bd ⟨rfl,?_⟩;refine Ao [8,9,15,16] ?_;exact A6 m1_7
  ·refine A8 (fuel:=3) 12 [] Ap (Ao [8,9,13,14,17] ?_);exact A6 m1_8
 refine Ci true 4 (lsD 15 [0,1,2,3,4,5,6,7,9,11,12]) ⟨[(8,(.map 2)),(9,(.str s)),(12,(.ptr 1 2)),(14,(.str s)),(17,(.sl 4 0 1 1 false))],[(0,(.row [(.ptr 1 0)] 72)),(1,(.row [(.int .i64 kind),(.int .i64 count),(.map 2)] 128)),(2,(.mm (Bq ps) none 130 4)),(4,(.row [(.int .i64 o.id),(.bool o.own),(.int .i64 o.op),(.str o.evr)] 130))],5⟩ ?_ (fun m1_12=>?_)
 ·refine C8 (fuel:=3) 8 [] Ap (Ao [8,9,13,14,17] ?_);exact A6 m1_8
 refine Ci false 4 (lsD 15 [0,1,2,4,5,6,7,8,9,10,11]) ⟨[(7,(.ptr 1 2)),(9,(.str s)),(15,(.own 4)),(16,(.agg [(.int .i64 o.id),(.bool o.own),(.int .i64 o.op),(.str o.evr)]))],[(0,(.row [(.ptr 1 0)] 72)),(1,(.row [(.int .i64 kind),(.int .i64 count),(.map 2)] 128)),(2,(.mm (Bq ps) (some s) 130 4)),(4,(.grow ((Bq ps) s) 130 4))],5⟩ ?_ (fun m1_13=>?_)
 ·refine Cl 3 12 (by kernel_rfl) ?_ ?_
  ·refine A8 (fuel:=3) 3 [] Ap (Ao [8,9,15,16] ?_);exact A6 m1_7
  ·refine A8 (fuel:=3) 12 [] Ap (Ao [7,9,15,17] ?_);exact A6 m1_9
 refine Ci true 4 (lsD 15 [0,1,2,4,5,6,7,8,9,11,12]) ⟨[(7,(.ptr 1 2)),(9,(.str s)),(13,(.map 2)),(14,(.str s)),(17,(.sl 4 0 1 1 false))],[(0,(.row [(.ptr 1 0)] 72)),(1,(.row [(.int .i64 kind),(.int .i64 count),(.map 2)] 128)),(2,(.mm (Bq ps) none 130 4)),(4,(.row [(.int .i64 o.id),(.bool o.own),(.int .i64 o.op),(.str o.evr)] 130))],5⟩ ?_ (fun m1_14=>?_)
 ·refine Cl 3 10 (by kernel_rfl) ?_ ?_
  ·refine A8 (fuel:=3) 3 [] Ap (Ao [8,9,13,14,17] ?_);exact A6 m1_8
  ·refine Ce (fuel:=3) 10 rfl (Gh (b:=2) (s:=s) (by kernel_rfl) (by kernel_rfl) (by kernel_rfl) underlying126 underlying9 (fun _=>by kernel_rfl) yS ?_);refine Bd ⟨rfl,?_⟩;refine Ao [7,9,15,17] ?_;exact A6 m1_10
 refine Ci true 5 (lsD 15 [0,1,2,3,4,5,6,7,9,11]) ⟨[(8,(.map 2)),(9,(.str s)),(12,(.ptr 1 2)),(14,(.str s)),(16,(.agg [(.int .i64 o.id),(.bool o.own),(.int .i64 o.op),(.str o.evr)]))],[(0,(.row [(.ptr 1 0)] 72)),(1,(.row [(.int .i64 kind),(.int .i64 count),(.map 2)] 128)),(2,(.mm (Bq ps) none 130 4))],4⟩ ?_ (fun m1_15=>?_)
 ·refine Cl 8 12 (by kernel_rfl) ?_ ?_
  ·refine A8 (fuel:=4) 8 [] Ap (Ao [8,9,13,14,16] ?_);exact A6 m1_11
  ·refine A8 (fuel:=4) 12 [] Ap (Ao [8,9,12,14,17] ?_);exact A6 m1_12
 refine Ci true 5 (lsD 15 [0,1,2,4,5,6,7,8,9,11]) ⟨[(7,(.ptr 1 2)),(9,(.str s)),(13,(.map 2)),(14,(.str s)),(16,(.agg [(.int .i64 o.id),(.bool o.own),(.int .i64 o.op),(.str o.evr)]))],[(0,(.row [(.ptr 1 0)] 72)),(1,(.row [(.int .i64 kind),(.int .i64 count),(.map 2)] 128)),(2,(.mm (Bq ps) none 130 4))],4⟩ ?_ (fun m1_16=>?_)
 ·refine Hg 3 10 12 (by kernel_rfl) ?_ ?_ ?_
  ·refine A8 (fuel:=4) 3 [] Ap (Ao [8,9,13,14,16] ?_);exact A6 m1_11
  ·refine Ce (fuel:=4) 10 rfl (Gh (b:=2) (s:=s) (by kernel_rfl) (by kernel_rfl) (by kernel_rfl) underlying126 underlying9 (fun _=>by kernel_rfl) yS ?_);refine Bd ⟨rfl,?_⟩;refine Ao [7,9,15,16] ?_;exact A6 m1_13
  ·refine A8 (fuel:=4) 12 [] Ap (Ao [7,9,13,14,17] ?_);exact A6 m1_14
 refine Ci true 5 (lsD 15 [0,1,2,4,5,6,7,9,11,12]) ⟨[(7,(.ptr 1 2)),(9,(.str s)),(12,(.ptr 1 2)),(14,(.str s)),(17,(.sl 4 0 1 1 false))],[(0,(.row [(.ptr 1 0)] 72)),(1,(.row [(.int .i64 kind),(.int .i64 count),(.map 2)] 128)),(2,(.mm (Bq ps) none 130 4)),(4,(.row [(.int .i64 o.id),(.bool o.own),(.int .i64 o.op),(.str o.evr)] 130))],5⟩ ?_ (fun m1_17=>?_)
 ·refine Cl 3 8 (by kernel_rfl) ?_ ?_
  ·refine A8 (fuel:=4) 3 [] Ap (Ao [8,9,12,14,17] ?_);exact A6 m1_12
  ·refine A8 (fuel:=4) 8 [] Ap (Ao [7,9,13,14,17] ?_);exact A6 m1_14
 refine Ci true 7 (lsD 15 [0,1,2,3,4,9,11,12]) ⟨[(2,(.ptr 0 0)),(8,(.map 2)),(9,(.str s)),(14,(.str s)),(17,(.sl 4 0 1 1 false))],[(0,(.row [(.ptr 1 0)] 72)),(1,(.row [(.int .i64 kind),(.int .i64 count),(.map 2)] 128)),(2,(.mm (Bq ps) none 130 4)),(4,(.row [(.int .i64 o.id),(.bool o.own),(.int .i64 o.op),(.str o.evr)] 130))],5⟩ ?_ (fun m1_18=>?_)
 ·refine C8 (fuel:=6) 5 [] Ap (Cb (fuel:=4) [] [6,7] [8,9,12,14,17] Ap ?_);refine C8 (fuel:=3) 8 [] Ap (Ao [8,9,13,14,17] ?_);exact A6 m1_8
 refine Ci true 7 (lsD 15 [0,1,2,4,5,9,11,12]) ⟨[(7,(.ptr 1 2)),(9,(.str s)),(10,(.ptr 1 0)),(14,(.str s)),(17,(.sl 4 0 1 1 false))],[(0,(.row [(.ptr 1 0)] 72)),(1,(.row [(.int .i64 kind),(.int .i64 count),(.map 2)] 128)),(2,(.mm (Bq ps) none 130 4)),(4,(.row [(.int .i64 o.id),(.bool o.own),(.int .i64 o.op),(.str o.evr)] 130))],5⟩ ?_ (fun m1_19=>?_)
 ·refine Cb (fuel:=5) [] [6,7] [7,9,12,14,17] Ap ?_;refine Cl 3 8 (by kernel_rfl) ?_ ?_
  ·refine A8 (fuel:=4) 3 [] Ap (Ao [8,9,12,14,17] ?_);exact A6 m1_12
  ·refine A8 (fuel:=4) 8 [] Ap (Ao [7,9,13,14,17] ?_);exact A6 m1_14
 refine Ci true 7 (lsD 15 [4,5,6,7,8,9,11,12]) ⟨[(2,(.ptr 0 0)),(9,(.str s)),(13,(.map 2)),(14,(.str s)),(17,(.sl 4 0 1 1 false))],[(0,(.row [(.ptr 1 0)] 72)),(1,(.row [(.int .i64 kind),(.int .i64 count),(.map 2)] 128)),(2,(.mm (Bq ps) none 130 4)),(4,(.row [(.int .i64 o.id),(.bool o.own),(.int .i64 o.op),(.str o.evr)] 130))],5⟩ ?_ (fun m1_20=>?_)
 ·refine Cl 0 10 (by kernel_rfl) ?_ ?_
  ·refine A8 (fuel:=6) 0 [] Ap ?_;refine Ao [5,9,13,14,17] (Cb (fuel:=4) [] [1,2] [7,9,13,14,17] Ap ?_);refine Cl 3 10 (by kernel_rfl) ?_ ?_
   ·refine A8 (fuel:=3) 3 [] Ap (Ao [8,9,13,14,17] ?_);exact A6 m1_8
   ·refine Ce (fuel:=3) 10 rfl (Gh (b:=2) (s:=s) (by kernel_rfl) (by kernel_rfl) (by kernel_rfl) underlying126 underlying9 (fun _=>by kernel_rfl) yS ?_);refine Bd ⟨rfl,?_⟩;refine Ao [7,9,15,17] ?_;exact A6 m1_10
  ·refine Ce (fuel:=6) 10 rfl (Gh (b:=2) (s:=s) (by kernel_rfl) (by kernel_rfl) (by kernel_rfl) underlying126 underlying9 (fun _=>by kernel_rfl) yS ?_);refine Bd ⟨rfl,?_⟩;refine Ao [2,9,15,17] ?_;refine Cl 0 13 (by kernel_rfl) ?_ ?_
   ·refine A8 (fuel:=5) 0 [] Ap ?_;refine Ao [5,9,15,17] (Cb (fuel:=3) [] [1,2] [7,9,15,17] Ap ?_);refine Cl 3 13 (by kernel_rfl) ?_ ?_
    ·refine A8 (fuel:=2) 3 [] Ap (Ao [8,9,15,17] ?_);exact A6 m1_4
    ·refine A8 (fuel:=2) 13 [] (hold (p:=((((Bq ps) s).length+1)*40≤140737488355328)) (by omega)) (Ao [7,9,18] ?_);exact A6 m1_6
   ·refine A8 (fuel:=5) 13 [] (hold (p:=((((Bq ps) s).length+1)*40≤140737488355328)) (by omega)) (Ao [2,9,18] ?_);refine C8 (fuel:=4) 0 [] Ap (Cb (fuel:=2) [] [1,2] [7,9,18] Ap ?_);refine C8 (fuel:=1) 3 [] Ap (Ao [8,9,18] ?_);exact A6 m1_2
 refine Ci true 7 (lsD 15 [0,4,5,6,7,9,11,12]) ⟨[(5,(.ptr 1 0)),(9,(.str s)),(12,(.ptr 1 2)),(14,(.str s)),(17,(.sl 4 0 1 1 false))],[(0,(.row [(.ptr 1 0)] 72)),(1,(.row [(.int .i64 kind),(.int .i64 count),(.map 2)] 128)),(2,(.mm (Bq ps) none 130 4)),(4,(.row [(.int .i64 o.id),(.bool o.own),(.int .i64 o.op),(.str o.evr)] 130))],5⟩ ?_ (fun m1_21=>?_)
 ·refine Cb (fuel:=5) [] [1,2] [7,9,12,14,17] Ap ?_;refine Cl 3 8 (by kernel_rfl) ?_ ?_
  ·refine A8 (fuel:=4) 3 [] Ap (Ao [8,9,12,14,17] ?_);exact A6 m1_12
  ·refine A8 (fuel:=4) 8 [] Ap (Ao [7,9,13,14,17] ?_);exact A6 m1_14
 refine Cb (fuel:=12) [] [4,9,11] [2,9,14,16] Ap ?_;refine Hg 0 5 12 (by kernel_rfl) ?_ ?_ ?_
 ·refine A8 (fuel:=11) 0 [] Ap ?_;refine Ao [2,5,9,14,16] (Cb (fuel:=9) [] [1,2] [2,7,9,14,16] Ap ?_);refine Hg 3 5 12 (by kernel_rfl) ?_ ?_ ?_
  ·refine A8 (fuel:=8) 3 [] Ap (Ao [2,8,9,14,16] ?_);refine Cl 5 12 (by kernel_rfl) ?_ ?_
   ·refine A8 (fuel:=7) 5 [] Ap ?_;refine Ao [8,9,10,14,16] (Cb (fuel:=5) [] [6,7] [8,9,12,14,16] Ap ?_);refine Cl 8 12 (by kernel_rfl) ?_ ?_
    ·refine A8 (fuel:=4) 8 [] Ap (Ao [8,9,13,14,16] ?_);exact A6 m1_11
    ·refine A8 (fuel:=4) 12 [] Ap (Ao [8,9,12,14,17] ?_);exact A6 m1_12
   ·refine A8 (fuel:=7) 12 [] Ap (Ao [2,8,9,14,17] ?_);exact A6 m1_18
  ·refine A8 (fuel:=8) 5 [] Ap ?_;refine Ao [7,9,10,14,16] (Cb (fuel:=6) [] [6,7] [7,9,12,14,16] Ap ?_);refine Hg 3 8 12 (by kernel_rfl) ?_ ?_ ?_
   ·refine A8 (fuel:=5) 3 [] Ap (Ao [8,9,12,14,16] ?_);exact A6 m1_15
   ·refine A8 (fuel:=5) 8 [] Ap (Ao [7,9,13,14,16] ?_);exact A6 m1_16
   ·refine A8 (fuel:=5) 12 [] Ap (Ao [7,9,12,14,17] ?_);exact A6 m1_17
  ·refine A8 (fuel:=8) 12 [] Ap (Ao [2,7,9,14,17] ?_);refine Cl 3 5 (by kernel_rfl) ?_ ?_
   ·refine A8 (fuel:=7) 3 [] Ap (Ao [2,8,9,14,17] ?_);exact A6 m1_18
   ·refine A8 (fuel:=7) 5 [] Ap (Ao [7,9,10,14,17] ?_);exact A6 m1_19
 ·refine A8 (fuel:=11) 5 [] Ap ?_;refine Ao [2,9,10,14,16] (Cb (fuel:=9) [] [6,7] [2,9,12,14,16] Ap ?_);refine Hg 0 8 12 (by kernel_rfl) ?_ ?_ ?_
  ·refine A8 (fuel:=8) 0 [] Ap ?_;refine Ao [5,9,12,14,16] (Cb (fuel:=6) [] [1,2] [7,9,12,14,16] Ap ?_);refine Hg 3 8 12 (by kernel_rfl) ?_ ?_ ?_
   ·refine A8 (fuel:=5) 3 [] Ap (Ao [8,9,12,14,16] ?_);exact A6 m1_15
   ·refine A8 (fuel:=5) 8 [] Ap (Ao [7,9,13,14,16] ?_);exact A6 m1_16
   ·refine A8 (fuel:=5) 12 [] Ap (Ao [7,9,12,14,17] ?_);exact A6 m1_17
  ·refine A8 (fuel:=8) 8 [] Ap (Ao [2,9,13,14,16] ?_);refine Hg 0 10 12 (by kernel_rfl) ?_ ?_ ?_
   ·refine A8 (fuel:=7) 0 [] Ap ?_;refine Ao [5,9,13,14,16] (Cb (fuel:=5) [] [1,2] [7,9,13,14,16] Ap ?_);refine Hg 3 10 12 (by kernel_rfl) ?_ ?_ ?_
    ·refine A8 (fuel:=4) 3 [] Ap (Ao [8,9,13,14,16] ?_);exact A6 m1_11
    ·refine Ce (fuel:=4) 10 rfl (Gh (b:=2) (s:=s) (by kernel_rfl) (by kernel_rfl) (by kernel_rfl) underlying126 underlying9 (fun _=>by kernel_rfl) yS ?_);refine Bd ⟨rfl,?_⟩;refine Ao [7,9,15,16] ?_;exact A6 m1_13
    ·refine A8 (fuel:=4) 12 [] Ap (Ao [7,9,13,14,17] ?_);exact A6 m1_14
   ·refine Ce (fuel:=7) 10 rfl (Gh (b:=2) (s:=s) (by kernel_rfl) (by kernel_rfl) (by kernel_rfl) underlying126 underlying9 (fun _=>by kernel_rfl) yS ?_);refine Bd ⟨rfl,?_⟩;refine Ao [2,9,15,16] ?_;refine Cl 0 12 (by kernel_rfl) ?_ ?_
    ·refine A8 (fuel:=6) 0 [] Ap ?_;refine Ao [5,9,15,16] (Cb (fuel:=4) [] [1,2] [7,9,15,16] Ap ?_);refine Cl 3 12 (by kernel_rfl) ?_ ?_
     ·refine A8 (fuel:=3) 3 [] Ap (Ao [8,9,15,16] ?_);exact A6 m1_7
     ·refine A8 (fuel:=3) 12 [] Ap (Ao [7,9,15,17] ?_);exact A6 m1_9
    ·refine A8 (fuel:=6) 12 [] Ap (Ao [2,9,15,17] ?_);refine Cl 0 13 (by kernel_rfl) ?_ ?_
     ·refine A8 (fuel:=5) 0 [] Ap ?_;refine Ao [5,9,15,17] (Cb (fuel:=3) [] [1,2] [7,9,15,17] Ap ?_);refine Cl 3 13 (by kernel_rfl) ?_ ?_
      ·refine A8 (fuel:=2) 3 [] Ap (Ao [8,9,15,17] ?_);exact A6 m1_3
      ·refine A8 (fuel:=2) 13 [] (hold (p:=((((Bq ps) s).length+1)*40≤140737488355328)) (by omega)) (Ao [7,9,18] ?_);exact A6 m1_5
     ·refine A8 (fuel:=5) 13 [] (hold (p:=((((Bq ps) s).length+1)*40≤140737488355328)) (by omega)) (Ao [2,9,18] ?_);refine C8 (fuel:=4) 0 [] Ap (Cb (fuel:=2) [] [1,2] [7,9,18] Ap ?_);refine C8 (fuel:=1) 3 [] Ap (Ao [8,9,18] ?_);exact A6 m1_1
   ·refine A8 (fuel:=7) 12 [] Ap (Ao [2,9,13,14,17] ?_);exact A6 m1_20
  ·refine A8 (fuel:=8) 12 [] Ap (Ao [2,9,12,14,17] ?_);refine Cl 0 8 (by kernel_rfl) ?_ ?_
   ·refine A8 (fuel:=7) 0 [] Ap (Ao [5,9,12,14,17] ?_);exact A6 m1_21
   ·refine A8 (fuel:=7) 8 [] Ap (Ao [2,9,13,14,17] ?_);exact A6 m1_20
 ·refine A8 (fuel:=11) 12 [] Ap (Ao [2,9,14,17] ?_);refine Cl 0 5 (by kernel_rfl) ?_ ?_
  ·refine A8 (fuel:=10) 0 [] Ap ?_;refine Ao [2,5,9,14,17] (Cb (fuel:=8) [] [1,2] [2,7,9,14,17] Ap ?_);refine Cl 3 5 (by kernel_rfl) ?_ ?_
   ·refine A8 (fuel:=7) 3 [] Ap (Ao [2,8,9,14,17] ?_);exact A6 m1_18
   ·refine A8 (fuel:=7) 5 [] Ap (Ao [7,9,10,14,17] ?_);exact A6 m1_19
  ·refine A8 (fuel:=10) 5 [] Ap ?_;refine Ao [2,9,10,14,17] (Cb (fuel:=8) [] [6,7] [2,9,12,14,17] Ap ?_);refine Cl 0 8 (by kernel_rfl) ?_ ?_
   ·refine A8 (fuel:=7) 0 [] Ap (Ao [5,9,12,14,17] ?_);exact A6 m1_21
   ·refine A8 (fuel:=7) 8 [] Ap (Ao [2,9,13,14,17] ?_);exact A6 m1_20
theorem Q00 (st:PoolT) (hal:st.all.length≤200) (hs:∀i,i < st.all.length→(nth st.all i).1.size≤4194304) :
  FnV prog 28 [(.fp (Co st))] (.fp (E3 st)):=by
 refine Ax [.tmp 2] func28 ntmps28 fun B F hF=>?_;refine Aa [] [0] (Ab ?_);refine Aa [] [0,14] (Cy ?_);refine Ae (Ac [] [0,3] [] (hk 1 Q5k (Q9b st)<|hk 3 Xq (Y0 st)<|hk0) v0 c0 ?_);refine Ab ?_;refine Aa [] [0,3,25,26] (Au ?_);refine Q8t 0 130 4 yS (B4 (fun g y=>∃(i:Nat),i≤st.all.length∧y=⟨[(0,(.fp (Co st))),(3,(.ptr 2 0)),(25,(.int .i64 ((st.all.length:Int)))),(26,(.int .i64 ((i:Int))))],[(0,(.mm (Bq (Bz st.all i)) none 130 4)),(1,(.row [(.int .i64 st.kind),(.int .i64 ((st.all.length:Int))),(.map 0)] 128)),(2,(.row [(.ptr 1 0)] 72))],3⟩∧g=st.all.length-i) [0,3,25,26] 3 _ (by omega) ⟨0,(by omega),(by kernel_rfl),rfl⟩ ?_);rintro g1 y1 ⟨i,f1_1,rfl,rfl⟩;refine Aa [] [0,3,25,26,27] (Ab ?_);refine A4 (p:=(i:Int) < (st.all.length:Int)) (fun c1=>?_) fun c1=>?_
 ·have hpl:=Q0x (l:=st.all) hs i (by omega);have hsz:=(nth st.all i).1.sizes;have hsi:=hs i (by omega)
  have hpv:(nth st.all i).1.provides.length≤4194304:=by have:=Fa (nth st.all i).1.provides;unfold PkgT.depSize at hsz;omega
  have hfl:(nth st.all i).1.files.length≤4194304:=by have:=Mx (nth st.all i).1.files;omega
  refine Ae ?_;refine Ab (Au ?_);refine Aa [] [0,3,4,25,26] (Ac [] [0,3,4,5,25,26] [(9,5)] (hk 2 Xl (Yy st i (by omega) (hs i (by omega)))<|hk0) v0 c0 ?_);refine Aa [] [0,3,4,5,8,25,26] (Ab ?_);refine Aj (A9 7 0 [] [0,3,4,5,8,25,26,37,39,43] [] hk0 v0 c0 ?_)
  refine Ut [2,1,0] (f:=64) (cap:=[(.ptr 2 0)]) (al:=[(.str (((nth st.all i).1).name)),(.agg [(.int .i64 ((i:Int))),(.bool true),(.int .i64 2),(.str (((nth st.all i).1).evr))])]) (al':=[(.str (((nth st.all i).1).name)),(.agg [(.int .i64 ((i:Int))),(.bool true),(.int .i64 2),(.str (((nth st.all i).1).evr))]),(.ptr 0 0)]) (r:=(.tup [])) (r':=(.tup [])) (H:=[(0,(.row [(.ptr 1 0)] 72)),(1,(.row [(.int .i64 st.kind),(.int .i64 ((st.all.length:Int))),(.map 2)] 128)),(2,(.mm (Bq (Bz st.all i)) none 130 4))]) (H':=[(0,(.row [(.ptr 1 0)] 72)),(1,(.row [(.int .i64 st.kind),(.int .i64 ((st.all.length:Int))),(.map 2)] 128)),(2,(.mm (Bq (Bz st.all i++[((nth st.all i).1.name,(⟨(i:Int),true,2,(nth st.all i).1.evr⟩:OfferT))])) none 130 4))]) (by kernel_rfl) (by kernel_rfl) (by exact Xi) (by kernel_rfl) (by kernel_rfl) (by kernel_rfl) (by kernel_rfl) (by kernel_rfl) (V2 st.kind (st.all.length:Int) (Bz st.all i) ((nth st.all i).1.name) ⟨(i:Int),true,2,(nth st.all i).1.evr⟩ (Nat.le_trans (Sz _ _) (by first|(simp only[List.length_append];have:=Sn (i:=i) (p:=(nth st.all i).1) (j:=0);have:=Sm (i:=i) (p:=(nth st.all i).1) (j:=0);omega)|omega))) hS (by kernel_rfl) pS ?_;refine Bd (Ab ?_)
  refine Aa [] [0,3,4,5,8,25,26,46,47,48] ?_;refine Au (B4 (fun g y=>∃(j:Nat),j≤(nth st.all i).1.provides.length∧y=⟨[(0,(.fp (Co st))),(3,(.ptr 2 0)),(4,(.int .i64 ((i:Int)))),(5,(.fp (A1 ((nth st.all i).1)))),(8,(.fn 64 [] [(.ptr 2 0)])),(25,(.int .i64 ((st.all.length:Int)))),(26,(.int .i64 ((i:Int)))),(46,(Ak 5 Aw (((nth st.all i).1).provides))),(47,(.int .i64 (((((nth st.all i).1).provides).length:Int)))),(48,(.int .i64 ((j:Int))))],[(0,(.mm (Bq (Bz st.all i++Hj i (nth st.all i).1 j)) none 130 4)),(1,(.row [(.int .i64 st.kind),(.int .i64 ((st.all.length:Int))),(.map 0)] 128)),(2,(.row [(.ptr 1 0)] 72))],4⟩∧g=(nth st.all i).1.provides.length-j) [0,3,4,5,8,25,26,46,47,48] 4 _ (by omega) ⟨0,(by omega),(by kernel_rfl),rfl⟩ ?_);rintro g2 y2 ⟨j,f2_1,rfl,rfl⟩;refine Aa [] [0,3,4,5,8,25,26,46,47,48,49] (Ab ?_);refine A4 (p:=(j:Int) < ((((nth st.all i).1).provides).length:Int)) (fun c2=>?_) fun c2=>?_
  ·refine Ae (Ab ?_);refine Au (Ac [] [0,3,4,5,8,10,25,26,46,47,48] [] hk0 v0 (cc 0 (p:=(0≤(j:Int)∧j < (((nth st.all i).1).provides).length)) (by omega)<|c0) ?_);refine Aj (A9 9 0 [] [0,3,4,5,8,25,26,46,47,48,52,54,60] [(0,10)] hk0 v0 c0 ?_)
   refine Ut [2,1,0] (f:=64) (cap:=[(.ptr 2 0)]) (al:=[(.str ((nth (((nth st.all i).1).provides) j).name)),(.agg [(.int .i64 ((i:Int))),(.bool false),(.int .i64 ((nth (((nth st.all i).1).provides) j).op)),(.str ((nth (((nth st.all i).1).provides) j).evr))])]) (al':=[(.str ((nth (((nth st.all i).1).provides) j).name)),(.agg [(.int .i64 ((i:Int))),(.bool false),(.int .i64 ((nth (((nth st.all i).1).provides) j).op)),(.str ((nth (((nth st.all i).1).provides) j).evr))]),(.ptr 0 0)]) (r:=(.tup [])) (r':=(.tup [])) (H:=[(0,(.row [(.ptr 1 0)] 72)),(1,(.row [(.int .i64 st.kind),(.int .i64 ((st.all.length:Int))),(.map 2)] 128)),(2,(.mm (Bq (Bz st.all i++Hj i (nth st.all i).1 j)) none 130 4))]) (H':=[(0,(.row [(.ptr 1 0)] 72)),(1,(.row [(.int .i64 st.kind),(.int .i64 ((st.all.length:Int))),(.map 2)] 128)),(2,(.mm (Bq (Bz st.all i++Hj i (nth st.all i).1 j++[((nth (nth st.all i).1.provides j).name,(⟨(i:Int),false,(nth (nth st.all i).1.provides j).op,(nth (nth st.all i).1.provides j).evr⟩:OfferT))])) none 130 4))]) (by kernel_rfl) (by kernel_rfl) (by exact Xi) (by kernel_rfl) (by kernel_rfl) (by kernel_rfl) (by kernel_rfl) (by kernel_rfl) (V2 st.kind (st.all.length:Int) (Bz st.all i++Hj i (nth st.all i).1 j) ((nth (nth st.all i).1.provides j).name) ⟨(i:Int),false,(nth (nth st.all i).1.provides j).op,(nth (nth st.all i).1.provides j).evr⟩ (Nat.le_trans (Sz _ _) (by first|(simp only[List.length_append];have:=Sn (i:=i) (p:=(nth st.all i).1) (j:=j);have:=Sm (i:=i) (p:=(nth st.all i).1) (j:=j);omega)|omega))) hS (by kernel_rfl) pS ?_
   refine Bd ?_;refine Aj (An 0 [] [0,3,4,5,8,25,26,46,47,48] [] hk0 v0 (cc 0 (p:=(-9223372036854775808≤(j:Int)+1∧(j:Int)+1≤9223372036854775807)) (by omega)<|c0) ?_);refine⟨by kernel_rfl,_,?_,j+1,?_,(by rw[X22 (by omega),←List.append_assoc]<;>kernel_rfl),rfl⟩
   ·omega
   ·omega
  ·refine Br (Aa [] [0,3,4,8,25,26,64,65,66] ?_);refine Au (B4 (fun g y=>∃(j:Nat),j≤(nth st.all i).1.files.length∧y=⟨[(0,(.fp (Co st))),(3,(.ptr 2 0)),(4,(.int .i64 ((i:Int)))),(8,(.fn 64 [] [(.ptr 2 0)])),(25,(.int .i64 ((st.all.length:Int)))),(26,(.int .i64 ((i:Int)))),(64,(Dc (((nth st.all i).1).files))),(65,(.int .i64 (((((nth st.all i).1).files).length:Int)))),(66,(.int .i64 ((j:Int))))],[(0,(.mm (Bq (Bz st.all i++Gk i (nth st.all i).1 j)) none 130 4)),(1,(.row [(.int .i64 st.kind),(.int .i64 ((st.all.length:Int))),(.map 0)] 128)),(2,(.row [(.ptr 1 0)] 72))],4⟩∧g=(nth st.all i).1.files.length-j) [0,3,4,8,25,26,64,65,66] 4 _ (by omega) ⟨0,(by omega),(by rw[show Gk i (nth st.all i).1 0=Hj i (nth st.all i).1 (nth st.all i).1.provides.length from by simp[Gk],show(nth st.all i).1.provides.length=j from by omega]<;>kernel_rfl),rfl⟩ ?_);rintro g3 y3 ⟨j,f3_1,rfl,rfl⟩;refine Aa [] [0,3,4,8,25,26,64,65,66,67] (Ab ?_);refine A4 (p:=(j:Int) < ((((nth st.all i).1).files).length:Int)) (fun c3=>?_) fun c3=>?_
   ·refine Ae (Ab ?_);refine Au (Ac [] [0,3,4,8,12,25,26,64,65,66] [] hk0 v0 (cc 0 (p:=(0≤(j:Int)∧j < (((nth st.all i).1).files).length)) (by omega)<|c0) ?_);refine Aj (A9 4 0 [] [0,3,4,8,25,26,64,65,66,70,71,73] [] hk0 v0 c0 ?_)
    refine Ut [2,1,0] (f:=64) (cap:=[(.ptr 2 0)]) (al:=[(.str (nth (((nth st.all i).1).files) j)),(.agg [(.int .i64 ((i:Int))),(.bool false),(.int .i64 0),(.str [])])]) (al':=[(.str (nth (((nth st.all i).1).files) j)),(.agg [(.int .i64 ((i:Int))),(.bool false),(.int .i64 0),(.str [])]),(.ptr 0 0)]) (r:=(.tup [])) (r':=(.tup [])) (H:=[(0,(.row [(.ptr 1 0)] 72)),(1,(.row [(.int .i64 st.kind),(.int .i64 ((st.all.length:Int))),(.map 2)] 128)),(2,(.mm (Bq (Bz st.all i++Gk i (nth st.all i).1 j)) none 130 4))]) (H':=[(0,(.row [(.ptr 1 0)] 72)),(1,(.row [(.int .i64 st.kind),(.int .i64 ((st.all.length:Int))),(.map 2)] 128)),(2,(.mm (Bq (Bz st.all i++Gk i (nth st.all i).1 j++[(nth (nth st.all i).1.files j,(⟨(i:Int),false,0,[]⟩:OfferT))])) none 130 4))]) (by kernel_rfl) (by kernel_rfl) (by exact Xi) (by kernel_rfl) (by kernel_rfl) (by kernel_rfl) (by kernel_rfl) (by kernel_rfl) (V2 st.kind (st.all.length:Int) (Bz st.all i++Gk i (nth st.all i).1 j) (nth (nth st.all i).1.files j) ⟨(i:Int),false,0,[]⟩ (Nat.le_trans (Sz _ _) (by first|(simp only[List.length_append];have:=Sn (i:=i) (p:=(nth st.all i).1) (j:=j);have:=Sm (i:=i) (p:=(nth st.all i).1) (j:=j);omega)|omega))) hS (by kernel_rfl) pS ?_
    refine Bd ?_;refine Aj (An 0 [] [0,3,4,8,25,26,64,65,66] [] hk0 v0 (cc 0 (p:=(-9223372036854775808≤(j:Int)+1∧(j:Int)+1≤9223372036854775807)) (by omega)<|c0) ?_);refine⟨by kernel_rfl,_,?_,j+1,?_,(by rw[X21 (by omega),←List.append_assoc]<;>kernel_rfl),rfl⟩
    ·omega
    ·omega
   ·refine Br ?_;refine Aj (An 0 [] [0,3,25,26] [] hk0 v0 (cc 0 (p:=(-9223372036854775808≤(i:Int)+1∧(i:Int)+1≤9223372036854775807)) (by omega)<|c0) ?_);refine⟨by kernel_rfl,_,?_,i+1,?_,(by rw[V1,show La i (nth st.all i).1=Gk i (nth st.all i).1 j from by unfold La;rw[show(nth st.all i).1.files.length=j from by omega]]<;>kernel_rfl),rfl⟩
    ·omega
    ·omega
 ·refine Br ?_;refine Ab (Aj ?_);refine Jb 1 2 yS (Ex [] [2] ?_);refine Ad (RK wR [(.fp (.agg [(.int .i64 st.kind),(.int .i64 ((st.all.length:Int))),(.smap (.slice none 0 0) (fun kq => .row 4 ((Bq (Bz st.all i)) kq).length (fun ix=>((Bq (Bz st.all i)) kq).getD ix Bl)))]))] ?_);rw[show i=st.all.length from by omega];exact Same.of_eq rfl
end
theorem Wu {φ:Phi}:∀{l:List Int} {vs:List Value},VRl φ (l.map (AV.int .i64)) vs→vs=l.map (Value.int .i64)
 |[],vs,h=>h.nil_inv
 |x::l,vs,h=>by
  obtain⟨v,vs',rfl,h1,h2⟩:=h.cons_inv;simp only[VR] at h1;rw[Wu h2,h1];rfl
theorem U2 {φ:Phi}:∀l:List Int,VRl φ (l.map (AV.int .i64)) (l.map (Value.int .i64))
 |[] => .nil
 |x::l => .cons (by simp only[VR]) (U2 l)
theorem Tu (l:List Int):(l.map (Value.int .i64)).flatMap (fun u=>u.cells.toList)=l.map (Value.int .i64):=by
 induction l with
 |nil=>rfl
 |cons x l ih=>rw[List.map_cons,List.flatMap_cons,ih];first|done|rfl
theorem Q60 (l:List Int):∀u∈l.map (Value.int .i64),u.cells.size=1∧∀c∈u.cells.toList,c.oneCell'=true:=by
 intro u hu;obtain⟨x,_,rfl⟩:=List.mem_map.1 hu;exact⟨rfl,fun c hc=>by simp[Value.cells] at hc;subst hc;rfl⟩
theorem Rel.rebaseI {B:Bas} {φ:Phi} {h:AH} {w:World} (r:Rel B φ h w):Rel (Gf φ h w) φ h w :=
 ⟨⟨rfl,rfl,rfl,Nat.le_refl _,fun _ _=>rfl⟩,r.fro,fun b o e=>by have:=r.obj b o e;cases o<;>exact this,r.sep,fun b o k e i=>⟨fun q=>q.2 b o e i,(r.gf b o k e i).2⟩⟩
theorem Ub (zs:List Int):(Lib.compact zs).length≤zs.length:=by
 have:∀m,(Lib.compactUpTo zs.toArray m).length≤m:=by
  intro m
  induction m with
  |zero=>simp[Lib.compactUpTo]
  |succ m ih =>
   rw[Lib.compactUpTo_succ,List.length_append];split<;>simp<;>omega
 exact this _
theorem Q6u (l:List Int) (hl:l.length≤4611686018427) :
  Gz prog 116 [.own 0] [(0,.grow (l.map (AV.int .i64)) 3 1)] 1 (.own 0) [(0,.grow ((Lib.compact l).map (AV.int .i64)) 3 1)]:=by
 intro B0 φ w vs r hv;obtain⟨v,rfl,hv1⟩:=hv.single_inv;simp only[VR] at hv1;obtain⟨v0,us,q1,q2,q3,q4⟩:=r.obj 0 _ rfl;rw[hv1.1] at q1;cases q1;have hu:=Wu q3;subst hu;rw[Tu,List.length_map] at q2;have hr:=r.rebaseI;rcases q2.2 with⟨rfl,hn⟩|⟨g,cap,cur,rfl,hg1,hg2,hg3,hg4,hg5,hg6⟩
 ·have hl0:l=[]:=List.length_eq_zero_iff.1 hn;subst hl0;refine(Tryz.slices_Compact_int_empty none 0 w).mono ?_;rintro e w' ⟨he,rfl⟩;exact⟨_,he,φ,hr,by simp only[VR];exact hv1,fun _ _ _ e=>e,fun _ _ e=>e,fun _ _ e => .inl e⟩
 ·have hh:Go.Sort.Holds (Value.int .i64) w g 0 l.toArray:=holds_of_blockI hg2 (by simpa using hg6);refine(Tryz.slices_Compact_int g 0 cap l w hh (by omega) hg3).mono ?_;rintro e w' ⟨he,n,rfl⟩;have hgr:=grownBy_sortedI (w:=w) (g:=g) (n:=n) (os := #[]) (Lib.compact l++List.replicate (l.length-(Lib.compact l).length) 0).toArray;rw[Go.Sort.grow_empty] at hgr;have hle:=Ub l
  have hts:(Lib.compact l++List.replicate (l.length-(Lib.compact l).length) (0:Int)).length=l.length:=by simp;omega
  have ho:=ownsRow_sortedI (n:=n) (os := #[]) (base:=0) (ts:=Lib.compact l++List.replicate (l.length-(Lib.compact l).length) 0) (ss:=l) hts hg1 hg2 hg3 hg4 (by simpa using hg5);rw[Go.Sort.grow_empty] at ho;refine⟨_,he,⟨φ.m,fun i=>if i=0 then some (.slice (some ⟨g,0,none⟩) (Lib.compact l).length cap) else φ.s i,φ.f⟩,?_,by simp only[VR];exact⟨rfl,_,_,_,rfl⟩,fun _ _ _ e=>e,fun _ _ e=>e,fun _ _ e => .inl e⟩
  have ht:Turn φ ⟨φ.m,fun i=>if i=0 then some (.slice (some ⟨g,0,none⟩) (Lib.compact l).length cap) else φ.s i,φ.f⟩ 0:=⟨fun _=>rfl,fun c hc=>if_neg hc,fun _ _ e=>e⟩
  refine Rel.grown (v':=.slice (some ⟨g,0,none⟩) (Lib.compact l).length cap) (es':=(Lib.compact l).map (AV.int .i64)) hr (b:=0) rfl hv1.1 ht rfl rfl hgr (.inl rfl) (fun k hk=>by cases hk;exact Nat.lt_of_lt_of_le (Dl hg2) hgr.size) ⟨_,(Lib.compact l).map (Value.int .i64),rfl,?_,U2 _,Q60 _⟩;rw[Tu,List.length_map];refine⟨by simp,.inr ⟨g,cap,Go.Sort.putCells (Value.int .i64) 0 (Lib.compact l++List.replicate (l.length-(Lib.compact l).length) 0).toArray cur,rfl,hg1,?_,by omega,hg4,by simp[Go.Sort.putCells,hg5],?_⟩⟩
  ·have:=heap_sortedI (w:=w) (g:=g) (n:=n) (os := #[]) (Lib.compact l++List.replicate (l.length-(Lib.compact l).length) 0).toArray hg2;rw[Go.Sort.grow_empty] at this;exact this
  ·have:=take_putCellsI cur (Lib.compact l++List.replicate (l.length-(Lib.compact l).length) 0) (by rw[hts,hg5];omega);have:=congrArg (List.take (Lib.compact l).length) this;rw[List.take_take,Nat.min_eq_left (by rw[hts];exact hle),List.map_append,List.take_append_of_le_length (by simp),List.take_of_length_le (l:=(Lib.compact l).map (Value.int .i64)) (by simp)] at this;rw[Nat.mul_one];exact this
section
attribute [local irreducible] SW SO Bk
theorem Y1f:Ai prog 115:=Am func115
theorem Q5b:Ai prog 69:=Am func69
theorem Y1k:Ai prog 108:=Am func108
theorem X9e:Ai prog 60:=Am func60
theorem Xr:Ai prog 116:=Am func116
theorem Y0n:Ai prog 172:=Am func172
theorem X9a:Ai prog 66:=Am func66
theorem Qw:Ai prog 31:=Am func31
theorem X4c (ps:List (List UInt8 × OfferT)) (s:List UInt8):Imp (.row 4 (Bq ps s).length (fun i=>(Bq ps s).getD i Bl)) (Ak 4 N4 (Ct ps s)):=Imp.list (f:=N4) (List.length_map _)
def L1 (m:Int→Int→List UInt8→Int→List UInt8→Bool × Int):Prop:=∀k op a o b,a.length≤4194304→b.length≤4194304→FnV prog 172 [.int .i64 k,.int .i64 op,.str a,.int .i64 o,.str b] (.tup [.bool (m k op a o b).1,.int .i64 (m k op a o b).2])
def Qo (m:Int→Int→List UInt8→Int→List UInt8→Bool × Int) (k:Int) (d:DepT) (o:OfferT):Bool:=if d.op=0∨o.op=0 then decide (d.op=0) else (m k d.op d.evr o.op o.evr).1
def IdxOk (st:PoolT):Prop:=st.all.length≤200∧∀i,i < st.all.length→(nth st.all i).1.size≤4194304
theorem IdxOk.len {st:PoolT} (h:IdxOk st) (s:List UInt8):(Ct (Bz st.all st.all.length) s).length≤2147483648:=by
 have h1:=Q0x h.2 st.all.length (Nat.le_refl _);have h2:=Sz (Bz st.all st.all.length) s;have h3:(Bq (Bz st.all st.all.length) s).length=(Ct (Bz st.all st.all.length) s).length:=List.length_map _;have:=h.1;omega
theorem G5 {α:Type} [Inhabited α] {l:List α} {j:Nat} (h:j < l.length):nth l j=l[j]:=by simp[nth,h]
theorem X20 {st:PoolT} (h:IdxOk st) {q:List UInt8 × OfferT} (hq:q∈Bz st.all st.all.length):q.2.evr.length≤4194304:=by
 unfold Bz at hq;obtain⟨i,hi,hq⟩:=List.mem_flatMap.1 hq
 have hi:i < st.all.length:=by simpa using hi
 have h1:=h.2 i hi;have h2:=(nth st.all i).1.sizes;unfold La Gk Hj at hq;simp only[List.take_length,List.cons_append,List.mem_cons,List.mem_append,List.mem_map] at hq;rcases hq with rfl|⟨d,hd,rfl⟩|⟨x,hx,rfl⟩
 ·show(nth st.all i).1.evr.length≤_;omega
 ·obtain⟨j,hj,rfl⟩:=List.getElem_of_mem hd;have h3:=Jz (l:=(nth st.all i).1.provides) (i:=j) hj;have h4:=Ir (nth (nth st.all i).1.provides j)
  have h5:argsSize (nth st.all i).1.provides≤(nth st.all i).1.depSize:=by unfold PkgT.depSize;omega
  have h6:nth (nth st.all i).1.provides j=(nth st.all i).1.provides[j]:=G5 hj;rw[h6] at h3 h4;show(nth st.all i).1.provides[j].evr.length≤_;omega
 ·exact Nat.zero_le _
theorem IdxOk.evr {st:PoolT} (h:IdxOk st) {s:List UInt8} {i:Nat} (hi:i < (Ct (Bz st.all st.all.length) s).length):(nth (Ct (Bz st.all st.all.length) s) i).evr.length≤4194304:=by
 have hm:nth (Ct (Bz st.all st.all.length) s) i∈Ct (Bz st.all st.all.length) s:=by
  have:nth (Ct (Bz st.all st.all.length) s) i=(Ct (Bz st.all st.all.length) s)[i]:=by simp[nth,hi]
  rw[this];exact List.getElem_mem hi
 obtain⟨q,hq,e⟩:=List.mem_map.1 hm;rw[←e];exact X20 h (List.mem_filter.1 hq).1
def Ii (m:Int→Int→List UInt8→Int→List UInt8→Bool × Int) (st:PoolT) (d:DepT) (own:Bool) (o:OfferT):Bool:=(o.own||!own)&&Qo m st.kind d o
def Em (m:Int→Int→List UInt8→Int→List UInt8→Bool × Int) (st:PoolT) (d:DepT) (own:Bool) (i:Nat):List Int:=(((Ct (Bz st.all st.all.length) d.name).take i).filter (Ii m st d own)).map fun o=>o.id
def Hn (m:Int→Int→List UInt8→Int→List UInt8→Bool × Int) (st:PoolT) (d:DepT) (own:Bool):List Int:=Lib.compact (Em m st d own (Ct (Bz st.all st.all.length) d.name).length)
theorem Q4e {m:Int→Int→List UInt8→Int→List UInt8→Bool × Int} {st:PoolT} {d:DepT} {own:Bool} {i:Nat} (h:i < (Ct (Bz st.all st.all.length) d.name).length):Em m st d own (i+1)=Em m st d own i++(if Ii m st d own (nth (Ct (Bz st.all st.all.length) d.name) i)=true then [(nth (Ct (Bz st.all st.all.length) d.name) i).id] else []):=by
 unfold Em;rw[List.take_add_one,List.getElem?_eq_getElem h,List.filter_append,List.map_append];congr 1
 have:nth (Ct (Bz st.all st.all.length) d.name) i=(Ct (Bz st.all st.all.length) d.name)[i]:=by simp[nth,h]
 rw[this];cases hc:Ii m st d own (Ct (Bz st.all st.all.length) d.name)[i]<;>simp[hc]
theorem Wy {m:Int→Int→List UInt8→Int→List UInt8→Bool × Int} {st:PoolT} {d:DepT} {own:Bool} {i:Nat}:(Em m st d own i).length≤(Ct (Bz st.all st.all.length) d.name).length:=by
 unfold Em;rw[List.length_map];exact Nat.le_trans (List.length_filter_le _ _) (by simp;omega)
theorem X7f {m:Int→Int→List UInt8→Int→List UInt8→Bool × Int} {st:PoolT} {d:DepT} {own:Bool} {i:Nat} (h:i < (Ct (Bz st.all st.all.length) d.name).length) (hc:Ii m st d own (nth (Ct (Bz st.all st.all.length) d.name) i)=true):(Em m st d own (i+1)).map (AV.int .i64)=(Em m st d own i).map (AV.int .i64)++[.int .i64 (nth (Ct (Bz st.all st.all.length) d.name) i).id]:=by
 rw[Q4e h,if_pos hc,List.map_append];rfl
theorem X7g {m:Int→Int→List UInt8→Int→List UInt8→Bool × Int} {st:PoolT} {d:DepT} {own:Bool} {i:Nat} (h:i < (Ct (Bz st.all st.all.length) d.name).length) (hc:Ii m st d own (nth (Ct (Bz st.all st.all.length) d.name) i)=false):Em m st d own (i+1)=Em m st d own i:=by
 rw[Q4e h,if_neg (by rw[hc];simp),List.append_nil]
theorem X6x (l:List Int) (a:AV) (p:Int→Bool) (hl:l.length≤4611686018427387904) (ha:∀i,i < l.length→FunV prog a [(.int .i64 (nth l i))] (.bool (p (nth l i)))) :
  FnV prog 108 [(Bi l),(.clo a)] (.int .i64 (Ei p l)):=by
 refine Ax [.tmp 4] func108 ntmps108 fun B F hF=>?_;refine Aa [] [0,1] ?_;refine Ab (Aa [] [0,1,7,8] ?_);refine Au (B4 (fun g y=>∃(i:Nat),i≤l.length∧(∀j,j < i→p (nth l j)=false)∧y=⟨[(0,(Bi l)),(1,(.clo a)),(7,(.int .i64 ((l.length:Int)))),(8,(.int .i64 ((i:Int))))],[],0⟩∧g=l.length-i) [0,1,7,8] 0 _ (by omega) ⟨0,(by omega),(by exact fun j hj=>by omega),(by kernel_rfl),rfl⟩ ?_);rintro g1 y1 ⟨i,f1_1,f1_2,rfl,rfl⟩;refine Aa [] [0,1,7,8,9] (Ab ?_);refine A4 (p:=(i:Int) < (l.length:Int)) (fun c1=>?_) fun c1=>?_
 ·refine Ae ?_;refine Ab (Au ?_);refine Aa [] [0,1,5,7,8] (Ab ?_);refine Aj (A9 5 0 [] [0,1,5,7,8,11,15] [] hk0 v0 (cc 3 (p:=(0≤(i:Int)∧i < l.length)) (by omega)<|c0) ?_);refine Fc (a:=(.clo a)) (al:=[(.int .i64 (nth l i))]) (r:=(.bool (p (nth l i)))) (by kernel_rfl) (by kernel_rfl) (by kernel_rfl) (by kernel_rfl) (by kernel_rfl) ((ha i (by omega)).clo) pS (Bd ?_);refine A7 (q:=p (nth l i)) (fun c2=>?_) fun c2=>?_
  ·refine Aa [] [4] ?_;refine Ad (RK wR [(.int .i64 ((i:Int)))] ?_);exact Same.of_eq (by rw[Lk (by omega) f1_2 (by simp_all)];rfl)
  ·refine Ae ?_;refine Aj (An 0 [] [0,1,7,8] [] hk0 v0 (cc 0 (p:=(-9223372036854775808≤(i:Int)+1∧(i:Int)+1≤9223372036854775807)) (by omega)<|c0) ?_);refine⟨by kernel_rfl,_,?_,i+1,?_,?_,(by kernel_rfl),rfl⟩
   ·omega
   ·omega
   ·intro j hj;by_cases h:j=i
    ·subst h;simp_all
    ·exact f1_2 j (by omega)
 ·refine Br (Aa [] [4] ?_);refine Ad (RK wR [(.int .i64 (-1))] ?_);exact Same.of_eq (by rw[Lj (fun j hj=>f1_2 j (by omega))];rfl)
theorem X6y (l:List Int) (a:AV) (p:Int→Bool) (hl:l.length≤4611686018427387904) (ha:∀i,i < l.length→FunV prog a [(.int .i64 (nth l i))] (.bool (p (nth l i)))) :
  FnV prog 60 [(Bi l),(.clo a)] (.bool (l.any p)):=by
 refine Ax [.tmp 4] func60 ntmps60 fun B F hF=>?_;refine Aa [] [0,1] (Ac [] [4] [] (hk 2 Y1k (X6x l a p hl ha)<|hk0) v0 c0 ?_);refine Ad (RK wR [(.bool (decide (0≤(Ei p l))))] ?_);exact Same.of_eq (by simp only[Ag];rw[Ll])
theorem X76 (m:Int→Int→List UInt8→Int→List UInt8→Bool × Int) (hM:L1 m) (st:PoolT) (d:DepT) (o:OfferT) (hd:d.size≤4194304) (ho:o.evr.length≤4194304) :
  FnV prog 115 [(.fp (E3 st)),(.agg [(.int .i64 d.kind),(.str d.name),(.int .i64 d.op),(.str d.evr),(.row 5 d.args.length (depAt d.args))]),(.agg [(.int .i64 o.id),(.bool o.own),(.int .i64 o.op),(.str o.evr)])] (.bool (Qo m st.kind d o)):=by
 have hda:=Ir d;refine Ax [.tmp 6] func115 ntmps115 fun B F hF=>?_;refine Ac [] [0,4,5] [(1,4),(2,5)] hk0 v0 c0 (Ab ?_)
 obtain⟨b1,hb1⟩:∃b,b=(decide (d.op=0)):=⟨_,rfl⟩
 refine Ac (CS:=[(5,((!b1)=true→(!b1)=true)),(6,((!b1)=true→(!b1)=true)),(7,(b1=false→(!b1)=true))]) [13,14,15] [0,4,5,16] [] hk0 (vk 4 12 (a:=.bool (decide (d.op=0))) (b:=.bool b1) (Imp.of_eq (by rw[hb1]))<|v0) (by refine cc _ ?_<|cc _ ?_<|cc _ ?_ c0<;>simp) ?_;refine A7 (q:=b1||(decide (o.op=0))) (fun c1=>?_) fun c1=>?_
 ·subst hb1
  try simp only[Aq] at c1
  refine Aa [] [6] ?_;refine Ad (RK wR [(.bool (decide (d.op=0)))] ?_);exact Same.of_eq (by simp only[Ag];unfold Qo;rw[if_pos (by simpa using c1)])
 ·subst hb1
  try simp only[Aq] at c1
  refine Ae (Da [] [7] [] (hk 12 Y0n (hM st.kind d.op d.evr o.op o.evr (by omega) ho)<|hk0) v0 c0 ?_);refine Aa [] [6] ?_;refine Ad (RK wR [(.bool ((m st.kind d.op d.evr o.op o.evr).1))] ?_);exact Same.of_eq (by simp only[Ag];unfold Qo;rw[if_neg (by simpa using c1)])
theorem Q2z (m:Int→Int→List UInt8→Int→List UInt8→Bool × Int) (hM:L1 m) (st:PoolT) (hi:IdxOk st) (d:DepT) (own:Bool) (hd:d.size≤4194304) :
  FnV prog 69 [(.fp (E3 st)),(.agg [(.int .i64 d.kind),(.str d.name),(.int .i64 d.op),(.str d.evr),(.row 5 d.args.length (depAt d.args))]),(.bool own)] (Bi (Hn m st d own)):=by
 have hlg:(Bq (Bz st.all st.all.length) d.name).length=(Ct (Bz st.all st.all.length) d.name).length:=List.length_map _;have hll:=hi.len d.name;refine Ax [.tmp 6] func69 ntmps69 fun B F hF=>?_;refine Ac [] [0,2,4] [(1,4)] hk0 v0 c0 (Aa [] [0,2,4,7] ?_);refine Ab (Ab ?_);refine E5 (by kernel_rfl) (fun F1 hF1=>?_);refine Cb (fuel:=2) [] [0,1,2,3,4,5,8] [0,2,4,7,13,15,18] Ap (C6 (fuel:=1) 6 (by kernel_rfl) ?_);refine Ce (fuel:=1) 6 rfl (Q8w (s:=d.name) (z:=.slice none 0 0) (G:=fun s => .row 4 (Bq (Bz st.all st.all.length) s).length (fun i=>(Bq (Bz st.all st.all.length) s).getD i Bl)) (by kernel_rfl) (by kernel_rfl) (by kernel_rfl) underlying126 underlying9 (fun _=>by kernel_rfl) pS ?_);refine Bd ⟨rfl,?_⟩;refine Cb (fuel:=0) [] [7] [0,2,4,7,16,17,18] Ap (Ao [0,2,4,7,16,17,18] ?_);refine Ek (by kernel_rfl) (Au ?_);refine Rf 16 (Ak 4 N4 (Ct (Bz st.all st.all.length) d.name)) (by kernel_rfl) (X4c (Bz st.all st.all.length) d.name) (Lx 3 1 7 (by kernel_rfl) yS ?_)
 refine B4 (fun g y=>∃(i:Nat),i≤(Ct (Bz st.all st.all.length) d.name).length∧y=⟨[(0,(.fp (E3 st))),(2,(.bool own)),(4,(.fp (.agg [(.int .i64 d.kind),(.str d.name),(.int .i64 d.op),(.str d.evr),(.row 5 d.args.length (depAt d.args))]))),(7,(.own 1)),(16,(Ak 4 N4 (Ct (Bz st.all st.all.length) d.name))),(17,(.int .i64 (((Bq (Bz st.all st.all.length) d.name).length:Int)))),(18,(.int .i64 ((i:Int))))],[(1,(.grow ((Em m st d own i).map (AV.int .i64)) 3 1))],2⟩∧g=(Ct (Bz st.all st.all.length) d.name).length-i) [0,2,4,7,16,17,18] 2 _ (by omega) ⟨0,(by omega),(by kernel_rfl),rfl⟩ ?_;rintro g1 y1 ⟨i,f1_1,rfl,rfl⟩;have hhl:=Wy (m:=m) (st:=st) (d:=d) (own:=own) (i:=i);have hhm:((Em m st d own i).map (AV.int .i64)).length=(Em m st d own i).length:=List.length_map _;refine Aa [] [0,2,4,7,16,17,18,19] (Ab ?_);refine A4 (p:=(i:Int) < ((Bq (Bz st.all st.all.length) d.name).length:Int)) (fun c1=>?_) fun c1=>?_
 ·refine Ae (Ab ?_);refine Au (Ac [] [0,2,4,7,9,16,17,18] [] hk0 v0 (cc 0 (p:=(0≤(i:Int)∧i < (Ct (Bz st.all st.all.length) d.name).length)) (by omega)<|c0) ?_)
  obtain⟨b1,hb1⟩:∃b,b=((nth (Ct (Bz st.all st.all.length) d.name) i).own):=⟨_,rfl⟩
  refine Ac (CS:=[(4,((!b1)=true→(!b1)=true)),(5,(b1=false→(!b1)=true)),(10,(b1||(!own))=true→(b1||(!own))=true∧(b1||(!own))=true∧(b1||(!own))=true),(11,((b1||(!own))=true→(b1||(!own))=true))]) [25,26,29,30,31] [0,2,4,7,9,16,17,18,33] [(0,9)] (hkg 10 (b1||(!own)) Y1f (fun cg=>X76 m hM st d (nth (Ct (Bz st.all st.all.length) d.name) i) hd (hi.evr (by omega)))<|hk0) (vk 3 24 (a:=.bool ((nth (Ct (Bz st.all st.all.length) d.name) i).own)) (b:=.bool b1) (Imp.of_eq (by rw[hb1]))<|v0) (by refine cc _ ?_<|cc _ ?_<|cc _ ?_<|cc _ ?_ c0<;>simp) ?_;refine A7 (q:=(b1||(!own))&&(Qo m st.kind d (nth (Ct (Bz st.all st.all.length) d.name) i))) (fun c2=>?_) fun c2=>?_
  ·subst hb1
   try simp only[Aq] at c2
   refine Aj (An 0 [] [0,2,4,7,16,17,18] [] hk0 v0 (cc 4 (p:=((((Em m st d own i).map (AV.int .i64)).length+1)*8≤140737488355328)) (by omega)<|c0) ?_);refine Aj (An 0 [] [0,2,4,7,16,17,18] [] hk0 v0 (cc 0 (p:=(-9223372036854775808≤(i:Int)+1∧(i:Int)+1≤9223372036854775807)) (by omega)<|c0) ?_);refine⟨by kernel_rfl,_,?_,i+1,?_,(by rw[X7f (by omega) (by unfold Ii;simpa using c2)]<;>kernel_rfl),rfl⟩
   ·omega
   ·omega
  ·subst hb1
   try simp only[Aq] at c2
   refine Ae ?_;refine Aj (An 0 [] [0,2,4,7,16,17,18] [] hk0 v0 (cc 0 (p:=(-9223372036854775808≤(i:Int)+1∧(i:Int)+1≤9223372036854775807)) (by omega)<|c0) ?_);refine⟨by kernel_rfl,_,?_,i+1,?_,(by rw[X7g (by omega) (by unfold Ii;simp only[Bool.and_eq_false_iff,Bool.or_eq_false_iff,Bool.not_eq_false'];simpa only [Bool.not_eq_false',Bool.not_eq_eq_eq_not,Bool.not_false] using c2)]<;>kernel_rfl),rfl⟩
   ·omega
   ·omega
 ·refine Br ?_;refine Ab (Aj ?_);refine A9 1 0 [] [40] [] hk0 v0 c0 (Ew [1] (al:=[(.own 1)]) (al':=[(.own 0)]) (r:=(.own 0)) (r':=(.own 1)) (H:=[(0,(.grow ((Em m st d own i).map (AV.int .i64)) 3 1))]) (H':=[(0,(.grow ((Lib.compact (Em m st d own i)).map (AV.int .i64)) 3 1))]) (by kernel_rfl) (by exact Xr) (by kernel_rfl) (by kernel_rfl) (by kernel_rfl) (by kernel_rfl) (by kernel_rfl) (Q6u (Em m st d own i) (by have:=Wy (m:=m) (st:=st) (d:=d) (own:=own) (i:=i);omega)) hS (by kernel_rfl) pS ?_);refine An 2 [] [6] [] hk0 v0 c0 ?_;refine Ad (RK wR [(.row 1 ((Lib.compact (Em m st d own i)).map (AV.int .i64)).length (fun ix=>((Lib.compact (Em m st d own i)).map (AV.int .i64)).getD ix Bl))] ?_);rw[show i=(Ct (Bz st.all st.all.length) d.name).length from by omega];exact Same.list (f:=AV.int .i64) (List.length_map _)
theorem X91:Ai prog 230:=Am func230
theorem X98:Ai prog 208:=Am func208
theorem Y0b:Ai prog 205:=Am func205
theorem Y0a:Ai prog 206:=Am func206
theorem X99:Ai prog 207:=Am func207
theorem X97:Ai prog 209:=Am func209
theorem Q50:Ai prog 178:=Am func178
theorem Y0k:Ai prog 177:=Am func177
instance:Inhabited AV:=⟨.nilf⟩
def Jx (q:AV × Bool):AV:=.clo q.1
def Px (l:List Int) (v:Int):Int:=Ei (fun x=>decide (v=x)) l
theorem X64 (l:List Int) (v:Int) (hl:l.length≤4611686018427387904) :
  FnV prog 66 [(Bi l),(.int .i64 v)] (.int .i64 (Px l v)):=by
 refine Ax [.tmp 4] func66 ntmps66 fun B F hF=>?_;refine Aa [] [0,1] ?_;refine Ab (Aa [] [0,1,7,8] ?_);refine Au (B4 (fun g y=>∃(i:Nat),i≤l.length∧(∀j,j < i→¬v=nth l j)∧y=⟨[(0,(Bi l)),(1,(.int .i64 v)),(7,(.int .i64 ((l.length:Int)))),(8,(.int .i64 ((i:Int))))],[],0⟩∧g=l.length-i) [0,1,7,8] 0 _ (by omega) ⟨0,(by omega),(by exact fun j hj=>by omega),(by kernel_rfl),rfl⟩ ?_);rintro g1 y1 ⟨i,f1_1,f1_2,rfl,rfl⟩;refine Aa [] [0,1,7,8,9] (Ab ?_);refine A4 (p:=(i:Int) < (l.length:Int)) (fun c1=>?_) fun c1=>?_
 ·refine Ae ?_;refine Ab (Au ?_);refine Aa [] [0,1,5,7,8] (Ac [] [0,1,5,7,8,16] [] hk0 v0 (cc 3 (p:=(0≤(i:Int)∧i < l.length)) (by omega)<|c0) ?_);refine A4 (p:=v=(nth l i)) (fun c2=>?_) fun c2=>?_
  ·refine Aa [] [4] ?_;refine Ad (RK wR [(.int .i64 ((i:Int)))] ?_);exact Same.of_eq (by unfold Px;rw[Lk (p:=fun x=>decide (v=x)) (i:=i) (by omega) (fun j hj=>by simpa using f1_2 j hj) (by simpa using c2)];rfl)
  ·refine Ae ?_;refine Aj (An 0 [] [0,1,7,8] [] hk0 v0 (cc 0 (p:=(-9223372036854775808≤(i:Int)+1∧(i:Int)+1≤9223372036854775807)) (by omega)<|c0) ?_);refine⟨by kernel_rfl,_,?_,i+1,?_,?_,(by kernel_rfl),rfl⟩
   ·omega
   ·omega
   ·intro j hj;by_cases h:j=i
    ·subst h;assumption
    ·exact f1_2 j (by omega)
 ·refine Br (Aa [] [4] ?_);refine Ad (RK wR [(.int .i64 (-1))] ?_);exact Same.of_eq (by unfold Px;rw[Lj (p:=fun x=>decide (v=x)) (fun j hj=>by simpa using f1_2 j (by omega))];rfl)
theorem Q2 (l:List Int) (v:Int) (hl:l.length≤4611686018427387904) :
  FnV prog 31 [(Bi l),(.int .i64 v)] (.bool (l.any fun x=>decide (v=x))):=by
 refine Ax [.tmp 4] func31 ntmps31 fun B F hF=>?_;refine Aa [] [0,1] (Ac [] [4] [] (hk 2 X9a (X64 l v hl)<|hk0) v0 c0 ?_);refine Ad (RK wR [(.bool (decide (0≤(Px l v))))] ?_);exact Same.of_eq (by simp only[Ag];unfold Px;rw[Ll])
theorem X7w (l:List (AV × Bool)) (a:AV) (p:(AV × Bool)→Bool) (hl:l.length≤4611686018427387904) (ha:∀i,i < l.length→FunV prog a [(.clo ((nth l i).1))] (.bool (p (nth l i)))) :
  FnV prog 230 [(Ak 1 Jx l),(.clo a)] (.int .i64 (Ei p l)):=by
 refine Ax [.tmp 4] func230 ntmps230 fun B F hF=>?_;refine Aa [] [0,1] ?_;refine Ab (Aa [] [0,1,7,8] ?_);refine Au (B4 (fun g y=>∃(i:Nat),i≤l.length∧(∀j,j < i→p (nth l j)=false)∧y=⟨[(0,(Ak 1 Jx l)),(1,(.clo a)),(7,(.int .i64 ((l.length:Int)))),(8,(.int .i64 ((i:Int))))],[],0⟩∧g=l.length-i) [0,1,7,8] 0 _ (by omega) ⟨0,(by omega),(by exact fun j hj=>by omega),(by kernel_rfl),rfl⟩ ?_);rintro g1 y1 ⟨i,f1_1,f1_2,rfl,rfl⟩;refine Aa [] [0,1,7,8,9] (Ab ?_);refine A4 (p:=(i:Int) < (l.length:Int)) (fun c1=>?_) fun c1=>?_
 ·refine Ae ?_;refine Ab (Au ?_);refine Aa [] [0,1,5,7,8] (Ab ?_);refine Aj (A9 5 0 [] [0,1,5,7,8,11,15] [] hk0 v0 (cc 3 (p:=(0≤(i:Int)∧i < l.length)) (by omega)<|c0) ?_);refine Fc (a:=(.clo a)) (al:=[(.clo ((nth l i).1))]) (r:=(.bool (p (nth l i)))) (by kernel_rfl) (by kernel_rfl) (by kernel_rfl) (by kernel_rfl) (by kernel_rfl) ((ha i (by omega)).clo) pS (Bd ?_);refine A7 (q:=p (nth l i)) (fun c2=>?_) fun c2=>?_
  ·refine Aa [] [4] ?_;refine Ad (RK wR [(.int .i64 ((i:Int)))] ?_);exact Same.of_eq (by rw[Lk (by omega) f1_2 (by simp_all)];rfl)
  ·refine Ae ?_;refine Aj (An 0 [] [0,1,7,8] [] hk0 v0 (cc 0 (p:=(-9223372036854775808≤(i:Int)+1∧(i:Int)+1≤9223372036854775807)) (by omega)<|c0) ?_);refine⟨by kernel_rfl,_,?_,i+1,?_,?_,(by kernel_rfl),rfl⟩
   ·omega
   ·omega
   ·intro j hj;by_cases h:j=i
    ·subst h;simp_all
    ·exact f1_2 j (by omega)
 ·refine Br (Aa [] [4] ?_);refine Ad (RK wR [(.int .i64 (-1))] ?_);exact Same.of_eq (by rw[Lj (fun j hj=>f1_2 j (by omega))];rfl)
theorem X7x (l:List (AV × Bool)) (a:AV) (p:(AV × Bool)→Bool) (hl:l.length≤4611686018427387904) (ha:∀i,i < l.length→FunV prog a [(.clo ((nth l i).1))] (.bool (p (nth l i)))) :
  FnV prog 208 [(Ak 1 Jx l),(.clo a)] (.bool (l.any p)):=by
 refine Ax [.tmp 4] func208 ntmps208 fun B F hF=>?_;refine Aa [] [0,1] (Ac [] [4] [] (hk 2 X91 (X7w l a p hl ha)<|hk0) v0 c0 ?_);refine Ad (RK wR [(.bool (decide (0≤(Ei p l))))] ?_);exact Same.of_eq (by simp only[Ag];rw[Ll])
theorem Y31 (l:List Int) (id:Int) (hl:l.length≤4611686018427387904) :
  FnV prog 205 [(.int .i64 id),(.fp (.agg [(Bi l)]))] (.bool (l.any fun x=>decide (id=x))):=by
 refine Ax [.tmp 3] func205 ntmps205 fun B F hF=>?_;refine Aa [] [0,1] (Ac [] [3] [] (hk 2 Qw (Q2 l id hl)<|hk0) v0 c0 ?_);refine Ad (RK wR [(.bool (l.any fun x=>decide (id=x)))] ?_);exact Same.of_eq (by first|rfl|(simp only[Ag];simp_all))
theorem Y30 (l:List (AV × Bool)) (id:Int) (hl:2≤l.length) (hf:∀i,i < l.length→FunV prog (nth l i).1 [.int .i64 id] (.bool (nth l i).2)) :
  FnV prog 206 [(.int .i64 id),(.fp (.agg [(Ak 1 Jx l)]))] (.bool ((nth l 0).2&&!(nth l 1).2)):=by
 refine Ax [.tmp 3] func206 ntmps206 fun B F hF=>?_;refine Aa [] [0,1] (Ab ?_);refine Aj (A9 4 0 [] [0,1,6,7] [] hk0 v0 (cc 1 (p:=(0≤(0:Int)∧0 < l.length)) (by omega)<|c0) ?_);refine Fc (a:=(.clo ((nth l 0).1))) (al:=[(.int .i64 id)]) (r:=(.bool ((nth l 0).2))) (by kernel_rfl) (by kernel_rfl) (by kernel_rfl) (by kernel_rfl) (by kernel_rfl) ((hf 0 (by omega)).clo) pS (A9 1 5 [] [0,1,9] [] hk0 v0 c0 ?_);refine I6 ((nth l 0).2) (fun c1=>?_) (fun c1=>?_)
 ·refine J4 9 (a:=.bool ((nth l 0).2)) (.bool true) (by kernel_rfl) (Imp.of_eq (by rw[c1])) (A9 4 6 [] [9,12,13] [] hk0 v0 (cc 7 (p:=(0≤(1:Int)∧1 < l.length)) (by omega)<|c0) ?_);refine Fc (a:=(.clo ((nth l 1).1))) (al:=[(.int .i64 id)]) (r:=(.bool ((nth l 1).2))) (by kernel_rfl) (by kernel_rfl) (by kernel_rfl) (by kernel_rfl) (by kernel_rfl) ((hf 1 (by omega)).clo) pS (An 11 [] [3] [] hk0 v0 c0 ?_);refine Ad (RK wR [(.bool (!((nth l 1).2)))] ?_);exact Same.of_eq (by simp only[Ag];simp_all)
 ·refine J4 9 (a:=.bool ((nth l 0).2)) (.bool false) (by kernel_rfl) (Imp.of_eq (by rw[c1])) (An 6 [] [3] [] hk0 v0 c0 ?_);refine Ad (RK wR [(.bool false)] ?_);exact Same.of_eq (by simp only[Ag];simp_all)
theorem Y3z (a:AV) (q:Bool) (id:Int) (hf:FunV prog a [.int .i64 id] (.bool q)) :
  FnV prog 209 [(.clo a),(.fp (.agg [(.int .i64 id)]))] (.bool (!q)):=by
 refine Ax [.tmp 3] func209 ntmps209 fun B F hF=>?_;refine Aa [] [0,1] (Ab ?_);refine Aj (A9 2 0 [] [4,5] [] hk0 v0 c0 ?_);refine Fc (a:=(.clo a)) (al:=[(.int .i64 id)]) (r:=(.bool q)) (by kernel_rfl) (by kernel_rfl) (by kernel_rfl) (by kernel_rfl) (by kernel_rfl) hf.clo pS (An 3 [] [3] [] hk0 v0 c0 ?_);refine Ad (RK wR [(.bool (!q))] ?_);exact Same.of_eq (by first|rfl|(simp only[Ag];simp_all))
theorem Y3y (l:List (AV × Bool)) (id:Int) (hl:l.length≤4611686018427387904) (hf:∀i,i < l.length→FunV prog (nth l i).1 [.int .i64 id] (.bool (nth l i).2)) :
  FnV prog 207 [(.int .i64 id),(.fp (.agg [(Ak 1 Jx l)]))] (.bool (!l.any fun q => !q.2)):=by
 refine Ax [.tmp 3] func207 ntmps207 fun B F hF=>?_;refine Aa [] [1,2] ?_;refine Ab (Aj ?_);refine A9 2 0 [] [4,5] [] hk0 v0 c0 (Y5r (al:=[(Ak 1 Jx l),(.fn 209 [] [(.ptr 0 0)])]) (al':=[(Ak 1 Jx l),(.fn 209 [] [(.fp (.agg [(.int .i64 id)]))])]) (h':=[]) (r:=(.bool (l.any fun q => !q.2))) (by kernel_rfl) (by exact X98) (by kernel_rfl) (by kernel_rfl) ((X7x l (.fn 209 [] [.fp (.agg [.int .i64 id])]) (fun q => !q.2) hl (fun i hi=>FunV.of (by exact X97) (Y3z (nth l i).1 (nth l i).2 id (hf i hi)))).of_args (ImpL.cons Imp.refl (ImpL.cons (Imp.clo rfl) ImpL.nil))) rfl pS ?_);refine An 3 [] [3] [] hk0 v0 c0 ?_;refine Ad (RK wR [(.bool (!(l.any fun q => !q.2)))] ?_);exact Same.of_eq (by first|rfl|(simp only[Ag];simp_all))
theorem X09 (k:Int) :
  FnV prog 177 [(.int .i64 k)] (.bool (decide (k=1)||(decide (k=5)||decide (k=6)))):=by
 refine Ax [.tmp 2] func177 ntmps177 fun B F hF=>?_;refine Aa [] [0] ?_
 obtain⟨b1,hb1⟩:∃b,b=((decide (k=1))||(decide (k=5))):=⟨_,rfl⟩
 refine Ac (CS:=[(4,((!(decide (k=1)))=true→(!(decide (k=1)))=true)),(5,((decide (k=1))=false→(!(decide (k=1)))=true)),(8,((!b1)=true→(!b1)=true)),(9,(b1=false→(!b1)=true))]) [6,7,10,11] [2] [] hk0 (vk 7 9 (a:=.bool ((decide (k=1))||(decide (k=5)))) (b:=.bool b1) (Imp.of_eq (by rw[hb1]))<|v0) (by refine cc _ ?_<|cc _ ?_<|cc _ ?_<|cc _ ?_ c0<;>simp) ?_;refine Ad (RK wR [(.bool (b1||(decide (k=6))))] ?_);subst hb1;exact Same.of_eq (by simp only[Ag,Bool.or_assoc])
noncomputable def Cn (m:Int→Int→List UInt8→Int→List UInt8→Bool × Int) (st:PoolT):Nat→DepT→AV
 |0,_ => .nilf
 |n+1,d=>if d.kind=1 then .fn 205 [] [.fp (.agg [Bi (Hn m st d false)])] else
  if d.kind=6 then .fn 206 [] [.fp (.agg [.row 1 ((d.args.map (Cn m st n)).map AV.clo).length (fun i=>((d.args.map (Cn m st n)).map AV.clo).getD i Bl)])] else
  .fn 207 [] [.fp (.agg [.row 1 ((d.args.map (Cn m st n)).map AV.clo).length (fun i=>((d.args.map (Cn m st n)).map AV.clo).getD i Bl)])]
theorem Q73 {m:Int→Int→List UInt8→Int→List UInt8→Bool × Int} {st:PoolT} {n:Nat} {d:DepT} (h:d.kind=1):Cn m st (n+1) d = .fn 205 [] [.fp (.agg [Bi (Hn m st d false)])]:=by unfold Cn;rw[if_pos h]
theorem Q72 {m:Int→Int→List UInt8→Int→List UInt8→Bool × Int} {st:PoolT} {n:Nat} {d:DepT} (h:d.kind=6):Cn m st (n+1) d = .fn 206 [] [.fp (.agg [.row 1 ((d.args.map (Cn m st n)).map AV.clo).length (fun i=>((d.args.map (Cn m st n)).map AV.clo).getD i Bl)])]:=by unfold Cn;rw[if_neg (by omega),if_pos h]
theorem Q74 {m:Int→Int→List UInt8→Int→List UInt8→Bool × Int} {st:PoolT} {n:Nat} {d:DepT} (h1:¬d.kind=1) (h6:¬d.kind=6):Cn m st (n+1) d = .fn 207 [] [.fp (.agg [.row 1 ((d.args.map (Cn m st n)).map AV.clo).length (fun i=>((d.args.map (Cn m st n)).map AV.clo).getD i Bl)])]:=by unfold Cn;rw[if_neg h1,if_neg h6]
theorem Y3w {g:DepT→AV} {l:List DepT} {i:Nat} (h:i < l.length):((l.take (i+1)).map g).map AV.clo=((l.take i).map g).map AV.clo++[.clo (g (nth l i))]:=by
 rw[List.take_add_one,List.getElem?_eq_getElem h,List.map_append,List.map_append];simp[nth,h]
theorem Y3u (m:Int→Int→List UInt8→Int→List UInt8→Bool × Int) (hM:L1 m) (st:PoolT) (hi:IdxOk st) (n:Nat) (d:DepT) (hd:d.size≤4194304) (ih:∀i,i < d.args.length→FnV prog 178 [(.fp (E3 st)),(.agg [(.int .i64 ((nth d.args i).kind)),(.str ((nth d.args i).name)),(.int .i64 ((nth d.args i).op)),(.str ((nth d.args i).evr)),(.row 5 (nth d.args i).args.length (depAt (nth d.args i).args))])] (.clo (Cn m st n (nth d.args i)))) :
  FnV prog 178 [(.fp (E3 st)),(.agg [(.int .i64 d.kind),(.str d.name),(.int .i64 d.op),(.str d.evr),(.row 5 d.args.length (depAt d.args))])] (.clo (Cn m st (n+1) d)):=by
 have hda:=Ir d;have hal:=Fa d.args;refine Ax [.tmp 4] func178 ntmps178 fun B F hF=>?_;refine Ac [] [0,3] [(1,3)] hk0 v0 c0 ?_;refine Ab (Aa [] [0,3,11] ?_);refine A4 (p:=d.kind=1) (fun c1=>?_) fun c1=>?_
 ·refine Ac [] [5] [] (hk 2 Q5b (Q2z m hM st hi d false hd)<|hk0) v0 c0 ?_;refine Aa [] [4] ?_;refine Ad (RK wR [(.fn 205 [] [(.fp (.agg [(Bi (Hn m st d false))]))])] ?_);simp only[Ag];rw[Q73 (by assumption)];exact(Imp.clo (by kernel_rfl)).same
 ·refine Ae (Aa [] [0,3,6] ?_);refine Ab (Aa [] [0,3,6,17,18,19] ?_);refine Au (Rf 17 (Ak 5 Aw d.args) (by kernel_rfl) (Kp d.args) ?_);refine Rc 54 1 1 0 (by kernel_rfl) yS (B4 (fun g y=>∃(i:Nat),i≤d.args.length∧y=⟨[(0,(.fp (E3 st))),(3,(.fp (.agg [(.int .i64 d.kind),(.str d.name),(.int .i64 d.op),(.str d.evr),(.row 5 d.args.length (depAt d.args))]))),(6,(.ptr 1 0)),(17,(Ak 5 Aw d.args)),(18,(.int .i64 ((d.args.length:Int)))),(19,(.int .i64 ((i:Int))))],[(1,(.row [(.own 2)] 255)),(2,(.grow (((d.args.take i).map (Cn m st n)).map AV.clo) 54 1))],3⟩∧g=d.args.length-i) [0,3,6,17,18,19] 3 _ (by omega) ⟨0,(by omega),(by kernel_rfl),rfl⟩ ?_);rintro g1 y1 ⟨i,f1_1,rfl,rfl⟩
  have hgl:(((d.args.take i).map (Cn m st n)).map AV.clo).length≤4611686018:=by simp only[List.length_map,List.length_take];omega
  refine Aa [] [0,3,6,17,18,19,20] (Ab ?_);refine A4 (p:=(i:Int) < (d.args.length:Int)) (fun c2=>?_) fun c2=>?_
  ·refine Ae ?_;refine Ev (fun y=>y=⟨[(0,(.fp (E3 st))),(3,(.fp (.agg [(.int .i64 d.kind),(.str d.name),(.int .i64 d.op),(.str d.evr),(.row 5 d.args.length (depAt d.args))]))),(6,(.ptr 1 0)),(17,(Ak 5 Aw d.args)),(18,(.int .i64 ((d.args.length:Int)))),(19,(.int .i64 ((i:Int))))],[(1,(.row [(.own 2)] 255)),(2,(.grow (((d.args.take (i+1)).map (Cn m st n)).map AV.clo) 54 1))],3⟩) [0,3,6,17,18,19] 3 (by omega) ?_ ?_
   ·refine Au (Ac [] [0,3,6,8,17,18,19] [] hk0 v0 (cc 0 (p:=(0≤(i:Int)∧i < d.args.length)) (by omega)<|c0) ?_);refine Pa 8 yS (Hf [] [0,3,6,17,18,19] [] (hk 3 Q50 (ih i (by omega))<|hk0) v0 (cc 5 (p:=(((((d.args.take i).map (Cn m st n)).map AV.clo).length+1)*8≤140737488355328)) (by omega)<|c0) ?_);refine⟨by kernel_rfl,(Eq.trans (b:=(⟨[(0,(.fp (E3 st))),(3,(.fp (.agg [(.int .i64 d.kind),(.str d.name),(.int .i64 d.op),(.str d.evr),(.row 5 d.args.length (depAt d.args))]))),(6,(.ptr 1 0)),(17,(Ak 5 Aw d.args)),(18,(.int .i64 ((d.args.length:Int)))),(19,(.int .i64 ((i:Int))))],[(1,(.row [(.own 2)] 255)),(2,(.grow ((((d.args.take i).map (Cn m st n)).map AV.clo)++([(.clo (Cn m st n (nth d.args i)))]:List AV)) 54 1))],3⟩:St)) (by kernel_rfl) (by rw[show((((d.args.take i).map (Cn m st n)).map AV.clo)++([(.clo (Cn m st n (nth d.args i)))]:List AV))=((d.args.take (i+1)).map (Cn m st n)).map AV.clo from (Y3w (g:=Cn m st n) (l:=d.args) (i:=i) (by omega)).symm]<;>kernel_rfl))⟩
   ·rintro y1 rfl;refine Aj (An 0 [] [0,3,6,17,18,19] [] hk0 v0 (cc 0 (p:=(-9223372036854775808≤(i:Int)+1∧(i:Int)+1≤9223372036854775807)) (by omega)<|c0) ?_);refine⟨by kernel_rfl,_,?_,i+1,?_,(by kernel_rfl),rfl⟩
    ·omega
    ·omega
  ·refine Br ?_;refine Ab (Aa [] [6,32] ?_);refine A4 (p:=d.kind=6) (fun c3=>?_) fun c3=>?_
   ·refine Ab (Aj ?_);refine Jb 1 0 yS (Ex [] [4] ?_);refine Ad (RK wR [(.fn 206 [] [(.fp (.agg [(.row 1 (((d.args.take i).map (Cn m st n)).map AV.clo).length (fun ix=>(((d.args.take i).map (Cn m st n)).map AV.clo).getD ix Bl))]))])] ?_);rw[show i=d.args.length from by omega];simp only[Ag];rw[show d.args.take d.args.length=d.args from List.take_length];rw[Q72 (by assumption) ];exact(Imp.clo (by kernel_rfl)).same
   ·refine Ae ?_;refine Ab (Aj ?_);refine Jb 1 0 yS (Ex [] [4] ?_);refine Ad (RK wR [(.fn 207 [] [(.fp (.agg [(.row 1 (((d.args.take i).map (Cn m st n)).map AV.clo).length (fun ix=>(((d.args.take i).map (Cn m st n)).map AV.clo).getD ix Bl))]))])] ?_);rw[show i=d.args.length from by omega];simp only[Ag];rw[show d.args.take d.args.length=d.args from List.take_length];rw[Q74 (by assumption) (by assumption)];exact(Imp.clo (by kernel_rfl)).same
theorem Y3v (m:Int→Int→List UInt8→Int→List UInt8→Bool × Int) (hM:L1 m) (st:PoolT) (hi:IdxOk st):∀(n:Nat) (d:DepT),d.size≤n→d.size≤4194304→FnV prog 178 [(.fp (E3 st)),(.agg [(.int .i64 (d.kind)),(.str (d.name)),(.int .i64 (d.op)),(.str (d.evr)),(.row 5 d.args.length (depAt d.args))])] (.clo (Cn m st n d)):=by
 intro n
 induction n with
 |zero=>intro d h;have:=Ir d;omega
 |succ n ih=>exact fun d h hd=>Y3u m hM st hi n d hd fun i hj=>ih _ (by have h1:=L7 hj;omega) (by have h1:=L7 hj;omega)
theorem X4u {m:Int→Int→List UInt8→Int→List UInt8→Bool × Int} {st:PoolT} (hi:IdxOk st) {d:DepT} {own:Bool}:(Hn m st d own).length≤4611686018427387904:=by
 have h1:=Ub (Em m st d own (Ct (Bz st.all st.all.length) d.name).length);have h2:=Wy (m:=m) (st:=st) (d:=d) (own:=own) (i:=(Ct (Bz st.all st.all.length) d.name).length);have h3:=hi.len d.name;unfold Hn;omega
def woB:Nat→DepT→Bool
 |0,_=>true
 |n+1,d=>(!(decide (d.kind=6)||decide (d.kind=4))||decide (2≤d.args.length))&&d.args.all (woB n)
def D3 (m:Int→Int→List UInt8→Int→List UInt8→Bool × Int) (st:PoolT):Nat→DepT→Int→Bool
 |0,_,_=>false
 |n+1,d,id=>if d.kind=1 then (Hn m st d false).any fun x=>decide (id=x) else
  if d.kind=6 then D3 m st n (nth d.args 0) id&&!D3 m st n (nth d.args 1) id else !(d.args.any fun a => !D3 m st n a id)
theorem Q9t {n:Nat} {d:DepT} (h:woB (n+1) d=true) (hk:d.kind=6∨d.kind=4):2≤d.args.length:=by
 unfold woB at h;simp only[Bool.and_eq_true,Bool.or_eq_true,Bool.not_eq_true',Bool.or_eq_false_iff,decide_eq_true_eq,decide_eq_false_iff_not] at h;rcases h.1 with h|h
 ·omega
 ·exact h
theorem Q9v {n:Nat} {d:DepT} (h:woB (n+1) d=true) {i:Nat} (hi:i < d.args.length):woB n (nth d.args i)=true:=by
 unfold woB at h;simp only[Bool.and_eq_true,List.all_eq_true] at h;exact h.2 _ (by rw[G5 hi];exact List.getElem_mem hi)
theorem Q6w (g:DepT→AV) (q:DepT→Bool) (l:List DepT):Imp (.row 1 ((l.map g).map AV.clo).length (fun i=>((l.map g).map AV.clo).getD i Bl)) (Ak 1 Jx (l.map fun a=>(g a,q a))):=by
 have e:(l.map g).map AV.clo=(l.map fun a=>(g a,q a)).map Jx:=by rw[List.map_map,List.map_map];rfl
 rw[e];exact Imp.list (f:=Jx) (List.length_map _)
theorem S3 {α β:Type} [Inhabited α] [Inhabited β] {g:α→β} {l:List α} {i:Nat} (h:i < l.length):nth (l.map g) i=g (nth l i):=by simp[nth,h]
theorem Y3x (m:Int→Int→List UInt8→Int→List UInt8→Bool × Int) (hM:L1 m) (st:PoolT) (hi:IdxOk st) (id:Int):∀(n:Nat) (d:DepT),d.size≤n→d.size≤4194304→woB n d=true→FunV prog (Cn m st n d) [.int .i64 id] (.bool (D3 m st n d id)):=by
 intro n
 induction n with
 |zero=>intro d h;have:=Ir d;omega
 |succ n ih =>
  intro d h hd hw;have hsa:=Ir d;have hal:=Fa d.args
  have hf:∀i,i < (d.args.map fun a=>(Cn m st n a,D3 m st n a id)).length→FunV prog (nth (d.args.map fun a=>(Cn m st n a,D3 m st n a id)) i).1 [.int .i64 id] (.bool (nth (d.args.map fun a=>(Cn m st n a,D3 m st n a id)) i).2):=by
   intro i hj
   have hj:i < d.args.length:=by simpa using hj
   rw[S3 hj];have h1:=L7 hj;exact ih _ (by omega) (by omega) (Q9v hw hj)
  by_cases h1:d.kind=1
  ·rw[Q73 h1]
   have e:D3 m st (n+1) d id=(Hn m st d false).any fun x=>decide (id=x):=by unfold D3;rw[if_pos h1]
   rw[e];exact FunV.of (by exact Y0b) (Y31 (Hn m st d false) id (X4u hi))
  ·by_cases h6:d.kind=6
   ·have h2:=Q9t hw (.inl h6);rw[Q72 h6]
    have e:D3 m st (n+1) d id=((nth (d.args.map fun a=>(Cn m st n a,D3 m st n a id)) 0).2&&!(nth (d.args.map fun a=>(Cn m st n a,D3 m st n a id)) 1).2):=by
     rw[S3 (g:=fun a=>(Cn m st n a,D3 m st n a id)) (l:=d.args) (i:=0) (by omega),S3 (g:=fun a=>(Cn m st n a,D3 m st n a id)) (l:=d.args) (i:=1) (by omega)]
     conv=>lhs;unfold D3
     rw[if_neg h1,if_pos h6]
    rw[e];exact FunV.of (by exact Y0a) ((Y30 (d.args.map fun a=>(Cn m st n a,D3 m st n a id)) id (by simpa using h2) hf).of_args (ImpL.cons Imp.refl (ImpL.cons (Imp.fp (Imp.aggs (ImpL.cons (Q6w _ _ _) ImpL.nil))) ImpL.nil)))
   ·rw[Q74 h1 h6]
    have e:D3 m st (n+1) d id = !((d.args.map fun a=>(Cn m st n a,D3 m st n a id)).any fun q => !q.2):=by
     rw[List.any_map]
     conv=>lhs;unfold D3
     rw[if_neg h1,if_neg h6];rfl
    rw[e];exact FunV.of (by exact X99) ((Y3y (d.args.map fun a=>(Cn m st n a,D3 m st n a id)) id (by rw[List.length_map];omega) hf).of_args (ImpL.cons Imp.refl (ImpL.cons (Imp.fp (Imp.aggs (ImpL.cons (Q6w _ _ _) ImpL.nil))) ImpL.nil)))

theorem Q5c:Ai prog 67:=Am func67
theorem Q9u:∀(n:Nat) (d:DepT),Cu d=true→woB n d=true:=by
 intro n
 induction n with
 |zero=>exact fun _ _=>rfl
 |succ n ih =>
  intro d h;obtain⟨k,nm,op,ev,args⟩:=d
  have all:∀(k:Int) (l:List DepT),argsForm k l=true→l.all (woB n)=true:=by
   intro k l
   induction l with
   |nil=>exact fun _=>rfl
   |cons a l ihl =>
    intro q;simp only[argsForm,Bool.and_eq_true] at q;rw[List.all_cons,ih a q.2.1,ihl q.2.2];rfl
  unfold Cu at h;unfold woB;by_cases hk:k=1
  ·rw[if_pos hk] at h
   have h0:args.length=0:=by
    by_cases q:Bh nm=true∧0≤op∧op≤7∧args.length=0
    ·exact q.2.2.2
    ·rw[Q4p q] at h;cases h
   obtain rfl:=List.length_eq_zero_iff.1 h0;subst hk;rfl
  ·rw[if_neg hk] at h;simp only[Bool.and_eq_true,Bool.not_eq_true',Hr,decide_eq_false_iff_not] at h
   have h2:2≤args.length:=by
    have:=h.1;simp only[not_or] at this;omega
   show((!(decide (k=6)||decide (k=4))||decide (2≤args.length))&&args.all (woB n))=true;rw[decide_eq_true h2,Bool.or_true,all k args h.2];rfl
theorem X2 {d:DepT} (h:Cg d=0):Cu d=true:=by
 unfold Cg at h
 cases hq:Cu d with
 |true=>rfl
 |false=>rw[hq] at h;simp at h
def Fz (d:DepT) (q:Bool):Int:=if Cg d=0 then (if q=true then 0 else 70) else Cg d
theorem Q0u (st:PoolT) (d:DepT) (a:AV) (q:Bool) (hd:d.size≤4194304) (ha:FunV prog a [.int .i64 d.kind] (.bool q)) :
  FnV prog 67 [(.fp (E3 st)),(.agg [(.int .i64 d.kind),(.str d.name),(.int .i64 d.op),(.str d.evr),(.row 5 d.args.length (depAt d.args))]),(.clo a)] (.int .i64 (Fz d q)):=by
 refine Ax [.tmp 6] func67 ntmps67 fun B F hF=>?_;refine Ac [] [0,2,4] [(1,4)] hk0 v0 c0 ?_;refine Ab (Aa [] [2,4,9] ?_);refine Cy (Ae ?_);refine Ab (Ac [] [2,4,7] [] (hk 1 Q0 (Uy d hd)<|hk0) v0 c0 ?_);refine Aa [] [2,4,7,13] ?_;refine C7 (p:=(Cg d)=0) (fun c1=>?_) fun c1=>?_
 ·refine Aa [] [6] ?_;refine Ad (RK wR [(.int .i64 (Cg d))] ?_);exact Same.of_eq (by simp only[Ag];unfold Fz;rw[if_neg (by assumption)])
 ·refine Ae ?_;refine Ab (Ab ?_);refine Aj (A9 3 0 [] [15,17] [] hk0 v0 c0 ?_);refine Fc (a:=(.clo a)) (al:=[(.int .i64 d.kind)]) (r:=(.bool q)) (by kernel_rfl) (by kernel_rfl) (by kernel_rfl) (by kernel_rfl) (by kernel_rfl) ha.clo pS (An 4 [] [19] [] hk0 v0 c0 ?_);refine A7 (q:=!q) (fun c2=>?_) fun c2=>?_
  ·try simp only[Aq] at c2
   refine Aa [] [6] ?_;refine Ad (RK wR [(.int .i64 70)] ?_);exact Same.of_eq (by simp only[Ag];unfold Fz;rw[if_pos (by omega),if_neg (by simp_all)])
  ·try simp only[Aq] at c2
   refine Ae (Aa [] [6] ?_);refine Ad (RK wR [(.int .i64 0)] ?_);exact Same.of_eq (by simp only[Ag];unfold Fz;rw[if_pos (by omega),if_pos (by simp_all)])
theorem Y08:Ai prog 125:=Am func125
theorem X9w:Ai prog 32:=Am func32
theorem X89:Ai prog 68:=Am func68
def L8 (k:Int):Bool:=decide (k=1)||(decide (k=5)||decide (k=6))
def Fo (m:Int→Int→List UInt8→Int→List UInt8→Bool × Int) (st:PoolT) (d:DepT) (i:Nat):List Int:=((List.range i).filter fun (k:Nat)=>D3 m st d.size d (k:Int)).map fun (k:Nat)=>(k:Int)
theorem Zi {m:Int→Int→List UInt8→Int→List UInt8→Bool × Int} {st:PoolT} {d:DepT} {i:Nat}:(Fo m st d i).length≤i:=by
 unfold Fo;rw[List.length_map];exact Nat.le_trans (List.length_filter_le _ _) (by simp)
theorem Q9y {m:Int→Int→List UInt8→Int→List UInt8→Bool × Int} {st:PoolT} {d:DepT} {i:Nat} (h:D3 m st d.size d (i:Int)=true):(Fo m st d (i+1)).map (AV.int .i64)=(Fo m st d i).map (AV.int .i64)++[.int .i64 (i:Int)]:=by
 unfold Fo;rw[List.range_succ,List.filter_append,List.map_append,List.map_append];simp[h]
theorem Q9z {m:Int→Int→List UInt8→Int→List UInt8→Bool × Int} {st:PoolT} {d:DepT} {i:Nat} (h:D3 m st d.size d (i:Int)=false):Fo m st d (i+1)=Fo m st d i:=by
 unfold Fo;rw[List.range_succ,List.filter_append,List.map_append];simp[h]
def H1 (m:Int→Int→List UInt8→Int→List UInt8→Bool × Int) (st:PoolT) (d:DepT):List Int × Int:=if Fz d (L8 d.kind)=0 then (Fo m st d st.all.length,0) else ([],Fz d (L8 d.kind))
def Ib (m:Int→Int→List UInt8→Int→List UInt8→Bool × Int) (st:PoolT) (d:DepT):List Int × Int:=if Fz d (decide (d.kind=1))=0 then (Hn m st d true,0) else ([],Fz d (decide (d.kind=1)))
theorem X4h (k:Int) :
  FnV prog 68 [(.int .i64 k)] (.bool (decide (k=1))):=by
 refine Ax [.tmp 2] func68 ntmps68 fun B F hF=>?_;refine Aa [] [0] (Aa [] [2] ?_);refine Ad (RK wR [(.bool (decide (k=1)))] ?_);exact Same.of_eq (by first|rfl|(simp only[Ag];simp_all))
theorem Y6p (m:Int→Int→List UInt8→Int→List UInt8→Bool × Int) (hM:L1 m) (st:PoolT) (hi:IdxOk st) (d:DepT) (hd:d.size≤4194304) :
  FnV prog 32 [(.fp (E3 st)),(.agg [(.int .i64 d.kind),(.str d.name),(.int .i64 d.op),(.str d.evr),(.row 5 d.args.length (depAt d.args))])] (.tup [Bi (Ib m st d).1,.int .i64 (Ib m st d).2]):=by
 refine Ax [.tmp 4,.tmp 5] func32 ntmps32 fun B F hF=>?_;refine Ac [] [0,3] [(1,3)] hk0 v0 c0 ?_;refine Ab (Ac [] [0,3,6] [] (hk 2 (al:=[(.fp (E3 st)),(.agg [(.int .i64 d.kind),(.str d.name),(.int .i64 d.op),(.str d.evr),(.row 5 d.args.length (depAt d.args))]),(.fn 68 [] [])]) Q5c ((Q0u st d (.fn 68 [] []) (decide (d.kind=1)) hd (FunV.of (by exact X89) (X4h d.kind))).of_args (ImpL.cons Imp.refl (ImpL.cons Imp.refl (ImpL.cons (Imp.clo rfl) ImpL.nil))))<|hk0) v0 c0 ?_);refine Aa [] [0,3,6,11] ?_;refine C7 (p:=(Fz d (decide (d.kind=1)))=0) (fun c1=>?_) fun c1=>?_
 ·refine Aa [] [4,5] ?_;refine Ad (RK wR [.nils,(.int .i64 (Fz d (decide (d.kind=1))))] ?_);simp only[Ag];rw[show Ib m st d=([],Fz d (decide (d.kind=1))) from by unfold Ib;rw[if_neg (by assumption)]];exact(Imp.tups (ImpL.cons Imp.nil (ImpL.cons Imp.refl ImpL.nil))).same
 ·refine Ae (Ac [] [4,5] [] (hk 2 Q5b (Q2z m hM st hi d true hd)<|hk0) v0 c0 ?_);refine Ad (RK wR [(Bi (Hn m st d true)),(.int .i64 0)] ?_);exact Same.of_eq (by simp only[Ag];unfold Ib;rw[if_pos (by omega)])
theorem Y37 (m:Int→Int→List UInt8→Int→List UInt8→Bool × Int) (hM:L1 m) (st:PoolT) (hi:IdxOk st) (d:DepT) (hd:d.size≤4194304) :
  FnV prog 125 [(.fp (E3 st)),(.agg [(.int .i64 d.kind),(.str d.name),(.int .i64 d.op),(.str d.evr),(.row 5 d.args.length (depAt d.args))])] (.tup [Bi (H1 m st d).1,.int .i64 (H1 m st d).2]):=by
 have h200:=hi.1;refine Ax [.tmp 4,.tmp 5] func125 ntmps125 fun B F hF=>?_;refine Ac [] [0,3] [(1,3)] hk0 v0 c0 ?_;refine Ab (Ac [] [0,3,6] [] (hk 2 (al:=[(.fp (E3 st)),(.agg [(.int .i64 d.kind),(.str d.name),(.int .i64 d.op),(.str d.evr),(.row 5 d.args.length (depAt d.args))]),(.fn 177 [] [])]) Q5c ((Q0u st d (.fn 177 [] []) (L8 d.kind) hd (FunV.of (by exact Y0k) (X09 d.kind))).of_args (ImpL.cons Imp.refl (ImpL.cons Imp.refl (ImpL.cons (Imp.clo rfl) ImpL.nil))))<|hk0) v0 c0 ?_);refine Aa [] [0,3,6,14] ?_;refine C7 (p:=(Fz d (L8 d.kind))=0) (fun c1=>?_) fun c1=>?_
 ·refine Aa [] [4,5] ?_;refine Ad (RK wR [.nils,(.int .i64 (Fz d (L8 d.kind)))] ?_);simp only[Ag];rw[show H1 m st d=([],Fz d (L8 d.kind)) from by unfold H1;rw[if_neg (by assumption)]];exact(Imp.tups (ImpL.cons Imp.nil (ImpL.cons Imp.refl ImpL.nil))).same
 ·have hc0:Cg d=0:=by
   by_cases q:Cg d=0
   ·exact q
   ·have hr:Fz d (L8 d.kind)=Cg d:=by unfold Fz;rw[if_neg q]
    omega
  refine Ae (Ac [] [0,7] [] (hk 2 Q50 (Y3v m hM st hi d.size d (Nat.le_refl _) hd)<|hk0) v0 c0 ?_);refine Aa [] [0,7,8] (Ab ?_);refine Aa [] [7,8,22,23] (Au ?_);refine Lx 3 1 8 (by kernel_rfl) yS (B4 (fun g y=>∃(i:Nat),i≤st.all.length∧y=⟨[(7,(.clo (Cn m st d.size d))),(8,(.own 1)),(22,(.int .i64 ((st.all.length:Int)))),(23,(.int .i64 ((i:Int))))],[(1,(.grow ((Fo m st d i).map (AV.int .i64)) 3 1))],2⟩∧g=st.all.length-i) [7,8,22,23] 2 _ (by omega) ⟨0,(by omega),(by kernel_rfl),rfl⟩ ?_);rintro g1 y1 ⟨i,f1_1,rfl,rfl⟩;have hwl:=Zi (m:=m) (st:=st) (d:=d) (i:=i);have hwm:((Fo m st d i).map (AV.int .i64)).length=(Fo m st d i).length:=List.length_map _;refine Aa [] [7,8,22,23,24] (Ab ?_);refine A4 (p:=(i:Int) < (st.all.length:Int)) (fun c2=>?_) fun c2=>?_
  ·refine Ae ?_;refine Ab (Au ?_);refine Aa [] [7,8,9,22,23] (Ab ?_);refine Aj (A9 2 0 [] [7,8,9,22,23,26,27] [] hk0 v0 c0 ?_);refine Fc (a:=(.clo (Cn m st d.size d))) (al:=[(.int .i64 ((i:Int)))]) (r:=(.bool (D3 m st d.size d (i:Int)))) (by kernel_rfl) (by kernel_rfl) (by kernel_rfl) (by kernel_rfl) (by kernel_rfl) ((Y3x m hM st hi (i:Int) d.size d (Nat.le_refl _) hd (Q9u _ _ (X2 hc0))).clo) pS (Bd ?_);refine A7 (q:=D3 m st d.size d (i:Int)) (fun c3=>?_) fun c3=>?_
   ·refine Aj (An 0 [] [7,8,22,23] [] hk0 v0 (cc 3 (p:=((((Fo m st d i).map (AV.int .i64)).length+1)*8≤140737488355328)) (by omega)<|c0) ?_);refine Aj (An 0 [] [7,8,22,23] [] hk0 v0 (cc 0 (p:=(-9223372036854775808≤(i:Int)+1∧(i:Int)+1≤9223372036854775807)) (by omega)<|c0) ?_);refine⟨by kernel_rfl,_,?_,i+1,?_,(by rw[Q9y (by assumption)]<;>kernel_rfl),rfl⟩
    ·omega
    ·omega
   ·refine Ae ?_;refine Aj (An 0 [] [7,8,22,23] [] hk0 v0 (cc 0 (p:=(-9223372036854775808≤(i:Int)+1∧(i:Int)+1≤9223372036854775807)) (by omega)<|c0) ?_);refine⟨by kernel_rfl,_,?_,i+1,?_,(by rw[Q9z (by assumption)]<;>kernel_rfl),rfl⟩
    ·omega
    ·omega
  ·refine Br (Aa [] [4,5] ?_);refine Ad (RK wR [(.row 1 ((Fo m st d i).map (AV.int .i64)).length (fun ix=>((Fo m st d i).map (AV.int .i64)).getD ix Bl)),(.int .i64 0)] ?_);rw[show i=st.all.length from by omega];simp only[Ag];rw[show H1 m st d=(Fo m st d st.all.length,0) from by unfold H1;rw[if_pos (by omega)]];exact(Imp.tups (ImpL.cons (Imp.list (f:=AV.int .i64) (List.length_map _)) (ImpL.cons Imp.refl ImpL.nil))).same
theorem Mz:Ai prog 74:=Am func74
theorem T4:Ai prog 180:=Am func180
theorem Xp:Ai prog 132:=Am func132
theorem T2:Ai prog 221:=Am func221
theorem Q5p:Ai prog 231:=Am func231
theorem Xm:Ai prog 210:=Am func210
theorem Q5t:Ai prog 211:=Am func211
def Ep (a b:Int):Int:=if a < b then -1 else if b < a then 1 else 0
def orI (a b:Int):Int:=if a=0 then b else a
def E1 (a b:List UInt8):Int:=orI (Ep ((Lib.trimLeftB a 48).length:Int) ((Lib.trimLeftB b 48).length:Int)) (Lib.compareBytes (Lib.trimLeftB a 48) (Lib.trimLeftB b 48))
theorem Zk {s:List UInt8} (h:D4 s≠0):1≤s.length:=by
 cases s with
 |nil=>exact absurd (by unfold D4;rw[if_pos (.inl rfl)]) h
 |cons a r=>simp
theorem Rq {s:List UInt8} (h:D4 s=0):s.length=0∨1≤Ba Bc s:=by
 cases s with
 |nil=>exact .inl rfl
 |cons a r =>
  right;unfold D4 at h
  have hb:Af (a::r) 0=a:=by simp[Af]
  rw[hb] at h;by_cases hd:Bc a=true
  ·unfold Ba;rw[List.takeWhile_cons,hd];simp
  ·rw[if_neg (by simp[hd])] at h;split at h
   ·omega
   ·split at h
    ·rename_i hl
     have:a.toNat=0:=by omega
     unfold Cf at hl;rw[this] at hl;simp at hl
    ·omega
theorem Q6h {s:List UInt8} {i:Nat} (h:¬s.drop i=[]):1≤s.length-i:=by
 have:=List.length_pos_iff.2 h;rw[List.length_drop] at this;exact this
def I4:Nat→List UInt8→List UInt8→Int
 |0,_,_=>0
 |n+1,a,b =>
  if D4 a≠0∨D4 b≠0 then (if D4 a≠D4 b then Ep (D4 a) (D4 b) else I4 n (a.drop 1) (b.drop 1))
  else if E1 (a.take (Ba Bc a)) (b.take (Ba Bc b))≠0 then E1 (a.take (Ba Bc a)) (b.take (Ba Bc b))
  else if a.drop (Ba Bc a)≠[]∨b.drop (Ba Bc b)≠[] then I4 n (a.drop (Ba Bc a)) (b.drop (Ba Bc b)) else 0
theorem Q3z (x:Int) :
  FnV prog 132 [(.int .i64 x)] (.bool false):=by
 refine Ax [.tmp 2] func132 ntmps132 fun B F hF=>?_;refine Aa [] [0] (Aa [] [2] ?_);refine Ad (RK wR [(.bool (!decide (x=x)))] ?_);exact Same.of_eq (by simp only[Ag];simp)
theorem Ox (x y:Int) :
  FnV prog 74 [(.int .i64 x),(.int .i64 y)] (.int .i64 (Ep x y)):=by
 refine Ax [.tmp 4] func74 ntmps74 fun B F hF=>?_;refine Aa [] [0,1] (Ac [] [0,1,5] [] (hk 1 Xp (Q3z x)<|hk0) v0 c0 ?_);refine Ac [] [0,1,5,6] [] (hk 1 Xp (Q3z y)<|hk0) v0 c0 ?_;refine Ab (Aa [] [0,1,6,11] ?_);refine Cy (Ae ?_);refine Ab (Aa [] [0,1,13] ?_);refine Cy (Ae ?_);refine Ab (Aa [] [0,1,16] ?_);refine A4 (p:=x < y) (fun c1=>?_) fun c1=>?_
 ·refine Aa [] [4] ?_;refine Ad (RK wR [(.int .i64 (-1))] ?_);exact Same.of_eq (by simp only[Ag];unfold Ep;rw[if_pos (by assumption)])
 ·refine Ae ?_;refine Ab (Aa [] [19] ?_);refine A4 (p:=y < x) (fun c2=>?_) fun c2=>?_
  ·refine Aa [] [4] ?_;refine Ad (RK wR [(.int .i64 1)] ?_);exact Same.of_eq (by simp only[Ag];unfold Ep;rw[if_neg (by assumption),if_pos (by assumption)])
  ·refine Ae (Aa [] [4] ?_);refine Ad (RK wR [(.int .i64 0)] ?_);exact Same.of_eq (by simp only[Ag];unfold Ep;rw[if_neg (by assumption),if_neg (by assumption)])
theorem Sx (x y:Int) :
  FnV prog 180 [(Bi [x,y])] (.int .i64 (orI x y)):=by
 refine Ax [.tmp 2] func180 ntmps180 fun B F hF=>?_;refine Aa [] [0] (Aa [] [0,3] ?_);refine Ab (Aa [] [3,6,7,8] ?_);refine Au (K2 3 ?_);refine Db (Aa [] [3,6,7,8,9] ?_);refine Ab (Dz ?_);refine Ae (Ab ?_);refine Au (Ac [] [3,5,6,7,8] [] hk0 v0 (cc 0 (p:=(0≤(0:Int)∧0 < 2)) (by omega)<|c0) ?_);refine Aa [] [3,5,6,7,8,14] ?_;refine C7 (p:=x=0) (fun c1=>?_) fun c1=>?_
 ·refine Aa [] [2] ?_;refine Ad (RK wR [(.int .i64 x)] ?_);exact Same.of_eq (by simp only[Ag];unfold orI;rw[if_neg (by assumption)])
 ·refine Ae ?_;refine Aj (An 0 [] [3,6,7,8] [] hk0 v0 (cc 0 (p:=(-9223372036854775808≤(1:Int)∧(1:Int)≤9223372036854775807)) (by omega)<|c0) ?_);refine Db (Aa [] [3,6,7,8,9] ?_);refine Ab (Dz ?_);refine Ae (Ab ?_);refine Au (Ac [] [3,5,6,7,8] [] hk0 v0 (cc 0 (p:=(0≤(1:Int)∧1 < 2)) (by omega)<|c0) ?_);refine Aa [] [3,5,6,7,8,14] ?_;refine C7 (p:=y=0) (fun c2=>?_) fun c2=>?_
  ·refine Aa [] [2] ?_;refine Ad (RK wR [(.int .i64 y)] ?_);exact Same.of_eq (by simp only[Ag];unfold orI;rw[if_pos (by simp_all)]<;>rfl)
  ·refine Ae ?_;refine Aj (An 0 [] [3,6,7,8] [] hk0 v0 (cc 0 (p:=(-9223372036854775808≤(2:Int)∧(2:Int)≤9223372036854775807)) (by omega)<|c0) ?_);refine Db (Aa [] [3,6,7,8,9] ?_);refine Ab (Cy ?_);refine Br (Aa [] [2] ?_);refine Ad (RK wR [(.int .i64 0)] ?_);exact Same.of_eq (by simp only[Ag];unfold orI;rw[if_pos (by simp_all)]<;>simp_all)
theorem Wc (a b:List UInt8) :
  FnV prog 210 [(.str a),(.str b)] (.int .i64 (E1 a b)):=by
 refine Ax [.tmp 4] func210 ntmps210 fun B F hF=>?_;refine Aa [] [0,1] (Ac [] [0,1] [] (hk 1 T2 (Yq a 48 (by decide))<|hk 3 T2 (Yq b 48 (by decide))<|hk0) v0 c0 ?_);refine Ac [] [4] [(9,17)] (hk 4 Mz (Ox ((Lib.trimLeftB a 48).length:Int) ((Lib.trimLeftB b 48).length:Int))<|hk 7 Q5p (Q9e (Lib.trimLeftB a 48) (Lib.trimLeftB b 48))<|hk 9 T4 (Sx (Ep ((Lib.trimLeftB a 48).length:Int) ((Lib.trimLeftB b 48).length:Int)) (Lib.compareBytes (Lib.trimLeftB a 48) (Lib.trimLeftB b 48)))<|hk0) (vk 9 17 (b:=(Bi [Ep ((Lib.trimLeftB a 48).length:Int) ((Lib.trimLeftB b 48).length:Int),Lib.compareBytes (Lib.trimLeftB a 48) (Lib.trimLeftB b 48)])) (Imp.list (f:=AV.int .i64) rfl)<|v0) c0 ?_;refine Ad (RK wR [(.int .i64 (E1 a b))] ?_);exact Same.of_eq (by first|rfl|(simp only[Ag];simp_all))
theorem Y17 (n:Nat) (a0 b0:List UInt8) (h0:a0.length+b0.length < n) (ha:a0.length≤4194304) (hb:b0.length≤4194304) :
  FnV prog 211 [(.str a0),(.str b0)] (.int .i64 (I4 n a0 b0)):=by
 refine Ax [.tmp 4] func211 ntmps211 fun B F hF=>?_;refine Aa [] [0,1] (Uo 0 rfl (fun g y=>∃(k:Nat) (a:List UInt8) (b:List UInt8),a.length+b.length < k∧a.length≤4194304∧b.length≤4194304∧I4 n a0 b0=I4 k a b∧y=⟨[(0,(.str a)),(1,(.str b))],[],0⟩∧g=k) [0,1] 0 (by omega) (fun hJ0=>?_) ?_)
 ·refine Ab (Up ?_);refine Re (y:=⟨[(0,(.str a0)),(1,(.str b0))],[],0⟩) [0,1] 0 (by omega) (by kernel_rfl) (hJ0 _ _ ⟨n,a0,b0,(by omega),(by omega),(by omega),(by rfl),(by kernel_rfl),rfl⟩)
 ·rintro g y ⟨k,a,b,fl0_1,fl0_2,fl0_3,fl0_4,rfl,rfl⟩;have hca:=Kr Bc a;have hcb:=Kr Bc b;refine Ab (Ac [] [0,1,5,6] [] (hk 1 Q5o (Zj a)<|hk 3 Q5o (Zj b)<|hk0) v0 c0 ?_)
  obtain⟨b1,hb1⟩:∃b,b=(!decide ((D4 a)=0)):=⟨_,rfl⟩
  refine Ac (CS:=[(4,((!b1)=true→(!b1)=true)),(5,(b1=false→(!b1)=true))]) [17,18] [0,1,5,6,19] [] hk0 (vk 3 16 (a:=.bool (!decide ((D4 a)=0))) (b:=.bool b1) (Imp.of_eq (by rw[hb1]))<|v0) (by refine cc _ ?_<|cc _ ?_ c0<;>simp) ?_;refine A7 (q:=b1||(!decide ((D4 b)=0))) (fun c1=>?_) fun c1=>?_
  ·subst hb1
   try simp only[Aq] at c1
   refine Ab (Aa [] [0,1,5,6,22] ?_);refine C7 (p:=(D4 a)=(D4 b)) (fun c2=>?_) fun c2=>?_
   ·refine Ac [] [4] [] (hk 2 Mz (Ox (D4 a) (D4 b))<|hk0) v0 c0 ?_;refine Ad ?_;refine RK wR [(.int .i64 (Ep (D4 a) (D4 b)))] (Same.of_eq ?_);simp only[Ag];rw[fl0_4]
    obtain⟨k,rfl⟩:∃q,g=q+1:=⟨g-1,by omega⟩
    try simp only[List.take_length,List.drop_zero] at *
    unfold I4;rw[if_pos (by assumption),if_pos (by assumption)]
   ·have hpa:=Zk (s:=a) (by omega);have hpb:=Zk (s:=b) (by omega);refine Ae (Da (CS:=[(1,(0≤(1:Int)∧(1:Int)≤(a.length:Int)∧(a.length:Int)≤(a.length:Int))),(3,(0≤(1:Int)∧(1:Int)≤(b.length:Int)∧(b.length:Int)≤(b.length:Int)))]) [] [0,1] [] hk0 v0 (by refine cc _ ?_<|cc _ ?_ c0<;>omega) ?_);have hza:=fun h=>Rq (s:=a) h;have hzb:=fun h=>Rq (s:=b) h;refine Ly ⟨rfl,_,(by kernel_rfl:gcS _ _ _=some ⟨[(0,(.str ((a.take a.length).drop 1))),(1,(.str ((b.take b.length).drop 1)))],[],0⟩),_,?_,g-1,((a.take a.length).drop 1),((b.take b.length).drop 1),?_,?_,?_,?_,(by kernel_rfl),rfl⟩
    all_goals (obtain⟨k,rfl⟩:∃q,g=q+1:=⟨g-1,by omega⟩)
    all_goals try simp only[List.take_length,List.drop_zero,List.length_drop] at *
    all_goals have hdec:a.length=0→b.length=0→False:=fun e1 e2=>by first|omega|(rcases c4 with h|h<;>have:=Q6h h<;>omega)
    ·first|omega|(have h1:=hza (by omega);have h2:=hzb (by omega);have h3:¬(a.length=0∧b.length=0):=fun e=>hdec e.1 e.2;omega)
    ·first|omega|(have h1:=hza (by omega);have h2:=hzb (by omega);have h3:¬(a.length=0∧b.length=0):=fun e=>hdec e.1 e.2;omega)
    ·omega
    ·omega
    ·rw[fl0_4]
     conv=>lhs;unfold I4
     first|(rw[if_pos (by assumption),if_neg (by omega)];rfl)|(rw[if_neg (by omega),if_neg (by omega),if_pos (by simp_all)];rfl)
  ·subst hb1
   try simp only[Aq] at c1
   refine Ae (Ac [] [0,1,7,8] [] (hk 1 (al:=[(.str a),(.fn 148 [] [])]) I2 ((Jw a (.fn 148 [] []) Bc (by omega) (fun c=>FunV.of (by exact Jt) (Kn c))).of_args (ImpL.cons Imp.refl (ImpL.cons (Imp.clo rfl) ImpL.nil)))<|hk 3 (al:=[(.str b),(.fn 148 [] [])]) I2 ((Jw b (.fn 148 [] []) Bc (by omega) (fun c=>FunV.of (by exact Jt) (Kn c))).of_args (ImpL.cons Imp.refl (ImpL.cons (Imp.clo rfl) ImpL.nil)))<|hk0) v0 c0 ?_);refine Ab (Da (CS:=[(2,(0≤(0:Int)∧(0:Int)≤(Ba Bc a:Int)∧(Ba Bc a:Int)≤(a.length:Int))),(5,(0≤(0:Int)∧(0:Int)≤(Ba Bc b:Int)∧(Ba Bc b:Int)≤(b.length:Int)))]) [] [0,1,7,8,9] [] (hk 6 Xm (Wc ((a.take (Ba Bc a)).drop 0) ((b.take (Ba Bc b)).drop 0))<|hk0) v0 (by refine cc _ ?_<|cc _ ?_ c0<;>omega) ?_);refine Aa [] [0,1,7,8,9,42] ?_;refine C7 (p:=(E1 ((a.take (Ba Bc a)).drop 0) ((b.take (Ba Bc b)).drop 0))=0) (fun c3=>?_) fun c3=>?_
   ·refine Aa [] [4] (Ad ?_);refine RK wR [(.int .i64 (E1 ((a.take (Ba Bc a)).drop 0) ((b.take (Ba Bc b)).drop 0)))] (Same.of_eq ?_);simp only[Ag];rw[fl0_4]
    obtain⟨k,rfl⟩:∃q,g=q+1:=⟨g-1,by omega⟩
    try simp only[List.take_length,List.drop_zero] at *
    unfold I4;rw[if_neg (by omega),if_pos (by assumption)]
   ·refine Ae ?_;refine Ab (Da (CS:=[(2,(0≤(Ba Bc a:Int)∧(Ba Bc a:Int)≤(a.length:Int)∧(a.length:Int)≤(a.length:Int))),(5,(0≤(Ba Bc b:Int)∧(Ba Bc b:Int)≤(b.length:Int)∧(b.length:Int)≤(b.length:Int)))]) [] [0,1] [] hk0 v0 (by refine cc _ ?_<|cc _ ?_ c0<;>omega) ?_)
    obtain⟨b2,hb2⟩:∃b,b=(!decide ((a.take a.length).drop (Ba Bc a)=[])):=⟨_,rfl⟩
    refine Ac (CS:=[(4,((!b2)=true→(!b2)=true)),(5,(b2=false→(!b2)=true))]) [53,54] [0,1,55] [] hk0 (vk 3 52 (a:=.bool (!decide ((a.take a.length).drop (Ba Bc a)=[]))) (b:=.bool b2) (Imp.of_eq (by rw[hb2]))<|v0) (by refine cc _ ?_<|cc _ ?_ c0<;>simp) ?_;refine A7 (q:=b2||(!decide ((b.take b.length).drop (Ba Bc b)=[]))) (fun c4=>?_) fun c4=>?_
    ·subst hb2
     try simp only[Aq] at c4
     have hza:=fun h=>Rq (s:=a) h;have hzb:=fun h=>Rq (s:=b) h;refine Ly ⟨rfl,_,(by kernel_rfl:gcS _ _ _=some ⟨[(0,(.str ((a.take a.length).drop (Ba Bc a)))),(1,(.str ((b.take b.length).drop (Ba Bc b))))],[],0⟩),_,?_,g-1,((a.take a.length).drop (Ba Bc a)),((b.take b.length).drop (Ba Bc b)),?_,?_,?_,?_,(by kernel_rfl),rfl⟩
     all_goals (obtain⟨k,rfl⟩:∃q,g=q+1:=⟨g-1,by omega⟩)
     all_goals try simp only[List.take_length,List.drop_zero,List.length_drop] at *
     all_goals have hdec:a.length=0→b.length=0→False:=fun e1 e2=>by first|omega|(rcases c4 with h|h<;>have:=Q6h h<;>omega)
     ·first|omega|(have h1:=hza (by omega);have h2:=hzb (by omega);have h3:¬(a.length=0∧b.length=0):=fun e=>hdec e.1 e.2;omega)
     ·first|omega|(have h1:=hza (by omega);have h2:=hzb (by omega);have h3:¬(a.length=0∧b.length=0):=fun e=>hdec e.1 e.2;omega)
     ·omega
     ·omega
     ·rw[fl0_4]
      conv=>lhs;unfold I4
      first|(rw[if_pos (by assumption),if_neg (by omega)];rfl)|(rw[if_neg (by omega),if_neg (by omega),if_pos (by simp_all)];rfl)
    ·subst hb2
     try simp only[Aq] at c4
     refine Ae ?_;refine Aa [] [4] (Ad ?_);refine RK wR [(.int .i64 0)] (Same.of_eq ?_);simp only[Ag];rw[fl0_4]
     obtain⟨k,rfl⟩:∃q,g=q+1:=⟨g-1,by omega⟩
     try simp only[List.take_length,List.drop_zero] at *
     unfold I4;rw[if_neg (by omega),if_neg (by omega),if_neg (by simp_all)]
theorem Q5s:Ai prog 212:=Am func212
theorem Q5z:Ai prog 179:=Am func179
def orS (x y:List UInt8):List UInt8:=if x=[] then y else x
def Bf (k:Int) (a b:List UInt8):(List UInt8 × List UInt8 × List UInt8) × (List UInt8 × List UInt8 × List UInt8) × Int :=
 if k≠1∧k≠2 then (([],[],[]),([],[],[]),1) else if Ch a=0 then (C9 a,C9 b,Ch b) else (C9 a,([],[],[]),Ch a)
theorem Q14 (x y:List UInt8) :
  FnV prog 212 [(Dc [x,y])] (.str (orS x y)):=by
 refine Ax [.tmp 2] func212 ntmps212 fun B F hF=>?_;refine Aa [] [0] (Aa [] [0,3] ?_);refine Ab (Aa [] [3,6,7,8] ?_);refine Au (K2 3 ?_);refine Db (Aa [] [3,6,7,8,9] ?_);refine Ab (Dz ?_);refine Ae (Ab ?_);refine Au (Ac [] [3,5,6,7,8] [] hk0 v0 (cc 0 (p:=(0≤(0:Int)∧0 < 2)) (by omega)<|c0) ?_);refine Aa [] [3,5,6,7,8,14] ?_;refine C7 (p:=x=[]) (fun c1=>?_) fun c1=>?_
 ·refine Aa [] [2] ?_;refine Ad (RK wR [(.str x)] ?_);exact Same.of_eq (by simp only[Ag];unfold orS;rw[if_neg (by assumption)])
 ·refine Ae ?_;refine Aj (An 0 [] [3,6,7,8] [] hk0 v0 (cc 0 (p:=(-9223372036854775808≤(1:Int)∧(1:Int)≤9223372036854775807)) (by omega)<|c0) ?_);refine Db (Aa [] [3,6,7,8,9] ?_);refine Ab (Dz ?_);refine Ae (Ab ?_);refine Au (Ac [] [3,5,6,7,8] [] hk0 v0 (cc 0 (p:=(0≤(1:Int)∧1 < 2)) (by omega)<|c0) ?_);refine Aa [] [3,5,6,7,8,14] ?_;refine C7 (p:=y=[]) (fun c2=>?_) fun c2=>?_
  ·refine Aa [] [2] ?_;refine Ad (RK wR [(.str y)] ?_);exact Same.of_eq (by simp only[Ag];unfold orS;rw[if_pos (by simp_all)]<;>rfl)
  ·refine Ae ?_;refine Aj (An 0 [] [3,6,7,8] [] hk0 v0 (cc 0 (p:=(-9223372036854775808≤(2:Int)∧(2:Int)≤9223372036854775807)) (by omega)<|c0) ?_);refine Db (Aa [] [3,6,7,8,9] ?_);refine Ab (Cy ?_);refine Br (Aa [] [2] ?_);refine Ad (RK wR [(.str [])] ?_);exact Same.of_eq (by simp only[Ag];unfold orS;rw[if_pos (by simp_all)]<;>simp_all)
theorem Q7a (kind:Int) (a b:List UInt8) (ha:a.length≤4194304) (hb:b.length≤4194304) :
  FnV prog 179 [(.int .i64 kind),(.str a),(.str b)] (.tup [(.agg [.str (Bf kind a b).1.1,.str (Bf kind a b).1.2.1,.str (Bf kind a b).1.2.2]),(.agg [.str (Bf kind a b).2.1.1,.str (Bf kind a b).2.1.2.1,.str (Bf kind a b).2.1.2.2]),.int .i64 (Bf kind a b).2.2]):=by
 refine Ax [.cell 6 157,.cell 7 157,.tmp 8] func179 ntmps179 fun B F hF=>?_;refine Aa [] [0,1,2,6,7] (Ab ?_)
 obtain⟨b1,hb1⟩:∃b,b=(!decide (kind=1)):=⟨_,rfl⟩
 refine Ac (CS:=[(4,(b1=true→b1=true)),(5,(b1=true→b1=true))]) [12,13] [1,2,6,7,14] [] hk0 (vk 3 11 (a:=.bool (!decide (kind=1))) (b:=.bool b1) (Imp.of_eq (by rw[hb1]))<|v0) (by refine cc _ ?_<|cc _ ?_ c0<;>simp) ?_;refine A7 (q:=b1&&(!decide (kind=2))) (fun c1=>?_) fun c1=>?_
 ·subst hb1
  try simp only[Aq] at c1
  refine Da [] [6,7,8] [] hk0 v0 c0 ?_;refine Ad (RK wR [(.agg [(.str []),(.str []),(.str [])]),(.agg [(.str []),(.str []),(.str [])]),(.int .i64 1)] ?_);exact Same.of_eq (by simp only[Ag];unfold Bf;first|(rw[if_pos (by omega)];done)|(rw[if_neg (by omega),if_pos (by omega)];done)|(rw[if_neg (by omega),if_neg (by omega)];done))
 ·subst hb1
  try simp only[Aq] at c1
  refine Ae ?_;refine Ab (Ac [] [2,6,7,8] [] (hk 1 Qt (Ty a (by omega))<|hk0) v0 c0 ?_);refine Aa [] [2,6,7,8,23] ?_;refine A4 (p:=(Ch a)=0) (fun c2=>?_) fun c2=>?_
  ·refine Aj (An 0 [] [6,7,8] [] (hk 1 Qt (Ty b (by omega))<|hk0) v0 c0 ?_);refine Da [] [6,7,8] [] hk0 v0 c0 ?_;refine Ad (RK wR [(.agg [(.str ((C9 a).1)),(.str ((C9 a).2.1)),(.str ((C9 a).2.2))]),(.agg [(.str ((C9 b).1)),(.str ((C9 b).2.1)),(.str ((C9 b).2.2))]),(.int .i64 (Ch b))] ?_);exact Same.of_eq (by simp only[Ag];unfold Bf;first|(rw[if_pos (by omega)];done)|(rw[if_neg (by omega),if_pos (by omega)];done)|(rw[if_neg (by omega),if_neg (by omega)];done))
  ·refine Ae (Da [] [6,7,8] [] hk0 v0 c0 ?_);refine Ad (RK wR [(.agg [(.str ((C9 a).1)),(.str ((C9 a).2.1)),(.str ((C9 a).2.2))]),(.agg [(.str []),(.str []),(.str [])]),(.int .i64 (Ch a))] ?_);exact Same.of_eq (by simp only[Ag];unfold Bf;first|(rw[if_pos (by omega)];done)|(rw[if_neg (by omega),if_pos (by omega)];done)|(rw[if_neg (by omega),if_neg (by omega)];done))
theorem Q5r:Ai prog 213:=Am func213
theorem Q5n:Ai prog 233:=Am func233
theorem X90:Ai prog 234:=Am func234
theorem X9z:Ai prog 235:=Am func235
def Le (c:UInt8):Bool:=Bc c||(Cf c||(decide (c.toNat=126)||decide (c.toNat=94)))
theorem X5o (c:UInt8) :
  FnV prog 234 [(.int .u8 ((c.toNat:Int)))] (.bool (Le c)):=by
 refine Ax [.tmp 2] func234 ntmps234 fun B F hF=>?_;refine Aa [] [0] ?_
 obtain⟨b1,hb1⟩:∃b,b=((Bc c)||(Cf c)):=⟨_,rfl⟩
 obtain⟨b2,hb2⟩:∃b,b=(b1||(decide ((c.toNat:Int)=126))):=⟨_,rfl⟩
 refine Ac (CS:=[(4,(!(Bc c))=true→(!(Bc c))=true),(5,((Bc c)=false→(!(Bc c))=true)),(8,((!b1)=true→(!b1)=true)),(9,(b1=false→(!b1)=true)),(12,((!b2)=true→(!b2)=true)),(13,(b2=false→(!b2)=true))]) [6,10,11,14,15] [2] [] (hk 1 Jt (Kn c)<|hkg 4 (!(Bc c)) Ow (fun cg=>Qc c)<|hk0) (vk 7 9 (a:=.bool ((Bc c)||(Cf c))) (b:=.bool b1) (Imp.of_eq (by rw[hb1]))<|vk 11 13 (a:=.bool (b1||(decide ((c.toNat:Int)=126)))) (b:=.bool b2) (Imp.of_eq (by rw[hb2]))<|v0) (by refine cc _ ?_<|cc _ ?_<|cc _ ?_<|cc _ ?_<|cc _ ?_<|cc _ ?_ c0<;>simp) ?_;refine Ad (RK wR [(.bool (b2||(decide ((c.toNat:Int)=94))))] ?_);subst hb2 hb1;refine Same.of_eq ?_;simp only[Ag];congr 1;unfold Le;rw[Bool.eq_iff_iff]
 have e1:((c.toNat:Int)=126)↔c.toNat=126:=by omega
 have e2:((c.toNat:Int)=94)↔c.toNat=94:=by omega
 simp only[Bool.and_eq_true,Bool.or_eq_true,decide_eq_true_eq,e1,e2,or_assoc]
theorem X4d (c:UInt8) (a:AV) (q:Bool) (ha:FunV prog a [.int .u8 (c.toNat:Int)] (.bool q)) :
  FnV prog 235 [(.int .u8 ((c.toNat:Int))),(.fp (.agg [(.clo a)]))] (.bool (!q)):=by
 refine Ax [.tmp 3] func235 ntmps235 fun B F hF=>?_;refine Aa [] [0,1] (Ab ?_);refine Aj (A9 2 0 [] [4,5] [] hk0 v0 c0 ?_);refine Fc (a:=(.clo a)) (al:=[(.int .u8 ((c.toNat:Int)))]) (r:=(.bool q)) (by kernel_rfl) (by kernel_rfl) (by kernel_rfl) (by kernel_rfl) (by kernel_rfl) ha.clo pS (An 3 [] [3] [] hk0 v0 c0 ?_);refine Ad (RK wR [(.bool (!q))] ?_);exact Same.of_eq (by first|rfl|(simp only[Ag];simp_all))
theorem Y29 (a b:List UInt8) (ha:a.length≤4194304) (hb:b.length≤4194304) :
  FnV prog 233 [(.int .u8 126),(.fp (.agg [(.str a)])),(.fp (.agg [(.str b)]))] (.tup [.bool (Be a 126),.bool (Be b 126)]):=by
 refine Ax [.tmp 4,.tmp 5] func233 ntmps233 fun B F hF=>?_;refine Aa [] [0,1,2] (Da [] [4,5] [] (hk 3 Lq (Nh a 126 (by omega))<|hk 7 Lq (Nh b 126 (by omega))<|hk0) v0 c0 ?_);refine Ad (RK wR [(.bool (Be a 126)),(.bool (Be b 126))] ?_);exact Same.of_eq (by first|rfl|(simp only[Ag];simp_all))
theorem Y28 (a b:List UInt8) (ha:a.length≤4194304) (hb:b.length≤4194304) :
  FnV prog 233 [(.int .u8 94),(.fp (.agg [(.str a)])),(.fp (.agg [(.str b)]))] (.tup [.bool (Be a 94),.bool (Be b 94)]):=by
 refine Ax [.tmp 4,.tmp 5] func233 ntmps233 fun B F hF=>?_;refine Aa [] [0,1,2] (Da [] [4,5] [] (hk 3 Lq (Nh a 94 (by omega))<|hk 7 Lq (Nh b 94 (by omega))<|hk0) v0 c0 ?_);refine Ad (RK wR [(.bool (Be a 94)),(.bool (Be b 94))] ?_);exact Same.of_eq (by first|rfl|(simp only[Ag];simp_all))
def Fh (c:UInt8):Bool:=!Le c
theorem Q2g (c:UInt8):FunV prog (.fn 235 [] [.fp (.agg [.fn 234 [] []])]) [.int .u8 (c.toNat:Int)] (.bool (Fh c)) :=
 FunV.of (by exact X9z) ((X4d c (.fn 234 [] []) (Le c) (FunV.of (by exact X90) (X5o c))).of_args (ImpL.cons Imp.refl (ImpL.cons (Imp.fp (Imp.aggs (ImpL.cons (Imp.clo rfl) ImpL.nil))) ImpL.nil)))
theorem Q4g {s:List UInt8} {k:UInt8} (h:Be s k=true):1≤s.length:=by
 cases s with
 |nil=>simp[Be] at h
 |cons a r=>simp
theorem Q6n (p:UInt8→Bool):∀s:List UInt8,s.drop (Ba p s)=[]∨p (Af (s.drop (Ba p s)) 0)=false
 |[] => .inl rfl
 |a::r=>by
  unfold Ba;rw[List.takeWhile_cons]
  cases h:p a with
  |true=>exact Q6n p r
  |false=>right;simpa [Af] using h
theorem Q2h {s r:List UInt8} (h:r=s.drop (Ba Fh s)):r=[]∨Le (Af r 0)=true:=by
 rcases Q6n Fh s with q|q
 ·exact .inl (h.trans q)
 ·right;rw[h];have e:(!Le (Af (s.drop (Ba Fh s)) 0))=false:=q;simpa using e
theorem Xz {p:UInt8→Bool} {s:List UInt8} (h:1≤s.length) (k:p (Af s 0)=true):1≤Ba p s:=by
 cases s with
 |nil=>simp at h
 |cons a r=>unfold Ba;rw[List.takeWhile_cons,show p a=true from by simpa [Af] using k];simp
theorem X5p {s:List UInt8} (h:Le (Af s 0)=true) (hs:1≤s.length) (h1:Be s 126=false) (h2:Be s 94=false) (h3:Bc (Af s 0)=false):Cf (Af s 0)=true:=by
 cases s with
 |nil=>simp at hs
 |cons a r =>
  have e:Af (a::r) 0=a:=by simp[Af]
  rw[e] at h h3 ⊢;unfold Le at h;rw[h3] at h
  have a1:¬a.toNat=126:=fun q=>by have:a=126:=UInt8.toNat_inj.1 q;subst this;simp[Be] at h1
  have a2:¬a.toNat=94:=fun q=>by have:a=94:=UInt8.toNat_inj.1 q;subst this;simp[Be] at h2
  simpa [a1,a2] using h
def G3 (r:List UInt8→List UInt8→Int) (a b:List UInt8):Int :=
 if Be a 126=true∨Be b 126=true then
  if Be a 126=true∧Be b 126=true then r (a.drop 1) (b.drop 1) else H8 (Be a 126) (Be b 126) (-1)
 else if Be a 94=true∨Be b 94=true then
  if Be a 94=true∧Be b 94=true then r (a.drop 1) (b.drop 1)
  else if a=[]∨b=[] then H8 (Be a 94) (Be b 94) 1 else H8 (Be a 94) (Be b 94) (-1)
 else if a=[]∨b=[] then Ep (a.length:Int) (b.length:Int)
 else if Bc (Af a 0)=true then
  if Ba Bc b=0 then 1
  else if ¬E1 (a.take (Ba Bc a)) (b.take (Ba Bc b))=0 then E1 (a.take (Ba Bc a)) (b.take (Ba Bc b))
  else r (a.drop (Ba Bc a)) (b.drop (Ba Bc b))
 else if Ba Cf b=0 then -1
 else if ¬Lib.compareBytes (a.take (Ba Cf a)) (b.take (Ba Cf b))=0 then Lib.compareBytes (a.take (Ba Cf a)) (b.take (Ba Cf b))
 else r (a.drop (Ba Cf a)) (b.drop (Ba Cf b))
def Mb:Nat→List UInt8→List UInt8→Int
 |0,_,_=>0
 |n+1,a,b=>G3 (Mb n) (a.drop (Ba Fh a)) (b.drop (Ba Fh b))
theorem X2c (n:Nat) (a0 b0:List UInt8) (h0:a0.length+b0.length < n) (ha:a0.length≤4194304) (hb:b0.length≤4194304) :
  FnV prog 213 [(.str a0),(.str b0)] (.int .i64 (Mb n a0 b0)):=by
 refine Ax [.tmp 4] func213 ntmps213 fun B F hF=>?_;refine Aa [] [2,3] (Uo 0 rfl (fun g y=>∃(k:Nat) (a:List UInt8) (b:List UInt8),a.length+b.length < k∧a.length≤4194304∧b.length≤4194304∧Mb n a0 b0=Mb k a b∧y=⟨[(2,(.ptr 0 0)),(3,(.ptr 1 0)),(5,(.fn 233 [] [(.ptr 0 0),(.ptr 1 0)])),(7,(.fn 235 [] [(.fp (.agg [(.fn 234 [] [])]))]))],[(0,(.row [(.str a)] 9)),(1,(.row [(.str b)] 9))],3⟩∧g=k) [2,3,5,7] 3 (by omega) (fun hJ0=>?_) ?_)
 ·refine Ab ?_;refine Aj (Ex [] [2,3,5] ?_);refine Ab (Aj ?_);refine Ex [] [2,3,5,6] (Ab ?_);refine Aj (An 0 [] [2,3,5,7] [(0,6)] hk0 v0 c0 ?_);refine Ab (Up ?_);refine Re (y:=⟨[(2,(.ptr 0 0)),(3,(.ptr 1 0)),(5,(.fn 233 [] [(.ptr 0 0),(.ptr 1 0)])),(7,(.fn 235 [] [(.fp (.agg [(.fn 234 [] [])]))]))],[(0,(.row [(.str a0)] 9)),(1,(.row [(.str b0)] 9))],3⟩) [2,3,5,7] 3 (by omega) (by kernel_rfl) (hJ0 _ _ ⟨n,a0,b0,(by omega),(by omega),(by omega),(by rfl),(by kernel_rfl),rfl⟩)
 ·rintro g y ⟨k,a,b,fl0_1,fl0_2,fl0_3,fl0_4,rfl,rfl⟩
  obtain⟨k,rfl⟩:∃q,g=q+1:=⟨g-1,by omega⟩
  have hoa:=Kr Fh a;have hob:=Kr Fh b;refine Ev (fun y=>∃(a1:List UInt8) (b1:List UInt8),a1=a.drop (Ba Fh a)∧b1=b.drop (Ba Fh b)∧y=⟨[(2,(.ptr 0 0)),(3,(.ptr 1 0)),(5,(.fn 233 [] [(.ptr 0 0),(.ptr 1 0)])),(7,(.fn 235 [] [(.fp (.agg [(.fn 234 [] [])]))]))],[(0,(.row [(.str a1)] 9)),(1,(.row [(.str b1)] 9))],3⟩) [2,3,5,7] 3 (by omega) ?_ ?_
  ·refine Hf (CS:=[(4,(0≤(Ba Fh a:Int)∧(Ba Fh a:Int)≤(a.length:Int)∧(a.length:Int)≤(a.length:Int))),(9,(0≤(Ba Fh b:Int)∧(Ba Fh b:Int)≤(b.length:Int)∧(b.length:Int)≤(b.length:Int)))]) [] [2,3,5,7] [] (hk 3 (al:=[(.str a),(.fn 235 [] [(.fp (.agg [(.fn 234 [] [])]))])]) I2 ((Jw a (.fn 235 [] [.fp (.agg [.fn 234 [] []])]) Fh (by omega) (fun c=>Q2g c)).of_args (ImpL.cons Imp.refl (ImpL.cons (Imp.clo rfl) ImpL.nil)))<|hk 8 (al:=[(.str b),(.fn 235 [] [(.fp (.agg [(.fn 234 [] [])]))])]) I2 ((Jw b (.fn 235 [] [.fp (.agg [.fn 234 [] []])]) Fh (by omega) (fun c=>Q2g c)).of_args (ImpL.cons Imp.refl (ImpL.cons (Imp.clo rfl) ImpL.nil)))<|hk0) v0 (by refine cc _ ?_<|cc _ ?_ c0<;>omega) ?_;refine⟨by kernel_rfl,((a.take a.length).drop (Ba Fh a)),((b.take b.length).drop (Ba Fh b)),?_,?_,(by kernel_rfl)⟩
   all_goals rw[List.take_length]
  ·rintro y1 ⟨a1,b1,ja,jb,rfl⟩
   have hla:a1.length≤a.length:=by rw[ja,List.length_drop];omega
   have hlb:b1.length≤b.length:=by rw[jb,List.length_drop];omega
   have hma:=Q2h ja;have hmb:=Q2h jb;have hxa:=fun k=>Q4g (s:=a1) (k:=k);have hxb:=fun k=>Q4g (s:=b1) (k:=k);have hda:=Kr Bc a1;have hdb:=Kr Bc b1;have hea:=Kr Cf a1;have heb:=Kr Cf b1
   have e0:Mb (k+1) a b=G3 (Mb k) a1 b1:=by rw[ja,jb];rfl
   refine Ab ?_;refine Ab (Aj ?_);refine A9 1 0 [] [2,3,5,7,31] [] hk0 v0 c0 (Q8y (al:=[(.int .u8 126)]) (f:=233) (cap:=[(.ptr 0 0),(.ptr 1 0)]) (al':=[(.int .u8 126),(.fp (.agg [(.str a1)])),(.fp (.agg [(.str b1)]))]) (h':=[]) (r:=(.tup [(.bool (Be a1 126)),(.bool (Be b1 126))])) (by kernel_rfl) (by kernel_rfl) (by exact Q5n) (by kernel_rfl) (by kernel_rfl) (Y29 a1 b1 (by omega) (by omega)) rfl pS ?_);refine An 2 [] [2,3,5,7,8,9] [] hk0 v0 c0 (Ac [37] [2,3,5,7,8,9,38] [] hk0 v0 (cc 3 (p:=((Be a1 126)=false→(!(Be a1 126))=true)) (by simp)<|c0) ?_);refine A7 (q:=(Be a1 126)||(Be b1 126)) (fun c1=>?_) fun c1=>?_
   ·try simp only[Aq] at c1
    refine Ab (Ac [41] [2,3,5,7,8,9,42] [] hk0 v0 (cc 3 (p:=((Be a1 126)=true→(Be a1 126)=true)) (by simp)<|c0) ?_);refine A7 (q:=(Be a1 126)&&(Be b1 126)) (fun c2=>?_) fun c2=>?_
    ·try simp only[Aq] at c2
     have h1:=hxa _ c2.1;have h2:=hxb _ c2.2;refine Da (CS:=[(1,(0≤(1:Int)∧(1:Int)≤(a1.length:Int)∧(a1.length:Int)≤(a1.length:Int))),(3,(0≤(1:Int)∧(1:Int)≤(b1.length:Int)∧(b1.length:Int)≤(b1.length:Int)))]) [] [2,3,5,7] [] hk0 v0 (by refine cc _ ?_<|cc _ ?_ c0<;>omega) ?_;refine Ly ⟨rfl,_,(by kernel_rfl:gcS _ _ _=some ⟨[(2,(.ptr 0 0)),(3,(.ptr 1 0)),(5,(.fn 233 [] [(.ptr 0 0),(.ptr 1 0)])),(7,(.fn 235 [] [(.fp (.agg [(.fn 234 [] [])]))]))],[(0,(.row [(.str ((a1.take a1.length).drop 1))] 9)),(1,(.row [(.str ((b1.take b1.length).drop 1))] 9))],3⟩),_,?_,k,((a1.take a1.length).drop 1),((b1.take b1.length).drop 1),?_,?_,?_,?_,(by kernel_rfl),rfl⟩
     all_goals (try simp only[List.take_length,List.drop_zero,List.length_drop] at *)
     ·omega
     ·omega
     ·omega
     ·omega
     ·rw[fl0_4,e0];unfold G3;rw[if_pos c1,if_pos c2]
    ·try simp only[Aq] at c2
     refine Ae (Ac [] [4] [] (hk 2 T3 (Sw (Be a1 126) (Be b1 126) (-1) (by omega))<|hk0) v0 c0 ?_);refine Ad ?_;refine RK wR [(.int .i64 (H8 (Be a1 126) (Be b1 126) (-1)))] (Same.of_eq ?_);simp only[Ag]
     try simp only[List.take_length,List.drop_zero] at *
     rw[fl0_4,e0];congr 1
     symm
     unfold G3;rw[if_pos c1,if_neg (by rcases c2 with h|h<;>simp[h])]
   ·try simp only[Aq] at c1
    refine Ae (Ab ?_);refine Ab (Aj ?_);refine A9 1 0 [] [2,3,5,7,51] [] hk0 v0 c0 (Q8y (al:=[(.int .u8 94)]) (f:=233) (cap:=[(.ptr 0 0),(.ptr 1 0)]) (al':=[(.int .u8 94),(.fp (.agg [(.str a1)])),(.fp (.agg [(.str b1)]))]) (h':=[]) (r:=(.tup [(.bool (Be a1 94)),(.bool (Be b1 94))])) (by kernel_rfl) (by kernel_rfl) (by exact Q5n) (by kernel_rfl) (by kernel_rfl) (Y28 a1 b1 (by omega) (by omega)) rfl pS ?_);refine An 2 [] [2,3,5,7,10,11] [] hk0 v0 c0 (Ac [57] [2,3,5,7,10,11,58] [] hk0 v0 (cc 3 (p:=((Be a1 94)=false→(!(Be a1 94))=true)) (by simp)<|c0) ?_);refine A7 (q:=(Be a1 94)||(Be b1 94)) (fun c3=>?_) fun c3=>?_
    ·try simp only[Aq] at c3
     refine Ab ?_;refine Au (Ac [62] [2,3,5,7,10,11,59] [] hk0 v0 (cc 3 (p:=((Be a1 94)=true→(Be a1 94)=true)) (by simp)<|c0) ?_);refine A7 (q:=(Be a1 94)&&(Be b1 94)) (fun c4=>?_) fun c4=>?_
     ·try simp only[Aq] at c4
      have h1:=hxa _ c4.1;have h2:=hxb _ c4.2;refine Da (CS:=[(1,(0≤(1:Int)∧(1:Int)≤(a1.length:Int)∧(a1.length:Int)≤(a1.length:Int))),(3,(0≤(1:Int)∧(1:Int)≤(b1.length:Int)∧(b1.length:Int)≤(b1.length:Int)))]) [] [2,3,5,7] [] hk0 v0 (by refine cc _ ?_<|cc _ ?_ c0<;>omega) ?_;refine Ly ⟨rfl,_,(by kernel_rfl:gcS _ _ _=some ⟨[(2,(.ptr 0 0)),(3,(.ptr 1 0)),(5,(.fn 233 [] [(.ptr 0 0),(.ptr 1 0)])),(7,(.fn 235 [] [(.fp (.agg [(.fn 234 [] [])]))]))],[(0,(.row [(.str ((a1.take a1.length).drop 1))] 9)),(1,(.row [(.str ((b1.take b1.length).drop 1))] 9))],3⟩),_,?_,k,((a1.take a1.length).drop 1),((b1.take b1.length).drop 1),?_,?_,?_,?_,(by kernel_rfl),rfl⟩
      all_goals (try simp only[List.take_length,List.drop_zero,List.length_drop] at *)
      ·omega
      ·omega
      ·omega
      ·omega
      ·rw[fl0_4,e0];unfold G3;rw[if_neg (by simp[c1.1,c1.2]),if_pos c3,if_pos c4]
     ·try simp only[Aq] at c4
      refine Ac (CS:=[(4,((!(decide (a1=[])))=true→(!(decide (a1=[])))=true)),(5,((decide (a1=[]))=false→(!(decide (a1=[])))=true))]) [72,73] [10,11,68] [] hk0 v0 (by refine cc _ ?_<|cc _ ?_ c0<;>simp) ?_;refine A7 (q:=(decide (a1=[]))||(decide (b1=[]))) (fun c5=>?_) fun c5=>?_
      ·try simp only[Aq] at c5
       refine Ac [] [4] [] (hk 2 T3 (Sw (Be a1 94) (Be b1 94) 1 (by omega))<|hk0) v0 c0 ?_;refine Ad ?_;refine RK wR [(.int .i64 (H8 (Be a1 94) (Be b1 94) 1))] (Same.of_eq ?_);simp only[Ag]
       try simp only[List.take_length,List.drop_zero] at *
       rw[fl0_4,e0];congr 1
       symm
       unfold G3;rw[if_neg (by simp[c1.1,c1.2]),if_pos c3,if_neg (by rcases c4 with h|h<;>simp[h]),if_pos c5]
      ·try simp only[Aq] at c5
       refine Ae (Ac [] [4] [] (hk 2 T3 (Sw (Be a1 94) (Be b1 94) (-1) (by omega))<|hk0) v0 c0 ?_);refine Ad ?_;refine RK wR [(.int .i64 (H8 (Be a1 94) (Be b1 94) (-1)))] (Same.of_eq ?_);simp only[Ag]
       try simp only[List.take_length,List.drop_zero] at *
       rw[fl0_4,e0];congr 1
       symm
       unfold G3;rw[if_neg (by simp[c1.1,c1.2]),if_pos c3,if_neg (by rcases c4 with h|h<;>simp[h]),if_neg (by simp[c5.1,c5.2])]
    ·try simp only[Aq] at c3
     refine Ae ?_;refine Ab (Ac (CS:=[(4,((!(decide (a1=[])))=true→(!(decide (a1=[])))=true)),(5,((decide (a1=[]))=false→(!(decide (a1=[])))=true))]) [84,85] [2,3,5,7,86] [] hk0 v0 (by refine cc _ ?_<|cc _ ?_ c0<;>simp) ?_);refine A7 (q:=(decide (a1=[]))||(decide (b1=[]))) (fun c6=>?_) fun c6=>?_
     ·try simp only[Aq] at c6
      refine Ac [] [4] [] (hk 4 Mz (Ox (a1.length:Int) (b1.length:Int))<|hk0) v0 c0 ?_;refine Ad ?_;refine RK wR [(.int .i64 (Ep (a1.length:Int) (b1.length:Int)))] (Same.of_eq ?_);simp only[Ag]
      try simp only[List.take_length,List.drop_zero] at *
      rw[fl0_4,e0];congr 1
      symm
      unfold G3;rw[if_neg (by simp[c1.1,c1.2]),if_neg (by simp[c3.1,c3.2]),if_pos c6]
     ·try simp only[Aq] at c6
      have hpa:=List.length_pos_iff.2 c6.1;have hpb:=List.length_pos_iff.2 c6.2;refine Ae ?_;refine Ab (Ac [] [2,3,5,7,94] [] (hk 2 Jt (Kn (Af a1 0))<|hk0) v0 (cc 1 (p:=(0≤(0:Int)∧0 < a1.length)) (by omega)<|c0) ?_);refine A7 (q:=Bc (Af a1 0)) (fun c7=>?_) fun c7=>?_
      ·refine Da [] [2,3,5,7,12,13] [] (hk 1 (al:=[(.str a1),(.fn 148 [] [])]) I2 ((Jw a1 (.fn 148 [] []) Bc (by omega) (fun c=>FunV.of (by exact Jt) (Kn c))).of_args (ImpL.cons Imp.refl (ImpL.cons (Imp.clo rfl) ImpL.nil)))<|hk 3 (al:=[(.str b1),(.fn 148 [] [])]) I2 ((Jw b1 (.fn 148 [] []) Bc (by omega) (fun c=>FunV.of (by exact Jt) (Kn c))).of_args (ImpL.cons Imp.refl (ImpL.cons (Imp.clo rfl) ImpL.nil)))<|hk0) v0 c0 ?_;refine Ab (Aa [] [2,3,5,7,12,13,100] ?_);refine A4 (p:=(Ba Bc b1:Int)=0) (fun c8=>?_) fun c8=>?_
       ·refine Aa [] [4] (Ad ?_);refine RK wR [(.int .i64 1)] (Same.of_eq ?_);simp only[Ag]
        try simp only[List.take_length,List.drop_zero] at *
        rw[fl0_4,e0];congr 1
        symm
        unfold G3;rw[if_neg (by simp[c1.1,c1.2]),if_neg (by simp[c3.1,c3.2]),if_neg (by simp[c6.1,c6.2]),if_pos c7,if_pos (by omega)]
       ·refine Ae ?_;refine Ab (Da (CS:=[(2,(0≤(0:Int)∧(0:Int)≤(Ba Bc a1:Int)∧(Ba Bc a1:Int)≤(a1.length:Int))),(5,(0≤(0:Int)∧(0:Int)≤(Ba Bc b1:Int)∧(Ba Bc b1:Int)≤(b1.length:Int)))]) [] [2,3,5,7,12,13,14] [] (hk 6 Xm (Wc ((a1.take (Ba Bc a1)).drop 0) ((b1.take (Ba Bc b1)).drop 0))<|hk0) v0 (by refine cc _ ?_<|cc _ ?_ c0<;>omega) ?_);refine Aa [] [2,3,5,7,12,13,14,109] ?_;refine C7 (p:=(E1 ((a1.take (Ba Bc a1)).drop 0) ((b1.take (Ba Bc b1)).drop 0))=0) (fun c9=>?_) fun c9=>?_
        ·refine Aa [] [4] (Ad ?_);refine RK wR [(.int .i64 (E1 ((a1.take (Ba Bc a1)).drop 0) ((b1.take (Ba Bc b1)).drop 0)))] (Same.of_eq ?_);simp only[Ag]
         try simp only[List.take_length,List.drop_zero] at *
         rw[fl0_4,e0];congr 1
         symm
         unfold G3;rw[if_neg (by simp[c1.1,c1.2]),if_neg (by simp[c3.1,c3.2]),if_neg (by simp[c6.1,c6.2]),if_pos c7,if_neg (by omega),if_pos c9]
        ·refine Ae (Da (CS:=[(2,(0≤(Ba Bc a1:Int)∧(Ba Bc a1:Int)≤(a1.length:Int)∧(a1.length:Int)≤(a1.length:Int))),(5,(0≤(Ba Bc b1:Int)∧(Ba Bc b1:Int)≤(b1.length:Int)∧(b1.length:Int)≤(b1.length:Int)))]) [] [2,3,5,7] [] hk0 v0 (by refine cc _ ?_<|cc _ ?_ c0<;>omega) ?_);refine Ly ⟨rfl,_,(by kernel_rfl:gcS _ _ _=some ⟨[(2,(.ptr 0 0)),(3,(.ptr 1 0)),(5,(.fn 233 [] [(.ptr 0 0),(.ptr 1 0)])),(7,(.fn 235 [] [(.fp (.agg [(.fn 234 [] [])]))]))],[(0,(.row [(.str ((a1.take a1.length).drop (Ba Bc a1)))] 9)),(1,(.row [(.str ((b1.take b1.length).drop (Ba Bc b1)))] 9))],3⟩),_,?_,k,((a1.take a1.length).drop (Ba Bc a1)),((b1.take b1.length).drop (Ba Bc b1)),?_,?_,?_,?_,(by kernel_rfl),rfl⟩
         all_goals (try simp only[List.take_length,List.drop_zero,List.length_drop] at *)
         have h3:=Xz (p:=Bc) (s:=a1) (by omega) (by simpa using c7)
         ·omega
         ·omega
         ·omega
         ·omega
         ·rw[fl0_4,e0];unfold G3;rw[if_neg (by simp[c1.1,c1.2]),if_neg (by simp[c3.1,c3.2]),if_neg (by simp[c6.1,c6.2]),if_pos c7,if_neg (by omega),if_neg (fun q=>q c9)]
      ·refine Ae (Da [] [2,3,5,7,15,16] [] (hk 1 (al:=[(.str a1),(.fn 149 [] [])]) I2 ((Jw a1 (.fn 149 [] []) Cf (by omega) (fun c=>FunV.of (by exact Ow) (Qc c))).of_args (ImpL.cons Imp.refl (ImpL.cons (Imp.clo rfl) ImpL.nil)))<|hk 3 (al:=[(.str b1),(.fn 149 [] [])]) I2 ((Jw b1 (.fn 149 [] []) Cf (by omega) (fun c=>FunV.of (by exact Ow) (Qc c))).of_args (ImpL.cons Imp.refl (ImpL.cons (Imp.clo rfl) ImpL.nil)))<|hk0) v0 c0 ?_);refine Ab (Aa [] [2,3,5,7,15,16,122] ?_);refine A4 (p:=(Ba Cf b1:Int)=0) (fun c10=>?_) fun c10=>?_
       ·refine Aa [] [4] (Ad ?_);refine RK wR [(.int .i64 (-1))] (Same.of_eq ?_);simp only[Ag]
        try simp only[List.take_length,List.drop_zero] at *
        rw[fl0_4,e0];congr 1
        symm
        unfold G3;rw[if_neg (by simp[c1.1,c1.2]),if_neg (by simp[c3.1,c3.2]),if_neg (by simp[c6.1,c6.2]),if_neg (by simp[c7]),if_pos (by omega)]
       ·refine Ae ?_;refine Ab (Da (CS:=[(2,(0≤(0:Int)∧(0:Int)≤(Ba Cf a1:Int)∧(Ba Cf a1:Int)≤(a1.length:Int))),(5,(0≤(0:Int)∧(0:Int)≤(Ba Cf b1:Int)∧(Ba Cf b1:Int)≤(b1.length:Int)))]) [] [2,3,5,7,15,16,17] [] (hk 6 Q5p (Q9e ((a1.take (Ba Cf a1)).drop 0) ((b1.take (Ba Cf b1)).drop 0))<|hk0) v0 (by refine cc _ ?_<|cc _ ?_ c0<;>omega) ?_);refine Aa [] [2,3,5,7,15,16,17,131] ?_;refine C7 (p:=(Lib.compareBytes ((a1.take (Ba Cf a1)).drop 0) ((b1.take (Ba Cf b1)).drop 0))=0) (fun c11=>?_) fun c11=>?_
        ·refine Aa [] [4] (Ad ?_);refine RK wR [(.int .i64 (Lib.compareBytes ((a1.take (Ba Cf a1)).drop 0) ((b1.take (Ba Cf b1)).drop 0)))] (Same.of_eq ?_);simp only[Ag]
         try simp only[List.take_length,List.drop_zero] at *
         rw[fl0_4,e0];congr 1
         symm
         unfold G3;rw[if_neg (by simp[c1.1,c1.2]),if_neg (by simp[c3.1,c3.2]),if_neg (by simp[c6.1,c6.2]),if_neg (by simp[c7]),if_neg (by omega),if_pos c11]
        ·refine Ae (Da (CS:=[(2,(0≤(Ba Cf a1:Int)∧(Ba Cf a1:Int)≤(a1.length:Int)∧(a1.length:Int)≤(a1.length:Int))),(5,(0≤(Ba Cf b1:Int)∧(Ba Cf b1:Int)≤(b1.length:Int)∧(b1.length:Int)≤(b1.length:Int)))]) [] [2,3,5,7] [] hk0 v0 (by refine cc _ ?_<|cc _ ?_ c0<;>omega) ?_);refine Ly ⟨rfl,_,(by kernel_rfl:gcS _ _ _=some ⟨[(2,(.ptr 0 0)),(3,(.ptr 1 0)),(5,(.fn 233 [] [(.ptr 0 0),(.ptr 1 0)])),(7,(.fn 235 [] [(.fp (.agg [(.fn 234 [] [])]))]))],[(0,(.row [(.str ((a1.take a1.length).drop (Ba Cf a1)))] 9)),(1,(.row [(.str ((b1.take b1.length).drop (Ba Cf b1)))] 9))],3⟩),_,?_,k,((a1.take a1.length).drop (Ba Cf a1)),((b1.take b1.length).drop (Ba Cf b1)),?_,?_,?_,?_,(by kernel_rfl),rfl⟩
         all_goals (try simp only[List.take_length,List.drop_zero,List.length_drop] at *)
         have hml:Cf (Af a1 0)=true:=by
          rcases hma with q|q
          ·exact absurd q c6.1
          ·exact X5p q (by omega) (by simp_all) (by simp_all) (by simp_all)
         have h3:=Xz (p:=Cf) (s:=a1) (by omega) hml
         ·omega
         ·omega
         ·omega
         ·omega
         ·rw[fl0_4,e0];unfold G3;rw[if_neg (by simp[c1.1,c1.2]),if_neg (by simp[c3.1,c3.2]),if_neg (by simp[c6.1,c6.2]),if_neg (by simp[c7]),if_neg (by omega),if_neg (fun q=>q c11)]
theorem Q5y:Ai prog 181:=Am func181
def M1 (a b:List UInt8):Int:=I4 (a.length+b.length+1) a b
def Kc (a b:List UInt8):Int:=Mb (a.length+b.length+1) a b
theorem Q6m (a b:List UInt8) (ha:a.length≤4194304) (hb:b.length≤4194304):FnV prog 211 [.str a,.str b] (.int .i64 (M1 a b)):=Y17 _ a b (by omega) ha hb
theorem Q0k (a b:List UInt8) (ha:a.length≤4194304) (hb:b.length≤4194304):FnV prog 213 [.str a,.str b] (.int .i64 (Kc a b)):=X2c _ a b (by omega) ha hb
theorem Q15 {a:List UInt8} (h:a.length≤4194304):(orS a [48]).length≤4194304:=by unfold orS;split<;>simp[h]
def Df (k:Int) (a b:(List UInt8 × List UInt8 × List UInt8)):Int × Int :=
 if k=2 then (orI (E1 a.1 b.1) (M1 a.2.1 b.2.1),M1 (orS a.2.2 [48]) (orS b.2.2 [48]))
 else if a.2.2=[]∨b.2.2=[] then (orI (E1 a.1 b.1) (Kc a.2.1 b.2.1),H8 (!decide (a.2.2=[])) (!decide (b.2.2=[])) 1)
 else (orI (E1 a.1 b.1) (Kc a.2.1 b.2.1),Kc a.2.2 b.2.2)
def Ta (a b:List UInt8) (c d:Int):Int:=if c=0∧¬a=[]∧¬b=[] then d else c
def Mq (c op o:Int):Bool :=
 if c < 0 then !decide (Go.bits .and .i64 op 4=0)||!decide (Go.bits .and .i64 o 1=0)
 else if 0 < c then !decide (Go.bits .and .i64 op 1=0)||!decide (Go.bits .and .i64 o 4=0)
 else !decide (Go.bits .and .i64 op o=0)
def Mp (k:Int) (a b:List UInt8):Int:=Ta (Bf k a b).1.2.2 (Bf k a b).2.1.2.2 (Df k (Bf k a b).1 (Bf k a b).2.1).1 (Df k (Bf k a b).1 (Bf k a b).2.1).2
def Dj (k op:Int) (a:List UInt8) (o:Int) (b:List UInt8):Bool × Int :=
 if (¬k=1∧¬k=2)∨op < 0∨7 < op∨o < 0∨7 < o then (false,1)
 else if op=0∨o=0 then (true,0)
 else if ¬(Bf k a b).2.2=0 then (false,(Bf k a b).2.2)
 else (Mq (Mp k a b) op o,0)
theorem Q42 (l:List UInt8):(C9 l).1.length≤l.length∧(C9 l).2.1.length≤l.length∧(C9 l).2.2.length≤l.length:=by
 unfold C9;split
 ·unfold Qr;refine⟨?_,?_,?_⟩
  ·show(if _ then _ else _:List UInt8).length≤_;split<;>simp;omega
  ·show(if _ then _ else _:List UInt8).length≤_;split<;>(try rw[List.length_take])<;>split<;>simp<;>omega
  ·show(if _ then _ else _:List UInt8).length≤_;split<;>(try rw[List.length_drop])<;>(try split)<;>simp<;>omega
 ·simp
theorem Q7d (k:Int) (a b:List UInt8):(Bf k a b).1.1.length≤a.length∧(Bf k a b).1.2.1.length≤a.length∧(Bf k a b).1.2.2.length≤a.length∧(Bf k a b).2.1.1.length≤b.length∧(Bf k a b).2.1.2.1.length≤b.length∧(Bf k a b).2.1.2.2.length≤b.length:=by
 have h1:=Q42 a;have h2:=Q42 b;unfold Bf;split
 ·simp
 ·split<;>simp<;>omega
theorem Q1c (k:Int) (a b:(List UInt8 × List UInt8 × List UInt8)) (ha:a.1.length≤4194304∧a.2.1.length≤4194304∧a.2.2.length≤4194304) (hb:b.1.length≤4194304∧b.2.1.length≤4194304∧b.2.2.length≤4194304) :
  FnV prog 181 [(.int .i64 k),(.agg [(.str a.1),(.str a.2.1),(.str a.2.2)]),(.agg [(.str b.1),(.str b.2.1),(.str b.2.2)])] (.tup [.int .i64 (Df k a b).1,.int .i64 (Df k a b).2]):=by
 refine Ax [.tmp 6,.tmp 7] func181 ntmps181 fun B F hF=>?_;refine Ac [] [0,4,5] [(1,4),(2,5)] hk0 v0 c0 (Ac [] [0,4,5,8] [] (hk 4 Xm (Wc a.1 b.1)<|hk0) v0 c0 ?_);refine Ab (Aa [] [4,5,8,15] ?_);refine A4 (p:=k=2) (fun c1=>?_) fun c1=>?_
 ·refine Da [] [6,7] [(7,22),(11,26),(15,30)] (hk 5 Q5t (Q6m a.2.1 b.2.1 (by omega) (by omega))<|hk 7 T4 (Sx (E1 a.1 b.1) (M1 a.2.1 b.2.1))<|hk 11 Q5s (Q14 a.2.2 [48])<|hk 15 Q5s (Q14 b.2.2 [48])<|hk 16 Q5t (Q6m (orS a.2.2 [48]) (orS b.2.2 [48]) (by exact Q15 (by first|exact ha.2.2|exact hb.2.2)) (by exact Q15 (by first|exact ha.2.2|exact hb.2.2)))<|hk0) (vk 7 22 (b:=(Bi [E1 a.1 b.1,M1 a.2.1 b.2.1])) (Imp.list (f:=AV.int .i64) rfl)<|vk 11 26 (b:=(Dc ([a.2.2,[48]]))) (Imp.list (f:=AV.str) rfl)<|vk 15 30 (b:=(Dc ([b.2.2,[48]]))) (Imp.list (f:=AV.str) rfl)<|v0) c0 ?_;refine Ad ?_;refine RK wR [(.int .i64 (orI (E1 a.1 b.1) (M1 a.2.1 b.2.1))),(.int .i64 (M1 (orS a.2.2 [48]) (orS b.2.2 [48])))] (Same.of_eq ?_);simp only[Ag];unfold Df;rw[if_pos c1]
 ·refine Ae (Ac [] [4,5,8] [(7,39)] (hk 5 Q5r (Q0k a.2.1 b.2.1 (by omega) (by omega))<|hk 7 T4 (Sx (E1 a.1 b.1) (Kc a.2.1 b.2.1))<|hk0) (vk 7 39 (b:=(Bi [E1 a.1 b.1,Kc a.2.1 b.2.1])) (Imp.list (f:=AV.int .i64) rfl)<|v0) c0 ?_);refine Ab (Ac (CS:=[(5,((!(decide (a.2.2=[])))=true→(!(decide (a.2.2=[])))=true)),(6,((!(decide (a.2.2=[])))=true→(!(decide (a.2.2=[])))=true)),(7,((decide (a.2.2=[]))=false→(!(decide (a.2.2=[])))=true))]) [45,46,47] [4,5,8,48] [] hk0 v0 (by refine cc _ ?_<|cc _ ?_<|cc _ ?_ c0<;>simp) ?_);refine A7 (q:=(decide (a.2.2=[]))||(decide (b.2.2=[]))) (fun c2=>?_) fun c2=>?_
  ·try simp only[Aq] at c2
   refine Ac [] [6,7] [] (hk 7 T3 (Sw (!decide (a.2.2=[])) (!decide (b.2.2=[])) 1 (by omega))<|hk0) v0 c0 ?_;refine Ad ?_;refine RK wR [(.int .i64 (orI (E1 a.1 b.1) (Kc a.2.1 b.2.1))),(.int .i64 (H8 (!decide (a.2.2=[])) (!decide (b.2.2=[])) 1))] (Same.of_eq ?_);simp only[Ag];unfold Df;rw[if_neg c1,if_pos c2]
  ·try simp only[Aq] at c2
   refine Ae (Ac [] [6,7] [] (hk 5 Q5r (Q0k a.2.2 b.2.2 (by omega) (by omega))<|hk0) v0 c0 ?_);refine Ad ?_;refine RK wR [(.int .i64 (orI (E1 a.1 b.1) (Kc a.2.1 b.2.1))),(.int .i64 (Kc a.2.2 b.2.2))] (Same.of_eq ?_);simp only[Ag];unfold Df;rw[if_neg c1,if_neg (by simp[c2.1,c2.2])]
theorem X49 (k op:Int) (a:List UInt8) (o:Int) (b:List UInt8) (ha:a.length≤4194304) (hb:b.length≤4194304) :
  FnV prog 172 [(.int .i64 k),(.int .i64 op),(.str a),(.int .i64 o),(.str b)] (.tup [.bool (Dj k op a o b).1,.int .i64 (Dj k op a o b).2]):=by
 have hbl:=Q7d k a b;refine Ax [.tmp 10,.tmp 11] func172 ntmps172 fun B F hF=>?_;refine Aa [] [0,1,2,3,4] ?_;refine Ab (Au ?_)
 refine Ac (CS:=[(4,((!decide (k=1))=true→(!decide (k=1))=true)),(5,((!decide (k=1))=true→(!decide (k=1))=true)),(8,((!((!decide (k=1))&&(!decide (k=2))))=true→(!((!decide (k=1))&&(!decide (k=2))))=true)),(9,(((!decide (k=1))&&(!decide (k=2)))=false→(!((!decide (k=1))&&(!decide (k=2))))=true)),(12,((!(((!decide (k=1))&&(!decide (k=2)))||(decide (op < 0))))=true→(!(((!decide (k=1))&&(!decide (k=2)))||(decide (op < 0))))=true)),(13,((((!decide (k=1))&&(!decide (k=2)))||(decide (op < 0)))=false→(!(((!decide (k=1))&&(!decide (k=2)))||(decide (op < 0))))=true)),(16,((!((((!decide (k=1))&&(!decide (k=2)))||(decide (op < 0)))||(decide (7 < op))))=true→(!((((!decide (k=1))&&(!decide (k=2)))||(decide (op < 0)))||(decide (7 < op))))=true)),(17,(((((!decide (k=1))&&(!decide (k=2)))||(decide (op < 0)))||(decide (7 < op)))=false→(!((((!decide (k=1))&&(!decide (k=2)))||(decide (op < 0)))||(decide (7 < op))))=true)),(20,((!(((((!decide (k=1))&&(!decide (k=2)))||(decide (op < 0)))||(decide (7 < op)))||(decide (o < 0))))=true→(!(((((!decide (k=1))&&(!decide (k=2)))||(decide (op < 0)))||(decide (7 < op)))||(decide (o < 0))))=true)),(21,((((((!decide (k=1))&&(!decide (k=2)))||(decide (op < 0)))||(decide (7 < op)))||(decide (o < 0)))=false→(!(((((!decide (k=1))&&(!decide (k=2)))||(decide (op < 0)))||(decide (7 < op)))||(decide (o < 0))))=true))]) [21,22,25,26,29,30,33,34,37,38] [0,1,2,3,4,17] [] hk0 v0 (by refine cc _ ?_<|cc _ ?_<|cc _ ?_<|cc _ ?_<|cc _ ?_<|cc _ ?_<|cc _ ?_<|cc _ ?_<|cc _ ?_<|cc _ ?_ c0<;>first|omega|(simp;omega)|(simp;done)|(intros;simp_all;omega)|(intros;simp_all;done)) ?_
 refine A7 (q:=(((((!decide (k=1))&&(!decide (k=2)))||(decide (op < 0)))||(decide (7 < op)))||(decide (o < 0)))||(decide (7 < o))) (fun c1=>?_) fun c1=>?_
 ·try simp only[Aq] at c1
  refine Aa [] [10,11] (Ad ?_);refine RK wR [(.bool false),(.int .i64 1)] (Same.of_eq ?_);simp only[Ag];rw[show Dj k op a o b=(false,1) from by unfold Dj;rw[if_pos (by omega)]]
 ·try simp only[Aq] at c1
  refine Ac (CS:=[(4,((!(decide (op=0)))=true→(!(decide (op=0)))=true)),(5,((decide (op=0))=false→(!(decide (op=0)))=true))]) [44,45] [0,1,2,3,4,40] [] hk0 v0 (by refine cc _ ?_<|cc _ ?_ c0<;>simp) ?_;refine A7 (q:=(decide (op=0))||(decide (o=0))) (fun c2=>?_) fun c2=>?_
  ·try simp only[Aq] at c2
   refine Aa [] [10,11] (Ad ?_);refine RK wR [(.bool true),(.int .i64 0)] (Same.of_eq ?_);simp only[Ag];rw[show Dj k op a o b=(true,0) from by unfold Dj;rw[if_neg (by omega),if_pos (by omega)]]
  ·try simp only[Aq] at c2
   refine Ae (Ac [] [0,1,3,12,13,14] [(11,12),(12,13)] (hk 3 Q5z (Q7a k a b (by omega) (by omega))<|hk0) v0 c0 ?_);refine Ab (Aa [] [0,1,3,12,13,14,56] ?_);refine C7 (p:=((Bf k a b).2.2)=0) (fun c3=>?_) fun c3=>?_
   ·refine Aa [] [10,11] (Ad ?_);refine RK wR [(.bool false),(.int .i64 ((Bf k a b).2.2))] (Same.of_eq ?_);simp only[Ag];rw[show Dj k op a o b=(false,(Bf k a b).2.2) from by unfold Dj;rw[if_neg (by omega),if_neg (by omega),if_pos (by omega)]]
   ·refine Ae (Ac [] [1,3,12,13,15,16] [] (hk 3 Q5y (Q1c k (Bf k a b).1 (Bf k a b).2.1 ⟨by omega,by omega,by omega⟩ ⟨by omega,by omega,by omega⟩)<|hk0) v0 c0 ?_);refine Ev (fun y=>∃(c:Int),c=Ta (Bf k a b).1.2.2 (Bf k a b).2.1.2.2 (Df k (Bf k a b).1 (Bf k a b).2.1).1 (Df k (Bf k a b).1 (Bf k a b).2.1).2∧y=⟨[(1,(.int .i64 op)),(3,(.int .i64 o)),(15,(.int .i64 c))],[],2⟩) [1,3,15] 2 (by omega) ?_ ?_
    ·refine Ac (CS:=[(4,((decide (((Df k (Bf k a b).1 (Bf k a b).2.1).1)=0))=true→(decide (((Df k (Bf k a b).1 (Bf k a b).2.1).1)=0))=true)),(5,((decide (((Df k (Bf k a b).1 (Bf k a b).2.1).1)=0))=true→(decide (((Df k (Bf k a b).1 (Bf k a b).2.1).1)=0))=true)),(6,((decide (((Df k (Bf k a b).1 (Bf k a b).2.1).1)=0))=true→(decide (((Df k (Bf k a b).1 (Bf k a b).2.1).1)=0))=true)),(9,(((decide (((Df k (Bf k a b).1 (Bf k a b).2.1).1)=0))&&(!decide (((Bf k a b).1).2.2=[])))=true→((decide (((Df k (Bf k a b).1 (Bf k a b).2.1).1)=0))&&(!decide (((Bf k a b).1).2.2=[])))=true)),(10,(((decide (((Df k (Bf k a b).1 (Bf k a b).2.1).1)=0))&&(!decide (((Bf k a b).1).2.2=[])))=true→((decide (((Df k (Bf k a b).1 (Bf k a b).2.1).1)=0))&&(!decide (((Bf k a b).1).2.2=[])))=true)),(11,(((decide (((Df k (Bf k a b).1 (Bf k a b).2.1).1)=0))&&(!decide (((Bf k a b).1).2.2=[])))=true→((decide (((Df k (Bf k a b).1 (Bf k a b).2.1).1)=0))&&(!decide (((Bf k a b).1).2.2=[])))=true))]) [68,69,70,73,74,75] [1,3,15,16,76] [] hk0 v0 (by refine cc _ ?_<|cc _ ?_<|cc _ ?_<|cc _ ?_<|cc _ ?_<|cc _ ?_ c0<;>simp) ?_
     refine A7 (q:=((decide (((Df k (Bf k a b).1 (Bf k a b).2.1).1)=0))&&(!decide (((Bf k a b).1).2.2=[])))&&(!decide (((Bf k a b).2.1).2.2=[]))) (fun c4=>?_) fun c4=>?_
     ·try simp only[Aq] at c4
      refine Aj (Ex [] [1,3,15] ?_);refine⟨by kernel_rfl,((Df k (Bf k a b).1 (Bf k a b).2.1).2),?_,(by kernel_rfl)⟩;unfold Ta;rw[if_pos (by simp_all)]
     ·try simp only[Aq] at c4
      refine Ae ?_;refine⟨by kernel_rfl,((Df k (Bf k a b).1 (Bf k a b).2.1).1),?_,(by kernel_rfl)⟩;unfold Ta;rw[if_neg (fun q=>by simp[q.1,q.2.1,q.2.2] at c4)]
    ·rintro y1 ⟨c,jc,rfl⟩;refine Ab ?_;refine Au (Aa [] [1,3,15,78] ?_);refine A4 (p:=c < 0) (fun c5=>?_) fun c5=>?_
     ·refine Ab (Aj ?_);refine A9 1 0 [] [3,81] [] hk0 v0 c0 (Dr (.int .i64 (Go.bits .and .i64 op 4)) (by kernel_rfl) (Q4 (.inl (by kernel_rfl)) (.inl (by kernel_rfl))) pS ?_);refine A9 3 2 [85] [84,85] [] hk0 v0 c0 (Rh (q:=!(!decide ((Go.bits .and .i64 op 4)=0))) (.int .i64 (Go.bits .and .i64 o 1)) (by kernel_rfl) (fun cg=>(Q4 (.inr ⟨!(!decide ((Go.bits .and .i64 op 4)=0)),by kernel_rfl,by first|exact cg|simp_all⟩) (.inl (by kernel_rfl)))) pS ?_);refine An (CS:=[(6,((!(!decide ((Go.bits .and .i64 op 4)=0)))=true→(!(!decide ((Go.bits .and .i64 op 4)=0)))=true)),(7,((!decide ((Go.bits .and .i64 op 4)=0))=false→(!(!decide ((Go.bits .and .i64 op 4)=0)))=true))]) 6 [87] [10,11] [] hk0 v0 (by refine cc _ ?_<|cc _ ?_ c0<;>simp) ?_;refine Ad (RK wR [(.bool ((!decide ((Go.bits .and .i64 op 4)=0))||(!decide ((Go.bits .and .i64 o 1)=0)))),(.int .i64 0)] ?_);refine Same.of_eq ?_;simp only[Ag];rw[show Dj k op a o b=(Mq (Mp k a b) op o,0) from by unfold Dj;rw[if_neg (by omega),if_neg (by omega),if_neg (by omega)]];rw[show Mp k a b=c from jc.symm];unfold Mq;rw[if_pos (by omega)]
     ·refine Aa [] [1,3,89] ?_;refine A4 (p:=0 < c) (fun c6=>?_) fun c6=>?_
      ·refine Ab (Aj ?_);refine A9 1 0 [] [3,92] [] hk0 v0 c0 (Dr (.int .i64 (Go.bits .and .i64 op 1)) (by kernel_rfl) (Q4 (.inl (by kernel_rfl)) (.inl (by kernel_rfl))) pS ?_);refine A9 3 2 [96] [95,96] [] hk0 v0 c0 (Rh (q:=!(!decide ((Go.bits .and .i64 op 1)=0))) (.int .i64 (Go.bits .and .i64 o 4)) (by kernel_rfl) (fun cg=>(Q4 (.inr ⟨!(!decide ((Go.bits .and .i64 op 1)=0)),by kernel_rfl,by first|exact cg|simp_all⟩) (.inl (by kernel_rfl)))) pS ?_);refine An (CS:=[(6,((!(!decide ((Go.bits .and .i64 op 1)=0)))=true→(!(!decide ((Go.bits .and .i64 op 1)=0)))=true)),(7,((!decide ((Go.bits .and .i64 op 1)=0))=false→(!(!decide ((Go.bits .and .i64 op 1)=0)))=true))]) 6 [98] [10,11] [] hk0 v0 (by refine cc _ ?_<|cc _ ?_ c0<;>simp) ?_;refine Ad (RK wR [(.bool ((!decide ((Go.bits .and .i64 op 1)=0))||(!decide ((Go.bits .and .i64 o 4)=0)))),(.int .i64 0)] ?_);refine Same.of_eq ?_;simp only[Ag];rw[show Dj k op a o b=(Mq (Mp k a b) op o,0) from by unfold Dj;rw[if_neg (by omega),if_neg (by omega),if_neg (by omega)]];rw[show Mp k a b=c from jc.symm];unfold Mq;rw[if_neg (by omega),if_pos (by omega)]
      ·refine Ae ?_;refine Ab (Aj ?_);refine A9 2 0 [] [100,101] [] hk0 v0 c0 (Dr (.int .i64 (Go.bits .and .i64 op o)) (by kernel_rfl) (Q4 (.inl (by kernel_rfl)) (.inl (by kernel_rfl))) pS ?_);refine An 3 [] [10,11] [] hk0 v0 c0 (Ad ?_);refine RK wR [(.bool (!decide ((Go.bits .and .i64 op o)=0))),(.int .i64 0)] (Same.of_eq ?_);simp only[Ag];rw[show Dj k op a o b=(Mq (Mp k a b) op o,0) from by unfold Dj;rw[if_neg (by omega),if_neg (by omega),if_neg (by omega)]];rw[show Mp k a b=c from jc.symm];unfold Mq;rw[if_neg (by omega),if_neg (by omega)]
theorem Q22:L1 Dj:=fun k op a o b ha hb=>X49 k op a o b ha hb
def Ey:List Int→Prop
 |[]=>True
 |x::r=>(∀y∈r,x < y)∧Ey r
end
def Uw (st:PoolT) (pl:List (Int × Int)):Prop:=pl.length=st.all.length∧∀i,i < st.all.length→0≤(nth pl i).1∧(nth pl i).1 < st.repos.length∧0≤(nth pl i).2∧(nth pl i).2 < (nth st.repos (nth pl i).1.toNat).pkgs.length ∧
 nth (nth st.repos (nth pl i).1.toNat).pkgs (nth pl i).2.toNat=(nth st.all i).1∧(nth pl i).1=(nth st.all i).2
def Q9f (l:List RepoT) (st:PoolT):Prop:=∀q∈st.all,∃r∈l,q.1∈r.pkgs
theorem We {α:Type} [Inhabited α] {l m:List α} {i:Nat} (h:i < l.length):nth (l++m) i=nth l i:=by
 simp only[nth];rw[List.getElem?_append_left h]
theorem Wd {α:Type} [Inhabited α] {l m:List α} {i:Nat} (h:l.length≤i):nth (l++m) i=nth m (i-l.length):=by
 simp only[nth];rw[List.getElem?_append_right h]
theorem X6 {k:Int} {l:List RepoT} {r:RepoT}:As k (l++[r])=(Dp (As k l).1 r,Gv (As k l).2 (As k l).1 r):=by
 unfold As;rw[List.foldl_append];rfl
theorem Vi {α:Type} {C:List α→Prop} (h0:C []) (h:∀l a,C l→C (l++[a])) (l:List α):C l:=by
 rw[←List.reverse_reverse l]
 induction l.reverse with
 |nil=>exact h0
 |cons a r ih=>rw[List.reverse_cons];exact h _ _ ih
theorem Y21 (k:Int):∀l:List RepoT,Q9f l (As k l).1:=by
 refine Vi (C:=fun l=>Q9f l (As k l).1) (fun q hq=>by cases hq) fun l r ih=>?_;rw[X6];intro q hq
 have old:q∈(As k l).1.all→∃r'∈l++[r],q.1∈r'.pkgs:=fun h=>by
  obtain⟨r',h1,h2⟩:=ih q h;exact⟨r',List.mem_append_left _ h1,h2⟩
 unfold Dp at hq;split at hq
 ·simp only[A5,List.take_length] at hq;rcases List.mem_append.1 hq with h|h
  ·exact old h
  ·obtain⟨p,hp,rfl⟩:=List.mem_map.1 h;exact⟨r,by simp,hp⟩
 ·exact old hq
theorem X7 {k:Int} {l:List RepoT} (h:∀i,i < l.length→(nth l i).size≤4194304):IdxOk (As k l).1:=by
 refine⟨(Q7c k l).2.1,fun i hi=>?_⟩;obtain⟨r,hr,hp⟩:=Y21 k l (nth (As k l).1.all i) (by rw[G5 hi];exact List.getElem_mem hi);obtain⟨a,ha,rfl⟩:=List.getElem_of_mem hr;obtain⟨b,hb,e⟩:=List.getElem_of_mem hp;have h1:=RepoT.size_pkg hb;have h2:=h a ha;rw[G5 ha] at h2;rw[G5 hb,e] at h1;omega
theorem X8 (k:Int):∀l:List RepoT,Uw (As k l).1 (As k l).2:=by
 refine Vi (C:=fun l=>Uw (As k l).1 (As k l).2) ⟨rfl,fun i hi=>by simp[As] at hi⟩ fun l r ih=>?_;rw[X6];generalize (As k l).1=st at ih;generalize (As k l).2=pl at ih;show Uw (Dp st r) (Gv pl st r);by_cases he:C2 st r=0
 ·have e1:Dp st r=⟨st.kind,st.repos++[r],A5 st r r.pkgs.length⟩:=if_pos he;have e2:Gv pl st r=Dh pl st r r.pkgs.length:=if_pos he;rw[e1,e2]
  have hl:(A5 st r r.pkgs.length).length=st.all.length+r.pkgs.length:=by simp[A5]
  have hl2:(Dh pl st r r.pkgs.length).length=pl.length+r.pkgs.length:=by simp[Dh]
  refine⟨by show(Dh pl st r r.pkgs.length).length=(A5 st r r.pkgs.length).length;rw[hl,hl2,ih.1],fun i hi=>?_⟩;have hi:i < (A5 st r r.pkgs.length).length:=hi;rw[hl] at hi;show 0≤(nth (Dh pl st r r.pkgs.length) i).1∧(nth (Dh pl st r r.pkgs.length) i).1 < ((st.repos++[r]).length:Int)∧0≤(nth (Dh pl st r r.pkgs.length) i).2∧(nth (Dh pl st r r.pkgs.length) i).2 < ((nth (st.repos++[r]) (nth (Dh pl st r r.pkgs.length) i).1.toNat).pkgs.length:Int)∧nth (nth (st.repos++[r]) (nth (Dh pl st r r.pkgs.length) i).1.toNat).pkgs (nth (Dh pl st r r.pkgs.length) i).2.toNat=(nth (A5 st r r.pkgs.length) i).1∧(nth (Dh pl st r r.pkgs.length) i).1=(nth (A5 st r r.pkgs.length) i).2;unfold Dh A5;by_cases h:i < st.all.length
  ·have k:=ih.2 i h;rw[We (l:=pl) (by rw[ih.1];exact h),We (l:=st.all) h,We (l:=st.repos) (by omega)];exact⟨k.1,by rw[List.length_append];omega,k.2.2.1,k.2.2.2.1,k.2.2.2.2.1,k.2.2.2.2.2⟩
  ·obtain⟨j,rfl⟩:∃j,i=st.all.length+j:=⟨i-st.all.length,by omega⟩
   have hj:j < r.pkgs.length:=by omega
   rw[Wd (l:=pl) (by rw[ih.1];omega),Wd (l:=st.all) (by omega),show st.all.length+j-pl.length=j by rw[ih.1];omega,show st.all.length+j-st.all.length=j by omega,List.take_length]
   have a1:nth ((List.range r.pkgs.length).map fun (k:Nat)=>((st.repos.length:Int),(k:Int))) j=((st.repos.length:Int),(j:Int)):=by simp[nth,hj]
   have a2:nth (r.pkgs.map fun p=>(p,(st.repos.length:Int))) j=(nth r.pkgs j,(st.repos.length:Int)):=by simp[nth,hj]
   rw[a1,a2]
   have a3:nth (st.repos++[r]) ((st.repos.length:Int)).toNat=r:=by rw[Wd (by simp)];simp[nth]
   refine⟨Int.natCast_nonneg _,by rw[List.length_append,List.length_singleton];show(st.repos.length:Int) < _;omega,Int.natCast_nonneg _,?_,?_,rfl⟩
   ·show(j:Int) < ((nth (st.repos++[r]) ((st.repos.length:Int)).toNat).pkgs.length:Int);rw[a3];omega
   ·show nth (nth (st.repos++[r]) ((st.repos.length:Int)).toNat).pkgs ((j:Int)).toNat=nth r.pkgs j;rw[a3];rfl
 ·have e1:Dp st r=st:=if_neg he;have e2:Gv pl st r=pl:=if_neg he;rw[e1,e2];exact ih
end Sv
section
variable {H : Type} {enc : TypeId × Value → H} {P : Program} {W : World}
def Two {α β:Type} (R:α→β→Prop):List α→List β→Prop
 |[],[]=>True
 |a::l,b::m=>R a b∧Two R l m
 |_,_=>False
theorem Two.len {α β:Type} {R:α→β→Prop}:∀{l:List α} {m:List β},Two R l m→m.length=l.length
 |[],[],_=>rfl
 |_::_,_::_,h=>by simp only[List.length_cons,Two.len h.2]
theorem Y34 {w:World} {a:Addr} {v:Value} (h:w.cell? a=some v):a.spot=none:=by
 unfold World.cell? at h
 cases hs:a.spot with
 |none=>rfl
 |some k=>rw[hs] at h;split at h<;>simp at h
theorem Q19 {α:Type} {e:TypeId} {sz n:Nat} {a:Addr} (hc:P.cellsOf e=sz) {Q:α→List Value→Prop} {size:α→Nat}
  (each:∀cs' y,cs'.length=sz→DataW.trod enc P W 0 (fun _=>true) true n e cs'=some y→∃x,Q x cs'∧size x≤Rows.uptoBulk y.1) :
  ∀(elems:List (DataW H × List MemPlace)) (i:Nat),(∀j,j < elems.length→(W.cells? 0 (a.add ((i+j)*sz)) sz).bind (DataW.trod enc P W 0 (fun _=>true) true n e)=elems[j]?) →
   ∃(l:List α) (css:List (List Value)),l.length=elems.length∧Two Q l css∧(l.map size).sum≤Rows.uptoBulkAll (elems.map (·.1))∧(∀c∈css,c.length=sz) ∧
    ∀j u,css.flatten[j]? = some u→W.cell? (a.add (i*sz+j))=some u
 |[],i,_=>⟨[],[],rfl,trivial,by simp,by simp,by simp⟩
 |y::r,i,h=>by
  have h0:=h 0 (by simp);simp only[Nat.add_zero,List.getElem?_cons_zero] at h0;obtain⟨cs',h1,h2⟩:=Option.bind_eq_some_iff.1 h0;obtain⟨_,hl,hcs⟩:=World.cells?_some h1;obtain⟨x,hx,hs⟩:=each cs' y hl h2
  obtain⟨l,css,e1,e2,e3,e4,e5⟩:=Q19 hc each r (i+1) (fun j hj=>by
   have:=h (j+1) (by simpa using hj);rw[show i+(j+1)=i+1+j by omega] at this
   simpa using this)
  refine⟨x::l,cs'::css,by simp[e1],⟨hx,e2⟩,?_,?_,?_⟩
  ·simp only[List.map_cons,List.sum_cons,Rows.uptoBulkAll];omega
  ·intro c hc';rcases List.mem_cons.1 hc' with rfl|hc'
   ·exact hl
   ·exact e4 c hc'
  ·intro j u hu;rw[List.flatten_cons] at hu;by_cases hj:j < sz
   ·rw[List.getElem?_append_left (by omega)] at hu;have:=hcs j hj;rw[hu] at this;rw[←this];congr 1;show a.add (i*sz+j)=(a.add (i*sz)).add j;unfold Addr.add;by_cases h1:i*sz=0<;>by_cases h2:j=0<;>simp[h1,h2,Nat.add_assoc]
   ·rw[List.getElem?_append_right (by omega),hl] at hu;have:=e5 (j-sz) u hu;rw[←this];congr 2
    have:(i+1)*sz=i*sz+sz:=by rw[Nat.add_mul,Nat.one_mul]
    omega
theorem X31 {α:Type} {t e:TypeId} {sz fuel:Nat} {cs:List Value} {y:DataW H × List MemPlace} (ht:P.underlying t=some (.slice e)) (hc:P.cellsOf e=sz) (hsz:0 < sz) {Q:α→List Value→Prop} {size:α→Nat}
  (each:∀n cs' y,n < fuel→cs'.length=sz→DataW.trod enc P W 0 (fun _=>true) true n e cs'=some y→∃x,Q x cs'∧size x≤Rows.uptoBulk y.1) (h:DataW.trod enc P W 0 (fun _=>true) true fuel t cs=some y) :
  ∃(v:Value) (l:List α) (css:List (List Value)),cs=[v]∧RowIs W v l.length sz css.flatten∧Two Q l css∧(∀c∈css,c.length=sz)∧(l.map size).sum+1≤Rows.uptoBulk y.1:=by
 rcases DataW.trod_slice ht h with⟨rfl,rfl⟩|⟨a,len,cap,elems,rest,n,hf,rfl,rfl,_,_,_,hlen,hel,_,_⟩
 ·exact⟨_,[],[],rfl,⟨by simp,.inl ⟨rfl,_,_,rfl⟩⟩,trivial,by simp,by simp[Rows.uptoBulk]⟩
 ·subst hc;obtain⟨l,css,e1,e2,e3,e4,e5⟩:=Q19 (a:=a) rfl (each n · · (by omega)) elems 0 (fun j hj=>by rw[Nat.zero_add];exact hel j (by omega))
  have hfl:css.flatten.length=l.length*P.cellsOf e:=by
   rw[←e2.len,List.length_flatten];clear e5 e2 e1
   induction css with
   |nil=>simp
   |cons c r ih=>simp only[List.map_cons,List.sum_cons,List.length_cons];rw[ih (fun c hc=>e4 c (by simp[hc])),e4 c (by simp),Nat.add_mul];omega
  refine⟨_,l,css,rfl,⟨hfl,?_⟩,e2,e4,by simp only[Rows.uptoBulk];omega⟩;by_cases hn:l.length=0
  ·exact .inl ⟨hn,some a,cap,by rw[←hlen,←e1,hn]⟩
  ·right
   have hp:0 < css.flatten.length:=by rw[hfl];exact Nat.mul_pos (by omega) hsz
   have hsp:=Y34 (a:=a) (by have:=e5 0 _ (List.getElem?_eq_getElem hp);rw[Nat.zero_mul] at this;exact this);obtain⟨b,o,sp⟩:=a;simp only at hsp;subst hsp;refine⟨b,o,cap,by rw[←hlen,←e1],fun j u hu=>?_⟩;have:=e5 j u hu;rw[Nat.zero_mul,Nat.zero_add] at this;rw[←this];congr 1;unfold Addr.add;split<;>simp_all
end
section
variable {H : Type} {enc : TypeId × Value → H} {W : World}
theorem J2 (s:ByteArray):Value.string s=S s.data.toList:=by simp[S]
theorem Q7u (l:List DepT):(l.map DepT.size).sum=argsSize l:=by
 induction l with
 |nil=>rfl
 |cons d r ih=>simp only[List.map_cons,List.sum_cons,argsSize,ih]
end
namespace Sv
def allF (W:World):Nat→Option Obj:=fun b=>W.heap[b]?
theorem X7y (W:World):Fro (allF W) W:=fun _ _ e=>e
theorem Q63 {w:World} {b k:Nat} {v:Value} (h:w.cell? ⟨b,k,none⟩=some v):∃cs e fr,w.heap[b]? = some (.cells cs e fr)∧cs[k]? = some v:=by
 unfold World.cell? at h;split at h
 ·rename_i c e fr hb;exact⟨c,e,fr,hb,by simpa using h⟩
 ·cases h
theorem Rs {α:Type} [Inhabited α] {R:α→List Value→Prop}:∀{l:List α} {m:List (List Value)},Two R l m→∀{i},i < l.length→R (Go.Proofs.YtglcebdfdehidaaGreatDoor.nth l i) (Go.Proofs.YtglcebdfdehidaaGreatDoor.nth m i)
 |[],[],_,i,h=>by simp at h
 |_::_,[],h,_,_=>h.elim
 |a::l,b::m,h,0,_=>h.1
 |a::l,b::m,h,i+1,hi=>Rs (l:=l) (m:=m) h.2 (by simpa using hi)
section
variable {H : Type} {enc : TypeId × Value → H} {P : Program} {W : World}
theorem Mi {α:Type} [Inhabited α] {t e:TypeId} {sz fuel:Nat} {cs:List Value} {y:DataW H × List MemPlace} (ht:P.underlying t=some (.slice e)) (hc:P.cellsOf e=sz) (hsz:0 < sz) {f:α→AV} {size:α→Nat} (wrap:List Value→Value)
  (hw:∀cs',cs'.length=sz→(∀c∈cs',c.oneCell'=true)→(wrap cs').cells.toList=cs')
  (each:∀n cs' y,n < fuel→cs'.length=sz→DataW.trod enc P W 0 (fun _=>true) true n e cs'=some y→∃x,(VR (ofF (allF W)) (f x) (wrap cs')∧∀c∈cs',c.oneCell'=true)∧size x≤Rows.uptoBulk y.1) (h:DataW.trod enc P W 0 (fun _=>true) true fuel t cs=some y) :
  ∃(v:Value) (l:List α),cs=[v]∧VR (ofF (allF W)) (Ak sz f l) v∧(l.map size).sum+1≤Rows.uptoBulk y.1:=by
 obtain⟨v,l,css,rfl,hr,h2,h4,h5⟩:=X31 (Q:=fun x cs'=>VR (ofF (allF W)) (f x) (wrap cs')∧∀c∈cs',c.oneCell'=true) ht hc hsz each h;refine⟨v,l,rfl,?_,h5⟩
 have hshape:v = .slice none 0 0∨∃a n c,v = .slice (some a) n c∧n≤c:=by
  rcases DataW.trod_slice ht h with⟨e,_⟩|⟨a,len,cap,_,_,_,_,e,_,_,hle,_⟩
  ·left;simpa using e
  ·right;exact⟨a,len,cap,by simpa using e,hle⟩
 unfold Ak;simp only[VR];have hlen:=h2.len;refine⟨fun i=>wrap (nth css i),fun i hi=>(Rs h2 hi).1,?_⟩;rcases hr.2 with⟨h0,a,c,rfl⟩|⟨b,o,c,rfl,hcell⟩
 ·refine .inl ⟨h0,?_⟩;rcases hshape with e|⟨a',n,c',e,_⟩
  ·exact .inl e
  ·cases e;exact .inr ⟨a',c,rfl⟩
 ·have hnc:l.length≤c:=by
   rcases hshape with e|⟨a',n,c',e,hle⟩
   ·cases e
   ·cases e;exact hle
  refine .inr ⟨b,o,c,rfl,hnc,fun i hi=>?_⟩;have hmem:nth css i∈css:=P2 (by omega);have hwr:=hw _ (h4 _ hmem) (Rs h2 hi).2;have hat:∀j,j < sz→css.flatten[i*sz+j]? = (nth css i)[j]? := fun j hj=>Qn (sz:=sz) css i j h4 (by omega) hj;refine⟨by rw[←Array.length_toList,hwr];exact h4 _ hmem,?_⟩;rw[hwr];have hl:=h4 _ hmem;obtain⟨cs0,e0,fr0,k1,_⟩:=Q63 (hcell (i*sz+0) _ ((hat 0 hsz).trans (List.getElem?_eq_getElem (show 0 < (nth css i).length by omega))));refine⟨cs0,e0,fr0,k1,fun j u hu=>?_⟩
  have hj:j < sz:=by have:=(List.getElem?_eq_some_iff.1 hu).1;omega
  obtain⟨cs1,e1,fr1,k2,k3⟩:=Q63 (hcell (i*sz+j) u ((hat j hj).trans hu));rw[k1] at k2;cases k2;exact⟨by rw[Nat.add_assoc];exact k3,(Rs h2 hi).2 u (List.mem_of_getElem? hu)⟩
theorem X35:∀(fuel:Nat) (cs:List Value) (x:DataW H × List MemPlace),DataW.trod enc prog W 0 (fun _=>true) true fuel 86 cs=some x→∃d:DepT,(VR (ofF (allF W)) (Aw d) (.agg cs.toArray)∧∀c∈cs,c.oneCell'=true)∧d.size≤Rows.uptoBulk x.1:=by
 intro fuel
 induction fuel using Nat.strongRecOn with
 |ind fuel ih =>
 intro cs x h;obtain⟨xs,n,hf,rfl,hl,hxs,hfs⟩:=DataW.trod_struct underlying86 h;have hl':cs.length=5:=hl.trans (by kernel_rfl)
 match cs,hl' with
 |[c0,c1,c2,c3,c4],_ =>
 match xs,hxs with
 |[y0,y1,y2,y3,y4],_ =>
 have g0:DataW.trod enc prog W 0 (fun _=>true) true n 3 (([c0,c1,c2,c3,c4].drop 0).take (prog.cellsOf 3))=some y0:=hfs 0 _ rfl;have g1:DataW.trod enc prog W 0 (fun _=>true) true n 9 (([c0,c1,c2,c3,c4].drop 1).take (prog.cellsOf 9))=some y1:=hfs 1 _ rfl;have g2:DataW.trod enc prog W 0 (fun _=>true) true n 3 (([c0,c1,c2,c3,c4].drop 2).take (prog.cellsOf 3))=some y2:=hfs 2 _ rfl;have g3:DataW.trod enc prog W 0 (fun _=>true) true n 9 (([c0,c1,c2,c3,c4].drop 3).take (prog.cellsOf 9))=some y3:=hfs 3 _ rfl;have g4:DataW.trod enc prog W 0 (fun _=>true) true n 74 (([c0,c1,c2,c3,c4].drop 4).take (prog.cellsOf 74))=some y4:=hfs 4 _ rfl
 have k1:prog.cellsOf 3=1:=by kernel_rfl
 have k2:prog.cellsOf 9=1:=by kernel_rfl
 have k3:prog.cellsOf 74=1:=by kernel_rfl
 have k4:prog.cellsOf 86=5:=by kernel_rfl
 rw[k1] at g0 g2;rw[k2] at g1 g3;rw[k3] at g4;simp only[List.drop_zero,List.drop_succ_cons,List.take_succ_cons,List.take_zero] at g0 g1 g2 g3 g4;obtain⟨k,e0,rfl,_⟩:=DataW.trod_int underlying3 g0;obtain⟨nm,e1,rfl,_⟩:=DataW.trod_string underlying9 g1;obtain⟨op,e2,rfl,_⟩:=DataW.trod_int underlying3 g2;obtain⟨ev,e3,rfl,_⟩:=DataW.trod_string underlying9 g3;obtain⟨v,l,e4,hr,hb⟩:=Mi (f:=Aw) (size:=DepT.size) underlying74 k4 (by omega) (fun cs => .agg cs.toArray) (fun cs' _ _=>by simp[Value.cells]) (fun n' cs' y hn _ hy=>ih n' (by omega) cs' y hy) g4
 have hsl:v.oneCell'=true:=by
  have hr':=hr;unfold Ak at hr';simp only[VR] at hr';obtain⟨u,_,h0|⟨b,o,c,rfl,_⟩⟩:=hr'
  ·rcases h0 with⟨_,rfl|⟨a,c,rfl⟩⟩<;>rfl
  ·rfl
 simp only[List.cons.injEq,and_true] at e0 e1 e2 e3 e4;subst e0 e1 e2 e3 e4;refine⟨.mk k nm.data.toList op ev.data.toList l,⟨?_,?_⟩,?_⟩
 ·refine Y1x _ _ _ ?_;simp only[VR];refine⟨_,.cons (by simp only[VR];rfl) (.cons (by simp only[VR];exact J2 nm) (.cons (by simp only[VR];rfl) (.cons (by simp only[VR];exact J2 ev) (.cons hr .nil)))),rfl⟩
 ·intro c hc;simp only[List.mem_cons,List.not_mem_nil,or_false] at hc;rcases hc with rfl|rfl|rfl|rfl|rfl
  ·rfl
  ·rfl
  ·rfl
  ·rfl
  ·exact hsl
 ·rw[Q7u] at hb;simp only[DepT.size,List.map_cons,List.map_nil,Rows.uptoBulk,Rows.uptoBulkAll];omega
end
theorem FnV.calls {P:Program} {f:Nat} {al:List AV} {W:World} {vs:List Value} (h:FnV P f al (.bool true)) (hv:VRl (ofF (allF W)) al vs):Calls P f vs.toArray W (Ret fun v w'=>v = .bool true∧Below W.heap.size W w') :=
 (h (allF W) W vs (X7y W) hv).mono fun e w' hh=>by
  obtain⟨v,he,hb,F',_,_,_,k⟩:=hh;simp only[VR] at k;exact⟨v,he,k,hb⟩
end Sv
end Go.Proofs.YtglcebdfdehidaaGreatDoor
