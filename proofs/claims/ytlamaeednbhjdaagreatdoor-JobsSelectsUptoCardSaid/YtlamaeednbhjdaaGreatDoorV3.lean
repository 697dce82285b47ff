/- The texts Pool3, Pool4, Pool5, Pool6, Pool7, Prov1, CompI, Prov2, Prov3, Prov4, Prov5, Prov6, Prov7, Prov8, Evr2, Evr3, Evr4, Evr5, Evr6, Ref7a, PoolP, ProvP, OwnP, TrimV of the proof, joined. Each says at its theorems what it proves. -/
import Derived.Test.YtlamaeednbhjdaaGreatDoorV2
import Derived.Sort.OwnSortedInts
set_option linter.unusedSimpArgs false
set_option linter.unusedVariables false
namespace Go.Proofs.YtlamaeednbhjdaaGreatDoor
section
open Go Go.RowKit
namespace Sv
attribute [local irreducible] SW SO Bk
set_option maxHeartbeats 1000000
set_option maxRecDepth 100000
def Fq (x:Nat):Bool:=(decide (97≤x)&&decide (x≤122))||(decide (48≤x)&&decide (x≤57))||decide (x=95)
def Fu (x:Nat):Bool:=decide (32≤x)&&decide (x≤126)
def G7 (s:List UInt8) (most:Int) (q:Nat→Bool):Bool:=decide ((s.length:Int)≤most)&&decide (Lib.idxFunc (fun x => !q x) true ⟨s.toArray⟩ < 0)
theorem Q6j (s:List UInt8) (most:Int) {q:Nat→Bool} (hq:∀r,128≤r→q r=false):G7 s most q=(decide ((s.length:Int)≤most)&&s.all fun b=>q b.toNat):=by
 unfold G7;rw[Q2d (fun r hr=>by rw[hq r hr];rfl)];simp
theorem Q9j (r:Nat) (h:128≤r):Fq r=false:=by unfold Fq;simp;omega
theorem Q9z (r:Nat) (h:128≤r):Fu r=false:=by unfold Fu;simp;omega
theorem Q6h {s:List UInt8} {q:Nat→Bool} {i:Nat} (hi:i < s.length) (h:q (Ac s i).toNat=false):(s.all fun b=>q b.toNat)=false:=by
 rw[List.all_eq_false];rw[I7 hi] at h;exact⟨s[i],List.getElem_mem hi,by simp[h]⟩
theorem Q6g {s:List UInt8} {q:Nat→Bool} {i:Nat} (hi:s.length≤i) (h:∀j,j < i→q (Ac s j).toNat=true):(s.all fun b=>q b.toNat)=true:=by
 rw[List.all_eq_true];intro x hx;obtain⟨j,hj,rfl⟩:=List.getElem_of_mem hx;have:=h j (by omega);rwa [I7 hj] at this
def Kw (s:List UInt8):Bool:=decide (1≤s.length)&&decide (s.length≤20)&&s.all fun b=>Fq b.toNat
def Iy (f:List UInt8):Bool:=A2 f 47&&Bh f
def H0 (s:List UInt8):Bool:=s.all fun b=>Fu b.toNat
def Jx (l:List (List UInt8)):Bool:=decide (l.length≤16)&&l.all Iy
def Sr (l:List (List UInt8)):Bool:=l.any fun x => !Iy x
def D2 (p:PkgT):Int :=
 if Bh p.name=false then 60
 else if B6 p.evr≠0 then 61
 else if Kw p.arch=false then 62
 else if (decide (p.vendor.length≤60)&&H0 p.vendor)=false then 63
 else if Gl p=false then 64
 else if Jx p.files=false then 65
 else 0
def Jn (p:PkgT):Int :=
 if Bh p.name=false then 60
 else if ¬B6 p.evr=0 then 61
 else if p.arch=[]∨G7 p.arch 20 Fq=false then 62
 else if G7 p.vendor 60 Fu=false then 63
 else if Gl p=false then 64
 else if (16:Int) < (p.files.length:Int)∨Sr p.files=true then 65
 else 0
theorem Lg (p:PkgT):Jn p=D2 p:=by
 have ha1:(p.arch=[]∨G7 p.arch 20 Fq=false)↔Kw p.arch=false:=by
  rw[Q6j p.arch 20 Q9j];unfold Kw
  cases h:p.arch with
  |nil=>simp
  |cons a r =>
   rw[show decide (1≤(a::r).length)=true by simp,Bool.true_and];rw[show decide (((a::r).length:Int)≤20)=decide ((a::r).length≤20) from decide_eq_decide.2 (by omega)];simp
 have ha2:G7 p.vendor 60 Fu=(decide (p.vendor.length≤60)&&H0 p.vendor):=by
  unfold H0;rw[Q6j p.vendor 60 Q9z,show decide ((p.vendor.length:Int)≤60)=decide (p.vendor.length≤60) from decide_eq_decide.2 (by omega)]
 have ha3:((16:Int) < (p.files.length:Int)∨Sr p.files=true)↔Jx p.files=false:=by
  unfold Sr Jx;rw[Y0w];simp only[Bool.and_eq_false_iff,decide_eq_false_iff_not,Bool.not_eq_true'];constructor
  ·rintro (h|h)
   ·left;omega
   ·exact .inr h
  ·rintro (h|h)
   ·left;omega
   ·exact .inr h
 unfold Jn D2;simp only[ha1,ha2,ha3]
def Jm (p:PkgT):Int :=
 if Bh p.name=false then 60
 else if ¬B6 p.evr=0 then 61
 else if Kw p.arch=false then 62
 else if H0 p.vendor=false∨(60:Int) < (p.vendor.length:Int) then 63
 else if Gl p=false then 64
 else if Jx p.files=false then 65
 else 0
theorem Lf (p:PkgT):Jm p=D2 p:=by
 have ha:(H0 p.vendor=false∨(60:Int) < (p.vendor.length:Int))↔(decide (p.vendor.length≤60)&&H0 p.vendor)=false:=by
  simp only[Bool.and_eq_false_iff,decide_eq_false_iff_not];constructor
  ·rintro (h|h)
   ·exact .inr h
   ·left;omega
  ·rintro (h|h)
   ·right;omega
   ·exact .inl h
 unfold Jm D2;simp only[ha]
theorem Q3h {f:List UInt8}:Iy f=(Bh f&&decide (((Ac f 0).toNat:Int)=47)):=by
 unfold Iy
 cases f with
 |nil=>rw[show Bh []=false by decide];simp
 |cons a r =>
  have h1:A2 (a::r) 47=decide (a=47):=by simp[A2]
  have h2:Ac (a::r) 0=a:=by simp[Ac]
  rw[h1,h2,Bool.and_comm];congr 1;refine decide_eq_decide.2 ⟨fun h=>by rw[h];rfl,fun h=>UInt8.toNat_inj.1 (by show _=47;omega)⟩
theorem Q9k (x:Nat) :
  FnV Tryz.prog 81 [(.int .i32 ((x:Int)))] (.bool (Fq x)):=by
 refine A3 [.tmp 2] Tryz.func81 rfl Tryz.ntmps81 rfl rfl (fun B F hF=>?_);refine Aa [] [0] ?_
 obtain⟨b1,hb1⟩:∃b,b=(decide (97≤(x:Int))):=⟨_,rfl⟩
 obtain⟨b2,hb2⟩:∃b,b=(b1&&(decide ((x:Int)≤122))):=⟨_,rfl⟩
 obtain⟨b3,hb3⟩:∃b,b=(b2||((decide (48≤(x:Int)))&&(decide ((x:Int)≤57)))):=⟨_,rfl⟩
 refine Ad (CS:=[(4,(b1=true→b1=true)),(5,(b1=true→b1=true)),(8,((!b2)=true→(!b2)=true)),(9,((!b2)=true→(!b2)=true)),(11,(((!b2)&&(decide (48≤(x:Int))))=true→((!b2)&&(decide (48≤(x:Int))))=true)),(12,((!b2)=true→((!b2)=true)∧((decide (48≤(x:Int)))=true→((!b2)&&(decide (48≤(x:Int))))=true))),(13,(b2=false→(!b2)=true)),(16,((!b3)=true→(!b3)=true)),(17,(b3=false→(!b3)=true))]) [6,7,10,11,12,13,14,15,18,19] [2] [] hk0 (vk 3 5 (a:=.bool (decide (97≤(x:Int)))) (b:=.bool b1) (Imp.of_eq (by rw[hb1]))<|vk 7 9 (a:=.bool (b1&&(decide ((x:Int)≤122)))) (b:=.bool b2) (Imp.of_eq (by rw[hb2]))<|vk 14 16 (a:=.bool (b2||((decide (48≤(x:Int)))&&(decide ((x:Int)≤57))))) (b:=.bool b3) (Imp.of_eq (by rw[hb3]))<|v0) (by refine cc _ ?_<|cc _ ?_<|cc _ ?_<|cc _ ?_<|cc _ ?_<|cc _ ?_<|cc _ ?_<|cc _ ?_<|cc _ ?_ c0<;>(intros;simp_all;done)) ?_;refine Ae (RK wR [(.bool (b3||(decide ((x:Int)=95))))] ?_);subst hb3 hb2 hb1;refine Same.of_eq ?_;simp only[Af];congr 1;unfold Fq;rw[Bool.eq_iff_iff];simp only[Bool.and_eq_true,Bool.or_eq_true,decide_eq_true_eq];omega
theorem Q90 (x:Nat) :
  FnV Tryz.prog 82 [(.int .i32 ((x:Int)))] (.bool (Fu x)):=by
 refine A3 [.tmp 2] Tryz.func82 rfl Tryz.ntmps82 rfl rfl (fun B F hF=>?_);refine Aa [] [0] ?_
 obtain⟨b1,hb1⟩:∃b,b=(decide (32≤(x:Int))):=⟨_,rfl⟩
 refine Ad (CS:=[(4,(b1=true→b1=true)),(5,(b1=true→b1=true))]) [6,7] [2] [] hk0 (vk 3 5 (a:=.bool (decide (32≤(x:Int)))) (b:=.bool b1) (Imp.of_eq (by rw[hb1]))<|v0) (by refine cc _ ?_<|cc _ ?_ c0<;>simp) ?_;refine Ae (RK wR [(.bool (b1&&(decide ((x:Int)≤126))))] ?_);subst hb1;refine Same.of_eq ?_;simp only[Af];congr 1;unfold Fu;rw[Bool.eq_iff_iff];simp only[Bool.and_eq_true,Bool.or_eq_true,decide_eq_true_eq];omega
theorem X22 (x:Nat) (a:AV) (q:Nat→Bool) (hx:x≤1114111) (ha:∀x:Nat,x≤1114111→FunV Tryz.prog a [.int .i32 (x:Int)] (.bool (q x))) :
  FnV Tryz.prog 85 [(.int .i32 ((x:Int))),(.fp (.agg [(.clo a)]))] (.bool (!q x)):=by
 refine A3 [.tmp 3] Tryz.func85 rfl Tryz.ntmps85 rfl rfl (fun B F hF=>?_);refine Aa [] [0,1] ?_;refine Ab ?_;refine An (Bm 2 0 [] [4,5] [] hk0 v0 c0 ?_);refine Gn (s':=[(4,(.clo a)),(5,(.int .i32 ((x:Int)))),(6,(.bool (q x)))]) (a:=(.clo a)) (al:=[(.int .i32 ((x:Int)))]) (r:=(.bool (q x))) (by kernel_rfl) (by kernel_rfl) (by kernel_rfl) (by kernel_rfl) (by kernel_rfl) ((ha x hx).clo) (by kernel_rfl) ?_;refine Av 3 [] [3] [] hk0 v0 c0 ?_;refine Ae (RK wR [(.bool (!(q x)))] ?_);exact Same.of_eq (by first|rfl|(simp only[Af];simp_all))
theorem Q6e (s:List UInt8) (most:Int) (a:AV) (q:Nat→Bool) (hl:s.length≤9223372036854775807) (ha:∀x:Nat,x≤1114111→FunV Tryz.prog a [.int .i32 (x:Int)] (.bool (q x))) :
  FnV Tryz.prog 83 [(.str s),(.int .i64 most),(.clo a)] (.bool (G7 s most q)):=by
 refine A3 [.tmp 6] Tryz.func83 rfl Tryz.ntmps83 rfl rfl (fun B F hF=>?_);refine Aa [] [0,1,5] ?_;refine Ab (An ?_)
 obtain⟨b2,hb2⟩:∃b,b=(decide ((s.length:Int)≤most)):=⟨_,rfl⟩
 refine Bm 7 0 [12,13] [11,12,13] [] hk0 (vk 5 11 (a:=.bool (decide ((s.length:Int)≤most))) (b:=.bool b2) (Imp.of_eq (by rw[hb2]))<|v0) c0 ?_;refine W1 (s':=[(11,(.bool b2)),(12,(.cond b2 (.str s))),(13,(.cond b2 (.fn 85 [] [(.ptr 0 0)]))),(14,(.cond b2 (.int .i64 (Lib.idxFunc (fun x => !q x) true ⟨s.toArray⟩))))]) (q:=b2) (al:=[(.str s),(.fn 85 [] [(.ptr 0 0)])]) (al':=[(.str s),(.fn 85 [] [(.fp (.agg [(.clo a)]))])]) (h':=[]) (r:=(.int .i64 (Lib.idxFunc (fun x => !q x) true ⟨s.toArray⟩))) (by kernel_rfl) (by exact Vq) (by kernel_rfl) (Rn (some (b2=true∧b2=true)) (by kernel_rfl) fun cg=>hold (by(simp;omega))) (by kernel_rfl) (fun cg=>Q7l s 85 [.fp (.agg [.clo a])] (fun x => !q x) (by exact X6i) rfl (fun x hx=>X22 x a q hx ha)) rfl (by kernel_rfl) ?_
 obtain⟨b3,hb3⟩:∃b,b=(b2&&(decide ((Lib.idxFunc (fun x => !q x) true ⟨s.toArray⟩) < 0))):=⟨_,rfl⟩
 refine Av (CS:=[(8,(b2=true→b2=true)),(9,(b2=true→b2=true))]) 8 [15] [6] [] hk0 (vk 10 16 (a:=.bool (b2&&(decide ((Lib.idxFunc (fun x => !q x) true ⟨s.toArray⟩) < 0)))) (b:=.bool b3) (Imp.of_eq (by rw[hb3]))<|v0) (by refine cc _ ?_<|cc _ ?_ c0<;>simp) ?_;refine Ae (RK wR [(.bool b3)] ?_);subst hb3 hb2;exact Same.of_eq (by first|rfl|(simp only[Af];simp_all))
theorem X5v (s:List UInt8) (hl:s.length≤9223372036854775807) :
  FnV Tryz.prog 89 [(.str s)] (.bool (!Iy s)):=by
 refine A3 [.tmp 2] Tryz.func89 rfl Tryz.ntmps89 rfl rfl (fun B F hF=>?_);refine Aa [] [0] ?_;refine Ad (CS:=[(5,(!(!(A2 s 47)))=true→(!(!(A2 s 47)))=true),(6,((!(!(A2 s 47)))=true→(!(!(A2 s 47)))=true)),(7,((!(A2 s 47))=false→(!(!(A2 s 47)))=true))]) [7,9] [2] [] (hk 1 Kq (L6 s 47 hl)<|hkg 5 (!(!(A2 s 47))) Ks (fun cg=>Nx s hl)<|hk0) v0 (by refine cc _ ?_<|cc _ ?_<|cc _ ?_ c0<;>simp) ?_;refine Ae (RK wR [(.bool ((!(A2 s 47))||(!(Bh s))))] ?_);exact Same.of_eq (by simp only[Af];congr 1;unfold Iy;cases A2 s 47<;>cases Bh s<;>rfl)
theorem Y3z (p:PkgT) (hs:p.size≤4194304) :
  FnV Tryz.prog 40 [(Ar p)] (.int .i64 (D2 p)):=by
 have hsz:=p.sizes;have hfl:=Kp p.files;refine A3 [.tmp 2] Tryz.func40 rfl Tryz.ntmps40 rfl rfl (fun B F hF=>?_);refine Ad [] [1] [(1,1)] hk0 v0 c0 ?_;refine Aa [] [1,3] ?_;refine Aa [] [1,3,4] ?_;refine Aa [] [1,3,4,5] ?_;refine Ad [] [1,3,4,5,7] [(8,6)] (hk 2 O9 (R8 p.evr (by omega))<|hk0) v0 c0 ?_;refine Ab ?_;refine Az (Ad [] [1,3,4,5,7,14] [] (hk 2 Ks (Nx p.name (by omega))<|hk0) v0 c0 ?_);refine A5 (q:=!(Bh p.name)) (by kernel_rfl) (fun c1=>?_) (fun c1=>?_)
 ·try simp only[Ai] at c1
  refine Aa [] [2] ?_;refine Ae (RK wR [(.int .i64 60)] ?_);refine Same.of_eq ?_;simp only[Af];congr 1;rw[←Lg];unfold Jn;simp_all
 ·try simp only[Ai] at c1
  refine Aa [] [1,3,4,5,19] ?_;refine Cr (p:=(B6 p.evr)=0) (by kernel_rfl) (fun c2=>?_) (fun c2=>?_)
  ·refine Aa [] [2] ?_;refine Ae (RK wR [(.int .i64 61)] ?_);refine Same.of_eq ?_;simp only[Af];congr 1;rw[←Lg];unfold Jn;simp_all
  ·refine Ab (An ?_)
   obtain⟨b2,hb2⟩:∃b,b=(decide (p.arch=[])):=⟨_,rfl⟩
   refine Bm 8 0 [27,28,29,30] [1,4,5,26,27,29,30] [] hk0 (vk 4 26 (a:=.bool (decide (p.arch=[]))) (b:=.bool b2) (Imp.of_eq (by rw[hb2]))<|v0) (cc 6 (p:=((!b2)=true→(!b2)=true)) (by simp)<|c0) ?_;refine Y2m (s':=[(1,(.fp (Ar p))),(4,(.fn 82 [] [])),(5,(.fn 83 [] [])),(26,(.bool b2)),(27,(.cond (!b2) (.fn 83 [] []))),(29,(.cond (!b2) (.str p.arch))),(30,(.cond (!b2) (.fn 81 [] []))),(31,(.cond (!b2) (.bool (G7 p.arch 20 Fq))))]) (q:=!b2) (al:=[(.str p.arch),(.int .i64 20),(.fn 81 [] [])]) (f:=83) (cap:=[]) (r:=(.bool (G7 p.arch 20 Fq))) (by kernel_rfl) (fun cg => .inr ⟨!b2,by kernel_rfl,by first|exact cg|simp_all⟩) (by exact Q3r) (by kernel_rfl) (Rn (some ((!b2)=true∧(!b2)=true)) (by kernel_rfl) fun cg=>hold (by(intros;simp_all;done))) (by kernel_rfl) (fun cg=>(Q6e p.arch 20 (.fn 81 [] []) Fq (by omega) (fun x _=>FunV.of (by exact X6k) (Q9k x))).of_args (ImpL.cons Imp.refl (ImpL.cons Imp.refl (ImpL.cons (Imp.clo rfl) ImpL.nil)))) (by kernel_rfl) ?_;refine Av (CS:=[(9,((!b2)=true→(!b2)=true)),(10,(b2=false→(!b2)=true))]) 9 [32] [1,4,5,22] [] hk0 v0 (by refine cc _ ?_<|cc _ ?_ c0<;>simp) ?_;refine A5 (q:=b2||(!(G7 p.arch 20 Fq))) (by kernel_rfl) (fun c3=>?_) (fun c3=>?_)
   ·subst hb2
    try simp only[Ai] at c3
    refine Aa [] [2] ?_;refine Ae (RK wR [(.int .i64 62)] ?_);refine Same.of_eq ?_;simp only[Af];congr 1;rw[←Lg];unfold Jn;simp_all
   ·subst hb2
    try simp only[Ai] at c3
    refine Ab ?_;refine An (Bm 4 0 [] [1,35,37,38] [] hk0 v0 c0 ?_);refine Y2n (f:=83) (cap:=[]) (s':=[(1,(.fp (Ar p))),(35,(.fn 83 [] [])),(37,(.str p.vendor)),(38,(.fn 82 [] [])),(39,(.bool (G7 p.vendor 60 Fu)))]) (al:=[(.str p.vendor),(.int .i64 60),(.fn 82 [] [])]) (r:=(.bool (G7 p.vendor 60 Fu))) (by kernel_rfl) (by kernel_rfl) (by exact Q3r) (by kernel_rfl) (by kernel_rfl) ((Q6e p.vendor 60 (.fn 82 [] []) Fu (by omega) (fun x _=>FunV.of (by exact X6j) (Q90 x))).of_args (ImpL.cons Imp.refl (ImpL.cons Imp.refl (ImpL.cons (Imp.clo rfl) ImpL.nil)))) (by kernel_rfl) ?_;refine Av 5 [] [1,34] [] hk0 v0 c0 ?_;refine A5 (q:=!(G7 p.vendor 60 Fu)) (by kernel_rfl) (fun c4=>?_) (fun c4=>?_)
    ·try simp only[Ai] at c4
     refine Aa [] [2] ?_;refine Ae (RK wR [(.int .i64 63)] ?_);refine Same.of_eq ?_;simp only[Af];congr 1;rw[←Lg];unfold Jn;simp_all
    ·try simp only[Ai] at c4
     refine Ad [] [1,41] [] (hk 1 X6h (X84 p (by omega))<|hk0) v0 c0 ?_;refine A5 (q:=!(Gl p)) (by kernel_rfl) (fun c5=>?_) (fun c5=>?_)
     ·try simp only[Ai] at c5
      refine Aa [] [2] ?_;refine Ae (RK wR [(.int .i64 64)] ?_);refine Same.of_eq ?_;simp only[Af];congr 1;rw[←Lg];unfold Jn;simp_all
     ·try simp only[Ai] at c5
      obtain⟨b3,hb3⟩:∃b,b=(decide (16 < (p.files.length:Int))):=⟨_,rfl⟩
      refine Ad (CS:=[(6,((!b3)=true→(!b3)=true)),(7,(!b3)=true→(!b3)=true),(8,(b3=false→(!b3)=true))]) [51,52] [45] [] (hkg 7 (!b3) (al:=[(B3 p.files),(.fn 89 [] [])]) X6g (fun cg=>(Q86 p.files (.fn 89 [] []) (fun x => !Iy x) (by omega) (fun i hi=>FunV.of (by exact X6f) (X5v (nth p.files i) (by have:=Vm hi;omega)))).of_args (ImpL.cons Imp.refl (ImpL.cons (Imp.clo rfl) ImpL.nil)))<|hk0) (vk 5 50 (a:=.bool (decide (16 < (p.files.length:Int)))) (b:=.bool b3) (Imp.of_eq (by rw[hb3]))<|v0) (by refine cc _ ?_<|cc _ ?_<|cc _ ?_ c0<;>simp) ?_;refine A5 (q:=b3||(Sr p.files)) (by kernel_rfl) (fun c6=>?_) (fun c6=>?_)
      ·subst hb3
       try simp only[Ai] at c6
       refine Aa [] [2] ?_;refine Ae (RK wR [(.int .i64 65)] ?_);refine Same.of_eq ?_;simp only[Af];congr 1;rw[←Lg];unfold Jn;simp_all
      ·subst hb3
       try simp only[Ai] at c6
       refine Ag (Aa [] [2] ?_);refine Ae (RK wR [(.int .i64 0)] ?_);refine Same.of_eq ?_;simp only[Af];congr 1;rw[←Lg];unfold Jn;simp_all
theorem X07 (s:List UInt8) (hl:s.length≤9223372036854775807) :
  FnV Tryz.prog 92 [(.str s)] (.bool (Kw s)):=by
 refine A3 [.tmp 2] Tryz.func92 rfl Tryz.ntmps92 rfl rfl (fun B F hF=>?_);refine Aa [] [0] ?_;refine Ab (Aa [] [0,3] ?_);refine Az (Bx (fun g y=>∃(i:Nat),i≤s.length∧(∀j,j < i→Fq (Ac s j).toNat=true)∧y=⟨[(0,(.str s)),(3,(.int .i64 ((i:Int))))],[],0⟩∧g=s.length-i) [0,3] 0 _ (by omega) ⟨0,(by omega),(by exact fun j hj=>by omega),(by kernel_rfl),rfl⟩ ?_);rintro g1 y1 ⟨i,f1_1,f1_2,rfl,rfl⟩;refine Ab (Aa [] [0,3,8] ?_);refine Ax (p:=(i:Int) < (s.length:Int)) (by kernel_rfl) (fun c1=>?_) (fun c1=>?_)
 ·refine Ag (Ab ?_);refine Az (Ad [] [0,3,4] [] hk0 v0 (cc 2 (p:=(0≤(i:Int)∧i < s.length)) (by omega)<|c0) ?_)
  obtain⟨b1,hb1⟩:∃b,b=(decide (((Ac s i).toNat:Int) < 97)):=⟨_,rfl⟩
  obtain⟨b2,hb2⟩:∃b,b=(b1||(decide (122 < ((Ac s i).toNat:Int)))):=⟨_,rfl⟩
  obtain⟨b3,hb3⟩:∃b,b=(b2&&((decide (((Ac s i).toNat:Int) < 48))||(decide (57 < ((Ac s i).toNat:Int))))):=⟨_,rfl⟩
  refine Ad (CS:=[(4,((!b1)=true→(!b1)=true)),(5,(b1=false→(!b1)=true)),(8,(b2=true→b2=true)),(9,(b2=true→b2=true)),(11,((b2&&(!(decide (((Ac s i).toNat:Int) < 48))))=true→(b2&&(!(decide (((Ac s i).toNat:Int) < 48))))=true)),(12,(b2=true→(b2=true)∧((decide (((Ac s i).toNat:Int) < 48))=false→(b2&&(!(decide (((Ac s i).toNat:Int) < 48))))=true))),(13,(b2=true→b2=true)),(16,(b3=true→b3=true)),(17,(b3=true→b3=true))]) [17,18,21,22,23,24,25,26,29,30] [0,3,31] [] hk0 (vk 3 16 (a:=.bool (decide (((Ac s i).toNat:Int) < 97))) (b:=.bool b1) (Imp.of_eq (by rw[hb1]))<|vk 6 19 (a:=.bool (b1||(decide (122 < ((Ac s i).toNat:Int))))) (b:=.bool b2) (Imp.of_eq (by rw[hb2]))<|vk 14 27 (a:=.bool (b2&&((decide (((Ac s i).toNat:Int) < 48))||(decide (57 < ((Ac s i).toNat:Int)))))) (b:=.bool b3) (Imp.of_eq (by rw[hb3]))<|v0) (by refine cc _ ?_<|cc _ ?_<|cc _ ?_<|cc _ ?_<|cc _ ?_<|cc _ ?_<|cc _ ?_<|cc _ ?_<|cc _ ?_ c0<;>(intros;simp_all;done)) ?_;refine A5 (q:=b3&&(!decide (((Ac s i).toNat:Int)=95))) (by kernel_rfl) (fun c2=>?_) (fun c2=>?_)
  ·subst hb3 hb2 hb1
   try simp only[Ai] at c2
   refine Aa [] [2] ?_;refine Ae (RK wR [(.bool false)] ?_);refine Same.of_eq ?_;have:s.all (fun b=>Fq b.toNat)=false:=Q6h (i:=i) (by omega) (by unfold Fq;simp only[Bool.and_eq_false_iff,Bool.or_eq_false_iff,decide_eq_false_iff_not];omega);unfold Kw;rw[this,Bool.and_false];rfl
  ·subst hb3 hb2 hb1
   try simp only[Ai] at c2
   refine Ag ?_;refine An (Av 0 [] [0,3] [] hk0 v0 (cc 1 (p:=(-9223372036854775808≤(i:Int)+1∧(i:Int)+1≤9223372036854775807)) (by omega)<|c0) ?_);refine⟨by kernel_rfl,_,?_,i+1,?_,?_,(by kernel_rfl),rfl⟩
   ·omega
   ·omega
   ·intro j hj;by_cases h:j=i
    ·subst h;unfold Fq;simp only[Bool.and_eq_true,Bool.or_eq_true,decide_eq_true_eq];omega
    ·exact f1_2 j (by omega)
 ·refine Bp ?_
  obtain⟨b4,hb4⟩:∃b,b=(decide (1≤(s.length:Int))):=⟨_,rfl⟩
  refine Ad (CS:=[(5,(b4=true→b4=true)),(6,(b4=true→b4=true)),(7,(b4=true→b4=true))]) [36,37,38] [2] [] hk0 (vk 4 35 (a:=.bool (decide (1≤(s.length:Int)))) (b:=.bool b4) (Imp.of_eq (by rw[hb4]))<|v0) (by refine cc _ ?_<|cc _ ?_<|cc _ ?_ c0<;>simp) ?_;refine Ae (RK wR [(.bool (b4&&(decide ((s.length:Int)≤20))))] ?_);subst hb4;refine Same.of_eq ?_;simp only[Af];congr 1;unfold Kw;rw[Q6g (by omega) f1_2,show decide ((1:Int)≤(s.length:Int))=decide (1≤s.length) from decide_eq_decide.2 (by omega),show decide ((s.length:Int)≤20)=decide (s.length≤20) from decide_eq_decide.2 (by omega)];simp
theorem X0y (s:List UInt8) (hl:s.length≤9223372036854775807) :
  FnV Tryz.prog 93 [(.str s)] (.bool (H0 s)):=by
 refine A3 [.tmp 2] Tryz.func93 rfl Tryz.ntmps93 rfl rfl (fun B F hF=>?_);refine Aa [] [0] ?_;refine Ab (Aa [] [0,3] ?_);refine Az (Bx (fun g y=>∃(i:Nat),i≤s.length∧(∀j,j < i→Fu (Ac s j).toNat=true)∧y=⟨[(0,(.str s)),(3,(.int .i64 ((i:Int))))],[],0⟩∧g=s.length-i) [0,3] 0 _ (by omega) ⟨0,(by omega),(by exact fun j hj=>by omega),(by kernel_rfl),rfl⟩ ?_);rintro g1 y1 ⟨i,f1_1,f1_2,rfl,rfl⟩;refine Ab (Aa [] [0,3,7] ?_);refine Ax (p:=(i:Int) < (s.length:Int)) (by kernel_rfl) (fun c1=>?_) (fun c1=>?_)
 ·refine Ag ?_;refine Ab (Az ?_)
  obtain⟨b1,hb1⟩:∃b,b=(decide (((Ac s i).toNat:Int) < 32)):=⟨_,rfl⟩
  refine Ad (CS:=[(2,(0≤(i:Int)∧i < s.length)),(7,((!b1)=true→((!b1)=true∧(!b1)=true)∧(0≤(i:Int)∧i < s.length))),(8,((!b1)=true→(!b1)=true)),(9,(b1=false→(!b1)=true))]) [15,16,17,18] [0,3,19] [] hk0 (vk 5 14 (a:=.bool (decide (((Ac s i).toNat:Int) < 32))) (b:=.bool b1) (Imp.of_eq (by rw[hb1]))<|v0) (by refine cc _ ?_<|cc _ ?_<|cc _ ?_<|cc _ ?_ c0<;>(intros;simp_all;done)) ?_;refine A5 (q:=b1||(decide (126 < ((Ac s i).toNat:Int)))) (by kernel_rfl) (fun c2=>?_) (fun c2=>?_)
  ·subst hb1
   try simp only[Ai] at c2
   refine Aa [] [2] ?_;refine Ae (RK wR [(.bool false)] ?_);refine Same.of_eq ?_;have:s.all (fun b=>Fu b.toNat)=false:=Q6h (i:=i) (by omega) (by unfold Fu;simp only[Bool.and_eq_false_iff,Bool.or_eq_false_iff,decide_eq_false_iff_not];omega);unfold H0;rw[this];rfl
  ·subst hb1
   try simp only[Ai] at c2
   refine Ag ?_;refine An (Av 0 [] [0,3] [] hk0 v0 (cc 1 (p:=(-9223372036854775808≤(i:Int)+1∧(i:Int)+1≤9223372036854775807)) (by omega)<|c0) ?_);refine⟨by kernel_rfl,_,?_,i+1,?_,?_,(by kernel_rfl),rfl⟩
   ·omega
   ·omega
   ·intro j hj;by_cases h:j=i
    ·subst h;unfold Fu;simp only[Bool.and_eq_true,Bool.or_eq_true,decide_eq_true_eq];omega
    ·exact f1_2 j (by omega)
 ·refine Bp (Aa [] [2] ?_);refine Ae (RK wR [(.bool true)] ?_);exact Same.of_eq (by unfold H0;rw[Q6g (by omega) f1_2];rfl)
theorem X03 (l:List (List UInt8)) (hl:Hp l≤4194304) :
  FnV Tryz.prog 95 [(B3 l)] (.bool (Jx l)):=by
 have hfl:=Kp l;refine A3 [.tmp 2] Tryz.func95 rfl Tryz.ntmps95 rfl rfl (fun B F hF=>?_);refine Aa [] [0] ?_;refine Ab (Aa [] [0,7] ?_);refine Ax (p:=16 < (l.length:Int)) (by kernel_rfl) (fun c1=>?_) (fun c1=>?_)
 ·refine Aa [] [2] ?_;refine Ae (RK wR [(.bool false)] ?_);exact Same.of_eq (by unfold Jx;rw[decide_eq_false (by omega)];rfl)
 ·refine Ag ?_;refine Ab (Aa [] [0,3] ?_);refine Az (Bx (fun g y=>∃(i:Nat),i≤l.length∧(∀j,j < i→Iy (nth l j)=true)∧y=⟨[(0,(B3 l)),(3,(.int .i64 ((i:Int))))],[],0⟩∧g=l.length-i) [0,3] 0 _ (by omega) ⟨0,(by omega),(by exact fun j hj=>by omega),(by kernel_rfl),rfl⟩ ?_);rintro g1 y1 ⟨i,f1_1,f1_2,rfl,rfl⟩;refine Ab (Aa [] [0,3,11] ?_);refine Ax (p:=(i:Int) < (l.length:Int)) (by kernel_rfl) (fun c2=>?_) (fun c2=>?_)
  ·refine Ag (Ab ?_);refine Az (Ad [] [0,3,4] [] (hk 4 Ls (Mm (nth l i) (by have:=Vm (l:=l) (i:=i) (by omega);omega))<|hk0) v0 (cc 2 (p:=(0≤(i:Int)∧i < l.length)) (by omega)<|c0) ?_)
   have qh1:(((!(!(Bh (nth l i))))=true→((!(!(Bh (nth l i))))=true∧(!(!(Bh (nth l i))))=true)∧(0≤(i:Int)∧i < l.length)))∧(((!(!(Bh (nth l i))))=true→(!(!(Bh (nth l i))))=true))∧(((!(!(Bh (nth l i))))=true→((!(!(Bh (nth l i))))=true)∧(0≤(0:Int)∧0 < (nth l i).length)))∧(((!(!(Bh (nth l i))))=true→(!(!(Bh (nth l i))))=true))∧(((!(Bh (nth l i)))=false→(!(!(Bh (nth l i))))=true)):=by
    have hp:=fun h=>X3l (l:=nth l i) h;simp only[Bool.not_not,Bool.not_eq_false'];exact⟨fun hq=>⟨⟨hq,hq⟩,by omega,by omega⟩,fun hq=>hq,fun hq=>⟨hq,by omega,hp hq⟩,fun hq=>hq,fun hq=>hq⟩
   refine Ad [22,23,24,25,26,27] [0,3,28] [] hk0 v0 (cc 5 (p:=((!(!(Bh (nth l i))))=true→((!(!(Bh (nth l i))))=true∧(!(!(Bh (nth l i))))=true)∧(0≤(i:Int)∧i < l.length))) qh1.1<|cc 6 (p:=((!(!(Bh (nth l i))))=true→(!(!(Bh (nth l i))))=true)) qh1.2.1<|cc 7 (p:=((!(!(Bh (nth l i))))=true→((!(!(Bh (nth l i))))=true)∧(0≤(0:Int)∧0 < (nth l i).length))) qh1.2.2.1<|cc 8 (p:=((!(!(Bh (nth l i))))=true→(!(!(Bh (nth l i))))=true)) qh1.2.2.2.1<|cc 9 (p:=((!(Bh (nth l i)))=false→(!(!(Bh (nth l i))))=true)) qh1.2.2.2.2<|c0) ?_;refine A5 (q:=(!(Bh (nth l i)))||(!decide (((Ac (nth l i) 0).toNat:Int)=47))) (by kernel_rfl) (fun c3=>?_) (fun c3=>?_)
   ·try simp only[Ai] at c3
    refine Aa [] [2] ?_;refine Ae (RK wR [(.bool false)] ?_);refine Same.of_eq ?_;unfold Jx
    have:l.all Iy=false:=by
     cases hq:l.all Iy with
     |false=>rfl
     |true=>have h1:=all_nth.1 hq i (by omega);rw[Q3h] at h1;simp_all
    rw[this,Bool.and_false];rfl
   ·try simp only[Ai] at c3
    refine Ag ?_;refine An (Av 0 [] [0,3] [] hk0 v0 (cc 1 (p:=(-9223372036854775808≤(i:Int)+1∧(i:Int)+1≤9223372036854775807)) (by omega)<|c0) ?_);refine⟨by kernel_rfl,_,?_,i+1,?_,?_,(by kernel_rfl),rfl⟩
    ·omega
    ·omega
    ·intro j hj;by_cases h:j=i
     ·subst h;rw[Q3h];simp_all
     ·exact f1_2 j (by omega)
  ·refine Bp (Aa [] [2] ?_);refine Ae (RK wR [(.bool true)] ?_);exact Same.of_eq (by unfold Jx;rw[all_nth.2 (fun j hj=>f1_2 j (by omega)),decide_eq_true (by omega)];rfl)
theorem X05 (p:PkgT) (hs:p.size≤4194304) :
  FnV Tryz.prog 41 [(Ar p)] (.int .i64 (D2 p)):=by
 have hsz:=p.sizes;refine A3 [.tmp 2] Tryz.func41 rfl Tryz.ntmps41 rfl rfl (fun B F hF=>?_);refine Ad [] [1] [(1,1)] hk0 v0 c0 ?_;refine Ad [] [1,3] [] (hk 2 Ls (Mm p.name (by omega))<|hk0) v0 c0 ?_;refine Ab (Aa [] [1,14] ?_);refine A5 (q:=!(Bh p.name)) (by kernel_rfl) (fun c1=>?_) (fun c1=>?_)
 ·try simp only[Ai] at c1
  refine Aa [] [2] ?_;refine Ae (RK wR [(.int .i64 60)] ?_);refine Same.of_eq ?_;simp only[Af];congr 1;rw[←Lf];unfold Jm;simp_all
 ·try simp only[Ai] at c1
  refine Ag (Ad [] [1,5] [(8,4)] (hk 2 O8 (Qy p.evr (by omega))<|hk0) v0 c0 ?_);refine Ab (Aa [] [1,22] ?_);refine Cr (p:=(B6 p.evr)=0) (by kernel_rfl) (fun c2=>?_) (fun c2=>?_)
  ·refine Aa [] [2] ?_;refine Ae (RK wR [(.int .i64 61)] ?_);refine Same.of_eq ?_;simp only[Af];congr 1;rw[←Lf];unfold Jm;simp_all
  ·refine Ag (Ad [] [1,6] [] (hk 2 X6d (X07 p.arch (by omega))<|hk0) v0 c0 ?_);refine Ab (Aa [] [1,27] ?_);refine A5 (q:=!(Kw p.arch)) (by kernel_rfl) (fun c3=>?_) (fun c3=>?_)
   ·try simp only[Ai] at c3
    refine Aa [] [2] ?_;refine Ae (RK wR [(.int .i64 62)] ?_);refine Same.of_eq ?_;simp only[Af];congr 1;rw[←Lf];unfold Jm;simp_all
   ·try simp only[Ai] at c3
    refine Ag (Ad [] [1,7] [] (hk 2 X6c (X0y p.vendor (by omega))<|hk0) v0 c0 ?_);refine Ab ?_
    obtain⟨b1,hb1⟩:∃b,b=(!(H0 p.vendor)):=⟨_,rfl⟩
    refine Ad (CS:=[(4,((!b1)=true→(!b1)=true)),(5,((!b1)=true→(!b1)=true)),(6,((!b1)=true→(!b1)=true)),(7,(b1=false→(!b1)=true))]) [34,35,36,37] [1,38] [] hk0 (vk 3 33 (a:=.bool (!(H0 p.vendor))) (b:=.bool b1) (Imp.of_eq (by rw[hb1]))<|v0) (by refine cc _ ?_<|cc _ ?_<|cc _ ?_<|cc _ ?_ c0<;>simp) ?_;refine A5 (q:=b1||(decide (60 < (p.vendor.length:Int)))) (by kernel_rfl) (fun c4=>?_) (fun c4=>?_)
    ·subst hb1
     try simp only[Ai] at c4
     refine Aa [] [2] ?_;refine Ae (RK wR [(.int .i64 63)] ?_);refine Same.of_eq ?_;simp only[Af];congr 1;rw[←Lf];unfold Jm;simp_all
    ·subst hb1
     try simp only[Ai] at c4
     refine Ag (Ad [] [1,8] [] (hk 1 X6b (X04 p (by omega))<|hk0) v0 c0 ?_);refine Ab (Aa [] [1,42] ?_);refine A5 (q:=!(Gl p)) (by kernel_rfl) (fun c5=>?_) (fun c5=>?_)
     ·try simp only[Ai] at c5
      refine Aa [] [2] ?_;refine Ae (RK wR [(.int .i64 64)] ?_);refine Same.of_eq ?_;simp only[Af];congr 1;rw[←Lf];unfold Jm;simp_all
     ·try simp only[Ai] at c5
      refine Ag (Ad [] [9] [] (hk 2 X6a (X03 p.files (by omega))<|hk0) v0 c0 ?_);refine Ab (Aa [] [47] ?_);refine A5 (q:=!(Jx p.files)) (by kernel_rfl) (fun c6=>?_) (fun c6=>?_)
      ·try simp only[Ai] at c6
       refine Aa [] [2] ?_;refine Ae (RK wR [(.int .i64 65)] ?_);refine Same.of_eq ?_;simp only[Af];congr 1;rw[←Lf];unfold Jm;simp_all
      ·try simp only[Ai] at c6
       refine Ag (Aa [] [2] ?_);refine Ae (RK wR [(.int .i64 0)] ?_);refine Same.of_eq ?_;simp only[Af];congr 1;rw[←Lf];unfold Jm;simp_all
end Sv
end
section
open Go Go.RowKit
namespace Sv
attribute [local irreducible] SW SO Bk
set_option maxHeartbeats 1000000
set_option maxRecDepth 100000
theorem X7p:Ak Tryz.prog 19:=Ao Tryz.func19 (by kernel_rfl) rfl
theorem X7d:Ak Tryz.prog 38:=Ao Tryz.func38 (by kernel_rfl) rfl
theorem X7c:Ak Tryz.prog 39:=Ao Tryz.func39 (by kernel_rfl) rfl
noncomputable def Bd (r:RepoT):AV:=.agg [.str r.name,.int .i64 r.prio,.bool r.inst,.nils]
noncomputable def Be (k:PkgT × Int):AV:=.agg [.str k.1.name,.str k.1.evr,.str k.1.arch,.str k.1.vendor,Dk k.1.provides,Dk k.1.requires,Dk k.1.pre,Dk k.1.conflicts,Dk k.1.obsoletes,Dk k.1.recommends,Dk k.1.supplements,B3 k.1.files,.int .i64 k.2]
structure PoolT where
 kind:Int
 repos:List RepoT
 all:List (PkgT × Int)
 deriving Inhabited
def Nh (l:List PkgT):Int:=match l.find? (fun p=>decide (D2 p≠0)) with
 |some p=>D2 p
 |none=>0
def Cm (st:PoolT) (r:RepoT):Int :=
 if Bh r.name=false∨st.repos.any (fun o=>decide (o.name=r.name))=true then 66
 else if r.inst=true∧st.repos.any (fun o=>o.inst)=true then 67
 else if 8≤st.repos.length∨200 < st.all.length+r.pkgs.length then 68
 else Nh r.pkgs
def Aw (st:PoolT) (r:RepoT) (i:Nat):List (PkgT × Int):=st.all++(r.pkgs.take i).map fun p=>(p,(st.repos.length:Int))
def Ci (st:PoolT) (r:RepoT):PoolT:=if Cm st r=0 then ⟨st.kind,st.repos++[r],Aw st r r.pkgs.length⟩ else st
def Oj (l:List (PkgT × Int)) (s:List UInt8):List Nat:=(List.range l.length).filter fun i=>decide ((nth l i).1.name=s)
noncomputable def Bb (l:List (PkgT × Int)) (s:List UInt8):List AV:=(Oj l s).map fun (i:Nat)=>AV.int .i64 (i:Int)
theorem J5 {st:PoolT} {r:RepoT} {e:Int} (h:Cm st r=e) (he:e≠0):Ci st r=st:=by unfold Ci;rw[if_neg (by rw[h];exact he)]
theorem Q3e {l:List PkgT} (h:∀j,j < l.length→D2 (nth l j)=0):Nh l=0:=by
 unfold Nh;rw[List.find?_eq_none.2];intro x hx;obtain⟨j,hj,rfl⟩:=List.getElem_of_mem hx;have:=h j hj;simpa [nth,hj] using this
theorem Vj:∀{l:List PkgT} {i:Nat},i < l.length→(∀j,j < i→D2 (nth l j)=0)→D2 (nth l i)≠0→Nh l=D2 (nth l i)
 |[],_,h,_,_=>by simp at h
 |x::r,0,_,_,h=>by
  have h:D2 x≠0:=h;unfold Nh;rw[List.find?_cons_of_pos (by simpa using h)];rfl
 |x::r,i+1,hi,h,hp=>by
  have h0:D2 x=0:=h 0 (by omega);have:=Vj (l:=r) (i:=i) (by simpa using hi) (fun j hj=>h (j+1) (by omega)) hp;unfold Nh at this ⊢;rw[List.find?_cons_of_neg (by simp[h0])];exact this
theorem X4m {st:PoolT} {r:RepoT} {i:Nat} (h:i < r.pkgs.length):Aw st r (i+1)=Aw st r i++[(nth r.pkgs i,(st.repos.length:Int))]:=by
 unfold Aw;rw[List.take_add_one,List.getElem?_eq_getElem h,List.map_append,List.append_assoc];simp[nth,h]
theorem X4n {st:PoolT} {r:RepoT} {i:Nat}:(Aw st r i).length≤st.all.length+i:=by unfold Aw;simp;omega
theorem Q1c (l:List (PkgT × Int)) (k:PkgT × Int):D0 (Bb l) k.1.name (Bb l k.1.name++[.int .i64 (l.length:Int)])=Bb (l++[k]):=by
 funext s
 have e:Oj (l++[k]) s=Oj l s++(if k.1.name=s then [l.length] else []):=by
  unfold Oj;rw[List.length_append,List.length_singleton,List.range_succ,List.filter_append];congr 1
  ·refine List.filter_congr fun i hi=>?_
   have:i < l.length:=by simpa using hi
   have:nth (l++[k]) i=nth l i:=by simp[nth,List.getElem?_append_left this]
   rw[this]
  ·have:nth (l++[k]) l.length=k:=by simp[nth]
   by_cases h:k.1.name=s<;>simp[this,h]
 unfold D0 Bb;rw[e];by_cases h:s=k.1.name
 ·subst h;rw[if_pos rfl,if_pos rfl,List.map_append];rfl
 ·rw[if_neg h,if_neg (fun q=>h q.symm),List.append_nil]
theorem X3g (l:List (PkgT × Int)) (s:List UInt8):(Bb l s).length≤l.length:=by
 unfold Bb Oj;rw[List.length_map];exact Nat.le_trans (List.length_filter_le _ _) (by simp)
theorem X0s (l:List RepoT) (a:AV) (p:RepoT→Bool) (hl:l.length≤4611686018427387904) (ha:∀i,i < l.length→FunV Tryz.prog a [(.agg [(.str ((nth l i).name)),(.int .i64 ((nth l i).prio)),(.bool ((nth l i).inst)),.nils])] (.bool (p (nth l i)))) :
  FnV Tryz.prog 80 [(Aj 4 Bd l),(.clo a)] (.int .i64 (E2 p l)):=by
 refine A3 [.tmp 4] Tryz.func80 rfl Tryz.ntmps80 rfl rfl (fun B F hF=>?_);refine Aa [] [0,1] ?_;refine Ab (Aa [] [0,1,7,8] ?_);refine Az (Bx (fun g y=>∃(i:Nat),i≤l.length∧(∀j,j < i→p (nth l j)=false)∧y=⟨[(0,(Aj 4 Bd l)),(1,(.clo a)),(7,(.int .i64 ((l.length:Int)))),(8,(.int .i64 ((i:Int))))],[],0⟩∧g=l.length-i) [0,1,7,8] 0 _ (by omega) ⟨0,(by omega),(by exact fun j hj=>by omega),(by kernel_rfl),rfl⟩ ?_);rintro g1 y1 ⟨i,f1_1,f1_2,rfl,rfl⟩;refine Aa [] [0,1,7,8,9] ?_;refine Ab ?_;refine Ax (p:=(i:Int) < (l.length:Int)) (by kernel_rfl) (fun c1=>?_) (fun c1=>?_)
 ·refine Ag (Ab ?_);refine Az (Aa [] [0,1,5,7,8] ?_);refine Ab ?_;refine An (Bm 5 0 [] [0,1,5,7,8,11,15] [] hk0 v0 (cc 3 (p:=(0≤(i:Int)∧i < l.length)) (by omega)<|c0) ?_);refine Gn (s':=[(0,(Aj 4 Bd l)),(1,(.clo a)),(5,(.int .i64 ((i:Int)))),(7,(.int .i64 ((l.length:Int)))),(8,(.int .i64 ((i:Int)))),(11,(.clo a)),(15,(.agg [(.str ((nth l i).name)),(.int .i64 ((nth l i).prio)),(.bool ((nth l i).inst)),.nils])),(16,(.bool (p (nth l i))))]) (a:=(.clo a)) (al:=[(.agg [(.str ((nth l i).name)),(.int .i64 ((nth l i).prio)),(.bool ((nth l i).inst)),.nils])]) (r:=(.bool (p (nth l i)))) (by kernel_rfl) (by kernel_rfl) (by kernel_rfl) (by kernel_rfl) (by kernel_rfl) ((ha i (by omega)).clo) (by kernel_rfl) ?_;refine Br ?_;refine A5 (q:=p (nth l i)) (by kernel_rfl) (fun c2=>?_) (fun c2=>?_)
  ·try simp only[Ai] at c2
   refine Aa [] [4] ?_;refine Ae (RK wR [(.int .i64 ((i:Int)))] ?_);exact Same.of_eq (by rw[M7 (by omega) f1_2 (by simp_all)];rfl)
  ·try simp only[Ai] at c2
   refine Ag ?_;refine An (Av 0 [] [0,1,7,8] [] hk0 v0 (cc 0 (p:=(-9223372036854775808≤(i:Int)+1∧(i:Int)+1≤9223372036854775807)) (by omega)<|c0) ?_);refine⟨by kernel_rfl,_,?_,i+1,?_,?_,(by kernel_rfl),rfl⟩
   ·omega
   ·omega
   ·intro j hj;by_cases h:j=i
    ·subst h;simp_all
    ·exact f1_2 j (by omega)
 ·refine Bp (Aa [] [4] ?_);refine Ae (RK wR [(.int .i64 (-1))] ?_);exact Same.of_eq (by rw[M6 (fun j hj=>f1_2 j (by omega))];rfl)
theorem Y9 (l:List RepoT) (a:AV) (p:RepoT→Bool) (hl:l.length≤4611686018427387904) (ha:∀i,i < l.length→FunV Tryz.prog a [(.agg [(.str ((nth l i).name)),(.int .i64 ((nth l i).prio)),(.bool ((nth l i).inst)),.nils])] (.bool (p (nth l i)))) :
  FnV Tryz.prog 37 [(Aj 4 Bd l),(.clo a)] (.bool (l.any p)):=by
 refine A3 [.tmp 4] Tryz.func37 rfl Tryz.ntmps37 rfl rfl (fun B F hF=>?_);refine Aa [] [0,1] ?_;refine Ad [] [4] [] (hk 2 X6l (X0s l a p hl ha)<|hk0) v0 c0 ?_;refine Ae (RK wR [(.bool (decide (0≤(E2 p l))))] ?_);exact Same.of_eq (by simp only[Af];rw[M8])
theorem Q97 (o r:RepoT) :
  FnV Tryz.prog 38 [(.agg [(.str o.name),(.int .i64 o.prio),(.bool o.inst),.nils]),(.fp (.agg [(.str r.name),(.int .i64 r.prio),(.bool r.inst),(Aj 12 Ar r.pkgs)]))] (.bool (decide (o.name=r.name))):=by
 refine A3 [.tmp 3] Tryz.func38 rfl Tryz.ntmps38 rfl rfl (fun B F hF=>?_);refine Ad [] [1,2] [(1,2)] hk0 v0 c0 ?_;refine Aa [] [3] ?_;refine Ae (RK wR [(.bool (decide (o.name=r.name)))] ?_);exact Same.of_eq (by first|rfl|(simp only[Af];simp_all))
theorem X4z (o:RepoT) :
  FnV Tryz.prog 39 [(.agg [(.str o.name),(.int .i64 o.prio),(.bool o.inst),.nils])] (.bool o.inst):=by
 refine A3 [.tmp 2] Tryz.func39 rfl Tryz.ntmps39 rfl rfl (fun B F hF=>?_);refine Ad [] [1] [(1,1)] hk0 v0 c0 ?_;refine Aa [] [2] ?_;refine Ae (RK wR [(.bool o.inst)] ?_);exact Same.of_eq (by first|rfl|(simp only[Af];simp_all))
theorem Y32 (st:PoolT) (r:RepoT) (hr:st.repos.length≤8) (ha:st.all.length≤200) (hn:r.name.length≤4194304) (hpl:r.pkgs.length≤4194304) (hp:∀i,i < r.pkgs.length→(nth r.pkgs i).size≤4194304) :
  F6 Tryz.prog 19 [(.ptr 0 0),(.agg [(.str r.name),(.int .i64 r.prio),(.bool r.inst),(Aj 12 Ar r.pkgs)])] [(0,(.row [(.int .i64 st.kind),(.own 1),(.own 2),(.map 3)] 75)),(1,(.grow (st.repos.map Bd) 59 4)),(2,(.grow (st.all.map Be) 78 13)),(3,(.mm (Bb st.all) none 3 1))] 4 (.int .i64 (Cm st r)) [(0,(.row [(.int .i64 ((Ci st r).kind)),(.own 1),(.own 2),(.map 3)] 75)),(1,(.grow ((Ci st r).repos.map Bd) 59 4)),(2,(.grow ((Ci st r).all.map Be) 78 13)),(3,(.mm (Bb (Ci st r).all) none 3 1))]:=by
 have hml:(st.repos.map Bd).length=st.repos.length:=List.length_map _;have hma:(st.all.map Be).length=st.all.length:=List.length_map _;refine L8 [.tmp 4] Tryz.func19 rfl Tryz.ntmps19 rfl rfl (by kernel_rfl) (by kernel_rfl) (by kernel_rfl) (fun B F hF=>?_);refine Aa [] [0,3] ?_;refine Ab ?_;refine Az (Aa [] [0,3,10] ?_);refine Du (by kernel_rfl) ?_;refine Ab (An ?_)
 obtain⟨b2,hb2⟩:∃b,b=(!(Bh r.name)):=⟨_,rfl⟩
 refine Bm (CS:=[(6,((!b2)=true→(!b2)=true)),(7,((!b2)=true→(!b2)=true)),(8,((!b2)=true→(!b2)=true))]) 10 0 [19,20,21,22,23] [0,3,18,22,23] [] (hk 2 Ks (Nx r.name (by omega))<|hk0) (vk 5 18 (a:=.bool (!(Bh r.name))) (b:=.bool b2) (Imp.of_eq (by rw[hb2]))<|v0) (by refine cc _ ?_<|cc _ ?_<|cc _ ?_ c0<;>simp) ?_
 refine W1 (s':=[(0,(.ptr 0 0)),(3,(.ptr 4 0)),(18,(.bool b2)),(22,(.cond (!b2) (.own 1))),(23,(.cond (!b2) (.fn 38 [] [(.ptr 4 0)]))),(24,(.cond (!b2) (.bool (st.repos.any (fun o=>decide (o.name=r.name))))))]) (q:=!b2) (al:=[(.own 1),(.fn 38 [] [(.ptr 4 0)])]) (al':=[(.row 4 (st.repos.map Bd).length (fun ix=>(st.repos.map Bd).getD ix Bn)),(.fn 38 [] [(.fp (.agg [(.str r.name),(.int .i64 r.prio),(.bool r.inst),(Aj 12 Ar r.pkgs)]))])]) (h':=[(0,(.row [(.int .i64 st.kind),(.own 1),(.own 2),(.map 3)] 75)),(2,(.grow (st.all.map Be) 78 13)),(3,(.mm (Bb st.all) none 3 1))]) (r:=(.bool (st.repos.any (fun o=>decide (o.name=r.name))))) (by kernel_rfl) (by exact Q30) (by kernel_rfl) (Rn (some ((!b2)=true∧(!b2)=true)) (by kernel_rfl) fun cg=>hold (by(intros;simp_all;done))) (by kernel_rfl) (fun cg=>(Y9 st.repos (.fn 38 [] [.fp (.agg [(.str r.name),(.int .i64 r.prio),(.bool r.inst),(Aj 12 Ar r.pkgs)])]) (fun o=>decide (o.name=r.name)) (by omega) (fun i hi=>FunV.of (by exact X7d) (Q97 (nth st.repos i) r))).of_args (ImpL.cons (Imp.list (f:=Bd) (List.length_map _)) (ImpL.cons (Imp.clo (by kernel_rfl)) ImpL.nil))) rfl (by kernel_rfl) ?_
 obtain⟨b3,hb3⟩:∃b,b=(b2||(st.repos.any (fun o=>decide (o.name=r.name)))):=⟨_,rfl⟩
 refine Av 11 [] [0,3,13] [] hk0 (vk 12 25 (a:=.bool (b2||(st.repos.any (fun o=>decide (o.name=r.name))))) (b:=.bool b3) (Imp.of_eq (by rw[hb3]))<|v0) (cc 11 (p:=(b2=false→(!b2)=true)) (by simp)<|c0) ?_;refine A5 (q:=b3) (by kernel_rfl) (fun c1=>?_) (fun c1=>?_)
 ·subst hb3 hb2
  try simp only[Ai] at c1
  refine Aa [] [4] ?_;refine Ae ?_;refine Ej (.inl rfl) (al:=[(.int .i64 66)]) (by kernel_rfl) ?_ ((by kernel_rfl:C6 4 _=some [(0,(.row [(.int .i64 st.kind),(.own 1),(.own 2),(.map 3)] 75)),(1,(.grow (st.repos.map Bd) 59 4)),(2,(.grow (st.all.map Be) 78 13)),(3,(.mm (Bb st.all) none 3 1))]).trans ?_)
  all_goals have hE:Cm st r=66:=by unfold Cm;rw[if_pos c1]
  ·rw[hE];rfl
  ·rw[J5 hE (by decide)]
 ·subst hb3 hb2
  try simp only[Ai] at c1
  refine Ab ?_;refine An (Bm (CS:=[(4,(r.inst=true→r.inst=true)),(5,(r.inst=true→r.inst=true)),(6,(r.inst=true→r.inst=true))]) 7 0 [30,31,32,33] [0,3,29,33] [] hk0 v0 (by refine cc _ ?_<|cc _ ?_<|cc _ ?_ c0<;>simp) ?_);refine W1 (s':=[(0,(.ptr 0 0)),(3,(.ptr 4 0)),(29,(.bool r.inst)),(33,(.cond r.inst (.own 1))),(34,(.cond r.inst (.bool (st.repos.any (fun o=>o.inst)))))]) (q:=r.inst) (al:=[(.own 1),(.fn 39 [] [])]) (al':=[(.row 4 (st.repos.map Bd).length (fun ix=>(st.repos.map Bd).getD ix Bn)),(.fn 39 [] [])]) (h':=[(0,(.row [(.int .i64 st.kind),(.own 1),(.own 2),(.map 3)] 75)),(2,(.grow (st.all.map Be) 78 13)),(3,(.mm (Bb st.all) none 3 1)),(4,(.row [(.str r.name),(.int .i64 r.prio),(.bool r.inst),(Aj 12 Ar r.pkgs)] 59))]) (r:=(.bool (st.repos.any (fun o=>o.inst)))) (by kernel_rfl) (by exact Q30) (by kernel_rfl) (Rn (some (r.inst=true)) (by kernel_rfl) fun cg=>hold (by omega)) (by kernel_rfl) (fun cg=>(Y9 st.repos (.fn 39 [] []) (fun o=>o.inst) (by omega) (fun i hi=>FunV.of (by exact X7c) (X4z (nth st.repos i)))).of_args (ImpL.cons (Imp.list (f:=Bd) (List.length_map _)) (ImpL.cons (Imp.clo (by kernel_rfl)) ImpL.nil))) rfl (by kernel_rfl) ?_
  refine Av 8 [] [0,3,26] [] hk0 v0 (cc 8 (p:=(r.inst=true→r.inst=true)) (by simp)<|c0) ?_;refine A5 (q:=r.inst&&(st.repos.any (fun o=>o.inst))) (by kernel_rfl) (fun c2=>?_) (fun c2=>?_)
  ·try simp only[Ai] at c2
   refine Aa [] [4] ?_;refine Ae ?_;refine Ej (.inl rfl) (al:=[(.int .i64 67)]) (by kernel_rfl) ?_ ((by kernel_rfl:C6 4 _=some [(0,(.row [(.int .i64 st.kind),(.own 1),(.own 2),(.map 3)] 75)),(1,(.grow (st.repos.map Bd) 59 4)),(2,(.grow (st.all.map Be) 78 13)),(3,(.mm (Bb st.all) none 3 1))]).trans ?_)
   all_goals have hE:Cm st r=67:=by unfold Cm;rw[if_neg (by simp only[not_or];simp_all),if_pos (by simp_all)]
   ·rw[hE];rfl
   ·rw[J5 hE (by decide)]
  ·try simp only[Ai] at c2
   refine C8 (fun y=>y=⟨[(0,(.ptr 0 0)),(3,(.ptr 4 0)),(36,(.bool (decide ((8:Int)≤((st.repos.map Bd).length:Int))||decide ((200:Int) < ((st.all.map Be).length:Int)+(r.pkgs.length:Int)))))],[(0,(.row [(.int .i64 st.kind),(.own 1),(.own 2),(.map 3)] 75)),(1,(.grow (st.repos.map Bd) 59 4)),(2,(.grow (st.all.map Be) 78 13)),(3,(.mm (Bb st.all) none 3 1)),(4,(.row [(.str r.name),(.int .i64 r.prio),(.bool r.inst),(Aj 12 Ar r.pkgs)] 59))],5⟩) [0,3,36] 5 (by omega) ?_ ?_
   ·refine G9 (CS:=[(8,((!(decide (8≤((st.repos.map Bd).length:Int))))=true→(!(decide (8≤((st.repos.map Bd).length:Int))))=true)),(9,((!(decide (8≤((st.repos.map Bd).length:Int))))=true→(!(decide (8≤((st.repos.map Bd).length:Int))))=true)),(10,((!(decide (8≤((st.repos.map Bd).length:Int))))=true→(!(decide (8≤((st.repos.map Bd).length:Int))))=true)),(11,((!(decide (8≤((st.repos.map Bd).length:Int))))=true→(!(decide (8≤((st.repos.map Bd).length:Int))))=true)),(13,((!(decide (8≤((st.repos.map Bd).length:Int))))=true→(!(decide (8≤((st.repos.map Bd).length:Int))))=true)),(14,((!(decide (8≤((st.repos.map Bd).length:Int))))=true→(!(decide (8≤((st.repos.map Bd).length:Int))))=true)),(15,((!(decide (8≤((st.repos.map Bd).length:Int))))=true→((!(decide (8≤((st.repos.map Bd).length:Int))))=true∧(!(decide (8≤((st.repos.map Bd).length:Int))))=true)∧(-9223372036854775808≤((st.all.map Be).length:Int)+(r.pkgs.length:Int)∧((st.all.map Be).length:Int)+(r.pkgs.length:Int)≤9223372036854775807))),(16,((!(decide (8≤((st.repos.map Bd).length:Int))))=true→(!(decide (8≤((st.repos.map Bd).length:Int))))=true)),(17,((decide (8≤((st.repos.map Bd).length:Int)))=false→(!(decide (8≤((st.repos.map Bd).length:Int))))=true))]) [44,45,46,47,48,49,50,51,52,53] [0,3,36] [] hk0 v0 (by refine cc _ ?_<|cc _ ?_<|cc _ ?_<|cc _ ?_<|cc _ ?_<|cc _ ?_<|cc _ ?_<|cc _ ?_<|cc _ ?_ c0<;>first|omega|(simp;omega)|(simp;done)|(intros;simp_all;omega)|(intros;simp_all;done)) ?_
    refine⟨by kernel_rfl,(by kernel_rfl)⟩
   ·rintro y1 rfl;refine A5 (q:=decide ((8:Int)≤((st.repos.map Bd).length:Int))||decide ((200:Int) < ((st.all.map Be).length:Int)+(r.pkgs.length:Int))) (by kernel_rfl) (fun c3=>?_) (fun c3=>?_)
    ·try simp only[Ai] at c3
     refine Aa [] [4] ?_;refine Ae ?_;refine Ej (.inl rfl) (al:=[(.int .i64 68)]) (by kernel_rfl) ?_ ((by kernel_rfl:C6 4 _=some [(0,(.row [(.int .i64 st.kind),(.own 1),(.own 2),(.map 3)] 75)),(1,(.grow (st.repos.map Bd) 59 4)),(2,(.grow (st.all.map Be) 78 13)),(3,(.mm (Bb st.all) none 3 1))]).trans ?_)
     all_goals have hE:Cm st r=68:=by unfold Cm;rw[if_neg (by simp only[not_or];simp_all),if_neg (by rintro⟨h1,h2⟩;rw[h1,h2] at c2;simp at c2),if_pos (by omega)]
     ·rw[hE];rfl
     ·rw[J5 hE (by decide)]
    ·try simp only[Ai] at c3
     refine Ag ?_;refine Ab (Aa [] [0,3,56,57,58] ?_);refine Az (Bx (fun g y=>∃(i:Nat),i≤r.pkgs.length∧(∀j,j < i→D2 (nth r.pkgs j)=0)∧y=⟨[(0,(.ptr 0 0)),(3,(.ptr 4 0)),(56,(Aj 12 Ar r.pkgs)),(57,(.int .i64 ((r.pkgs.length:Int)))),(58,(.int .i64 ((i:Int))))],[(0,(.row [(.int .i64 st.kind),(.own 1),(.own 2),(.map 3)] 75)),(1,(.grow (st.repos.map Bd) 59 4)),(2,(.grow (st.all.map Be) 78 13)),(3,(.mm (Bb st.all) none 3 1)),(4,(.row [(.str r.name),(.int .i64 r.prio),(.bool r.inst),(Aj 12 Ar r.pkgs)] 59))],5⟩∧g=r.pkgs.length-i) [0,3,56,57,58] 5 _ (by omega) ⟨0,(by omega),(by exact fun j hj=>by omega),(by kernel_rfl),rfl⟩ ?_);rintro g1 y1 ⟨i,f1_1,f1_2,rfl,rfl⟩;refine Aa [] [0,3,56,57,58,59] ?_;refine Ab ?_;refine Ax (p:=(i:Int) < (r.pkgs.length:Int)) (by kernel_rfl) (fun c4=>?_) (fun c4=>?_)
     ·refine Ag (Ab ?_);refine Az (Ad [] [0,3,6,56,57,58] [] hk0 v0 (cc 0 (p:=(0≤(i:Int)∧i < r.pkgs.length)) (by omega)<|c0) ?_);refine Ad [] [0,3,7,56,57,58] [(0,6)] (hk 1 X7b (Y3z (nth r.pkgs i) (hp i (by omega)))<|hk0) v0 c0 ?_;refine Aa [] [0,3,7,56,57,58,65] ?_;refine Cr (p:=(D2 (nth r.pkgs i))=0) (by kernel_rfl) (fun c5=>?_) (fun c5=>?_)
      ·refine Aa [] [4] ?_;refine Ae ?_;refine Ej (.inl rfl) (al:=[(.int .i64 (D2 (nth r.pkgs i)))]) (by kernel_rfl) ?_ ((by kernel_rfl:C6 4 _=some [(0,(.row [(.int .i64 st.kind),(.own 1),(.own 2),(.map 3)] 75)),(1,(.grow (st.repos.map Bd) 59 4)),(2,(.grow (st.all.map Be) 78 13)),(3,(.mm (Bb st.all) none 3 1))]).trans ?_)
       all_goals have hE:Cm st r=D2 (nth r.pkgs i):=by unfold Cm;rw[if_neg (by simp only[not_or];simp_all),if_neg (by rintro⟨h1,h2⟩;rw[h1,h2] at c2;simp at c2),if_neg (by omega)];exact Vj (by omega) f1_2 (by assumption)
       ·rw[hE];rfl
       ·rw[J5 hE (by assumption)]
      ·refine Ag ?_;refine An (Av 0 [] [0,3,56,57,58] [] hk0 v0 (cc 0 (p:=(-9223372036854775808≤(i:Int)+1∧(i:Int)+1≤9223372036854775807)) (by omega)<|c0) ?_);refine⟨by kernel_rfl,_,?_,i+1,?_,?_,(by kernel_rfl),rfl⟩
       ·omega
       ·omega
       ·intro j hj;by_cases h:j=i
        ·subst h;simp_all
        ·exact f1_2 j (by omega)
     ·refine Bp ?_;refine Ab (Aa [] [0,3,69,70,71] ?_);refine Az (Bx (fun g y=>∃(i:Nat),i≤r.pkgs.length∧y=⟨[(0,(.ptr 0 0)),(3,(.ptr 4 0)),(69,(Aj 12 Ar r.pkgs)),(70,(.int .i64 ((r.pkgs.length:Int)))),(71,(.int .i64 ((i:Int))))],[(0,(.row [(.int .i64 st.kind),(.own 1),(.own 2),(.map 3)] 75)),(1,(.grow (st.repos.map Bd) 59 4)),(2,(.grow ((Aw st r i).map Be) 78 13)),(3,(.mm (Bb (Aw st r i)) none 3 1)),(4,(.row [(.str r.name),(.int .i64 r.prio),(.bool r.inst),(Aj 12 Ar r.pkgs)] 59))],5⟩∧g=r.pkgs.length-i) [0,3,69,70,71] 5 _ (by omega) ⟨0,(by omega),(Eq.trans (b:=(⟨[(0,(.ptr 0 0)),(3,(.ptr 4 0)),(69,(Aj 12 Ar r.pkgs)),(70,(.int .i64 ((r.pkgs.length:Int)))),(71,(.int .i64 0))],[(0,(.row [(.int .i64 st.kind),(.own 1),(.own 2),(.map 3)] 75)),(1,(.grow (st.repos.map Bd) 59 4)),(2,(.grow (st.all.map Be) 78 13)),(3,(.mm (Bb st.all) none 3 1)),(4,(.row [(.str r.name),(.int .i64 r.prio),(.bool r.inst),(Aj 12 Ar r.pkgs)] 59))],5⟩:St)) (by kernel_rfl) (by rw[show Aw st r 0=st.all from by simp[Aw]]<;>rfl)),rfl⟩ ?_);rintro g2 y2 ⟨i,f2_1,rfl,rfl⟩
      have hkl:((Aw st r i).map Be).length≤200:=by have:=X4n (st:=st) (r:=r) (i:=i);rw[List.length_map];omega
      have hgl:(Bb (Aw st r i) (nth r.pkgs i).name).length≤200:=Nat.le_trans (X3g _ _) (by rwa [List.length_map] at hkl);refine Aa [] [0,3,69,70,71,72] ?_;refine Ab ?_;refine Ax (p:=(i:Int) < (r.pkgs.length:Int)) (by kernel_rfl) (fun c6=>?_) (fun c6=>?_)
      ·refine Ag ?_;refine C8 (fun y=>y=⟨[(0,(.ptr 0 0)),(3,(.ptr 4 0)),(69,(Aj 12 Ar r.pkgs)),(70,(.int .i64 ((r.pkgs.length:Int)))),(71,(.int .i64 ((i:Int))))],[(0,(.row [(.int .i64 st.kind),(.own 1),(.own 2),(.map 3)] 75)),(1,(.grow (st.repos.map Bd) 59 4)),(2,(.grow ((Aw st r i++[(nth r.pkgs i,(st.repos.length:Int))]).map Be) 78 13)),(3,(.mm (Bb (Aw st r i++[(nth r.pkgs i,(st.repos.length:Int))])) none 3 1)),(4,(.row [(.str r.name),(.int .i64 r.prio),(.bool r.inst),(Aj 12 Ar r.pkgs)] 59))],5⟩) [0,3,69,70,71] 5 (by omega) ?_ ?_
       ·refine Az (Ad [] [0,3,9,69,70,71] [] hk0 v0 (cc 0 (p:=(0≤(i:Int)∧i < r.pkgs.length)) (by omega)<|c0) ?_);refine Sz 9 (y:=⟨[(0,(.ptr 0 0)),(3,(.ptr 4 0)),(9,(.fp (Ar (nth r.pkgs i)))),(69,(Aj 12 Ar r.pkgs)),(70,(.int .i64 ((r.pkgs.length:Int)))),(71,(.int .i64 ((i:Int))))],[(0,(.row [(.int .i64 st.kind),(.own 1),(.own 2),(.map 3)] 75)),(1,(.grow (st.repos.map Bd) 59 4)),(2,(.grow ((Aw st r i).map Be) 78 13)),(3,(.mm (Bb (Aw st r i)) none 3 1)),(4,(.row [(.str r.name),(.int .i64 r.prio),(.bool r.inst),(Aj 12 Ar r.pkgs)] 59))],6⟩) (by kernel_rfl) ?_;refine C8 (fun y=>y=⟨[(0,(.ptr 0 0)),(3,(.ptr 4 0)),(9,(.fp (Ar (nth r.pkgs i)))),(69,(Aj 12 Ar r.pkgs)),(70,(.int .i64 ((r.pkgs.length:Int)))),(71,(.int .i64 ((i:Int))))],[(0,(.row [(.int .i64 st.kind),(.own 1),(.own 2),(.map 3)] 75)),(1,(.grow (st.repos.map Bd) 59 4)),(2,(.grow ((Aw st r i).map Be) 78 13)),(3,(.mm (Bb (Aw st r i++[(nth r.pkgs i,(st.repos.length:Int))])) none 3 1)),(4,(.row [(.str r.name),(.int .i64 r.prio),(.bool r.inst),(Aj 12 Ar r.pkgs)] 59))],6⟩) [0,3,9,69,70,71] 6 (by omega) ?_ ?_
        ·refine Ja (by kernel_rfl) (fun F1 hF1=>?_);refine Ch false 1 (lsD 21 [0,1,2,3,4,5,6,7,8,9,10,11,12,13,14,15,16,17,18,19]) ⟨[(0,(.ptr 0 0)),(3,(.ptr 4 0)),(9,(.fp (Ar (nth r.pkgs i)))),(69,(Aj 12 Ar r.pkgs)),(70,(.int .i64 ((r.pkgs.length:Int)))),(71,(.int .i64 ((i:Int)))),(78,(.map 3)),(80,(.str ((nth r.pkgs i).name))),(94,(.own 6))],[(0,(.row [(.int .i64 st.kind),(.own 1),(.own 2),(.map 3)] 75)),(1,(.grow (st.repos.map Bd) 59 4)),(2,(.grow ((Aw st r i).map Be) 78 13)),(3,(.mm (Bb (Aw st r i)) (some ((nth r.pkgs i).name)) 3 1)),(4,(.row [(.str r.name),(.int .i64 r.prio),(.bool r.inst),(Aj 12 Ar r.pkgs)] 59)),(6,(.grow (((Bb (Aw st r i)) ((nth r.pkgs i).name))++([(.int .i64 ((((Aw st r i).map Be).length:Int)))]:List AV)) 3 1)),(7,(.row [(.int .i64 ((((Aw st r i).map Be).length:Int)))] 3))],8⟩ ?_ (fun m1_1=>?_)
         ·refine Ev (fuel:=0) 20 (by kernel_rfl) ?_;refine Cs (fuel:=0) 20 rfl ?_;refine S4 (b:=3) (c:=6) (s:=(nth r.pkgs i).name) (s1:=(nth r.pkgs i).name) (y:=⟨[(0,(.ptr 0 0)),(3,(.ptr 4 0)),(9,(.fp (Ar (nth r.pkgs i)))),(69,(Aj 12 Ar r.pkgs)),(70,(.int .i64 ((r.pkgs.length:Int)))),(71,(.int .i64 ((i:Int)))),(78,(.map 3)),(80,(.str ((nth r.pkgs i).name))),(94,(.own 6))],[(0,(.row [(.int .i64 st.kind),(.own 1),(.own 2),(.map 3)] 75)),(1,(.grow (st.repos.map Bd) 59 4)),(2,(.grow ((Aw st r i).map Be) 78 13)),(3,(.mm (D0 (Bb (Aw st r i)) ((nth r.pkgs i).name) (((Bb (Aw st r i)) ((nth r.pkgs i).name))++([(.int .i64 ((((Aw st r i).map Be).length:Int)))]:List AV))) none 3 1)),(4,(.row [(.str r.name),(.int .i64 r.prio),(.bool r.inst),(Aj 12 Ar r.pkgs)] 59)),(7,(.row [(.int .i64 ((((Aw st r i).map Be).length:Int)))] 3))],8⟩) (by kernel_rfl) (by kernel_rfl) (by kernel_rfl) (by kernel_rfl) (by kernel_rfl) rfl Tryz.underlying73 Tryz.underlying9 (by kernel_rfl) rfl ?_;refine Br ⟨rfl,?_⟩;refine Ay [0,3,9,69,70,71] ?_;refine Hy (by kernel_rfl) ?_
          refine⟨by kernel_rfl,(Eq.trans (b:=(⟨[(0,(.ptr 0 0)),(3,(.ptr 4 0)),(9,(.fp (Ar (nth r.pkgs i)))),(69,(Aj 12 Ar r.pkgs)),(70,(.int .i64 ((r.pkgs.length:Int)))),(71,(.int .i64 ((i:Int))))],[(0,(.row [(.int .i64 st.kind),(.own 1),(.own 2),(.map 3)] 75)),(1,(.grow (st.repos.map Bd) 59 4)),(2,(.grow ((Aw st r i).map Be) 78 13)),(3,(.mm (D0 (Bb (Aw st r i)) ((nth r.pkgs i).name) (((Bb (Aw st r i)) ((nth r.pkgs i).name))++([(.int .i64 ((((Aw st r i).map Be).length:Int)))]:List AV))) none 3 1)),(4,(.row [(.str r.name),(.int .i64 r.prio),(.bool r.inst),(Aj 12 Ar r.pkgs)] 59))],6⟩:St)) (by kernel_rfl) (by rw[show(D0 (Bb (Aw st r i)) ((nth r.pkgs i).name) (((Bb (Aw st r i)) ((nth r.pkgs i).name))++([(.int .i64 ((((Aw st r i).map Be).length:Int)))]:List AV)))=Bb (Aw st r i++[(nth r.pkgs i,(st.repos.length:Int))]) from by(try rw[List.length_map]);exact Q1c (Aw st r i) (nth r.pkgs i,(st.repos.length:Int))]<;>kernel_rfl))⟩
         refine Ch false 1 (lsD 21 [0,1,2,3,4,5,6,7,8,9,10,11,12,13,14,15,16,17,18,19]) ⟨[(0,(.ptr 0 0)),(3,(.ptr 4 0)),(9,(.fp (Ar (nth r.pkgs i)))),(69,(Aj 12 Ar r.pkgs)),(70,(.int .i64 ((r.pkgs.length:Int)))),(71,(.int .i64 ((i:Int)))),(78,(.map 3)),(80,(.str ((nth r.pkgs i).name))),(94,(.own 7))],[(0,(.row [(.int .i64 st.kind),(.own 1),(.own 2),(.map 3)] 75)),(1,(.grow (st.repos.map Bd) 59 4)),(2,(.grow ((Aw st r i).map Be) 78 13)),(3,(.mm (Bb (Aw st r i)) (some ((nth r.pkgs i).name)) 3 1)),(4,(.row [(.str r.name),(.int .i64 r.prio),(.bool r.inst),(Aj 12 Ar r.pkgs)] 59)),(6,(.row [(.int .i64 ((((Aw st r i).map Be).length:Int)))] 3)),(7,(.grow (((Bb (Aw st r i)) ((nth r.pkgs i).name))++([(.int .i64 ((((Aw st r i).map Be).length:Int)))]:List AV)) 3 1))],8⟩ ?_ (fun m1_2=>?_)
         ·refine Ev (fuel:=0) 20 (by kernel_rfl) ?_;refine Cs (fuel:=0) 20 rfl ?_;refine S4 (b:=3) (c:=7) (s:=(nth r.pkgs i).name) (s1:=(nth r.pkgs i).name) (y:=⟨[(0,(.ptr 0 0)),(3,(.ptr 4 0)),(9,(.fp (Ar (nth r.pkgs i)))),(69,(Aj 12 Ar r.pkgs)),(70,(.int .i64 ((r.pkgs.length:Int)))),(71,(.int .i64 ((i:Int)))),(78,(.map 3)),(80,(.str ((nth r.pkgs i).name))),(94,(.own 7))],[(0,(.row [(.int .i64 st.kind),(.own 1),(.own 2),(.map 3)] 75)),(1,(.grow (st.repos.map Bd) 59 4)),(2,(.grow ((Aw st r i).map Be) 78 13)),(3,(.mm (D0 (Bb (Aw st r i)) ((nth r.pkgs i).name) (((Bb (Aw st r i)) ((nth r.pkgs i).name))++([(.int .i64 ((((Aw st r i).map Be).length:Int)))]:List AV))) none 3 1)),(4,(.row [(.str r.name),(.int .i64 r.prio),(.bool r.inst),(Aj 12 Ar r.pkgs)] 59)),(6,(.row [(.int .i64 ((((Aw st r i).map Be).length:Int)))] 3))],8⟩) (by kernel_rfl) (by kernel_rfl) (by kernel_rfl) (by kernel_rfl) (by kernel_rfl) rfl Tryz.underlying73 Tryz.underlying9 (by kernel_rfl) rfl ?_;refine Br ⟨rfl,?_⟩;refine Ay [0,3,9,69,70,71] ?_;refine Hy (by kernel_rfl) ?_
          refine⟨by kernel_rfl,(Eq.trans (b:=(⟨[(0,(.ptr 0 0)),(3,(.ptr 4 0)),(9,(.fp (Ar (nth r.pkgs i)))),(69,(Aj 12 Ar r.pkgs)),(70,(.int .i64 ((r.pkgs.length:Int)))),(71,(.int .i64 ((i:Int))))],[(0,(.row [(.int .i64 st.kind),(.own 1),(.own 2),(.map 3)] 75)),(1,(.grow (st.repos.map Bd) 59 4)),(2,(.grow ((Aw st r i).map Be) 78 13)),(3,(.mm (D0 (Bb (Aw st r i)) ((nth r.pkgs i).name) (((Bb (Aw st r i)) ((nth r.pkgs i).name))++([(.int .i64 ((((Aw st r i).map Be).length:Int)))]:List AV))) none 3 1)),(4,(.row [(.str r.name),(.int .i64 r.prio),(.bool r.inst),(Aj 12 Ar r.pkgs)] 59))],6⟩:St)) (by kernel_rfl) (by rw[show(D0 (Bb (Aw st r i)) ((nth r.pkgs i).name) (((Bb (Aw st r i)) ((nth r.pkgs i).name))++([(.int .i64 ((((Aw st r i).map Be).length:Int)))]:List AV)))=Bb (Aw st r i++[(nth r.pkgs i,(st.repos.length:Int))]) from by(try rw[List.length_map]);exact Q1c (Aw st r i) (nth r.pkgs i,(st.repos.length:Int))]<;>kernel_rfl))⟩
         refine Ch false 2 (lsD 21 [0,1,2,3,4,5,6,7,8,9,10,11,12,13,14,15,16,17,18]) ⟨[(0,(.ptr 0 0)),(3,(.ptr 4 0)),(9,(.fp (Ar (nth r.pkgs i)))),(69,(Aj 12 Ar r.pkgs)),(70,(.int .i64 ((r.pkgs.length:Int)))),(71,(.int .i64 ((i:Int)))),(78,(.map 3)),(80,(.str ((nth r.pkgs i).name))),(87,(.own 6)),(93,(.sl 7 0 1 1 false))],[(0,(.row [(.int .i64 st.kind),(.own 1),(.own 2),(.map 3)] 75)),(1,(.grow (st.repos.map Bd) 59 4)),(2,(.grow ((Aw st r i).map Be) 78 13)),(3,(.mm (Bb (Aw st r i)) (some ((nth r.pkgs i).name)) 3 1)),(4,(.row [(.str r.name),(.int .i64 r.prio),(.bool r.inst),(Aj 12 Ar r.pkgs)] 59)),(6,(.grow ((Bb (Aw st r i)) ((nth r.pkgs i).name)) 3 1)),(7,(.row [(.int .i64 ((((Aw st r i).map Be).length:Int)))] 3))],8⟩ ?_ (fun m1_3=>?_)
         ·refine Db (fuel:=1) 19 [] (hold (p:=((((Bb (Aw st r i)) ((nth r.pkgs i).name)).length+1)*8≤140737488355328)) (by omega)) ?_;refine Ay [0,3,9,69,70,71,78,80,94] ?_;exact A8 m1_1
         refine Ch false 2 (lsD 21 [0,1,2,3,4,5,6,7,8,9,10,11,12,13,14,15,16,17,18]) ⟨[(0,(.ptr 0 0)),(3,(.ptr 4 0)),(9,(.fp (Ar (nth r.pkgs i)))),(69,(Aj 12 Ar r.pkgs)),(70,(.int .i64 ((r.pkgs.length:Int)))),(71,(.int .i64 ((i:Int)))),(78,(.map 3)),(80,(.str ((nth r.pkgs i).name))),(87,(.own 7)),(93,(.sl 6 0 1 1 false))],[(0,(.row [(.int .i64 st.kind),(.own 1),(.own 2),(.map 3)] 75)),(1,(.grow (st.repos.map Bd) 59 4)),(2,(.grow ((Aw st r i).map Be) 78 13)),(3,(.mm (Bb (Aw st r i)) (some ((nth r.pkgs i).name)) 3 1)),(4,(.row [(.str r.name),(.int .i64 r.prio),(.bool r.inst),(Aj 12 Ar r.pkgs)] 59)),(6,(.row [(.int .i64 ((((Aw st r i).map Be).length:Int)))] 3)),(7,(.grow ((Bb (Aw st r i)) ((nth r.pkgs i).name)) 3 1))],8⟩ ?_ (fun m1_4=>?_)
         ·refine Db (fuel:=1) 19 [] (hold (p:=((((Bb (Aw st r i)) ((nth r.pkgs i).name)).length+1)*8≤140737488355328)) (by omega)) ?_;refine Ay [0,3,9,69,70,71,78,80,94] ?_;exact A8 m1_2
         refine Ch false 3 (lsD 21 [0,1,2,3,4,5,6,7,8,9,10,11,12,13,14,15,16,17]) ⟨[(0,(.ptr 0 0)),(3,(.ptr 4 0)),(9,(.fp (Ar (nth r.pkgs i)))),(69,(Aj 12 Ar r.pkgs)),(70,(.int .i64 ((r.pkgs.length:Int)))),(71,(.int .i64 ((i:Int)))),(78,(.map 3)),(80,(.str ((nth r.pkgs i).name))),(87,(.own 6)),(92,(.int .i64 ((((Aw st r i).map Be).length:Int))))],[(0,(.row [(.int .i64 st.kind),(.own 1),(.own 2),(.map 3)] 75)),(1,(.grow (st.repos.map Bd) 59 4)),(2,(.grow ((Aw st r i).map Be) 78 13)),(3,(.mm (Bb (Aw st r i)) (some ((nth r.pkgs i).name)) 3 1)),(4,(.row [(.str r.name),(.int .i64 r.prio),(.bool r.inst),(Aj 12 Ar r.pkgs)] 59)),(6,(.grow ((Bb (Aw st r i)) ((nth r.pkgs i).name)) 3 1))],7⟩ ?_ (fun m1_5=>?_)
         ·refine Db (fuel:=2) 18 [] A1 ?_;refine Ay [0,3,9,69,70,71,78,80,87,93] ?_;exact A8 m1_3
         refine Ch true 3 (lsD 21 [0,1,2,3,4,5,6,7,8,9,10,11,13,14,15,16,17,18]) ⟨[(0,(.ptr 0 0)),(3,(.ptr 4 0)),(9,(.fp (Ar (nth r.pkgs i)))),(69,(Aj 12 Ar r.pkgs)),(70,(.int .i64 ((r.pkgs.length:Int)))),(71,(.int .i64 ((i:Int)))),(78,(.map 3)),(80,(.str ((nth r.pkgs i).name))),(84,(.map 3)),(86,(.str ((nth r.pkgs i).name))),(93,(.sl 6 0 1 1 false))],[(0,(.row [(.int .i64 st.kind),(.own 1),(.own 2),(.map 3)] 75)),(1,(.grow (st.repos.map Bd) 59 4)),(2,(.grow ((Aw st r i).map Be) 78 13)),(3,(.mm (Bb (Aw st r i)) none 3 1)),(4,(.row [(.str r.name),(.int .i64 r.prio),(.bool r.inst),(Aj 12 Ar r.pkgs)] 59)),(6,(.row [(.int .i64 ((((Aw st r i).map Be).length:Int)))] 3))],7⟩ ?_ (fun m1_6=>?_)
         ·refine Ev (fuel:=2) 12 (by kernel_rfl) ?_;refine Cs (fuel:=2) 12 rfl ?_;refine Fp (b:=3) (s:=(nth r.pkgs i).name) (y:=⟨[(0,(.ptr 0 0)),(3,(.ptr 4 0)),(9,(.fp (Ar (nth r.pkgs i)))),(69,(Aj 12 Ar r.pkgs)),(70,(.int .i64 ((r.pkgs.length:Int)))),(71,(.int .i64 ((i:Int)))),(78,(.map 3)),(80,(.str ((nth r.pkgs i).name))),(84,(.map 3)),(86,(.str ((nth r.pkgs i).name))),(93,(.sl 6 0 1 1 false)),(87,(.own 7))],[(0,(.row [(.int .i64 st.kind),(.own 1),(.own 2),(.map 3)] 75)),(1,(.grow (st.repos.map Bd) 59 4)),(2,(.grow ((Aw st r i).map Be) 78 13)),(3,(.mm (Bb (Aw st r i)) (some ((nth r.pkgs i).name)) 3 1)),(4,(.row [(.str r.name),(.int .i64 r.prio),(.bool r.inst),(Aj 12 Ar r.pkgs)] 59)),(6,(.row [(.int .i64 ((((Aw st r i).map Be).length:Int)))] 3)),(7,(.grow ((Bb (Aw st r i)) ((nth r.pkgs i).name)) 3 1))],8⟩) (by kernel_rfl) (by kernel_rfl) (by kernel_rfl) Tryz.underlying73 Tryz.underlying9 (fun _=>by kernel_rfl) (by kernel_rfl) ?_;refine Br ⟨rfl,?_⟩;refine Ay [0,3,9,69,70,71,78,80,87,93] ?_;exact A8 m1_4
         refine Ch false 4 (lsD 21 [0,1,2,3,4,5,6,7,8,9,10,11,12,13,14,15,16]) ⟨[(0,(.ptr 0 0)),(3,(.ptr 4 0)),(9,(.fp (Ar (nth r.pkgs i)))),(69,(Aj 12 Ar r.pkgs)),(70,(.int .i64 ((r.pkgs.length:Int)))),(71,(.int .i64 ((i:Int)))),(78,(.map 3)),(80,(.str ((nth r.pkgs i).name))),(87,(.own 6)),(91,(.own 2))],[(0,(.row [(.int .i64 st.kind),(.own 1),(.own 2),(.map 3)] 75)),(1,(.grow (st.repos.map Bd) 59 4)),(2,(.grow ((Aw st r i).map Be) 78 13)),(3,(.mm (Bb (Aw st r i)) (some ((nth r.pkgs i).name)) 3 1)),(4,(.row [(.str r.name),(.int .i64 r.prio),(.bool r.inst),(Aj 12 Ar r.pkgs)] 59)),(6,(.grow ((Bb (Aw st r i)) ((nth r.pkgs i).name)) 3 1))],7⟩ ?_ (fun m1_7=>?_)
         ·refine Db (fuel:=3) 17 [] A1 ?_;refine Ay [0,3,9,69,70,71,78,80,87,92] ?_;exact A8 m1_5
         refine Ch true 4 (lsD 21 [0,1,2,3,4,5,6,7,8,9,10,11,13,14,15,16,17]) ⟨[(0,(.ptr 0 0)),(3,(.ptr 4 0)),(9,(.fp (Ar (nth r.pkgs i)))),(69,(Aj 12 Ar r.pkgs)),(70,(.int .i64 ((r.pkgs.length:Int)))),(71,(.int .i64 ((i:Int)))),(78,(.map 3)),(80,(.str ((nth r.pkgs i).name))),(84,(.map 3)),(86,(.str ((nth r.pkgs i).name))),(92,(.int .i64 ((((Aw st r i).map Be).length:Int))))],[(0,(.row [(.int .i64 st.kind),(.own 1),(.own 2),(.map 3)] 75)),(1,(.grow (st.repos.map Bd) 59 4)),(2,(.grow ((Aw st r i).map Be) 78 13)),(3,(.mm (Bb (Aw st r i)) none 3 1)),(4,(.row [(.str r.name),(.int .i64 r.prio),(.bool r.inst),(Aj 12 Ar r.pkgs)] 59))],6⟩ ?_ (fun m1_8=>?_)
         ·refine Ck 12 18 (by kernel_rfl) ?_ ?_
          ·refine Cs (fuel:=3) 12 rfl ?_;refine Fp (b:=3) (s:=(nth r.pkgs i).name) (y:=⟨[(0,(.ptr 0 0)),(3,(.ptr 4 0)),(9,(.fp (Ar (nth r.pkgs i)))),(69,(Aj 12 Ar r.pkgs)),(70,(.int .i64 ((r.pkgs.length:Int)))),(71,(.int .i64 ((i:Int)))),(78,(.map 3)),(80,(.str ((nth r.pkgs i).name))),(84,(.map 3)),(86,(.str ((nth r.pkgs i).name))),(92,(.int .i64 ((((Aw st r i).map Be).length:Int)))),(87,(.own 6))],[(0,(.row [(.int .i64 st.kind),(.own 1),(.own 2),(.map 3)] 75)),(1,(.grow (st.repos.map Bd) 59 4)),(2,(.grow ((Aw st r i).map Be) 78 13)),(3,(.mm (Bb (Aw st r i)) (some ((nth r.pkgs i).name)) 3 1)),(4,(.row [(.str r.name),(.int .i64 r.prio),(.bool r.inst),(Aj 12 Ar r.pkgs)] 59)),(6,(.grow ((Bb (Aw st r i)) ((nth r.pkgs i).name)) 3 1))],7⟩) (by kernel_rfl) (by kernel_rfl) (by kernel_rfl) Tryz.underlying73 Tryz.underlying9 (fun _=>by kernel_rfl) (by kernel_rfl) ?_;refine Br ⟨rfl,?_⟩;refine Ay [0,3,9,69,70,71,78,80,87,92] ?_;exact A8 m1_5
          ·refine A9 (fuel:=3) 18 [] A1 ?_;refine Ay [0,3,9,69,70,71,78,80,84,86,93] ?_;exact A8 m1_6
         refine Ch true 4 (lsD 21 [0,1,2,3,4,5,6,7,8,10,11,13,14,15,16,17,18]) ⟨[(0,(.ptr 0 0)),(3,(.ptr 4 0)),(9,(.fp (Ar (nth r.pkgs i)))),(69,(Aj 12 Ar r.pkgs)),(70,(.int .i64 ((r.pkgs.length:Int)))),(71,(.int .i64 ((i:Int)))),(78,(.map 3)),(80,(.str ((nth r.pkgs i).name))),(83,(.ptr 0 3)),(86,(.str ((nth r.pkgs i).name))),(93,(.sl 6 0 1 1 false))],[(0,(.row [(.int .i64 st.kind),(.own 1),(.own 2),(.map 3)] 75)),(1,(.grow (st.repos.map Bd) 59 4)),(2,(.grow ((Aw st r i).map Be) 78 13)),(3,(.mm (Bb (Aw st r i)) none 3 1)),(4,(.row [(.str r.name),(.int .i64 r.prio),(.bool r.inst),(Aj 12 Ar r.pkgs)] 59)),(6,(.row [(.int .i64 ((((Aw st r i).map Be).length:Int)))] 3))],7⟩ ?_ (fun m1_9=>?_)
         ·refine Db (fuel:=3) 9 [] A1 ?_;refine Ay [0,3,9,69,70,71,78,80,84,86,93] ?_;exact A8 m1_6
         refine Ch false 4 (lsD 21 [0,1,2,4,5,6,7,8,9,10,11,12,13,14,15,16,17]) ⟨[(0,(.ptr 0 0)),(3,(.ptr 4 0)),(9,(.fp (Ar (nth r.pkgs i)))),(69,(Aj 12 Ar r.pkgs)),(70,(.int .i64 ((r.pkgs.length:Int)))),(71,(.int .i64 ((i:Int)))),(77,(.ptr 0 3)),(80,(.str ((nth r.pkgs i).name))),(87,(.own 6)),(92,(.int .i64 ((((Aw st r i).map Be).length:Int))))],[(0,(.row [(.int .i64 st.kind),(.own 1),(.own 2),(.map 3)] 75)),(1,(.grow (st.repos.map Bd) 59 4)),(2,(.grow ((Aw st r i).map Be) 78 13)),(3,(.mm (Bb (Aw st r i)) (some ((nth r.pkgs i).name)) 3 1)),(4,(.row [(.str r.name),(.int .i64 r.prio),(.bool r.inst),(Aj 12 Ar r.pkgs)] 59)),(6,(.grow ((Bb (Aw st r i)) ((nth r.pkgs i).name)) 3 1))],7⟩ ?_ (fun m1_10=>?_)
         ·refine Ck 3 18 (by kernel_rfl) ?_ ?_
          ·refine A9 (fuel:=3) 3 [] A1 ?_;refine Ay [0,3,9,69,70,71,78,80,87,92] ?_;exact A8 m1_5
          ·refine A9 (fuel:=3) 18 [] A1 ?_;refine Ay [0,3,9,69,70,71,77,80,87,93] ?_;refine Ck 3 19 (by kernel_rfl) ?_ ?_
           ·refine A9 (fuel:=2) 3 [] A1 ?_;refine Ay [0,3,9,69,70,71,78,80,87,93] ?_;exact A8 m1_3
           ·refine A9 (fuel:=2) 19 [] (hold (p:=((((Bb (Aw st r i)) ((nth r.pkgs i).name)).length+1)*8≤140737488355328)) (by omega)) ?_;refine Ay [0,3,9,69,70,71,77,80,94] ?_;refine Db (fuel:=1) 3 [] A1 ?_;refine Ay [0,3,9,69,70,71,78,80,94] ?_;exact A8 m1_1
         refine Ch true 4 (lsD 21 [0,1,2,4,5,6,7,8,9,10,11,13,14,15,16,17,18]) ⟨[(0,(.ptr 0 0)),(3,(.ptr 4 0)),(9,(.fp (Ar (nth r.pkgs i)))),(69,(Aj 12 Ar r.pkgs)),(70,(.int .i64 ((r.pkgs.length:Int)))),(71,(.int .i64 ((i:Int)))),(77,(.ptr 0 3)),(80,(.str ((nth r.pkgs i).name))),(84,(.map 3)),(86,(.str ((nth r.pkgs i).name))),(93,(.sl 6 0 1 1 false))],[(0,(.row [(.int .i64 st.kind),(.own 1),(.own 2),(.map 3)] 75)),(1,(.grow (st.repos.map Bd) 59 4)),(2,(.grow ((Aw st r i).map Be) 78 13)),(3,(.mm (Bb (Aw st r i)) none 3 1)),(4,(.row [(.str r.name),(.int .i64 r.prio),(.bool r.inst),(Aj 12 Ar r.pkgs)] 59)),(6,(.row [(.int .i64 ((((Aw st r i).map Be).length:Int)))] 3))],7⟩ ?_ (fun m1_11=>?_)
         ·refine Ck 3 12 (by kernel_rfl) ?_ ?_
          ·refine A9 (fuel:=3) 3 [] A1 ?_;refine Ay [0,3,9,69,70,71,78,80,84,86,93] ?_;exact A8 m1_6
          ·refine Cs (fuel:=3) 12 rfl ?_;refine Fp (b:=3) (s:=(nth r.pkgs i).name) (y:=⟨[(0,(.ptr 0 0)),(3,(.ptr 4 0)),(9,(.fp (Ar (nth r.pkgs i)))),(69,(Aj 12 Ar r.pkgs)),(70,(.int .i64 ((r.pkgs.length:Int)))),(71,(.int .i64 ((i:Int)))),(77,(.ptr 0 3)),(80,(.str ((nth r.pkgs i).name))),(84,(.map 3)),(86,(.str ((nth r.pkgs i).name))),(93,(.sl 6 0 1 1 false)),(87,(.own 7))],[(0,(.row [(.int .i64 st.kind),(.own 1),(.own 2),(.map 3)] 75)),(1,(.grow (st.repos.map Bd) 59 4)),(2,(.grow ((Aw st r i).map Be) 78 13)),(3,(.mm (Bb (Aw st r i)) (some ((nth r.pkgs i).name)) 3 1)),(4,(.row [(.str r.name),(.int .i64 r.prio),(.bool r.inst),(Aj 12 Ar r.pkgs)] 59)),(6,(.row [(.int .i64 ((((Aw st r i).map Be).length:Int)))] 3)),(7,(.grow ((Bb (Aw st r i)) ((nth r.pkgs i).name)) 3 1))],8⟩) (by kernel_rfl) (by kernel_rfl) (by kernel_rfl) Tryz.underlying73 Tryz.underlying9 (fun _=>by kernel_rfl) (by kernel_rfl) ?_;refine Br ⟨rfl,?_⟩;refine Ay [0,3,9,69,70,71,77,80,87,93] ?_;refine Ck 3 19 (by kernel_rfl) ?_ ?_
           ·refine A9 (fuel:=2) 3 [] A1 ?_;refine Ay [0,3,9,69,70,71,78,80,87,93] ?_;exact A8 m1_4
           ·refine A9 (fuel:=2) 19 [] (hold (p:=((((Bb (Aw st r i)) ((nth r.pkgs i).name)).length+1)*8≤140737488355328)) (by omega)) ?_;refine Ay [0,3,9,69,70,71,77,80,94] ?_;refine Db (fuel:=1) 3 [] A1 ?_;refine Ay [0,3,9,69,70,71,78,80,94] ?_;exact A8 m1_2
         refine Ch false 5 (lsD 21 [0,1,2,3,4,5,6,7,8,9,10,11,12,13,14,15]) ⟨[(0,(.ptr 0 0)),(3,(.ptr 4 0)),(9,(.fp (Ar (nth r.pkgs i)))),(69,(Aj 12 Ar r.pkgs)),(70,(.int .i64 ((r.pkgs.length:Int)))),(71,(.int .i64 ((i:Int)))),(78,(.map 3)),(80,(.str ((nth r.pkgs i).name))),(87,(.own 6)),(90,(.ptr 0 2))],[(0,(.row [(.int .i64 st.kind),(.own 1),(.own 2),(.map 3)] 75)),(1,(.grow (st.repos.map Bd) 59 4)),(2,(.grow ((Aw st r i).map Be) 78 13)),(3,(.mm (Bb (Aw st r i)) (some ((nth r.pkgs i).name)) 3 1)),(4,(.row [(.str r.name),(.int .i64 r.prio),(.bool r.inst),(Aj 12 Ar r.pkgs)] 59)),(6,(.grow ((Bb (Aw st r i)) ((nth r.pkgs i).name)) 3 1))],7⟩ ?_ (fun m1_12=>?_)
         ·refine Db (fuel:=4) 16 [] A1 ?_;refine Ay [0,3,9,69,70,71,78,80,87,91] ?_;exact A8 m1_7
         refine Ch true 5 (lsD 21 [0,1,2,3,4,5,6,7,8,9,10,11,13,14,15,16]) ⟨[(0,(.ptr 0 0)),(3,(.ptr 4 0)),(9,(.fp (Ar (nth r.pkgs i)))),(69,(Aj 12 Ar r.pkgs)),(70,(.int .i64 ((r.pkgs.length:Int)))),(71,(.int .i64 ((i:Int)))),(78,(.map 3)),(80,(.str ((nth r.pkgs i).name))),(84,(.map 3)),(86,(.str ((nth r.pkgs i).name))),(91,(.own 2))],[(0,(.row [(.int .i64 st.kind),(.own 1),(.own 2),(.map 3)] 75)),(1,(.grow (st.repos.map Bd) 59 4)),(2,(.grow ((Aw st r i).map Be) 78 13)),(3,(.mm (Bb (Aw st r i)) none 3 1)),(4,(.row [(.str r.name),(.int .i64 r.prio),(.bool r.inst),(Aj 12 Ar r.pkgs)] 59))],6⟩ ?_ (fun m1_13=>?_)
         ·refine Ck 12 17 (by kernel_rfl) ?_ ?_
          ·refine Cs (fuel:=4) 12 rfl ?_;refine Fp (b:=3) (s:=(nth r.pkgs i).name) (y:=⟨[(0,(.ptr 0 0)),(3,(.ptr 4 0)),(9,(.fp (Ar (nth r.pkgs i)))),(69,(Aj 12 Ar r.pkgs)),(70,(.int .i64 ((r.pkgs.length:Int)))),(71,(.int .i64 ((i:Int)))),(78,(.map 3)),(80,(.str ((nth r.pkgs i).name))),(84,(.map 3)),(86,(.str ((nth r.pkgs i).name))),(91,(.own 2)),(87,(.own 6))],[(0,(.row [(.int .i64 st.kind),(.own 1),(.own 2),(.map 3)] 75)),(1,(.grow (st.repos.map Bd) 59 4)),(2,(.grow ((Aw st r i).map Be) 78 13)),(3,(.mm (Bb (Aw st r i)) (some ((nth r.pkgs i).name)) 3 1)),(4,(.row [(.str r.name),(.int .i64 r.prio),(.bool r.inst),(Aj 12 Ar r.pkgs)] 59)),(6,(.grow ((Bb (Aw st r i)) ((nth r.pkgs i).name)) 3 1))],7⟩) (by kernel_rfl) (by kernel_rfl) (by kernel_rfl) Tryz.underlying73 Tryz.underlying9 (fun _=>by kernel_rfl) (by kernel_rfl) ?_;refine Br ⟨rfl,?_⟩;refine Ay [0,3,9,69,70,71,78,80,87,91] ?_;exact A8 m1_7
          ·refine A9 (fuel:=4) 17 [] A1 ?_;refine Ay [0,3,9,69,70,71,78,80,84,86,92] ?_;exact A8 m1_8
         refine Ch true 5 (lsD 21 [0,1,2,3,4,5,6,7,8,10,11,13,14,15,16,17]) ⟨[(0,(.ptr 0 0)),(3,(.ptr 4 0)),(9,(.fp (Ar (nth r.pkgs i)))),(69,(Aj 12 Ar r.pkgs)),(70,(.int .i64 ((r.pkgs.length:Int)))),(71,(.int .i64 ((i:Int)))),(78,(.map 3)),(80,(.str ((nth r.pkgs i).name))),(83,(.ptr 0 3)),(86,(.str ((nth r.pkgs i).name))),(92,(.int .i64 ((((Aw st r i).map Be).length:Int))))],[(0,(.row [(.int .i64 st.kind),(.own 1),(.own 2),(.map 3)] 75)),(1,(.grow (st.repos.map Bd) 59 4)),(2,(.grow ((Aw st r i).map Be) 78 13)),(3,(.mm (Bb (Aw st r i)) none 3 1)),(4,(.row [(.str r.name),(.int .i64 r.prio),(.bool r.inst),(Aj 12 Ar r.pkgs)] 59))],6⟩ ?_ (fun m1_14=>?_)
         ·refine Ck 9 18 (by kernel_rfl) ?_ ?_
          ·refine A9 (fuel:=4) 9 [] A1 ?_;refine Ay [0,3,9,69,70,71,78,80,84,86,92] ?_;exact A8 m1_8
          ·refine A9 (fuel:=4) 18 [] A1 ?_;refine Ay [0,3,9,69,70,71,78,80,83,86,93] ?_;exact A8 m1_9
         refine Ch false 5 (lsD 21 [0,1,2,4,5,6,7,8,9,10,11,12,13,14,15,16]) ⟨[(0,(.ptr 0 0)),(3,(.ptr 4 0)),(9,(.fp (Ar (nth r.pkgs i)))),(69,(Aj 12 Ar r.pkgs)),(70,(.int .i64 ((r.pkgs.length:Int)))),(71,(.int .i64 ((i:Int)))),(77,(.ptr 0 3)),(80,(.str ((nth r.pkgs i).name))),(87,(.own 6)),(91,(.own 2))],[(0,(.row [(.int .i64 st.kind),(.own 1),(.own 2),(.map 3)] 75)),(1,(.grow (st.repos.map Bd) 59 4)),(2,(.grow ((Aw st r i).map Be) 78 13)),(3,(.mm (Bb (Aw st r i)) (some ((nth r.pkgs i).name)) 3 1)),(4,(.row [(.str r.name),(.int .i64 r.prio),(.bool r.inst),(Aj 12 Ar r.pkgs)] 59)),(6,(.grow ((Bb (Aw st r i)) ((nth r.pkgs i).name)) 3 1))],7⟩ ?_ (fun m1_15=>?_)
         ·refine Ck 3 17 (by kernel_rfl) ?_ ?_
          ·refine A9 (fuel:=4) 3 [] A1 ?_;refine Ay [0,3,9,69,70,71,78,80,87,91] ?_;exact A8 m1_7
          ·refine A9 (fuel:=4) 17 [] A1 ?_;refine Ay [0,3,9,69,70,71,77,80,87,92] ?_;exact A8 m1_10
         refine Ch true 5 (lsD 21 [0,1,2,4,5,6,7,8,9,10,11,13,14,15,16,17]) ⟨[(0,(.ptr 0 0)),(3,(.ptr 4 0)),(9,(.fp (Ar (nth r.pkgs i)))),(69,(Aj 12 Ar r.pkgs)),(70,(.int .i64 ((r.pkgs.length:Int)))),(71,(.int .i64 ((i:Int)))),(77,(.ptr 0 3)),(80,(.str ((nth r.pkgs i).name))),(84,(.map 3)),(86,(.str ((nth r.pkgs i).name))),(92,(.int .i64 ((((Aw st r i).map Be).length:Int))))],[(0,(.row [(.int .i64 st.kind),(.own 1),(.own 2),(.map 3)] 75)),(1,(.grow (st.repos.map Bd) 59 4)),(2,(.grow ((Aw st r i).map Be) 78 13)),(3,(.mm (Bb (Aw st r i)) none 3 1)),(4,(.row [(.str r.name),(.int .i64 r.prio),(.bool r.inst),(Aj 12 Ar r.pkgs)] 59))],6⟩ ?_ (fun m1_16=>?_)
         ·refine Gp 3 12 18 (by kernel_rfl) ?_ ?_ ?_
          ·refine A9 (fuel:=4) 3 [] A1 ?_;refine Ay [0,3,9,69,70,71,78,80,84,86,92] ?_;exact A8 m1_8
          ·refine Cs (fuel:=4) 12 rfl ?_;refine Fp (b:=3) (s:=(nth r.pkgs i).name) (y:=⟨[(0,(.ptr 0 0)),(3,(.ptr 4 0)),(9,(.fp (Ar (nth r.pkgs i)))),(69,(Aj 12 Ar r.pkgs)),(70,(.int .i64 ((r.pkgs.length:Int)))),(71,(.int .i64 ((i:Int)))),(77,(.ptr 0 3)),(80,(.str ((nth r.pkgs i).name))),(84,(.map 3)),(86,(.str ((nth r.pkgs i).name))),(92,(.int .i64 ((((Aw st r i).map Be).length:Int)))),(87,(.own 6))],[(0,(.row [(.int .i64 st.kind),(.own 1),(.own 2),(.map 3)] 75)),(1,(.grow (st.repos.map Bd) 59 4)),(2,(.grow ((Aw st r i).map Be) 78 13)),(3,(.mm (Bb (Aw st r i)) (some ((nth r.pkgs i).name)) 3 1)),(4,(.row [(.str r.name),(.int .i64 r.prio),(.bool r.inst),(Aj 12 Ar r.pkgs)] 59)),(6,(.grow ((Bb (Aw st r i)) ((nth r.pkgs i).name)) 3 1))],7⟩) (by kernel_rfl) (by kernel_rfl) (by kernel_rfl) Tryz.underlying73 Tryz.underlying9 (fun _=>by kernel_rfl) (by kernel_rfl) ?_;refine Br ⟨rfl,?_⟩;refine Ay [0,3,9,69,70,71,77,80,87,92] ?_;exact A8 m1_10
          ·refine A9 (fuel:=4) 18 [] A1 ?_;refine Ay [0,3,9,69,70,71,77,80,84,86,93] ?_;exact A8 m1_11
         refine Ch true 6 (lsD 21 [0,1,2,3,4,5,6,7,8,9,10,11,13,14,15]) ⟨[(0,(.ptr 0 0)),(3,(.ptr 4 0)),(9,(.fp (Ar (nth r.pkgs i)))),(69,(Aj 12 Ar r.pkgs)),(70,(.int .i64 ((r.pkgs.length:Int)))),(71,(.int .i64 ((i:Int)))),(78,(.map 3)),(80,(.str ((nth r.pkgs i).name))),(84,(.map 3)),(86,(.str ((nth r.pkgs i).name))),(90,(.ptr 0 2))],[(0,(.row [(.int .i64 st.kind),(.own 1),(.own 2),(.map 3)] 75)),(1,(.grow (st.repos.map Bd) 59 4)),(2,(.grow ((Aw st r i).map Be) 78 13)),(3,(.mm (Bb (Aw st r i)) none 3 1)),(4,(.row [(.str r.name),(.int .i64 r.prio),(.bool r.inst),(Aj 12 Ar r.pkgs)] 59))],6⟩ ?_ (fun m1_17=>?_)
         ·refine Ck 12 16 (by kernel_rfl) ?_ ?_
          ·refine Cs (fuel:=5) 12 rfl ?_;refine Fp (b:=3) (s:=(nth r.pkgs i).name) (y:=⟨[(0,(.ptr 0 0)),(3,(.ptr 4 0)),(9,(.fp (Ar (nth r.pkgs i)))),(69,(Aj 12 Ar r.pkgs)),(70,(.int .i64 ((r.pkgs.length:Int)))),(71,(.int .i64 ((i:Int)))),(78,(.map 3)),(80,(.str ((nth r.pkgs i).name))),(84,(.map 3)),(86,(.str ((nth r.pkgs i).name))),(90,(.ptr 0 2)),(87,(.own 6))],[(0,(.row [(.int .i64 st.kind),(.own 1),(.own 2),(.map 3)] 75)),(1,(.grow (st.repos.map Bd) 59 4)),(2,(.grow ((Aw st r i).map Be) 78 13)),(3,(.mm (Bb (Aw st r i)) (some ((nth r.pkgs i).name)) 3 1)),(4,(.row [(.str r.name),(.int .i64 r.prio),(.bool r.inst),(Aj 12 Ar r.pkgs)] 59)),(6,(.grow ((Bb (Aw st r i)) ((nth r.pkgs i).name)) 3 1))],7⟩) (by kernel_rfl) (by kernel_rfl) (by kernel_rfl) Tryz.underlying73 Tryz.underlying9 (fun _=>by kernel_rfl) (by kernel_rfl) ?_;refine Br ⟨rfl,?_⟩;refine Ay [0,3,9,69,70,71,78,80,87,90] ?_;exact A8 m1_12
          ·refine A9 (fuel:=5) 16 [] A1 ?_;refine Ay [0,3,9,69,70,71,78,80,84,86,91] ?_;exact A8 m1_13
         refine Ch true 6 (lsD 21 [0,1,2,3,4,5,6,7,8,10,11,13,14,15,16]) ⟨[(0,(.ptr 0 0)),(3,(.ptr 4 0)),(9,(.fp (Ar (nth r.pkgs i)))),(69,(Aj 12 Ar r.pkgs)),(70,(.int .i64 ((r.pkgs.length:Int)))),(71,(.int .i64 ((i:Int)))),(78,(.map 3)),(80,(.str ((nth r.pkgs i).name))),(83,(.ptr 0 3)),(86,(.str ((nth r.pkgs i).name))),(91,(.own 2))],[(0,(.row [(.int .i64 st.kind),(.own 1),(.own 2),(.map 3)] 75)),(1,(.grow (st.repos.map Bd) 59 4)),(2,(.grow ((Aw st r i).map Be) 78 13)),(3,(.mm (Bb (Aw st r i)) none 3 1)),(4,(.row [(.str r.name),(.int .i64 r.prio),(.bool r.inst),(Aj 12 Ar r.pkgs)] 59))],6⟩ ?_ (fun m1_18=>?_)
         ·refine Ck 9 17 (by kernel_rfl) ?_ ?_
          ·refine A9 (fuel:=5) 9 [] A1 ?_;refine Ay [0,3,9,69,70,71,78,80,84,86,91] ?_;exact A8 m1_13
          ·refine A9 (fuel:=5) 17 [] A1 ?_;refine Ay [0,3,9,69,70,71,78,80,83,86,92] ?_;exact A8 m1_14
         refine Ch true 6 (lsD 21 [0,1,2,4,5,6,7,8,9,10,11,13,14,15,16]) ⟨[(0,(.ptr 0 0)),(3,(.ptr 4 0)),(9,(.fp (Ar (nth r.pkgs i)))),(69,(Aj 12 Ar r.pkgs)),(70,(.int .i64 ((r.pkgs.length:Int)))),(71,(.int .i64 ((i:Int)))),(77,(.ptr 0 3)),(80,(.str ((nth r.pkgs i).name))),(84,(.map 3)),(86,(.str ((nth r.pkgs i).name))),(91,(.own 2))],[(0,(.row [(.int .i64 st.kind),(.own 1),(.own 2),(.map 3)] 75)),(1,(.grow (st.repos.map Bd) 59 4)),(2,(.grow ((Aw st r i).map Be) 78 13)),(3,(.mm (Bb (Aw st r i)) none 3 1)),(4,(.row [(.str r.name),(.int .i64 r.prio),(.bool r.inst),(Aj 12 Ar r.pkgs)] 59))],6⟩ ?_ (fun m1_19=>?_)
         ·refine Gp 3 12 17 (by kernel_rfl) ?_ ?_ ?_
          ·refine A9 (fuel:=5) 3 [] A1 ?_;refine Ay [0,3,9,69,70,71,78,80,84,86,91] ?_;exact A8 m1_13
          ·refine Cs (fuel:=5) 12 rfl ?_;refine Fp (b:=3) (s:=(nth r.pkgs i).name) (y:=⟨[(0,(.ptr 0 0)),(3,(.ptr 4 0)),(9,(.fp (Ar (nth r.pkgs i)))),(69,(Aj 12 Ar r.pkgs)),(70,(.int .i64 ((r.pkgs.length:Int)))),(71,(.int .i64 ((i:Int)))),(77,(.ptr 0 3)),(80,(.str ((nth r.pkgs i).name))),(84,(.map 3)),(86,(.str ((nth r.pkgs i).name))),(91,(.own 2)),(87,(.own 6))],[(0,(.row [(.int .i64 st.kind),(.own 1),(.own 2),(.map 3)] 75)),(1,(.grow (st.repos.map Bd) 59 4)),(2,(.grow ((Aw st r i).map Be) 78 13)),(3,(.mm (Bb (Aw st r i)) (some ((nth r.pkgs i).name)) 3 1)),(4,(.row [(.str r.name),(.int .i64 r.prio),(.bool r.inst),(Aj 12 Ar r.pkgs)] 59)),(6,(.grow ((Bb (Aw st r i)) ((nth r.pkgs i).name)) 3 1))],7⟩) (by kernel_rfl) (by kernel_rfl) (by kernel_rfl) Tryz.underlying73 Tryz.underlying9 (fun _=>by kernel_rfl) (by kernel_rfl) ?_;refine Br ⟨rfl,?_⟩;refine Ay [0,3,9,69,70,71,77,80,87,91] ?_;exact A8 m1_15
          ·refine A9 (fuel:=5) 17 [] A1 ?_;refine Ay [0,3,9,69,70,71,77,80,84,86,92] ?_;exact A8 m1_16
         refine C3 (fuel:=8) [] [0,1,2,4,5,6,7,8,10,11,13,14,15] [0,3,9,69,70,71,77,80,83,86,90] A1 ?_;refine Gp 3 9 16 (by kernel_rfl) ?_ ?_ ?_
         ·refine A9 (fuel:=7) 3 [] A1 ?_;refine Ay [0,3,9,69,70,71,78,80,83,86,90] ?_;refine Ck 9 16 (by kernel_rfl) ?_ ?_
          ·refine A9 (fuel:=6) 9 [] A1 ?_;refine Ay [0,3,9,69,70,71,78,80,84,86,90] ?_;exact A8 m1_17
          ·refine A9 (fuel:=6) 16 [] A1 ?_;refine Ay [0,3,9,69,70,71,78,80,83,86,91] ?_;exact A8 m1_18
         ·refine A9 (fuel:=7) 9 [] A1 ?_;refine Ay [0,3,9,69,70,71,77,80,84,86,90] ?_;refine Gp 3 12 16 (by kernel_rfl) ?_ ?_ ?_
          ·refine A9 (fuel:=6) 3 [] A1 ?_;refine Ay [0,3,9,69,70,71,78,80,84,86,90] ?_;exact A8 m1_17
          ·refine Cs (fuel:=6) 12 rfl ?_;refine Fp (b:=3) (s:=(nth r.pkgs i).name) (y:=⟨[(0,(.ptr 0 0)),(3,(.ptr 4 0)),(9,(.fp (Ar (nth r.pkgs i)))),(69,(Aj 12 Ar r.pkgs)),(70,(.int .i64 ((r.pkgs.length:Int)))),(71,(.int .i64 ((i:Int)))),(77,(.ptr 0 3)),(80,(.str ((nth r.pkgs i).name))),(84,(.map 3)),(86,(.str ((nth r.pkgs i).name))),(90,(.ptr 0 2)),(87,(.own 6))],[(0,(.row [(.int .i64 st.kind),(.own 1),(.own 2),(.map 3)] 75)),(1,(.grow (st.repos.map Bd) 59 4)),(2,(.grow ((Aw st r i).map Be) 78 13)),(3,(.mm (Bb (Aw st r i)) (some ((nth r.pkgs i).name)) 3 1)),(4,(.row [(.str r.name),(.int .i64 r.prio),(.bool r.inst),(Aj 12 Ar r.pkgs)] 59)),(6,(.grow ((Bb (Aw st r i)) ((nth r.pkgs i).name)) 3 1))],7⟩) (by kernel_rfl) (by kernel_rfl) (by kernel_rfl) Tryz.underlying73 Tryz.underlying9 (fun _=>by kernel_rfl) (by kernel_rfl) ?_;refine Br ⟨rfl,?_⟩;refine Ay [0,3,9,69,70,71,77,80,87,90] ?_;refine Ck 3 16 (by kernel_rfl) ?_ ?_
           ·refine A9 (fuel:=5) 3 [] A1 ?_;refine Ay [0,3,9,69,70,71,78,80,87,90] ?_;exact A8 m1_12
           ·refine A9 (fuel:=5) 16 [] A1 ?_;refine Ay [0,3,9,69,70,71,77,80,87,91] ?_;exact A8 m1_15
          ·refine A9 (fuel:=6) 16 [] A1 ?_;refine Ay [0,3,9,69,70,71,77,80,84,86,91] ?_;exact A8 m1_19
         ·refine A9 (fuel:=7) 16 [] A1 ?_;refine Ay [0,3,9,69,70,71,77,80,83,86,91] ?_;refine Gp 3 9 17 (by kernel_rfl) ?_ ?_ ?_
          ·refine A9 (fuel:=6) 3 [] A1 ?_;refine Ay [0,3,9,69,70,71,78,80,83,86,91] ?_;exact A8 m1_18
          ·refine A9 (fuel:=6) 9 [] A1 ?_;refine Ay [0,3,9,69,70,71,77,80,84,86,91] ?_;exact A8 m1_19
          ·refine A9 (fuel:=6) 17 [] A1 ?_;refine Ay [0,3,9,69,70,71,77,80,83,86,92] ?_;refine Gp 3 9 18 (by kernel_rfl) ?_ ?_ ?_
           ·refine A9 (fuel:=5) 3 [] A1 ?_;refine Ay [0,3,9,69,70,71,78,80,83,86,92] ?_;exact A8 m1_14
           ·refine A9 (fuel:=5) 9 [] A1 ?_;refine Ay [0,3,9,69,70,71,77,80,84,86,92] ?_;exact A8 m1_16
           ·refine A9 (fuel:=5) 18 [] A1 ?_;refine Ay [0,3,9,69,70,71,77,80,83,86,93] ?_;refine Ck 3 9 (by kernel_rfl) ?_ ?_
            ·refine A9 (fuel:=4) 3 [] A1 ?_;refine Ay [0,3,9,69,70,71,78,80,83,86,93] ?_;exact A8 m1_9
            ·refine A9 (fuel:=4) 9 [] A1 ?_;refine Ay [0,3,9,69,70,71,77,80,84,86,93] ?_;exact A8 m1_11
        ·rintro y3 rfl;refine G9 [] [0,3,69,70,71] [] (hk 6 Q35 (Q5a (nth r.pkgs i) (by have:=(nth r.pkgs i).sizes;have:=hp i (by omega);omega) (by have:=(nth r.pkgs i).sizes;have:=Kp (nth r.pkgs i).files;have:=hp i (by omega);omega))<|hk0) v0 (cc 14 (p:=((((Aw st r i).map Be).length+1)*264≤140737488355328)) (by omega)<|c0) ?_
         refine⟨by kernel_rfl,(Eq.trans (b:=(⟨[(0,(.ptr 0 0)),(3,(.ptr 4 0)),(69,(Aj 12 Ar r.pkgs)),(70,(.int .i64 ((r.pkgs.length:Int)))),(71,(.int .i64 ((i:Int))))],[(0,(.row [(.int .i64 st.kind),(.own 1),(.own 2),(.map 3)] 75)),(1,(.grow (st.repos.map Bd) 59 4)),(2,(.grow (((Aw st r i).map Be)++([(.agg [(.str ((nth r.pkgs i).name)),(.str ((nth r.pkgs i).evr)),(.str ((nth r.pkgs i).arch)),(.str ((nth r.pkgs i).vendor)),(Aj 5 Ap ((nth r.pkgs i).provides)),(Aj 5 Ap ((nth r.pkgs i).requires)),(Aj 5 Ap ((nth r.pkgs i).pre)),(Aj 5 Ap ((nth r.pkgs i).conflicts)),(Aj 5 Ap ((nth r.pkgs i).obsoletes)),(Aj 5 Ap ((nth r.pkgs i).recommends)),(Aj 5 Ap ((nth r.pkgs i).supplements)),(B3 ((nth r.pkgs i).files)),(.int .i64 (((st.repos.map Bd).length:Int)))])]:List AV)) 78 13)),(3,(.mm (Bb (Aw st r i++[(nth r.pkgs i,(st.repos.length:Int))])) none 3 1)),(4,(.row [(.str r.name),(.int .i64 r.prio),(.bool r.inst),(Aj 12 Ar r.pkgs)] 59))],5⟩:St)) (by kernel_rfl) (by rw[show(((Aw st r i).map Be)++([(.agg [(.str ((nth r.pkgs i).name)),(.str ((nth r.pkgs i).evr)),(.str ((nth r.pkgs i).arch)),(.str ((nth r.pkgs i).vendor)),(Aj 5 Ap ((nth r.pkgs i).provides)),(Aj 5 Ap ((nth r.pkgs i).requires)),(Aj 5 Ap ((nth r.pkgs i).pre)),(Aj 5 Ap ((nth r.pkgs i).conflicts)),(Aj 5 Ap ((nth r.pkgs i).obsoletes)),(Aj 5 Ap ((nth r.pkgs i).recommends)),(Aj 5 Ap ((nth r.pkgs i).supplements)),(B3 ((nth r.pkgs i).files)),(.int .i64 (((st.repos.map Bd).length:Int)))])]:List AV))=(Aw st r i++[(nth r.pkgs i,(st.repos.length:Int))]).map Be from by rw[List.map_append,List.length_map];rfl]<;>kernel_rfl))⟩
       ·rintro y2 rfl;refine An (Av 0 [] [0,3,69,70,71] [] hk0 v0 (cc 0 (p:=(-9223372036854775808≤(i:Int)+1∧(i:Int)+1≤9223372036854775807)) (by omega)<|c0) ?_);refine⟨by kernel_rfl,_,?_,i+1,?_,(Eq.trans (b:=(⟨[(0,(.ptr 0 0)),(3,(.ptr 4 0)),(69,(Aj 12 Ar r.pkgs)),(70,(.int .i64 ((r.pkgs.length:Int)))),(71,(.int .i64 ((i:Int)+1)))],[(0,(.row [(.int .i64 st.kind),(.own 1),(.own 2),(.map 3)] 75)),(1,(.grow (st.repos.map Bd) 59 4)),(2,(.grow ((Aw st r i++[(nth r.pkgs i,(st.repos.length:Int))]).map Be) 78 13)),(3,(.mm (Bb (Aw st r i++[(nth r.pkgs i,(st.repos.length:Int))])) none 3 1)),(4,(.row [(.str r.name),(.int .i64 r.prio),(.bool r.inst),(Aj 12 Ar r.pkgs)] 59))],5⟩:St)) (by kernel_rfl) (by rw[←X4m (by omega)]<;>kernel_rfl)),rfl⟩
        ·omega
        ·omega
      ·refine Bp (Aa [] [0,3] ?_);refine C8 (fun y=>y=⟨[],[(0,(.row [(.int .i64 st.kind),(.own 1),(.own 2),(.map 3)] 75)),(1,(.grow ((st.repos++[r]).map Bd) 59 4)),(2,(.grow ((Aw st r i).map Be) 78 13)),(3,(.mm (Bb (Aw st r i)) none 3 1)),(4,(.row [(.str r.name),(.int .i64 r.prio),(.bool r.inst),.nils] 59))],5⟩) [] 5 (by omega) ?_ ?_
       ·refine G9 [] [] [] hk0 v0 (cc 7 (p:=(((st.repos.map Bd).length+1)*56≤140737488355328)) (by omega)<|c0) ?_;refine⟨by kernel_rfl,(Eq.trans (b:=(⟨[],[(0,(.row [(.int .i64 st.kind),(.own 1),(.own 2),(.map 3)] 75)),(1,(.grow ((st.repos.map Bd)++([(.agg [(.str r.name),(.int .i64 r.prio),(.bool r.inst),.nils])]:List AV)) 59 4)),(2,(.grow ((Aw st r i).map Be) 78 13)),(3,(.mm (Bb (Aw st r i)) none 3 1)),(4,(.row [(.str r.name),(.int .i64 r.prio),(.bool r.inst),.nils] 59))],5⟩:St)) (by kernel_rfl) (by rw[show((st.repos.map Bd)++([(.agg [(.str r.name),(.int .i64 r.prio),(.bool r.inst),.nils])]:List AV))=(st.repos++[r]).map Bd from by rw[List.map_append];rfl]<;>kernel_rfl))⟩
       ·rintro y4 rfl;refine Aa [] [4] ?_;refine Ae ?_;refine Ej (.inl rfl) (al:=[(.int .i64 0)]) (by kernel_rfl) ?_ ((by kernel_rfl:C6 4 _=some [(0,(.row [(.int .i64 st.kind),(.own 1),(.own 2),(.map 3)] 75)),(1,(.grow ((st.repos++[r]).map Bd) 59 4)),(2,(.grow ((Aw st r i).map Be) 78 13)),(3,(.mm (Bb (Aw st r i)) none 3 1))]).trans ?_)
        all_goals have hE:Cm st r=0:=by unfold Cm;rw[if_neg (by simp only[not_or];simp_all),if_neg (by rintro⟨h1,h2⟩;rw[h1,h2] at c2;simp at c2),if_neg (by omega)];exact Q3e fun j hj=>f1_2 j (by omega)
        ·rw[hE];rfl
        ·unfold Ci;rw[if_pos hE,show i=r.pkgs.length from by omega]
end Sv
end
section
open Go Go.RowKit
namespace Sv
attribute [local irreducible] SW SO Bk
set_option maxHeartbeats 1000000
set_option maxRecDepth 100000
theorem X7l:Ak Tryz.prog 20:=Ao Tryz.func20 (by kernel_rfl) rfl
noncomputable def atX (p:Int × Int):AV:=.agg [.int .i64 p.1,.int .i64 p.2]
def C0 (pl:List (Int × Int)) (st:PoolT) (r:RepoT) (i:Nat):List (Int × Int):=pl++(List.range i).map fun (k:Nat)=>((st.repos.length:Int),(k:Int))
def Fb (pl:List (Int × Int)) (st:PoolT) (r:RepoT):List (Int × Int):=if Cm st r=0 then C0 pl st r r.pkgs.length else pl
theorem Pk {pl:List (Int × Int)} {st:PoolT} {r:RepoT} {e:Int} (h:Cm st r=e) (he:e≠0):Fb pl st r=pl:=by unfold Fb;rw[if_neg (by rw[h];exact he)]
theorem Y0o {pl:List (Int × Int)} {st:PoolT} {r:RepoT} {i:Nat}:C0 pl st r (i+1)=C0 pl st r i++[((st.repos.length:Int),(i:Int))]:=by
 unfold C0;rw[List.range_succ,List.map_append,List.append_assoc];rfl
theorem Y0p {pl:List (Int × Int)} {st:PoolT} {r:RepoT} {i:Nat}:(C0 pl st r i).length=pl.length+i:=by unfold C0;simp
theorem Q56 {α:Type} [Inhabited α] {p:α→Bool} {l:List α} {i:Nat} (hi:i < l.length) (h:p (nth l i)=true):l.any p=true:=by
 rw[List.any_eq_true];exact⟨nth l i,by simp[nth,hi],h⟩
theorem Ly {α:Type} [Inhabited α] {p:α→Bool} {l:List α} (h:∀i,i < l.length→p (nth l i)=false):l.any p=false:=by
 rw[List.any_eq_false];intro x hx;obtain⟨j,hj,rfl⟩:=List.getElem_of_mem hx;have:=h j hj;simpa [nth,hj] using this
theorem X08 (st:PoolT) (pl:List (Int × Int)) (r:RepoT) (hr:st.repos.length≤8) (ha:st.all.length≤200) (hpa:pl.length=st.all.length) (hn:r.name.length≤4194304) (hpl:r.pkgs.length≤4194304) (hp:∀i,i < r.pkgs.length→(nth r.pkgs i).size≤4194304) :
  F6 Tryz.prog 20 [(.ptr 0 0),(.agg [(.str r.name),(.int .i64 r.prio),(.bool r.inst),(Aj 12 Ar r.pkgs)])] [(0,(.row [(.int .i64 st.kind),(.own 1),(.own 2)] 87)),(1,(.grow (st.repos.map Bg) 59 4)),(2,(.grow (pl.map atX) 91 2))] 3 (.int .i64 (Cm st r)) [(0,(.row [(.int .i64 ((Ci st r).kind)),(.own 1),(.own 2)] 87)),(1,(.grow ((Ci st r).repos.map Bg) 59 4)),(2,(.grow ((Fb pl st r).map atX) 91 2))]:=by
 have hml:(st.repos.map Bg).length=st.repos.length:=List.length_map _;have hma:(pl.map atX).length=pl.length:=List.length_map _;refine L8 [.tmp 4] Tryz.func20 rfl Tryz.ntmps20 rfl rfl (by kernel_rfl) (by kernel_rfl) (by kernel_rfl) (fun B F hF=>?_);refine Ad [] [0,3] [(1,3)] hk0 v0 c0 ?_;refine Ad [] [0,3,5] [] (hk 2 Ls (Mm r.name (by omega))<|hk0) v0 c0 ?_;refine Ab (Aa [] [0,3,15] ?_);refine A5 (q:=!(Bh r.name)) (by kernel_rfl) (fun c1=>?_) (fun c1=>?_)
 ·try simp only[Ai] at c1
  refine Aa [] [4] ?_;refine Ae ?_;refine Ej (.inl rfl) (al:=[(.int .i64 66)]) (by kernel_rfl) ?_ ((by kernel_rfl:C6 3 _=some [(0,(.row [(.int .i64 st.kind),(.own 1),(.own 2)] 87)),(1,(.grow (st.repos.map Bg) 59 4)),(2,(.grow (pl.map atX) 91 2))]).trans ?_)
  all_goals have hE:Cm st r=66:=by unfold Cm;rw[if_pos (.inl c1)]
  ·rw[hE];rfl
  ·rw[J5 hE (by decide),Pk hE (by decide)]
 ·try simp only[Ai] at c1
  refine Ag ?_;refine Ab (Aa [] [0,3,6] ?_);refine Az (Bx (fun g y=>∃(i:Nat),i≤st.repos.length∧(∀j,j < i→¬(nth st.repos j).name=r.name)∧y=⟨[(0,(.ptr 0 0)),(3,(.fp (.agg [(.str r.name),(.int .i64 r.prio),(.bool r.inst),(Aj 12 Ar r.pkgs)]))),(6,(.int .i64 ((i:Int))))],[(0,(.row [(.int .i64 st.kind),(.own 1),(.own 2)] 87)),(1,(.grow (st.repos.map Bg) 59 4)),(2,(.grow (pl.map atX) 91 2))],4⟩∧g=st.repos.length-i) [0,3,6] 4 _ (by omega) ⟨0,(by omega),(by exact fun j hj=>by omega),(by kernel_rfl),rfl⟩ ?_);rintro g1 y1 ⟨i,f1_1,f1_2,rfl,rfl⟩;refine Ab (Aa [] [0,3,6,22] ?_);refine Ax (p:=(i:Int) < ((st.repos.map Bg).length:Int)) (by kernel_rfl) (fun c2=>?_) (fun c2=>?_)
  ·refine Ag (Ab ?_);refine Az (Ab ?_);refine Ja (by kernel_rfl) (fun F1 hF1=>?_);refine C3 (fuel:=5) [] [0,1,2,4,8,9] [0,3,6,27,29,34] A1 ?_;refine Db (fuel:=4) 3 [] A1 ?_;refine Ev (fuel:=3) 5 (by kernel_rfl) ?_;refine Cs (fuel:=3) 5 rfl ?_;refine Jc (b:=1) (i:=i) (es:=st.repos.map Bg) (e:=59) (sz:=4) (k:=.i64) (s':=[(0,(.ptr 0 0)),(3,(.fp (.agg [(.str r.name),(.int .i64 r.prio),(.bool r.inst),(Aj 12 Ar r.pkgs)]))),(6,(.int .i64 ((i:Int)))),(27,(.ptr 0 1)),(29,(.int .i64 ((i:Int)))),(34,(.str r.name)),(28,(.own 1)),(30,(.op 1 (i*4)))]) (by kernel_rfl) (by kernel_rfl) (by kernel_rfl) (by kernel_rfl) (by kernel_rfl) (by kernel_rfl) (by(rw[List.length_map];omega)) (by kernel_rfl) ?_;refine Br ⟨rfl,?_⟩;refine Ev (fuel:=2) 6 (by kernel_rfl) ?_;refine Cs (fuel:=2) 6 rfl ?_;refine W0 (b:=1) (o:=i*4) (off:=0) (s':=[(0,(.ptr 0 0)),(3,(.fp (.agg [(.str r.name),(.int .i64 r.prio),(.bool r.inst),(Aj 12 Ar r.pkgs)]))),(6,(.int .i64 ((i:Int)))),(27,(.ptr 0 1)),(29,(.int .i64 ((i:Int)))),(34,(.str r.name)),(28,(.own 1)),(30,(.op 1 (i*4))),(31,(.op 1 (i*4+0)))]) (by kernel_rfl) (by kernel_rfl) (by kernel_rfl) (by kernel_rfl) ?_;refine Br ⟨rfl,?_⟩
   refine Ev (fuel:=1) 7 (by kernel_rfl) ?_;refine Cs (fuel:=1) 7 rfl ?_;refine S5 (b:=1) (e:=59) (sz:=4) (es:=st.repos.map Bg) (o:=i*4+0) (i:=i) (j:=0) (a:=(.agg [(.str ((nth st.repos i).name)),(.int .i64 ((nth st.repos i).prio)),(.bool ((nth st.repos i).inst)),(Aj 12 Ar ((nth st.repos i).pkgs))])) (r:=(.str ((nth st.repos i).name))) (s':=[(0,(.ptr 0 0)),(3,(.fp (.agg [(.str r.name),(.int .i64 r.prio),(.bool r.inst),(Aj 12 Ar r.pkgs)]))),(6,(.int .i64 ((i:Int)))),(27,(.ptr 0 1)),(29,(.int .i64 ((i:Int)))),(34,(.str r.name)),(28,(.own 1)),(30,(.op 1 (i*4))),(31,(.op 1 (i*4+0))),(32,(.str ((nth st.repos i).name)))]) (by kernel_rfl) (by kernel_rfl) rfl (by kernel_rfl) (Rz (l:=st.repos) Bg (by omega)) (by kernel_rfl) (by kernel_rfl) ?_;refine Br ⟨rfl,?_⟩;refine C3 (fuel:=0) [] [10] [0,3,6,35] A1 ?_;refine Ay [0,3,6,35] ?_;refine Hy (by kernel_rfl) ?_;refine Ax (p:=(nth st.repos i).name=r.name) (by kernel_rfl) (fun c3=>?_) (fun c3=>?_)
   ·refine Aa [] [4] ?_;refine Ae ?_;refine Ej (.inl rfl) (al:=[(.int .i64 66)]) (by kernel_rfl) ?_ ((by kernel_rfl:C6 3 _=some [(0,(.row [(.int .i64 st.kind),(.own 1),(.own 2)] 87)),(1,(.grow (st.repos.map Bg) 59 4)),(2,(.grow (pl.map atX) 91 2))]).trans ?_)
    all_goals have hE:Cm st r=66:=by unfold Cm;rw[if_pos (.inr (Q56 (i:=i) (by omega) (decide_eq_true (by assumption))))]
    ·rw[hE];rfl
    ·rw[J5 hE (by decide),Pk hE (by decide)]
   ·refine Ag ?_;refine An (Av 0 [] [0,3,6] [] hk0 v0 (cc 1 (p:=(-9223372036854775808≤(i:Int)+1∧(i:Int)+1≤9223372036854775807)) (by omega)<|c0) ?_);refine⟨by kernel_rfl,_,?_,i+1,?_,?_,(by kernel_rfl),rfl⟩
    ·omega
    ·omega
    ·intro j hj;by_cases h:j=i
     ·subst h;assumption
     ·exact f1_2 j (by omega)
  ·refine Bp ?_;refine Ab (Aa [] [0,3,7] ?_);refine Az (Bx (fun g y=>∃(i:Nat),i≤st.repos.length∧(∀j,j < i→(r.inst&&(nth st.repos j).inst)=false)∧y=⟨[(0,(.ptr 0 0)),(3,(.fp (.agg [(.str r.name),(.int .i64 r.prio),(.bool r.inst),(Aj 12 Ar r.pkgs)]))),(7,(.int .i64 ((i:Int))))],[(0,(.row [(.int .i64 st.kind),(.own 1),(.own 2)] 87)),(1,(.grow (st.repos.map Bg) 59 4)),(2,(.grow (pl.map atX) 91 2))],4⟩∧g=st.repos.length-i) [0,3,7] 4 _ (by omega) ⟨0,(by omega),(by exact fun j hj=>by omega),(by kernel_rfl),rfl⟩ ?_);rintro g2 y2 ⟨i,f2_1,f2_2,rfl,rfl⟩;refine Ab (Aa [] [0,3,7,42] ?_);refine Ax (p:=(i:Int) < ((st.repos.map Bg).length:Int)) (by kernel_rfl) (fun c4=>?_) (fun c4=>?_)
   ·refine Ag (Ab ?_);refine Az (Ab ?_);refine An (Bm 3 0 [] [0,3,7,47] [] hk0 v0 c0 ?_);refine Hs r.inst (fun c5=>?_) (fun c5=>?_)
    ·refine F5 47 (a:=.bool r.inst) (.bool true) (by kernel_rfl) (Imp.of_eq (by rw[c5])) ?_;refine Bm 5 3 [] [0,3,7,47,51,52] [] hk0 v0 c0 ?_;refine Jc (b:=1) (i:=i) (es:=st.repos.map Bg) (e:=59) (sz:=4) (k:=.i64) (s':=[(0,(.ptr 0 0)),(3,(.fp (.agg [(.str r.name),(.int .i64 r.prio),(.bool r.inst),(Aj 12 Ar r.pkgs)]))),(7,(.int .i64 ((i:Int)))),(47,(.bool true)),(51,(.own 1)),(52,(.int .i64 ((i:Int)))),(53,(.op 1 (i*4)))]) (by kernel_rfl) (by kernel_rfl) (by kernel_rfl) (by kernel_rfl) (by kernel_rfl) (by kernel_rfl) (by(rw[List.length_map];omega)) (by kernel_rfl) ?_;refine W0 (b:=1) (o:=i*4) (off:=2) (s':=[(0,(.ptr 0 0)),(3,(.fp (.agg [(.str r.name),(.int .i64 r.prio),(.bool r.inst),(Aj 12 Ar r.pkgs)]))),(7,(.int .i64 ((i:Int)))),(47,(.bool true)),(51,(.own 1)),(52,(.int .i64 ((i:Int)))),(53,(.op 1 (i*4))),(54,(.op 1 (i*4+2)))]) (by kernel_rfl) (by kernel_rfl) (by kernel_rfl) (by kernel_rfl) ?_
     refine S5 (b:=1) (e:=59) (sz:=4) (es:=st.repos.map Bg) (o:=i*4+2) (i:=i) (j:=2) (a:=(.agg [(.str ((nth st.repos i).name)),(.int .i64 ((nth st.repos i).prio)),(.bool ((nth st.repos i).inst)),(Aj 12 Ar ((nth st.repos i).pkgs))])) (r:=(.bool ((nth st.repos i).inst))) (s':=[(0,(.ptr 0 0)),(3,(.fp (.agg [(.str r.name),(.int .i64 r.prio),(.bool r.inst),(Aj 12 Ar r.pkgs)]))),(7,(.int .i64 ((i:Int)))),(47,(.bool true)),(51,(.own 1)),(52,(.int .i64 ((i:Int)))),(53,(.op 1 (i*4))),(54,(.op 1 (i*4+2))),(55,(.bool ((nth st.repos i).inst)))]) (by kernel_rfl) (by kernel_rfl) rfl (by kernel_rfl) (Rz (l:=st.repos) Bg (by omega)) (by kernel_rfl) (by kernel_rfl) ?_;refine Av 11 [] [0,3,7,56] [] hk0 v0 c0 ?_;refine A5 (q:=(nth st.repos i).inst) (by kernel_rfl) (fun c6=>?_) (fun c6=>?_)
     ·try simp only[Ai] at c6
      refine Aa [] [4] ?_;refine Ae ?_;refine Ej (.inl rfl) (al:=[(.int .i64 67)]) (by kernel_rfl) ?_ ((by kernel_rfl:C6 3 _=some [(0,(.row [(.int .i64 st.kind),(.own 1),(.own 2)] 87)),(1,(.grow (st.repos.map Bg) 59 4)),(2,(.grow (pl.map atX) 91 2))]).trans ?_)
      all_goals have hN:=Ly (l:=st.repos) (p:=fun o=>decide (o.name=r.name)) (fun j hj=>by simpa using f1_2 j (by omega))
      all_goals have hA:¬(Bh r.name=false∨st.repos.any (fun o=>decide (o.name=r.name))=true):=fun h=>h.elim (fun h=>by rw[c1] at h;cases h) (fun h=>by rw[hN] at h;cases h)
      all_goals have hE:Cm st r=67:=by unfold Cm;rw[if_neg hA,if_pos ⟨by assumption,Q56 (i:=i) (by omega) (by assumption)⟩]
      ·rw[hE];rfl
      ·rw[J5 hE (by decide),Pk hE (by decide)]
     ·try simp only[Ai] at c6
      refine Ag ?_;refine An (Av 0 [] [0,3,7] [] hk0 v0 (cc 1 (p:=(-9223372036854775808≤(i:Int)+1∧(i:Int)+1≤9223372036854775807)) (by omega)<|c0) ?_);refine⟨by kernel_rfl,_,?_,i+1,?_,?_,(by kernel_rfl),rfl⟩
      ·omega
      ·omega
      ·intro j hj;by_cases h:j=i
       ·subst h;simp_all
       ·exact f2_2 j (by omega)
    ·refine F5 47 (a:=.bool r.inst) (.bool false) (by kernel_rfl) (Imp.of_eq (by rw[c5])) ?_;refine Av 3 [] [0,3,7,56] [] hk0 v0 c0 ?_;refine Du (by kernel_rfl) ?_;refine Ag ?_;refine An (Av 0 [] [0,3,7] [] hk0 v0 (cc 1 (p:=(-9223372036854775808≤(i:Int)+1∧(i:Int)+1≤9223372036854775807)) (by omega)<|c0) ?_);refine⟨by kernel_rfl,_,?_,i+1,?_,?_,(by kernel_rfl),rfl⟩
     ·omega
     ·omega
     ·intro j hj;by_cases h:j=i
      ·subst h;simp_all
      ·exact f2_2 j (by omega)
   ·refine Bp (Ab ?_);refine C8 (fun y=>y=⟨[(0,(.ptr 0 0)),(3,(.fp (.agg [(.str r.name),(.int .i64 r.prio),(.bool r.inst),(Aj 12 Ar r.pkgs)]))),(74,(.bool (decide ((8:Int)≤((st.repos.map Bg).length:Int))||decide ((200:Int) < ((pl.map atX).length:Int)+(r.pkgs.length:Int)))))],[(0,(.row [(.int .i64 st.kind),(.own 1),(.own 2)] 87)),(1,(.grow (st.repos.map Bg) 59 4)),(2,(.grow (pl.map atX) 91 2))],4⟩) [0,3,74] 4 (by omega) ?_ ?_
    ·refine G9 (CS:=[(8,((!(decide (8≤((st.repos.map Bg).length:Int))))=true→(!(decide (8≤((st.repos.map Bg).length:Int))))=true)),(9,((!(decide (8≤((st.repos.map Bg).length:Int))))=true→(!(decide (8≤((st.repos.map Bg).length:Int))))=true)),(10,((!(decide (8≤((st.repos.map Bg).length:Int))))=true→(!(decide (8≤((st.repos.map Bg).length:Int))))=true)),(11,((!(decide (8≤((st.repos.map Bg).length:Int))))=true→(!(decide (8≤((st.repos.map Bg).length:Int))))=true)),(13,((!(decide (8≤((st.repos.map Bg).length:Int))))=true→(!(decide (8≤((st.repos.map Bg).length:Int))))=true)),(14,((!(decide (8≤((st.repos.map Bg).length:Int))))=true→(!(decide (8≤((st.repos.map Bg).length:Int))))=true)),(15,((!(decide (8≤((st.repos.map Bg).length:Int))))=true→((!(decide (8≤((st.repos.map Bg).length:Int))))=true∧(!(decide (8≤((st.repos.map Bg).length:Int))))=true)∧(-9223372036854775808≤((pl.map atX).length:Int)+(r.pkgs.length:Int)∧((pl.map atX).length:Int)+(r.pkgs.length:Int)≤9223372036854775807))),(16,((!(decide (8≤((st.repos.map Bg).length:Int))))=true→(!(decide (8≤((st.repos.map Bg).length:Int))))=true)),(17,((decide (8≤((st.repos.map Bg).length:Int)))=false→(!(decide (8≤((st.repos.map Bg).length:Int))))=true))]) [64,65,66,67,68,69,70,71,72,73] [0,3,74] [] hk0 v0 (by refine cc _ ?_<|cc _ ?_<|cc _ ?_<|cc _ ?_<|cc _ ?_<|cc _ ?_<|cc _ ?_<|cc _ ?_<|cc _ ?_ c0<;>first|omega|(simp;omega)|(simp;done)|(intros;simp_all;omega)|(intros;simp_all;done)) ?_
     refine⟨by kernel_rfl,(by kernel_rfl)⟩
    ·rintro y1 rfl;refine A5 (q:=decide ((8:Int)≤((st.repos.map Bg).length:Int))||decide ((200:Int) < ((pl.map atX).length:Int)+(r.pkgs.length:Int))) (by kernel_rfl) (fun c7=>?_) (fun c7=>?_)
     ·try simp only[Ai] at c7
      refine Aa [] [4] ?_;refine Ae ?_;refine Ej (.inl rfl) (al:=[(.int .i64 68)]) (by kernel_rfl) ?_ ((by kernel_rfl:C6 3 _=some [(0,(.row [(.int .i64 st.kind),(.own 1),(.own 2)] 87)),(1,(.grow (st.repos.map Bg) 59 4)),(2,(.grow (pl.map atX) 91 2))]).trans ?_)
      all_goals have hN:=Ly (l:=st.repos) (p:=fun o=>decide (o.name=r.name)) (fun j hj=>by simpa using f1_2 j (by omega))
      all_goals have hA:¬(Bh r.name=false∨st.repos.any (fun o=>decide (o.name=r.name))=true):=fun h=>h.elim (fun h=>by rw[c1] at h;cases h) (fun h=>by rw[hN] at h;cases h)
      all_goals have hI:¬(r.inst=true∧st.repos.any (fun o=>o.inst)=true):=fun⟨h1,h2⟩=>by rw[Ly (fun j hj=>by have:=f2_2 j (by omega);simpa [h1] using this)] at h2;cases h2
      all_goals have hE:Cm st r=68:=by unfold Cm;rw[if_neg hA,if_neg hI,if_pos (by omega)]
      ·rw[hE];rfl
      ·rw[J5 hE (by decide),Pk hE (by decide)]
     ·try simp only[Ai] at c7
      refine Ag ?_;refine Ab (Aa [] [0,3,8] ?_);refine Az (Bx (fun g y=>∃(i:Nat),i≤r.pkgs.length∧(∀j,j < i→D2 (nth r.pkgs j)=0)∧y=⟨[(0,(.ptr 0 0)),(3,(.fp (.agg [(.str r.name),(.int .i64 r.prio),(.bool r.inst),(Aj 12 Ar r.pkgs)]))),(8,(.int .i64 ((i:Int))))],[(0,(.row [(.int .i64 st.kind),(.own 1),(.own 2)] 87)),(1,(.grow (st.repos.map Bg) 59 4)),(2,(.grow (pl.map atX) 91 2))],4⟩∧g=r.pkgs.length-i) [0,3,8] 4 _ (by omega) ⟨0,(by omega),(by exact fun j hj=>by omega),(by kernel_rfl),rfl⟩ ?_);rintro g3 y3 ⟨i,f3_1,f3_2,rfl,rfl⟩;refine Ab (Aa [] [0,3,8,79] ?_);refine Ax (p:=(i:Int) < (r.pkgs.length:Int)) (by kernel_rfl) (fun c8=>?_) (fun c8=>?_)
      ·refine Ag (Ab ?_);refine Az (Ad [] [0,3,8,9] [] (hk 5 X7a (X05 (nth r.pkgs i) (hp i (by omega)))<|hk0) v0 (cc 3 (p:=(0≤(i:Int)∧i < r.pkgs.length)) (by omega)<|c0) ?_);refine Aa [] [0,3,8,9,89] ?_;refine Cr (p:=(D2 (nth r.pkgs i))=0) (by kernel_rfl) (fun c9=>?_) (fun c9=>?_)
       ·refine Aa [] [4] ?_;refine Ae ?_;refine Ej (.inl rfl) (al:=[(.int .i64 (D2 (nth r.pkgs i)))]) (by kernel_rfl) ?_ ((by kernel_rfl:C6 3 _=some [(0,(.row [(.int .i64 st.kind),(.own 1),(.own 2)] 87)),(1,(.grow (st.repos.map Bg) 59 4)),(2,(.grow (pl.map atX) 91 2))]).trans ?_)
        all_goals have hN:=Ly (l:=st.repos) (p:=fun o=>decide (o.name=r.name)) (fun j hj=>by simpa using f1_2 j (by omega))
        all_goals have hA:¬(Bh r.name=false∨st.repos.any (fun o=>decide (o.name=r.name))=true):=fun h=>h.elim (fun h=>by rw[c1] at h;cases h) (fun h=>by rw[hN] at h;cases h)
        all_goals have hI:¬(r.inst=true∧st.repos.any (fun o=>o.inst)=true):=fun⟨h1,h2⟩=>by rw[Ly (fun j hj=>by have:=f2_2 j (by omega);simpa [h1] using this)] at h2;cases h2
        all_goals have hE:Cm st r=D2 (nth r.pkgs i):=by unfold Cm;rw[if_neg hA,if_neg hI,if_neg (by omega)];exact Vj (by omega) f3_2 (by assumption)
        ·rw[hE];rfl
        ·rw[J5 hE (by assumption),Pk hE (by assumption)]
       ·refine Ag ?_;refine An (Av 0 [] [0,3,8] [] hk0 v0 (cc 1 (p:=(-9223372036854775808≤(i:Int)+1∧(i:Int)+1≤9223372036854775807)) (by omega)<|c0) ?_);refine⟨by kernel_rfl,_,?_,i+1,?_,?_,(by kernel_rfl),rfl⟩
        ·omega
        ·omega
        ·intro j hj;by_cases h:j=i
         ·subst h;simp_all
         ·exact f3_2 j (by omega)
      ·refine Bp ?_;refine Ab (Aa [] [0,3,10] ?_);refine Az (Bx (fun g y=>∃(i:Nat),i≤r.pkgs.length∧y=⟨[(0,(.ptr 0 0)),(3,(.fp (.agg [(.str r.name),(.int .i64 r.prio),(.bool r.inst),(Aj 12 Ar r.pkgs)]))),(10,(.int .i64 ((i:Int))))],[(0,(.row [(.int .i64 st.kind),(.own 1),(.own 2)] 87)),(1,(.grow (st.repos.map Bg) 59 4)),(2,(.grow ((C0 pl st r i).map atX) 91 2))],4⟩∧g=r.pkgs.length-i) [0,3,10] 4 _ (by omega) ⟨0,(by omega),(Eq.trans (b:=(⟨[(0,(.ptr 0 0)),(3,(.fp (.agg [(.str r.name),(.int .i64 r.prio),(.bool r.inst),(Aj 12 Ar r.pkgs)]))),(10,(.int .i64 0))],[(0,(.row [(.int .i64 st.kind),(.own 1),(.own 2)] 87)),(1,(.grow (st.repos.map Bg) 59 4)),(2,(.grow (pl.map atX) 91 2))],4⟩:St)) (by kernel_rfl) (by rw[show C0 pl st r 0=pl from by simp[C0]]<;>rfl)),rfl⟩ ?_);rintro g4 y4 ⟨i,f4_1,rfl,rfl⟩
       have hkl:((C0 pl st r i).map atX).length≤200:=by rw[List.length_map,Y0p];omega
       refine Ab (Aa [] [0,3,10,95] ?_);refine Ax (p:=(i:Int) < (r.pkgs.length:Int)) (by kernel_rfl) (fun c10=>?_) (fun c10=>?_)
       ·refine Ag ?_;refine C8 (fun y=>y=⟨[(0,(.ptr 0 0)),(3,(.fp (.agg [(.str r.name),(.int .i64 r.prio),(.bool r.inst),(Aj 12 Ar r.pkgs)]))),(10,(.int .i64 ((i:Int))))],[(0,(.row [(.int .i64 st.kind),(.own 1),(.own 2)] 87)),(1,(.grow (st.repos.map Bg) 59 4)),(2,(.grow ((C0 pl st r (i+1)).map atX) 91 2))],4⟩) [0,3,10] 4 (by omega) ?_ ?_
        ·refine Az (G9 [] [0,3,10] [] hk0 v0 (cc 13 (p:=((((C0 pl st r i).map atX).length+1)*16≤140737488355328)) (by omega)<|c0) ?_);refine⟨by kernel_rfl,(Eq.trans (b:=(⟨[(0,(.ptr 0 0)),(3,(.fp (.agg [(.str r.name),(.int .i64 r.prio),(.bool r.inst),(Aj 12 Ar r.pkgs)]))),(10,(.int .i64 ((i:Int))))],[(0,(.row [(.int .i64 st.kind),(.own 1),(.own 2)] 87)),(1,(.grow (st.repos.map Bg) 59 4)),(2,(.grow (((C0 pl st r i).map atX)++([(.agg [(.int .i64 (((st.repos.map Bg).length:Int))),(.int .i64 ((i:Int)))])]:List AV)) 91 2))],4⟩:St)) (by kernel_rfl) (by rw[show(((C0 pl st r i).map atX)++([(.agg [(.int .i64 (((st.repos.map Bg).length:Int))),(.int .i64 ((i:Int)))])]:List AV))=(C0 pl st r (i+1)).map atX from by rw[Y0o,List.map_append,List.length_map];rfl]<;>kernel_rfl))⟩
        ·rintro y2 rfl;refine An (Av 0 [] [0,3,10] [] hk0 v0 (cc 1 (p:=(-9223372036854775808≤(i:Int)+1∧(i:Int)+1≤9223372036854775807)) (by omega)<|c0) ?_);refine⟨by kernel_rfl,_,?_,i+1,?_,(by kernel_rfl),rfl⟩
         ·omega
         ·omega
       ·refine Bp ?_;refine C8 (fun y=>y=⟨[],[(0,(.row [(.int .i64 st.kind),(.own 1),(.own 2)] 87)),(1,(.grow ((st.repos++[r]).map Bg) 59 4)),(2,(.grow ((C0 pl st r i).map atX) 91 2))],4⟩) [] 4 (by omega) ?_ ?_
        ·refine G9 [] [] [] hk0 v0 (cc 7 (p:=(((st.repos.map Bg).length+1)*56≤140737488355328)) (by omega)<|c0) ?_;refine⟨by kernel_rfl,(Eq.trans (b:=(⟨[],[(0,(.row [(.int .i64 st.kind),(.own 1),(.own 2)] 87)),(1,(.grow ((st.repos.map Bg)++([(.agg [(.str r.name),(.int .i64 r.prio),(.bool r.inst),(Aj 12 Ar r.pkgs)])]:List AV)) 59 4)),(2,(.grow ((C0 pl st r i).map atX) 91 2))],4⟩:St)) (by kernel_rfl) (by rw[show((st.repos.map Bg)++([(.agg [(.str r.name),(.int .i64 r.prio),(.bool r.inst),(Aj 12 Ar r.pkgs)])]:List AV))=(st.repos++[r]).map Bg from by rw[List.map_append];rfl]<;>kernel_rfl))⟩
        ·rintro y3 rfl;refine Aa [] [4] ?_;refine Ae ?_;refine Ej (.inl rfl) (al:=[(.int .i64 0)]) (by kernel_rfl) ?_ ((by kernel_rfl:C6 3 _=some [(0,(.row [(.int .i64 st.kind),(.own 1),(.own 2)] 87)),(1,(.grow ((st.repos++[r]).map Bg) 59 4)),(2,(.grow ((C0 pl st r i).map atX) 91 2))]).trans ?_)
         all_goals have hN:=Ly (l:=st.repos) (p:=fun o=>decide (o.name=r.name)) (fun j hj=>by simpa using f1_2 j (by omega))
         all_goals have hA:¬(Bh r.name=false∨st.repos.any (fun o=>decide (o.name=r.name))=true):=fun h=>h.elim (fun h=>by rw[c1] at h;cases h) (fun h=>by rw[hN] at h;cases h)
         all_goals have hI:¬(r.inst=true∧st.repos.any (fun o=>o.inst)=true):=fun⟨h1,h2⟩=>by rw[Ly (fun j hj=>by have:=f2_2 j (by omega);simpa [h1] using this)] at h2;cases h2
         all_goals have hE:Cm st r=0:=by unfold Cm;rw[if_neg hA,if_neg hI,if_neg (by omega)];exact Q3e fun j hj=>f3_2 j (by omega)
         ·rw[hE];rfl
         ·unfold Ci Fb;rw[if_pos hE,if_pos hE,show i=r.pkgs.length from by omega]
end Sv
end
section
open Go Go.RowKit
namespace Sv
attribute [local irreducible] SW SO Bk
set_option maxHeartbeats 1000000
set_option maxRecDepth 100000
theorem X6u:Ak Tryz.prog 6:=Ao Tryz.func6 (by kernel_rfl) rfl
theorem X70:Ak Tryz.prog 17:=Ao Tryz.func17 (by kernel_rfl) rfl
theorem X7v:Ak Tryz.prog 18:=Ao Tryz.func18 (by kernel_rfl) rfl
def As (k:Int):Int:=if k=2 then 2 else 1
theorem Q1x (k:Int):As k=1∨As k=2:=by unfold As;split<;>simp
theorem X4l {k:Int} (h:k=2):As k=k:=by unfold As;rw[if_pos h,h]
def Il:List PkgT→Nat
 |[]=>0
 |p::r=>1+p.size+Il r
theorem Zw:∀l:List PkgT,l.length≤Il l
 |[]=>Nat.zero_le _
 |p::r=>by have:=Zw r;simp only[Il,List.length_cons];omega
theorem Zx:∀{l:List PkgT} {i:Nat},i < l.length→(nth l i).size≤Il l
 |[],_,h=>by simp at h
 |p::r,0,_=>by simp only[Il];show p.size≤_;omega
 |p::r,i+1,h=>by
  have:=Zx (l:=r) (i:=i) (by simpa using h);simp only[Il];show(nth r i).size≤_;omega
def _root_.Go.Proofs.YtlamaeednbhjdaaGreatDoor.RepoT.size (r:RepoT):Nat:=1+r.name.length+Il r.pkgs
theorem _root_.Go.Proofs.YtlamaeednbhjdaaGreatDoor.RepoT.sizes (r:RepoT):r.name.length≤r.size∧r.pkgs.length≤r.size:=by
 have:=Zw r.pkgs;unfold RepoT.size;omega
theorem _root_.Go.Proofs.YtlamaeednbhjdaaGreatDoor.RepoT.size_pkg {r:RepoT} {i:Nat} (h:i < r.pkgs.length):(nth r.pkgs i).size≤r.size:=by
 have:=Zx h;unfold RepoT.size;omega
def Au (k:Int) (l:List RepoT):PoolT × List (Int × Int):=l.foldl (fun s r=>(Ci s.1 r,Fb s.2 s.1 r)) (⟨k,[],[]⟩,[])
def Lu (s:PoolT × List (Int × Int)):Prop:=s.1.repos.length≤8∧s.1.all.length≤200∧s.2.length=s.1.all.length
theorem Y0a {s:PoolT × List (Int × Int)} {r:RepoT} (h:Lu s):Lu (Ci s.1 r,Fb s.2 s.1 r):=by
 obtain⟨h1,h2,h3⟩:=h;by_cases he:Cm s.1 r=0
 ·have hm:¬(8≤s.1.repos.length∨200 < s.1.all.length+r.pkgs.length):=by
   intro q;unfold Cm at he;rw[if_pos q] at he
   split at he<;>first|omega|(split at he<;>omega)
  unfold Lu Ci Fb;simp only[if_pos he,List.length_append,List.length_singleton,Aw,C0,List.length_map,List.length_take,List.length_range];omega
 ·unfold Lu Ci Fb;rw[if_neg he,if_neg he];exact⟨h1,h2,h3⟩
theorem Q5m (k:Int) (l:List RepoT):Lu (Au k l):=by
 have key:∀(l:List RepoT) (s:PoolT × List (Int × Int)),Lu s→Lu (l.foldl (fun s r=>(Ci s.1 r,Fb s.2 s.1 r)) s):=by
  intro l
  induction l with
  |nil=>exact fun s h=>h
  |cons r l ih=>exact fun s h=>ih _ (Y0a h)
 exact key l _ ⟨by simp,by simp,by simp⟩
theorem X96 {k:Int} {l:List RepoT} {i:Nat} (h:i < l.length):Au k (l.take (i+1))=(Ci (Au k (l.take i)).1 (nth l i),Fb (Au k (l.take i)).2 (Au k (l.take i)).1 (nth l i)):=by
 unfold Au;rw[List.take_add_one,List.getElem?_eq_getElem h,List.foldl_append];simp[nth,h]
noncomputable def Cl (st:PoolT):AV:=.agg [.int .i64 st.kind,Aj 4 Bd st.repos,Aj 13 Be st.all,.smap (.slice none 0 0) (fun s => .row 1 (Bb st.all s).length (fun i=>(Bb st.all s).getD i Bn))]
noncomputable def Jl (st:PoolT) (pl:List (Int × Int)):AV:=.agg [.int .i64 st.kind,Aj 4 Bg st.repos,Aj 2 atX pl]
theorem Y3g (kind:Int) (l:List RepoT) (hll:l.length≤4611686018427387904) (hl:∀i,i < l.length→(nth l i).size≤4194304) :
  FnV Tryz.prog 6 [(.int .i64 kind),(Aj 4 Bg l)] (.tup [.fp (Cl (Au (As kind) l).1),.fp (Jl (Au (As kind) l).1 (Au (As kind) l).2)]):=by
 refine A3 [.tmp 4,.tmp 5] Tryz.func6 rfl Tryz.ntmps6 rfl rfl (fun B F hF=>?_);refine Aa [] [0,1] ?_;refine C8 (fun y=>y=⟨[(0,(.int .i64 ((As kind)))),(1,(Aj 4 Bg l))],[],0⟩) [0,1] 0 (by omega) ?_ ?_
 ·refine Aa [] [0,1,12] ?_;refine Cr (p:=kind=2) (by kernel_rfl) (fun c1=>?_) (fun c1=>?_)
  ·refine An (Dd [] [0,1] ?_);refine⟨by kernel_rfl,(Eq.trans (b:=(⟨[(0,(.int .i64 1)),(1,(Aj 4 Bg l))],[],0⟩:St)) (by kernel_rfl) (by rw[show As kind=1 from if_neg (by assumption)]<;>rfl))⟩
  ·refine Ag ?_;refine⟨by kernel_rfl,(Eq.trans (b:=(⟨[(0,(.int .i64 kind)),(1,(Aj 4 Bg l))],[],0⟩:St)) (by kernel_rfl) (by rw[show As kind=kind from X4l (by omega)]<;>rfl))⟩
 ·rintro y1 rfl;refine Ab ?_;refine An (Bm 1 0 [] [0,1,14] [] hk0 v0 c0 ?_);refine S6 [.tmp 2,.tmp 3] (al:=[(.int .i64 ((As kind)))]) (s0:=[(0,(.int .i64 ((As kind)))),(1,(Aj 4 Bg l)),(14,(.int .i64 ((As kind))))]) (by kernel_rfl) (by exact X70) (by kernel_rfl) Tryz.func17 rfl Tryz.ntmps17 rfl (by kernel_rfl) (by kernel_rfl) (fun F1 hF1 hle1=>?_);refine Aa [] [0] ?_;refine Ab ?_
  obtain⟨b1_1,hb1_1⟩:∃b,b=(!decide ((As kind)=1)):=⟨_,rfl⟩
  refine Ad (CS:=[(4,(b1_1=true→b1_1=true)),(5,(b1_1=true→b1_1=true))]) [7,8] [0,9] [] hk0 (vk 3 6 (a:=.bool (!decide ((As kind)=1))) (b:=.bool b1_1) (Imp.of_eq (by rw[hb1_1]))<|v0) (by refine cc _ ?_<|cc _ ?_ c0<;>simp) ?_;refine A5 (q:=b1_1&&(!decide ((As kind)=2))) (by kernel_rfl) (fun c2=>?_) (fun c2=>?_)
  ·subst hb1_1
   try simp only[Ai] at c2
   exact absurd (Q1x kind) fun h=>h.elim c2.1 c2.2
  ·subst hb1_1
   try simp only[Ai] at c2
   refine Ag (Aa [] [2,3] ?_);refine Ae (Ow (.inl rfl) (al:=[(.ptr 1 0),(.int .i64 0)]) (s':=[(0,(.int .i64 ((As kind)))),(1,(Aj 4 Bg l)),(14,(.int .i64 ((As kind)))),(15,(.tup [(.ptr 1 0),(.int .i64 0)]))]) (by kernel_rfl) (by kernel_rfl) ?_);refine Av 2 [] [0,1,6,7] [] hk0 v0 c0 ?_;refine Ab ?_;refine An (Bm 1 0 [] [1,6,7,19] [] hk0 v0 c0 ?_);refine S6 [.tmp 2,.tmp 3] (al:=[(.int .i64 ((As kind)))]) (s0:=[(1,(Aj 4 Bg l)),(6,(.ptr 1 0)),(7,(.int .i64 0)),(19,(.int .i64 ((As kind))))]) (by kernel_rfl) (by exact X7v) (by kernel_rfl) Tryz.func18 rfl Tryz.ntmps18 rfl (by kernel_rfl) (by kernel_rfl) (fun F2 hF2 hle2=>?_);refine Aa [] [0] ?_;refine Ab ?_
   obtain⟨b2_1,hb2_1⟩:∃b,b=(!decide ((As kind)=1)):=⟨_,rfl⟩
   refine Ad (CS:=[(4,(b2_1=true→b2_1=true)),(5,(b2_1=true→b2_1=true))]) [7,8] [0,9] [] hk0 (vk 3 6 (a:=.bool (!decide ((As kind)=1))) (b:=.bool b2_1) (Imp.of_eq (by rw[hb2_1]))<|v0) (by refine cc _ ?_<|cc _ ?_ c0<;>simp) ?_;refine A5 (q:=b2_1&&(!decide ((As kind)=2))) (by kernel_rfl) (fun c3=>?_) (fun c3=>?_)
   ·subst hb2_1
    try simp only[Ai] at c3
    exact absurd (Q1x kind) fun h=>h.elim c3.1 c3.2
   ·subst hb2_1
    try simp only[Ai] at c3
    refine Ag (Aa [] [2,3] ?_);refine Ae (Ow (.inl rfl) (al:=[(.ptr 2 0),(.int .i64 0)]) (s':=[(1,(Aj 4 Bg l)),(6,(.ptr 1 0)),(7,(.int .i64 0)),(19,(.int .i64 ((As kind)))),(20,(.tup [(.ptr 2 0),(.int .i64 0)]))]) (by kernel_rfl) (by kernel_rfl) ?_);refine Av 2 [] [1,6,7,8] [] hk0 v0 c0 ?_;refine Ab (Aa [] [1,6,8,28] ?_);refine Du (by kernel_rfl) ?_;refine Ag ?_;refine Ab (Aa [] [1,6,8,10] ?_);refine Az (Pt 59 4 1 1 (y:=⟨[(1,(Aj 4 Bg l)),(6,(.ptr 1 0)),(8,(.ptr 2 0)),(10,(.int .i64 0))],[(0,(.map [] 0)),(1,(.row [(.int .i64 ((As kind))),(.own 3),.nils,(.map 0)] 75)),(2,(.row [(.int .i64 ((As kind))),.nils,.nils] 87)),(3,(.grow [] 59 4))],4⟩) (by kernel_rfl) (by kernel_rfl) ?_);refine Pt 78 13 1 2 (y:=⟨[(1,(Aj 4 Bg l)),(6,(.ptr 1 0)),(8,(.ptr 2 0)),(10,(.int .i64 0))],[(0,(.map [] 0)),(1,(.row [(.int .i64 ((As kind))),(.own 3),(.own 4),(.map 0)] 75)),(2,(.row [(.int .i64 ((As kind))),.nils,.nils] 87)),(3,(.grow [] 59 4)),(4,(.grow [] 78 13))],5⟩) (by kernel_rfl) (by kernel_rfl) ?_
    refine Pt 59 4 2 1 (y:=⟨[(1,(Aj 4 Bg l)),(6,(.ptr 1 0)),(8,(.ptr 2 0)),(10,(.int .i64 0))],[(0,(.map [] 0)),(1,(.row [(.int .i64 ((As kind))),(.own 3),(.own 4),(.map 0)] 75)),(2,(.row [(.int .i64 ((As kind))),(.own 5),.nils] 87)),(3,(.grow [] 59 4)),(4,(.grow [] 78 13)),(5,(.grow [] 59 4))],6⟩) (by kernel_rfl) (by kernel_rfl) ?_;refine Pt 91 2 2 2 (y:=⟨[(1,(Aj 4 Bg l)),(6,(.ptr 1 0)),(8,(.ptr 2 0)),(10,(.int .i64 0))],[(0,(.map [] 0)),(1,(.row [(.int .i64 ((As kind))),(.own 3),(.own 4),(.map 0)] 75)),(2,(.row [(.int .i64 ((As kind))),(.own 5),(.own 6)] 87)),(3,(.grow [] 59 4)),(4,(.grow [] 78 13)),(5,(.grow [] 59 4)),(6,(.grow [] 91 2))],7⟩) (by kernel_rfl) (by kernel_rfl) ?_;refine Q60 0 3 1 (y:=⟨[(1,(Aj 4 Bg l)),(6,(.ptr 1 0)),(8,(.ptr 2 0)),(10,(.int .i64 0))],[(0,(.mm (fun _=>[]) none 3 1)),(1,(.row [(.int .i64 ((As kind))),(.own 3),(.own 4),(.map 0)] 75)),(2,(.row [(.int .i64 ((As kind))),(.own 5),(.own 6)] 87)),(3,(.grow [] 59 4)),(4,(.grow [] 78 13)),(5,(.grow [] 59 4)),(6,(.grow [] 91 2))],7⟩) (by kernel_rfl) ?_
    refine Bx (fun g y=>∃(i:Nat),i≤l.length∧y=⟨[(1,(Aj 4 Bg l)),(6,(.ptr 1 0)),(8,(.ptr 2 0)),(10,(.int .i64 ((i:Int))))],[(0,(.mm (Bb ((Au (As kind) (l.take i)).1).all) none 3 1)),(1,(.row [(.int .i64 ((Au (As kind) (l.take i)).1.kind)),(.own 3),(.own 4),(.map 0)] 75)),(2,(.row [(.int .i64 ((Au (As kind) (l.take i)).1.kind)),(.own 5),(.own 6)] 87)),(3,(.grow (((Au (As kind) (l.take i)).1).repos.map Bd) 59 4)),(4,(.grow (((Au (As kind) (l.take i)).1).all.map Be) 78 13)),(5,(.grow (((Au (As kind) (l.take i)).1).repos.map Bg) 59 4)),(6,(.grow (((Au (As kind) (l.take i)).2).map atX) 91 2))],7⟩∧g=l.length-i) [1,6,8,10] 7 _ (by omega) ⟨0,(by omega),(by kernel_rfl),rfl⟩ ?_;rintro g1 y1 ⟨i,f1_1,rfl,rfl⟩;have hb:=Q5m (As kind) (l.take i);refine Ab (Aa [] [1,6,8,10,32] ?_);refine Ax (p:=(i:Int) < (l.length:Int)) (by kernel_rfl) (fun c4=>?_) (fun c4=>?_)
    ·have hz:=RepoT.sizes (nth l i);have hw:=hl i (by omega);refine Ag (Ab ?_);refine Az (Ab ?_);refine Ja (by kernel_rfl) (fun F1 hF1=>?_);refine C3 (fuel:=3) [] [0,1,2,3,4,6,7,8,9,10] [1,6,8,10,35,39,41,45] (hold (p:=(0≤(i:Int)∧i < l.length)∧(0≤(i:Int)∧i < l.length)) (by omega)) ?_;refine Ev (fuel:=2) 5 (by kernel_rfl) ?_;refine Cs (fuel:=2) 5 rfl ?_
     refine Ei [1,3,4,0] (al:=[(.ptr 1 0),(.agg [(.str ((nth l i).name)),(.int .i64 ((nth l i).prio)),(.bool ((nth l i).inst)),(Aj 12 Ar ((nth l i).pkgs))])]) (al':=[(.ptr 0 0),(.agg [(.str ((nth l i).name)),(.int .i64 ((nth l i).prio)),(.bool ((nth l i).inst)),(Aj 12 Ar ((nth l i).pkgs))])]) (r:=(.int .i64 (Cm (Au (As kind) (l.take i)).1 (nth l i)))) (r':=(.int .i64 (Cm (Au (As kind) (l.take i)).1 (nth l i)))) (s':=[(1,(Aj 4 Bg l)),(6,(.ptr 1 0)),(8,(.ptr 2 0)),(10,(.int .i64 ((i:Int)))),(35,(.ptr 1 0)),(39,(.agg [(.str ((nth l i).name)),(.int .i64 ((nth l i).prio)),(.bool ((nth l i).inst)),(Aj 12 Ar ((nth l i).pkgs))])),(41,(.ptr 2 0)),(45,(.agg [(.str ((nth l i).name)),(.int .i64 ((nth l i).prio)),(.bool ((nth l i).inst)),(Aj 12 Ar ((nth l i).pkgs))])),(40,(.int .i64 (Cm (Au (As kind) (l.take i)).1 (nth l i))))]) (H:=[(0,(.row [(.int .i64 ((Au (As kind) (l.take i)).1.kind)),(.own 1),(.own 2),(.map 3)] 75)),(1,(.grow (((Au (As kind) (l.take i)).1).repos.map Bd) 59 4)),(2,(.grow (((Au (As kind) (l.take i)).1).all.map Be) 78 13)),(3,(.mm (Bb ((Au (As kind) (l.take i)).1).all) none 3 1))]) (H':=[(0,(.row [(.int .i64 ((Ci (Au (As kind) (l.take i)).1 (nth l i)).kind)),(.own 1),(.own 2),(.map 3)] 75)),(1,(.grow ((Ci (Au (As kind) (l.take i)).1 (nth l i)).repos.map Bd) 59 4)),(2,(.grow ((Ci (Au (As kind) (l.take i)).1 (nth l i)).all.map Be) 78 13)),(3,(.mm (Bb (Ci (Au (As kind) (l.take i)).1 (nth l i)).all) none 3 1))]) (h2:=[(0,(.mm (Bb (Ci (Au (As kind) (l.take i)).1 (nth l i)).all) none 3 1)),(1,(.row [(.int .i64 ((Ci (Au (As kind) (l.take i)).1 (nth l i)).kind)),(.own 3),(.own 4),(.map 0)] 75)),(2,(.row [(.int .i64 ((Au (As kind) (l.take i)).1.kind)),(.own 5),(.own 6)] 87)),(3,(.grow ((Ci (Au (As kind) (l.take i)).1 (nth l i)).repos.map Bd) 59 4)),(4,(.grow ((Ci (Au (As kind) (l.take i)).1 (nth l i)).all.map Be) 78 13)),(5,(.grow (((Au (As kind) (l.take i)).1).repos.map Bg) 59 4)),(6,(.grow (((Au (As kind) (l.take i)).2).map atX) 91 2))]) (by kernel_rfl) (by exact X7p) (by kernel_rfl) (by kernel_rfl) (by kernel_rfl) (by kernel_rfl) (by kernel_rfl) (Y32 (Au (As kind) (l.take i)).1 (nth l i) hb.1 hb.2.1 (by omega) (by omega) (fun j hj=>Nat.le_trans (RepoT.size_pkg hj) (hl i (by omega)))) (by kernel_rfl) (by kernel_rfl) (by kernel_rfl) ?_
     refine Br ⟨rfl,?_⟩;refine Ev (fuel:=1) 11 (by kernel_rfl) ?_;refine Cs (fuel:=1) 11 rfl ?_
     refine Ei [2,5,6] (al:=[(.ptr 2 0),(.agg [(.str ((nth l i).name)),(.int .i64 ((nth l i).prio)),(.bool ((nth l i).inst)),(Aj 12 Ar ((nth l i).pkgs))])]) (al':=[(.ptr 0 0),(.agg [(.str ((nth l i).name)),(.int .i64 ((nth l i).prio)),(.bool ((nth l i).inst)),(Aj 12 Ar ((nth l i).pkgs))])]) (r:=(.int .i64 (Cm (Au (As kind) (l.take i)).1 (nth l i)))) (r':=(.int .i64 (Cm (Au (As kind) (l.take i)).1 (nth l i)))) (s':=[(1,(Aj 4 Bg l)),(6,(.ptr 1 0)),(8,(.ptr 2 0)),(10,(.int .i64 ((i:Int)))),(35,(.ptr 1 0)),(39,(.agg [(.str ((nth l i).name)),(.int .i64 ((nth l i).prio)),(.bool ((nth l i).inst)),(Aj 12 Ar ((nth l i).pkgs))])),(41,(.ptr 2 0)),(45,(.agg [(.str ((nth l i).name)),(.int .i64 ((nth l i).prio)),(.bool ((nth l i).inst)),(Aj 12 Ar ((nth l i).pkgs))])),(40,(.int .i64 (Cm (Au (As kind) (l.take i)).1 (nth l i)))),(46,(.int .i64 (Cm (Au (As kind) (l.take i)).1 (nth l i))))]) (H:=[(0,(.row [(.int .i64 ((Au (As kind) (l.take i)).1.kind)),(.own 1),(.own 2)] 87)),(1,(.grow (((Au (As kind) (l.take i)).1).repos.map Bg) 59 4)),(2,(.grow (((Au (As kind) (l.take i)).2).map atX) 91 2))]) (H':=[(0,(.row [(.int .i64 ((Ci (Au (As kind) (l.take i)).1 (nth l i)).kind)),(.own 1),(.own 2)] 87)),(1,(.grow ((Ci (Au (As kind) (l.take i)).1 (nth l i)).repos.map Bg) 59 4)),(2,(.grow ((Fb (Au (As kind) (l.take i)).2 (Au (As kind) (l.take i)).1 (nth l i)).map atX) 91 2))]) (h2:=[(0,(.mm (Bb (Ci (Au (As kind) (l.take i)).1 (nth l i)).all) none 3 1)),(1,(.row [(.int .i64 ((Ci (Au (As kind) (l.take i)).1 (nth l i)).kind)),(.own 3),(.own 4),(.map 0)] 75)),(2,(.row [(.int .i64 ((Ci (Au (As kind) (l.take i)).1 (nth l i)).kind)),(.own 5),(.own 6)] 87)),(3,(.grow ((Ci (Au (As kind) (l.take i)).1 (nth l i)).repos.map Bd) 59 4)),(4,(.grow ((Ci (Au (As kind) (l.take i)).1 (nth l i)).all.map Be) 78 13)),(5,(.grow ((Ci (Au (As kind) (l.take i)).1 (nth l i)).repos.map Bg) 59 4)),(6,(.grow ((Fb (Au (As kind) (l.take i)).2 (Au (As kind) (l.take i)).1 (nth l i)).map atX) 91 2))]) (by kernel_rfl) (by exact X7l) (by kernel_rfl) (by kernel_rfl) (by kernel_rfl) (by kernel_rfl) (by kernel_rfl) (X08 (Au (As kind) (l.take i)).1 (Au (As kind) (l.take i)).2 (nth l i) hb.1 hb.2.1 hb.2.2 (by omega) (by omega) (fun j hj=>Nat.le_trans (RepoT.size_pkg hj) (hl i (by omega)))) (by kernel_rfl) (by kernel_rfl) (by kernel_rfl) ?_
     refine Br ⟨rfl,?_⟩;refine C3 (fuel:=0) [] [12] [1,6,8,10,47] A1 ?_;refine Ay [1,6,8,10,47] ?_;refine Hy (by kernel_rfl) ?_;refine Cr (p:=(Cm (Au (As kind) (l.take i)).1 (nth l i))=(Cm (Au (As kind) (l.take i)).1 (nth l i))) (by kernel_rfl) (fun c5=>?_) (fun c5=>?_)
     ·exact absurd rfl c5
     ·refine Ag ?_;refine An (Av 0 [] [1,6,8,10] [] hk0 v0 (cc 1 (p:=(-9223372036854775808≤(i:Int)+1∧(i:Int)+1≤9223372036854775807)) (by omega)<|c0) ?_);refine⟨by kernel_rfl,_,?_,i+1,?_,(Eq.trans (b:=(⟨[(1,(Aj 4 Bg l)),(6,(.ptr 1 0)),(8,(.ptr 2 0)),(10,(.int .i64 ((i:Int)+1)))],[(0,(.mm (Bb (Ci (Au (As kind) (l.take i)).1 (nth l i)).all) none 3 1)),(1,(.row [(.int .i64 ((Ci (Au (As kind) (l.take i)).1 (nth l i)).kind)),(.own 3),(.own 4),(.map 0)] 75)),(2,(.row [(.int .i64 ((Ci (Au (As kind) (l.take i)).1 (nth l i)).kind)),(.own 5),(.own 6)] 87)),(3,(.grow ((Ci (Au (As kind) (l.take i)).1 (nth l i)).repos.map Bd) 59 4)),(4,(.grow ((Ci (Au (As kind) (l.take i)).1 (nth l i)).all.map Be) 78 13)),(5,(.grow ((Ci (Au (As kind) (l.take i)).1 (nth l i)).repos.map Bg) 59 4)),(6,(.grow ((Fb (Au (As kind) (l.take i)).2 (Au (As kind) (l.take i)).1 (nth l i)).map atX) 91 2))],7⟩:St)) (by kernel_rfl) (by rw[X96 (by omega)]<;>kernel_rfl)),rfl⟩
      ·omega
      ·omega
    ·refine Bp (Ab ?_);refine An (Jb 1 1 (y:=⟨[(1,(Aj 4 Bg l)),(6,(.ptr 1 0)),(8,(.ptr 2 0)),(10,(.int .i64 ((i:Int)))),(32,(.bool (decide ((i:Int) < (l.length:Int)))))],[(0,(.mm (Bb ((Au (As kind) (l.take i)).1).all) none 3 1)),(1,(.row [(.int .i64 ((Au (As kind) (l.take i)).1.kind)),(.row 4 (((Au (As kind) (l.take i)).1).repos.map Bd).length (fun ix=>(((Au (As kind) (l.take i)).1).repos.map Bd).getD ix Bn)),(.own 4),(.map 0)] 75)),(2,(.row [(.int .i64 ((Au (As kind) (l.take i)).1.kind)),(.own 5),(.own 6)] 87)),(4,(.grow (((Au (As kind) (l.take i)).1).all.map Be) 78 13)),(5,(.grow (((Au (As kind) (l.take i)).1).repos.map Bg) 59 4)),(6,(.grow (((Au (As kind) (l.take i)).2).map atX) 91 2))],7⟩) (by kernel_rfl) ?_)
     refine Jb 1 2 (y:=⟨[(1,(Aj 4 Bg l)),(6,(.ptr 1 0)),(8,(.ptr 2 0)),(10,(.int .i64 ((i:Int)))),(32,(.bool (decide ((i:Int) < (l.length:Int)))))],[(0,(.mm (Bb ((Au (As kind) (l.take i)).1).all) none 3 1)),(1,(.row [(.int .i64 ((Au (As kind) (l.take i)).1.kind)),(.row 4 (((Au (As kind) (l.take i)).1).repos.map Bd).length (fun ix=>(((Au (As kind) (l.take i)).1).repos.map Bd).getD ix Bn)),(.row 13 (((Au (As kind) (l.take i)).1).all.map Be).length (fun ix=>(((Au (As kind) (l.take i)).1).all.map Be).getD ix Bn)),(.map 0)] 75)),(2,(.row [(.int .i64 ((Au (As kind) (l.take i)).1.kind)),(.own 5),(.own 6)] 87)),(5,(.grow (((Au (As kind) (l.take i)).1).repos.map Bg) 59 4)),(6,(.grow (((Au (As kind) (l.take i)).2).map atX) 91 2))],7⟩) (by kernel_rfl) ?_
     refine Jb 1 3 (y:=⟨[(1,(Aj 4 Bg l)),(6,(.ptr 1 0)),(8,(.ptr 2 0)),(10,(.int .i64 ((i:Int)))),(32,(.bool (decide ((i:Int) < (l.length:Int)))))],[(1,(.row [(.int .i64 ((Au (As kind) (l.take i)).1.kind)),(.row 4 (((Au (As kind) (l.take i)).1).repos.map Bd).length (fun ix=>(((Au (As kind) (l.take i)).1).repos.map Bd).getD ix Bn)),(.row 13 (((Au (As kind) (l.take i)).1).all.map Be).length (fun ix=>(((Au (As kind) (l.take i)).1).all.map Be).getD ix Bn)),(.smap (.slice none 0 0) (fun kq => .row 1 ((Bb ((Au (As kind) (l.take i)).1).all) kq).length (fun ix=>((Bb ((Au (As kind) (l.take i)).1).all) kq).getD ix Bn)))] 75)),(2,(.row [(.int .i64 ((Au (As kind) (l.take i)).1.kind)),(.own 5),(.own 6)] 87)),(5,(.grow (((Au (As kind) (l.take i)).1).repos.map Bg) 59 4)),(6,(.grow (((Au (As kind) (l.take i)).2).map atX) 91 2))],7⟩) (by kernel_rfl) ?_
     refine Jb 2 1 (y:=⟨[(1,(Aj 4 Bg l)),(6,(.ptr 1 0)),(8,(.ptr 2 0)),(10,(.int .i64 ((i:Int)))),(32,(.bool (decide ((i:Int) < (l.length:Int)))))],[(1,(.row [(.int .i64 ((Au (As kind) (l.take i)).1.kind)),(.row 4 (((Au (As kind) (l.take i)).1).repos.map Bd).length (fun ix=>(((Au (As kind) (l.take i)).1).repos.map Bd).getD ix Bn)),(.row 13 (((Au (As kind) (l.take i)).1).all.map Be).length (fun ix=>(((Au (As kind) (l.take i)).1).all.map Be).getD ix Bn)),(.smap (.slice none 0 0) (fun kq => .row 1 ((Bb ((Au (As kind) (l.take i)).1).all) kq).length (fun ix=>((Bb ((Au (As kind) (l.take i)).1).all) kq).getD ix Bn)))] 75)),(2,(.row [(.int .i64 ((Au (As kind) (l.take i)).1.kind)),(.row 4 (((Au (As kind) (l.take i)).1).repos.map Bg).length (fun ix=>(((Au (As kind) (l.take i)).1).repos.map Bg).getD ix Bn)),(.own 6)] 87)),(6,(.grow (((Au (As kind) (l.take i)).2).map atX) 91 2))],7⟩) (by kernel_rfl) ?_
     refine Jb 2 2 (y:=⟨[(1,(Aj 4 Bg l)),(6,(.ptr 1 0)),(8,(.ptr 2 0)),(10,(.int .i64 ((i:Int)))),(32,(.bool (decide ((i:Int) < (l.length:Int)))))],[(1,(.row [(.int .i64 ((Au (As kind) (l.take i)).1.kind)),(.row 4 (((Au (As kind) (l.take i)).1).repos.map Bd).length (fun ix=>(((Au (As kind) (l.take i)).1).repos.map Bd).getD ix Bn)),(.row 13 (((Au (As kind) (l.take i)).1).all.map Be).length (fun ix=>(((Au (As kind) (l.take i)).1).all.map Be).getD ix Bn)),(.smap (.slice none 0 0) (fun kq => .row 1 ((Bb ((Au (As kind) (l.take i)).1).all) kq).length (fun ix=>((Bb ((Au (As kind) (l.take i)).1).all) kq).getD ix Bn)))] 75)),(2,(.row [(.int .i64 ((Au (As kind) (l.take i)).1.kind)),(.row 4 (((Au (As kind) (l.take i)).1).repos.map Bg).length (fun ix=>(((Au (As kind) (l.take i)).1).repos.map Bg).getD ix Bn)),(.row 2 (((Au (As kind) (l.take i)).2).map atX).length (fun ix=>(((Au (As kind) (l.take i)).2).map atX).getD ix Bn))] 87))],7⟩) (by kernel_rfl) ?_;refine Dd [] [4,5] ?_;refine Ae ?_
     refine RK wR [(.fp (.agg [(.int .i64 ((Au (As kind) (l.take i)).1.kind)),(.row 4 (((Au (As kind) (l.take i)).1).repos.map Bd).length (fun ix=>(((Au (As kind) (l.take i)).1).repos.map Bd).getD ix Bn)),(.row 13 (((Au (As kind) (l.take i)).1).all.map Be).length (fun ix=>(((Au (As kind) (l.take i)).1).all.map Be).getD ix Bn)),(.smap (.slice none 0 0) (fun kq => .row 1 ((Bb ((Au (As kind) (l.take i)).1).all) kq).length (fun ix=>((Bb ((Au (As kind) (l.take i)).1).all) kq).getD ix Bn)))])),(.fp (.agg [(.int .i64 ((Au (As kind) (l.take i)).1.kind)),(.row 4 (((Au (As kind) (l.take i)).1).repos.map Bg).length (fun ix=>(((Au (As kind) (l.take i)).1).repos.map Bg).getD ix Bn)),(.row 2 (((Au (As kind) (l.take i)).2).map atX).length (fun ix=>(((Au (As kind) (l.take i)).2).map atX).getD ix Bn))]))] ?_;rw[show i=l.length from by omega,List.take_length];simp only[Af]
     exact(Imp.tups (ImpL.cons (Imp.fp (Imp.aggs (ImpL.cons Imp.refl (ImpL.cons (Imp.list (f:=Bd) (List.length_map _)) (ImpL.cons (Imp.list (f:=Be) (List.length_map _)) (ImpL.cons Imp.refl ImpL.nil)))))) (ImpL.cons (Imp.fp (Imp.aggs (ImpL.cons Imp.refl (ImpL.cons (Imp.list (f:=Bg) (List.length_map _)) (ImpL.cons (Imp.list (f:=atX) (List.length_map _)) ImpL.nil))))) ImpL.nil))).same
end Sv
end
section
open Go Go.RowKit
namespace Sv
attribute [local irreducible] SW SO Bk
set_option maxHeartbeats 400000
set_option maxRecDepth 100000
theorem X56:Ak Tryz.prog 99:=Ao Tryz.func99 (by kernel_rfl) rfl
theorem Q4u:Ak Tryz.prog 11:=Ao Tryz.func11 (by kernel_rfl) rfl
theorem Q4t:Ak Tryz.prog 12:=Ao Tryz.func12 (by kernel_rfl) rfl
theorem Y3l (st:PoolT) :
  FnV Tryz.prog 99 [(.fp (Cl st))] (.int .i64 st.kind):=by
 refine A3 [.tmp 2] Tryz.func99 rfl Tryz.ntmps99 rfl rfl (fun B F hF=>?_);refine Aa [] [0] ?_;refine Ab (Aa [] [0,4] ?_);refine Du (by kernel_rfl) ?_;refine Ag (Aa [] [2] ?_);refine Ae (RK wR [(.int .i64 st.kind)] ?_);exact Same.of_eq (by first|rfl|(simp only[Af];simp_all))
theorem Q7j (st:PoolT) :
  FnV Tryz.prog 11 [(.fp (Cl st))] (.int .i64 ((st.all.length:Int))):=by
 refine A3 [.tmp 2] Tryz.func11 rfl Tryz.ntmps11 rfl rfl (fun B F hF=>?_);refine Aa [] [0] ?_;refine Ab (Aa [] [0,4] ?_);refine Du (by kernel_rfl) ?_;refine Ag (Aa [] [2] ?_);refine Ae (RK wR [(.int .i64 ((st.all.length:Int)))] ?_);exact Same.of_eq (by first|rfl|(simp only[Af];simp_all))
theorem Q7h (st:PoolT) (i:Nat) (hi:i < st.all.length) (hs:(nth st.all i).1.size≤4194304) :
  FnV Tryz.prog 12 [(.fp (Cl st)),(.int .i64 ((i:Int)))] (.tup [Ar (nth st.all i).1,.int .i64 (nth st.all i).2,.int .i64 0]):=by
 refine A3 [.cell 4 42,.tmp 5,.tmp 6] Tryz.func12 rfl Tryz.ntmps12 rfl rfl (fun B F hF=>?_);refine Aa [] [0,1,4] ?_;refine Ab ?_;refine Az (Aa [] [0,1,4,7] ?_);refine Du (by kernel_rfl) ?_
 obtain⟨b1,hb1⟩:∃b,b=(decide ((i:Int) < 0)):=⟨_,rfl⟩
 obtain⟨b2,hb2⟩:∃b,b=(b1||(decide ((st.all.length:Int)≤(i:Int)))):=⟨_,rfl⟩
 refine Ad (CS:=[(5,((!b1)=true→(!b1)=true)),(6,((!b1)=true→(!b1)=true)),(7,((!b1)=true→(!b1)=true)),(8,((!b1)=true→(!b1)=true)),(9,((!b1)=true→(!b1)=true∧(!b1)=true)),(10,(b1=false→(!b1)=true))]) [15,16,17,18,19,20,21] [0,1,4,11] [] hk0 (vk 3 14 (a:=.bool (decide ((i:Int) < 0))) (b:=.bool b1) (Imp.of_eq (by rw[hb1]))<|vk 11 22 (a:=.bool (b1||(decide ((st.all.length:Int)≤(i:Int))))) (b:=.bool b2) (Imp.of_eq (by rw[hb2]))<|v0) (by refine cc _ ?_<|cc _ ?_<|cc _ ?_<|cc _ ?_<|cc _ ?_<|cc _ ?_ c0<;>simp) ?_;refine A5 (q:=b2) (by kernel_rfl) (fun c1=>?_) (fun c1=>?_)
 ·subst hb2 hb1
  try simp only[Ai] at c1
  exfalso;simp at c1;omega
 ·subst hb2 hb1
  try simp only[Ai] at c1
  refine Ag (Co (CS:=[(5,(0≤(i:Int)∧i < st.all.length)),(14,(0≤(i:Int)∧i < st.all.length))]) [] [4,5,6] [] (hk 8 Q35 (Q5a (nth st.all i).1 (by have:=(nth st.all i).1.sizes;omega) (by have:=(nth st.all i).1.sizes;have:=Kp (nth st.all i).1.files;omega))<|hk0) v0 (by refine cc _ ?_<|cc _ ?_ c0<;>omega) ?_);refine Ae (RK wR [(Ar ((nth st.all i).1)),(.int .i64 ((nth st.all i).2)),(.int .i64 0)] ?_);exact Same.of_eq (by first|rfl|(simp only[Af];simp_all))
end Sv
end
section
open Go Go.RowKit
namespace Sv
attribute [local irreducible] SW SO Bk
set_option maxHeartbeats 1000000
set_option maxRecDepth 100000
theorem X63:Ak Tryz.prog 49:=Ao Tryz.func49 (by kernel_rfl) rfl
theorem V0:Ak Tryz.prog 100:=Ao Tryz.func100 (by kernel_rfl) rfl
structure OfferT where
 id:Int
 own:Bool
 op:Int
 evr:List UInt8
 deriving Inhabited
noncomputable def Jp (o:OfferT):AV:=.agg [.int .i64 o.id,.bool o.own,.int .i64 o.op,.str o.evr]
def Cf (ps:List (List UInt8 × OfferT)) (s:List UInt8):List OfferT:=(ps.filter fun q=>decide (q.1=s)).map fun q=>q.2
noncomputable def A6 (ps:List (List UInt8 × OfferT)) (s:List UInt8):List AV:=(Cf ps s).map Jp
theorem Q0w (ps:List (List UInt8 × OfferT)) (s:List UInt8) (o:OfferT):D0 (A6 ps) s (A6 ps s++[Jp o])=A6 (ps++[(s,o)]):=by
 funext t;unfold D0 A6 Cf;rw[List.filter_append,List.map_append,List.map_append];by_cases h:t=s
 ·subst h;rw[if_pos rfl];simp
 ·rw[if_neg h];have:¬s=t:=fun q=>h q.symm;simp[this]
theorem Rf (ps:List (List UInt8 × OfferT)) (s:List UInt8):(A6 ps s).length≤ps.length:=by
 unfold A6 Cf;rw[List.length_map,List.length_map];exact List.length_filter_le _ _
def Ek (i:Nat) (p:PkgT) (j:Nat):List (List UInt8 × OfferT):=(p.name,⟨i,true,2,p.evr⟩)::(p.provides.take j).map fun d=>(d.name,⟨i,false,d.op,d.evr⟩)
def D1 (i:Nat) (p:PkgT) (j:Nat):List (List UInt8 × OfferT):=Ek i p p.provides.length++(p.files.take j).map fun f=>(f,⟨i,false,0,[]⟩)
def Ga (i:Nat) (p:PkgT):List (List UInt8 × OfferT):=D1 i p p.files.length
def Bl (l:List (PkgT × Int)) (n:Nat):List (List UInt8 × OfferT):=(List.range n).flatMap fun i=>Ga i (nth l i).1
theorem X1z {i:Nat} {p:PkgT} {j:Nat} (h:j < p.provides.length):Ek i p (j+1)=Ek i p j++[((nth p.provides j).name,⟨i,false,(nth p.provides j).op,(nth p.provides j).evr⟩)]:=by
 unfold Ek;rw[List.take_add_one,List.getElem?_eq_getElem h,List.map_append];simp[nth,h]
theorem X1y {i:Nat} {p:PkgT} {j:Nat} (h:j < p.files.length):D1 i p (j+1)=D1 i p j++[(nth p.files j,⟨i,false,0,[]⟩)]:=by
 unfold D1;rw[List.take_add_one,List.getElem?_eq_getElem h,List.map_append,List.append_assoc];simp[nth,h]
theorem Zp {l:List (PkgT × Int)} {n:Nat}:Bl l (n+1)=Bl l n++Ga n (nth l n).1:=by
 unfold Bl;rw[List.range_succ,List.flatMap_append];simp
theorem Q4 {i:Nat} {p:PkgT} {j:Nat}:(Ek i p j).length≤1+p.provides.length:=by
 unfold Ek;simp only[List.length_cons,List.length_map,List.length_take];omega
theorem Q3 {i:Nat} {p:PkgT} {j:Nat}:(D1 i p j).length≤1+p.provides.length+p.files.length:=by
 have:=Q4 (i:=i) (p:=p) (j:=p.provides.length);unfold D1;simp only[List.length_append,List.length_map,List.length_take];omega
theorem Zq {l:List (PkgT × Int)} (hs:∀i,i < l.length→(nth l i).1.size≤4194304):∀n,n≤l.length→(Bl l n).length≤n*8388609:=by
 intro n
 induction n with
 |zero=>intro _;exact Nat.le_refl _
 |succ n ih =>
  intro h;have h1:=ih (by omega);have h2:=Q3 (i:=n) (p:=(nth l n).1) (j:=(nth l n).1.files.length);have h3:=(nth l n).1.sizes;have h4:=hs n (by omega);have h5:=Et (nth l n).1.provides;have h6:=Kp (nth l n).1.files
  have h7:argsSize (nth l n).1.provides≤(nth l n).1.depSize:=by unfold PkgT.depSize;omega
  rw[Zp,List.length_append];unfold Ga;omega
noncomputable def En (st:PoolT):AV:=.agg [.int .i64 st.kind,.int .i64 (st.all.length:Int),.smap (.slice none 0 0) (fun s => .row 4 (A6 (Bl st.all st.all.length) s).length (fun i=>(A6 (Bl st.all st.all.length) s).getD i Bn))]
theorem Ug (kind count:Int) (ps:List (List UInt8 × OfferT)) (s:List UInt8) (o:OfferT) (hl:(A6 ps s).length≤2147483648) :
  F6 Tryz.prog 100 [(.str s),(.agg [(.int .i64 o.id),(.bool o.own),(.int .i64 o.op),(.str o.evr)]),(.ptr 0 0)] [(0,(.row [(.ptr 1 0)] 93)),(1,(.row [(.int .i64 kind),(.int .i64 count),(.map 2)] 136)),(2,(.mm (A6 ps) none 138 4))] 3 (.tup []) [(0,(.row [(.ptr 1 0)] 93)),(1,(.row [(.int .i64 kind),(.int .i64 count),(.map 2)] 136)),(2,(.mm (A6 (ps++[(s,o)])) none 138 4))]:=by
 refine L8 [] Tryz.func100 rfl Tryz.ntmps100 rfl rfl (by kernel_rfl) (by kernel_rfl) (by kernel_rfl) (fun B F hF=>?_);refine Aa [] [0,2,4] ?_;refine Sz 4 (y:=⟨[(0,(.str s)),(2,(.ptr 0 0)),(4,(.fp (.agg [(.int .i64 o.id),(.bool o.own),(.int .i64 o.op),(.str o.evr)])))],[(0,(.row [(.ptr 1 0)] 93)),(1,(.row [(.int .i64 kind),(.int .i64 count),(.map 2)] 136)),(2,(.mm (A6 ps) none 138 4))],4⟩) (by kernel_rfl) ?_;refine Ja (by kernel_rfl) (fun F1 hF1=>?_);refine Ch false 1 (lsD 15 [0,1,2,3,4,5,6,7,8,9,10,11,12,13]) ⟨[(8,(.map 2)),(9,(.str s)),(18,(.own 4))],[(0,(.row [(.ptr 1 0)] 93)),(1,(.row [(.int .i64 kind),(.int .i64 count),(.map 2)] 136)),(2,(.mm (A6 ps) (some s) 138 4)),(4,(.grow (((A6 ps) s)++([(.agg [(.int .i64 o.id),(.bool o.own),(.int .i64 o.op),(.str o.evr)])]:List AV)) 138 4)),(5,(.row [(.int .i64 o.id),(.bool o.own),(.int .i64 o.op),(.str o.evr)] 138))],6⟩ ?_ (fun m1_1=>?_)
 ·refine Ev (fuel:=0) 14 (by kernel_rfl) ?_;refine Cs (fuel:=0) 14 rfl ?_;refine S4 (b:=2) (c:=4) (s:=s) (s1:=s) (y:=⟨[(8,(.map 2)),(9,(.str s)),(18,(.own 4))],[(0,(.row [(.ptr 1 0)] 93)),(1,(.row [(.int .i64 kind),(.int .i64 count),(.map 2)] 136)),(2,(.mm (D0 (A6 ps) s (((A6 ps) s)++([(.agg [(.int .i64 o.id),(.bool o.own),(.int .i64 o.op),(.str o.evr)])]:List AV))) none 138 4)),(5,(.row [(.int .i64 o.id),(.bool o.own),(.int .i64 o.op),(.str o.evr)] 138))],6⟩) (by kernel_rfl) (by kernel_rfl) (by kernel_rfl) (by kernel_rfl) (by kernel_rfl) rfl Tryz.underlying134 Tryz.underlying9 (by kernel_rfl) rfl ?_;refine Br ⟨rfl,?_⟩;refine Ay [] ?_;refine Hy (by kernel_rfl) ?_;refine Ej (.inr rfl) (al:=[]) (by kernel_rfl) ?_ ((by kernel_rfl:C6 3 _=some [(0,(.row [(.ptr 1 0)] 93)),(1,(.row [(.int .i64 kind),(.int .i64 count),(.map 2)] 136)),(2,(.mm (D0 (A6 ps) s (((A6 ps) s)++([(.agg [(.int .i64 o.id),(.bool o.own),(.int .i64 o.op),(.str o.evr)])]:List AV))) none 138 4))]).trans ?_)
  ·rfl
  ·rw[show(D0 (A6 ps) s (((A6 ps) s)++([(.agg [(.int .i64 o.id),(.bool o.own),(.int .i64 o.op),(.str o.evr)])]:List AV)))=A6 (ps++[(s,o)]) from Q0w ps s o]<;>kernel_rfl
 refine Ch false 1 (lsD 15 [0,1,2,3,4,5,6,7,8,9,10,11,12,13]) ⟨[(8,(.map 2)),(9,(.str s)),(18,(.own 5))],[(0,(.row [(.ptr 1 0)] 93)),(1,(.row [(.int .i64 kind),(.int .i64 count),(.map 2)] 136)),(2,(.mm (A6 ps) (some s) 138 4)),(4,(.row [(.int .i64 o.id),(.bool o.own),(.int .i64 o.op),(.str o.evr)] 138)),(5,(.grow (((A6 ps) s)++([(.agg [(.int .i64 o.id),(.bool o.own),(.int .i64 o.op),(.str o.evr)])]:List AV)) 138 4))],6⟩ ?_ (fun m1_2=>?_)
 ·refine Ev (fuel:=0) 14 (by kernel_rfl) ?_;refine Cs (fuel:=0) 14 rfl ?_;refine S4 (b:=2) (c:=5) (s:=s) (s1:=s) (y:=⟨[(8,(.map 2)),(9,(.str s)),(18,(.own 5))],[(0,(.row [(.ptr 1 0)] 93)),(1,(.row [(.int .i64 kind),(.int .i64 count),(.map 2)] 136)),(2,(.mm (D0 (A6 ps) s (((A6 ps) s)++([(.agg [(.int .i64 o.id),(.bool o.own),(.int .i64 o.op),(.str o.evr)])]:List AV))) none 138 4)),(4,(.row [(.int .i64 o.id),(.bool o.own),(.int .i64 o.op),(.str o.evr)] 138))],6⟩) (by kernel_rfl) (by kernel_rfl) (by kernel_rfl) (by kernel_rfl) (by kernel_rfl) rfl Tryz.underlying134 Tryz.underlying9 (by kernel_rfl) rfl ?_;refine Br ⟨rfl,?_⟩;refine Ay [] ?_;refine Hy (by kernel_rfl) ?_;refine Ej (.inr rfl) (al:=[]) (by kernel_rfl) ?_ ((by kernel_rfl:C6 3 _=some [(0,(.row [(.ptr 1 0)] 93)),(1,(.row [(.int .i64 kind),(.int .i64 count),(.map 2)] 136)),(2,(.mm (D0 (A6 ps) s (((A6 ps) s)++([(.agg [(.int .i64 o.id),(.bool o.own),(.int .i64 o.op),(.str o.evr)])]:List AV))) none 138 4))]).trans ?_)
  ·rfl
  ·rw[show(D0 (A6 ps) s (((A6 ps) s)++([(.agg [(.int .i64 o.id),(.bool o.own),(.int .i64 o.op),(.str o.evr)])]:List AV)))=A6 (ps++[(s,o)]) from Q0w ps s o]<;>kernel_rfl
 refine Ch false 2 (lsD 15 [0,1,2,3,4,5,6,7,8,9,10,11,12]) ⟨[(8,(.map 2)),(9,(.str s)),(15,(.own 4)),(17,(.sl 5 0 1 1 false))],[(0,(.row [(.ptr 1 0)] 93)),(1,(.row [(.int .i64 kind),(.int .i64 count),(.map 2)] 136)),(2,(.mm (A6 ps) (some s) 138 4)),(4,(.grow ((A6 ps) s) 138 4)),(5,(.row [(.int .i64 o.id),(.bool o.own),(.int .i64 o.op),(.str o.evr)] 138))],6⟩ ?_ (fun m1_3=>?_)
 ·refine Db (fuel:=1) 13 [] (hold (p:=((((A6 ps) s).length+1)*40≤140737488355328)) (by omega)) ?_;refine Ay [8,9,18] ?_;exact A8 m1_1
 refine Ch false 2 (lsD 15 [0,1,2,3,4,5,6,7,8,9,10,11,12]) ⟨[(8,(.map 2)),(9,(.str s)),(15,(.own 5)),(17,(.sl 4 0 1 1 false))],[(0,(.row [(.ptr 1 0)] 93)),(1,(.row [(.int .i64 kind),(.int .i64 count),(.map 2)] 136)),(2,(.mm (A6 ps) (some s) 138 4)),(4,(.row [(.int .i64 o.id),(.bool o.own),(.int .i64 o.op),(.str o.evr)] 138)),(5,(.grow ((A6 ps) s) 138 4))],6⟩ ?_ (fun m1_4=>?_)
 ·refine Db (fuel:=1) 13 [] (hold (p:=((((A6 ps) s).length+1)*40≤140737488355328)) (by omega)) ?_;refine Ay [8,9,18] ?_;exact A8 m1_2
 refine Ch false 2 (lsD 15 [0,1,2,4,5,6,7,8,9,10,11,12,13]) ⟨[(7,(.ptr 1 2)),(9,(.str s)),(18,(.own 4))],[(0,(.row [(.ptr 1 0)] 93)),(1,(.row [(.int .i64 kind),(.int .i64 count),(.map 2)] 136)),(2,(.mm (A6 ps) (some s) 138 4)),(4,(.grow (((A6 ps) s)++([(.agg [(.int .i64 o.id),(.bool o.own),(.int .i64 o.op),(.str o.evr)])]:List AV)) 138 4)),(5,(.row [(.int .i64 o.id),(.bool o.own),(.int .i64 o.op),(.str o.evr)] 138))],6⟩ ?_ (fun m1_5=>?_)
 ·refine Db (fuel:=1) 3 [] A1 ?_;refine Ay [8,9,18] ?_;exact A8 m1_1
 refine Ch false 2 (lsD 15 [0,1,2,4,5,6,7,8,9,10,11,12,13]) ⟨[(7,(.ptr 1 2)),(9,(.str s)),(18,(.own 5))],[(0,(.row [(.ptr 1 0)] 93)),(1,(.row [(.int .i64 kind),(.int .i64 count),(.map 2)] 136)),(2,(.mm (A6 ps) (some s) 138 4)),(4,(.row [(.int .i64 o.id),(.bool o.own),(.int .i64 o.op),(.str o.evr)] 138)),(5,(.grow (((A6 ps) s)++([(.agg [(.int .i64 o.id),(.bool o.own),(.int .i64 o.op),(.str o.evr)])]:List AV)) 138 4))],6⟩ ?_ (fun m1_6=>?_)
 ·refine Db (fuel:=1) 3 [] A1 ?_;refine Ay [8,9,18] ?_;exact A8 m1_2
 refine Ch false 3 (lsD 15 [0,1,2,3,4,5,6,7,8,9,10,11]) ⟨[(8,(.map 2)),(9,(.str s)),(15,(.own 4)),(16,(.agg [(.int .i64 o.id),(.bool o.own),(.int .i64 o.op),(.str o.evr)]))],[(0,(.row [(.ptr 1 0)] 93)),(1,(.row [(.int .i64 kind),(.int .i64 count),(.map 2)] 136)),(2,(.mm (A6 ps) (some s) 138 4)),(4,(.grow ((A6 ps) s) 138 4))],5⟩ ?_ (fun m1_7=>?_)
 ·refine Db (fuel:=2) 12 [] A1 ?_;refine Ay [8,9,15,17] ?_;exact A8 m1_3
 refine Ch true 3 (lsD 15 [0,1,2,3,4,5,6,7,8,9,11,12]) ⟨[(8,(.map 2)),(9,(.str s)),(13,(.map 2)),(14,(.str s)),(17,(.sl 4 0 1 1 false))],[(0,(.row [(.ptr 1 0)] 93)),(1,(.row [(.int .i64 kind),(.int .i64 count),(.map 2)] 136)),(2,(.mm (A6 ps) none 138 4)),(4,(.row [(.int .i64 o.id),(.bool o.own),(.int .i64 o.op),(.str o.evr)] 138))],5⟩ ?_ (fun m1_8=>?_)
 ·refine Ev (fuel:=2) 10 (by kernel_rfl) ?_;refine Cs (fuel:=2) 10 rfl ?_;refine Fp (b:=2) (s:=s) (y:=⟨[(8,(.map 2)),(9,(.str s)),(13,(.map 2)),(14,(.str s)),(17,(.sl 4 0 1 1 false)),(15,(.own 5))],[(0,(.row [(.ptr 1 0)] 93)),(1,(.row [(.int .i64 kind),(.int .i64 count),(.map 2)] 136)),(2,(.mm (A6 ps) (some s) 138 4)),(4,(.row [(.int .i64 o.id),(.bool o.own),(.int .i64 o.op),(.str o.evr)] 138)),(5,(.grow ((A6 ps) s) 138 4))],6⟩) (by kernel_rfl) (by kernel_rfl) (by kernel_rfl) Tryz.underlying134 Tryz.underlying9 (fun _=>by kernel_rfl) (by kernel_rfl) ?_;refine Br ⟨rfl,?_⟩;refine Ay [8,9,15,17] ?_;exact A8 m1_4
 refine Ch false 3 (lsD 15 [0,1,2,4,5,6,7,8,9,10,11,12]) ⟨[(7,(.ptr 1 2)),(9,(.str s)),(15,(.own 4)),(17,(.sl 5 0 1 1 false))],[(0,(.row [(.ptr 1 0)] 93)),(1,(.row [(.int .i64 kind),(.int .i64 count),(.map 2)] 136)),(2,(.mm (A6 ps) (some s) 138 4)),(4,(.grow ((A6 ps) s) 138 4)),(5,(.row [(.int .i64 o.id),(.bool o.own),(.int .i64 o.op),(.str o.evr)] 138))],6⟩ ?_ (fun m1_9=>?_)
 ·refine Ck 3 13 (by kernel_rfl) ?_ ?_
  ·refine A9 (fuel:=2) 3 [] A1 ?_;refine Ay [8,9,15,17] ?_;exact A8 m1_3
  ·refine A9 (fuel:=2) 13 [] (hold (p:=((((A6 ps) s).length+1)*40≤140737488355328)) (by omega)) ?_;refine Ay [7,9,18] ?_;exact A8 m1_5
 refine Ch false 3 (lsD 15 [0,1,2,4,5,6,7,8,9,10,11,12]) ⟨[(7,(.ptr 1 2)),(9,(.str s)),(15,(.own 5)),(17,(.sl 4 0 1 1 false))],[(0,(.row [(.ptr 1 0)] 93)),(1,(.row [(.int .i64 kind),(.int .i64 count),(.map 2)] 136)),(2,(.mm (A6 ps) (some s) 138 4)),(4,(.row [(.int .i64 o.id),(.bool o.own),(.int .i64 o.op),(.str o.evr)] 138)),(5,(.grow ((A6 ps) s) 138 4))],6⟩ ?_ (fun m1_10=>?_)
 ·refine Ck 3 13 (by kernel_rfl) ?_ ?_
  ·refine A9 (fuel:=2) 3 [] A1 ?_;refine Ay [8,9,15,17] ?_;exact A8 m1_4
  ·refine A9 (fuel:=2) 13 [] (hold (p:=((((A6 ps) s).length+1)*40≤140737488355328)) (by omega)) ?_;refine Ay [7,9,18] ?_;exact A8 m1_6
 refine Ch true 4 (lsD 15 [0,1,2,3,4,5,6,7,8,9,11]) ⟨[(8,(.map 2)),(9,(.str s)),(13,(.map 2)),(14,(.str s)),(16,(.agg [(.int .i64 o.id),(.bool o.own),(.int .i64 o.op),(.str o.evr)]))],[(0,(.row [(.ptr 1 0)] 93)),(1,(.row [(.int .i64 kind),(.int .i64 count),(.map 2)] 136)),(2,(.mm (A6 ps) none 138 4))],4⟩ ?_ (fun m1_11=>?_)
 ·refine Ck 10 12 (by kernel_rfl) ?_ ?_
  ·refine Cs (fuel:=3) 10 rfl ?_;refine Fp (b:=2) (s:=s) (y:=⟨[(8,(.map 2)),(9,(.str s)),(13,(.map 2)),(14,(.str s)),(16,(.agg [(.int .i64 o.id),(.bool o.own),(.int .i64 o.op),(.str o.evr)])),(15,(.own 4))],[(0,(.row [(.ptr 1 0)] 93)),(1,(.row [(.int .i64 kind),(.int .i64 count),(.map 2)] 136)),(2,(.mm (A6 ps) (some s) 138 4)),(4,(.grow ((A6 ps) s) 138 4))],5⟩) (by kernel_rfl) (by kernel_rfl) (by kernel_rfl) Tryz.underlying134 Tryz.underlying9 (fun _=>by kernel_rfl) (by kernel_rfl) ?_;refine Br ⟨rfl,?_⟩;refine Ay [8,9,15,16] ?_;exact A8 m1_7
  ·refine A9 (fuel:=3) 12 [] A1 ?_;refine Ay [8,9,13,14,17] ?_;exact A8 m1_8
 refine Ch true 4 (lsD 15 [0,1,2,3,4,5,6,7,9,11,12]) ⟨[(8,(.map 2)),(9,(.str s)),(12,(.ptr 1 2)),(14,(.str s)),(17,(.sl 4 0 1 1 false))],[(0,(.row [(.ptr 1 0)] 93)),(1,(.row [(.int .i64 kind),(.int .i64 count),(.map 2)] 136)),(2,(.mm (A6 ps) none 138 4)),(4,(.row [(.int .i64 o.id),(.bool o.own),(.int .i64 o.op),(.str o.evr)] 138))],5⟩ ?_ (fun m1_12=>?_)
 ·refine Db (fuel:=3) 8 [] A1 ?_;refine Ay [8,9,13,14,17] ?_;exact A8 m1_8
 refine Ch false 4 (lsD 15 [0,1,2,4,5,6,7,8,9,10,11]) ⟨[(7,(.ptr 1 2)),(9,(.str s)),(15,(.own 4)),(16,(.agg [(.int .i64 o.id),(.bool o.own),(.int .i64 o.op),(.str o.evr)]))],[(0,(.row [(.ptr 1 0)] 93)),(1,(.row [(.int .i64 kind),(.int .i64 count),(.map 2)] 136)),(2,(.mm (A6 ps) (some s) 138 4)),(4,(.grow ((A6 ps) s) 138 4))],5⟩ ?_ (fun m1_13=>?_)
 ·refine Ck 3 12 (by kernel_rfl) ?_ ?_
  ·refine A9 (fuel:=3) 3 [] A1 ?_;refine Ay [8,9,15,16] ?_;exact A8 m1_7
  ·refine A9 (fuel:=3) 12 [] A1 ?_;refine Ay [7,9,15,17] ?_;exact A8 m1_9
 refine Ch true 4 (lsD 15 [0,1,2,4,5,6,7,8,9,11,12]) ⟨[(7,(.ptr 1 2)),(9,(.str s)),(13,(.map 2)),(14,(.str s)),(17,(.sl 4 0 1 1 false))],[(0,(.row [(.ptr 1 0)] 93)),(1,(.row [(.int .i64 kind),(.int .i64 count),(.map 2)] 136)),(2,(.mm (A6 ps) none 138 4)),(4,(.row [(.int .i64 o.id),(.bool o.own),(.int .i64 o.op),(.str o.evr)] 138))],5⟩ ?_ (fun m1_14=>?_)
 ·refine Ck 3 10 (by kernel_rfl) ?_ ?_
  ·refine A9 (fuel:=3) 3 [] A1 ?_;refine Ay [8,9,13,14,17] ?_;exact A8 m1_8
  ·refine Cs (fuel:=3) 10 rfl ?_;refine Fp (b:=2) (s:=s) (y:=⟨[(7,(.ptr 1 2)),(9,(.str s)),(13,(.map 2)),(14,(.str s)),(17,(.sl 4 0 1 1 false)),(15,(.own 5))],[(0,(.row [(.ptr 1 0)] 93)),(1,(.row [(.int .i64 kind),(.int .i64 count),(.map 2)] 136)),(2,(.mm (A6 ps) (some s) 138 4)),(4,(.row [(.int .i64 o.id),(.bool o.own),(.int .i64 o.op),(.str o.evr)] 138)),(5,(.grow ((A6 ps) s) 138 4))],6⟩) (by kernel_rfl) (by kernel_rfl) (by kernel_rfl) Tryz.underlying134 Tryz.underlying9 (fun _=>by kernel_rfl) (by kernel_rfl) ?_;refine Br ⟨rfl,?_⟩;refine Ay [7,9,15,17] ?_;exact A8 m1_10
 refine Ch true 5 (lsD 15 [0,1,2,3,4,5,6,7,9,11]) ⟨[(8,(.map 2)),(9,(.str s)),(12,(.ptr 1 2)),(14,(.str s)),(16,(.agg [(.int .i64 o.id),(.bool o.own),(.int .i64 o.op),(.str o.evr)]))],[(0,(.row [(.ptr 1 0)] 93)),(1,(.row [(.int .i64 kind),(.int .i64 count),(.map 2)] 136)),(2,(.mm (A6 ps) none 138 4))],4⟩ ?_ (fun m1_15=>?_)
 ·refine Ck 8 12 (by kernel_rfl) ?_ ?_
  ·refine A9 (fuel:=4) 8 [] A1 ?_;refine Ay [8,9,13,14,16] ?_;exact A8 m1_11
  ·refine A9 (fuel:=4) 12 [] A1 ?_;refine Ay [8,9,12,14,17] ?_;exact A8 m1_12
 refine Ch true 5 (lsD 15 [0,1,2,4,5,6,7,8,9,11]) ⟨[(7,(.ptr 1 2)),(9,(.str s)),(13,(.map 2)),(14,(.str s)),(16,(.agg [(.int .i64 o.id),(.bool o.own),(.int .i64 o.op),(.str o.evr)]))],[(0,(.row [(.ptr 1 0)] 93)),(1,(.row [(.int .i64 kind),(.int .i64 count),(.map 2)] 136)),(2,(.mm (A6 ps) none 138 4))],4⟩ ?_ (fun m1_16=>?_)
 ·refine Gp 3 10 12 (by kernel_rfl) ?_ ?_ ?_
  ·refine A9 (fuel:=4) 3 [] A1 ?_;refine Ay [8,9,13,14,16] ?_;exact A8 m1_11
  ·refine Cs (fuel:=4) 10 rfl ?_;refine Fp (b:=2) (s:=s) (y:=⟨[(7,(.ptr 1 2)),(9,(.str s)),(13,(.map 2)),(14,(.str s)),(16,(.agg [(.int .i64 o.id),(.bool o.own),(.int .i64 o.op),(.str o.evr)])),(15,(.own 4))],[(0,(.row [(.ptr 1 0)] 93)),(1,(.row [(.int .i64 kind),(.int .i64 count),(.map 2)] 136)),(2,(.mm (A6 ps) (some s) 138 4)),(4,(.grow ((A6 ps) s) 138 4))],5⟩) (by kernel_rfl) (by kernel_rfl) (by kernel_rfl) Tryz.underlying134 Tryz.underlying9 (fun _=>by kernel_rfl) (by kernel_rfl) ?_;refine Br ⟨rfl,?_⟩;refine Ay [7,9,15,16] ?_;exact A8 m1_13
  ·refine A9 (fuel:=4) 12 [] A1 ?_;refine Ay [7,9,13,14,17] ?_;exact A8 m1_14
 refine Ch true 5 (lsD 15 [0,1,2,4,5,6,7,9,11,12]) ⟨[(7,(.ptr 1 2)),(9,(.str s)),(12,(.ptr 1 2)),(14,(.str s)),(17,(.sl 4 0 1 1 false))],[(0,(.row [(.ptr 1 0)] 93)),(1,(.row [(.int .i64 kind),(.int .i64 count),(.map 2)] 136)),(2,(.mm (A6 ps) none 138 4)),(4,(.row [(.int .i64 o.id),(.bool o.own),(.int .i64 o.op),(.str o.evr)] 138))],5⟩ ?_ (fun m1_17=>?_)
 ·refine Ck 3 8 (by kernel_rfl) ?_ ?_
  ·refine A9 (fuel:=4) 3 [] A1 ?_;refine Ay [8,9,12,14,17] ?_;exact A8 m1_12
  ·refine A9 (fuel:=4) 8 [] A1 ?_;refine Ay [7,9,13,14,17] ?_;exact A8 m1_14
 refine Ch true 7 (lsD 15 [0,1,2,3,4,9,11,12]) ⟨[(2,(.ptr 0 0)),(8,(.map 2)),(9,(.str s)),(14,(.str s)),(17,(.sl 4 0 1 1 false))],[(0,(.row [(.ptr 1 0)] 93)),(1,(.row [(.int .i64 kind),(.int .i64 count),(.map 2)] 136)),(2,(.mm (A6 ps) none 138 4)),(4,(.row [(.int .i64 o.id),(.bool o.own),(.int .i64 o.op),(.str o.evr)] 138))],5⟩ ?_ (fun m1_18=>?_)
 ·refine Db (fuel:=6) 5 [] A1 ?_;refine C3 (fuel:=4) [] [6,7] [8,9,12,14,17] A1 ?_;refine Db (fuel:=3) 8 [] A1 ?_;refine Ay [8,9,13,14,17] ?_;exact A8 m1_8
 refine Ch true 7 (lsD 15 [0,1,2,4,5,9,11,12]) ⟨[(7,(.ptr 1 2)),(9,(.str s)),(10,(.ptr 1 0)),(14,(.str s)),(17,(.sl 4 0 1 1 false))],[(0,(.row [(.ptr 1 0)] 93)),(1,(.row [(.int .i64 kind),(.int .i64 count),(.map 2)] 136)),(2,(.mm (A6 ps) none 138 4)),(4,(.row [(.int .i64 o.id),(.bool o.own),(.int .i64 o.op),(.str o.evr)] 138))],5⟩ ?_ (fun m1_19=>?_)
 ·refine C3 (fuel:=5) [] [6,7] [7,9,12,14,17] A1 ?_;refine Ck 3 8 (by kernel_rfl) ?_ ?_
  ·refine A9 (fuel:=4) 3 [] A1 ?_;refine Ay [8,9,12,14,17] ?_;exact A8 m1_12
  ·refine A9 (fuel:=4) 8 [] A1 ?_;refine Ay [7,9,13,14,17] ?_;exact A8 m1_14
 refine Ch true 7 (lsD 15 [4,5,6,7,8,9,11,12]) ⟨[(2,(.ptr 0 0)),(9,(.str s)),(13,(.map 2)),(14,(.str s)),(17,(.sl 4 0 1 1 false))],[(0,(.row [(.ptr 1 0)] 93)),(1,(.row [(.int .i64 kind),(.int .i64 count),(.map 2)] 136)),(2,(.mm (A6 ps) none 138 4)),(4,(.row [(.int .i64 o.id),(.bool o.own),(.int .i64 o.op),(.str o.evr)] 138))],5⟩ ?_ (fun m1_20=>?_)
 ·refine Ck 0 10 (by kernel_rfl) ?_ ?_
  ·refine A9 (fuel:=6) 0 [] A1 ?_;refine Ay [5,9,13,14,17] ?_;refine C3 (fuel:=4) [] [1,2] [7,9,13,14,17] A1 ?_;refine Ck 3 10 (by kernel_rfl) ?_ ?_
   ·refine A9 (fuel:=3) 3 [] A1 ?_;refine Ay [8,9,13,14,17] ?_;exact A8 m1_8
   ·refine Cs (fuel:=3) 10 rfl ?_;refine Fp (b:=2) (s:=s) (y:=⟨[(7,(.ptr 1 2)),(9,(.str s)),(13,(.map 2)),(14,(.str s)),(17,(.sl 4 0 1 1 false)),(15,(.own 5))],[(0,(.row [(.ptr 1 0)] 93)),(1,(.row [(.int .i64 kind),(.int .i64 count),(.map 2)] 136)),(2,(.mm (A6 ps) (some s) 138 4)),(4,(.row [(.int .i64 o.id),(.bool o.own),(.int .i64 o.op),(.str o.evr)] 138)),(5,(.grow ((A6 ps) s) 138 4))],6⟩) (by kernel_rfl) (by kernel_rfl) (by kernel_rfl) Tryz.underlying134 Tryz.underlying9 (fun _=>by kernel_rfl) (by kernel_rfl) ?_;refine Br ⟨rfl,?_⟩;refine Ay [7,9,15,17] ?_;exact A8 m1_10
  ·refine Cs (fuel:=6) 10 rfl ?_;refine Fp (b:=2) (s:=s) (y:=⟨[(2,(.ptr 0 0)),(9,(.str s)),(13,(.map 2)),(14,(.str s)),(17,(.sl 4 0 1 1 false)),(15,(.own 5))],[(0,(.row [(.ptr 1 0)] 93)),(1,(.row [(.int .i64 kind),(.int .i64 count),(.map 2)] 136)),(2,(.mm (A6 ps) (some s) 138 4)),(4,(.row [(.int .i64 o.id),(.bool o.own),(.int .i64 o.op),(.str o.evr)] 138)),(5,(.grow ((A6 ps) s) 138 4))],6⟩) (by kernel_rfl) (by kernel_rfl) (by kernel_rfl) Tryz.underlying134 Tryz.underlying9 (fun _=>by kernel_rfl) (by kernel_rfl) ?_;refine Br ⟨rfl,?_⟩;refine Ay [2,9,15,17] ?_;refine Ck 0 13 (by kernel_rfl) ?_ ?_
   ·refine A9 (fuel:=5) 0 [] A1 ?_;refine Ay [5,9,15,17] ?_;refine C3 (fuel:=3) [] [1,2] [7,9,15,17] A1 ?_;refine Ck 3 13 (by kernel_rfl) ?_ ?_
    ·refine A9 (fuel:=2) 3 [] A1 ?_;refine Ay [8,9,15,17] ?_;exact A8 m1_4
    ·refine A9 (fuel:=2) 13 [] (hold (p:=((((A6 ps) s).length+1)*40≤140737488355328)) (by omega)) ?_;refine Ay [7,9,18] ?_;exact A8 m1_6
   ·refine A9 (fuel:=5) 13 [] (hold (p:=((((A6 ps) s).length+1)*40≤140737488355328)) (by omega)) ?_;refine Ay [2,9,18] ?_;refine Db (fuel:=4) 0 [] A1 ?_;refine C3 (fuel:=2) [] [1,2] [7,9,18] A1 ?_;refine Db (fuel:=1) 3 [] A1 ?_;refine Ay [8,9,18] ?_;exact A8 m1_2
 refine Ch true 7 (lsD 15 [0,4,5,6,7,9,11,12]) ⟨[(5,(.ptr 1 0)),(9,(.str s)),(12,(.ptr 1 2)),(14,(.str s)),(17,(.sl 4 0 1 1 false))],[(0,(.row [(.ptr 1 0)] 93)),(1,(.row [(.int .i64 kind),(.int .i64 count),(.map 2)] 136)),(2,(.mm (A6 ps) none 138 4)),(4,(.row [(.int .i64 o.id),(.bool o.own),(.int .i64 o.op),(.str o.evr)] 138))],5⟩ ?_ (fun m1_21=>?_)
 ·refine C3 (fuel:=5) [] [1,2] [7,9,12,14,17] A1 ?_;refine Ck 3 8 (by kernel_rfl) ?_ ?_
  ·refine A9 (fuel:=4) 3 [] A1 ?_;refine Ay [8,9,12,14,17] ?_;exact A8 m1_12
  ·refine A9 (fuel:=4) 8 [] A1 ?_;refine Ay [7,9,13,14,17] ?_;exact A8 m1_14
 refine C3 (fuel:=12) [] [4,9,11] [2,9,14,16] A1 ?_;refine Gp 0 5 12 (by kernel_rfl) ?_ ?_ ?_
 ·refine A9 (fuel:=11) 0 [] A1 ?_;refine Ay [2,5,9,14,16] ?_;refine C3 (fuel:=9) [] [1,2] [2,7,9,14,16] A1 ?_;refine Gp 3 5 12 (by kernel_rfl) ?_ ?_ ?_
  ·refine A9 (fuel:=8) 3 [] A1 ?_;refine Ay [2,8,9,14,16] ?_;refine Ck 5 12 (by kernel_rfl) ?_ ?_
   ·refine A9 (fuel:=7) 5 [] A1 ?_;refine Ay [8,9,10,14,16] ?_;refine C3 (fuel:=5) [] [6,7] [8,9,12,14,16] A1 ?_;refine Ck 8 12 (by kernel_rfl) ?_ ?_
    ·refine A9 (fuel:=4) 8 [] A1 ?_;refine Ay [8,9,13,14,16] ?_;exact A8 m1_11
    ·refine A9 (fuel:=4) 12 [] A1 ?_;refine Ay [8,9,12,14,17] ?_;exact A8 m1_12
   ·refine A9 (fuel:=7) 12 [] A1 ?_;refine Ay [2,8,9,14,17] ?_;exact A8 m1_18
  ·refine A9 (fuel:=8) 5 [] A1 ?_;refine Ay [7,9,10,14,16] ?_;refine C3 (fuel:=6) [] [6,7] [7,9,12,14,16] A1 ?_;refine Gp 3 8 12 (by kernel_rfl) ?_ ?_ ?_
   ·refine A9 (fuel:=5) 3 [] A1 ?_;refine Ay [8,9,12,14,16] ?_;exact A8 m1_15
   ·refine A9 (fuel:=5) 8 [] A1 ?_;refine Ay [7,9,13,14,16] ?_;exact A8 m1_16
   ·refine A9 (fuel:=5) 12 [] A1 ?_;refine Ay [7,9,12,14,17] ?_;exact A8 m1_17
  ·refine A9 (fuel:=8) 12 [] A1 ?_;refine Ay [2,7,9,14,17] ?_;refine Ck 3 5 (by kernel_rfl) ?_ ?_
   ·refine A9 (fuel:=7) 3 [] A1 ?_;refine Ay [2,8,9,14,17] ?_;exact A8 m1_18
   ·refine A9 (fuel:=7) 5 [] A1 ?_;refine Ay [7,9,10,14,17] ?_;exact A8 m1_19
 ·refine A9 (fuel:=11) 5 [] A1 ?_;refine Ay [2,9,10,14,16] ?_;refine C3 (fuel:=9) [] [6,7] [2,9,12,14,16] A1 ?_;refine Gp 0 8 12 (by kernel_rfl) ?_ ?_ ?_
  ·refine A9 (fuel:=8) 0 [] A1 ?_;refine Ay [5,9,12,14,16] ?_;refine C3 (fuel:=6) [] [1,2] [7,9,12,14,16] A1 ?_;refine Gp 3 8 12 (by kernel_rfl) ?_ ?_ ?_
   ·refine A9 (fuel:=5) 3 [] A1 ?_;refine Ay [8,9,12,14,16] ?_;exact A8 m1_15
   ·refine A9 (fuel:=5) 8 [] A1 ?_;refine Ay [7,9,13,14,16] ?_;exact A8 m1_16
   ·refine A9 (fuel:=5) 12 [] A1 ?_;refine Ay [7,9,12,14,17] ?_;exact A8 m1_17
  ·refine A9 (fuel:=8) 8 [] A1 ?_;refine Ay [2,9,13,14,16] ?_;refine Gp 0 10 12 (by kernel_rfl) ?_ ?_ ?_
   ·refine A9 (fuel:=7) 0 [] A1 ?_;refine Ay [5,9,13,14,16] ?_;refine C3 (fuel:=5) [] [1,2] [7,9,13,14,16] A1 ?_;refine Gp 3 10 12 (by kernel_rfl) ?_ ?_ ?_
    ·refine A9 (fuel:=4) 3 [] A1 ?_;refine Ay [8,9,13,14,16] ?_;exact A8 m1_11
    ·refine Cs (fuel:=4) 10 rfl ?_;refine Fp (b:=2) (s:=s) (y:=⟨[(7,(.ptr 1 2)),(9,(.str s)),(13,(.map 2)),(14,(.str s)),(16,(.agg [(.int .i64 o.id),(.bool o.own),(.int .i64 o.op),(.str o.evr)])),(15,(.own 4))],[(0,(.row [(.ptr 1 0)] 93)),(1,(.row [(.int .i64 kind),(.int .i64 count),(.map 2)] 136)),(2,(.mm (A6 ps) (some s) 138 4)),(4,(.grow ((A6 ps) s) 138 4))],5⟩) (by kernel_rfl) (by kernel_rfl) (by kernel_rfl) Tryz.underlying134 Tryz.underlying9 (fun _=>by kernel_rfl) (by kernel_rfl) ?_;refine Br ⟨rfl,?_⟩;refine Ay [7,9,15,16] ?_;exact A8 m1_13
    ·refine A9 (fuel:=4) 12 [] A1 ?_;refine Ay [7,9,13,14,17] ?_;exact A8 m1_14
   ·refine Cs (fuel:=7) 10 rfl ?_;refine Fp (b:=2) (s:=s) (y:=⟨[(2,(.ptr 0 0)),(9,(.str s)),(13,(.map 2)),(14,(.str s)),(16,(.agg [(.int .i64 o.id),(.bool o.own),(.int .i64 o.op),(.str o.evr)])),(15,(.own 4))],[(0,(.row [(.ptr 1 0)] 93)),(1,(.row [(.int .i64 kind),(.int .i64 count),(.map 2)] 136)),(2,(.mm (A6 ps) (some s) 138 4)),(4,(.grow ((A6 ps) s) 138 4))],5⟩) (by kernel_rfl) (by kernel_rfl) (by kernel_rfl) Tryz.underlying134 Tryz.underlying9 (fun _=>by kernel_rfl) (by kernel_rfl) ?_;refine Br ⟨rfl,?_⟩;refine Ay [2,9,15,16] ?_;refine Ck 0 12 (by kernel_rfl) ?_ ?_
    ·refine A9 (fuel:=6) 0 [] A1 ?_;refine Ay [5,9,15,16] ?_;refine C3 (fuel:=4) [] [1,2] [7,9,15,16] A1 ?_;refine Ck 3 12 (by kernel_rfl) ?_ ?_
     ·refine A9 (fuel:=3) 3 [] A1 ?_;refine Ay [8,9,15,16] ?_;exact A8 m1_7
     ·refine A9 (fuel:=3) 12 [] A1 ?_;refine Ay [7,9,15,17] ?_;exact A8 m1_9
    ·refine A9 (fuel:=6) 12 [] A1 ?_;refine Ay [2,9,15,17] ?_;refine Ck 0 13 (by kernel_rfl) ?_ ?_
     ·refine A9 (fuel:=5) 0 [] A1 ?_;refine Ay [5,9,15,17] ?_;refine C3 (fuel:=3) [] [1,2] [7,9,15,17] A1 ?_;refine Ck 3 13 (by kernel_rfl) ?_ ?_
      ·refine A9 (fuel:=2) 3 [] A1 ?_;refine Ay [8,9,15,17] ?_;exact A8 m1_3
      ·refine A9 (fuel:=2) 13 [] (hold (p:=((((A6 ps) s).length+1)*40≤140737488355328)) (by omega)) ?_;refine Ay [7,9,18] ?_;exact A8 m1_5
     ·refine A9 (fuel:=5) 13 [] (hold (p:=((((A6 ps) s).length+1)*40≤140737488355328)) (by omega)) ?_;refine Ay [2,9,18] ?_;refine Db (fuel:=4) 0 [] A1 ?_;refine C3 (fuel:=2) [] [1,2] [7,9,18] A1 ?_;refine Db (fuel:=1) 3 [] A1 ?_;refine Ay [8,9,18] ?_;exact A8 m1_1
   ·refine A9 (fuel:=7) 12 [] A1 ?_;refine Ay [2,9,13,14,17] ?_;exact A8 m1_20
  ·refine A9 (fuel:=8) 12 [] A1 ?_;refine Ay [2,9,12,14,17] ?_;refine Ck 0 8 (by kernel_rfl) ?_ ?_
   ·refine A9 (fuel:=7) 0 [] A1 ?_;refine Ay [5,9,12,14,17] ?_;exact A8 m1_21
   ·refine A9 (fuel:=7) 8 [] A1 ?_;refine Ay [2,9,13,14,17] ?_;exact A8 m1_20
 ·refine A9 (fuel:=11) 12 [] A1 ?_;refine Ay [2,9,14,17] ?_;refine Ck 0 5 (by kernel_rfl) ?_ ?_
  ·refine A9 (fuel:=10) 0 [] A1 ?_;refine Ay [2,5,9,14,17] ?_;refine C3 (fuel:=8) [] [1,2] [2,7,9,14,17] A1 ?_;refine Ck 3 5 (by kernel_rfl) ?_ ?_
   ·refine A9 (fuel:=7) 3 [] A1 ?_;refine Ay [2,8,9,14,17] ?_;exact A8 m1_18
   ·refine A9 (fuel:=7) 5 [] A1 ?_;refine Ay [7,9,10,14,17] ?_;exact A8 m1_19
  ·refine A9 (fuel:=10) 5 [] A1 ?_;refine Ay [2,9,10,14,17] ?_;refine C3 (fuel:=8) [] [6,7] [2,9,12,14,17] A1 ?_;refine Ck 0 8 (by kernel_rfl) ?_ ?_
   ·refine A9 (fuel:=7) 0 [] A1 ?_;refine Ay [5,9,12,14,17] ?_;exact A8 m1_21
   ·refine A9 (fuel:=7) 8 [] A1 ?_;refine Ay [2,9,13,14,17] ?_;exact A8 m1_20
theorem X11 (st:PoolT) (hal:st.all.length≤200) (hs:∀i,i < st.all.length→(nth st.all i).1.size≤4194304) :
  FnV Tryz.prog 49 [(.fp (Cl st))] (.fp (En st)):=by
 refine A3 [.tmp 2] Tryz.func49 rfl Tryz.ntmps49 rfl rfl (fun B F hF=>?_);refine Aa [] [0] ?_;refine Ab (Aa [] [0,14] ?_);refine Du (by kernel_rfl) ?_;refine Ag (Ad [] [0,3] [] (hk 1 X56 (Y3l st)<|hk 3 Q4u (Q7j st)<|hk0) v0 c0 ?_);refine Ab (Aa [] [0,3,25,26] ?_);refine Az (Q60 0 138 4 (y:=⟨[(0,(.fp (Cl st))),(3,(.ptr 2 0)),(25,(.int .i64 ((st.all.length:Int)))),(26,(.int .i64 0))],[(0,(.mm (fun _=>[]) none 138 4)),(1,(.row [(.int .i64 st.kind),(.int .i64 ((st.all.length:Int))),(.map 0)] 136)),(2,(.row [(.ptr 1 0)] 93))],3⟩) (by kernel_rfl) ?_);refine Bx (fun g y=>∃(i:Nat),i≤st.all.length∧y=⟨[(0,(.fp (Cl st))),(3,(.ptr 2 0)),(25,(.int .i64 ((st.all.length:Int)))),(26,(.int .i64 ((i:Int))))],[(0,(.mm (A6 (Bl st.all i)) none 138 4)),(1,(.row [(.int .i64 st.kind),(.int .i64 ((st.all.length:Int))),(.map 0)] 136)),(2,(.row [(.ptr 1 0)] 93))],3⟩∧g=st.all.length-i) [0,3,25,26] 3 _ (by omega) ⟨0,(by omega),(by kernel_rfl),rfl⟩ ?_;rintro g1 y1 ⟨i,f1_1,rfl,rfl⟩;refine Aa [] [0,3,25,26,27] ?_;refine Ab ?_;refine Ax (p:=(i:Int) < (st.all.length:Int)) (by kernel_rfl) (fun c1=>?_) (fun c1=>?_)
 ·have hpl:=Zq (l:=st.all) hs i (by omega);have hsz:=(nth st.all i).1.sizes;have hsi:=hs i (by omega)
  have hpv:(nth st.all i).1.provides.length≤4194304:=by have:=Et (nth st.all i).1.provides;unfold PkgT.depSize at hsz;omega
  have hfl:(nth st.all i).1.files.length≤4194304:=by have:=Kp (nth st.all i).1.files;omega
  refine Ag (Ab ?_);refine Az (Aa [] [0,3,4,25,26] ?_);refine Ad [] [0,3,4,5,25,26] [(9,5)] (hk 2 Q4t (Q7h st i (by omega) (hs i (by omega)))<|hk0) v0 c0 ?_;refine Aa [] [0,3,4,5,8,25,26] ?_;refine Ab ?_;refine An (Bm 7 0 [] [0,3,4,5,8,25,26,37,39,43] [] hk0 v0 c0 ?_)
  refine S7 [2,1,0] (f:=100) (cap:=[(.ptr 2 0)]) (al:=[(.str (((nth st.all i).1).name)),(.agg [(.int .i64 ((i:Int))),(.bool true),(.int .i64 2),(.str (((nth st.all i).1).evr))])]) (al':=[(.str (((nth st.all i).1).name)),(.agg [(.int .i64 ((i:Int))),(.bool true),(.int .i64 2),(.str (((nth st.all i).1).evr))]),(.ptr 0 0)]) (r:=(.tup [])) (r':=(.tup [])) (s':=[(0,(.fp (Cl st))),(3,(.ptr 2 0)),(4,(.int .i64 ((i:Int)))),(5,(.fp (Ar ((nth st.all i).1)))),(8,(.fn 100 [] [(.ptr 2 0)])),(25,(.int .i64 ((st.all.length:Int)))),(26,(.int .i64 ((i:Int)))),(37,(.fn 100 [] [(.ptr 2 0)])),(39,(.str (((nth st.all i).1).name))),(43,(.agg [(.int .i64 ((i:Int))),(.bool true),(.int .i64 2),(.str (((nth st.all i).1).evr))])),(44,(.tup []))]) (H:=[(0,(.row [(.ptr 1 0)] 93)),(1,(.row [(.int .i64 st.kind),(.int .i64 ((st.all.length:Int))),(.map 2)] 136)),(2,(.mm (A6 (Bl st.all i)) none 138 4))]) (H':=[(0,(.row [(.ptr 1 0)] 93)),(1,(.row [(.int .i64 st.kind),(.int .i64 ((st.all.length:Int))),(.map 2)] 136)),(2,(.mm (A6 (Bl st.all i++[((nth st.all i).1.name,(⟨(i:Int),true,2,(nth st.all i).1.evr⟩:OfferT))])) none 138 4))]) (h2:=[(0,(.mm (A6 (Bl st.all i++[((nth st.all i).1.name,(⟨(i:Int),true,2,(nth st.all i).1.evr⟩:OfferT))])) none 138 4)),(1,(.row [(.int .i64 st.kind),(.int .i64 ((st.all.length:Int))),(.map 0)] 136)),(2,(.row [(.ptr 1 0)] 93))]) (by kernel_rfl) (by kernel_rfl) (by exact V0) (by kernel_rfl) (by kernel_rfl) (by kernel_rfl) (by kernel_rfl) (by kernel_rfl) (Ug st.kind (st.all.length:Int) (Bl st.all i) ((nth st.all i).1.name) ⟨(i:Int),true,2,(nth st.all i).1.evr⟩ (Nat.le_trans (Rf _ _) (by first|(simp only[List.length_append];have:=Q4 (i:=i) (p:=(nth st.all i).1) (j:=0);have:=Q3 (i:=i) (p:=(nth st.all i).1) (j:=0);omega)|omega))) (by kernel_rfl) (by kernel_rfl) (by kernel_rfl) ?_
  refine Br ?_;refine Ab (Aa [] [0,3,4,5,8,25,26,46,47,48] ?_);refine Az (Bx (fun g y=>∃(j:Nat),j≤(nth st.all i).1.provides.length∧y=⟨[(0,(.fp (Cl st))),(3,(.ptr 2 0)),(4,(.int .i64 ((i:Int)))),(5,(.fp (Ar ((nth st.all i).1)))),(8,(.fn 100 [] [(.ptr 2 0)])),(25,(.int .i64 ((st.all.length:Int)))),(26,(.int .i64 ((i:Int)))),(46,(Aj 5 Ap (((nth st.all i).1).provides))),(47,(.int .i64 (((((nth st.all i).1).provides).length:Int)))),(48,(.int .i64 ((j:Int))))],[(0,(.mm (A6 (Bl st.all i++Ek i (nth st.all i).1 j)) none 138 4)),(1,(.row [(.int .i64 st.kind),(.int .i64 ((st.all.length:Int))),(.map 0)] 136)),(2,(.row [(.ptr 1 0)] 93))],4⟩∧g=(nth st.all i).1.provides.length-j) [0,3,4,5,8,25,26,46,47,48] 4 _ (by omega) ⟨0,(by omega),(by kernel_rfl),rfl⟩ ?_);rintro g2 y2 ⟨j,f2_1,rfl,rfl⟩;refine Aa [] [0,3,4,5,8,25,26,46,47,48,49] ?_;refine Ab ?_;refine Ax (p:=(j:Int) < ((((nth st.all i).1).provides).length:Int)) (by kernel_rfl) (fun c2=>?_) (fun c2=>?_)
  ·refine Ag (Ab ?_);refine Az (Ad [] [0,3,4,5,8,10,25,26,46,47,48] [] hk0 v0 (cc 0 (p:=(0≤(j:Int)∧j < (((nth st.all i).1).provides).length)) (by omega)<|c0) ?_);refine An (Bm 9 0 [] [0,3,4,5,8,25,26,46,47,48,52,54,60] [(0,10)] hk0 v0 c0 ?_)
   refine S7 [2,1,0] (f:=100) (cap:=[(.ptr 2 0)]) (al:=[(.str ((nth (((nth st.all i).1).provides) j).name)),(.agg [(.int .i64 ((i:Int))),(.bool false),(.int .i64 ((nth (((nth st.all i).1).provides) j).op)),(.str ((nth (((nth st.all i).1).provides) j).evr))])]) (al':=[(.str ((nth (((nth st.all i).1).provides) j).name)),(.agg [(.int .i64 ((i:Int))),(.bool false),(.int .i64 ((nth (((nth st.all i).1).provides) j).op)),(.str ((nth (((nth st.all i).1).provides) j).evr))]),(.ptr 0 0)]) (r:=(.tup [])) (r':=(.tup [])) (s':=[(0,(.fp (Cl st))),(3,(.ptr 2 0)),(4,(.int .i64 ((i:Int)))),(5,(.fp (Ar ((nth st.all i).1)))),(8,(.fn 100 [] [(.ptr 2 0)])),(25,(.int .i64 ((st.all.length:Int)))),(26,(.int .i64 ((i:Int)))),(46,(Aj 5 Ap (((nth st.all i).1).provides))),(47,(.int .i64 (((((nth st.all i).1).provides).length:Int)))),(48,(.int .i64 ((j:Int)))),(52,(.fn 100 [] [(.ptr 2 0)])),(54,(.str ((nth (((nth st.all i).1).provides) j).name))),(60,(.agg [(.int .i64 ((i:Int))),(.bool false),(.int .i64 ((nth (((nth st.all i).1).provides) j).op)),(.str ((nth (((nth st.all i).1).provides) j).evr))])),(61,(.tup []))]) (H:=[(0,(.row [(.ptr 1 0)] 93)),(1,(.row [(.int .i64 st.kind),(.int .i64 ((st.all.length:Int))),(.map 2)] 136)),(2,(.mm (A6 (Bl st.all i++Ek i (nth st.all i).1 j)) none 138 4))]) (H':=[(0,(.row [(.ptr 1 0)] 93)),(1,(.row [(.int .i64 st.kind),(.int .i64 ((st.all.length:Int))),(.map 2)] 136)),(2,(.mm (A6 (Bl st.all i++Ek i (nth st.all i).1 j++[((nth (nth st.all i).1.provides j).name,(⟨(i:Int),false,(nth (nth st.all i).1.provides j).op,(nth (nth st.all i).1.provides j).evr⟩:OfferT))])) none 138 4))]) (h2:=[(0,(.mm (A6 (Bl st.all i++Ek i (nth st.all i).1 j++[((nth (nth st.all i).1.provides j).name,(⟨(i:Int),false,(nth (nth st.all i).1.provides j).op,(nth (nth st.all i).1.provides j).evr⟩:OfferT))])) none 138 4)),(1,(.row [(.int .i64 st.kind),(.int .i64 ((st.all.length:Int))),(.map 0)] 136)),(2,(.row [(.ptr 1 0)] 93))]) (by kernel_rfl) (by kernel_rfl) (by exact V0) (by kernel_rfl) (by kernel_rfl) (by kernel_rfl) (by kernel_rfl) (by kernel_rfl) (Ug st.kind (st.all.length:Int) (Bl st.all i++Ek i (nth st.all i).1 j) ((nth (nth st.all i).1.provides j).name) ⟨(i:Int),false,(nth (nth st.all i).1.provides j).op,(nth (nth st.all i).1.provides j).evr⟩ (Nat.le_trans (Rf _ _) (by first|(simp only[List.length_append];have:=Q4 (i:=i) (p:=(nth st.all i).1) (j:=j);have:=Q3 (i:=i) (p:=(nth st.all i).1) (j:=j);omega)|omega))) (by kernel_rfl) (by kernel_rfl) (by kernel_rfl) ?_
   refine Br ?_;refine An (Av 0 [] [0,3,4,5,8,25,26,46,47,48] [] hk0 v0 (cc 0 (p:=(-9223372036854775808≤(j:Int)+1∧(j:Int)+1≤9223372036854775807)) (by omega)<|c0) ?_);refine⟨by kernel_rfl,_,?_,j+1,?_,(Eq.trans (b:=(⟨[(0,(.fp (Cl st))),(3,(.ptr 2 0)),(4,(.int .i64 ((i:Int)))),(5,(.fp (Ar ((nth st.all i).1)))),(8,(.fn 100 [] [(.ptr 2 0)])),(25,(.int .i64 ((st.all.length:Int)))),(26,(.int .i64 ((i:Int)))),(46,(Aj 5 Ap (((nth st.all i).1).provides))),(47,(.int .i64 (((((nth st.all i).1).provides).length:Int)))),(48,(.int .i64 ((j:Int)+1)))],[(0,(.mm (A6 (Bl st.all i++Ek i (nth st.all i).1 j++[((nth (nth st.all i).1.provides j).name,(⟨(i:Int),false,(nth (nth st.all i).1.provides j).op,(nth (nth st.all i).1.provides j).evr⟩:OfferT))])) none 138 4)),(1,(.row [(.int .i64 st.kind),(.int .i64 ((st.all.length:Int))),(.map 0)] 136)),(2,(.row [(.ptr 1 0)] 93))],4⟩:St)) (by kernel_rfl) (by rw[X1z (by omega),←List.append_assoc]<;>kernel_rfl)),rfl⟩
   ·omega
   ·omega
  ·refine Bp (Aa [] [0,3,4,8,25,26,64,65,66] ?_);refine Az ?_
   refine Bx (fun g y=>∃(j:Nat),j≤(nth st.all i).1.files.length∧y=⟨[(0,(.fp (Cl st))),(3,(.ptr 2 0)),(4,(.int .i64 ((i:Int)))),(8,(.fn 100 [] [(.ptr 2 0)])),(25,(.int .i64 ((st.all.length:Int)))),(26,(.int .i64 ((i:Int)))),(64,(B3 (((nth st.all i).1).files))),(65,(.int .i64 (((((nth st.all i).1).files).length:Int)))),(66,(.int .i64 ((j:Int))))],[(0,(.mm (A6 (Bl st.all i++D1 i (nth st.all i).1 j)) none 138 4)),(1,(.row [(.int .i64 st.kind),(.int .i64 ((st.all.length:Int))),(.map 0)] 136)),(2,(.row [(.ptr 1 0)] 93))],4⟩∧g=(nth st.all i).1.files.length-j) [0,3,4,8,25,26,64,65,66] 4 _ (by omega) ⟨0,(by omega),(Eq.trans (b:=(⟨[(0,(.fp (Cl st))),(3,(.ptr 2 0)),(4,(.int .i64 ((i:Int)))),(8,(.fn 100 [] [(.ptr 2 0)])),(25,(.int .i64 ((st.all.length:Int)))),(26,(.int .i64 ((i:Int)))),(64,(B3 (((nth st.all i).1).files))),(65,(.int .i64 (((((nth st.all i).1).files).length:Int)))),(66,(.int .i64 0))],[(0,(.mm (A6 (Bl st.all i++Ek i (nth st.all i).1 j)) none 138 4)),(1,(.row [(.int .i64 st.kind),(.int .i64 ((st.all.length:Int))),(.map 0)] 136)),(2,(.row [(.ptr 1 0)] 93))],4⟩:St)) (by kernel_rfl) (by rw[show D1 i (nth st.all i).1 0=Ek i (nth st.all i).1 (nth st.all i).1.provides.length from by simp[D1],show(nth st.all i).1.provides.length=j from by omega]<;>kernel_rfl)),rfl⟩ ?_
   rintro g3 y3 ⟨j,f3_1,rfl,rfl⟩;refine Aa [] [0,3,4,8,25,26,64,65,66,67] ?_;refine Ab ?_;refine Ax (p:=(j:Int) < ((((nth st.all i).1).files).length:Int)) (by kernel_rfl) (fun c3=>?_) (fun c3=>?_)
   ·refine Ag (Ab ?_);refine Az (Ad [] [0,3,4,8,12,25,26,64,65,66] [] hk0 v0 (cc 0 (p:=(0≤(j:Int)∧j < (((nth st.all i).1).files).length)) (by omega)<|c0) ?_);refine An (Bm 4 0 [] [0,3,4,8,25,26,64,65,66,70,71,73] [] hk0 v0 c0 ?_)
    refine S7 [2,1,0] (f:=100) (cap:=[(.ptr 2 0)]) (al:=[(.str (nth (((nth st.all i).1).files) j)),(.agg [(.int .i64 ((i:Int))),(.bool false),(.int .i64 0),(.str [])])]) (al':=[(.str (nth (((nth st.all i).1).files) j)),(.agg [(.int .i64 ((i:Int))),(.bool false),(.int .i64 0),(.str [])]),(.ptr 0 0)]) (r:=(.tup [])) (r':=(.tup [])) (s':=[(0,(.fp (Cl st))),(3,(.ptr 2 0)),(4,(.int .i64 ((i:Int)))),(8,(.fn 100 [] [(.ptr 2 0)])),(25,(.int .i64 ((st.all.length:Int)))),(26,(.int .i64 ((i:Int)))),(64,(B3 (((nth st.all i).1).files))),(65,(.int .i64 (((((nth st.all i).1).files).length:Int)))),(66,(.int .i64 ((j:Int)))),(70,(.fn 100 [] [(.ptr 2 0)])),(71,(.str (nth (((nth st.all i).1).files) j))),(73,(.agg [(.int .i64 ((i:Int))),(.bool false),(.int .i64 0),(.str [])])),(74,(.tup []))]) (H:=[(0,(.row [(.ptr 1 0)] 93)),(1,(.row [(.int .i64 st.kind),(.int .i64 ((st.all.length:Int))),(.map 2)] 136)),(2,(.mm (A6 (Bl st.all i++D1 i (nth st.all i).1 j)) none 138 4))]) (H':=[(0,(.row [(.ptr 1 0)] 93)),(1,(.row [(.int .i64 st.kind),(.int .i64 ((st.all.length:Int))),(.map 2)] 136)),(2,(.mm (A6 (Bl st.all i++D1 i (nth st.all i).1 j++[(nth (nth st.all i).1.files j,(⟨(i:Int),false,0,[]⟩:OfferT))])) none 138 4))]) (h2:=[(0,(.mm (A6 (Bl st.all i++D1 i (nth st.all i).1 j++[(nth (nth st.all i).1.files j,(⟨(i:Int),false,0,[]⟩:OfferT))])) none 138 4)),(1,(.row [(.int .i64 st.kind),(.int .i64 ((st.all.length:Int))),(.map 0)] 136)),(2,(.row [(.ptr 1 0)] 93))]) (by kernel_rfl) (by kernel_rfl) (by exact V0) (by kernel_rfl) (by kernel_rfl) (by kernel_rfl) (by kernel_rfl) (by kernel_rfl) (Ug st.kind (st.all.length:Int) (Bl st.all i++D1 i (nth st.all i).1 j) (nth (nth st.all i).1.files j) ⟨(i:Int),false,0,[]⟩ (Nat.le_trans (Rf _ _) (by first|(simp only[List.length_append];have:=Q4 (i:=i) (p:=(nth st.all i).1) (j:=j);have:=Q3 (i:=i) (p:=(nth st.all i).1) (j:=j);omega)|omega))) (by kernel_rfl) (by kernel_rfl) (by kernel_rfl) ?_
    refine Br ?_;refine An (Av 0 [] [0,3,4,8,25,26,64,65,66] [] hk0 v0 (cc 0 (p:=(-9223372036854775808≤(j:Int)+1∧(j:Int)+1≤9223372036854775807)) (by omega)<|c0) ?_);refine⟨by kernel_rfl,_,?_,j+1,?_,(Eq.trans (b:=(⟨[(0,(.fp (Cl st))),(3,(.ptr 2 0)),(4,(.int .i64 ((i:Int)))),(8,(.fn 100 [] [(.ptr 2 0)])),(25,(.int .i64 ((st.all.length:Int)))),(26,(.int .i64 ((i:Int)))),(64,(B3 (((nth st.all i).1).files))),(65,(.int .i64 (((((nth st.all i).1).files).length:Int)))),(66,(.int .i64 ((j:Int)+1)))],[(0,(.mm (A6 (Bl st.all i++D1 i (nth st.all i).1 j++[(nth (nth st.all i).1.files j,(⟨(i:Int),false,0,[]⟩:OfferT))])) none 138 4)),(1,(.row [(.int .i64 st.kind),(.int .i64 ((st.all.length:Int))),(.map 0)] 136)),(2,(.row [(.ptr 1 0)] 93))],4⟩:St)) (by kernel_rfl) (by rw[X1y (by omega),←List.append_assoc]<;>kernel_rfl)),rfl⟩
    ·omega
    ·omega
   ·refine Bp ?_;refine An (Av 0 [] [0,3,25,26] [] hk0 v0 (cc 0 (p:=(-9223372036854775808≤(i:Int)+1∧(i:Int)+1≤9223372036854775807)) (by omega)<|c0) ?_);refine⟨by kernel_rfl,_,?_,i+1,?_,(Eq.trans (b:=(⟨[(0,(.fp (Cl st))),(3,(.ptr 2 0)),(25,(.int .i64 ((st.all.length:Int)))),(26,(.int .i64 ((i:Int)+1)))],[(0,(.mm (A6 (Bl st.all i++D1 i (nth st.all i).1 j)) none 138 4)),(1,(.row [(.int .i64 st.kind),(.int .i64 ((st.all.length:Int))),(.map 0)] 136)),(2,(.row [(.ptr 1 0)] 93))],3⟩:St)) (by kernel_rfl) (by rw[Zp,show Ga i (nth st.all i).1=D1 i (nth st.all i).1 j from by unfold Ga;rw[show(nth st.all i).1.files.length=j from by omega]]<;>kernel_rfl)),rfl⟩
    ·omega
    ·omega
 ·refine Bp (Ab ?_);refine An (Jb 1 2 (y:=⟨[(0,(.fp (Cl st))),(3,(.ptr 2 0)),(25,(.int .i64 ((st.all.length:Int)))),(26,(.int .i64 ((i:Int)))),(27,(.bool (decide ((i:Int) < (st.all.length:Int)))))],[(1,(.row [(.int .i64 st.kind),(.int .i64 ((st.all.length:Int))),(.smap (.slice none 0 0) (fun kq => .row 4 ((A6 (Bl st.all i)) kq).length (fun ix=>((A6 (Bl st.all i)) kq).getD ix Bn)))] 136)),(2,(.row [(.ptr 1 0)] 93))],3⟩) (by kernel_rfl) ?_);refine Dd [] [2] ?_;refine Ae (RK wR [(.fp (.agg [(.int .i64 st.kind),(.int .i64 ((st.all.length:Int))),(.smap (.slice none 0 0) (fun kq => .row 4 ((A6 (Bl st.all i)) kq).length (fun ix=>((A6 (Bl st.all i)) kq).getD ix Bn)))]))] ?_);rw[show i=st.all.length from by omega];exact Same.of_eq rfl
end Sv
end
section
open Go Go.RowKit
namespace Sv
theorem Q13 {φ:Phi}:∀{l:List Int} {vs:List Value},VRl φ (l.map (AV.int .i64)) vs→vs=l.map (Value.int .i64)
 |[],vs,h=>h.nil_inv
 |x::l,vs,h=>by
  obtain⟨v,vs',rfl,h1,h2⟩:=h.cons_inv;simp only[VR] at h1;rw[Q13 h2,h1];rfl
theorem Xq {φ:Phi}:∀l:List Int,VRl φ (l.map (AV.int .i64)) (l.map (Value.int .i64))
 |[] => .nil
 |x::l => .cons (by simp only[VR]) (Xq l)
theorem Q28 (l:List Int):(l.map (Value.int .i64)).flatMap (fun u=>u.cells.toList)=l.map (Value.int .i64):=by
 induction l with
 |nil=>rfl
 |cons x l ih=>rw[List.map_cons,List.flatMap_cons,ih];first|done|rfl
theorem X9y (l:List Int):∀u∈l.map (Value.int .i64),u.cells.size=1∧∀c∈u.cells.toList,c.oneCell'=true:=by
 intro u hu;obtain⟨x,_,rfl⟩:=List.mem_map.1 hu;exact⟨rfl,fun c hc=>by simp[Value.cells] at hc;subst hc;rfl⟩
theorem Rel.rebaseI {B:Bas} {φ:Phi} {h:AH} {w:World} (r:Rel B φ h w):Rel (Fm φ h w) φ h w :=
 ⟨⟨rfl,rfl,rfl,Nat.le_refl _,fun _ _=>rfl⟩,r.fro,fun b o e=>by have:=r.obj b o e;cases o<;>exact this,r.sep,fun b o k e i=>⟨fun q=>q.2 b o e i,(r.gf b o k e i).2⟩⟩
theorem Q5d (zs:List Int):(Lib.compact zs).length≤zs.length:=by
 have:∀m,(Lib.compactUpTo zs.toArray m).length≤m:=by
  intro m
  induction m with
  |zero=>simp[Lib.compactUpTo]
  |succ m ih =>
   rw[Lib.compactUpTo_succ,List.length_append];split<;>simp<;>omega
 exact this _
theorem X9p (l:List Int) (hl:l.length≤4611686018427) :
  F6 Tryz.prog 174 [.own 0] [(0,.grow (l.map (AV.int .i64)) 3 1)] 1 (.own 0) [(0,.grow ((Lib.compact l).map (AV.int .i64)) 3 1)]:=by
 intro B0 φ w vs r hv;obtain⟨v,rfl,hv1⟩:=hv.single_inv;simp only[VR] at hv1;obtain⟨v0,us,q1,q2,q3,q4⟩:=r.obj 0 _ rfl;rw[hv1.1] at q1;cases q1;have hu:=Q13 q3;subst hu;rw[Q28,List.length_map] at q2;have hr:=r.rebaseI;rcases q2.2 with⟨rfl,hn⟩|⟨g,cap,cur,rfl,hg1,hg2,hg3,hg4,hg5,hg6⟩
 ·have hl0:l=[]:=List.length_eq_zero_iff.1 hn;subst hl0;refine(Tryz.slices_Compact_int_empty none 0 w).mono ?_;rintro e w' ⟨he,rfl⟩;exact⟨_,he,φ,hr,by simp only[VR];exact hv1,fun _ _ _ e=>e,fun _ _ e=>e,fun _ _ e => .inl e⟩
 ·have hh:Go.Sort.Holds (Value.int .i64) w g 0 l.toArray:=holds_of_blockI hg2 (by simpa using hg6);refine(Tryz.slices_Compact_int g 0 cap l w hh (by omega) hg3).mono ?_;rintro e w' ⟨he,n,rfl⟩;have hgr:=grownBy_sortedI (w:=w) (g:=g) (n:=n) (os := #[]) (Lib.compact l++List.replicate (l.length-(Lib.compact l).length) 0).toArray;rw[Go.Sort.grow_empty] at hgr;have hle:=Q5d l
  have hts:(Lib.compact l++List.replicate (l.length-(Lib.compact l).length) (0:Int)).length=l.length:=by simp;omega
  have ho:=ownsRow_sortedI (n:=n) (os := #[]) (base:=0) (ts:=Lib.compact l++List.replicate (l.length-(Lib.compact l).length) 0) (ss:=l) hts hg1 hg2 hg3 hg4 (by simpa using hg5);rw[Go.Sort.grow_empty] at ho;refine⟨_,he,⟨φ.m,fun i=>if i=0 then some (.slice (some ⟨g,0,none⟩) (Lib.compact l).length cap) else φ.s i,φ.f⟩,?_,by simp only[VR];exact⟨rfl,_,_,_,rfl⟩,fun _ _ _ e=>e,fun _ _ e=>e,fun _ _ e => .inl e⟩
  have ht:Turn φ ⟨φ.m,fun i=>if i=0 then some (.slice (some ⟨g,0,none⟩) (Lib.compact l).length cap) else φ.s i,φ.f⟩ 0:=⟨fun _=>rfl,fun c hc=>if_neg hc,fun _ _ e=>e⟩
  refine Rel.grown (v':=.slice (some ⟨g,0,none⟩) (Lib.compact l).length cap) (es':=(Lib.compact l).map (AV.int .i64)) hr (b:=0) rfl hv1.1 ht rfl rfl hgr (.inl rfl) (fun k hk=>by cases hk;exact Nat.lt_of_lt_of_le (Dh hg2) hgr.size) ⟨_,(Lib.compact l).map (Value.int .i64),rfl,?_,Xq _,X9y _⟩;rw[Q28,List.length_map];refine⟨by simp,.inr ⟨g,cap,Go.Sort.putCells (Value.int .i64) 0 (Lib.compact l++List.replicate (l.length-(Lib.compact l).length) 0).toArray cur,rfl,hg1,?_,by omega,hg4,by simp[Go.Sort.putCells,hg5],?_⟩⟩
  ·have:=heap_sortedI (w:=w) (g:=g) (n:=n) (os := #[]) (Lib.compact l++List.replicate (l.length-(Lib.compact l).length) 0).toArray hg2;rw[Go.Sort.grow_empty] at this;exact this
  ·have:=take_putCellsI cur (Lib.compact l++List.replicate (l.length-(Lib.compact l).length) 0) (by rw[hts,hg5];omega);have:=congrArg (List.take (Lib.compact l).length) this;rw[List.take_take,Nat.min_eq_left (by rw[hts];exact hle),List.map_append,List.take_append_of_le_length (by simp),List.take_of_length_le (l:=(Lib.compact l).map (Value.int .i64)) (by simp)] at this;rw[Nat.mul_one];exact this
end Sv
end
section
open Go Go.RowKit
namespace Sv
attribute [local irreducible] SW SO Bk
set_option maxHeartbeats 1000000
set_option maxRecDepth 100000
theorem X7z:Ak Tryz.prog 173:=Ao Tryz.func173 (by kernel_rfl) rfl
theorem X8c:Ak Tryz.prog 140:=Ao Tryz.func140 (by kernel_rfl) rfl
theorem X7y:Ak Tryz.prog 174:=Ao Tryz.func174 (by kernel_rfl) rfl
theorem X7s:Ak Tryz.prog 187:=Ao Tryz.func187 (by kernel_rfl) rfl
theorem X8s:Ak Tryz.prog 104:=Ao Tryz.func104 (by kernel_rfl) rfl
theorem Q3y:Ak Tryz.prog 52:=Ao Tryz.func52 (by kernel_rfl) rfl
theorem X2w (ps:List (List UInt8 × OfferT)) (s:List UInt8):Imp (.row 4 (A6 ps s).length (fun i=>(A6 ps s).getD i Bn)) (Aj 4 Jp (Cf ps s)):=Imp.list (f:=Jp) (List.length_map _)
def L5 (m:Int→Int→List UInt8→Int→List UInt8→Bool × Int):Prop:=∀k op a o b,a.length≤4194304→b.length≤4194304→FnV Tryz.prog 187 [.int .i64 k,.int .i64 op,.str a,.int .i64 o,.str b] (.tup [.bool (m k op a o b).1,.int .i64 (m k op a o b).2])
def Ko (m:Int→Int→List UInt8→Int→List UInt8→Bool × Int) (k:Int) (d:DepT) (o:OfferT):Bool:=if d.op=0∨o.op=0 then decide (d.op=0) else (m k d.op d.evr o.op o.evr).1
def IdxOk (st:PoolT):Prop:=st.all.length≤200∧∀i,i < st.all.length→(nth st.all i).1.size≤4194304
theorem IdxOk.len {st:PoolT} (h:IdxOk st) (s:List UInt8):(Cf (Bl st.all st.all.length) s).length≤2147483648:=by
 have h1:=Zq h.2 st.all.length (Nat.le_refl _);have h2:=Rf (Bl st.all st.all.length) s;have h3:(A6 (Bl st.all st.all.length) s).length=(Cf (Bl st.all st.all.length) s).length:=List.length_map _;have:=h.1;omega
theorem Jq {α:Type} [Inhabited α] {l:List α} {j:Nat} (h:j < l.length):nth l j=l[j]:=by simp[nth,h]
theorem X1x {st:PoolT} (h:IdxOk st) {q:List UInt8 × OfferT} (hq:q∈Bl st.all st.all.length):q.2.evr.length≤4194304:=by
 unfold Bl at hq;obtain⟨i,hi,hq⟩:=List.mem_flatMap.1 hq
 have hi:i < st.all.length:=by simpa using hi
 have h1:=h.2 i hi;have h2:=(nth st.all i).1.sizes;unfold Ga D1 Ek at hq;simp only[List.take_length,List.cons_append,List.mem_cons,List.mem_append,List.mem_map] at hq;rcases hq with rfl|⟨d,hd,rfl⟩|⟨x,hx,rfl⟩
 ·show(nth st.all i).1.evr.length≤_;omega
 ·obtain⟨j,hj,rfl⟩:=List.getElem_of_mem hd;have h3:=I8 (l:=(nth st.all i).1.provides) (i:=j) hj;have h4:=Gs (nth (nth st.all i).1.provides j)
  have h5:argsSize (nth st.all i).1.provides≤(nth st.all i).1.depSize:=by unfold PkgT.depSize;omega
  have h6:nth (nth st.all i).1.provides j=(nth st.all i).1.provides[j]:=Jq hj;rw[h6] at h3 h4;show(nth st.all i).1.provides[j].evr.length≤_;omega
 ·exact Nat.zero_le _
theorem IdxOk.evr {st:PoolT} (h:IdxOk st) {s:List UInt8} {i:Nat} (hi:i < (Cf (Bl st.all st.all.length) s).length):(nth (Cf (Bl st.all st.all.length) s) i).evr.length≤4194304:=by
 have hm:nth (Cf (Bl st.all st.all.length) s) i∈Cf (Bl st.all st.all.length) s:=by
  have:nth (Cf (Bl st.all st.all.length) s) i=(Cf (Bl st.all st.all.length) s)[i]:=by simp[nth,hi]
  rw[this];exact List.getElem_mem hi
 obtain⟨q,hq,e⟩:=List.mem_map.1 hm;rw[←e];exact X1x h (List.mem_filter.1 hq).1
def It (m:Int→Int→List UInt8→Int→List UInt8→Bool × Int) (st:PoolT) (d:DepT) (own:Bool) (o:OfferT):Bool:=(o.own||!own)&&Ko m st.kind d o
def Ds (m:Int→Int→List UInt8→Int→List UInt8→Bool × Int) (st:PoolT) (d:DepT) (own:Bool) (i:Nat):List Int:=(((Cf (Bl st.all st.all.length) d.name).take i).filter (It m st d own)).map fun o=>o.id
def Gw (m:Int→Int→List UInt8→Int→List UInt8→Bool × Int) (st:PoolT) (d:DepT) (own:Bool):List Int:=Lib.compact (Ds m st d own (Cf (Bl st.all st.all.length) d.name).length)
theorem Q2j {m:Int→Int→List UInt8→Int→List UInt8→Bool × Int} {st:PoolT} {d:DepT} {own:Bool} {i:Nat} (h:i < (Cf (Bl st.all st.all.length) d.name).length):Ds m st d own (i+1)=Ds m st d own i++(if It m st d own (nth (Cf (Bl st.all st.all.length) d.name) i)=true then [(nth (Cf (Bl st.all st.all.length) d.name) i).id] else []):=by
 unfold Ds;rw[List.take_add_one,List.getElem?_eq_getElem h,List.filter_append,List.map_append];congr 1
 have:nth (Cf (Bl st.all st.all.length) d.name) i=(Cf (Bl st.all st.all.length) d.name)[i]:=by simp[nth,h]
 rw[this];cases hc:It m st d own (Cf (Bl st.all st.all.length) d.name)[i]<;>simp[hc]
theorem U9 {m:Int→Int→List UInt8→Int→List UInt8→Bool × Int} {st:PoolT} {d:DepT} {own:Bool} {i:Nat}:(Ds m st d own i).length≤(Cf (Bl st.all st.all.length) d.name).length:=by
 unfold Ds;rw[List.length_map];exact Nat.le_trans (List.length_filter_le _ _) (by simp;omega)
theorem X44 {m:Int→Int→List UInt8→Int→List UInt8→Bool × Int} {st:PoolT} {d:DepT} {own:Bool} {i:Nat} (h:i < (Cf (Bl st.all st.all.length) d.name).length) (hc:It m st d own (nth (Cf (Bl st.all st.all.length) d.name) i)=true):(Ds m st d own (i+1)).map (AV.int .i64)=(Ds m st d own i).map (AV.int .i64)++[.int .i64 (nth (Cf (Bl st.all st.all.length) d.name) i).id]:=by
 rw[Q2j h,if_pos hc,List.map_append];rfl
theorem X45 {m:Int→Int→List UInt8→Int→List UInt8→Bool × Int} {st:PoolT} {d:DepT} {own:Bool} {i:Nat} (h:i < (Cf (Bl st.all st.all.length) d.name).length) (hc:It m st d own (nth (Cf (Bl st.all st.all.length) d.name) i)=false):Ds m st d own (i+1)=Ds m st d own i:=by
 rw[Q2j h,if_neg (by rw[hc];simp),List.append_nil]
theorem X5q (m:Int→Int→List UInt8→Int→List UInt8→Bool × Int) (hM:L5 m) (st:PoolT) (d:DepT) (o:OfferT) (hd:d.size≤4194304) (ho:o.evr.length≤4194304) :
  FnV Tryz.prog 173 [(.fp (En st)),(.agg [(.int .i64 d.kind),(.str d.name),(.int .i64 d.op),(.str d.evr),(.row 5 d.args.length (depAt d.args))]),(.agg [(.int .i64 o.id),(.bool o.own),(.int .i64 o.op),(.str o.evr)])] (.bool (Ko m st.kind d o)):=by
 have hda:=Gs d;refine A3 [.tmp 6] Tryz.func173 rfl Tryz.ntmps173 rfl rfl (fun B F hF=>?_);refine Ad [] [0,4,5] [(1,4),(2,5)] hk0 v0 c0 ?_;refine Ab ?_
 obtain⟨b1,hb1⟩:∃b,b=(decide (d.op=0)):=⟨_,rfl⟩
 refine Ad (CS:=[(5,((!b1)=true→(!b1)=true)),(6,((!b1)=true→(!b1)=true)),(7,(b1=false→(!b1)=true))]) [13,14,15] [0,4,5,16] [] hk0 (vk 4 12 (a:=.bool (decide (d.op=0))) (b:=.bool b1) (Imp.of_eq (by rw[hb1]))<|v0) (by refine cc _ ?_<|cc _ ?_<|cc _ ?_ c0<;>simp) ?_;refine A5 (q:=b1||(decide (o.op=0))) (by kernel_rfl) (fun c1=>?_) (fun c1=>?_)
 ·subst hb1
  try simp only[Ai] at c1
  refine Aa [] [6] ?_;refine Ae (RK wR [(.bool (decide (d.op=0)))] ?_);exact Same.of_eq (by simp only[Af];unfold Ko;rw[if_pos (by simpa using c1)])
 ·subst hb1
  try simp only[Ai] at c1
  refine Ag (Co [] [7] [] (hk 12 X7s (hM st.kind d.op d.evr o.op o.evr (by omega) ho)<|hk0) v0 c0 ?_);refine Aa [] [6] ?_;refine Ae (RK wR [(.bool ((m st.kind d.op d.evr o.op o.evr).1))] ?_);exact Same.of_eq (by simp only[Af];unfold Ko;rw[if_neg (by simpa using c1)])
theorem X3e (m:Int→Int→List UInt8→Int→List UInt8→Bool × Int) (hM:L5 m) (st:PoolT) (hi:IdxOk st) (d:DepT) (own:Bool) (hd:d.size≤4194304) :
  FnV Tryz.prog 140 [(.fp (En st)),(.agg [(.int .i64 d.kind),(.str d.name),(.int .i64 d.op),(.str d.evr),(.row 5 d.args.length (depAt d.args))]),(.bool own)] (Dw (Gw m st d own)):=by
 have hlg:(A6 (Bl st.all st.all.length) d.name).length=(Cf (Bl st.all st.all.length) d.name).length:=List.length_map _;have hll:=hi.len d.name;refine A3 [.tmp 6] Tryz.func140 rfl Tryz.ntmps140 rfl rfl (fun B F hF=>?_);refine Ad [] [0,2,4] [(1,4)] hk0 v0 c0 ?_;refine Aa [] [0,2,4,7] ?_;refine Ab (Ab ?_);refine Ja (by kernel_rfl) (fun F1 hF1=>?_);refine C3 (fuel:=2) [] [0,1,2,3,4,5,8] [0,2,4,7,13,15,18] A1 ?_;refine Ev (fuel:=1) 6 (by kernel_rfl) ?_;refine Cs (fuel:=1) 6 rfl ?_
 refine Y2l (s:=d.name) (z:=.slice none 0 0) (G:=fun s => .row 4 (A6 (Bl st.all st.all.length) s).length (fun i=>(A6 (Bl st.all st.all.length) s).getD i Bn)) (s':=[(0,(.fp (En st))),(2,(.bool own)),(4,(.fp (.agg [(.int .i64 d.kind),(.str d.name),(.int .i64 d.op),(.str d.evr),(.row 5 d.args.length (depAt d.args))]))),(7,.nils),(13,(.smap (.slice none 0 0) (fun s => .row 4 (A6 (Bl st.all st.all.length) s).length (fun i=>(A6 (Bl st.all st.all.length) s).getD i Bn)))),(15,(.str d.name)),(18,(.int .i64 0)),(16,(.row 4 (A6 (Bl st.all st.all.length) d.name).length (fun i=>(A6 (Bl st.all st.all.length) d.name).getD i Bn)))]) (by kernel_rfl) (by kernel_rfl) (by kernel_rfl) Tryz.underlying134 Tryz.underlying9 (fun _=>by kernel_rfl) (by kernel_rfl) ?_;refine Br ⟨rfl,?_⟩;refine C3 (fuel:=0) [] [7] [0,2,4,7,16,17,18] A1 ?_;refine Ay [0,2,4,7,16,17,18] ?_;refine Hy (by kernel_rfl) ?_;refine Az (Wy 16 (Aj 4 Jp (Cf (Bl st.all st.all.length) d.name)) (by kernel_rfl) (X2w (Bl st.all st.all.length) d.name) ?_)
 refine Pu 3 1 7 (y:=⟨[(0,(.fp (En st))),(2,(.bool own)),(4,(.fp (.agg [(.int .i64 d.kind),(.str d.name),(.int .i64 d.op),(.str d.evr),(.row 5 d.args.length (depAt d.args))]))),(7,(.own 1)),(16,(Aj 4 Jp (Cf (Bl st.all st.all.length) d.name))),(17,(.int .i64 (((A6 (Bl st.all st.all.length) d.name).length:Int)))),(18,(.int .i64 0))],[(1,(.grow [] 3 1))],2⟩) (by kernel_rfl) (by kernel_rfl) ?_;refine Bx (fun g y=>∃(i:Nat),i≤(Cf (Bl st.all st.all.length) d.name).length∧y=⟨[(0,(.fp (En st))),(2,(.bool own)),(4,(.fp (.agg [(.int .i64 d.kind),(.str d.name),(.int .i64 d.op),(.str d.evr),(.row 5 d.args.length (depAt d.args))]))),(7,(.own 1)),(16,(Aj 4 Jp (Cf (Bl st.all st.all.length) d.name))),(17,(.int .i64 (((A6 (Bl st.all st.all.length) d.name).length:Int)))),(18,(.int .i64 ((i:Int))))],[(1,(.grow ((Ds m st d own i).map (AV.int .i64)) 3 1))],2⟩∧g=(Cf (Bl st.all st.all.length) d.name).length-i) [0,2,4,7,16,17,18] 2 _ (by omega) ⟨0,(by omega),(by kernel_rfl),rfl⟩ ?_;rintro g1 y1 ⟨i,f1_1,rfl,rfl⟩;have hhl:=U9 (m:=m) (st:=st) (d:=d) (own:=own) (i:=i);have hhm:((Ds m st d own i).map (AV.int .i64)).length=(Ds m st d own i).length:=List.length_map _;refine Aa [] [0,2,4,7,16,17,18,19] ?_
 refine Ab ?_;refine Ax (p:=(i:Int) < ((A6 (Bl st.all st.all.length) d.name).length:Int)) (by kernel_rfl) (fun c1=>?_) (fun c1=>?_)
 ·refine Ag (Ab ?_);refine Az (Ad [] [0,2,4,7,9,16,17,18] [] hk0 v0 (cc 0 (p:=(0≤(i:Int)∧i < (Cf (Bl st.all st.all.length) d.name).length)) (by omega)<|c0) ?_)
  obtain⟨b1,hb1⟩:∃b,b=((nth (Cf (Bl st.all st.all.length) d.name) i).own):=⟨_,rfl⟩
  refine Ad (CS:=[(4,((!b1)=true→(!b1)=true)),(5,(b1=false→(!b1)=true)),(10,(b1||(!own))=true→(b1||(!own))=true∧(b1||(!own))=true∧(b1||(!own))=true),(11,((b1||(!own))=true→(b1||(!own))=true))]) [25,26,29,30,31] [0,2,4,7,9,16,17,18,33] [(0,9)] (hkg 10 (b1||(!own)) X7z (fun cg=>X5q m hM st d (nth (Cf (Bl st.all st.all.length) d.name) i) hd (hi.evr (by omega)))<|hk0) (vk 3 24 (a:=.bool ((nth (Cf (Bl st.all st.all.length) d.name) i).own)) (b:=.bool b1) (Imp.of_eq (by rw[hb1]))<|v0) (by refine cc _ ?_<|cc _ ?_<|cc _ ?_<|cc _ ?_ c0<;>simp) ?_;refine A5 (q:=(b1||(!own))&&(Ko m st.kind d (nth (Cf (Bl st.all st.all.length) d.name) i))) (by kernel_rfl) (fun c2=>?_) (fun c2=>?_)
  ·subst hb1
   try simp only[Ai] at c2
   refine An (Av 0 [] [0,2,4,7,16,17,18] [] hk0 v0 (cc 4 (p:=((((Ds m st d own i).map (AV.int .i64)).length+1)*8≤140737488355328)) (by omega)<|c0) ?_);refine An (Av 0 [] [0,2,4,7,16,17,18] [] hk0 v0 (cc 0 (p:=(-9223372036854775808≤(i:Int)+1∧(i:Int)+1≤9223372036854775807)) (by omega)<|c0) ?_);refine⟨by kernel_rfl,_,?_,i+1,?_,(Eq.trans (b:=(⟨[(0,(.fp (En st))),(2,(.bool own)),(4,(.fp (.agg [(.int .i64 d.kind),(.str d.name),(.int .i64 d.op),(.str d.evr),(.row 5 d.args.length (depAt d.args))]))),(7,(.own 1)),(16,(Aj 4 Jp (Cf (Bl st.all st.all.length) d.name))),(17,(.int .i64 (((A6 (Bl st.all st.all.length) d.name).length:Int)))),(18,(.int .i64 ((i:Int)+1)))],[(1,(.grow (((Ds m st d own i).map (AV.int .i64))++([(.int .i64 ((nth (Cf (Bl st.all st.all.length) d.name) i).id))]:List AV)) 3 1))],2⟩:St)) (by kernel_rfl) (by rw[X44 (by omega) (by unfold It;simpa using c2)]<;>kernel_rfl)),rfl⟩
   ·omega
   ·omega
  ·subst hb1
   try simp only[Ai] at c2
   refine Ag ?_;refine An (Av 0 [] [0,2,4,7,16,17,18] [] hk0 v0 (cc 0 (p:=(-9223372036854775808≤(i:Int)+1∧(i:Int)+1≤9223372036854775807)) (by omega)<|c0) ?_);refine⟨by kernel_rfl,_,?_,i+1,?_,(Eq.trans (b:=(⟨[(0,(.fp (En st))),(2,(.bool own)),(4,(.fp (.agg [(.int .i64 d.kind),(.str d.name),(.int .i64 d.op),(.str d.evr),(.row 5 d.args.length (depAt d.args))]))),(7,(.own 1)),(16,(Aj 4 Jp (Cf (Bl st.all st.all.length) d.name))),(17,(.int .i64 (((A6 (Bl st.all st.all.length) d.name).length:Int)))),(18,(.int .i64 ((i:Int)+1)))],[(1,(.grow ((Ds m st d own i).map (AV.int .i64)) 3 1))],2⟩:St)) (by kernel_rfl) (by rw[X45 (by omega) (by unfold It;simp only[Bool.and_eq_false_iff,Bool.or_eq_false_iff,Bool.not_eq_false'];simpa only [Bool.not_eq_false',Bool.not_eq_eq_eq_not,Bool.not_false] using c2)]<;>kernel_rfl)),rfl⟩
   ·omega
   ·omega
 ·refine Bp (Ab ?_);refine An (Bm 1 0 [] [40] [] hk0 v0 c0 ?_);refine Ei [1] (al:=[(.own 1)]) (al':=[(.own 0)]) (r:=(.own 0)) (r':=(.own 1)) (s':=[(40,Bn),(41,(.own 1))]) (H:=[(0,(.grow ((Ds m st d own i).map (AV.int .i64)) 3 1))]) (H':=[(0,(.grow ((Lib.compact (Ds m st d own i)).map (AV.int .i64)) 3 1))]) (h2:=[(1,(.grow ((Lib.compact (Ds m st d own i)).map (AV.int .i64)) 3 1))]) (by kernel_rfl) (by exact X7y) (by kernel_rfl) (by kernel_rfl) (by kernel_rfl) (by kernel_rfl) (by kernel_rfl) (X9p (Ds m st d own i) (by have:=U9 (m:=m) (st:=st) (d:=d) (own:=own) (i:=i);omega)) (by kernel_rfl) (by kernel_rfl) (by kernel_rfl) ?_;refine Av 2 [] [6] [] hk0 v0 c0 ?_;refine Ae (RK wR [(.row 1 ((Lib.compact (Ds m st d own i)).map (AV.int .i64)).length (fun ix=>((Lib.compact (Ds m st d own i)).map (AV.int .i64)).getD ix Bn))] ?_);rw[show i=(Cf (Bl st.all st.all.length) d.name).length from by omega];exact Same.list (f:=AV.int .i64) (List.length_map _)
end Sv
end
section
open Go Go.RowKit
namespace Sv
attribute [local irreducible] SW SO Bk
set_option maxHeartbeats 400000
set_option maxRecDepth 100000
theorem X7x:Ak Tryz.prog 175:=Ao Tryz.func175 (by kernel_rfl) rfl
theorem X78:Ak Tryz.prog 144:=Ao Tryz.func144 (by kernel_rfl) rfl
theorem X8b:Ak Tryz.prog 141:=Ao Tryz.func141 (by kernel_rfl) rfl
theorem X8a:Ak Tryz.prog 142:=Ao Tryz.func142 (by kernel_rfl) rfl
theorem X79:Ak Tryz.prog 143:=Ao Tryz.func143 (by kernel_rfl) rfl
theorem X77:Ak Tryz.prog 145:=Ao Tryz.func145 (by kernel_rfl) rfl
theorem Q4y:Ak Tryz.prog 103:=Ao Tryz.func103 (by kernel_rfl) rfl
theorem X8t:Ak Tryz.prog 102:=Ao Tryz.func102 (by kernel_rfl) rfl
instance:Inhabited AV:=⟨.nilf⟩
def G5 (q:AV × Bool):AV:=.clo q.1
def Od (l:List Int) (v:Int):Int:=E2 (fun x=>decide (v=x)) l
theorem X40 (l:List Int) (v:Int) (hl:l.length≤4611686018427387904) :
  FnV Tryz.prog 104 [(Dw l),(.int .i64 v)] (.int .i64 (Od l v)):=by
 refine A3 [.tmp 4] Tryz.func104 rfl Tryz.ntmps104 rfl rfl (fun B F hF=>?_);refine Aa [] [0,1] ?_;refine Ab (Aa [] [0,1,7,8] ?_);refine Az (Bx (fun g y=>∃(i:Nat),i≤l.length∧(∀j,j < i→¬v=nth l j)∧y=⟨[(0,(Dw l)),(1,(.int .i64 v)),(7,(.int .i64 ((l.length:Int)))),(8,(.int .i64 ((i:Int))))],[],0⟩∧g=l.length-i) [0,1,7,8] 0 _ (by omega) ⟨0,(by omega),(by exact fun j hj=>by omega),(by kernel_rfl),rfl⟩ ?_);rintro g1 y1 ⟨i,f1_1,f1_2,rfl,rfl⟩;refine Aa [] [0,1,7,8,9] ?_;refine Ab ?_;refine Ax (p:=(i:Int) < (l.length:Int)) (by kernel_rfl) (fun c1=>?_) (fun c1=>?_)
 ·refine Ag (Ab ?_);refine Az (Aa [] [0,1,5,7,8] ?_);refine Ad [] [0,1,5,7,8,16] [] hk0 v0 (cc 3 (p:=(0≤(i:Int)∧i < l.length)) (by omega)<|c0) ?_;refine Ax (p:=v=(nth l i)) (by kernel_rfl) (fun c2=>?_) (fun c2=>?_)
  ·refine Aa [] [4] ?_;refine Ae (RK wR [(.int .i64 ((i:Int)))] ?_);exact Same.of_eq (by unfold Od;rw[M7 (p:=fun x=>decide (v=x)) (i:=i) (by omega) (fun j hj=>by simpa using f1_2 j hj) (by simpa using c2)];rfl)
  ·refine Ag ?_;refine An (Av 0 [] [0,1,7,8] [] hk0 v0 (cc 0 (p:=(-9223372036854775808≤(i:Int)+1∧(i:Int)+1≤9223372036854775807)) (by omega)<|c0) ?_);refine⟨by kernel_rfl,_,?_,i+1,?_,?_,(by kernel_rfl),rfl⟩
   ·omega
   ·omega
   ·intro j hj;by_cases h:j=i
    ·subst h;assumption
    ·exact f1_2 j (by omega)
 ·refine Bp (Aa [] [4] ?_);refine Ae (RK wR [(.int .i64 (-1))] ?_);exact Same.of_eq (by unfold Od;rw[M6 (p:=fun x=>decide (v=x)) (fun j hj=>by simpa using f1_2 j (by omega))];rfl)
theorem Q5c (l:List Int) (v:Int) (hl:l.length≤4611686018427387904) :
  FnV Tryz.prog 52 [(Dw l),(.int .i64 v)] (.bool (l.any fun x=>decide (v=x))):=by
 refine A3 [.tmp 4] Tryz.func52 rfl Tryz.ntmps52 rfl rfl (fun B F hF=>?_);refine Aa [] [0,1] ?_;refine Ad [] [4] [] (hk 2 X8s (X40 l v hl)<|hk0) v0 c0 ?_;refine Ae (RK wR [(.bool (decide (0≤(Od l v))))] ?_);exact Same.of_eq (by simp only[Af];unfold Od;rw[M8])
theorem X5d (l:List (AV × Bool)) (a:AV) (p:(AV × Bool)→Bool) (hl:l.length≤4611686018427387904) (ha:∀i,i < l.length→FunV Tryz.prog a [(.clo ((nth l i).1))] (.bool (p (nth l i)))) :
  FnV Tryz.prog 175 [(Aj 1 G5 l),(.clo a)] (.int .i64 (E2 p l)):=by
 refine A3 [.tmp 4] Tryz.func175 rfl Tryz.ntmps175 rfl rfl (fun B F hF=>?_);refine Aa [] [0,1] ?_;refine Ab (Aa [] [0,1,7,8] ?_);refine Az (Bx (fun g y=>∃(i:Nat),i≤l.length∧(∀j,j < i→p (nth l j)=false)∧y=⟨[(0,(Aj 1 G5 l)),(1,(.clo a)),(7,(.int .i64 ((l.length:Int)))),(8,(.int .i64 ((i:Int))))],[],0⟩∧g=l.length-i) [0,1,7,8] 0 _ (by omega) ⟨0,(by omega),(by exact fun j hj=>by omega),(by kernel_rfl),rfl⟩ ?_);rintro g1 y1 ⟨i,f1_1,f1_2,rfl,rfl⟩;refine Aa [] [0,1,7,8,9] ?_;refine Ab ?_;refine Ax (p:=(i:Int) < (l.length:Int)) (by kernel_rfl) (fun c1=>?_) (fun c1=>?_)
 ·refine Ag (Ab ?_);refine Az (Aa [] [0,1,5,7,8] ?_);refine Ab ?_;refine An (Bm 5 0 [] [0,1,5,7,8,11,15] [] hk0 v0 (cc 3 (p:=(0≤(i:Int)∧i < l.length)) (by omega)<|c0) ?_);refine Gn (s':=[(0,(Aj 1 G5 l)),(1,(.clo a)),(5,(.int .i64 ((i:Int)))),(7,(.int .i64 ((l.length:Int)))),(8,(.int .i64 ((i:Int)))),(11,(.clo a)),(15,(.clo ((nth l i).1))),(16,(.bool (p (nth l i))))]) (a:=(.clo a)) (al:=[(.clo ((nth l i).1))]) (r:=(.bool (p (nth l i)))) (by kernel_rfl) (by kernel_rfl) (by kernel_rfl) (by kernel_rfl) (by kernel_rfl) ((ha i (by omega)).clo) (by kernel_rfl) ?_;refine Br ?_;refine A5 (q:=p (nth l i)) (by kernel_rfl) (fun c2=>?_) (fun c2=>?_)
  ·try simp only[Ai] at c2
   refine Aa [] [4] ?_;refine Ae (RK wR [(.int .i64 ((i:Int)))] ?_);exact Same.of_eq (by rw[M7 (by omega) f1_2 (by simp_all)];rfl)
  ·try simp only[Ai] at c2
   refine Ag ?_;refine An (Av 0 [] [0,1,7,8] [] hk0 v0 (cc 0 (p:=(-9223372036854775808≤(i:Int)+1∧(i:Int)+1≤9223372036854775807)) (by omega)<|c0) ?_);refine⟨by kernel_rfl,_,?_,i+1,?_,?_,(by kernel_rfl),rfl⟩
   ·omega
   ·omega
   ·intro j hj;by_cases h:j=i
    ·subst h;simp_all
    ·exact f1_2 j (by omega)
 ·refine Bp (Aa [] [4] ?_);refine Ae (RK wR [(.int .i64 (-1))] ?_);exact Same.of_eq (by rw[M6 (fun j hj=>f1_2 j (by omega))];rfl)
theorem X5e (l:List (AV × Bool)) (a:AV) (p:(AV × Bool)→Bool) (hl:l.length≤4611686018427387904) (ha:∀i,i < l.length→FunV Tryz.prog a [(.clo ((nth l i).1))] (.bool (p (nth l i)))) :
  FnV Tryz.prog 144 [(Aj 1 G5 l),(.clo a)] (.bool (l.any p)):=by
 refine A3 [.tmp 4] Tryz.func144 rfl Tryz.ntmps144 rfl rfl (fun B F hF=>?_);refine Aa [] [0,1] ?_;refine Ad [] [4] [] (hk 2 X7x (X5d l a p hl ha)<|hk0) v0 c0 ?_;refine Ae (RK wR [(.bool (decide (0≤(E2 p l))))] ?_);exact Same.of_eq (by simp only[Af];rw[M8])
theorem Y08 (l:List Int) (id:Int) (hl:l.length≤4611686018427387904) :
  FnV Tryz.prog 141 [(.int .i64 id),(.fp (.agg [(Dw l)]))] (.bool (l.any fun x=>decide (id=x))):=by
 refine A3 [.tmp 3] Tryz.func141 rfl Tryz.ntmps141 rfl rfl (fun B F hF=>?_);refine Aa [] [0,1] ?_;refine Ad [] [3] [] (hk 2 Q3y (Q5c l id hl)<|hk0) v0 c0 ?_;refine Ae (RK wR [(.bool (l.any fun x=>decide (id=x)))] ?_);exact Same.of_eq (by first|rfl|(simp only[Af];simp_all))
theorem Y07 (l:List (AV × Bool)) (id:Int) (hl:2≤l.length) (hf:∀i,i < l.length→FunV Tryz.prog (nth l i).1 [.int .i64 id] (.bool (nth l i).2)) :
  FnV Tryz.prog 142 [(.int .i64 id),(.fp (.agg [(Aj 1 G5 l)]))] (.bool ((nth l 0).2&&!(nth l 1).2)):=by
 refine A3 [.tmp 3] Tryz.func142 rfl Tryz.ntmps142 rfl rfl (fun B F hF=>?_);refine Aa [] [0,1] ?_;refine Ab ?_;refine An (Bm 4 0 [] [0,1,6,7] [] hk0 v0 (cc 1 (p:=(0≤(0:Int)∧0 < l.length)) (by omega)<|c0) ?_);refine Gn (s':=[(0,(.int .i64 id)),(1,(.fp (.agg [(Aj 1 G5 l)]))),(6,(.clo ((nth l 0).1))),(7,(.int .i64 id)),(8,(.bool ((nth l 0).2)))]) (a:=(.clo ((nth l 0).1))) (al:=[(.int .i64 id)]) (r:=(.bool ((nth l 0).2))) (by kernel_rfl) (by kernel_rfl) (by kernel_rfl) (by kernel_rfl) (by kernel_rfl) ((hf 0 (by omega)).clo) (by kernel_rfl) ?_;refine Bm 1 5 [] [0,1,9] [] hk0 v0 c0 ?_;refine Hs ((nth l 0).2) (fun c1=>?_) (fun c1=>?_)
 ·refine F5 9 (a:=.bool ((nth l 0).2)) (.bool true) (by kernel_rfl) (Imp.of_eq (by rw[c1])) ?_;refine Bm 4 6 [] [9,12,13] [] hk0 v0 (cc 7 (p:=(0≤(1:Int)∧1 < l.length)) (by omega)<|c0) ?_;refine Gn (s':=[(9,(.bool true)),(12,(.clo ((nth l 1).1))),(13,(.int .i64 id)),(14,(.bool ((nth l 1).2)))]) (a:=(.clo ((nth l 1).1))) (al:=[(.int .i64 id)]) (r:=(.bool ((nth l 1).2))) (by kernel_rfl) (by kernel_rfl) (by kernel_rfl) (by kernel_rfl) (by kernel_rfl) ((hf 1 (by omega)).clo) (by kernel_rfl) ?_;refine Av 11 [] [3] [] hk0 v0 c0 ?_;refine Ae (RK wR [(.bool (!((nth l 1).2)))] ?_);exact Same.of_eq (by simp only[Af];simp_all)
 ·refine F5 9 (a:=.bool ((nth l 0).2)) (.bool false) (by kernel_rfl) (Imp.of_eq (by rw[c1])) ?_;refine Av 6 [] [3] [] hk0 v0 c0 ?_;refine Ae (RK wR [(.bool false)] ?_);exact Same.of_eq (by simp only[Af];simp_all)
theorem Y06 (a:AV) (q:Bool) (id:Int) (hf:FunV Tryz.prog a [.int .i64 id] (.bool q)) :
  FnV Tryz.prog 145 [(.clo a),(.fp (.agg [(.int .i64 id)]))] (.bool (!q)):=by
 refine A3 [.tmp 3] Tryz.func145 rfl Tryz.ntmps145 rfl rfl (fun B F hF=>?_);refine Aa [] [0,1] ?_;refine Ab ?_;refine An (Bm 2 0 [] [4,5] [] hk0 v0 c0 ?_);refine Gn (s':=[(4,(.clo a)),(5,(.int .i64 id)),(6,(.bool q))]) (a:=(.clo a)) (al:=[(.int .i64 id)]) (r:=(.bool q)) (by kernel_rfl) (by kernel_rfl) (by kernel_rfl) (by kernel_rfl) (by kernel_rfl) hf.clo (by kernel_rfl) ?_;refine Av 3 [] [3] [] hk0 v0 c0 ?_;refine Ae (RK wR [(.bool (!q))] ?_);exact Same.of_eq (by first|rfl|(simp only[Af];simp_all))
theorem Y05 (l:List (AV × Bool)) (id:Int) (hl:l.length≤4611686018427387904) (hf:∀i,i < l.length→FunV Tryz.prog (nth l i).1 [.int .i64 id] (.bool (nth l i).2)) :
  FnV Tryz.prog 143 [(.int .i64 id),(.fp (.agg [(Aj 1 G5 l)]))] (.bool (!l.any fun q => !q.2)):=by
 refine A3 [.tmp 3] Tryz.func143 rfl Tryz.ntmps143 rfl rfl (fun B F hF=>?_);refine Aa [] [1,2] ?_;refine Ab ?_;refine An (Bm 2 0 [] [4,5] [] hk0 v0 c0 ?_);refine Y2q (s':=[(4,(Aj 1 G5 l)),(5,(.fn 145 [] [(.ptr 0 0)])),(6,(.bool (l.any fun q => !q.2)))]) (al:=[(Aj 1 G5 l),(.fn 145 [] [(.ptr 0 0)])]) (al':=[(Aj 1 G5 l),(.fn 145 [] [(.fp (.agg [(.int .i64 id)]))])]) (h':=[]) (r:=(.bool (l.any fun q => !q.2))) (by kernel_rfl) (by exact X78) (by kernel_rfl) (by kernel_rfl) ((X5e l (.fn 145 [] [.fp (.agg [.int .i64 id])]) (fun q => !q.2) hl (fun i hi=>FunV.of (by exact X77) (Y06 (nth l i).1 (nth l i).2 id (hf i hi)))).of_args (ImpL.cons Imp.refl (ImpL.cons (Imp.clo rfl) ImpL.nil))) rfl (by kernel_rfl) ?_;refine Av 3 [] [3] [] hk0 v0 c0 ?_;refine Ae (RK wR [(.bool (!(l.any fun q => !q.2)))] ?_);exact Same.of_eq (by first|rfl|(simp only[Af];simp_all))
theorem Q9o (k:Int) :
  FnV Tryz.prog 102 [(.int .i64 k)] (.bool (decide (k=1)||(decide (k=5)||decide (k=6)))):=by
 refine A3 [.tmp 2] Tryz.func102 rfl Tryz.ntmps102 rfl rfl (fun B F hF=>?_);refine Aa [] [0] ?_
 obtain⟨b1,hb1⟩:∃b,b=((decide (k=1))||(decide (k=5))):=⟨_,rfl⟩
 refine Ad (CS:=[(4,((!(decide (k=1)))=true→(!(decide (k=1)))=true)),(5,((decide (k=1))=false→(!(decide (k=1)))=true)),(8,((!b1)=true→(!b1)=true)),(9,(b1=false→(!b1)=true))]) [6,7,10,11] [2] [] hk0 (vk 7 9 (a:=.bool ((decide (k=1))||(decide (k=5)))) (b:=.bool b1) (Imp.of_eq (by rw[hb1]))<|v0) (by refine cc _ ?_<|cc _ ?_<|cc _ ?_<|cc _ ?_ c0<;>simp) ?_;refine Ae (RK wR [(.bool (b1||(decide (k=6))))] ?_);subst hb1;exact Same.of_eq (by simp only[Af,Bool.or_assoc])
end Sv
end
section
open Go Go.RowKit
namespace Sv
attribute [local irreducible] SW SO Bk
set_option maxHeartbeats 1000000
set_option maxRecDepth 100000
noncomputable def B5 (m:Int→Int→List UInt8→Int→List UInt8→Bool × Int) (st:PoolT):Nat→DepT→AV
 |0,_ => .nilf
 |n+1,d=>if d.kind=1 then .fn 141 [] [.fp (.agg [Dw (Gw m st d false)])] else
  if d.kind=6 then .fn 142 [] [.fp (.agg [.row 1 ((d.args.map (B5 m st n)).map AV.clo).length (fun i=>((d.args.map (B5 m st n)).map AV.clo).getD i Bn)])] else
  .fn 143 [] [.fp (.agg [.row 1 ((d.args.map (B5 m st n)).map AV.clo).length (fun i=>((d.args.map (B5 m st n)).map AV.clo).getD i Bn)])]
theorem Q6b {m:Int→Int→List UInt8→Int→List UInt8→Bool × Int} {st:PoolT} {n:Nat} {d:DepT} (h:d.kind=1):B5 m st (n+1) d = .fn 141 [] [.fp (.agg [Dw (Gw m st d false)])]:=by unfold B5;rw[if_pos h]
theorem Q6a {m:Int→Int→List UInt8→Int→List UInt8→Bool × Int} {st:PoolT} {n:Nat} {d:DepT} (h:d.kind=6):B5 m st (n+1) d = .fn 142 [] [.fp (.agg [.row 1 ((d.args.map (B5 m st n)).map AV.clo).length (fun i=>((d.args.map (B5 m st n)).map AV.clo).getD i Bn)])]:=by unfold B5;rw[if_neg (by omega),if_pos h]
theorem Q6c {m:Int→Int→List UInt8→Int→List UInt8→Bool × Int} {st:PoolT} {n:Nat} {d:DepT} (h1:¬d.kind=1) (h6:¬d.kind=6):B5 m st (n+1) d = .fn 143 [] [.fp (.agg [.row 1 ((d.args.map (B5 m st n)).map AV.clo).length (fun i=>((d.args.map (B5 m st n)).map AV.clo).getD i Bn)])]:=by unfold B5;rw[if_neg h1,if_neg h6]
theorem Y03 {g:DepT→AV} {l:List DepT} {i:Nat} (h:i < l.length):((l.take (i+1)).map g).map AV.clo=((l.take i).map g).map AV.clo++[.clo (g (nth l i))]:=by
 rw[List.take_add_one,List.getElem?_eq_getElem h,List.map_append,List.map_append];simp[nth,h]
theorem Y00 (m:Int→Int→List UInt8→Int→List UInt8→Bool × Int) (hM:L5 m) (st:PoolT) (hi:IdxOk st) (n:Nat) (d:DepT) (hd:d.size≤4194304) (ih:∀i,i < d.args.length→FnV Tryz.prog 103 [(.fp (En st)),(.agg [(.int .i64 ((nth d.args i).kind)),(.str ((nth d.args i).name)),(.int .i64 ((nth d.args i).op)),(.str ((nth d.args i).evr)),(.row 5 (nth d.args i).args.length (depAt (nth d.args i).args))])] (.clo (B5 m st n (nth d.args i)))) :
  FnV Tryz.prog 103 [(.fp (En st)),(.agg [(.int .i64 d.kind),(.str d.name),(.int .i64 d.op),(.str d.evr),(.row 5 d.args.length (depAt d.args))])] (.clo (B5 m st (n+1) d)):=by
 have hda:=Gs d;have hal:=Et d.args;refine A3 [.tmp 4] Tryz.func103 rfl Tryz.ntmps103 rfl rfl (fun B F hF=>?_);refine Ad [] [0,3] [(1,3)] hk0 v0 c0 ?_;refine Ab (Aa [] [0,3,11] ?_);refine Ax (p:=d.kind=1) (by kernel_rfl) (fun c1=>?_) (fun c1=>?_)
 ·refine Ad [] [5] [] (hk 2 X8c (X3e m hM st hi d false hd)<|hk0) v0 c0 ?_;refine Aa [] [4] ?_;refine Ae (RK wR [(.fn 141 [] [(.fp (.agg [(Dw (Gw m st d false))]))])] ?_);simp only[Af];rw[Q6b (by assumption)];exact(Imp.clo (by kernel_rfl)).same
 ·refine Ag (Aa [] [0,3,6] ?_);refine Ab (Aa [] [0,3,6,17,18,19] ?_);refine Az (Wy 17 (Aj 5 Ap d.args) (by kernel_rfl) (Gk d.args) ?_);refine Pt 142 1 1 0 (y:=⟨[(0,(.fp (En st))),(3,(.fp (.agg [(.int .i64 d.kind),(.str d.name),(.int .i64 d.op),(.str d.evr),(.row 5 d.args.length (depAt d.args))]))),(6,(.ptr 1 0)),(17,(Aj 5 Ap d.args)),(18,(.int .i64 ((d.args.length:Int)))),(19,(.int .i64 0))],[(1,(.row [(.own 2)] 175)),(2,(.grow [] 142 1))],3⟩) (by kernel_rfl) (by kernel_rfl) ?_;refine Bx (fun g y=>∃(i:Nat),i≤d.args.length∧y=⟨[(0,(.fp (En st))),(3,(.fp (.agg [(.int .i64 d.kind),(.str d.name),(.int .i64 d.op),(.str d.evr),(.row 5 d.args.length (depAt d.args))]))),(6,(.ptr 1 0)),(17,(Aj 5 Ap d.args)),(18,(.int .i64 ((d.args.length:Int)))),(19,(.int .i64 ((i:Int))))],[(1,(.row [(.own 2)] 175)),(2,(.grow (((d.args.take i).map (B5 m st n)).map AV.clo) 142 1))],3⟩∧g=d.args.length-i) [0,3,6,17,18,19] 3 _ (by omega) ⟨0,(by omega),(by kernel_rfl),rfl⟩ ?_;rintro g1 y1 ⟨i,f1_1,rfl,rfl⟩
  have hgl:(((d.args.take i).map (B5 m st n)).map AV.clo).length≤4611686018:=by simp only[List.length_map,List.length_take];omega
  refine Aa [] [0,3,6,17,18,19,20] ?_;refine Ab ?_;refine Ax (p:=(i:Int) < (d.args.length:Int)) (by kernel_rfl) (fun c2=>?_) (fun c2=>?_)
  ·refine Ag ?_;refine C8 (fun y=>y=⟨[(0,(.fp (En st))),(3,(.fp (.agg [(.int .i64 d.kind),(.str d.name),(.int .i64 d.op),(.str d.evr),(.row 5 d.args.length (depAt d.args))]))),(6,(.ptr 1 0)),(17,(Aj 5 Ap d.args)),(18,(.int .i64 ((d.args.length:Int)))),(19,(.int .i64 ((i:Int))))],[(1,(.row [(.own 2)] 175)),(2,(.grow (((d.args.take (i+1)).map (B5 m st n)).map AV.clo) 142 1))],3⟩) [0,3,6,17,18,19] 3 (by omega) ?_ ?_
   ·refine Az (Ad [] [0,3,6,8,17,18,19] [] hk0 v0 (cc 0 (p:=(0≤(i:Int)∧i < d.args.length)) (by omega)<|c0) ?_);refine Sz 8 (y:=⟨[(0,(.fp (En st))),(3,(.fp (.agg [(.int .i64 d.kind),(.str d.name),(.int .i64 d.op),(.str d.evr),(.row 5 d.args.length (depAt d.args))]))),(6,(.ptr 1 0)),(8,(.fp (.agg [(.int .i64 ((nth d.args i).kind)),(.str ((nth d.args i).name)),(.int .i64 ((nth d.args i).op)),(.str ((nth d.args i).evr)),(.row 5 (nth d.args i).args.length (depAt (nth d.args i).args))]))),(17,(Aj 5 Ap d.args)),(18,(.int .i64 ((d.args.length:Int)))),(19,(.int .i64 ((i:Int))))],[(1,(.row [(.own 2)] 175)),(2,(.grow (((d.args.take i).map (B5 m st n)).map AV.clo) 142 1))],4⟩) (by kernel_rfl) ?_;refine G9 [] [0,3,6,17,18,19] [] (hk 3 Q4y (ih i (by omega))<|hk0) v0 (cc 5 (p:=(((((d.args.take i).map (B5 m st n)).map AV.clo).length+1)*8≤140737488355328)) (by omega)<|c0) ?_
    refine⟨by kernel_rfl,(Eq.trans (b:=(⟨[(0,(.fp (En st))),(3,(.fp (.agg [(.int .i64 d.kind),(.str d.name),(.int .i64 d.op),(.str d.evr),(.row 5 d.args.length (depAt d.args))]))),(6,(.ptr 1 0)),(17,(Aj 5 Ap d.args)),(18,(.int .i64 ((d.args.length:Int)))),(19,(.int .i64 ((i:Int))))],[(1,(.row [(.own 2)] 175)),(2,(.grow ((((d.args.take i).map (B5 m st n)).map AV.clo)++([(.clo (B5 m st n (nth d.args i)))]:List AV)) 142 1))],3⟩:St)) (by kernel_rfl) (by rw[show((((d.args.take i).map (B5 m st n)).map AV.clo)++([(.clo (B5 m st n (nth d.args i)))]:List AV))=((d.args.take (i+1)).map (B5 m st n)).map AV.clo from (Y03 (g:=B5 m st n) (l:=d.args) (i:=i) (by omega)).symm]<;>kernel_rfl))⟩
   ·rintro y1 rfl;refine An (Av 0 [] [0,3,6,17,18,19] [] hk0 v0 (cc 0 (p:=(-9223372036854775808≤(i:Int)+1∧(i:Int)+1≤9223372036854775807)) (by omega)<|c0) ?_);refine⟨by kernel_rfl,_,?_,i+1,?_,(by kernel_rfl),rfl⟩
    ·omega
    ·omega
  ·refine Bp ?_;refine Ab (Aa [] [6,32] ?_);refine Ax (p:=d.kind=6) (by kernel_rfl) (fun c3=>?_) (fun c3=>?_)
   ·refine Ab ?_;refine An (Jb 1 0 (y:=⟨[(6,(.ptr 1 0)),(32,(.bool (decide (d.kind=6))))],[(1,(.row [(.row 1 (((d.args.take i).map (B5 m st n)).map AV.clo).length (fun ix=>(((d.args.take i).map (B5 m st n)).map AV.clo).getD ix Bn))] 175))],3⟩) (by kernel_rfl) ?_);refine Dd [] [4] ?_;refine Ae (RK wR [(.fn 142 [] [(.fp (.agg [(.row 1 (((d.args.take i).map (B5 m st n)).map AV.clo).length (fun ix=>(((d.args.take i).map (B5 m st n)).map AV.clo).getD ix Bn))]))])] ?_);rw[show i=d.args.length from by omega];simp only[Af];rw[show d.args.take d.args.length=d.args from List.take_length];rw[Q6a (by assumption) ];exact(Imp.clo (by kernel_rfl)).same
   ·refine Ag (Ab ?_);refine An (Jb 1 0 (y:=⟨[(6,(.ptr 1 0)),(32,(.bool (decide (d.kind=6))))],[(1,(.row [(.row 1 (((d.args.take i).map (B5 m st n)).map AV.clo).length (fun ix=>(((d.args.take i).map (B5 m st n)).map AV.clo).getD ix Bn))] 175))],3⟩) (by kernel_rfl) ?_);refine Dd [] [4] ?_;refine Ae (RK wR [(.fn 143 [] [(.fp (.agg [(.row 1 (((d.args.take i).map (B5 m st n)).map AV.clo).length (fun ix=>(((d.args.take i).map (B5 m st n)).map AV.clo).getD ix Bn))]))])] ?_);rw[show i=d.args.length from by omega];simp only[Af];rw[show d.args.take d.args.length=d.args from List.take_length];rw[Q6c (by assumption) (by assumption)];exact(Imp.clo (by kernel_rfl)).same
theorem Y02 (m:Int→Int→List UInt8→Int→List UInt8→Bool × Int) (hM:L5 m) (st:PoolT) (hi:IdxOk st):∀(n:Nat) (d:DepT),d.size≤n→d.size≤4194304→FnV Tryz.prog 103 [(.fp (En st)),(.agg [(.int .i64 (d.kind)),(.str (d.name)),(.int .i64 (d.op)),(.str (d.evr)),(.row 5 d.args.length (depAt d.args))])] (.clo (B5 m st n d)):=by
 intro n
 induction n with
 |zero=>intro d h;have:=Gs d;omega
 |succ n ih=>exact fun d h hd=>Y00 m hM st hi n d hd fun i hj=>ih _ (by have h1:=Id hj;omega) (by have h1:=Id hj;omega)
end Sv
end
section
open Go Go.RowKit
namespace Sv
attribute [local irreducible] SW SO Bk
set_option maxHeartbeats 400000
set_option maxRecDepth 100000
theorem X3f {m:Int→Int→List UInt8→Int→List UInt8→Bool × Int} {st:PoolT} (hi:IdxOk st) {d:DepT} {own:Bool}:(Gw m st d own).length≤4611686018427387904:=by
 have h1:=Q5d (Ds m st d own (Cf (Bl st.all st.all.length) d.name).length);have h2:=U9 (m:=m) (st:=st) (d:=d) (own:=own) (i:=(Cf (Bl st.all st.all.length) d.name).length);have h3:=hi.len d.name;unfold Gw;omega
def woB:Nat→DepT→Bool
 |0,_=>true
 |n+1,d=>(!(decide (d.kind=6)||decide (d.kind=4))||decide (2≤d.args.length))&&d.args.all (woB n)
def Cc (m:Int→Int→List UInt8→Int→List UInt8→Bool × Int) (st:PoolT):Nat→DepT→Int→Bool
 |0,_,_=>false
 |n+1,d,id=>if d.kind=1 then (Gw m st d false).any fun x=>decide (id=x) else
  if d.kind=6 then Cc m st n (nth d.args 0) id&&!Cc m st n (nth d.args 1) id else !(d.args.any fun a => !Cc m st n a id)
theorem Q8b {n:Nat} {d:DepT} (h:woB (n+1) d=true) (hk:d.kind=6∨d.kind=4):2≤d.args.length:=by
 unfold woB at h;simp only[Bool.and_eq_true,Bool.or_eq_true,Bool.not_eq_true',Bool.or_eq_false_iff,decide_eq_true_eq,decide_eq_false_iff_not] at h;rcases h.1 with h|h
 ·omega
 ·exact h
theorem Q8d {n:Nat} {d:DepT} (h:woB (n+1) d=true) {i:Nat} (hi:i < d.args.length):woB n (nth d.args i)=true:=by
 unfold woB at h;simp only[Bool.and_eq_true,List.all_eq_true] at h;exact h.2 _ (by rw[Jq hi];exact List.getElem_mem hi)
theorem Q5f (g:DepT→AV) (q:DepT→Bool) (l:List DepT):Imp (.row 1 ((l.map g).map AV.clo).length (fun i=>((l.map g).map AV.clo).getD i Bn)) (Aj 1 G5 (l.map fun a=>(g a,q a))):=by
 have e:(l.map g).map AV.clo=(l.map fun a=>(g a,q a)).map G5:=by rw[List.map_map,List.map_map];rfl
 rw[e];exact Imp.list (f:=G5) (List.length_map _)
theorem Rk {α β:Type} [Inhabited α] [Inhabited β] {g:α→β} {l:List α} {i:Nat} (h:i < l.length):nth (l.map g) i=g (nth l i):=by simp[nth,h]
theorem Y04 (m:Int→Int→List UInt8→Int→List UInt8→Bool × Int) (hM:L5 m) (st:PoolT) (hi:IdxOk st) (id:Int):∀(n:Nat) (d:DepT),d.size≤n→d.size≤4194304→woB n d=true→FunV Tryz.prog (B5 m st n d) [.int .i64 id] (.bool (Cc m st n d id)):=by
 intro n
 induction n with
 |zero=>intro d h;have:=Gs d;omega
 |succ n ih =>
  intro d h hd hw;have hsa:=Gs d;have hal:=Et d.args
  have hf:∀i,i < (d.args.map fun a=>(B5 m st n a,Cc m st n a id)).length→FunV Tryz.prog (nth (d.args.map fun a=>(B5 m st n a,Cc m st n a id)) i).1 [.int .i64 id] (.bool (nth (d.args.map fun a=>(B5 m st n a,Cc m st n a id)) i).2):=by
   intro i hj
   have hj:i < d.args.length:=by simpa using hj
   rw[Rk hj];have h1:=Id hj;exact ih _ (by omega) (by omega) (Q8d hw hj)
  by_cases h1:d.kind=1
  ·rw[Q6b h1]
   have e:Cc m st (n+1) d id=(Gw m st d false).any fun x=>decide (id=x):=by unfold Cc;rw[if_pos h1]
   rw[e];exact FunV.of (by exact X8b) (Y08 (Gw m st d false) id (X3f hi))
  ·by_cases h6:d.kind=6
   ·have h2:=Q8b hw (.inl h6);rw[Q6a h6]
    have e:Cc m st (n+1) d id=((nth (d.args.map fun a=>(B5 m st n a,Cc m st n a id)) 0).2&&!(nth (d.args.map fun a=>(B5 m st n a,Cc m st n a id)) 1).2):=by
     rw[Rk (g:=fun a=>(B5 m st n a,Cc m st n a id)) (l:=d.args) (i:=0) (by omega),Rk (g:=fun a=>(B5 m st n a,Cc m st n a id)) (l:=d.args) (i:=1) (by omega)]
     conv=>lhs;unfold Cc
     rw[if_neg h1,if_pos h6]
    rw[e];exact FunV.of (by exact X8a) ((Y07 (d.args.map fun a=>(B5 m st n a,Cc m st n a id)) id (by simpa using h2) hf).of_args (ImpL.cons Imp.refl (ImpL.cons (Imp.fp (Imp.aggs (ImpL.cons (Q5f _ _ _) ImpL.nil))) ImpL.nil)))
   ·rw[Q6c h1 h6]
    have e:Cc m st (n+1) d id = !((d.args.map fun a=>(B5 m st n a,Cc m st n a id)).any fun q => !q.2):=by
     rw[List.any_map]
     conv=>lhs;unfold Cc
     rw[if_neg h1,if_neg h6];rfl
    rw[e];exact FunV.of (by exact X79) ((Y05 (d.args.map fun a=>(B5 m st n a,Cc m st n a id)) id (by rw[List.length_map];omega) hf).of_args (ImpL.cons Imp.refl (ImpL.cons (Imp.fp (Imp.aggs (ImpL.cons (Q5f _ _ _) ImpL.nil))) ImpL.nil)))
end Sv
end
section
open Go Go.RowKit
namespace Sv
attribute [local irreducible] SW SO Bk
set_option maxHeartbeats 400000
set_option maxRecDepth 100000
end Sv
end
section
open Go Go.RowKit
namespace Sv
attribute [local irreducible] SW SO Bk
set_option maxHeartbeats 400000
set_option maxRecDepth 100000
theorem X8u:Ak Tryz.prog 101:=Ao Tryz.func101 (by kernel_rfl) rfl
theorem Q8c:∀(n:Nat) (d:DepT),B2 d=true→woB n d=true:=by
 intro n
 induction n with
 |zero=>exact fun _ _=>rfl
 |succ n ih =>
  intro d h;obtain⟨k,nm,op,ev,args⟩:=d
  have all:∀(k:Int) (l:List DepT),argsForm k l=true→l.all (woB n)=true:=by
   intro k l
   induction l with
   |nil=>exact fun _=>rfl
   |cons a l ihl =>
    intro q;simp only[argsForm,Bool.and_eq_true] at q;rw[List.all_cons,ih a q.2.1,ihl q.2.2];rfl
  unfold B2 at h;unfold woB;by_cases hk:k=1
  ·rw[if_pos hk] at h
   have h0:args.length=0:=by
    by_cases q:Bh nm=true∧0≤op∧op≤7∧args.length=0
    ·exact q.2.2.2
    ·rw[Vh q] at h;cases h
   obtain rfl:=List.length_eq_zero_iff.1 h0;subst hk;rfl
  ·rw[if_neg hk] at h;simp only[Bool.and_eq_true,Bool.not_eq_true',Gg,decide_eq_false_iff_not] at h
   have h2:2≤args.length:=by
    have:=h.1;simp only[not_or] at this;omega
   show((!(decide (k=6)||decide (k=4))||decide (2≤args.length))&&args.all (woB n))=true;rw[decide_eq_true h2,Bool.or_true,all k args h.2];rfl
theorem Nm {d:DepT} (h:Bw d=0):B2 d=true:=by
 unfold Bw at h
 cases hq:B2 d with
 |true=>rfl
 |false=>rw[hq] at h;simp at h
def Hh (d:DepT) (q:Bool):Int:=if Bw d=0 then (if q=true then 0 else 70) else Bw d
theorem X09 (st:PoolT) (d:DepT) (a:AV) (q:Bool) (hd:d.size≤4194304) (ha:FunV Tryz.prog a [.int .i64 d.kind] (.bool q)) :
  FnV Tryz.prog 101 [(.fp (En st)),(.agg [(.int .i64 d.kind),(.str d.name),(.int .i64 d.op),(.str d.evr),(.row 5 d.args.length (depAt d.args))]),(.clo a)] (.int .i64 (Hh d q)):=by
 refine A3 [.tmp 6] Tryz.func101 rfl Tryz.ntmps101 rfl rfl (fun B F hF=>?_);refine Ad [] [0,2,4] [(1,4)] hk0 v0 c0 ?_;refine Ab (Aa [] [2,4,9] ?_);refine Du (by kernel_rfl) ?_;refine Ag ?_;refine Ab (Ad [] [2,4,7] [] (hk 1 Pd (Tb d hd)<|hk0) v0 c0 ?_);refine Aa [] [2,4,7,13] ?_;refine Cr (p:=(Bw d)=0) (by kernel_rfl) (fun c1=>?_) (fun c1=>?_)
 ·refine Aa [] [6] ?_;refine Ae (RK wR [(.int .i64 (Bw d))] ?_);exact Same.of_eq (by simp only[Af];unfold Hh;rw[if_neg (by assumption)])
 ·refine Ag ?_;refine Ab (Ab ?_);refine An (Bm 3 0 [] [15,17] [] hk0 v0 c0 ?_);refine Gn (s':=[(15,(.clo a)),(17,(.int .i64 d.kind)),(18,(.bool q))]) (a:=(.clo a)) (al:=[(.int .i64 d.kind)]) (r:=(.bool q)) (by kernel_rfl) (by kernel_rfl) (by kernel_rfl) (by kernel_rfl) (by kernel_rfl) ha.clo (by kernel_rfl) ?_;refine Av 4 [] [19] [] hk0 v0 c0 ?_;refine A5 (q:=!q) (by kernel_rfl) (fun c2=>?_) (fun c2=>?_)
  ·try simp only[Ai] at c2
   refine Aa [] [6] ?_;refine Ae (RK wR [(.int .i64 70)] ?_);exact Same.of_eq (by simp only[Af];unfold Hh;rw[if_pos (by omega),if_neg (by simp_all)])
  ·try simp only[Ai] at c2
   refine Ag (Aa [] [6] ?_);refine Ae (RK wR [(.int .i64 0)] ?_);exact Same.of_eq (by simp only[Af];unfold Hh;rw[if_pos (by omega),if_pos (by simp_all)])
end Sv
end
section
open Go Go.RowKit
namespace Sv
attribute [local irreducible] SW SO Bk
set_option maxHeartbeats 1000000
set_option maxRecDepth 100000
theorem X61:Ak Tryz.prog 50:=Ao Tryz.func50 (by kernel_rfl) rfl
def E7 (k:Int):Bool:=decide (k=1)||(decide (k=5)||decide (k=6))
def Ec (m:Int→Int→List UInt8→Int→List UInt8→Bool × Int) (st:PoolT) (d:DepT) (i:Nat):List Int:=((List.range i).filter fun (k:Nat)=>Cc m st d.size d (k:Int)).map fun (k:Nat)=>(k:Int)
theorem Xn {m:Int→Int→List UInt8→Int→List UInt8→Bool × Int} {st:PoolT} {d:DepT} {i:Nat}:(Ec m st d i).length≤i:=by
 unfold Ec;rw[List.length_map];exact Nat.le_trans (List.length_filter_le _ _) (by simp)
theorem Q8e {m:Int→Int→List UInt8→Int→List UInt8→Bool × Int} {st:PoolT} {d:DepT} {i:Nat} (h:Cc m st d.size d (i:Int)=true):(Ec m st d (i+1)).map (AV.int .i64)=(Ec m st d i).map (AV.int .i64)++[.int .i64 (i:Int)]:=by
 unfold Ec;rw[List.range_succ,List.filter_append,List.map_append,List.map_append];simp[h]
theorem Q8f {m:Int→Int→List UInt8→Int→List UInt8→Bool × Int} {st:PoolT} {d:DepT} {i:Nat} (h:Cc m st d.size d (i:Int)=false):Ec m st d (i+1)=Ec m st d i:=by
 unfold Ec;rw[List.range_succ,List.filter_append,List.map_append];simp[h]
def F7 (m:Int→Int→List UInt8→Int→List UInt8→Bool × Int) (st:PoolT) (d:DepT):List Int × Int:=if Hh d (E7 d.kind)=0 then (Ec m st d st.all.length,0) else ([],Hh d (E7 d.kind))
theorem Y1e (m:Int→Int→List UInt8→Int→List UInt8→Bool × Int) (hM:L5 m) (st:PoolT) (hi:IdxOk st) (d:DepT) (hd:d.size≤4194304) :
  FnV Tryz.prog 50 [(.fp (En st)),(.agg [(.int .i64 d.kind),(.str d.name),(.int .i64 d.op),(.str d.evr),(.row 5 d.args.length (depAt d.args))])] (.tup [Dw (F7 m st d).1,.int .i64 (F7 m st d).2]):=by
 have h200:=hi.1;refine A3 [.tmp 4,.tmp 5] Tryz.func50 rfl Tryz.ntmps50 rfl rfl (fun B F hF=>?_);refine Ad [] [0,3] [(1,3)] hk0 v0 c0 ?_;refine Ab (Ad [] [0,3,6] [] (hk 2 (al:=[(.fp (En st)),(.agg [(.int .i64 d.kind),(.str d.name),(.int .i64 d.op),(.str d.evr),(.row 5 d.args.length (depAt d.args))]),(.fn 102 [] [])]) X8u ((X09 st d (.fn 102 [] []) (E7 d.kind) hd (FunV.of (by exact X8t) (Q9o d.kind))).of_args (ImpL.cons Imp.refl (ImpL.cons Imp.refl (ImpL.cons (Imp.clo rfl) ImpL.nil))))<|hk0) v0 c0 ?_);refine Aa [] [0,3,6,14] ?_;refine Cr (p:=(Hh d (E7 d.kind))=0) (by kernel_rfl) (fun c1=>?_) (fun c1=>?_)
 ·refine Aa [] [4,5] ?_;refine Ae (RK wR [.nils,(.int .i64 (Hh d (E7 d.kind)))] ?_);simp only[Af];rw[show F7 m st d=([],Hh d (E7 d.kind)) from by unfold F7;rw[if_neg (by assumption)]];exact(Imp.tups (ImpL.cons Imp.nil (ImpL.cons Imp.refl ImpL.nil))).same
 ·have hc0:Bw d=0:=by
   by_cases q:Bw d=0
   ·exact q
   ·have hr:Hh d (E7 d.kind)=Bw d:=by unfold Hh;rw[if_neg q]
    omega
  refine Ag (Ad [] [0,7] [] (hk 2 Q4y (Y02 m hM st hi d.size d (Nat.le_refl _) hd)<|hk0) v0 c0 ?_);refine Aa [] [0,7,8] ?_;refine Ab (Aa [] [7,8,22,23] ?_);refine Az (Pu 3 1 8 (y:=⟨[(7,(.clo (B5 m st d.size d))),(8,(.own 1)),(22,(.int .i64 ((st.all.length:Int)))),(23,(.int .i64 0))],[(1,(.grow [] 3 1))],2⟩) (by kernel_rfl) (by kernel_rfl) ?_);refine Bx (fun g y=>∃(i:Nat),i≤st.all.length∧y=⟨[(7,(.clo (B5 m st d.size d))),(8,(.own 1)),(22,(.int .i64 ((st.all.length:Int)))),(23,(.int .i64 ((i:Int))))],[(1,(.grow ((Ec m st d i).map (AV.int .i64)) 3 1))],2⟩∧g=st.all.length-i) [7,8,22,23] 2 _ (by omega) ⟨0,(by omega),(by kernel_rfl),rfl⟩ ?_;rintro g1 y1 ⟨i,f1_1,rfl,rfl⟩;have hwl:=Xn (m:=m) (st:=st) (d:=d) (i:=i);have hwm:((Ec m st d i).map (AV.int .i64)).length=(Ec m st d i).length:=List.length_map _;refine Aa [] [7,8,22,23,24] ?_;refine Ab ?_;refine Ax (p:=(i:Int) < (st.all.length:Int)) (by kernel_rfl) (fun c2=>?_) (fun c2=>?_)
  ·refine Ag (Ab ?_);refine Az (Aa [] [7,8,9,22,23] ?_);refine Ab ?_;refine An (Bm 2 0 [] [7,8,9,22,23,26,27] [] hk0 v0 c0 ?_);refine Gn (s':=[(7,(.clo (B5 m st d.size d))),(8,(.own 1)),(9,(.int .i64 ((i:Int)))),(22,(.int .i64 ((st.all.length:Int)))),(23,(.int .i64 ((i:Int)))),(26,(.clo (B5 m st d.size d))),(27,(.int .i64 ((i:Int)))),(28,(.bool (Cc m st d.size d (i:Int))))]) (a:=(.clo (B5 m st d.size d))) (al:=[(.int .i64 ((i:Int)))]) (r:=(.bool (Cc m st d.size d (i:Int)))) (by kernel_rfl) (by kernel_rfl) (by kernel_rfl) (by kernel_rfl) (by kernel_rfl) ((Y04 m hM st hi (i:Int) d.size d (Nat.le_refl _) hd (Q8c _ _ (Nm hc0))).clo) (by kernel_rfl) ?_;refine Br ?_;refine A5 (q:=Cc m st d.size d (i:Int)) (by kernel_rfl) (fun c3=>?_) (fun c3=>?_)
   ·try simp only[Ai] at c3
    refine An (Av 0 [] [7,8,22,23] [] hk0 v0 (cc 3 (p:=((((Ec m st d i).map (AV.int .i64)).length+1)*8≤140737488355328)) (by omega)<|c0) ?_);refine An (Av 0 [] [7,8,22,23] [] hk0 v0 (cc 0 (p:=(-9223372036854775808≤(i:Int)+1∧(i:Int)+1≤9223372036854775807)) (by omega)<|c0) ?_);refine⟨by kernel_rfl,_,?_,i+1,?_,(Eq.trans (b:=(⟨[(7,(.clo (B5 m st d.size d))),(8,(.own 1)),(22,(.int .i64 ((st.all.length:Int)))),(23,(.int .i64 ((i:Int)+1)))],[(1,(.grow (((Ec m st d i).map (AV.int .i64))++([(.int .i64 ((i:Int)))]:List AV)) 3 1))],2⟩:St)) (by kernel_rfl) (by rw[Q8e (by assumption)]<;>kernel_rfl)),rfl⟩
    ·omega
    ·omega
   ·try simp only[Ai] at c3
    refine Ag ?_;refine An (Av 0 [] [7,8,22,23] [] hk0 v0 (cc 0 (p:=(-9223372036854775808≤(i:Int)+1∧(i:Int)+1≤9223372036854775807)) (by omega)<|c0) ?_);refine⟨by kernel_rfl,_,?_,i+1,?_,(Eq.trans (b:=(⟨[(7,(.clo (B5 m st d.size d))),(8,(.own 1)),(22,(.int .i64 ((st.all.length:Int)))),(23,(.int .i64 ((i:Int)+1)))],[(1,(.grow ((Ec m st d i).map (AV.int .i64)) 3 1))],2⟩:St)) (by kernel_rfl) (by rw[Q8f (by assumption)]<;>kernel_rfl)),rfl⟩
    ·omega
    ·omega
  ·refine Bp (Aa [] [4,5] ?_);refine Ae (RK wR [(.row 1 ((Ec m st d i).map (AV.int .i64)).length (fun ix=>((Ec m st d i).map (AV.int .i64)).getD ix Bn)),(.int .i64 0)] ?_);rw[show i=st.all.length from by omega];simp only[Af];rw[show F7 m st d=(Ec m st d st.all.length,0) from by unfold F7;rw[if_pos (by omega)]];exact(Imp.tups (ImpL.cons (Imp.list (f:=AV.int .i64) (List.length_map _)) (ImpL.cons Imp.refl ImpL.nil))).same
end Sv
end
section
open Go Go.RowKit
namespace Sv
attribute [local irreducible] SW SO Bk
set_option maxHeartbeats 1000000
set_option maxRecDepth 100000
theorem Vv:Ak Tryz.prog 213:=Ao Tryz.func213 (by kernel_rfl) rfl
theorem Vx:Ak Tryz.prog 203:=Ao Tryz.func203 (by kernel_rfl) rfl
theorem Q38:Ak Tryz.prog 219:=Ao Tryz.func219 (by kernel_rfl) rfl
theorem Sg:Ak Tryz.prog 153:=Ao Tryz.func153 (by kernel_rfl) rfl
theorem Q4b:Ak Tryz.prog 214:=Ao Tryz.func214 (by kernel_rfl) rfl
theorem Vy:Ak Tryz.prog 202:=Ao Tryz.func202 (by kernel_rfl) rfl
theorem Q4i:Ak Tryz.prog 204:=Ao Tryz.func204 (by kernel_rfl) rfl
def Cv (a b:Int):Int:=if a < b then -1 else if b < a then 1 else 0
def orI (a b:Int):Int:=if a=0 then b else a
def Cq (a b:List UInt8):Int:=orI (Cv ((Lib.trimLeftB a 48).length:Int) ((Lib.trimLeftB b 48).length:Int)) (Lib.compareBytes (Lib.trimLeftB a 48) (Lib.trimLeftB b 48))
theorem P5 {s:List UInt8} (h:Bu s≠0):1≤s.length:=by
 cases s with
 |nil=>exact absurd (by unfold Bu;rw[if_pos (.inl rfl)]) h
 |cons a r=>simp
theorem Mc {s:List UInt8} (h:Bu s=0):s.length=0∨1≤Am Al s:=by
 cases s with
 |nil=>exact .inl rfl
 |cons a r =>
  right;unfold Bu at h
  have hb:Ac (a::r) 0=a:=by simp[Ac]
  rw[hb] at h;by_cases hd:Al a=true
  ·unfold Am;rw[List.takeWhile_cons,hd];simp
  ·rw[if_neg (by simp[hd])] at h;split at h
   ·omega
   ·split at h
    ·rename_i hl
     have:a.toNat=0:=by omega
     unfold B1 at hl;rw[this] at hl;simp at hl
    ·omega
theorem Q41 {s:List UInt8} {i:Nat} (h:¬s.drop i=[]):1≤s.length-i:=by
 have:=List.length_pos_iff.2 h;rw[List.length_drop] at this;exact this
def Dl:Nat→List UInt8→List UInt8→Int
 |0,_,_=>0
 |n+1,a,b =>
  if Bu a≠0∨Bu b≠0 then (if Bu a≠Bu b then Cv (Bu a) (Bu b) else Dl n (a.drop 1) (b.drop 1))
  else if Cq (a.take (Am Al a)) (b.take (Am Al b))≠0 then Cq (a.take (Am Al a)) (b.take (Am Al b))
  else if a.drop (Am Al a)≠[]∨b.drop (Am Al b)≠[] then Dl n (a.drop (Am Al a)) (b.drop (Am Al b)) else 0
theorem Q12 (x:Int) :
  FnV Tryz.prog 219 [(.int .i64 x)] (.bool false):=by
 refine A3 [.tmp 2] Tryz.func219 rfl Tryz.ntmps219 rfl rfl (fun B F hF=>?_);refine Aa [] [0] ?_;refine Aa [] [2] ?_;refine Ae (RK wR [(.bool (!decide (x=x)))] ?_);exact Same.of_eq (by simp only[Af];simp)
theorem Wc (x y:Int) :
  FnV Tryz.prog 213 [(.int .i64 x),(.int .i64 y)] (.int .i64 (Cv x y)):=by
 refine A3 [.tmp 4] Tryz.func213 rfl Tryz.ntmps213 rfl rfl (fun B F hF=>?_);refine Aa [] [0,1] ?_;refine Ad [] [0,1,5] [] (hk 1 Q38 (Q12 x)<|hk0) v0 c0 ?_;refine Ad [] [0,1,5,6] [] (hk 1 Q38 (Q12 y)<|hk0) v0 c0 ?_;refine Ab (Aa [] [0,1,6,11] ?_);refine Du (by kernel_rfl) ?_;refine Ag ?_;refine Ab (Aa [] [0,1,13] ?_);refine Du (by kernel_rfl) ?_;refine Ag ?_;refine Ab (Aa [] [0,1,16] ?_);refine Ax (p:=x < y) (by kernel_rfl) (fun c1=>?_) (fun c1=>?_)
 ·refine Aa [] [4] ?_;refine Ae (RK wR [(.int .i64 (-1))] ?_);exact Same.of_eq (by simp only[Af];unfold Cv;rw[if_pos (by assumption)])
 ·refine Ag ?_;refine Ab (Aa [] [19] ?_);refine Ax (p:=y < x) (by kernel_rfl) (fun c2=>?_) (fun c2=>?_)
  ·refine Aa [] [4] ?_;refine Ae (RK wR [(.int .i64 1)] ?_);exact Same.of_eq (by simp only[Af];unfold Cv;rw[if_neg (by assumption),if_pos (by assumption)])
  ·refine Ag (Aa [] [4] ?_);refine Ae (RK wR [(.int .i64 0)] ?_);exact Same.of_eq (by simp only[Af];unfold Cv;rw[if_neg (by assumption),if_neg (by assumption)])
theorem Uj (x y:Int) :
  FnV Tryz.prog 203 [(Dw [x,y])] (.int .i64 (orI x y)):=by
 refine A3 [.tmp 2] Tryz.func203 rfl Tryz.ntmps203 rfl rfl (fun B F hF=>?_);refine Aa [] [0] ?_;refine Aa [] [0,3] ?_;refine Ab (Aa [] [3,6,7,8] ?_);refine Az (S2 3 ?_);refine F4 (Aa [] [3,6,7,8,9] ?_);refine Ab (Hx (by kernel_rfl) ?_);refine Ag (Ab ?_);refine Az (Ad [] [3,5,6,7,8] [] hk0 v0 (cc 0 (p:=(0≤(0:Int)∧0 < 2)) (by omega)<|c0) ?_);refine Aa [] [3,5,6,7,8,14] ?_;refine Cr (p:=x=0) (by kernel_rfl) (fun c1=>?_) (fun c1=>?_)
 ·refine Aa [] [2] ?_;refine Ae (RK wR [(.int .i64 x)] ?_);exact Same.of_eq (by simp only[Af];unfold orI;rw[if_neg (by assumption)])
 ·refine Ag ?_;refine An (Av 0 [] [3,6,7,8] [] hk0 v0 (cc 0 (p:=(-9223372036854775808≤(1:Int)∧(1:Int)≤9223372036854775807)) (by omega)<|c0) ?_);refine F4 (Aa [] [3,6,7,8,9] ?_);refine Ab (Hx (by kernel_rfl) ?_);refine Ag (Ab ?_);refine Az (Ad [] [3,5,6,7,8] [] hk0 v0 (cc 0 (p:=(0≤(1:Int)∧1 < 2)) (by omega)<|c0) ?_);refine Aa [] [3,5,6,7,8,14] ?_;refine Cr (p:=y=0) (by kernel_rfl) (fun c2=>?_) (fun c2=>?_)
  ·refine Aa [] [2] ?_;refine Ae (RK wR [(.int .i64 y)] ?_);exact Same.of_eq (by simp only[Af];unfold orI;rw[if_pos (by simp_all)]<;>rfl)
  ·refine Ag ?_;refine An (Av 0 [] [3,6,7,8] [] hk0 v0 (cc 0 (p:=(-9223372036854775808≤(2:Int)∧(2:Int)≤9223372036854775807)) (by omega)<|c0) ?_);refine F4 (Aa [] [3,6,7,8,9] ?_);refine Ab (Du (by kernel_rfl) ?_);refine Bp (Aa [] [2] ?_);refine Ae (RK wR [(.int .i64 0)] ?_);exact Same.of_eq (by simp only[Af];unfold orI;rw[if_pos (by simp_all)]<;>simp_all)
theorem Up (a b:List UInt8) :
  FnV Tryz.prog 202 [(.str a),(.str b)] (.int .i64 (Cq a b)):=by
 refine A3 [.tmp 4] Tryz.func202 rfl Tryz.ntmps202 rfl rfl (fun B F hF=>?_);refine Aa [] [0,1] ?_;refine Ad [] [0,1] [] (hk 1 Sg (Ww a 48 (by decide))<|hk 3 Sg (Ww b 48 (by decide))<|hk0) v0 c0 ?_;refine Ad [] [4] [(9,17)] (hk 4 Vv (Wc ((Lib.trimLeftB a 48).length:Int) ((Lib.trimLeftB b 48).length:Int))<|hk 7 Q4b (Q7n (Lib.trimLeftB a 48) (Lib.trimLeftB b 48))<|hk 9 Vx (Uj (Cv ((Lib.trimLeftB a 48).length:Int) ((Lib.trimLeftB b 48).length:Int)) (Lib.compareBytes (Lib.trimLeftB a 48) (Lib.trimLeftB b 48)))<|hk0) (vk 9 17 (b:=(Dw [Cv ((Lib.trimLeftB a 48).length:Int) ((Lib.trimLeftB b 48).length:Int),Lib.compareBytes (Lib.trimLeftB a 48) (Lib.trimLeftB b 48)])) (Imp.list (f:=AV.int .i64) rfl)<|v0) c0 ?_;refine Ae (RK wR [(.int .i64 (Cq a b))] ?_);exact Same.of_eq (by first|rfl|(simp only[Af];simp_all))
theorem X9j (n:Nat) (a0 b0:List UInt8) (h0:a0.length+b0.length < n) (ha:a0.length≤4194304) (hb:b0.length≤4194304) :
  FnV Tryz.prog 204 [(.str a0),(.str b0)] (.int .i64 (Dl n a0 b0)):=by
 refine A3 [.tmp 4] Tryz.func204 rfl Tryz.ntmps204 rfl rfl (fun B F hF=>?_);refine Aa [] [0,1] ?_;refine S1 0 rfl (fun g y=>∃(k:Nat) (a:List UInt8) (b:List UInt8),a.length+b.length < k∧a.length≤4194304∧b.length≤4194304∧Dl n a0 b0=Dl k a b∧y=⟨[(0,(.str a)),(1,(.str b))],[],0⟩∧g=k) [0,1] 0 (by omega) (fun hJ0=>?_) ?_
 ·refine Ab (S3 ?_);refine Pv (y:=⟨[(0,(.str a0)),(1,(.str b0))],[],0⟩) [0,1] 0 (by omega) (by kernel_rfl) (hJ0 _ _ ⟨n,a0,b0,(by omega),(by omega),(by omega),(by rfl),(by kernel_rfl),rfl⟩)
 ·rintro g y ⟨k,a,b,fl0_1,fl0_2,fl0_3,fl0_4,rfl,rfl⟩;have hca:=Fz Al a;have hcb:=Fz Al b;refine Ab (Ad [] [0,1,5,6] [] (hk 1 Q4a (Xo a)<|hk 3 Q4a (Xo b)<|hk0) v0 c0 ?_)
  obtain⟨b1,hb1⟩:∃b,b=(!decide ((Bu a)=0)):=⟨_,rfl⟩
  refine Ad (CS:=[(4,((!b1)=true→(!b1)=true)),(5,(b1=false→(!b1)=true))]) [17,18] [0,1,5,6,19] [] hk0 (vk 3 16 (a:=.bool (!decide ((Bu a)=0))) (b:=.bool b1) (Imp.of_eq (by rw[hb1]))<|v0) (by refine cc _ ?_<|cc _ ?_ c0<;>simp) ?_;refine A5 (q:=b1||(!decide ((Bu b)=0))) (by kernel_rfl) (fun c1=>?_) (fun c1=>?_)
  ·subst hb1
   try simp only[Ai] at c1
   refine Ab (Aa [] [0,1,5,6,22] ?_);refine Cr (p:=(Bu a)=(Bu b)) (by kernel_rfl) (fun c2=>?_) (fun c2=>?_)
   ·refine Ad [] [4] [] (hk 2 Vv (Wc (Bu a) (Bu b))<|hk0) v0 c0 ?_;refine Ae (RK wR [(.int .i64 (Cv (Bu a) (Bu b)))] ?_);refine Same.of_eq ?_;simp only[Af];rw[fl0_4]
    obtain⟨k,rfl⟩:∃q,g=q+1:=⟨g-1,by omega⟩
    try simp only[List.take_length,List.drop_zero] at *
    unfold Dl;rw[if_pos (by assumption),if_pos (by assumption)]
   ·have hpa:=P5 (s:=a) (by omega);have hpb:=P5 (s:=b) (by omega);refine Ag (Co (CS:=[(1,(0≤(1:Int)∧(1:Int)≤(a.length:Int)∧(a.length:Int)≤(a.length:Int))),(3,(0≤(1:Int)∧(1:Int)≤(b.length:Int)∧(b.length:Int)≤(b.length:Int)))]) [] [0,1] [] hk0 v0 (by refine cc _ ?_<|cc _ ?_ c0<;>omega) ?_);have hza:=fun h=>Mc (s:=a) h;have hzb:=fun h=>Mc (s:=b) h;refine K1 ⟨rfl,_,(by kernel_rfl:gcS _ _ _=some ⟨[(0,(.str ((a.take a.length).drop 1))),(1,(.str ((b.take b.length).drop 1)))],[],0⟩),_,?_,g-1,((a.take a.length).drop 1),((b.take b.length).drop 1),?_,?_,?_,?_,(by kernel_rfl),rfl⟩
    all_goals (obtain⟨k,rfl⟩:∃q,g=q+1:=⟨g-1,by omega⟩)
    all_goals try simp only[List.take_length,List.drop_zero,List.length_drop] at *
    all_goals have hdec:a.length=0→b.length=0→False:=fun e1 e2=>by first|omega|(rcases c4 with h|h<;>have:=Q41 h<;>omega)
    ·first|omega|(have h1:=hza (by omega);have h2:=hzb (by omega);have h3:¬(a.length=0∧b.length=0):=fun e=>hdec e.1 e.2;omega)
    ·first|omega|(have h1:=hza (by omega);have h2:=hzb (by omega);have h3:¬(a.length=0∧b.length=0):=fun e=>hdec e.1 e.2;omega)
    ·omega
    ·omega
    ·rw[fl0_4]
     conv=>lhs;unfold Dl
     first|(rw[if_pos (by assumption),if_neg (by omega)];rfl)|(rw[if_neg (by omega),if_neg (by omega),if_pos (by simp_all)];rfl)
  ·subst hb1
   try simp only[Ai] at c1
   refine Ag (Ad [] [0,1,7,8] [] (hk 1 (al:=[(.str a),(.fn 127 [] [])]) H8 ((I6 a (.fn 127 [] []) Al (by omega) (fun c=>FunV.of (by exact I1) (J0 c))).of_args (ImpL.cons Imp.refl (ImpL.cons (Imp.clo rfl) ImpL.nil)))<|hk 3 (al:=[(.str b),(.fn 127 [] [])]) H8 ((I6 b (.fn 127 [] []) Al (by omega) (fun c=>FunV.of (by exact I1) (J0 c))).of_args (ImpL.cons Imp.refl (ImpL.cons (Imp.clo rfl) ImpL.nil)))<|hk0) v0 c0 ?_);refine Ab (Co (CS:=[(2,(0≤(0:Int)∧(0:Int)≤(Am Al a:Int)∧(Am Al a:Int)≤(a.length:Int))),(5,(0≤(0:Int)∧(0:Int)≤(Am Al b:Int)∧(Am Al b:Int)≤(b.length:Int)))]) [] [0,1,7,8,9] [] (hk 6 Vy (Up ((a.take (Am Al a)).drop 0) ((b.take (Am Al b)).drop 0))<|hk0) v0 (by refine cc _ ?_<|cc _ ?_ c0<;>omega) ?_);refine Aa [] [0,1,7,8,9,42] ?_;refine Cr (p:=(Cq ((a.take (Am Al a)).drop 0) ((b.take (Am Al b)).drop 0))=0) (by kernel_rfl) (fun c3=>?_) (fun c3=>?_)
   ·refine Aa [] [4] ?_;refine Ae (RK wR [(.int .i64 (Cq ((a.take (Am Al a)).drop 0) ((b.take (Am Al b)).drop 0)))] ?_);refine Same.of_eq ?_;simp only[Af];rw[fl0_4]
    obtain⟨k,rfl⟩:∃q,g=q+1:=⟨g-1,by omega⟩
    try simp only[List.take_length,List.drop_zero] at *
    unfold Dl;rw[if_neg (by omega),if_pos (by assumption)]
   ·refine Ag ?_;refine Ab (Co (CS:=[(2,(0≤(Am Al a:Int)∧(Am Al a:Int)≤(a.length:Int)∧(a.length:Int)≤(a.length:Int))),(5,(0≤(Am Al b:Int)∧(Am Al b:Int)≤(b.length:Int)∧(b.length:Int)≤(b.length:Int)))]) [] [0,1] [] hk0 v0 (by refine cc _ ?_<|cc _ ?_ c0<;>omega) ?_)
    obtain⟨b2,hb2⟩:∃b,b=(!decide ((a.take a.length).drop (Am Al a)=[])):=⟨_,rfl⟩
    refine Ad (CS:=[(4,((!b2)=true→(!b2)=true)),(5,(b2=false→(!b2)=true))]) [53,54] [0,1,55] [] hk0 (vk 3 52 (a:=.bool (!decide ((a.take a.length).drop (Am Al a)=[]))) (b:=.bool b2) (Imp.of_eq (by rw[hb2]))<|v0) (by refine cc _ ?_<|cc _ ?_ c0<;>simp) ?_;refine A5 (q:=b2||(!decide ((b.take b.length).drop (Am Al b)=[]))) (by kernel_rfl) (fun c4=>?_) (fun c4=>?_)
    ·subst hb2
     try simp only[Ai] at c4
     have hza:=fun h=>Mc (s:=a) h;have hzb:=fun h=>Mc (s:=b) h;refine K1 ⟨rfl,_,(by kernel_rfl:gcS _ _ _=some ⟨[(0,(.str ((a.take a.length).drop (Am Al a)))),(1,(.str ((b.take b.length).drop (Am Al b))))],[],0⟩),_,?_,g-1,((a.take a.length).drop (Am Al a)),((b.take b.length).drop (Am Al b)),?_,?_,?_,?_,(by kernel_rfl),rfl⟩
     all_goals (obtain⟨k,rfl⟩:∃q,g=q+1:=⟨g-1,by omega⟩)
     all_goals try simp only[List.take_length,List.drop_zero,List.length_drop] at *
     all_goals have hdec:a.length=0→b.length=0→False:=fun e1 e2=>by first|omega|(rcases c4 with h|h<;>have:=Q41 h<;>omega)
     ·first|omega|(have h1:=hza (by omega);have h2:=hzb (by omega);have h3:¬(a.length=0∧b.length=0):=fun e=>hdec e.1 e.2;omega)
     ·first|omega|(have h1:=hza (by omega);have h2:=hzb (by omega);have h3:¬(a.length=0∧b.length=0):=fun e=>hdec e.1 e.2;omega)
     ·omega
     ·omega
     ·rw[fl0_4]
      conv=>lhs;unfold Dl
      first|(rw[if_pos (by assumption),if_neg (by omega)];rfl)|(rw[if_neg (by omega),if_neg (by omega),if_pos (by simp_all)];rfl)
    ·subst hb2
     try simp only[Ai] at c4
     refine Ag (Aa [] [4] ?_);refine Ae (RK wR [(.int .i64 0)] ?_);refine Same.of_eq ?_;simp only[Af];rw[fl0_4]
     obtain⟨k,rfl⟩:∃q,g=q+1:=⟨g-1,by omega⟩
     try simp only[List.take_length,List.drop_zero] at *
     unfold Dl;rw[if_neg (by omega),if_neg (by omega),if_neg (by simp_all)]
end Sv
end
section
open Go Go.RowKit
namespace Sv
attribute [local irreducible] SW SO Bk
set_option maxHeartbeats 1000000
set_option maxRecDepth 100000
theorem Q4h:Ak Tryz.prog 205:=Ao Tryz.func205 (by kernel_rfl) rfl
theorem X7n:Ak Tryz.prog 195:=Ao Tryz.func195 (by kernel_rfl) rfl
def orS (x y:List UInt8):List UInt8:=if x=[] then y else x
def A4 (k:Int) (a b:List UInt8):(List UInt8 × List UInt8 × List UInt8) × (List UInt8 × List UInt8 × List UInt8) × Int :=
 if k≠1∧k≠2 then (([],[],[]),([],[],[]),1) else if B6 a=0 then (Cj a,Cj b,B6 b) else (Cj a,([],[],[]),B6 a)
theorem Q0q (x y:List UInt8) :
  FnV Tryz.prog 205 [(B3 [x,y])] (.str (orS x y)):=by
 refine A3 [.tmp 2] Tryz.func205 rfl Tryz.ntmps205 rfl rfl (fun B F hF=>?_);refine Aa [] [0] ?_;refine Aa [] [0,3] ?_;refine Ab (Aa [] [3,6,7,8] ?_);refine Az (S2 3 ?_);refine F4 (Aa [] [3,6,7,8,9] ?_);refine Ab (Hx (by kernel_rfl) ?_);refine Ag (Ab ?_);refine Az (Ad [] [3,5,6,7,8] [] hk0 v0 (cc 0 (p:=(0≤(0:Int)∧0 < 2)) (by omega)<|c0) ?_);refine Aa [] [3,5,6,7,8,14] ?_;refine Cr (p:=x=[]) (by kernel_rfl) (fun c1=>?_) (fun c1=>?_)
 ·refine Aa [] [2] ?_;refine Ae (RK wR [(.str x)] ?_);exact Same.of_eq (by simp only[Af];unfold orS;rw[if_neg (by assumption)])
 ·refine Ag ?_;refine An (Av 0 [] [3,6,7,8] [] hk0 v0 (cc 0 (p:=(-9223372036854775808≤(1:Int)∧(1:Int)≤9223372036854775807)) (by omega)<|c0) ?_);refine F4 (Aa [] [3,6,7,8,9] ?_);refine Ab (Hx (by kernel_rfl) ?_);refine Ag (Ab ?_);refine Az (Ad [] [3,5,6,7,8] [] hk0 v0 (cc 0 (p:=(0≤(1:Int)∧1 < 2)) (by omega)<|c0) ?_);refine Aa [] [3,5,6,7,8,14] ?_;refine Cr (p:=y=[]) (by kernel_rfl) (fun c2=>?_) (fun c2=>?_)
  ·refine Aa [] [2] ?_;refine Ae (RK wR [(.str y)] ?_);exact Same.of_eq (by simp only[Af];unfold orS;rw[if_pos (by simp_all)]<;>rfl)
  ·refine Ag ?_;refine An (Av 0 [] [3,6,7,8] [] hk0 v0 (cc 0 (p:=(-9223372036854775808≤(2:Int)∧(2:Int)≤9223372036854775807)) (by omega)<|c0) ?_);refine F4 (Aa [] [3,6,7,8,9] ?_);refine Ab (Du (by kernel_rfl) ?_);refine Bp (Aa [] [2] ?_);refine Ae (RK wR [(.str [])] ?_);exact Same.of_eq (by simp only[Af];unfold orS;rw[if_pos (by simp_all)]<;>simp_all)
theorem X95 (kind:Int) (a b:List UInt8) (ha:a.length≤4194304) (hb:b.length≤4194304) :
  FnV Tryz.prog 195 [(.int .i64 kind),(.str a),(.str b)] (.tup [(.agg [.str (A4 kind a b).1.1,.str (A4 kind a b).1.2.1,.str (A4 kind a b).1.2.2]),(.agg [.str (A4 kind a b).2.1.1,.str (A4 kind a b).2.1.2.1,.str (A4 kind a b).2.1.2.2]),.int .i64 (A4 kind a b).2.2]):=by
 refine A3 [.cell 6 127,.cell 7 127,.tmp 8] Tryz.func195 rfl Tryz.ntmps195 rfl rfl (fun B F hF=>?_);refine Aa [] [0,1,2,6,7] ?_;refine Ab ?_
 obtain⟨b1,hb1⟩:∃b,b=(!decide (kind=1)):=⟨_,rfl⟩
 refine Ad (CS:=[(4,(b1=true→b1=true)),(5,(b1=true→b1=true))]) [12,13] [1,2,6,7,14] [] hk0 (vk 3 11 (a:=.bool (!decide (kind=1))) (b:=.bool b1) (Imp.of_eq (by rw[hb1]))<|v0) (by refine cc _ ?_<|cc _ ?_ c0<;>simp) ?_;refine A5 (q:=b1&&(!decide (kind=2))) (by kernel_rfl) (fun c1=>?_) (fun c1=>?_)
 ·subst hb1
  try simp only[Ai] at c1
  refine Co [] [6,7,8] [] hk0 v0 c0 ?_;refine Ae (RK wR [(.agg [(.str []),(.str []),(.str [])]),(.agg [(.str []),(.str []),(.str [])]),(.int .i64 1)] ?_);exact Same.of_eq (by simp only[Af];unfold A4;first|(rw[if_pos (by omega)];done)|(rw[if_neg (by omega),if_pos (by omega)];done)|(rw[if_neg (by omega),if_neg (by omega)];done))
 ·subst hb1
  try simp only[Ai] at c1
  refine Ag ?_;refine Ab (Ad [] [2,6,7,8] [] (hk 1 O9 (R8 a (by omega))<|hk0) v0 c0 ?_);refine Aa [] [2,6,7,8,23] ?_;refine Ax (p:=(B6 a)=0) (by kernel_rfl) (fun c2=>?_) (fun c2=>?_)
  ·refine An (Av 0 [] [6,7,8] [] (hk 1 O9 (R8 b (by omega))<|hk0) v0 c0 ?_);refine Co [] [6,7,8] [] hk0 v0 c0 ?_;refine Ae (RK wR [(.agg [(.str ((Cj a).1)),(.str ((Cj a).2.1)),(.str ((Cj a).2.2))]),(.agg [(.str ((Cj b).1)),(.str ((Cj b).2.1)),(.str ((Cj b).2.2))]),(.int .i64 (B6 b))] ?_);exact Same.of_eq (by simp only[Af];unfold A4;first|(rw[if_pos (by omega)];done)|(rw[if_neg (by omega),if_pos (by omega)];done)|(rw[if_neg (by omega),if_neg (by omega)];done))
  ·refine Ag (Co [] [6,7,8] [] hk0 v0 c0 ?_);refine Ae (RK wR [(.agg [(.str ((Cj a).1)),(.str ((Cj a).2.1)),(.str ((Cj a).2.2))]),(.agg [(.str []),(.str []),(.str [])]),(.int .i64 (B6 a))] ?_);exact Same.of_eq (by simp only[Af];unfold A4;first|(rw[if_pos (by omega)];done)|(rw[if_neg (by omega),if_pos (by omega)];done)|(rw[if_neg (by omega),if_neg (by omega)];done))
end Sv
end
section
open Go Go.RowKit
namespace Sv
attribute [local irreducible] SW SO Bk
set_option maxHeartbeats 400000
set_option maxRecDepth 100000
theorem Q4g:Ak Tryz.prog 206:=Ao Tryz.func206 (by kernel_rfl) rfl
theorem Q39:Ak Tryz.prog 216:=Ao Tryz.func216 (by kernel_rfl) rfl
theorem X7k:Ak Tryz.prog 217:=Ao Tryz.func217 (by kernel_rfl) rfl
theorem X7j:Ak Tryz.prog 218:=Ao Tryz.func218 (by kernel_rfl) rfl
def Fh (c:UInt8):Bool:=Al c||(B1 c||(decide (c.toNat=126)||decide (c.toNat=94)))
theorem X34 (c:UInt8) :
  FnV Tryz.prog 217 [(.int .u8 ((c.toNat:Int)))] (.bool (Fh c)):=by
 refine A3 [.tmp 2] Tryz.func217 rfl Tryz.ntmps217 rfl rfl (fun B F hF=>?_);refine Aa [] [0] ?_
 obtain⟨b1,hb1⟩:∃b,b=((Al c)||(B1 c)):=⟨_,rfl⟩
 obtain⟨b2,hb2⟩:∃b,b=(b1||(decide ((c.toNat:Int)=126))):=⟨_,rfl⟩
 refine Ad (CS:=[(4,(!(Al c))=true→(!(Al c))=true),(5,((Al c)=false→(!(Al c))=true)),(8,((!b1)=true→(!b1)=true)),(9,(b1=false→(!b1)=true)),(12,((!b2)=true→(!b2)=true)),(13,(b2=false→(!b2)=true))]) [6,10,11,14,15] [2] [] (hk 1 I1 (J0 c)<|hkg 4 (!(Al c)) Nj (fun cg=>Oo c)<|hk0) (vk 7 9 (a:=.bool ((Al c)||(B1 c))) (b:=.bool b1) (Imp.of_eq (by rw[hb1]))<|vk 11 13 (a:=.bool (b1||(decide ((c.toNat:Int)=126)))) (b:=.bool b2) (Imp.of_eq (by rw[hb2]))<|v0) (by refine cc _ ?_<|cc _ ?_<|cc _ ?_<|cc _ ?_<|cc _ ?_<|cc _ ?_ c0<;>simp) ?_;refine Ae (RK wR [(.bool (b2||(decide ((c.toNat:Int)=94))))] ?_);subst hb2 hb1;refine Same.of_eq ?_;simp only[Af];congr 1;unfold Fh;rw[Bool.eq_iff_iff]
 have e1:((c.toNat:Int)=126)↔c.toNat=126:=by omega
 have e2:((c.toNat:Int)=94)↔c.toNat=94:=by omega
 simp only[Bool.and_eq_true,Bool.or_eq_true,decide_eq_true_eq,e1,e2,or_assoc]
theorem X2x (c:UInt8) (a:AV) (q:Bool) (ha:FunV Tryz.prog a [.int .u8 (c.toNat:Int)] (.bool q)) :
  FnV Tryz.prog 218 [(.int .u8 ((c.toNat:Int))),(.fp (.agg [(.clo a)]))] (.bool (!q)):=by
 refine A3 [.tmp 3] Tryz.func218 rfl Tryz.ntmps218 rfl rfl (fun B F hF=>?_);refine Aa [] [0,1] ?_;refine Ab ?_;refine An (Bm 2 0 [] [4,5] [] hk0 v0 c0 ?_);refine Gn (s':=[(4,(.clo a)),(5,(.int .u8 ((c.toNat:Int)))),(6,(.bool q))]) (a:=(.clo a)) (al:=[(.int .u8 ((c.toNat:Int)))]) (r:=(.bool q)) (by kernel_rfl) (by kernel_rfl) (by kernel_rfl) (by kernel_rfl) (by kernel_rfl) ha.clo (by kernel_rfl) ?_;refine Av 3 [] [3] [] hk0 v0 c0 ?_;refine Ae (RK wR [(.bool (!q))] ?_);exact Same.of_eq (by first|rfl|(simp only[Af];simp_all))
theorem Y0g (a b:List UInt8) (ha:a.length≤4194304) (hb:b.length≤4194304) :
  FnV Tryz.prog 216 [(.int .u8 126),(.fp (.agg [(.str a)])),(.fp (.agg [(.str b)]))] (.tup [.bool (A2 a 126),.bool (A2 b 126)]):=by
 refine A3 [.tmp 4,.tmp 5] Tryz.func216 rfl Tryz.ntmps216 rfl rfl (fun B F hF=>?_);refine Aa [] [0,1,2] ?_;refine Co [] [4,5] [] (hk 3 Kq (L6 a 126 (by omega))<|hk 7 Kq (L6 b 126 (by omega))<|hk0) v0 c0 ?_;refine Ae (RK wR [(.bool (A2 a 126)),(.bool (A2 b 126))] ?_);exact Same.of_eq (by first|rfl|(simp only[Af];simp_all))
theorem Y0f (a b:List UInt8) (ha:a.length≤4194304) (hb:b.length≤4194304) :
  FnV Tryz.prog 216 [(.int .u8 94),(.fp (.agg [(.str a)])),(.fp (.agg [(.str b)]))] (.tup [.bool (A2 a 94),.bool (A2 b 94)]):=by
 refine A3 [.tmp 4,.tmp 5] Tryz.func216 rfl Tryz.ntmps216 rfl rfl (fun B F hF=>?_);refine Aa [] [0,1,2] ?_;refine Co [] [4,5] [] (hk 3 Kq (L6 a 94 (by omega))<|hk 7 Kq (L6 b 94 (by omega))<|hk0) v0 c0 ?_;refine Ae (RK wR [(.bool (A2 a 94)),(.bool (A2 b 94))] ?_);exact Same.of_eq (by first|rfl|(simp only[Af];simp_all))
end Sv
end
section
open Go Go.RowKit
namespace Sv
attribute [local irreducible] SW SO Bk
set_option maxHeartbeats 2000000
set_option maxRecDepth 100000
def Ct (c:UInt8):Bool:=!Fh c
theorem Q00 (c:UInt8):FunV Tryz.prog (.fn 218 [] [.fp (.agg [.fn 217 [] []])]) [.int .u8 (c.toNat:Int)] (.bool (Ct c)) :=
 FunV.of (by exact X7j) ((X2x c (.fn 217 [] []) (Fh c) (FunV.of (by exact X7k) (X34 c))).of_args (ImpL.cons Imp.refl (ImpL.cons (Imp.fp (Imp.aggs (ImpL.cons (Imp.clo rfl) ImpL.nil))) ImpL.nil)))
theorem Lp {s:List UInt8} {k:UInt8} (h:A2 s k=true):1≤s.length:=by
 cases s with
 |nil=>simp[A2] at h
 |cons a r=>simp
theorem Q48 (p:UInt8→Bool):∀s:List UInt8,s.drop (Am p s)=[]∨p (Ac (s.drop (Am p s)) 0)=false
 |[] => .inl rfl
 |a::r=>by
  unfold Am;rw[List.takeWhile_cons]
  cases h:p a with
  |true=>exact Q48 p r
  |false=>right;simpa [Ac] using h
theorem Rh {s r:List UInt8} (h:r=s.drop (Am Ct s)):r=[]∨Fh (Ac r 0)=true:=by
 rcases Q48 Ct s with q|q
 ·exact .inl (h.trans q)
 ·right;rw[h];have e:(!Fh (Ac (s.drop (Am Ct s)) 0))=false:=q;simpa using e
theorem Pf {p:UInt8→Bool} {s:List UInt8} (h:1≤s.length) (k:p (Ac s 0)=true):1≤Am p s:=by
 cases s with
 |nil=>simp at h
 |cons a r=>unfold Am;rw[List.takeWhile_cons,show p a=true from by simpa [Ac] using k];simp
theorem Q1g {s:List UInt8} (h:Fh (Ac s 0)=true) (hs:1≤s.length) (h1:A2 s 126=false) (h2:A2 s 94=false) (h3:Al (Ac s 0)=false):B1 (Ac s 0)=true:=by
 cases s with
 |nil=>simp at hs
 |cons a r =>
  have e:Ac (a::r) 0=a:=by simp[Ac]
  rw[e] at h h3 ⊢;unfold Fh at h;rw[h3] at h
  have a1:¬a.toNat=126:=fun q=>by have:a=126:=UInt8.toNat_inj.1 q;subst this;simp[A2] at h1
  have a2:¬a.toNat=94:=fun q=>by have:a=94:=UInt8.toNat_inj.1 q;subst this;simp[A2] at h2
  simpa [a1,a2] using h
def Dg (r:List UInt8→List UInt8→Int) (a b:List UInt8):Int :=
 if A2 a 126=true∨A2 b 126=true then
  if A2 a 126=true∧A2 b 126=true then r (a.drop 1) (b.drop 1) else Ff (A2 a 126) (A2 b 126) (-1)
 else if A2 a 94=true∨A2 b 94=true then
  if A2 a 94=true∧A2 b 94=true then r (a.drop 1) (b.drop 1)
  else if a=[]∨b=[] then Ff (A2 a 94) (A2 b 94) 1 else Ff (A2 a 94) (A2 b 94) (-1)
 else if a=[]∨b=[] then Cv (a.length:Int) (b.length:Int)
 else if Al (Ac a 0)=true then
  if Am Al b=0 then 1
  else if ¬Cq (a.take (Am Al a)) (b.take (Am Al b))=0 then Cq (a.take (Am Al a)) (b.take (Am Al b))
  else r (a.drop (Am Al a)) (b.drop (Am Al b))
 else if Am B1 b=0 then -1
 else if ¬Lib.compareBytes (a.take (Am B1 a)) (b.take (Am B1 b))=0 then Lib.compareBytes (a.take (Am B1 a)) (b.take (Am B1 b))
 else r (a.drop (Am B1 a)) (b.drop (Am B1 b))
def Fd:Nat→List UInt8→List UInt8→Int
 |0,_,_=>0
 |n+1,a,b=>Dg (Fd n) (a.drop (Am Ct a)) (b.drop (Am Ct b))
theorem X0i (n:Nat) (a0 b0:List UInt8) (h0:a0.length+b0.length < n) (ha:a0.length≤4194304) (hb:b0.length≤4194304) :
  FnV Tryz.prog 206 [(.str a0),(.str b0)] (.int .i64 (Fd n a0 b0)):=by
 refine A3 [.tmp 4] Tryz.func206 rfl Tryz.ntmps206 rfl rfl (fun B F hF=>?_);refine Aa [] [2,3] ?_;refine S1 0 rfl (fun g y=>∃(k:Nat) (a:List UInt8) (b:List UInt8),a.length+b.length < k∧a.length≤4194304∧b.length≤4194304∧Fd n a0 b0=Fd k a b∧y=⟨[(2,(.ptr 0 0)),(3,(.ptr 1 0)),(5,(.fn 216 [] [(.ptr 0 0),(.ptr 1 0)])),(7,(.fn 218 [] [(.fp (.agg [(.fn 217 [] [])]))]))],[(0,(.row [(.str a)] 9)),(1,(.row [(.str b)] 9))],3⟩∧g=k) [2,3,5,7] 3 (by omega) (fun hJ0=>?_) ?_
 ·refine Ab ?_;refine An (Dd [] [2,3,5] ?_);refine Ab ?_;refine An (Dd [] [2,3,5,6] ?_);refine Ab ?_;refine An (Av 0 [] [2,3,5,7] [(0,6)] hk0 v0 c0 ?_);refine Ab (S3 ?_);refine Pv (y:=⟨[(2,(.ptr 0 0)),(3,(.ptr 1 0)),(5,(.fn 216 [] [(.ptr 0 0),(.ptr 1 0)])),(7,(.fn 218 [] [(.fp (.agg [(.fn 217 [] [])]))]))],[(0,(.row [(.str a0)] 9)),(1,(.row [(.str b0)] 9))],3⟩) [2,3,5,7] 3 (by omega) (by kernel_rfl) (hJ0 _ _ ⟨n,a0,b0,(by omega),(by omega),(by omega),(by rfl),(by kernel_rfl),rfl⟩)
 ·rintro g y ⟨k,a,b,fl0_1,fl0_2,fl0_3,fl0_4,rfl,rfl⟩
  obtain⟨k,rfl⟩:∃q,g=q+1:=⟨g-1,by omega⟩
  have hoa:=Fz Ct a;have hob:=Fz Ct b;refine C8 (fun y=>∃(a1:List UInt8) (b1:List UInt8),a1=a.drop (Am Ct a)∧b1=b.drop (Am Ct b)∧y=⟨[(2,(.ptr 0 0)),(3,(.ptr 1 0)),(5,(.fn 216 [] [(.ptr 0 0),(.ptr 1 0)])),(7,(.fn 218 [] [(.fp (.agg [(.fn 217 [] [])]))]))],[(0,(.row [(.str a1)] 9)),(1,(.row [(.str b1)] 9))],3⟩) [2,3,5,7] 3 (by omega) ?_ ?_
  ·refine G9 (CS:=[(4,(0≤(Am Ct a:Int)∧(Am Ct a:Int)≤(a.length:Int)∧(a.length:Int)≤(a.length:Int))),(9,(0≤(Am Ct b:Int)∧(Am Ct b:Int)≤(b.length:Int)∧(b.length:Int)≤(b.length:Int)))]) [] [2,3,5,7] [] (hk 3 (al:=[(.str a),(.fn 218 [] [(.fp (.agg [(.fn 217 [] [])]))])]) H8 ((I6 a (.fn 218 [] [.fp (.agg [.fn 217 [] []])]) Ct (by omega) (fun c=>Q00 c)).of_args (ImpL.cons Imp.refl (ImpL.cons (Imp.clo rfl) ImpL.nil)))<|hk 8 (al:=[(.str b),(.fn 218 [] [(.fp (.agg [(.fn 217 [] [])]))])]) H8 ((I6 b (.fn 218 [] [.fp (.agg [.fn 217 [] []])]) Ct (by omega) (fun c=>Q00 c)).of_args (ImpL.cons Imp.refl (ImpL.cons (Imp.clo rfl) ImpL.nil)))<|hk0) v0 (by refine cc _ ?_<|cc _ ?_ c0<;>omega) ?_;refine⟨by kernel_rfl,((a.take a.length).drop (Am Ct a)),((b.take b.length).drop (Am Ct b)),?_,?_,(by kernel_rfl)⟩
   all_goals rw[List.take_length]
  ·rintro y1 ⟨a1,b1,ja,jb,rfl⟩
   have hla:a1.length≤a.length:=by rw[ja,List.length_drop];omega
   have hlb:b1.length≤b.length:=by rw[jb,List.length_drop];omega
   have hma:=Rh ja;have hmb:=Rh jb;have hxa:=fun k=>Lp (s:=a1) (k:=k);have hxb:=fun k=>Lp (s:=b1) (k:=k);have hda:=Fz Al a1;have hdb:=Fz Al b1;have hea:=Fz B1 a1;have heb:=Fz B1 b1
   have e0:Fd (k+1) a b=Dg (Fd k) a1 b1:=by rw[ja,jb];rfl
   refine Ab (Ab ?_);refine An (Bm 1 0 [] [2,3,5,7,31] [] hk0 v0 c0 ?_);refine Q66 (s':=[(2,(.ptr 0 0)),(3,(.ptr 1 0)),(5,(.fn 216 [] [(.ptr 0 0),(.ptr 1 0)])),(7,(.fn 218 [] [(.fp (.agg [(.fn 217 [] [])]))])),(31,(.fn 216 [] [(.ptr 0 0),(.ptr 1 0)])),(32,(.tup [(.bool (A2 a1 126)),(.bool (A2 b1 126))]))]) (al:=[(.int .u8 126)]) (f:=216) (cap:=[(.ptr 0 0),(.ptr 1 0)]) (al':=[(.int .u8 126),(.fp (.agg [(.str a1)])),(.fp (.agg [(.str b1)]))]) (h':=[]) (r:=(.tup [(.bool (A2 a1 126)),(.bool (A2 b1 126))])) (by kernel_rfl) (by kernel_rfl) (by exact Q39) (by kernel_rfl) (by kernel_rfl) (Y0g a1 b1 (by omega) (by omega)) rfl (by kernel_rfl) ?_;refine Av 2 [] [2,3,5,7,8,9] [] hk0 v0 c0 ?_;refine Ad [37] [2,3,5,7,8,9,38] [] hk0 v0 (cc 3 (p:=((A2 a1 126)=false→(!(A2 a1 126))=true)) (by simp)<|c0) ?_;refine A5 (q:=(A2 a1 126)||(A2 b1 126)) (by kernel_rfl) (fun c1=>?_) (fun c1=>?_)
   ·try simp only[Ai] at c1
    refine Ab (Ad [41] [2,3,5,7,8,9,42] [] hk0 v0 (cc 3 (p:=((A2 a1 126)=true→(A2 a1 126)=true)) (by simp)<|c0) ?_);refine A5 (q:=(A2 a1 126)&&(A2 b1 126)) (by kernel_rfl) (fun c2=>?_) (fun c2=>?_)
    ·try simp only[Ai] at c2
     have h1:=hxa _ c2.1;have h2:=hxb _ c2.2;refine Co (CS:=[(1,(0≤(1:Int)∧(1:Int)≤(a1.length:Int)∧(a1.length:Int)≤(a1.length:Int))),(3,(0≤(1:Int)∧(1:Int)≤(b1.length:Int)∧(b1.length:Int)≤(b1.length:Int)))]) [] [2,3,5,7] [] hk0 v0 (by refine cc _ ?_<|cc _ ?_ c0<;>omega) ?_;refine K1 ⟨rfl,_,(by kernel_rfl:gcS _ _ _=some ⟨[(2,(.ptr 0 0)),(3,(.ptr 1 0)),(5,(.fn 216 [] [(.ptr 0 0),(.ptr 1 0)])),(7,(.fn 218 [] [(.fp (.agg [(.fn 217 [] [])]))]))],[(0,(.row [(.str ((a1.take a1.length).drop 1))] 9)),(1,(.row [(.str ((b1.take b1.length).drop 1))] 9))],3⟩),_,?_,k,((a1.take a1.length).drop 1),((b1.take b1.length).drop 1),?_,?_,?_,?_,(by kernel_rfl),rfl⟩
     all_goals (try simp only[List.take_length,List.drop_zero,List.length_drop] at *)
     ·omega
     ·omega
     ·omega
     ·omega
     ·rw[fl0_4,e0];unfold Dg;rw[if_pos c1,if_pos c2]
    ·try simp only[Ai] at c2
     refine Ag (Ad [] [4] [] (hk 2 Sd (Rc (A2 a1 126) (A2 b1 126) (-1) (by omega))<|hk0) v0 c0 ?_);refine Ae (RK wR [(.int .i64 (Ff (A2 a1 126) (A2 b1 126) (-1)))] ?_);refine Same.of_eq ?_;simp only[Af]
     try simp only[List.take_length,List.drop_zero] at *
     rw[fl0_4,e0];congr 1
     symm
     unfold Dg;rw[if_pos c1,if_neg (by rcases c2 with h|h<;>simp[h])]
   ·try simp only[Ai] at c1
    refine Ag ?_;refine Ab (Ab ?_);refine An (Bm 1 0 [] [2,3,5,7,51] [] hk0 v0 c0 ?_);refine Q66 (s':=[(2,(.ptr 0 0)),(3,(.ptr 1 0)),(5,(.fn 216 [] [(.ptr 0 0),(.ptr 1 0)])),(7,(.fn 218 [] [(.fp (.agg [(.fn 217 [] [])]))])),(51,(.fn 216 [] [(.ptr 0 0),(.ptr 1 0)])),(52,(.tup [(.bool (A2 a1 94)),(.bool (A2 b1 94))]))]) (al:=[(.int .u8 94)]) (f:=216) (cap:=[(.ptr 0 0),(.ptr 1 0)]) (al':=[(.int .u8 94),(.fp (.agg [(.str a1)])),(.fp (.agg [(.str b1)]))]) (h':=[]) (r:=(.tup [(.bool (A2 a1 94)),(.bool (A2 b1 94))])) (by kernel_rfl) (by kernel_rfl) (by exact Q39) (by kernel_rfl) (by kernel_rfl) (Y0f a1 b1 (by omega) (by omega)) rfl (by kernel_rfl) ?_;refine Av 2 [] [2,3,5,7,10,11] [] hk0 v0 c0 ?_;refine Ad [57] [2,3,5,7,10,11,58] [] hk0 v0 (cc 3 (p:=((A2 a1 94)=false→(!(A2 a1 94))=true)) (by simp)<|c0) ?_;refine A5 (q:=(A2 a1 94)||(A2 b1 94)) (by kernel_rfl) (fun c3=>?_) (fun c3=>?_)
    ·try simp only[Ai] at c3
     refine Ab ?_;refine Az (Ad [62] [2,3,5,7,10,11,59] [] hk0 v0 (cc 3 (p:=((A2 a1 94)=true→(A2 a1 94)=true)) (by simp)<|c0) ?_);refine A5 (q:=(A2 a1 94)&&(A2 b1 94)) (by kernel_rfl) (fun c4=>?_) (fun c4=>?_)
     ·try simp only[Ai] at c4
      have h1:=hxa _ c4.1;have h2:=hxb _ c4.2;refine Co (CS:=[(1,(0≤(1:Int)∧(1:Int)≤(a1.length:Int)∧(a1.length:Int)≤(a1.length:Int))),(3,(0≤(1:Int)∧(1:Int)≤(b1.length:Int)∧(b1.length:Int)≤(b1.length:Int)))]) [] [2,3,5,7] [] hk0 v0 (by refine cc _ ?_<|cc _ ?_ c0<;>omega) ?_;refine K1 ⟨rfl,_,(by kernel_rfl:gcS _ _ _=some ⟨[(2,(.ptr 0 0)),(3,(.ptr 1 0)),(5,(.fn 216 [] [(.ptr 0 0),(.ptr 1 0)])),(7,(.fn 218 [] [(.fp (.agg [(.fn 217 [] [])]))]))],[(0,(.row [(.str ((a1.take a1.length).drop 1))] 9)),(1,(.row [(.str ((b1.take b1.length).drop 1))] 9))],3⟩),_,?_,k,((a1.take a1.length).drop 1),((b1.take b1.length).drop 1),?_,?_,?_,?_,(by kernel_rfl),rfl⟩
      all_goals (try simp only[List.take_length,List.drop_zero,List.length_drop] at *)
      ·omega
      ·omega
      ·omega
      ·omega
      ·rw[fl0_4,e0];unfold Dg;rw[if_neg (by simp[c1.1,c1.2]),if_pos c3,if_pos c4]
     ·try simp only[Ai] at c4
      refine Ad (CS:=[(4,((!(decide (a1=[])))=true→(!(decide (a1=[])))=true)),(5,((decide (a1=[]))=false→(!(decide (a1=[])))=true))]) [72,73] [10,11,68] [] hk0 v0 (by refine cc _ ?_<|cc _ ?_ c0<;>simp) ?_;refine A5 (q:=(decide (a1=[]))||(decide (b1=[]))) (by kernel_rfl) (fun c5=>?_) (fun c5=>?_)
      ·try simp only[Ai] at c5
       refine Ad [] [4] [] (hk 2 Sd (Rc (A2 a1 94) (A2 b1 94) 1 (by omega))<|hk0) v0 c0 ?_;refine Ae (RK wR [(.int .i64 (Ff (A2 a1 94) (A2 b1 94) 1))] ?_);refine Same.of_eq ?_;simp only[Af]
       try simp only[List.take_length,List.drop_zero] at *
       rw[fl0_4,e0];congr 1
       symm
       unfold Dg;rw[if_neg (by simp[c1.1,c1.2]),if_pos c3,if_neg (by rcases c4 with h|h<;>simp[h]),if_pos c5]
      ·try simp only[Ai] at c5
       refine Ag (Ad [] [4] [] (hk 2 Sd (Rc (A2 a1 94) (A2 b1 94) (-1) (by omega))<|hk0) v0 c0 ?_);refine Ae (RK wR [(.int .i64 (Ff (A2 a1 94) (A2 b1 94) (-1)))] ?_);refine Same.of_eq ?_;simp only[Af]
       try simp only[List.take_length,List.drop_zero] at *
       rw[fl0_4,e0];congr 1
       symm
       unfold Dg;rw[if_neg (by simp[c1.1,c1.2]),if_pos c3,if_neg (by rcases c4 with h|h<;>simp[h]),if_neg (by simp[c5.1,c5.2])]
    ·try simp only[Ai] at c3
     refine Ag ?_;refine Ab (Ad (CS:=[(4,((!(decide (a1=[])))=true→(!(decide (a1=[])))=true)),(5,((decide (a1=[]))=false→(!(decide (a1=[])))=true))]) [84,85] [2,3,5,7,86] [] hk0 v0 (by refine cc _ ?_<|cc _ ?_ c0<;>simp) ?_);refine A5 (q:=(decide (a1=[]))||(decide (b1=[]))) (by kernel_rfl) (fun c6=>?_) (fun c6=>?_)
     ·try simp only[Ai] at c6
      refine Ad [] [4] [] (hk 4 Vv (Wc (a1.length:Int) (b1.length:Int))<|hk0) v0 c0 ?_;refine Ae (RK wR [(.int .i64 (Cv (a1.length:Int) (b1.length:Int)))] ?_);refine Same.of_eq ?_;simp only[Af]
      try simp only[List.take_length,List.drop_zero] at *
      rw[fl0_4,e0];congr 1
      symm
      unfold Dg;rw[if_neg (by simp[c1.1,c1.2]),if_neg (by simp[c3.1,c3.2]),if_pos c6]
     ·try simp only[Ai] at c6
      have hpa:=List.length_pos_iff.2 c6.1;have hpb:=List.length_pos_iff.2 c6.2;refine Ag ?_;refine Ab (Ad [] [2,3,5,7,94] [] (hk 2 I1 (J0 (Ac a1 0))<|hk0) v0 (cc 1 (p:=(0≤(0:Int)∧0 < a1.length)) (by omega)<|c0) ?_);refine A5 (q:=Al (Ac a1 0)) (by kernel_rfl) (fun c7=>?_) (fun c7=>?_)
      ·try simp only[Ai] at c7
       refine Co [] [2,3,5,7,12,13] [] (hk 1 (al:=[(.str a1),(.fn 127 [] [])]) H8 ((I6 a1 (.fn 127 [] []) Al (by omega) (fun c=>FunV.of (by exact I1) (J0 c))).of_args (ImpL.cons Imp.refl (ImpL.cons (Imp.clo rfl) ImpL.nil)))<|hk 3 (al:=[(.str b1),(.fn 127 [] [])]) H8 ((I6 b1 (.fn 127 [] []) Al (by omega) (fun c=>FunV.of (by exact I1) (J0 c))).of_args (ImpL.cons Imp.refl (ImpL.cons (Imp.clo rfl) ImpL.nil)))<|hk0) v0 c0 ?_;refine Ab (Aa [] [2,3,5,7,12,13,100] ?_);refine Ax (p:=(Am Al b1:Int)=0) (by kernel_rfl) (fun c8=>?_) (fun c8=>?_)
       ·refine Aa [] [4] ?_;refine Ae (RK wR [(.int .i64 1)] ?_);refine Same.of_eq ?_;simp only[Af]
        try simp only[List.take_length,List.drop_zero] at *
        rw[fl0_4,e0];congr 1
        symm
        unfold Dg;rw[if_neg (by simp[c1.1,c1.2]),if_neg (by simp[c3.1,c3.2]),if_neg (by simp[c6.1,c6.2]),if_pos c7,if_pos (by omega)]
       ·refine Ag ?_;refine Ab (Co (CS:=[(2,(0≤(0:Int)∧(0:Int)≤(Am Al a1:Int)∧(Am Al a1:Int)≤(a1.length:Int))),(5,(0≤(0:Int)∧(0:Int)≤(Am Al b1:Int)∧(Am Al b1:Int)≤(b1.length:Int)))]) [] [2,3,5,7,12,13,14] [] (hk 6 Vy (Up ((a1.take (Am Al a1)).drop 0) ((b1.take (Am Al b1)).drop 0))<|hk0) v0 (by refine cc _ ?_<|cc _ ?_ c0<;>omega) ?_);refine Aa [] [2,3,5,7,12,13,14,109] ?_;refine Cr (p:=(Cq ((a1.take (Am Al a1)).drop 0) ((b1.take (Am Al b1)).drop 0))=0) (by kernel_rfl) (fun c9=>?_) (fun c9=>?_)
        ·refine Aa [] [4] ?_;refine Ae (RK wR [(.int .i64 (Cq ((a1.take (Am Al a1)).drop 0) ((b1.take (Am Al b1)).drop 0)))] ?_);refine Same.of_eq ?_;simp only[Af]
         try simp only[List.take_length,List.drop_zero] at *
         rw[fl0_4,e0];congr 1
         symm
         unfold Dg;rw[if_neg (by simp[c1.1,c1.2]),if_neg (by simp[c3.1,c3.2]),if_neg (by simp[c6.1,c6.2]),if_pos c7,if_neg (by omega),if_pos c9]
        ·refine Ag (Co (CS:=[(2,(0≤(Am Al a1:Int)∧(Am Al a1:Int)≤(a1.length:Int)∧(a1.length:Int)≤(a1.length:Int))),(5,(0≤(Am Al b1:Int)∧(Am Al b1:Int)≤(b1.length:Int)∧(b1.length:Int)≤(b1.length:Int)))]) [] [2,3,5,7] [] hk0 v0 (by refine cc _ ?_<|cc _ ?_ c0<;>omega) ?_);refine K1 ⟨rfl,_,(by kernel_rfl:gcS _ _ _=some ⟨[(2,(.ptr 0 0)),(3,(.ptr 1 0)),(5,(.fn 216 [] [(.ptr 0 0),(.ptr 1 0)])),(7,(.fn 218 [] [(.fp (.agg [(.fn 217 [] [])]))]))],[(0,(.row [(.str ((a1.take a1.length).drop (Am Al a1)))] 9)),(1,(.row [(.str ((b1.take b1.length).drop (Am Al b1)))] 9))],3⟩),_,?_,k,((a1.take a1.length).drop (Am Al a1)),((b1.take b1.length).drop (Am Al b1)),?_,?_,?_,?_,(by kernel_rfl),rfl⟩
         all_goals (try simp only[List.take_length,List.drop_zero,List.length_drop] at *)
         have h3:=Pf (p:=Al) (s:=a1) (by omega) (by simpa using c7)
         ·omega
         ·omega
         ·omega
         ·omega
         ·rw[fl0_4,e0];unfold Dg;rw[if_neg (by simp[c1.1,c1.2]),if_neg (by simp[c3.1,c3.2]),if_neg (by simp[c6.1,c6.2]),if_pos c7,if_neg (by omega),if_neg (fun q=>q c9)]
      ·try simp only[Ai] at c7
       refine Ag (Co [] [2,3,5,7,15,16] [] (hk 1 (al:=[(.str a1),(.fn 128 [] [])]) H8 ((I6 a1 (.fn 128 [] []) B1 (by omega) (fun c=>FunV.of (by exact Nj) (Oo c))).of_args (ImpL.cons Imp.refl (ImpL.cons (Imp.clo rfl) ImpL.nil)))<|hk 3 (al:=[(.str b1),(.fn 128 [] [])]) H8 ((I6 b1 (.fn 128 [] []) B1 (by omega) (fun c=>FunV.of (by exact Nj) (Oo c))).of_args (ImpL.cons Imp.refl (ImpL.cons (Imp.clo rfl) ImpL.nil)))<|hk0) v0 c0 ?_);refine Ab (Aa [] [2,3,5,7,15,16,122] ?_);refine Ax (p:=(Am B1 b1:Int)=0) (by kernel_rfl) (fun c10=>?_) (fun c10=>?_)
       ·refine Aa [] [4] ?_;refine Ae (RK wR [(.int .i64 (-1))] ?_);refine Same.of_eq ?_;simp only[Af]
        try simp only[List.take_length,List.drop_zero] at *
        rw[fl0_4,e0];congr 1
        symm
        unfold Dg;rw[if_neg (by simp[c1.1,c1.2]),if_neg (by simp[c3.1,c3.2]),if_neg (by simp[c6.1,c6.2]),if_neg (by simp[c7]),if_pos (by omega)]
       ·refine Ag ?_;refine Ab (Co (CS:=[(2,(0≤(0:Int)∧(0:Int)≤(Am B1 a1:Int)∧(Am B1 a1:Int)≤(a1.length:Int))),(5,(0≤(0:Int)∧(0:Int)≤(Am B1 b1:Int)∧(Am B1 b1:Int)≤(b1.length:Int)))]) [] [2,3,5,7,15,16,17] [] (hk 6 Q4b (Q7n ((a1.take (Am B1 a1)).drop 0) ((b1.take (Am B1 b1)).drop 0))<|hk0) v0 (by refine cc _ ?_<|cc _ ?_ c0<;>omega) ?_);refine Aa [] [2,3,5,7,15,16,17,131] ?_;refine Cr (p:=(Lib.compareBytes ((a1.take (Am B1 a1)).drop 0) ((b1.take (Am B1 b1)).drop 0))=0) (by kernel_rfl) (fun c11=>?_) (fun c11=>?_)
        ·refine Aa [] [4] ?_;refine Ae (RK wR [(.int .i64 (Lib.compareBytes ((a1.take (Am B1 a1)).drop 0) ((b1.take (Am B1 b1)).drop 0)))] ?_);refine Same.of_eq ?_;simp only[Af]
         try simp only[List.take_length,List.drop_zero] at *
         rw[fl0_4,e0];congr 1
         symm
         unfold Dg;rw[if_neg (by simp[c1.1,c1.2]),if_neg (by simp[c3.1,c3.2]),if_neg (by simp[c6.1,c6.2]),if_neg (by simp[c7]),if_neg (by omega),if_pos c11]
        ·refine Ag (Co (CS:=[(2,(0≤(Am B1 a1:Int)∧(Am B1 a1:Int)≤(a1.length:Int)∧(a1.length:Int)≤(a1.length:Int))),(5,(0≤(Am B1 b1:Int)∧(Am B1 b1:Int)≤(b1.length:Int)∧(b1.length:Int)≤(b1.length:Int)))]) [] [2,3,5,7] [] hk0 v0 (by refine cc _ ?_<|cc _ ?_ c0<;>omega) ?_);refine K1 ⟨rfl,_,(by kernel_rfl:gcS _ _ _=some ⟨[(2,(.ptr 0 0)),(3,(.ptr 1 0)),(5,(.fn 216 [] [(.ptr 0 0),(.ptr 1 0)])),(7,(.fn 218 [] [(.fp (.agg [(.fn 217 [] [])]))]))],[(0,(.row [(.str ((a1.take a1.length).drop (Am B1 a1)))] 9)),(1,(.row [(.str ((b1.take b1.length).drop (Am B1 b1)))] 9))],3⟩),_,?_,k,((a1.take a1.length).drop (Am B1 a1)),((b1.take b1.length).drop (Am B1 b1)),?_,?_,?_,?_,(by kernel_rfl),rfl⟩
         all_goals (try simp only[List.take_length,List.drop_zero,List.length_drop] at *)
         have hml:B1 (Ac a1 0)=true:=by
          rcases hma with q|q
          ·exact absurd q c6.1
          ·exact Q1g q (by omega) (by simp_all) (by simp_all) (by simp_all)
         have h3:=Pf (p:=B1) (s:=a1) (by omega) hml
         ·omega
         ·omega
         ·omega
         ·omega
         ·rw[fl0_4,e0];unfold Dg;rw[if_neg (by simp[c1.1,c1.2]),if_neg (by simp[c3.1,c3.2]),if_neg (by simp[c6.1,c6.2]),if_neg (by simp[c7]),if_neg (by omega),if_neg (fun q=>q c11)]
end Sv
end
section
open Go Go.RowKit
namespace Sv
attribute [local irreducible] SW SO Bk
set_option maxHeartbeats 1000000
set_option maxRecDepth 100000
theorem X7m:Ak Tryz.prog 196:=Ao Tryz.func196 (by kernel_rfl) rfl
def I4 (a b:List UInt8):Int:=Dl (a.length+b.length+1) a b
def Hg (a b:List UInt8):Int:=Fd (a.length+b.length+1) a b
theorem Q46 (a b:List UInt8) (ha:a.length≤4194304) (hb:b.length≤4194304):FnV Tryz.prog 204 [.str a,.str b] (.int .i64 (I4 a b)):=X9j _ a b (by omega) ha hb
theorem Y0 (a b:List UInt8) (ha:a.length≤4194304) (hb:b.length≤4194304):FnV Tryz.prog 206 [.str a,.str b] (.int .i64 (Hg a b)):=X0i _ a b (by omega) ha hb
theorem Ey {a:List UInt8} (h:a.length≤4194304):(orS a [48]).length≤4194304:=by unfold orS;split<;>simp[h]
def Cb (k:Int) (a b:(List UInt8 × List UInt8 × List UInt8)):Int × Int :=
 if k=2 then (orI (Cq a.1 b.1) (I4 a.2.1 b.2.1),I4 (orS a.2.2 [48]) (orS b.2.2 [48]))
 else if a.2.2=[]∨b.2.2=[] then (orI (Cq a.1 b.1) (Hg a.2.1 b.2.1),Ff (!decide (a.2.2=[])) (!decide (b.2.2=[])) 1)
 else (orI (Cq a.1 b.1) (Hg a.2.1 b.2.1),Hg a.2.2 b.2.2)
def Ln (a b:List UInt8) (c d:Int):Int:=if c=0∧¬a=[]∧¬b=[] then d else c
def Gy (c op o:Int):Bool :=
 if c < 0 then !decide (Go.bits .and .i64 op 4=0)||!decide (Go.bits .and .i64 o 1=0)
 else if 0 < c then !decide (Go.bits .and .i64 op 1=0)||!decide (Go.bits .and .i64 o 4=0)
 else !decide (Go.bits .and .i64 op o=0)
def Gx (k:Int) (a b:List UInt8):Int:=Ln (A4 k a b).1.2.2 (A4 k a b).2.1.2.2 (Cb k (A4 k a b).1 (A4 k a b).2.1).1 (Cb k (A4 k a b).1 (A4 k a b).2.1).2
def Bs (k op:Int) (a:List UInt8) (o:Int) (b:List UInt8):Bool × Int :=
 if (¬k=1∧¬k=2)∨op < 0∨7 < op∨o < 0∨7 < o then (false,1)
 else if op=0∨o=0 then (true,0)
 else if ¬(A4 k a b).2.2=0 then (false,(A4 k a b).2.2)
 else (Gy (Gx k a b) op o,0)
theorem Q3l (l:List UInt8):(Cj l).1.length≤l.length∧(Cj l).2.1.length≤l.length∧(Cj l).2.2.length≤l.length:=by
 unfold Cj;split
 ·unfold O6;refine⟨?_,?_,?_⟩
  ·show(if _ then _ else _:List UInt8).length≤_;split<;>simp;omega
  ·show(if _ then _ else _:List UInt8).length≤_;split<;>(try rw[List.length_take])<;>split<;>simp<;>omega
  ·show(if _ then _ else _:List UInt8).length≤_;split<;>(try rw[List.length_drop])<;>(try split)<;>simp<;>omega
 ·simp
theorem Q5n (k:Int) (a b:List UInt8):(A4 k a b).1.1.length≤a.length∧(A4 k a b).1.2.1.length≤a.length∧(A4 k a b).1.2.2.length≤a.length∧(A4 k a b).2.1.1.length≤b.length∧(A4 k a b).2.1.2.1.length≤b.length∧(A4 k a b).2.1.2.2.length≤b.length:=by
 have h1:=Q3l a;have h2:=Q3l b;unfold A4;split
 ·simp
 ·split<;>simp<;>omega
theorem X18 (k:Int) (a b:(List UInt8 × List UInt8 × List UInt8)) (ha:a.1.length≤4194304∧a.2.1.length≤4194304∧a.2.2.length≤4194304) (hb:b.1.length≤4194304∧b.2.1.length≤4194304∧b.2.2.length≤4194304) :
  FnV Tryz.prog 196 [(.int .i64 k),(.agg [(.str a.1),(.str a.2.1),(.str a.2.2)]),(.agg [(.str b.1),(.str b.2.1),(.str b.2.2)])] (.tup [.int .i64 (Cb k a b).1,.int .i64 (Cb k a b).2]):=by
 refine A3 [.tmp 6,.tmp 7] Tryz.func196 rfl Tryz.ntmps196 rfl rfl (fun B F hF=>?_);refine Ad [] [0,4,5] [(1,4),(2,5)] hk0 v0 c0 ?_;refine Ad [] [0,4,5,8] [] (hk 4 Vy (Up a.1 b.1)<|hk0) v0 c0 ?_;refine Ab (Aa [] [4,5,8,15] ?_);refine Ax (p:=k=2) (by kernel_rfl) (fun c1=>?_) (fun c1=>?_)
 ·refine Co [] [6,7] [(7,22),(11,26),(15,30)] (hk 5 Q4i (Q46 a.2.1 b.2.1 (by omega) (by omega))<|hk 7 Vx (Uj (Cq a.1 b.1) (I4 a.2.1 b.2.1))<|hk 11 Q4h (Q0q a.2.2 [48])<|hk 15 Q4h (Q0q b.2.2 [48])<|hk 16 Q4i (Q46 (orS a.2.2 [48]) (orS b.2.2 [48]) (by exact Ey (by first|exact ha.2.2|exact hb.2.2)) (by exact Ey (by first|exact ha.2.2|exact hb.2.2)))<|hk0) (vk 7 22 (b:=(Dw [Cq a.1 b.1,I4 a.2.1 b.2.1])) (Imp.list (f:=AV.int .i64) rfl)<|vk 11 26 (b:=(B3 ([a.2.2,[48]]))) (Imp.list (f:=AV.str) rfl)<|vk 15 30 (b:=(B3 ([b.2.2,[48]]))) (Imp.list (f:=AV.str) rfl)<|v0) c0 ?_;refine Ae (RK wR [(.int .i64 (orI (Cq a.1 b.1) (I4 a.2.1 b.2.1))),(.int .i64 (I4 (orS a.2.2 [48]) (orS b.2.2 [48])))] ?_);refine Same.of_eq ?_;simp only[Af];unfold Cb;rw[if_pos c1]
 ·refine Ag (Ad [] [4,5,8] [(7,39)] (hk 5 Q4g (Y0 a.2.1 b.2.1 (by omega) (by omega))<|hk 7 Vx (Uj (Cq a.1 b.1) (Hg a.2.1 b.2.1))<|hk0) (vk 7 39 (b:=(Dw [Cq a.1 b.1,Hg a.2.1 b.2.1])) (Imp.list (f:=AV.int .i64) rfl)<|v0) c0 ?_);refine Ab (Ad (CS:=[(5,((!(decide (a.2.2=[])))=true→(!(decide (a.2.2=[])))=true)),(6,((!(decide (a.2.2=[])))=true→(!(decide (a.2.2=[])))=true)),(7,((decide (a.2.2=[]))=false→(!(decide (a.2.2=[])))=true))]) [45,46,47] [4,5,8,48] [] hk0 v0 (by refine cc _ ?_<|cc _ ?_<|cc _ ?_ c0<;>simp) ?_);refine A5 (q:=(decide (a.2.2=[]))||(decide (b.2.2=[]))) (by kernel_rfl) (fun c2=>?_) (fun c2=>?_)
  ·try simp only[Ai] at c2
   refine Ad [] [6,7] [] (hk 7 Sd (Rc (!decide (a.2.2=[])) (!decide (b.2.2=[])) 1 (by omega))<|hk0) v0 c0 ?_;refine Ae (RK wR [(.int .i64 (orI (Cq a.1 b.1) (Hg a.2.1 b.2.1))),(.int .i64 (Ff (!decide (a.2.2=[])) (!decide (b.2.2=[])) 1))] ?_);refine Same.of_eq ?_;simp only[Af];unfold Cb;rw[if_neg c1,if_pos c2]
  ·try simp only[Ai] at c2
   refine Ag (Ad [] [6,7] [] (hk 5 Q4g (Y0 a.2.2 b.2.2 (by omega) (by omega))<|hk0) v0 c0 ?_);refine Ae (RK wR [(.int .i64 (orI (Cq a.1 b.1) (Hg a.2.1 b.2.1))),(.int .i64 (Hg a.2.2 b.2.2))] ?_);refine Same.of_eq ?_;simp only[Af];unfold Cb;rw[if_neg c1,if_neg (by simp[c2.1,c2.2])]
theorem X3r (k op:Int) (a:List UInt8) (o:Int) (b:List UInt8) (ha:a.length≤4194304) (hb:b.length≤4194304) :
  FnV Tryz.prog 187 [(.int .i64 k),(.int .i64 op),(.str a),(.int .i64 o),(.str b)] (.tup [.bool (Bs k op a o b).1,.int .i64 (Bs k op a o b).2]):=by
 have hbl:=Q5n k a b;refine A3 [.tmp 10,.tmp 11] Tryz.func187 rfl Tryz.ntmps187 rfl rfl (fun B F hF=>?_);refine Aa [] [0,1,2,3,4] ?_;refine Ab (Az ?_)
 refine Ad (CS:=[(4,((!decide (k=1))=true→(!decide (k=1))=true)),(5,((!decide (k=1))=true→(!decide (k=1))=true)),(8,((!((!decide (k=1))&&(!decide (k=2))))=true→(!((!decide (k=1))&&(!decide (k=2))))=true)),(9,(((!decide (k=1))&&(!decide (k=2)))=false→(!((!decide (k=1))&&(!decide (k=2))))=true)),(12,((!(((!decide (k=1))&&(!decide (k=2)))||(decide (op < 0))))=true→(!(((!decide (k=1))&&(!decide (k=2)))||(decide (op < 0))))=true)),(13,((((!decide (k=1))&&(!decide (k=2)))||(decide (op < 0)))=false→(!(((!decide (k=1))&&(!decide (k=2)))||(decide (op < 0))))=true)),(16,((!((((!decide (k=1))&&(!decide (k=2)))||(decide (op < 0)))||(decide (7 < op))))=true→(!((((!decide (k=1))&&(!decide (k=2)))||(decide (op < 0)))||(decide (7 < op))))=true)),(17,(((((!decide (k=1))&&(!decide (k=2)))||(decide (op < 0)))||(decide (7 < op)))=false→(!((((!decide (k=1))&&(!decide (k=2)))||(decide (op < 0)))||(decide (7 < op))))=true)),(20,((!(((((!decide (k=1))&&(!decide (k=2)))||(decide (op < 0)))||(decide (7 < op)))||(decide (o < 0))))=true→(!(((((!decide (k=1))&&(!decide (k=2)))||(decide (op < 0)))||(decide (7 < op)))||(decide (o < 0))))=true)),(21,((((((!decide (k=1))&&(!decide (k=2)))||(decide (op < 0)))||(decide (7 < op)))||(decide (o < 0)))=false→(!(((((!decide (k=1))&&(!decide (k=2)))||(decide (op < 0)))||(decide (7 < op)))||(decide (o < 0))))=true))]) [21,22,25,26,29,30,33,34,37,38] [0,1,2,3,4,17] [] hk0 v0 (by refine cc _ ?_<|cc _ ?_<|cc _ ?_<|cc _ ?_<|cc _ ?_<|cc _ ?_<|cc _ ?_<|cc _ ?_<|cc _ ?_<|cc _ ?_ c0<;>first|omega|(simp;omega)|(simp;done)|(intros;simp_all;omega)|(intros;simp_all;done)) ?_
 refine A5 (q:=(((((!decide (k=1))&&(!decide (k=2)))||(decide (op < 0)))||(decide (7 < op)))||(decide (o < 0)))||(decide (7 < o))) (by kernel_rfl) (fun c1=>?_) (fun c1=>?_)
 ·try simp only[Ai] at c1
  refine Aa [] [10,11] ?_;refine Ae (RK wR [(.bool false),(.int .i64 1)] ?_);refine Same.of_eq ?_;simp only[Af];rw[show Bs k op a o b=(false,1) from by unfold Bs;rw[if_pos (by omega)]]
 ·try simp only[Ai] at c1
  refine Ad (CS:=[(4,((!(decide (op=0)))=true→(!(decide (op=0)))=true)),(5,((decide (op=0))=false→(!(decide (op=0)))=true))]) [44,45] [0,1,2,3,4,40] [] hk0 v0 (by refine cc _ ?_<|cc _ ?_ c0<;>simp) ?_;refine A5 (q:=(decide (op=0))||(decide (o=0))) (by kernel_rfl) (fun c2=>?_) (fun c2=>?_)
  ·try simp only[Ai] at c2
   refine Aa [] [10,11] ?_;refine Ae (RK wR [(.bool true),(.int .i64 0)] ?_);refine Same.of_eq ?_;simp only[Af];rw[show Bs k op a o b=(true,0) from by unfold Bs;rw[if_neg (by omega),if_pos (by omega)]]
  ·try simp only[Ai] at c2
   refine Ag (Ad [] [0,1,3,12,13,14] [(11,12),(12,13)] (hk 3 X7n (X95 k a b (by omega) (by omega))<|hk0) v0 c0 ?_);refine Ab (Aa [] [0,1,3,12,13,14,56] ?_);refine Cr (p:=((A4 k a b).2.2)=0) (by kernel_rfl) (fun c3=>?_) (fun c3=>?_)
   ·refine Aa [] [10,11] ?_;refine Ae (RK wR [(.bool false),(.int .i64 ((A4 k a b).2.2))] ?_);refine Same.of_eq ?_;simp only[Af];rw[show Bs k op a o b=(false,(A4 k a b).2.2) from by unfold Bs;rw[if_neg (by omega),if_neg (by omega),if_pos (by omega)]]
   ·refine Ag (Ad [] [1,3,12,13,15,16] [] (hk 3 X7m (X18 k (A4 k a b).1 (A4 k a b).2.1 ⟨by omega,by omega,by omega⟩ ⟨by omega,by omega,by omega⟩)<|hk0) v0 c0 ?_);refine C8 (fun y=>∃(c:Int),c=Ln (A4 k a b).1.2.2 (A4 k a b).2.1.2.2 (Cb k (A4 k a b).1 (A4 k a b).2.1).1 (Cb k (A4 k a b).1 (A4 k a b).2.1).2∧y=⟨[(1,(.int .i64 op)),(3,(.int .i64 o)),(15,(.int .i64 c))],[],2⟩) [1,3,15] 2 (by omega) ?_ ?_
    ·refine Ad (CS:=[(4,((decide (((Cb k (A4 k a b).1 (A4 k a b).2.1).1)=0))=true→(decide (((Cb k (A4 k a b).1 (A4 k a b).2.1).1)=0))=true)),(5,((decide (((Cb k (A4 k a b).1 (A4 k a b).2.1).1)=0))=true→(decide (((Cb k (A4 k a b).1 (A4 k a b).2.1).1)=0))=true)),(6,((decide (((Cb k (A4 k a b).1 (A4 k a b).2.1).1)=0))=true→(decide (((Cb k (A4 k a b).1 (A4 k a b).2.1).1)=0))=true)),(9,(((decide (((Cb k (A4 k a b).1 (A4 k a b).2.1).1)=0))&&(!decide (((A4 k a b).1).2.2=[])))=true→((decide (((Cb k (A4 k a b).1 (A4 k a b).2.1).1)=0))&&(!decide (((A4 k a b).1).2.2=[])))=true)),(10,(((decide (((Cb k (A4 k a b).1 (A4 k a b).2.1).1)=0))&&(!decide (((A4 k a b).1).2.2=[])))=true→((decide (((Cb k (A4 k a b).1 (A4 k a b).2.1).1)=0))&&(!decide (((A4 k a b).1).2.2=[])))=true)),(11,(((decide (((Cb k (A4 k a b).1 (A4 k a b).2.1).1)=0))&&(!decide (((A4 k a b).1).2.2=[])))=true→((decide (((Cb k (A4 k a b).1 (A4 k a b).2.1).1)=0))&&(!decide (((A4 k a b).1).2.2=[])))=true))]) [68,69,70,73,74,75] [1,3,15,16,76] [] hk0 v0 (by refine cc _ ?_<|cc _ ?_<|cc _ ?_<|cc _ ?_<|cc _ ?_<|cc _ ?_ c0<;>simp) ?_
     refine A5 (q:=((decide (((Cb k (A4 k a b).1 (A4 k a b).2.1).1)=0))&&(!decide (((A4 k a b).1).2.2=[])))&&(!decide (((A4 k a b).2.1).2.2=[]))) (by kernel_rfl) (fun c4=>?_) (fun c4=>?_)
     ·try simp only[Ai] at c4
      refine An (Dd [] [1,3,15] ?_);refine⟨by kernel_rfl,((Cb k (A4 k a b).1 (A4 k a b).2.1).2),?_,(by kernel_rfl)⟩;unfold Ln;rw[if_pos (by simp_all)]
     ·try simp only[Ai] at c4
      refine Ag ?_;refine⟨by kernel_rfl,((Cb k (A4 k a b).1 (A4 k a b).2.1).1),?_,(by kernel_rfl)⟩;unfold Ln;rw[if_neg (fun q=>by simp[q.1,q.2.1,q.2.2] at c4)]
    ·rintro y1 ⟨c,jc,rfl⟩;refine Ab ?_;refine Az (Aa [] [1,3,15,78] ?_);refine Ax (p:=c < 0) (by kernel_rfl) (fun c5=>?_) (fun c5=>?_)
     ·refine Ab ?_;refine An (Bm 1 0 [] [3,81] [] hk0 v0 c0 ?_);refine S9 (s':=[(3,(.int .i64 o)),(81,(.int .i64 op)),(82,(.int .i64 (Go.bits .and .i64 op 4)))]) (.int .i64 (Go.bits .and .i64 op 4)) (by kernel_rfl) (Ph (.inl (by kernel_rfl)) (.inl (by kernel_rfl))) (by kernel_rfl) ?_;refine Bm 3 2 [85] [84,85] [] hk0 v0 c0 ?_;refine Q67 (s':=[(84,(.bool (!decide ((Go.bits .and .i64 op 4)=0)))),(85,(.cond (!(!decide ((Go.bits .and .i64 op 4)=0))) (.int .i64 o))),(86,(.cond (!(!decide ((Go.bits .and .i64 op 4)=0))) (.int .i64 (Go.bits .and .i64 o 1))))]) (q:=!(!decide ((Go.bits .and .i64 op 4)=0))) (.int .i64 (Go.bits .and .i64 o 1)) (by kernel_rfl) (fun cg=>(Ph (.inr ⟨!(!decide ((Go.bits .and .i64 op 4)=0)),by kernel_rfl,by first|exact cg|simp_all⟩) (.inl (by kernel_rfl)))) (by kernel_rfl) ?_;refine Av (CS:=[(6,((!(!decide ((Go.bits .and .i64 op 4)=0)))=true→(!(!decide ((Go.bits .and .i64 op 4)=0)))=true)),(7,((!decide ((Go.bits .and .i64 op 4)=0))=false→(!(!decide ((Go.bits .and .i64 op 4)=0)))=true))]) 6 [87] [10,11] [] hk0 v0 (by refine cc _ ?_<|cc _ ?_ c0<;>simp) ?_;refine Ae ?_
      refine RK wR [(.bool ((!decide ((Go.bits .and .i64 op 4)=0))||(!decide ((Go.bits .and .i64 o 1)=0)))),(.int .i64 0)] ?_;refine Same.of_eq ?_;simp only[Af];rw[show Bs k op a o b=(Gy (Gx k a b) op o,0) from by unfold Bs;rw[if_neg (by omega),if_neg (by omega),if_neg (by omega)]];rw[show Gx k a b=c from jc.symm];unfold Gy;rw[if_pos (by omega)]
     ·refine Aa [] [1,3,89] ?_;refine Ax (p:=0 < c) (by kernel_rfl) (fun c6=>?_) (fun c6=>?_)
      ·refine Ab ?_;refine An (Bm 1 0 [] [3,92] [] hk0 v0 c0 ?_);refine S9 (s':=[(3,(.int .i64 o)),(92,(.int .i64 op)),(93,(.int .i64 (Go.bits .and .i64 op 1)))]) (.int .i64 (Go.bits .and .i64 op 1)) (by kernel_rfl) (Ph (.inl (by kernel_rfl)) (.inl (by kernel_rfl))) (by kernel_rfl) ?_;refine Bm 3 2 [96] [95,96] [] hk0 v0 c0 ?_;refine Q67 (s':=[(95,(.bool (!decide ((Go.bits .and .i64 op 1)=0)))),(96,(.cond (!(!decide ((Go.bits .and .i64 op 1)=0))) (.int .i64 o))),(97,(.cond (!(!decide ((Go.bits .and .i64 op 1)=0))) (.int .i64 (Go.bits .and .i64 o 4))))]) (q:=!(!decide ((Go.bits .and .i64 op 1)=0))) (.int .i64 (Go.bits .and .i64 o 4)) (by kernel_rfl) (fun cg=>(Ph (.inr ⟨!(!decide ((Go.bits .and .i64 op 1)=0)),by kernel_rfl,by first|exact cg|simp_all⟩) (.inl (by kernel_rfl)))) (by kernel_rfl) ?_;refine Av (CS:=[(6,((!(!decide ((Go.bits .and .i64 op 1)=0)))=true→(!(!decide ((Go.bits .and .i64 op 1)=0)))=true)),(7,((!decide ((Go.bits .and .i64 op 1)=0))=false→(!(!decide ((Go.bits .and .i64 op 1)=0)))=true))]) 6 [98] [10,11] [] hk0 v0 (by refine cc _ ?_<|cc _ ?_ c0<;>simp) ?_;refine Ae ?_
       refine RK wR [(.bool ((!decide ((Go.bits .and .i64 op 1)=0))||(!decide ((Go.bits .and .i64 o 4)=0)))),(.int .i64 0)] ?_;refine Same.of_eq ?_;simp only[Af];rw[show Bs k op a o b=(Gy (Gx k a b) op o,0) from by unfold Bs;rw[if_neg (by omega),if_neg (by omega),if_neg (by omega)]];rw[show Gx k a b=c from jc.symm];unfold Gy;rw[if_neg (by omega),if_pos (by omega)]
      ·refine Ag (Ab ?_);refine An (Bm 2 0 [] [100,101] [] hk0 v0 c0 ?_);refine S9 (s':=[(100,(.int .i64 op)),(101,(.int .i64 o)),(102,(.int .i64 (Go.bits .and .i64 op o)))]) (.int .i64 (Go.bits .and .i64 op o)) (by kernel_rfl) (Ph (.inl (by kernel_rfl)) (.inl (by kernel_rfl))) (by kernel_rfl) ?_;refine Av 3 [] [10,11] [] hk0 v0 c0 ?_;refine Ae (RK wR [(.bool (!decide ((Go.bits .and .i64 op o)=0))),(.int .i64 0)] ?_);refine Same.of_eq ?_;simp only[Af];rw[show Bs k op a o b=(Gy (Gx k a b) op o,0) from by unfold Bs;rw[if_neg (by omega),if_neg (by omega),if_neg (by omega)]];rw[show Gx k a b=c from jc.symm];unfold Gy;rw[if_neg (by omega),if_neg (by omega)]
theorem X3s:L5 Bs:=fun k op a o b ha hb=>X3r k op a o b ha hb
end Sv
end
section
open Go Go.RowKit
namespace Sv
attribute [local irreducible] SW SO Bk
set_option maxHeartbeats 400000
set_option maxRecDepth 100000
theorem X7g:Ak Tryz.prog 27:=Ao Tryz.func27 (by kernel_rfl) rfl
theorem X6t:Ak Tryz.prog 60:=Ao Tryz.func60 (by kernel_rfl) rfl
def Mq (k:Int):Bool:=decide (k=1)||(decide (k=5)||decide (k=6))
theorem X1p (st:PoolT) (pl:List (Int × Int)) :
  FnV Tryz.prog 27 [(.fp (Jl st pl))] (.int .i64 ((pl.length:Int))):=by
 refine A3 [.tmp 2] Tryz.func27 rfl Tryz.ntmps27 rfl rfl (fun B F hF=>?_);refine Aa [] [0] ?_;refine Aa [] [2] ?_;refine Ae (RK wR [(.int .i64 ((pl.length:Int)))] ?_);exact Same.of_eq (by first|rfl|(simp only[Af];simp_all))
theorem X1h (d:DepT) :
  FnV Tryz.prog 60 [(.agg [(.int .i64 d.kind),(.str d.name),(.int .i64 d.op),(.str d.evr),(.row 5 d.args.length (depAt d.args))])] (.bool (Mq d.kind)):=by
 refine A3 [.tmp 2] Tryz.func60 rfl Tryz.ntmps60 rfl rfl (fun B F hF=>?_);refine Ad [] [1] [(1,1)] hk0 v0 c0 ?_
 obtain⟨b1,hb1⟩:∃b,b=(decide (d.kind=1)):=⟨_,rfl⟩
 obtain⟨b2,hb2⟩:∃b,b=(b1||(decide (d.kind=5))):=⟨_,rfl⟩
 refine Ad (CS:=[(5,((!b1)=true→(!b1)=true)),(6,((!b1)=true→(!b1)=true)),(7,(b1=false→(!b1)=true)),(10,((!b2)=true→(!b2)=true)),(11,((!b2)=true→(!b2)=true)),(12,(b2=false→(!b2)=true))]) [7,8,9,12,13,14] [2] [] hk0 (vk 4 6 (a:=.bool (decide (d.kind=1))) (b:=.bool b1) (Imp.of_eq (by rw[hb1]))<|vk 9 11 (a:=.bool (b1||(decide (d.kind=5)))) (b:=.bool b2) (Imp.of_eq (by rw[hb2]))<|v0) (by refine cc _ ?_<|cc _ ?_<|cc _ ?_<|cc _ ?_<|cc _ ?_<|cc _ ?_ c0<;>simp) ?_;refine Ae (RK wR [(.bool (b2||(decide (d.kind=6))))] ?_);subst hb2 hb1;exact Same.of_eq (by simp only[Af];unfold Mq;rw[Bool.or_assoc])
end Sv
end
section
open Go Go.RowKit
namespace Sv
def L4 (st:PoolT) (pl:List (Int × Int)):Prop:=pl.length=st.all.length∧∀i,i < st.all.length→0≤(nth pl i).1∧(nth pl i).1 < st.repos.length∧0≤(nth pl i).2∧(nth pl i).2 < (nth st.repos (nth pl i).1.toNat).pkgs.length ∧
 nth (nth st.repos (nth pl i).1.toNat).pkgs (nth pl i).2.toNat=(nth st.all i).1∧(nth pl i).1=(nth st.all i).2
def Q7o (l:List RepoT) (st:PoolT):Prop:=∀q∈st.all,∃r∈l,q.1∈r.pkgs
theorem Ur {α:Type} [Inhabited α] {l m:List α} {i:Nat} (h:i < l.length):nth (l++m) i=nth l i:=by
 simp only[nth];rw[List.getElem?_append_left h]
theorem Uq {α:Type} [Inhabited α] {l m:List α} {i:Nat} (h:l.length≤i):nth (l++m) i=nth m (i-l.length):=by
 simp only[nth];rw[List.getElem?_append_right h]
theorem Q5l {k:Int} {l:List RepoT} {r:RepoT}:Au k (l++[r])=(Ci (Au k l).1 r,Fb (Au k l).2 (Au k l).1 r):=by
 unfold Au;rw[List.foldl_append];rfl
theorem X9 {α:Type} {C:List α→Prop} (h0:C []) (h:∀l a,C l→C (l++[a])) (l:List α):C l:=by
 rw[←List.reverse_reverse l]
 induction l.reverse with
 |nil=>exact h0
 |cons a r ih=>rw[List.reverse_cons];exact h _ _ ih
theorem X97 (k:Int):∀l:List RepoT,Q7o l (Au k l).1:=by
 refine X9 (C:=fun l=>Q7o l (Au k l).1) (fun q hq=>by cases hq) fun l r ih=>?_;rw[Q5l];intro q hq
 have old:q∈(Au k l).1.all→∃r'∈l++[r],q.1∈r'.pkgs:=fun h=>by
  obtain⟨r',h1,h2⟩:=ih q h;exact⟨r',List.mem_append_left _ h1,h2⟩
 unfold Ci at hq;split at hq
 ·simp only[Aw,List.take_length] at hq;rcases List.mem_append.1 hq with h|h
  ·exact old h
  ·obtain⟨p,hp,rfl⟩:=List.mem_map.1 h;exact⟨r,by simp,hp⟩
 ·exact old hq
theorem X98 {k:Int} {l:List RepoT} (h:∀i,i < l.length→(nth l i).size≤4194304):IdxOk (Au k l).1:=by
 refine⟨(Q5m k l).2.1,fun i hi=>?_⟩;obtain⟨r,hr,hp⟩:=X97 k l (nth (Au k l).1.all i) (by rw[Jq hi];exact List.getElem_mem hi);obtain⟨a,ha,rfl⟩:=List.getElem_of_mem hr;obtain⟨b,hb,e⟩:=List.getElem_of_mem hp;have h1:=RepoT.size_pkg hb;have h2:=h a ha;rw[Jq ha] at h2;rw[Jq hb,e] at h1;omega
theorem X99 (k:Int):∀l:List RepoT,L4 (Au k l).1 (Au k l).2:=by
 refine X9 (C:=fun l=>L4 (Au k l).1 (Au k l).2) ⟨rfl,fun i hi=>by simp[Au] at hi⟩ fun l r ih=>?_;rw[Q5l];generalize (Au k l).1=st at ih;generalize (Au k l).2=pl at ih;show L4 (Ci st r) (Fb pl st r);by_cases he:Cm st r=0
 ·have e1:Ci st r=⟨st.kind,st.repos++[r],Aw st r r.pkgs.length⟩:=if_pos he;have e2:Fb pl st r=C0 pl st r r.pkgs.length:=if_pos he;rw[e1,e2]
  have hl:(Aw st r r.pkgs.length).length=st.all.length+r.pkgs.length:=by simp[Aw]
  have hl2:(C0 pl st r r.pkgs.length).length=pl.length+r.pkgs.length:=by simp[C0]
  refine⟨by show(C0 pl st r r.pkgs.length).length=(Aw st r r.pkgs.length).length;rw[hl,hl2,ih.1],fun i hi=>?_⟩;have hi:i < (Aw st r r.pkgs.length).length:=hi;rw[hl] at hi;show 0≤(nth (C0 pl st r r.pkgs.length) i).1∧(nth (C0 pl st r r.pkgs.length) i).1 < ((st.repos++[r]).length:Int)∧0≤(nth (C0 pl st r r.pkgs.length) i).2∧(nth (C0 pl st r r.pkgs.length) i).2 < ((nth (st.repos++[r]) (nth (C0 pl st r r.pkgs.length) i).1.toNat).pkgs.length:Int)∧nth (nth (st.repos++[r]) (nth (C0 pl st r r.pkgs.length) i).1.toNat).pkgs (nth (C0 pl st r r.pkgs.length) i).2.toNat=(nth (Aw st r r.pkgs.length) i).1∧(nth (C0 pl st r r.pkgs.length) i).1=(nth (Aw st r r.pkgs.length) i).2;unfold C0 Aw;by_cases h:i < st.all.length
  ·have k:=ih.2 i h;rw[Ur (l:=pl) (by rw[ih.1];exact h),Ur (l:=st.all) h,Ur (l:=st.repos) (by omega)];exact⟨k.1,by rw[List.length_append];omega,k.2.2.1,k.2.2.2.1,k.2.2.2.2.1,k.2.2.2.2.2⟩
  ·obtain⟨j,rfl⟩:∃j,i=st.all.length+j:=⟨i-st.all.length,by omega⟩
   have hj:j < r.pkgs.length:=by omega
   rw[Uq (l:=pl) (by rw[ih.1];omega),Uq (l:=st.all) (by omega),show st.all.length+j-pl.length=j by rw[ih.1];omega,show st.all.length+j-st.all.length=j by omega,List.take_length]
   have a1:nth ((List.range r.pkgs.length).map fun (k:Nat)=>((st.repos.length:Int),(k:Int))) j=((st.repos.length:Int),(j:Int)):=by simp[nth,hj]
   have a2:nth (r.pkgs.map fun p=>(p,(st.repos.length:Int))) j=(nth r.pkgs j,(st.repos.length:Int)):=by simp[nth,hj]
   rw[a1,a2]
   have a3:nth (st.repos++[r]) ((st.repos.length:Int)).toNat=r:=by rw[Uq (by simp)];simp[nth]
   refine⟨Int.natCast_nonneg _,by rw[List.length_append,List.length_singleton];show(st.repos.length:Int) < _;omega,Int.natCast_nonneg _,?_,?_,rfl⟩
   ·show(j:Int) < ((nth (st.repos++[r]) ((st.repos.length:Int)).toNat).pkgs.length:Int);rw[a3];omega
   ·show nth (nth (st.repos++[r]) ((st.repos.length:Int)).toNat).pkgs ((j:Int)).toNat=nth r.pkgs j;rw[a3];rfl
 ·have e1:Ci st r=st:=if_neg he;have e2:Fb pl st r=pl:=if_neg he;rw[e1,e2];exact ih
end Sv
end
section
open Go Go.RowKit
namespace Sv
abbrev Q7i:=Int→Int→List UInt8→Int→List UInt8→Bool × Int
theorem Q24 {k:Int}:∀{l:List DepT} {i:Nat},argsForm k l=true→i < l.length→B2 (nth l i)=true
 |[],i,_,hi=>by simp at hi
 |d::r,i,h,hi=>by
  unfold argsForm at h;simp only[Bool.and_eq_true] at h
  cases i with
  |zero=>exact h.2.1
  |succ i=>exact Q24 (l:=r) h.2.2 (by simpa using hi)
theorem Q22 {k op:Int} {nm ev:List UInt8} {args:List DepT} (h:B2 (.mk k nm op ev args)=true) (hk:¬k=1):2≤args.length∧argsForm k args=true∧2≤k∧k≤6:=by
 unfold B2 at h;rw[if_neg hk] at h;simp only[Bool.and_eq_true,Bool.not_eq_true',Gg,decide_eq_false_iff_not,not_or] at h;exact⟨by omega,h.2,by omega,by omega⟩
theorem X5h {op:Int} {nm ev:List UInt8} {args:List DepT} (h:B2 (.mk 1 nm op ev args)=true):args=[]:=by
 unfold B2 at h;rw[if_pos rfl] at h;by_cases q:Bh nm=true∧0≤op∧op≤7∧args.length=0
 ·exact List.length_eq_zero_iff.1 q.2.2.2
 ·rw[Vh q] at h;cases h
theorem X5j {d:DepT} (h:B2 d=true) {i:Nat} (hi:i < d.args.length):B2 (nth d.args i)=true:=by
 obtain⟨k,nm,op,ev,args⟩:=d;by_cases hk:k=1
 ·subst hk;have e:=X5h h;have hi:i < args.length:=hi;rw[e] at hi;simp at hi
 ·exact Q24 (Q22 h hk).2.1 hi
theorem X5l {d:DepT} (h:B2 d=true) (hk:¬d.kind=1):2≤d.args.length:=by
 obtain⟨k,nm,op,ev,args⟩:=d;exact(Q22 h hk).1
section
variable {m : Q7i} {st : PoolT} {s : List Int}
end
section
variable {m : Q7i} {st : PoolT} {s : List Int}
end
end Sv
end
section
open Go Go.RowKit
namespace Sv
end Sv
end
section
open Go Go.RowKit
namespace Sv
theorem Y19 (s:List UInt8) (c:UInt8) (hc:c.toNat < 128) (hs:s.length≤9223372036854775807):FnV Tryz.prog 139 [.str s,.str [c]] (.str (Lib.trimB s c)):=by
 intro F w vs hF hv;obtain⟨v,r1,rfl,h1,hv⟩:=hv.cons_inv;obtain⟨v2,rfl,h2⟩:=hv.single_inv;simp only[VR] at h1 h2;subst h1 h2;refine(Tryz.strings_Trim_one ⟨s.toArray⟩ c hc w (by simpa [ByteArray.size] using hs)).mono ?_;rintro e w' ⟨he,hw⟩
 have hb:Below w.heap.size w w':=by
  rcases hw with rfl|rfl
  ·exact Below.refl _ _
  ·exact Drew.below ⟨1,rfl⟩ (Below.refl _ _)
 exact⟨_,he,hb,F,fun _ _ e=>e,fun b o e=>(hb.block b (Dh (hF b o e))).trans (hF b o e),fun _ _ e => .inl e,by simp only[VR,List.toList_toArray]⟩
end Sv
end
end Go.Proofs.YtlamaeednbhjdaaGreatDoor
