/- The texts Ref3b, Ref3c, NamP, Ref7b, Ref20, Ref7c, TellsP, S40, OrderP, OrdM, OrdT, OrdF, Order1, Order2, OrdL, Order3, Order5, Order6 of the proof, joined. Each says at its theorems what it proves. -/
import Derived.Test.YtlmloohlmlahfaaGreatDoorJ3
set_option linter.unusedSimpArgs false
set_option linter.unusedVariables false
namespace Go.Proofs.YtlmloohlmlahfaaGreatDoor
section
open Go Go.RowKit
namespace Sv
attribute [local irreducible] SW SO Bs
set_option maxHeartbeats 2000000
set_option maxRecDepth 100000
theorem Q3i:As Tryz.prog 231:=Az Tryz.func231 (by kernel_rfl) rfl
theorem Q3h:As Tryz.prog 232:=Az Tryz.func232 (by kernel_rfl) rfl
theorem W1 (s:List UInt8) : -1≤B4 s∧B4 s≤511:=by
 have hb:(Aj s 0).toNat < 256:=(Aj s 0).toNat_lt
 unfold B4
 repeat' split
 all_goals omega
theorem X68 {x y:Int} (h:C7 x y=0):x=y:=by
 unfold C7 at h
 split at h
 ·omega
 ·split at h<;>omega
theorem X69 (x:Int):C7 x x=0:=by unfold C7;rw[if_neg (by omega),if_neg (by omega)]
theorem other_is {s:List UInt8}:Hd s=true↔¬B4 s=0:=by
 unfold Hd B4
 cases s with
 |nil=>simp
 |cons a r =>
  have ha:Aj (a::r) 0=a:=by simp[Aj]
  have hb:a.toNat < 256:=a.toNat_lt
  rw[ha]
  by_cases h:Aq a=true
  ·simp[h]
  ·have h:Aq a=false:=by simpa using h
   have h0:¬a.toNat=0∨B7 a=false:=by
    by_cases q:a.toNat=0
    ·right;unfold B7;simp[q]
    ·exact .inl q
   simp only[h,List.cons_ne_nil,decide_false,Bool.not_false,Bool.and_self,false_or,Bool.false_eq_true,if_false]
   repeat' split
   all_goals first|omega|(simp_all;omega)|simp_all
theorem Zv {s:List UInt8} (h:Hd s=false):B4 s=0:=by
 by_cases q:B4 s=0
 ·exact q
 ·rw[other_is.2 q] at h;cases h
theorem Q4h {n:Nat} {u v:List UInt8} (hn:1≤n) (h:B4 u≠0∨B4 v≠0):Dq n u v=if B4 u≠B4 v then C7 (B4 u) (B4 v) else Dq (n-1) (u.drop 1) (v.drop 1):=by
 obtain⟨m,rfl⟩:∃m,n=m+1:=⟨n-1,by omega⟩
 rw[Dq,if_pos h];rfl
theorem Vo {n:Nat} {u v:List UInt8} (hn:1≤n) (h1:B4 u=0) (h2:B4 v=0):Dq n u v=if C3 (u.take (Ar Aq u)) (v.take (Ar Aq v))≠0 then C3 (u.take (Ar Aq u)) (v.take (Ar Aq v)) else if (u.drop (Ar Aq u))≠[]∨(v.drop (Ar Aq v))≠[] then Dq (n-1) (u.drop (Ar Aq u)) (v.drop (Ar Aq v)) else 0:=by
 obtain⟨m,rfl⟩:∃m,n=m+1:=⟨n-1,by omega⟩
 rw[Dq,if_neg (by simp[h1,h2])];rfl
theorem Q4j:∀n:Nat,Dq n [] []=0
 |0=>rfl
 |n+1=>by rw[Vo (by omega) rfl rfl];rfl
theorem X6w {n:Nat} {u v:List UInt8} (hn:1≤n) (h1:B4 u=0) (h2:B4 v=0) (h3:C3 (u.take (Ar Aq u)) (v.take (Ar Aq v))=0):Dq n u v=Dq (if (u.drop (Ar Aq u))=[]∧(v.drop (Ar Aq v))=[] then 1 else n-1) (u.drop (Ar Aq u)) (v.drop (Ar Aq v)):=by
 rw[Vo hn h1 h2,if_neg (by simp[h3])]
 by_cases q:(u.drop (Ar Aq u))=[]∧(v.drop (Ar Aq v))=[]
 ·rw[if_neg (by simp[q.1,q.2]),if_pos q,q.1,q.2,Q4j]
 ·rw[if_pos (by by_cases k:(u.drop (Ar Aq u))=[]<;>simp_all),if_neg q]
theorem X5 {n m:Nat} {u v:List UInt8} (h:u.length+v.length < n) (hm:n≤m) (h2:2≤m) (w1:B4 u=0) (w2:B4 v=0):(if (u.drop (Ar Aq u))=[]∧(v.drop (Ar Aq v))=[] then 1 else n-1) < m∧(u.drop (Ar Aq u)).length+(v.drop (Ar Aq v)).length < (if (u.drop (Ar Aq u))=[]∧(v.drop (Ar Aq v))=[] then 1 else n-1):=by
 by_cases q:(u.drop (Ar Aq u))=[]∧(v.drop (Ar Aq v))=[]
 ·rw[if_pos q,q.1,q.2];exact⟨by omega,by decide⟩
 ·rw[if_neg q,List.length_drop,List.length_drop]
  have k1:=Ly w1
  have k2:=Ly w2
  have k3:¬(u.length=0∧v.length=0):=fun k=>q ⟨by rw[List.length_eq_zero_iff.1 k.1];simp,by rw[List.length_eq_zero_iff.1 k.2];simp⟩
  have k4:=F6 Aq u
  have k5:=F6 Aq v
  omega
theorem Q1y (s:List UInt8):(decide (0 < (s.length:Int))&&decide (((Aj s 0).toNat:Int)=126))=Bb s 126:=by
 cases s with
 |nil=>rfl
 |cons a r =>
  have ha:Aj (a::r) 0=a:=by simp[Aj]
  rw[ha];unfold Bb
  simp[←UInt8.toNat_inj];omega
theorem Q1x (s:List UInt8):(decide (0 < (s.length:Int))&&decide (((Aj s 0).toNat:Int)=94))=Bb s 94:=by
 cases s with
 |nil=>rfl
 |cons a r =>
  have ha:Aj (a::r) 0=a:=by simp[Aj]
  rw[ha];unfold Bb
  simp[←UInt8.toNat_inj];omega
def Xx:Bool→List UInt8→List UInt8→Int
 |true=>C3
 |false=>Lib.compareBytes
section
variable {r : List UInt8 → List UInt8 → Int} {u v : List UInt8}
theorem X0 (h:(Bb u 126=true∧Bb v 126=true)∨(Bb u 126=false∧Bb v 126=false∧Bb u 94=true∧Bb v 94=true)):Dn r u v=r (u.drop 1) (v.drop 1):=by
 unfold Dn
 rcases h with⟨h1,h2⟩|⟨h1,h2,h3,h4⟩<;>simp_all
theorem Xy (h:(Bb u 126 == Bb v 126)=false):Dn r u v=if Bb u 126=true then -1 else 1:=by
 unfold Dn E3
 cases h1:Bb u 126<;>cases h2:Bb v 126<;>simp_all
theorem Pu (h1 : Bb u 126 = false) (h2 : Bb v 126 = false) (h : (Bb u 94 = true ∧ Bb v 94 = false ∧ ¬ u = []) ∨ (Bb u 94 = false ∧ Bb v 94 = true ∧ ¬ v = [])) :
  Dn r u v=if Bb u 94=true then (if v=[] then 1 else -1) else (if u=[] then -1 else 1):=by
 unfold Dn E3
 by_cases e1:u=[]<;>by_cases e2:v=[]<;>rcases h with⟨h3,h4,h5⟩|⟨h3,h4,h5⟩<;>simp_all
theorem Q8w (h1:Bb u 126=false) (h2:Bb v 126=false) (h3:Bb u 94=false) (h4:Bb v 94=false) (h:u=[]∨v=[]):Dn r u v=C7 (u.length:Int) (v.length:Int):=by
 unfold Dn;rw[if_neg (by simp[h1,h2]),if_neg (by simp[h3,h4]),if_pos h]
theorem Q8t (h1 : Bb u 126 = false) (h2 : Bb v 126 = false) (h3 : Bb u 94 = false) (h4 : Bb v 94 = false) (h5 : ¬ u = []) (h6 : ¬ v = []) : Dn r u v =
  if Ar (Cg (Aq (Aj u 0))) v=0 then (if Aq (Aj u 0)=true then 1 else -1)
  else if ¬Xx (Aq (Aj u 0)) (u.take (Ar (Cg (Aq (Aj u 0))) u)) (v.take (Ar (Cg (Aq (Aj u 0))) v))=0 then Xx (Aq (Aj u 0)) (u.take (Ar (Cg (Aq (Aj u 0))) u)) (v.take (Ar (Cg (Aq (Aj u 0))) v))
  else r (u.drop (Ar (Cg (Aq (Aj u 0))) u)) (v.drop (Ar (Cg (Aq (Aj u 0))) v)):=by
 unfold Dn
 rw[if_neg (by simp[h1,h2]),if_neg (by simp[h3,h4]),if_neg (by simp[h5,h6])]
 cases Aq (Aj u 0)<;>rfl
theorem Q8m (hm:u=[]∨Fp (Aj u 0)=true) (h1:Bb u 126=false) (h3:Bb u 94=false) (h5:¬u=[]):1≤Ar (Cg (Aq (Aj u 0))) u:=by
 have hl:1≤u.length:=List.length_pos_iff.2 h5
 cases h:Aq (Aj u 0) with
 |true=>exact Ov hl h
 |false=>exact Ov (p:=B7) hl (Q0y (hm.resolve_left h5) hl h1 h3 h)
theorem Qm {k:UInt8} (h:Bb u k=true):¬u=[]:=fun e=>by have:=Lc h;rw[e] at this;simp at this
end
theorem Q8v {n:Nat} {a b:List UInt8} (hn:1≤n):E2 n a b=Dn (E2 (n-1)) (a.drop (Ar C9 a)) (b.drop (Ar C9 b)):=by
 obtain⟨m,rfl⟩:∃m,n=m+1:=⟨n-1,by omega⟩
 rw[E2];rfl
theorem Yo (n : Nat) (a0 b0 : List UInt8) (h0 : a0.length + b0.length < n) (ha : a0.length ≤ 4194304) (hb : b0.length ≤ 4194304) :
  FnV Tryz.prog 231 [(.str a0),(.str b0)] (.int .i64 (Dq n a0 b0)):=by
 refine A8 [.tmp 4] Tryz.func231 rfl Tryz.ntmps231 rfl rfl (fun B F hF=>?_)
 refine Ab [] [0,1] ?_
 refine Ac ?_
 refine Ay ?_
 refine Bz (fun g y=>∃(fu:Nat) (x z:List UInt8),x.length+z.length < fu∧x.length≤a0.length∧z.length≤b0.length∧Dq n a0 b0=Dq fu x z∧y=⟨[(0,(.str x)),(1,(.str z))],[],0⟩∧g=fu) [0,1] 0 _ (by omega) ⟨n,a0,b0,(by exact h0),(by omega),(by omega),(by rfl),(by kernel_rfl),rfl⟩ ?_
 rintro g1 y1 ⟨fu,x,z,f1_1,f1_2,f1_3,f1_4,rfl,rfl⟩
 refine Ac ?_
 refine Af (CS:=[(5,((!(decide (0 < (x.length:Int))))=true→(!(decide (0 < (x.length:Int))))=true)),(6,((!(decide (0 < (x.length:Int))))=true→(!(decide (0 < (x.length:Int))))=true)),(7,((decide (0 < (x.length:Int)))=false→(!(decide (0 < (x.length:Int))))=true))]) [15,16,17] [0,1,18] [] hk0 v0 (by refine cc _ ?_<|cc _ ?_<|cc _ ?_ c0<;>simp) ?_
 refine Bd (q:=(decide (0 < (x.length:Int)))||(decide (0 < (z.length:Int)))) (by kernel_rfl) (fun c1=>?_) (fun c1=>?_)
 ·try simp only[Am] at c1
  refine Ai ?_
  refine Ay ?_
  refine Ac ?_
  refine Ay ?_
  refine Bz (fun g y=>∃(fi:Nat) (u v:List UInt8),u.length+v.length < fi∧u.length≤a0.length∧v.length≤b0.length∧fi≤g1∧Dq n a0 b0=Dq fi u v∧y=⟨[(0,(.str u)),(1,(.str v))],[],0⟩∧g=fi) [0,1] 0 _ (by omega) ⟨g1,x,z,(by omega),(by omega),(by omega),(by omega),(by exact f1_4),(by kernel_rfl),rfl⟩ ?_
  rintro g2 y2 ⟨fi,u,v,f2_1,f2_2,f2_3,f2_4,f2_5,rfl,rfl⟩
  refine Ay ?_
  refine Af [] [0,1,5] [] (hk 1 Q3e (Yk u)<|hk0) v0 c0 ?_
  refine Af [] [0,1,5,6] [] (hk 1 Q3e (Yk v)<|hk0) v0 c0 ?_
  refine Ac ?_
  refine Af (CS:=[(4,((!(Hd u))=true→(!(Hd u))=true)),(5,((!(Hd u))=true→(!(Hd u))=true))]) [26,27] [0,1,28] [] hk0 v0 (by refine cc _ ?_<|cc _ ?_ c0<;>simp) ?_
  refine Bd (q:=(!(Hd u))&&(!(Hd v))) (by kernel_rfl) (fun c2=>?_) (fun c2=>?_)
  ·try simp only[Am] at c2
   have hwu:=Zv c2.1
   have hwv:=Zv c2.2
   have hcu:=F6 Aq u
   have hcv:=F6 Aq v
   refine Bp ?_
   refine Af [] [0,1,8] [] (hk 1 Rf (P3 u true (by omega))<|hk0) v0 c0 ?_
   refine Af [] [0,1,8,9] [] (hk 1 Rf (P3 v true (by omega))<|hk0) v0 c0 ?_
   refine Cr (CS:=[(2,(0≤(0:Int)∧(0:Int)≤(Ar Aq u:Int)∧(Ar Aq u:Int)≤(u.length:Int))),(5,(0≤(0:Int)∧(0:Int)≤(Ar Aq v:Int)∧(Ar Aq v:Int)≤(v.length:Int)))]) [] [0,1,8,9,10] [] (hk 6 Vb (Tn (u.take (Ar Aq u)) (v.take (Ar Aq v)) (by rw[List.length_take];omega) (by rw[List.length_take];omega))<|hk0) v0 (by refine cc _ ?_<|cc _ ?_ c0<;>omega) ?_
   refine Ac ?_
   refine Ab [] [0,1,8,9,10,54] ?_
   refine Da (p:=(C3 (u.take (Ar Aq u)) (v.take (Ar Aq v)))=0) (by kernel_rfl) (fun c3=>?_) (fun c3=>?_)
   ·refine Ab [] [4] ?_
    refine Ag ?_
    refine RK wR [(.int .i64 (C3 (u.take (Ar Aq u)) (v.take (Ar Aq v))))] ?_
    exact Same.of_eq (by simp only[Ak];rw[f2_5,Vo (by omega) hwu hwv,if_pos c3])
   ·refine Ai ?_
    refine Af [] [0,1,9] [] hk0 v0 (cc 2 (p:=(0≤(Ar Aq u:Int)∧(Ar Aq u:Int)≤(u.length:Int)∧(u.length:Int)≤(u.length:Int))) (by omega)<|c0) ?_
    refine An ?_
    refine Au 0 [] [0,1] [] hk0 v0 (cc 2 (p:=(0≤(Ar Aq v:Int)∧(Ar Aq v:Int)≤(v.length:Int)∧(v.length:Int)≤(v.length:Int))) (by omega)<|c0) ?_
    refine⟨by kernel_rfl,_,?_,(if (u.drop (Ar Aq u))=[]∧(v.drop (Ar Aq v))=[] then 1 else g2-1),(u.drop (Ar Aq u)),(v.drop (Ar Aq v)),?_,?_,?_,?_,(Eq.trans (b:=(⟨[(0,(.str ((u.take u.length).drop (Ar Aq u)))),(1,(.str ((v.take v.length).drop (Ar Aq v))))],[],0⟩:St)) (by kernel_rfl) (by rw[List.take_length,List.take_length]<;>kernel_rfl)),rfl⟩
    have hrl:=X5 f2_1 f2_4 (by omega) hwu hwv
    ·exact hrl.1
    ·have hrl:=X5 f2_1 f2_4 (by omega) hwu hwv
     exact hrl.2
    ·rw[List.length_drop];omega
    ·rw[List.length_drop];omega
    ·rw[f2_5,X6w (by omega) hwu hwv (by assumption)]
  ·try simp only[Am] at c2
   have hw:B4 u≠0∨B4 v≠0:=c2.imp other_is.1 other_is.1
   have hwi:=W1 u
   have hwj:=W1 v
   refine Ai ?_
   refine Af [] [0,1,7] [] (hk 1 Q3c (Yd u)<|hk 3 Q3c (Yd v)<|hk 5 Rg ((P2 ((B4 u)-(B4 v))).to (Same.of_eq (by rw[Ru])))<|hk0) v0 (cc 4 (p:=(-9223372036854775808≤(B4 u)-(B4 v)∧(B4 u)-(B4 v)≤9223372036854775807)) (by omega)<|c0) ?_
   refine Ac ?_
   refine Ab [] [0,1,7,36] ?_
   refine Da (p:=(C7 (B4 u) (B4 v))=0) (by kernel_rfl) (fun c4=>?_) (fun c4=>?_)
   ·refine Ab [] [4] ?_
    refine Ag ?_
    refine RK wR [(.int .i64 (C7 (B4 u) (B4 v)))] ?_
    exact Same.of_eq (by simp only[Ak];rw[f2_5,Q4h (by omega) hw,if_pos (fun e=>c4 (by rw[e,X69]))])
   ·have hwe:=X68 c4
    have hpu:=Pe (s:=u) (by rcases hw with h|h<;>omega)
    have hpv:=Pe (s:=v) (by rcases hw with h|h<;>omega)
    refine Ai ?_
    refine Af [] [0,1] [] hk0 v0 (cc 1 (p:=(0≤(1:Int)∧(1:Int)≤(u.length:Int)∧(u.length:Int)≤(u.length:Int))) (by omega)<|c0) ?_
    refine An ?_
    refine Au 0 [] [0,1] [] hk0 v0 (cc 1 (p:=(0≤(1:Int)∧(1:Int)≤(v.length:Int)∧(v.length:Int)≤(v.length:Int))) (by omega)<|c0) ?_
    refine⟨by kernel_rfl,_,?_,g2-1,(u.drop 1),(v.drop 1),?_,?_,?_,?_,?_,(Eq.trans (b:=(⟨[(0,(.str ((u.take u.length).drop 1))),(1,(.str ((v.take v.length).drop 1)))],[],0⟩:St)) (by kernel_rfl) (by rw[List.take_length,List.take_length]<;>kernel_rfl)),rfl⟩
    ·omega
    ·rw[List.length_drop,List.length_drop];omega
    ·rw[List.length_drop];omega
    ·rw[List.length_drop];omega
    ·omega
    ·rw[f2_5,Q4h (by omega) hw,if_neg (by simp[hwe])]
 ·try simp only[Am] at c1
  refine Bp ?_
  refine Ab [] [4] ?_
  refine Ag ?_
  refine RK wR [(.int .i64 0)] ?_
  exact Same.of_eq (by simp only[Ak];rw[f1_4,show x=[] from List.length_eq_zero_iff.1 (by omega),show z=[] from List.length_eq_zero_iff.1 (by omega),Q4j])
theorem Yf (n : Nat) (a0 b0 : List UInt8) (h0 : a0.length + b0.length < n) (ha : a0.length ≤ 4194304) (hb : b0.length ≤ 4194304) :
  FnV Tryz.prog 232 [(.str a0),(.str b0)] (.int .i64 (E2 n a0 b0)):=by
 refine A8 [.tmp 4] Tryz.func232 rfl Tryz.ntmps232 rfl rfl (fun B F hF=>?_)
 refine Ab [] [0,1] ?_
 refine Ay ?_
 refine Bz (fun g y=>∃(fu:Nat) (x z:List UInt8),x.length+z.length < fu∧x.length≤a0.length∧z.length≤b0.length∧E2 n a0 b0=E2 fu x z∧y=⟨[(0,(.str x)),(1,(.str z))],[],0⟩∧g=fu) [0,1] 0 _ (by omega) ⟨n,a0,b0,(by exact h0),(by omega),(by omega),(by rfl),(by kernel_rfl),rfl⟩ ?_
 rintro g1 y1 ⟨fu,x,z,f1_1,f1_2,f1_3,f1_4,rfl,rfl⟩
 refine Ay ?_
 refine Af [] [0,1] [] (hk 1 Q3b (Yh x (by omega))<|hk0) v0 c0 ?_
 refine Dm (fun y=>∃(u v:List UInt8),u=x.drop (Ar C9 x)∧v=z.drop (Ar C9 z)∧y=⟨[(0,(.str u)),(1,(.str v))],[],0⟩) [0,1] 0 (by omega) ?_ ?_
 ·refine An ?_
  refine Au 0 [] [0,1] [] (hk 1 Q3b (Yh z (by omega))<|hk0) v0 c0 ?_
  refine⟨by kernel_rfl,(x.drop (Ar C9 x)),(z.drop (Ar C9 z)),?_,?_,(by kernel_rfl)⟩
  ·rfl
  ·rfl
 ·rintro y1 ⟨u,v,ju,jv,rfl⟩
  have hlu:u.length≤x.length:=by rw[ju,List.length_drop];omega
  have hlv:v.length≤z.length:=by rw[jv,List.length_drop];omega
  have hW:E2 n a0 b0=Dn (E2 (g1-1)) u v:=by rw[f1_4,ju,jv];exact Q8v (by omega)
  have hmu:=Qj ju
  have hmv:=Qj jv
  refine Af (CS:=[(5,((decide (0 < (u.length:Int)))=true→((decide (0 < (u.length:Int)))=true)∧(0≤(0:Int)∧0 < u.length))),(6,((decide (0 < (u.length:Int)))=true→(decide (0 < (u.length:Int)))=true)),(7,((decide (0 < (u.length:Int)))=true→(decide (0 < (u.length:Int)))=true))]) [19,20,21] [0,1,5] [] hk0 (vk 8 22 (a:=(.bool ((decide (0 < (u.length:Int)))&&(decide (((Aj u 0).toNat:Int)=126))))) (b:=(.bool (Bb u 126))) (Imp.of_eq (congrArg AV.bool (Q1y u)))<|v0) (by refine cc _ ?_<|cc _ ?_<|cc _ ?_ c0<;>simp) ?_
  refine Af (CS:=[(5,((decide (0 < (v.length:Int)))=true→((decide (0 < (v.length:Int)))=true)∧(0≤(0:Int)∧0 < v.length))),(6,((decide (0 < (v.length:Int)))=true→(decide (0 < (v.length:Int)))=true)),(7,((decide (0 < (v.length:Int)))=true→(decide (0 < (v.length:Int)))=true))]) [27,28,29] [0,1,5,6] [] hk0 (vk 8 30 (a:=(.bool ((decide (0 < (v.length:Int)))&&(decide (((Aj v 0).toNat:Int)=126))))) (b:=(.bool (Bb v 126))) (Imp.of_eq (congrArg AV.bool (Q1y v)))<|v0) (by refine cc _ ?_<|cc _ ?_<|cc _ ?_ c0<;>simp) ?_
  refine Ac ?_
  refine Ab [] [0,1,5,33] ?_
  refine Bd (q:=!((Bb u 126) == (Bb v 126))) (by kernel_rfl) (fun c1=>?_) (fun c1=>?_)
  ·try simp only[Am] at c1
   refine Ac ?_
   refine Ab [] [34] ?_
   refine Bd (q:=Bb u 126) (by kernel_rfl) (fun c2=>?_) (fun c2=>?_)
   ·try simp only[Am] at c2
    refine Ab [] [4] ?_
    refine Ag ?_
    refine RK wR [(.int .i64 (-1))] ?_
    exact Same.of_eq (by simp only[Ak];rw[hW,Xy c1,if_pos c2])
   ·try simp only[Am] at c2
    refine Ai ?_
    refine Ab [] [4] ?_
    refine Ag ?_
    refine RK wR [(.int .i64 1)] ?_
    exact Same.of_eq (by simp only[Ak];rw[hW,Xy c1,if_neg (by simp[c2])])
  ·try simp only[Am] at c1
   refine Ai ?_
   refine Ac ?_
   refine Ab [] [0,1,35] ?_
   refine Bd (q:=Bb u 126) (by kernel_rfl) (fun c3=>?_) (fun c3=>?_)
   ·try simp only[Am] at c3
    have hv1:Bb v 126=true:=by simp_all
    have hp1:=Lc c3
    have hp2:=Lc hv1
    refine Af [] [0,1] [] hk0 v0 (cc 1 (p:=(0≤(1:Int)∧(1:Int)≤(u.length:Int)∧(u.length:Int)≤(u.length:Int))) (by omega)<|c0) ?_
    refine Af [] [0,1] [] hk0 v0 (cc 1 (p:=(0≤(1:Int)∧(1:Int)≤(v.length:Int)∧(v.length:Int)≤(v.length:Int))) (by omega)<|c0) ?_
    refine Bp ?_
    refine⟨by kernel_rfl,_,?_,g1-1,(u.drop 1),(v.drop 1),?_,?_,?_,?_,(Eq.trans (b:=(⟨[(0,(.str ((u.take u.length).drop 1))),(1,(.str ((v.take v.length).drop 1)))],[],0⟩:St)) (by kernel_rfl) (by rw[List.take_length,List.take_length]<;>kernel_rfl)),rfl⟩
    ·omega
    ·rw[List.length_drop,List.length_drop];omega
    ·rw[List.length_drop];omega
    ·rw[List.length_drop];omega
    ·rw[hW,X0 (.inl ⟨c3,hv1⟩)]
   ·try simp only[Am] at c3
    have hv0:Bb v 126=false:=by simp_all
    refine Ai ?_
    refine Af (CS:=[(5,((decide (0 < (u.length:Int)))=true→((decide (0 < (u.length:Int)))=true)∧(0≤(0:Int)∧0 < u.length))),(6,((decide (0 < (u.length:Int)))=true→(decide (0 < (u.length:Int)))=true)),(7,((decide (0 < (u.length:Int)))=true→(decide (0 < (u.length:Int)))=true))]) [44,45,46] [0,1,5] [] hk0 (vk 8 47 (a:=(.bool ((decide (0 < (u.length:Int)))&&(decide (((Aj u 0).toNat:Int)=94))))) (b:=(.bool (Bb u 94))) (Imp.of_eq (congrArg AV.bool (Q1x u)))<|v0) (by refine cc _ ?_<|cc _ ?_<|cc _ ?_ c0<;>simp) ?_
    refine Af (CS:=[(5,((decide (0 < (v.length:Int)))=true→((decide (0 < (v.length:Int)))=true)∧(0≤(0:Int)∧0 < v.length))),(6,((decide (0 < (v.length:Int)))=true→(decide (0 < (v.length:Int)))=true)),(7,((decide (0 < (v.length:Int)))=true→(decide (0 < (v.length:Int)))=true))]) [52,53,54] [0,1,5,6] [] hk0 (vk 8 55 (a:=(.bool ((decide (0 < (v.length:Int)))&&(decide (((Aj v 0).toNat:Int)=94))))) (b:=(.bool (Bb v 94))) (Imp.of_eq (congrArg AV.bool (Q1x v)))<|v0) (by refine cc _ ?_<|cc _ ?_<|cc _ ?_ c0<;>simp) ?_
    refine Ac ?_
    refine Af [58] [0,1,5,6,59] [] hk0 v0 (cc 3 (p:=((Bb u 94)=true→(Bb u 94)=true)) (by simp)<|c0) ?_
    refine Bd (q:=(Bb u 94)&&(Bb v 94)) (by kernel_rfl) (fun c4=>?_) (fun c4=>?_)
    ·try simp only[Am] at c4
     have hp1:=Lc c4.1
     have hp2:=Lc c4.2
     refine Af [] [0,1] [] hk0 v0 (cc 1 (p:=(0≤(1:Int)∧(1:Int)≤(u.length:Int)∧(u.length:Int)≤(u.length:Int))) (by omega)<|c0) ?_
     refine Af [] [0,1] [] hk0 v0 (cc 1 (p:=(0≤(1:Int)∧(1:Int)≤(v.length:Int)∧(v.length:Int)≤(v.length:Int))) (by omega)<|c0) ?_
     refine Bp ?_
     refine⟨by kernel_rfl,_,?_,g1-1,(u.drop 1),(v.drop 1),?_,?_,?_,?_,(Eq.trans (b:=(⟨[(0,(.str ((u.take u.length).drop 1))),(1,(.str ((v.take v.length).drop 1)))],[],0⟩:St)) (by kernel_rfl) (by rw[List.take_length,List.take_length]<;>kernel_rfl)),rfl⟩
     ·omega
     ·rw[List.length_drop,List.length_drop];omega
     ·rw[List.length_drop];omega
     ·rw[List.length_drop];omega
     ·rw[hW,X0 (.inr ⟨c3,hv0,c4⟩)]
    ·try simp only[Am] at c4
     refine Ai ?_
     refine Ac ?_
     refine Ab [] [0,1,6,64] ?_
     refine Bd (q:=Bb u 94) (by kernel_rfl) (fun c5=>?_) (fun c5=>?_)
     ·try simp only[Am] at c5
      have hv9:Bb v 94=false:=by simp_all
      refine Ac ?_
      refine Ab [] [67] ?_
      refine A5 (p:=(v.length:Int)=0) (by kernel_rfl) (fun c6=>?_) (fun c6=>?_)
      ·refine Ab [] [4] ?_
       refine Ag ?_
       refine RK wR [(.int .i64 1)] ?_
       exact Same.of_eq (by simp only[Ak];rw[hW,Pu c3 hv0 (.inl ⟨c5,hv9,Qm c5⟩),if_pos c5,if_pos (List.length_eq_zero_iff.1 (by omega))])
      ·refine Ai ?_
       refine Ab [] [4] ?_
       refine Ag ?_
       refine RK wR [(.int .i64 (-1))] ?_
       exact Same.of_eq (by simp only[Ak];rw[hW,Pu c3 hv0 (.inl ⟨c5,hv9,Qm c5⟩),if_pos c5,if_neg (fun e=>c6 (by rw[e];rfl))])
     ·try simp only[Am] at c5
      refine Ai ?_
      refine Ac ?_
      refine Ab [] [0,1,68] ?_
      refine Bd (q:=Bb v 94) (by kernel_rfl) (fun c7=>?_) (fun c7=>?_)
      ·try simp only[Am] at c7
       refine Ac ?_
       refine Ab [] [71] ?_
       refine A5 (p:=(u.length:Int)=0) (by kernel_rfl) (fun c8=>?_) (fun c8=>?_)
       ·refine Ab [] [4] ?_
        refine Ag ?_
        refine RK wR [(.int .i64 (-1))] ?_
        exact Same.of_eq (by simp only[Ak];rw[hW,Pu c3 hv0 (.inr ⟨c5,c7,Qm c7⟩),if_neg (by simp[c5]),if_pos (List.length_eq_zero_iff.1 (by omega))])
       ·refine Ai ?_
        refine Ab [] [4] ?_
        refine Ag ?_
        refine RK wR [(.int .i64 1)] ?_
        exact Same.of_eq (by simp only[Ak];rw[hW,Pu c3 hv0 (.inr ⟨c5,c7,Qm c7⟩),if_neg (by simp[c5]),if_neg (fun e=>c8 (by rw[e];rfl))])
      ·try simp only[Am] at c7
       refine Ai ?_
       refine Ac ?_
       refine Af (CS:=[(5,((!(decide ((u.length:Int)=0)))=true→(!(decide ((u.length:Int)=0)))=true)),(6,((!(decide ((u.length:Int)=0)))=true→(!(decide ((u.length:Int)=0)))=true)),(7,((decide ((u.length:Int)=0))=false→(!(decide ((u.length:Int)=0)))=true))]) [76,77,78] [0,1,79] [] hk0 v0 (by refine cc _ ?_<|cc _ ?_<|cc _ ?_ c0<;>simp) ?_
       refine Bd (q:=(decide ((u.length:Int)=0))||(decide ((v.length:Int)=0))) (by kernel_rfl) (fun c9=>?_) (fun c9=>?_)
       ·try simp only[Am] at c9
        refine Af [] [4] [] (hk 5 Rg ((P2 ((u.length:Int)-(v.length:Int))).to (Same.of_eq (by rw[Ru])))<|hk0) v0 (cc 4 (p:=(-9223372036854775808≤(u.length:Int)-(v.length:Int)∧(u.length:Int)-(v.length:Int)≤9223372036854775807)) (by omega)<|c0) ?_
        refine Ag ?_
        refine RK wR [(.int .i64 (C7 (u.length:Int) (v.length:Int)))] ?_
        exact Same.of_eq (by simp only[Ak];rw[hW,Q8w c3 hv0 c5 c7 (by rcases c9 with h|h;exact .inl (List.length_eq_zero_iff.1 (by omega));exact .inr (List.length_eq_zero_iff.1 (by omega)))])
       ·try simp only[Am] at c9
        have hun:¬u=[]:=fun e=>c9.1 (by rw[e];rfl)
        have hvn:¬v=[]:=fun e=>c9.2 (by rw[e];rfl)
        have hrt:=Q8t (r:=E2 (g1-1)) c3 hv0 c5 c7 hun hvn
        have hru:=Q8m hmu c3 c5 hun
        have hcu:=F6 (Cg (Aq (Aj u 0))) u
        have hcv:=F6 (Cg (Aq (Aj u 0))) v
        refine Ai ?_
        refine Af [] [0,1,7] [] (hk 2 Lg (Kx (Aj u 0))<|hk0) v0 (cc 1 (p:=(0≤(0:Int)∧0 < u.length)) (by omega)<|c0) ?_
        refine Af [] [0,1,7,8] [] (hk 2 Rf (P3 u (Aq (Aj u 0)) (by omega))<|hk0) v0 c0 ?_
        refine Af [] [0,1,7,8,9] [] (hk 2 Rf (P3 v (Aq (Aj u 0)) (by omega))<|hk0) v0 c0 ?_
        refine Ac ?_
        refine Ab [] [0,1,7,8,9,96] ?_
        refine A5 (p:=(Ar (Cg (Aq (Aj u 0))) v:Int)=0) (by kernel_rfl) (fun c10=>?_) (fun c10=>?_)
        ·refine Ac ?_
         refine Ab [] [97] ?_
         refine Bd (q:=Aq (Aj u 0)) (by kernel_rfl) (fun c11=>?_) (fun c11=>?_)
         ·try simp only[Am] at c11
          refine Ab [] [4] ?_
          refine Ag ?_
          refine RK wR [(.int .i64 1)] ?_
          exact Same.of_eq (by simp only[Ak];rw[hW,hrt,if_pos (by omega),if_pos c11])
         ·try simp only[Am] at c11
          refine Ai ?_
          refine Ab [] [4] ?_
          refine Ag ?_
          refine RK wR [(.int .i64 (-1))] ?_
          exact Same.of_eq (by simp only[Ak];rw[hW,hrt,if_pos (by omega),if_neg (by simp[c11])])
        ·refine Ai ?_
         refine Cr (CS:=[(2,(0≤(0:Int)∧(0:Int)≤(Ar (Cg (Aq (Aj u 0))) u:Int)∧(Ar (Cg (Aq (Aj u 0))) u:Int)≤(u.length:Int))),(5,(0≤(0:Int)∧(0:Int)≤(Ar (Cg (Aq (Aj u 0))) v:Int)∧(Ar (Cg (Aq (Aj u 0))) v:Int)≤(v.length:Int)))]) [] [0,1,7,8,9,10] [] (hk 6 Q3f (Yg (u.take (Ar (Cg (Aq (Aj u 0))) u)) (v.take (Ar (Cg (Aq (Aj u 0))) v)))<|hk0) v0 (by refine cc _ ?_<|cc _ ?_ c0<;>omega) ?_
         refine Ac ?_
         refine Ab [] [0,1,8,9,10,105] ?_
         refine Bd (q:=Aq (Aj u 0)) (by kernel_rfl) (fun c12=>?_) (fun c12=>?_)
         ·try simp only[Am] at c12
          refine G9 (CS:=[(2,(0≤(0:Int)∧(0:Int)≤(Ar (Cg (Aq (Aj u 0))) u:Int)∧(Ar (Cg (Aq (Aj u 0))) u:Int)≤(u.length:Int))),(5,(0≤(0:Int)∧(0:Int)≤(Ar (Cg (Aq (Aj u 0))) v:Int)∧(Ar (Cg (Aq (Aj u 0))) v:Int)≤(v.length:Int)))]) [] [0,1,8,9,10] [] (hk 6 Vb (Tn (u.take (Ar (Cg (Aq (Aj u 0))) u)) (v.take (Ar (Cg (Aq (Aj u 0))) v)) (by rw[List.length_take];omega) (by rw[List.length_take];omega))<|hk0) v0 (by refine cc _ ?_<|cc _ ?_ c0<;>omega) ?_
          refine Ac ?_
          refine Ab [] [0,1,8,9,10,114] ?_
          refine Da (p:=(C3 (u.take (Ar (Cg (Aq (Aj u 0))) u)) (v.take (Ar (Cg (Aq (Aj u 0))) v)))=0) (by kernel_rfl) (fun c13=>?_) (fun c13=>?_)
          ·refine Ab [] [4] ?_
           refine Ag ?_
           refine RK wR [(.int .i64 (C3 (u.take (Ar (Cg (Aq (Aj u 0))) u)) (v.take (Ar (Cg (Aq (Aj u 0))) v))))] ?_
           exact Same.of_eq (by simp only[Ak];rw[hW,hrt,if_neg (by omega),if_pos (by rw[c12];rw[c12] at c13;exact c13),c12];rfl)
          ·refine Ai ?_
           refine Af [] [0,1,9] [] hk0 v0 (cc 2 (p:=(0≤(Ar (Cg (Aq (Aj u 0))) u:Int)∧(Ar (Cg (Aq (Aj u 0))) u:Int)≤(u.length:Int)∧(u.length:Int)≤(u.length:Int))) (by omega)<|c0) ?_
           refine An ?_
           refine Au 0 [] [0,1] [] hk0 v0 (cc 2 (p:=(0≤(Ar (Cg (Aq (Aj u 0))) v:Int)∧(Ar (Cg (Aq (Aj u 0))) v:Int)≤(v.length:Int)∧(v.length:Int)≤(v.length:Int))) (by omega)<|c0) ?_
           refine⟨by kernel_rfl,_,?_,g1-1,(u.drop (Ar (Cg (Aq (Aj u 0))) u)),(v.drop (Ar (Cg (Aq (Aj u 0))) v)),?_,?_,?_,?_,(Eq.trans (b:=(⟨[(0,(.str ((u.take u.length).drop (Ar (Cg (Aq (Aj u 0))) u)))),(1,(.str ((v.take v.length).drop (Ar (Cg (Aq (Aj u 0))) v))))],[],0⟩:St)) (by kernel_rfl) (by rw[List.take_length,List.take_length]<;>kernel_rfl)),rfl⟩
           ·omega
           ·rw[List.length_drop,List.length_drop];omega
           ·rw[List.length_drop];omega
           ·rw[List.length_drop];omega
           ·rw[hW,hrt,if_neg (by omega),if_neg (fun k=>k (by rw[c12];rw[c12] at c13;exact c13))]
         ·try simp only[Am] at c12
          refine Ai ?_
          refine Ac ?_
          refine Ab [] [0,1,8,9,10,114] ?_
          refine Da (p:=(Lib.compareBytes (u.take (Ar (Cg (Aq (Aj u 0))) u)) (v.take (Ar (Cg (Aq (Aj u 0))) v)))=0) (by kernel_rfl) (fun c14=>?_) (fun c14=>?_)
          ·refine Ab [] [4] ?_
           refine Ag ?_
           refine RK wR [(.int .i64 (Lib.compareBytes (u.take (Ar (Cg (Aq (Aj u 0))) u)) (v.take (Ar (Cg (Aq (Aj u 0))) v))))] ?_
           exact Same.of_eq (by simp only[Ak];rw[hW,hrt,if_neg (by omega),if_pos (by rw[c12];rw[c12] at c14;exact c14),c12];rfl)
          ·refine Ai ?_
           refine Af [] [0,1,9] [] hk0 v0 (cc 2 (p:=(0≤(Ar (Cg (Aq (Aj u 0))) u:Int)∧(Ar (Cg (Aq (Aj u 0))) u:Int)≤(u.length:Int)∧(u.length:Int)≤(u.length:Int))) (by omega)<|c0) ?_
           refine An ?_
           refine Au 0 [] [0,1] [] hk0 v0 (cc 2 (p:=(0≤(Ar (Cg (Aq (Aj u 0))) v:Int)∧(Ar (Cg (Aq (Aj u 0))) v:Int)≤(v.length:Int)∧(v.length:Int)≤(v.length:Int))) (by omega)<|c0) ?_
           refine⟨by kernel_rfl,_,?_,g1-1,(u.drop (Ar (Cg (Aq (Aj u 0))) u)),(v.drop (Ar (Cg (Aq (Aj u 0))) v)),?_,?_,?_,?_,(Eq.trans (b:=(⟨[(0,(.str ((u.take u.length).drop (Ar (Cg (Aq (Aj u 0))) u)))),(1,(.str ((v.take v.length).drop (Ar (Cg (Aq (Aj u 0))) v))))],[],0⟩:St)) (by kernel_rfl) (by rw[List.take_length,List.take_length]<;>kernel_rfl)),rfl⟩
           ·omega
           ·rw[List.length_drop,List.length_drop];omega
           ·rw[List.length_drop];omega
           ·rw[List.length_drop];omega
           ·rw[hW,hrt,if_neg (by omega),if_neg (fun k=>k (by rw[c12];rw[c12] at c14;exact c14))]
end Sv
end
section
open Go Go.RowKit
namespace Sv
attribute [local irreducible] SW SO Bs
set_option maxHeartbeats 1000000
set_option maxRecDepth 100000
theorem Q3o:As Tryz.prog 199:=Az Tryz.func199 (by kernel_rfl) rfl
theorem Q3m:As Tryz.prog 200:=Az Tryz.func200 (by kernel_rfl) rfl
theorem X5d:As Tryz.prog 175:=Az Tryz.func175 (by kernel_rfl) rfl
theorem X5e:As Tryz.prog 171:=Az Tryz.func171 (by kernel_rfl) rfl
theorem Iu:As Tryz.prog 201:=Az Tryz.func201 (by kernel_rfl) rfl
theorem Q83 {a b:List UInt8} (h:a=[]∨b=[]):C7 (a.length:Int) (b.length:Int)=E3 (!decide (a=[])) (!decide (b=[])) 1:=by
 unfold C7 E3
 cases a<;>cases b<;>simp_all
 all_goals omega
theorem Hk {s:List UInt8} (h:¬Cj s=0):Ct s=([],[],[]):=by unfold Ct;rw[if_neg h]
def Aw (op bit:Int):Bool:=decide (Int.tmod (Int.tdiv op bit) 2=1)
theorem to7 {op:Int} (h:0≤op∧op≤7):op=0∨op=1∨op=2∨op=3∨op=4∨op=5∨op=6∨op=7:=by omega
theorem X3e {op bit:Int} (h:0≤op∧op≤7) (k:bit=1∨bit=2∨bit=4):0≤Int.tdiv op bit∧Int.tdiv op bit≤7:=by
 rcases to7 h with rfl|rfl|rfl|rfl|rfl|rfl|rfl|rfl<;>rcases k with rfl|rfl|rfl<;>decide
theorem Qy {op bit:Int} (h:0≤op∧op≤7) (k:bit=1∨bit=4):Aw op bit = !decide (Go.bits .and .i64 op bit=0):=by
 rcases to7 h with rfl|rfl|rfl|rfl|rfl|rfl|rfl|rfl<;>rcases k with rfl|rfl<;>rfl
theorem X3f {op o:Int} (h:0≤op∧op≤7) (k:0≤o∧o≤7):((Aw op 2&&Aw o 2)||((Aw op 1&&Aw o 1)||(Aw op 4&&Aw o 4))) = !decide (Go.bits .and .i64 op o=0):=by
 rcases to7 h with rfl|rfl|rfl|rfl|rfl|rfl|rfl|rfl<;>rcases to7 k with rfl|rfl|rfl|rfl|rfl|rfl|rfl|rfl<;>rfl
theorem Yj (k : Int) (a b : (List UInt8 × List UInt8 × List UInt8)) (ha : a.1.length ≤ 4194304 ∧ a.2.1.length ≤ 4194304 ∧ a.2.2.length ≤ 4194304) (hb : b.1.length ≤ 4194304 ∧ b.2.1.length ≤ 4194304 ∧ b.2.2.length ≤ 4194304) :
  FnV Tryz.prog 200 [(.int .i64 k),(.agg [(.str a.1),(.str a.2.1),(.str a.2.2)]),(.agg [(.str b.1),(.str b.2.1),(.str b.2.2)])] (.tup [.int .i64 (B5 k a b).1,.int .i64 (B5 k a b).2]):=by
 refine A8 [.tmp 6,.tmp 7] Tryz.func200 rfl Tryz.ntmps200 rfl rfl (fun B F hF=>?_)
 refine Af [] [0,4,5] [(1,4),(2,5)] hk0 v0 c0 ?_
 refine Af [] [0,4,5,8] [] (hk 4 Vb (Tn a.1 b.1 ha.1 hb.1)<|hk0) v0 c0 ?_
 refine Ac ?_
 refine Ab [] [4,5,8,17] ?_
 refine A5 (p:=k=2) (by kernel_rfl) (fun c1=>?_) (fun c1=>?_)
 ·refine Dm (fun y=>∃(c:Int),c=orI (C3 a.1 b.1) (H0 a.2.1 b.2.1)∧y=⟨[(4,(.fp (.agg [(.str a.1),(.str a.2.1),(.str a.2.2)]))),(5,(.fp (.agg [(.str b.1),(.str b.2.1),(.str b.2.2)]))),(8,(.int .i64 c))],[],2⟩) [4,5,8] 2 (by omega) ?_ ?_
  ·refine Ab [] [4,5,8,19] ?_
   refine A5 (p:=(C3 a.1 b.1)=0) (by kernel_rfl) (fun c2=>?_) (fun c2=>?_)
   ·refine An ?_
    refine Au 0 [] [4,5,8] [] (hk 4 Q3i (Yo _ a.2.1 b.2.1 (Nat.lt_succ_self _) (by first|omega|(rw[jra];exact E4 ha.2.2)|(rw[jrb];exact E4 hb.2.2)) (by first|omega|(rw[jra];exact E4 ha.2.2)|(rw[jrb];exact E4 hb.2.2)))<|hk0) v0 c0 ?_
    refine⟨by kernel_rfl,(H0 a.2.1 b.2.1),?_,(by kernel_rfl)⟩
    unfold orI
    rw[if_pos (by assumption)]
   ·refine Ai ?_
    refine⟨by kernel_rfl,(C3 a.1 b.1),?_,(by kernel_rfl)⟩
    unfold orI
    rw[if_neg (by assumption)]
  ·rintro y1 ⟨c,jc,rfl⟩
   refine Ab [] [5,8,9] ?_
   refine Ab [] [8,9,10] ?_
   refine Dm (fun y=>∃(ra:List UInt8),ra=orS a.2.2 [48]∧y=⟨[(8,(.int .i64 c)),(9,(.str ra)),(10,(.str b.2.2))],[],2⟩) [8,9,10] 2 (by omega) ?_ ?_
   ·refine Ab [] [8,9,10,30] ?_
    refine A5 (p:=a.2.2=[]) (by kernel_rfl) (fun c3=>?_) (fun c3=>?_)
    ·refine An ?_
     refine Ei [] [8,9,10] ?_
     refine⟨by kernel_rfl,[48],?_,(by kernel_rfl)⟩
     unfold orS
     rw[if_pos (by assumption)]
    ·refine Ai ?_
     refine⟨by kernel_rfl,a.2.2,?_,(by kernel_rfl)⟩
     unfold orS
     rw[if_neg (by assumption)]
   ·rintro y2 ⟨ra,jra,rfl⟩
    refine Dm (fun y=>∃(rb:List UInt8),rb=orS b.2.2 [48]∧y=⟨[(8,(.int .i64 c)),(9,(.str ra)),(10,(.str rb))],[],2⟩) [8,9,10] 2 (by omega) ?_ ?_
    ·refine Ab [] [8,9,10,32] ?_
     refine A5 (p:=b.2.2=[]) (by kernel_rfl) (fun c4=>?_) (fun c4=>?_)
     ·refine An ?_
      refine Ei [] [8,9,10] ?_
      refine⟨by kernel_rfl,[48],?_,(by kernel_rfl)⟩
      unfold orS
      rw[if_pos (by assumption)]
     ·refine Ai ?_
      refine⟨by kernel_rfl,b.2.2,?_,(by kernel_rfl)⟩
      unfold orS
      rw[if_neg (by assumption)]
    ·rintro y3 ⟨rb,jrb,rfl⟩
     refine Af [] [6,7] [] (hk 3 Q3i (Yo _ ra rb (Nat.lt_succ_self _) (by first|omega|(rw[jra];exact E4 ha.2.2)|(rw[jrb];exact E4 hb.2.2)) (by first|omega|(rw[jra];exact E4 ha.2.2)|(rw[jrb];exact E4 hb.2.2)))<|hk0) v0 c0 ?_
     refine Ag ?_
     refine RK wR [(.int .i64 c),(.int .i64 (H0 ra rb))] ?_
     exact Same.of_eq (by simp only[Ak];unfold B5;rw[if_pos c1,jc,jra,jrb])
 ·refine Ai ?_
  refine Dm (fun y=>∃(c:Int),c=orI (C3 a.1 b.1) (Gr a.2.1 b.2.1)∧y=⟨[(4,(.fp (.agg [(.str a.1),(.str a.2.1),(.str a.2.2)]))),(5,(.fp (.agg [(.str b.1),(.str b.2.1),(.str b.2.2)]))),(8,(.int .i64 c))],[],2⟩) [4,5,8] 2 (by omega) ?_ ?_
  ·refine Ab [] [4,5,8,38] ?_
   refine A5 (p:=(C3 a.1 b.1)=0) (by kernel_rfl) (fun c5=>?_) (fun c5=>?_)
   ·refine An ?_
    refine Au 0 [] [4,5,8] [] (hk 4 Q3h (Yf _ a.2.1 b.2.1 (Nat.lt_succ_self _) (by first|omega|(rw[jra];exact E4 ha.2.2)|(rw[jrb];exact E4 hb.2.2)) (by first|omega|(rw[jra];exact E4 ha.2.2)|(rw[jrb];exact E4 hb.2.2)))<|hk0) v0 c0 ?_
    refine⟨by kernel_rfl,(Gr a.2.1 b.2.1),?_,(by kernel_rfl)⟩
    unfold orI
    rw[if_pos (by assumption)]
   ·refine Ai ?_
    refine⟨by kernel_rfl,(C3 a.1 b.1),?_,(by kernel_rfl)⟩
    unfold orI
    rw[if_neg (by assumption)]
  ·rintro y4 ⟨c,jc,rfl⟩
   refine Ac ?_
   refine Af (CS:=[(5,((!(decide (a.2.2=[])))=true→(!(decide (a.2.2=[])))=true)),(6,((!(decide (a.2.2=[])))=true→(!(decide (a.2.2=[])))=true)),(7,((decide (a.2.2=[]))=false→(!(decide (a.2.2=[])))=true))]) [48,49,50] [4,5,8,51] [] hk0 v0 (by refine cc _ ?_<|cc _ ?_<|cc _ ?_ c0<;>simp) ?_
   refine Bd (q:=(decide (a.2.2=[]))||(decide (b.2.2=[]))) (by kernel_rfl) (fun c6=>?_) (fun c6=>?_)
   ·try simp only[Am] at c6
    refine Af [] [6,7] [] (hk 8 Rg ((P2 ((a.2.2.length:Int)-(b.2.2.length:Int))).to (Same.of_eq (by rw[Ru])))<|hk0) v0 (cc 7 (p:=(-9223372036854775808≤(a.2.2.length:Int)-(b.2.2.length:Int)∧(a.2.2.length:Int)-(b.2.2.length:Int)≤9223372036854775807)) (by omega)<|c0) ?_
    refine Ag ?_
    refine RK wR [(.int .i64 c),(.int .i64 (C7 (a.2.2.length:Int) (b.2.2.length:Int)))] ?_
    exact Same.of_eq (by simp only[Ak];unfold B5;rw[if_neg c1,if_pos (by assumption),jc,Q83 (by assumption)])
   ·try simp only[Am] at c6
    refine Ai ?_
    refine Af [] [6,7] [] (hk 5 Q3h (Yf _ a.2.2 b.2.2 (Nat.lt_succ_self _) (by first|omega|(rw[jra];exact E4 ha.2.2)|(rw[jrb];exact E4 hb.2.2)) (by first|omega|(rw[jra];exact E4 ha.2.2)|(rw[jrb];exact E4 hb.2.2)))<|hk0) v0 c0 ?_
    refine Ag ?_
    refine RK wR [(.int .i64 c),(.int .i64 (Gr a.2.2 b.2.2))] ?_
    exact Same.of_eq (by simp only[Ak];unfold B5;rw[if_neg c1,if_neg (by simp_all),jc])
theorem Yp (kind : Int) (a b : List UInt8) (ha : a.length ≤ 4194304) (hb : b.length ≤ 4194304) :
  FnV Tryz.prog 199 [(.int .i64 kind),(.str a),(.str b)] (.tup [(.agg [.str (A7 kind a b).1.1,.str (A7 kind a b).1.2.1,.str (A7 kind a b).1.2.2]),(.agg [.str (A7 kind a b).2.1.1,.str (A7 kind a b).2.1.2.1,.str (A7 kind a b).2.1.2.2]),.int .i64 (A7 kind a b).2.2]):=by
 refine A8 [.cell 6 150,.cell 7 150,.tmp 8] Tryz.func199 rfl Tryz.ntmps199 rfl rfl (fun B F hF=>?_)
 refine Ab [] [0,1,2,6,7] ?_
 refine Ac ?_
 refine Af (CS:=[(4,((!decide (kind=1))=true→(!decide (kind=1))=true)),(5,((!decide (kind=1))=true→(!decide (kind=1))=true))]) [15,16] [1,2,6,7,17] [] hk0 v0 (by refine cc _ ?_<|cc _ ?_ c0<;>simp) ?_
 refine Bd (q:=(!decide (kind=1))&&(!decide (kind=2))) (by kernel_rfl) (fun c1=>?_) (fun c1=>?_)
 ·try simp only[Am] at c1
  refine Ab [] [6,7,8] ?_
  refine Ag ?_
  refine RK wR [(.agg [(.str []),(.str []),(.str [])]),(.agg [(.str []),(.str []),(.str [])]),(.int .i64 1)] ?_
  exact Same.of_eq (by simp only[Ak];unfold A7;first|(rw[if_pos (by omega)];done)|(rw[if_neg (by omega),if_pos (by omega)];done)|(rw[if_neg (by omega),if_neg (by omega),Hk (by omega)];done))
 ·try simp only[Am] at c1
  refine Ai ?_
  refine Af [] [2,6,7,9,10] [(7,9)] (hk 1 Ot (P0 a (by omega))<|hk0) v0 c0 ?_
  refine Ac ?_
  refine Ab [] [2,6,7,9,10,26] ?_
  refine Da (p:=(Cj a)=0) (by kernel_rfl) (fun c2=>?_) (fun c2=>?_)
  ·refine Ab [] [6,7,8] ?_
   refine Ag ?_
   refine RK wR [(.agg [(.str []),(.str []),(.str [])]),(.agg [(.str []),(.str []),(.str [])]),(.int .i64 (Cj a))] ?_
   exact Same.of_eq (by simp only[Ak];unfold A7;first|(rw[if_pos (by omega)];done)|(rw[if_neg (by omega),if_pos (by omega)];done)|(rw[if_neg (by omega),if_neg (by omega),Hk (by omega)];done))
  ·refine Ai ?_
   refine Af [] [6,7,9,10,11] [(7,11)] (hk 1 Ot (P0 b (by omega))<|hk0) v0 c0 ?_
   refine Cr [] [6,7,8] [] hk0 v0 c0 ?_
   refine Ag ?_
   refine RK wR [(.agg [(.str ((Ct a).1)),(.str ((Ct a).2.1)),(.str ((Ct a).2.2))]),(.agg [(.str ((Ct b).1)),(.str ((Ct b).2.1)),(.str ((Ct b).2.2))]),(.int .i64 (Cj b))] ?_
   exact Same.of_eq (by simp only[Ak];unfold A7;first|(rw[if_pos (by omega)];done)|(rw[if_neg (by omega),if_pos (by omega)];done)|(rw[if_neg (by omega),if_neg (by omega),Hk (by omega)];done))
theorem Q9t (k : Int) (a b : List UInt8) (ha : a.length ≤ 4194304) (hb : b.length ≤ 4194304) :
  FnV Tryz.prog 175 [(.int .i64 k),(.str a),(.str b)] (.tup [.int .i64 (Dv k a b).1,.int .i64 (Dv k a b).2]):=by
 have hbl:=Rz k a b
 refine A8 [.tmp 6,.tmp 7] Tryz.func175 rfl Tryz.ntmps175 rfl rfl (fun B F hF=>?_)
 refine Ab [] [0,1,2] ?_
 refine Af [] [0,8,9,10] [(11,8),(12,9)] (hk 3 Q3o (Yp k a b (by omega) (by omega))<|hk0) v0 c0 ?_
 refine Ac ?_
 refine Ab [] [0,8,9,10,22] ?_
 refine Da (p:=((A7 k a b).2.2)=0) (by kernel_rfl) (fun c1=>?_) (fun c1=>?_)
 ·refine Ab [] [6,7] ?_
  refine Ag ?_
  refine RK wR [(.int .i64 0),(.int .i64 ((A7 k a b).2.2))] ?_
  exact Same.of_eq (by simp only[Ak];unfold Dv;rw[if_pos (by assumption)])
 ·refine Ai ?_
  refine Af [] [11,12] [] (hk 3 Q3m (Yj k (A7 k a b).1 (A7 k a b).2.1 ⟨by omega,by omega,by omega⟩ ⟨by omega,by omega,by omega⟩)<|hk0) v0 c0 ?_
  refine Ac ?_
  refine Ab [] [11,12,32] ?_
  refine Da (p:=((B5 k (A7 k a b).1 (A7 k a b).2.1).1)=0) (by kernel_rfl) (fun c2=>?_) (fun c2=>?_)
  ·refine Ab [] [6,7] ?_
   refine Ag ?_
   refine RK wR [(.int .i64 ((B5 k (A7 k a b).1 (A7 k a b).2.1).1)),(.int .i64 0)] ?_
   exact Same.of_eq (by simp only[Ak];unfold Dv;rw[if_neg (by simp_all)];unfold orI;rw[if_neg (by assumption)])
  ·refine Ai ?_
   refine Ab [] [6,7] ?_
   refine Ag ?_
   refine RK wR [(.int .i64 ((B5 k (A7 k a b).1 (A7 k a b).2.1).2)),(.int .i64 0)] ?_
   exact Same.of_eq (by simp only[Ak];unfold Dv;rw[if_neg (by simp_all)];unfold orI;rw[if_pos (by simp_all)])
theorem Ic (op bit : Int) (h1 : 0 ≤ op ∧ op ≤ 7) (h2 : bit = 1 ∨ bit = 2 ∨ bit = 4) :
  FnV Tryz.prog 201 [(.int .i64 op),(.int .i64 bit)] (.bool (Aw op bit)):=by
 have hq:0≤Int.tdiv op bit∧Int.tdiv op bit≤7:=X3e h1 h2
 refine A8 [.tmp 4] Tryz.func201 rfl Tryz.ntmps201 rfl rfl (fun B F hF=>?_)
 refine Ab [] [0,1] ?_
 refine Af (CS:=[(2,(bit≠0 ∧ -9223372036854775808≤Int.tdiv op bit∧Int.tdiv op bit≤9223372036854775807)),(3,((2:Int)≠0))]) [] [4] [] hk0 v0 (by refine cc _ ?_<|cc _ ?_ c0<;>omega) ?_
 refine Ag ?_
 refine RK wR [(.bool (decide ((Int.tmod (Int.tdiv op bit) 2)=1)))] ?_
 exact Same.of_eq (by first|rfl|(simp only[Ak];simp_all))
theorem Q9o (k op : Int) (a : List UInt8) (o : Int) (b : List UInt8) (ha : a.length ≤ 4194304) (hb : b.length ≤ 4194304) :
  FnV Tryz.prog 171 [(.int .i64 k),(.int .i64 op),(.str a),(.int .i64 o),(.str b)] (.tup [.bool (Aa k op a o b).1,.int .i64 (Aa k op a o b).2]):=by
 have hbl:=Rz k a b
 refine A8 [.tmp 10,.tmp 11] Tryz.func171 rfl Tryz.ntmps171 rfl rfl (fun B F hF=>?_)
 refine Ab [] [0,1,2,3,4] ?_
 refine Ac ?_
 refine Af (CS:=[(4,((!decide (k=1))=true→(!decide (k=1))=true)),(5,((!decide (k=1))=true→(!decide (k=1))=true)),(8,((!((!decide (k=1))&&(!decide (k=2))))=true→(!((!decide (k=1))&&(!decide (k=2))))=true)),(9,(((!decide (k=1))&&(!decide (k=2)))=false→(!((!decide (k=1))&&(!decide (k=2))))=true)),(12,((!(((!decide (k=1))&&(!decide (k=2)))||(decide (op < 0))))=true→(!(((!decide (k=1))&&(!decide (k=2)))||(decide (op < 0))))=true)),(13,((((!decide (k=1))&&(!decide (k=2)))||(decide (op < 0)))=false→(!(((!decide (k=1))&&(!decide (k=2)))||(decide (op < 0))))=true)),(16,((!((((!decide (k=1))&&(!decide (k=2)))||(decide (op < 0)))||(decide (7 < op))))=true→(!((((!decide (k=1))&&(!decide (k=2)))||(decide (op < 0)))||(decide (7 < op))))=true)),(17,(((((!decide (k=1))&&(!decide (k=2)))||(decide (op < 0)))||(decide (7 < op)))=false→(!((((!decide (k=1))&&(!decide (k=2)))||(decide (op < 0)))||(decide (7 < op))))=true)),(20,((!(((((!decide (k=1))&&(!decide (k=2)))||(decide (op < 0)))||(decide (7 < op)))||(decide (o < 0))))=true→(!(((((!decide (k=1))&&(!decide (k=2)))||(decide (op < 0)))||(decide (7 < op)))||(decide (o < 0))))=true)),(21,((((((!decide (k=1))&&(!decide (k=2)))||(decide (op < 0)))||(decide (7 < op)))||(decide (o < 0)))=false→(!(((((!decide (k=1))&&(!decide (k=2)))||(decide (op < 0)))||(decide (7 < op)))||(decide (o < 0))))=true))]) [20,21,24,25,28,29,32,33,36,37] [0,1,2,3,4,38] [] hk0 v0 (by refine cc _ ?_<|cc _ ?_<|cc _ ?_<|cc _ ?_<|cc _ ?_<|cc _ ?_<|cc _ ?_<|cc _ ?_<|cc _ ?_<|cc _ ?_ c0<;>first|omega|(simp;omega)|(simp;done)|(intros;simp_all;omega)|(intros;simp_all;done)) ?_
 refine Bd (q:=(((((!decide (k=1))&&(!decide (k=2)))||(decide (op < 0)))||(decide (7 < op)))||(decide (o < 0)))||(decide (7 < o))) (by kernel_rfl) (fun c1=>?_) (fun c1=>?_)
 ·try simp only[Am] at c1
  refine Ab [] [10,11] ?_
  refine Ag ?_
  refine RK wR [(.bool false),(.int .i64 1)] ?_
  refine Same.of_eq ?_
  simp only[Ak]
  rw[show Aa k op a o b=(false,1) from by unfold Aa;rw[if_pos (by omega)]]
 ·try simp only[Am] at c1
  refine Ai ?_
  refine Ac ?_
  refine Af (CS:=[(4,((!(decide (op=0)))=true→(!(decide (op=0)))=true)),(5,((decide (op=0))=false→(!(decide (op=0)))=true))]) [42,43] [0,1,2,3,4,44] [] hk0 v0 (by refine cc _ ?_<|cc _ ?_ c0<;>simp) ?_
  refine Bd (q:=(decide (op=0))||(decide (o=0))) (by kernel_rfl) (fun c2=>?_) (fun c2=>?_)
  ·try simp only[Am] at c2
   refine Ab [] [10,11] ?_
   refine Ag ?_
   refine RK wR [(.bool true),(.int .i64 0)] ?_
   refine Same.of_eq ?_
   simp only[Ak]
   rw[show Aa k op a o b=(true,0) from by unfold Aa;rw[if_neg (by omega),if_pos (by omega)]]
  ·try simp only[Am] at c2
   refine Ai ?_
   refine Af [] [0,1,3,12,13,14] [(11,12),(12,13)] (hk 3 Q3o (Yp k a b (by omega) (by omega))<|hk0) v0 c0 ?_
   refine Ac ?_
   refine Ab [] [0,1,3,12,13,14,54] ?_
   refine Da (p:=((A7 k a b).2.2)=0) (by kernel_rfl) (fun c3=>?_) (fun c3=>?_)
   ·refine Ab [] [10,11] ?_
    refine Ag ?_
    refine RK wR [(.bool false),(.int .i64 ((A7 k a b).2.2))] ?_
    refine Same.of_eq ?_
    simp only[Ak]
    rw[show Aa k op a o b=(false,(A7 k a b).2.2) from by unfold Aa;rw[if_neg (by omega),if_neg (by omega),if_pos (by omega)]]
   ·refine Ai ?_
    refine Af [] [1,3,12,13,15,16] [] (hk 3 Q3m (Yj k (A7 k a b).1 (A7 k a b).2.1 ⟨by omega,by omega,by omega⟩ ⟨by omega,by omega,by omega⟩)<|hk0) v0 c0 ?_
    refine Dm (fun y=>∃(c:Int),c=K7 (A7 k a b).1.2.2 (A7 k a b).2.1.2.2 (B5 k (A7 k a b).1 (A7 k a b).2.1).1 (B5 k (A7 k a b).1 (A7 k a b).2.1).2∧y=⟨[(1,(.int .i64 op)),(3,(.int .i64 o)),(15,(.int .i64 c))],[],2⟩) [1,3,15] 2 (by omega) ?_ ?_
    ·refine Af (CS:=[(4,((decide (((B5 k (A7 k a b).1 (A7 k a b).2.1).1)=0))=true→(decide (((B5 k (A7 k a b).1 (A7 k a b).2.1).1)=0))=true)),(5,((decide (((B5 k (A7 k a b).1 (A7 k a b).2.1).1)=0))=true→(decide (((B5 k (A7 k a b).1 (A7 k a b).2.1).1)=0))=true)),(6,((decide (((B5 k (A7 k a b).1 (A7 k a b).2.1).1)=0))=true→(decide (((B5 k (A7 k a b).1 (A7 k a b).2.1).1)=0))=true)),(9,(((decide (((B5 k (A7 k a b).1 (A7 k a b).2.1).1)=0))&&(!decide (((A7 k a b).1).2.2=[])))=true→((decide (((B5 k (A7 k a b).1 (A7 k a b).2.1).1)=0))&&(!decide (((A7 k a b).1).2.2=[])))=true)),(10,(((decide (((B5 k (A7 k a b).1 (A7 k a b).2.1).1)=0))&&(!decide (((A7 k a b).1).2.2=[])))=true→((decide (((B5 k (A7 k a b).1 (A7 k a b).2.1).1)=0))&&(!decide (((A7 k a b).1).2.2=[])))=true)),(11,(((decide (((B5 k (A7 k a b).1 (A7 k a b).2.1).1)=0))&&(!decide (((A7 k a b).1).2.2=[])))=true→((decide (((B5 k (A7 k a b).1 (A7 k a b).2.1).1)=0))&&(!decide (((A7 k a b).1).2.2=[])))=true))]) [66,67,68,71,72,73] [1,3,15,16,74] [] hk0 v0 (by refine cc _ ?_<|cc _ ?_<|cc _ ?_<|cc _ ?_<|cc _ ?_<|cc _ ?_ c0<;>simp) ?_
     refine Bd (q:=((decide (((B5 k (A7 k a b).1 (A7 k a b).2.1).1)=0))&&(!decide (((A7 k a b).1).2.2=[])))&&(!decide (((A7 k a b).2.1).2.2=[]))) (by kernel_rfl) (fun c4=>?_) (fun c4=>?_)
     ·try simp only[Am] at c4
      refine An ?_
      refine Ei [] [1,3,15] ?_
      refine⟨by kernel_rfl,((B5 k (A7 k a b).1 (A7 k a b).2.1).2),?_,(by kernel_rfl)⟩
      unfold K7
      rw[if_pos (by simp_all)]
     ·try simp only[Am] at c4
      refine Ai ?_
      refine⟨by kernel_rfl,((B5 k (A7 k a b).1 (A7 k a b).2.1).1),?_,(by kernel_rfl)⟩
      unfold K7
      rw[if_neg (fun q=>by simp[q.1,q.2.1,q.2.2] at c4)]
    ·rintro y1 ⟨c,jc,rfl⟩
     refine Ac ?_
     refine Ab [] [1,3,15,77] ?_
     refine A5 (p:=c < 0) (by kernel_rfl) (fun c5=>?_) (fun c5=>?_)
     ·refine Af (CS:=[(4,(!(Aw op 4))=true→(!(Aw op 4))=true),(5,((Aw op 4)=false→(!(Aw op 4))=true))]) [81] [10,11] [] (hk 1 Iu (Ic op 4 (by omega) (by omega))<|hkg 4 (!(Aw op 4)) Iu (fun cg=>Ic o 1 (by omega) (by omega))<|hk0) v0 (by refine cc _ ?_<|cc _ ?_ c0<;>simp) ?_
      refine Ag ?_
      refine RK wR [(.bool ((Aw op 4)||(Aw o 1))),(.int .i64 0)] ?_
      refine Same.of_eq ?_
      simp only[Ak]
      rw[show Aa k op a o b=(G0 (Gz k a b) op o,0) from by unfold Aa;rw[if_neg (by omega),if_neg (by omega),if_neg (by omega)]]
      rw[show Gz k a b=c from jc.symm]
      unfold G0
      rw[if_pos (by omega),Qy (by omega) (.inr rfl),Qy (by omega) (.inl rfl)]
     ·refine Ai ?_
      refine Ac ?_
      refine Ab [] [1,3,85] ?_
      refine A5 (p:=0 < c) (by kernel_rfl) (fun c6=>?_) (fun c6=>?_)
      ·refine Af (CS:=[(4,(!(Aw op 1))=true→(!(Aw op 1))=true),(5,((Aw op 1)=false→(!(Aw op 1))=true))]) [89] [10,11] [] (hk 1 Iu (Ic op 1 (by omega) (by omega))<|hkg 4 (!(Aw op 1)) Iu (fun cg=>Ic o 4 (by omega) (by omega))<|hk0) v0 (by refine cc _ ?_<|cc _ ?_ c0<;>simp) ?_
       refine Ag ?_
       refine RK wR [(.bool ((Aw op 1)||(Aw o 4))),(.int .i64 0)] ?_
       refine Same.of_eq ?_
       simp only[Ak]
       rw[show Aa k op a o b=(G0 (Gz k a b) op o,0) from by unfold Aa;rw[if_neg (by omega),if_neg (by omega),if_neg (by omega)]]
       rw[show Gz k a b=c from jc.symm]
       unfold G0
       rw[if_neg (by omega),if_pos (by omega),Qy (by omega) (.inl rfl),Qy (by omega) (.inr rfl)]
      ·refine Ai ?_
       have qh1:(((Aw op 2)=true→(Aw op 2)=true)):=by
        first|omega|(intro hq;simpa using hq)|(simp;done)|(cases Aw op 2<;>cases Aw o 2<;>cases Aw op 1<;>cases Aw o 1<;>cases Aw op 4<;>simp)
       have qh2:(((!((Aw op 2)&&(Aw o 2)))=true→(!((Aw op 2)&&(Aw o 2)))=true)):=by
        first|omega|(intro hq;simpa using hq)|(simp;done)|(cases Aw op 2<;>cases Aw o 2<;>cases Aw op 1<;>cases Aw o 1<;>cases Aw op 4<;>simp)
       have qh3:(((!((Aw op 2)&&(Aw o 2)))=true→((!((Aw op 2)&&(Aw o 2)))=true)∧((Aw op 1)=true→((!((Aw op 2)&&(Aw o 2)))&&(Aw op 1))=true)))∧((((Aw op 2)&&(Aw o 2))=false→(!((Aw op 2)&&(Aw o 2)))=true)):=by
        first|omega|(intro hq;simpa using hq)|(simp;done)|(cases Aw op 2<;>cases Aw o 2<;>cases Aw op 1<;>cases Aw o 1<;>cases Aw op 4<;>simp)
       have qh4:(((!(((Aw op 2)&&(Aw o 2))||((Aw op 1)&&(Aw o 1))))=true→(!(((Aw op 2)&&(Aw o 2))||((Aw op 1)&&(Aw o 1))))=true)):=by
        first|omega|(intro hq;simpa using hq)|(simp;done)|(cases Aw op 2<;>cases Aw o 2<;>cases Aw op 1<;>cases Aw o 1<;>cases Aw op 4<;>simp)
       have qh5:(((!(((Aw op 2)&&(Aw o 2))||((Aw op 1)&&(Aw o 1))))=true→((!(((Aw op 2)&&(Aw o 2))||((Aw op 1)&&(Aw o 1))))=true)∧((Aw op 4)=true→((!(((Aw op 2)&&(Aw o 2))||((Aw op 1)&&(Aw o 1))))&&(Aw op 4))=true)))∧(((((Aw op 2)&&(Aw o 2))||((Aw op 1)&&(Aw o 1)))=false→(!(((Aw op 2)&&(Aw o 2))||((Aw op 1)&&(Aw o 1))))=true)):=by
        first|omega|(intro hq;simpa using hq)|(simp;done)|(cases Aw op 2<;>cases Aw o 2<;>cases Aw op 1<;>cases Aw o 1<;>cases Aw op 4<;>simp)
       refine Af [95,99,101,102,104,107,109,110,112] [10,11] [] (hk 1 Iu (Ic op 2 (by omega) (by omega))<|hkg 4 (Aw op 2) Iu (fun cg=>Ic o 2 (by omega) (by omega))<|hkg 8 (!((Aw op 2)&&(Aw o 2))) Iu (fun cg=>Ic op 1 (by omega) (by omega))<|hkg 11 ((!((Aw op 2)&&(Aw o 2)))&&(Aw op 1)) Iu (fun cg=>Ic o 1 (by omega) (by omega))<|hkg 16 (!(((Aw op 2)&&(Aw o 2))||((Aw op 1)&&(Aw o 1)))) Iu (fun cg=>Ic op 4 (by omega) (by omega))<|hkg 19 ((!(((Aw op 2)&&(Aw o 2))||((Aw op 1)&&(Aw o 1))))&&(Aw op 4)) Iu (fun cg=>Ic o 4 (by omega) (by omega))<|hk0) v0 (cc 4 (p:=(Aw op 2)=true→(Aw op 2)=true) (by omega)<|cc 5 (p:=((Aw op 2)=true→(Aw op 2)=true)) qh1<|cc 8 (p:=(!((Aw op 2)&&(Aw o 2)))=true→(!((Aw op 2)&&(Aw o 2)))=true) (by omega)<|cc 9 (p:=((!((Aw op 2)&&(Aw o 2)))=true→(!((Aw op 2)&&(Aw o 2)))=true)) qh2<|cc 11 (p:=((!((Aw op 2)&&(Aw o 2)))&&(Aw op 1))=true→((!((Aw op 2)&&(Aw o 2)))&&(Aw op 1))=true) (by simp)<|cc 12 (p:=((!((Aw op 2)&&(Aw o 2)))=true→((!((Aw op 2)&&(Aw o 2)))=true)∧((Aw op 1)=true→((!((Aw op 2)&&(Aw o 2)))&&(Aw op 1))=true))) qh3.1<|cc 13 (p:=(((Aw op 2)&&(Aw o 2))=false→(!((Aw op 2)&&(Aw o 2)))=true)) qh3.2<|cc 16 (p:=(!(((Aw op 2)&&(Aw o 2))||((Aw op 1)&&(Aw o 1))))=true→(!(((Aw op 2)&&(Aw o 2))||((Aw op 1)&&(Aw o 1))))=true) (by omega)<|cc 17 (p:=((!(((Aw op 2)&&(Aw o 2))||((Aw op 1)&&(Aw o 1))))=true→(!(((Aw op 2)&&(Aw o 2))||((Aw op 1)&&(Aw o 1))))=true)) qh4<|cc 19 (p:=((!(((Aw op 2)&&(Aw o 2))||((Aw op 1)&&(Aw o 1))))&&(Aw op 4))=true→((!(((Aw op 2)&&(Aw o 2))||((Aw op 1)&&(Aw o 1))))&&(Aw op 4))=true) (by simp)<|cc 20 (p:=((!(((Aw op 2)&&(Aw o 2))||((Aw op 1)&&(Aw o 1))))=true→((!(((Aw op 2)&&(Aw o 2))||((Aw op 1)&&(Aw o 1))))=true)∧((Aw op 4)=true→((!(((Aw op 2)&&(Aw o 2))||((Aw op 1)&&(Aw o 1))))&&(Aw op 4))=true))) qh5.1<|cc 21 (p:=((((Aw op 2)&&(Aw o 2))||((Aw op 1)&&(Aw o 1)))=false→(!(((Aw op 2)&&(Aw o 2))||((Aw op 1)&&(Aw o 1))))=true)) qh5.2<|c0) ?_
       refine Ag ?_
       refine RK wR [(.bool ((((Aw op 2)&&(Aw o 2))||((Aw op 1)&&(Aw o 1)))||((Aw op 4)&&(Aw o 4)))),(.int .i64 0)] ?_
       refine Same.of_eq ?_
       simp only[Ak]
       rw[show Aa k op a o b=(G0 (Gz k a b) op o,0) from by unfold Aa;rw[if_neg (by omega),if_neg (by omega),if_neg (by omega)]]
       rw[show Gz k a b=c from jc.symm]
       unfold G0
       rw[if_neg (by omega),if_neg (by omega),Bool.or_assoc,X3f (by omega) (by omega)]
end Sv
end
section
open Go Go.RowKit
namespace Sv
theorem X64 {x:Int} {l:List Int}:x∈Lib.compact l↔x∈l:=by
  constructor
  · intro h
    unfold Lib.compact Lib.compactUpTo at h
    obtain⟨i,hi,rfl⟩:=List.mem_map.1 h
    have hi:=(List.mem_filter.1 hi).1
    rw[List.mem_range] at hi
    simp[getElem!_pos,hi]
  · intro h
    obtain⟨i,hi,rfl⟩:=List.getElem_of_mem h
    unfold Lib.compact Lib.compactUpTo
    induction i with
    |zero=>exact List.mem_map.2 ⟨0,List.mem_filter.2 ⟨by simpa using hi,Lib.keeps_lt_one _ 0 (by omega)⟩,by simp[hi]⟩
    |succ i ih =>
      cases hk:Lib.keeps l.toArray (i+1) with
      |true=>exact List.mem_map.2 ⟨i+1,List.mem_filter.2 ⟨by simpa using hi,hk⟩,by simp[hi]⟩
      |false =>
        have e:l[i+1]=l[i]:=by
          unfold Lib.keeps at hk
          simp at hk
          have hi':i < l.length:=by omega
          simpa [hi,hi'] using hk
        rw[e]
        exact ih (by omega) (List.getElem_mem _)
def Ga (k:Int) (d:DepT) (op:Int) (ev:List UInt8):Bool:=if d.op=0 then true else if op=0 then false else (Aa k d.op d.evr op ev).1
theorem Q3 {k:Int} {d:DepT} {o:OfferT}:Jh Aa k d o=Ga k d o.op o.evr:=by
  unfold Jh Ga
  by_cases h:d.op=0
  · rw[if_pos (.inl h),if_pos h,decide_eq_true h]
  · by_cases q:o.op=0
    · rw[if_pos (.inr q),if_neg h,if_pos q,decide_eq_false h]
    · rw[if_neg (by simp[h,q]),if_neg h,if_neg q]
def G1 (k:Int) (p:PkgT) (d:DepT):Bool:=decide (p.name=d.name)&&Ga k d 2 p.evr
theorem Yq {i:Nat} {p:PkgT} {q:List UInt8 × OfferT} (h:q∈Fo i p):q.2.id=(i:Int):=by
  unfold Fo D1 Ee at h
  rw[List.take_length,List.take_length] at h
  rcases List.mem_append.1 h with h|h
  · rcases List.mem_cons.1 h with rfl|h
    · rfl
    · obtain⟨d,_,rfl⟩:=List.mem_map.1 h;rfl
  · obtain⟨f,_,rfl⟩:=List.mem_map.1 h;rfl
theorem namedL_mem {st:PoolT} {d:DepT} {own:Bool} {x:Int}:x∈Fg Aa st d own↔∃i,i < st.all.length∧x=(i:Int)∧∃q∈Fo i (nth st.all i).1,q.1=d.name∧G2 Aa st d own q.2=true:=by
  unfold Fg
  rw[X64]
  unfold D2
  rw[List.take_length]
  constructor
  · intro h
    obtain⟨o,ho,rfl⟩:=List.mem_map.1 h
    obtain⟨h1,h2⟩:=List.mem_filter.1 ho
    unfold Cm at h1
    obtain⟨q,hq,rfl⟩:=List.mem_map.1 h1
    obtain⟨h3,h4⟩:=List.mem_filter.1 hq
    unfold Bu at h3
    obtain⟨i,hi,h5⟩:=List.mem_flatMap.1 h3
    exact⟨i,by simpa using hi,Yq h5,q,h5,by simpa using h4,h2⟩
  · rintro⟨i,hi,rfl,q,hq,h1,h2⟩
    refine List.mem_map.2 ⟨q.2,List.mem_filter.2 ⟨?_,h2⟩,Yq hq⟩
    unfold Cm
    refine List.mem_map.2 ⟨q,List.mem_filter.2 ⟨?_,by simp[h1]⟩,rfl⟩
    unfold Bu
    exact List.mem_flatMap.2 ⟨i,by simpa using hi,hq⟩
theorem X0i {st:PoolT} {d:DepT} {x:Int} (hx:0≤x∧x < st.all.length):x∈Fg Aa st d true↔G1 st.kind (nth st.all x.toNat).1 d=true:=by
  rw[namedL_mem]
  constructor
  · rintro⟨i,hi,rfl,q,hq,h1,h2⟩
    unfold Fo D1 Ee at hq
    rw[List.take_length,List.take_length] at hq
    have ho:q.2.own=true:=by unfold G2 at h2;cases k:q.2.own<;>simp_all
    have hf:Jh Aa st.kind d q.2=true:=by unfold G2 at h2;simp only[Bool.and_eq_true] at h2;exact h2.2
    rcases List.mem_append.1 hq with hq|hq
    · rcases List.mem_cons.1 hq with rfl|hq
      · rw[Q3] at hf
        unfold G1
        rw[show((i:Nat):Int).toNat=i from rfl,decide_eq_true h1]
        exact hf
      · obtain⟨e,_,rfl⟩:=List.mem_map.1 hq;cases ho
    · obtain⟨f,_,rfl⟩:=List.mem_map.1 hq;cases ho
  · intro h
    unfold G1 at h
    simp only[Bool.and_eq_true,decide_eq_true_eq] at h
    refine⟨x.toNat,by omega,by omega,((nth st.all x.toNat).1.name,⟨(x.toNat:Nat),true,2,(nth st.all x.toNat).1.evr⟩),?_,h.1,?_⟩
    · unfold Fo D1 Ee
      exact List.mem_append_left _ List.mem_cons_self
    · unfold G2
      rw[Q3]
      simpa using h.2
def J1 (st:PoolT) (id o:Int):Bool:=(nth st.all o.toNat).1.obsoletes.any fun d=>G1 st.kind (nth st.all id.toNat).1 d
def Lr (st:PoolT):Prop:=∀q∈st.all,∀d∈q.1.obsoletes,Cu d=0∧d.kind=1
theorem Q5k {α:Type} {f g:α→Bool}:∀{l:List α},(∀x∈l,f x=g x)→l.any f=l.any g
  |[],_=>rfl
  |x::l,h=>by rw[List.any_cons,List.any_cons,h x (by simp),Q5k fun y hy=>h y (by simp[hy])]
theorem X1a {st:PoolT} (h:Lr st) {id o:Int} (hi:0≤id∧id < st.all.length) (ho:0≤o∧o < st.all.length):Em Aa st id o=J1 st id o:=by
  unfold Em J1
  refine Q5k fun d hd=>?_
  have hm:nth st.all o.toNat∈st.all:=by rw[Dy (by omega)];exact List.getElem_mem _
  obtain⟨h1,h2⟩:=h _ hm d hd
  have e:(E5 Aa st d).1=Fg Aa st d true:=by unfold E5 Ff;rw[if_pos h1,h2];rfl
  rw[e,Bool.eq_iff_iff,decide_eq_true_eq,X0i hi]
theorem Q97 {k:Int} {l:List RepoT} (h:∀q∈(A1 k l).1.all,Ex q.1=true):Lr (A1 k l).1:=by
  intro q hq d hd
  have hl:=h q hq
  unfold Ex at hl
  simp only[Bool.and_eq_true] at hl
  have hl:=hl.1.1.2
  unfold Dz at hl
  simp only[Bool.and_eq_true,List.all_eq_true] at hl
  have hq:=hl.2 d hd
  unfold F5 at hq
  simp at hq
  exact⟨hq.1,hq.2⟩
theorem Q2k {f g:Int→Bool}:∀{l:List Int},(∀x∈l,f x=g x)→B8 f l=B8 g l
  |[],_=>rfl
  |x::l,h=>by unfold B8;rw[h x (by simp),Q2k fun y hy=>h y (by simp[hy])]
theorem X3z {f g:Int→Bool} {l:List Int} (h:∀x∈l,f x=g x):Bw f l=Bw g l:=by unfold Bw;rw[Q2k h]
theorem Q2l {p:Int→Bool} {l:List Int} {i:Nat} (h:i < l.length) (h1:∀j,j < i→p (nth l j)=false) (h2:p (nth l i)=true):Bw p l=nth l i:=by
  unfold Bw;rw[J5 h h1 h2,if_pos (by omega)];rfl
theorem Q2h {p:Int→Bool} {l:List Int} (h:∀j,j < l.length→p (nth l j)=false):Bw p l = -1:=by
  unfold Bw;rw[J4 h];rfl
theorem Q2i {p:Int→Bool} {l:List Int} (h:∀x∈l,0≤x) (k:Bw p l < 0):Bw p l = -1:=by
  unfold Bw at k ⊢
  have:=La p l
  split at k
  · rename_i q
    have hm:nth l (B8 p l).toNat∈l:=by rw[Dy (by omega)];exact List.getElem_mem _
    have:=h _ hm;omega
  · rename_i q;rw[if_neg q]
def Ej (st:PoolT) (c g:List Int) (i:Nat):List Bq:=((List.range i).filter fun (k:Nat)=>decide ((k:Int)∈c)||decide ((k:Int)∈g)).map fun (k:Nat)=>A2 Aa st c g (k:Int)
theorem Q7o (st:PoolT) (c g:List Int) (i:Nat):(Ej st c g i).length≤i:=by
  unfold Ej
  rw[List.length_map]
  exact Nat.le_trans (List.length_filter_le _ _) (by simp)
theorem Xe {st:PoolT} {c g:List Int} {i:Nat} (h:(i:Int)∈c∨(i:Int)∈g):Ej st c g (i+1)=Ej st c g i++[A2 Aa st c g (i:Int)]:=by
  unfold Ej
  rw[List.range_succ,List.filter_append,List.map_append]
  rcases h with h|h<;>simp[h]
theorem Q7n {st:PoolT} {c g:List Int} {i:Nat} (h:¬(i:Int)∈c) (k:¬(i:Int)∈g):Ej st c g (i+1)=Ej st c g i:=by
  unfold Ej
  rw[List.range_succ,List.filter_append,List.map_append]
  simp[h,k]
theorem Q8z {l:List Nat} (h:l.Pairwise (· < ·)):C4 (l.map fun (k:Nat)=>(k:Int)):=by
  induction l with
  |nil=>trivial
  |cons a l ih =>
    rw[List.pairwise_cons] at h
    refine⟨fun y hy=>?_,ih h.2⟩
    obtain⟨z,hz,rfl⟩:=List.mem_map.1 hy
    have:=h.1 z hz
    show(a:Int) < (z:Int)
    omega
theorem Q7p {st:PoolT} {a b:List Int} (ha:∀x∈a,0≤x∧x < st.all.length) (hb:∀x∈b,0≤x∧x < st.all.length):Ej st (Ad b a) (Ad a b) st.all.length=Ba (A2 Aa st) a b:=by
  unfold Ej Ba
  have e:A3 (Ad b a) (Ad a b)=((List.range st.all.length).filter fun (k:Nat)=>decide ((k:Int)∈Ad b a)||decide ((k:Int)∈Ad a b)).map fun (k:Nat)=>(k:Int):=by
    refine Td (Nh _ _) (Q8z (List.Pairwise.filter _ List.pairwise_lt_range)) fun x=>?_
    rw[unionZ_mem,List.mem_map]
    constructor
    · intro h
      have hx:0≤x∧x < st.all.length:=by
        rcases h with h|h
        · exact hb x (minusZ_mem.1 h).1
        · exact ha x (minusZ_mem.1 h).1
      have ex:((x.toNat:Nat):Int)=x:=by omega
      refine⟨x.toNat,List.mem_filter.2 ⟨List.mem_range.2 (by omega),?_⟩,ex⟩
      rw[ex]
      rcases h with h|h<;>simp[h]
    · rintro⟨k,hk,rfl⟩
      have:=(List.mem_filter.1 hk).2
      simpa using this
  rw[e,List.map_map];rfl
end Sv
end
section
open Go Go.RowKit
namespace Sv
attribute [local irreducible] SW SO Bs
set_option maxHeartbeats 1000000
set_option maxRecDepth 100000
theorem Jj:As Tryz.prog 63:=Az Tryz.func63 (by kernel_rfl) rfl
theorem X4o:As Tryz.prog 65:=Az Tryz.func65 (by kernel_rfl) rfl
theorem Q31:As Tryz.prog 128:=Az Tryz.func128 (by kernel_rfl) rfl
theorem Q21:As Tryz.prog 64:=Az Tryz.func64 (by kernel_rfl) rfl
theorem Q3n:As Tryz.prog 20:=Az Tryz.func20 (by kernel_rfl) rfl
theorem X7r {st:PoolT} {pl:List (Int × Int)} (h:Fk st pl) {i:Nat} (hi:i < st.all.length):nth (nth st.repos (nth pl i).1.toNat).pkgs (nth pl i).2.toNat=(nth st.all i).1:=(h.2 i hi).2.2.2.2.1
theorem X2p {n:Nat} {l:List Int} (h:∀j,j < l.length→0≤nth l j∧nth l j < n):(l.all fun x=>decide (0≤x)&&decide (x < n))=true:=by
 rw[List.all_eq_true]
 intro x hx
 obtain⟨j,hj,rfl⟩:=List.getElem_of_mem hx
 have:=h j hj
 rw[Dy hj] at this
 simp[this.1,this.2]
theorem X2q {n:Nat} {l:List Int} {i:Nat} (hi:i < l.length) (h:¬(0≤nth l i∧nth l i < n)):(l.all fun x=>decide (0≤x)&&decide (x < n))=false:=by
 rw[List.all_eq_false]
 refine⟨nth l i,by rw[Dy hi];exact List.getElem_mem hi,?_⟩
 simp only[Bool.and_eq_true,decide_eq_true_eq];exact h
theorem I5 (st : PoolT) (pl : List (Int × Int)) (h : Fk st pl) (i : Nat) (hi : i < st.all.length) :
  FnV Tryz.prog 63 [(.fp (B9 st pl)),(.int .i64 ((i:Int)))] (Av ((nth st.all i).1)):=by
 have hp:=h.2 i hi
 have hl:=h.1
 refine A8 [.cell 4 38] Tryz.func63 rfl Tryz.ntmps63 rfl rfl (fun B F hF=>?_)
 refine Ab [] [0,1,4] ?_
 refine Cr (CS:=[(9,(0≤(i:Int)∧i < pl.length)),(10,(0≤(0:Int)∧0 < 2)),(12,(0≤(nth pl i).1∧((nth pl i).1).toNat < st.repos.length)),(20,(0≤(i:Int)∧i < pl.length)),(21,(0≤(1:Int)∧1 < 2)),(23,(0≤(nth pl i).2∧((nth pl i).2).toNat < ((nth st.repos (((nth pl i).1).toNat)).pkgs).length))]) [] [4] [] hk0 v0 (by refine cc _ ?_<|cc _ ?_<|cc _ ?_<|cc _ ?_<|cc _ ?_<|cc _ ?_ c0<;>omega) ?_
 refine Ag ?_
 refine RK wR [(Av (nth ((nth st.repos (((nth pl i).1).toNat)).pkgs) (((nth pl i).2).toNat)))] ?_
 exact Same.of_eq (by simp only[Ak];rw[←X7r h hi])
theorem Q9q (st : PoolT) (pl : List (Int × Int)) (id : Int) :
  FnV Tryz.prog 65 [(.fp (B9 st pl)),(.int .i64 id)] (.bool (decide (0≤id)&&decide (id < (pl.length:Int)))):=by
 refine A8 [.tmp 4] Tryz.func65 rfl Tryz.ntmps65 rfl rfl (fun B F hF=>?_)
 refine Ab [] [0,1] ?_
 obtain⟨b1,hb1⟩:∃b,b=(decide (0≤id)):=⟨_,rfl⟩
 refine Af (CS:=[(5,(b1=true→b1=true)),(6,(b1=true→b1=true)),(7,(b1=true→b1=true)),(8,(b1=true→b1=true)),(9,(b1=true→b1=true∧b1=true)),(10,(b1=true→b1=true))]) [8,9,10,11,12,13,14] [4] [] hk0 (vk 3 7 (a:=.bool (decide (0≤id))) (b:=.bool b1) (Imp.of_eq (by rw[hb1]))<|v0) (by refine cc _ ?_<|cc _ ?_<|cc _ ?_<|cc _ ?_<|cc _ ?_<|cc _ ?_ c0<;>simp) ?_
 refine Ag ?_
 refine RK wR [(.bool (b1&&(decide (id < (pl.length:Int)))))] ?_
 subst hb1
 exact Same.of_eq (by first|rfl|(simp only[Ak];simp_all))
theorem Ym (st : PoolT) (pl : List (Int × Int)) (l : List Int) (hl : l.length ≤ 4611686018427) :
  FnV Tryz.prog 20 [(.fp (B9 st pl)),(Ah l)] (.bool (l.all fun x=>decide (0≤x)&&decide (x < (pl.length:Int)))):=by
 refine A8 [.tmp 4] Tryz.func20 rfl Tryz.ntmps20 rfl rfl (fun B F hF=>?_)
 refine Ab [] [0,1] ?_
 refine Ac ?_
 refine Ab [] [0,1,5] ?_
 refine Ay ?_
 refine Bz (fun g y=>∃(i:Nat),i≤l.length∧(∀j,j < i→0≤nth l j∧nth l j < (pl.length:Int))∧y=⟨[(0,(.fp (B9 st pl))),(1,(Ah l)),(5,(.int .i64 ((i:Int))))],[],0⟩∧g=l.length-i) [0,1,5] 0 _ (by omega) ⟨0,(by omega),(by exact fun j hj=>by omega),(by kernel_rfl),rfl⟩ ?_
 rintro g1 y1 ⟨i,f1_1,f1_2,rfl,rfl⟩
 refine Ac ?_
 refine Ab [] [0,1,5,10] ?_
 refine A5 (p:=(i:Int) < (l.length:Int)) (by kernel_rfl) (fun c1=>?_) (fun c1=>?_)
 ·refine Ai ?_
  refine Ac ?_
  refine Ay ?_
  refine Af [] [0,1,5,6] [] (hk 5 X4o (Q9q st pl (nth l i))<|hk0) v0 (cc 3 (p:=(0≤(i:Int)∧i < l.length)) (by omega)<|c0) ?_
  refine Ab [] [0,1,5,20] ?_
  refine Bd (q:=!(decide (0≤(nth l i))&&decide ((nth l i) < (pl.length:Int)))) (by kernel_rfl) (fun c2=>?_) (fun c2=>?_)
  ·try simp only[Am] at c2
   refine Ab [] [4] ?_
   refine Ag ?_
   refine RK wR [(.bool false)] ?_
   exact Same.of_eq (by simp only[Ak];rw[X2q (i:=i) (by omega) (by intro q;simp[q.1,q.2] at c2)])
  ·try simp only[Am] at c2
   refine Ai ?_
   refine An ?_
   refine Au 0 [] [0,1,5] [] hk0 v0 (cc 1 (p:=(-9223372036854775808≤(i:Int)+1∧(i:Int)+1≤9223372036854775807)) (by omega)<|c0) ?_
   refine⟨by kernel_rfl,_,?_,i+1,?_,?_,(by kernel_rfl),rfl⟩
   ·omega
   ·omega
   ·intro j hj
    by_cases h:j=i
    ·subst h;simp_all
    ·exact f1_2 j (by omega)
 ·refine Bp ?_
  refine Ab [] [4] ?_
  refine Ag ?_
  refine RK wR [(.bool true)] ?_
  exact Same.of_eq (by simp only[Ak];rw[X2p fun j hj=>f1_2 j (by omega)])
theorem Ye (k : Int) (d : DepT) (op : Int) (ev : List UInt8) (hd : d.evr.length ≤ 4194304) (he : ev.length ≤ 4194304) :
  FnV Tryz.prog 128 [(.int .i64 k),(.agg [(.int .i64 d.kind),(.str d.name),(.int .i64 d.op),(.str d.evr),(.row 5 d.args.length (depAt d.args))]),(.int .i64 op),(.str ev)] (.bool (Ga k d op ev)):=by
 refine A8 [.tmp 8] Tryz.func128 rfl Tryz.ntmps128 rfl rfl (fun B F hF=>?_)
 refine Af [] [0,2,3,5] [(1,5)] hk0 v0 c0 ?_
 refine Ac ?_
 refine Ab [] [0,2,3,5,13] ?_
 refine A5 (p:=d.op=0) (by kernel_rfl) (fun c1=>?_) (fun c1=>?_)
 ·refine Ab [] [8] ?_
  refine Ag ?_
  refine RK wR [(.bool true)] ?_
  exact Same.of_eq (by simp only[Ak];unfold Ga;rw[if_pos (by assumption)])
 ·refine Ai ?_
  refine Ac ?_
  refine Ab [] [0,2,3,5,15] ?_
  refine A5 (p:=op=0) (by kernel_rfl) (fun c2=>?_) (fun c2=>?_)
  ·refine Ab [] [8] ?_
   refine Ag ?_
   refine RK wR [(.bool false)] ?_
   exact Same.of_eq (by simp only[Ak];unfold Ga;rw[if_neg (by assumption),if_pos (by assumption)])
  ·refine Ai ?_
   refine Af [] [9] [] (hk 7 X5e (Q9o k d.op d.evr op ev (by omega) (by omega))<|hk0) v0 c0 ?_
   refine Ab [] [8] ?_
   refine Ag ?_
   refine RK wR [(.bool ((Aa k d.op d.evr op ev).1))] ?_
   exact Same.of_eq (by simp only[Ak];unfold Ga;rw[if_neg (by assumption),if_neg (by assumption)])
theorem Yn (k : Int) (p : PkgT) (d : DepT) (hd : d.evr.length ≤ 4194304) (he : p.evr.length ≤ 4194304) :
  FnV Tryz.prog 64 [(.int .i64 k),(Av p),(.agg [(.int .i64 d.kind),(.str d.name),(.int .i64 d.op),(.str d.evr),(.row 5 d.args.length (depAt d.args))])] (.bool (G1 k p d)):=by
 refine A8 [.tmp 6] Tryz.func64 rfl Tryz.ntmps64 rfl rfl (fun B F hF=>?_)
 refine Af [] [0,4,5] [(1,4),(2,5)] hk0 v0 c0 ?_
 obtain⟨b1,hb1⟩:∃b,b=(decide (p.name=d.name)):=⟨_,rfl⟩
 refine Af (CS:=[(9,(b1=true→b1=true)),(10,b1=true→b1=true∧b1=true∧b1=true),(11,(b1=true→b1=true))]) [13,14,15,16] [6] [] (hkg 10 b1 Q31 (fun cg=>Ye k d 2 p.evr hd he)<|hk0) (vk 6 12 (a:=.bool (decide (p.name=d.name))) (b:=.bool b1) (Imp.of_eq (by rw[hb1]))<|v0) (by refine cc _ ?_<|cc _ ?_<|cc _ ?_ c0<;>simp) ?_
 refine Ag ?_
 refine RK wR [(.bool (b1&&(Ga k d 2 p.evr)))] ?_
 subst hb1
 exact Same.of_eq (by simp only[Ak];rfl)
end Sv
end
section
open Go Go.RowKit
namespace Sv
attribute [local irreducible] SW SO Bs
set_option maxHeartbeats 1000000
set_option maxRecDepth 100000
theorem Q3t:As Tryz.prog 174:=Az Tryz.func174 (by kernel_rfl) rfl
theorem X5c:As Tryz.prog 176:=Az Tryz.func176 (by kernel_rfl) rfl
theorem X50:As Tryz.prog 136:=Az Tryz.func136 (by kernel_rfl) rfl
theorem X5z:As Tryz.prog 137:=Az Tryz.func137 (by kernel_rfl) rfl
theorem X4n:As Tryz.prog 74:=Az Tryz.func74 (by kernel_rfl) rfl
theorem X4j:As Tryz.prog 79:=Az Tryz.func79 (by kernel_rfl) rfl
theorem X37 {d:DepT}:d.evr.length≤d.size:=by cases d;simp only[DepT.size,DepT.evr];omega
theorem Q92 {x:Int} {s:List Int} (h:C4 s):C5 x s=A3 s [x]:=by
 have:C5 x (Cf s)=Cf (s++[x]):=Nw
 rw[Nr h] at this;exact this
theorem X08 {st:PoolT} {id:Nat} {o:Int} {k:Nat} (hk:k < (nth st.all o.toNat).1.obsoletes.length) (h:G1 st.kind (nth st.all id).1 (nth (nth st.all o.toNat).1.obsoletes k)=true):J1 st (id:Int) o=true:=by
 unfold J1
 rw[List.any_eq_true]
 exact⟨_,by rw[Dy hk];exact List.getElem_mem hk,h⟩
theorem X09 {st:PoolT} {id:Nat} {o:Int} {k:Nat} (hk:(nth st.all o.toNat).1.obsoletes.length≤k) (h:∀j,j < k→G1 st.kind (nth st.all id).1 (nth (nth st.all o.toNat).1.obsoletes j)=false):J1 st (id:Int) o=false:=by
 unfold J1
 rw[List.any_eq_false]
 intro d hd
 obtain⟨j,hj,rfl⟩:=List.getElem_of_mem hd
 have:=h j (by omega)
 rw[Dy hj] at this
 rw[show((id:Nat):Int).toNat=id from rfl,this];simp
theorem Yl (st : PoolT) (pl : List (Int × Int)) (h : Fk st pl) (hi : IdxOk st) (l : List Int) (id : Nat) (hl : l.length ≤ 4194304) (hr : ∀ x ∈ l, 0 ≤ x ∧ x < st.all.length) (hid : id < st.all.length) :
  FnV Tryz.prog 174 [(.fp (B9 st pl)),(Ah l),(.int .i64 ((id:Int)))] (.int .i64 (Bw (Ce st (id:Int)) l)):=by
 refine A8 [.tmp 6] Tryz.func174 rfl Tryz.ntmps174 rfl rfl (fun B F hF=>?_)
 refine Ab [] [0,1,2] ?_
 refine Ac ?_
 refine Ab [] [0,1,2,7] ?_
 refine Ay ?_
 refine Bz (fun g y=>∃(i:Nat),i≤l.length∧(∀j,j < i→Ce st (id:Int) (nth l j)=false)∧y=⟨[(0,(.fp (B9 st pl))),(1,(Ah l)),(2,(.int .i64 ((id:Int)))),(7,(.int .i64 ((i:Int))))],[],0⟩∧g=l.length-i) [0,1,2,7] 0 _ (by omega) ⟨0,(by omega),(by exact fun j hj=>by omega),(by kernel_rfl),rfl⟩ ?_
 rintro g1 y1 ⟨i,f1_1,f1_2,rfl,rfl⟩
 refine Ac ?_
 refine Ab [] [0,1,2,7,11] ?_
 refine A5 (p:=(i:Int) < (l.length:Int)) (by kernel_rfl) (fun c1=>?_) (fun c1=>?_)
 ·have hli:=hr (nth l i) (Jb (by omega))
  refine Ai ?_
  refine Ac ?_
  refine Ay ?_
  refine Af [] [0,1,2,7,25] [] (hk 5 (al:=[(.fp (B9 st pl)),(.int .i64 (nth l i))]) Jj ((I5 st pl h (nth l i).toNat (by omega)).of_args (ImpL.cons Imp.refl (ImpL.cons (Imp.of_eq (congrArg (AV.int .i64) (Je hli.1))) ImpL.nil)))<|hk 9 Jj (I5 st pl h id hid)<|hk0) v0 (cc 3 (p:=(0≤(i:Int)∧i < l.length)) (by omega)<|c0) ?_
  refine A5 (p:=((nth st.all ((nth l i).toNat)).1).name=((nth st.all id).1).name) (by kernel_rfl) (fun c2=>?_) (fun c2=>?_)
  ·refine Af [] [6] [] hk0 v0 (cc 2 (p:=(0≤(i:Int)∧i < l.length)) (by omega)<|c0) ?_
   refine Ag ?_
   refine RK wR [(.int .i64 (nth l i))] ?_
   exact Same.of_eq (by simp only[Ak];rw[Q2l (i:=i) (by omega) f1_2 (decide_eq_true c2)])
  ·refine Ai ?_
   refine An ?_
   refine Au 0 [] [0,1,2,7] [] hk0 v0 (cc 1 (p:=(-9223372036854775808≤(i:Int)+1∧(i:Int)+1≤9223372036854775807)) (by omega)<|c0) ?_
   refine⟨by kernel_rfl,_,?_,i+1,?_,?_,(by kernel_rfl),rfl⟩
   ·omega
   ·omega
   ·intro j hj
    by_cases q:j=i
    ·subst q;exact decide_eq_false c2
    ·exact f1_2 j (by omega)
 ·refine Bp ?_
  refine Ab [] [6] ?_
  refine Ag ?_
  refine RK wR [(.int .i64 (-1))] ?_
  exact Same.of_eq (by simp only[Ak];rw[Q2h fun j hj=>f1_2 j (by omega)])
theorem Q9j (st : PoolT) (pl : List (Int × Int)) (h : Fk st pl) (hi : IdxOk st) (ho : Lr st) (l : List Int) (id : Nat) (hl : l.length ≤ 4194304) (hr : ∀ x ∈ l, 0 ≤ x ∧ x < st.all.length) (hid : id < st.all.length) :
  FnV Tryz.prog 176 [(.fp (B9 st pl)),(Ah l),(.int .i64 ((id:Int)))] (.int .i64 (Bw (Em Aa st (id:Int)) l)):=by
 have hpz:=Kz (hi.2 id hid)
 have hcg:Bw (Em Aa st (id:Int)) l=Bw (J1 st (id:Int)) l:=X3z fun x hx=>X1a ho (by omega) (hr x hx)
 refine A8 [.tmp 6] Tryz.func176 rfl Tryz.ntmps176 rfl rfl (fun B F hF=>?_)
 refine Ab [] [0,1,2] ?_
 refine Ac ?_
 refine Ab [] [0,1,2,7] ?_
 refine Ay ?_
 refine Bz (fun g y=>∃(i:Nat),i≤l.length∧(∀j,j < i→J1 st (id:Int) (nth l j)=false)∧y=⟨[(0,(.fp (B9 st pl))),(1,(Ah l)),(2,(.int .i64 ((id:Int)))),(7,(.int .i64 ((i:Int))))],[],0⟩∧g=l.length-i) [0,1,2,7] 0 _ (by omega) ⟨0,(by omega),(by exact fun j hj=>by omega),(by kernel_rfl),rfl⟩ ?_
 rintro g1 y1 ⟨i,f1_1,f1_2,rfl,rfl⟩
 refine Ac ?_
 refine Ab [] [0,1,2,7,14] ?_
 refine A5 (p:=(i:Int) < (l.length:Int)) (by kernel_rfl) (fun c1=>?_) (fun c1=>?_)
 ·have hli:=hr (nth l i) (Jb (by omega))
  have hlz:=Kz (hi.2 (nth l i).toNat (by omega))
  refine Ai ?_
  refine Ac ?_
  refine Ay ?_
  refine Af [] [0,1,2,7,8] [] (hk 5 (al:=[(.fp (B9 st pl)),(.int .i64 (nth l i))]) Jj ((I5 st pl h (nth l i).toNat (by omega)).of_args (ImpL.cons Imp.refl (ImpL.cons (Imp.of_eq (congrArg (AV.int .i64) (Je hli.1))) ImpL.nil)))<|hk0) v0 (cc 3 (p:=(0≤(i:Int)∧i < l.length)) (by omega)<|c0) ?_
  refine Ab [] [0,1,2,7,8,9] ?_
  refine Ay ?_
  refine Bz (fun g y=>∃(k:Nat),k≤(nth st.all (nth l i).toNat).1.obsoletes.length∧(∀j,j < k→G1 st.kind (nth st.all id).1 (nth (nth st.all (nth l i).toNat).1.obsoletes j)=false)∧y=⟨[(0,(.fp (B9 st pl))),(1,(Ah l)),(2,(.int .i64 ((id:Int)))),(7,(.int .i64 ((i:Int)))),(8,(Ae 5 Ao (((nth st.all ((nth l i).toNat)).1).obsoletes))),(9,(.int .i64 ((k:Int))))],[],0⟩∧g=(nth st.all (nth l i).toNat).1.obsoletes.length-k) [0,1,2,7,8,9] 0 _ (by omega) ⟨0,(by omega),(by exact fun j hj=>by omega),(by kernel_rfl),rfl⟩ ?_
  rintro g2 y2 ⟨k,f2_1,f2_2,rfl,rfl⟩
  refine Ac ?_
  refine Ab [] [0,1,2,7,8,9,27] ?_
  refine A5 (p:=(k:Int) < ((((nth st.all ((nth l i).toNat)).1).obsoletes).length:Int)) (by kernel_rfl) (fun c2=>?_) (fun c2=>?_)
  ·refine Ai ?_
   refine Ac ?_
   refine Ay ?_
   refine Cr [] [0,1,2,7,8,9,10] [] (hk 6 Jj (I5 st pl h id hid)<|hk 11 Q21 (Yn st.kind (nth st.all id).1 (nth (nth st.all (nth l i).toNat).1.obsoletes k) (by have:=X37 (d:=nth (nth st.all (nth l i).toNat).1.obsoletes k);have:=hlz.2.2 k (by omega);omega) (by omega))<|hk0) v0 (cc 9 (p:=(0≤(k:Int)∧k < (((nth st.all ((nth l i).toNat)).1).obsoletes).length)) (by omega)<|c0) ?_
   refine Ab [] [0,1,2,7,8,9,42] ?_
   refine Bd (q:=G1 st.kind (nth st.all id).1 (nth (nth st.all (nth l i).toNat).1.obsoletes k)) (by kernel_rfl) (fun c3=>?_) (fun c3=>?_)
   ·try simp only[Am] at c3
    refine Af [] [6] [] hk0 v0 (cc 2 (p:=(0≤(i:Int)∧i < l.length)) (by omega)<|c0) ?_
    refine Ag ?_
    refine RK wR [(.int .i64 (nth l i))] ?_
    exact Same.of_eq (by simp only[Ak];rw[hcg,Q2l (i:=i) (by omega) f1_2 (X08 (k:=k) (by omega) c3)])
   ·try simp only[Am] at c3
    refine Ai ?_
    refine An ?_
    refine Au 0 [] [0,1,2,7,8,9] [] hk0 v0 (cc 1 (p:=(-9223372036854775808≤(k:Int)+1∧(k:Int)+1≤9223372036854775807)) (by omega)<|c0) ?_
    refine⟨by kernel_rfl,_,?_,k+1,?_,?_,(by kernel_rfl),rfl⟩
    ·omega
    ·omega
    ·intro j hj
     by_cases q:j=k
     ·subst q;exact c3
     ·exact f2_2 j (by omega)
  ·refine Bp ?_
   refine An ?_
   refine Au 0 [] [0,1,2,7] [] hk0 v0 (cc 1 (p:=(-9223372036854775808≤(i:Int)+1∧(i:Int)+1≤9223372036854775807)) (by omega)<|c0) ?_
   refine⟨by kernel_rfl,_,?_,i+1,?_,?_,(by kernel_rfl),rfl⟩
   ·omega
   ·omega
   ·intro j hj
    by_cases q:j=i
    ·subst q;exact X09 (k:=k) (by omega) f2_2
    ·exact f1_2 j (by omega)
 ·refine Bp ?_
  refine Ab [] [6] ?_
  refine Ag ?_
  refine RK wR [(.int .i64 (-1))] ?_
  exact Same.of_eq (by simp only[Ak];rw[hcg,Q2h fun j hj=>f1_2 j (by omega)])
theorem Q9u (st : PoolT) (pl : List (Int × Int)) (h : Fk st pl) (hi : IdxOk st) (l : List Int) (id : Nat) (hl : l.length ≤ 4194304) (hr : ∀ x ∈ l, 0 ≤ x ∧ x < st.all.length) (hid : id < st.all.length) :
  FnV Tryz.prog 136 [(.fp (B9 st pl)),(Ah l),(.int .i64 ((id:Int)))] (.agg [(.int .i64 ((Gl st l (id:Int)).1)),(.int .i64 ((Gl st l (id:Int)).2.1)),(.int .i64 ((Gl st l (id:Int)).2.2))]):=by
 have hpz:=Kz (hi.2 id hid)
 have hri:∀j,j < l.length→0≤nth l j∧nth l j < st.all.length:=fun j hj=>hr _ (Jb hj)
 refine A8 [.cell 6 66] Tryz.func136 rfl Tryz.ntmps136 rfl rfl (fun B F hF=>?_)
 refine Ab [] [0,1,2,6] ?_
 refine Af [] [0,2,6,7] [] (hk 3 Q3t (Yl st pl h hi l id hl hr hid)<|hk0) v0 c0 ?_
 refine Ac ?_
 refine Ab [] [0,2,6,7,16] ?_
 refine A5 (p:=(Bw (Ce st (id:Int)) l) < 0) (by kernel_rfl) (fun c1=>?_) (fun c1=>?_)
 ·refine Ab [] [6] ?_
  refine Ag ?_
  refine RK wR [(.agg [(.int .i64 1),(.int .i64 ((id:Int))),(.int .i64 (-1))])] ?_
  exact Same.of_eq (by simp only[Ak];unfold Gl;rw[if_neg (by omega),Q2i (fun x hx=>(hr x hx).1) c1])
 ·have hfo:=Q2j hri (Int.not_lt.1 c1)
  have hqz:=Kz (hi.2 (Bw (Ce st (id:Int)) l).toNat (by omega))
  have hcm:=Vz st.kind (nth st.all id).1.evr (nth st.all (Bw (Ce st (id:Int)) l).toNat).1.evr
  unfold Sgn at hcm
  have hcs:Gl st l (id:Int)=(nth [4,5,3] ((Dv st.kind (nth st.all id).1.evr (nth st.all (Bw (Ce st (id:Int)) l).toNat).1.evr).1+1).toNat,(id:Int),(Bw (Ce st (id:Int)) l)):=by unfold Gl;rw[if_pos (by omega)];rfl
  refine Ai ?_
  refine Cr [] [2,6,7,8] [] (hk 6 Jj (I5 st pl h id hid)<|hk 10 (al:=[(.fp (B9 st pl)),(.int .i64 (Bw (Ce st (id:Int)) l))]) Jj ((I5 st pl h (Bw (Ce st (id:Int)) l).toNat (by omega)).of_args (ImpL.cons Imp.refl (ImpL.cons (Imp.of_eq (congrArg (AV.int .i64) (Je hfo.1))) ImpL.nil)))<|hk 12 X5d (Q9t st.kind (((nth st.all id).1).evr) (((nth st.all ((Bw (Ce st (id:Int)) l).toNat)).1).evr) (by omega) (by omega))<|hk0) v0 c0 ?_
  refine Ab [] [2,6,7,8,10] ?_
  refine Ac ?_
  refine Ab [] [2,6,7,8,10,36] ?_
  refine A5 (p:=0 < ((Dv st.kind (((nth st.all id).1).evr) (((nth st.all ((Bw (Ce st (id:Int)) l).toNat)).1).evr)).1)) (by kernel_rfl) (fun c2=>?_) (fun c2=>?_)
  ·refine An ?_
   refine Ei [] [2,6,7,8,10] ?_
   refine Ac ?_
   refine Ab [] [2,6,7,10,38] ?_
   refine A5 (p:=((Dv st.kind (((nth st.all id).1).evr) (((nth st.all ((Bw (Ce st (id:Int)) l).toNat)).1).evr)).1) < 0) (by kernel_rfl) (fun c3=>?_) (fun c3=>?_)
   ·exfalso;omega
   ·refine Ai ?_
    refine Ab [] [6] ?_
    refine Ag ?_
    refine RK wR [(.agg [(.int .i64 3),(.int .i64 ((id:Int))),(.int .i64 (Bw (Ce st (id:Int)) l))])] ?_
    exact Same.of_eq (by simp only[Ak];rw[hcs,show(Dv st.kind (nth st.all id).1.evr (nth st.all (Bw (Ce st (id:Int)) l).toNat).1.evr).1=1 from by omega];rfl)
  ·refine Ai ?_
   refine Ac ?_
   refine Ab [] [2,6,7,10,38] ?_
   refine A5 (p:=((Dv st.kind (((nth st.all id).1).evr) (((nth st.all ((Bw (Ce st (id:Int)) l).toNat)).1).evr)).1) < 0) (by kernel_rfl) (fun c4=>?_) (fun c4=>?_)
   ·refine An ?_
    refine Ei [] [2,6,7,10] ?_
    refine Ab [] [6] ?_
    refine Ag ?_
    refine RK wR [(.agg [(.int .i64 4),(.int .i64 ((id:Int))),(.int .i64 (Bw (Ce st (id:Int)) l))])] ?_
    exact Same.of_eq (by simp only[Ak];rw[hcs,show(Dv st.kind (nth st.all id).1.evr (nth st.all (Bw (Ce st (id:Int)) l).toNat).1.evr).1 = -1 from by omega];rfl)
   ·refine Ai ?_
    refine Ab [] [6] ?_
    refine Ag ?_
    refine RK wR [(.agg [(.int .i64 5),(.int .i64 ((id:Int))),(.int .i64 (Bw (Ce st (id:Int)) l))])] ?_
    exact Same.of_eq (by simp only[Ak];rw[hcs,show(Dv st.kind (nth st.all id).1.evr (nth st.all (Bw (Ce st (id:Int)) l).toNat).1.evr).1=0 from by omega];rfl)
theorem Q9r (st : PoolT) (pl : List (Int × Int)) (h : Fk st pl) (hi : IdxOk st) (ho : Lr st) (l : List Int) (id : Nat) (hl : l.length ≤ 4194304) (hr : ∀ x ∈ l, 0 ≤ x ∧ x < st.all.length) (hid : id < st.all.length) :
  FnV Tryz.prog 137 [(.fp (B9 st pl)),(Ah l),(.int .i64 ((id:Int)))] (.agg [(.int .i64 ((goS Aa st l (id:Int)).1)),(.int .i64 ((goS Aa st l (id:Int)).2.1)),(.int .i64 ((goS Aa st l (id:Int)).2.2))]):=by
 refine A8 [.cell 6 66] Tryz.func137 rfl Tryz.ntmps137 rfl rfl (fun B F hF=>?_)
 refine Ab [] [0,1,2,6] ?_
 refine Af [] [0,1,2,6,7] [] (hk 3 Q3t (Yl st pl h hi l id hl hr hid)<|hk0) v0 c0 ?_
 refine Ac ?_
 refine Ab [] [0,1,2,6,7,13] ?_
 refine A5 (p:=0≤(Bw (Ce st (id:Int)) l)) (by kernel_rfl) (fun c1=>?_) (fun c1=>?_)
 ·refine Ab [] [6] ?_
  refine Ag ?_
  refine RK wR [(.agg [(.int .i64 6),(.int .i64 ((id:Int))),(.int .i64 (Bw (Ce st (id:Int)) l))])] ?_
  exact Same.of_eq (by simp only[Ak];unfold goS;rw[if_pos (by assumption)])
 ·refine Ai ?_
  refine Af [] [2,6,7] [] (hk 3 X5c (Q9j st pl h hi ho l id hl hr hid)<|hk0) v0 c0 ?_
  refine Ac ?_
  refine Ab [] [2,6,7,22] ?_
  refine A5 (p:=0≤(Bw (Em Aa st (id:Int)) l)) (by kernel_rfl) (fun c2=>?_) (fun c2=>?_)
  ·refine Ab [] [6] ?_
   refine Ag ?_
   refine RK wR [(.agg [(.int .i64 7),(.int .i64 ((id:Int))),(.int .i64 (Bw (Em Aa st (id:Int)) l))])] ?_
   exact Same.of_eq (by simp only[Ak];unfold goS;rw[if_neg (by assumption),if_pos (by assumption)])
  ·refine Ai ?_
   refine Ab [] [6] ?_
   refine Ag ?_
   refine RK wR [(.agg [(.int .i64 2),(.int .i64 ((id:Int))),(.int .i64 (-1))])] ?_
   exact Same.of_eq (by simp only[Ak];unfold goS;rw[if_neg (by assumption),if_neg (by assumption),Q2i (p:=Em Aa st (id:Int)) (fun x hx=>(hr x hx).1) (by omega)])
theorem Q9f (st : PoolT) (pl : List (Int × Int)) (h : Fk st pl) (hi : IdxOk st) (ho : Lr st) (a b : List Int) (hla : a.length ≤ 2097152) (hlb : b.length ≤ 2097152) (hra : ∀ x ∈ a, 0 ≤ x ∧ x < st.all.length) (hrb : ∀ x ∈ b, 0 ≤ x ∧ x < st.all.length) :
  FnV Tryz.prog 74 [(.fp (B9 st pl)),(Ah a),(Ah b)] (Ae 3 A0 (Ba (A2 Aa st) a b)):=by
 have hn:=h.1
 have h200:=hi.1
 have hcl:=Qp b a
 have hgl:=Qp a b
 have hrc:∀x∈(Ad b a),0≤x∧x < st.all.length:=fun x hx=>hrb x (minusZ_mem.1 hx).1
 have hrg:∀x∈(Ad a b),0≤x∧x < st.all.length:=fun x hx=>hra x (minusZ_mem.1 hx).1
 refine A8 [.tmp 6] Tryz.func74 rfl Tryz.ntmps74 rfl rfl (fun B F hF=>?_)
 refine Ab [] [0,1,2] ?_
 refine Af [] [0,1,2,7] [] (hk 2 Oo (Nv b a (by omega) (by omega))<|hk0) v0 c0 ?_
 refine Af [] [0,7,8] [] (hk 2 Oo (Nv a b (by omega) (by omega))<|hk0) v0 c0 ?_
 refine Ab [] [0,7,8,9] ?_
 refine Ac ?_
 refine Ab [] [0,7,8,9,10] ?_
 refine Ay ?_
 refine Js 66 3 9 (y:=⟨[(0,(.fp (B9 st pl))),(7,(Ah (Ad b a))),(8,(Ah (Ad a b))),(9,(.own 0)),(10,(.int .i64 0))],[(0,(.grow [] 66 3))],1⟩) (by kernel_rfl) (by kernel_rfl) ?_
 refine Bz (fun g y=>∃(i:Nat),i≤pl.length∧y=⟨[(0,(.fp (B9 st pl))),(7,(Ah (Ad b a))),(8,(Ah (Ad a b))),(9,(.own 0)),(10,(.int .i64 ((i:Int))))],[(0,(.grow ((Ej st (Ad b a) (Ad a b) i).map A0) 66 3))],1⟩∧g=pl.length-i) [0,7,8,9,10] 1 _ (by omega) ⟨0,(by omega),(by kernel_rfl),rfl⟩ ?_
 rintro g1 y1 ⟨i,f1_1,rfl,rfl⟩
 have hsl:=Q7o st (Ad b a) (Ad a b) i
 have hsm:((Ej st (Ad b a) (Ad a b) i).map A0).length=(Ej st (Ad b a) (Ad a b) i).length:=List.length_map _
 refine Ac ?_
 refine Af [] [0,7,8,9,10,22] [] (hk 2 X4p (Q9p st pl)<|hk0) v0 c0 ?_
 refine A5 (p:=(i:Int) < (pl.length:Int)) (by kernel_rfl) (fun c1=>?_) (fun c1=>?_)
 ·refine Ai ?_
  refine Ac ?_
  refine Ay ?_
  refine Af [] [0,7,8,9,10,11] [] (hk 2 Vg (Tp (Ad b a) (i:Int) (by omega))<|hk0) v0 c0 ?_
  refine Af [] [0,7,8,9,10,11,12] [] (hk 2 Vg (Tp (Ad a b) (i:Int) (by omega))<|hk0) v0 c0 ?_
  refine Ac ?_
  refine Ab [] [0,7,8,9,10,12,31] ?_
  refine A5 (p:=(i:Int)∈(Ad b a)) (by kernel_rfl) (fun c2=>?_) (fun c2=>?_)
  ·refine An ?_
   refine Au 0 [] [0,7,8,9,10,12] [] (hk 4 X50 (Q9u st pl h hi (Ad a b) i (by omega) hrg (by omega))<|hk0) v0 (cc 6 (p:=((((Ej st (Ad b a) (Ad a b) i).map A0).length+1)*24≤140737488355328)) (by omega)<|c0) ?_
   refine Ab [] [0,7,8,9,10,39] ?_
   refine A5 (p:=(i:Int)∈(Ad a b)) (by kernel_rfl) (fun c3=>?_) (fun c3=>?_)
   ·exact absurd (minusZ_mem.1 c2).1 (minusZ_mem.1 c3).2
   ·refine Ai ?_
    refine An ?_
    refine Au 0 [] [0,7,8,9,10] [] hk0 v0 (cc 1 (p:=(-9223372036854775808≤(i:Int)+1∧(i:Int)+1≤9223372036854775807)) (by omega)<|c0) ?_
    refine⟨by kernel_rfl,_,?_,i+1,?_,(Eq.trans (b:=(⟨[(0,(.fp (B9 st pl))),(7,(Ah (Ad b a))),(8,(Ah (Ad a b))),(9,(.own 0)),(10,(.int .i64 ((i:Int)+1)))],[(0,(.grow (((Ej st (Ad b a) (Ad a b) i).map A0)++([(.agg [(.int .i64 ((Gl st (Ad a b) (i:Int)).1)),(.int .i64 ((Gl st (Ad a b) (i:Int)).2.1)),(.int .i64 ((Gl st (Ad a b) (i:Int)).2.2))])]:List AV)) 66 3))],1⟩:St)) (by kernel_rfl) (by rw[Xe (.inl c2),A2,if_pos c2,List.map_append]<;>kernel_rfl)),rfl⟩
    ·omega
    ·omega
  ·refine Ai ?_
   refine Ab [] [0,7,8,9,10,39] ?_
   refine A5 (p:=(i:Int)∈(Ad a b)) (by kernel_rfl) (fun c4=>?_) (fun c4=>?_)
   ·refine An ?_
    refine Au 0 [] [0,7,8,9,10] [] (hk 4 X5z (Q9r st pl h hi ho (Ad b a) i (by omega) hrc (by omega))<|hk0) v0 (cc 6 (p:=((((Ej st (Ad b a) (Ad a b) i).map A0).length+1)*24≤140737488355328)) (by omega)<|c0) ?_
    refine An ?_
    refine Au 0 [] [0,7,8,9,10] [] hk0 v0 (cc 1 (p:=(-9223372036854775808≤(i:Int)+1∧(i:Int)+1≤9223372036854775807)) (by omega)<|c0) ?_
    refine⟨by kernel_rfl,_,?_,i+1,?_,(Eq.trans (b:=(⟨[(0,(.fp (B9 st pl))),(7,(Ah (Ad b a))),(8,(Ah (Ad a b))),(9,(.own 0)),(10,(.int .i64 ((i:Int)+1)))],[(0,(.grow (((Ej st (Ad b a) (Ad a b) i).map A0)++([(.agg [(.int .i64 ((goS Aa st (Ad b a) (i:Int)).1)),(.int .i64 ((goS Aa st (Ad b a) (i:Int)).2.1)),(.int .i64 ((goS Aa st (Ad b a) (i:Int)).2.2))])]:List AV)) 66 3))],1⟩:St)) (by kernel_rfl) (by rw[Xe (.inr c4),A2,if_neg c2,List.map_append]<;>kernel_rfl)),rfl⟩
    ·omega
    ·omega
   ·refine Ai ?_
    refine An ?_
    refine Au 0 [] [0,7,8,9,10] [] hk0 v0 (cc 1 (p:=(-9223372036854775808≤(i:Int)+1∧(i:Int)+1≤9223372036854775807)) (by omega)<|c0) ?_
    refine⟨by kernel_rfl,_,?_,i+1,?_,(Eq.trans (b:=(⟨[(0,(.fp (B9 st pl))),(7,(Ah (Ad b a))),(8,(Ah (Ad a b))),(9,(.own 0)),(10,(.int .i64 ((i:Int)+1)))],[(0,(.grow ((Ej st (Ad b a) (Ad a b) i).map A0) 66 3))],1⟩:St)) (by kernel_rfl) (by rw[Q7n c2 c4]<;>kernel_rfl)),rfl⟩
    ·omega
    ·omega
 ·refine Bp ?_
  refine Ab [] [6] ?_
  refine Ag ?_
  refine RK wR [(.row 3 ((Ej st (Ad b a) (Ad a b) i).map A0).length (fun ix=>((Ej st (Ad b a) (Ad a b) i).map A0).getD ix Br))] ?_
  rw[show i=st.all.length from by omega,Q7p hra hrb]
  simp only[Ak]
  exact(Imp.list (f:=A0) (List.length_map _)).same
theorem Q9s (x : Bq) :
  FnV Tryz.prog 79 [(.agg [(.int .i64 x.1),(.int .i64 x.2.1),(.int .i64 x.2.2)])] (.bool (E9 x.1)):=by
 refine A8 [.tmp 2] Tryz.func79 rfl Tryz.ntmps79 rfl rfl (fun B F hF=>?_)
 refine Af [] [1] [(1,1)] hk0 v0 c0 ?_
 obtain⟨b1,hb1⟩:∃b,b=(decide (x.1=2)):=⟨_,rfl⟩
 obtain⟨b2,hb2⟩:∃b,b=(b1||(decide (x.1=6))):=⟨_,rfl⟩
 refine Af (CS:=[(5,((!b1)=true→(!b1)=true)),(6,((!b1)=true→(!b1)=true)),(7,(b1=false→(!b1)=true)),(10,((!b2)=true→(!b2)=true)),(11,((!b2)=true→(!b2)=true)),(12,(b2=false→(!b2)=true))]) [7,8,9,12,13,14] [2] [] hk0 (vk 4 6 (a:=.bool (decide (x.1=2))) (b:=.bool b1) (Imp.of_eq (by rw[hb1]))<|vk 9 11 (a:=.bool (b1||(decide (x.1=6)))) (b:=.bool b2) (Imp.of_eq (by rw[hb2]))<|v0) (by refine cc _ ?_<|cc _ ?_<|cc _ ?_<|cc _ ?_<|cc _ ?_<|cc _ ?_ c0<;>simp) ?_
 refine Ag ?_
 refine RK wR [(.bool (b2||(decide (x.1=7))))] ?_
 subst hb2 hb1
 exact Same.of_eq (by simp only[Ak];unfold E9;simp only[Bool.or_assoc])
end Sv
end
section
open Go Go.RowKit
namespace Sv
attribute [local irreducible] SW SO Bs
set_option maxHeartbeats 1000000
set_option maxRecDepth 100000
theorem X54:As Tryz.prog 127:=Az Tryz.func127 (by kernel_rfl) rfl
theorem Rc:As Tryz.prog 62:=Az Tryz.func62 (by kernel_rfl) rfl
theorem Mv:As Tryz.prog 21:=Az Tryz.func21 (by kernel_rfl) rfl
def Jc (k:Int) (p:PkgT) (d:DepT):Bool:=G1 k p d||((p.provides.any fun q=>decide (q.name=d.name)&&Ga k d q.op q.evr)||(p.files.any fun f=>decide (f=d.name)&&decide (d.op=0)))
theorem M5 {α:Type} [Inhabited α] {f:α→Bool} {l:List α} {i:Nat} (h:i < l.length) (k:f (nth l i)=true):l.any f=true:=List.any_eq_true.2 ⟨_,by rw[Dy h];exact List.getElem_mem h,k⟩
theorem M4 {α:Type} [Inhabited α] {f:α→Bool} {l:List α} {n:Nat} (hn:l.length≤n) (h:∀j,j < n→f (nth l j)=false):l.any f=false:=by
 rw[List.any_eq_false]
 intro x hx
 obtain⟨j,hj,rfl⟩:=List.getElem_of_mem hx
 have:=h j (by omega)
 rw[Dy hj] at this
 simp[this]
theorem X1u {st:PoolT} {d:DepT} {i:Nat} (hi:i < st.all.length):((Fg Aa st d false).any fun x=>decide ((i:Int)=x))=Jc st.kind (nth st.all i).1 d:=by
 rw[Bool.eq_iff_iff,List.any_eq_true]
 constructor
 ·rintro⟨x,hx,e⟩
  have e:(i:Int)=x:=by simpa using e
  subst e
  obtain⟨j,hj,e,q,hq,h1,h2⟩:=namedL_mem.1 hx
  obtain rfl:i=j:=by omega
  have hf:Jh Aa st.kind d q.2=true:=by unfold G2 at h2;simp only[Bool.and_eq_true] at h2;exact h2.2
  rw[Q3] at hf
  unfold Fo D1 Ee at hq
  rw[List.take_length,List.take_length] at hq
  unfold Jc
  simp only[Bool.or_eq_true]
  rcases List.mem_append.1 hq with hq|hq
  ·rcases List.mem_cons.1 hq with rfl|hq
   ·left;unfold G1;rw[decide_eq_true h1];exact hf
   ·obtain⟨a,ha,rfl⟩:=List.mem_map.1 hq
    right;left;rw[List.any_eq_true];exact⟨a,ha,by rw[decide_eq_true h1];exact hf⟩
  ·obtain⟨a,ha,rfl⟩:=List.mem_map.1 hq
   right;right;rw[List.any_eq_true]
   refine⟨a,ha,?_⟩
   unfold Ga at hf
   by_cases h0:d.op=0
   ·simp[h0,show a=d.name from h1]
   ·rw[if_neg h0,if_pos rfl] at hf;cases hf
 ·intro h
  have key:∀q:List UInt8 × OfferT,q∈Fo i (nth st.all i).1→q.1=d.name→Ga st.kind d q.2.op q.2.evr=true→∃x∈Fg Aa st d false,decide ((i:Int)=x)=true:=fun q hq h1 h2 =>
   ⟨(i:Int),namedL_mem.2 ⟨i,hi,rfl,q,hq,h1,by unfold G2;rw[Q3,h2];simp⟩,by simp⟩
  unfold Jc at h
  simp only[Bool.or_eq_true,List.any_eq_true] at h
  rcases h with h|⟨a,ha,h⟩|⟨a,ha,h⟩
  ·unfold G1 at h
   simp only[Bool.and_eq_true,decide_eq_true_eq] at h
   exact key ((nth st.all i).1.name,⟨i,true,2,(nth st.all i).1.evr⟩) (by unfold Fo D1 Ee;exact List.mem_append_left _ List.mem_cons_self) h.1 h.2
  ·simp only[Bool.and_eq_true,decide_eq_true_eq] at h
   exact key (a.name,⟨i,false,a.op,a.evr⟩) (by unfold Fo D1 Ee;rw[List.take_length];exact List.mem_append_left _ (List.mem_cons_of_mem _ (List.mem_map.2 ⟨a,ha,rfl⟩))) h.1 h.2
  ·simp only[Bool.and_eq_true,decide_eq_true_eq] at h
   exact key (a,⟨i,false,0,[]⟩) (by unfold Fo D1;rw[List.take_length];exact List.mem_append_right _ (List.mem_map.2 ⟨a,ha,rfl⟩)) h.1 (by unfold Ga;rw[if_pos h.2])
theorem X77 {st:PoolT} {n:Nat} {d:DepT} {id:Int} (h1:¬d.kind=1) (h6:d.kind=6):Co Aa st (n+1) d id=(Co Aa st n (nth d.args 0) id&&!Co Aa st n (nth d.args 1) id):=by
 show(if d.kind=1 then _ else if d.kind=6 then Co Aa st n (nth d.args 0) id&&!Co Aa st n (nth d.args 1) id else _)=_
 rw[if_neg h1,if_pos h6]
theorem Q1i {x:Int} (h:0≤x):x=((x.toNat:Nat):Int):=by omega
theorem Q73 {d:DepT} (h:Cq d=true) (h2:¬d.kind=2) (h3:¬d.kind=3) (h4:¬d.kind=4):H7 d.kind=true:=by
 unfold H7
 by_cases h1:d.kind=1
 ·simp[h1]
 ·rw[Jf h1] at h
  simp only[Bool.and_eq_true,Bool.not_eq_true',Gj,decide_eq_false_iff_not] at h
  have:=h.1
  simp only[not_or] at this
  simp only[Bool.or_eq_true,decide_eq_true_eq]
  omega
theorem X36 {d:DepT}:d.evr.length≤d.size:=by cases d;simp only[DepT.size,DepT.evr];omega
theorem Q5o {st:PoolT} {n:Nat} {d:DepT} {id:Int} (h1:¬d.kind=1) (h6:¬d.kind=6):Co Aa st (n+1) d id = !(d.args.any fun a => !Co Aa st n a id):=by
 show(if d.kind=1 then _ else if d.kind=6 then _ else !(d.args.any fun a => !Co Aa st n a id))=_
 rw[if_neg h1,if_neg h6]
theorem Xn {d:DepT} (h:Cq d=true) (hk:d.kind=5∨d.kind=6) {j:Nat} (hj:j < d.args.length):H7 (nth d.args j).kind=true:=by
 rw[Jf (by omega)] at h
 simp only[Bool.and_eq_true] at h
 have key:∀(l:List DepT) (k:Int),5≤k→argsForm k l=true→∀j,j < l.length→H7 (nth l j).kind=true:=by
  intro l k h5
  induction l with
  |nil=>intro _ j hj;simp at hj
  |cons a l ih =>
   intro q j hj
   simp only[argsForm,Bool.and_eq_true] at q
   cases j with
   |zero =>
    have h1:=q.1
    unfold Ik at h1
    unfold H7
    simp only[Bool.not_eq_true',decide_eq_false_iff_not] at h1
    simp only[Bool.or_eq_true,decide_eq_true_eq]
    show a.kind=1∨a.kind=5∨a.kind=6
    omega
   |succ j=>exact ih q.2.2 j (by simpa using hj)
 exact key d.args d.kind (by omega) h.2 j hj
theorem Q2t {p:PkgT} (h:p.size≤4194304):p.evr.length≤4194304∧∀j,j < p.provides.length→(nth p.provides j).evr.length≤4194304:=by
 have hz:=p.sizes
 refine⟨by unfold PkgT.depSize at hz;omega,fun j hj=>?_⟩
 have h2:=Ke (l:=p.provides) (i:=j) hj
 have h3:(nth p.provides j).evr.length≤(nth p.provides j).size:=by cases nth p.provides j;simp only[DepT.size,DepT.evr];omega
 unfold PkgT.depSize at hz
 omega
theorem Q8x {p:PkgT} (h:p.size≤4194304):p.provides.length≤4194304∧p.files.length≤4194304:=by
 have hz:=p.sizes
 have h1:=Dw p.provides
 have h2:=J7 p.files
 unfold PkgT.depSize at hz
 omega
theorem Q9l (k : Int) (p : PkgT) (d : DepT) (hd : d.evr.length ≤ 4194304) (hp : p.size ≤ 4194304) :
  FnV Tryz.prog 127 [(.int .i64 k),(Av p),(.agg [(.int .i64 d.kind),(.str d.name),(.int .i64 d.op),(.str d.evr),(.row 5 d.args.length (depAt d.args))])] (.bool (Jc k p d)):=by
 have he:=(Q2t hp).1
 have hpe:=(Q2t hp).2
 have hrw:=Q8x hp
 refine A8 [.tmp 6] Tryz.func127 rfl Tryz.ntmps127 rfl rfl (fun B F hF=>?_)
 refine Af [] [0,4,5] [(1,4),(2,5)] hk0 v0 c0 ?_
 refine Af [] [0,4,5,7] [] (hk 3 Q21 (Yn k p d hd he)<|hk0) v0 c0 ?_
 refine Ac ?_
 refine Ab [] [0,4,5,15] ?_
 refine Bd (q:=G1 k p d) (by kernel_rfl) (fun c1=>?_) (fun c1=>?_)
 ·try simp only[Am] at c1
  refine Ab [] [6] ?_
  refine Ag ?_
  refine RK wR [(.bool true)] ?_
  exact Same.of_eq (by simp only[Ak];unfold Jc;rw[c1];rfl)
 ·try simp only[Am] at c1
  refine Ai ?_
  refine Ac ?_
  refine Ab [] [0,4,5,8] ?_
  refine Ay ?_
  refine Bz (fun g y=>∃(j:Nat),j≤p.provides.length∧(∀r,r < j→(decide ((nth p.provides r).name=d.name)&&Ga k d (nth p.provides r).op (nth p.provides r).evr)=false)∧y=⟨[(0,(.int .i64 k)),(4,(.fp (Av p))),(5,(.fp (.agg [(.int .i64 d.kind),(.str d.name),(.int .i64 d.op),(.str d.evr),(.row 5 d.args.length (depAt d.args))]))),(8,(.int .i64 ((j:Int))))],[],2⟩∧g=p.provides.length-j) [0,4,5,8] 2 _ (by omega) ⟨0,(by omega),(by exact fun r hr=>by omega),(by kernel_rfl),rfl⟩ ?_
  rintro g1 y1 ⟨j,f1_1,f1_2,rfl,rfl⟩
  refine Ac ?_
  refine Ab [] [0,4,5,8,20] ?_
  refine A5 (p:=(j:Int) < (p.provides.length:Int)) (by kernel_rfl) (fun c2=>?_) (fun c2=>?_)
  ·refine Ai ?_
   refine Ac ?_
   refine Ay ?_
   refine Af [] [0,4,5,8,9] [] hk0 v0 (cc 3 (p:=(0≤(j:Int)∧j < p.provides.length)) (by omega)<|c0) ?_
   obtain⟨b1,hb1⟩:∃b,b=(decide ((nth p.provides j).name=d.name)):=⟨_,rfl⟩
   refine Af (CS:=[(9,(b1=true→b1=true)),(11,(b1=true→b1=true)),(12,b1=true→b1=true∧b1=true∧b1=true∧b1=true),(13,(b1=true→b1=true))]) [34,35,36,37,38,39] [0,4,5,8,41] [(0,9)] (hkg 12 b1 Q31 (fun cg=>Ye k d (nth p.provides j).op (nth p.provides j).evr hd (hpe j (by omega)))<|hk0) (vk 6 33 (a:=.bool (decide ((nth p.provides j).name=d.name))) (b:=.bool b1) (Imp.of_eq (by rw[hb1]))<|v0) (by refine cc _ ?_<|cc _ ?_<|cc _ ?_<|cc _ ?_ c0<;>simp) ?_
   refine Bd (q:=b1&&(Ga k d (nth p.provides j).op (nth p.provides j).evr)) (by kernel_rfl) (fun c3=>?_) (fun c3=>?_)
   ·subst hb1
    try simp only[Am] at c3
    refine Ab [] [6] ?_
    refine Ag ?_
    refine RK wR [(.bool true)] ?_
    exact Same.of_eq (by simp only[Ak];unfold Jc;rw[M5 (i:=j) (by omega) (by simpa using c3)];simp)
   ·subst hb1
    try simp only[Am] at c3
    refine Ai ?_
    refine An ?_
    refine Au 0 [] [0,4,5,8] [] hk0 v0 (cc 1 (p:=(-9223372036854775808≤(j:Int)+1∧(j:Int)+1≤9223372036854775807)) (by omega)<|c0) ?_
    refine⟨by kernel_rfl,_,?_,j+1,?_,?_,(by kernel_rfl),rfl⟩
    ·omega
    ·omega
    ·intro r hr
     by_cases h:r=j
     ·subst h;by_cases e1:(nth p.provides r).name=d.name<;>simp_all
     ·exact f1_2 r (by omega)
  ·refine Bp ?_
   refine Ac ?_
   refine Ab [] [4,5,10] ?_
   refine Ay ?_
   refine Bz (fun g y=>∃(z:Nat),z≤p.files.length∧(∀r,r < z→(decide (nth p.files r=d.name)&&decide (d.op=0))=false)∧y=⟨[(4,(.fp (Av p))),(5,(.fp (.agg [(.int .i64 d.kind),(.str d.name),(.int .i64 d.op),(.str d.evr),(.row 5 d.args.length (depAt d.args))]))),(10,(.int .i64 ((z:Int))))],[],2⟩∧g=p.files.length-z) [4,5,10] 2 _ (by omega) ⟨0,(by omega),(by exact fun r hr=>by omega),(by kernel_rfl),rfl⟩ ?_
   rintro g2 y2 ⟨z,f2_1,f2_2,rfl,rfl⟩
   refine Ac ?_
   refine Ab [] [4,5,10,46] ?_
   refine A5 (p:=(z:Int) < (p.files.length:Int)) (by kernel_rfl) (fun c4=>?_) (fun c4=>?_)
   ·refine Ai ?_
    refine Ac ?_
    refine Ay ?_
    refine Cr (CS:=[(3,(0≤(z:Int)∧z < p.files.length)),(10,((decide (nth p.files z=d.name))=true→(decide (nth p.files z=d.name))=true)),(11,((decide (nth p.files z=d.name))=true→(decide (nth p.files z=d.name))=true)),(12,((decide (nth p.files z=d.name))=true→(decide (nth p.files z=d.name))=true))]) [58,59,60] [4,5,10,61] [] hk0 v0 (by refine cc _ ?_<|cc _ ?_<|cc _ ?_<|cc _ ?_ c0<;>(intros;simp_all;done)) ?_
    refine Bd (q:=(decide (nth p.files z=d.name))&&(decide (d.op=0))) (by kernel_rfl) (fun c5=>?_) (fun c5=>?_)
    ·try simp only[Am] at c5
     refine Ab [] [6] ?_
     refine Ag ?_
     refine RK wR [(.bool true)] ?_
     exact Same.of_eq (by simp only[Ak];unfold Jc;rw[M5 (l:=p.files) (i:=z) (by omega) (by simpa using c5)];simp)
    ·try simp only[Am] at c5
     refine Ai ?_
     refine An ?_
     refine Au 0 [] [4,5,10] [] hk0 v0 (cc 1 (p:=(-9223372036854775808≤(z:Int)+1∧(z:Int)+1≤9223372036854775807)) (by omega)<|c0) ?_
     refine⟨by kernel_rfl,_,?_,z+1,?_,?_,(by kernel_rfl),rfl⟩
     ·omega
     ·omega
     ·intro r hr
      by_cases h:r=z
      ·subst h;by_cases e1:nth p.files r=d.name<;>by_cases e2:d.op=0<;>simp_all
      ·exact f2_2 r (by omega)
   ·refine Bp ?_
    refine Ab [] [6] ?_
    refine Ag ?_
    refine RK wR [(.bool false)] ?_
    exact Same.of_eq (by simp only[Ak];unfold Jc;rw[c1,M4 (l:=p.provides) (n:=j) (by omega) f1_2,M4 (l:=p.files) (n:=z) (by omega) f2_2];rfl)
theorem Q9w (st : PoolT) (hi : IdxOk st) (i : Nat) (hx : i < st.all.length) (n : Nat) (d : DepT) (hf : Cq d = true) (hd : d.size ≤ 4194304) (hs : H7 d.kind = true) (ih : ∀ j, j < d.args.length → H7 (nth d.args j).kind = true → FnV Tryz.prog 62 [.int .i64 st.kind, (Av ((nth st.all i).1)), (.agg [(.int .i64 ((nth d.args j).kind)), (.str ((nth d.args j).name)), (.int .i64 ((nth d.args j).op)), (.str ((nth d.args j).evr)), (.row 5 (nth d.args j).args.length (depAt (nth d.args j).args))])] (.bool (Co Aa st n (nth d.args j) (i : Int)))) :
  FnV Tryz.prog 62 [(.int .i64 st.kind),(Av ((nth st.all i).1)),(.agg [(.int .i64 d.kind),(.str d.name),(.int .i64 d.op),(.str d.evr),(.row 5 d.args.length (depAt d.args))])] (.bool (Co Aa st (n+1) d (i:Int))):=by
 have hpz:=hi.2 i hx
 have hev:=X36 (d:=d)
 have hda:=El d
 have hal:=Dw d.args
 refine A8 [.tmp 6] Tryz.func62 rfl Tryz.ntmps62 rfl rfl (fun B F hF=>?_)
 refine Af [] [0,4,5] [(1,4),(2,5)] hk0 v0 c0 ?_
 refine Ac ?_
 refine Ab [] [0,4,5,12] ?_
 refine Ay ?_
 refine Ab [] [0,4,5,12,13] ?_
 refine A5 (p:=d.kind=1) (by kernel_rfl) (fun c1=>?_) (fun c1=>?_)
 ·refine Af [] [6] [] (hk 3 X54 (Q9l st.kind (nth st.all i).1 d (by omega) hpz)<|hk0) v0 c0 ?_
  refine Ag ?_
  refine RK wR [(.bool (Jc st.kind (nth st.all i).1 d))] ?_
  exact Same.of_eq (by simp only[Ak];unfold Co;rw[if_pos c1,X1u hx])
 ·refine Ab [] [0,4,5,12,19] ?_
  refine A5 (p:=d.kind=5) (by kernel_rfl) (fun c2=>?_) (fun c2=>?_)
  ·have hsg:=fun j hj=>Xn (d:=d) hf (.inl c2) (j:=j) hj
   refine Ac ?_
   refine Ab [] [0,4,5,7] ?_
   refine Ay ?_
   refine Bz (fun g y=>∃(j:Nat),j≤d.args.length∧(∀r,r < j→Co Aa st n (nth d.args r) (i:Int)=true)∧y=⟨[(0,(.int .i64 st.kind)),(4,(.fp (Av ((nth st.all i).1)))),(5,(.fp (.agg [(.int .i64 d.kind),(.str d.name),(.int .i64 d.op),(.str d.evr),(.row 5 d.args.length (depAt d.args))]))),(7,(.int .i64 ((j:Int))))],[],2⟩∧g=d.args.length-j) [0,4,5,7] 2 _ (by omega) ⟨0,(by omega),(by exact fun r hr=>by omega),(by kernel_rfl),rfl⟩ ?_
   rintro g1 y1 ⟨j,f1_1,f1_2,rfl,rfl⟩
   refine Ac ?_
   refine Ab [] [0,4,5,7,25] ?_
   refine A5 (p:=(j:Int) < (d.args.length:Int)) (by kernel_rfl) (fun c3=>?_) (fun c3=>?_)
   ·refine Ai ?_
    refine Ac ?_
    refine Ay ?_
    refine Cr [] [0,4,5,7,8] [] (hk 7 Rc (ih j (by omega) (hsg j (by omega)))<|hk0) (vk 5 31 (Ew d.args)<|v0) (cc 5 (p:=(0≤(j:Int)∧j < d.args.length)) (by omega)<|c0) ?_
    refine Ab [] [0,4,5,7,37] ?_
    refine Bd (q:=!(Co Aa st n (nth d.args j) (i:Int))) (by kernel_rfl) (fun c4=>?_) (fun c4=>?_)
    ·try simp only[Am] at c4
     refine Ab [] [6] ?_
     refine Ag ?_
     refine RK wR [(.bool false)] ?_
     exact Same.of_eq (by simp only[Ak];rw[Q5o c1 (by omega),M5 (i:=j) (by omega) (by simpa using c4)];rfl)
    ·try simp only[Am] at c4
     refine Ai ?_
     refine An ?_
     refine Au 0 [] [0,4,5,7] [] hk0 v0 (cc 1 (p:=(-9223372036854775808≤(j:Int)+1∧(j:Int)+1≤9223372036854775807)) (by omega)<|c0) ?_
     refine⟨by kernel_rfl,_,?_,j+1,?_,?_,(by kernel_rfl),rfl⟩
     ·omega
     ·omega
     ·intro r hr
      by_cases h:r=j
      ·subst h;simp_all
      ·exact f1_2 r (by omega)
   ·refine Bp ?_
    refine Ab [] [6] ?_
    refine Ag ?_
    refine RK wR [(.bool true)] ?_
    exact Same.of_eq (by simp only[Ak];rw[Q5o c1 (by omega),M4 (n:=j) (by omega) (fun r hr=>by rw[f1_2 r hr];rfl)];rfl)
  ·refine Ab [] [0,4,5,38] ?_
   refine A5 (p:=d.kind=6) (by kernel_rfl) (fun c5=>?_) (fun c5=>?_)
   ·have hsg:=fun j hj=>Xn (d:=d) hf (.inr c5) (j:=j) hj
    have h2a:=Q16 hf (by omega)
    refine Cr [] [0,4,5,9] [] (hk 6 Rc (ih 0 (by omega) (hsg 0 (by omega)))<|hk0) (vk 4 43 (Ew d.args)<|v0) (cc 4 (p:=(0≤(0:Int)∧0 < d.args.length)) (by omega)<|c0) ?_
    refine Cr [] [9,10] [] (hk 6 Rc (ih 1 (by omega) (hsg 1 (by omega)))<|hk0) (vk 4 50 (Ew d.args)<|v0) (cc 4 (p:=(0≤(1:Int)∧1 < d.args.length)) (by omega)<|c0) ?_
    obtain⟨b1,hb1⟩:∃b,b=(Co Aa st n (nth d.args 0) (i:Int)):=⟨_,rfl⟩
    obtain⟨b2,hb2⟩:∃b,b=(b1&&(!(Co Aa st n (nth d.args 1) (i:Int)))):=⟨_,rfl⟩
    refine Af (CS:=[(3,(b1=true→b1=true)),(4,(b1=true→b1=true))]) [56,57] [6] [] hk0 (vk 2 55 (a:=.bool (Co Aa st n (nth d.args 0) (i:Int))) (b:=.bool b1) (Imp.of_eq (by rw[hb1]))<|vk 5 58 (a:=.bool (b1&&(!(Co Aa st n (nth d.args 1) (i:Int))))) (b:=.bool b2) (Imp.of_eq (by rw[hb2]))<|v0) (by refine cc _ ?_<|cc _ ?_ c0<;>simp) ?_
    refine Ag ?_
    refine RK wR [(.bool b2)] ?_
    subst hb2 hb1
    exact Same.of_eq (by simp only[Ak];rw[X77 c1 c5])
   ·exfalso;unfold H7 at hs;simp at hs;omega
theorem Q9x (st:PoolT) (hi:IdxOk st) (i:Nat) (hx:i < st.all.length):∀(n:Nat) (d:DepT),d.size≤n→Cq d=true→d.size≤4194304→H7 d.kind=true→FnV Tryz.prog 62 [.int .i64 st.kind,(Av ((nth st.all i).1)),(.agg [(.int .i64 (d.kind)),(.str (d.name)),(.int .i64 (d.op)),(.str (d.evr)),(.row 5 d.args.length (depAt d.args))])] (.bool (Co Aa st n d (i:Int))):=by
 intro n
 induction n with
 |zero=>intro d h;have:=El d;omega
 |succ n ih=>exact fun d h hf hd hs=>Q9w st hi i hx n d hf hd hs fun j hj hk=>ih _ (by have h1:=Fl hj;omega) (Q13 hf hj) (by have h1:=Fl hj;omega) hk
theorem Q9m (st : PoolT) (pl : List (Int × Int)) (h : Fk st pl) (hi : IdxOk st) (s : List Int) (hs : ∀ x ∈ s, 0 ≤ x ∧ x < st.all.length) (hsl : s.length ≤ 4611686018427) (n : Nat) (d : DepT) (hn : d.size ≤ n + 1) (hf : Cq d = true) (hd : d.size ≤ 4194304) (ih : ∀ j, j < d.args.length → FnV Tryz.prog 21 [(.fp (B9 st pl)), (.agg [(.int .i64 ((nth d.args j).kind)), (.str ((nth d.args j).name)), (.int .i64 ((nth d.args j).op)), (.str ((nth d.args j).evr)), (.row 5 (nth d.args j).args.length (depAt (nth d.args j).args))]), Ah s] (.bool (Ci Aa st s n (nth d.args j)))) :
  FnV Tryz.prog 21 [(.fp (B9 st pl)),(.agg [(.int .i64 d.kind),(.str d.name),(.int .i64 d.op),(.str d.evr),(.row 5 d.args.length (depAt d.args))]),(Ah s)] (.bool (Ci Aa st s (n+1) d)):=by
 have hda:=El d
 have hal:=Dw d.args
 refine A8 [.tmp 6] Tryz.func21 rfl Tryz.ntmps21 rfl rfl (fun B F hF=>?_)
 refine Af [] [0,2,4] [(1,4)] hk0 v0 c0 ?_
 refine Ac ?_
 refine Ab [] [0,2,4,15] ?_
 refine Ay ?_
 refine Ab [] [0,2,4,15,16] ?_
 refine A5 (p:=d.kind=2) (by kernel_rfl) (fun c1=>?_) (fun c1=>?_)
 ·refine Ac ?_
  refine Ab [] [0,2,4,7] ?_
  refine Ay ?_
  refine Bz (fun g y=>∃(j:Nat),j≤d.args.length∧(∀r,r < j→Ci Aa st s n (nth d.args r)=true)∧y=⟨[(0,(.fp (B9 st pl))),(2,(Ah s)),(4,(.fp (.agg [(.int .i64 d.kind),(.str d.name),(.int .i64 d.op),(.str d.evr),(.row 5 d.args.length (depAt d.args))]))),(7,(.int .i64 ((j:Int))))],[],1⟩∧g=d.args.length-j) [0,2,4,7] 1 _ (by omega) ⟨0,(by omega),(by exact fun r hr=>by omega),(by kernel_rfl),rfl⟩ ?_
  rintro g1 y1 ⟨j,f1_1,f1_2,rfl,rfl⟩
  refine Ac ?_
  refine Ab [] [0,2,4,7,22] ?_
  refine A5 (p:=(j:Int) < (d.args.length:Int)) (by kernel_rfl) (fun c2=>?_) (fun c2=>?_)
  ·refine Ai ?_
   refine Ac ?_
   refine Ay ?_
   refine Af [] [0,2,4,7,8] [] (hk 7 Mv (ih j (by omega))<|hk0) (vk 4 27 (Ew d.args)<|v0) (cc 4 (p:=(0≤(j:Int)∧j < d.args.length)) (by omega)<|c0) ?_
   refine Ab [] [0,2,4,7,34] ?_
   refine Bd (q:=!(Ci Aa st s n (nth d.args j))) (by kernel_rfl) (fun c3=>?_) (fun c3=>?_)
   ·try simp only[Am] at c3
    refine Ab [] [6] ?_
    refine Ag ?_
    refine RK wR [(.bool false)] ?_
    exact Same.of_eq (by simp only[Ak];rw[Ud c1,M5 (i:=j) (by omega) (by rw[c3];rfl)];rfl)
   ·try simp only[Am] at c3
    refine Ai ?_
    refine An ?_
    refine Au 0 [] [0,2,4,7] [] hk0 v0 (cc 1 (p:=(-9223372036854775808≤(j:Int)+1∧(j:Int)+1≤9223372036854775807)) (by omega)<|c0) ?_
    refine⟨by kernel_rfl,_,?_,j+1,?_,?_,(by kernel_rfl),rfl⟩
    ·omega
    ·omega
    ·intro r hr
     by_cases h:r=j
     ·subst h;simp_all
     ·exact f1_2 r (by omega)
  ·refine Bp ?_
   refine Ab [] [6] ?_
   refine Ag ?_
   refine RK wR [(.bool true)] ?_
   exact Same.of_eq (by simp only[Ak];rw[Ud c1,M4 (n:=j) (by omega) (fun r hr=>by rw[f1_2 r hr];rfl)];rfl)
 ·refine Ab [] [0,2,4,15,35] ?_
  refine A5 (p:=d.kind=3) (by kernel_rfl) (fun c4=>?_) (fun c4=>?_)
  ·refine Ac ?_
   refine Ab [] [0,2,4,9] ?_
   refine Ay ?_
   refine Bz (fun g y=>∃(j:Nat),j≤d.args.length∧(∀r,r < j→Ci Aa st s n (nth d.args r)=false)∧y=⟨[(0,(.fp (B9 st pl))),(2,(Ah s)),(4,(.fp (.agg [(.int .i64 d.kind),(.str d.name),(.int .i64 d.op),(.str d.evr),(.row 5 d.args.length (depAt d.args))]))),(9,(.int .i64 ((j:Int))))],[],1⟩∧g=d.args.length-j) [0,2,4,9] 1 _ (by omega) ⟨0,(by omega),(by exact fun r hr=>by omega),(by kernel_rfl),rfl⟩ ?_
   rintro g2 y2 ⟨j,f2_1,f2_2,rfl,rfl⟩
   refine Ac ?_
   refine Ab [] [0,2,4,9,41] ?_
   refine A5 (p:=(j:Int) < (d.args.length:Int)) (by kernel_rfl) (fun c5=>?_) (fun c5=>?_)
   ·refine Ai ?_
    refine Ac ?_
    refine Ay ?_
    refine Af [] [0,2,4,9,10] [] (hk 7 Mv (ih j (by omega))<|hk0) (vk 4 46 (Ew d.args)<|v0) (cc 4 (p:=(0≤(j:Int)∧j < d.args.length)) (by omega)<|c0) ?_
    refine Ab [] [0,2,4,9,52] ?_
    refine Bd (q:=Ci Aa st s n (nth d.args j)) (by kernel_rfl) (fun c6=>?_) (fun c6=>?_)
    ·try simp only[Am] at c6
     refine Ab [] [6] ?_
     refine Ag ?_
     refine RK wR [(.bool true)] ?_
     exact Same.of_eq (by simp only[Ak];rw[Ub c4,M5 (i:=j) (by omega) c6])
    ·try simp only[Am] at c6
     refine Ai ?_
     refine An ?_
     refine Au 0 [] [0,2,4,9] [] hk0 v0 (cc 1 (p:=(-9223372036854775808≤(j:Int)+1∧(j:Int)+1≤9223372036854775807)) (by omega)<|c0) ?_
     refine⟨by kernel_rfl,_,?_,j+1,?_,?_,(by kernel_rfl),rfl⟩
     ·omega
     ·omega
     ·intro r hr
      by_cases h:r=j
      ·subst h;simp_all
      ·exact f2_2 r (by omega)
   ·refine Bp ?_
    refine Ab [] [6] ?_
    refine Ag ?_
    refine RK wR [(.bool false)] ?_
    exact Same.of_eq (by simp only[Ak];rw[Ub c4,M4 (n:=j) (by omega) f2_2])
  ·refine Ab [] [0,2,4,53] ?_
   refine A5 (p:=d.kind=4) (by kernel_rfl) (fun c7=>?_) (fun c7=>?_)
   ·have h2a:=Q16 hf (by omega)
    refine Af [] [0,2,4,11] [] (hk 6 Mv (ih 1 (by omega))<|hk0) (vk 3 57 (Ew d.args)<|v0) (cc 3 (p:=(0≤(1:Int)∧1 < d.args.length)) (by omega)<|c0) ?_
    refine Ac ?_
    refine Ab [] [0,2,4,62] ?_
    refine Bd (q:=Ci Aa st s n (nth d.args 1)) (by kernel_rfl) (fun c8=>?_) (fun c8=>?_)
    ·try simp only[Am] at c8
     refine Af [] [6] [] (hk 6 Mv (ih 0 (by omega))<|hk0) (vk 3 65 (Ew d.args)<|v0) (cc 3 (p:=(0≤(0:Int)∧0 < d.args.length)) (by omega)<|c0) ?_
     refine Ag ?_
     refine RK wR [(.bool (Ci Aa st s n (nth d.args 0)))] ?_
     exact Same.of_eq (by simp only[Ak];rw[N7 c7,if_pos c8])
    ·try simp only[Am] at c8
     refine Ai ?_
     refine Ac ?_
     refine An ?_
     obtain⟨b1,hb1⟩:∃b,b=(decide ((d.args.length:Int) < 3)):=⟨_,rfl⟩
     refine B2 5 0 [] [0,2,4,74] [] hk0 v0 c0 ?_
     refine Fd 74 (a:=.bool (decide ((d.args.length:Int) < 3))) (.bool b1) (by kernel_rfl) (Imp.of_eq (by rw[hb1])) ?_
     refine Oy b1 (fun c9=>?_) (fun c9=>?_)
     ·refine Fd 74 (a:=.bool b1) (.bool true) (by kernel_rfl) (Imp.of_eq (by rw[c9])) ?_
      refine Au 5 [] [6] [] hk0 v0 c0 ?_
      refine Ag ?_
      refine RK wR [(.bool true)] ?_
      subst hb1
      exact Same.of_eq (by simp only[Ak];rw[N7 c7,if_neg (by simp[c8]),decide_eq_true (by simp at c9;omega)];rfl)
     ·refine Fd 74 (a:=.bool b1) (.bool false) (by kernel_rfl) (Imp.of_eq (by rw[c9])) ?_
      refine Au 5 [] [6] [] (hk 11 Mv (ih 2 (by have h9:=c9;rw[hb1] at h9;simp at h9;omega))<|hk0) (vk 8 77 (Ew d.args)<|v0) (cc 8 (p:=(0≤(2:Int)∧2 < d.args.length)) (by(intros;simp_all;omega))<|c0) ?_
      refine Ag ?_
      refine RK wR [(.bool (Ci Aa st s n (nth d.args 2)))] ?_
      subst hb1
      exact Same.of_eq (by simp only[Ak];rw[N7 c7,if_neg (by simp[c8]),decide_eq_false (by simp at c9;omega)];rfl)
   ·have hsk:H7 d.kind=true:=Q73 hf c1 c4 c7
    refine Ai ?_
    refine Ac ?_
    refine Ab [] [0,2,4,12] ?_
    refine Ay ?_
    refine Bz (fun g y=>∃(i:Nat),i≤s.length∧(∀r,r < i→Co Aa st (n+1) d (nth s r)=false)∧y=⟨[(0,(.fp (B9 st pl))),(2,(Ah s)),(4,(.fp (.agg [(.int .i64 d.kind),(.str d.name),(.int .i64 d.op),(.str d.evr),(.row 5 d.args.length (depAt d.args))]))),(12,(.int .i64 ((i:Int))))],[],1⟩∧g=s.length-i) [0,2,4,12] 1 _ (by omega) ⟨0,(by omega),(by exact fun r hr=>by omega),(by kernel_rfl),rfl⟩ ?_
    rintro g3 y3 ⟨i,f3_1,f3_2,rfl,rfl⟩
    refine Ac ?_
    refine Ab [] [0,2,4,12,86] ?_
    refine A5 (p:=(i:Int) < (s.length:Int)) (by kernel_rfl) (fun c10=>?_) (fun c10=>?_)
    ·have hli:=hs (nth s i) (by rw[Dy (by omega)];exact List.getElem_mem _)
     refine Ai ?_
     refine Ac ?_
     refine Ay ?_
     refine Cr [] [0,2,4,12,13] [] (hk 9 (al:=[(.fp (B9 st pl)),(.int .i64 (nth s i))]) Jj ((I5 st pl h (nth s i).toNat (by omega)).of_args (ImpL.cons Imp.refl (ImpL.cons (Imp.of_eq (congrArg (AV.int .i64) (Q1i hli.1))) ImpL.nil)))<|hk 11 Rc ((Q9x st hi (nth s i).toNat (by omega) (n+1) d hn hf hd hsk).to (Same.of_eq (by rw[←Q1i hli.1])))<|hk0) v0 (cc 7 (p:=(0≤(i:Int)∧i < s.length)) (by omega)<|c0) ?_
     refine Ab [] [0,2,4,12,101] ?_
     refine Bd (q:=Co Aa st (n+1) d (nth s i)) (by kernel_rfl) (fun c11=>?_) (fun c11=>?_)
     ·try simp only[Am] at c11
      refine Ab [] [6] ?_
      refine Ag ?_
      refine RK wR [(.bool true)] ?_
      exact Same.of_eq (by simp only[Ak];rw[Uc c1 c4 c7,M5 (i:=i) (by omega) c11])
     ·try simp only[Am] at c11
      refine Ai ?_
      refine An ?_
      refine Au 0 [] [0,2,4,12] [] hk0 v0 (cc 1 (p:=(-9223372036854775808≤(i:Int)+1∧(i:Int)+1≤9223372036854775807)) (by omega)<|c0) ?_
      refine⟨by kernel_rfl,_,?_,i+1,?_,?_,(by kernel_rfl),rfl⟩
      ·omega
      ·omega
      ·intro r hr
       by_cases h:r=i
       ·subst h;simp_all
       ·exact f3_2 r (by omega)
    ·refine Bp ?_
     refine Ab [] [6] ?_
     refine Ag ?_
     refine RK wR [(.bool false)] ?_
     exact Same.of_eq (by simp only[Ak];rw[Uc c1 c4 c7,M4 (n:=i) (by omega) f3_2])
theorem Q9n (st:PoolT) (pl:List (Int × Int)) (h:Fk st pl) (hi:IdxOk st) (s:List Int) (hs:∀x∈s,0≤x∧x < st.all.length) (hsl:s.length≤4611686018427):∀(n:Nat) (d:DepT),d.size≤n→Cq d=true→d.size≤4194304→FnV Tryz.prog 21 [(.fp (B9 st pl)),(.agg [(.int .i64 (d.kind)),(.str (d.name)),(.int .i64 (d.op)),(.str (d.evr)),(.row 5 d.args.length (depAt d.args))]),Ah s] (.bool (Ci Aa st s n d)):=by
 intro n
 induction n with
 |zero=>intro d h;have:=El d;omega
 |succ n ih=>exact fun d hn hf hd=>Q9m st pl h hi s hs hsl n d hn hf hd fun j hj=>ih _ (by have h1:=Fl hj;omega) (Q13 hf hj) (by have h1:=Fl hj;omega)
end Sv
end
section
open Go Go.RowKit
namespace Sv
section
variable {st : PoolT} {d : DepT} {s : List Int}
end
end Sv
end
section
open Go Go.RowKit
namespace Sv
section
variable {P : Program} {B : Bas} {w : World} {F F0 : Cx} {n : Nat} {φ : Phi} {σ : Nat → Value} {K : Exit → St → Prop} {x y : St} {ops : Array Oper}
theorem Wr {z:Value} {sz k:Nat} (h:z.cells.size=sz):(Builtin.zeroCells z.cells k).toList=(List.replicate k z).flatMap fun u=>u.cells.toList:=by
  have hl:((List.replicate k z).flatMap fun u=>u.cells.toList).length=k*sz:=by
    rw[Jg (sz:=sz) (fun u hu=>by rw[List.eq_of_mem_replicate hu];exact h),List.length_replicate]
  refine List.ext_getElem (by rw[Array.length_toList,size_zeroCells,h,hl]) fun q h1 h2=>?_
  rw[hl] at h2
  have hs : 0 < sz := by rcases Nat.eq_zero_or_pos sz with e | e; · subst e; omega
                         · exact e
  have hq:q % sz < sz:=Nat.mod_lt _ hs
  have hd:q / sz < k:=Nat.div_lt_of_lt_mul (by rw[Nat.mul_comm];exact h2)
  have hj:z.cells.toList[q % sz]? = some (z.cells[q % sz]'(by omega)):=by simp[h,hq]
  have:=Q2d (vs:=List.replicate k z) (sz:=sz) (i:=q / sz) (v:=z) (fun u hu=>by rw[List.eq_of_mem_replicate hu];exact h) (by simp[hd]) hj
  rw[show q / sz*sz+q % sz=q by rw[Nat.mul_comm];exact Nat.div_add_mod q sz,List.getElem?_eq_some_iff] at this
  obtain⟨_,this⟩:=this
  rw[this]
  simp[Builtin.zeroCells,h,hq]
theorem X89 {rest : List Oper} {t ta : TypeId} {X I : Operand} {d : Nat} {dst : Option Tmp} {ty ty' : TypeId} {ps ps' : String} {af af' : Array Edge} {g g' : Option (Nat × Bool)} {b e sz i : Nat} {k : IntKind} {es : List AV} {z : AV} {s1 s2 : Fr}
    (hg:Dk ops x.s g=true) (hX:evA x.s X=some (.own b)) (hI:evA x.s I=some (.int k (i:Int))) (hb:Bo b x.h=some (.grow es e sz)) (he:Fq P t=some e) (he2:Fq P ta=some e) (hs:tsz P e=some sz) (hi:i≤es.length)
    (hz:I2 P e=some z) (hz1:(Nat.beq (cellsOf z).length sz&&!Ey z&&ones (cellsOf z))=true)
    (hp:Ch n (some d) (.cond false (.str [])) x.s=some s1) (hg2:Dk ops s1 g'=true) (hp2:Ch n dst (.tup []) s1=some s2)
    (next:SO P n ops rest B F K ⟨s2,Cp b (.grow (es.take i++List.replicate (es.length-i) z) e sz) x.h,x.nx⟩) :
    SO P n ops (⟨some d,.slice t X (some I) none none,ty,ps,af,g⟩::⟨dst,.call { callee:=.builtin .clear,args := #[.tmp d],argTypes := #[ta] },ty',ps',af',g'⟩::rest) B F K x:=by
  intro φ σ w hx
  have v1:=hx.fr.ev _ _ hX
  have v2:=hx.fr.ev _ _ hI
  simp only[VR] at v1 v2
  obtain⟨v,vs,a1,a2,a3,a4⟩:=hx.rel.obj b _ hb
  rw[v1.1] at a1;have a1:=Option.some.inj a1
  obtain⟨zv,z1,z2⟩:=Kp (φ:=φ.fz) hz
  simp only[Bool.and_eq_true,Bool.not_eq_true'] at hz1
  obtain⟨⟨c1,c2⟩,c3⟩:=hz1
  have zc:=z2.cells c2
  have zl:zv.cells.size=sz:=by have:=zc.length;have:=Nat.eq_of_beq_eq_true c1;simp only[Array.length_toList] at *;omega
  have zo:=zc.ones c3
  have hlv:vs.length=es.length:=a3.length
  have hsz:∀u∈vs,u.cells.size=sz:=fun u hu=>(a4 u hu).1
  have hput:∀{q:Value},VR φ (.cond false (.str [])) q:=fun {q}=>by unfold VR;exact⟨fun q=>(by cases q),fun q=>(by cases q)⟩
  have hr:VRl φ.fz (es.take i++List.replicate (es.length-i) z) (vs.take i++List.replicate (es.length-i) zv):=by
    refine(a3.take i).append ?_
    generalize es.length-i=m
    induction m with
    |zero=>exact .nil
    |succ m ih=>rw[List.replicate_succ,List.replicate_succ];exact .cons z2 ih
  have h4:∀u∈vs.take i++List.replicate (es.length-i) zv,u.cells.size=sz∧∀c∈u.cells.toList,c.oneCell'=true:=by
    intro u hu
    rcases List.mem_append.1 hu with hu|hu
    · exact a4 u (List.mem_of_mem_take hu)
    · rw[List.eq_of_mem_replicate hu];exact⟨zl,zo⟩
  have hnl:(es.take i++List.replicate (es.length-i) z).length=es.length:=by rw[List.length_append,List.length_take,List.length_replicate];omega
  have hev:∀q,ev n (Cs σ (some d) q) (.tmp d)=q:=fun q=>by
    unfold Ch at hp
    obtain⟨h1,_⟩:=Ds hp
    have h1:d < n:=by simpa [Nat.blt_eq] using h1
    simp only[Cs,ev];rw[Xl h1,if_pos rfl]
  rcases a2.2 with⟨hv,hn⟩|⟨gb,cap,cur,hv,g1,g2,g3,g4,g5,g6⟩
  · have hi0:i=0:=by omega
    subst hi0
    rw[←a1] at hv
    refine Df (w':=w) (Dj hx.fr hg) (v:=.slice none 0 0) ?_ ?_
    · have hb:=fun w=>Hc (P:=P) (isS:=true) (len:=0) (cap:=0) (i:=0) (j:=0) (m:=0) (lo:=some (ev n σ I)) (hi:=none) (mx:=none) (.inr ⟨k,by rw[v2]⟩) (.inl ⟨rfl,rfl⟩) (.inl ⟨rfl,rfl⟩) (Nat.le_refl _) (Nat.le_refl _) (Nat.le_refl _) w
      simp only[execOp,Instr.sliceAt,Instr.slice,Sem.run_bind,Sem.run_pure,run_underlying (D6 he),Result.andThen_ok,hv,hb,Db hs,Option.map_some,Option.map_none]<;>(try split)<;>rfl
    · have hf1:=hx.fr.put hp (hput (q:=.slice none 0 0))
      refine Df (v:=.tuple #[]) (w':=w) (Dj (x:=⟨s1,x.h,x.nx⟩) hf1 hg2) ?_ (next φ _ w ⟨hf1.put hp2 (by simp only[VR];exact⟨[],.nil,rfl⟩),?_,hx.dom,hx.old,hx.new,hx.base⟩)
      · simp[execOp,resolve,invoke,builtin,Builtin.clear_,hev,run_underlying (D6 he2),go_sem]
      · refine hx.rel.setO hb hx.rel.below (Nat.le_refl _) (fun _ _ _=>rfl) ?_ (fun _ h=>h)
        have he0:es=[]:=List.eq_nil_of_length_eq_zero hn
        subst he0
        exact hx.rel.obj b _ hb
  · have hv0:=hv
    rw[←a1] at hv
    have hbd:=fun w=>Hc (P:=P) (isS:=true) (len:=es.length) (cap:=cap) (i:=i) (j:=es.length) (m:=cap) (lo:=some (ev n σ I)) (hi:=none) (mx:=none) (.inr ⟨k,by rw[v2]⟩) (.inl ⟨rfl,rfl⟩) (.inl ⟨rfl,rfl⟩) hi g3 (Nat.le_refl _) w
    refine Df (w':=w) (Dj hx.fr hg) (v:=.slice (some (if cap=i then ⟨gb,0,none⟩ else (⟨gb,0,none⟩:Addr).add (i*sz))) (es.length-i) (cap-i)) ?_ ?_
    · simp only[execOp,Instr.sliceAt,Instr.slice,Sem.run_bind,Sem.run_pure,run_underlying (D6 he),Result.andThen_ok,hv,hbd,Db hs,Option.map_some,Option.map_none]<;>(try split)<;>rfl
    · have hf1:=hx.fr.put hp (hput (q:=.slice (some (if cap=i then ⟨gb,0,none⟩ else (⟨gb,0,none⟩:Addr).add (i*sz))) (es.length-i) (cap-i)))
      have hgi:img φ b (.grow es e sz) gb:=by simp only[img,v1.1,a1,Option.bind_some];rw[hv0];rfl
      by_cases hz0:es.length-i=0
      · refine Df (v:=.tuple #[]) (w':=w) (Dj (x:=⟨s1,x.h,x.nx⟩) hf1 hg2) ?_ (next φ _ w ⟨hf1.put hp2 (by simp only[VR];exact⟨[],.nil,rfl⟩),?_,hx.dom,hx.old,hx.new,hx.base⟩)
        · simp[execOp,resolve,invoke,builtin,Builtin.clear_,hev,hz0,run_underlying (D6 he2),go_sem]
        · refine hx.rel.setO hb hx.rel.below (Nat.le_refl _) (fun _ _ _=>rfl) ?_ (fun _ h=>h)
          rw[hz0,List.replicate_zero,List.append_nil,List.take_of_length_le (by omega)]
          exact hx.rel.obj b _ hb
      · have hci:¬cap=i:=by omega
        have hfl:=Jg hsz
        have hzl:(Builtin.zeroCells zv.cells (es.length-i)).toList.length=(es.length-i)*sz:=by rw[Array.length_toList,size_zeroCells,zl]
        have hmul:i*sz+(es.length-i)*sz=es.length*sz:=by rw[←Nat.add_mul];congr 1;omega
        have hcap:es.length*sz≤cap*sz:=Nat.mul_le_mul_right sz g3
        have hrun:=run_storeCells_at P gb (i*sz) e (Builtin.zeroCells zv.cells (es.length-i)).toList 0 cur w g2 (by omega) (fun c hc=>by
          rw[Wr zl] at hc
          obtain⟨u,hu,hc⟩:=List.mem_flatMap.1 hc
          rw[List.eq_of_mem_replicate hu] at hc;exact zo c hc)
        rw[hzl,Nat.add_zero,hmul] at hrun
        obtain⟨C,hC⟩:∃C,cur.toList.take (i*sz)++(Builtin.zeroCells zv.cells (es.length-i)).toList++cur.toList.drop (es.length*sz)=C:=⟨_,rfl⟩
        rw[hC] at hrun
        have hA:((vs.take i).flatMap fun u=>u.cells.toList).length=i*sz:=by
          rw[Jg (fun u hu=>hsz u (List.mem_of_mem_take hu)),List.length_take,Nat.min_eq_left (by omega)]
        have hth:cur.toList.take (i*sz)=(vs.take i).flatMap fun u=>u.cells.toList:=by
          have:cur.toList.take (i*sz)=(cur.toList.take (es.length*sz)).take (i*sz):=by rw[List.take_take,Nat.min_eq_left (by omega)]
          rw[this,g6]
          conv=>lhs;rw[←List.take_append_drop i vs]
          rw[List.flatMap_append]
          exact List.take_left' hA
        have hflat:((vs.take i++List.replicate (es.length-i) zv).flatMap fun u=>u.cells.toList)=cur.toList.take (i*sz)++(Builtin.zeroCells zv.cells (es.length-i)).toList:=by
          rw[List.flatMap_append,hth,Wr zl]
        have hfll:((vs.take i++List.replicate (es.length-i) zv).flatMap fun u=>u.cells.toList).length=es.length*sz:=by
          rw[Jg (fun u hu=>(h4 u hu).1),List.length_append,List.length_take,List.length_replicate];congr 1;omega
        have hcl:C.length=cap*sz:=by
          have:cur.toList.length=cap*sz:=by rw[Array.length_toList];exact g5
          rw[←hC,←hflat,List.length_append,hfll,List.length_drop];omega
        have hat:At B φ (w.setRow gb C.toArray) b (.grow (es.take i++List.replicate (es.length-i) z) e sz):=by
          refine⟨_,vs.take i++List.replicate (es.length-i) zv,v1.1,?_,hr,h4⟩
          rw[hnl,a1,hv0]
          refine⟨hfll,.inr ⟨gb,cap,C.toArray,rfl,Nat.zero_le _,setRow_heap w gb cur _ e _ g2,g3,g4,by simpa using hcl,?_⟩⟩
          rw[List.toList_toArray,←hC,←hflat]
          exact List.take_left' hfll
        refine Df (v:=.tuple #[]) (w':=w.setRow gb C.toArray) (Dj (x:=⟨s1,x.h,x.nx⟩) hf1 hg2) ?_ (next φ _ _ ⟨hf1.put hp2 (by simp only[VR];exact⟨[],.nil,rfl⟩),?_,hx.dom,hx.old,hx.new,hx.base⟩)
        · obtain⟨m,hm⟩:∃m,es.length-i=m+1:=⟨es.length-i-1,by omega⟩
          rw[hm] at hrun
          unfold Value.cells at hrun
          simp[execOp,resolve,invoke,builtin,Builtin.clear_,hev,hci,hm,run_underlying (D6 he2),z1,Eo,hrun,go_sem]
        · refine hx.rel.setO hb (hx.rel.below.to rfl rfl rfl ?_ fun q hq=>setRow_other w gb q _ ?_) ?_ (fun q _ hq=>setRow_other w gb q _ ?_) hat (fun k hk=>hk)
          · simp
          · rintro rfl;exact(hx.rel.gf b _ q hb hgi).1 hq
          · simp
          · rintro rfl;exact hq hgi
end
end Sv
end
section
open Go Go.RowKit
namespace Sv
def ofB (b:Int) (s:Bq):Bool:=decide (s.2.1=b)
def Cb (b:Int) (s:Bq):Bool:=(decide (s.1=6)||decide (s.1=7))&&decide (s.2.2=b)
def C0 (s:Bq):Bool:=decide (s.1=2)
def Ev (q:List Bq) (b:Int):List Bq:=q.filter (ofB b)++q.filter (Cb b)
def Tw (q:List Bq) (bs:List Int):List Bq:=bs.flatMap (Ev q)++q.filter C0
def Pb (q:List Bq) (c:List Int):Prop:=(q.map fun x=>x.2.1).Nodup∧(∀s∈q,Fa s.1=true→s.2.1∈c)∧(∀s∈q,s.2.1∈c→Fa s.1=true)∧(∀s∈q,s.1=6∨s.1=7→s.2.2∈c)∧∀s∈q,Fa s.1=true∨E9 s.1=true
theorem M0 {s:Bq} (h:Fa s.1=true):¬s.1=6∧¬s.1=7∧¬s.1=2:=by
  unfold Fa at h
  simp only[Bool.or_eq_true,decide_eq_true_eq] at h
  omega
theorem X3k {s:Bq} (h:E9 s.1=true):s.1=2∨s.1=6∨s.1=7:=by
  unfold E9 at h
  simp only[Bool.or_eq_true,decide_eq_true_eq] at h
  exact h
theorem mem_done {q:List Bq} {b:Int} {s:Bq}:s∈Ev q b↔s∈q∧(ofB b s=true∨Cb b s=true):=by
  unfold Ev
  rw[List.mem_append,List.mem_filter,List.mem_filter]
  constructor
  · rintro (h|h)
    · exact⟨h.1,.inl h.2⟩
    · exact⟨h.1,.inr h.2⟩
  · rintro⟨h,k|k⟩
    · exact .inl ⟨h,k⟩
    · exact .inr ⟨h,k⟩
theorem Xd {q:List Bq} {c:List Int} (h:Pb q c):q.Nodup:=List.Pairwise.of_map (fun x=>x.2.1) (fun a b hab e=>hab (by rw[e])) h.1
theorem X6o {q:List Bq} {c:List Int} (h:Pb q c) {b:Int} (hb:b∈c):(Ev q b).Nodup:=by
  have hn:=Xd h
  unfold Ev
  rw[List.nodup_append]
  refine⟨hn.filter _,hn.filter _,fun x hx y hy e=>?_⟩
  subst e
  obtain⟨h1,h2⟩:=List.mem_filter.1 hx
  obtain⟨_,h3⟩:=List.mem_filter.1 hy
  have h2:x.2.1=b:=by unfold ofB at h2;simpa using h2
  have hc:=M0 (h.2.2.1 x h1 (by rw[h2];exact hb))
  unfold Cb at h3
  simp only[Bool.and_eq_true,Bool.or_eq_true,decide_eq_true_eq] at h3
  omega
theorem Q2c {q:List Bq} {c:List Int} (h:Pb q c):∀{bs:List Int},bs.Nodup→(∀b∈bs,b∈c)→(bs.flatMap (Ev q)).Nodup
  |[],_,_=>List.nodup_nil
  |b::bs,hn,hc=>by
    rw[List.nodup_cons] at hn
    rw[List.flatMap_cons,List.nodup_append]
    refine⟨X6o h (hc b (by simp)),Q2c h hn.2 fun x hx=>hc x (by simp[hx]),fun x hx y hy e=>?_⟩
    subst e
    obtain⟨b',hb',hy⟩:=List.mem_flatMap.1 hy
    have h1:=mem_done.1 hx
    have h2:=mem_done.1 hy
    have hbc:=hc b (by simp)
    have hbc':=hc b' (by simp[hb'])
    have ne:¬b=b':=fun e=>hn.1 (by rw[e];exact hb')
    have k1:x.2.1=b→Fa x.1=true:=fun e=>h.2.2.1 x h1.1 (by rw[e];exact hbc)
    have k2:x.2.1=b'→Fa x.1=true:=fun e=>h.2.2.1 x h1.1 (by rw[e];exact hbc')
    unfold ofB Cb at h1 h2
    simp only[Bool.and_eq_true,Bool.or_eq_true,decide_eq_true_eq] at h1 h2
    rcases h1.2 with a1|a1<;>rcases h2.2 with a2|a2
    · exact ne (a1.symm.trans a2)
    · have:=M0 (k1 a1);omega
    · have:=M0 (k2 a2);omega
    · exact ne (a1.2.symm.trans a2.2)
theorem X0o {q:List Bq} {c bs:List Int} (h:Pb q c) (hb:bs.Perm c) (hc:c.Nodup):(Tw q bs).Perm q:=by
  have hn:=Xd h
  have hbn:bs.Nodup:=hb.nodup_iff.2 hc
  have hin:∀b∈bs,b∈c:=fun b k=>hb.mem_iff.1 k
  refine(List.perm_ext_iff_of_nodup ?_ hn).2 fun s=>?_
  · unfold Tw
    rw[List.nodup_append]
    refine⟨Q2c h hbn hin,hn.filter _,fun x hx y hy e=>?_⟩
    subst e
    obtain⟨b,hb',hx⟩:=List.mem_flatMap.1 hx
    have h1:=mem_done.1 hx
    have h2:=(List.mem_filter.1 hy).2
    have k1:x.2.1=b→Fa x.1=true:=fun e=>h.2.2.1 x h1.1 (by rw[e];exact hin b hb')
    unfold ofB Cb at h1
    unfold C0 at h2
    simp only[Bool.and_eq_true,Bool.or_eq_true,decide_eq_true_eq] at h1 h2
    rcases h1.2 with a1|a1
    · have:=M0 (k1 a1);omega
    · omega
  · unfold Tw
    rw[List.mem_append,List.mem_flatMap,List.mem_filter]
    constructor
    · rintro (⟨b,_,hx⟩|hx)
      · exact(mem_done.1 hx).1
      · exact hx.1
    · intro hs
      rcases h.2.2.2.2 s hs with k|k
      · refine .inl ⟨s.2.1,hb.mem_iff.2 (h.2.1 s hs k),mem_done.2 ⟨hs,.inl ?_⟩⟩
        unfold ofB;simp
      · rcases X3k k with k|k
        · exact .inr ⟨hs,by unfold C0;simp[k]⟩
        · refine .inl ⟨s.2.2,hb.mem_iff.2 (h.2.2.2.1 s hs k),mem_done.2 ⟨hs,.inr ?_⟩⟩
          unfold Cb;simp[k]
theorem Q2m {p:Int→Bool} {l:List Int} (h:0≤Bw p l):Bw p l∈l:=by
  unfold Bw at h ⊢
  have:=La p l
  split at h
  · rename_i q
    rw[if_pos q,Dy (by omega)];exact List.getElem_mem _
  · omega
theorem Q7l (m:Int→Int→List UInt8→Int→List UInt8→Bool × Int) (st:PoolT) (a b:List Int):Pb (Ba (A2 m st) a b) (Ad b a):=by
  have hso:=Nn m st
  have key:∀s∈Ba (A2 m st) a b,∃i,s=A2 m st (Ad b a) (Ad a b) i:=fun s hs=>by
    obtain⟨i,_,rfl⟩:=List.mem_map.1 hs
    exact⟨i,rfl⟩
  refine⟨by rw[Q7j hso];exact Nt (Nh _ _),fun s hs h=>?_,fun s hs h=>?_,fun s hs h=>?_,fun s hs=>?_⟩<;>obtain⟨i,rfl⟩:=key s hs<;>have k:=hso (Ad b a) (Ad a b) i
  · rw[k.1]
    by_cases c:i∈Ad b a
    · exact c
    · rw[(k.2.2 c).1] at h;cases h
  · rw[k.1] at h;exact(k.2.1 h).1
  · by_cases c:i∈Ad b a
    · have:=M0 (k.2.1 c).1;omega
    · have e:A2 m st (Ad b a) (Ad a b) i=goS m st (Ad b a) i:=by unfold A2;rw[if_neg c]
      rw[e] at h ⊢
      unfold goS at h ⊢
      split
      · rename_i q;exact Q2m q
      · rename_i q
        split
        · rename_i q2;exact Q2m q2
        · rename_i q2
          rw[if_neg q,if_neg q2] at h
          rcases h with h|h<;>simp at h
  · by_cases c:i∈Ad b a
    · exact .inl (k.2.1 c).1
    · exact .inr (k.2.2 c).2
end Sv
end
section
open Go Go.RowKit
namespace Sv
abbrev Cz:=Int × Bool × DepT
abbrev Ez:=Int→Int→List UInt8→Int→List UInt8→Bool × Int
def Ax (m:Ez) (st:PoolT) (th:List Int) (id:Int) (l:List DepT):List DepT:=l.filter fun d => !(C6 m st d (A3 th [id])).1
def Bn (st:PoolT) (id:Int):List DepT:=(nth st.all id.toNat).1.pre
def Bt (st:PoolT) (id:Int):List DepT:=(nth st.all id.toNat).1.requires
def Et (m:Ez) (st:PoolT) (th:List Int):List Int→Int→Bool→Int
  |[],b,_=>b
  |id::r,b,h=>if 0 < (Ax m st th id (Bn st id)).length then Et m st th r b h else if (Ax m st th id (Bt st id)).length=0 then id else Et m st th r (if h=true then b else id) true
def Eb (m:Ez) (st:PoolT) (th:List Int) (c:List Int):Int:=Et m st th c (nth c 0) false
def Bk (m:Ez) (st:PoolT) (th:List Int) (b p:Int):List Cz:=(Ax m st th b (Bn st b)).map (fun d=>(p,true,d))++(Ax m st th b (Bt st b)).map (fun d=>(p,false,d))
def D9 (m:Ez) (st:PoolT) (q:List Bq) (a:List Int):Nat→List Int→List Bq→List Cz→List Bq × List Cz
  |0,_,o,k=>(o,k)
  |n+1,c,o,k=>if c=[] then (o,k) else D9 m st q a n (Ad c [Eb m st (Al a o) c]) (o++Ev q (Eb m st (Al a o) c)) (k++Bk m st (Al a o) (Eb m st (Al a o) c) (o.length:Int))
def Du (m:Ez) (st:PoolT) (a b:List Int):List Bq × List Cz × Int :=
  if (Ap m st a b).2≠0 then ([],[],(Ap m st a b).2) else
    ((D9 m st (Ap m st a b).1 a (Ad b a).length (Ad b a) [] []).1++(Ap m st a b).1.filter C0,(D9 m st (Ap m st a b).1 a (Ad b a).length (Ad b a) [] []).2,0)
theorem T6 {m:Ez} {st:PoolT} {th:List Int}:∀(l:List Int) (b:Int) (h:Bool),Et m st th l b h∈l∨Et m st th l b h=b
  |[],b,h => .inr rfl
  |id::r,b,h=>by
    unfold Et
    split
    · exact(T6 r b h).imp (List.mem_cons_of_mem _) (fun q=>q)
    · split
      · exact .inl (by simp)
      · rcases T6 r (if h=true then b else id) true with q|q
        · exact .inl (List.mem_cons_of_mem _ q)
        · rw[q]
          split
          · exact .inr rfl
          · exact .inl (by simp)
theorem Mf {m:Ez} {st:PoolT} {th c:List Int} (h:¬c=[]):Eb m st th c∈c:=by
  unfold Eb
  rcases T6 (m:=m) (st:=st) (th:=th) c (nth c 0) false with q|q
  · exact q
  · rw[q]
    cases c with
    |nil=>exact absurd rfl h
    |cons x r=>simp[nth]
theorem Ii {c:List Int} {b:Int} (h:b∈c):(Ad c [b]).length < c.length:=by
  have h1:∀c:List Int,b∈c→(c.filter fun z => !decide (z∈[b])).length < c.length:=by
    intro c
    induction c with
    |nil=>intro h;cases h
    |cons x r ih =>
      intro h
      have h2:=List.length_filter_le (fun z => !decide (z∈[b])) r
      by_cases e:x=b
      · rw[List.filter_cons_of_neg (by simp[e])];simp only[List.length_cons];omega
      · have:=ih (by simpa [Ne.symm e] using h)
        rw[List.filter_cons_of_pos (by simp[e])];simp only[List.length_cons];omega
  exact Nat.lt_of_le_of_lt (H8 _) (h1 c h)
theorem N1 {m : Ez} {st : PoolT} {q : List Bq} {a : List Int} {n : Nat} {c : List Int} {o : List Bq} {k : List Cz} (hc : ¬ c = []) (hn : c.length ≤ n) :
    D9 m st q a n c o k=D9 m st q a (n-1) (Ad c [Eb m st (Al a o) c]) (o++Ev q (Eb m st (Al a o) c)) (k++Bk m st (Al a o) (Eb m st (Al a o) c) (o.length:Int)):=by
  have:=List.length_pos_iff.2 hc
  obtain⟨j,rfl⟩:∃j,n=j+1:=⟨n-1,by omega⟩
  rw[D9,if_neg hc,Nat.add_sub_cancel]
theorem Tv {m:Ez} {st:PoolT} {q:List Bq} {a:List Int} {n:Nat} {o:List Bq} {k:List Cz}:D9 m st q a n [] o k=(o,k):=by cases n<;>rfl
theorem Zx {m:Ez} {st:PoolT} {q:List Bq} {a:List Int}:∀(n:Nat) (c:List Int) (o:List Bq) (k:List Cz),c.length≤n→C4 c→∃bs:List Int,bs.Perm c∧(D9 m st q a n c o k).1=o++bs.flatMap (Ev q)
  |0,c,o,k,h,_=>by
    obtain rfl:c=[]:=List.length_eq_zero_iff.1 (by omega)
    exact⟨[],List.Perm.refl _,by simp[D9]⟩
  |n+1,c,o,k,h,hr=>by
    by_cases hc:c=[]
    · subst hc;exact⟨[],List.Perm.refl _,by simp[D9]⟩
    · have hm:=Mf (m:=m) (st:=st) (th:=Al a o) hc
      have hl:=Ii hm
      rw[N1 hc h,Nat.add_sub_cancel]
      generalize Eb m st (Al a o) c=b at hm hl ⊢
      obtain⟨bs,h1,h2⟩:=Zx (m:=m) (st:=st) (q:=q) (a:=a) n (Ad c [b]) (o++Ev q b) (k++Bk m st (Al a o) b (o.length:Int)) (by omega) (Ij _ _)
      refine⟨b::bs,(List.Perm.cons b h1).trans ((List.perm_ext_iff_of_nodup ?_ (Nt hr)).2 fun x=>?_),by rw[h2,List.flatMap_cons,List.append_assoc]⟩
      · rw[List.nodup_cons];exact⟨fun q=>by have:=(minusZ_mem.1 q).2;simp at this,Nt (Ij _ _)⟩
      · rw[List.mem_cons,minusZ_mem]
        constructor
        · rintro (rfl|q)
          · exact hm
          · exact q.1
        · intro q
          by_cases e:x=b
          · exact .inl e
          · exact .inr ⟨q,by simpa using e⟩
theorem X0r {m:Ez} {st:PoolT} {a b:List Int} (ha:∀x∈a,0≤x∧x < st.all.length) (hb:∀x∈b,0≤x∧x < st.all.length):(Du m st a b).1.Perm (Ba (A2 m st) a b)∧(Du m st a b).2.2=0:=by
  have e:=Kr (m:=m) ha hb
  unfold Du
  rw[e,if_neg (by simp)]
  refine⟨?_,rfl⟩
  obtain⟨bs,h1,h2⟩:=Zx (m:=m) (st:=st) (q:=Ba (A2 m st) a b) (a:=a) (Ad b a).length (Ad b a) [] [] (Nat.le_refl _) (Ij _ _)
  show((D9 m st _ a _ _ [] []).1++_).Perm _
  rw[h2,List.nil_append]
  exact X0o (Q7l m st a b) h1 (Nt (Ij _ _))
theorem X3:∀(l:List Int) (u n:Int),C4 l→u≤n→(∀x∈l,u≤x∧x < n)→(l.length:Int)≤n-u
  |[],u,n,_,h,_=>by simp;omega
  |x::r,u,n,h,_,k=>by
    have hx:=k x (by simp)
    have:=X3 r (x+1) n h.2 (by omega) fun y hy=>⟨by have:=h.1 y hy;omega,(k y (by simp[hy])).2⟩
    simp only[List.length_cons];omega
theorem Px {l:List Int} {n:Nat} (h:C4 l) (k:∀x∈l,0≤x∧x < n):l.length≤n:=by
  have:=X3 l 0 n h (by omega) k
  omega
theorem Q4b (q:List Bq) (b:Int):(Ev q b).length≤2*q.length:=by
  unfold Ev
  have h1:=List.length_filter_le (ofB b) q
  have h2:=List.length_filter_le (Cb b) q
  rw[List.length_append];omega
theorem Jd (m:Ez) (st:PoolT) (th:List Int) (id:Int) (l:List DepT):(Ax m st th id l).length≤l.length:=List.length_filter_le _ _
theorem Q2q {α:Type} (p:α→Bool):∀l:List α,0≤B8 p l→(l.take ((B8 p l).toNat+1)).filter (fun x => !p x)=l.take (B8 p l).toNat
  |[],h=>by simp[B8] at h
  |x::r,h=>by
    unfold B8 at h ⊢
    by_cases hx:p x=true
    · rw[if_pos hx];simp[hx]
    · rw[if_neg hx] at h ⊢
      by_cases hr:B8 p r < 0
      · rw[if_pos hr] at h;omega
      · rw[if_neg hr,show(B8 p r+1).toNat=(B8 p r).toNat+1 by omega,List.take_succ_cons,List.filter_cons_of_pos (by simpa using hx),Q2q p r (by omega),List.take_succ_cons]
theorem Q2p {α:Type} (p:α→Bool):∀l:List α,B8 p l = -1→l.filter (fun x => !p x)=l
  |[],_=>rfl
  |x::r,h=>by
    have hl:=La p r
    unfold B8 at h
    by_cases hx:p x=true
    · rw[if_pos hx] at h;omega
    · rw[if_neg hx] at h
      rw[List.filter_cons_of_pos (by simpa using hx),Q2p p r (by split at h<;>omega)]
theorem Rm {α:Type} [Inhabited α] {T l:List α} {j:Nat} (h:T.drop j=l.drop j):nth T j=nth l j:=by
  have:=congrArg (fun x=>x[0]?) h
  simp only[List.getElem?_drop,Nat.add_zero] at this
  unfold nth;rw[this]
theorem Q39 {α:Type} {T l:List α} {j:Nat} (h:T.drop j=l.drop j):T.drop (j+1)=l.drop (j+1):=by
  have:=congrArg (List.drop 1) h
  simpa [List.drop_drop] using this
theorem X2x {α:Type} [Inhabited α] {p:α→Bool} {T l:List α} {i j:Nat} (hj:j < l.length) (hd:T.drop j=l.drop j) (ht:T.take i=(l.take j).filter p) (hp:p (nth T j)=false):T.take i=(l.take (j+1)).filter p:=by
  rw[Rm hd] at hp
  rw[ht,List.take_add_one,List.getElem?_eq_getElem hj,List.filter_append]
  have:nth l j=l[j]:=by simp[nth,hj]
  rw[this] at hp
  simp[hp]
theorem X2w {α : Type} [Inhabited α] {p : α → Bool} {T l : List α} {i j : Nat} (hij : i < j) (hj : j < l.length) (hT : T.length = l.length) (hd : T.drop j = l.drop j) (ht : T.take i = (l.take j).filter p) (hp : p (nth T j) = true) :
    (T.set i (nth T j)).drop (j+1)=l.drop (j+1)∧(T.set i (nth T j)).take (i+1)=(l.take (j+1)).filter p:=by
  constructor
  · rw[List.drop_set_of_lt (by omega),Q39 hd]
  · rw[List.take_add_one,List.getElem?_set_self (by omega),List.take_set_of_le (Nat.le_refl _),ht,Rm hd]
    rw[Rm hd] at hp
    have:nth l j=l[j]:=by simp[nth,hj]
    rw[this] at hp ⊢
    rw[List.take_add_one,List.getElem?_eq_getElem hj,List.filter_append]
    simp[hp]
theorem X7z {a:List Int} {o:List Bq} {q:Bq}:Al (Al a o) [q]=Al a (o++[q]):=by
  rw[O0]
  show F7 (Cf (Al a o)) q=_
  rw[Nr (R2 a o)]
end Sv
end
section
open Go Go.RowKit
namespace Sv
def Ko (st:PoolT):Prop:=∀q∈st.all,(∀d∈q.1.pre,Cu d=0)∧∀d∈q.1.requires,Cu d=0
theorem Q07 {i:Nat} {l:List DepT} (h:Dz i l=true):∀d∈l,Cu d=0:=by
  intro d hd
  unfold Dz at h
  simp only[Bool.and_eq_true,List.all_eq_true] at h
  have hq:=h.2 d hd
  unfold F5 at hq
  simp only[Bool.and_eq_true,decide_eq_true_eq] at hq
  exact hq.1.1
theorem Q98 {k:Int} {l:List RepoT} (h:∀q∈(A1 k l).1.all,Ex q.1=true):Ko (A1 k l).1:=fun q hq=>by
  have:=h q hq
  unfold Ex at this
  simp only[Bool.and_eq_true] at this
  exact⟨Q07 this.1.1.1.1.2,Q07 this.1.1.1.1.1.2⟩
theorem Q0d {st:PoolT} {id:Int} (h:0≤id∧id < st.all.length):nth st.all id.toNat∈st.all:=by rw[Dy (by omega)];exact List.getElem_mem _
theorem Yy {st:PoolT} (h:Ko st) {id:Int} (hid:0≤id∧id < st.all.length):∀d∈Bn st id,Cu d=0:=(h _ (Q0d hid)).1
theorem X7 {st:PoolT} (h:Ko st) {id:Int} (hid:0≤id∧id < st.all.length):∀d∈Bt st id,Cu d=0:=(h _ (Q0d hid)).2
section
variable {m : Ez} {st : PoolT} {th : List Int} {id : Int}
theorem X2k {l:List DepT} {i:Nat} (h:i < l.length) (e:(C6 m st (nth l i) (A3 th [id])).1=false):Ax m st th id (l.take (i+1))=Ax m st th id (l.take i)++[nth l i]:=by
  unfold Ax;rw[Hp h,List.filter_append];simp[e]
theorem X2n {l:List DepT} {i:Nat} (h:i < l.length) (e:(C6 m st (nth l i) (A3 th [id])).1=true):Ax m st th id (l.take (i+1))=Ax m st th id (l.take i):=by
  unfold Ax;rw[Hp h,List.filter_append];simp[e]
def Gd (m:Ez) (st:PoolT) (th:List Int) (id:Int):Int:=if 0 < (Ax m st th id (Bn st id)).length then 0 else if 0 < (Ax m st th id (Bt st id)).length then 1 else 2
def Ht (m:Ez) (st:PoolT) (th:List Int):List Int→Int→Int→Int
  |[],b,_=>b
  |id::r,b,w=>if w < Gd m st th id then Ht m st th r id (Gd m st th id) else Ht m st th r b w
theorem Yb:Gd m st th id=0∨Gd m st th id=1∨Gd m st th id=2:=by
  unfold Gd;split
  · exact .inl rfl
  · split
    · exact .inr (.inl rfl)
    · exact .inr (.inr rfl)
theorem Ti:∀(l:List Int) (b:Int),Ht m st th l b 2=b
  |[],_=>rfl
  |x::r,b=>by
    have:=Yb (m:=m) (st:=st) (th:=th) (id:=x)
    rw[Ht,if_neg (by omega),Ti r b]
theorem Tl (hp:0 < (Ax m st th id (Bn st id)).length):Gd m st th id=0:=if_pos hp
theorem Tk (hp:¬0 < (Ax m st th id (Bn st id)).length) (hr:¬(Ax m st th id (Bt st id)).length=0):Gd m st th id=1:=by unfold Gd;rw[if_neg hp,if_pos (by omega)]
theorem Tj (hp:¬0 < (Ax m st th id (Bn st id)).length) (hr:(Ax m st th id (Bt st id)).length=0):Gd m st th id=2:=by unfold Gd;rw[if_neg hp,if_neg (by omega)]
theorem Nu:∀(l:List Int) (b:Int) (h:Bool),Ht m st th l b (if h=true then 1 else 0)=Et m st th l b h
  |[],_,_=>rfl
  |x::r,b,h=>by
    rw[Ht,Et]
    by_cases hp:0 < (Ax m st th x (Bn st x)).length
    · rw[Tl hp,if_pos hp,if_neg (by cases h<;>simp),Nu r b h]
    · rw[if_neg hp]
      by_cases hr:(Ax m st th x (Bt st x)).length=0
      · rw[Tj hp hr,if_pos hr,if_pos (by cases h<;>simp),Ti]
      · rw[Tk hp hr,if_neg hr]
        cases h with
        |false=>exact(Nu r x true)
        |true=>exact(Nu r b true)
theorem X1j {c:List Int} (h:¬c=[]):Ht m st th c (-1) (-1)=Eb m st th c:=by
  cases c with
  |nil=>exact absurd rfl h
  |cons x r =>
    unfold Eb
    rw[show nth (x::r) 0=x from rfl,Ht,if_pos (by have:=Yb (m:=m) (st:=st) (th:=th) (id:=x);omega),Et]
    by_cases hp:0 < (Ax m st th x (Bn st x)).length
    · rw[Tl hp,if_pos hp];exact Nu r x false
    · rw[if_neg hp]
      by_cases hr:(Ax m st th x (Bt st x)).length=0
      · rw[Tj hp hr,if_pos hr,Ti]
      · rw[Tk hp hr,if_neg hr];exact Nu r x true
end
theorem Q2o {v:Int}:∀{u:List Int},C4 u→v∈u→(u.filter fun i=>decide (i=v))=[v]
  |[],_,h=>by cases h
  |x::r,hr,h=>by
    by_cases e:x=v
    · subst e
      rw[List.filter_cons_of_pos (by simp),List.filter_eq_nil_iff.2]
      intro y hy
      have:=hr.1 y hy
      simp;omega
    · rw[List.filter_cons_of_neg (by simp[e])]
      exact Q2o hr.2 ((List.mem_cons.1 h).resolve_left fun q=>e q.symm)
section
variable {m : Ez} {st : PoolT} {a b : List Int}
theorem X03 {v:Int} (h:v∈Ad b a):(Ba (A2 m st) a b).filter (ofB v)=[A2 m st (Ad b a) (Ad a b) v]:=by
  unfold Ba
  rw[List.filter_map]
  have e:(ofB v∘A2 m st (Ad b a) (Ad a b))=fun i=>decide (i=v):=by
    funext i
    show decide ((A2 m st (Ad b a) (Ad a b) i).2.1=v)=_
    rw[(Nn m st _ _ i).1]
  rw[e,Q2o (Nh _ _) (unionZ_mem.2 (.inl h))];rfl
theorem Q91 {x:Int} {s:List Int} (h:C4 s):C5 x s=A3 s [x]:=by
  have:C5 x (Cf s)=Cf (s++[x]):=Nw
  rw[Nr h] at this;exact this
theorem X65 {v:Int} {o:List Bq} (h:v∈Ad b a):C5 v (Al a o)=Al a (o++(Ba (A2 m st) a b).filter (ofB v)):=by
  have hk:=Nn m st (Ad b a) (Ad a b) v
  rw[X03 h,O0,F7,if_pos (hk.2.1 h).1,hk.1,Q91 (R2 a o)]
theorem X3j {v:Int} {o:List Bq} {s:Bq} (h:Cb v s=true):Ad (Al a o) [s.2.1]=Al a (o++[s]):=by
  unfold Cb at h
  simp only[Bool.and_eq_true,Bool.or_eq_true,decide_eq_true_eq] at h
  have h1:Fa s.1=false:=by unfold Fa;simp only[Bool.or_eq_false_iff,decide_eq_false_iff_not];omega
  have h2:E9 s.1=true:=by unfold E9;simp only[Bool.or_eq_true,decide_eq_true_eq];omega
  rw[O0,F7,if_neg (by simp[h1]),if_pos h2]
theorem Q11 {v:Int} (hv:0≤v) {s:Bq} (h:s∈Ba (A2 m st) a b):(E9 s.1&&decide (s.2.2=v))=Cb v s:=by
  obtain⟨i,_,rfl⟩:=List.mem_map.1 h
  have hk:=Nn m st (Ad b a) (Ad a b) i
  by_cases c:i∈Ad b a
  · have:=M0 (hk.2.1 c).1
    rw[(hk.2.1 c).2]
    unfold Cb
    rw[decide_eq_false this.1,decide_eq_false this.2.1];rfl
  · have e:A2 m st (Ad b a) (Ad a b) i=goS m st (Ad b a) i:=by unfold A2;rw[if_neg c]
    rw[e]
    unfold goS
    split
    · rfl
    · split
      · rfl
      · have:¬Bw (Em m st i) (Ad b a)=v:=by omega
        show(E9 2&&decide (Bw (Em m st i) (Ad b a)=v))=_
        rw[decide_eq_false this,Bool.and_false];rfl
theorem Q40 {N:Nat} (hz:∀id:Int,0≤id→id < st.all.length→(Bn st id).length≤N∧(Bt st id).length≤N) {q:List Bq}:∀(n:Nat) (c:List Int) (o:List Bq) (k:List Cz),c.length≤n→(∀x∈c,0≤x∧x < st.all.length)→(D9 m st q a n c o k).2.length≤k.length+(2*N)*n
  |0,_,_,k,_,_=>by simp[D9]
  |n+1,c,o,k,hn,hc=>by
    unfold D9
    split
    · show k.length≤_;omega
    · rename_i hne
      have hm:=Mf (m:=m) (st:=st) (th:=Al a o) hne
      have hv:=hc _ hm
      have hl:=Ii hm
      have hzz:=hz _ hv.1 hv.2
      generalize Eb m st (Al a o) c=v at hm hv hl hzz ⊢
      have ih:=Q40 hz (q:=q) n (Ad c [v]) (o++Ev q v) (k++Bk m st (Al a o) v (o.length:Int)) (by omega) (fun x hx=>hc x (minusZ_mem.1 hx).1)
      have h1:=Jd m st (Al a o) v (Bn st v)
      have h2:=Jd m st (Al a o) v (Bt st v)
      have hb:(Bk m st (Al a o) v (o.length:Int)).length≤2*N:=by unfold Bk;rw[List.length_append,List.length_map,List.length_map];omega
      rw[List.length_append] at ih
      have e:(2*N)*(n+1)=(2*N)*n+2*N:=Nat.mul_succ _ _
      omega
theorem Q4y {N:Nat} (hz:∀id:Int,0≤id→id < st.all.length→(∀d∈Bn st id,d.size≤N)∧∀d∈Bt st id,d.size≤N) {q:List Bq}:∀(n:Nat) (c:List Int) (o:List Bq) (k:List Cz),(∀x∈c,0≤x∧x < st.all.length)→(∀x∈k,x.2.2.size≤N)→∀x∈(D9 m st q a n c o k).2,x.2.2.size≤N
  |0,_,_,_,_,hk=>hk
  |n+1,c,o,k,hc,hk=>by
    unfold D9
    split
    · exact hk
    · rename_i hn
      have hm:=hc _ (Mf (m:=m) (st:=st) (th:=Al a o) hn)
      refine Q4y hz n _ _ _ (fun x hx=>hc x (minusZ_mem.1 hx).1) fun x hx=>?_
      rcases List.mem_append.1 hx with hx|hx
      · exact hk x hx
      · unfold Bk at hx
        rcases List.mem_append.1 hx with hx|hx
        · obtain⟨d,hd,rfl⟩:=List.mem_map.1 hx
          exact(hz _ hm.1 hm.2).1 d (List.mem_filter.1 hd).1
        · obtain⟨d,hd,rfl⟩:=List.mem_map.1 hx
          exact(hz _ hm.1 hm.2).2 d (List.mem_filter.1 hd).1
end
end Sv
end
section
open Go Go.RowKit
namespace Sv
section
variable {st : PoolT} {th : List Int}
end
section
variable {st : PoolT} {fr tw : List Int}
end
end Sv
end
section
open Go Go.RowKit
namespace Sv
attribute [local irreducible] SW SO Bs
set_option maxHeartbeats 1000000
set_option maxRecDepth 100000
theorem X0f {es:List AV} {l:List DepT} (h:es=l.map Ao):Imp (.row 5 es.length (fun ix=>es.getD ix Br)) (Ae 5 Ao l):=by
 subst h;exact Imp.list (f:=Ao) (List.length_map _)
theorem X2o {st:PoolT} {th:List Int} {id:Int} {l:List DepT} {es:List AV} (h:B8 (fun d=>(C6 Aa st d (A3 th [id])).1) l = -1) (he:es=l.map Ao):Imp (.row 5 es.length (fun ix=>es.getD ix Br)) (Ae 5 Ao (Ax Aa st th id l)):=by
 rw[show Ax Aa st th id l=l from Q2p _ l h]
 subst he;exact Imp.list (f:=Ao) (List.length_map _)
theorem X2m {st:PoolT} {th:List Int} {id:Int} {l:List DepT} (h:l=[]):Imp .nils (Ae 5 Ao (Ax Aa st th id l)):=by
 subst h;exact Imp.nil (f:=Ao)
theorem X2l {st:PoolT} {th:List Int} {id:Int} {l T:List DepT} {i:Nat} {z:List AV} (h:T.take i=Ax Aa st th id l) (hi:i≤T.length):Imp (.row 5 (i-0) (fun kx=>((T.map Ao).take i++z).getD (0+kx) Br)) (Ae 5 Ao (Ax Aa st th id l)):=by
 rw[←h]
 have e:(T.take i).length=i:=by rw[List.length_take];omega
 unfold Ae
 rw[e]
 refine Imp.row fun q hq=>Imp.of_eq ?_
 rw[Nat.zero_add,←List.map_take,List.getD_eq_getElem?_getD,List.getElem?_append_left (by rw[List.length_map,e];omega),List.getElem?_map]
 have hq:q < (T.take i).length:=by rw[e];omega
 rw[List.getElem?_eq_getElem hq]
 simp[nth,List.getElem?_eq_getElem hq]
theorem U9:As Tryz.prog 67:=Az Tryz.func67 (by kernel_rfl) rfl
theorem Ra:As Tryz.prog 68:=Az Tryz.func68 (by kernel_rfl) rfl
theorem U7:As Tryz.prog 72:=Az Tryz.func72 (by kernel_rfl) rfl
theorem Q20:As Tryz.prog 70:=Az Tryz.func70 (by kernel_rfl) rfl
theorem Vk (a : List Int) (o : List Bq) (q : Bq) (ho : o.length ≤ 1048576) (ha : a.length ≤ 1048576) :
  Gp Tryz.prog 67 [(.agg [(.int .i64 q.1),(.int .i64 q.2.1),(.int .i64 q.2.2)]),(.ptr 0 0),(.ptr 1 0)] [(0,(.row [(.own 2)] 53)),(1,(.row [(Ah (Al a o))] 26)),(2,(.grow (o.map A0) 66 3))] 3 (.tup []) [(0,(.row [(.own 2)] 53)),(1,(.row [(Ah (Al a (o++[q])))] 26)),(2,(.grow ((o++[q]).map A0) 66 3))]:=by
 have hal:=O1 a o
 have hol:(o.map A0).length=o.length:=List.length_map _
 refine Lt [] Tryz.func67 rfl Tryz.ntmps67 rfl rfl (by kernel_rfl) (by kernel_rfl) (by kernel_rfl) (fun B F hF=>?_)
 refine Ab [] [1,2,3] ?_
 refine Af [] [2,3] [(0,3)] hk0 v0 (cc 3 (p:=(((o.map A0).length+1)*24≤140737488355328)) (by first|omega|(simp;omega)|(simp;done)|(intros;simp_all;omega)|(intros;simp_all;done))<|c0) ?_
 refine An ?_
 refine Au 0 [] [] [(3,10)] (hk 3 X4z ((Y0f (Al a o) [q] (by omega) (by simp)).to (Same.of_eq (by rw[X7z])))<|hk0) (vk 3 10 (b:=(Ae 3 A0 [q])) (Imp.list (f:=A0) rfl)<|v0) c0 ?_
 refine Er (.inr rfl) (al:=[]) (by kernel_rfl) ?_ ((by kernel_rfl:Dr 3 _=some [(0,(.row [(.own 2)] 53)),(1,(.row [(Ah (Al a (o++[q])))] 26)),(2,(.grow ((o.map A0)++([(.agg [(.int .i64 q.1),(.int .i64 q.2.1),(.int .i64 q.2.2)])]:List AV)) 66 3))]).trans ?_)
 ·rfl
 ·rw[List.map_append];rfl
theorem Tx (st : PoolT) (hi : IdxOk st) (w : List Int) (d : DepT) (hd : d.size ≤ 4194304) (hw : w.length ≤ 4611686018427387904) :
  FnV Tryz.prog 72 [(.agg [(.int .i64 d.kind),(.str d.name),(.int .i64 d.op),(.str d.evr),(.row 5 d.args.length (depAt d.args))]),(.fp (.agg [(.fp (Be st))])),(.fp (.agg [(Ah w)]))] (.bool ((C6 Aa st d w).1)):=by
 refine A8 [.tmp 4] Tryz.func72 rfl Tryz.ntmps72 rfl rfl (fun B F hF=>?_)
 refine Af [] [1,2,3] [(1,3)] hk0 v0 c0 ?_
 refine Af [] [5] [] (hk 3 X5u (X90 Aa Q0x st hi d w hd hw)<|hk0) v0 c0 ?_
 refine Ab [] [4] ?_
 refine Ag ?_
 refine RK wR [(.bool ((C6 Aa st d w).1))] ?_
 exact Same.of_eq (by first|rfl|(simp only[Ak];simp_all))
theorem Qs (st : PoolT) (hi0 : IdxOk st) (th : List Int) (ht : th.length ≤ 4194303) (id : Int) (l : List DepT) (hll : l.length ≤ 4194304) (hl : ∀ i, i < l.length → (nth l i).size ≤ 4194304) :
  Gp Tryz.prog 68 [(.int .i64 id),(Ae 5 Ao l),(.ptr 0 0),(.fp (.agg [(.fp (Be st))]))] [(0,(.row [(Ah th)] 26))] 1 (Ae 5 Ao (Ax Aa st th id l)) [(0,(.row [(Ah th)] 26))]:=by
 have hul:=Sl th [id]
 rw[List.length_singleton] at hul
 have hle:=La (fun d=>(C6 Aa st d (A3 th [id])).1) l
 refine Lt [.tmp 6] Tryz.func68 rfl Tryz.ntmps68 rfl rfl (by kernel_rfl) (by kernel_rfl) (by kernel_rfl) (fun B F hF=>?_)
 refine Ab [] [0,1,2,3] ?_
 refine Af [] [1,3,7] [(3,10)] (hk 3 U8 (Un th [id] (by omega) (by simp))<|hk0) (vk 3 10 (b:=(Ah [id])) (Imp.list (f:=AV.int .i64) rfl)<|v0) c0 ?_
 refine Ac ?_
 refine An ?_
 refine B2 1 0 [] [3,7,12] [] hk0 v0 c0 ?_
 refine Km [.tmp 2] (al:=[(Ae 5 Ao l)]) (s0:=[(3,(.fp (.agg [(.fp (Be st))]))),(7,(.ptr 2 0)),(12,(Ae 5 Ao l))]) (by kernel_rfl) (by exact Q2z) (by kernel_rfl) Tryz.func71 rfl Tryz.ntmps71 rfl (by kernel_rfl) (by kernel_rfl) (fun F1 hF1 hle1=>?_)
 refine Ab [] [0] ?_
 refine Ac ?_
 refine Ac ?_
 refine An ?_
 refine B2 1 0 [] [0,3] [] hk0 v0 c0 ?_
 refine Sf (G:=Jy (Ae 5 Ao l)) (sz:=5) (m:=l.length) (e:=25) (by kernel_rfl) (by kernel_rfl) (by kernel_rfl) (by kernel_rfl) (fun nq1_1=>⟨[(0,(Ae 5 Ao l)),(3,(Ae 5 Ao l)),(4,(.bool nq1_1))],by kernel_rfl,fun hnq1_1=>?_⟩)
 refine Cd ?_
 refine Bd (q:=nq1_1) (by kernel_rfl) (fun c1=>?_) (fun c1=>?_)
 ·try simp only[Am] at c1
  refine Ab [] [2] ?_
  refine Ag ?_
  refine Hh (.inl rfl) (al:=[.nils]) (s':=[(3,(.fp (.agg [(.fp (Be st))]))),(7,(.ptr 2 0)),(12,(Ae 5 Ao l)),(13,.nils)]) (by kernel_rfl) (by kernel_rfl) ?_
  refine B2 1 2 [] [13,14] [(2,7)] hk0 v0 c0 ?_
  refine Km [.tmp 4] (al:=[.nils,(.fn 72 [] [(.fp (.agg [(.fp (Be st))])),(.fp (.agg [(Ah (A3 th [id]))]))])]) (s0:=[(13,.nils),(14,(.fn 72 [] [(.fp (.agg [(.fp (Be st))])),(.fp (.agg [(Ah (A3 th [id]))]))]))]) (by kernel_rfl) (by exact Q20) (by kernel_rfl) Tryz.func70 rfl Tryz.ntmps70 rfl (by kernel_rfl) (by kernel_rfl) (fun F2 hF2 hle2=>?_)
  refine Ab [] [0,1] ?_
  refine Ac ?_
  refine An ?_
  refine B2 2 0 [] [0,1,8,9] [] hk0 v0 c0 ?_
  refine Jt (s':=[(0,.nils),(1,(.fn 72 [] [(.fp (.agg [(.fp (Be st))])),(.fp (.agg [(Ah (A3 th [id]))]))])),(8,.nils),(9,(.fn 72 [] [(.fp (.agg [(.fp (Be st))])),(.fp (.agg [(Ah (A3 th [id]))]))])),(10,(.int .i64 (-1)))]) (al:=[.nils,(.fn 72 [] [(.fp (.agg [(.fp (Be st))])),(.fp (.agg [(Ah (A3 th [id]))]))])]) (al':=[.nils,(.fn 72 [] [(.fp (.agg [(.fp (Be st))])),(.fp (.agg [(Ah (A3 th [id]))]))])]) (h':=[(0,(.row [(Ah th)] 26))]) (r:=(.int .i64 (-1))) (by kernel_rfl) (by exact Vh) (by kernel_rfl) (by kernel_rfl) (((Vm [] (.fn 72 [] [(.fp (.agg [(.fp (Be st))])),(.fp (.agg [(Ah (A3 th [id]))]))]) (fun d=>(C6 Aa st d (A3 th [id])).1) (by first|omega|simp) (fun i hi=>FunV.of (by exact U7) (Tx st hi0 (A3 th [id]) (nth [] i) (by first|omega|(exact hl i hi)|(simp at hi)) (by omega)))).of_args (ImpL.cons Imp.nil (ImpL.cons (Imp.clo (by kernel_rfl)) ImpL.nil))).to (Same.of_eq rfl)) rfl (by kernel_rfl) ?_
  refine Au 3 [] [0,1,5] [] hk0 v0 c0 ?_
  refine Ac ?_
  refine Ab [] [0,1,5,12] ?_
  refine G8 (by kernel_rfl) ?_
  refine Ab [] [4] ?_
  refine Ag ?_
  refine Hh (.inl rfl) (al:=[.nils]) (s':=[(13,.nils),(14,(.fn 72 [] [(.fp (.agg [(.fp (Be st))])),(.fp (.agg [(Ah (A3 th [id]))]))])),(15,.nils)]) (by kernel_rfl) (by kernel_rfl) ?_
  refine Au 4 [] [6] [] hk0 (vk 4 15 (a:=.nils) (b:=(Ae 5 Ao (Ax Aa st th id l))) (show Imp .nils (Ae 5 Ao (Ax Aa st th id l)) from X2m (List.length_eq_zero_iff.1 (by have:=hnq1_1 (by simp_all);simp_all)))<|v0) c0 ?_
  refine Ag ?_
  refine Er (.inl rfl) (al:=[(Ae 5 Ao (Ax Aa st th id l))]) (by kernel_rfl) ?_ ((by kernel_rfl:Dr 1 _=some [(0,(.row [(Ah th)] 26))]).trans ?_)
  ·rfl
  ·rfl
 ·try simp only[Am] at c1
  refine Ai ?_
  refine Af [] [2] [] hk0 v0 (cc 2 (p:=((([]:List AV).length+l.length)*72≤140737488355328)) (by first|omega|(simp;omega)|(simp;done)|(intros;simp_all;omega)|(intros;simp_all;done))<|c0) ?_
  refine Ag ?_
  refine Hh (.inl rfl) (al:=[(.own 4)]) (s':=[(3,(.fp (.agg [(.fp (Be st))]))),(7,(.ptr 2 0)),(12,(Ae 5 Ao l)),(13,(.own 4))]) (by kernel_rfl) (by kernel_rfl) ?_
  refine B2 1 2 [] [13,14] [(2,7)] hk0 v0 c0 ?_
  refine Km [.tmp 4] (al:=[(.own 4),(.fn 72 [] [(.fp (.agg [(.fp (Be st))])),(.fp (.agg [(Ah (A3 th [id]))]))])]) (s0:=[(13,Br),(14,(.fn 72 [] [(.fp (.agg [(.fp (Be st))])),(.fp (.agg [(Ah (A3 th [id]))]))]))]) (by kernel_rfl) (by exact Q20) (by kernel_rfl) Tryz.func70 rfl Tryz.ntmps70 rfl (by kernel_rfl) (by kernel_rfl) (fun F3 hF3 hle3=>?_)
  have hF3:F3.lo=5:=hF3.trans (by kernel_rfl)
  refine Ab [] [0,1] ?_
  refine Ac ?_
  refine An ?_
  refine B2 2 0 [] [0,1,8,9] [] hk0 v0 c0 ?_
  refine Jt (s':=[(0,(.own 4)),(1,(.fn 72 [] [(.fp (.agg [(.fp (Be st))])),(.fp (.agg [(Ah (A3 th [id]))]))])),(8,(.own 4)),(9,(.fn 72 [] [(.fp (.agg [(.fp (Be st))])),(.fp (.agg [(Ah (A3 th [id]))]))])),(10,(.int .i64 (B8 (fun d=>(C6 Aa st d (A3 th [id])).1) l)))]) (al:=[(.own 4),(.fn 72 [] [(.fp (.agg [(.fp (Be st))])),(.fp (.agg [(Ah (A3 th [id]))]))])]) (al':=[(.row 5 (([]:List AV)++((List.range l.length).map (fun kx=>((.agg [(.int .i64 ((nth l kx).kind)),(.str ((nth l kx).name)),(.int .i64 ((nth l kx).op)),(.str ((nth l kx).evr)),(.row 5 (nth l kx).args.length (depAt (nth l kx).args))]):AV)))).length (fun ix=>(([]:List AV)++((List.range l.length).map (fun kx=>((.agg [(.int .i64 ((nth l kx).kind)),(.str ((nth l kx).name)),(.int .i64 ((nth l kx).op)),(.str ((nth l kx).evr)),(.row 5 (nth l kx).args.length (depAt (nth l kx).args))]):AV)))).getD ix Br)),(.fn 72 [] [(.fp (.agg [(.fp (Be st))])),(.fp (.agg [(Ah (A3 th [id]))]))])]) (h':=[(0,(.row [(Ah th)] 26))]) (r:=(.int .i64 (B8 (fun d=>(C6 Aa st d (A3 th [id])).1) l))) (by kernel_rfl) (by exact Vh) (by kernel_rfl) (by kernel_rfl) ((Vm l (.fn 72 [] [(.fp (.agg [(.fp (Be st))])),(.fp (.agg [(Ah (A3 th [id]))]))]) (fun d=>(C6 Aa st d (A3 th [id])).1) (by first|omega|simp) (fun i hi=>FunV.of (by exact U7) (Tx st hi0 (A3 th [id]) (nth l i) (by first|omega|(exact hl i hi)|(simp at hi)) (by omega)))).of_args (ImpL.cons (X0f (Ky Ao)) (ImpL.cons (Imp.clo (by kernel_rfl)) ImpL.nil))) rfl (by kernel_rfl) ?_
  refine Au 3 [] [0,1,5] [] hk0 v0 c0 ?_
  refine Ac ?_
  refine Ab [] [0,1,5,12] ?_
  refine A5 (p:=(B8 (fun d=>(C6 Aa st d (A3 th [id])).1) l)=(-1)) (by kernel_rfl) (fun c2=>?_) (fun c2=>?_)
  ·refine Ab [] [4] ?_
   refine Ag ?_
   refine Hh (.inl rfl) (al:=[(.own 4)]) (s':=[(13,Br),(14,(.fn 72 [] [(.fp (.agg [(.fp (Be st))])),(.fp (.agg [(Ah (A3 th [id]))]))])),(15,(.own 4))]) (by kernel_rfl) (by kernel_rfl) ?_
   refine Au 4 [] [6] [(4,15)] hk0 (vk 4 15 (b:=(Ae 5 Ao (Ax Aa st th id l))) (show Imp (.row 5 (([]:List AV)++((List.range l.length).map (fun kx=>((.agg [(.int .i64 ((nth l kx).kind)),(.str ((nth l kx).name)),(.int .i64 ((nth l kx).op)),(.str ((nth l kx).evr)),(.row 5 (nth l kx).args.length (depAt (nth l kx).args))]):AV)))).length (fun ix=>(([]:List AV)++((List.range l.length).map (fun kx=>((.agg [(.int .i64 ((nth l kx).kind)),(.str ((nth l kx).name)),(.int .i64 ((nth l kx).op)),(.str ((nth l kx).evr)),(.row 5 (nth l kx).args.length (depAt (nth l kx).args))]):AV)))).getD ix Br)) (Ae 5 Ao (Ax Aa st th id l)) from X2o (by assumption) (Ky Ao))<|v0) c0 ?_
   refine Ag ?_
   refine Er (.inl rfl) (al:=[(Ae 5 Ao (Ax Aa st th id l))]) (by kernel_rfl) ?_ ((by kernel_rfl:Dr 1 _=some [(0,(.row [(Ah th)] 26))]).trans ?_)
   ·rfl
   ·rfl
  ·refine Ai ?_
   refine Ac ?_
   refine Af [] [0,1,5,6] [] hk0 v0 (cc 1 (p:=(-9223372036854775808≤(B8 (fun d=>(C6 Aa st d (A3 th [id])).1) l)+1∧(B8 (fun d=>(C6 Aa st d (A3 th [id])).1) l)+1≤9223372036854775807)) (by first|omega|(simp;omega)|(simp;done)|(intros;simp_all;omega)|(intros;simp_all;done))<|c0) ?_
   refine Ay ?_
   refine Bz (fun g y=>∃(i j:Nat) (T:List DepT),i < j∧j≤l.length∧T.length=l.length∧T.drop j=l.drop j∧T.take i=Ax Aa st th id (l.take j)∧y=⟨[(0,(.own 4)),(1,(.fn 72 [] [(.fp (.agg [(.fp (Be st))])),(.fp (.agg [(Ah (A3 th [id]))]))])),(5,(.int .i64 ((i:Int)))),(6,(.int .i64 ((j:Int))))],[(0,(.row [(Ah th)] 26)),(4,(.grow (T.map Ao) 25 5))],5⟩∧g=l.length-j) [0,1,5,6] 5 _ (by omega) ⟨(B8 (fun d=>(C6 Aa st d (A3 th [id])).1) l).toNat,(B8 (fun d=>(C6 Aa st d (A3 th [id])).1) l).toNat+1,l,(by omega),(by omega),(by rfl),(by rfl),(by exact(Q2q _ l (by omega)).symm),(Eq.trans (b:=(⟨[(0,(.own 4)),(1,(.fn 72 [] [(.fp (.agg [(.fp (Be st))])),(.fp (.agg [(Ah (A3 th [id]))]))])),(5,(.int .i64 (B8 (fun d=>(C6 Aa st d (A3 th [id])).1) l))),(6,(.int .i64 ((B8 (fun d=>(C6 Aa st d (A3 th [id])).1) l)+1)))],[(0,(.row [(Ah th)] 26)),(4,(.grow (([]:List AV)++((List.range l.length).map (fun kx=>((.agg [(.int .i64 ((nth l kx).kind)),(.str ((nth l kx).name)),(.int .i64 ((nth l kx).op)),(.str ((nth l kx).evr)),(.row 5 (nth l kx).args.length (depAt (nth l kx).args))]):AV)))) 25 5))],5⟩:St)) (by kernel_rfl) (by rw[show(((B8 (fun d=>(C6 Aa st d (A3 th [id])).1) l).toNat+1:Nat):Int)=B8 (fun d=>(C6 Aa st d (A3 th [id])).1) l+1 from by omega,show(((B8 (fun d=>(C6 Aa st d (A3 th [id])).1) l).toNat:Nat):Int)=B8 (fun d=>(C6 Aa st d (A3 th [id])).1) l from by omega,show l.map Ao=[]++(List.range l.length).map (fun kx=>Ao (nth l kx)) from (Ky Ao).symm]<;>kernel_rfl)),rfl⟩ ?_
   rintro g1 y1 ⟨i,j,T,hij,hjl,hTl,hTd,hTt,rfl,rfl⟩
   have htl:(T.map Ao).length=T.length:=List.length_map _
   have hdj:j < l.length→(nth T j).size≤4194304:=fun h=>by rw[Rm hTd];exact hl j h
   refine Ac ?_
   refine Ab [] [0,1,5,6,19] ?_
   refine A5 (p:=(j:Int) < ((T.map Ao).length:Int)) (by kernel_rfl) (fun c3=>?_) (fun c3=>?_)
   ·refine Ai ?_
    refine Ac ?_
    refine Ay ?_
    refine Ac ?_
    refine An ?_
    refine B2 2 0 [] [0,1,5,6,22,23] [] hk0 v0 c0 ?_
    refine Na (b:=4) (i:=j) (es:=T.map Ao) (e:=25) (sz:=5) (k:=.i64) (s':=[(0,(.own 4)),(1,(.fn 72 [] [(.fp (.agg [(.fp (Be st))])),(.fp (.agg [(Ah (A3 th [id]))]))])),(5,(.int .i64 ((i:Int)))),(6,(.int .i64 ((j:Int)))),(22,(.own 4)),(23,(.int .i64 ((j:Int)))),(24,(.op 4 (j*5)))]) (by kernel_rfl) (by kernel_rfl) (by kernel_rfl) (by kernel_rfl) (by kernel_rfl) (by kernel_rfl) (by first|omega|(simp;omega)|(simp;done)|(intros;simp_all;omega)|(intros;simp_all;done)) (by kernel_rfl) ?_
    refine Se (b:=4) (e:=25) (sz:=5) (es:=T.map Ao) (o:=j*5) (i:=j) (j:=0) (a:=(.agg [(.int .i64 ((nth T j).kind)),(.str ((nth T j).name)),(.int .i64 ((nth T j).op)),(.str ((nth T j).evr)),(.row 5 (nth T j).args.length (depAt (nth T j).args))])) (r:=(.agg [(.int .i64 ((nth T j).kind)),(.str ((nth T j).name)),(.int .i64 ((nth T j).op)),(.str ((nth T j).evr)),(.row 5 (nth T j).args.length (depAt (nth T j).args))])) (s':=[(0,(.own 4)),(1,(.fn 72 [] [(.fp (.agg [(.fp (Be st))])),(.fp (.agg [(Ah (A3 th [id]))]))])),(5,(.int .i64 ((i:Int)))),(6,(.int .i64 ((j:Int)))),(22,(.own 4)),(23,(.int .i64 ((j:Int)))),(24,(.op 4 (j*5))),(25,(.agg [(.int .i64 ((nth T j).kind)),(.str ((nth T j).name)),(.int .i64 ((nth T j).op)),(.str ((nth T j).evr)),(.row 5 (nth T j).args.length (depAt (nth T j).args))]))]) (by kernel_rfl) (by kernel_rfl) rfl (by kernel_rfl) (Mm (l:=T) Ao (by omega)) (by kernel_rfl) (by kernel_rfl) ?_
    refine Au 4 [] [0,1,5,6,7] [] hk0 v0 c0 ?_
    refine Ac ?_
    refine An ?_
    refine B2 2 0 [] [0,1,5,6,7,26,27] [(0,7)] hk0 v0 c0 ?_
    refine Q6e (f:=72) (cap:=[(.fp (.agg [(.fp (Be st))])),(.fp (.agg [(Ah (A3 th [id]))]))]) (s':=[(0,(.own 4)),(1,(.fn 72 [] [(.fp (.agg [(.fp (Be st))])),(.fp (.agg [(Ah (A3 th [id]))]))])),(5,(.int .i64 ((i:Int)))),(6,(.int .i64 ((j:Int)))),(7,(.fp (.agg [(.int .i64 ((nth T j).kind)),(.str ((nth T j).name)),(.int .i64 ((nth T j).op)),(.str ((nth T j).evr)),(.row 5 (nth T j).args.length (depAt (nth T j).args))]))),(26,(.fn 72 [] [(.fp (.agg [(.fp (Be st))])),(.fp (.agg [(Ah (A3 th [id]))]))])),(27,(.agg [(.int .i64 ((nth T j).kind)),(.str ((nth T j).name)),(.int .i64 ((nth T j).op)),(.str ((nth T j).evr)),(.row 5 (nth T j).args.length (depAt (nth T j).args))])),(28,(.bool ((C6 Aa st (nth T j) (A3 th [id])).1)))]) (al:=[(.agg [(.int .i64 ((nth T j).kind)),(.str ((nth T j).name)),(.int .i64 ((nth T j).op)),(.str ((nth T j).evr)),(.row 5 (nth T j).args.length (depAt (nth T j).args))])]) (r:=(.bool ((C6 Aa st (nth T j) (A3 th [id])).1))) (by kernel_rfl) (by kernel_rfl) (by exact U7) (by kernel_rfl) (by kernel_rfl) (Tx st hi0 (A3 th [id]) (nth T j) (hdj (by omega)) (by omega)) (by kernel_rfl) ?_
    refine Au 3 [] [0,1,5,6,7,29] [] hk0 v0 c0 ?_
    refine Bd (q:=!((C6 Aa st (nth T j) (A3 th [id])).1)) (by kernel_rfl) (fun c4=>?_) (fun c4=>?_)
    ·try simp only[Am] at c4
     refine Ac ?_
     refine An ?_
     refine B2 3 0 [] [0,1,5,6,30,31,32] [] hk0 v0 c0 ?_
     refine Na (b:=4) (i:=i) (es:=T.map Ao) (e:=25) (sz:=5) (k:=.i64) (s':=[(0,(.own 4)),(1,(.fn 72 [] [(.fp (.agg [(.fp (Be st))])),(.fp (.agg [(Ah (A3 th [id]))]))])),(5,(.int .i64 ((i:Int)))),(6,(.int .i64 ((j:Int)))),(30,(.own 4)),(31,(.int .i64 ((i:Int)))),(32,(.agg [(.int .i64 ((nth T j).kind)),(.str ((nth T j).name)),(.int .i64 ((nth T j).op)),(.str ((nth T j).evr)),(.row 5 (nth T j).args.length (depAt (nth T j).args))])),(33,(.op 4 (i*5)))]) (by kernel_rfl) (by kernel_rfl) (by kernel_rfl) (by kernel_rfl) (by kernel_rfl) (by kernel_rfl) (by first|omega|(simp;omega)|(simp;done)|(intros;simp_all;omega)|(intros;simp_all;done)) (by kernel_rfl) ?_
     refine Q6c (b:=4) (e:=25) (sz:=5) (es:=T.map Ao) (o:=i*5) (i:=i) (j:=0) (a:=(.agg [(.int .i64 ((nth T i).kind)),(.str ((nth T i).name)),(.int .i64 ((nth T i).op)),(.str ((nth T i).evr)),(.row 5 (nth T i).args.length (depAt (nth T i).args))])) (r:=(.agg [(.int .i64 ((nth T j).kind)),(.str ((nth T j).name)),(.int .i64 ((nth T j).op)),(.str ((nth T j).evr)),(.row 5 (nth T j).args.length (depAt (nth T j).args))])) (v:=(.agg [(.int .i64 ((nth T j).kind)),(.str ((nth T j).name)),(.int .i64 ((nth T j).op)),(.str ((nth T j).evr)),(.row 5 (nth T j).args.length (depAt (nth T j).args))])) (s':=[(0,(.own 4)),(1,(.fn 72 [] [(.fp (.agg [(.fp (Be st))])),(.fp (.agg [(Ah (A3 th [id]))]))])),(5,(.int .i64 ((i:Int)))),(6,(.int .i64 ((j:Int)))),(30,(.own 4)),(31,(.int .i64 ((i:Int)))),(32,(.agg [(.int .i64 ((nth T j).kind)),(.str ((nth T j).name)),(.int .i64 ((nth T j).op)),(.str ((nth T j).evr)),(.row 5 (nth T j).args.length (depAt (nth T j).args))])),(33,(.op 4 (i*5)))]) (by kernel_rfl) (by kernel_rfl) rfl (by kernel_rfl) (by kernel_rfl) (Mm (l:=T) Ao (by omega)) (by kernel_rfl) (by kernel_rfl) ?_
     refine Cd ?_
     refine An ?_
     refine Au 0 [] [0,1,5,6] [] hk0 v0 (cc 1 (p:=(-9223372036854775808≤(i:Int)+1∧(i:Int)+1≤9223372036854775807)) (by first|omega|(simp;omega)|(simp;done)|(intros;simp_all;omega)|(intros;simp_all;done))<|c0) ?_
     refine An ?_
     refine Au 0 [] [0,1,5,6] [] hk0 v0 (cc 1 (p:=(-9223372036854775808≤(j:Int)+1∧(j:Int)+1≤9223372036854775807)) (by first|omega|(simp;omega)|(simp;done)|(intros;simp_all;omega)|(intros;simp_all;done))<|c0) ?_
     have hk:=X2w (p:=(fun d => !(C6 Aa st d (A3 th [id])).1)) (T:=T) (l:=l) (i:=i) (j:=j) (by omega) (by omega) (by assumption) (by assumption) (by assumption) (by show(!_)=true;rw[c4];rfl)
     refine⟨by kernel_rfl,_,?_,i+1,j+1,(T.set i (nth T j)),?_,?_,?_,?_,?_,(Eq.trans (b:=(⟨[(0,(.own 4)),(1,(.fn 72 [] [(.fp (.agg [(.fp (Be st))])),(.fp (.agg [(Ah (A3 th [id]))]))])),(5,(.int .i64 ((i:Int)+1))),(6,(.int .i64 ((j:Int)+1)))],[(0,(.row [(Ah th)] 26)),(4,(.grow ((T.map Ao).set i (.agg [(.int .i64 ((nth T j).kind)),(.str ((nth T j).name)),(.int .i64 ((nth T j).op)),(.str ((nth T j).evr)),(.row 5 (nth T j).args.length (depAt (nth T j).args))])) 25 5))],5⟩:St)) (by kernel_rfl) (by rw[show(T.set i (nth T j)).map Ao=(T.map Ao).set i (Ao (nth T j)) from List.map_set ..]<;>kernel_rfl)),rfl⟩
     ·omega
     ·omega
     ·omega
     ·rw[List.length_set];assumption
     ·exact hk.1
     ·exact hk.2
    ·try simp only[Am] at c4
     refine Ai ?_
     refine An ?_
     refine Au 0 [] [0,1,5,6] [] hk0 v0 (cc 1 (p:=(-9223372036854775808≤(j:Int)+1∧(j:Int)+1≤9223372036854775807)) (by first|omega|(simp;omega)|(simp;done)|(intros;simp_all;omega)|(intros;simp_all;done))<|c0) ?_
     refine⟨by kernel_rfl,_,?_,i,j+1,T,?_,?_,?_,?_,?_,(by kernel_rfl),rfl⟩
     ·omega
     ·omega
     ·omega
     ·assumption
     ·exact Q39 (by assumption)
     ·exact X2x (p:=(fun d => !(C6 Aa st d (A3 th [id])).1)) (by omega) (by assumption) (by assumption) (by show(!_)=false;rw[c4];rfl)
   ·refine Bp ?_
    refine Ac ?_
    refine An ?_
    refine B2 2 0 [] [0,5,36,37] [] hk0 v0 c0 ?_
    refine X89 (b:=4) (i:=i) (es:=T.map Ao) (e:=25) (sz:=5) (k:=.i64) (z:=((.agg [(.int .i64 0),(.str []),(.int .i64 0),(.str []),.nils]):AV)) (s1:=[(0,(.own 4)),(5,(.int .i64 ((i:Int)))),(36,(.own 4)),(37,(.int .i64 ((i:Int)))),(38,(.cond false (.str [])))]) (s2:=[(0,(.own 4)),(5,(.int .i64 ((i:Int)))),(36,(.own 4)),(37,(.int .i64 ((i:Int)))),(38,(.cond false (.str [])))]) (by kernel_rfl) (by kernel_rfl) (by kernel_rfl) (by kernel_rfl) (by kernel_rfl) (by kernel_rfl) (by kernel_rfl) (by first|omega|(simp;omega)|(simp;done)|(intros;simp_all;omega)|(intros;simp_all;done)) (by kernel_rfl) (by kernel_rfl) (by kernel_rfl) (by kernel_rfl) (by kernel_rfl) ?_
    refine Cd ?_
    refine Ac ?_
    refine An ?_
    refine B2 1 0 [] [5,39] [] hk0 v0 c0 ?_
    refine Wh 39 (y:=⟨[(5,(.int .i64 ((i:Int)))),(39,(.row 5 ((T.map Ao).take i++List.replicate ((T.map Ao).length-i) ((.agg [(.int .i64 0),(.str []),(.int .i64 0),(.str []),.nils]):AV)).length (fun ix=>((T.map Ao).take i++List.replicate ((T.map Ao).length-i) ((.agg [(.int .i64 0),(.str []),(.int .i64 0),(.str []),.nils]):AV)).getD ix Br)))],[(0,(.row [(Ah th)] 26))],5⟩) (by kernel_rfl) ?_
    refine Au 1 [] [4] [] hk0 v0 (cc 2 (p:=(0≤(0:Int)∧(0:Int)≤(i:Int)∧(i:Int)≤(((T.map Ao).take i++List.replicate ((T.map Ao).length-i) ((.agg [(.int .i64 0),(.str []),(.int .i64 0),(.str []),.nils]):AV)).length:Int))) (by first|omega|(simp;omega)|(simp;done)|(intros;simp_all;omega)|(intros;simp_all;done))<|c0) ?_
    refine Ag ?_
    refine Hh (.inl rfl) (al:=[(.row 5 (i-0) (fun kx=>(((T.map Ao).take i++List.replicate ((T.map Ao).length-i) ((.agg [(.int .i64 0),(.str []),(.int .i64 0),(.str []),.nils]):AV)).getD (0+kx) Br)))]) (s':=[(13,Br),(14,(.fn 72 [] [(.fp (.agg [(.fp (Be st))])),(.fp (.agg [(Ah (A3 th [id]))]))])),(15,(.row 5 (i-0) (fun kx=>(((T.map Ao).take i++List.replicate ((T.map Ao).length-i) ((.agg [(.int .i64 0),(.str []),(.int .i64 0),(.str []),.nils]):AV)).getD (0+kx) Br))))]) (by kernel_rfl) (by kernel_rfl) ?_
    refine Au 4 [] [6] [] hk0 (vk 4 15 (a:=(.row 5 (i-0) (fun kx=>(((T.map Ao).take i++List.replicate ((T.map Ao).length-i) ((.agg [(.int .i64 0),(.str []),(.int .i64 0),(.str []),.nils]):AV)).getD (0+kx) Br)))) (b:=(Ae 5 Ao (Ax Aa st th id l))) (show Imp (.row 5 (i-0) (fun kx=>(((T.map Ao).take i++List.replicate ((T.map Ao).length-i) ((.agg [(.int .i64 0),(.str []),(.int .i64 0),(.str []),.nils]):AV)).getD (0+kx) Br))) (Ae 5 Ao (Ax Aa st th id l)) from X2l (T:=T) (i:=i) (hTt.trans (by rw[List.take_of_length_le (show l.length≤j by omega)])) (by omega))<|v0) c0 ?_
    refine Ag ?_
    refine Er (.inl rfl) (al:=[(Ae 5 Ao (Ax Aa st th id l))]) (by kernel_rfl) ?_ ((by kernel_rfl:Dr 1 _=some [(0,(.row [(Ah th)] 26))]).trans ?_)
    ·rfl
    ·rfl
end Sv
end
section
open Go Go.RowKit
namespace Sv
attribute [local irreducible] SW SO Bs
set_option maxHeartbeats 2000000
set_option maxRecDepth 100000
theorem Vc:As Tryz.prog 23:=Az Tryz.func23 (by kernel_rfl) rfl
noncomputable def Bv (x:Cz):AV:=.agg [.int .i64 x.1,.bool x.2.1,.int .i64 x.2.2.kind,.str x.2.2.name,.int .i64 x.2.2.op,.str x.2.2.evr,.row 5 x.2.2.args.length (depAt x.2.2.args)]
theorem Y5 {p:PkgT} {n:Nat} (h:p.size≤n):p.pre.length≤n∧p.requires.length≤n∧(∀i,i < p.pre.length→(nth p.pre i).size≤n)∧∀i,i < p.requires.length→(nth p.requires i).size≤n:=by
 have hz:=p.sizes
 have h1:=Dw p.pre
 have h2:=Dw p.requires
 unfold PkgT.depSize at hz
 refine⟨by omega,by omega,fun i hi=>?_,fun i hi=>?_⟩
 ·have h2:=Ke (l:=p.pre) (i:=i) hi
  omega
 ·have h2:=Ke (l:=p.requires) (i:=i) hi
  omega
theorem Ry {k:List Cz} {l:List DepT} {n:Int} {p:Bool} {i:Nat} (h:i < l.length):(k++(l.take (i+1)).map (fun d=>(n,p,d))).map Bv=(k++(l.take i).map (fun d=>(n,p,d))).map Bv++[Bv (n,p,nth l i)]:=by
 have e:k++(l.take (i+1)).map (fun d=>(n,p,d))=(k++(l.take i).map (fun d=>(n,p,d)))++[(n,p,nth l i)]:=by rw[Hp h,List.map_append,←List.append_assoc];rfl
 rw[e,List.map_append];rfl
theorem Q4x {k:List Cz} {l l2:List DepT} {n:Int} {i:Nat} (h:i=l.length):(k++l.map (fun d=>(n,true,d)))++(l2.take 0).map (fun d=>(n,false,d))=k++(l.take i).map (fun d=>(n,true,d)):=by
 subst h;rw[List.take_zero,List.map_nil,List.append_nil,List.take_length]
theorem Q4z {k : List Cz} {m : Ez} {st : PoolT} {th : List Int} {v p : Int} {i : Nat} (h : i = (Ax m st th v (Bt st v)).length) :
  k++Bk m st th v p=(k++(Ax m st th v (Bn st v)).map (fun d=>(p,true,d)))++((Ax m st th v (Bt st v)).take i).map (fun d=>(p,false,d)):=by
 subst h;rw[List.take_length,List.append_assoc];rfl
theorem Zu {o q:List Bq} {v:Int} {i:Nat} (h:i=q.length):o++Ev q v=(o++q.filter (ofB v))++(q.take i).filter (Cb v):=by
 subst h;rw[List.take_length,List.append_assoc];rfl
theorem Q2n {o q:List Bq} {p r:Bq→Bool} {i:Nat} (h:i=q.length):(o++q.filter p)++(q.take 0).filter r=o++(q.take i).filter p:=by
 subst h;rw[List.take_zero,List.filter_nil,List.append_nil,List.take_length]
theorem Ok {o q:List Bq} {p:Bq→Bool} {i:Nat} (h:i < q.length) (hp:p (nth q i)=true):o++(q.take (i+1)).filter p=(o++(q.take i).filter p)++[nth q i]:=by
 rw[Hp h,List.filter_append,List.append_assoc];simp[hp]
theorem Mr {o q:List Bq} {p:Bq→Bool} {i:Nat} (h:i < q.length) (hp:p (nth q i)=false):o++(q.take (i+1)).filter p=o++(q.take i).filter p:=by
 rw[Hp h,List.filter_append];simp[hp]
section
variable {m : Ez} {st : PoolT} {th c : List Int} {i : Nat} {bv : Int} {hf : Bool}
theorem N5 (h:i < c.length):c.drop i=nth c i::c.drop (i+1):=by rw[Dy h];exact List.drop_eq_getElem_cons h
theorem X1k (h:i < c.length) (hp:0 < (Ax m st th (nth c i) (Bn st (nth c i))).length):Et m st th (c.drop i) bv hf=Et m st th (c.drop (i+1)) bv hf:=by rw[N5 h,Et,if_pos hp]
theorem Q0h (h:i < c.length) (hp:¬0 < (Ax m st th (nth c i) (Bn st (nth c i))).length) (hr:(Ax m st th (nth c i) (Bt st (nth c i))).length=0):Et m st th (c.drop i) bv hf=nth c i:=by rw[N5 h,Et,if_neg hp,if_pos hr]
theorem Q0j (h:i < c.length) (hp:¬0 < (Ax m st th (nth c i) (Bn st (nth c i))).length) (hr:¬(Ax m st th (nth c i) (Bt st (nth c i))).length=0):Et m st th (c.drop i) bv hf=Et m st th (c.drop (i+1)) (if hf=true then bv else nth c i) true:=by rw[N5 h,Et,if_neg hp,if_neg hr]
theorem Q0k (h:c.length≤i):Et m st th (c.drop i) bv hf=bv:=by rw[List.drop_of_length_le h];rfl
end
theorem Zw {st:PoolT} {fr tw:List Int} {o:List Bq} {k:List Cz} (h:(Ap Aa st fr tw).2=0) (hF:(o,k)=D9 Aa st (Ap Aa st fr tw).1 fr (Ad tw fr).length (Ad tw fr) [] []):Du Aa st fr tw=(o++(Ap Aa st fr tw).1.filter C0,k,0):=by
 unfold Du
 rw[if_neg (by simp[h]),←hF]
theorem Gt {st:PoolT} (hi:IdxOk st) {id:Int} (h:0≤id∧id < st.all.length):(Bn st id).length≤4194304∧∀i,i < (Bn st id).length→(nth (Bn st id) i).size≤4194304:=by
 have k:=Y5 (hi.2 id.toNat (by omega));exact⟨k.1,k.2.2.1⟩
theorem Gs {st:PoolT} (hi:IdxOk st) {id:Int} (h:0≤id∧id < st.all.length):(Bt st id).length≤4194304∧∀i,i < (Bt st id).length→(nth (Bt st id) i).size≤4194304:=by
 have k:=Y5 (hi.2 id.toNat (by omega));exact⟨k.2.1,k.2.2.2⟩
theorem Lk (o q:List Bq) (i:Nat) (p:Bq→Bool):(o++(q.take i).filter p).length≤o.length+q.length:=by
 have h1:=List.length_filter_le p (q.take i)
 have h2:=List.length_take_le i q
 have h3:(q.take i).length≤q.length:=by rw[List.length_take];omega
 rw[List.length_append];omega
theorem Wa (o q:List Bq) (p:Bq→Bool):(o++q.filter p).length≤o.length+q.length:=by
 have h1:=List.length_filter_le p q
 rw[List.length_append];omega
theorem Q7m {st:PoolT} {a b:List Int} (h:(Ap Aa st a b).2=0):(∀x∈a,0≤x∧x < st.all.length)∧∀x∈b,0≤x∧x < st.all.length:=by
 unfold Ap at h
 split at h
 ·cases h
 ·rename_i q
  exact⟨R3 fun e=>q (.inl e),R3 fun e=>q (.inr e)⟩
theorem Sz {st:PoolT} (hi:IdxOk st) {a b:List Int} (ha:∀x∈a,0≤x∧x < st.all.length) (hb:∀x∈b,0≤x∧x < st.all.length):(Ap Aa st a b).1.length≤200:=by
 rw[Kr ha hb]
 show(Ba (A2 Aa st) a b).length≤200
 rw[Q7k]
 refine Nat.le_trans (Px (Nh _ _) fun x hx=>?_) hi.1
 rcases unionZ_mem.1 hx with q|q
 ·exact hb x (minusZ_mem.1 q).1
 ·exact ha x (minusZ_mem.1 q).1
theorem Wo (st : PoolT) (hi : IdxOk st) (fr tw : List Int) (ha : fr.length ≤ 1048576) (hb : tw.length ≤ 1048576) :
  FnV Tryz.prog 23 [(.fp (Bx st)),(Ah fr),(Ah tw)] (.tup [Ae 3 A0 (Du Aa st fr tw).1,Ae 7 Bv (Du Aa st fr tw).2.1,.int .i64 (Du Aa st fr tw).2.2]):=by
 refine A8 [.tmp 6,.tmp 7,.tmp 8] Tryz.func23 rfl Tryz.ntmps23 rfl rfl (fun B F hF=>?_)
 refine Ab [] [0,1,2] ?_
 refine We 0 rfl (fun _ _=>False) [] 0 (by omega) (fun _=>?_) (fun _ _ h=>h.elim)
 refine Af [] [0,1,2,9,10] [] (hk 3 X40 (X81 st hi fr tw (by omega) (by omega))<|hk0) v0 c0 ?_
 refine Ac ?_
 refine Ab [] [0,1,2,9,10,46] ?_
 refine Da (p:=((Ap Aa st fr tw).2)=0) (by kernel_rfl) (fun c1=>?_) (fun c1=>?_)
 ·refine Ab [] [6,7,8] ?_
  refine Ag ?_
  refine RK wR [.nils,.nils,(.int .i64 ((Ap Aa st fr tw).2))] ?_
  rw[show Du Aa st fr tw=([],[],(Ap Aa st fr tw).2) from by unfold Du;rw[if_pos c1]]
  simp only[Ak]
  exact(Imp.tups (ImpL.cons (Imp.nil (f:=A0)) (ImpL.cons (Imp.nil (f:=Bv)) (ImpL.cons Imp.refl ImpL.nil)))).same
 ·have hk:=Q7m (st:=st) (a:=fr) (b:=tw) c1
  obtain⟨hra,hrb⟩:=hk
  have hq:=Kr (m:=Aa) hra hrb
  have hcb:∀x∈Ad tw fr,0≤x∧x < st.all.length:=fun x hx=>hrb x (minusZ_mem.1 hx).1
  have hcl:(Ad tw fr).length≤200:=Nat.le_trans (Px (Ij _ _) hcb) hi.1
  have hql:(Ap Aa st fr tw).1.length≤200:=Sz hi hra hrb
  refine Ai ?_
  refine Af [] [0,1,2,9,11] [] (hk 1 Q37 (Yx st hi.1 hi.2)<|hk0) v0 c0 ?_
  refine Af [] [0,1,2,9,11,12] [] (hk 1 Rb (Qx fr (by omega))<|hk0) v0 c0 ?_
  refine Ab [] [0,1,2,9,11,12,13] ?_
  refine Ab [] [0,1,2,9,11,12,13,14] ?_
  refine Ab [] [0,1,2,9,11,12,13,14,15] ?_
  refine Af [] [0,1,2,9,13,14,15,16] [(0,11)] hk0 v0 c0 ?_
  refine Af [] [0,9,13,14,15,16,17] [] (hk 2 Oq (Oh tw fr (by omega) (by first|omega|simp))<|hk0) v0 c0 ?_
  refine Ac ?_
  refine Wf ?_
  refine Ac ?_
  refine Ay ?_
  refine Js 79 7 14 (y:=⟨[(0,(.fp (Bx st))),(9,(Ae 3 A0 ((Ap Aa st fr tw).1))),(13,(.ptr 2 0)),(14,(.own 3)),(15,(.fn 67 [] [(.ptr 2 0),(.ptr 1 0)])),(16,(.fn 68 [] [(.ptr 1 0),(.fp (.agg [(.fp (Be st))]))])),(17,(Ah (Ad tw fr)))],[(1,(.row [(Ah (Cf fr))] 26)),(2,(.row [.nils] 53)),(3,(.grow [] 79 7))],4⟩) (by kernel_rfl) (by kernel_rfl) ?_
  refine M8 66 3 2 0 (y:=⟨[(0,(.fp (Bx st))),(9,(Ae 3 A0 ((Ap Aa st fr tw).1))),(13,(.ptr 2 0)),(14,(.own 3)),(15,(.fn 67 [] [(.ptr 2 0),(.ptr 1 0)])),(16,(.fn 68 [] [(.ptr 1 0),(.fp (.agg [(.fp (Be st))]))])),(17,(Ah (Ad tw fr)))],[(1,(.row [(Ah (Cf fr))] 26)),(2,(.row [(.own 4)] 53)),(3,(.grow [] 79 7)),(4,(.grow [] 66 3))],5⟩) (by kernel_rfl) (by kernel_rfl) ?_
  refine Bz (fun g y=>∃(n:Nat) (c:List Int) (o:List Bq) (k:List Cz),c.length≤n∧C4 c∧(∀x∈c,0≤x∧x < st.all.length)∧o.length+400*c.length≤80000∧k.length+8388608*c.length≤1677721600∧D9 Aa st (Ap Aa st fr tw).1 fr n c o k=D9 Aa st (Ap Aa st fr tw).1 fr (Ad tw fr).length (Ad tw fr) [] []∧y=⟨[(0,(.fp (Bx st))),(9,(Ae 3 A0 ((Ap Aa st fr tw).1))),(13,(.ptr 2 0)),(14,(.own 3)),(15,(.fn 67 [] [(.ptr 2 0),(.ptr 1 0)])),(16,(.fn 68 [] [(.ptr 1 0),(.fp (.agg [(.fp (Be st))]))])),(17,(Ah c))],[(1,(.row [(Ah (Al fr o))] 26)),(2,(.row [(.own 4)] 53)),(3,(.grow (k.map Bv) 79 7)),(4,(.grow (o.map A0) 66 3))],5⟩∧g=c.length) [0,9,13,14,15,16,17] 5 _ (by omega) ⟨(Ad tw fr).length,(Ad tw fr),[],[],(by omega),(by exact Ij _ _),(by exact hcb),(by simp;omega),(by simp;omega),(by rfl),(by kernel_rfl),rfl⟩ ?_
  rintro g1 y1 ⟨n,c,o,k,hcn,hcr,hci,hol,hkl,hoF,rfl,rfl⟩
  have hml:(o.map A0).length=o.length:=List.length_map _
  have hmk:(k.map Bv).length=k.length:=List.length_map _
  have htl:=O1 fr o
  refine Ac ?_
  refine Ab [] [0,9,13,14,15,16,17,59] ?_
  refine A5 (p:=0 < (c.length:Int)) (by kernel_rfl) (fun c2=>?_) (fun c2=>?_)
  ·have hcne:¬c=[]:=by intro q;subst q;simp at c2
   refine Ai ?_
   refine Ay ?_
   refine Af [] [0,9,13,14,15,16,17,18,19] [] hk0 v0 (cc 1 (p:=(0≤(0:Int)∧0 < c.length)) (by first|omega|(simp;omega)|(simp;done)|(intros;simp_all;omega)|(intros;simp_all;done))<|c0) ?_
   refine Dm (fun y=>∃(v:Int),v=Eb Aa st (Al fr o) c∧y=⟨[(0,(.fp (Bx st))),(9,(Ae 3 A0 ((Ap Aa st fr tw).1))),(13,(.ptr 2 0)),(14,(.own 3)),(15,(.fn 67 [] [(.ptr 2 0),(.ptr 1 0)])),(16,(.fn 68 [] [(.ptr 1 0),(.fp (.agg [(.fp (Be st))]))])),(17,(Ah c)),(18,(.int .i64 v))],[(1,(.row [(Ah (Al fr o))] 26)),(2,(.row [(.own 4)] 53)),(3,(.grow (k.map Bv) 79 7)),(4,(.grow (o.map A0) 66 3))],5⟩) [0,9,13,14,15,16,17,18] 5 (by omega) ?_ ?_
   ·refine Ab [] [0,9,13,14,15,16,17,18,19,63,64,65] ?_
    refine Ay ?_
    refine Bz (fun g y=>∃(i:Nat) (bv:Int) (hf:Bool),i≤c.length∧bv∈c∧Et Aa st (Al fr o) (c.drop i) bv hf=Eb Aa st (Al fr o) c∧y=⟨[(0,(.fp (Bx st))),(9,(Ae 3 A0 ((Ap Aa st fr tw).1))),(13,(.ptr 2 0)),(14,(.own 3)),(15,(.fn 67 [] [(.ptr 2 0),(.ptr 1 0)])),(16,(.fn 68 [] [(.ptr 1 0),(.fp (.agg [(.fp (Be st))]))])),(17,(Ah c)),(18,(.int .i64 bv)),(19,(.bool hf)),(63,(Ah c)),(64,(.int .i64 ((c.length:Int)))),(65,(.int .i64 ((i:Int))))],[(1,(.row [(Ah (Al fr o))] 26)),(2,(.row [(.own 4)] 53)),(3,(.grow (k.map Bv) 79 7)),(4,(.grow (o.map A0) 66 3))],5⟩∧g=c.length-i) [0,9,13,14,15,16,17,18,19,63,64,65] 5 _ (by omega) ⟨0,(nth c 0),false,(by omega),(by exact Jb (by omega)),(by rfl),(by kernel_rfl),rfl⟩ ?_
    rintro g2 y2 ⟨i,bv,hf,hil,hbc,hnf,rfl,rfl⟩
    refine Ab [] [0,9,13,14,15,16,17,18,19,63,64,65,66] ?_
    refine Ac ?_
    refine A5 (p:=(i:Int) < (c.length:Int)) (by kernel_rfl) (fun c3=>?_) (fun c3=>?_)
    ·have hni:=hci _ (Jb (l:=c) (i:=i) (by omega))
     refine Ai ?_
     refine Ac ?_
     refine Ay ?_
     refine Af [] [0,9,13,14,15,16,17,18,19,21,63,64,65] [] hk0 v0 (cc 0 (p:=(0≤(i:Int)∧i < c.length)) (by first|omega|(simp;omega)|(simp;done)|(intros;simp_all;omega)|(intros;simp_all;done))<|c0) ?_
     refine Af [] [0,9,13,14,15,16,17,18,19,21,22,63,64,65] [(9,22)] (hk 2 (al:=[(.fp (Bx st)),(.int .i64 (nth c i))]) Lf ((Lq st (nth c i).toNat (by omega) (hi.2 _ (by omega))).of_args (ImpL.cons Imp.refl (ImpL.cons (Imp.of_eq (congrArg (AV.int .i64) (Je (by omega)))) ImpL.nil)))<|hk0) v0 c0 ?_
     refine Ac ?_
     refine Ac ?_
     refine An ?_
     refine B2 4 0 [] [0,9,13,14,15,16,17,18,19,21,22,63,64,65,76,77,79] [] hk0 v0 c0 ?_
     refine H5 [1] (f:=68) (cap:=[(.ptr 1 0),(.fp (.agg [(.fp (Be st))]))]) (al:=[(.int .i64 (nth c i)),(Ae 5 Ao (((nth st.all ((nth c i).toNat)).1).pre))]) (al':=[(.int .i64 (nth c i)),(Ae 5 Ao (((nth st.all ((nth c i).toNat)).1).pre)),(.ptr 0 0),(.fp (.agg [(.fp (Be st))]))]) (r:=(Ae 5 Ao (Ax Aa st (Al fr o) (nth c i) (Bn st (nth c i))))) (r':=(Ae 5 Ao (Ax Aa st (Al fr o) (nth c i) (Bn st (nth c i))))) (s':=[(0,(.fp (Bx st))),(9,(Ae 3 A0 ((Ap Aa st fr tw).1))),(13,(.ptr 2 0)),(14,(.own 3)),(15,(.fn 67 [] [(.ptr 2 0),(.ptr 1 0)])),(16,(.fn 68 [] [(.ptr 1 0),(.fp (.agg [(.fp (Be st))]))])),(17,(Ah c)),(18,(.int .i64 bv)),(19,(.bool hf)),(21,(.int .i64 (nth c i))),(22,(.fp (Av ((nth st.all ((nth c i).toNat)).1)))),(63,(Ah c)),(64,(.int .i64 ((c.length:Int)))),(65,(.int .i64 ((i:Int)))),(76,(.fn 68 [] [(.ptr 1 0),(.fp (.agg [(.fp (Be st))]))])),(77,(.int .i64 (nth c i))),(79,(Ae 5 Ao (((nth st.all ((nth c i).toNat)).1).pre))),(80,(Ae 5 Ao (Ax Aa st (Al fr o) (nth c i) (Bn st (nth c i)))))]) (H:=[(0,(.row [(Ah (Al fr o))] 26))]) (H':=[(0,(.row [(Ah (Al fr o))] 26))]) (h2:=[(1,(.row [(Ah (Al fr o))] 26)),(2,(.row [(.own 4)] 53)),(3,(.grow (k.map Bv) 79 7)),(4,(.grow (o.map A0) 66 3))]) (by kernel_rfl) (by kernel_rfl) (by exact Ra) (by kernel_rfl) (by kernel_rfl) (by kernel_rfl) (by kernel_rfl) (by kernel_rfl) (Qs st hi (Al fr o) (by omega) (nth c i) (Bn st (nth c i)) (Gt hi hni).1 (Gt hi hni).2) (by kernel_rfl) (by kernel_rfl) (by kernel_rfl) ?_
     refine Au 5 [] [0,9,13,14,15,16,17,18,19,21,22,63,64,65,82] [] hk0 v0 c0 ?_
     refine A5 (p:=0 < ((Ax Aa st (Al fr o) (nth c i) (Bn st (nth c i))).length:Int)) (by kernel_rfl) (fun c4=>?_) (fun c4=>?_)
     ·refine Bp ?_
      refine An ?_
      refine Au 0 [] [0,9,13,14,15,16,17,18,19,63,64,65] [] hk0 v0 (cc 0 (p:=(-9223372036854775808≤(i:Int)+1∧(i:Int)+1≤9223372036854775807)) (by first|omega|(simp;omega)|(simp;done)|(intros;simp_all;omega)|(intros;simp_all;done))<|c0) ?_
      refine⟨by kernel_rfl,_,?_,i+1,bv,hf,?_,?_,?_,(by kernel_rfl),rfl⟩
      ·omega
      ·omega
      ·assumption
      ·rw[←hnf];exact(X1k (by omega) (by omega)).symm
     ·refine Ai ?_
      refine Ac ?_
      refine Ac ?_
      refine An ?_
      refine B2 4 0 [] [0,9,13,14,15,16,17,18,19,21,63,64,65,83,84,86] [] hk0 v0 c0 ?_
      refine H5 [1] (f:=68) (cap:=[(.ptr 1 0),(.fp (.agg [(.fp (Be st))]))]) (al:=[(.int .i64 (nth c i)),(Ae 5 Ao (((nth st.all ((nth c i).toNat)).1).requires))]) (al':=[(.int .i64 (nth c i)),(Ae 5 Ao (((nth st.all ((nth c i).toNat)).1).requires)),(.ptr 0 0),(.fp (.agg [(.fp (Be st))]))]) (r:=(Ae 5 Ao (Ax Aa st (Al fr o) (nth c i) (Bt st (nth c i))))) (r':=(Ae 5 Ao (Ax Aa st (Al fr o) (nth c i) (Bt st (nth c i))))) (s':=[(0,(.fp (Bx st))),(9,(Ae 3 A0 ((Ap Aa st fr tw).1))),(13,(.ptr 2 0)),(14,(.own 3)),(15,(.fn 67 [] [(.ptr 2 0),(.ptr 1 0)])),(16,(.fn 68 [] [(.ptr 1 0),(.fp (.agg [(.fp (Be st))]))])),(17,(Ah c)),(18,(.int .i64 bv)),(19,(.bool hf)),(21,(.int .i64 (nth c i))),(63,(Ah c)),(64,(.int .i64 ((c.length:Int)))),(65,(.int .i64 ((i:Int)))),(83,(.fn 68 [] [(.ptr 1 0),(.fp (.agg [(.fp (Be st))]))])),(84,(.int .i64 (nth c i))),(86,(Ae 5 Ao (((nth st.all ((nth c i).toNat)).1).requires))),(87,(Ae 5 Ao (Ax Aa st (Al fr o) (nth c i) (Bt st (nth c i)))))]) (H:=[(0,(.row [(Ah (Al fr o))] 26))]) (H':=[(0,(.row [(Ah (Al fr o))] 26))]) (h2:=[(1,(.row [(Ah (Al fr o))] 26)),(2,(.row [(.own 4)] 53)),(3,(.grow (k.map Bv) 79 7)),(4,(.grow (o.map A0) 66 3))]) (by kernel_rfl) (by kernel_rfl) (by exact Ra) (by kernel_rfl) (by kernel_rfl) (by kernel_rfl) (by kernel_rfl) (by kernel_rfl) (Qs st hi (Al fr o) (by omega) (nth c i) (Bt st (nth c i)) (Gs hi hni).1 (Gs hi hni).2) (by kernel_rfl) (by kernel_rfl) (by kernel_rfl) ?_
      refine Au 5 [] [0,9,13,14,15,16,17,18,19,21,63,64,65,89] [] hk0 v0 c0 ?_
      refine A5 (p:=((Ax Aa st (Al fr o) (nth c i) (Bt st (nth c i))).length:Int)=0) (by kernel_rfl) (fun c5=>?_) (fun c5=>?_)
      ·refine Ab [] [0,9,13,14,15,16,17,18] ?_
       refine Bp ?_
       refine⟨by kernel_rfl,(nth c i),?_,(by kernel_rfl)⟩
       first|(rw[←hnf];exact(Q0k (by omega)).symm)|(rw[←hnf];exact(Q0h (by omega) (by omega) (by omega)).symm)
      ·refine Ai ?_
       refine Ab [] [0,9,13,14,15,16,17,18,19,21,63,64,65,92] ?_
       refine Bd (q:=!hf) (by kernel_rfl) (fun c6=>?_) (fun c6=>?_)
       ·try simp only[Am] at c6
        refine An ?_
        refine Ei [] [0,9,13,14,15,16,17,18,19,63,64,65] ?_
        refine An ?_
        refine Au 0 [] [0,9,13,14,15,16,17,18,19,63,64,65] [] hk0 v0 (cc 0 (p:=(-9223372036854775808≤(i:Int)+1∧(i:Int)+1≤9223372036854775807)) (by first|omega|(simp;omega)|(simp;done)|(intros;simp_all;omega)|(intros;simp_all;done))<|c0) ?_
        refine⟨by kernel_rfl,_,?_,i+1,(nth c i),true,?_,?_,?_,(by kernel_rfl),rfl⟩
        ·omega
        ·omega
        ·exact Jb (by omega)
        ·rw[←hnf,Q0j (i:=i) (bv:=bv) (hf:=hf) (by omega) (by omega) (by omega),c6];rfl
       ·try simp only[Am] at c6
        refine Ai ?_
        refine An ?_
        refine Au 0 [] [0,9,13,14,15,16,17,18,19,63,64,65] [] hk0 v0 (cc 0 (p:=(-9223372036854775808≤(i:Int)+1∧(i:Int)+1≤9223372036854775807)) (by first|omega|(simp;omega)|(simp;done)|(intros;simp_all;omega)|(intros;simp_all;done))<|c0) ?_
        refine⟨by kernel_rfl,_,?_,i+1,bv,hf,?_,?_,?_,(by kernel_rfl),rfl⟩
        ·omega
        ·omega
        ·assumption
        ·rw[←hnf,Q0j (i:=i) (bv:=bv) (hf:=hf) (by omega) (by omega) (by omega),c6];rfl
    ·refine Bp ?_
     refine⟨by kernel_rfl,bv,?_,(by kernel_rfl)⟩
     first|(rw[←hnf];exact(Q0k (by omega)).symm)|(rw[←hnf];exact(Q0h (by omega) (by omega) (by omega)).symm)
   ·rintro y1 ⟨v,hv,rfl⟩
    have hvc:v∈c:=by rw[hv];exact Mf hcne
    have hvi:=hci v hvc
    have hn1:=(Gt hi hvi).1
    have hn2:=(Gs hi hvi).1
    have hl1:=Jd Aa st (Al fr o) v (Bn st v)
    have hl2:=Jd Aa st (Al fr o) v (Bt st v)
    refine Af [] [0,9,13,14,15,16,17,18,25] [(9,25)] (hk 2 (al:=[(.fp (Bx st)),(.int .i64 v)]) Lf ((Lq st v.toNat (by omega) (hi.2 _ (by omega))).of_args (ImpL.cons Imp.refl (ImpL.cons (Imp.of_eq (congrArg (AV.int .i64) (Je (by omega)))) ImpL.nil)))<|hk0) v0 c0 ?_
    refine Ac ?_
    refine Ac ?_
    refine An ?_
    refine B2 4 0 [] [0,9,13,14,15,16,17,18,25,102,103,105] [] hk0 v0 c0 ?_
    refine H5 [1] (f:=68) (cap:=[(.ptr 1 0),(.fp (.agg [(.fp (Be st))]))]) (al:=[(.int .i64 v),(Ae 5 Ao (((nth st.all v.toNat).1).pre))]) (al':=[(.int .i64 v),(Ae 5 Ao (((nth st.all v.toNat).1).pre)),(.ptr 0 0),(.fp (.agg [(.fp (Be st))]))]) (r:=(Ae 5 Ao (Ax Aa st (Al fr o) v (Bn st v)))) (r':=(Ae 5 Ao (Ax Aa st (Al fr o) v (Bn st v)))) (s':=[(0,(.fp (Bx st))),(9,(Ae 3 A0 ((Ap Aa st fr tw).1))),(13,(.ptr 2 0)),(14,(.own 3)),(15,(.fn 67 [] [(.ptr 2 0),(.ptr 1 0)])),(16,(.fn 68 [] [(.ptr 1 0),(.fp (.agg [(.fp (Be st))]))])),(17,(Ah c)),(18,(.int .i64 v)),(25,(.fp (Av ((nth st.all v.toNat).1)))),(102,(.fn 68 [] [(.ptr 1 0),(.fp (.agg [(.fp (Be st))]))])),(103,(.int .i64 v)),(105,(Ae 5 Ao (((nth st.all v.toNat).1).pre))),(106,(Ae 5 Ao (Ax Aa st (Al fr o) v (Bn st v))))]) (H:=[(0,(.row [(Ah (Al fr o))] 26))]) (H':=[(0,(.row [(Ah (Al fr o))] 26))]) (h2:=[(1,(.row [(Ah (Al fr o))] 26)),(2,(.row [(.own 4)] 53)),(3,(.grow (k.map Bv) 79 7)),(4,(.grow (o.map A0) 66 3))]) (by kernel_rfl) (by kernel_rfl) (by exact Ra) (by kernel_rfl) (by kernel_rfl) (by kernel_rfl) (by kernel_rfl) (by kernel_rfl) (Qs st hi (Al fr o) (by omega) v (Bn st v) (Gt hi hvi).1 (Gt hi hvi).2) (by kernel_rfl) (by kernel_rfl) (by kernel_rfl) ?_
    refine Au 5 [] [0,9,13,14,15,16,17,18,25,106,107,108] [] hk0 v0 c0 ?_
    refine Ay ?_
    refine Bz (fun g y=>∃(i3:Nat),i3≤(Ax Aa st (Al fr o) v (Bn st v)).length∧y=⟨[(0,(.fp (Bx st))),(9,(Ae 3 A0 ((Ap Aa st fr tw).1))),(13,(.ptr 2 0)),(14,(.own 3)),(15,(.fn 67 [] [(.ptr 2 0),(.ptr 1 0)])),(16,(.fn 68 [] [(.ptr 1 0),(.fp (.agg [(.fp (Be st))]))])),(17,(Ah c)),(18,(.int .i64 v)),(25,(.fp (Av ((nth st.all v.toNat).1)))),(106,(Ae 5 Ao (Ax Aa st (Al fr o) v (Bn st v)))),(107,(.int .i64 (((Ax Aa st (Al fr o) v (Bn st v)).length:Int)))),(108,(.int .i64 ((i3:Int))))],[(1,(.row [(Ah (Al fr o))] 26)),(2,(.row [(.own 4)] 53)),(3,(.grow ((k++((Ax Aa st (Al fr o) v (Bn st v)).take i3).map (fun d=>((o.length:Int),true,d))).map Bv) 79 7)),(4,(.grow (o.map A0) 66 3))],6⟩∧g=(Ax Aa st (Al fr o) v (Bn st v)).length-i3) [0,9,13,14,15,16,17,18,25,106,107,108] 6 _ (by omega) ⟨0,(by omega),(Eq.trans (b:=(⟨[(0,(.fp (Bx st))),(9,(Ae 3 A0 ((Ap Aa st fr tw).1))),(13,(.ptr 2 0)),(14,(.own 3)),(15,(.fn 67 [] [(.ptr 2 0),(.ptr 1 0)])),(16,(.fn 68 [] [(.ptr 1 0),(.fp (.agg [(.fp (Be st))]))])),(17,(Ah c)),(18,(.int .i64 v)),(25,(.fp (Av ((nth st.all v.toNat).1)))),(106,(Ae 5 Ao (Ax Aa st (Al fr o) v (Bn st v)))),(107,(.int .i64 (((Ax Aa st (Al fr o) v (Bn st v)).length:Int)))),(108,(.int .i64 0))],[(1,(.row [(Ah (Al fr o))] 26)),(2,(.row [(.own 4)] 53)),(3,(.grow (k.map Bv) 79 7)),(4,(.grow (o.map A0) 66 3))],6⟩:St)) (by kernel_rfl) (by rw[show(k++((Ax Aa st (Al fr o) v (Bn st v)).take 0).map (fun d=>((o.length:Int),true,d))).map Bv=k.map Bv from by rw[List.take_zero,List.map_nil,List.append_nil]]<;>kernel_rfl)),rfl⟩ ?_
    rintro g3 y3 ⟨i3,f3_1,rfl,rfl⟩
    refine Ab [] [0,9,13,14,15,16,17,18,25,106,107,108,109] ?_
    refine Ac ?_
    refine A5 (p:=(i3:Int) < ((Ax Aa st (Al fr o) v (Bn st v)).length:Int)) (by kernel_rfl) (fun c7=>?_) (fun c7=>?_)
    ·refine Ai ?_
     refine Ac ?_
     refine Ay ?_
     refine Af [] [0,9,13,14,15,16,17,18,25,29,106,107,108] [] hk0 v0 (cc 0 (p:=(0≤(i3:Int)∧i3 < (Ax Aa st (Al fr o) v (Bn st v)).length)) (by first|omega|(simp;omega)|(simp;done)|(intros;simp_all;omega)|(intros;simp_all;done))<|c0) ?_
     refine An ?_
     refine Au 0 [] [0,9,13,14,15,16,17,18,25,106,107,108] [(0,29)] hk0 v0 (cc 6 (p:=((((k++((Ax Aa st (Al fr o) v (Bn st v)).take i3).map (fun d=>((o.length:Int),true,d))).map Bv).length+1)*88≤140737488355328)) (by first|omega|(simp;omega)|(simp;done)|(intros;simp_all;omega)|(intros;simp_all;done))<|c0) ?_
     refine An ?_
     refine Au 0 [] [0,9,13,14,15,16,17,18,25,106,107,108] [] hk0 v0 (cc 0 (p:=(-9223372036854775808≤(i3:Int)+1∧(i3:Int)+1≤9223372036854775807)) (by first|omega|(simp;omega)|(simp;done)|(intros;simp_all;omega)|(intros;simp_all;done))<|c0) ?_
     refine⟨by kernel_rfl,_,?_,i3+1,?_,(Eq.trans (b:=(⟨[(0,(.fp (Bx st))),(9,(Ae 3 A0 ((Ap Aa st fr tw).1))),(13,(.ptr 2 0)),(14,(.own 3)),(15,(.fn 67 [] [(.ptr 2 0),(.ptr 1 0)])),(16,(.fn 68 [] [(.ptr 1 0),(.fp (.agg [(.fp (Be st))]))])),(17,(Ah c)),(18,(.int .i64 v)),(25,(.fp (Av ((nth st.all v.toNat).1)))),(106,(Ae 5 Ao (Ax Aa st (Al fr o) v (Bn st v)))),(107,(.int .i64 (((Ax Aa st (Al fr o) v (Bn st v)).length:Int)))),(108,(.int .i64 ((i3:Int)+1)))],[(1,(.row [(Ah (Al fr o))] 26)),(2,(.row [(.own 4)] 53)),(3,(.grow (((k++((Ax Aa st (Al fr o) v (Bn st v)).take i3).map (fun d=>((o.length:Int),true,d))).map Bv)++([(.agg [(.int .i64 (((o.map A0).length:Int))),(.bool true),(.int .i64 ((nth (Ax Aa st (Al fr o) v (Bn st v)) i3).kind)),(.str ((nth (Ax Aa st (Al fr o) v (Bn st v)) i3).name)),(.int .i64 ((nth (Ax Aa st (Al fr o) v (Bn st v)) i3).op)),(.str ((nth (Ax Aa st (Al fr o) v (Bn st v)) i3).evr)),(.row 5 (nth (Ax Aa st (Al fr o) v (Bn st v)) i3).args.length (depAt (nth (Ax Aa st (Al fr o) v (Bn st v)) i3).args))])]:List AV)) 79 7)),(4,(.grow (o.map A0) 66 3))],6⟩:St)) (by kernel_rfl) (by rw[Ry (k:=k) (l:=(Ax Aa st (Al fr o) v (Bn st v))) (n:=(o.length:Int)) (p:=true) (i:=i3) (by omega),hml]<;>kernel_rfl)),rfl⟩
     ·omega
     ·omega
    ·refine Bp ?_
     refine Ac ?_
     refine Ac ?_
     refine An ?_
     refine B2 4 0 [] [0,9,13,14,15,16,17,18,120,121,123] [] hk0 v0 c0 ?_
     refine H5 [1] (f:=68) (cap:=[(.ptr 1 0),(.fp (.agg [(.fp (Be st))]))]) (al:=[(.int .i64 v),(Ae 5 Ao (((nth st.all v.toNat).1).requires))]) (al':=[(.int .i64 v),(Ae 5 Ao (((nth st.all v.toNat).1).requires)),(.ptr 0 0),(.fp (.agg [(.fp (Be st))]))]) (r:=(Ae 5 Ao (Ax Aa st (Al fr o) v (Bt st v)))) (r':=(Ae 5 Ao (Ax Aa st (Al fr o) v (Bt st v)))) (s':=[(0,(.fp (Bx st))),(9,(Ae 3 A0 ((Ap Aa st fr tw).1))),(13,(.ptr 2 0)),(14,(.own 3)),(15,(.fn 67 [] [(.ptr 2 0),(.ptr 1 0)])),(16,(.fn 68 [] [(.ptr 1 0),(.fp (.agg [(.fp (Be st))]))])),(17,(Ah c)),(18,(.int .i64 v)),(120,(.fn 68 [] [(.ptr 1 0),(.fp (.agg [(.fp (Be st))]))])),(121,(.int .i64 v)),(123,(Ae 5 Ao (((nth st.all v.toNat).1).requires))),(124,(Ae 5 Ao (Ax Aa st (Al fr o) v (Bt st v))))]) (H:=[(0,(.row [(Ah (Al fr o))] 26))]) (H':=[(0,(.row [(Ah (Al fr o))] 26))]) (h2:=[(1,(.row [(Ah (Al fr o))] 26)),(2,(.row [(.own 4)] 53)),(3,(.grow ((k++((Ax Aa st (Al fr o) v (Bn st v)).take i3).map (fun d=>((o.length:Int),true,d))).map Bv) 79 7)),(4,(.grow (o.map A0) 66 3))]) (by kernel_rfl) (by kernel_rfl) (by exact Ra) (by kernel_rfl) (by kernel_rfl) (by kernel_rfl) (by kernel_rfl) (by kernel_rfl) (Qs st hi (Al fr o) (by omega) v (Bt st v) (Gs hi hvi).1 (Gs hi hvi).2) (by kernel_rfl) (by kernel_rfl) (by kernel_rfl) ?_
     refine Au 5 [] [0,9,13,14,15,16,17,18,124,125,126] [] hk0 v0 c0 ?_
     refine Ay ?_
     refine Bz (fun g y=>∃(i4:Nat),i4≤(Ax Aa st (Al fr o) v (Bt st v)).length∧y=⟨[(0,(.fp (Bx st))),(9,(Ae 3 A0 ((Ap Aa st fr tw).1))),(13,(.ptr 2 0)),(14,(.own 3)),(15,(.fn 67 [] [(.ptr 2 0),(.ptr 1 0)])),(16,(.fn 68 [] [(.ptr 1 0),(.fp (.agg [(.fp (Be st))]))])),(17,(Ah c)),(18,(.int .i64 v)),(124,(Ae 5 Ao (Ax Aa st (Al fr o) v (Bt st v)))),(125,(.int .i64 (((Ax Aa st (Al fr o) v (Bt st v)).length:Int)))),(126,(.int .i64 ((i4:Int))))],[(1,(.row [(Ah (Al fr o))] 26)),(2,(.row [(.own 4)] 53)),(3,(.grow (((k++(Ax Aa st (Al fr o) v (Bn st v)).map (fun d=>((o.length:Int),true,d)))++((Ax Aa st (Al fr o) v (Bt st v)).take i4).map (fun d=>((o.length:Int),false,d))).map Bv) 79 7)),(4,(.grow (o.map A0) 66 3))],6⟩∧g=(Ax Aa st (Al fr o) v (Bt st v)).length-i4) [0,9,13,14,15,16,17,18,124,125,126] 6 _ (by omega) ⟨0,(by omega),(Eq.trans (b:=(⟨[(0,(.fp (Bx st))),(9,(Ae 3 A0 ((Ap Aa st fr tw).1))),(13,(.ptr 2 0)),(14,(.own 3)),(15,(.fn 67 [] [(.ptr 2 0),(.ptr 1 0)])),(16,(.fn 68 [] [(.ptr 1 0),(.fp (.agg [(.fp (Be st))]))])),(17,(Ah c)),(18,(.int .i64 v)),(124,(Ae 5 Ao (Ax Aa st (Al fr o) v (Bt st v)))),(125,(.int .i64 (((Ax Aa st (Al fr o) v (Bt st v)).length:Int)))),(126,(.int .i64 0))],[(1,(.row [(Ah (Al fr o))] 26)),(2,(.row [(.own 4)] 53)),(3,(.grow ((k++((Ax Aa st (Al fr o) v (Bn st v)).take i3).map (fun d=>((o.length:Int),true,d))).map Bv) 79 7)),(4,(.grow (o.map A0) 66 3))],6⟩:St)) (by kernel_rfl) (by rw[Q4x (k:=k) (l:=(Ax Aa st (Al fr o) v (Bn st v))) (l2:=(Ax Aa st (Al fr o) v (Bt st v))) (n:=(o.length:Int)) (i:=i3) (by omega)]<;>kernel_rfl)),rfl⟩ ?_
     rintro g4 y4 ⟨i4,f4_1,rfl,rfl⟩
     refine Ab [] [0,9,13,14,15,16,17,18,124,125,126,127] ?_
     refine Ac ?_
     refine A5 (p:=(i4:Int) < ((Ax Aa st (Al fr o) v (Bt st v)).length:Int)) (by kernel_rfl) (fun c8=>?_) (fun c8=>?_)
     ·refine Ai ?_
      refine Ac ?_
      refine Ay ?_
      refine Af [] [0,9,13,14,15,16,17,18,31,124,125,126] [] hk0 v0 (cc 0 (p:=(0≤(i4:Int)∧i4 < (Ax Aa st (Al fr o) v (Bt st v)).length)) (by first|omega|(simp;omega)|(simp;done)|(intros;simp_all;omega)|(intros;simp_all;done))<|c0) ?_
      refine An ?_
      refine Au 0 [] [0,9,13,14,15,16,17,18,124,125,126] [(0,31)] hk0 v0 (cc 6 (p:=(((((k++(Ax Aa st (Al fr o) v (Bn st v)).map (fun d=>((o.length:Int),true,d)))++((Ax Aa st (Al fr o) v (Bt st v)).take i4).map (fun d=>((o.length:Int),false,d))).map Bv).length+1)*88≤140737488355328)) (by first|omega|(simp;omega)|(simp;done)|(intros;simp_all;omega)|(intros;simp_all;done))<|c0) ?_
      refine An ?_
      refine Au 0 [] [0,9,13,14,15,16,17,18,124,125,126] [] hk0 v0 (cc 0 (p:=(-9223372036854775808≤(i4:Int)+1∧(i4:Int)+1≤9223372036854775807)) (by first|omega|(simp;omega)|(simp;done)|(intros;simp_all;omega)|(intros;simp_all;done))<|c0) ?_
      refine⟨by kernel_rfl,_,?_,i4+1,?_,(Eq.trans (b:=(⟨[(0,(.fp (Bx st))),(9,(Ae 3 A0 ((Ap Aa st fr tw).1))),(13,(.ptr 2 0)),(14,(.own 3)),(15,(.fn 67 [] [(.ptr 2 0),(.ptr 1 0)])),(16,(.fn 68 [] [(.ptr 1 0),(.fp (.agg [(.fp (Be st))]))])),(17,(Ah c)),(18,(.int .i64 v)),(124,(Ae 5 Ao (Ax Aa st (Al fr o) v (Bt st v)))),(125,(.int .i64 (((Ax Aa st (Al fr o) v (Bt st v)).length:Int)))),(126,(.int .i64 ((i4:Int)+1)))],[(1,(.row [(Ah (Al fr o))] 26)),(2,(.row [(.own 4)] 53)),(3,(.grow ((((k++(Ax Aa st (Al fr o) v (Bn st v)).map (fun d=>((o.length:Int),true,d)))++((Ax Aa st (Al fr o) v (Bt st v)).take i4).map (fun d=>((o.length:Int),false,d))).map Bv)++([(.agg [(.int .i64 (((o.map A0).length:Int))),(.bool false),(.int .i64 ((nth (Ax Aa st (Al fr o) v (Bt st v)) i4).kind)),(.str ((nth (Ax Aa st (Al fr o) v (Bt st v)) i4).name)),(.int .i64 ((nth (Ax Aa st (Al fr o) v (Bt st v)) i4).op)),(.str ((nth (Ax Aa st (Al fr o) v (Bt st v)) i4).evr)),(.row 5 (nth (Ax Aa st (Al fr o) v (Bt st v)) i4).args.length (depAt (nth (Ax Aa st (Al fr o) v (Bt st v)) i4).args))])]:List AV)) 79 7)),(4,(.grow (o.map A0) 66 3))],6⟩:St)) (by kernel_rfl) (by rw[Ry (k:=k++(Ax Aa st (Al fr o) v (Bn st v)).map (fun d=>((o.length:Int),true,d))) (l:=(Ax Aa st (Al fr o) v (Bt st v))) (n:=(o.length:Int)) (p:=false) (i:=i4) (by omega),hml]<;>kernel_rfl)),rfl⟩
      ·omega
      ·omega
     ·refine Bp ?_
      refine Af [] [0,9,13,14,15,16,17,18] [(3,140)] (hk 3 Oq (Oh c [v] (by omega) (by first|omega|simp))<|hk0) (vk 3 140 (b:=(Ah [v])) (Imp.list (f:=AV.int .i64) rfl)<|v0) c0 ?_
      refine Ac ?_
      refine Ab [] [0,9,13,14,15,16,17,18,142,143,144] ?_
      refine Ay ?_
      refine Bz (fun g y=>∃(i5:Nat),i5≤(Ap Aa st fr tw).1.length∧y=⟨[(0,(.fp (Bx st))),(9,(Ae 3 A0 ((Ap Aa st fr tw).1))),(13,(.ptr 2 0)),(14,(.own 3)),(15,(.fn 67 [] [(.ptr 2 0),(.ptr 1 0)])),(16,(.fn 68 [] [(.ptr 1 0),(.fp (.agg [(.fp (Be st))]))])),(17,(Ah (Ad c [v]))),(18,(.int .i64 v)),(142,(Ae 3 A0 ((Ap Aa st fr tw).1))),(143,(.int .i64 ((((Ap Aa st fr tw).1).length:Int)))),(144,(.int .i64 ((i5:Int))))],[(1,(.row [(Ah (Al fr (o++((Ap Aa st fr tw).1.take i5).filter (ofB v))))] 26)),(2,(.row [(.own 4)] 53)),(3,(.grow (((k++(Ax Aa st (Al fr o) v (Bn st v)).map (fun d=>((o.length:Int),true,d)))++((Ax Aa st (Al fr o) v (Bt st v)).take i4).map (fun d=>((o.length:Int),false,d))).map Bv) 79 7)),(4,(.grow ((o++((Ap Aa st fr tw).1.take i5).filter (ofB v)).map A0) 66 3))],7⟩∧g=(Ap Aa st fr tw).1.length-i5) [0,9,13,14,15,16,17,18,142,143,144] 7 _ (by omega) ⟨0,(by omega),(Eq.trans (b:=(⟨[(0,(.fp (Bx st))),(9,(Ae 3 A0 ((Ap Aa st fr tw).1))),(13,(.ptr 2 0)),(14,(.own 3)),(15,(.fn 67 [] [(.ptr 2 0),(.ptr 1 0)])),(16,(.fn 68 [] [(.ptr 1 0),(.fp (.agg [(.fp (Be st))]))])),(17,(Ah (Ad c [v]))),(18,(.int .i64 v)),(142,(Ae 3 A0 ((Ap Aa st fr tw).1))),(143,(.int .i64 ((((Ap Aa st fr tw).1).length:Int)))),(144,(.int .i64 0))],[(1,(.row [(Ah (Al fr o))] 26)),(2,(.row [(.own 4)] 53)),(3,(.grow (((k++(Ax Aa st (Al fr o) v (Bn st v)).map (fun d=>((o.length:Int),true,d)))++((Ax Aa st (Al fr o) v (Bt st v)).take i4).map (fun d=>((o.length:Int),false,d))).map Bv) 79 7)),(4,(.grow (o.map A0) 66 3))],7⟩:St)) (by kernel_rfl) (by rw[show o++((Ap Aa st fr tw).1.take 0).filter (ofB v)=o from by rw[List.take_zero,List.filter_nil,List.append_nil]]<;>kernel_rfl)),rfl⟩ ?_
      rintro g5 y5 ⟨i5,f5_1,rfl,rfl⟩
      refine Ab [] [0,9,13,14,15,16,17,18,142,143,144,145] ?_
      refine Ac ?_
      refine A5 (p:=(i5:Int) < (((Ap Aa st fr tw).1).length:Int)) (by kernel_rfl) (fun c9=>?_) (fun c9=>?_)
      ·refine Ai ?_
       refine Ac ?_
       refine Ay ?_
       refine Af [] [0,9,13,14,15,16,17,18,33,142,143,144] [] hk0 v0 (cc 0 (p:=(0≤(i5:Int)∧i5 < ((Ap Aa st fr tw).1).length)) (by first|omega|(simp;omega)|(simp;done)|(intros;simp_all;omega)|(intros;simp_all;done))<|c0) ?_
       refine Af [] [0,9,13,14,15,16,17,18,33,142,143,144,151] [(0,33)] hk0 v0 c0 ?_
       refine A5 (p:=((nth ((Ap Aa st fr tw).1) i5).2.1)=v) (by kernel_rfl) (fun c10=>?_) (fun c10=>?_)
       ·refine An ?_
        refine B2 2 0 [] [0,9,13,14,15,16,17,18,142,143,144,152,153] [] hk0 v0 c0 ?_
        refine H5 [2,1,4] (f:=67) (cap:=[(.ptr 2 0),(.ptr 1 0)]) (al:=[(.agg [(.int .i64 ((nth ((Ap Aa st fr tw).1) i5).1)),(.int .i64 ((nth ((Ap Aa st fr tw).1) i5).2.1)),(.int .i64 ((nth ((Ap Aa st fr tw).1) i5).2.2))])]) (al':=[(.agg [(.int .i64 ((nth ((Ap Aa st fr tw).1) i5).1)),(.int .i64 ((nth ((Ap Aa st fr tw).1) i5).2.1)),(.int .i64 ((nth ((Ap Aa st fr tw).1) i5).2.2))]),(.ptr 0 0),(.ptr 1 0)]) (r:=(.tup [])) (r':=(.tup [])) (s':=[(0,(.fp (Bx st))),(9,(Ae 3 A0 ((Ap Aa st fr tw).1))),(13,(.ptr 2 0)),(14,(.own 3)),(15,(.fn 67 [] [(.ptr 2 0),(.ptr 1 0)])),(16,(.fn 68 [] [(.ptr 1 0),(.fp (.agg [(.fp (Be st))]))])),(17,(Ah (Ad c [v]))),(18,(.int .i64 v)),(142,(Ae 3 A0 ((Ap Aa st fr tw).1))),(143,(.int .i64 ((((Ap Aa st fr tw).1).length:Int)))),(144,(.int .i64 ((i5:Int)))),(152,(.fn 67 [] [(.ptr 2 0),(.ptr 1 0)])),(153,(.agg [(.int .i64 ((nth ((Ap Aa st fr tw).1) i5).1)),(.int .i64 ((nth ((Ap Aa st fr tw).1) i5).2.1)),(.int .i64 ((nth ((Ap Aa st fr tw).1) i5).2.2))])),(154,(.tup []))]) (H:=[(0,(.row [(.own 2)] 53)),(1,(.row [(Ah (Al fr (o++((Ap Aa st fr tw).1.take i5).filter (ofB v))))] 26)),(2,(.grow ((o++((Ap Aa st fr tw).1.take i5).filter (ofB v)).map A0) 66 3))]) (H':=[(0,(.row [(.own 2)] 53)),(1,(.row [(Ah (Al fr ((o++((Ap Aa st fr tw).1.take i5).filter (ofB v))++[(nth ((Ap Aa st fr tw).1) i5)])))] 26)),(2,(.grow (((o++((Ap Aa st fr tw).1.take i5).filter (ofB v))++[(nth ((Ap Aa st fr tw).1) i5)]).map A0) 66 3))]) (h2:=[(1,(.row [(Ah (Al fr ((o++((Ap Aa st fr tw).1.take i5).filter (ofB v))++[(nth ((Ap Aa st fr tw).1) i5)])))] 26)),(2,(.row [(.own 4)] 53)),(3,(.grow (((k++(Ax Aa st (Al fr o) v (Bn st v)).map (fun d=>((o.length:Int),true,d)))++((Ax Aa st (Al fr o) v (Bt st v)).take i4).map (fun d=>((o.length:Int),false,d))).map Bv) 79 7)),(4,(.grow (((o++((Ap Aa st fr tw).1.take i5).filter (ofB v))++[(nth ((Ap Aa st fr tw).1) i5)]).map A0) 66 3))]) (by kernel_rfl) (by kernel_rfl) (by exact U9) (by kernel_rfl) (by kernel_rfl) (by kernel_rfl) (by kernel_rfl) (by kernel_rfl) (Vk fr (o++((Ap Aa st fr tw).1.take i5).filter (ofB v)) (nth ((Ap Aa st fr tw).1) i5) (by have:=Lk o (Ap Aa st fr tw).1 i5 (ofB v);omega) ha) (by kernel_rfl) (by kernel_rfl) (by kernel_rfl) ?_
        refine Cd ?_
        refine An ?_
        refine Au 0 [] [0,9,13,14,15,16,17,18,142,143,144] [] hk0 v0 (cc 0 (p:=(-9223372036854775808≤(i5:Int)+1∧(i5:Int)+1≤9223372036854775807)) (by first|omega|(simp;omega)|(simp;done)|(intros;simp_all;omega)|(intros;simp_all;done))<|c0) ?_
        refine⟨by kernel_rfl,_,?_,i5+1,?_,(Eq.trans (b:=(⟨[(0,(.fp (Bx st))),(9,(Ae 3 A0 ((Ap Aa st fr tw).1))),(13,(.ptr 2 0)),(14,(.own 3)),(15,(.fn 67 [] [(.ptr 2 0),(.ptr 1 0)])),(16,(.fn 68 [] [(.ptr 1 0),(.fp (.agg [(.fp (Be st))]))])),(17,(Ah (Ad c [v]))),(18,(.int .i64 v)),(142,(Ae 3 A0 ((Ap Aa st fr tw).1))),(143,(.int .i64 ((((Ap Aa st fr tw).1).length:Int)))),(144,(.int .i64 ((i5:Int)+1)))],[(1,(.row [(Ah (Al fr ((o++((Ap Aa st fr tw).1.take i5).filter (ofB v))++[(nth ((Ap Aa st fr tw).1) i5)])))] 26)),(2,(.row [(.own 4)] 53)),(3,(.grow (((k++(Ax Aa st (Al fr o) v (Bn st v)).map (fun d=>((o.length:Int),true,d)))++((Ax Aa st (Al fr o) v (Bt st v)).take i4).map (fun d=>((o.length:Int),false,d))).map Bv) 79 7)),(4,(.grow (((o++((Ap Aa st fr tw).1.take i5).filter (ofB v))++[(nth ((Ap Aa st fr tw).1) i5)]).map A0) 66 3))],7⟩:St)) (by kernel_rfl) (by rw[Ok (o:=o) (q:=(Ap Aa st fr tw).1) (p:=ofB v) (i:=i5) (by omega) (decide_eq_true (by assumption))]<;>kernel_rfl)),rfl⟩
        ·omega
        ·omega
       ·refine Ai ?_
        refine An ?_
        refine Au 0 [] [0,9,13,14,15,16,17,18,142,143,144] [] hk0 v0 (cc 0 (p:=(-9223372036854775808≤(i5:Int)+1∧(i5:Int)+1≤9223372036854775807)) (by first|omega|(simp;omega)|(simp;done)|(intros;simp_all;omega)|(intros;simp_all;done))<|c0) ?_
        refine⟨by kernel_rfl,_,?_,i5+1,?_,(Eq.trans (b:=(⟨[(0,(.fp (Bx st))),(9,(Ae 3 A0 ((Ap Aa st fr tw).1))),(13,(.ptr 2 0)),(14,(.own 3)),(15,(.fn 67 [] [(.ptr 2 0),(.ptr 1 0)])),(16,(.fn 68 [] [(.ptr 1 0),(.fp (.agg [(.fp (Be st))]))])),(17,(Ah (Ad c [v]))),(18,(.int .i64 v)),(142,(Ae 3 A0 ((Ap Aa st fr tw).1))),(143,(.int .i64 ((((Ap Aa st fr tw).1).length:Int)))),(144,(.int .i64 ((i5:Int)+1)))],[(1,(.row [(Ah (Al fr (o++((Ap Aa st fr tw).1.take i5).filter (ofB v))))] 26)),(2,(.row [(.own 4)] 53)),(3,(.grow (((k++(Ax Aa st (Al fr o) v (Bn st v)).map (fun d=>((o.length:Int),true,d)))++((Ax Aa st (Al fr o) v (Bt st v)).take i4).map (fun d=>((o.length:Int),false,d))).map Bv) 79 7)),(4,(.grow ((o++((Ap Aa st fr tw).1.take i5).filter (ofB v)).map A0) 66 3))],7⟩:St)) (by kernel_rfl) (by rw[Mr (o:=o) (q:=(Ap Aa st fr tw).1) (p:=ofB v) (i:=i5) (by omega) (decide_eq_false (by assumption))]<;>kernel_rfl)),rfl⟩
        ·omega
        ·omega
      ·refine Bp ?_
       refine Ac ?_
       refine Ab [] [0,9,13,14,15,16,17,18,156,157,158] ?_
       refine Ay ?_
       refine Bz (fun g y=>∃(i6:Nat),i6≤(Ap Aa st fr tw).1.length∧y=⟨[(0,(.fp (Bx st))),(9,(Ae 3 A0 ((Ap Aa st fr tw).1))),(13,(.ptr 2 0)),(14,(.own 3)),(15,(.fn 67 [] [(.ptr 2 0),(.ptr 1 0)])),(16,(.fn 68 [] [(.ptr 1 0),(.fp (.agg [(.fp (Be st))]))])),(17,(Ah (Ad c [v]))),(18,(.int .i64 v)),(156,(Ae 3 A0 ((Ap Aa st fr tw).1))),(157,(.int .i64 ((((Ap Aa st fr tw).1).length:Int)))),(158,(.int .i64 ((i6:Int))))],[(1,(.row [(Ah (Al fr ((o++(Ap Aa st fr tw).1.filter (ofB v))++((Ap Aa st fr tw).1.take i6).filter (Cb v))))] 26)),(2,(.row [(.own 4)] 53)),(3,(.grow (((k++(Ax Aa st (Al fr o) v (Bn st v)).map (fun d=>((o.length:Int),true,d)))++((Ax Aa st (Al fr o) v (Bt st v)).take i4).map (fun d=>((o.length:Int),false,d))).map Bv) 79 7)),(4,(.grow (((o++(Ap Aa st fr tw).1.filter (ofB v))++((Ap Aa st fr tw).1.take i6).filter (Cb v)).map A0) 66 3))],7⟩∧g=(Ap Aa st fr tw).1.length-i6) [0,9,13,14,15,16,17,18,156,157,158] 7 _ (by omega) ⟨0,(by omega),(Eq.trans (b:=(⟨[(0,(.fp (Bx st))),(9,(Ae 3 A0 ((Ap Aa st fr tw).1))),(13,(.ptr 2 0)),(14,(.own 3)),(15,(.fn 67 [] [(.ptr 2 0),(.ptr 1 0)])),(16,(.fn 68 [] [(.ptr 1 0),(.fp (.agg [(.fp (Be st))]))])),(17,(Ah (Ad c [v]))),(18,(.int .i64 v)),(156,(Ae 3 A0 ((Ap Aa st fr tw).1))),(157,(.int .i64 ((((Ap Aa st fr tw).1).length:Int)))),(158,(.int .i64 0))],[(1,(.row [(Ah (Al fr (o++((Ap Aa st fr tw).1.take i5).filter (ofB v))))] 26)),(2,(.row [(.own 4)] 53)),(3,(.grow (((k++(Ax Aa st (Al fr o) v (Bn st v)).map (fun d=>((o.length:Int),true,d)))++((Ax Aa st (Al fr o) v (Bt st v)).take i4).map (fun d=>((o.length:Int),false,d))).map Bv) 79 7)),(4,(.grow ((o++((Ap Aa st fr tw).1.take i5).filter (ofB v)).map A0) 66 3))],7⟩:St)) (by kernel_rfl) (by rw[Q2n (o:=o) (q:=(Ap Aa st fr tw).1) (p:=ofB v) (r:=Cb v) (i:=i5) (by omega)]<;>kernel_rfl)),rfl⟩ ?_
       rintro g6 y6 ⟨i6,f6_1,rfl,rfl⟩
       refine Ab [] [0,9,13,14,15,16,17,18,156,157,158,159] ?_
       refine Ac ?_
       refine A5 (p:=(i6:Int) < (((Ap Aa st fr tw).1).length:Int)) (by kernel_rfl) (fun c11=>?_) (fun c11=>?_)
       ·refine Ai ?_
        refine Ac ?_
        refine Ay ?_
        refine Af [] [0,9,13,14,15,16,17,18,35,156,157,158] [] hk0 v0 (cc 0 (p:=(0≤(i6:Int)∧i6 < ((Ap Aa st fr tw).1).length)) (by first|omega|(simp;omega)|(simp;done)|(intros;simp_all;omega)|(intros;simp_all;done))<|c0) ?_
        obtain⟨b1,hb1⟩:∃b,b=(decide (((nth ((Ap Aa st fr tw).1) i6).1)=6)):=⟨_,rfl⟩
        obtain⟨b2,hb2⟩:∃b,b=(b1||(decide (((nth ((Ap Aa st fr tw).1) i6).1)=7))):=⟨_,rfl⟩
        refine Af (CS:=[(5,((!b1)=true→(!b1)=true)),(6,((!b1)=true→(!b1)=true)),(7,(b1=false→(!b1)=true)),(10,(b2=true→b2=true)),(12,(b2=true→b2=true∧b2=true)),(13,(b2=true→b2=true))]) [166,167,168,171,172,173,174] [0,9,13,14,15,16,17,18,35,156,157,158,175] [(0,35)] hk0 (vk 4 165 (a:=.bool (decide (((nth ((Ap Aa st fr tw).1) i6).1)=6))) (b:=.bool b1) (Imp.of_eq (by rw[hb1]))<|vk 8 169 (a:=.bool (b1||(decide (((nth ((Ap Aa st fr tw).1) i6).1)=7)))) (b:=.bool b2) (Imp.of_eq (by rw[hb2]))<|v0) (by refine cc _ ?_<|cc _ ?_<|cc _ ?_<|cc _ ?_<|cc _ ?_<|cc _ ?_ c0<;>first|omega|(simp;omega)|(simp;done)|(intros;simp_all;omega)|(intros;simp_all;done)) ?_
        refine Bd (q:=b2&&(decide (((nth ((Ap Aa st fr tw).1) i6).2.2)=v))) (by kernel_rfl) (fun c12=>?_) (fun c12=>?_)
        ·subst hb2 hb1
         try simp only[Am] at c12
         refine An ?_
         refine B2 2 0 [] [0,9,13,14,15,16,17,18,156,157,158,176,177] [] hk0 v0 c0 ?_
         refine H5 [2,1,4] (f:=67) (cap:=[(.ptr 2 0),(.ptr 1 0)]) (al:=[(.agg [(.int .i64 ((nth ((Ap Aa st fr tw).1) i6).1)),(.int .i64 ((nth ((Ap Aa st fr tw).1) i6).2.1)),(.int .i64 ((nth ((Ap Aa st fr tw).1) i6).2.2))])]) (al':=[(.agg [(.int .i64 ((nth ((Ap Aa st fr tw).1) i6).1)),(.int .i64 ((nth ((Ap Aa st fr tw).1) i6).2.1)),(.int .i64 ((nth ((Ap Aa st fr tw).1) i6).2.2))]),(.ptr 0 0),(.ptr 1 0)]) (r:=(.tup [])) (r':=(.tup [])) (s':=[(0,(.fp (Bx st))),(9,(Ae 3 A0 ((Ap Aa st fr tw).1))),(13,(.ptr 2 0)),(14,(.own 3)),(15,(.fn 67 [] [(.ptr 2 0),(.ptr 1 0)])),(16,(.fn 68 [] [(.ptr 1 0),(.fp (.agg [(.fp (Be st))]))])),(17,(Ah (Ad c [v]))),(18,(.int .i64 v)),(156,(Ae 3 A0 ((Ap Aa st fr tw).1))),(157,(.int .i64 ((((Ap Aa st fr tw).1).length:Int)))),(158,(.int .i64 ((i6:Int)))),(176,(.fn 67 [] [(.ptr 2 0),(.ptr 1 0)])),(177,(.agg [(.int .i64 ((nth ((Ap Aa st fr tw).1) i6).1)),(.int .i64 ((nth ((Ap Aa st fr tw).1) i6).2.1)),(.int .i64 ((nth ((Ap Aa st fr tw).1) i6).2.2))])),(178,(.tup []))]) (H:=[(0,(.row [(.own 2)] 53)),(1,(.row [(Ah (Al fr ((o++(Ap Aa st fr tw).1.filter (ofB v))++((Ap Aa st fr tw).1.take i6).filter (Cb v))))] 26)),(2,(.grow (((o++(Ap Aa st fr tw).1.filter (ofB v))++((Ap Aa st fr tw).1.take i6).filter (Cb v)).map A0) 66 3))]) (H':=[(0,(.row [(.own 2)] 53)),(1,(.row [(Ah (Al fr (((o++(Ap Aa st fr tw).1.filter (ofB v))++((Ap Aa st fr tw).1.take i6).filter (Cb v))++[(nth ((Ap Aa st fr tw).1) i6)])))] 26)),(2,(.grow ((((o++(Ap Aa st fr tw).1.filter (ofB v))++((Ap Aa st fr tw).1.take i6).filter (Cb v))++[(nth ((Ap Aa st fr tw).1) i6)]).map A0) 66 3))]) (h2:=[(1,(.row [(Ah (Al fr (((o++(Ap Aa st fr tw).1.filter (ofB v))++((Ap Aa st fr tw).1.take i6).filter (Cb v))++[(nth ((Ap Aa st fr tw).1) i6)])))] 26)),(2,(.row [(.own 4)] 53)),(3,(.grow (((k++(Ax Aa st (Al fr o) v (Bn st v)).map (fun d=>((o.length:Int),true,d)))++((Ax Aa st (Al fr o) v (Bt st v)).take i4).map (fun d=>((o.length:Int),false,d))).map Bv) 79 7)),(4,(.grow ((((o++(Ap Aa st fr tw).1.filter (ofB v))++((Ap Aa st fr tw).1.take i6).filter (Cb v))++[(nth ((Ap Aa st fr tw).1) i6)]).map A0) 66 3))]) (by kernel_rfl) (by kernel_rfl) (by exact U9) (by kernel_rfl) (by kernel_rfl) (by kernel_rfl) (by kernel_rfl) (by kernel_rfl) (Vk fr ((o++(Ap Aa st fr tw).1.filter (ofB v))++((Ap Aa st fr tw).1.take i6).filter (Cb v)) (nth ((Ap Aa st fr tw).1) i6) (by have:=Lk (o++(Ap Aa st fr tw).1.filter (ofB v)) (Ap Aa st fr tw).1 i6 (Cb v);have:=Wa o (Ap Aa st fr tw).1 (ofB v);omega) ha) (by kernel_rfl) (by kernel_rfl) (by kernel_rfl) ?_
         refine Cd ?_
         refine An ?_
         refine Au 0 [] [0,9,13,14,15,16,17,18,156,157,158] [] hk0 v0 (cc 0 (p:=(-9223372036854775808≤(i6:Int)+1∧(i6:Int)+1≤9223372036854775807)) (by first|omega|(simp;omega)|(simp;done)|(intros;simp_all;omega)|(intros;simp_all;done))<|c0) ?_
         refine⟨by kernel_rfl,_,?_,i6+1,?_,(Eq.trans (b:=(⟨[(0,(.fp (Bx st))),(9,(Ae 3 A0 ((Ap Aa st fr tw).1))),(13,(.ptr 2 0)),(14,(.own 3)),(15,(.fn 67 [] [(.ptr 2 0),(.ptr 1 0)])),(16,(.fn 68 [] [(.ptr 1 0),(.fp (.agg [(.fp (Be st))]))])),(17,(Ah (Ad c [v]))),(18,(.int .i64 v)),(156,(Ae 3 A0 ((Ap Aa st fr tw).1))),(157,(.int .i64 ((((Ap Aa st fr tw).1).length:Int)))),(158,(.int .i64 ((i6:Int)+1)))],[(1,(.row [(Ah (Al fr (((o++(Ap Aa st fr tw).1.filter (ofB v))++((Ap Aa st fr tw).1.take i6).filter (Cb v))++[(nth ((Ap Aa st fr tw).1) i6)])))] 26)),(2,(.row [(.own 4)] 53)),(3,(.grow (((k++(Ax Aa st (Al fr o) v (Bn st v)).map (fun d=>((o.length:Int),true,d)))++((Ax Aa st (Al fr o) v (Bt st v)).take i4).map (fun d=>((o.length:Int),false,d))).map Bv) 79 7)),(4,(.grow ((((o++(Ap Aa st fr tw).1.filter (ofB v))++((Ap Aa st fr tw).1.take i6).filter (Cb v))++[(nth ((Ap Aa st fr tw).1) i6)]).map A0) 66 3))],7⟩:St)) (by kernel_rfl) (by rw[Ok (o:=(o++(Ap Aa st fr tw).1.filter (ofB v))) (q:=(Ap Aa st fr tw).1) (p:=Cb v) (i:=i6) (by omega) (by unfold Cb;simpa using c12)]<;>kernel_rfl)),rfl⟩
         ·omega
         ·omega
        ·subst hb2 hb1
         try simp only[Am] at c12
         refine Ai ?_
         refine An ?_
         refine Au 0 [] [0,9,13,14,15,16,17,18,156,157,158] [] hk0 v0 (cc 0 (p:=(-9223372036854775808≤(i6:Int)+1∧(i6:Int)+1≤9223372036854775807)) (by first|omega|(simp;omega)|(simp;done)|(intros;simp_all;omega)|(intros;simp_all;done))<|c0) ?_
         refine⟨by kernel_rfl,_,?_,i6+1,?_,(Eq.trans (b:=(⟨[(0,(.fp (Bx st))),(9,(Ae 3 A0 ((Ap Aa st fr tw).1))),(13,(.ptr 2 0)),(14,(.own 3)),(15,(.fn 67 [] [(.ptr 2 0),(.ptr 1 0)])),(16,(.fn 68 [] [(.ptr 1 0),(.fp (.agg [(.fp (Be st))]))])),(17,(Ah (Ad c [v]))),(18,(.int .i64 v)),(156,(Ae 3 A0 ((Ap Aa st fr tw).1))),(157,(.int .i64 ((((Ap Aa st fr tw).1).length:Int)))),(158,(.int .i64 ((i6:Int)+1)))],[(1,(.row [(Ah (Al fr ((o++(Ap Aa st fr tw).1.filter (ofB v))++((Ap Aa st fr tw).1.take i6).filter (Cb v))))] 26)),(2,(.row [(.own 4)] 53)),(3,(.grow (((k++(Ax Aa st (Al fr o) v (Bn st v)).map (fun d=>((o.length:Int),true,d)))++((Ax Aa st (Al fr o) v (Bt st v)).take i4).map (fun d=>((o.length:Int),false,d))).map Bv) 79 7)),(4,(.grow (((o++(Ap Aa st fr tw).1.filter (ofB v))++((Ap Aa st fr tw).1.take i6).filter (Cb v)).map A0) 66 3))],7⟩:St)) (by kernel_rfl) (by rw[Mr (o:=(o++(Ap Aa st fr tw).1.filter (ofB v))) (q:=(Ap Aa st fr tw).1) (p:=Cb v) (i:=i6) (by omega) (by unfold Cb;rw[Bool.eq_false_iff];intro q;simp only[Bool.and_eq_true,Bool.or_eq_true,decide_eq_true_eq] at q;omega)]<;>kernel_rfl)),rfl⟩
         ·omega
         ·omega
       ·refine Bp ?_
        refine Bp ?_
        refine⟨by kernel_rfl,_,?_,n-1,(Ad c [Eb Aa st (Al fr o) c]),(o++Ev (Ap Aa st fr tw).1 (Eb Aa st (Al fr o) c)),(k++Bk Aa st (Al fr o) (Eb Aa st (Al fr o) c) (o.length:Int)),?_,?_,?_,?_,?_,?_,(Eq.trans (b:=(⟨[(0,(.fp (Bx st))),(9,(Ae 3 A0 ((Ap Aa st fr tw).1))),(13,(.ptr 2 0)),(14,(.own 3)),(15,(.fn 67 [] [(.ptr 2 0),(.ptr 1 0)])),(16,(.fn 68 [] [(.ptr 1 0),(.fp (.agg [(.fp (Be st))]))])),(17,(Ah (Ad c [v])))],[(1,(.row [(Ah (Al fr ((o++(Ap Aa st fr tw).1.filter (ofB v))++((Ap Aa st fr tw).1.take i6).filter (Cb v))))] 26)),(2,(.row [(.own 4)] 53)),(3,(.grow (((k++(Ax Aa st (Al fr o) v (Bn st v)).map (fun d=>((o.length:Int),true,d)))++((Ax Aa st (Al fr o) v (Bt st v)).take i4).map (fun d=>((o.length:Int),false,d))).map Bv) 79 7)),(4,(.grow (((o++(Ap Aa st fr tw).1.filter (ofB v))++((Ap Aa st fr tw).1.take i6).filter (Cb v)).map A0) 66 3))],5⟩:St)) (by kernel_rfl) (by rw[←hv,Zu (o:=o) (q:=(Ap Aa st fr tw).1) (v:=v) (i:=i6) (by omega),Q4z (k:=k) (m:=Aa) (st:=st) (th:=Al fr o) (v:=v) (p:=(o.length:Int)) (i:=i4) (by omega)]<;>kernel_rfl)),rfl⟩
        all_goals skip
        ·have:=Ii (b:=v) hvc;rw[←hv];omega
        ·have:=Ii (b:=v) hvc;rw[←hv];omega
        ·exact Ij _ _
        ·exact fun x hx=>hci x (minusZ_mem.1 hx).1
        ·have h1:=Ii (b:=v) hvc;have h2:=Q4b (Ap Aa st fr tw).1 v;rw[←hv,List.length_append];omega
        ·have h1:=Ii (b:=v) hvc;rw[←hv,List.length_append];unfold Bk;rw[List.length_append,List.length_map,List.length_map];omega
        ·rw[←N1 hcne hcn];exact hoF
  ·refine Bp ?_
   refine Ac ?_
   refine Ab [] [13,14,15,180,181,182] ?_
   refine Ay ?_
   refine Bz (fun g y=>∃(i7:Nat),i7≤(Ap Aa st fr tw).1.length∧y=⟨[(13,(.ptr 2 0)),(14,(.own 3)),(15,(.fn 67 [] [(.ptr 2 0),(.ptr 1 0)])),(180,(Ae 3 A0 ((Ap Aa st fr tw).1))),(181,(.int .i64 ((((Ap Aa st fr tw).1).length:Int)))),(182,(.int .i64 ((i7:Int))))],[(1,(.row [(Ah (Al fr (o++((Ap Aa st fr tw).1.take i7).filter C0)))] 26)),(2,(.row [(.own 4)] 53)),(3,(.grow (k.map Bv) 79 7)),(4,(.grow ((o++((Ap Aa st fr tw).1.take i7).filter C0).map A0) 66 3))],5⟩∧g=(Ap Aa st fr tw).1.length-i7) [13,14,15,180,181,182] 5 _ (by omega) ⟨0,(by omega),(Eq.trans (b:=(⟨[(13,(.ptr 2 0)),(14,(.own 3)),(15,(.fn 67 [] [(.ptr 2 0),(.ptr 1 0)])),(180,(Ae 3 A0 ((Ap Aa st fr tw).1))),(181,(.int .i64 ((((Ap Aa st fr tw).1).length:Int)))),(182,(.int .i64 0))],[(1,(.row [(Ah (Al fr o))] 26)),(2,(.row [(.own 4)] 53)),(3,(.grow (k.map Bv) 79 7)),(4,(.grow (o.map A0) 66 3))],5⟩:St)) (by kernel_rfl) (by rw[show o++((Ap Aa st fr tw).1.take 0).filter C0=o from by rw[List.take_zero,List.filter_nil,List.append_nil]]<;>kernel_rfl)),rfl⟩ ?_
   rintro g7 y7 ⟨i7,f7_1,rfl,rfl⟩
   refine Ab [] [13,14,15,180,181,182,183] ?_
   refine Ac ?_
   refine A5 (p:=(i7:Int) < (((Ap Aa st fr tw).1).length:Int)) (by kernel_rfl) (fun c13=>?_) (fun c13=>?_)
   ·refine Ai ?_
    refine Ac ?_
    refine Ay ?_
    refine Af [] [13,14,15,37,180,181,182] [] hk0 v0 (cc 0 (p:=(0≤(i7:Int)∧i7 < ((Ap Aa st fr tw).1).length)) (by first|omega|(simp;omega)|(simp;done)|(intros;simp_all;omega)|(intros;simp_all;done))<|c0) ?_
    refine Af [] [13,14,15,37,180,181,182,188] [(0,37)] hk0 v0 c0 ?_
    refine A5 (p:=((nth ((Ap Aa st fr tw).1) i7).1)=2) (by kernel_rfl) (fun c14=>?_) (fun c14=>?_)
    ·refine An ?_
     refine B2 2 0 [] [13,14,15,180,181,182,189,190] [] hk0 v0 c0 ?_
     refine H5 [2,1,4] (f:=67) (cap:=[(.ptr 2 0),(.ptr 1 0)]) (al:=[(.agg [(.int .i64 ((nth ((Ap Aa st fr tw).1) i7).1)),(.int .i64 ((nth ((Ap Aa st fr tw).1) i7).2.1)),(.int .i64 ((nth ((Ap Aa st fr tw).1) i7).2.2))])]) (al':=[(.agg [(.int .i64 ((nth ((Ap Aa st fr tw).1) i7).1)),(.int .i64 ((nth ((Ap Aa st fr tw).1) i7).2.1)),(.int .i64 ((nth ((Ap Aa st fr tw).1) i7).2.2))]),(.ptr 0 0),(.ptr 1 0)]) (r:=(.tup [])) (r':=(.tup [])) (s':=[(13,(.ptr 2 0)),(14,(.own 3)),(15,(.fn 67 [] [(.ptr 2 0),(.ptr 1 0)])),(180,(Ae 3 A0 ((Ap Aa st fr tw).1))),(181,(.int .i64 ((((Ap Aa st fr tw).1).length:Int)))),(182,(.int .i64 ((i7:Int)))),(189,(.fn 67 [] [(.ptr 2 0),(.ptr 1 0)])),(190,(.agg [(.int .i64 ((nth ((Ap Aa st fr tw).1) i7).1)),(.int .i64 ((nth ((Ap Aa st fr tw).1) i7).2.1)),(.int .i64 ((nth ((Ap Aa st fr tw).1) i7).2.2))])),(191,(.tup []))]) (H:=[(0,(.row [(.own 2)] 53)),(1,(.row [(Ah (Al fr (o++((Ap Aa st fr tw).1.take i7).filter C0)))] 26)),(2,(.grow ((o++((Ap Aa st fr tw).1.take i7).filter C0).map A0) 66 3))]) (H':=[(0,(.row [(.own 2)] 53)),(1,(.row [(Ah (Al fr ((o++((Ap Aa st fr tw).1.take i7).filter C0)++[(nth ((Ap Aa st fr tw).1) i7)])))] 26)),(2,(.grow (((o++((Ap Aa st fr tw).1.take i7).filter C0)++[(nth ((Ap Aa st fr tw).1) i7)]).map A0) 66 3))]) (h2:=[(1,(.row [(Ah (Al fr ((o++((Ap Aa st fr tw).1.take i7).filter C0)++[(nth ((Ap Aa st fr tw).1) i7)])))] 26)),(2,(.row [(.own 4)] 53)),(3,(.grow (k.map Bv) 79 7)),(4,(.grow (((o++((Ap Aa st fr tw).1.take i7).filter C0)++[(nth ((Ap Aa st fr tw).1) i7)]).map A0) 66 3))]) (by kernel_rfl) (by kernel_rfl) (by exact U9) (by kernel_rfl) (by kernel_rfl) (by kernel_rfl) (by kernel_rfl) (by kernel_rfl) (Vk fr (o++((Ap Aa st fr tw).1.take i7).filter C0) (nth ((Ap Aa st fr tw).1) i7) (by have:=Lk o (Ap Aa st fr tw).1 i7 C0;omega) ha) (by kernel_rfl) (by kernel_rfl) (by kernel_rfl) ?_
     refine Cd ?_
     refine An ?_
     refine Au 0 [] [13,14,15,180,181,182] [] hk0 v0 (cc 0 (p:=(-9223372036854775808≤(i7:Int)+1∧(i7:Int)+1≤9223372036854775807)) (by first|omega|(simp;omega)|(simp;done)|(intros;simp_all;omega)|(intros;simp_all;done))<|c0) ?_
     refine⟨by kernel_rfl,_,?_,i7+1,?_,(Eq.trans (b:=(⟨[(13,(.ptr 2 0)),(14,(.own 3)),(15,(.fn 67 [] [(.ptr 2 0),(.ptr 1 0)])),(180,(Ae 3 A0 ((Ap Aa st fr tw).1))),(181,(.int .i64 ((((Ap Aa st fr tw).1).length:Int)))),(182,(.int .i64 ((i7:Int)+1)))],[(1,(.row [(Ah (Al fr ((o++((Ap Aa st fr tw).1.take i7).filter C0)++[(nth ((Ap Aa st fr tw).1) i7)])))] 26)),(2,(.row [(.own 4)] 53)),(3,(.grow (k.map Bv) 79 7)),(4,(.grow (((o++((Ap Aa st fr tw).1.take i7).filter C0)++[(nth ((Ap Aa st fr tw).1) i7)]).map A0) 66 3))],5⟩:St)) (by kernel_rfl) (by rw[Ok (o:=o) (q:=(Ap Aa st fr tw).1) (p:=C0) (i:=i7) (by omega) (decide_eq_true (by assumption))]<;>kernel_rfl)),rfl⟩
     ·omega
     ·omega
    ·refine Ai ?_
     refine An ?_
     refine Au 0 [] [13,14,15,180,181,182] [] hk0 v0 (cc 0 (p:=(-9223372036854775808≤(i7:Int)+1∧(i7:Int)+1≤9223372036854775807)) (by first|omega|(simp;omega)|(simp;done)|(intros;simp_all;omega)|(intros;simp_all;done))<|c0) ?_
     refine⟨by kernel_rfl,_,?_,i7+1,?_,(Eq.trans (b:=(⟨[(13,(.ptr 2 0)),(14,(.own 3)),(15,(.fn 67 [] [(.ptr 2 0),(.ptr 1 0)])),(180,(Ae 3 A0 ((Ap Aa st fr tw).1))),(181,(.int .i64 ((((Ap Aa st fr tw).1).length:Int)))),(182,(.int .i64 ((i7:Int)+1)))],[(1,(.row [(Ah (Al fr (o++((Ap Aa st fr tw).1.take i7).filter C0)))] 26)),(2,(.row [(.own 4)] 53)),(3,(.grow (k.map Bv) 79 7)),(4,(.grow ((o++((Ap Aa st fr tw).1.take i7).filter C0).map A0) 66 3))],5⟩:St)) (by kernel_rfl) (by rw[Mr (o:=o) (q:=(Ap Aa st fr tw).1) (p:=C0) (i:=i7) (by omega) (decide_eq_false (by assumption))]<;>kernel_rfl)),rfl⟩
     ·omega
     ·omega
   ·refine Bp ?_
    refine Ab [] [6,7,8] ?_
    refine Ag ?_
    refine RK wR [(.row 3 ((o++((Ap Aa st fr tw).1.take i7).filter C0).map A0).length (fun ix=>((o++((Ap Aa st fr tw).1.take i7).filter C0).map A0).getD ix Br)),(.row 7 (k.map Bv).length (fun ix=>(k.map Bv).getD ix Br)),(.int .i64 0)] ?_
    obtain rfl:c=[]:=List.length_eq_zero_iff.1 (by omega)
    rw[Tv] at hoF
    have hR:Du Aa st fr tw=(o++((Ap Aa st fr tw).1.take i7).filter C0,k,0):=by rw[List.take_of_length_le (by omega)];exact Zw c1 hoF
    rw[hR]
    simp only[Ak]
    exact(Imp.tups (ImpL.cons (Imp.list (f:=A0) (List.length_map _)) (ImpL.cons (Imp.list (f:=Bv) (List.length_map _)) (ImpL.cons Imp.refl ImpL.nil)))).same
end Sv
end
section
open Go Go.RowKit
namespace Sv
theorem Q4f {l:List DepT} {n:Nat} (h:∀i,i < l.length→(nth l i).size≤n):∀d∈l,d.size≤n:=by
  intro d hd
  obtain⟨i,hi,rfl⟩:=List.getElem_of_mem hd
  have:=h i hi
  rwa [Dy hi] at this
theorem X0q {st : PoolT} (hi : IdxOk st) {fr tw : List Int} (ka : ∀ x ∈ fr, 0 ≤ x ∧ x < st.all.length) (kb : ∀ x ∈ tw, 0 ≤ x ∧ x < st.all.length) :
    (Du Aa st fr tw).1.length≤200∧(Du Aa st fr tw).2.1.length≤1677721600∧(∀x∈(Du Aa st fr tw).2.1,x.2.2.size≤4194304)∧(Du Aa st fr tw).2.2=0:=by
  have h1:=X0r (m:=Aa) ka kb
  have h2:=Sz hi ka kb
  have hq:=Kr (m:=Aa) ka kb
  rw[hq] at h2
  have hcb:∀x∈Ad tw fr,0≤x∧x < st.all.length:=fun x hx=>kb x (minusZ_mem.1 hx).1
  have hcl:(Ad tw fr).length≤200:=Nat.le_trans (Px (Ij _ _) hcb) hi.1
  refine⟨by rw[h1.1.length_eq];exact h2,?_,?_,h1.2⟩
  · unfold Du
    rw[hq,if_neg (by simp)]
    have h3:=Q40 (m:=Aa) (st:=st) (a:=fr) (N:=4194304) (fun id h4 h5=>⟨(Gt hi ⟨h4,h5⟩).1,(Gs hi ⟨h4,h5⟩).1⟩) (q:=Ba (A2 Aa st) fr tw) (Ad tw fr).length (Ad tw fr) [] [] (Nat.le_refl _) hcb
    simp only[List.length_nil] at h3
    exact Nat.le_trans h3 (by omega)
  · unfold Du
    rw[hq,if_neg (by simp)]
    exact Q4y (m:=Aa) (st:=st) (a:=fr) (N:=4194304) (fun id h4 h5=>⟨Q4f (Gt hi ⟨h4,h5⟩).2,Q4f (Gs hi ⟨h4,h5⟩).2⟩) _ _ _ _ hcb (fun x hx=>by cases hx)
end Sv
end
section
open Go Go.RowKit
namespace Sv
attribute [local irreducible] SW SO Bs
set_option maxHeartbeats 1000000
set_option maxRecDepth 100000
theorem Q3a:As Tryz.prog 26:=Az Tryz.func26 (by kernel_rfl) rfl
theorem X43:As Tryz.prog 22:=Az Tryz.func22 (by kernel_rfl) rfl
theorem U6:As Tryz.prog 80:=Az Tryz.func80 (by kernel_rfl) rfl
theorem X6t {a b:DepT} (h1:a.kind=b.kind) (h2:a.name=b.name) (h3:a.op=b.op) (h4:a.evr=b.evr) (h5:a.args=b.args):a=b:=by
 cases a;cases b;simp_all [DepT.kind,DepT.name,DepT.op,DepT.evr,DepT.args]
theorem Q0c {α:Type} [Inhabited α] {a b:List α} (hl:a.length=b.length) (h:∀j,j < a.length→nth a j=nth b j):a=b:=List.ext_getElem hl fun j h1 h2=>by
 have:=h j h1
 rwa [Dy h1,Dy h2] at this
def owB:DepT:=.mk 1 [98] 0 [] []
def owP:PkgT:=⟨[97],[49,45,49],[110,111,97,114,99,104],[],[],[owB],[],[],[],[],[],[]⟩
def owQ:PkgT:=⟨[98],[49,45,49],[110,111,97,114,99,104],[],[],[],[],[],[],[],[],[]⟩
def owR:RepoT:=⟨[109,97,105,110],0,false,[owP,owQ]⟩
def owS:PoolT:=(A1 (A4 1) [owR]).1
def owA:List (Int × Int):=(A1 (A4 1) [owR]).2
def owX:Bq:=(1,1,-1)
def owY:Bq:=(1,0,-1)
def owK:Cz:=(0,false,owB)
theorem Zt:IdxOk owS:=Q45 fun i hi=>by
 have:i=0:=by simpa using hi
 subst this
 decide
theorem X0n:FnV Tryz.prog 9 [.int .i64 1,Ae 4 Bm [owR]] (.tup [.fp (Bx owS),.fp (B9 owS owA)]):=Q6q 1 [owR] (by decide) fun i hi=>by
 have:i=0:=by simpa using hi
 subst this
 decide
theorem X0l:owS.all.length=2:=by kernel_rfl
theorem Zs:Ad [0,1] []=[0,1]:=(L4 (l:=[0,1].filter fun z => !decide (z∈[])) (k:=[0,1]) ⟨by simp,by simp,trivial⟩ (by simp)).symm
theorem X0j:Ap Aa owS [] [0,1]=([owY,owX],0):=by
 have h2:Ad [] [0,1]=[]:=Xo
 have h3:A3 [0,1] []=[0,1]:=Nr (l:=[0,1]) ⟨by simp,by simp,trivial⟩
 rw[Kr (by simp) (by rw[X0l];simp)]
 unfold Ba
 rw[Zs,h2,h3]
 have k1:A2 Aa owS [0,1] [] 0=owY:=by kernel_rfl
 have k2:A2 Aa owS [0,1] [] 1=owX:=by kernel_rfl
 rw[List.map_cons,List.map_cons,List.map_nil,k1,k2]
theorem X0m:Du Aa owS [] [0,1]=([owX,owY],[],0):=by
 unfold Du
 rw[X0j,if_neg (by simp),Zs]
 have e:D9 Aa owS [owY,owX] [] ([0,1]:List Int).length [0,1] [] []=([owX,owY],[]):=by
  have n1:Eb Aa owS (Al [] []) [0,1]=1:=by kernel_rfl
  have m1:Ad [0,1] [1]=[0]:=by kernel_rfl
  have d1:([]:List Bq)++Ev [owY,owX] 1=[owX]:=by kernel_rfl
  have b1:([]:List Cz)++Bk Aa owS (Al [] []) 1 (([]:List Bq).length:Int)=[]:=by kernel_rfl
  have n2:Eb Aa owS (Al [] [owX]) [0]=0:=by
   have:=Mf (m:=Aa) (st:=owS) (th:=Al [] [owX]) (c:=[0]) (by simp)
   simpa using this
  have m2:Ad [0] [0]=[]:=by kernel_rfl
  have d2:[owX]++Ev [owY,owX] 0=[owX,owY]:=by kernel_rfl
  have u:A3 (Al [] [owX]) [0]=[0,1]:=by
   rw[show Al [] [owX]=[1] from by kernel_rfl]
   exact(L4 (l:=[1]++[0]) (k:=[0,1]) ⟨by simp,by simp,trivial⟩ (by simp;omega)).symm
  have b2:([]:List Cz)++Bk Aa owS (Al [] [owX]) 0 (([owX]:List Bq).length:Int)=[]:=by
   unfold Bk Ax
   rw[u]
   kernel_rfl
  rw[N1 (by simp) (by simp),n1,m1,d1,b1,N1 (by simp) (by simp),n2,m2,d2,b2,Tv]
 rw[e]
 have z:[owX,owY]++[owY,owX].filter C0=[owX,owY]:=by kernel_rfl
 exact congrArg (fun q=>(q,([]:List Cz),(0:Int))) z
theorem X0k:Du Aa owS [] [0]=([(1,0,-1)],[owK],0):=by kernel_rfl
theorem X7g {x y:Cz} (h1:x.1=y.1) (h2:x.2.1=y.2.1) (h3:x.2.2=y.2.2):x=y:=Prod.ext h1 (Prod.ext h2 h3)
theorem Ja {α:Type} [Inhabited α] {l:List α} {i:Nat} (h:i < l.length):nth l i∈l:=by rw[Dy h];exact List.getElem_mem h
open Classical in
noncomputable def Ox (a b:List Cz):Bool:=decide (a=b)
open Classical in
theorem V5 {a b:List Cz} (h:a=b):Ox a b=true:=by unfold Ox;exact decide_eq_true h
open Classical in
theorem Q41 {a b:List Cz} (h:¬a=b):Ox a b=false:=by unfold Ox;exact decide_eq_false h
theorem Q8j (a b : DepT) (ha : a.size ≤ 4194304) (hb : b.size ≤ 4194304) (ih : ∀ i, i < a.args.length → i < b.args.length → FnV Tryz.prog 80 [(.agg [(.int .i64 ((nth a.args i).kind)), (.str ((nth a.args i).name)), (.int .i64 ((nth a.args i).op)), (.str ((nth a.args i).evr)), (.row 5 (nth a.args i).args.length (depAt (nth a.args i).args))]), (.agg [(.int .i64 ((nth b.args i).kind)), (.str ((nth b.args i).name)), (.int .i64 ((nth b.args i).op)), (.str ((nth b.args i).evr)), (.row 5 (nth b.args i).args.length (depAt (nth b.args i).args))])] (.bool (Cl (nth a.args i) (nth b.args i)))) :
  FnV Tryz.prog 80 [(.agg [(.int .i64 a.kind),(.str a.name),(.int .i64 a.op),(.str a.evr),(.row 5 a.args.length (depAt a.args))]),(.agg [(.int .i64 b.kind),(.str b.name),(.int .i64 b.op),(.str b.evr),(.row 5 b.args.length (depAt b.args))])] (.bool ((Cl a b))):=by
 have hal:=Dw a.args
 have hza:=El a
 have hbl:=Dw b.args
 have hzb:=El b
 refine A8 [.tmp 4] Tryz.func80 rfl Tryz.ntmps80 rfl rfl (fun B F hF=>?_)
 refine Af [] [2,3] [(1,2),(2,3)] hk0 v0 c0 ?_
 refine Ac ?_
 refine Af (CS:=[(7,((!(!decide (a.kind=b.kind)))=true→(!(!decide (a.kind=b.kind)))=true)),(9,((!(!decide (a.kind=b.kind)))=true→(!(!decide (a.kind=b.kind)))=true)),(10,((!(!decide (a.kind=b.kind)))=true→(!(!decide (a.kind=b.kind)))=true∧(!(!decide (a.kind=b.kind)))=true)),(11,((!decide (a.kind=b.kind))=false→(!(!decide (a.kind=b.kind)))=true)),(14,((!((!decide (a.kind=b.kind))||(!decide (a.name=b.name))))=true→(!((!decide (a.kind=b.kind))||(!decide (a.name=b.name))))=true)),(16,((!((!decide (a.kind=b.kind))||(!decide (a.name=b.name))))=true→(!((!decide (a.kind=b.kind))||(!decide (a.name=b.name))))=true)),(17,((!((!decide (a.kind=b.kind))||(!decide (a.name=b.name))))=true→(!((!decide (a.kind=b.kind))||(!decide (a.name=b.name))))=true∧(!((!decide (a.kind=b.kind))||(!decide (a.name=b.name))))=true)),(18,(((!decide (a.kind=b.kind))||(!decide (a.name=b.name)))=false→(!((!decide (a.kind=b.kind))||(!decide (a.name=b.name))))=true)),(21,((!(((!decide (a.kind=b.kind))||(!decide (a.name=b.name)))||(!decide (a.op=b.op))))=true→(!(((!decide (a.kind=b.kind))||(!decide (a.name=b.name)))||(!decide (a.op=b.op))))=true)),(23,((!(((!decide (a.kind=b.kind))||(!decide (a.name=b.name)))||(!decide (a.op=b.op))))=true→(!(((!decide (a.kind=b.kind))||(!decide (a.name=b.name)))||(!decide (a.op=b.op))))=true)),(24,((!(((!decide (a.kind=b.kind))||(!decide (a.name=b.name)))||(!decide (a.op=b.op))))=true→(!(((!decide (a.kind=b.kind))||(!decide (a.name=b.name)))||(!decide (a.op=b.op))))=true∧(!(((!decide (a.kind=b.kind))||(!decide (a.name=b.name)))||(!decide (a.op=b.op))))=true)),(25,((((!decide (a.kind=b.kind))||(!decide (a.name=b.name)))||(!decide (a.op=b.op)))=false→(!(((!decide (a.kind=b.kind))||(!decide (a.name=b.name)))||(!decide (a.op=b.op))))=true)),(28,((!((((!decide (a.kind=b.kind))||(!decide (a.name=b.name)))||(!decide (a.op=b.op)))||(!decide (a.evr=b.evr))))=true→(!((((!decide (a.kind=b.kind))||(!decide (a.name=b.name)))||(!decide (a.op=b.op)))||(!decide (a.evr=b.evr))))=true)),(29,((!((((!decide (a.kind=b.kind))||(!decide (a.name=b.name)))||(!decide (a.op=b.op)))||(!decide (a.evr=b.evr))))=true→(!((((!decide (a.kind=b.kind))||(!decide (a.name=b.name)))||(!decide (a.op=b.op)))||(!decide (a.evr=b.evr))))=true)),(31,((!((((!decide (a.kind=b.kind))||(!decide (a.name=b.name)))||(!decide (a.op=b.op)))||(!decide (a.evr=b.evr))))=true→(!((((!decide (a.kind=b.kind))||(!decide (a.name=b.name)))||(!decide (a.op=b.op)))||(!decide (a.evr=b.evr))))=true)),(32,((!((((!decide (a.kind=b.kind))||(!decide (a.name=b.name)))||(!decide (a.op=b.op)))||(!decide (a.evr=b.evr))))=true→(!((((!decide (a.kind=b.kind))||(!decide (a.name=b.name)))||(!decide (a.op=b.op)))||(!decide (a.evr=b.evr))))=true)),(33,((!((((!decide (a.kind=b.kind))||(!decide (a.name=b.name)))||(!decide (a.op=b.op)))||(!decide (a.evr=b.evr))))=true→(!((((!decide (a.kind=b.kind))||(!decide (a.name=b.name)))||(!decide (a.op=b.op)))||(!decide (a.evr=b.evr))))=true∧(!((((!decide (a.kind=b.kind))||(!decide (a.name=b.name)))||(!decide (a.op=b.op)))||(!decide (a.evr=b.evr))))=true)),(34,(((((!decide (a.kind=b.kind))||(!decide (a.name=b.name)))||(!decide (a.op=b.op)))||(!decide (a.evr=b.evr)))=false→(!((((!decide (a.kind=b.kind))||(!decide (a.name=b.name)))||(!decide (a.op=b.op)))||(!decide (a.evr=b.evr))))=true))]) [13,14,15,16,17,20,21,22,23,24,27,28,29,30,31,34,35,36,37,38,39,40] [2,3,41] [] hk0 v0 (by refine cc _ ?_<|cc _ ?_<|cc _ ?_<|cc _ ?_<|cc _ ?_<|cc _ ?_<|cc _ ?_<|cc _ ?_<|cc _ ?_<|cc _ ?_<|cc _ ?_<|cc _ ?_<|cc _ ?_<|cc _ ?_<|cc _ ?_<|cc _ ?_<|cc _ ?_<|cc _ ?_ c0<;>first|omega|(simp;omega)|(simp;done)|(intros;simp_all;omega)|(intros;simp_all;done)) ?_
 refine Bd (q:=((((!decide (a.kind=b.kind))||(!decide (a.name=b.name)))||(!decide (a.op=b.op)))||(!decide (a.evr=b.evr)))||(!decide ((a.args.length:Int)=(b.args.length:Int)))) (by kernel_rfl) (fun c1=>?_) (fun c1=>?_)
 ·try simp only[Am] at c1
  refine Ab [] [4] ?_
  refine Ag ?_
  refine RK wR [(.bool false)] ?_
  refine Same.of_eq (congrArg AV.bool (Eq.symm ?_))
  rw[Bool.eq_false_iff]
  intro q
  have q:=(Jx _ _).1 q
  subst q
  simp at c1
 ·try simp only[Am] at c1
  refine Ai ?_
  refine Ac ?_
  refine Ab [] [2,3,5] ?_
  refine Ay ?_
  refine Bz (fun g y=>∃(i:Nat),i≤a.args.length∧(∀j,j < i→nth a.args j=nth b.args j)∧y=⟨[(2,(.fp (.agg [(.int .i64 a.kind),(.str a.name),(.int .i64 a.op),(.str a.evr),(.row 5 a.args.length (depAt a.args))]))),(3,(.fp (.agg [(.int .i64 b.kind),(.str b.name),(.int .i64 b.op),(.str b.evr),(.row 5 b.args.length (depAt b.args))]))),(5,(.int .i64 ((i:Int))))],[],2⟩∧g=a.args.length-i) [2,3,5] 2 _ (by omega) ⟨0,(by omega),(by exact fun j hj=>by omega),(by kernel_rfl),rfl⟩ ?_
  rintro g1 y1 ⟨i,f1_1,f1_2,rfl,rfl⟩
  refine Ac ?_
  refine Ab [] [2,3,5,46] ?_
  refine A5 (p:=(i:Int) < (a.args.length:Int)) (by kernel_rfl) (fun c2=>?_) (fun c2=>?_)
  ·refine Ai ?_
   refine Ac ?_
   refine Ay ?_
   refine Cr (CS:=[(3,(0≤(i:Int)∧i < a.args.length)),(8,(0≤(i:Int)∧i < b.args.length))]) [] [2,3,5,6] [] (hk 10 U6 (ih i (by omega) (by omega))<|hk0) (vk 3 50 (Ew a.args)<|vk 8 55 (Ew b.args)<|v0) (by refine cc _ ?_<|cc _ ?_ c0<;>first|omega|(simp;omega)|(simp;done)|(intros;simp_all;omega)|(intros;simp_all;done)) ?_
   refine Ab [] [2,3,5,61] ?_
   refine Bd (q:=!(Cl (nth a.args i) (nth b.args i))) (by kernel_rfl) (fun c3=>?_) (fun c3=>?_)
   ·try simp only[Am] at c3
    refine Ab [] [4] ?_
    refine Ag ?_
    refine RK wR [(.bool false)] ?_
    refine Same.of_eq (congrArg AV.bool (Eq.symm ?_))
    rw[Bool.eq_false_iff]
    intro q
    have q:=(Jx _ _).1 q
    subst q
    rw[(Jx _ _).2 rfl] at c3
    simp at c3
   ·try simp only[Am] at c3
    refine Ai ?_
    refine An ?_
    refine Au 0 [] [2,3,5] [] hk0 v0 (cc 1 (p:=(-9223372036854775808≤(i:Int)+1∧(i:Int)+1≤9223372036854775807)) (by first|omega|(simp;omega)|(simp;done)|(intros;simp_all;omega)|(intros;simp_all;done))<|c0) ?_
    refine⟨by kernel_rfl,_,?_,i+1,?_,?_,(by kernel_rfl),rfl⟩
    ·omega
    ·omega
    ·intro j hj
     by_cases h:j=i
     ·subst h;exact(Jx _ _).1 (by simp_all)
     ·exact f1_2 j (by omega)
  ·refine Bp ?_
   refine Ab [] [4] ?_
   refine Ag ?_
   refine RK wR [(.bool true)] ?_
   refine Same.of_eq (congrArg AV.bool (Eq.symm ?_))
   exact(Jx _ _).2 (X6t (by omega) (by simp_all) (by omega) (by simp_all) (Q0c (by omega) (fun j hj=>f1_2 j (by omega))))
theorem Q8k:∀(n:Nat) (a b:DepT),a.size≤n→a.size≤4194304→b.size≤4194304→FnV Tryz.prog 80 [(.agg [(.int .i64 (a.kind)),(.str (a.name)),(.int .i64 (a.op)),(.str (a.evr)),(.row 5 a.args.length (depAt a.args))]),(.agg [(.int .i64 (b.kind)),(.str (b.name)),(.int .i64 (b.op)),(.str (b.evr)),(.row 5 b.args.length (depAt b.args))])] (.bool (Cl a b)):=by
 intro n
 induction n with
 |zero=>intro a b h;have:=El a;omega
 |succ n ih=>exact fun a b h ha hb=>Q8j a b ha hb fun i h1 h2=>ih _ _ (by have h1:=Fl h1;omega) (by have h1:=Fl h1;omega) (by have h1:=Fl h2;omega)
theorem Xt (a b : List Cz) (ha : a.length ≤ 4611686018427) (hsa : ∀ x ∈ a, x.2.2.size ≤ 4194304) (hsb : ∀ x ∈ b, x.2.2.size ≤ 4194304) :
  FnV Tryz.prog 26 [(Ae 7 Bv a),(Ae 7 Bv b)] (.bool (Ox a b)):=by
 refine A8 [.tmp 4] Tryz.func26 rfl Tryz.ntmps26 rfl rfl (fun B F hF=>?_)
 refine Ab [] [0,1] ?_
 refine Ac ?_
 refine Ab [] [0,1,11] ?_
 refine Da (p:=(a.length:Int)=(b.length:Int)) (by kernel_rfl) (fun c1=>?_) (fun c1=>?_)
 ·refine Ab [] [4] ?_
  refine Ag ?_
  refine RK wR [(.bool false)] ?_
  exact Same.of_eq (congrArg AV.bool (Q41 (fun q=>c1 (by rw[q]))).symm)
 ·refine Ai ?_
  refine Ac ?_
  refine Ab [] [0,1,5] ?_
  refine Ay ?_
  refine Bz (fun g y=>∃(i:Nat),i≤a.length∧(∀j,j < i→nth a j=nth b j)∧y=⟨[(0,(Ae 7 Bv a)),(1,(Ae 7 Bv b)),(5,(.int .i64 ((i:Int))))],[],0⟩∧g=a.length-i) [0,1,5] 0 _ (by omega) ⟨0,(by omega),(by exact fun j hj=>by omega),(by kernel_rfl),rfl⟩ ?_
  rintro g1 y1 ⟨i,f1_1,f1_2,rfl,rfl⟩
  refine Ac ?_
  refine Ab [] [0,1,5,15] ?_
  refine A5 (p:=(i:Int) < (a.length:Int)) (by kernel_rfl) (fun c2=>?_) (fun c2=>?_)
  ·refine Ai ?_
   refine Ac ?_
   refine Ay ?_
   refine Cr (CS:=[(2,(0≤(i:Int)∧i < a.length)),(7,(0≤(i:Int)∧i < b.length))]) [] [0,1,5,6] [] (hk 10 U6 (Q8k _ (nth a i).2.2 (nth b i).2.2 (Nat.le_refl _) (hsa _ (Ja (by omega))) (hsb _ (Ja (by omega))))<|hk0) v0 (by refine cc _ ?_<|cc _ ?_ c0<;>first|omega|(simp;omega)|(simp;done)|(intros;simp_all;omega)|(intros;simp_all;done)) ?_
   refine Cr (CS:=[(5,((!(!(Cl (nth a i).2.2 (nth b i).2.2)))=true→((!(!(Cl (nth a i).2.2 (nth b i).2.2)))=true∧(!(!(Cl (nth a i).2.2 (nth b i).2.2)))=true)∧(0≤(i:Int)∧i < a.length))),(6,((!(!(Cl (nth a i).2.2 (nth b i).2.2)))=true→(!(!(Cl (nth a i).2.2 (nth b i).2.2)))=true)),(7,((!(!(Cl (nth a i).2.2 (nth b i).2.2)))=true→(!(!(Cl (nth a i).2.2 (nth b i).2.2)))=true)),(10,((!(!(Cl (nth a i).2.2 (nth b i).2.2)))=true→((!(!(Cl (nth a i).2.2 (nth b i).2.2)))=true∧(!(!(Cl (nth a i).2.2 (nth b i).2.2)))=true)∧(0≤(i:Int)∧i < b.length))),(11,((!(!(Cl (nth a i).2.2 (nth b i).2.2)))=true→(!(!(Cl (nth a i).2.2 (nth b i).2.2)))=true)),(12,((!(!(Cl (nth a i).2.2 (nth b i).2.2)))=true→(!(!(Cl (nth a i).2.2 (nth b i).2.2)))=true)),(13,((!(!(Cl (nth a i).2.2 (nth b i).2.2)))=true→(!(!(Cl (nth a i).2.2 (nth b i).2.2)))=true∧(!(!(Cl (nth a i).2.2 (nth b i).2.2)))=true)),(14,((!(Cl (nth a i).2.2 (nth b i).2.2))=false→(!(!(Cl (nth a i).2.2 (nth b i).2.2)))=true)),(18,((!((!(Cl (nth a i).2.2 (nth b i).2.2))||(!decide (((nth a i).1)=((nth b i).1)))))=true→((!((!(Cl (nth a i).2.2 (nth b i).2.2))||(!decide (((nth a i).1)=((nth b i).1)))))=true∧(!((!(Cl (nth a i).2.2 (nth b i).2.2))||(!decide (((nth a i).1)=((nth b i).1)))))=true)∧(0≤(i:Int)∧i < a.length))),(19,((!((!(Cl (nth a i).2.2 (nth b i).2.2))||(!decide (((nth a i).1)=((nth b i).1)))))=true→(!((!(Cl (nth a i).2.2 (nth b i).2.2))||(!decide (((nth a i).1)=((nth b i).1)))))=true)),(20,((!((!(Cl (nth a i).2.2 (nth b i).2.2))||(!decide (((nth a i).1)=((nth b i).1)))))=true→(!((!(Cl (nth a i).2.2 (nth b i).2.2))||(!decide (((nth a i).1)=((nth b i).1)))))=true)),(23,((!((!(Cl (nth a i).2.2 (nth b i).2.2))||(!decide (((nth a i).1)=((nth b i).1)))))=true→((!((!(Cl (nth a i).2.2 (nth b i).2.2))||(!decide (((nth a i).1)=((nth b i).1)))))=true∧(!((!(Cl (nth a i).2.2 (nth b i).2.2))||(!decide (((nth a i).1)=((nth b i).1)))))=true)∧(0≤(i:Int)∧i < b.length))),(24,((!((!(Cl (nth a i).2.2 (nth b i).2.2))||(!decide (((nth a i).1)=((nth b i).1)))))=true→(!((!(Cl (nth a i).2.2 (nth b i).2.2))||(!decide (((nth a i).1)=((nth b i).1)))))=true)),(25,((!((!(Cl (nth a i).2.2 (nth b i).2.2))||(!decide (((nth a i).1)=((nth b i).1)))))=true→(!((!(Cl (nth a i).2.2 (nth b i).2.2))||(!decide (((nth a i).1)=((nth b i).1)))))=true)),(26,((!((!(Cl (nth a i).2.2 (nth b i).2.2))||(!decide (((nth a i).1)=((nth b i).1)))))=true→(!((!(Cl (nth a i).2.2 (nth b i).2.2))||(!decide (((nth a i).1)=((nth b i).1)))))=true∧(!((!(Cl (nth a i).2.2 (nth b i).2.2))||(!decide (((nth a i).1)=((nth b i).1)))))=true)),(27,(((!(Cl (nth a i).2.2 (nth b i).2.2))||(!decide (((nth a i).1)=((nth b i).1))))=false→(!((!(Cl (nth a i).2.2 (nth b i).2.2))||(!decide (((nth a i).1)=((nth b i).1)))))=true))]) [32,33,34,35,36,37,38,39,40,41,42,45,46,47,48,49,50,51,52,53,54,55] [0,1,5,56] [] hk0 v0 (by refine cc _ ?_<|cc _ ?_<|cc _ ?_<|cc _ ?_<|cc _ ?_<|cc _ ?_<|cc _ ?_<|cc _ ?_<|cc _ ?_<|cc _ ?_<|cc _ ?_<|cc _ ?_<|cc _ ?_<|cc _ ?_<|cc _ ?_<|cc _ ?_ c0<;>first|omega|(simp;omega)|(simp;done)|(intros;simp_all;omega)|(intros;simp_all;done)) ?_
   refine Bd (q:=((!(Cl (nth a i).2.2 (nth b i).2.2))||(!decide (((nth a i).1)=((nth b i).1))))||(!(((nth a i).2.1) == ((nth b i).2.1)))) (by kernel_rfl) (fun c3=>?_) (fun c3=>?_)
   ·try simp only[Am] at c3
    refine Ab [] [4] ?_
    refine Ag ?_
    refine RK wR [(.bool false)] ?_
    exact Same.of_eq (congrArg AV.bool (Q41 (fun q=>by subst q;rw[(Jx _ _).2 rfl] at c3;simp at c3)).symm)
   ·try simp only[Am] at c3
    refine Ai ?_
    refine An ?_
    refine Au 0 [] [0,1,5] [] hk0 v0 (cc 1 (p:=(-9223372036854775808≤(i:Int)+1∧(i:Int)+1≤9223372036854775807)) (by first|omega|(simp;omega)|(simp;done)|(intros;simp_all;omega)|(intros;simp_all;done))<|c0) ?_
    refine⟨by kernel_rfl,_,?_,i+1,?_,?_,(by kernel_rfl),rfl⟩
    ·omega
    ·omega
    ·intro j hj
     by_cases h:j=i
     ·subst h;exact X7g (by simp_all) (by simp_all) ((Jx _ _).1 (by simp_all))
     ·exact f1_2 j (by omega)
  ·refine Bp ?_
   refine Ab [] [4] ?_
   refine Ag ?_
   refine RK wR [(.bool true)] ?_
   exact Same.of_eq (congrArg AV.bool (V5 (Q0c (by omega) (fun j hj=>f1_2 j (by omega)))).symm)
theorem X7q  :
  FnV Tryz.prog 22 [] (.bool true):=by
 refine A8 [.tmp 0] Tryz.func22 rfl Tryz.ntmps22 rfl rfl (fun B F hF=>?_)
 refine Ab [] [] ?_
 refine Af [] [1] [] hk0 (vk 2 13 (a:=(.agg [(.int .i64 1),(.str ([98])),(.int .i64 0),(.str []),.nils])) (b:=(.agg [(.int .i64 owB.kind),(.str owB.name),(.int .i64 owB.op),(.str owB.evr),(.row 5 owB.args.length (depAt owB.args))])) ((Imp.aggs (ImpL.cons Imp.refl (ImpL.cons Imp.refl (ImpL.cons Imp.refl (ImpL.cons Imp.refl (ImpL.cons (Imp.nil.trans (Rn [])) ImpL.nil)))))))<|v0) c0 ?_
 refine Af [] [1,2] [(0,1),(2,15)] hk0 (vk 2 15 (b:=(Ae 5 Ao [owB])) (Imp.list (f:=Ao) rfl)<|vk 4 16 (a:=(.agg [(.str ([97])),(.str ([49,45,49])),(.str ([110,111,97,114,99,104])),(.str []),.nils,(Ae 5 Ao [owB]),.nils,.nils,.nils,.nils,.nils,.nils])) (b:=(Av owP)) ((Imp.aggs (ImpL.cons Imp.refl (ImpL.cons Imp.refl (ImpL.cons Imp.refl (ImpL.cons Imp.refl (ImpL.cons Imp.nil (ImpL.cons Imp.refl (ImpL.cons Imp.nil (ImpL.cons Imp.nil (ImpL.cons Imp.nil (ImpL.cons Imp.nil (ImpL.cons Imp.nil (ImpL.cons Imp.nil ImpL.nil))))))))))))))<|v0) c0 ?_
 refine Af [] [1,3] [(0,2),(3,20),(5,22)] (hk 5 Q2y X0n<|hk0) (vk 2 19 (a:=(.agg [(.str ([98])),(.str ([49,45,49])),(.str ([110,111,97,114,99,104])),(.str []),.nils,.nils,.nils,.nils,.nils,.nils,.nils,.nils])) (b:=(Av owQ)) ((Imp.aggs (ImpL.cons Imp.refl (ImpL.cons Imp.refl (ImpL.cons Imp.refl (ImpL.cons Imp.refl (ImpL.cons Imp.nil (ImpL.cons Imp.nil (ImpL.cons Imp.nil (ImpL.cons Imp.nil (ImpL.cons Imp.nil (ImpL.cons Imp.nil (ImpL.cons Imp.nil (ImpL.cons Imp.nil ImpL.nil))))))))))))))<|vk 3 20 (b:=(Ae 12 Av [owP,owQ])) (Imp.list (f:=Av) rfl)<|vk 4 21 (a:=(.agg [(.str ([109,97,105,110])),(.int .i64 0),(.bool false),(Ae 12 Av [owP,owQ])])) (b:=(.agg [(.str owR.name),(.int .i64 owR.prio),(.bool owR.inst),(Ae 12 Av owR.pkgs)])) ((Imp.aggs (ImpL.cons Imp.refl (ImpL.cons Imp.refl (ImpL.cons Imp.refl (ImpL.cons Imp.refl ImpL.nil))))))<|vk 5 22 (b:=(Ae 4 Bm [owR])) (Imp.list (f:=Bm) rfl)<|v0) c0 ?_
 refine Ac ?_
 refine Ab [] [1,3,27] ?_
 refine Fc (by kernel_rfl) ?_
 refine Ai ?_
 refine Af [] [1,3,5,6,7] [(2,30)] (hk 2 (al:=[(.fp (Bx owS)),.nils,(Ah [0,1])]) Vc (((Wo owS Zt [] [0,1] (by decide) (by decide)).of_args (ImpL.cons Imp.refl (ImpL.cons Imp.nil (ImpL.cons Imp.refl ImpL.nil)))).to (Same.of_eq (by rw[X0m])))<|hk0) (vk 2 30 (b:=(Ah [0,1])) (Imp.list (f:=AV.int .i64) rfl)<|v0) c0 ?_
 refine Af [] [1,5,6,7,8,9,10] [(2,37)] (hk 2 (al:=[(.fp (Bx owS)),.nils,(Ah [0])]) Vc (((Wo owS Zt [] [0] (by decide) (by decide)).of_args (ImpL.cons Imp.refl (ImpL.cons Imp.nil (ImpL.cons Imp.refl ImpL.nil)))).to (Same.of_eq (by rw[X0k])))<|hk0) (vk 2 37 (b:=(Ah [0])) (Imp.list (f:=AV.int .i64) rfl)<|v0) c0 ?_
 refine Af [] [1,6,7,8,9,10,11] [(4,45)] (hk 4 Q3d ((Yi [owX,owY] [owX,owY] (by decide)).to (Same.of_eq (congrArg AV.bool (decide_eq_true rfl))))<|hk0) (vk 3 43 (a:=(.agg [(.int .i64 1),(.int .i64 1),(.int .i64 (-1))])) (b:=(.agg [(.int .i64 owX.1),(.int .i64 owX.2.1),(.int .i64 owX.2.2)])) ((Imp.aggs (ImpL.cons Imp.refl (ImpL.cons Imp.refl (ImpL.cons Imp.refl ImpL.nil)))))<|vk 3 44 (a:=(.agg [(.int .i64 1),(.int .i64 0),(.int .i64 (-1))])) (b:=(.agg [(.int .i64 owY.1),(.int .i64 owY.2.1),(.int .i64 owY.2.2)])) ((Imp.aggs (ImpL.cons Imp.refl (ImpL.cons Imp.refl (ImpL.cons Imp.refl ImpL.nil)))))<|vk 4 45 (b:=(Ae 3 A0 [owX,owY])) (Imp.list (f:=A0) rfl)<|v0) c0 ?_
 refine Af [] [6,7,8,10,11,12] [(4,50)] (hk 4 Q3a ((Xt [owK] [owK] (by decide) (by simp;decide) (by simp;decide)).to (Same.of_eq (congrArg AV.bool (V5 rfl))))<|hk0) (vk 3 49 (a:=(.agg [(.int .i64 0),(.bool false),(.int .i64 owB.kind),(.str owB.name),(.int .i64 owB.op),(.str owB.evr),(.row 5 owB.args.length (depAt owB.args))])) (b:=(.agg [(.int .i64 owK.1),(.bool owK.2.1),(.int .i64 owK.2.2.kind),(.str owK.2.2.name),(.int .i64 owK.2.2.op),(.str owK.2.2.evr),(.row 5 owK.2.2.args.length (depAt owK.2.2.args))])) ((Imp.aggs (ImpL.cons Imp.refl (ImpL.cons Imp.refl (ImpL.cons Imp.refl (ImpL.cons Imp.refl (ImpL.cons Imp.refl (ImpL.cons Imp.refl (ImpL.cons Imp.refl ImpL.nil)))))))))<|vk 4 50 (b:=(Ae 7 Bv [owK])) (Imp.list (f:=Bv) rfl)<|v0) c0 ?_
 obtain⟨b1,hb1⟩:∃b,b=(decide ((([]:List Cz).length:Int)=0)):=⟨_,rfl⟩
 obtain⟨b2,hb2⟩:∃b,b=((b1&&true)&&(decide (([(1,0,-1)].length:Int)=1))):=⟨_,rfl⟩
 refine Af (CS:=[(12,(b1=true→b1=true)),(13,(b1=true→b1=true)),(16,((b1&&true)=true→(b1&&true)=true)),(17,((b1&&true)=true→(b1&&true)=true)),(18,((b1&&true)=true→(b1&&true)=true)),(21,(b2=true→b2=true))]) [63,64,67,68,69,72] [0] [] hk0 (vk 10 61 (a:=.bool (decide ((([]:List Cz).length:Int)=0))) (b:=.bool b1) (Imp.of_eq (by rw[hb1]))<|vk 19 70 (a:=.bool ((b1&&true)&&(decide (([(1,0,-1)].length:Int)=1)))) (b:=.bool b2) (Imp.of_eq (by rw[hb2]))<|v0) (by refine cc _ ?_<|cc _ ?_<|cc _ ?_<|cc _ ?_<|cc _ ?_<|cc _ ?_ c0<;>first|omega|(simp;omega)|(simp;done)|(intros;simp_all;omega)|(intros;simp_all;done)) ?_
 refine Ag ?_
 refine RK wR [(.bool (b2&&true))] ?_
 subst hb2 hb1
 exact Same.of_eq (by first|rfl|(simp only[Ak];simp_all))
end Sv
end
section
open Go Go.RowKit
namespace Sv
attribute [local irreducible] SW SO Bs
set_option maxHeartbeats 2000000
set_option maxRecDepth 100000
theorem Rk:As Tryz.prog 139:=Az Tryz.func139 (by kernel_rfl) rfl
theorem X5y:As Tryz.prog 138:=Az Tryz.func138 (by kernel_rfl) rfl
theorem X4l:As Tryz.prog 77:=Az Tryz.func77 (by kernel_rfl) rfl
theorem X4k:As Tryz.prog 78:=Az Tryz.func78 (by kernel_rfl) rfl
theorem X41:As Tryz.prog 24:=Az Tryz.func24 (by kernel_rfl) rfl
theorem Uy {o q:List Bq} {p:Bq→Bool} {i:Nat} (h:i < q.length) (hp:p (nth q i)=true):(o++(q.take (i+1)).filter p).map A0=(o++(q.take i).filter p).map A0++[A0 (nth q i)]:=by
 rw[Ok h hp,List.map_append];rfl
theorem X70 {st:PoolT} {fr tw:List Int} (ha:∀x∈fr,0≤x∧x < st.all.length) (hb:∀x∈tw,0≤x∧x < st.all.length) {o:List Bq} {v:Int} (ho:∀x∈Al fr o,0≤x∧x < st.all.length):∀x∈Al fr (o++Ev (Ba (A2 Aa st) fr tw) v),0≤x∧x < st.all.length:=by
 have key:∀(l:List Bq) (o:List Bq),(∀s∈l,0≤s.2.1∧s.2.1 < st.all.length)→(∀x∈Al fr o,0≤x∧x < st.all.length)→∀x∈Al fr (o++l),0≤x∧x < st.all.length:=by
  intro l
  induction l with
  |nil=>intro o _ h;rw[List.append_nil];exact h
  |cons s r ih =>
   intro o hs h
   rw[show o++s::r=(o++[s])++r by simp]
   refine ih _ (fun z hz=>hs z (by simp[hz])) fun x hx=>?_
   rw[O0,F7] at hx
   split at hx
   ·rcases unionZ_mem.1 hx with q|q
    ·exact h x q
    ·rw[show x=s.2.1 by simpa using q];exact hs s (by simp)
   ·split at hx
    ·exact h x (minusZ_mem.1 hx).1
    ·exact h x hx
 refine key _ o (fun s hs=>?_) ho
 obtain⟨i,hi,rfl⟩:=List.mem_map.1 (mem_done.1 hs).1
 rw[(Nn Aa st _ _ i).1]
 rcases unionZ_mem.1 hi with q|q
 ·exact hb i (minusZ_mem.1 q).1
 ·exact ha i (minusZ_mem.1 q).1
theorem P4 (st : PoolT) (pl : List (Int × Int)) (h : Fk st pl) (hi : IdxOk st) (th : List Int) (hr : C4 th) (hth : th.length ≤ 4194303) (hin : ∀ x ∈ th, 0 ≤ x ∧ x < st.all.length) (id : Int) (hid : 0 ≤ id ∧ id < st.all.length) (l : List DepT) (hll : l.length ≤ 4194304) (hl : ∀ i, i < l.length → (nth l i).size ≤ 4194304) (hc : ∀ d ∈ l, Cu d = 0) :
  FnV Tryz.prog 139 [(.fp (B9 st pl)),(Ah th),(.int .i64 id),(Ae 5 Ao l)] (Ae 5 Ao (Ax Aa st th id l)):=by
 have hwi:∀x∈(A3 th [id]),0≤x∧x < st.all.length:=fun x hx=>by
  rcases unionZ_mem.1 hx with q|q
  ·exact hin x q
  ·have:x=id:=by simpa using q
   rw[this];exact hid
 have hwl:=Sl th [id]
 rw[List.length_singleton] at hwl
 refine A8 [.tmp 8] Tryz.func139 rfl Tryz.ntmps139 rfl rfl (fun B F hF=>?_)
 refine Ab [] [0,1,2,3] ?_
 refine Af [] [0,3,9] [] (hk 2 Re ((P7 th id (by omega)).to (Same.of_eq (by rw[Q92 hr])))<|hk0) v0 c0 ?_
 refine Ab [] [0,3,9,10] ?_
 refine Ac ?_
 refine Ab [] [0,3,9,10,11] ?_
 refine Ay ?_
 refine Js 25 5 10 (y:=⟨[(0,(.fp (B9 st pl))),(3,(Ae 5 Ao l)),(9,(Ah (A3 th [id]))),(10,(.own 0)),(11,(.int .i64 0))],[(0,(.grow [] 25 5))],1⟩) (by kernel_rfl) (by kernel_rfl) ?_
 refine Bz (fun g y=>∃(i:Nat),i≤l.length∧y=⟨[(0,(.fp (B9 st pl))),(3,(Ae 5 Ao l)),(9,(Ah (A3 th [id]))),(10,(.own 0)),(11,(.int .i64 ((i:Int))))],[(0,(.grow ((Ax Aa st th id (l.take i)).map Ao) 25 5))],1⟩∧g=l.length-i) [0,3,9,10,11] 1 _ (by omega) ⟨0,(by omega),(by kernel_rfl),rfl⟩ ?_
 rintro g1 y1 ⟨i,f1_1,rfl,rfl⟩
 have hlk:=Jd Aa st th id (l.take i)
 have hlt:=List.length_take_le i l
 have hlm:((Ax Aa st th id (l.take i)).map Ao).length=(Ax Aa st th id (l.take i)).length:=List.length_map _
 refine Ac ?_
 refine Ab [] [0,3,9,10,11,19] ?_
 refine A5 (p:=(i:Int) < (l.length:Int)) (by kernel_rfl) (fun c1=>?_) (fun c1=>?_)
 ·refine Ai ?_
  refine Ac ?_
  refine Ay ?_
  refine Af [] [0,3,9,10,11,12] [] (hk 6 Mv ((Q9n st pl h hi (A3 th [id]) hwi (by omega) (nth l i).size (nth l i) (Nat.le_refl _) (Q4r (hc _ (Ja (by omega)))) (hl i (by omega))).to (Same.of_eq (show AV.bool (Ci Aa st (A3 th [id]) (nth l i).size (nth l i)) = .bool (C6 Aa st (nth l i) (A3 th [id])).1 from by rw[X13 (m:=Aa) (hc _ (Ja (by omega))) hwi])))<|hk0) v0 (cc 3 (p:=(0≤(i:Int)∧i < l.length)) (by first|omega|(simp;omega)|(simp;done)|(intros;simp_all;omega)|(intros;simp_all;done))<|c0) ?_
  refine Ab [] [0,3,9,10,11,30] ?_
  refine Bd (q:=!((C6 Aa st (nth l i) (A3 th [id])).1)) (by kernel_rfl) (fun c2=>?_) (fun c2=>?_)
  ·try simp only[Am] at c2
   refine An ?_
   refine Au (CS:=[(3,(0≤(i:Int)∧i < l.length)),(6,((((Ax Aa st th id (l.take i)).map Ao).length+1)*72≤140737488355328))]) 0 [] [0,3,9,10,11] [] hk0 v0 (by refine cc _ ?_<|cc _ ?_ c0<;>first|omega|(simp;omega)|(simp;done)|(intros;simp_all;omega)|(intros;simp_all;done)) ?_
   refine An ?_
   refine Au 0 [] [0,3,9,10,11] [] hk0 v0 (cc 1 (p:=(-9223372036854775808≤(i:Int)+1∧(i:Int)+1≤9223372036854775807)) (by first|omega|(simp;omega)|(simp;done)|(intros;simp_all;omega)|(intros;simp_all;done))<|c0) ?_
   refine⟨by kernel_rfl,_,?_,i+1,?_,(Eq.trans (b:=(⟨[(0,(.fp (B9 st pl))),(3,(Ae 5 Ao l)),(9,(Ah (A3 th [id]))),(10,(.own 0)),(11,(.int .i64 ((i:Int)+1)))],[(0,(.grow (((Ax Aa st th id (l.take i)).map Ao)++([(.agg [(.int .i64 ((nth l i).kind)),(.str ((nth l i).name)),(.int .i64 ((nth l i).op)),(.str ((nth l i).evr)),(.row 5 (nth l i).args.length (depAt (nth l i).args))])]:List AV)) 25 5))],1⟩:St)) (by kernel_rfl) (by rw[X2k (by omega) c2,List.map_append]<;>kernel_rfl)),rfl⟩
   ·omega
   ·omega
  ·try simp only[Am] at c2
   refine Ai ?_
   refine An ?_
   refine Au 0 [] [0,3,9,10,11] [] hk0 v0 (cc 1 (p:=(-9223372036854775808≤(i:Int)+1∧(i:Int)+1≤9223372036854775807)) (by first|omega|(simp;omega)|(simp;done)|(intros;simp_all;omega)|(intros;simp_all;done))<|c0) ?_
   refine⟨by kernel_rfl,_,?_,i+1,?_,(Eq.trans (b:=(⟨[(0,(.fp (B9 st pl))),(3,(Ae 5 Ao l)),(9,(Ah (A3 th [id]))),(10,(.own 0)),(11,(.int .i64 ((i:Int)+1)))],[(0,(.grow ((Ax Aa st th id (l.take i)).map Ao) 25 5))],1⟩:St)) (by kernel_rfl) (by rw[X2n (by omega) c2]<;>kernel_rfl)),rfl⟩
   ·omega
   ·omega
 ·refine Bp ?_
  refine Ab [] [8] ?_
  refine Ag ?_
  refine RK wR [(.row 5 ((Ax Aa st th id (l.take i)).map Ao).length (fun ix=>((Ax Aa st th id (l.take i)).map Ao).getD ix Br))] ?_
  rw[show l.take i=l from List.take_of_length_le (by omega)]
  simp only[Ak]
  exact(Imp.list (f:=Ao) (List.length_map _)).same
theorem Q9h (st : PoolT) (pl : List (Int × Int)) (h : Fk st pl) (hi : IdxOk st) (ha : Ko st) (th : List Int) (hr : C4 th) (hth : th.length ≤ 4194303) (hin : ∀ x ∈ th, 0 ≤ x ∧ x < st.all.length) (id : Int) (hid : 0 ≤ id ∧ id < st.all.length)  :
  FnV Tryz.prog 138 [(.fp (B9 st pl)),(Ah th),(.int .i64 id)] (.int .i64 (Gd Aa st th id)):=by
 refine A8 [.tmp 6] Tryz.func138 rfl Tryz.ntmps138 rfl rfl (fun B F hF=>?_)
 refine Ab [] [0,1,2] ?_
 refine Af [] [0,1,2,7] [] (hk 2 (al:=[(.fp (B9 st pl)),(.int .i64 id)]) Jj ((I5 st pl h id.toNat (by omega)).of_args (ImpL.cons Imp.refl (ImpL.cons (Imp.of_eq (congrArg (AV.int .i64) (Je (by omega)))) ImpL.nil)))<|hk0) v0 c0 ?_
 refine Ac ?_
 refine Af [] [0,1,2,7,18] [(0,7)] (hk 5 Rk (P4 st pl h hi th hr hth hin id hid (Bn st id) (Gt hi hid).1 (Gt hi hid).2 (Yy ha hid))<|hk0) v0 c0 ?_
 refine A5 (p:=0 < ((Ax Aa st th id (Bn st id)).length:Int)) (by kernel_rfl) (fun c1=>?_) (fun c1=>?_)
 ·refine Ab [] [6] ?_
  refine Ag ?_
  refine RK wR [(.int .i64 0)] ?_
  exact Same.of_eq (by simp only[Ak];rw[Tl (by omega)])
 ·refine Ai ?_
  refine Ac ?_
  refine Af [] [26] [] (hk 5 Rk (P4 st pl h hi th hr hth hin id hid (Bt st id) (Gs hi hid).1 (Gs hi hid).2 (X7 ha hid))<|hk0) v0 c0 ?_
  refine A5 (p:=0 < ((Ax Aa st th id (Bt st id)).length:Int)) (by kernel_rfl) (fun c2=>?_) (fun c2=>?_)
  ·refine Ab [] [6] ?_
   refine Ag ?_
   refine RK wR [(.int .i64 1)] ?_
   exact Same.of_eq (by simp only[Ak];rw[Tk (by omega) (by omega)])
  ·refine Ai ?_
   refine Ab [] [6] ?_
   refine Ag ?_
   refine RK wR [(.int .i64 2)] ?_
   exact Same.of_eq (by simp only[Ak];rw[Tj (by omega) (by omega)])
theorem Q9k (st : PoolT) (pl : List (Int × Int)) (h : Fk st pl) (hi : IdxOk st) (ha : Ko st) (th : List Int) (hr : C4 th) (hth : th.length ≤ 4194303) (hin : ∀ x ∈ th, 0 ≤ x ∧ x < st.all.length) (c : List Int) (hcl : c.length ≤ 4194304) (hci : ∀ x ∈ c, 0 ≤ x ∧ x < st.all.length) (hcne : ¬ c = []) :
  FnV Tryz.prog 77 [(.fp (B9 st pl)),(Ah th),(Ah c)] (.int .i64 (Eb Aa st th c)):=by
 refine A8 [.tmp 6] Tryz.func77 rfl Tryz.ntmps77 rfl rfl (fun B F hF=>?_)
 refine Ab [] [0,1,2] ?_
 refine Ab [] [0,1,2,7] ?_
 refine Ab [] [0,1,2,7,8] ?_
 refine Ac ?_
 refine Ab [] [0,1,2,7,8,9] ?_
 refine Ay ?_
 refine Bz (fun g y=>∃(i:Nat) (bv hw:Int),i≤c.length∧Ht Aa st th (c.drop i) bv hw=Eb Aa st th c∧y=⟨[(0,(.fp (B9 st pl))),(1,(Ah th)),(2,(Ah c)),(7,(.int .i64 bv)),(8,(.int .i64 hw)),(9,(.int .i64 ((i:Int))))],[],0⟩∧g=c.length-i) [0,1,2,7,8,9] 0 _ (by omega) ⟨0,(-1),(-1),(by omega),(by exact X1j hcne),(by kernel_rfl),rfl⟩ ?_
 rintro g1 y1 ⟨i,bv,hw,hic,hnf,rfl,rfl⟩
 refine Ac ?_
 refine Ab [] [0,1,2,7,8,9,14] ?_
 refine A5 (p:=(i:Int) < (c.length:Int)) (by kernel_rfl) (fun c1=>?_) (fun c1=>?_)
 ·refine Ai ?_
  refine Ac ?_
  refine Ay ?_
  refine Af [] [0,1,2,7,8,9,10] [] (hk 6 X5y (Q9h st pl h hi ha th hr hth hin (nth c i) (hci _ (Jb (by omega))))<|hk0) v0 (cc 4 (p:=(0≤(i:Int)∧i < c.length)) (by first|omega|(simp;omega)|(simp;done)|(intros;simp_all;omega)|(intros;simp_all;done))<|c0) ?_
  refine Ab [] [0,1,2,7,8,9,10,26] ?_
  refine A5 (p:=hw < (Gd Aa st th (nth c i))) (by kernel_rfl) (fun c2=>?_) (fun c2=>?_)
  ·refine Af [] [0,1,2,7,9,10] [] hk0 v0 (cc 2 (p:=(0≤(i:Int)∧i < c.length)) (by first|omega|(simp;omega)|(simp;done)|(intros;simp_all;omega)|(intros;simp_all;done))<|c0) ?_
   refine An ?_
   refine Ei [] [0,1,2,7,8,9] ?_
   refine An ?_
   refine Au 0 [] [0,1,2,7,8,9] [] hk0 v0 (cc 1 (p:=(-9223372036854775808≤(i:Int)+1∧(i:Int)+1≤9223372036854775807)) (by first|omega|(simp;omega)|(simp;done)|(intros;simp_all;omega)|(intros;simp_all;done))<|c0) ?_
   refine⟨by kernel_rfl,_,?_,i+1,(nth c i),(Gd Aa st th (nth c i)),?_,?_,(by kernel_rfl),rfl⟩
   ·omega
   ·omega
   ·rw[←hnf,N5 (c:=c) (i:=i) (by omega),Ht,if_pos (by omega)]
  ·refine Ai ?_
   refine An ?_
   refine Au 0 [] [0,1,2,7,8,9] [] hk0 v0 (cc 1 (p:=(-9223372036854775808≤(i:Int)+1∧(i:Int)+1≤9223372036854775807)) (by first|omega|(simp;omega)|(simp;done)|(intros;simp_all;omega)|(intros;simp_all;done))<|c0) ?_
   refine⟨by kernel_rfl,_,?_,i+1,bv,hw,?_,?_,(by kernel_rfl),rfl⟩
   ·omega
   ·omega
   ·rw[←hnf,N5 (c:=c) (i:=i) (by omega),Ht,if_neg (by omega)]
 ·refine Bp ?_
  refine Ab [] [6] ?_
  refine Ag ?_
  refine RK wR [(.int .i64 bv)] ?_
  exact Same.of_eq (by simp only[Ak];rw[←hnf,List.drop_of_length_le (by omega)];rfl)
theorem Q9v (st : PoolT) (pl : List (Int × Int)) (h : Fk st pl) (hi : IdxOk st) (ha : Ko st) (th : List Int) (hr : C4 th) (hth : th.length ≤ 4194303) (hin : ∀ x ∈ th, 0 ≤ x ∧ x < st.all.length) (id : Int) (hid : 0 ≤ id ∧ id < st.all.length) (p : Int) :
  FnV Tryz.prog 78 [(.fp (B9 st pl)),(Ah th),(.int .i64 id),(.int .i64 p)] (Ae 7 Bv (Bk Aa st th id p)):=by
 have hn1:=(Gt hi hid).1
 have hn2:=(Gs hi hid).1
 have hl1:=Jd Aa st th id (Bn st id)
 have hl2:=Jd Aa st th id (Bt st id)
 refine A8 [.tmp 8] Tryz.func78 rfl Tryz.ntmps78 rfl rfl (fun B F hF=>?_)
 refine Ab [] [0,1,2,3] ?_
 refine Ab [] [0,1,2,3,9] ?_
 refine Af [] [0,1,2,3,9,10] [] (hk 2 (al:=[(.fp (B9 st pl)),(.int .i64 id)]) Jj ((I5 st pl h id.toNat (by omega)).of_args (ImpL.cons Imp.refl (ImpL.cons (Imp.of_eq (congrArg (AV.int .i64) (Je (by omega)))) ImpL.nil)))<|hk0) v0 c0 ?_
 refine Af [] [0,1,2,3,9,10,11] [(0,10)] (hk 5 Rk (P4 st pl h hi th hr hth hin id hid (Bn st id) (Gt hi hid).1 (Gt hi hid).2 (Yy ha hid))<|hk0) v0 c0 ?_
 refine Ac ?_
 refine Ab [] [0,1,2,3,9,10,11,12] ?_
 refine Ay ?_
 refine Js 79 7 9 (y:=⟨[(0,(.fp (B9 st pl))),(1,(Ah th)),(2,(.int .i64 id)),(3,(.int .i64 p)),(9,(.own 1)),(10,(.fp (Av ((nth st.all id.toNat).1)))),(11,(Ae 5 Ao (Ax Aa st th id (Bn st id)))),(12,(.int .i64 0))],[(1,(.grow [] 79 7))],2⟩) (by kernel_rfl) (by kernel_rfl) ?_
 refine Bz (fun g y=>∃(i3:Nat),i3≤(Ax Aa st th id (Bn st id)).length∧y=⟨[(0,(.fp (B9 st pl))),(1,(Ah th)),(2,(.int .i64 id)),(3,(.int .i64 p)),(9,(.own 1)),(10,(.fp (Av ((nth st.all id.toNat).1)))),(11,(Ae 5 Ao (Ax Aa st th id (Bn st id)))),(12,(.int .i64 ((i3:Int))))],[(1,(.grow ((([]:List Cz)++((Ax Aa st th id (Bn st id)).take i3).map (fun d=>(p,true,d))).map Bv) 79 7))],2⟩∧g=(Ax Aa st th id (Bn st id)).length-i3) [0,1,2,3,9,10,11,12] 2 _ (by omega) ⟨0,(by omega),(by kernel_rfl),rfl⟩ ?_
 rintro g1 y1 ⟨i3,f1_1,rfl,rfl⟩
 have hbl:((([]:List Cz)++((Ax Aa st th id (Bn st id)).take i3).map (fun d=>(p,true,d))).map Bv).length≤4194304:=by rw[List.length_map,List.nil_append,List.length_map,List.length_take];omega
 refine Ac ?_
 refine Ab [] [0,1,2,3,9,10,11,12,26] ?_
 refine A5 (p:=(i3:Int) < ((Ax Aa st th id (Bn st id)).length:Int)) (by kernel_rfl) (fun c1=>?_) (fun c1=>?_)
 ·refine Ai ?_
  refine Ac ?_
  refine Ay ?_
  refine An ?_
  refine Au (CS:=[(4,(0≤(i3:Int)∧i3 < (Ax Aa st th id (Bn st id)).length)),(8,((((([]:List Cz)++((Ax Aa st th id (Bn st id)).take i3).map (fun d=>(p,true,d))).map Bv).length+1)*88≤140737488355328))]) 0 [] [0,1,2,3,9,10,11,12] [] hk0 v0 (by refine cc _ ?_<|cc _ ?_ c0<;>first|omega|(simp;omega)|(simp;done)|(intros;simp_all;omega)|(intros;simp_all;done)) ?_
  refine An ?_
  refine Au 0 [] [0,1,2,3,9,10,11,12] [] hk0 v0 (cc 1 (p:=(-9223372036854775808≤(i3:Int)+1∧(i3:Int)+1≤9223372036854775807)) (by first|omega|(simp;omega)|(simp;done)|(intros;simp_all;omega)|(intros;simp_all;done))<|c0) ?_
  refine⟨by kernel_rfl,_,?_,i3+1,?_,(Eq.trans (b:=(⟨[(0,(.fp (B9 st pl))),(1,(Ah th)),(2,(.int .i64 id)),(3,(.int .i64 p)),(9,(.own 1)),(10,(.fp (Av ((nth st.all id.toNat).1)))),(11,(Ae 5 Ao (Ax Aa st th id (Bn st id)))),(12,(.int .i64 ((i3:Int)+1)))],[(1,(.grow (((([]:List Cz)++((Ax Aa st th id (Bn st id)).take i3).map (fun d=>(p,true,d))).map Bv)++([(.agg [(.int .i64 p),(.bool true),(.int .i64 ((nth (Ax Aa st th id (Bn st id)) i3).kind)),(.str ((nth (Ax Aa st th id (Bn st id)) i3).name)),(.int .i64 ((nth (Ax Aa st th id (Bn st id)) i3).op)),(.str ((nth (Ax Aa st th id (Bn st id)) i3).evr)),(.row 5 (nth (Ax Aa st th id (Bn st id)) i3).args.length (depAt (nth (Ax Aa st th id (Bn st id)) i3).args))])]:List AV)) 79 7))],2⟩:St)) (by kernel_rfl) (by rw[Ry (k:=[]) (l:=(Ax Aa st th id (Bn st id))) (n:=p) (p:=true) (i:=i3) (by omega)]<;>kernel_rfl)),rfl⟩
  ·omega
  ·omega
 ·refine Bp ?_
  refine Af [] [3,9,11] [] (hk 5 Rk (P4 st pl h hi th hr hth hin id hid (Bt st id) (Gs hi hid).1 (Gs hi hid).2 (X7 ha hid))<|hk0) v0 c0 ?_
  refine Ac ?_
  refine Ab [] [3,9,11,13] ?_
  refine Ay ?_
  refine Bz (fun g y=>∃(i4:Nat),i4≤(Ax Aa st th id (Bt st id)).length∧y=⟨[(3,(.int .i64 p)),(9,(.own 1)),(11,(Ae 5 Ao (Ax Aa st th id (Bt st id)))),(13,(.int .i64 ((i4:Int))))],[(1,(.grow (((([]:List Cz)++(Ax Aa st th id (Bn st id)).map (fun d=>(p,true,d)))++((Ax Aa st th id (Bt st id)).take i4).map (fun d=>(p,false,d))).map Bv) 79 7))],2⟩∧g=(Ax Aa st th id (Bt st id)).length-i4) [3,9,11,13] 2 _ (by omega) ⟨0,(by omega),(Eq.trans (b:=(⟨[(3,(.int .i64 p)),(9,(.own 1)),(11,(Ae 5 Ao (Ax Aa st th id (Bt st id)))),(13,(.int .i64 0))],[(1,(.grow ((([]:List Cz)++((Ax Aa st th id (Bn st id)).take i3).map (fun d=>(p,true,d))).map Bv) 79 7))],2⟩:St)) (by kernel_rfl) (by rw[Q4x (k:=[]) (l:=(Ax Aa st th id (Bn st id))) (l2:=(Ax Aa st th id (Bt st id))) (n:=p) (i:=i3) (by omega)]<;>kernel_rfl)),rfl⟩ ?_
  rintro g2 y2 ⟨i4,f2_1,rfl,rfl⟩
  have hbl:(((([]:List Cz)++(Ax Aa st th id (Bn st id)).map (fun d=>(p,true,d)))++((Ax Aa st th id (Bt st id)).take i4).map (fun d=>(p,false,d))).map Bv).length≤8388608:=by rw[List.length_map,List.length_append,List.nil_append,List.length_map,List.length_map,List.length_take];omega
  refine Ac ?_
  refine Ab [] [3,9,11,13,47] ?_
  refine A5 (p:=(i4:Int) < ((Ax Aa st th id (Bt st id)).length:Int)) (by kernel_rfl) (fun c2=>?_) (fun c2=>?_)
  ·refine Ai ?_
   refine Ac ?_
   refine Ay ?_
   refine An ?_
   refine Au (CS:=[(4,(0≤(i4:Int)∧i4 < (Ax Aa st th id (Bt st id)).length)),(8,(((((([]:List Cz)++(Ax Aa st th id (Bn st id)).map (fun d=>(p,true,d)))++((Ax Aa st th id (Bt st id)).take i4).map (fun d=>(p,false,d))).map Bv).length+1)*88≤140737488355328))]) 0 [] [3,9,11,13] [] hk0 v0 (by refine cc _ ?_<|cc _ ?_ c0<;>first|omega|(simp;omega)|(simp;done)|(intros;simp_all;omega)|(intros;simp_all;done)) ?_
   refine An ?_
   refine Au 0 [] [3,9,11,13] [] hk0 v0 (cc 1 (p:=(-9223372036854775808≤(i4:Int)+1∧(i4:Int)+1≤9223372036854775807)) (by first|omega|(simp;omega)|(simp;done)|(intros;simp_all;omega)|(intros;simp_all;done))<|c0) ?_
   refine⟨by kernel_rfl,_,?_,i4+1,?_,(Eq.trans (b:=(⟨[(3,(.int .i64 p)),(9,(.own 1)),(11,(Ae 5 Ao (Ax Aa st th id (Bt st id)))),(13,(.int .i64 ((i4:Int)+1)))],[(1,(.grow ((((([]:List Cz)++(Ax Aa st th id (Bn st id)).map (fun d=>(p,true,d)))++((Ax Aa st th id (Bt st id)).take i4).map (fun d=>(p,false,d))).map Bv)++([(.agg [(.int .i64 p),(.bool false),(.int .i64 ((nth (Ax Aa st th id (Bt st id)) i4).kind)),(.str ((nth (Ax Aa st th id (Bt st id)) i4).name)),(.int .i64 ((nth (Ax Aa st th id (Bt st id)) i4).op)),(.str ((nth (Ax Aa st th id (Bt st id)) i4).evr)),(.row 5 (nth (Ax Aa st th id (Bt st id)) i4).args.length (depAt (nth (Ax Aa st th id (Bt st id)) i4).args))])]:List AV)) 79 7))],2⟩:St)) (by kernel_rfl) (by rw[Ry (k:=([]:List Cz)++(Ax Aa st th id (Bn st id)).map (fun d=>(p,true,d))) (l:=(Ax Aa st th id (Bt st id))) (n:=p) (p:=false) (i:=i4) (by omega)]<;>kernel_rfl)),rfl⟩
   ·omega
   ·omega
  ·refine Bp ?_
   refine Ab [] [8] ?_
   refine Ag ?_
   refine RK wR [(.row 7 (((([]:List Cz)++(Ax Aa st th id (Bn st id)).map (fun d=>(p,true,d)))++((Ax Aa st th id (Bt st id)).take i4).map (fun d=>(p,false,d))).map Bv).length (fun ix=>(((([]:List Cz)++(Ax Aa st th id (Bn st id)).map (fun d=>(p,true,d)))++((Ax Aa st th id (Bt st id)).take i4).map (fun d=>(p,false,d))).map Bv).getD ix Br))] ?_
   have hB:Bk Aa st th id p=((([]:List Cz)++(Ax Aa st th id (Bn st id)).map (fun d=>(p,true,d)))++((Ax Aa st th id (Bt st id)).take i4).map (fun d=>(p,false,d))):=Q4z (k:=[]) (m:=Aa) (st:=st) (th:=th) (v:=id) (p:=p) (i:=i4) (by omega)
   rw[hB]
   simp only[Ak]
   exact(Imp.list (f:=Bv) (List.length_map _)).same
theorem Q9i (st : PoolT) (pl : List (Int × Int)) (h : Fk st pl) (hi : IdxOk st) (hob : Lr st) (ha : Ko st) (fr tw : List Int) (hfl : fr.length ≤ 1048576) (htl0 : tw.length ≤ 1048576) (hra : ∀ x ∈ fr, 0 ≤ x ∧ x < st.all.length) (hrb : ∀ x ∈ tw, 0 ≤ x ∧ x < st.all.length) :
  FnV Tryz.prog 24 [(.fp (B9 st pl)),(Ah fr),(Ah tw)] (.tup [Ae 3 A0 (Du Aa st fr tw).1,Ae 7 Bv (Du Aa st fr tw).2.1]):=by
 have hq:=Kr (m:=Aa) hra hrb
 have hcb:∀x∈Ad tw fr,0≤x∧x < st.all.length:=fun x hx=>hrb x (minusZ_mem.1 hx).1
 have hcl:(Ad tw fr).length≤200:=Nat.le_trans (Px (Ij _ _) hcb) hi.1
 have hql:(Ba (A2 Aa st) fr tw).length≤200:=by have:=Sz hi hra hrb;rw[hq] at this;exact this
 refine A8 [.tmp 6,.tmp 7] Tryz.func24 rfl Tryz.ntmps24 rfl rfl (fun B F hF=>?_)
 refine Ab [] [0,1,2] ?_
 refine Af [] [0,1,2,8] [] (hk 3 X4n (Q9f st pl h hi hob fr tw (by omega) (by omega) hra hrb)<|hk0) v0 c0 ?_
 refine Af [] [0,1,2,8,9] [] (hk 1 X4m ((Q9g fr (by omega)).to (Same.of_eq rfl))<|hk0) v0 c0 ?_
 refine Af [] [0,8,9,10] [] (hk 2 Oo (Nv tw fr (by omega) (by first|omega|simp))<|hk0) v0 c0 ?_
 refine Ab [] [0,8,9,10,11] ?_
 refine Ab [] [0,8,9,10,11,12] ?_
 refine Ac ?_
 refine Ay ?_
 refine Js 66 3 11 (y:=⟨[(0,(.fp (B9 st pl))),(8,(Ae 3 A0 (Ba (A2 Aa st) fr tw))),(9,(Ah (Cf fr))),(10,(Ah (Ad tw fr))),(11,(.own 0)),(12,.nils)],[(0,(.grow [] 66 3))],1⟩) (by kernel_rfl) (by kernel_rfl) ?_
 refine Js 79 7 12 (y:=⟨[(0,(.fp (B9 st pl))),(8,(Ae 3 A0 (Ba (A2 Aa st) fr tw))),(9,(Ah (Cf fr))),(10,(Ah (Ad tw fr))),(11,(.own 0)),(12,(.own 1))],[(0,(.grow [] 66 3)),(1,(.grow [] 79 7))],2⟩) (by kernel_rfl) (by kernel_rfl) ?_
 refine Bz (fun g y=>∃(n:Nat) (c:List Int) (o:List Bq) (k:List Cz),c.length≤n∧(∀x∈c,x∈Ad tw fr)∧(∀x∈c,0≤x∧x < st.all.length)∧(∀x∈Al fr o,0≤x∧x < st.all.length)∧o.length+400*c.length≤80000∧k.length+8388608*c.length≤1677721600∧D9 Aa st (Ba (A2 Aa st) fr tw) fr n c o k=D9 Aa st (Ba (A2 Aa st) fr tw) fr (Ad tw fr).length (Ad tw fr) [] []∧y=⟨[(0,(.fp (B9 st pl))),(8,(Ae 3 A0 (Ba (A2 Aa st) fr tw))),(9,(Ah (Al fr o))),(10,(Ah c)),(11,(.own 0)),(12,(.own 1))],[(0,(.grow (o.map A0) 66 3)),(1,(.grow (k.map Bv) 79 7))],2⟩∧g=c.length) [0,8,9,10,11,12] 2 _ (by omega) ⟨(Ad tw fr).length,(Ad tw fr),[],[],(by omega),(by exact fun x hx=>hx),(by exact hcb),(by exact fun x hx=>hra x (setZ_mem.1 hx)),(by simp;omega),(by simp;omega),(by rfl),(by kernel_rfl),rfl⟩ ?_
 rintro g1 y1 ⟨n,c,o,k,hcn,hcr,hci,hth,hol,hkl,hoF,rfl,rfl⟩
 have hml:(o.map A0).length=o.length:=List.length_map _
 have hmk:(k.map Bv).length=k.length:=List.length_map _
 have htl:=O1 fr o
 obtain⟨v,hv⟩:∃v,v=Eb Aa st (Al fr o) c:=⟨_,rfl⟩
 refine Ac ?_
 refine Ab [] [0,8,9,10,11,12,29] ?_
 refine A5 (p:=0 < (c.length:Int)) (by kernel_rfl) (fun c1=>?_) (fun c1=>?_)
 ·have hcne:¬c=[]:=by intro q;subst q;simp at c1
  have hvc:v∈c:=by rw[hv];exact Mf hcne
  have hvm:=hcr v hvc
  have hvi:=hci v hvc
  have hbl:(Bk Aa st (Al fr o) v (o.length:Int)).length≤8388608:=by have h1:=Jd Aa st (Al fr o) v (Bn st v);have h2:=Jd Aa st (Al fr o) v (Bt st v);have h3:=(Gt hi hvi).1;have h4:=(Gs hi hvi).1;unfold Bk;rw[List.length_append,List.length_map,List.length_map];omega
  refine Ai ?_
  refine Ay ?_
  refine Af [] [0,8,9,10,11,12,13] [] (hk 3 X4l ((Q9k st pl h hi ha (Al fr o) (R2 _ _) (by omega) hth c (by omega) hci hcne).to (Same.of_eq (by rw[←hv])))<|hk0) v0 c0 ?_
  refine Af [] [0,8,9,10,11,12,13] [] (hk 6 X4k ((Q9v st pl h hi ha (Al fr o) (R2 _ _) (by omega) hth v hvi ((o.map A0).length:Int)).to (Same.of_eq (by rw[hml])))<|hk0) v0 (cc 7 (p:=(((k.map Bv).length+((Bk Aa st (Al fr o) v (o.length:Int)).length))*88≤140737488355328)) (by first|omega|(simp;omega)|(simp;done)|(intros;simp_all;omega)|(intros;simp_all;done))<|c0) ?_
  refine Af [] [0,8,9,10,11,12,13] [(3,44)] (hk 3 Oo (Nv c [v] (by omega) (by first|omega|simp))<|hk0) (vk 3 44 (b:=(Ah [v])) (Imp.list (f:=AV.int .i64) rfl)<|v0) c0 ?_
  refine Af [] [0,8,9,10,11,12,13] [] (hk 2 Re (P7 (Al fr o) v (by omega))<|hk0) v0 c0 ?_
  refine Ac ?_
  refine Ab [] [0,8,9,10,11,12,13,14] ?_
  refine Ay ?_
  refine Bz (fun g y=>∃(i14:Nat),i14≤(Ba (A2 Aa st) fr tw).length∧y=⟨[(0,(.fp (B9 st pl))),(8,(Ae 3 A0 (Ba (A2 Aa st) fr tw))),(9,(Ah (C5 v (Al fr o)))),(10,(Ah (Ad c [v]))),(11,(.own 0)),(12,(.own 1)),(13,(.int .i64 v)),(14,(.int .i64 ((i14:Int))))],[(0,(.grow ((o++((Ba (A2 Aa st) fr tw).take i14).filter (ofB v)).map A0) 66 3)),(1,(.grow ((k.map Bv)++((List.range ((Bk Aa st (Al fr o) v (o.length:Int)).length)).map (fun kx=>((.agg [(.int .i64 ((nth (Bk Aa st (Al fr o) v (o.length:Int)) kx).1)),(.bool ((nth (Bk Aa st (Al fr o) v (o.length:Int)) kx).2.1)),(.int .i64 (((nth (Bk Aa st (Al fr o) v (o.length:Int)) kx).2.2).kind)),(.str (((nth (Bk Aa st (Al fr o) v (o.length:Int)) kx).2.2).name)),(.int .i64 (((nth (Bk Aa st (Al fr o) v (o.length:Int)) kx).2.2).op)),(.str (((nth (Bk Aa st (Al fr o) v (o.length:Int)) kx).2.2).evr)),(.row 5 ((nth (Bk Aa st (Al fr o) v (o.length:Int)) kx).2.2).args.length (depAt ((nth (Bk Aa st (Al fr o) v (o.length:Int)) kx).2.2).args))]):AV)))) 79 7))],3⟩∧g=(Ba (A2 Aa st) fr tw).length-i14) [0,8,9,10,11,12,13,14] 3 _ (by omega) ⟨0,(by omega),(Eq.trans (b:=(⟨[(0,(.fp (B9 st pl))),(8,(Ae 3 A0 (Ba (A2 Aa st) fr tw))),(9,(Ah (C5 v (Al fr o)))),(10,(Ah (Ad c [v]))),(11,(.own 0)),(12,(.own 1)),(13,(.int .i64 v)),(14,(.int .i64 0))],[(0,(.grow (o.map A0) 66 3)),(1,(.grow ((k.map Bv)++((List.range ((Bk Aa st (Al fr o) v (o.length:Int)).length)).map (fun kx=>((.agg [(.int .i64 ((nth (Bk Aa st (Al fr o) v (o.length:Int)) kx).1)),(.bool ((nth (Bk Aa st (Al fr o) v (o.length:Int)) kx).2.1)),(.int .i64 (((nth (Bk Aa st (Al fr o) v (o.length:Int)) kx).2.2).kind)),(.str (((nth (Bk Aa st (Al fr o) v (o.length:Int)) kx).2.2).name)),(.int .i64 (((nth (Bk Aa st (Al fr o) v (o.length:Int)) kx).2.2).op)),(.str (((nth (Bk Aa st (Al fr o) v (o.length:Int)) kx).2.2).evr)),(.row 5 ((nth (Bk Aa st (Al fr o) v (o.length:Int)) kx).2.2).args.length (depAt ((nth (Bk Aa st (Al fr o) v (o.length:Int)) kx).2.2).args))]):AV)))) 79 7))],3⟩:St)) (by kernel_rfl) (by rw[show(o++((Ba (A2 Aa st) fr tw).take 0).filter (ofB v))=o from by rw[List.take_zero,List.filter_nil,List.append_nil]]<;>kernel_rfl)),rfl⟩ ?_
  rintro g2 y2 ⟨i14,f2_1,rfl,rfl⟩
  have hml2:((o++((Ba (A2 Aa st) fr tw).take i14).filter (ofB v)).map A0).length=(o++((Ba (A2 Aa st) fr tw).take i14).filter (ofB v)).length:=List.length_map _
  have hA:=Lk o (Ba (A2 Aa st) fr tw) i14 (ofB v)
  refine Ac ?_
  refine Ab [] [0,8,9,10,11,12,13,14,52] ?_
  refine A5 (p:=(i14:Int) < ((Ba (A2 Aa st) fr tw).length:Int)) (by kernel_rfl) (fun c2=>?_) (fun c2=>?_)
  ·refine Ai ?_
   refine Ac ?_
   refine Ay ?_
   refine Af [] [0,8,9,10,11,12,13,14,61] [] hk0 v0 (cc 2 (p:=(0≤(i14:Int)∧i14 < (Ba (A2 Aa st) fr tw).length)) (by first|omega|(simp;omega)|(simp;done)|(intros;simp_all;omega)|(intros;simp_all;done))<|c0) ?_
   refine A5 (p:=((nth (Ba (A2 Aa st) fr tw) i14).2.1)=v) (by kernel_rfl) (fun c3=>?_) (fun c3=>?_)
   ·refine An ?_
    refine Au (CS:=[(3,(0≤(i14:Int)∧i14 < (Ba (A2 Aa st) fr tw).length)),(6,((((o++((Ba (A2 Aa st) fr tw).take i14).filter (ofB v)).map A0).length+1)*24≤140737488355328))]) 0 [] [0,8,9,10,11,12,13,14] [] hk0 v0 (by refine cc _ ?_<|cc _ ?_ c0<;>first|omega|(simp;omega)|(simp;done)|(intros;simp_all;omega)|(intros;simp_all;done)) ?_
    refine An ?_
    refine Au 0 [] [0,8,9,10,11,12,13,14] [] hk0 v0 (cc 1 (p:=(-9223372036854775808≤(i14:Int)+1∧(i14:Int)+1≤9223372036854775807)) (by first|omega|(simp;omega)|(simp;done)|(intros;simp_all;omega)|(intros;simp_all;done))<|c0) ?_
    refine⟨by kernel_rfl,_,?_,i14+1,?_,(Eq.trans (b:=(⟨[(0,(.fp (B9 st pl))),(8,(Ae 3 A0 (Ba (A2 Aa st) fr tw))),(9,(Ah (C5 v (Al fr o)))),(10,(Ah (Ad c [v]))),(11,(.own 0)),(12,(.own 1)),(13,(.int .i64 v)),(14,(.int .i64 ((i14:Int)+1)))],[(0,(.grow (((o++((Ba (A2 Aa st) fr tw).take i14).filter (ofB v)).map A0)++([(.agg [(.int .i64 ((nth (Ba (A2 Aa st) fr tw) i14).1)),(.int .i64 ((nth (Ba (A2 Aa st) fr tw) i14).2.1)),(.int .i64 ((nth (Ba (A2 Aa st) fr tw) i14).2.2))])]:List AV)) 66 3)),(1,(.grow ((k.map Bv)++((List.range ((Bk Aa st (Al fr o) v (o.length:Int)).length)).map (fun kx=>((.agg [(.int .i64 ((nth (Bk Aa st (Al fr o) v (o.length:Int)) kx).1)),(.bool ((nth (Bk Aa st (Al fr o) v (o.length:Int)) kx).2.1)),(.int .i64 (((nth (Bk Aa st (Al fr o) v (o.length:Int)) kx).2.2).kind)),(.str (((nth (Bk Aa st (Al fr o) v (o.length:Int)) kx).2.2).name)),(.int .i64 (((nth (Bk Aa st (Al fr o) v (o.length:Int)) kx).2.2).op)),(.str (((nth (Bk Aa st (Al fr o) v (o.length:Int)) kx).2.2).evr)),(.row 5 ((nth (Bk Aa st (Al fr o) v (o.length:Int)) kx).2.2).args.length (depAt ((nth (Bk Aa st (Al fr o) v (o.length:Int)) kx).2.2).args))]):AV)))) 79 7))],3⟩:St)) (by kernel_rfl) (by rw[Uy (o:=o) (q:=(Ba (A2 Aa st) fr tw)) (p:=ofB v) (i:=i14) (by omega) (decide_eq_true (by assumption))]<;>kernel_rfl)),rfl⟩
    ·omega
    ·omega
   ·refine Ai ?_
    refine An ?_
    refine Au 0 [] [0,8,9,10,11,12,13,14] [] hk0 v0 (cc 1 (p:=(-9223372036854775808≤(i14:Int)+1∧(i14:Int)+1≤9223372036854775807)) (by first|omega|(simp;omega)|(simp;done)|(intros;simp_all;omega)|(intros;simp_all;done))<|c0) ?_
    refine⟨by kernel_rfl,_,?_,i14+1,?_,(Eq.trans (b:=(⟨[(0,(.fp (B9 st pl))),(8,(Ae 3 A0 (Ba (A2 Aa st) fr tw))),(9,(Ah (C5 v (Al fr o)))),(10,(Ah (Ad c [v]))),(11,(.own 0)),(12,(.own 1)),(13,(.int .i64 v)),(14,(.int .i64 ((i14:Int)+1)))],[(0,(.grow ((o++((Ba (A2 Aa st) fr tw).take i14).filter (ofB v)).map A0) 66 3)),(1,(.grow ((k.map Bv)++((List.range ((Bk Aa st (Al fr o) v (o.length:Int)).length)).map (fun kx=>((.agg [(.int .i64 ((nth (Bk Aa st (Al fr o) v (o.length:Int)) kx).1)),(.bool ((nth (Bk Aa st (Al fr o) v (o.length:Int)) kx).2.1)),(.int .i64 (((nth (Bk Aa st (Al fr o) v (o.length:Int)) kx).2.2).kind)),(.str (((nth (Bk Aa st (Al fr o) v (o.length:Int)) kx).2.2).name)),(.int .i64 (((nth (Bk Aa st (Al fr o) v (o.length:Int)) kx).2.2).op)),(.str (((nth (Bk Aa st (Al fr o) v (o.length:Int)) kx).2.2).evr)),(.row 5 ((nth (Bk Aa st (Al fr o) v (o.length:Int)) kx).2.2).args.length (depAt ((nth (Bk Aa st (Al fr o) v (o.length:Int)) kx).2.2).args))]):AV)))) 79 7))],3⟩:St)) (by kernel_rfl) (by rw[Mr (o:=o) (q:=(Ba (A2 Aa st) fr tw)) (p:=ofB v) (i:=i14) (by omega) (decide_eq_false (by assumption))]<;>kernel_rfl)),rfl⟩
    ·omega
    ·omega
  ·refine Bp ?_
   refine Ab [] [0,8,9,10,11,12,13,15] ?_
   refine Ay ?_
   refine Bz (fun g y=>∃(i15:Nat),i15≤(Ba (A2 Aa st) fr tw).length∧y=⟨[(0,(.fp (B9 st pl))),(8,(Ae 3 A0 (Ba (A2 Aa st) fr tw))),(9,(Ah (Al fr ((o++(Ba (A2 Aa st) fr tw).filter (ofB v))++((Ba (A2 Aa st) fr tw).take i15).filter (Cb v))))),(10,(Ah (Ad c [v]))),(11,(.own 0)),(12,(.own 1)),(13,(.int .i64 v)),(15,(.int .i64 ((i15:Int))))],[(0,(.grow (((o++(Ba (A2 Aa st) fr tw).filter (ofB v))++((Ba (A2 Aa st) fr tw).take i15).filter (Cb v)).map A0) 66 3)),(1,(.grow ((k.map Bv)++((List.range ((Bk Aa st (Al fr o) v (o.length:Int)).length)).map (fun kx=>((.agg [(.int .i64 ((nth (Bk Aa st (Al fr o) v (o.length:Int)) kx).1)),(.bool ((nth (Bk Aa st (Al fr o) v (o.length:Int)) kx).2.1)),(.int .i64 (((nth (Bk Aa st (Al fr o) v (o.length:Int)) kx).2.2).kind)),(.str (((nth (Bk Aa st (Al fr o) v (o.length:Int)) kx).2.2).name)),(.int .i64 (((nth (Bk Aa st (Al fr o) v (o.length:Int)) kx).2.2).op)),(.str (((nth (Bk Aa st (Al fr o) v (o.length:Int)) kx).2.2).evr)),(.row 5 ((nth (Bk Aa st (Al fr o) v (o.length:Int)) kx).2.2).args.length (depAt ((nth (Bk Aa st (Al fr o) v (o.length:Int)) kx).2.2).args))]):AV)))) 79 7))],3⟩∧g=(Ba (A2 Aa st) fr tw).length-i15) [0,8,9,10,11,12,13,15] 3 _ (by omega) ⟨0,(by omega),(Eq.trans (b:=(⟨[(0,(.fp (B9 st pl))),(8,(Ae 3 A0 (Ba (A2 Aa st) fr tw))),(9,(Ah (C5 v (Al fr o)))),(10,(Ah (Ad c [v]))),(11,(.own 0)),(12,(.own 1)),(13,(.int .i64 v)),(15,(.int .i64 0))],[(0,(.grow ((o++((Ba (A2 Aa st) fr tw).take i14).filter (ofB v)).map A0) 66 3)),(1,(.grow ((k.map Bv)++((List.range ((Bk Aa st (Al fr o) v (o.length:Int)).length)).map (fun kx=>((.agg [(.int .i64 ((nth (Bk Aa st (Al fr o) v (o.length:Int)) kx).1)),(.bool ((nth (Bk Aa st (Al fr o) v (o.length:Int)) kx).2.1)),(.int .i64 (((nth (Bk Aa st (Al fr o) v (o.length:Int)) kx).2.2).kind)),(.str (((nth (Bk Aa st (Al fr o) v (o.length:Int)) kx).2.2).name)),(.int .i64 (((nth (Bk Aa st (Al fr o) v (o.length:Int)) kx).2.2).op)),(.str (((nth (Bk Aa st (Al fr o) v (o.length:Int)) kx).2.2).evr)),(.row 5 ((nth (Bk Aa st (Al fr o) v (o.length:Int)) kx).2.2).args.length (depAt ((nth (Bk Aa st (Al fr o) v (o.length:Int)) kx).2.2).args))]):AV)))) 79 7))],3⟩:St)) (by kernel_rfl) (by rw[Q2n (o:=o) (q:=(Ba (A2 Aa st) fr tw)) (p:=ofB v) (r:=Cb v) (i:=i14) (by omega),List.take_of_length_le (by omega:(Ba (A2 Aa st) fr tw).length≤i14),←X65 (m:=Aa) (st:=st) (a:=fr) (b:=tw) (o:=o) hvm]<;>kernel_rfl)),rfl⟩ ?_
   rintro g3 y3 ⟨i15,f3_1,rfl,rfl⟩
   have hml2:(((o++(Ba (A2 Aa st) fr tw).filter (ofB v))++((Ba (A2 Aa st) fr tw).take i15).filter (Cb v)).map A0).length=((o++(Ba (A2 Aa st) fr tw).filter (ofB v))++((Ba (A2 Aa st) fr tw).take i15).filter (Cb v)).length:=List.length_map _
   have hA:=Lk (o++(Ba (A2 Aa st) fr tw).filter (ofB v)) (Ba (A2 Aa st) fr tw) i15 (Cb v)
   have hA2:=Wa o (Ba (A2 Aa st) fr tw) (ofB v)
   refine Ac ?_
   refine Ab [] [0,8,9,10,11,12,13,15,72] ?_
   refine A5 (p:=(i15:Int) < ((Ba (A2 Aa st) fr tw).length:Int)) (by kernel_rfl) (fun c4=>?_) (fun c4=>?_)
   ·refine Ai ?_
    refine Ac ?_
    refine Ay ?_
    refine Af [] [0,8,9,10,11,12,13,15,16] [] (hk 4 X4j (Q9s (nth (Ba (A2 Aa st) fr tw) i15))<|hk0) v0 (cc 2 (p:=(0≤(i15:Int)∧i15 < (Ba (A2 Aa st) fr tw).length)) (by first|omega|(simp;omega)|(simp;done)|(intros;simp_all;omega)|(intros;simp_all;done))<|c0) ?_
    obtain⟨b1,hb1⟩:∃b,b=(E9 (nth (Ba (A2 Aa st) fr tw) i15).1):=⟨_,rfl⟩
    refine Af (CS:=[(4,(b1=true→(b1=true∧b1=true)∧(0≤(i15:Int)∧i15 < (Ba (A2 Aa st) fr tw).length))),(5,(b1=true→b1=true)),(6,(b1=true→b1=true)),(8,(b1=true→b1=true∧b1=true)),(9,(b1=true→b1=true))]) [82,83,84,85,86,87,88] [0,8,9,10,11,12,13,15,89] [] hk0 (vk 2 81 (a:=.bool (E9 (nth (Ba (A2 Aa st) fr tw) i15).1)) (b:=.bool b1) (Imp.of_eq (by rw[hb1]))<|v0) (by refine cc _ ?_<|cc _ ?_<|cc _ ?_<|cc _ ?_<|cc _ ?_ c0<;>first|omega|(simp;omega)|(simp;done)|(intros;simp_all;omega)|(intros;simp_all;done)) ?_
    refine Bd (q:=b1&&(decide (((nth (Ba (A2 Aa st) fr tw) i15).2.2)=v))) (by kernel_rfl) (fun c5=>?_) (fun c5=>?_)
    ·subst hb1
     try simp only[Am] at c5
     have hfb:Cb v (nth (Ba (A2 Aa st) fr tw) i15)=true:=by rw[←Q11 hvi.1 (Ja (by omega))];simp only[Bool.and_eq_true,decide_eq_true_eq];exact c5
     refine Af (CS:=[(3,(0≤(i15:Int)∧i15 < (Ba (A2 Aa st) fr tw).length)),(6,(((((o++(Ba (A2 Aa st) fr tw).filter (ofB v))++((Ba (A2 Aa st) fr tw).take i15).filter (Cb v)).map A0).length+1)*24≤140737488355328))]) [] [0,8,9,10,11,12,13,15] [] hk0 v0 (by refine cc _ ?_<|cc _ ?_ c0<;>first|omega|(simp;omega)|(simp;done)|(intros;simp_all;omega)|(intros;simp_all;done)) ?_
     refine An ?_
     refine Au 0 [] [0,8,9,10,11,12,13,15] [(7,103)] (hk 7 Oo ((Nv (Al fr ((o++(Ba (A2 Aa st) fr tw).filter (ofB v))++((Ba (A2 Aa st) fr tw).take i15).filter (Cb v))) [(nth (Ba (A2 Aa st) fr tw) i15).2.1] (by have:=Lk (o++(Ba (A2 Aa st) fr tw).filter (ofB v)) (Ba (A2 Aa st) fr tw) i15 (Cb v);have:=Wa o (Ba (A2 Aa st) fr tw) (ofB v);have:=O1 fr ((o++(Ba (A2 Aa st) fr tw).filter (ofB v))++((Ba (A2 Aa st) fr tw).take i15).filter (Cb v));omega) (by simp)).to (Same.of_eq (by rw[X3j hfb])))<|hk0) (vk 7 103 (b:=(Ah [(nth (Ba (A2 Aa st) fr tw) i15).2.1])) (Imp.list (f:=AV.int .i64) rfl)<|v0) (cc 3 (p:=(0≤(i15:Int)∧i15 < (Ba (A2 Aa st) fr tw).length)) (by first|omega|(simp;omega)|(simp;done)|(intros;simp_all;omega)|(intros;simp_all;done))<|c0) ?_
     refine An ?_
     refine Au 0 [] [0,8,9,10,11,12,13,15] [] hk0 v0 (cc 1 (p:=(-9223372036854775808≤(i15:Int)+1∧(i15:Int)+1≤9223372036854775807)) (by first|omega|(simp;omega)|(simp;done)|(intros;simp_all;omega)|(intros;simp_all;done))<|c0) ?_
     refine⟨by kernel_rfl,_,?_,i15+1,?_,(Eq.trans (b:=(⟨[(0,(.fp (B9 st pl))),(8,(Ae 3 A0 (Ba (A2 Aa st) fr tw))),(9,(Ah (Al fr (((o++(Ba (A2 Aa st) fr tw).filter (ofB v))++((Ba (A2 Aa st) fr tw).take i15).filter (Cb v))++[nth (Ba (A2 Aa st) fr tw) i15])))),(10,(Ah (Ad c [v]))),(11,(.own 0)),(12,(.own 1)),(13,(.int .i64 v)),(15,(.int .i64 ((i15:Int)+1)))],[(0,(.grow ((((o++(Ba (A2 Aa st) fr tw).filter (ofB v))++((Ba (A2 Aa st) fr tw).take i15).filter (Cb v)).map A0)++([(.agg [(.int .i64 ((nth (Ba (A2 Aa st) fr tw) i15).1)),(.int .i64 ((nth (Ba (A2 Aa st) fr tw) i15).2.1)),(.int .i64 ((nth (Ba (A2 Aa st) fr tw) i15).2.2))])]:List AV)) 66 3)),(1,(.grow ((k.map Bv)++((List.range ((Bk Aa st (Al fr o) v (o.length:Int)).length)).map (fun kx=>((.agg [(.int .i64 ((nth (Bk Aa st (Al fr o) v (o.length:Int)) kx).1)),(.bool ((nth (Bk Aa st (Al fr o) v (o.length:Int)) kx).2.1)),(.int .i64 (((nth (Bk Aa st (Al fr o) v (o.length:Int)) kx).2.2).kind)),(.str (((nth (Bk Aa st (Al fr o) v (o.length:Int)) kx).2.2).name)),(.int .i64 (((nth (Bk Aa st (Al fr o) v (o.length:Int)) kx).2.2).op)),(.str (((nth (Bk Aa st (Al fr o) v (o.length:Int)) kx).2.2).evr)),(.row 5 ((nth (Bk Aa st (Al fr o) v (o.length:Int)) kx).2.2).args.length (depAt ((nth (Bk Aa st (Al fr o) v (o.length:Int)) kx).2.2).args))]):AV)))) 79 7))],3⟩:St)) (by kernel_rfl) (by rw[Uy (o:=(o++(Ba (A2 Aa st) fr tw).filter (ofB v))) (q:=(Ba (A2 Aa st) fr tw)) (p:=Cb v) (i:=i15) (by omega) hfb,Ok (o:=(o++(Ba (A2 Aa st) fr tw).filter (ofB v))) (q:=(Ba (A2 Aa st) fr tw)) (p:=Cb v) (i:=i15) (by omega) hfb]<;>kernel_rfl)),rfl⟩
     ·omega
     ·omega
    ·subst hb1
     try simp only[Am] at c5
     have hfb:Cb v (nth (Ba (A2 Aa st) fr tw) i15)=false:=by rw[←Q11 hvi.1 (Ja (by omega)),Bool.eq_false_iff];intro q;simp only[Bool.and_eq_true,decide_eq_true_eq] at q;first|exact c5 q|(simp[q.1,q.2] at c5)
     refine Ai ?_
     refine An ?_
     refine Au 0 [] [0,8,9,10,11,12,13,15] [] hk0 v0 (cc 1 (p:=(-9223372036854775808≤(i15:Int)+1∧(i15:Int)+1≤9223372036854775807)) (by first|omega|(simp;omega)|(simp;done)|(intros;simp_all;omega)|(intros;simp_all;done))<|c0) ?_
     refine⟨by kernel_rfl,_,?_,i15+1,?_,(Eq.trans (b:=(⟨[(0,(.fp (B9 st pl))),(8,(Ae 3 A0 (Ba (A2 Aa st) fr tw))),(9,(Ah (Al fr ((o++(Ba (A2 Aa st) fr tw).filter (ofB v))++((Ba (A2 Aa st) fr tw).take i15).filter (Cb v))))),(10,(Ah (Ad c [v]))),(11,(.own 0)),(12,(.own 1)),(13,(.int .i64 v)),(15,(.int .i64 ((i15:Int)+1)))],[(0,(.grow (((o++(Ba (A2 Aa st) fr tw).filter (ofB v))++((Ba (A2 Aa st) fr tw).take i15).filter (Cb v)).map A0) 66 3)),(1,(.grow ((k.map Bv)++((List.range ((Bk Aa st (Al fr o) v (o.length:Int)).length)).map (fun kx=>((.agg [(.int .i64 ((nth (Bk Aa st (Al fr o) v (o.length:Int)) kx).1)),(.bool ((nth (Bk Aa st (Al fr o) v (o.length:Int)) kx).2.1)),(.int .i64 (((nth (Bk Aa st (Al fr o) v (o.length:Int)) kx).2.2).kind)),(.str (((nth (Bk Aa st (Al fr o) v (o.length:Int)) kx).2.2).name)),(.int .i64 (((nth (Bk Aa st (Al fr o) v (o.length:Int)) kx).2.2).op)),(.str (((nth (Bk Aa st (Al fr o) v (o.length:Int)) kx).2.2).evr)),(.row 5 ((nth (Bk Aa st (Al fr o) v (o.length:Int)) kx).2.2).args.length (depAt ((nth (Bk Aa st (Al fr o) v (o.length:Int)) kx).2.2).args))]):AV)))) 79 7))],3⟩:St)) (by kernel_rfl) (by rw[Mr (o:=(o++(Ba (A2 Aa st) fr tw).filter (ofB v))) (q:=(Ba (A2 Aa st) fr tw)) (p:=Cb v) (i:=i15) (by omega) hfb]<;>kernel_rfl)),rfl⟩
     ·omega
     ·omega
   ·refine Bp ?_
    refine⟨by kernel_rfl,_,?_,n-1,(Ad c [v]),(o++Ev (Ba (A2 Aa st) fr tw) v),(k++(Bk Aa st (Al fr o) v (o.length:Int))),?_,?_,?_,?_,?_,?_,?_,(Eq.trans (b:=(⟨[(0,(.fp (B9 st pl))),(8,(Ae 3 A0 (Ba (A2 Aa st) fr tw))),(9,(Ah (Al fr ((o++(Ba (A2 Aa st) fr tw).filter (ofB v))++((Ba (A2 Aa st) fr tw).take i15).filter (Cb v))))),(10,(Ah (Ad c [v]))),(11,(.own 0)),(12,(.own 1))],[(0,(.grow (((o++(Ba (A2 Aa st) fr tw).filter (ofB v))++((Ba (A2 Aa st) fr tw).take i15).filter (Cb v)).map A0) 66 3)),(1,(.grow ((k.map Bv)++((List.range ((Bk Aa st (Al fr o) v (o.length:Int)).length)).map (fun kx=>((.agg [(.int .i64 ((nth (Bk Aa st (Al fr o) v (o.length:Int)) kx).1)),(.bool ((nth (Bk Aa st (Al fr o) v (o.length:Int)) kx).2.1)),(.int .i64 (((nth (Bk Aa st (Al fr o) v (o.length:Int)) kx).2.2).kind)),(.str (((nth (Bk Aa st (Al fr o) v (o.length:Int)) kx).2.2).name)),(.int .i64 (((nth (Bk Aa st (Al fr o) v (o.length:Int)) kx).2.2).op)),(.str (((nth (Bk Aa st (Al fr o) v (o.length:Int)) kx).2.2).evr)),(.row 5 ((nth (Bk Aa st (Al fr o) v (o.length:Int)) kx).2.2).args.length (depAt ((nth (Bk Aa st (Al fr o) v (o.length:Int)) kx).2.2).args))]):AV)))) 79 7))],2⟩:St)) (by kernel_rfl) (by rw[Zu (o:=o) (q:=(Ba (A2 Aa st) fr tw)) (v:=v) (i:=i15) (by omega),show(k++(Bk Aa st (Al fr o) v (o.length:Int))).map Bv=k.map Bv++(List.range (Bk Aa st (Al fr o) v (o.length:Int)).length).map (fun kx=>Bv (nth (Bk Aa st (Al fr o) v (o.length:Int)) kx)) from by rw[List.map_append,Ky Bv]]<;>kernel_rfl)),rfl⟩
    all_goals skip
    ·have:=Ii (b:=v) hvc;omega
    ·have:=Ii (b:=v) hvc;omega
    ·exact fun x hx=>hcr x (minusZ_mem.1 hx).1
    ·exact fun x hx=>hci x (minusZ_mem.1 hx).1
    ·exact X70 hra hrb hth
    ·have h1:=Ii (b:=v) hvc;have h2:=Q4b (Ba (A2 Aa st) fr tw) v;rw[List.length_append];omega
    ·have h1:=Ii (b:=v) hvc;rw[List.length_append];omega
    ·rw[hv,←N1 hcne hcn];exact hoF
 ·refine Bp ?_
  refine Ac ?_
  refine Ab [] [8,11,12,17] ?_
  refine Ay ?_
  refine Bz (fun g y=>∃(i17:Nat),i17≤(Ba (A2 Aa st) fr tw).length∧y=⟨[(8,(Ae 3 A0 (Ba (A2 Aa st) fr tw))),(11,(.own 0)),(12,(.own 1)),(17,(.int .i64 ((i17:Int))))],[(0,(.grow ((o++((Ba (A2 Aa st) fr tw).take i17).filter C0).map A0) 66 3)),(1,(.grow (k.map Bv) 79 7))],2⟩∧g=(Ba (A2 Aa st) fr tw).length-i17) [8,11,12,17] 2 _ (by omega) ⟨0,(by omega),(Eq.trans (b:=(⟨[(8,(Ae 3 A0 (Ba (A2 Aa st) fr tw))),(11,(.own 0)),(12,(.own 1)),(17,(.int .i64 0))],[(0,(.grow (o.map A0) 66 3)),(1,(.grow (k.map Bv) 79 7))],2⟩:St)) (by kernel_rfl) (by rw[show(o++((Ba (A2 Aa st) fr tw).take 0).filter C0)=o from by rw[List.take_zero,List.filter_nil,List.append_nil]]<;>kernel_rfl)),rfl⟩ ?_
  rintro g4 y4 ⟨i17,f4_1,rfl,rfl⟩
  have hml2:((o++((Ba (A2 Aa st) fr tw).take i17).filter C0).map A0).length=(o++((Ba (A2 Aa st) fr tw).take i17).filter C0).length:=List.length_map _
  have hA:=Lk o (Ba (A2 Aa st) fr tw) i17 C0
  refine Ac ?_
  refine Ab [] [8,11,12,17,108] ?_
  refine A5 (p:=(i17:Int) < ((Ba (A2 Aa st) fr tw).length:Int)) (by kernel_rfl) (fun c6=>?_) (fun c6=>?_)
  ·refine Ai ?_
   refine Ac ?_
   refine Ay ?_
   refine Af [] [8,11,12,17,116] [] hk0 v0 (cc 2 (p:=(0≤(i17:Int)∧i17 < (Ba (A2 Aa st) fr tw).length)) (by first|omega|(simp;omega)|(simp;done)|(intros;simp_all;omega)|(intros;simp_all;done))<|c0) ?_
   refine A5 (p:=((nth (Ba (A2 Aa st) fr tw) i17).1)=2) (by kernel_rfl) (fun c7=>?_) (fun c7=>?_)
   ·refine An ?_
    refine Au (CS:=[(3,(0≤(i17:Int)∧i17 < (Ba (A2 Aa st) fr tw).length)),(6,((((o++((Ba (A2 Aa st) fr tw).take i17).filter C0).map A0).length+1)*24≤140737488355328))]) 0 [] [8,11,12,17] [] hk0 v0 (by refine cc _ ?_<|cc _ ?_ c0<;>first|omega|(simp;omega)|(simp;done)|(intros;simp_all;omega)|(intros;simp_all;done)) ?_
    refine An ?_
    refine Au 0 [] [8,11,12,17] [] hk0 v0 (cc 1 (p:=(-9223372036854775808≤(i17:Int)+1∧(i17:Int)+1≤9223372036854775807)) (by first|omega|(simp;omega)|(simp;done)|(intros;simp_all;omega)|(intros;simp_all;done))<|c0) ?_
    refine⟨by kernel_rfl,_,?_,i17+1,?_,(Eq.trans (b:=(⟨[(8,(Ae 3 A0 (Ba (A2 Aa st) fr tw))),(11,(.own 0)),(12,(.own 1)),(17,(.int .i64 ((i17:Int)+1)))],[(0,(.grow (((o++((Ba (A2 Aa st) fr tw).take i17).filter C0).map A0)++([(.agg [(.int .i64 ((nth (Ba (A2 Aa st) fr tw) i17).1)),(.int .i64 ((nth (Ba (A2 Aa st) fr tw) i17).2.1)),(.int .i64 ((nth (Ba (A2 Aa st) fr tw) i17).2.2))])]:List AV)) 66 3)),(1,(.grow (k.map Bv) 79 7))],2⟩:St)) (by kernel_rfl) (by rw[Uy (o:=o) (q:=(Ba (A2 Aa st) fr tw)) (p:=C0) (i:=i17) (by omega) (decide_eq_true (by assumption))]<;>kernel_rfl)),rfl⟩
    ·omega
    ·omega
   ·refine Ai ?_
    refine An ?_
    refine Au 0 [] [8,11,12,17] [] hk0 v0 (cc 1 (p:=(-9223372036854775808≤(i17:Int)+1∧(i17:Int)+1≤9223372036854775807)) (by first|omega|(simp;omega)|(simp;done)|(intros;simp_all;omega)|(intros;simp_all;done))<|c0) ?_
    refine⟨by kernel_rfl,_,?_,i17+1,?_,(Eq.trans (b:=(⟨[(8,(Ae 3 A0 (Ba (A2 Aa st) fr tw))),(11,(.own 0)),(12,(.own 1)),(17,(.int .i64 ((i17:Int)+1)))],[(0,(.grow ((o++((Ba (A2 Aa st) fr tw).take i17).filter C0).map A0) 66 3)),(1,(.grow (k.map Bv) 79 7))],2⟩:St)) (by kernel_rfl) (by rw[Mr (o:=o) (q:=(Ba (A2 Aa st) fr tw)) (p:=C0) (i:=i17) (by omega) (decide_eq_false (by assumption))]<;>kernel_rfl)),rfl⟩
    ·omega
    ·omega
  ·refine Bp ?_
   refine Ab [] [6,7] ?_
   refine Ag ?_
   refine RK wR [(.row 3 ((o++((Ba (A2 Aa st) fr tw).take i17).filter C0).map A0).length (fun ix=>((o++((Ba (A2 Aa st) fr tw).take i17).filter C0).map A0).getD ix Br)),(.row 7 (k.map Bv).length (fun ix=>(k.map Bv).getD ix Br))] ?_
   obtain rfl:c=[]:=List.length_eq_zero_iff.1 (by omega)
   rw[Tv] at hoF
   have hR:Du Aa st fr tw=(o++((Ba (A2 Aa st) fr tw).take i17).filter C0,k,0):=by
    have h0:=Zw (st:=st) (fr:=fr) (tw:=tw) (o:=o) (k:=k) (by rw[hq]) (by rw[hq];exact hoF)
    rw[List.take_of_length_le (by omega),h0,hq]
   rw[hR]
   simp only[Ak]
   exact(Imp.tups (ImpL.cons (Imp.list (f:=A0) (List.length_map _)) (ImpL.cons (Imp.list (f:=Bv) (List.length_map _)) ImpL.nil))).same
end Sv
end
section
open Go Go.RowKit
namespace Sv
attribute [local irreducible] SW SO Bs
set_option maxHeartbeats 1000000
set_option maxRecDepth 100000
theorem Q1b {n:Nat} {l:List Int} (h:(l.all fun x=>decide (0≤x)&&decide (x < (n:Int)))=true):∀x∈l,0≤x∧x < n:=by
 intro x hx
 have:=List.all_eq_true.1 h x hx
 simpa using this
theorem Q1a {st:PoolT} {n:Nat} (hn:n=st.all.length) {l:List Int} (h:(l.all fun x=>decide (0≤x)&&decide (x < (n:Int)))=false):l.any (Ea st)=true:=by
 subst hn
 rw[List.all_eq_false] at h
 obtain⟨x,hx,k⟩:=h
 rw[List.any_eq_true]
 refine⟨x,hx,?_⟩
 unfold Ea
 simp only[Bool.and_eq_true,decide_eq_true_eq] at k
 simp only[Bool.or_eq_true,decide_eq_true_eq]
 omega
theorem X0p {st:PoolT} {fr tw:List Int} (h:fr.any (Ea st)=true∨tw.any (Ea st)=true):Du Aa st fr tw=([],[],69):=by
 have e:Ap Aa st fr tw=([],69):=by unfold Ap;rw[if_pos h]
 unfold Du
 rw[e,if_pos (by simp)]
theorem orderTells_ok (kd : Int) (l : List RepoT) (hll : l.length ≤ 1048576) (hl : ∀ i, i < l.length → (nth l i).size ≤ 1048576) (fr tw : List Int) (ha : fr.length ≤ 1048576) (hb : tw.length ≤ 1048576) :
  FnV Tryz.prog 4 [(.int .i64 kd),(Ae 4 Bm l),(Ah fr),(Ah tw)] (.bool true):=by
 have hl4:∀i,i < l.length→(nth l i).size≤4194304:=fun i hi=>Nat.le_trans (hl i hi) (by decide)
 have hi:=Q45 (k:=A4 kd) hl4
 have hat:=X7k (A4 kd) l
 have hpl:(A1 (A4 kd) l).2.length=(A1 (A4 kd) l).1.all.length:=hat.1
 have hob:Lr (A1 (A4 kd) l).1:=Q97 fun q hq=>(Y3 (Q43 _ _ q hq)).2.2.1
 have hask:Ko (A1 (A4 kd) l).1:=Q98 fun q hq=>(Y3 (Q43 _ _ q hq)).2.2.1
 have hfin:=fun ka kb=>X0q (st:=(A1 (A4 kd) l).1) hi (fr:=fr) (tw:=tw) ka kb
 have hodd:=fun q=>X0p (st:=(A1 (A4 kd) l).1) (fr:=fr) (tw:=tw) q
 obtain⟨oa,ob,oe,hor⟩:∃oa ob oe,(Du Aa (A1 (A4 kd) l).1 fr tw)=(oa,ob,oe):=⟨_,_,_,rfl⟩
 rw[hor] at hfin hodd
 refine A8 [.tmp 8] Tryz.func4 rfl Tryz.ntmps4 rfl rfl (fun B F hF=>?_)
 refine Ab [] [0,1,2,3] ?_
 refine Af [] [0,1,2,3,9] [] (hk 0 X43 X7q<|hk0) v0 c0 ?_
 refine Af [] [2,3,9,10,11] [] (hk 2 Q2y (Q6q kd l (by omega) hl4)<|hk0) v0 c0 ?_
 refine Ac ?_
 refine Ab [] [2,3,10,11,33] ?_
 refine Fc (by kernel_rfl) ?_
 refine Ai ?_
 refine Af [] [2,3,11,12,13,14] [] (hk 3 Vc ((Wo (A1 (A4 kd) l).1 hi fr tw (by omega) (by omega)).to (Same.of_eq (by rw[hor])))<|hk0) v0 c0 ?_
 refine Af [] [2,3,11,12,13,14,15] [] (hk 2 Q3n (Ym (A1 (A4 kd) l).1 (A1 (A4 kd) l).2 fr (by omega))<|hk0) v0 c0 ?_
 refine Af [] [2,3,11,12,13,14,15,16] [] (hk 2 Q3n (Ym (A1 (A4 kd) l).1 (A1 (A4 kd) l).2 tw (by omega))<|hk0) v0 c0 ?_
 refine Ac ?_
 obtain⟨b1,hb1⟩:∃b,b=(!(fr.all fun x=>decide (0≤x)&&decide (x < ((A1 (A4 kd) l).2.length:Int)))):=⟨_,rfl⟩
 refine Af (CS:=[(4,((!b1)=true→(!b1)=true)),(5,(b1=false→(!b1)=true))]) [51,52] [2,3,11,12,13,14,53] [] hk0 (vk 3 50 (a:=.bool (!(fr.all fun x=>decide (0≤x)&&decide (x < ((A1 (A4 kd) l).2.length:Int))))) (b:=.bool b1) (Imp.of_eq (by rw[hb1]))<|v0) (by refine cc _ ?_<|cc _ ?_ c0<;>first|omega|(simp;omega)|(simp;done)|(intros;simp_all;omega)|(intros;simp_all;done)) ?_
 refine Bd (q:=b1||(!(tw.all fun x=>decide (0≤x)&&decide (x < ((A1 (A4 kd) l).2.length:Int))))) (by kernel_rfl) (fun c1=>?_) (fun c1=>?_)
 ·subst hb1
  try simp only[Am] at c1
  have hun:=hodd (c1.imp (Q1a hpl) (Q1a hpl))
  obtain⟨b2,hb2⟩:∃b,b=(decide ((oa.length:Int)=0)):=⟨_,rfl⟩
  obtain⟨b3,hb3⟩:∃b,b=(b2&&(decide ((ob.length:Int)=0))):=⟨_,rfl⟩
  refine Af (CS:=[(5,(b2=true→b2=true)),(6,(b2=true→b2=true)),(7,(b2=true→b2=true)),(10,(b3=true→b3=true)),(11,(b3=true→b3=true))]) [58,59,60,63,64] [8] [] hk0 (vk 4 57 (a:=.bool (decide ((oa.length:Int)=0))) (b:=.bool b2) (Imp.of_eq (by rw[hb2]))<|vk 9 62 (a:=.bool (b2&&(decide ((ob.length:Int)=0)))) (b:=.bool b3) (Imp.of_eq (by rw[hb3]))<|v0) (by refine cc _ ?_<|cc _ ?_<|cc _ ?_<|cc _ ?_<|cc _ ?_ c0<;>first|omega|(simp;omega)|(simp;done)|(intros;simp_all;omega)|(intros;simp_all;done)) ?_
  refine Ag ?_
  refine RK wR [(.bool (b3&&(decide (oe=69))))] ?_
  subst hb3 hb2
  refine Same.of_eq ?_
  simp only[Ak]
  first|rfl|(rw[hoe];rfl)|(cases hun;rfl)
 ·subst hb1
  try simp only[Am] at c1
  have ka:∀x∈fr,0≤x∧x < (A1 (A4 kd) l).1.all.length:=by rw[←hpl];exact Q1b c1.1
  have kb:∀x∈tw,0≤x∧x < (A1 (A4 kd) l).1.all.length:=by rw[←hpl];exact Q1b c1.2
  obtain⟨hal,hbl,hbs,hoe⟩:=hfin ka kb
  have hal:oa.length≤200:=hal
  have hbl:ob.length≤1677721600:=hbl
  have hoe:oe=0:=hoe
  refine Ai ?_
  refine Af [] [12,13,14,17,18] [] (hk 3 X41 ((Q9i (A1 (A4 kd) l).1 (A1 (A4 kd) l).2 hat hi hob hask fr tw (by omega) (by omega) ka kb).to (Same.of_eq (by rw[hor])))<|hk0) v0 c0 ?_
  refine Af [] [13,14,18,19] [] (hk 2 Q3d ((Yi oa oa (by omega)).to (Same.of_eq (congrArg AV.bool (decide_eq_true rfl))))<|hk0) v0 c0 ?_
  refine Af [] [14,19,20] [] (hk 2 Q3a ((Xt ob ob (by omega) hbs hbs).to (Same.of_eq (congrArg AV.bool (V5 rfl))))<|hk0) v0 c0 ?_
  refine Ab [] [8] ?_
  refine Ag ?_
  refine RK wR [(.bool (decide (oe=0)))] ?_
  refine Same.of_eq ?_
  simp only[Ak]
  first|rfl|(rw[hoe];rfl)|(cases hun;rfl)
end Sv
end
end Go.Proofs.YtlmloohlmlahfaaGreatDoor
