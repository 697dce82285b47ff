/- The texts EvrV, EvrW, PkgV, FormV, Pool1, RuneV, NextV, OneV, ParseL, Pool2, Pool3, Pool4, Pool5, Pool6, Pool7 of the proof, joined. Each says at its theorems what it proves. -/
import Derived.Test.YtlmloohlmlahfaaGreatDoorV1
set_option linter.unusedSimpArgs false
set_option linter.unusedVariables false
namespace Go.Proofs.YtlmloohlmlahfaaGreatDoor
section
open Go Go.RowKit
namespace Sv
attribute [local irreducible] SW SO Bn
set_option maxHeartbeats 1000000
set_option maxRecDepth 100000
theorem FnV.of_plain {P:Program} {f:Nat} {al:List AV} {r:AV} (vs0:List Value) (rv:Value) (ha:∀F vs,VRl (ofF F) al vs→vs=vs0) (hr:∀F,VR (ofF F) r rv) (h:∀w:World,Calls P f vs0.toArray w (Ret fun v w'=>v=rv∧Below w.heap.size w w')):FnV P f al r:=by
 intro F w vs hF hv
 rw[ha F vs hv]
 refine(h w).mono ?_
 rintro e w' ⟨v,he,rfl,hb⟩
 exact⟨_,he,hb,F,fun _ _ e=>e,fun b o e=>(hb.block b (Fc (hF b o e))).trans (hF b o e),fun _ _ e => .inl e,hr F⟩
theorem Si {P:Program} {f:Nat} {vs:Array Value} {w:World} {rv:Value} (h:Calls P f vs w (Ret fun v w'=>v=rv∧w=w')):Calls P f vs w (Ret fun v w'=>v=rv∧Below w.heap.size w w') :=
 h.mono fun e w' hh=>by
  obtain⟨v,he,h1,rfl⟩:=hh
  exact⟨v,he,h1,Below.refl _ _⟩
theorem Ox {F:Nat→Option Obj} {a b:AV} {x y:Value} (ha:∀F v,VR (ofF F) a v→v=x) (hb:∀F v,VR (ofF F) b v→v=y) {vs:List Value} (h:VRl (ofF F) [a,b] vs):vs=[x,y]:=by
 obtain⟨v,r1,rfl,h1,hv⟩:=h.cons_inv
 obtain⟨v2,rfl,h2⟩:=hv.single_inv
 rw[ha _ _ h1,hb _ _ h2]
theorem Lk {l:List UInt8}:∀F v,VR (ofF F) (.str l) v→v=Go.Proofs.YtlmloohlmlahfaaGreatDoor.S l:=fun F v h=>by simpa only [VR] using h
theorem Q0k {k:IntKind} {n:Int}:∀F v,VR (ofF F) (.int k n) v→v = .int k n:=fun F v h=>by simpa only [VR] using h
theorem X8f (l:List UInt8) (c:UInt8):FnV Tryz.prog 162 [.str l,.int .u8 (c.toNat:Int)] (.int .i64 (Lib.indexByte l c)) :=
 FnV.of_plain [S l,.int .u8 (c.toNat:Int)] (.int .i64 (Lib.indexByte l c)) (fun _ _ h=>Ox Lk Q0k h) (fun _=>by simp only[VR]) fun w=>Si (X8e l c w)
theorem X8c (l:List UInt8) (hl:l.length≤9223372036854775807):FnV Tryz.prog 165 [.str l,.int .u8 45] (.int .i64 (B2 l 45 l.length)) :=
 FnV.of_plain [S l,.int .u8 45] (.int .i64 (B2 l 45 l.length)) (fun _ _ h=>Ox Lk Q0k h) (fun _=>by simp only[VR]) fun w=>Si (X8b l 45 w hl)
theorem X8n (l:List UInt8):FnV Tryz.prog 166 [.str l,.str [58]] (.bool (l.contains 58)) :=
 FnV.of_plain [S l,S [58]] (.bool (l.contains 58)) (fun _ _ h=>Ox Lk Lk h) (fun _=>by simp only[VR]) fun w=>Si (X8m l 58 w)
theorem X8l (l:List UInt8) (hl:l.length≤9223372036854775807):FnV Tryz.prog 164 [.str l,.str [58]] (.tup [.str (if 0≤Lib.indexByte l 58 then l.take (Lib.indexByte l 58).toNat else l),.str (if 0≤Lib.indexByte l 58 then l.drop ((Lib.indexByte l 58).toNat+1) else []),.bool (decide (0≤Lib.indexByte l 58))]):=by
 refine FnV.of_plain [S l,S [58]] (Id l 58) (fun _ _ h=>Ox Lk Lk h) (fun F=>?_) fun w=>?_
 ·unfold Id
  by_cases h:0≤Lib.indexByte l 58
  ·rw[if_pos h,if_pos h,if_pos h,decide_eq_true h]
   simp only[VR];exact⟨_,.cons (by simp only[VR]) (.cons (by simp only[VR]) (.cons (by simp only[VR]) .nil)),rfl⟩
  ·rw[if_neg h,if_neg h,if_neg h,decide_eq_false h]
   simp only[VR];exact⟨_,.cons (by simp only[VR]) (.cons (by simp only[VR]) (.cons (by simp only[VR]) .nil)),rfl⟩
 ·exact X8k l 58 w hl
theorem X01 (r:List UInt8) (c:UInt8) : -1≤B2 r c r.length∧B2 r c r.length < r.length:=by
 rcases Q0b r c r.length with h|⟨q,h,hq⟩<;>omega
theorem Qj {l r ep v rl : List UInt8} (hh : H4 l = true) (hr : r = (if 0 ≤ Lib.indexByte l 58 then l.drop ((Lib.indexByte l 58).toNat + 1) else l)) (he : ep = (if 0 ≤ Lib.indexByte l 58 then l.take (Lib.indexByte l 58).toNat else [])) (hd : 0 ≤ Lib.indexByte l 58 → F9 (l.take (Lib.indexByte l 58).toNat) = true)
  (hv:v=(if 0≤B2 r 45 r.length then r.take (B2 r 45 r.length).toNat else r)) (hrl:rl=(if 0≤B2 r 45 r.length then r.drop ((B2 r 45 r.length).toNat+1) else [])) (hn:0≤B2 r 45 r.length→¬rl=[]):Cg l=(if v=[]∨r.contains 58=true then 30 else 0)∧N4 l=(ep,v,rl):=by
 constructor
 ·have ht : Js l = K2 r := by
   unfold Js
   rw[hh,Bool.true_and]
   by_cases h:0≤Lib.indexByte l 58
   ·rw[if_pos h,hd h,Bool.true_and,hr,if_pos h]
   ·rw[if_neg h,hr,if_neg h]
  have ht2:K2 r = !(decide (v=[])||r.contains 58):=by
   unfold K2
   by_cases h:0≤B2 r 45 r.length
   ·have:=hn h
    rw[if_pos h] at hv hrl ⊢
    rw[←hrl,←hv,decide_eq_false this,Bool.not_or];rfl
   ·rw[if_neg h] at hv ⊢
    rw[hv,Bool.not_or]
  unfold Cg
  rw[ht,ht2]
  by_cases h1:v=[]<;>by_cases h2:r.contains 58=true<;>simp[h1,h2]
 ·unfold N4
  simp only[←hr]
  rw[←he,←hv,←hrl]
theorem X0s (c : UInt8) :
  FnV Tryz.prog 159 [(.int .u8 ((c.toNat:Int)))] (.bool (F7 c)):=by
 refine A5 [.tmp 2] Tryz.func159 rfl Tryz.ntmps159 rfl rfl (fun B F hF=>?_)
 refine Aa [] [0] ?_
 obtain⟨b1,hb1⟩:∃b,b=((Bi c)||(B7 c)):=⟨_,rfl⟩
 refine Af (CS:=[(4,(!(Bi c))=true→(!(Bi c))=true),(5,((Bi c)=false→(!(Bi c))=true)),(8,(!b1)=true→(!b1)=true),(9,((!b1)=true→(!b1)=true)),(10,(b1=false→(!b1)=true))]) [6,10,12] [2] [] (hk 1 Ib (I4 c)<|hkg 4 (!(Bi c)) Mk (fun cg=>Nw c)<|hkg 8 (!b1) X3y (fun cg=>X8f midL c)<|hk0) (vk 7 9 (a:=.bool ((Bi c)||(B7 c))) (b:=.bool b1) (Imp.of_eq (by rw[hb1]))<|v0) (by refine cc _ ?_<|cc _ ?_<|cc _ ?_<|cc _ ?_<|cc _ ?_ c0<;>simp) ?_
 refine Ah ?_
 refine RK wR [(.bool (b1||(decide (0≤(Lib.indexByte midL c)))))] ?_
 subst hb1
 refine Same.of_eq ?_
 simp only[An]
 rw[Q0p,Bool.or_assoc];rfl
theorem X2r {l:List UInt8} (c:(l=[]∨(60:Int) < (l.length:Int))∨¬(A9 F7 l:Int)=(l.length:Int)):Cg l=30:=by
 refine Q1n ?_
 unfold H4
 rcases c with (h|h)|h
 ·rw[h];rfl
 ·rw[decide_eq_false (show ¬l.length≤60 by omega)];simp
 ·rw[show l.all F7=false from by cases hq:l.all F7 with|false=>rfl|true=>exact absurd ((Q0 F7 l).2 hq) h];rfl
theorem X2s {l:List UInt8} (hh:H4 l=true) (h0:0≤Lib.indexByte l 58) (c:(l.take (Lib.indexByte l 58).toNat=[]∨(9:Int) < ((l.take (Lib.indexByte l 58).toNat).length:Int))∨¬(A9 Bi (l.take (Lib.indexByte l 58).toNat):Int)=((l.take (Lib.indexByte l 58).toNat).length:Int)):Cg l=30:=by
 have hb:F9 (l.take (Lib.indexByte l 58).toNat)=false:=by
  unfold F9
  rcases c with (h|h)|h
  ·rw[h];rfl
  ·rw[decide_eq_false (show ¬(l.take (Lib.indexByte l 58).toNat).length≤9 by omega)];simp
  ·rw[show(l.take (Lib.indexByte l 58).toNat).all Ic=false from by cases hq:(l.take (Lib.indexByte l 58).toNat).all Ic with|false=>rfl|true=>exact absurd ((Q0 Ic _).2 hq) h];rfl
 unfold Cg Js
 rw[hh,Bool.true_and,if_pos h0,hb];rfl
theorem Q1k {l r:List UInt8} (hh:H4 l=true) (hr:r=(if 0≤Lib.indexByte l 58 then l.drop ((Lib.indexByte l 58).toNat+1) else l)) (hd:0≤Lib.indexByte l 58→F9 (l.take (Lib.indexByte l 58).toNat)=true) (hy:0≤B2 r 45 r.length) (h:r.drop ((B2 r 45 r.length).toNat+1)=[]):Cg l=30:=by
 have ht:Js l=K2 r:=by
  unfold Js
  rw[hh,Bool.true_and]
  by_cases h:0≤Lib.indexByte l 58
  ·rw[if_pos h,hd h,Bool.true_and,hr,if_pos h]
  ·rw[if_neg h,hr,if_neg h]
 unfold Cg
 rw[ht]
 unfold K2
 rw[if_pos hy,h];rfl
theorem Qk (l : List UInt8) (hl : l.length ≤ 4611686018427387904) :
  FnV Tryz.prog 107 [(.str l)] (.tup [.agg [.str (Cv l).1,.str (Cv l).2.1,.str (Cv l).2.2],.int .i64 (Cg l)]):=by
 refine A5 [.cell 2 150,.tmp 3] Tryz.func107 rfl Tryz.ntmps107 rfl rfl (fun B F hF=>?_)
 refine Aa [] [0,2] ?_
 refine Aa [] [0,2,4] ?_
 refine Ad ?_
 obtain⟨b1,hb1⟩:∃b,b=(decide (l=[])):=⟨_,rfl⟩
 obtain⟨b2,hb2⟩:∃b,b=(b1||(decide (60 < (l.length:Int)))):=⟨_,rfl⟩
 refine Af (CS:=[(4,((!b1)=true→(!b1)=true)),(5,((!b1)=true→(!b1)=true)),(6,(b1=false→(!b1)=true)),(10,(!b2)=true→(!b2)=true∧(!b2)=true),(12,((!b2)=true→(!b2)=true)),(13,((!b2)=true→(!b2)=true∧(!b2)=true)),(14,(b2=false→(!b2)=true))]) [14,15,16,19,20,22,23,24] [0,2,25] [] (hkg 10 (!b2) (al:=[(.str l),(.fn 159 [] [])]) Hn (fun cg=>(Ie l (.fn 159 [] []) F7 (by first|omega|(split<;>simp<;>omega)) (fun c=>FunV.of (by exact X3z) (X0s c))).of_args (ImpL.cons Imp.refl (ImpL.cons (Imp.clo rfl) ImpL.nil)))<|hk0) (vk 3 13 (a:=.bool (decide (l=[]))) (b:=.bool b1) (Imp.of_eq (by rw[hb1]))<|vk 8 18 (a:=.bool (b1||(decide (60 < (l.length:Int))))) (b:=.bool b2) (Imp.of_eq (by rw[hb2]))<|v0) (by refine cc _ ?_<|cc _ ?_<|cc _ ?_<|cc _ ?_<|cc _ ?_<|cc _ ?_<|cc _ ?_ c0<;>simp) ?_
 refine A8 (q:=b2||(!decide ((A9 F7 l:Int)=(l.length:Int)))) (by kernel_rfl) (fun c1=>?_) (fun c1=>?_)
 ·subst hb2 hb1
  try simp only[Ao] at c1
  refine Aa [] [2,3] ?_
  refine Ah ?_
  refine RK wR [(.agg [(.str []),(.str []),(.str [])]),(.int .i64 30)] ?_
  refine Same.of_eq ?_
  simp only[An]
  have h0:Cg l=30:=X2r c1
  have h1:Cv l=([],[],[]):=I2 h0.symm
  rw[h0,h1]
 ·subst hb2 hb1
  try simp only[Ao] at c1
  have hh:H4 l=true:=by
   unfold H4
   rw[show l.all F7=true from (Q0 F7 l).1 c1.2,decide_eq_true (show 1≤l.length by have:=List.length_pos_iff.2 c1.1.1;omega),decide_eq_true (by omega)];rfl
  refine Ai ?_
  refine Aa [] [0,2,5] ?_
  refine Aa [] [0,2,5,6] ?_
  refine D0 (fun y=>∃(r:List UInt8) (ep:List UInt8),r=(if 0≤Lib.indexByte l 58 then l.drop ((Lib.indexByte l 58).toNat+1) else l)∧ep=(if 0≤Lib.indexByte l 58 then l.take (Lib.indexByte l 58).toNat else [])∧(0≤Lib.indexByte l 58→F9 (l.take (Lib.indexByte l 58).toNat)=true)∧y=⟨[(2,(.ptr 0 0)),(5,(.ptr 1 0)),(6,(.str r))],[(0,(.row [(.str []),(.str []),(.str [])] 150)),(1,(.row [(.str ep),(.str []),(.str [])] 150))],2⟩) [2,5,6] 2 (by omega) ?_ ?_
  ·refine Af [] [2,5,6,7,8,9] [] (hk 1 X3x (X8l l (by omega))<|hk0) v0 c0 ?_
   refine Aa [] [2,5,6,7,8,34] ?_
   refine A6 (p:=0≤Lib.indexByte l 58) (by kernel_rfl) (fun c2=>?_) (fun c2=>?_)
   ·refine Ad ?_
    obtain⟨b3,hb3⟩:∃b,b=(decide ((if 0≤Lib.indexByte l 58 then l.take (Lib.indexByte l 58).toNat else l)=[])):=⟨_,rfl⟩
    obtain⟨b4,hb4⟩:∃b,b=(b3||(decide (9 < ((if 0≤Lib.indexByte l 58 then l.take (Lib.indexByte l 58).toNat else l).length:Int)))):=⟨_,rfl⟩
    refine Af (CS:=[(4,((!b3)=true→(!b3)=true)),(5,((!b3)=true→(!b3)=true)),(6,(b3=false→(!b3)=true)),(9,(!b4)=true→(!b4)=true),(11,((!b4)=true→(!b4)=true)),(12,((!b4)=true→(!b4)=true∧(!b4)=true)),(13,(b4=false→(!b4)=true))]) [38,39,40,43,45,46,47] [2,5,7,8,48] [] (hkg 9 (!b4) (al:=[(.str ((if 0≤Lib.indexByte l 58 then l.take (Lib.indexByte l 58).toNat else l))),(.fn 160 [] [])]) Hn (fun cg=>(Ie (if 0≤Lib.indexByte l 58 then l.take (Lib.indexByte l 58).toNat else l) (.fn 160 [] []) Bi (by first|omega|(split<;>simp<;>omega)) (fun c=>FunV.of (by exact Ib) (I4 c))).of_args (ImpL.cons Imp.refl (ImpL.cons (Imp.clo rfl) ImpL.nil)))<|hk0) (vk 3 37 (a:=.bool (decide ((if 0≤Lib.indexByte l 58 then l.take (Lib.indexByte l 58).toNat else l)=[]))) (b:=.bool b3) (Imp.of_eq (by rw[hb3]))<|vk 7 41 (a:=.bool (b3||(decide (9 < ((if 0≤Lib.indexByte l 58 then l.take (Lib.indexByte l 58).toNat else l).length:Int))))) (b:=.bool b4) (Imp.of_eq (by rw[hb4]))<|v0) (by refine cc _ ?_<|cc _ ?_<|cc _ ?_<|cc _ ?_<|cc _ ?_<|cc _ ?_<|cc _ ?_ c0<;>simp) ?_
    refine A8 (q:=b4||(!decide ((A9 Bi (if 0≤Lib.indexByte l 58 then l.take (Lib.indexByte l 58).toNat else l):Int)=((if 0≤Lib.indexByte l 58 then l.take (Lib.indexByte l 58).toNat else l).length:Int)))) (by kernel_rfl) (fun c3=>?_) (fun c3=>?_)
    ·subst hb4 hb3
     try simp only[Ao] at c3
     refine Aa [] [2,3] ?_
     refine Ah ?_
     refine RK wR [(.agg [(.str []),(.str []),(.str [])]),(.int .i64 30)] ?_
     refine Same.of_eq ?_
     simp only[An]
     have h0:Cg l=30:=X2s hh c2 (by rw[if_pos c2] at c3;exact c3)
     have h1:Cv l=([],[],[]):=I2 h0.symm
     rw[h0,h1]
    ·subst hb4 hb3
     try simp only[Ao] at c3
     have hdg:F9 (l.take (Lib.indexByte l 58).toNat)=true:=by
      rw[if_pos c2] at c3
      unfold F9
      rw[show(l.take (Lib.indexByte l 58).toNat).all Ic=true from (Q0 Ic _).1 c3.2,decide_eq_true (show 1≤_ by have:=List.length_pos_iff.2 c3.1.1;omega),decide_eq_true (by omega)];rfl
     refine Ai ?_
     refine Ap ?_
     refine Ey [] [2,5,6] ?_
     refine⟨by kernel_rfl,(if 0≤Lib.indexByte l 58 then l.drop ((Lib.indexByte l 58).toNat+1) else []),(if 0≤Lib.indexByte l 58 then l.take (Lib.indexByte l 58).toNat else l),?_,?_,?_,(by kernel_rfl)⟩
     ·simp only[if_pos c2]
     ·simp only[if_pos c2]
     ·exact fun _=>hdg
   ·refine Ai ?_
    refine⟨by kernel_rfl,l,[],?_,?_,?_,(by kernel_rfl)⟩
    ·simp only[if_neg c2]
    ·simp only[if_neg c2]
    ·exact fun h=>absurd h c2
  ·rintro y1 ⟨r,ep,hr,hep,hdg,rfl⟩
   have hrl:r.length≤l.length:=by rw[hr];split<;>simp
   have hyb:=X01 r 45
   have hi58:=Q0o l 58
   refine Aa [] [2,5,6] ?_
   refine D0 (fun y=>∃(v:List UInt8) (rl:List UInt8),v=(if 0≤B2 r 45 r.length then r.take (B2 r 45 r.length).toNat else r)∧rl=(if 0≤B2 r 45 r.length then r.drop ((B2 r 45 r.length).toNat+1) else [])∧(0≤B2 r 45 r.length→¬rl=[])∧y=⟨[(2,(.ptr 0 0)),(5,(.ptr 1 0)),(6,(.str r))],[(0,(.row [(.str []),(.str []),(.str [])] 150)),(1,(.row [(.str ep),(.str v),(.str rl)] 150))],2⟩) [2,5,6] 2 (by omega) ?_ ?_
   ·refine Af [] [2,5,6,10] [] (hk 1 X3w (X8c r (by omega))<|hk0) v0 c0 ?_
    refine Aa [] [2,5,6,10,58] ?_
    refine A6 (p:=0≤(B2 r 45 r.length)) (by kernel_rfl) (fun c4=>?_) (fun c4=>?_)
    ·refine C2 (CS:=[(2,(0≤(0:Int)∧(0:Int)≤B2 r 45 r.length∧B2 r 45 r.length≤(r.length:Int))),(5,(-9223372036854775808≤(B2 r 45 r.length)+1∧(B2 r 45 r.length)+1≤9223372036854775807)),(6,(0≤(B2 r 45 r.length)+1∧(B2 r 45 r.length)+1≤(r.length:Int)∧(r.length:Int)≤(r.length:Int)))]) [] [2,5,6] [] hk0 v0 (by refine cc _ ?_<|cc _ ?_<|cc _ ?_ c0<;>omega) ?_
     refine Aa [] [2,5,6,70] ?_
     refine A6 (p:=(r.take r.length).drop (((B2 r 45 r.length)+1).toNat)=[]) (by kernel_rfl) (fun c5=>?_) (fun c5=>?_)
     ·refine Aa [] [2,3] ?_
      refine Ah ?_
      refine RK wR [(.agg [(.str []),(.str []),(.str [])]),(.int .i64 30)] ?_
      refine Same.of_eq ?_
      simp only[An]
      have h0:Cg l=30:=Q1k hh hr hdg c4 (by have h:=c5;rw[List.take_length] at h;rw[←h];congr 1;omega)
      have h1:Cv l=([],[],[]):=I2 h0.symm
      rw[h0,h1]
     ·refine Ai ?_
      refine⟨by kernel_rfl,((r.take ((B2 r 45 r.length:Int).toNat)).drop 0),((r.take r.length).drop (((B2 r 45 r.length)+1).toNat)),?_,?_,?_,(by kernel_rfl)⟩
      ·rw[if_pos c4];simp
      ·rw[if_pos c4];try rw[List.take_length];congr 1;omega
      ·intro _;exact c5
    ·refine Ai ?_
     refine⟨by kernel_rfl,r,[],?_,?_,?_,(by kernel_rfl)⟩
     ·rw[if_neg c4]
     ·rw[if_neg c4]
     ·exact fun h=>absurd h c4
   ·rintro y2 ⟨v,rl,hv,hrr,hnn,rfl⟩
    refine Ad ?_
    obtain⟨b5,hb5⟩:∃b,b=(decide (v=[])):=⟨_,rfl⟩
    refine Af (CS:=[(5,(!b5)=true→(!b5)=true),(6,(b5=false→(!b5)=true))]) [76] [2,5,78] [] (hkg 5 (!b5) X3v (fun cg=>X8n r)<|hk0) (vk 4 75 (a:=.bool (decide (v=[]))) (b:=.bool b5) (Imp.of_eq (by rw[hb5]))<|v0) (by refine cc _ ?_<|cc _ ?_ c0<;>simp) ?_
    refine A8 (q:=b5||(r.contains 58)) (by kernel_rfl) (fun c6=>?_) (fun c6=>?_)
    ·subst hb5
     try simp only[Ao] at c6
     refine Aa [] [2,3] ?_
     refine Ah ?_
     refine RK wR [(.agg [(.str []),(.str []),(.str [])]),(.int .i64 30)] ?_
     refine Same.of_eq ?_
     simp only[An]
     have h0:Cg l=30:=by rw[(Qj hh hr hep hdg hv hrr hnn).1,if_pos (by simpa using c6)]
     have h1:Cv l=([],[],[]):=I2 h0.symm
     rw[h0,h1]
    ·subst hb5
     try simp only[Ao] at c6
     refine Ai ?_
     refine Aa [] [2,3] ?_
     refine Ah ?_
     refine RK wR [(.agg [(.str ep),(.str v),(.str rl)]),(.int .i64 0)] ?_
     have hf:=Qj hh hr hep hdg hv hrr hnn
     have h0:Cg l=0:=by rw[hf.1,if_neg (by simpa using c6)]
     exact Same.of_eq (by simp only[An];rw[Q1l h0.symm,hf.2,h0])
end Sv
end
section
open Go Go.RowKit
namespace Sv
attribute [local irreducible] SW SO Bn
set_option maxHeartbeats 1000000
set_option maxRecDepth 100000
theorem Q7e (c : UInt8) :
  FnV Tryz.prog 226 [(.int .u8 ((c.toNat:Int)))] (.bool (B7 c)):=by
 refine A5 [.tmp 2] Tryz.func226 rfl Tryz.ntmps226 rfl rfl (fun B F hF=>?_)
 refine Aa [] [0] ?_
 obtain⟨b1,hb1⟩:∃b,b=(decide (97≤(c.toNat:Int))):=⟨_,rfl⟩
 obtain⟨b2,hb2⟩:∃b,b=(b1&&(decide ((c.toNat:Int)≤122))):=⟨_,rfl⟩
 obtain⟨b3,hb3⟩:∃b,b=(b2||((decide (65≤(c.toNat:Int)))&&(decide ((c.toNat:Int)≤90)))):=⟨_,rfl⟩
 refine Af (CS:=[(4,(b1=true→b1=true)),(5,(b1=true→b1=true)),(8,((!b2)=true→(!b2)=true)),(9,((!b2)=true→(!b2)=true)),(11,(((!b2)&&(decide (65≤(c.toNat:Int))))=true→((!b2)&&(decide (65≤(c.toNat:Int))))=true)),(12,((!b2)=true→((!b2)=true)∧((decide (65≤(c.toNat:Int)))=true→((!b2)&&(decide (65≤(c.toNat:Int))))=true))),(13,(b2=false→(!b2)=true))]) [6,7,10,11,12,13,14,15] [2] [] hk0 (vk 3 5 (a:=.bool (decide (97≤(c.toNat:Int)))) (b:=.bool b1) (Imp.of_eq (by rw[hb1]))<|vk 7 9 (a:=.bool (b1&&(decide ((c.toNat:Int)≤122)))) (b:=.bool b2) (Imp.of_eq (by rw[hb2]))<|vk 14 16 (a:=.bool (b2||((decide (65≤(c.toNat:Int)))&&(decide ((c.toNat:Int)≤90))))) (b:=.bool b3) (Imp.of_eq (by rw[hb3]))<|v0) (by refine cc _ ?_<|cc _ ?_<|cc _ ?_<|cc _ ?_<|cc _ ?_<|cc _ ?_<|cc _ ?_ c0<;>(intros;simp_all;done)) ?_
 refine Ah ?_
 refine RK wR [(.bool b3)] ?_
 subst hb3 hb2 hb1
 refine Same.of_eq ?_
 simp only[An]
 congr 1
 unfold B7
 rw[Bool.eq_iff_iff]
 simp only[Bool.and_eq_true,Bool.or_eq_true,decide_eq_true_eq]
 omega
theorem Xj (c : UInt8) :
  FnV Tryz.prog 227 [(.int .u8 ((c.toNat:Int)))] (.bool (Bi c)):=by
 refine A5 [.tmp 2] Tryz.func227 rfl Tryz.ntmps227 rfl rfl (fun B F hF=>?_)
 refine Aa [] [0] ?_
 obtain⟨b1,hb1⟩:∃b,b=(decide (48≤(c.toNat:Int))):=⟨_,rfl⟩
 refine Af (CS:=[(4,(b1=true→b1=true)),(5,(b1=true→b1=true))]) [6,7] [2] [] hk0 (vk 3 5 (a:=.bool (decide (48≤(c.toNat:Int)))) (b:=.bool b1) (Imp.of_eq (by rw[hb1]))<|v0) (by refine cc _ ?_<|cc _ ?_ c0<;>simp) ?_
 refine Ah ?_
 refine RK wR [(.bool (b1&&(decide ((c.toNat:Int)≤57))))] ?_
 subst hb1
 refine Same.of_eq ?_
 simp only[An]
 congr 1
 unfold Bi
 rw[Bool.eq_iff_iff]
 simp only[Bool.and_eq_true,Bool.or_eq_true,decide_eq_true_eq]
 omega
theorem inV (c : UInt8) (l : List UInt8) (hl : l.length ≤ 4611686018427387904) :
  FnV Tryz.prog 193 [(.int .u8 ((c.toNat:Int))),(.str l)] (.bool (l.contains c)):=by
 refine A5 [.tmp 4] Tryz.func193 rfl Tryz.ntmps193 rfl rfl (fun B F hF=>?_)
 refine Aa [] [0,1] ?_
 refine Ad ?_
 refine Aa [] [0,1,5] ?_
 refine A1 ?_
 refine Bz (fun g y=>∃(k:Nat),k≤l.length∧l.contains c=(l.drop k).contains c∧y=⟨[(0,(.int .u8 ((c.toNat:Int)))),(1,(.str l)),(5,(.int .i64 ((k:Int))))],[],0⟩∧g=l.length-k) [0,1,5] 0 _ (by omega) ⟨0,(by omega),(by rfl),(by kernel_rfl),rfl⟩ ?_
 rintro g1 y1 ⟨k,f1_1,f1_2,rfl,rfl⟩
 refine Ad ?_
 refine Aa [] [0,1,5,9] ?_
 refine A6 (p:=(k:Int) < (l.length:Int)) (by kernel_rfl) (fun c1=>?_) (fun c1=>?_)
 ·refine Ai ?_
  refine Ad ?_
  refine A1 ?_
  refine Af [] [0,1,5,16] [] hk0 v0 (cc 2 (p:=(0≤(k:Int)∧k < l.length)) (by omega)<|c0) ?_
  refine A6 (p:=((As l k).toNat:Int)=(c.toNat:Int)) (by kernel_rfl) (fun c2=>?_) (fun c2=>?_)
  ·refine Aa [] [4] ?_
   refine Ah ?_
   refine RK wR [(.bool true)] ?_
   exact Same.of_eq (by rw[f1_2,Ju (by omega),show As l k=c from UInt8.toNat_inj.1 (by omega)];simp[An])
  ·refine Ai ?_
   refine Ap ?_
   refine Av 0 [] [0,1,5] [] hk0 v0 (cc 1 (p:=(-9223372036854775808≤(k:Int)+1∧(k:Int)+1≤9223372036854775807)) (by omega)<|c0) ?_
   refine⟨by kernel_rfl,_,?_,k+1,?_,?_,(by kernel_rfl),rfl⟩
   ·omega
   ·omega
   ·rw[f1_2,Ju (by omega),List.contains_cons];have:¬c=As l k:=fun e=>c2 (by rw[e]);simp[this]
 ·refine Bt ?_
  refine Aa [] [4] ?_
  refine Ah ?_
  refine RK wR [(.bool false)] ?_
  exact Same.of_eq (by rw[f1_2,List.drop_of_length_le (by omega)];rfl)
theorem Q7d (l : List UInt8) (hl : l.length ≤ 4611686018427387904) :
  FnV Tryz.prog 191 [(.str l)] (.bool (l.all F7&&(decide (1≤l.length)&&decide (l.length≤60)))):=by
 refine A5 [.tmp 2] Tryz.func191 rfl Tryz.ntmps191 rfl rfl (fun B F hF=>?_)
 refine Aa [] [0] ?_
 refine Ad ?_
 refine Aa [] [0,3] ?_
 refine A1 ?_
 refine Bz (fun g y=>∃(k:Nat),k≤l.length∧(l.take k).all F7=true∧y=⟨[(0,(.str l)),(3,(.int .i64 ((k:Int))))],[],0⟩∧g=l.length-k) [0,3] 0 _ (by omega) ⟨0,(by omega),(by rfl),(by kernel_rfl),rfl⟩ ?_
 rintro g1 y1 ⟨k,f1_1,f1_2,rfl,rfl⟩
 refine Ad ?_
 refine Aa [] [0,3,9] ?_
 refine A6 (p:=(k:Int) < (l.length:Int)) (by kernel_rfl) (fun c1=>?_) (fun c1=>?_)
 ·refine Ai ?_
  refine Ad ?_
  refine A1 ?_
  refine Af [] [0,3,4] [] (hk 3 X3i (Q7e (As l k))<|hk0) v0 (cc 2 (p:=(0≤(k:Int)∧k < l.length)) (by omega)<|c0) ?_
  refine Af [] [0,3,4,5] [] (hk 3 Q15 (Xj (As l k))<|hk0) v0 (cc 2 (p:=(0≤(k:Int)∧k < l.length)) (by omega)<|c0) ?_
  obtain⟨b1,hb1⟩:∃b,b=(!(B7 (As l k))):=⟨_,rfl⟩
  obtain⟨b2,hb2⟩:∃b,b=(b1&&(!(Bi (As l k)))):=⟨_,rfl⟩
  refine Af (CS:=[(4,(b1=true→b1=true)),(5,(b1=true→b1=true)),(9,(b2=true→(b2=true∧b2=true)∧(0≤(k:Int)∧k < l.length))),(10,b2=true→b2=true),(11,(b2=true→b2=true)),(12,(b2=true→b2=true))]) [23,24,27,28,29,31] [0,3,32] [] (hkg 10 b2 Q2a (fun cg=>inV (As l k) midL (by decide))<|hk0) (vk 3 22 (a:=.bool (!(B7 (As l k)))) (b:=.bool b1) (Imp.of_eq (by rw[hb1]))<|vk 7 26 (a:=.bool (b1&&(!(Bi (As l k))))) (b:=.bool b2) (Imp.of_eq (by rw[hb2]))<|v0) (by refine cc _ ?_<|cc _ ?_<|cc _ ?_<|cc _ ?_<|cc _ ?_<|cc _ ?_ c0<;>(intros;simp_all;done)) ?_
  refine A8 (q:=b2&&(!(midL.contains (As l k)))) (by kernel_rfl) (fun c2=>?_) (fun c2=>?_)
  ·subst hb2 hb1
   try simp only[Ao] at c2
   refine Aa [] [2] ?_
   refine Ah ?_
   refine RK wR [(.bool false)] ?_
   exact Same.of_eq (by simp only[An];rw[Q4f (p:=F7) (k:=k) (by omega) (by show(Bi _||(B7 _||_))=false;simp_all)];rfl)
  ·subst hb2 hb1
   try simp only[Ao] at c2
   refine Ai ?_
   refine Ap ?_
   refine Av 0 [] [0,3] [] hk0 v0 (cc 1 (p:=(-9223372036854775808≤(k:Int)+1∧(k:Int)+1≤9223372036854775807)) (by omega)<|c0) ?_
   refine⟨by kernel_rfl,_,?_,k+1,?_,?_,(by kernel_rfl),rfl⟩
   ·omega
   ·omega
   ·refine Q4c (by omega) f1_2 ?_
    show(Bi _||(B7 _||_))=true;simp only[Bool.or_eq_true];by_cases a1:Bi (As l k)=true<;>by_cases a2:B7 (As l k)=true<;>simp_all
 ·refine Bt ?_
  obtain⟨b3,hb3⟩:∃b,b=(decide (1≤(l.length:Int))):=⟨_,rfl⟩
  refine Af (CS:=[(5,(b3=true→b3=true)),(6,(b3=true→b3=true)),(7,(b3=true→b3=true))]) [37,38,39] [2] [] hk0 (vk 4 36 (a:=.bool (decide (1≤(l.length:Int)))) (b:=.bool b3) (Imp.of_eq (by rw[hb3]))<|v0) (by refine cc _ ?_<|cc _ ?_<|cc _ ?_ c0<;>simp) ?_
  refine Ah ?_
  refine RK wR [(.bool (b3&&(decide ((l.length:Int)≤60))))] ?_
  subst hb3
  have hall:l.all F7=true:=by rw[List.take_of_length_le (by omega)] at f1_2;exact f1_2
  exact Same.of_eq (by simp only[An];rw[hall,show decide ((1:Int)≤(l.length:Int))=decide (1≤l.length) from decide_eq_decide.2 (by omega),show decide ((l.length:Int)≤60)=decide (l.length≤60) from decide_eq_decide.2 (by omega)];rfl)
theorem Q7v (l : List UInt8) (hl : l.length ≤ 4611686018427387904) :
  FnV Tryz.prog 192 [(.str l)] (.bool (F9 l)):=by
 refine A5 [.tmp 2] Tryz.func192 rfl Tryz.ntmps192 rfl rfl (fun B F hF=>?_)
 refine Aa [] [0] ?_
 refine Ad ?_
 refine Aa [] [0,3] ?_
 refine A1 ?_
 refine Bz (fun g y=>∃(k:Nat),k≤l.length∧(l.take k).all Ic=true∧y=⟨[(0,(.str l)),(3,(.int .i64 ((k:Int))))],[],0⟩∧g=l.length-k) [0,3] 0 _ (by omega) ⟨0,(by omega),(by rfl),(by kernel_rfl),rfl⟩ ?_
 rintro g1 y1 ⟨k,f1_1,f1_2,rfl,rfl⟩
 refine Ad ?_
 refine Aa [] [0,3,8] ?_
 refine A6 (p:=(k:Int) < (l.length:Int)) (by kernel_rfl) (fun c1=>?_) (fun c1=>?_)
 ·refine Ai ?_
  refine Ad ?_
  refine A1 ?_
  refine Af [] [0,3,4] [] (hk 3 Q15 (Xj (As l k))<|hk0) v0 (cc 2 (p:=(0≤(k:Int)∧k < l.length)) (by omega)<|c0) ?_
  refine Aa [] [0,3,16] ?_
  refine A8 (q:=!(Bi (As l k))) (by kernel_rfl) (fun c2=>?_) (fun c2=>?_)
  ·try simp only[Ao] at c2
   refine Aa [] [2] ?_
   refine Ah ?_
   refine RK wR [(.bool false)] ?_
   exact Same.of_eq (by simp only[An];unfold F9;rw[Q4f (p:=Ic) (k:=k) (by omega) (by show Bi _=false;simp_all)];rfl)
  ·try simp only[Ao] at c2
   refine Ai ?_
   refine Ap ?_
   refine Av 0 [] [0,3] [] hk0 v0 (cc 1 (p:=(-9223372036854775808≤(k:Int)+1∧(k:Int)+1≤9223372036854775807)) (by omega)<|c0) ?_
   refine⟨by kernel_rfl,_,?_,k+1,?_,?_,(by kernel_rfl),rfl⟩
   ·omega
   ·omega
   ·refine Q4c (by omega) f1_2 ?_
    show Bi _=true;simp_all
 ·refine Bt ?_
  obtain⟨b1,hb1⟩:∃b,b=(decide (1≤(l.length:Int))):=⟨_,rfl⟩
  refine Af (CS:=[(5,(b1=true→b1=true)),(6,(b1=true→b1=true)),(7,(b1=true→b1=true))]) [21,22,23] [2] [] hk0 (vk 4 20 (a:=.bool (decide (1≤(l.length:Int)))) (b:=.bool b1) (Imp.of_eq (by rw[hb1]))<|v0) (by refine cc _ ?_<|cc _ ?_<|cc _ ?_ c0<;>simp) ?_
  refine Ah ?_
  refine RK wR [(.bool (b1&&(decide ((l.length:Int)≤9))))] ?_
  subst hb1
  have hall:l.all Ic=true:=by rw[List.take_of_length_le (by omega)] at f1_2;exact f1_2
  exact Same.of_eq (by simp only[An];unfold F9;rw[hall,show decide ((1:Int)≤(l.length:Int))=decide (1≤l.length) from decide_eq_decide.2 (by omega),show decide ((l.length:Int)≤9)=decide (l.length≤9) from decide_eq_decide.2 (by omega)];rfl)
theorem Xh (l : List UInt8) (hl : l.length ≤ 4611686018427387904) :
  FnV Tryz.prog 153 [(.str l)] (.tup [.agg [.str (Cv l).1,.str (Cv l).2.1,.str (Cv l).2.2],.int .i64 (Cg l)]):=by
 refine A5 [.cell 2 150,.tmp 3] Tryz.func153 rfl Tryz.ntmps153 rfl rfl (fun B F hF=>?_)
 refine Aa [] [0,2] ?_
 refine Af [] [0,2,4] [] (hk 1 X3p (Q7d l hl)<|hk0) v0 c0 ?_
 refine Ad ?_
 refine Aa [] [0,2,12] ?_
 refine A8 (q:=!(H4 l)) (by kernel_rfl) (fun c1=>?_) (fun c1=>?_)
 ·try simp only[Ao] at c1
  refine Aa [] [2,3] ?_
  refine Ah ?_
  refine RK wR [(.agg [(.str []),(.str []),(.str [])]),(.int .i64 30)] ?_
  refine Same.of_eq ?_
  simp only[An]
  have h0:Cg l=30:=Q1n (by simpa using c1)
  have h1:Cv l=([],[],[]):=I2 h0.symm
  rw[h0,h1]
 ·try simp only[Ao] at c1
  have hh:H4 l=true:=by simpa using c1
  refine Ai ?_
  refine Aa [] [0,2,5] ?_
  refine D0 (fun y=>∃(r:List UInt8) (ep:List UInt8),r=(if 0≤Lib.indexByte l 58 then l.drop ((Lib.indexByte l 58).toNat+1) else l)∧ep=(if 0≤Lib.indexByte l 58 then l.take (Lib.indexByte l 58).toNat else [])∧(0≤Lib.indexByte l 58→F9 (l.take (Lib.indexByte l 58).toNat)=true)∧y=⟨[(0,(.str r)),(2,(.ptr 0 0)),(5,(.ptr 1 0))],[(0,(.row [(.str []),(.str []),(.str [])] 150)),(1,(.row [(.str ep),(.str []),(.str [])] 150))],2⟩) [0,2,5] 2 (by omega) ?_ ?_
  ·refine Aa [] [0,2,5,6] ?_
   refine A1 ?_
   refine Bz (fun g y=>∃(i:Nat),i≤l.length∧Ii l 58 i∧y=⟨[(0,(.str l)),(2,(.ptr 0 0)),(5,(.ptr 1 0)),(6,(.int .i64 ((i:Int))))],[(0,(.row [(.str []),(.str []),(.str [])] 150)),(1,(.row [(.str []),(.str []),(.str [])] 150))],2⟩∧g=l.length-i) [0,2,5,6] 2 _ (by omega) ⟨0,(by omega),(by exact X1n l 58),(by kernel_rfl),rfl⟩ ?_
   rintro g1 y1 ⟨i,f1_1,f1_2,rfl,rfl⟩
   refine Ad ?_
   refine Aa [] [0,2,5,6,17] ?_
   refine A6 (p:=(i:Int) < (l.length:Int)) (by kernel_rfl) (fun c2=>?_) (fun c2=>?_)
   ·refine Ai ?_
    refine Ad ?_
    refine A1 ?_
    refine Ad ?_
    refine Af [] [0,2,5,6,23] [] hk0 v0 (cc 2 (p:=(0≤(i:Int)∧i < l.length)) (by omega)<|c0) ?_
    refine Dt (p:=((As l i).toNat:Int)=58) (by kernel_rfl) (fun c3=>?_) (fun c3=>?_)
    ·refine Bt ?_
     refine Ap ?_
     refine Av 0 [] [0,2,5,6] [] hk0 v0 (cc 1 (p:=(-9223372036854775808≤(i:Int)+1∧(i:Int)+1≤9223372036854775807)) (by omega)<|c0) ?_
     refine⟨by kernel_rfl,_,?_,i+1,?_,?_,(by kernel_rfl),rfl⟩
     ·omega
     ·omega
     ·exact X1m f1_2 (by omega) (fun e=>by rw[e] at c3;simp at c3)
    ·refine Ai ?_
     refine Af [] [0,2,5,6,7] [] (hk 3 X3o (Q7v ((l.take i).drop 0) (by simp;omega))<|hk0) v0 (cc 2 (p:=(0≤(0:Int)∧(0:Int)≤(i:Int)∧(i:Int)≤(l.length:Int))) (by omega)<|c0) ?_
     refine Ad ?_
     refine Aa [] [0,2,5,6,29] ?_
     refine A8 (q:=!(F9 ((l.take i).drop 0))) (by kernel_rfl) (fun c4=>?_) (fun c4=>?_)
     ·try simp only[Ao] at c4
      refine Aa [] [2,3] ?_
      refine Ah ?_
      refine RK wR [(.agg [(.str []),(.str []),(.str [])]),(.int .i64 30)] ?_
      refine Same.of_eq ?_
      simp only[An]
      have h0:Cg l=30:=X2t (Q0r f1_2 (by omega) (UInt8.toNat_inj.1 (by show _=58;omega))) (by simpa using c4)
      have h1:Cv l=([],[],[]):=I2 h0.symm
      rw[h0,h1]
     ·try simp only[Ao] at c4
      refine Ai ?_
      refine Af [] [0,2,5,6] [] hk0 v0 (cc 2 (p:=(0≤(0:Int)∧(0:Int)≤(i:Int)∧(i:Int)≤(l.length:Int))) (by omega)<|c0) ?_
      refine Af (CS:=[(2,(-9223372036854775808≤(i:Int)+1∧(i:Int)+1≤9223372036854775807)),(3,(0≤(i:Int)+1∧(i:Int)+1≤(l.length:Int)∧(l.length:Int)≤(l.length:Int)))]) [] [0,2,5] [] hk0 v0 (by refine cc _ ?_<|cc _ ?_ c0<;>omega) ?_
      refine Bt ?_
      refine⟨by kernel_rfl,((l.take l.length).drop (i+1)),((l.take i).drop 0),?_,?_,?_,(by kernel_rfl)⟩
      all_goals have hz:Lib.indexByte l 58=(i:Int):=Q0r f1_2 (by omega) (UInt8.toNat_inj.1 (by show _=58;omega))
      all_goals rw[hz]
      ·rw[if_pos (by omega),List.take_length,Int.toNat_natCast];try (congr 1;omega)
      ·rw[if_pos (by omega),Int.toNat_natCast];simp
      ·intro _;rw[Int.toNat_natCast];simpa using c4
   ·refine Bt ?_
    refine⟨by kernel_rfl,l,[],?_,?_,?_,(by kernel_rfl)⟩
    all_goals have hz:Lib.indexByte l 58 = -1:=X1o f1_2 (by omega)
    all_goals rw[hz]
    ·rw[if_neg (by omega)]
    ·rw[if_neg (by omega)]
    ·intro h;exact absurd h (by omega)
  ·rintro y1 ⟨r,ep,hr,hep,hdg,rfl⟩
   have hrl:r.length≤l.length:=by rw[hr];split<;>simp
   refine Aa [] [0,2,5] ?_
   refine D0 (fun y=>∃(v:List UInt8) (rl:List UInt8),v=(if 0≤B2 r 45 r.length then r.take (B2 r 45 r.length).toNat else r)∧rl=(if 0≤B2 r 45 r.length then r.drop ((B2 r 45 r.length).toNat+1) else [])∧(0≤B2 r 45 r.length→¬rl=[])∧y=⟨[(0,(.str r)),(2,(.ptr 0 0)),(5,(.ptr 1 0))],[(0,(.row [(.str []),(.str []),(.str [])] 150)),(1,(.row [(.str ep),(.str v),(.str rl)] 150))],2⟩) [0,2,5] 2 (by omega) ?_ ?_
   ·refine Af [] [0,2,5,8] [] hk0 v0 (cc 2 (p:=(-9223372036854775808≤(r.length:Int)-1∧(r.length:Int)-1≤9223372036854775807)) (by omega)<|c0) ?_
    refine A1 ?_
    refine Bz (fun g y=>∃(k:Nat),k≤r.length∧B2 r 45 r.length=B2 r 45 k∧y=⟨[(0,(.str r)),(2,(.ptr 0 0)),(5,(.ptr 1 0)),(8,(.int .i64 ((k:Int)-1)))],[(0,(.row [(.str []),(.str []),(.str [])] 150)),(1,(.row [(.str ep),(.str r),(.str [])] 150))],2⟩∧g=k+1) [0,2,5,8] 2 _ (by omega) ⟨r.length,(by omega),(by rfl),(by kernel_rfl),rfl⟩ ?_
    rintro g2 y2 ⟨k,f2_1,f2_2,rfl,rfl⟩
    refine Ad ?_
    refine Aa [] [0,2,5,8,45] ?_
    refine A6 (p:=0≤((k:Int)-1)) (by kernel_rfl) (fun c5=>?_) (fun c5=>?_)
    ·refine Ai ?_
     refine Ad ?_
     refine A1 ?_
     refine Af [] [0,2,5,8,51] [] hk0 v0 (cc 2 (p:=(0≤(k:Int)-1∧((k:Int)-1).toNat < r.length)) (by omega)<|c0) ?_
     refine A6 (p:=((As r (((k:Int)-1).toNat)).toNat:Int)=45) (by kernel_rfl) (fun c6=>?_) (fun c6=>?_)
     ·have hk1:((k:Int)-1).toNat=k-1:=by omega
      rw[hk1] at c6
      refine Af [] [0,2,5,8] [] hk0 v0 (cc 2 (p:=(0≤(0:Int)∧(0:Int)≤(k:Int)-1∧(k:Int)-1≤(r.length:Int))) (by omega)<|c0) ?_
      refine Af (CS:=[(2,(-9223372036854775808≤((k:Int)-1)+1∧((k:Int)-1)+1≤9223372036854775807)),(3,(0≤((k:Int)-1)+1∧((k:Int)-1)+1≤(r.length:Int)∧(r.length:Int)≤(r.length:Int)))]) [] [0,2,5] [] hk0 v0 (by refine cc _ ?_<|cc _ ?_ c0<;>omega) ?_
      refine Ad ?_
      refine Aa [] [0,2,5,63] ?_
      refine A6 (p:=(r.take r.length).drop ((((k:Int)-1)+1).toNat)=[]) (by kernel_rfl) (fun c7=>?_) (fun c7=>?_)
      ·refine Aa [] [2,3] ?_
       refine Ah ?_
       refine RK wR [(.agg [(.str []),(.str []),(.str [])]),(.int .i64 30)] ?_
       refine Same.of_eq ?_
       simp only[An]
       have h0:Cg l=30:=by
        have hy:B2 r 45 r.length=((k-1:Nat):Int):=by rw[f2_2,Nx (by omega),if_pos (UInt8.toNat_inj.1 (by show _=45;omega))]
        exact Q1k hh hr hdg (by omega) (by rw[hy,Int.toNat_natCast,←c7];simp;congr 1;omega)
       have h1:Cv l=([],[],[]):=I2 h0.symm
       rw[h0,h1]
      ·refine Ai ?_
       refine Bt ?_
       refine⟨by kernel_rfl,((r.take (((k:Int)-1).toNat)).drop 0),((r.take r.length).drop ((((k:Int)-1)+1).toNat)),?_,?_,?_,(by kernel_rfl)⟩
       all_goals have hy:B2 r 45 r.length=((k-1:Nat):Int):=by rw[f2_2,Nx (by omega),if_pos (UInt8.toNat_inj.1 (by show _=45;omega))]
       all_goals rw[hy]
       ·rw[if_pos (by omega),Int.toNat_natCast];simp;try (congr 1;omega)
       ·rw[if_pos (by omega),Int.toNat_natCast];simp;try (congr 1;omega)
       ·exact fun _=>c7
     ·have hk1:((k:Int)-1).toNat=k-1:=by omega
      rw[hk1] at c6
      refine Ai ?_
      refine Ap ?_
      refine Av 0 [] [0,2,5,8] [] hk0 v0 (cc 1 (p:=(-9223372036854775808≤((k:Int)-1)-1∧((k:Int)-1)-1≤9223372036854775807)) (by omega)<|c0) ?_
      refine⟨by kernel_rfl,_,?_,(k-1),?_,?_,(Eq.trans (b:=(⟨[(0,(.str r)),(2,(.ptr 0 0)),(5,(.ptr 1 0)),(8,(.int .i64 (((k:Int)-1)-1)))],[(0,(.row [(.str []),(.str []),(.str [])] 150)),(1,(.row [(.str ep),(.str r),(.str [])] 150))],2⟩:St)) (by kernel_rfl) (by rw[show(k:Int)-1-1=((k-1:Nat):Int)-1 from by omega])),rfl⟩
      ·omega
      ·omega
      ·rw[f2_2,Nx (by omega),if_neg (fun e=>c6 (by rw[e];rfl))]
    ·refine Bt ?_
     refine⟨by kernel_rfl,r,[],?_,?_,?_,(by kernel_rfl)⟩
     all_goals have hy:B2 r 45 r.length = -1:=by rw[f2_2,show k=0 by omega];rfl
     all_goals rw[hy]
     ·rw[if_neg (by omega)]
     ·rw[if_neg (by omega)]
     ·intro h;exact absurd h (by omega)
   ·rintro y2 ⟨v,rl,hv,hrr,hnn,rfl⟩
    refine Ad ?_
    obtain⟨b1,hb1⟩:∃b,b=(decide (v=[])):=⟨_,rfl⟩
    refine Af (CS:=[(5,(!b1)=true→(!b1)=true),(6,(b1=false→(!b1)=true))]) [69] [2,5,71] [] (hkg 5 (!b1) Q2a (fun cg=>inV 58 r (by omega))<|hk0) (vk 4 68 (a:=.bool (decide (v=[]))) (b:=.bool b1) (Imp.of_eq (by rw[hb1]))<|v0) (by refine cc _ ?_<|cc _ ?_ c0<;>simp) ?_
    refine A8 (q:=b1||(r.contains 58)) (by kernel_rfl) (fun c8=>?_) (fun c8=>?_)
    ·subst hb1
     try simp only[Ao] at c8
     refine Aa [] [2,3] ?_
     refine Ah ?_
     refine RK wR [(.agg [(.str []),(.str []),(.str [])]),(.int .i64 30)] ?_
     refine Same.of_eq ?_
     simp only[An]
     have h0:Cg l=30:=by rw[(Qj hh hr hep hdg hv hrr hnn).1,if_pos (by simpa using c8)]
     have h1:Cv l=([],[],[]):=I2 h0.symm
     rw[h0,h1]
    ·subst hb1
     try simp only[Ao] at c8
     refine Ai ?_
     refine Aa [] [2,3] ?_
     refine Ah ?_
     refine RK wR [(.agg [(.str ep),(.str v),(.str rl)]),(.int .i64 0)] ?_
     have hf:=Qj hh hr hep hdg hv hrr hnn
     have h0:Cg l=0:=by rw[hf.1,if_neg (by simpa using c8)]
     exact Same.of_eq (by simp only[An];rw[Q1l h0.symm,hf.2,h0])
end Sv
end
section
open Go Go.RowKit
structure PkgT where
  name:List UInt8
  evr:List UInt8
  arch:List UInt8
  vendor:List UInt8
  provides:List DepT
  requires:List DepT
  pre:List DepT
  conflicts:List DepT
  obsoletes:List DepT
  recommends:List DepT
  supplements:List DepT
  files:List (List UInt8)
  deriving Inhabited
structure RepoT where
  name:List UInt8
  prio:Int
  inst:Bool
  pkgs:List PkgT
  deriving Inhabited
def PkgT.depSize (p:PkgT):Nat:=argsSize p.provides+argsSize p.requires+argsSize p.pre+argsSize p.conflicts+argsSize p.obsoletes+argsSize p.recommends+argsSize p.supplements
def G7:List (List UInt8)→Nat
  |[]=>0
  |x::r=>1+x.length+G7 r
theorem K1:∀l:List (List UInt8),l.length≤G7 l
  |[]=>Nat.zero_le _
  |x::r=>by have:=K1 r;simp only[G7,List.length_cons];omega
theorem T7:∀{l:List (List UInt8)} {i:Nat},i < l.length→(nth l i).length≤G7 l
  |[],_,h=>by simp at h
  |x::r,0,_=>by simp only[G7];show x.length≤_;omega
  |x::r,i+1,h=>by
    have:=T7 (l:=r) (i:=i) (by simpa using h)
    simp only[G7];show(nth r i).length≤_;omega
def PkgT.size (p:PkgT):Nat:=1+p.name.length+p.evr.length+p.arch.length+p.vendor.length+p.depSize+G7 p.files
theorem PkgT.sizes (p:PkgT):p.name.length≤p.size∧p.evr.length≤p.size∧p.arch.length≤p.size∧p.vendor.length≤p.size∧p.depSize≤p.size∧G7 p.files≤p.size:=by
  unfold PkgT.size;omega
namespace Sv
noncomputable def Ar (p:PkgT):AV:=.agg [.str p.name,.str p.evr,.str p.arch,.str p.vendor,Dy p.provides,Dy p.requires,Dy p.pre,Dy p.conflicts,Dy p.obsoletes,Dy p.recommends,Dy p.supplements,C4 p.files]
noncomputable def Bf (r:RepoT):AV:=.agg [.str r.name,.int .i64 r.prio,.bool r.inst,Ac 12 Ar r.pkgs]
theorem Q6u {α β:Type} [Inhabited α] (f:α→β) (l:List α) (i:Nat):(l.map f).set i (f (nth l i))=l.map f:=by
  refine List.ext_getElem? fun j=>?_
  rw[List.getElem?_set]
  by_cases h:i=j
  · subst h
    by_cases hi:i < l.length
    · simp[hi,nth]
    · rw[if_pos rfl,if_neg (by simpa using hi),List.getElem?_eq_none (by simpa using hi)]
  · rw[if_neg h]
theorem Mb {α β:Type} [Inhabited α] (f:α→β) {l:List α} {i:Nat} (h:i < l.length):(l.map f)[i]? = some (f (nth l i)):=by simp[nth,h]
theorem E1 (d:DepT):argsSize d.args+1+d.name.length+d.evr.length=d.size:=by cases d;simp only[DepT.size,DepT.args,DepT.name,DepT.evr]
theorem D2:∀l:List DepT,l.length≤argsSize l
  |[]=>Nat.zero_le _
  |d::r=>by
    have:=D2 r
    have:1≤d.size:=by cases d;simp only[DepT.size];omega
    simp only[argsSize,List.length_cons];omega
theorem Q30 {l:List DepT} {i:Nat} (h:i < l.length):argsSize (nth l i).args < argsSize l:=by
  have h1:=K7 (l:=l) (i:=i) h
  have h2:=E1 (nth l i)
  omega
theorem Lr {α β:Type} [Inhabited α] {l:List α} (f:α→β):(List.range l.length).map (fun k=>f (nth l k))=l.map f:=by
  refine List.ext_getElem (by simp) fun j h1 h2=>?_
  simp only[List.length_map,List.length_range] at h1
  simp[nth,h1]
theorem Q8n {α:Type} [Inhabited α] (f:α→AV) (l:List α):([]:List AV)++(List.range l.length).map (fun k=>f (nth l k))=l.map f:=by rw[List.nil_append,Lr]
end Sv
end
section
open Go Go.RowKit
namespace Sv
attribute [local irreducible] SW SO Bn
set_option maxHeartbeats 1000000
set_option maxRecDepth 100000
def B3 {α:Type} (p:α→Bool):List α→Int
 |[] => -1
 |x::r=>if p x then 0 else if B3 p r < 0 then -1 else B3 p r+1
theorem L8 {α:Type} (p:α→Bool):∀l:List α,-1≤B3 p l∧B3 p l < l.length
 |[]=>by simp[B3]
 |x::r=>by
  have:=L8 p r
  unfold B3
  simp only[List.length_cons]
  split
  ·omega
  ·split<;>omega
theorem Kw {α:Type} [Inhabited α] {p:α→Bool}:∀{l:List α} {i:Nat},i < l.length→(∀j,j < i→p (nth l j)=false)→p (nth l i)=true→B3 p l=(i:Int)
 |[],_,h,_,_=>by simp at h
 |x::r,0,_,_,h=>by
  have:p x=true:=h
  simp[B3,this]
 |x::r,i+1,hi,h,hp=>by
  have h0:p x=false:=h 0 (by omega)
  have:=Kw (l:=r) (i:=i) (by simpa using hi) (fun j hj=>h (j+1) (by omega)) hp
  unfold B3
  rw[if_neg (by simp[h0]),this,if_neg (by omega)];omega
theorem Kv {α:Type} [Inhabited α] {p:α→Bool}:∀{l:List α},(∀j,j < l.length→p (nth l j)=false)→B3 p l = -1
 |[],_=>rfl
 |x::r,h=>by
  have h0:p x=false:=h 0 (by simp)
  have:=Kv (l:=r) (fun j hj=>h (j+1) (by simpa using hj))
  unfold B3
  rw[if_neg (by simp[h0]),this];rfl
theorem Kx {α:Type} (p:α→Bool):∀l:List α,decide (0≤B3 p l)=l.any p
 |[]=>rfl
 |x::r=>by
  have:=Kx p r
  unfold B3
  rw[List.any_cons,←this]
  split
  ·rename_i h;simp[h]
  ·rename_i h
   have h':p x=false:=by simpa using h
   rw[h',Bool.false_or]
   split
   ·rename_i h2;rw[decide_eq_false (by omega),decide_eq_false (by omega)]
   ·rename_i h2;rw[decide_eq_true (by omega),decide_eq_true (by omega)]
theorem Qe {d:DepT} (h:d.kind=1):Dg d=H9 d.name d.op d.evr d.args.length:=by cases d;unfold Dg;exact if_pos h
theorem Kz {d:DepT} (h:¬d.kind=1):Dg d=(!G6 d.kind d.name d.op d.evr d.args.length&&argsForm d.kind d.args):=by cases d;unfold Dg;exact if_neg h
theorem Q8k {d:DepT} (h:d.kind=1):Ek d=1:=by cases d;unfold Ek;exact if_pos h
theorem Q8l {d:DepT} (h:¬d.kind=1):Ek d=argsParts d.args:=by cases d;unfold Ek;exact if_neg h
theorem Q91 (d:DepT):Ev d=(if d.kind=1 then 1 else 0)+argsNames d.args:=by cases d;unfold Ev;rfl
theorem Q97 (k:Int):(Bx [((4:Int),(3:Int)),(6,2)] k).getD 0=Ew k:=by
 have:=Q96 k
 have e:Ec (Ec ([]:List (Int × Int)) 4 3) 6 2=[(4,3),(6,2)]:=rfl
 rw[e] at this
 cases h:Bx [((4:Int),(3:Int)),(6,2)] k<;>simp_all
theorem Uy (l : List DepT) (a : AV) (p : DepT → Bool) (hl : l.length ≤ 4611686018427387904) (ha : ∀ i, i < l.length → FunV Tryz.prog a [(.agg [(.int .i64 ((nth l i).kind)), (.str ((nth l i).name)), (.int .i64 ((nth l i).op)), (.str ((nth l i).evr)), (.row 5 (nth l i).args.length (depAt (nth l i).args))])] (.bool (p (nth l i)))) :
  FnV Tryz.prog 133 [(Ac 5 Ak l),(.clo a)] (.int .i64 (B3 p l)):=by
 refine A5 [.tmp 4] Tryz.func133 rfl Tryz.ntmps133 rfl rfl (fun B F hF=>?_)
 refine Aa [] [0,1] ?_
 refine Ad ?_
 refine Aa [] [0,1,7,8] ?_
 refine A1 ?_
 refine Bz (fun g y=>∃(i:Nat),i≤l.length∧(∀j,j < i→p (nth l j)=false)∧y=⟨[(0,(Ac 5 Ak l)),(1,(.clo a)),(7,(.int .i64 ((l.length:Int)))),(8,(.int .i64 ((i:Int))))],[],0⟩∧g=l.length-i) [0,1,7,8] 0 _ (by omega) ⟨0,(by omega),(by exact fun j hj=>by omega),(by kernel_rfl),rfl⟩ ?_
 rintro g1 y1 ⟨i,f1_1,f1_2,rfl,rfl⟩
 refine Aa [] [0,1,7,8,9] ?_
 refine Ad ?_
 refine A6 (p:=(i:Int) < (l.length:Int)) (by kernel_rfl) (fun c1=>?_) (fun c1=>?_)
 ·refine Ai ?_
  refine Ad ?_
  refine A1 ?_
  refine Aa [] [0,1,5,7,8] ?_
  refine Ad ?_
  refine Ap ?_
  refine Br 5 0 [] [0,1,5,7,8,11,15] [] hk0 v0 (cc 3 (p:=(0≤(i:Int)∧i < l.length)) (by omega)<|c0) ?_
  refine Fu (s':=[(0,(Ac 5 Ak l)),(1,(.clo a)),(5,(.int .i64 ((i:Int)))),(7,(.int .i64 ((l.length:Int)))),(8,(.int .i64 ((i:Int)))),(11,(.clo a)),(15,(.agg [(.int .i64 ((nth l i).kind)),(.str ((nth l i).name)),(.int .i64 ((nth l i).op)),(.str ((nth l i).evr)),(.row 5 (nth l i).args.length (depAt (nth l i).args))])),(16,(.bool (p (nth l i))))]) (a:=(.clo a)) (al:=[(.agg [(.int .i64 ((nth l i).kind)),(.str ((nth l i).name)),(.int .i64 ((nth l i).op)),(.str ((nth l i).evr)),(.row 5 (nth l i).args.length (depAt (nth l i).args))])]) (r:=(.bool (p (nth l i)))) (by kernel_rfl) (by kernel_rfl) (by kernel_rfl) (by kernel_rfl) (by kernel_rfl) ((ha i (by omega)).clo) (by kernel_rfl) ?_
  refine B5 ?_
  refine A8 (q:=p (nth l i)) (by kernel_rfl) (fun c2=>?_) (fun c2=>?_)
  ·try simp only[Ao] at c2
   refine Aa [] [4] ?_
   refine Ah ?_
   refine RK wR [(.int .i64 ((i:Int)))] ?_
   exact Same.of_eq (by rw[Kw (by omega) f1_2 (by simp_all)];rfl)
  ·try simp only[Ao] at c2
   refine Ai ?_
   refine Ap ?_
   refine Av 0 [] [0,1,7,8] [] hk0 v0 (cc 0 (p:=(-9223372036854775808≤(i:Int)+1∧(i:Int)+1≤9223372036854775807)) (by omega)<|c0) ?_
   refine⟨by kernel_rfl,_,?_,i+1,?_,?_,(by kernel_rfl),rfl⟩
   ·omega
   ·omega
   ·intro j hj
    by_cases h:j=i
    ·subst h;simp_all
    ·exact f1_2 j (by omega)
 ·refine Bt ?_
  refine Aa [] [4] ?_
  refine Ah ?_
  refine RK wR [(.int .i64 (-1))] ?_
  exact Same.of_eq (by rw[Kv (fun j hj=>f1_2 j (by omega))];rfl)
theorem Qx (l : List DepT) (a : AV) (p : DepT → Bool) (hl : l.length ≤ 4611686018427387904) (ha : ∀ i, i < l.length → FunV Tryz.prog a [(.agg [(.int .i64 ((nth l i).kind)), (.str ((nth l i).name)), (.int .i64 ((nth l i).op)), (.str ((nth l i).evr)), (.row 5 (nth l i).args.length (depAt (nth l i).args))])] (.bool (p (nth l i)))) :
  FnV Tryz.prog 88 [(Ac 5 Ak l),(.clo a)] (.bool (l.any p)):=by
 refine A5 [.tmp 4] Tryz.func88 rfl Tryz.ntmps88 rfl rfl (fun B F hF=>?_)
 refine Aa [] [0,1] ?_
 refine Af [] [4] [] (hk 2 Ur (Uy l a p hl ha)<|hk0) v0 c0 ?_
 refine Ah ?_
 refine RK wR [(.bool (decide (0≤(B3 p l))))] ?_
 exact Same.of_eq (by simp only[An];rw[Kx])
theorem X17 (a d : DepT) (ih : FnV Tryz.prog 148 [Ak a] (.bool (Dg a))) :
  FnV Tryz.prog 190 [(.agg [(.int .i64 a.kind),(.str a.name),(.int .i64 a.op),(.str a.evr),(.row 5 a.args.length (depAt a.args))]),(.fp (.agg [(.int .i64 d.kind),(.str d.name),(.int .i64 d.op),(.str d.evr),(.row 5 d.args.length (depAt d.args))]))] (.bool (Me d.kind a)):=by
 refine A5 [.tmp 3] Tryz.func190 rfl Tryz.ntmps190 rfl rfl (fun B F hF=>?_)
 refine Af [] [1,2] [(1,2)] hk0 v0 c0 ?_
 obtain⟨b1,hb1⟩:∃b,b=(decide (a.kind=1)):=⟨_,rfl⟩
 obtain⟨b2,hb2⟩:∃b,b=(b1||(decide (a.kind=5))):=⟨_,rfl⟩
 refine Af (CS:=[(5,((!b1)=true→(!b1)=true)),(6,((!b1)=true→(!b1)=true)),(7,(b1=false→(!b1)=true)),(10,((!b2)=true→(!b2)=true)),(11,((!b2)=true→(!b2)=true)),(12,(b2=false→(!b2)=true))]) [9,10,11,14,15,16] [1,2,4] [] hk0 (vk 4 8 (a:=.bool (decide (a.kind=1))) (b:=.bool b1) (Imp.of_eq (by rw[hb1]))<|vk 9 13 (a:=.bool (b1||(decide (a.kind=5)))) (b:=.bool b2) (Imp.of_eq (by rw[hb2]))<|v0) (by refine cc _ ?_<|cc _ ?_<|cc _ ?_<|cc _ ?_<|cc _ ?_<|cc _ ?_ c0<;>simp) ?_
 obtain⟨b3,hb3⟩:∃b,b=(decide (5≤d.kind)):=⟨_,rfl⟩
 obtain⟨b4,hb4⟩:∃b,b=(b3&&(!(b2||(decide (a.kind=6))))):=⟨_,rfl⟩
 refine Af (CS:=[(5,(b3=true→b3=true)),(6,(b3=true→b3=true)),(9,(!b4)=true→(!b4)=true),(10,((!b4)=true→(!b4)=true)),(11,(b4=false→(!b4)=true))]) [22,23,26,28] [3] [] (hkg 9 (!b4) Q2h (fun cg=>ih)<|hk0) (vk 4 21 (a:=.bool (decide (5≤d.kind))) (b:=.bool b3) (Imp.of_eq (by rw[hb3]))<|vk 8 25 (a:=.bool (b3&&(!(b2||(decide (a.kind=6)))))) (b:=.bool b4) (Imp.of_eq (by rw[hb4]))<|v0) (by refine cc _ ?_<|cc _ ?_<|cc _ ?_<|cc _ ?_<|cc _ ?_ c0<;>simp) ?_
 refine Ah ?_
 refine RK wR [(.bool (b4||(!(Dg a))))] ?_
 subst hb4 hb3 hb2 hb1
 refine Same.of_eq ?_
 simp only[An]
 congr 1
 unfold Me Iw
 rw[Bool.eq_iff_iff]
 simp only[Bool.and_eq_true,Bool.or_eq_true,Bool.not_eq_true',Bool.and_eq_false_iff,Bool.or_eq_false_iff,decide_eq_true_eq,decide_eq_false_iff_not]
 cases Dg a<;>simp<;>omega
theorem X2a (d : DepT) (hs : d.size ≤ 4194304) (ih : ∀ i, i < d.args.length → FnV Tryz.prog 148 [Ak (nth d.args i)] (.bool (Dg (nth d.args i)))) :
  FnV Tryz.prog 148 [(.agg [(.int .i64 d.kind),(.str d.name),(.int .i64 d.op),(.str d.evr),(.row 5 d.args.length (depAt d.args))])] (.bool (Dg d)):=by
 have hda:=E1 d
 have hal:=D2 d.args
 refine A5 [.tmp 2] Tryz.func148 rfl Tryz.ntmps148 rfl rfl (fun B F hF=>?_)
 refine Af [] [1] [(1,1)] hk0 v0 c0 ?_
 refine Ad ?_
 refine Aa [] [1,8] ?_
 refine A6 (p:=d.kind=1) (by kernel_rfl) (fun c1=>?_) (fun c1=>?_)
 ·refine Af [] [1,4] [(8,3)] (hk 2 N9 (Qk d.evr (by omega))<|hk0) v0 c0 ?_
  obtain⟨b1,hb1⟩:∃b,b=((Bq d.name)&&(decide ((d.args.length:Int)=0))):=⟨_,rfl⟩
  obtain⟨b2,hb2⟩:∃b,b=(b1&&(((decide (d.op=0))&&(decide (d.evr=[])))||(((decide (1≤d.op))&&(decide (d.op≤7)))&&(decide ((Cg d.evr)=0))))):=⟨_,rfl⟩
  have qh1:(((Bq d.name)=true→(Bq d.name)=true))∧(((Bq d.name)=true→(Bq d.name)=true))∧(((Bq d.name)=true→(Bq d.name)=true))∧(((Bq d.name)=true→(Bq d.name)=true))∧((b1=true→b1=true))∧((b1=true→b1=true))∧((b1=true→b1=true))∧(((b1&&(decide (d.op=0)))=true→(b1&&(decide (d.op=0)))=true))∧(((b1&&(decide (d.op=0)))=true→(b1&&(decide (d.op=0)))=true))∧((b1=true→(b1=true)∧((decide (d.op=0))=true→(b1&&(decide (d.op=0)))=true)))∧((b1=true→b1=true))∧(((b1&&(!((decide (d.op=0))&&(decide (d.evr=[])))))=true→(b1&&(!((decide (d.op=0))&&(decide (d.evr=[])))))=true))∧(((b1&&(!((decide (d.op=0))&&(decide (d.evr=[])))))=true→(b1&&(!((decide (d.op=0))&&(decide (d.evr=[])))))=true))∧(((b1&&(!((decide (d.op=0))&&(decide (d.evr=[])))))=true→(b1&&(!((decide (d.op=0))&&(decide (d.evr=[])))))=true))∧((((b1&&(!((decide (d.op=0))&&(decide (d.evr=[])))))&&(decide (1≤d.op)))=true→((b1&&(!((decide (d.op=0))&&(decide (d.evr=[])))))&&(decide (1≤d.op)))=true))∧((((b1&&(!((decide (d.op=0))&&(decide (d.evr=[])))))&&(decide (1≤d.op)))=true→((b1&&(!((decide (d.op=0))&&(decide (d.evr=[])))))&&(decide (1≤d.op)))=true))∧(((b1&&(!((decide (d.op=0))&&(decide (d.evr=[])))))=true→((b1&&(!((decide (d.op=0))&&(decide (d.evr=[])))))=true)∧((decide (1≤d.op))=true→((b1&&(!((decide (d.op=0))&&(decide (d.evr=[])))))&&(decide (1≤d.op)))=true)))∧(((b1&&(!((decide (d.op=0))&&(decide (d.evr=[])))))=true→(b1&&(!((decide (d.op=0))&&(decide (d.evr=[])))))=true))∧((((b1&&(!((decide (d.op=0))&&(decide (d.evr=[])))))&&((decide (1≤d.op))&&(decide (d.op≤7))))=true→((b1&&(!((decide (d.op=0))&&(decide (d.evr=[])))))&&((decide (1≤d.op))&&(decide (d.op≤7))))=true))∧(((b1&&(!((decide (d.op=0))&&(decide (d.evr=[])))))=true→((b1&&(!((decide (d.op=0))&&(decide (d.evr=[])))))=true)∧(((decide (1≤d.op))&&(decide (d.op≤7)))=true→((b1&&(!((decide (d.op=0))&&(decide (d.evr=[])))))&&((decide (1≤d.op))&&(decide (d.op≤7))))=true)))∧((b1=true→(b1=true)∧(((decide (d.op=0))&&(decide (d.evr=[])))=false→(b1&&(!((decide (d.op=0))&&(decide (d.evr=[])))))=true)))∧((b1=true→b1=true)):=by
   first|omega|(simp;omega)|(simp;done)|(intros;simp_all;omega)|(intros;simp_all;done)|(intros;simp_all;by_cases h:d.op=0<;>simp_all)
  refine Af [19,20,21,22,25,26,27,28,29,30,31,32,33,34,35,36,37,38,39,40,41,42,43,44,45,46] [2] [] (hk 2 N8 (Rl d.name (by omega))<|hk0) (vk 9 23 (a:=.bool ((Bq d.name)&&(decide ((d.args.length:Int)=0)))) (b:=.bool b1) (Imp.of_eq (by rw[hb1]))<|vk 33 47 (a:=.bool (b1&&(((decide (d.op=0))&&(decide (d.evr=[])))||(((decide (1≤d.op))&&(decide (d.op≤7)))&&(decide ((Cg d.evr)=0)))))) (b:=.bool b2) (Imp.of_eq (by rw[hb2]))<|v0) (cc 5 (p:=((Bq d.name)=true→(Bq d.name)=true)) qh1.1<|cc 6 (p:=((Bq d.name)=true→(Bq d.name)=true)) qh1.2.1<|cc 7 (p:=((Bq d.name)=true→(Bq d.name)=true)) qh1.2.2.1<|cc 8 (p:=((Bq d.name)=true→(Bq d.name)=true)) qh1.2.2.2.1<|cc 11 (p:=(b1=true→b1=true)) qh1.2.2.2.2.1<|cc 12 (p:=(b1=true→b1=true)) qh1.2.2.2.2.2.1<|cc 13 (p:=(b1=true→b1=true)) qh1.2.2.2.2.2.2.1<|cc 15 (p:=((b1&&(decide (d.op=0)))=true→(b1&&(decide (d.op=0)))=true)) qh1.2.2.2.2.2.2.2.1<|cc 16 (p:=((b1&&(decide (d.op=0)))=true→(b1&&(decide (d.op=0)))=true)) qh1.2.2.2.2.2.2.2.2.1<|cc 17 (p:=(b1=true→(b1=true)∧((decide (d.op=0))=true→(b1&&(decide (d.op=0)))=true))) qh1.2.2.2.2.2.2.2.2.2.1<|cc 18 (p:=(b1=true→b1=true)) qh1.2.2.2.2.2.2.2.2.2.2.1<|cc 20 (p:=((b1&&(!((decide (d.op=0))&&(decide (d.evr=[])))))=true→(b1&&(!((decide (d.op=0))&&(decide (d.evr=[])))))=true)) qh1.2.2.2.2.2.2.2.2.2.2.2.1<|cc 21 (p:=((b1&&(!((decide (d.op=0))&&(decide (d.evr=[])))))=true→(b1&&(!((decide (d.op=0))&&(decide (d.evr=[])))))=true)) qh1.2.2.2.2.2.2.2.2.2.2.2.2.1<|cc 22 (p:=((b1&&(!((decide (d.op=0))&&(decide (d.evr=[])))))=true→(b1&&(!((decide (d.op=0))&&(decide (d.evr=[])))))=true)) qh1.2.2.2.2.2.2.2.2.2.2.2.2.2.1<|cc 24 (p:=(((b1&&(!((decide (d.op=0))&&(decide (d.evr=[])))))&&(decide (1≤d.op)))=true→((b1&&(!((decide (d.op=0))&&(decide (d.evr=[])))))&&(decide (1≤d.op)))=true)) qh1.2.2.2.2.2.2.2.2.2.2.2.2.2.2.1<|cc 25 (p:=(((b1&&(!((decide (d.op=0))&&(decide (d.evr=[])))))&&(decide (1≤d.op)))=true→((b1&&(!((decide (d.op=0))&&(decide (d.evr=[])))))&&(decide (1≤d.op)))=true)) qh1.2.2.2.2.2.2.2.2.2.2.2.2.2.2.2.1<|cc 26 (p:=((b1&&(!((decide (d.op=0))&&(decide (d.evr=[])))))=true→((b1&&(!((decide (d.op=0))&&(decide (d.evr=[])))))=true)∧((decide (1≤d.op))=true→((b1&&(!((decide (d.op=0))&&(decide (d.evr=[])))))&&(decide (1≤d.op)))=true))) qh1.2.2.2.2.2.2.2.2.2.2.2.2.2.2.2.2.1<|cc 27 (p:=((b1&&(!((decide (d.op=0))&&(decide (d.evr=[])))))=true→(b1&&(!((decide (d.op=0))&&(decide (d.evr=[])))))=true)) qh1.2.2.2.2.2.2.2.2.2.2.2.2.2.2.2.2.2.1<|cc 29 (p:=(((b1&&(!((decide (d.op=0))&&(decide (d.evr=[])))))&&((decide (1≤d.op))&&(decide (d.op≤7))))=true→((b1&&(!((decide (d.op=0))&&(decide (d.evr=[])))))&&((decide (1≤d.op))&&(decide (d.op≤7))))=true)) qh1.2.2.2.2.2.2.2.2.2.2.2.2.2.2.2.2.2.2.1<|cc 30 (p:=((b1&&(!((decide (d.op=0))&&(decide (d.evr=[])))))=true→((b1&&(!((decide (d.op=0))&&(decide (d.evr=[])))))=true)∧(((decide (1≤d.op))&&(decide (d.op≤7)))=true→((b1&&(!((decide (d.op=0))&&(decide (d.evr=[])))))&&((decide (1≤d.op))&&(decide (d.op≤7))))=true))) qh1.2.2.2.2.2.2.2.2.2.2.2.2.2.2.2.2.2.2.2.1<|cc 31 (p:=(b1=true→(b1=true)∧(((decide (d.op=0))&&(decide (d.evr=[])))=false→(b1&&(!((decide (d.op=0))&&(decide (d.evr=[])))))=true))) qh1.2.2.2.2.2.2.2.2.2.2.2.2.2.2.2.2.2.2.2.2.1<|cc 32 (p:=(b1=true→b1=true)) qh1.2.2.2.2.2.2.2.2.2.2.2.2.2.2.2.2.2.2.2.2.2<|c0) ?_
  refine Ah ?_
  refine RK wR [(.bool b2)] ?_
  subst hb2 hb1
  refine Same.of_eq ?_
  simp only[An]
  rw[Qe c1,Q03]
  congr 1
  rw[Bool.eq_iff_iff]
  simp only[Bool.and_eq_true,Bool.or_eq_true,decide_eq_true_eq,and_assoc]
  rw[show((d.args.length:Int)=0)=(d.args.length=0) from propext (by omega)]
 ·refine Ai ?_
  refine Ad ?_
  refine Ap ?_
  refine Br 1 0 [] [1,48] [] hk0 v0 c0 ?_
  refine Q42 (b:=1) (k:=4) (a:=3) (c:=0) (es:=[]) (m:=[]) (by kernel_rfl) (by kernel_rfl) (by kernel_rfl) (by kernel_rfl) (by kernel_rfl) (by kernel_rfl) (by kernel_rfl) Tryz.underlying218 Tryz.underlying3 ?_
  refine Q42 (b:=1) (k:=6) (a:=2) (c:=1) (es:=[(.int .i64 4,.int .i64 3,0)]) (m:=[(4,3)]) (by kernel_rfl) (by kernel_rfl) (by kernel_rfl) (by kernel_rfl) (by kernel_rfl) (by kernel_rfl) (by kernel_rfl) Tryz.underlying218 Tryz.underlying3 ?_
  refine Br 3 3 [] [1,49,51] [] hk0 v0 c0 ?_
  refine X7h (b:=1) (c:=2) (es:=[(.int .i64 4,.int .i64 3,0),(.int .i64 6,.int .i64 2,1)]) (m:=[(4,3),(6,2)]) (s':=[(1,(.fp (.agg [(.int .i64 d.kind),(.str d.name),(.int .i64 d.op),(.str d.evr),(.row 5 d.args.length (depAt d.args))]))),(49,(.map 1)),(51,(.int .i64 d.kind)),(52,(.int .i64 (Ew d.kind)))]) (by kernel_rfl) (by kernel_rfl) (by kernel_rfl) (by kernel_rfl) (by kernel_rfl) Tryz.underlying218 Tryz.underlying3 (fun _=>by kernel_rfl) (Q97 d.kind) (by kernel_rfl) ?_
  refine Av 7 [] [1,5] [] hk0 v0 c0 ?_
  refine Ad ?_
  obtain⟨b3,hb3⟩:∃b,b=(decide (d.kind < 2)):=⟨_,rfl⟩
  obtain⟨b4,hb4⟩:∃b,b=(b3||(decide (6 < d.kind))):=⟨_,rfl⟩
  obtain⟨b5,hb5⟩:∃b,b=(b4||(!decide (d.name=[]))):=⟨_,rfl⟩
  obtain⟨b6,hb6⟩:∃b,b=(b5||(!decide (d.op=0))):=⟨_,rfl⟩
  obtain⟨b7,hb7⟩:∃b,b=(b6||(!decide (d.evr=[]))):=⟨_,rfl⟩
  obtain⟨b8,hb8⟩:∃b,b=(b7||(decide ((d.args.length:Int) < 2))):=⟨_,rfl⟩
  refine Af (CS:=[(5,((!b3)=true→(!b3)=true)),(6,((!b3)=true→(!b3)=true)),(7,(b3=false→(!b3)=true)),(10,((!b4)=true→(!b4)=true)),(11,((!b4)=true→(!b4)=true)),(12,(b4=false→(!b4)=true)),(15,((!b5)=true→(!b5)=true)),(16,((!b5)=true→(!b5)=true)),(17,(b5=false→(!b5)=true)),(20,((!b6)=true→(!b6)=true)),(21,((!b6)=true→(!b6)=true)),(22,(b6=false→(!b6)=true)),(25,((!b7)=true→(!b7)=true)),(26,((!b7)=true→(!b7)=true)),(27,((!b7)=true→(!b7)=true)),(28,(b7=false→(!b7)=true)),(31,((!b8)=true→(!b8)=true)),(32,((!b8)=true→(!b8)=true)),(34,(((!b8)&&(decide (0 < (Ew d.kind))))=true→((!b8)&&(decide (0 < (Ew d.kind))))=true)),(35,(((!b8)&&(decide (0 < (Ew d.kind))))=true→((!b8)&&(decide (0 < (Ew d.kind))))=true)),(37,(((!b8)&&(decide (0 < (Ew d.kind))))=true→((!b8)&&(decide (0 < (Ew d.kind))))=true∧((!b8)&&(decide (0 < (Ew d.kind))))=true)),(38,((!b8)=true→((!b8)=true)∧((decide (0 < (Ew d.kind)))=true→((!b8)&&(decide (0 < (Ew d.kind))))=true))),(39,(b8=false→(!b8)=true))]) [57,58,59,62,63,64,67,68,69,72,73,74,77,78,79,80,83,84,85,86,87,88,89,90,91] [1,92] [] hk0 (vk 4 56 (a:=.bool (decide (d.kind < 2))) (b:=.bool b3) (Imp.of_eq (by rw[hb3]))<|vk 9 61 (a:=.bool (b3||(decide (6 < d.kind)))) (b:=.bool b4) (Imp.of_eq (by rw[hb4]))<|vk 14 66 (a:=.bool (b4||(!decide (d.name=[])))) (b:=.bool b5) (Imp.of_eq (by rw[hb5]))<|vk 19 71 (a:=.bool (b5||(!decide (d.op=0)))) (b:=.bool b6) (Imp.of_eq (by rw[hb6]))<|vk 24 76 (a:=.bool (b6||(!decide (d.evr=[])))) (b:=.bool b7) (Imp.of_eq (by rw[hb7]))<|vk 30 82 (a:=.bool (b7||(decide ((d.args.length:Int) < 2)))) (b:=.bool b8) (Imp.of_eq (by rw[hb8]))<|v0) (by refine cc _ ?_<|cc _ ?_<|cc _ ?_<|cc _ ?_<|cc _ ?_<|cc _ ?_<|cc _ ?_<|cc _ ?_<|cc _ ?_<|cc _ ?_<|cc _ ?_<|cc _ ?_<|cc _ ?_<|cc _ ?_<|cc _ ?_<|cc _ ?_<|cc _ ?_<|cc _ ?_<|cc _ ?_<|cc _ ?_<|cc _ ?_<|cc _ ?_<|cc _ ?_ c0<;>(intros;simp_all;done)) ?_
  refine A8 (q:=b8||((decide (0 < (Ew d.kind)))&&(decide ((Ew d.kind) < (d.args.length:Int))))) (by kernel_rfl) (fun c2=>?_) (fun c2=>?_)
  ·subst hb8 hb7 hb6 hb5 hb4 hb3
   try simp only[Ao] at c2
   refine Aa [] [2] ?_
   refine Ah ?_
   refine RK wR [(.bool false)] ?_
   refine Same.of_eq ?_
   simp only[An]
   rw[Kz c1,Q04,decide_eq_true (by rcases c2 with (((((h|h)|h)|h)|h)|h)|h<;>first|(simp[h];done)|(have h':d.args.length < 2:=(by omega);simp[h']))]
   rfl
  ·subst hb8 hb7 hb6 hb5 hb4 hb3
   try simp only[Ao] at c2
   refine Ai ?_
   refine Af [] [2] [] (hk 3 (al:=[(Ac 5 Ak d.args),(.fn 190 [] [(.fp (.agg [(.int .i64 d.kind),(.str d.name),(.int .i64 d.op),(.str d.evr),(.row 5 d.args.length (depAt d.args))]))])]) Qm ((Qx d.args (.fn 190 [] [.fp (Ak d)]) (Me d.kind) (by omega) (fun i hi=>FunV.of (by exact X3q) (X17 (nth d.args i) d (ih i hi)))).of_args (ImpL.cons Imp.refl (ImpL.cons (Imp.clo (by kernel_rfl)) ImpL.nil)))<|hk0) (vk 3 94 (Ho d.args)<|v0) c0 ?_
   refine Ah ?_
   refine RK wR [(.bool (!(d.args.any (Me d.kind))))] ?_
   refine Same.of_eq ?_
   simp only[An]
   rw[Kz c1,Q04,decide_eq_false (by rcases c2 with⟨⟨⟨⟨⟨⟨h1,h2⟩,h3⟩,h4⟩,h5⟩,h6⟩,h7⟩;simp[h3,h4,h5];omega),Q31]
   simp
theorem X19 (d:DepT):d.size≤4194304→FnV Tryz.prog 148 [Ak d] (.bool (Dg d)) :=
 Qw (C:=fun d=>d.size≤4194304→FnV Tryz.prog 148 [Ak d] (.bool (Dg d))) (fun d ih hs=>X2a d hs fun i hi=>ih i hi (by have:=Gy hi;omega)) d
theorem Q7o (d : DepT) (hs : d.size ≤ 4194304) (ih : ∀ i, i < d.args.length → FnV Tryz.prog 115 [Ak (nth d.args i)] (.bool (Dg (nth d.args i)))) :
  FnV Tryz.prog 115 [(.agg [(.int .i64 d.kind),(.str d.name),(.int .i64 d.op),(.str d.evr),(.row 5 d.args.length (depAt d.args))])] (.bool (Dg d)):=by
 have hda:=E1 d
 have hal:=D2 d.args
 refine A5 [.tmp 2] Tryz.func115 rfl Tryz.ntmps115 rfl rfl (fun B F hF=>?_)
 refine Af [] [1] [(1,1)] hk0 v0 c0 ?_
 refine Ad ?_
 refine Aa [] [1,12] ?_
 refine A6 (p:=d.kind=1) (by kernel_rfl) (fun c1=>?_) (fun c1=>?_)
 ·refine Af [] [1,3] [] (hk 2 N6 (Pf d.name (by omega))<|hk0) v0 c0 ?_
  refine Ad ?_
  obtain⟨b1,hb1⟩:∃b,b=(!(Bq d.name)):=⟨_,rfl⟩
  obtain⟨b2,hb2⟩:∃b,b=(b1||(decide (d.op < 0))):=⟨_,rfl⟩
  obtain⟨b3,hb3⟩:∃b,b=(b2||(decide (7 < d.op))):=⟨_,rfl⟩
  refine Af (CS:=[(4,((!b1)=true→(!b1)=true)),(5,((!b1)=true→(!b1)=true)),(6,(b1=false→(!b1)=true)),(9,((!b2)=true→(!b2)=true)),(10,((!b2)=true→(!b2)=true)),(11,(b2=false→(!b2)=true)),(14,((!b3)=true→(!b3)=true)),(15,((!b3)=true→(!b3)=true)),(16,((!b3)=true→(!b3)=true)),(17,(b3=false→(!b3)=true))]) [19,20,21,24,25,26,29,30,31,32] [1,33] [] hk0 (vk 3 18 (a:=.bool (!(Bq d.name))) (b:=.bool b1) (Imp.of_eq (by rw[hb1]))<|vk 8 23 (a:=.bool (b1||(decide (d.op < 0)))) (b:=.bool b2) (Imp.of_eq (by rw[hb2]))<|vk 13 28 (a:=.bool (b2||(decide (7 < d.op)))) (b:=.bool b3) (Imp.of_eq (by rw[hb3]))<|v0) (by refine cc _ ?_<|cc _ ?_<|cc _ ?_<|cc _ ?_<|cc _ ?_<|cc _ ?_<|cc _ ?_<|cc _ ?_<|cc _ ?_<|cc _ ?_ c0<;>simp) ?_
  refine A8 (q:=b3||(decide (0 < (d.args.length:Int)))) (by kernel_rfl) (fun c2=>?_) (fun c2=>?_)
  ·subst hb3 hb2 hb1
   try simp only[Ao] at c2
   refine Aa [] [2] ?_
   refine Ah ?_
   refine RK wR [(.bool false)] ?_
   refine Same.of_eq ?_
   simp only[An]
   rw[Qe c1,Q1a (by rcases c2 with ((h|h)|h)|h<;>first|omega|simp_all)]
  ·subst hb3 hb2 hb1
   try simp only[Ao] at c2
   refine Ai ?_
   refine Ad ?_
   refine Aa [] [1,36] ?_
   refine A6 (p:=d.op=0) (by kernel_rfl) (fun c3=>?_) (fun c3=>?_)
   ·refine Aa [] [2] ?_
    refine Ah ?_
    refine RK wR [(.bool (decide (d.evr=[])))] ?_
    refine Same.of_eq ?_
    simp only[An]
    rw[Qe c1,X2b ⟨c2.1.1.1,by omega,by omega,by omega⟩ c3]
   ·refine Ai ?_
    refine Af [] [5] [(8,4)] (hk 2 Up (Xh d.evr (by omega))<|hk0) v0 c0 ?_
    refine Aa [] [2] ?_
    refine Ah ?_
    refine RK wR [(.bool (decide ((Cg d.evr)=0)))] ?_
    refine Same.of_eq ?_
    simp only[An]
    rw[Qe c1,X2c ⟨c2.1.1.1,by omega,by omega,by omega⟩ c3]
 ·refine Ai ?_
  refine Aa [] [1,6] ?_
  refine Ad ?_
  obtain⟨b4,hb4⟩:∃b,b=(decide (d.kind < 2)):=⟨_,rfl⟩
  obtain⟨b5,hb5⟩:∃b,b=(b4||(decide (6 < d.kind))):=⟨_,rfl⟩
  obtain⟨b6,hb6⟩:∃b,b=(b5||(!decide (d.name=[]))):=⟨_,rfl⟩
  obtain⟨b7,hb7⟩:∃b,b=(b6||(!decide (d.op=0))):=⟨_,rfl⟩
  obtain⟨b8,hb8⟩:∃b,b=(b7||(!decide (d.evr=[]))):=⟨_,rfl⟩
  refine Af (CS:=[(5,((!b4)=true→(!b4)=true)),(6,((!b4)=true→(!b4)=true)),(7,(b4=false→(!b4)=true)),(10,((!b5)=true→(!b5)=true)),(11,((!b5)=true→(!b5)=true)),(12,(b5=false→(!b5)=true)),(15,((!b6)=true→(!b6)=true)),(16,((!b6)=true→(!b6)=true)),(17,(b6=false→(!b6)=true)),(20,((!b7)=true→(!b7)=true)),(21,((!b7)=true→(!b7)=true)),(22,(b7=false→(!b7)=true)),(25,((!b8)=true→(!b8)=true)),(26,(b8=false→(!b8)=true))]) [55,56,57,60,61,62,65,66,67,70,71,72,75,76] [1,6,77] [] hk0 (vk 4 54 (a:=.bool (decide (d.kind < 2))) (b:=.bool b4) (Imp.of_eq (by rw[hb4]))<|vk 9 59 (a:=.bool (b4||(decide (6 < d.kind)))) (b:=.bool b5) (Imp.of_eq (by rw[hb5]))<|vk 14 64 (a:=.bool (b5||(!decide (d.name=[])))) (b:=.bool b6) (Imp.of_eq (by rw[hb6]))<|vk 19 69 (a:=.bool (b6||(!decide (d.op=0)))) (b:=.bool b7) (Imp.of_eq (by rw[hb7]))<|vk 24 74 (a:=.bool (b7||(!decide (d.evr=[])))) (b:=.bool b8) (Imp.of_eq (by rw[hb8]))<|v0) (by refine cc _ ?_<|cc _ ?_<|cc _ ?_<|cc _ ?_<|cc _ ?_<|cc _ ?_<|cc _ ?_<|cc _ ?_<|cc _ ?_<|cc _ ?_<|cc _ ?_<|cc _ ?_<|cc _ ?_<|cc _ ?_ c0<;>simp) ?_
  refine A8 (q:=b8||(decide ((d.args.length:Int) < 2))) (by kernel_rfl) (fun c4=>?_) (fun c4=>?_)
  ·subst hb8 hb7 hb6 hb5 hb4
   try simp only[Ao] at c4
   refine Aa [] [2] ?_
   refine Ah ?_
   refine RK wR [(.bool false)] ?_
   refine Same.of_eq ?_
   simp only[An]
   rw[Kz c1,X2p (by rcases c4 with ((((h|h)|h)|h)|h)|h<;>first|(simp[h];done)|(have h':d.args.length < 2:=(by omega);simp[h']))]
   rfl
  ·subst hb8 hb7 hb6 hb5 hb4
   try simp only[Ao] at c4
   refine Ai ?_
   refine Ad ?_
   obtain⟨b9,hb9⟩:∃b,b=(decide (d.kind=4)):=⟨_,rfl⟩
   obtain⟨b10,hb10⟩:∃b,b=(b9&&(decide (3 < (d.args.length:Int)))):=⟨_,rfl⟩
   refine Af (CS:=[(5,(b9=true→b9=true)),(6,(b9=true→b9=true)),(9,((!b10)=true→(!b10)=true)),(10,((!b10)=true→(!b10)=true)),(11,((!b10)=true→(!b10)=true)),(13,(((!b10)&&(decide (d.kind=6)))=true→((!b10)&&(decide (d.kind=6)))=true)),(14,((!b10)=true→((!b10)=true)∧((decide (d.kind=6))=true→((!b10)&&(decide (d.kind=6)))=true))),(15,(b10=false→(!b10)=true))]) [82,83,86,87,88,89,90,91,92] [1,6,93] [] hk0 (vk 4 81 (a:=.bool (decide (d.kind=4))) (b:=.bool b9) (Imp.of_eq (by rw[hb9]))<|vk 8 85 (a:=.bool (b9&&(decide (3 < (d.args.length:Int))))) (b:=.bool b10) (Imp.of_eq (by rw[hb10]))<|v0) (by refine cc _ ?_<|cc _ ?_<|cc _ ?_<|cc _ ?_<|cc _ ?_<|cc _ ?_<|cc _ ?_<|cc _ ?_ c0<;>(intros;simp_all;done)) ?_
   refine A8 (q:=b10||((decide (d.kind=6))&&(decide (2 < (d.args.length:Int))))) (by kernel_rfl) (fun c5=>?_) (fun c5=>?_)
   ·subst hb10 hb9
    try simp only[Ao] at c5
    refine Aa [] [2] ?_
    refine Ah ?_
    refine RK wR [(.bool false)] ?_
    refine Same.of_eq ?_
    simp only[An]
    rw[Kz c1,X2o (by omega)]
    rfl
   ·subst hb10 hb9
    try simp only[Ao] at c5
    have hfb:G6 d.kind d.name d.op d.evr d.args.length=false:=X2n (by rcases c4 with⟨⟨⟨⟨⟨h1,h2⟩,h3⟩,h4⟩,h5⟩,h6⟩;simp[h3,h4,h5];omega) (by omega)
    refine Ai ?_
    refine Ad ?_
    refine Aa [] [1,6,7] ?_
    refine A1 ?_
    refine Bz (fun g y=>∃(i:Nat),i≤d.args.length∧argsForm d.kind d.args=argsForm d.kind (d.args.drop i)∧y=⟨[(1,(.fp (.agg [(.int .i64 d.kind),(.str d.name),(.int .i64 d.op),(.str d.evr),(.row 5 d.args.length (depAt d.args))]))),(6,(.int .i64 ((d.args.length:Int)))),(7,(.int .i64 ((i:Int))))],[],1⟩∧g=d.args.length-i) [1,6,7] 1 _ (by omega) ⟨0,(by omega),(by rfl),(by kernel_rfl),rfl⟩ ?_
    rintro g1 y1 ⟨i,f1_1,f1_2,rfl,rfl⟩
    refine Ad ?_
    refine Aa [] [1,6,7,96] ?_
    refine A6 (p:=(i:Int) < (d.args.length:Int)) (by kernel_rfl) (fun c6=>?_) (fun c6=>?_)
    ·refine Ai ?_
     refine Ad ?_
     refine A1 ?_
     refine Af [] [1,6,7,8] [] hk0 (vk 3 100 (Ho d.args)<|v0) (cc 3 (p:=(0≤(i:Int)∧i < d.args.length)) (by omega)<|c0) ?_
     refine Ad ?_
     obtain⟨b11,hb11⟩:∃b,b=(decide (5≤d.kind)):=⟨_,rfl⟩
     obtain⟨b12,hb12⟩:∃b,b=(b11&&(!decide (((nth d.args i).kind)=1))):=⟨_,rfl⟩
     obtain⟨b13,hb13⟩:∃b,b=(b12&&(!decide (((nth d.args i).kind)=5))):=⟨_,rfl⟩
     refine Af (CS:=[(5,(b11=true→b11=true)),(6,(b11=true→b11=true)),(9,(b12=true→b12=true)),(10,(b12=true→b12=true)),(13,(b13=true→b13=true)),(14,(b13=true→b13=true))]) [109,110,113,114,117,118] [1,6,7,119] [] hk0 (vk 4 108 (a:=.bool (decide (5≤d.kind))) (b:=.bool b11) (Imp.of_eq (by rw[hb11]))<|vk 8 112 (a:=.bool (b11&&(!decide (((nth d.args i).kind)=1)))) (b:=.bool b12) (Imp.of_eq (by rw[hb12]))<|vk 12 116 (a:=.bool (b12&&(!decide (((nth d.args i).kind)=5)))) (b:=.bool b13) (Imp.of_eq (by rw[hb13]))<|v0) (by refine cc _ ?_<|cc _ ?_<|cc _ ?_<|cc _ ?_<|cc _ ?_<|cc _ ?_ c0<;>simp) ?_
     refine A8 (q:=b13&&(!decide (((nth d.args i).kind)=6))) (by kernel_rfl) (fun c7=>?_) (fun c7=>?_)
     ·subst hb13 hb12 hb11
      try simp only[Ao] at c7
      refine Aa [] [2] ?_
      refine Ah ?_
      refine RK wR [(.bool false)] ?_
      refine Same.of_eq ?_
      simp only[An]
      rw[Kz c1,hfb,f1_2,Vg (by omega),X07 (by omega)]
      rfl
     ·subst hb13 hb12 hb11
      try simp only[Ao] at c7
      refine Ai ?_
      refine Af [] [1,6,7,9] [] (hk 5 Q2o (ih i (by omega))<|hk0) (vk 3 121 (Ho d.args)<|v0) (cc 3 (p:=(0≤(i:Int)∧i < d.args.length)) (by omega)<|c0) ?_
      refine Aa [] [1,6,7,127] ?_
      refine A8 (q:=!(Dg (nth d.args i))) (by kernel_rfl) (fun c8=>?_) (fun c8=>?_)
      ·try simp only[Ao] at c8
       refine Aa [] [2] ?_
       refine Ah ?_
       refine RK wR [(.bool false)] ?_
       refine Same.of_eq ?_
       simp only[An]
       rw[Kz c1,hfb,f1_2,Vg (by omega),Q0d (by omega),c8]
       rfl
      ·try simp only[Ao] at c8
       refine Ai ?_
       refine Ap ?_
       refine Av 0 [] [1,6,7] [] hk0 v0 (cc 1 (p:=(-9223372036854775808≤(i:Int)+1∧(i:Int)+1≤9223372036854775807)) (by omega)<|c0) ?_
       refine⟨by kernel_rfl,_,?_,i+1,?_,?_,(by kernel_rfl),rfl⟩
       ·omega
       ·omega
       ·rw[f1_2,Vg (by omega),Q0d (by omega),c8];rfl
    ·refine Bt ?_
     refine Aa [] [2] ?_
     refine Ah ?_
     refine RK wR [(.bool true)] ?_
     refine Same.of_eq ?_
     simp only[An]
     rw[Kz c1,hfb,f1_2,List.drop_of_length_le (by omega)]
     rfl
theorem Q7n (d:DepT):d.size≤4194304→FnV Tryz.prog 115 [Ak d] (.bool (Dg d)) :=
 Qw (C:=fun d=>d.size≤4194304→FnV Tryz.prog 115 [Ak d] (.bool (Dg d))) (fun d ih hs=>Q7o d hs fun i hi=>ih i hi (by have:=Gy hi;omega)) d
theorem Q8i (d : DepT) (hs : d.size ≤ 4194304) (ih : ∀ i, i < d.args.length → FnV Tryz.prog 116 [Ak (nth d.args i)] (.int .i64 (Ek (nth d.args i) : Int))) :
  FnV Tryz.prog 116 [(.agg [(.int .i64 d.kind),(.str d.name),(.int .i64 d.op),(.str d.evr),(.row 5 d.args.length (depAt d.args))])] (.int .i64 ((Ek d:Int))):=by
 have hda:=E1 d
 have hal:=D2 d.args
 refine A5 [.tmp 2] Tryz.func116 rfl Tryz.ntmps116 rfl rfl (fun B F hF=>?_)
 refine Af [] [1] [(1,1)] hk0 v0 c0 ?_
 refine Ad ?_
 refine Aa [] [1,7] ?_
 refine A6 (p:=d.kind=1) (by kernel_rfl) (fun c1=>?_) (fun c1=>?_)
 ·refine Aa [] [2] ?_
  refine Ah ?_
  refine RK wR [(.int .i64 1)] ?_
  refine Same.of_eq ?_
  simp only[An]
  rw[Q8k c1]
  rfl
 ·refine Ai ?_
  refine Aa [] [1,3] ?_
  refine Ad ?_
  refine Aa [] [1,3,4] ?_
  refine A1 ?_
  refine Bz (fun g y=>∃(i:Nat),i≤d.args.length∧y=⟨[(1,(.fp (.agg [(.int .i64 d.kind),(.str d.name),(.int .i64 d.op),(.str d.evr),(.row 5 d.args.length (depAt d.args))]))),(3,(.int .i64 ((argsParts (d.args.take i):Int)))),(4,(.int .i64 ((i:Int))))],[],1⟩∧g=d.args.length-i) [1,3,4] 1 _ (by omega) ⟨0,(by omega),(by kernel_rfl),rfl⟩ ?_
  rintro g1 y1 ⟨i,f1_1,rfl,rfl⟩
  have hb1:=argsParts_le (d.args.take i)
  have hb2:=fun h=>Q32 (l:=d.args) (i:=i) h
  have hb3:=X3 (nth d.args i)
  refine Ad ?_
  refine Aa [] [1,3,4,12] ?_
  refine A6 (p:=(i:Int) < (d.args.length:Int)) (by kernel_rfl) (fun c2=>?_) (fun c2=>?_)
  ·refine Ai ?_
   refine Ad ?_
   refine A1 ?_
   refine Ap ?_
   refine Av (CS:=[(4,(0≤(i:Int)∧i < d.args.length)),(7,(-9223372036854775808≤(argsParts (d.args.take i):Int)+(Ek (nth d.args i):Int)∧(argsParts (d.args.take i):Int)+(Ek (nth d.args i):Int)≤9223372036854775807))]) 0 [] [1,3,4] [] (hk 6 Q2n (ih i (by omega))<|hk0) (vk 4 17 (Ho d.args)<|v0) (by refine cc _ ?_<|cc _ ?_ c0<;>omega) ?_
   refine Ap ?_
   refine Av 0 [] [1,3,4] [] hk0 v0 (cc 1 (p:=(-9223372036854775808≤(i:Int)+1∧(i:Int)+1≤9223372036854775807)) (by omega)<|c0) ?_
   refine⟨by kernel_rfl,_,?_,i+1,?_,(Eq.trans (b:=(⟨[(1,(.fp (.agg [(.int .i64 d.kind),(.str d.name),(.int .i64 d.op),(.str d.evr),(.row 5 d.args.length (depAt d.args))]))),(3,(.int .i64 ((argsParts (d.args.take i):Int)+(Ek (nth d.args i):Int)))),(4,(.int .i64 ((i:Int)+1)))],[],1⟩:St)) (by kernel_rfl) (by rw[X56 (by omega)];rfl)),rfl⟩
   ·omega
   ·omega
  ·refine Bt ?_
   refine Aa [] [2] ?_
   refine Ah ?_
   refine RK wR [(.int .i64 ((argsParts (d.args.take i):Int)))] ?_
   refine Same.of_eq ?_
   simp only[An]
   rw[Q8l c1,List.take_of_length_le (by omega)]
theorem Q8j (d:DepT):d.size≤4194304→FnV Tryz.prog 116 [Ak d] (.int .i64 (Ek d:Int)) :=
 Qw (C:=fun d=>d.size≤4194304→FnV Tryz.prog 116 [Ak d] (.int .i64 (Ek d:Int))) (fun d ih hs=>Q8i d hs fun i hi=>ih i hi (by have:=Gy hi;omega)) d
def Fz (d:DepT):Nat:=if d.kind=1 then 1 else 0
theorem X48 (l : List UInt8) (m : Nat) (hm : m ≤ 9000000) :
  Gf Tryz.prog 150 [(.str l),(.ptr 0 0)] [(0,(.row [(.int .i64 (((m:Nat):Int)))] 3))] 1 (.tup []) [(0,(.row [(.int .i64 (((m+1:Nat):Int)))] 3))]:=by
 refine Le [] Tryz.func150 rfl Tryz.ntmps150 rfl rfl (by kernel_rfl) (by kernel_rfl) (by kernel_rfl) (fun B F hF=>?_)
 refine Ap ?_
 refine Av 0 [] [] [] hk0 v0 (cc 1 (p:=(-9223372036854775808≤((m:Nat):Int)+1∧((m:Nat):Int)+1≤9223372036854775807)) (by omega)<|c0) ?_
 refine Ej (.inr rfl) (al:=[]) (by kernel_rfl) ?_ ((by kernel_rfl:Dl 1 _=some [(0,(.row [(.int .i64 (((m:Nat):Int)+1))] 3))]).trans ?_)
 ·rfl
 ·rfl
theorem X6o (d : DepT) (m : Nat) (hs : m + d.size ≤ 8388608) (ih : ∀ i m, i < d.args.length → m + (nth d.args i).size ≤ 8388608 → Gf Tryz.prog 149 [Ak (nth d.args i), .fn 150 [] [.ptr 0 0]] [(0, .row [.int .i64 ((m : Nat) : Int)] 3)] 1 (.tup []) [(0, .row [.int .i64 ((m + Ev (nth d.args i) : Nat) : Int)] 3)]) :
  Gf Tryz.prog 149 [(.agg [(.int .i64 d.kind),(.str d.name),(.int .i64 d.op),(.str d.evr),(.row 5 d.args.length (depAt d.args))]),(.fn 150 [] [(.ptr 0 0)])] [(0,(.row [(.int .i64 (((m:Nat):Int)))] 3))] 1 (.tup []) [(0,(.row [(.int .i64 (((m+Ev d:Nat):Int)))] 3))]:=by
 have hda:=E1 d
 have hal:=D2 d.args
 have ho:Fz d≤1:=by unfold Fz;split<;>omega
 refine Le [] Tryz.func149 rfl Tryz.ntmps149 rfl rfl (by kernel_rfl) (by kernel_rfl) (by kernel_rfl) (fun B F hF=>?_)
 refine Aa [] [1,2] ?_
 refine Re 2 (y:=⟨[(1,(.fn 150 [] [(.ptr 0 0)])),(2,(.fp (.agg [(.int .i64 d.kind),(.str d.name),(.int .i64 d.op),(.str d.evr),(.row 5 d.args.length (depAt d.args))])))],[(0,(.row [(.int .i64 (((m:Nat):Int)))] 3))],2⟩) (by kernel_rfl) ?_
 refine D0 (fun y=>y=⟨[(1,(.fn 150 [] [(.ptr 0 0)])),(2,(.fp (.agg [(.int .i64 d.kind),(.str d.name),(.int .i64 d.op),(.str d.evr),(.row 5 d.args.length (depAt d.args))])))],[(0,(.row [(.int .i64 (((m+Fz d:Nat):Int)))] 3))],2⟩) [1,2] 2 (by omega) ?_ ?_
 ·refine Aa [] [1,2,8] ?_
  refine A6 (p:=d.kind=1) (by kernel_rfl) (fun c1=>?_) (fun c1=>?_)
  ·refine Ap ?_
   refine Br 3 0 [] [1,2,9,11] [] hk0 v0 c0 ?_
   refine Ht [0] (f:=150) (cap:=[(.ptr 0 0)]) (al:=[(.str d.name)]) (al':=[(.str d.name),(.ptr 0 0)]) (r:=(.tup [])) (r':=(.tup [])) (s':=[(1,(.fn 150 [] [(.ptr 0 0)])),(2,(.fp (.agg [(.int .i64 d.kind),(.str d.name),(.int .i64 d.op),(.str d.evr),(.row 5 d.args.length (depAt d.args))]))),(9,(.fn 150 [] [(.ptr 0 0)])),(11,(.str d.name)),(12,(.tup []))]) (H:=[(0,(.row [(.int .i64 (((m:Nat):Int)))] 3))]) (H':=[(0,(.row [(.int .i64 (((m+1:Nat):Int)))] 3))]) (h2:=[(0,(.row [(.int .i64 (((m+1:Nat):Int)))] 3))]) (by kernel_rfl) (by kernel_rfl) (by exact X36) (by kernel_rfl) (by kernel_rfl) (by kernel_rfl) (by kernel_rfl) (by kernel_rfl) (X48 d.name m (by omega)) (by kernel_rfl) (by kernel_rfl) (by kernel_rfl) ?_
   refine B5 ?_
   refine⟨by kernel_rfl,(Eq.trans (b:=(⟨[(1,(.fn 150 [] [(.ptr 0 0)])),(2,(.fp (.agg [(.int .i64 d.kind),(.str d.name),(.int .i64 d.op),(.str d.evr),(.row 5 d.args.length (depAt d.args))])))],[(0,(.row [(.int .i64 (((m+1:Nat):Int)))] 3))],2⟩:St)) (by kernel_rfl) (by unfold Fz;rw[if_pos c1]))⟩
  ·refine Ai ?_
   refine⟨by kernel_rfl,(Eq.trans (b:=(⟨[(1,(.fn 150 [] [(.ptr 0 0)])),(2,(.fp (.agg [(.int .i64 d.kind),(.str d.name),(.int .i64 d.op),(.str d.evr),(.row 5 d.args.length (depAt d.args))])))],[(0,(.row [(.int .i64 (((m:Nat):Int)))] 3))],2⟩:St)) (by kernel_rfl) (by unfold Fz;rw[if_neg c1];rfl))⟩
 ·rintro y1 rfl
  refine Aa [] [1,14,15,16] ?_
  refine A1 ?_
  refine Vr 14 (Ac 5 Ak d.args) (by kernel_rfl) (Ho d.args) ?_
  refine Bz (fun g y=>∃(i:Nat),i≤d.args.length∧y=⟨[(1,(.fn 150 [] [(.ptr 0 0)])),(14,(Ac 5 Ak d.args)),(15,(.int .i64 ((d.args.length:Int)))),(16,(.int .i64 ((i:Int))))],[(0,(.row [(.int .i64 (((m+Fz d+argsNames (d.args.take i):Nat):Int)))] 3))],2⟩∧g=d.args.length-i) [1,14,15,16] 2 _ (by omega) ⟨0,(by omega),(Eq.trans (b:=(⟨[(1,(.fn 150 [] [(.ptr 0 0)])),(14,(Ac 5 Ak d.args)),(15,(.int .i64 ((d.args.length:Int)))),(16,(.int .i64 0))],[(0,(.row [(.int .i64 (((m+Fz d:Nat):Int)))] 3))],2⟩:St)) (by kernel_rfl) (by simp only[List.take_zero,argsNames,Nat.add_zero];rfl)),rfl⟩ ?_
  rintro g1 y1 ⟨i,f1_1,rfl,rfl⟩
  have hb1:=argsNames_le (d.args.take i)
  have hb2:=fun h=>Q32 (l:=d.args) (i:=i) h
  refine Aa [] [1,14,15,16,17] ?_
  refine Ad ?_
  refine A6 (p:=(i:Int) < (d.args.length:Int)) (by kernel_rfl) (fun c2=>?_) (fun c2=>?_)
  ·refine Ai ?_
   refine Ad ?_
   refine A1 ?_
   refine Af [] [1,5,14,15,16] [] hk0 v0 (cc 0 (p:=(0≤(i:Int)∧i < d.args.length)) (by omega)<|c0) ?_
   refine Ap ?_
   refine Br 2 0 [] [1,14,15,16,20,21] [(0,5)] hk0 v0 c0 ?_
   refine Mx [0] (al:=[(.agg [(.int .i64 ((nth d.args i).kind)),(.str ((nth d.args i).name)),(.int .i64 ((nth d.args i).op)),(.str ((nth d.args i).evr)),(.row 5 (nth d.args i).args.length (depAt (nth d.args i).args))]),(.fn 150 [] [(.ptr 0 0)])]) (al':=[(.agg [(.int .i64 ((nth d.args i).kind)),(.str ((nth d.args i).name)),(.int .i64 ((nth d.args i).op)),(.str ((nth d.args i).evr)),(.row 5 (nth d.args i).args.length (depAt (nth d.args i).args))]),(.fn 150 [] [(.ptr 0 0)])]) (r:=(.tup [])) (r':=(.tup [])) (s':=[(1,(.fn 150 [] [(.ptr 0 0)])),(14,(Ac 5 Ak d.args)),(15,(.int .i64 ((d.args.length:Int)))),(16,(.int .i64 ((i:Int)))),(20,(.agg [(.int .i64 ((nth d.args i).kind)),(.str ((nth d.args i).name)),(.int .i64 ((nth d.args i).op)),(.str ((nth d.args i).evr)),(.row 5 (nth d.args i).args.length (depAt (nth d.args i).args))])),(21,(.fn 150 [] [(.ptr 0 0)])),(22,(.tup []))]) (H:=[(0,(.row [(.int .i64 (((m+Fz d+argsNames (d.args.take i):Nat):Int)))] 3))]) (H':=[(0,(.row [(.int .i64 (((m+Fz d+argsNames (d.args.take i)+Ev (nth d.args i):Nat):Int)))] 3))]) (h2:=[(0,(.row [(.int .i64 (((m+Fz d+argsNames (d.args.take i)+Ev (nth d.args i):Nat):Int)))] 3))]) (by kernel_rfl) (by exact Q2g) (by kernel_rfl) (by kernel_rfl) (by kernel_rfl) (by kernel_rfl) (by kernel_rfl) (ih i (m+Fz d+argsNames (d.args.take i)) (by omega) (by have:=hb2 (by omega);omega)) (by kernel_rfl) (by kernel_rfl) (by kernel_rfl) ?_
   refine B5 ?_
   refine Ap ?_
   refine Av 0 [] [1,14,15,16] [] hk0 v0 (cc 0 (p:=(-9223372036854775808≤(i:Int)+1∧(i:Int)+1≤9223372036854775807)) (by omega)<|c0) ?_
   refine⟨by kernel_rfl,_,?_,i+1,?_,(Eq.trans (b:=(⟨[(1,(.fn 150 [] [(.ptr 0 0)])),(14,(Ac 5 Ak d.args)),(15,(.int .i64 ((d.args.length:Int)))),(16,(.int .i64 ((i:Int)+1)))],[(0,(.row [(.int .i64 (((m+Fz d+argsNames (d.args.take i)+Ev (nth d.args i):Nat):Int)))] 3))],2⟩:St)) (by kernel_rfl) (by rw[X57 (by omega)];simp only[Nat.add_assoc];rfl)),rfl⟩
   all_goals omega
  ·refine Bt ?_
   refine Ej (.inr rfl) (al:=[]) (by kernel_rfl) ?_ ((by kernel_rfl:Dl 1 _=some [(0,(.row [(.int .i64 (((m+Fz d+argsNames (d.args.take i):Nat):Int)))] 3))]).trans ?_)
   ·rfl
   ·rw[Q91,List.take_of_length_le (by omega)];simp only[Fz,Nat.add_assoc]
theorem X6n (d:DepT):∀m,m+d.size≤8388608→Gf Tryz.prog 149 [Ak d,.fn 150 [] [.ptr 0 0]] [(0,.row [.int .i64 ((m:Nat):Int)] 3)] 1 (.tup []) [(0,.row [.int .i64 ((m+Ev d:Nat):Int)] 3)] :=
 Qw (C:=fun d=>∀m,m+d.size≤8388608→Gf Tryz.prog 149 [Ak d,.fn 150 [] [.ptr 0 0]] [(0,.row [.int .i64 ((m:Nat):Int)] 3)] 1 (.tup []) [(0,.row [.int .i64 ((m+Ev d:Nat):Int)] 3)]) (fun d ih m hs=>X6o d m hs fun i m hi h=>ih i hi m h) d
theorem Q5k (d : DepT) (hs : d.size ≤ 4194304) :
  FnV Tryz.prog 95 [(.agg [(.int .i64 d.kind),(.str d.name),(.int .i64 d.op),(.str d.evr),(.row 5 d.args.length (depAt d.args))])] (.int .i64 (Ct d)):=by
 refine A5 [.tmp 2] Tryz.func95 rfl Tryz.ntmps95 rfl rfl (fun B F hF=>?_)
 refine Af [] [1] [(1,1)] hk0 v0 c0 ?_
 refine Ad ?_
 refine Af [] [1,6] [] (hk 1 Q2h (X19 d hs)<|hk0) v0 c0 ?_
 refine A8 (q:=!(Dg d)) (by kernel_rfl) (fun c1=>?_) (fun c1=>?_)
 ·try simp only[Ao] at c1
  refine Aa [] [2] ?_
  refine Ah ?_
  refine RK wR [(.int .i64 50)] ?_
  refine Same.of_eq ?_
  simp only[An]
  rw[Ct,c1]
  rfl
 ·try simp only[Ao] at c1
  refine Ai ?_
  refine Aa [] [1,3] ?_
  refine Ad ?_
  refine Ap ?_
  refine Br 2 0 [] [3,7,8] [] hk0 v0 c0 ?_
  refine Mx [1] (al:=[(.agg [(.int .i64 d.kind),(.str d.name),(.int .i64 d.op),(.str d.evr),(.row 5 d.args.length (depAt d.args))]),(.fn 150 [] [(.ptr 1 0)])]) (al':=[(.agg [(.int .i64 d.kind),(.str d.name),(.int .i64 d.op),(.str d.evr),(.row 5 d.args.length (depAt d.args))]),(.fn 150 [] [(.ptr 0 0)])]) (r:=(.tup [])) (r':=(.tup [])) (s':=[(3,(.ptr 1 0)),(7,(.agg [(.int .i64 d.kind),(.str d.name),(.int .i64 d.op),(.str d.evr),(.row 5 d.args.length (depAt d.args))])),(8,(.fn 150 [] [(.ptr 1 0)])),(9,(.tup []))]) (H:=[(0,(.row [(.int .i64 0)] 3))]) (H':=[(0,(.row [(.int .i64 (((0+Ev d:Nat):Int)))] 3))]) (h2:=[(1,(.row [(.int .i64 (((0+Ev d:Nat):Int)))] 3))]) (by kernel_rfl) (by exact Q2g) (by kernel_rfl) (by kernel_rfl) (by kernel_rfl) (by kernel_rfl) (by kernel_rfl) (X6n d 0 (by omega)) (by kernel_rfl) (by kernel_rfl) (by kernel_rfl) ?_
  refine B5 ?_
  refine Ad ?_
  refine Aa [] [11] ?_
  refine A6 (p:=16 < ((0+Ev d:Nat):Int)) (by kernel_rfl) (fun c2=>?_) (fun c2=>?_)
  ·refine Aa [] [2] ?_
   refine Ah ?_
   refine RK wR [(.int .i64 51)] ?_
   refine Same.of_eq ?_
   simp only[An]
   rw[Ct,c1,if_pos rfl,if_pos (by have:=Td d c1;omega)]
  ·refine Ai ?_
   refine Aa [] [2] ?_
   refine Ah ?_
   refine RK wR [(.int .i64 0)] ?_
   refine Same.of_eq ?_
   simp only[An]
   rw[Ct,c1,if_pos rfl,if_neg (by have:=Td d c1;omega)]
theorem Q7s (d : DepT) (hs : d.size ≤ 4194304) :
  FnV Tryz.prog 51 [(.agg [(.int .i64 d.kind),(.str d.name),(.int .i64 d.op),(.str d.evr),(.row 5 d.args.length (depAt d.args))])] (.int .i64 (Ct d)):=by
 refine A5 [.tmp 2] Tryz.func51 rfl Tryz.ntmps51 rfl rfl (fun B F hF=>?_)
 refine Af [] [1] [(1,1)] hk0 v0 c0 ?_
 refine Af [] [1,3] [] (hk 1 Q2o (Q7n d hs)<|hk0) v0 c0 ?_
 refine Ad ?_
 refine Aa [] [1,7] ?_
 refine A8 (q:=!(Dg d)) (by kernel_rfl) (fun c1=>?_) (fun c1=>?_)
 ·try simp only[Ao] at c1
  refine Aa [] [2] ?_
  refine Ah ?_
  refine RK wR [(.int .i64 50)] ?_
  refine Same.of_eq ?_
  simp only[An]
  rw[Ct,c1]
  rfl
 ·try simp only[Ao] at c1
  refine Ai ?_
  refine Ad ?_
  refine Af [] [10] [] (hk 1 Q2n (Q8j d hs)<|hk0) v0 c0 ?_
  refine A6 (p:=16 < (Ek d:Int)) (by kernel_rfl) (fun c2=>?_) (fun c2=>?_)
  ·refine Aa [] [2] ?_
   refine Ah ?_
   refine RK wR [(.int .i64 51)] ?_
   refine Same.of_eq ?_
   simp only[An]
   rw[Ct,c1,if_pos rfl,if_pos (by omega)]
  ·refine Ai ?_
   refine Aa [] [2] ?_
   refine Ah ?_
   refine RK wR [(.int .i64 0)] ?_
   refine Same.of_eq ?_
   simp only[An]
   rw[Ct,c1,if_pos rfl,if_neg (by omega)]
end Sv
end
section
open Go Go.RowKit
namespace Sv
attribute [local irreducible] SW SO Bn
set_option maxHeartbeats 400000
set_option maxRecDepth 100000
theorem Q1q:Au Tryz.prog 71:=Ay Tryz.func71 (by kernel_rfl) rfl
theorem X4m:Au Tryz.prog 114:=Ay Tryz.func114 (by kernel_rfl) rfl
theorem Jt:Au Tryz.prog 113:=Ay Tryz.func113 (by kernel_rfl) rfl
theorem Q2p:Au Tryz.prog 112:=Ay Tryz.func112 (by kernel_rfl) rfl
theorem Q1x:Au Tryz.prog 50:=Ay Tryz.func50 (by kernel_rfl) rfl
theorem X4v:Au Tryz.prog 101:=Ay Tryz.func101 (by kernel_rfl) rfl
theorem Q1y:Au Tryz.prog 46:=Ay Tryz.func46 (by kernel_rfl) rfl
theorem X5g (l : List (List UInt8)) (hl : l.length ≤ 4611686018427) :
  FnV Tryz.prog 114 [(C4 l)] (C4 l):=by
 refine A5 [.tmp 2] Tryz.func114 rfl Tryz.ntmps114 rfl rfl (fun B F hF=>?_)
 refine Aa [] [0] ?_
 refine Ad ?_
 refine Ad ?_
 refine Ap ?_
 refine Br 1 0 [] [0,3] [] hk0 v0 c0 ?_
 refine Rj (G:=Jl (C4 l)) (sz:=1) (m:=l.length) (e:=9) (by kernel_rfl) (by kernel_rfl) (by kernel_rfl) (by kernel_rfl) (fun nq1=>⟨[(0,(C4 l)),(3,(C4 l)),(4,(.bool nq1))],by kernel_rfl,fun hnq1=>?_⟩)
 refine B5 ?_
 refine A8 (q:=nq1) (by kernel_rfl) (fun c1=>?_) (fun c1=>?_)
 ·try simp only[Ao] at c1
  refine Aa [] [2] ?_
  refine Ah ?_
  refine RK wR [.nils] ?_
  simp only[An]
  exact(Same.of_eq rfl).trans (Imp.same (by have:=hnq1 (by simp_all);have:l=[]:=List.length_eq_zero_iff.1 this;subst this;exact Imp.nil))
 ·try simp only[Ao] at c1
  refine Ai ?_
  refine Af [] [2] [] hk0 v0 (cc 2 (p:=((([]:List AV).length+l.length)*16≤140737488355328)) (by(simp;omega))<|c0) ?_
  refine Ah ?_
  refine RK wR [(.row 1 (([]:List AV)++((List.range l.length).map (fun kx=>((.str (nth l kx)):AV)))).length (fun ix=>(([]:List AV)++((List.range l.length).map (fun kx=>((.str (nth l kx)):AV)))).getD ix Bp))] ?_
  simp only[An]
  exact Same.grown (f:=AV.str) (l:=l) (by simp[Lr])
theorem Ym (l : List DepT) (hs : argsSize l ≤ 4194304) (ih : ∀ i, i < l.length → FnV Tryz.prog 113 [Dy (nth l i).args] (.row 5 (nth l i).args.length (depAt (nth l i).args))) :
  FnV Tryz.prog 113 [(Ac 5 Ak l)] (.row 5 l.length (depAt l)):=by
 have hal:=D2 l
 refine A5 [.tmp 2] Tryz.func113 rfl Tryz.ntmps113 rfl rfl (fun B F hF=>?_)
 refine Aa [] [0] ?_
 refine Ad ?_
 refine Ap ?_
 refine Br 1 0 [] [5] [] hk0 v0 c0 ?_
 refine J7 [.tmp 2] (al:=[(Ac 5 Ak l)]) (s0:=[(5,(Ac 5 Ak l))]) (by kernel_rfl) (by exact Q1q) (by kernel_rfl) Tryz.func71 rfl Tryz.ntmps71 rfl (by kernel_rfl) (by kernel_rfl) (fun F1 hF1 hle1=>?_)
 refine Aa [] [0] ?_
 refine Ad ?_
 refine Ad ?_
 refine Ap ?_
 refine Br 1 0 [] [0,3] [] hk0 v0 c0 ?_
 refine Rj (G:=Jl (Ac 5 Ak l)) (sz:=5) (m:=l.length) (e:=25) (by kernel_rfl) (by kernel_rfl) (by kernel_rfl) (by kernel_rfl) (fun nq1_1=>⟨[(0,(Ac 5 Ak l)),(3,(Ac 5 Ak l)),(4,(.bool nq1_1))],by kernel_rfl,fun hnq1_1=>?_⟩)
 refine B5 ?_
 refine A8 (q:=nq1_1) (by kernel_rfl) (fun c1=>?_) (fun c1=>?_)
 ·try simp only[Ao] at c1
  refine Aa [] [2] ?_
  refine Ah ?_
  refine G4 (.inl rfl) (al:=[.nils]) (s':=[(5,(Ac 5 Ak l)),(6,.nils)]) (by kernel_rfl) (by kernel_rfl) ?_
  refine Av 2 [] [0] [] hk0 v0 c0 ?_
  refine Ad ?_
  refine Aa [] [0,7,8,9] ?_
  refine A1 ?_
  refine Rf 1 ?_
  refine Fs ?_
  refine Aa [] [0,7,8,9,10] ?_
  refine Ad ?_
  refine Eh (by kernel_rfl) ?_
  refine Bt ?_
  refine Aa [] [2] ?_
  refine Ah ?_
  refine RK wR [.nils] ?_
  have h0:l=[]:=List.length_eq_zero_iff.1 (hnq1_1 c1)
  subst h0
  exact(Same.nil (f:=Ak)).trans (Oa []).same
 ·try simp only[Ao] at c1
  refine Ai ?_
  refine Af [] [2] [] hk0 v0 (cc 2 (p:=((([]:List AV).length+l.length)*72≤140737488355328)) (by(simp;omega))<|c0) ?_
  refine Ah ?_
  refine G4 (.inl rfl) (al:=[(.own 1)]) (s':=[(5,(Ac 5 Ak l)),(6,(.own 1))]) (by kernel_rfl) (by kernel_rfl) ?_
  refine Av 2 [] [0] [] hk0 v0 c0 ?_
  refine Ad ?_
  refine Aa [] [0,7,8,9] ?_
  refine A1 ?_
  refine Bz (fun g y=>∃(i:Nat),i≤l.length∧y=⟨[(0,(.own 1)),(7,(.own 1)),(8,(.int .i64 (((l.map Ak).length:Int)))),(9,(.int .i64 ((i:Int))))],[(1,(.grow (l.map Ak) 25 5))],2⟩∧g=l.length-i) [0,7,8,9] 2 _ (by omega) ⟨0,(by omega),(Eq.trans (b:=(⟨[(0,(.own 1)),(7,(.own 1)),(8,(.int .i64 (((([]:List AV)++((List.range l.length).map (fun kx=>((.agg [(.int .i64 ((nth l kx).kind)),(.str ((nth l kx).name)),(.int .i64 ((nth l kx).op)),(.str ((nth l kx).evr)),(.row 5 (nth l kx).args.length (depAt (nth l kx).args))]):AV)))).length:Int)))),(9,(.int .i64 0))],[(1,(.grow (([]:List AV)++((List.range l.length).map (fun kx=>((.agg [(.int .i64 ((nth l kx).kind)),(.str ((nth l kx).name)),(.int .i64 ((nth l kx).op)),(.str ((nth l kx).evr)),(.row 5 (nth l kx).args.length (depAt (nth l kx).args))]):AV)))) 25 5))],2⟩:St)) (by kernel_rfl) (by rw[show(([]:List AV)++((List.range l.length).map (fun kx=>((.agg [(.int .i64 ((nth l kx).kind)),(.str ((nth l kx).name)),(.int .i64 ((nth l kx).op)),(.str ((nth l kx).evr)),(.row 5 (nth l kx).args.length (depAt (nth l kx).args))]):AV))))=l.map Ak from Q8n Ak l];rfl)),rfl⟩ ?_
  rintro g2 y2 ⟨i,f2_1,rfl,rfl⟩
  have hlm:(l.map Ak).length=l.length:=List.length_map _
  refine Aa [] [0,7,8,9,10] ?_
  refine Ad ?_
  refine A6 (p:=(i:Int) < ((l.map Ak).length:Int)) (by kernel_rfl) (fun c2=>?_) (fun c2=>?_)
  ·refine Ai ?_
   refine Ad ?_
   refine A1 ?_
   refine Ad ?_
   refine Ap ?_
   refine Br 1 0 [] [0,7,8,9,11] [] hk0 v0 c0 ?_
   refine Mw (b:=1) (i:=i) (es:=l.map Ak) (e:=25) (sz:=5) (k:=.i64) (s':=[(0,(.own 1)),(7,(.own 1)),(8,(.int .i64 (((l.map Ak).length:Int)))),(9,(.int .i64 ((i:Int)))),(11,(.int .i64 ((i:Int)))),(12,(.op 1 (i*5)))]) (by kernel_rfl) (by kernel_rfl) (by kernel_rfl) (by kernel_rfl) (by kernel_rfl) (by kernel_rfl) (by first|(rw[List.length_map];omega)|simp_all) (by kernel_rfl) ?_
   refine Ri (b:=1) (e:=25) (sz:=5) (es:=l.map Ak) (o:=i*5) (i:=i) (j:=0) (a:=(.agg [(.int .i64 ((nth l i).kind)),(.str ((nth l i).name)),(.int .i64 ((nth l i).op)),(.str ((nth l i).evr)),(.row 5 (nth l i).args.length (depAt (nth l i).args))])) (r:=(.agg [(.int .i64 ((nth l i).kind)),(.str ((nth l i).name)),(.int .i64 ((nth l i).op)),(.str ((nth l i).evr)),(.row 5 (nth l i).args.length (depAt (nth l i).args))])) (s':=[(0,(.own 1)),(7,(.own 1)),(8,(.int .i64 (((l.map Ak).length:Int)))),(9,(.int .i64 ((i:Int)))),(11,(.int .i64 ((i:Int)))),(12,(.op 1 (i*5))),(13,(.agg [(.int .i64 ((nth l i).kind)),(.str ((nth l i).name)),(.int .i64 ((nth l i).op)),(.str ((nth l i).evr)),(.row 5 (nth l i).args.length (depAt (nth l i).args))]))]) (by kernel_rfl) (by kernel_rfl) rfl (by kernel_rfl) (Mb (l:=l) Ak (by omega)) (by kernel_rfl) (by kernel_rfl) ?_
   refine Av 3 [] [0,3,4,7,8,9] [] hk0 v0 c0 ?_
   refine Ap ?_
   refine Br 5 0 [] [0,7,8,9,14,15,18] [(0,4)] (hk 4 Jt (ih i (by omega))<|hk0) (vk 4 17 (Ho (nth l i).args)<|v0) c0 ?_
   refine Mw (b:=1) (i:=i) (es:=l.map Ak) (e:=25) (sz:=5) (k:=.i64) (s':=[(0,(.own 1)),(7,(.own 1)),(8,(.int .i64 (((l.map Ak).length:Int)))),(9,(.int .i64 ((i:Int)))),(14,(.own 1)),(15,(.int .i64 ((i:Int)))),(18,(.row 5 ((nth l i).args).length (depAt ((nth l i).args)))),(19,(.op 1 (i*5)))]) (by kernel_rfl) (by kernel_rfl) (by kernel_rfl) (by kernel_rfl) (by kernel_rfl) (by kernel_rfl) (by first|(rw[List.length_map];omega)|simp_all) (by kernel_rfl) ?_
   refine Vt (b:=1) (o:=i*5) (off:=4) (s':=[(0,(.own 1)),(7,(.own 1)),(8,(.int .i64 (((l.map Ak).length:Int)))),(9,(.int .i64 ((i:Int)))),(14,(.own 1)),(15,(.int .i64 ((i:Int)))),(18,(.row 5 ((nth l i).args).length (depAt ((nth l i).args)))),(19,(.op 1 (i*5))),(20,(.op 1 (i*5+4)))]) (by kernel_rfl) (by kernel_rfl) (by kernel_rfl) (by kernel_rfl) ?_
   refine Q41 (b:=1) (e:=25) (sz:=5) (es:=l.map Ak) (o:=i*5+4) (i:=i) (j:=4) (a:=(.agg [(.int .i64 ((nth l i).kind)),(.str ((nth l i).name)),(.int .i64 ((nth l i).op)),(.str ((nth l i).evr)),(.row 5 (nth l i).args.length (depAt (nth l i).args))])) (r:=(.agg [(.int .i64 ((nth l i).kind)),(.str ((nth l i).name)),(.int .i64 ((nth l i).op)),(.str ((nth l i).evr)),(.row 5 ((nth l i).args).length (depAt ((nth l i).args)))])) (v:=(.row 5 ((nth l i).args).length (depAt ((nth l i).args)))) (s':=[(0,(.own 1)),(7,(.own 1)),(8,(.int .i64 (((l.map Ak).length:Int)))),(9,(.int .i64 ((i:Int)))),(14,(.own 1)),(15,(.int .i64 ((i:Int)))),(18,(.row 5 ((nth l i).args).length (depAt ((nth l i).args)))),(19,(.op 1 (i*5))),(20,(.op 1 (i*5+4)))]) (by kernel_rfl) (by kernel_rfl) rfl (by kernel_rfl) (by kernel_rfl) (Mb (l:=l) Ak (by omega)) (by kernel_rfl) (by kernel_rfl) ?_
   refine B5 ?_
   refine Ap ?_
   refine Av 0 [] [0,7,8,9] [] hk0 v0 (cc 0 (p:=(-9223372036854775808≤(i:Int)+1∧(i:Int)+1≤9223372036854775807)) (by omega)<|c0) ?_
   refine⟨by kernel_rfl,_,?_,i+1,?_,(Eq.trans (b:=(⟨[(0,(.own 1)),(7,(.own 1)),(8,(.int .i64 (((l.map Ak).length:Int)))),(9,(.int .i64 ((i:Int)+1)))],[(1,(.grow ((l.map Ak).set i (.agg [(.int .i64 ((nth l i).kind)),(.str ((nth l i).name)),(.int .i64 ((nth l i).op)),(.str ((nth l i).evr)),(.row 5 ((nth l i).args).length (depAt ((nth l i).args)))])) 25 5))],2⟩:St)) (by kernel_rfl) (congrArg (fun es=>St.mk _ [(1,AO.grow es _ _)] _) (Q6u Ak l i))),rfl⟩
   all_goals omega
  ·refine Bt ?_
   refine Aa [] [2] ?_
   refine Ah ?_
   refine RK wR [(.row 5 (l.map Ak).length (fun ix=>(l.map Ak).getD ix Bp))] ?_
   simp only[An]
   exact(Same.grown (f:=Ak) (l:=l) rfl).trans (Oa l).same
theorem Q8o (l:List DepT):argsSize l≤4194304→FnV Tryz.prog 113 [Dy l] (.row 5 l.length (depAt l)):=by
 have key:∀n (l:List DepT),argsSize l≤n→argsSize l≤4194304→FnV Tryz.prog 113 [Dy l] (.row 5 l.length (depAt l)):=by
  intro n
  induction n with
  |zero=>exact fun l h hs=>Ym l hs fun i hi=>by have:=Q30 hi;omega
  |succ n ih=>exact fun l h hs=>Ym l hs fun i hi=>by have:=Q30 hi;exact ih _ (by omega) (by omega)
 exact key _ l (Nat.le_refl _)
theorem Kk (l:List DepT) (hs:argsSize l≤4194304):FnV Tryz.prog 113 [Dy l] (Dy l):=(Q8o l hs).to (Ho l).same
theorem Q24 (p : PkgT) (hs : p.depSize ≤ 4194304) (hf : p.files.length ≤ 4611686018427) :
  FnV Tryz.prog 50 [(Ar p)] (Ar p):=by
 unfold PkgT.depSize at hs
 refine A5 [.cell 2 38] Tryz.func50 rfl Tryz.ntmps50 rfl rfl (fun B F hF=>?_)
 refine Aa [] [1,2] ?_
 refine Ad ?_
 refine Ad ?_
 refine Ap ?_
 refine J7 [.tmp 2] (al:=[(.ptr 0 0)]) (s0:=[(1,(.ptr 0 0)),(2,(.ptr 1 0))]) (by kernel_rfl) (by exact Q2p) (by kernel_rfl) Tryz.func112 rfl Tryz.ntmps112 rfl (by kernel_rfl) (by kernel_rfl) (fun F1 hF1 hle1=>?_)
 refine Aa [] [0] ?_
 refine C2 [] [2] [] hk0 v0 c0 ?_
 refine Ah ?_
 refine G4 (.inl rfl) (al:=[(.sl 2 0 7 7 false)]) (s':=[(1,(.ptr 0 0)),(2,(.ptr 1 0)),(5,(.sl 2 0 7 7 false))]) (by kernel_rfl) (by kernel_rfl) ?_
 refine Av 1 [] [1,2,5,6,7] [] hk0 v0 c0 ?_
 refine A1 ?_
 refine Rf 8 ?_
 refine Fs ?_
 refine Aa [] [1,2,5,6,7,8] ?_
 refine Ad ?_
 refine Gd (by kernel_rfl) ?_
 refine Ai ?_
 refine Ad ?_
 refine A1 ?_
 refine Aa [] [1,2,4,5,6,7] ?_
 refine Ap ?_
 refine Av 0 [] [1,2,5,6,7] [] (hk 4 Jt (Kk p.provides (by omega))<|hk0) v0 c0 ?_
 refine Ap ?_
 refine Av 0 [] [1,2,5,6,7] [] hk0 v0 (cc 0 (p:=(-9223372036854775808≤(1:Int)∧(1:Int)≤9223372036854775807)) (by omega)<|c0) ?_
 refine Fs ?_
 refine Aa [] [1,2,5,6,7,8] ?_
 refine Ad ?_
 refine Gd (by kernel_rfl) ?_
 refine Ai ?_
 refine Ad ?_
 refine A1 ?_
 refine Aa [] [1,2,4,5,6,7] ?_
 refine Ap ?_
 refine Av 0 [] [1,2,5,6,7] [] (hk 4 Jt (Kk p.requires (by omega))<|hk0) v0 c0 ?_
 refine Ap ?_
 refine Av 0 [] [1,2,5,6,7] [] hk0 v0 (cc 0 (p:=(-9223372036854775808≤(2:Int)∧(2:Int)≤9223372036854775807)) (by omega)<|c0) ?_
 refine Fs ?_
 refine Aa [] [1,2,5,6,7,8] ?_
 refine Ad ?_
 refine Gd (by kernel_rfl) ?_
 refine Ai ?_
 refine Ad ?_
 refine A1 ?_
 refine Aa [] [1,2,4,5,6,7] ?_
 refine Ap ?_
 refine Av 0 [] [1,2,5,6,7] [] (hk 4 Jt (Kk p.pre (by omega))<|hk0) v0 c0 ?_
 refine Ap ?_
 refine Av 0 [] [1,2,5,6,7] [] hk0 v0 (cc 0 (p:=(-9223372036854775808≤(3:Int)∧(3:Int)≤9223372036854775807)) (by omega)<|c0) ?_
 refine Fs ?_
 refine Aa [] [1,2,5,6,7,8] ?_
 refine Ad ?_
 refine Gd (by kernel_rfl) ?_
 refine Ai ?_
 refine Ad ?_
 refine A1 ?_
 refine Aa [] [1,2,4,5,6,7] ?_
 refine Ap ?_
 refine Av 0 [] [1,2,5,6,7] [] (hk 4 Jt (Kk p.conflicts (by omega))<|hk0) v0 c0 ?_
 refine Ap ?_
 refine Av 0 [] [1,2,5,6,7] [] hk0 v0 (cc 0 (p:=(-9223372036854775808≤(4:Int)∧(4:Int)≤9223372036854775807)) (by omega)<|c0) ?_
 refine Fs ?_
 refine Aa [] [1,2,5,6,7,8] ?_
 refine Ad ?_
 refine Gd (by kernel_rfl) ?_
 refine Ai ?_
 refine Ad ?_
 refine A1 ?_
 refine Aa [] [1,2,4,5,6,7] ?_
 refine Ap ?_
 refine Av 0 [] [1,2,5,6,7] [] (hk 4 Jt (Kk p.obsoletes (by omega))<|hk0) v0 c0 ?_
 refine Ap ?_
 refine Av 0 [] [1,2,5,6,7] [] hk0 v0 (cc 0 (p:=(-9223372036854775808≤(5:Int)∧(5:Int)≤9223372036854775807)) (by omega)<|c0) ?_
 refine Fs ?_
 refine Aa [] [1,2,5,6,7,8] ?_
 refine Ad ?_
 refine Gd (by kernel_rfl) ?_
 refine Ai ?_
 refine Ad ?_
 refine A1 ?_
 refine Aa [] [1,2,4,5,6,7] ?_
 refine Ap ?_
 refine Av 0 [] [1,2,5,6,7] [] (hk 4 Jt (Kk p.recommends (by omega))<|hk0) v0 c0 ?_
 refine Ap ?_
 refine Av 0 [] [1,2,5,6,7] [] hk0 v0 (cc 0 (p:=(-9223372036854775808≤(6:Int)∧(6:Int)≤9223372036854775807)) (by omega)<|c0) ?_
 refine Fs ?_
 refine Aa [] [1,2,5,6,7,8] ?_
 refine Ad ?_
 refine Gd (by kernel_rfl) ?_
 refine Ai ?_
 refine Ad ?_
 refine A1 ?_
 refine Aa [] [1,2,4,5,6,7] ?_
 refine Ap ?_
 refine Av 0 [] [1,2,5,6,7] [] (hk 4 Jt (Kk p.supplements (by omega))<|hk0) v0 c0 ?_
 refine Ap ?_
 refine Av 0 [] [1,2,5,6,7] [] hk0 v0 (cc 0 (p:=(-9223372036854775808≤(7:Int)∧(7:Int)≤9223372036854775807)) (by omega)<|c0) ?_
 refine Fs ?_
 refine Aa [] [1,2,5,6,7,8] ?_
 refine Ad ?_
 refine Eh (by kernel_rfl) ?_
 refine Bt ?_
 refine Af [] [1,2] [] (hk 2 X4m (X5g p.files hf)<|hk0) v0 c0 ?_
 refine Aa [] [2] ?_
 refine Ah ?_
 refine RK wR [(Ar p)] ?_
 exact Same.of_eq rfl
end Sv
end
section
open Go Go.RowKit
namespace Sv
theorem Q0t {l:List UInt8} {p:Nat→Bool} (hp:∀r,128≤r→p r=true):∀(fuel pos:Nat),l.length≤pos+fuel→decide (Lib.idxFuncFrom p true ⟨l.toArray⟩ fuel pos < 0)=(l.drop pos).all (fun b => !p b.toNat)
  |0,pos,h=>by
    rw[List.drop_of_length_le (by omega)];rfl
  |fuel+1,pos,h=>by
    have hsz:(⟨l.toArray⟩:ByteArray).size=l.length:=Hb l
    by_cases hpos:pos < l.length
    · have hdrop : l.drop pos = As l pos :: l.drop (pos + 1) := by
        rw[List.drop_eq_getElem_cons hpos,Jx hpos]
      rw[hdrop,List.all_cons]
      simp only[Lib.idxFuncFrom,hsz,hpos,if_true]
      by_cases ha:(As l pos).toNat < 128
      · rw[X45 hpos ha]
        simp only
        cases hc:p (As l pos).toNat with
        |true=>simp
        |false =>
          have:=Q0t (l:=l) hp fuel (pos+1) (by omega)
          simpa using this
      · have hh:=X44 hpos (by omega)
        have h1:=hp _ hh.1
        have h2:=hp (As l pos).toNat (by omega)
        rw[h1,h2];simp
    · rw[List.drop_of_length_le (by omega)]
      have:¬pos < (⟨l.toArray⟩:ByteArray).size:=by rw[hsz];exact hpos
      simp[Lib.idxFuncFrom,this]
theorem X1p {l:List UInt8} {p:Nat→Bool} (hp:∀r,128≤r→p r=true):decide (Lib.idxFunc p true ⟨l.toArray⟩ < 0)=l.all (fun b => !p b.toNat):=by
  have:=Q0t (l:=l) hp l.length 0 (by omega)
  rw[List.drop_zero] at this
  rw[←this]
  unfold Lib.idxFunc
  rw[show(⟨l.toArray⟩:ByteArray).size=l.length from Hb l]
theorem X8d (s : List UInt8) (g : Nat) (cap : List AV) (p : Nat → Bool) (he : Au Tryz.prog g) (hc : frzl cap = true) (h : ∀ x : Nat, x ≤ 1114111 → FnV Tryz.prog g (.int .i32 x :: cap) (.bool (p x))) :
    FnV Tryz.prog 105 [.str s,.fn g [] cap] (.int .i64 (Lib.idxFunc p true ⟨s.toArray⟩)):=by
  intro F w vs hF hv
  obtain⟨v,r1,rfl,h1,hv⟩:=hv.cons_inv
  obtain⟨v2,rfl,h2⟩:=hv.single_inv
  simp only[VR] at h1 h2
  subst h1
  obtain⟨vf,vc,q1,q2,rfl⟩:=h2
  rw[q1.nil_inv]
  refine(Tryz.strings_IndexFunc_grows g vc.toArray (fun args w=>he args w) p ⟨s.toArray⟩ w ?_).mono ?_
  · intro W x hx hb
    have hF':Fro F W:=fun b o e=>(hb.block b (Fc (hF b o e))).trans (hF b o e)
    have key:Calls Tryz.prog g (Value.int .i32 x::vc).toArray W (fun e w'=>e = .returned (.bool (p x))∧Below W.heap.size W w'):=by
      refine(h x hx F W (.int .i32 x::vc) hF' (.cons (by simp only[VR]) q2)).mono ?_
      rintro e w' ⟨v,he,hb',F',_,_,_,hr⟩
      simp only[VR] at hr;subst hr
      exact⟨he,hb'⟩
    have e:(#[Proofs.encR x]++vc.toArray)=(Value.int .i32 x::vc).toArray:=by apply Array.ext';simp[Proofs.encR]
    rw[e];exact key
  · rintro e w' ⟨he,hb⟩
    exact⟨_,he,hb,F,fun _ _ e=>e,fun b o e=>(hb.block b (Fc (hF b o e))).trans (hF b o e),fun _ _ e => .inl e,by simp only[VR]⟩
theorem Ou (s:List UInt8) (c:UInt8) (hl:s.length≤9223372036854775807):FnV Tryz.prog 111 [.str s,.str [c]] (.bool (Bk s c)):=by
  intro F w vs hF hv
  obtain⟨v,r1,rfl,h1,hv⟩:=hv.cons_inv
  obtain⟨v2,rfl,h2⟩:=hv.single_inv
  simp only[VR] at h1 h2
  subst h1 h2
  refine(X8h s c w hl).mono ?_
  rintro e w' ⟨v,he,rfl,rfl⟩
  exact⟨_,he,Below.refl _ _,F,fun _ _ e=>e,hF,fun _ _ e => .inl e,by simp only[VR]⟩
theorem Q95 {l:List UInt8} (h:Bq l=true):0 < l.length:=by
  cases l with
  |nil=>exact absurd h (by decide)
  |cons a r=>simp
theorem X6c {α:Type} {l:List α} (p:α→Bool):(l.any fun x => !p x) = !l.all p:=by
  induction l with
  |nil=>rfl
  |cons a r ih=>simp only[List.any_cons,List.all_cons,ih,Bool.not_and]
end Sv
end
section
open Go Go.RowKit
namespace Sv
attribute [local irreducible] SW SO Bn
set_option maxHeartbeats 1000000
set_option maxRecDepth 100000
end Sv
end
section
open Go Go.RowKit
namespace Sv
attribute [local irreducible] SW SO Bn
set_option maxHeartbeats 400000
set_option maxRecDepth 100000
end Sv
end
section
open Go Go.RowKit
namespace Sv
set_option maxHeartbeats 400000
set_option maxRecDepth 100000
section
variable {P : Program} {ds : List Deferred}
variable {B : Bas} {F : Cx} {n : Nat} {K : Exit → St → Prop} {x : St}
def SWD (P:Program) (ds:List Deferred) (n:Nat) (c:Code) (B:Bas) (F:Cx) (K:Exit→St→Prop) (x:St):Prop:=∀φ σ w,Holds B F n x φ σ w→D.W P ds n c (Mn B F n K) σ w
end
attribute [local irreducible] SW SO SWD Bn
end Sv
end
section
open Go Go.RowKit
namespace Sv
attribute [local irreducible] SW SO Bn
set_option maxHeartbeats 1000000
set_option maxRecDepth 100000
theorem X3u:Au Tryz.prog 167:=Ay Tryz.func167 (by kernel_rfl) rfl
theorem X4p:Au Tryz.prog 109:=Ay Tryz.func109 (by kernel_rfl) rfl
theorem Q2e:Au Tryz.prog 168:=Ay Tryz.func168 (by kernel_rfl) rfl
theorem Ml:Au Tryz.prog 111:=Ay Tryz.func111 (by kernel_rfl) rfl
theorem X4s:Au Tryz.prog 105:=Ay Tryz.func105 (by kernel_rfl) rfl
theorem N8:Au Tryz.prog 45:=Ay Tryz.func45 (by kernel_rfl) rfl
theorem N6:Au Tryz.prog 96:=Ay Tryz.func96 (by kernel_rfl) rfl
theorem N9:Au Tryz.prog 107:=Ay Tryz.func107 (by kernel_rfl) rfl
theorem Up:Au Tryz.prog 153:=Ay Tryz.func153 (by kernel_rfl) rfl
theorem Ub:Au Tryz.prog 95:=Ay Tryz.func95 (by kernel_rfl) rfl
theorem Q1w:Au Tryz.prog 51:=Ay Tryz.func51 (by kernel_rfl) rfl
theorem X4q:Au Tryz.prog 108:=Ay Tryz.func108 (by kernel_rfl) rfl
theorem X26:Au Tryz.prog 49:=Ay Tryz.func49 (by kernel_rfl) rfl
theorem X4u:Au Tryz.prog 102:=Ay Tryz.func102 (by kernel_rfl) rfl
theorem X4t:Au Tryz.prog 103:=Ay Tryz.func103 (by kernel_rfl) rfl
theorem Q2q:Au Tryz.prog 104:=Ay Tryz.func104 (by kernel_rfl) rfl
theorem X4r:Au Tryz.prog 106:=Ay Tryz.func106 (by kernel_rfl) rfl
theorem X4n:Au Tryz.prog 110:=Ay Tryz.func110 (by kernel_rfl) rfl
theorem X33:Au Tryz.prog 154:=Ay Tryz.func154 (by kernel_rfl) rfl
theorem X32:Au Tryz.prog 155:=Ay Tryz.func155 (by kernel_rfl) rfl
theorem X3n:Au Tryz.prog 194:=Ay Tryz.func194 (by kernel_rfl) rfl
theorem X31:Au Tryz.prog 156:=Ay Tryz.func156 (by kernel_rfl) rfl
theorem X30:Au Tryz.prog 157:=Ay Tryz.func157 (by kernel_rfl) rfl
theorem X2v:Au Tryz.prog 97:=Ay Tryz.func97 (by kernel_rfl) rfl
theorem Q55 (l : List (List UInt8)) (a : AV) (p : (List UInt8) → Bool) (hl : l.length ≤ 4611686018427387904) (ha : ∀ i, i < l.length → FunV Tryz.prog a [(.str (nth l i))] (.bool (p (nth l i)))) :
  FnV Tryz.prog 167 [(C4 l),(.clo a)] (.int .i64 (B3 p l)):=by
 refine A5 [.tmp 4] Tryz.func167 rfl Tryz.ntmps167 rfl rfl (fun B F hF=>?_)
 refine Aa [] [0,1] ?_
 refine Ad ?_
 refine Aa [] [0,1,7,8] ?_
 refine A1 ?_
 refine Bz (fun g y=>∃(i:Nat),i≤l.length∧(∀j,j < i→p (nth l j)=false)∧y=⟨[(0,(C4 l)),(1,(.clo a)),(7,(.int .i64 ((l.length:Int)))),(8,(.int .i64 ((i:Int))))],[],0⟩∧g=l.length-i) [0,1,7,8] 0 _ (by omega) ⟨0,(by omega),(by exact fun j hj=>by omega),(by kernel_rfl),rfl⟩ ?_
 rintro g1 y1 ⟨i,f1_1,f1_2,rfl,rfl⟩
 refine Aa [] [0,1,7,8,9] ?_
 refine Ad ?_
 refine A6 (p:=(i:Int) < (l.length:Int)) (by kernel_rfl) (fun c1=>?_) (fun c1=>?_)
 ·refine Ai ?_
  refine Ad ?_
  refine A1 ?_
  refine Aa [] [0,1,5,7,8] ?_
  refine Ad ?_
  refine Ap ?_
  refine Br 5 0 [] [0,1,5,7,8,11,15] [] hk0 v0 (cc 3 (p:=(0≤(i:Int)∧i < l.length)) (by omega)<|c0) ?_
  refine Fu (s':=[(0,(C4 l)),(1,(.clo a)),(5,(.int .i64 ((i:Int)))),(7,(.int .i64 ((l.length:Int)))),(8,(.int .i64 ((i:Int)))),(11,(.clo a)),(15,(.str (nth l i))),(16,(.bool (p (nth l i))))]) (a:=(.clo a)) (al:=[(.str (nth l i))]) (r:=(.bool (p (nth l i)))) (by kernel_rfl) (by kernel_rfl) (by kernel_rfl) (by kernel_rfl) (by kernel_rfl) ((ha i (by omega)).clo) (by kernel_rfl) ?_
  refine B5 ?_
  refine A8 (q:=p (nth l i)) (by kernel_rfl) (fun c2=>?_) (fun c2=>?_)
  ·try simp only[Ao] at c2
   refine Aa [] [4] ?_
   refine Ah ?_
   refine RK wR [(.int .i64 ((i:Int)))] ?_
   exact Same.of_eq (by rw[Kw (by omega) f1_2 (by simp_all)];rfl)
  ·try simp only[Ao] at c2
   refine Ai ?_
   refine Ap ?_
   refine Av 0 [] [0,1,7,8] [] hk0 v0 (cc 0 (p:=(-9223372036854775808≤(i:Int)+1∧(i:Int)+1≤9223372036854775807)) (by omega)<|c0) ?_
   refine⟨by kernel_rfl,_,?_,i+1,?_,?_,(by kernel_rfl),rfl⟩
   ·omega
   ·omega
   ·intro j hj
    by_cases h:j=i
    ·subst h;simp_all
    ·exact f1_2 j (by omega)
 ·refine Bt ?_
  refine Aa [] [4] ?_
  refine Ah ?_
  refine RK wR [(.int .i64 (-1))] ?_
  exact Same.of_eq (by rw[Kv (fun j hj=>f1_2 j (by omega))];rfl)
theorem Q56 (l : List (List UInt8)) (a : AV) (p : (List UInt8) → Bool) (hl : l.length ≤ 4611686018427387904) (ha : ∀ i, i < l.length → FunV Tryz.prog a [(.str (nth l i))] (.bool (p (nth l i)))) :
  FnV Tryz.prog 109 [(C4 l),(.clo a)] (.bool (l.any p)):=by
 refine A5 [.tmp 4] Tryz.func109 rfl Tryz.ntmps109 rfl rfl (fun B F hF=>?_)
 refine Aa [] [0,1] ?_
 refine Af [] [4] [] (hk 2 X3u (Q55 l a p hl ha)<|hk0) v0 c0 ?_
 refine Ah ?_
 refine RK wR [(.bool (decide (0≤(B3 p l))))] ?_
 exact Same.of_eq (by simp only[An];rw[Kx])
def Gn (i:Nat) (d:DepT):Bool:=decide (Ct d=0)&&((!(i == 0||i == 4))||decide (d.kind=1))&&((!(i == 0))||decide (d.op=0)||decide (d.op=2))
def D7 (i:Nat) (l:List DepT):Bool:=decide (l.length≤16)&&l.all (Gn i)
def Ga (p:PkgT):Bool:=D7 0 p.provides&&D7 1 p.requires&&D7 2 p.pre&&D7 3 p.conflicts&&D7 4 p.obsoletes&&D7 5 p.recommends&&D7 6 p.supplements
theorem all_nth {α:Type} [Inhabited α] {p:α→Bool} {l:List α}:l.all p=true↔∀j,j < l.length→p (nth l j)=true:=by
 constructor
 ·intro h j hj
  rw[show nth l j=l[j] by simp[nth,hj]];exact List.all_eq_true.1 h _ (List.getElem_mem hj)
 ·intro h
  refine List.all_eq_true.2 fun x hx=>?_
  obtain⟨j,hj,rfl⟩:=List.getElem_of_mem hx
  have:=h j hj
  rwa [show nth l j=l[j] by simp[nth,hj]] at this
theorem Z7 {i:Nat} {l:List DepT} {k:Nat} (h:l.length≤16) (hk:l.length≤k) (h2:∀j,j < k→Gn i (nth l j)=true):D7 i l=true:=by
 unfold D7
 rw[all_nth.2 fun j hj=>h2 j (by omega),decide_eq_true h];rfl
def PkgT.list (p:PkgT):Nat→List DepT
 |0=>p.provides
 |1=>p.requires
 |2=>p.pre
 |3=>p.conflicts
 |4=>p.obsoletes
 |5=>p.recommends
 |_=>p.supplements
theorem Q2v {p:PkgT} (i:Nat) (hi:i < 7) (h:D7 i (PkgT.list p i)=false):Ga p=false:=by
 have:i=0∨i=1∨i=2∨i=3∨i=4∨i=5∨i=6:=by omega
 rcases this with rfl|rfl|rfl|rfl|rfl|rfl|rfl<;>(unfold Ga;simp only[PkgT.list] at h;simp[h])
theorem Q2w {p:PkgT} (i:Nat) (hi:i < 7) (h:16 < (PkgT.list p i).length):Ga p=false:=Q2v i hi (by unfold D7;rw[decide_eq_false (by omega)];rfl)
theorem Qv {p:PkgT} (i:Nat) {j:Nat} (hi:i < 7) (hj:j < (PkgT.list p i).length) (h:Gn i (nth (PkgT.list p i) j)=false):Ga p=false:=Q2v i hi (by
 unfold D7
 have:(PkgT.list p i).all (Gn i)=false:=by
  cases hq:(PkgT.list p i).all (Gn i) with
  |false=>rfl
  |true=>rw[all_nth.1 hq j hj] at h;cases h
 rw[this,Bool.and_false])
theorem X40 {p:PkgT} (h0:D7 0 p.provides=true) (h1:D7 1 p.requires=true) (h2:D7 2 p.pre=true) (h3:D7 3 p.conflicts=true) (h4:D7 4 p.obsoletes=true) (h5:D7 5 p.recommends=true) (h6:D7 6 p.supplements=true):Ga p=true:=by
 unfold Ga;rw[h0,h1,h2,h3,h4,h5,h6];rfl
theorem O8 {i:Nat} (h:i < 7):i=0∨i=1∨i=2∨i=3∨i=4∨i=5∨i=6:=by omega
theorem Q2x {p:PkgT} (h:∀j,j < 7→D7 j (PkgT.list p j)=true):Ga p=true:=X40 (h 0 (by omega)) (h 1 (by omega)) (h 2 (by omega)) (h 3 (by omega)) (h 4 (by omega)) (h 5 (by omega)) (h 6 (by omega))
theorem Z5 {p:PkgT} (h:p.depSize≤4194304) {i k:Nat} (hi:i < 7) (hk:k < (PkgT.list p i).length):(nth (PkgT.list p i) k).size≤4194304:=by
 have h1:=K7 hk
 unfold PkgT.depSize at h
 rcases O8 hi with rfl|rfl|rfl|rfl|rfl|rfl|rfl<;>(simp only[PkgT.list] at h1 ⊢;omega)
theorem Z6 {p:PkgT} (h:p.depSize≤4194304) {i:Nat} (hi:i < 7):(PkgT.list p i).length≤4194304:=by
 unfold PkgT.depSize at h
 have h0:=D2 p.provides
 have h1:=D2 p.requires
 have h2:=D2 p.pre
 have h3:=D2 p.conflicts
 have h4:=D2 p.obsoletes
 have h5:=D2 p.recommends
 have h6:=D2 p.supplements
 rcases O8 hi with rfl|rfl|rfl|rfl|rfl|rfl|rfl<;>(simp only[PkgT.list];omega)
theorem X0x (p : PkgT) :
  FnV Tryz.prog 112 [(.fp (Ar p))] (.row 1 7 (fun i => .fp (Ac 5 Ak (PkgT.list p i)))):=by
 refine A5 [.tmp 2] Tryz.func112 rfl Tryz.ntmps112 rfl rfl (fun B F hF=>?_)
 refine Aa [] [0] ?_
 refine C2 [] [2] [] hk0 v0 c0 ?_
 refine Ah ?_
 refine RK wR [(.row 1 7 (fun ix=>(E3 1 7 [(.fp (Ac 5 Ak p.provides)),(.fp (Ac 5 Ak p.requires)),(.fp (Ac 5 Ak p.pre)),(.fp (Ac 5 Ak p.conflicts)),(.fp (Ac 5 Ak p.obsoletes)),(.fp (Ac 5 Ak p.recommends)),(.fp (Ac 5 Ak p.supplements))]).getD ix Bp))] ?_
 simp only[An]
 exact(Imp.row fun i hi=>Imp.of_eq (by rcases O8 hi with rfl|rfl|rfl|rfl|rfl|rfl|rfl<;>rfl)).same
theorem Q7m (p : PkgT) :
  FnV Tryz.prog 194 [(Ar p)] (.row 1 7 (fun i=>Ac 5 Ak (PkgT.list p i))):=by
 refine A5 [.tmp 2] Tryz.func194 rfl Tryz.ntmps194 rfl rfl (fun B F hF=>?_)
 refine Af [] [1] [(1,1)] hk0 v0 c0 ?_
 refine Aa [] [2] ?_
 refine Ah ?_
 refine RK wR [(.row 1 7 (fun ix=>(E3 1 7 [(Ac 5 Ak p.provides),(Ac 5 Ak p.requires),(Ac 5 Ak p.pre),(Ac 5 Ak p.conflicts),(Ac 5 Ak p.obsoletes),(Ac 5 Ak p.recommends),(Ac 5 Ak p.supplements)]).getD ix Bp))] ?_
 simp only[An]
 exact(Imp.row fun i hi=>Imp.of_eq (by rcases O8 hi with rfl|rfl|rfl|rfl|rfl|rfl|rfl<;>rfl)).same
theorem X4z (p : PkgT) (hs : p.depSize ≤ 4194304) :
  FnV Tryz.prog 108 [(Ar p)] (.bool (Ga p)):=by
 refine A5 [.tmp 2] Tryz.func108 rfl Tryz.ntmps108 rfl rfl (fun B F hF=>?_)
 refine Af [] [1] [(1,1)] hk0 v0 c0 ?_
 refine Ad ?_
 refine Af [] [8,9,10] [] (hk 0 Q2p (X0x p)<|hk0) v0 c0 ?_
 refine A1 ?_
 refine Bz (fun g y=>∃(i:Nat),i≤7∧(∀j,j < i→D7 j (PkgT.list p j)=true)∧y=⟨[(8,(.row 1 7 (fun i => .fp (Ac 5 Ak (PkgT.list p i))))),(9,(.int .i64 7)),(10,(.int .i64 ((i:Int))))],[],1⟩∧g=7-i) [8,9,10] 1 _ (by omega) ⟨0,(by omega),(by exact fun j hj=>by omega),(by kernel_rfl),rfl⟩ ?_
 rintro g1 y1 ⟨i,f1_1,f1_2,rfl,rfl⟩
 refine Aa [] [8,9,10,11] ?_
 refine Ad ?_
 refine A6 (p:=(i:Int) < 7) (by kernel_rfl) (fun c1=>?_) (fun c1=>?_)
 ·have hi0:((i:Int)=0)=(i=0):=by rw[eq_iff_iff];omega
  have hi4:((i:Int)=4)=(i=4):=by rw[eq_iff_iff];omega
  have hll:=Z6 hs (i:=i) (by omega)
  refine Ai ?_
  refine Ad ?_
  refine A1 ?_
  refine Af [] [3,4,8,9,10] [] hk0 v0 (cc 1 (p:=(0≤(i:Int)∧i < 7)) (by omega)<|c0) ?_
  refine Ad ?_
  refine Aa [] [3,4,8,9,10,19] ?_
  refine A6 (p:=16 < ((PkgT.list p i).length:Int)) (by kernel_rfl) (fun c2=>?_) (fun c2=>?_)
  ·refine Aa [] [2] ?_
   refine Ah ?_
   refine RK wR [(.bool false)] ?_
   exact Same.of_eq (by rw[Q2w i (by omega) (by omega)];rfl)
  ·refine Ai ?_
   refine Aa [] [3,8,9,10,22,23,24] ?_
   refine A1 ?_
   refine Bz (fun g y=>∃(k:Nat),k≤(PkgT.list p i).length∧(∀j,j < k→Gn i (nth (PkgT.list p i) j)=true)∧y=⟨[(3,(.int .i64 ((i:Int)))),(8,(.row 1 7 (fun i => .fp (Ac 5 Ak (PkgT.list p i))))),(9,(.int .i64 7)),(10,(.int .i64 ((i:Int)))),(22,(Ac 5 Ak (PkgT.list p i))),(23,(.int .i64 (((PkgT.list p i).length:Int)))),(24,(.int .i64 ((k:Int))))],[],1⟩∧g=(PkgT.list p i).length-k) [3,8,9,10,22,23,24] 1 _ (by omega) ⟨0,(by omega),(by exact fun j hj=>by omega),(by kernel_rfl),rfl⟩ ?_
   rintro g2 y2 ⟨k,f2_1,f2_2,rfl,rfl⟩
   refine Aa [] [3,8,9,10,22,23,24,25] ?_
   refine Ad ?_
   refine A6 (p:=(k:Int) < ((PkgT.list p i).length:Int)) (by kernel_rfl) (fun c3=>?_) (fun c3=>?_)
   ·refine Ai ?_
    refine Ad ?_
    refine A1 ?_
    refine Af [] [3,6,8,9,10,22,23,24] [] hk0 v0 (cc 0 (p:=(0≤(k:Int)∧k < (PkgT.list p i).length)) (by omega)<|c0) ?_
    obtain⟨b1,hb1⟩:∃b,b=(!decide ((i:Int)=0)):=⟨_,rfl⟩
    obtain⟨b2,hb2⟩:∃b,b=(b1&&(!decide ((i:Int)=4))):=⟨_,rfl⟩
    obtain⟨b3,hb3⟩:∃b,b=(b2||(decide (((nth (PkgT.list p i) k).kind)=1))):=⟨_,rfl⟩
    have qh1:((b1=true→b1=true))∧((b1=true→b1=true))∧(((!b2)=true→(!b2)=true))∧(((!b2)=true→(!b2)=true))∧((b2=false→(!b2)=true)):=by
     first|omega|(simp;done)|(by_cases a1:Ct (nth (PkgT.list p i) k)=0<;>by_cases a2:DepT.kind (nth (PkgT.list p i) k)=1<;>by_cases a3:DepT.op (nth (PkgT.list p i) k)=0<;>by_cases a4:DepT.op (nth (PkgT.list p i) k)=2<;>by_cases b0:i=0<;>by_cases b4:i=4<;>simp_all)
    refine Af [31,32,35,36,37] [3,6,7,8,9,10,22,23,24] [(0,6)] hk0 (vk 3 30 (a:=.bool (!decide ((i:Int)=0))) (b:=.bool b1) (Imp.of_eq (by rw[hb1]))<|vk 7 34 (a:=.bool (b1&&(!decide ((i:Int)=4)))) (b:=.bool b2) (Imp.of_eq (by rw[hb2]))<|vk 11 38 (a:=.bool (b2||(decide (((nth (PkgT.list p i) k).kind)=1)))) (b:=.bool b3) (Imp.of_eq (by rw[hb3]))<|v0) (cc 4 (p:=(b1=true→b1=true)) qh1.1<|cc 5 (p:=(b1=true→b1=true)) qh1.2.1<|cc 8 (p:=((!b2)=true→(!b2)=true)) qh1.2.2.1<|cc 9 (p:=((!b2)=true→(!b2)=true)) qh1.2.2.2.1<|cc 10 (p:=(b2=false→(!b2)=true)) qh1.2.2.2.2<|c0) ?_
    obtain⟨b4,hb4⟩:∃b,b=((!b3)||(!decide ((Ct (nth (PkgT.list p i) k))=0))):=⟨_,rfl⟩
    have qh2:(((!(!b3))=true→(!(!b3))=true))∧(((!b3)=false→(!(!b3))=true))∧(((!b4)=true→(!b4)=true))∧(((!b4)=true→(!b4)=true))∧((((!b4)&&(decide ((i:Int)=0)))=true→((!b4)&&(decide ((i:Int)=0)))=true))∧((((!b4)&&(decide ((i:Int)=0)))=true→((!b4)&&(decide ((i:Int)=0)))=true))∧(((!b4)=true→((!b4)=true)∧((decide ((i:Int)=0))=true→((!b4)&&(decide ((i:Int)=0)))=true)))∧(((!b4)=true→(!b4)=true))∧((((!b4)&&((decide ((i:Int)=0))&&(!decide (((nth (PkgT.list p i) k).op)=0))))=true→((!b4)&&((decide ((i:Int)=0))&&(!decide (((nth (PkgT.list p i) k).op)=0))))=true))∧((((!b4)&&((decide ((i:Int)=0))&&(!decide (((nth (PkgT.list p i) k).op)=0))))=true→((!b4)&&((decide ((i:Int)=0))&&(!decide (((nth (PkgT.list p i) k).op)=0))))=true))∧(((!b4)=true→((!b4)=true)∧(((decide ((i:Int)=0))&&(!decide (((nth (PkgT.list p i) k).op)=0)))=true→((!b4)&&((decide ((i:Int)=0))&&(!decide (((nth (PkgT.list p i) k).op)=0))))=true)))∧((b4=false→(!b4)=true)):=by
     first|omega|(simp;done)|(by_cases a1:Ct (nth (PkgT.list p i) k)=0<;>by_cases a2:DepT.kind (nth (PkgT.list p i) k)=1<;>by_cases a3:DepT.op (nth (PkgT.list p i) k)=0<;>by_cases a4:DepT.op (nth (PkgT.list p i) k)=2<;>by_cases b0:i=0<;>by_cases b4:i=4<;>simp_all)
    refine Af [42,44,47,48,49,50,51,52,53,54,55,56,57,58] [3,8,9,10,22,23,24,59] [] (hkg 4 (!(!b3)) Ub (fun cg=>Q5k (nth (PkgT.list p i) k) (Z5 hs (by omega) (by omega)))<|hk0) (vk 7 45 (a:=.bool ((!b3)||(!decide ((Ct (nth (PkgT.list p i) k))=0)))) (b:=.bool b4) (Imp.of_eq (by rw[hb4]))<|v0) (cc 4 (p:=(!(!b3))=true→(!(!b3))=true) (by simp)<|cc 5 (p:=((!(!b3))=true→(!(!b3))=true)) qh2.1<|cc 6 (p:=((!b3)=false→(!(!b3))=true)) qh2.2.1<|cc 9 (p:=((!b4)=true→(!b4)=true)) qh2.2.2.1<|cc 10 (p:=((!b4)=true→(!b4)=true)) qh2.2.2.2.1<|cc 12 (p:=(((!b4)&&(decide ((i:Int)=0)))=true→((!b4)&&(decide ((i:Int)=0)))=true)) qh2.2.2.2.2.1<|cc 13 (p:=(((!b4)&&(decide ((i:Int)=0)))=true→((!b4)&&(decide ((i:Int)=0)))=true)) qh2.2.2.2.2.2.1<|cc 14 (p:=((!b4)=true→((!b4)=true)∧((decide ((i:Int)=0))=true→((!b4)&&(decide ((i:Int)=0)))=true))) qh2.2.2.2.2.2.2.1<|cc 15 (p:=((!b4)=true→(!b4)=true)) qh2.2.2.2.2.2.2.2.1<|cc 17 (p:=(((!b4)&&((decide ((i:Int)=0))&&(!decide (((nth (PkgT.list p i) k).op)=0))))=true→((!b4)&&((decide ((i:Int)=0))&&(!decide (((nth (PkgT.list p i) k).op)=0))))=true)) qh2.2.2.2.2.2.2.2.2.1<|cc 18 (p:=(((!b4)&&((decide ((i:Int)=0))&&(!decide (((nth (PkgT.list p i) k).op)=0))))=true→((!b4)&&((decide ((i:Int)=0))&&(!decide (((nth (PkgT.list p i) k).op)=0))))=true)) qh2.2.2.2.2.2.2.2.2.2.1<|cc 19 (p:=((!b4)=true→((!b4)=true)∧(((decide ((i:Int)=0))&&(!decide (((nth (PkgT.list p i) k).op)=0)))=true→((!b4)&&((decide ((i:Int)=0))&&(!decide (((nth (PkgT.list p i) k).op)=0))))=true))) qh2.2.2.2.2.2.2.2.2.2.2.1<|cc 20 (p:=(b4=false→(!b4)=true)) qh2.2.2.2.2.2.2.2.2.2.2.2<|c0) ?_
    refine A8 (q:=b4||(((decide ((i:Int)=0))&&(!decide (((nth (PkgT.list p i) k).op)=0)))&&(!decide (((nth (PkgT.list p i) k).op)=2)))) (by kernel_rfl) (fun c4=>?_) (fun c4=>?_)
    ·subst hb4 hb3 hb2 hb1
     try simp only[Ao] at c4
     refine Aa [] [2] ?_
     refine Ah ?_
     refine RK wR [(.bool false)] ?_
     exact Same.of_eq (by rw[Qv i (j:=k) (by omega) (by omega) (by unfold Gn;by_cases a1:Ct (nth (PkgT.list p i) k)=0<;>by_cases a2:DepT.kind (nth (PkgT.list p i) k)=1<;>by_cases a3:DepT.op (nth (PkgT.list p i) k)=0<;>by_cases a4:DepT.op (nth (PkgT.list p i) k)=2<;>by_cases b0:i=0<;>by_cases b4:i=4<;>simp_all)];rfl)
    ·subst hb4 hb3 hb2 hb1
     try simp only[Ao] at c4
     refine Ai ?_
     refine Ap ?_
     refine Av 0 [] [3,8,9,10,22,23,24] [] hk0 v0 (cc 0 (p:=(-9223372036854775808≤(k:Int)+1∧(k:Int)+1≤9223372036854775807)) (by omega)<|c0) ?_
     refine⟨by kernel_rfl,_,?_,k+1,?_,?_,(by kernel_rfl),rfl⟩
     ·omega
     ·omega
     ·intro j hj
      by_cases h:j=k
      ·subst h;unfold Gn;by_cases a1:Ct (nth (PkgT.list p i) j)=0<;>by_cases a2:DepT.kind (nth (PkgT.list p i) j)=1<;>by_cases a3:DepT.op (nth (PkgT.list p i) j)=0<;>by_cases a4:DepT.op (nth (PkgT.list p i) j)=2<;>by_cases b0:i=0<;>by_cases b4:i=4<;>simp_all
      ·exact f2_2 j (by omega)
   ·refine Bt ?_
    refine Ap ?_
    refine Av 0 [] [8,9,10] [] hk0 v0 (cc 0 (p:=(-9223372036854775808≤(i:Int)+1∧(i:Int)+1≤9223372036854775807)) (by omega)<|c0) ?_
    refine⟨by kernel_rfl,_,?_,i+1,?_,?_,(by kernel_rfl),rfl⟩
    ·omega
    ·omega
    ·intro j hj
     by_cases h:j=i
     ·subst h;exact Z7 (k:=k) (by omega) (by omega) f2_2
     ·exact f1_2 j (by omega)
 ·refine Bt ?_
  refine Aa [] [2] ?_
  refine Ah ?_
  refine RK wR [(.bool true)] ?_
  exact Same.of_eq (by rw[Q2x fun j hj=>f1_2 j (by omega)];rfl)
theorem Q7q (p : PkgT) (hs : p.depSize ≤ 4194304) :
  FnV Tryz.prog 156 [(Ar p)] (.bool (Ga p)):=by
 refine A5 [.tmp 2] Tryz.func156 rfl Tryz.ntmps156 rfl rfl (fun B F hF=>?_)
 refine Af [] [1] [(1,1)] hk0 v0 c0 ?_
 refine Af [] [3] [] (hk 1 X3n (Q7m p)<|hk0) v0 c0 ?_
 refine Ad ?_
 refine Aa [] [3,4] ?_
 refine A1 ?_
 refine Bz (fun g y=>∃(i:Nat),i≤7∧(∀j,j < i→D7 j (PkgT.list p j)=true)∧y=⟨[(3,(.row 1 7 (fun i=>Ac 5 Ak (PkgT.list p i)))),(4,(.int .i64 ((i:Int))))],[],1⟩∧g=7-i) [3,4] 1 _ (by omega) ⟨0,(by omega),(by exact fun j hj=>by omega),(by kernel_rfl),rfl⟩ ?_
 rintro g1 y1 ⟨i,f1_1,f1_2,rfl,rfl⟩
 refine Ad ?_
 refine Aa [] [3,4,12] ?_
 refine A6 (p:=(i:Int) < 7) (by kernel_rfl) (fun c1=>?_) (fun c1=>?_)
 ·have hi0:((i:Int)=0)=(i=0):=by rw[eq_iff_iff];omega
  have hi4:((i:Int)=4)=(i=4):=by rw[eq_iff_iff];omega
  have hll:=Z6 hs (i:=i) (by omega)
  refine Ai ?_
  refine Ad ?_
  refine A1 ?_
  refine Ad ?_
  refine Af [] [3,4,20] [] hk0 v0 (cc 2 (p:=(0≤(i:Int)∧i < 7)) (by omega)<|c0) ?_
  refine A6 (p:=16 < ((PkgT.list p i).length:Int)) (by kernel_rfl) (fun c2=>?_) (fun c2=>?_)
  ·refine Aa [] [2] ?_
   refine Ah ?_
   refine RK wR [(.bool false)] ?_
   exact Same.of_eq (by rw[Q2w i (by omega) (by omega)];rfl)
  ·refine Ai ?_
   refine Aa [] [3,4,5] ?_
   refine A1 ?_
   refine Bz (fun g y=>∃(k:Nat),k≤(PkgT.list p i).length∧(∀j,j < k→Gn i (nth (PkgT.list p i) j)=true)∧y=⟨[(3,(.row 1 7 (fun i=>Ac 5 Ak (PkgT.list p i)))),(4,(.int .i64 ((i:Int)))),(5,(.int .i64 ((k:Int))))],[],1⟩∧g=(PkgT.list p i).length-k) [3,4,5] 1 _ (by omega) ⟨0,(by omega),(by exact fun j hj=>by omega),(by kernel_rfl),rfl⟩ ?_
   rintro g2 y2 ⟨k,f2_1,f2_2,rfl,rfl⟩
   refine Ad ?_
   refine Af [] [3,4,5,27] [] hk0 v0 (cc 3 (p:=(0≤(i:Int)∧i < 7)) (by omega)<|c0) ?_
   refine A6 (p:=(k:Int) < ((PkgT.list p i).length:Int)) (by kernel_rfl) (fun c3=>?_) (fun c3=>?_)
   ·refine Ai ?_
    refine Ad ?_
    refine A1 ?_
    refine Af (CS:=[(2,(0≤(i:Int)∧i < 7)),(5,(0≤(k:Int)∧k < (PkgT.list p i).length))]) [] [3,4,5,6] [] hk0 v0 (by refine cc _ ?_<|cc _ ?_ c0<;>omega) ?_
    refine Ad ?_
    refine Af [] [3,4,5,6,39] [(0,6)] (hk 1 Q1w (Q7s (nth (PkgT.list p i) k) (Z5 hs (by omega) (by omega)))<|hk0) v0 c0 ?_
    refine Dt (p:=(Ct (nth (PkgT.list p i) k))=0) (by kernel_rfl) (fun c4=>?_) (fun c4=>?_)
    ·refine Aa [] [2] ?_
     refine Ah ?_
     refine RK wR [(.bool false)] ?_
     exact Same.of_eq (by rw[Qv i (j:=k) (by omega) (by omega) (by unfold Gn;by_cases a1:Ct (nth (PkgT.list p i) k)=0<;>by_cases a2:DepT.kind (nth (PkgT.list p i) k)=1<;>by_cases a3:DepT.op (nth (PkgT.list p i) k)=0<;>by_cases a4:DepT.op (nth (PkgT.list p i) k)=2<;>by_cases b0:i=0<;>by_cases b4:i=4<;>simp_all)];rfl)
    ·refine Ai ?_
     refine Ad ?_
     obtain⟨b1,hb1⟩:∃b,b=(decide ((i:Int)=0)):=⟨_,rfl⟩
     obtain⟨b2,hb2⟩:∃b,b=(b1||(decide ((i:Int)=4))):=⟨_,rfl⟩
     have qh1:(((!b1)=true→(!b1)=true))∧((b1=false→(!b1)=true))∧((b2=true→b2=true))∧((b2=true→b2=true))∧((b2=true→b2=true)):=by
      first|omega|(simp;done)|(by_cases a1:Ct (nth (PkgT.list p i) k)=0<;>by_cases a2:DepT.kind (nth (PkgT.list p i) k)=1<;>by_cases a3:DepT.op (nth (PkgT.list p i) k)=0<;>by_cases a4:DepT.op (nth (PkgT.list p i) k)=2<;>by_cases b0:i=0<;>by_cases b4:i=4<;>simp_all)
     refine Af [43,44,47,48,49] [3,4,5,6,50] [] hk0 (vk 3 42 (a:=.bool (decide ((i:Int)=0))) (b:=.bool b1) (Imp.of_eq (by rw[hb1]))<|vk 7 46 (a:=.bool (b1||(decide ((i:Int)=4)))) (b:=.bool b2) (Imp.of_eq (by rw[hb2]))<|v0) (cc 4 (p:=((!b1)=true→(!b1)=true)) qh1.1<|cc 5 (p:=(b1=false→(!b1)=true)) qh1.2.1<|cc 8 (p:=(b2=true→b2=true)) qh1.2.2.1<|cc 9 (p:=(b2=true→b2=true)) qh1.2.2.2.1<|cc 10 (p:=(b2=true→b2=true)) qh1.2.2.2.2<|c0) ?_
     refine A8 (q:=b2&&(!decide (((nth (PkgT.list p i) k).kind)=1))) (by kernel_rfl) (fun c5=>?_) (fun c5=>?_)
     ·subst hb2 hb1
      try simp only[Ao] at c5
      refine Aa [] [2] ?_
      refine Ah ?_
      refine RK wR [(.bool false)] ?_
      exact Same.of_eq (by rw[Qv i (j:=k) (by omega) (by omega) (by unfold Gn;by_cases a1:Ct (nth (PkgT.list p i) k)=0<;>by_cases a2:DepT.kind (nth (PkgT.list p i) k)=1<;>by_cases a3:DepT.op (nth (PkgT.list p i) k)=0<;>by_cases a4:DepT.op (nth (PkgT.list p i) k)=2<;>by_cases b0:i=0<;>by_cases b4:i=4<;>simp_all)];rfl)
     ·subst hb2 hb1
      try simp only[Ao] at c5
      refine Ai ?_
      obtain⟨b3,hb3⟩:∃b,b=(decide ((i:Int)=0)):=⟨_,rfl⟩
      obtain⟨b4,hb4⟩:∃b,b=(b3&&(!decide (((nth (PkgT.list p i) k).op)=0))):=⟨_,rfl⟩
      have qh2:((b3=true→b3=true))∧((b3=true→b3=true))∧((b3=true→b3=true))∧((b4=true→b4=true))∧((b4=true→b4=true))∧((b4=true→b4=true)):=by
       first|omega|(simp;done)|(by_cases a1:Ct (nth (PkgT.list p i) k)=0<;>by_cases a2:DepT.kind (nth (PkgT.list p i) k)=1<;>by_cases a3:DepT.op (nth (PkgT.list p i) k)=0<;>by_cases a4:DepT.op (nth (PkgT.list p i) k)=2<;>by_cases b0:i=0<;>by_cases b4:i=4<;>simp_all)
      refine Af [54,55,56,59,60,61] [3,4,5,62] [] hk0 (vk 3 53 (a:=.bool (decide ((i:Int)=0))) (b:=.bool b3) (Imp.of_eq (by rw[hb3]))<|vk 7 57 (a:=.bool (b3&&(!decide (((nth (PkgT.list p i) k).op)=0)))) (b:=.bool b4) (Imp.of_eq (by rw[hb4]))<|v0) (cc 4 (p:=(b3=true→b3=true)) qh2.1<|cc 5 (p:=(b3=true→b3=true)) qh2.2.1<|cc 6 (p:=(b3=true→b3=true)) qh2.2.2.1<|cc 9 (p:=(b4=true→b4=true)) qh2.2.2.2.1<|cc 10 (p:=(b4=true→b4=true)) qh2.2.2.2.2.1<|cc 11 (p:=(b4=true→b4=true)) qh2.2.2.2.2.2<|c0) ?_
      refine A8 (q:=b4&&(!decide (((nth (PkgT.list p i) k).op)=2))) (by kernel_rfl) (fun c6=>?_) (fun c6=>?_)
      ·subst hb4 hb3
       try simp only[Ao] at c6
       refine Aa [] [2] ?_
       refine Ah ?_
       refine RK wR [(.bool false)] ?_
       exact Same.of_eq (by rw[Qv i (j:=k) (by omega) (by omega) (by unfold Gn;by_cases a1:Ct (nth (PkgT.list p i) k)=0<;>by_cases a2:DepT.kind (nth (PkgT.list p i) k)=1<;>by_cases a3:DepT.op (nth (PkgT.list p i) k)=0<;>by_cases a4:DepT.op (nth (PkgT.list p i) k)=2<;>by_cases b0:i=0<;>by_cases b4:i=4<;>simp_all)];rfl)
      ·subst hb4 hb3
       try simp only[Ao] at c6
       refine Ai ?_
       refine Ap ?_
       refine Av 0 [] [3,4,5] [] hk0 v0 (cc 1 (p:=(-9223372036854775808≤(k:Int)+1∧(k:Int)+1≤9223372036854775807)) (by omega)<|c0) ?_
       refine⟨by kernel_rfl,_,?_,k+1,?_,?_,(by kernel_rfl),rfl⟩
       ·omega
       ·omega
       ·intro j hj
        by_cases h:j=k
        ·subst h;unfold Gn;by_cases a1:Ct (nth (PkgT.list p i) j)=0<;>by_cases a2:DepT.kind (nth (PkgT.list p i) j)=1<;>by_cases a3:DepT.op (nth (PkgT.list p i) j)=0<;>by_cases a4:DepT.op (nth (PkgT.list p i) j)=2<;>by_cases b0:i=0<;>by_cases b4:i=4<;>simp_all
        ·exact f2_2 j (by omega)
   ·refine Bt ?_
    refine Ap ?_
    refine Av 0 [] [3,4] [] hk0 v0 (cc 1 (p:=(-9223372036854775808≤(i:Int)+1∧(i:Int)+1≤9223372036854775807)) (by omega)<|c0) ?_
    refine⟨by kernel_rfl,_,?_,i+1,?_,?_,(by kernel_rfl),rfl⟩
    ·omega
    ·omega
    ·intro j hj
     by_cases h:j=i
     ·subst h;exact Z7 (k:=k) (by omega) (by omega) f2_2
     ·exact f1_2 j (by omega)
 ·refine Bt ?_
  refine Aa [] [2] ?_
  refine Ah ?_
  refine RK wR [(.bool true)] ?_
  exact Same.of_eq (by rw[Q2x fun j hj=>f1_2 j (by omega)];rfl)
end Sv
end
section
open Go Go.RowKit
namespace Sv
attribute [local irreducible] SW SO Bn
set_option maxHeartbeats 1000000
set_option maxRecDepth 100000
def Ff (x:Nat):Bool:=(decide (97≤x)&&decide (x≤122))||(decide (48≤x)&&decide (x≤57))||decide (x=95)
def Fi (x:Nat):Bool:=decide (32≤x)&&decide (x≤126)
def Gw (s:List UInt8) (most:Int) (q:Nat→Bool):Bool:=decide ((s.length:Int)≤most)&&decide (Lib.idxFunc (fun x => !q x) true ⟨s.toArray⟩ < 0)
theorem Q4j (s:List UInt8) (most:Int) {q:Nat→Bool} (hq:∀r,128≤r→q r=false):Gw s most q=(decide ((s.length:Int)≤most)&&s.all fun b=>q b.toNat):=by
 unfold Gw;rw[X1p (fun r hr=>by rw[hq r hr];rfl)];simp
theorem Q6n (r:Nat) (h:128≤r):Ff r=false:=by unfold Ff;simp;omega
theorem Q6v (r:Nat) (h:128≤r):Fi r=false:=by unfold Fi;simp;omega
theorem Q4h {s:List UInt8} {q:Nat→Bool} {i:Nat} (hi:i < s.length) (h:q (As s i).toNat=false):(s.all fun b=>q b.toNat)=false:=by
 rw[List.all_eq_false]
 rw[Jx hi] at h
 exact⟨s[i],List.getElem_mem hi,by simp[h]⟩
theorem Q4g {s:List UInt8} {q:Nat→Bool} {i:Nat} (hi:s.length≤i) (h:∀j,j < i→q (As s j).toNat=true):(s.all fun b=>q b.toNat)=true:=by
 rw[List.all_eq_true]
 intro x hx
 obtain⟨j,hj,rfl⟩:=List.getElem_of_mem hx
 have:=h j (by omega)
 rwa [Jx hj] at this
def Jz (s:List UInt8):Bool:=decide (1≤s.length)&&decide (s.length≤20)&&s.all fun b=>Ff b.toNat
def Ia (f:List UInt8):Bool:=Bk f 47&&Bq f
def Hf (s:List UInt8):Bool:=s.all fun b=>Fi b.toNat
def I1 (l:List (List UInt8)):Bool:=decide (l.length≤16)&&l.all Ia
def Q8 (l:List (List UInt8)):Bool:=l.any fun x => !Ia x
def C0 (p:PkgT):Int :=
 if Bq p.name=false then 60
 else if Cg p.evr≠0 then 61
 else if Jz p.arch=false then 62
 else if (decide (p.vendor.length≤60)&&Hf p.vendor)=false then 63
 else if Ga p=false then 64
 else if I1 p.files=false then 65
 else 0
def Iu (p:PkgT):Int :=
 if Bq p.name=false then 60
 else if ¬Cg p.evr=0 then 61
 else if p.arch=[]∨Gw p.arch 20 Ff=false then 62
 else if Gw p.vendor 60 Fi=false then 63
 else if Ga p=false then 64
 else if (16:Int) < (p.files.length:Int)∨Q8 p.files=true then 65
 else 0
theorem Kj (p:PkgT):Iu p=C0 p:=by
 have ha1:(p.arch=[]∨Gw p.arch 20 Ff=false)↔Jz p.arch=false:=by
  rw[Q4j p.arch 20 Q6n]
  unfold Jz
  cases h:p.arch with
  |nil=>simp
  |cons a r =>
   rw[show decide (1≤(a::r).length)=true by simp,Bool.true_and]
   rw[show decide (((a::r).length:Int)≤20)=decide ((a::r).length≤20) from decide_eq_decide.2 (by omega)]
   simp
 have ha2:Gw p.vendor 60 Fi=(decide (p.vendor.length≤60)&&Hf p.vendor):=by
  unfold Hf
  rw[Q4j p.vendor 60 Q6v,show decide ((p.vendor.length:Int)≤60)=decide (p.vendor.length≤60) from decide_eq_decide.2 (by omega)]
 have ha3:((16:Int) < (p.files.length:Int)∨Q8 p.files=true)↔I1 p.files=false:=by
  unfold Q8 I1
  rw[X6c]
  simp only[Bool.and_eq_false_iff,decide_eq_false_iff_not,Bool.not_eq_true']
  constructor
  ·rintro (h|h)
   ·left;omega
   ·exact .inr h
  ·rintro (h|h)
   ·left;omega
   ·exact .inr h
 unfold Iu C0
 simp only[ha1,ha2,ha3]
def It (p:PkgT):Int :=
 if Bq p.name=false then 60
 else if ¬Cg p.evr=0 then 61
 else if Jz p.arch=false then 62
 else if Hf p.vendor=false∨(60:Int) < (p.vendor.length:Int) then 63
 else if Ga p=false then 64
 else if I1 p.files=false then 65
 else 0
theorem Ki (p:PkgT):It p=C0 p:=by
 have ha:(Hf p.vendor=false∨(60:Int) < (p.vendor.length:Int))↔(decide (p.vendor.length≤60)&&Hf p.vendor)=false:=by
  simp only[Bool.and_eq_false_iff,decide_eq_false_iff_not]
  constructor
  ·rintro (h|h)
   ·exact .inr h
   ·left;omega
  ·rintro (h|h)
   ·right;omega
   ·exact .inl h
 unfold It C0
 simp only[ha]
theorem Q1j {f:List UInt8}:Ia f=(Bq f&&decide (((As f 0).toNat:Int)=47)):=by
 unfold Ia
 cases f with
 |nil=>rw[show Bq []=false by decide];simp
 |cons a r =>
  have h1:Bk (a::r) 47=decide (a=47):=by simp[Bk]
  have h2:As (a::r) 0=a:=by simp[As]
  rw[h1,h2,Bool.and_comm]
  congr 1
  refine decide_eq_decide.2 ⟨fun h=>by rw[h];rfl,fun h=>UInt8.toNat_inj.1 (by show _=47;omega)⟩
theorem Q6o (x : Nat) :
  FnV Tryz.prog 102 [(.int .i32 ((x:Int)))] (.bool (Ff x)):=by
 refine A5 [.tmp 2] Tryz.func102 rfl Tryz.ntmps102 rfl rfl (fun B F hF=>?_)
 refine Aa [] [0] ?_
 obtain⟨b1,hb1⟩:∃b,b=(decide (97≤(x:Int))):=⟨_,rfl⟩
 obtain⟨b2,hb2⟩:∃b,b=(b1&&(decide ((x:Int)≤122))):=⟨_,rfl⟩
 obtain⟨b3,hb3⟩:∃b,b=(b2||((decide (48≤(x:Int)))&&(decide ((x:Int)≤57)))):=⟨_,rfl⟩
 refine Af (CS:=[(4,(b1=true→b1=true)),(5,(b1=true→b1=true)),(8,((!b2)=true→(!b2)=true)),(9,((!b2)=true→(!b2)=true)),(11,(((!b2)&&(decide (48≤(x:Int))))=true→((!b2)&&(decide (48≤(x:Int))))=true)),(12,((!b2)=true→((!b2)=true)∧((decide (48≤(x:Int)))=true→((!b2)&&(decide (48≤(x:Int))))=true))),(13,(b2=false→(!b2)=true)),(16,((!b3)=true→(!b3)=true)),(17,(b3=false→(!b3)=true))]) [6,7,10,11,12,13,14,15,18,19] [2] [] hk0 (vk 3 5 (a:=.bool (decide (97≤(x:Int)))) (b:=.bool b1) (Imp.of_eq (by rw[hb1]))<|vk 7 9 (a:=.bool (b1&&(decide ((x:Int)≤122)))) (b:=.bool b2) (Imp.of_eq (by rw[hb2]))<|vk 14 16 (a:=.bool (b2||((decide (48≤(x:Int)))&&(decide ((x:Int)≤57))))) (b:=.bool b3) (Imp.of_eq (by rw[hb3]))<|v0) (by refine cc _ ?_<|cc _ ?_<|cc _ ?_<|cc _ ?_<|cc _ ?_<|cc _ ?_<|cc _ ?_<|cc _ ?_<|cc _ ?_ c0<;>(intros;simp_all;done)) ?_
 refine Ah ?_
 refine RK wR [(.bool (b3||(decide ((x:Int)=95))))] ?_
 subst hb3 hb2 hb1
 refine Same.of_eq ?_
 simp only[An]
 congr 1
 unfold Ff
 rw[Bool.eq_iff_iff]
 simp only[Bool.and_eq_true,Bool.or_eq_true,decide_eq_true_eq]
 omega
theorem Q6w (x : Nat) :
  FnV Tryz.prog 103 [(.int .i32 ((x:Int)))] (.bool (Fi x)):=by
 refine A5 [.tmp 2] Tryz.func103 rfl Tryz.ntmps103 rfl rfl (fun B F hF=>?_)
 refine Aa [] [0] ?_
 obtain⟨b1,hb1⟩:∃b,b=(decide (32≤(x:Int))):=⟨_,rfl⟩
 refine Af (CS:=[(4,(b1=true→b1=true)),(5,(b1=true→b1=true))]) [6,7] [2] [] hk0 (vk 3 5 (a:=.bool (decide (32≤(x:Int)))) (b:=.bool b1) (Imp.of_eq (by rw[hb1]))<|v0) (by refine cc _ ?_<|cc _ ?_ c0<;>simp) ?_
 refine Ah ?_
 refine RK wR [(.bool (b1&&(decide ((x:Int)≤126))))] ?_
 subst hb1
 refine Same.of_eq ?_
 simp only[An]
 congr 1
 unfold Fi
 rw[Bool.eq_iff_iff]
 simp only[Bool.and_eq_true,Bool.or_eq_true,decide_eq_true_eq]
 omega
theorem Q9q (x : Nat) (a : AV) (q : Nat → Bool) (hx : x ≤ 1114111) (ha : ∀ x : Nat, x ≤ 1114111 → FunV Tryz.prog a [.int .i32 (x : Int)] (.bool (q x))) :
  FnV Tryz.prog 106 [(.int .i32 ((x:Int))),(.fp (.agg [(.clo a)]))] (.bool (!q x)):=by
 refine A5 [.tmp 3] Tryz.func106 rfl Tryz.ntmps106 rfl rfl (fun B F hF=>?_)
 refine Aa [] [0,1] ?_
 refine Ad ?_
 refine Ap ?_
 refine Br 2 0 [] [4,5] [] hk0 v0 c0 ?_
 refine Fu (s':=[(4,(.clo a)),(5,(.int .i32 ((x:Int)))),(6,(.bool (q x)))]) (a:=(.clo a)) (al:=[(.int .i32 ((x:Int)))]) (r:=(.bool (q x))) (by kernel_rfl) (by kernel_rfl) (by kernel_rfl) (by kernel_rfl) (by kernel_rfl) ((ha x hx).clo) (by kernel_rfl) ?_
 refine Av 3 [] [3] [] hk0 v0 c0 ?_
 refine Ah ?_
 refine RK wR [(.bool (!(q x)))] ?_
 exact Same.of_eq (by first|rfl|(simp only[An];simp_all))
theorem Q4d (s : List UInt8) (most : Int) (a : AV) (q : Nat → Bool) (hl : s.length ≤ 9223372036854775807) (ha : ∀ x : Nat, x ≤ 1114111 → FunV Tryz.prog a [.int .i32 (x : Int)] (.bool (q x))) :
  FnV Tryz.prog 104 [(.str s),(.int .i64 most),(.clo a)] (.bool (Gw s most q)):=by
 refine A5 [.tmp 6] Tryz.func104 rfl Tryz.ntmps104 rfl rfl (fun B F hF=>?_)
 refine Aa [] [0,1,5] ?_
 refine Ad ?_
 refine Ap ?_
 obtain⟨b2,hb2⟩:∃b,b=(decide ((s.length:Int)≤most)):=⟨_,rfl⟩
 refine Br 7 0 [12,13] [11,12,13] [] hk0 (vk 5 11 (a:=.bool (decide ((s.length:Int)≤most))) (b:=.bool b2) (Imp.of_eq (by rw[hb2]))<|v0) c0 ?_
 refine Vu (s':=[(11,(.bool b2)),(12,(.cond b2 (.str s))),(13,(.cond b2 (.fn 106 [] [(.ptr 0 0)]))),(14,(.cond b2 (.int .i64 (Lib.idxFunc (fun x => !q x) true ⟨s.toArray⟩))))]) (q:=b2) (al:=[(.str s),(.fn 106 [] [(.ptr 0 0)])]) (al':=[(.str s),(.fn 106 [] [(.fp (.agg [(.clo a)]))])]) (h':=[]) (r:=(.int .i64 (Lib.idxFunc (fun x => !q x) true ⟨s.toArray⟩))) (by kernel_rfl) (by exact X4s) (by kernel_rfl) (P1 (some (b2=true∧b2=true)) (by kernel_rfl) fun cg=>hold (by(simp;omega))) (by kernel_rfl) (fun cg=>X8d s 106 [.fp (.agg [.clo a])] (fun x => !q x) (by exact X4r) rfl (fun x hx=>Q9q x a q hx ha)) rfl (by kernel_rfl) ?_
 obtain⟨b3,hb3⟩:∃b,b=(b2&&(decide ((Lib.idxFunc (fun x => !q x) true ⟨s.toArray⟩) < 0))):=⟨_,rfl⟩
 refine Av (CS:=[(8,(b2=true→b2=true)),(9,(b2=true→b2=true))]) 8 [15] [6] [] hk0 (vk 10 16 (a:=.bool (b2&&(decide ((Lib.idxFunc (fun x => !q x) true ⟨s.toArray⟩) < 0)))) (b:=.bool b3) (Imp.of_eq (by rw[hb3]))<|v0) (by refine cc _ ?_<|cc _ ?_ c0<;>simp) ?_
 refine Ah ?_
 refine RK wR [(.bool b3)] ?_
 subst hb3 hb2
 exact Same.of_eq (by first|rfl|(simp only[An];simp_all))
theorem X2m (s : List UInt8) (hl : s.length ≤ 9223372036854775807) :
  FnV Tryz.prog 110 [(.str s)] (.bool (!Ia s)):=by
 refine A5 [.tmp 2] Tryz.func110 rfl Tryz.ntmps110 rfl rfl (fun B F hF=>?_)
 refine Aa [] [0] ?_
 refine Af (CS:=[(5,(!(!(Bk s 47)))=true→(!(!(Bk s 47)))=true),(6,((!(!(Bk s 47)))=true→(!(!(Bk s 47)))=true)),(7,((!(Bk s 47))=false→(!(!(Bk s 47)))=true))]) [7,9] [2] [] (hk 1 Ml (Ou s 47 hl)<|hkg 5 (!(!(Bk s 47))) N8 (fun cg=>Rl s hl)<|hk0) v0 (by refine cc _ ?_<|cc _ ?_<|cc _ ?_ c0<;>simp) ?_
 refine Ah ?_
 refine RK wR [(.bool ((!(Bk s 47))||(!(Bq s))))] ?_
 exact Same.of_eq (by simp only[An];congr 1;unfold Ia;cases Bk s 47<;>cases Bq s<;>rfl)
theorem X8o (p : PkgT) (hs : p.size ≤ 4194304) :
  FnV Tryz.prog 49 [(Ar p)] (.int .i64 (C0 p)):=by
 have hsz:=p.sizes
 have hfl:=K1 p.files
 refine A5 [.tmp 2] Tryz.func49 rfl Tryz.ntmps49 rfl rfl (fun B F hF=>?_)
 refine Af [] [1] [(1,1)] hk0 v0 c0 ?_
 refine Aa [] [1,3] ?_
 refine Aa [] [1,3,4] ?_
 refine Aa [] [1,3,4,5] ?_
 refine Af [] [1,3,4,5,7] [(8,6)] (hk 2 N9 (Qk p.evr (by omega))<|hk0) v0 c0 ?_
 refine Ad ?_
 refine A1 ?_
 refine Af [] [1,3,4,5,7,14] [] (hk 2 N8 (Rl p.name (by omega))<|hk0) v0 c0 ?_
 refine A8 (q:=!(Bq p.name)) (by kernel_rfl) (fun c1=>?_) (fun c1=>?_)
 ·try simp only[Ao] at c1
  refine Aa [] [2] ?_
  refine Ah ?_
  refine RK wR [(.int .i64 60)] ?_
  refine Same.of_eq ?_
  simp only[An]
  congr 1
  rw[←Kj]
  unfold Iu
  simp_all
 ·try simp only[Ao] at c1
  refine Aa [] [1,3,4,5,19] ?_
  refine Dt (p:=(Cg p.evr)=0) (by kernel_rfl) (fun c2=>?_) (fun c2=>?_)
  ·refine Aa [] [2] ?_
   refine Ah ?_
   refine RK wR [(.int .i64 61)] ?_
   refine Same.of_eq ?_
   simp only[An]
   congr 1
   rw[←Kj]
   unfold Iu
   simp_all
  ·refine Ad ?_
   refine Ap ?_
   obtain⟨b2,hb2⟩:∃b,b=(decide (p.arch=[])):=⟨_,rfl⟩
   refine Br 8 0 [27,28,29,30] [1,4,5,26,27,29,30] [] hk0 (vk 4 26 (a:=.bool (decide (p.arch=[]))) (b:=.bool b2) (Imp.of_eq (by rw[hb2]))<|v0) (cc 6 (p:=((!b2)=true→(!b2)=true)) (by simp)<|c0) ?_
   refine X7l (s':=[(1,(.fp (Ar p))),(4,(.fn 103 [] [])),(5,(.fn 104 [] [])),(26,(.bool b2)),(27,(.cond (!b2) (.fn 104 [] []))),(29,(.cond (!b2) (.str p.arch))),(30,(.cond (!b2) (.fn 102 [] []))),(31,(.cond (!b2) (.bool (Gw p.arch 20 Ff))))]) (q:=!b2) (al:=[(.str p.arch),(.int .i64 20),(.fn 102 [] [])]) (f:=104) (cap:=[]) (r:=(.bool (Gw p.arch 20 Ff))) (by kernel_rfl) (fun cg => .inr ⟨!b2,by kernel_rfl,by first|exact cg|simp_all⟩) (by exact Q2q) (by kernel_rfl) (P1 (some ((!b2)=true∧(!b2)=true)) (by kernel_rfl) fun cg=>hold (by(intros;simp_all;done))) (by kernel_rfl) (fun cg=>(Q4d p.arch 20 (.fn 102 [] []) Ff (by omega) (fun x _=>FunV.of (by exact X4u) (Q6o x))).of_args (ImpL.cons Imp.refl (ImpL.cons Imp.refl (ImpL.cons (Imp.clo rfl) ImpL.nil)))) (by kernel_rfl) ?_
   refine Av (CS:=[(9,((!b2)=true→(!b2)=true)),(10,(b2=false→(!b2)=true))]) 9 [32] [1,4,5,22] [] hk0 v0 (by refine cc _ ?_<|cc _ ?_ c0<;>simp) ?_
   refine A8 (q:=b2||(!(Gw p.arch 20 Ff))) (by kernel_rfl) (fun c3=>?_) (fun c3=>?_)
   ·subst hb2
    try simp only[Ao] at c3
    refine Aa [] [2] ?_
    refine Ah ?_
    refine RK wR [(.int .i64 62)] ?_
    refine Same.of_eq ?_
    simp only[An]
    congr 1
    rw[←Kj]
    unfold Iu
    simp_all
   ·subst hb2
    try simp only[Ao] at c3
    refine Ad ?_
    refine Ap ?_
    refine Br 4 0 [] [1,35,37,38] [] hk0 v0 c0 ?_
    refine Q43 (f:=104) (cap:=[]) (s':=[(1,(.fp (Ar p))),(35,(.fn 104 [] [])),(37,(.str p.vendor)),(38,(.fn 103 [] [])),(39,(.bool (Gw p.vendor 60 Fi)))]) (al:=[(.str p.vendor),(.int .i64 60),(.fn 103 [] [])]) (r:=(.bool (Gw p.vendor 60 Fi))) (by kernel_rfl) (by kernel_rfl) (by exact Q2q) (by kernel_rfl) (by kernel_rfl) ((Q4d p.vendor 60 (.fn 103 [] []) Fi (by omega) (fun x _=>FunV.of (by exact X4t) (Q6w x))).of_args (ImpL.cons Imp.refl (ImpL.cons Imp.refl (ImpL.cons (Imp.clo rfl) ImpL.nil)))) (by kernel_rfl) ?_
    refine Av 5 [] [1,34] [] hk0 v0 c0 ?_
    refine A8 (q:=!(Gw p.vendor 60 Fi)) (by kernel_rfl) (fun c4=>?_) (fun c4=>?_)
    ·try simp only[Ao] at c4
     refine Aa [] [2] ?_
     refine Ah ?_
     refine RK wR [(.int .i64 63)] ?_
     refine Same.of_eq ?_
     simp only[An]
     congr 1
     rw[←Kj]
     unfold Iu
     simp_all
    ·try simp only[Ao] at c4
     refine Af [] [1,41] [] (hk 1 X4q (X4z p (by omega))<|hk0) v0 c0 ?_
     refine A8 (q:=!(Ga p)) (by kernel_rfl) (fun c5=>?_) (fun c5=>?_)
     ·try simp only[Ao] at c5
      refine Aa [] [2] ?_
      refine Ah ?_
      refine RK wR [(.int .i64 64)] ?_
      refine Same.of_eq ?_
      simp only[An]
      congr 1
      rw[←Kj]
      unfold Iu
      simp_all
     ·try simp only[Ao] at c5
      obtain⟨b3,hb3⟩:∃b,b=(decide (16 < (p.files.length:Int))):=⟨_,rfl⟩
      refine Af (CS:=[(6,((!b3)=true→(!b3)=true)),(7,(!b3)=true→(!b3)=true),(8,(b3=false→(!b3)=true))]) [51,52] [45] [] (hkg 7 (!b3) (al:=[(C4 p.files),(.fn 110 [] [])]) X4p (fun cg=>(Q56 p.files (.fn 110 [] []) (fun x => !Ia x) (by omega) (fun i hi=>FunV.of (by exact X4n) (X2m (nth p.files i) (by have:=T7 hi;omega)))).of_args (ImpL.cons Imp.refl (ImpL.cons (Imp.clo rfl) ImpL.nil)))<|hk0) (vk 5 50 (a:=.bool (decide (16 < (p.files.length:Int)))) (b:=.bool b3) (Imp.of_eq (by rw[hb3]))<|v0) (by refine cc _ ?_<|cc _ ?_<|cc _ ?_ c0<;>simp) ?_
      refine A8 (q:=b3||(Q8 p.files)) (by kernel_rfl) (fun c6=>?_) (fun c6=>?_)
      ·subst hb3
       try simp only[Ao] at c6
       refine Aa [] [2] ?_
       refine Ah ?_
       refine RK wR [(.int .i64 65)] ?_
       refine Same.of_eq ?_
       simp only[An]
       congr 1
       rw[←Kj]
       unfold Iu
       simp_all
      ·subst hb3
       try simp only[Ao] at c6
       refine Ai ?_
       refine Aa [] [2] ?_
       refine Ah ?_
       refine RK wR [(.int .i64 0)] ?_
       refine Same.of_eq ?_
       simp only[An]
       congr 1
       rw[←Kj]
       unfold Iu
       simp_all
theorem Q7t (s : List UInt8) (hl : s.length ≤ 9223372036854775807) :
  FnV Tryz.prog 154 [(.str s)] (.bool (Jz s)):=by
 refine A5 [.tmp 2] Tryz.func154 rfl Tryz.ntmps154 rfl rfl (fun B F hF=>?_)
 refine Aa [] [0] ?_
 refine Ad ?_
 refine Aa [] [0,3] ?_
 refine A1 ?_
 refine Bz (fun g y=>∃(i:Nat),i≤s.length∧(∀j,j < i→Ff (As s j).toNat=true)∧y=⟨[(0,(.str s)),(3,(.int .i64 ((i:Int))))],[],0⟩∧g=s.length-i) [0,3] 0 _ (by omega) ⟨0,(by omega),(by exact fun j hj=>by omega),(by kernel_rfl),rfl⟩ ?_
 rintro g1 y1 ⟨i,f1_1,f1_2,rfl,rfl⟩
 refine Ad ?_
 refine Aa [] [0,3,8] ?_
 refine A6 (p:=(i:Int) < (s.length:Int)) (by kernel_rfl) (fun c1=>?_) (fun c1=>?_)
 ·refine Ai ?_
  refine Ad ?_
  refine A1 ?_
  refine Af [] [0,3,4] [] hk0 v0 (cc 2 (p:=(0≤(i:Int)∧i < s.length)) (by omega)<|c0) ?_
  obtain⟨b1,hb1⟩:∃b,b=(decide (((As s i).toNat:Int) < 97)):=⟨_,rfl⟩
  obtain⟨b2,hb2⟩:∃b,b=(b1||(decide (122 < ((As s i).toNat:Int)))):=⟨_,rfl⟩
  obtain⟨b3,hb3⟩:∃b,b=(b2&&((decide (((As s i).toNat:Int) < 48))||(decide (57 < ((As s i).toNat:Int))))):=⟨_,rfl⟩
  refine Af (CS:=[(4,((!b1)=true→(!b1)=true)),(5,(b1=false→(!b1)=true)),(8,(b2=true→b2=true)),(9,(b2=true→b2=true)),(11,((b2&&(!(decide (((As s i).toNat:Int) < 48))))=true→(b2&&(!(decide (((As s i).toNat:Int) < 48))))=true)),(12,(b2=true→(b2=true)∧((decide (((As s i).toNat:Int) < 48))=false→(b2&&(!(decide (((As s i).toNat:Int) < 48))))=true))),(13,(b2=true→b2=true)),(16,(b3=true→b3=true)),(17,(b3=true→b3=true))]) [17,18,21,22,23,24,25,26,29,30] [0,3,31] [] hk0 (vk 3 16 (a:=.bool (decide (((As s i).toNat:Int) < 97))) (b:=.bool b1) (Imp.of_eq (by rw[hb1]))<|vk 6 19 (a:=.bool (b1||(decide (122 < ((As s i).toNat:Int))))) (b:=.bool b2) (Imp.of_eq (by rw[hb2]))<|vk 14 27 (a:=.bool (b2&&((decide (((As s i).toNat:Int) < 48))||(decide (57 < ((As s i).toNat:Int)))))) (b:=.bool b3) (Imp.of_eq (by rw[hb3]))<|v0) (by refine cc _ ?_<|cc _ ?_<|cc _ ?_<|cc _ ?_<|cc _ ?_<|cc _ ?_<|cc _ ?_<|cc _ ?_<|cc _ ?_ c0<;>(intros;simp_all;done)) ?_
  refine A8 (q:=b3&&(!decide (((As s i).toNat:Int)=95))) (by kernel_rfl) (fun c2=>?_) (fun c2=>?_)
  ·subst hb3 hb2 hb1
   try simp only[Ao] at c2
   refine Aa [] [2] ?_
   refine Ah ?_
   refine RK wR [(.bool false)] ?_
   refine Same.of_eq ?_
   have:s.all (fun b=>Ff b.toNat)=false:=Q4h (i:=i) (by omega) (by unfold Ff;simp only[Bool.and_eq_false_iff,Bool.or_eq_false_iff,decide_eq_false_iff_not];omega)
   unfold Jz;rw[this,Bool.and_false];rfl
  ·subst hb3 hb2 hb1
   try simp only[Ao] at c2
   refine Ai ?_
   refine Ap ?_
   refine Av 0 [] [0,3] [] hk0 v0 (cc 1 (p:=(-9223372036854775808≤(i:Int)+1∧(i:Int)+1≤9223372036854775807)) (by omega)<|c0) ?_
   refine⟨by kernel_rfl,_,?_,i+1,?_,?_,(by kernel_rfl),rfl⟩
   ·omega
   ·omega
   ·intro j hj
    by_cases h:j=i
    ·subst h;unfold Ff;simp only[Bool.and_eq_true,Bool.or_eq_true,decide_eq_true_eq];omega
    ·exact f1_2 j (by omega)
 ·refine Bt ?_
  obtain⟨b4,hb4⟩:∃b,b=(decide (1≤(s.length:Int))):=⟨_,rfl⟩
  refine Af (CS:=[(5,(b4=true→b4=true)),(6,(b4=true→b4=true)),(7,(b4=true→b4=true))]) [36,37,38] [2] [] hk0 (vk 4 35 (a:=.bool (decide (1≤(s.length:Int)))) (b:=.bool b4) (Imp.of_eq (by rw[hb4]))<|v0) (by refine cc _ ?_<|cc _ ?_<|cc _ ?_ c0<;>simp) ?_
  refine Ah ?_
  refine RK wR [(.bool (b4&&(decide ((s.length:Int)≤20))))] ?_
  subst hb4
  refine Same.of_eq ?_
  simp only[An]
  congr 1
  unfold Jz
  rw[Q4g (by omega) f1_2,show decide ((1:Int)≤(s.length:Int))=decide (1≤s.length) from decide_eq_decide.2 (by omega),show decide ((s.length:Int)≤20)=decide (s.length≤20) from decide_eq_decide.2 (by omega)]
  simp
theorem Q7l (s : List UInt8) (hl : s.length ≤ 9223372036854775807) :
  FnV Tryz.prog 155 [(.str s)] (.bool (Hf s)):=by
 refine A5 [.tmp 2] Tryz.func155 rfl Tryz.ntmps155 rfl rfl (fun B F hF=>?_)
 refine Aa [] [0] ?_
 refine Ad ?_
 refine Aa [] [0,3] ?_
 refine A1 ?_
 refine Bz (fun g y=>∃(i:Nat),i≤s.length∧(∀j,j < i→Fi (As s j).toNat=true)∧y=⟨[(0,(.str s)),(3,(.int .i64 ((i:Int))))],[],0⟩∧g=s.length-i) [0,3] 0 _ (by omega) ⟨0,(by omega),(by exact fun j hj=>by omega),(by kernel_rfl),rfl⟩ ?_
 rintro g1 y1 ⟨i,f1_1,f1_2,rfl,rfl⟩
 refine Ad ?_
 refine Aa [] [0,3,7] ?_
 refine A6 (p:=(i:Int) < (s.length:Int)) (by kernel_rfl) (fun c1=>?_) (fun c1=>?_)
 ·refine Ai ?_
  refine Ad ?_
  refine A1 ?_
  obtain⟨b1,hb1⟩:∃b,b=(decide (((As s i).toNat:Int) < 32)):=⟨_,rfl⟩
  refine Af (CS:=[(2,(0≤(i:Int)∧i < s.length)),(7,((!b1)=true→((!b1)=true∧(!b1)=true)∧(0≤(i:Int)∧i < s.length))),(8,((!b1)=true→(!b1)=true)),(9,(b1=false→(!b1)=true))]) [15,16,17,18] [0,3,19] [] hk0 (vk 5 14 (a:=.bool (decide (((As s i).toNat:Int) < 32))) (b:=.bool b1) (Imp.of_eq (by rw[hb1]))<|v0) (by refine cc _ ?_<|cc _ ?_<|cc _ ?_<|cc _ ?_ c0<;>(intros;simp_all;done)) ?_
  refine A8 (q:=b1||(decide (126 < ((As s i).toNat:Int)))) (by kernel_rfl) (fun c2=>?_) (fun c2=>?_)
  ·subst hb1
   try simp only[Ao] at c2
   refine Aa [] [2] ?_
   refine Ah ?_
   refine RK wR [(.bool false)] ?_
   refine Same.of_eq ?_
   have:s.all (fun b=>Fi b.toNat)=false:=Q4h (i:=i) (by omega) (by unfold Fi;simp only[Bool.and_eq_false_iff,Bool.or_eq_false_iff,decide_eq_false_iff_not];omega)
   unfold Hf;rw[this];rfl
  ·subst hb1
   try simp only[Ao] at c2
   refine Ai ?_
   refine Ap ?_
   refine Av 0 [] [0,3] [] hk0 v0 (cc 1 (p:=(-9223372036854775808≤(i:Int)+1∧(i:Int)+1≤9223372036854775807)) (by omega)<|c0) ?_
   refine⟨by kernel_rfl,_,?_,i+1,?_,?_,(by kernel_rfl),rfl⟩
   ·omega
   ·omega
   ·intro j hj
    by_cases h:j=i
    ·subst h;unfold Fi;simp only[Bool.and_eq_true,Bool.or_eq_true,decide_eq_true_eq];omega
    ·exact f1_2 j (by omega)
 ·refine Bt ?_
  refine Aa [] [2] ?_
  refine Ah ?_
  refine RK wR [(.bool true)] ?_
  exact Same.of_eq (by unfold Hf;rw[Q4g (by omega) f1_2];rfl)
theorem Q7p (l : List (List UInt8)) (hl : G7 l ≤ 4194304) :
  FnV Tryz.prog 157 [(C4 l)] (.bool (I1 l)):=by
 have hfl:=K1 l
 refine A5 [.tmp 2] Tryz.func157 rfl Tryz.ntmps157 rfl rfl (fun B F hF=>?_)
 refine Aa [] [0] ?_
 refine Ad ?_
 refine Aa [] [0,7] ?_
 refine A6 (p:=16 < (l.length:Int)) (by kernel_rfl) (fun c1=>?_) (fun c1=>?_)
 ·refine Aa [] [2] ?_
  refine Ah ?_
  refine RK wR [(.bool false)] ?_
  exact Same.of_eq (by unfold I1;rw[decide_eq_false (by omega)];rfl)
 ·refine Ai ?_
  refine Ad ?_
  refine Aa [] [0,3] ?_
  refine A1 ?_
  refine Bz (fun g y=>∃(i:Nat),i≤l.length∧(∀j,j < i→Ia (nth l j)=true)∧y=⟨[(0,(C4 l)),(3,(.int .i64 ((i:Int))))],[],0⟩∧g=l.length-i) [0,3] 0 _ (by omega) ⟨0,(by omega),(by exact fun j hj=>by omega),(by kernel_rfl),rfl⟩ ?_
  rintro g1 y1 ⟨i,f1_1,f1_2,rfl,rfl⟩
  refine Ad ?_
  refine Aa [] [0,3,11] ?_
  refine A6 (p:=(i:Int) < (l.length:Int)) (by kernel_rfl) (fun c2=>?_) (fun c2=>?_)
  ·refine Ai ?_
   refine Ad ?_
   refine A1 ?_
   refine Af [] [0,3,4] [] (hk 4 N6 (Pf (nth l i) (by have:=T7 (l:=l) (i:=i) (by omega);omega))<|hk0) v0 (cc 2 (p:=(0≤(i:Int)∧i < l.length)) (by omega)<|c0) ?_
   have qh1:(((!(!(Bq (nth l i))))=true→((!(!(Bq (nth l i))))=true∧(!(!(Bq (nth l i))))=true)∧(0≤(i:Int)∧i < l.length)))∧(((!(!(Bq (nth l i))))=true→(!(!(Bq (nth l i))))=true))∧(((!(!(Bq (nth l i))))=true→((!(!(Bq (nth l i))))=true)∧(0≤(0:Int)∧0 < (nth l i).length)))∧(((!(!(Bq (nth l i))))=true→(!(!(Bq (nth l i))))=true))∧(((!(Bq (nth l i)))=false→(!(!(Bq (nth l i))))=true)):=by
    have hp:=fun h=>Q95 (l:=nth l i) h;simp only[Bool.not_not,Bool.not_eq_false'];exact⟨fun hq=>⟨⟨hq,hq⟩,by omega,by omega⟩,fun hq=>hq,fun hq=>⟨hq,by omega,hp hq⟩,fun hq=>hq,fun hq=>hq⟩
   refine Af [22,23,24,25,26,27] [0,3,28] [] hk0 v0 (cc 5 (p:=((!(!(Bq (nth l i))))=true→((!(!(Bq (nth l i))))=true∧(!(!(Bq (nth l i))))=true)∧(0≤(i:Int)∧i < l.length))) qh1.1<|cc 6 (p:=((!(!(Bq (nth l i))))=true→(!(!(Bq (nth l i))))=true)) qh1.2.1<|cc 7 (p:=((!(!(Bq (nth l i))))=true→((!(!(Bq (nth l i))))=true)∧(0≤(0:Int)∧0 < (nth l i).length))) qh1.2.2.1<|cc 8 (p:=((!(!(Bq (nth l i))))=true→(!(!(Bq (nth l i))))=true)) qh1.2.2.2.1<|cc 9 (p:=((!(Bq (nth l i)))=false→(!(!(Bq (nth l i))))=true)) qh1.2.2.2.2<|c0) ?_
   refine A8 (q:=(!(Bq (nth l i)))||(!decide (((As (nth l i) 0).toNat:Int)=47))) (by kernel_rfl) (fun c3=>?_) (fun c3=>?_)
   ·try simp only[Ao] at c3
    refine Aa [] [2] ?_
    refine Ah ?_
    refine RK wR [(.bool false)] ?_
    refine Same.of_eq ?_
    unfold I1
    have:l.all Ia=false:=by
     cases hq:l.all Ia with
     |false=>rfl
     |true=>have h1:=all_nth.1 hq i (by omega);rw[Q1j] at h1;simp_all
    rw[this,Bool.and_false];rfl
   ·try simp only[Ao] at c3
    refine Ai ?_
    refine Ap ?_
    refine Av 0 [] [0,3] [] hk0 v0 (cc 1 (p:=(-9223372036854775808≤(i:Int)+1∧(i:Int)+1≤9223372036854775807)) (by omega)<|c0) ?_
    refine⟨by kernel_rfl,_,?_,i+1,?_,?_,(by kernel_rfl),rfl⟩
    ·omega
    ·omega
    ·intro j hj
     by_cases h:j=i
     ·subst h;rw[Q1j];simp_all
     ·exact f1_2 j (by omega)
  ·refine Bt ?_
   refine Aa [] [2] ?_
   refine Ah ?_
   refine RK wR [(.bool true)] ?_
   exact Same.of_eq (by unfold I1;rw[all_nth.2 (fun j hj=>f1_2 j (by omega)),decide_eq_true (by omega)];rfl)
theorem Q7r (p : PkgT) (hs : p.size ≤ 4194304) :
  FnV Tryz.prog 97 [(Ar p)] (.int .i64 (C0 p)):=by
 have hsz:=p.sizes
 refine A5 [.tmp 2] Tryz.func97 rfl Tryz.ntmps97 rfl rfl (fun B F hF=>?_)
 refine Af [] [1] [(1,1)] hk0 v0 c0 ?_
 refine Af [] [1,3] [] (hk 2 N6 (Pf p.name (by omega))<|hk0) v0 c0 ?_
 refine Ad ?_
 refine Aa [] [1,14] ?_
 refine A8 (q:=!(Bq p.name)) (by kernel_rfl) (fun c1=>?_) (fun c1=>?_)
 ·try simp only[Ao] at c1
  refine Aa [] [2] ?_
  refine Ah ?_
  refine RK wR [(.int .i64 60)] ?_
  refine Same.of_eq ?_
  simp only[An]
  congr 1
  rw[←Ki]
  unfold It
  simp_all
 ·try simp only[Ao] at c1
  refine Ai ?_
  refine Af [] [1,5] [(8,4)] (hk 2 Up (Xh p.evr (by omega))<|hk0) v0 c0 ?_
  refine Ad ?_
  refine Aa [] [1,22] ?_
  refine Dt (p:=(Cg p.evr)=0) (by kernel_rfl) (fun c2=>?_) (fun c2=>?_)
  ·refine Aa [] [2] ?_
   refine Ah ?_
   refine RK wR [(.int .i64 61)] ?_
   refine Same.of_eq ?_
   simp only[An]
   congr 1
   rw[←Ki]
   unfold It
   simp_all
  ·refine Ai ?_
   refine Af [] [1,6] [] (hk 2 X33 (Q7t p.arch (by omega))<|hk0) v0 c0 ?_
   refine Ad ?_
   refine Aa [] [1,27] ?_
   refine A8 (q:=!(Jz p.arch)) (by kernel_rfl) (fun c3=>?_) (fun c3=>?_)
   ·try simp only[Ao] at c3
    refine Aa [] [2] ?_
    refine Ah ?_
    refine RK wR [(.int .i64 62)] ?_
    refine Same.of_eq ?_
    simp only[An]
    congr 1
    rw[←Ki]
    unfold It
    simp_all
   ·try simp only[Ao] at c3
    refine Ai ?_
    refine Af [] [1,7] [] (hk 2 X32 (Q7l p.vendor (by omega))<|hk0) v0 c0 ?_
    refine Ad ?_
    obtain⟨b1,hb1⟩:∃b,b=(!(Hf p.vendor)):=⟨_,rfl⟩
    refine Af (CS:=[(4,((!b1)=true→(!b1)=true)),(5,((!b1)=true→(!b1)=true)),(6,((!b1)=true→(!b1)=true)),(7,(b1=false→(!b1)=true))]) [34,35,36,37] [1,38] [] hk0 (vk 3 33 (a:=.bool (!(Hf p.vendor))) (b:=.bool b1) (Imp.of_eq (by rw[hb1]))<|v0) (by refine cc _ ?_<|cc _ ?_<|cc _ ?_<|cc _ ?_ c0<;>simp) ?_
    refine A8 (q:=b1||(decide (60 < (p.vendor.length:Int)))) (by kernel_rfl) (fun c4=>?_) (fun c4=>?_)
    ·subst hb1
     try simp only[Ao] at c4
     refine Aa [] [2] ?_
     refine Ah ?_
     refine RK wR [(.int .i64 63)] ?_
     refine Same.of_eq ?_
     simp only[An]
     congr 1
     rw[←Ki]
     unfold It
     simp_all
    ·subst hb1
     try simp only[Ao] at c4
     refine Ai ?_
     refine Af [] [1,8] [] (hk 1 X31 (Q7q p (by omega))<|hk0) v0 c0 ?_
     refine Ad ?_
     refine Aa [] [1,42] ?_
     refine A8 (q:=!(Ga p)) (by kernel_rfl) (fun c5=>?_) (fun c5=>?_)
     ·try simp only[Ao] at c5
      refine Aa [] [2] ?_
      refine Ah ?_
      refine RK wR [(.int .i64 64)] ?_
      refine Same.of_eq ?_
      simp only[An]
      congr 1
      rw[←Ki]
      unfold It
      simp_all
     ·try simp only[Ao] at c5
      refine Ai ?_
      refine Af [] [9] [] (hk 2 X30 (Q7p p.files (by omega))<|hk0) v0 c0 ?_
      refine Ad ?_
      refine Aa [] [47] ?_
      refine A8 (q:=!(I1 p.files)) (by kernel_rfl) (fun c6=>?_) (fun c6=>?_)
      ·try simp only[Ao] at c6
       refine Aa [] [2] ?_
       refine Ah ?_
       refine RK wR [(.int .i64 65)] ?_
       refine Same.of_eq ?_
       simp only[An]
       congr 1
       rw[←Ki]
       unfold It
       simp_all
      ·try simp only[Ao] at c6
       refine Ai ?_
       refine Aa [] [2] ?_
       refine Ah ?_
       refine RK wR [(.int .i64 0)] ?_
       refine Same.of_eq ?_
       simp only[An]
       congr 1
       rw[←Ki]
       unfold It
       simp_all
end Sv
end
section
open Go Go.RowKit
namespace Sv
attribute [local irreducible] SW SO Bn
set_option maxHeartbeats 1000000
set_option maxRecDepth 100000
theorem X4o:Au Tryz.prog 11:=Ay Tryz.func11 (by kernel_rfl) rfl
theorem X28:Au Tryz.prog 47:=Ay Tryz.func47 (by kernel_rfl) rfl
theorem X27:Au Tryz.prog 48:=Ay Tryz.func48 (by kernel_rfl) rfl
noncomputable def Bb (r:RepoT):AV:=.agg [.str r.name,.int .i64 r.prio,.bool r.inst,.nils]
noncomputable def Be (k:PkgT × Int):AV:=.agg [.str k.1.name,.str k.1.evr,.str k.1.arch,.str k.1.vendor,Dy k.1.provides,Dy k.1.requires,Dy k.1.pre,Dy k.1.conflicts,Dy k.1.obsoletes,Dy k.1.recommends,Dy k.1.supplements,C4 k.1.files,.int .i64 k.2]
structure PoolT where
 kind:Int
 repos:List RepoT
 all:List (PkgT × Int)
 deriving Inhabited
def Mg (l:List PkgT):Int:=match l.find? (fun p=>decide (C0 p≠0)) with
 |some p=>C0 p
 |none=>0
def Cj (st:PoolT) (r:RepoT):Int :=
 if Bq r.name=false∨st.repos.any (fun o=>decide (o.name=r.name))=true then 66
 else if r.inst=true∧st.repos.any (fun o=>o.inst)=true then 67
 else if 8≤st.repos.length∨200 < st.all.length+r.pkgs.length then 68
 else Mg r.pkgs
def Ax (st:PoolT) (r:RepoT) (i:Nat):List (PkgT × Int):=st.all++(r.pkgs.take i).map fun p=>(p,(st.repos.length:Int))
def Cd (st:PoolT) (r:RepoT):PoolT:=if Cj st r=0 then ⟨st.kind,st.repos++[r],Ax st r r.pkgs.length⟩ else st
def Ns (l:List (PkgT × Int)) (s:List UInt8):List Nat:=(List.range l.length).filter fun i=>decide ((nth l i).1.name=s)
noncomputable def Ba (l:List (PkgT × Int)) (s:List UInt8):List AV:=(Ns l s).map fun (i:Nat)=>AV.int .i64 (i:Int)
theorem Ja {st:PoolT} {r:RepoT} {e:Int} (h:Cj st r=e) (he:e≠0):Cd st r=st:=by unfold Cd;rw[if_neg (by rw[h];exact he)]
theorem T0 {l:List PkgT} (h:∀j,j < l.length→C0 (nth l j)=0):Mg l=0:=by
 unfold Mg
 rw[List.find?_eq_none.2]
 intro x hx
 obtain⟨j,hj,rfl⟩:=List.getElem_of_mem hx
 have:=h j hj
 simpa [nth,hj] using this
theorem T1:∀{l:List PkgT} {i:Nat},i < l.length→(∀j,j < i→C0 (nth l j)=0)→C0 (nth l i)≠0→Mg l=C0 (nth l i)
 |[],_,h,_,_=>by simp at h
 |x::r,0,_,_,h=>by
  have h:C0 x≠0:=h
  unfold Mg;rw[List.find?_cons_of_pos (by simpa using h)];rfl
 |x::r,i+1,hi,h,hp=>by
  have h0:C0 x=0:=h 0 (by omega)
  have:=T1 (l:=r) (i:=i) (by simpa using hi) (fun j hj=>h (j+1) (by omega)) hp
  unfold Mg at this ⊢
  rw[List.find?_cons_of_neg (by simp[h0])];exact this
theorem X09 {st:PoolT} {r:RepoT} {i:Nat} (h:i < r.pkgs.length):Ax st r (i+1)=Ax st r i++[(nth r.pkgs i,(st.repos.length:Int))]:=by
 unfold Ax
 rw[List.take_add_one,List.getElem?_eq_getElem h,List.map_append,List.append_assoc]
 simp[nth,h]
theorem X1a {st:PoolT} {r:RepoT} {i:Nat}:(Ax st r i).length≤st.all.length+i:=by unfold Ax;simp;omega
theorem Zo (l:List (PkgT × Int)) (k:PkgT × Int):D4 (Ba l) k.1.name (Ba l k.1.name++[.int .i64 (l.length:Int)])=Ba (l++[k]):=by
 funext s
 have e:Ns (l++[k]) s=Ns l s++(if k.1.name=s then [l.length] else []):=by
  unfold Ns
  rw[List.length_append,List.length_singleton,List.range_succ,List.filter_append]
  congr 1
  ·refine List.filter_congr fun i hi=>?_
   have:i < l.length:=by simpa using hi
   have:nth (l++[k]) i=nth l i:=by simp[nth,List.getElem?_append_left this]
   rw[this]
  ·have:nth (l++[k]) l.length=k:=by simp[nth]
   by_cases h:k.1.name=s<;>simp[this,h]
 unfold D4 Ba
 rw[e]
 by_cases h:s=k.1.name
 ·subst h;rw[if_pos rfl,if_pos rfl,List.map_append];rfl
 ·rw[if_neg h,if_neg (fun q=>h q.symm),List.append_nil]
theorem Q93 (l:List (PkgT × Int)) (s:List UInt8):(Ba l s).length≤l.length:=by
 unfold Ba Ns
 rw[List.length_map]
 exact Nat.le_trans (List.length_filter_le _ _) (by simp)
theorem Q7i (l : List RepoT) (a : AV) (p : RepoT → Bool) (hl : l.length ≤ 4611686018427387904) (ha : ∀ i, i < l.length → FunV Tryz.prog a [(.agg [(.str ((nth l i).name)), (.int .i64 ((nth l i).prio)), (.bool ((nth l i).inst)), .nils])] (.bool (p (nth l i)))) :
  FnV Tryz.prog 101 [(Ac 4 Bb l),(.clo a)] (.int .i64 (B3 p l)):=by
 refine A5 [.tmp 4] Tryz.func101 rfl Tryz.ntmps101 rfl rfl (fun B F hF=>?_)
 refine Aa [] [0,1] ?_
 refine Ad ?_
 refine Aa [] [0,1,7,8] ?_
 refine A1 ?_
 refine Bz (fun g y=>∃(i:Nat),i≤l.length∧(∀j,j < i→p (nth l j)=false)∧y=⟨[(0,(Ac 4 Bb l)),(1,(.clo a)),(7,(.int .i64 ((l.length:Int)))),(8,(.int .i64 ((i:Int))))],[],0⟩∧g=l.length-i) [0,1,7,8] 0 _ (by omega) ⟨0,(by omega),(by exact fun j hj=>by omega),(by kernel_rfl),rfl⟩ ?_
 rintro g1 y1 ⟨i,f1_1,f1_2,rfl,rfl⟩
 refine Aa [] [0,1,7,8,9] ?_
 refine Ad ?_
 refine A6 (p:=(i:Int) < (l.length:Int)) (by kernel_rfl) (fun c1=>?_) (fun c1=>?_)
 ·refine Ai ?_
  refine Ad ?_
  refine A1 ?_
  refine Aa [] [0,1,5,7,8] ?_
  refine Ad ?_
  refine Ap ?_
  refine Br 5 0 [] [0,1,5,7,8,11,15] [] hk0 v0 (cc 3 (p:=(0≤(i:Int)∧i < l.length)) (by omega)<|c0) ?_
  refine Fu (s':=[(0,(Ac 4 Bb l)),(1,(.clo a)),(5,(.int .i64 ((i:Int)))),(7,(.int .i64 ((l.length:Int)))),(8,(.int .i64 ((i:Int)))),(11,(.clo a)),(15,(.agg [(.str ((nth l i).name)),(.int .i64 ((nth l i).prio)),(.bool ((nth l i).inst)),.nils])),(16,(.bool (p (nth l i))))]) (a:=(.clo a)) (al:=[(.agg [(.str ((nth l i).name)),(.int .i64 ((nth l i).prio)),(.bool ((nth l i).inst)),.nils])]) (r:=(.bool (p (nth l i)))) (by kernel_rfl) (by kernel_rfl) (by kernel_rfl) (by kernel_rfl) (by kernel_rfl) ((ha i (by omega)).clo) (by kernel_rfl) ?_
  refine B5 ?_
  refine A8 (q:=p (nth l i)) (by kernel_rfl) (fun c2=>?_) (fun c2=>?_)
  ·try simp only[Ao] at c2
   refine Aa [] [4] ?_
   refine Ah ?_
   refine RK wR [(.int .i64 ((i:Int)))] ?_
   exact Same.of_eq (by rw[Kw (by omega) f1_2 (by simp_all)];rfl)
  ·try simp only[Ao] at c2
   refine Ai ?_
   refine Ap ?_
   refine Av 0 [] [0,1,7,8] [] hk0 v0 (cc 0 (p:=(-9223372036854775808≤(i:Int)+1∧(i:Int)+1≤9223372036854775807)) (by omega)<|c0) ?_
   refine⟨by kernel_rfl,_,?_,i+1,?_,?_,(by kernel_rfl),rfl⟩
   ·omega
   ·omega
   ·intro j hj
    by_cases h:j=i
    ·subst h;simp_all
    ·exact f1_2 j (by omega)
 ·refine Bt ?_
  refine Aa [] [4] ?_
  refine Ah ?_
  refine RK wR [(.int .i64 (-1))] ?_
  exact Same.of_eq (by rw[Kv (fun j hj=>f1_2 j (by omega))];rfl)
theorem Xe (l : List RepoT) (a : AV) (p : RepoT → Bool) (hl : l.length ≤ 4611686018427387904) (ha : ∀ i, i < l.length → FunV Tryz.prog a [(.agg [(.str ((nth l i).name)), (.int .i64 ((nth l i).prio)), (.bool ((nth l i).inst)), .nils])] (.bool (p (nth l i)))) :
  FnV Tryz.prog 46 [(Ac 4 Bb l),(.clo a)] (.bool (l.any p)):=by
 refine A5 [.tmp 4] Tryz.func46 rfl Tryz.ntmps46 rfl rfl (fun B F hF=>?_)
 refine Aa [] [0,1] ?_
 refine Af [] [4] [] (hk 2 X4v (Q7i l a p hl ha)<|hk0) v0 c0 ?_
 refine Ah ?_
 refine RK wR [(.bool (decide (0≤(B3 p l))))] ?_
 exact Same.of_eq (by simp only[An];rw[Kx])
theorem Q61 (o r : RepoT) :
  FnV Tryz.prog 47 [(.agg [(.str o.name),(.int .i64 o.prio),(.bool o.inst),.nils]),(.fp (.agg [(.str r.name),(.int .i64 r.prio),(.bool r.inst),(Ac 12 Ar r.pkgs)]))] (.bool (decide (o.name=r.name))):=by
 refine A5 [.tmp 3] Tryz.func47 rfl Tryz.ntmps47 rfl rfl (fun B F hF=>?_)
 refine Af [] [1,2] [(1,2)] hk0 v0 c0 ?_
 refine Aa [] [3] ?_
 refine Ah ?_
 refine RK wR [(.bool (decide (o.name=r.name)))] ?_
 exact Same.of_eq (by first|rfl|(simp only[An];simp_all))
theorem X1j (o : RepoT) :
  FnV Tryz.prog 48 [(.agg [(.str o.name),(.int .i64 o.prio),(.bool o.inst),.nils])] (.bool o.inst):=by
 refine A5 [.tmp 2] Tryz.func48 rfl Tryz.ntmps48 rfl rfl (fun B F hF=>?_)
 refine Af [] [1] [(1,1)] hk0 v0 c0 ?_
 refine Aa [] [2] ?_
 refine Ah ?_
 refine RK wR [(.bool o.inst)] ?_
 exact Same.of_eq (by first|rfl|(simp only[An];simp_all))
theorem X8p (st : PoolT) (r : RepoT) (hr : st.repos.length ≤ 8) (ha : st.all.length ≤ 200) (hn : r.name.length ≤ 4194304) (hpl : r.pkgs.length ≤ 4194304) (hp : ∀ i, i < r.pkgs.length → (nth r.pkgs i).size ≤ 4194304) :
  Gf Tryz.prog 11 [(.ptr 0 0),(.agg [(.str r.name),(.int .i64 r.prio),(.bool r.inst),(Ac 12 Ar r.pkgs)])] [(0,(.row [(.int .i64 st.kind),(.own 1),(.own 2),(.map 3)] 101)),(1,(.grow (st.repos.map Bb) 41 4)),(2,(.grow (st.all.map Be) 106 13)),(3,(.mm (Ba st.all) none 3 1))] 4 (.int .i64 (Cj st r)) [(0,(.row [(.int .i64 ((Cd st r).kind)),(.own 1),(.own 2),(.map 3)] 101)),(1,(.grow ((Cd st r).repos.map Bb) 41 4)),(2,(.grow ((Cd st r).all.map Be) 106 13)),(3,(.mm (Ba (Cd st r).all) none 3 1))]:=by
 have hml:(st.repos.map Bb).length=st.repos.length:=List.length_map _
 have hma:(st.all.map Be).length=st.all.length:=List.length_map _
 refine Le [.tmp 4] Tryz.func11 rfl Tryz.ntmps11 rfl rfl (by kernel_rfl) (by kernel_rfl) (by kernel_rfl) (fun B F hF=>?_)
 refine Aa [] [0,3] ?_
 refine Ad ?_
 refine A1 ?_
 refine Aa [] [0,3,10] ?_
 refine Eh (by kernel_rfl) ?_
 refine Ad ?_
 refine Ap ?_
 obtain⟨b2,hb2⟩:∃b,b=(!(Bq r.name)):=⟨_,rfl⟩
 refine Br (CS:=[(6,((!b2)=true→(!b2)=true)),(7,((!b2)=true→(!b2)=true)),(8,((!b2)=true→(!b2)=true))]) 10 0 [19,20,21,22,23] [0,3,18,22,23] [] (hk 2 N8 (Rl r.name (by omega))<|hk0) (vk 5 18 (a:=.bool (!(Bq r.name))) (b:=.bool b2) (Imp.of_eq (by rw[hb2]))<|v0) (by refine cc _ ?_<|cc _ ?_<|cc _ ?_ c0<;>simp) ?_
 refine Vu (s':=[(0,(.ptr 0 0)),(3,(.ptr 4 0)),(18,(.bool b2)),(22,(.cond (!b2) (.own 1))),(23,(.cond (!b2) (.fn 47 [] [(.ptr 4 0)]))),(24,(.cond (!b2) (.bool (st.repos.any (fun o=>decide (o.name=r.name))))))]) (q:=!b2) (al:=[(.own 1),(.fn 47 [] [(.ptr 4 0)])]) (al':=[(.row 4 (st.repos.map Bb).length (fun ix=>(st.repos.map Bb).getD ix Bp)),(.fn 47 [] [(.fp (.agg [(.str r.name),(.int .i64 r.prio),(.bool r.inst),(Ac 12 Ar r.pkgs)]))])]) (h':=[(0,(.row [(.int .i64 st.kind),(.own 1),(.own 2),(.map 3)] 101)),(2,(.grow (st.all.map Be) 106 13)),(3,(.mm (Ba st.all) none 3 1))]) (r:=(.bool (st.repos.any (fun o=>decide (o.name=r.name))))) (by kernel_rfl) (by exact Q1y) (by kernel_rfl) (P1 (some ((!b2)=true∧(!b2)=true)) (by kernel_rfl) fun cg=>hold (by(intros;simp_all;done))) (by kernel_rfl) (fun cg=>(Xe st.repos (.fn 47 [] [.fp (.agg [(.str r.name),(.int .i64 r.prio),(.bool r.inst),(Ac 12 Ar r.pkgs)])]) (fun o=>decide (o.name=r.name)) (by omega) (fun i hi=>FunV.of (by exact X28) (Q61 (nth st.repos i) r))).of_args (ImpL.cons (Imp.list (f:=Bb) (List.length_map _)) (ImpL.cons (Imp.clo (by kernel_rfl)) ImpL.nil))) rfl (by kernel_rfl) ?_
 obtain⟨b3,hb3⟩:∃b,b=(b2||(st.repos.any (fun o=>decide (o.name=r.name)))):=⟨_,rfl⟩
 refine Av 11 [] [0,3,13] [] hk0 (vk 12 25 (a:=.bool (b2||(st.repos.any (fun o=>decide (o.name=r.name))))) (b:=.bool b3) (Imp.of_eq (by rw[hb3]))<|v0) (cc 11 (p:=(b2=false→(!b2)=true)) (by simp)<|c0) ?_
 refine A8 (q:=b3) (by kernel_rfl) (fun c1=>?_) (fun c1=>?_)
 ·subst hb3 hb2
  try simp only[Ao] at c1
  refine Aa [] [4] ?_
  refine Ah ?_
  refine Ej (.inl rfl) (al:=[(.int .i64 66)]) (by kernel_rfl) ?_ ((by kernel_rfl:Dl 4 _=some [(0,(.row [(.int .i64 st.kind),(.own 1),(.own 2),(.map 3)] 101)),(1,(.grow (st.repos.map Bb) 41 4)),(2,(.grow (st.all.map Be) 106 13)),(3,(.mm (Ba st.all) none 3 1))]).trans ?_)
  all_goals have hE:Cj st r=66:=by unfold Cj;rw[if_pos c1]
  ·rw[hE];rfl
  ·rw[Ja hE (by decide)]
 ·subst hb3 hb2
  try simp only[Ao] at c1
  refine Ad ?_
  refine Ap ?_
  refine Br (CS:=[(4,(r.inst=true→r.inst=true)),(5,(r.inst=true→r.inst=true)),(6,(r.inst=true→r.inst=true))]) 7 0 [30,31,32,33] [0,3,29,33] [] hk0 v0 (by refine cc _ ?_<|cc _ ?_<|cc _ ?_ c0<;>simp) ?_
  refine Vu (s':=[(0,(.ptr 0 0)),(3,(.ptr 4 0)),(29,(.bool r.inst)),(33,(.cond r.inst (.own 1))),(34,(.cond r.inst (.bool (st.repos.any (fun o=>o.inst)))))]) (q:=r.inst) (al:=[(.own 1),(.fn 48 [] [])]) (al':=[(.row 4 (st.repos.map Bb).length (fun ix=>(st.repos.map Bb).getD ix Bp)),(.fn 48 [] [])]) (h':=[(0,(.row [(.int .i64 st.kind),(.own 1),(.own 2),(.map 3)] 101)),(2,(.grow (st.all.map Be) 106 13)),(3,(.mm (Ba st.all) none 3 1)),(4,(.row [(.str r.name),(.int .i64 r.prio),(.bool r.inst),(Ac 12 Ar r.pkgs)] 41))]) (r:=(.bool (st.repos.any (fun o=>o.inst)))) (by kernel_rfl) (by exact Q1y) (by kernel_rfl) (P1 (some (r.inst=true)) (by kernel_rfl) fun cg=>hold (by omega)) (by kernel_rfl) (fun cg=>(Xe st.repos (.fn 48 [] []) (fun o=>o.inst) (by omega) (fun i hi=>FunV.of (by exact X27) (X1j (nth st.repos i)))).of_args (ImpL.cons (Imp.list (f:=Bb) (List.length_map _)) (ImpL.cons (Imp.clo (by kernel_rfl)) ImpL.nil))) rfl (by kernel_rfl) ?_
  refine Av 8 [] [0,3,26] [] hk0 v0 (cc 8 (p:=(r.inst=true→r.inst=true)) (by simp)<|c0) ?_
  refine A8 (q:=r.inst&&(st.repos.any (fun o=>o.inst))) (by kernel_rfl) (fun c2=>?_) (fun c2=>?_)
  ·try simp only[Ao] at c2
   refine Aa [] [4] ?_
   refine Ah ?_
   refine Ej (.inl rfl) (al:=[(.int .i64 67)]) (by kernel_rfl) ?_ ((by kernel_rfl:Dl 4 _=some [(0,(.row [(.int .i64 st.kind),(.own 1),(.own 2),(.map 3)] 101)),(1,(.grow (st.repos.map Bb) 41 4)),(2,(.grow (st.all.map Be) 106 13)),(3,(.mm (Ba st.all) none 3 1))]).trans ?_)
   all_goals have hE:Cj st r=67:=by unfold Cj;rw[if_neg (by simp only[not_or];simp_all),if_pos (by simp_all)]
   ·rw[hE];rfl
   ·rw[Ja hE (by decide)]
  ·try simp only[Ao] at c2
   refine D0 (fun y=>y=⟨[(0,(.ptr 0 0)),(3,(.ptr 4 0)),(36,(.bool (decide ((8:Int)≤((st.repos.map Bb).length:Int))||decide ((200:Int) < ((st.all.map Be).length:Int)+(r.pkgs.length:Int)))))],[(0,(.row [(.int .i64 st.kind),(.own 1),(.own 2),(.map 3)] 101)),(1,(.grow (st.repos.map Bb) 41 4)),(2,(.grow (st.all.map Be) 106 13)),(3,(.mm (Ba st.all) none 3 1)),(4,(.row [(.str r.name),(.int .i64 r.prio),(.bool r.inst),(Ac 12 Ar r.pkgs)] 41))],5⟩) [0,3,36] 5 (by omega) ?_ ?_
   ·refine Hc (CS:=[(8,((!(decide (8≤((st.repos.map Bb).length:Int))))=true→(!(decide (8≤((st.repos.map Bb).length:Int))))=true)),(9,((!(decide (8≤((st.repos.map Bb).length:Int))))=true→(!(decide (8≤((st.repos.map Bb).length:Int))))=true)),(10,((!(decide (8≤((st.repos.map Bb).length:Int))))=true→(!(decide (8≤((st.repos.map Bb).length:Int))))=true)),(11,((!(decide (8≤((st.repos.map Bb).length:Int))))=true→(!(decide (8≤((st.repos.map Bb).length:Int))))=true)),(13,((!(decide (8≤((st.repos.map Bb).length:Int))))=true→(!(decide (8≤((st.repos.map Bb).length:Int))))=true)),(14,((!(decide (8≤((st.repos.map Bb).length:Int))))=true→(!(decide (8≤((st.repos.map Bb).length:Int))))=true)),(15,((!(decide (8≤((st.repos.map Bb).length:Int))))=true→((!(decide (8≤((st.repos.map Bb).length:Int))))=true∧(!(decide (8≤((st.repos.map Bb).length:Int))))=true)∧(-9223372036854775808≤((st.all.map Be).length:Int)+(r.pkgs.length:Int)∧((st.all.map Be).length:Int)+(r.pkgs.length:Int)≤9223372036854775807))),(16,((!(decide (8≤((st.repos.map Bb).length:Int))))=true→(!(decide (8≤((st.repos.map Bb).length:Int))))=true)),(17,((decide (8≤((st.repos.map Bb).length:Int)))=false→(!(decide (8≤((st.repos.map Bb).length:Int))))=true))]) [44,45,46,47,48,49,50,51,52,53] [0,3,36] [] hk0 v0 (by refine cc _ ?_<|cc _ ?_<|cc _ ?_<|cc _ ?_<|cc _ ?_<|cc _ ?_<|cc _ ?_<|cc _ ?_<|cc _ ?_ c0<;>first|omega|(simp;omega)|(simp;done)|(intros;simp_all;omega)|(intros;simp_all;done)) ?_
    refine⟨by kernel_rfl,(by kernel_rfl)⟩
   ·rintro y1 rfl
    refine A8 (q:=decide ((8:Int)≤((st.repos.map Bb).length:Int))||decide ((200:Int) < ((st.all.map Be).length:Int)+(r.pkgs.length:Int))) (by kernel_rfl) (fun c3=>?_) (fun c3=>?_)
    ·try simp only[Ao] at c3
     refine Aa [] [4] ?_
     refine Ah ?_
     refine Ej (.inl rfl) (al:=[(.int .i64 68)]) (by kernel_rfl) ?_ ((by kernel_rfl:Dl 4 _=some [(0,(.row [(.int .i64 st.kind),(.own 1),(.own 2),(.map 3)] 101)),(1,(.grow (st.repos.map Bb) 41 4)),(2,(.grow (st.all.map Be) 106 13)),(3,(.mm (Ba st.all) none 3 1))]).trans ?_)
     all_goals have hE:Cj st r=68:=by unfold Cj;rw[if_neg (by simp only[not_or];simp_all),if_neg (by rintro⟨h1,h2⟩;rw[h1,h2] at c2;simp at c2),if_pos (by omega)]
     ·rw[hE];rfl
     ·rw[Ja hE (by decide)]
    ·try simp only[Ao] at c3
     refine Ai ?_
     refine Ad ?_
     refine Aa [] [0,3,56,57,58] ?_
     refine A1 ?_
     refine Bz (fun g y=>∃(i:Nat),i≤r.pkgs.length∧(∀j,j < i→C0 (nth r.pkgs j)=0)∧y=⟨[(0,(.ptr 0 0)),(3,(.ptr 4 0)),(56,(Ac 12 Ar r.pkgs)),(57,(.int .i64 ((r.pkgs.length:Int)))),(58,(.int .i64 ((i:Int))))],[(0,(.row [(.int .i64 st.kind),(.own 1),(.own 2),(.map 3)] 101)),(1,(.grow (st.repos.map Bb) 41 4)),(2,(.grow (st.all.map Be) 106 13)),(3,(.mm (Ba st.all) none 3 1)),(4,(.row [(.str r.name),(.int .i64 r.prio),(.bool r.inst),(Ac 12 Ar r.pkgs)] 41))],5⟩∧g=r.pkgs.length-i) [0,3,56,57,58] 5 _ (by omega) ⟨0,(by omega),(by exact fun j hj=>by omega),(by kernel_rfl),rfl⟩ ?_
     rintro g1 y1 ⟨i,f1_1,f1_2,rfl,rfl⟩
     refine Aa [] [0,3,56,57,58,59] ?_
     refine Ad ?_
     refine A6 (p:=(i:Int) < (r.pkgs.length:Int)) (by kernel_rfl) (fun c4=>?_) (fun c4=>?_)
     ·refine Ai ?_
      refine Ad ?_
      refine A1 ?_
      refine Af [] [0,3,6,56,57,58] [] hk0 v0 (cc 0 (p:=(0≤(i:Int)∧i < r.pkgs.length)) (by omega)<|c0) ?_
      refine Af [] [0,3,7,56,57,58] [(0,6)] (hk 1 X26 (X8o (nth r.pkgs i) (hp i (by omega)))<|hk0) v0 c0 ?_
      refine Aa [] [0,3,7,56,57,58,65] ?_
      refine Dt (p:=(C0 (nth r.pkgs i))=0) (by kernel_rfl) (fun c5=>?_) (fun c5=>?_)
      ·refine Aa [] [4] ?_
       refine Ah ?_
       refine Ej (.inl rfl) (al:=[(.int .i64 (C0 (nth r.pkgs i)))]) (by kernel_rfl) ?_ ((by kernel_rfl:Dl 4 _=some [(0,(.row [(.int .i64 st.kind),(.own 1),(.own 2),(.map 3)] 101)),(1,(.grow (st.repos.map Bb) 41 4)),(2,(.grow (st.all.map Be) 106 13)),(3,(.mm (Ba st.all) none 3 1))]).trans ?_)
       all_goals have hE:Cj st r=C0 (nth r.pkgs i):=by unfold Cj;rw[if_neg (by simp only[not_or];simp_all),if_neg (by rintro⟨h1,h2⟩;rw[h1,h2] at c2;simp at c2),if_neg (by omega)];exact T1 (by omega) f1_2 (by assumption)
       ·rw[hE];rfl
       ·rw[Ja hE (by assumption)]
      ·refine Ai ?_
       refine Ap ?_
       refine Av 0 [] [0,3,56,57,58] [] hk0 v0 (cc 0 (p:=(-9223372036854775808≤(i:Int)+1∧(i:Int)+1≤9223372036854775807)) (by omega)<|c0) ?_
       refine⟨by kernel_rfl,_,?_,i+1,?_,?_,(by kernel_rfl),rfl⟩
       ·omega
       ·omega
       ·intro j hj
        by_cases h:j=i
        ·subst h;simp_all
        ·exact f1_2 j (by omega)
     ·refine Bt ?_
      refine Ad ?_
      refine Aa [] [0,3,69,70,71] ?_
      refine A1 ?_
      refine Bz (fun g y=>∃(i:Nat),i≤r.pkgs.length∧y=⟨[(0,(.ptr 0 0)),(3,(.ptr 4 0)),(69,(Ac 12 Ar r.pkgs)),(70,(.int .i64 ((r.pkgs.length:Int)))),(71,(.int .i64 ((i:Int))))],[(0,(.row [(.int .i64 st.kind),(.own 1),(.own 2),(.map 3)] 101)),(1,(.grow (st.repos.map Bb) 41 4)),(2,(.grow ((Ax st r i).map Be) 106 13)),(3,(.mm (Ba (Ax st r i)) none 3 1)),(4,(.row [(.str r.name),(.int .i64 r.prio),(.bool r.inst),(Ac 12 Ar r.pkgs)] 41))],5⟩∧g=r.pkgs.length-i) [0,3,69,70,71] 5 _ (by omega) ⟨0,(by omega),(Eq.trans (b:=(⟨[(0,(.ptr 0 0)),(3,(.ptr 4 0)),(69,(Ac 12 Ar r.pkgs)),(70,(.int .i64 ((r.pkgs.length:Int)))),(71,(.int .i64 0))],[(0,(.row [(.int .i64 st.kind),(.own 1),(.own 2),(.map 3)] 101)),(1,(.grow (st.repos.map Bb) 41 4)),(2,(.grow (st.all.map Be) 106 13)),(3,(.mm (Ba st.all) none 3 1)),(4,(.row [(.str r.name),(.int .i64 r.prio),(.bool r.inst),(Ac 12 Ar r.pkgs)] 41))],5⟩:St)) (by kernel_rfl) (by rw[show Ax st r 0=st.all from by simp[Ax]]<;>rfl)),rfl⟩ ?_
      rintro g2 y2 ⟨i,f2_1,rfl,rfl⟩
      have hkl:((Ax st r i).map Be).length≤200:=by have:=X1a (st:=st) (r:=r) (i:=i);rw[List.length_map];omega
      have hgl:(Ba (Ax st r i) (nth r.pkgs i).name).length≤200:=Nat.le_trans (Q93 _ _) (by rwa [List.length_map] at hkl)
      refine Aa [] [0,3,69,70,71,72] ?_
      refine Ad ?_
      refine A6 (p:=(i:Int) < (r.pkgs.length:Int)) (by kernel_rfl) (fun c6=>?_) (fun c6=>?_)
      ·refine Ai ?_
       refine D0 (fun y=>y=⟨[(0,(.ptr 0 0)),(3,(.ptr 4 0)),(69,(Ac 12 Ar r.pkgs)),(70,(.int .i64 ((r.pkgs.length:Int)))),(71,(.int .i64 ((i:Int))))],[(0,(.row [(.int .i64 st.kind),(.own 1),(.own 2),(.map 3)] 101)),(1,(.grow (st.repos.map Bb) 41 4)),(2,(.grow ((Ax st r i++[(nth r.pkgs i,(st.repos.length:Int))]).map Be) 106 13)),(3,(.mm (Ba (Ax st r i++[(nth r.pkgs i,(st.repos.length:Int))])) none 3 1)),(4,(.row [(.str r.name),(.int .i64 r.prio),(.bool r.inst),(Ac 12 Ar r.pkgs)] 41))],5⟩) [0,3,69,70,71] 5 (by omega) ?_ ?_
       ·refine A1 ?_
        refine Af [] [0,3,9,69,70,71] [] hk0 v0 (cc 0 (p:=(0≤(i:Int)∧i < r.pkgs.length)) (by omega)<|c0) ?_
        refine Re 9 (y:=⟨[(0,(.ptr 0 0)),(3,(.ptr 4 0)),(9,(.fp (Ar (nth r.pkgs i)))),(69,(Ac 12 Ar r.pkgs)),(70,(.int .i64 ((r.pkgs.length:Int)))),(71,(.int .i64 ((i:Int))))],[(0,(.row [(.int .i64 st.kind),(.own 1),(.own 2),(.map 3)] 101)),(1,(.grow (st.repos.map Bb) 41 4)),(2,(.grow ((Ax st r i).map Be) 106 13)),(3,(.mm (Ba (Ax st r i)) none 3 1)),(4,(.row [(.str r.name),(.int .i64 r.prio),(.bool r.inst),(Ac 12 Ar r.pkgs)] 41))],6⟩) (by kernel_rfl) ?_
        refine D0 (fun y=>y=⟨[(0,(.ptr 0 0)),(3,(.ptr 4 0)),(9,(.fp (Ar (nth r.pkgs i)))),(69,(Ac 12 Ar r.pkgs)),(70,(.int .i64 ((r.pkgs.length:Int)))),(71,(.int .i64 ((i:Int))))],[(0,(.row [(.int .i64 st.kind),(.own 1),(.own 2),(.map 3)] 101)),(1,(.grow (st.repos.map Bb) 41 4)),(2,(.grow ((Ax st r i).map Be) 106 13)),(3,(.mm (Ba (Ax st r i++[(nth r.pkgs i,(st.repos.length:Int))])) none 3 1)),(4,(.row [(.str r.name),(.int .i64 r.prio),(.bool r.inst),(Ac 12 Ar r.pkgs)] 41))],6⟩) [0,3,9,69,70,71] 6 (by omega) ?_ ?_
        ·refine J4 (by kernel_rfl) (fun F1 hF1=>?_)
         refine Cn false 1 (lsD 21 [0,1,2,3,4,5,6,7,8,9,10,11,12,13,14,15,16,17,18,19]) ⟨[(0,(.ptr 0 0)),(3,(.ptr 4 0)),(9,(.fp (Ar (nth r.pkgs i)))),(69,(Ac 12 Ar r.pkgs)),(70,(.int .i64 ((r.pkgs.length:Int)))),(71,(.int .i64 ((i:Int)))),(78,(.map 3)),(80,(.str ((nth r.pkgs i).name))),(94,(.own 6))],[(0,(.row [(.int .i64 st.kind),(.own 1),(.own 2),(.map 3)] 101)),(1,(.grow (st.repos.map Bb) 41 4)),(2,(.grow ((Ax st r i).map Be) 106 13)),(3,(.mm (Ba (Ax st r i)) (some ((nth r.pkgs i).name)) 3 1)),(4,(.row [(.str r.name),(.int .i64 r.prio),(.bool r.inst),(Ac 12 Ar r.pkgs)] 41)),(6,(.grow (((Ba (Ax st r i)) ((nth r.pkgs i).name))++([(.int .i64 ((((Ax st r i).map Be).length:Int)))]:List AV)) 3 1)),(7,(.row [(.int .i64 ((((Ax st r i).map Be).length:Int)))] 3))],8⟩ ?_ (fun m1_1=>?_)
         ·refine Gx (fuel:=0) 20 (by kernel_rfl) ?_
          refine Dq (fuel:=0) 20 rfl ?_
          refine Rh (b:=3) (c:=6) (s:=(nth r.pkgs i).name) (s1:=(nth r.pkgs i).name) (y:=⟨[(0,(.ptr 0 0)),(3,(.ptr 4 0)),(9,(.fp (Ar (nth r.pkgs i)))),(69,(Ac 12 Ar r.pkgs)),(70,(.int .i64 ((r.pkgs.length:Int)))),(71,(.int .i64 ((i:Int)))),(78,(.map 3)),(80,(.str ((nth r.pkgs i).name))),(94,(.own 6))],[(0,(.row [(.int .i64 st.kind),(.own 1),(.own 2),(.map 3)] 101)),(1,(.grow (st.repos.map Bb) 41 4)),(2,(.grow ((Ax st r i).map Be) 106 13)),(3,(.mm (D4 (Ba (Ax st r i)) ((nth r.pkgs i).name) (((Ba (Ax st r i)) ((nth r.pkgs i).name))++([(.int .i64 ((((Ax st r i).map Be).length:Int)))]:List AV))) none 3 1)),(4,(.row [(.str r.name),(.int .i64 r.prio),(.bool r.inst),(Ac 12 Ar r.pkgs)] 41)),(7,(.row [(.int .i64 ((((Ax st r i).map Be).length:Int)))] 3))],8⟩) (by kernel_rfl) (by kernel_rfl) (by kernel_rfl) (by kernel_rfl) (by kernel_rfl) rfl Tryz.underlying99 Tryz.underlying9 (by kernel_rfl) rfl ?_
          refine B5 ⟨rfl,?_⟩
          refine Az [0,3,9,69,70,71] ?_
          refine Hd (by kernel_rfl) ?_
          refine⟨by kernel_rfl,(Eq.trans (b:=(⟨[(0,(.ptr 0 0)),(3,(.ptr 4 0)),(9,(.fp (Ar (nth r.pkgs i)))),(69,(Ac 12 Ar r.pkgs)),(70,(.int .i64 ((r.pkgs.length:Int)))),(71,(.int .i64 ((i:Int))))],[(0,(.row [(.int .i64 st.kind),(.own 1),(.own 2),(.map 3)] 101)),(1,(.grow (st.repos.map Bb) 41 4)),(2,(.grow ((Ax st r i).map Be) 106 13)),(3,(.mm (D4 (Ba (Ax st r i)) ((nth r.pkgs i).name) (((Ba (Ax st r i)) ((nth r.pkgs i).name))++([(.int .i64 ((((Ax st r i).map Be).length:Int)))]:List AV))) none 3 1)),(4,(.row [(.str r.name),(.int .i64 r.prio),(.bool r.inst),(Ac 12 Ar r.pkgs)] 41))],6⟩:St)) (by kernel_rfl) (by rw[show(D4 (Ba (Ax st r i)) ((nth r.pkgs i).name) (((Ba (Ax st r i)) ((nth r.pkgs i).name))++([(.int .i64 ((((Ax st r i).map Be).length:Int)))]:List AV)))=Ba (Ax st r i++[(nth r.pkgs i,(st.repos.length:Int))]) from by(try rw[List.length_map]);exact Zo (Ax st r i) (nth r.pkgs i,(st.repos.length:Int))]<;>kernel_rfl))⟩
         refine Cn false 1 (lsD 21 [0,1,2,3,4,5,6,7,8,9,10,11,12,13,14,15,16,17,18,19]) ⟨[(0,(.ptr 0 0)),(3,(.ptr 4 0)),(9,(.fp (Ar (nth r.pkgs i)))),(69,(Ac 12 Ar r.pkgs)),(70,(.int .i64 ((r.pkgs.length:Int)))),(71,(.int .i64 ((i:Int)))),(78,(.map 3)),(80,(.str ((nth r.pkgs i).name))),(94,(.own 7))],[(0,(.row [(.int .i64 st.kind),(.own 1),(.own 2),(.map 3)] 101)),(1,(.grow (st.repos.map Bb) 41 4)),(2,(.grow ((Ax st r i).map Be) 106 13)),(3,(.mm (Ba (Ax st r i)) (some ((nth r.pkgs i).name)) 3 1)),(4,(.row [(.str r.name),(.int .i64 r.prio),(.bool r.inst),(Ac 12 Ar r.pkgs)] 41)),(6,(.row [(.int .i64 ((((Ax st r i).map Be).length:Int)))] 3)),(7,(.grow (((Ba (Ax st r i)) ((nth r.pkgs i).name))++([(.int .i64 ((((Ax st r i).map Be).length:Int)))]:List AV)) 3 1))],8⟩ ?_ (fun m1_2=>?_)
         ·refine Gx (fuel:=0) 20 (by kernel_rfl) ?_
          refine Dq (fuel:=0) 20 rfl ?_
          refine Rh (b:=3) (c:=7) (s:=(nth r.pkgs i).name) (s1:=(nth r.pkgs i).name) (y:=⟨[(0,(.ptr 0 0)),(3,(.ptr 4 0)),(9,(.fp (Ar (nth r.pkgs i)))),(69,(Ac 12 Ar r.pkgs)),(70,(.int .i64 ((r.pkgs.length:Int)))),(71,(.int .i64 ((i:Int)))),(78,(.map 3)),(80,(.str ((nth r.pkgs i).name))),(94,(.own 7))],[(0,(.row [(.int .i64 st.kind),(.own 1),(.own 2),(.map 3)] 101)),(1,(.grow (st.repos.map Bb) 41 4)),(2,(.grow ((Ax st r i).map Be) 106 13)),(3,(.mm (D4 (Ba (Ax st r i)) ((nth r.pkgs i).name) (((Ba (Ax st r i)) ((nth r.pkgs i).name))++([(.int .i64 ((((Ax st r i).map Be).length:Int)))]:List AV))) none 3 1)),(4,(.row [(.str r.name),(.int .i64 r.prio),(.bool r.inst),(Ac 12 Ar r.pkgs)] 41)),(6,(.row [(.int .i64 ((((Ax st r i).map Be).length:Int)))] 3))],8⟩) (by kernel_rfl) (by kernel_rfl) (by kernel_rfl) (by kernel_rfl) (by kernel_rfl) rfl Tryz.underlying99 Tryz.underlying9 (by kernel_rfl) rfl ?_
          refine B5 ⟨rfl,?_⟩
          refine Az [0,3,9,69,70,71] ?_
          refine Hd (by kernel_rfl) ?_
          refine⟨by kernel_rfl,(Eq.trans (b:=(⟨[(0,(.ptr 0 0)),(3,(.ptr 4 0)),(9,(.fp (Ar (nth r.pkgs i)))),(69,(Ac 12 Ar r.pkgs)),(70,(.int .i64 ((r.pkgs.length:Int)))),(71,(.int .i64 ((i:Int))))],[(0,(.row [(.int .i64 st.kind),(.own 1),(.own 2),(.map 3)] 101)),(1,(.grow (st.repos.map Bb) 41 4)),(2,(.grow ((Ax st r i).map Be) 106 13)),(3,(.mm (D4 (Ba (Ax st r i)) ((nth r.pkgs i).name) (((Ba (Ax st r i)) ((nth r.pkgs i).name))++([(.int .i64 ((((Ax st r i).map Be).length:Int)))]:List AV))) none 3 1)),(4,(.row [(.str r.name),(.int .i64 r.prio),(.bool r.inst),(Ac 12 Ar r.pkgs)] 41))],6⟩:St)) (by kernel_rfl) (by rw[show(D4 (Ba (Ax st r i)) ((nth r.pkgs i).name) (((Ba (Ax st r i)) ((nth r.pkgs i).name))++([(.int .i64 ((((Ax st r i).map Be).length:Int)))]:List AV)))=Ba (Ax st r i++[(nth r.pkgs i,(st.repos.length:Int))]) from by(try rw[List.length_map]);exact Zo (Ax st r i) (nth r.pkgs i,(st.repos.length:Int))]<;>kernel_rfl))⟩
         refine Cn false 2 (lsD 21 [0,1,2,3,4,5,6,7,8,9,10,11,12,13,14,15,16,17,18]) ⟨[(0,(.ptr 0 0)),(3,(.ptr 4 0)),(9,(.fp (Ar (nth r.pkgs i)))),(69,(Ac 12 Ar r.pkgs)),(70,(.int .i64 ((r.pkgs.length:Int)))),(71,(.int .i64 ((i:Int)))),(78,(.map 3)),(80,(.str ((nth r.pkgs i).name))),(87,(.own 6)),(93,(.sl 7 0 1 1 false))],[(0,(.row [(.int .i64 st.kind),(.own 1),(.own 2),(.map 3)] 101)),(1,(.grow (st.repos.map Bb) 41 4)),(2,(.grow ((Ax st r i).map Be) 106 13)),(3,(.mm (Ba (Ax st r i)) (some ((nth r.pkgs i).name)) 3 1)),(4,(.row [(.str r.name),(.int .i64 r.prio),(.bool r.inst),(Ac 12 Ar r.pkgs)] 41)),(6,(.grow ((Ba (Ax st r i)) ((nth r.pkgs i).name)) 3 1)),(7,(.row [(.int .i64 ((((Ax st r i).map Be).length:Int)))] 3))],8⟩ ?_ (fun m1_3=>?_)
         ·refine Dc (fuel:=1) 19 [] (hold (p:=((((Ba (Ax st r i)) ((nth r.pkgs i).name)).length+1)*8≤140737488355328)) (by omega)) ?_
          refine Az [0,3,9,69,70,71,78,80,94] ?_
          exact Bg m1_1
         refine Cn false 2 (lsD 21 [0,1,2,3,4,5,6,7,8,9,10,11,12,13,14,15,16,17,18]) ⟨[(0,(.ptr 0 0)),(3,(.ptr 4 0)),(9,(.fp (Ar (nth r.pkgs i)))),(69,(Ac 12 Ar r.pkgs)),(70,(.int .i64 ((r.pkgs.length:Int)))),(71,(.int .i64 ((i:Int)))),(78,(.map 3)),(80,(.str ((nth r.pkgs i).name))),(87,(.own 7)),(93,(.sl 6 0 1 1 false))],[(0,(.row [(.int .i64 st.kind),(.own 1),(.own 2),(.map 3)] 101)),(1,(.grow (st.repos.map Bb) 41 4)),(2,(.grow ((Ax st r i).map Be) 106 13)),(3,(.mm (Ba (Ax st r i)) (some ((nth r.pkgs i).name)) 3 1)),(4,(.row [(.str r.name),(.int .i64 r.prio),(.bool r.inst),(Ac 12 Ar r.pkgs)] 41)),(6,(.row [(.int .i64 ((((Ax st r i).map Be).length:Int)))] 3)),(7,(.grow ((Ba (Ax st r i)) ((nth r.pkgs i).name)) 3 1))],8⟩ ?_ (fun m1_4=>?_)
         ·refine Dc (fuel:=1) 19 [] (hold (p:=((((Ba (Ax st r i)) ((nth r.pkgs i).name)).length+1)*8≤140737488355328)) (by omega)) ?_
          refine Az [0,3,9,69,70,71,78,80,94] ?_
          exact Bg m1_2
         refine Cn false 3 (lsD 21 [0,1,2,3,4,5,6,7,8,9,10,11,12,13,14,15,16,17]) ⟨[(0,(.ptr 0 0)),(3,(.ptr 4 0)),(9,(.fp (Ar (nth r.pkgs i)))),(69,(Ac 12 Ar r.pkgs)),(70,(.int .i64 ((r.pkgs.length:Int)))),(71,(.int .i64 ((i:Int)))),(78,(.map 3)),(80,(.str ((nth r.pkgs i).name))),(87,(.own 6)),(92,(.int .i64 ((((Ax st r i).map Be).length:Int))))],[(0,(.row [(.int .i64 st.kind),(.own 1),(.own 2),(.map 3)] 101)),(1,(.grow (st.repos.map Bb) 41 4)),(2,(.grow ((Ax st r i).map Be) 106 13)),(3,(.mm (Ba (Ax st r i)) (some ((nth r.pkgs i).name)) 3 1)),(4,(.row [(.str r.name),(.int .i64 r.prio),(.bool r.inst),(Ac 12 Ar r.pkgs)] 41)),(6,(.grow ((Ba (Ax st r i)) ((nth r.pkgs i).name)) 3 1))],7⟩ ?_ (fun m1_5=>?_)
         ·refine Dc (fuel:=2) 18 [] A2 ?_
          refine Az [0,3,9,69,70,71,78,80,87,93] ?_
          exact Bg m1_3
         refine Cn true 3 (lsD 21 [0,1,2,3,4,5,6,7,8,9,10,11,13,14,15,16,17,18]) ⟨[(0,(.ptr 0 0)),(3,(.ptr 4 0)),(9,(.fp (Ar (nth r.pkgs i)))),(69,(Ac 12 Ar r.pkgs)),(70,(.int .i64 ((r.pkgs.length:Int)))),(71,(.int .i64 ((i:Int)))),(78,(.map 3)),(80,(.str ((nth r.pkgs i).name))),(84,(.map 3)),(86,(.str ((nth r.pkgs i).name))),(93,(.sl 6 0 1 1 false))],[(0,(.row [(.int .i64 st.kind),(.own 1),(.own 2),(.map 3)] 101)),(1,(.grow (st.repos.map Bb) 41 4)),(2,(.grow ((Ax st r i).map Be) 106 13)),(3,(.mm (Ba (Ax st r i)) none 3 1)),(4,(.row [(.str r.name),(.int .i64 r.prio),(.bool r.inst),(Ac 12 Ar r.pkgs)] 41)),(6,(.row [(.int .i64 ((((Ax st r i).map Be).length:Int)))] 3))],7⟩ ?_ (fun m1_6=>?_)
         ·refine Gx (fuel:=2) 12 (by kernel_rfl) ?_
          refine Dq (fuel:=2) 12 rfl ?_
          refine Fe (b:=3) (s:=(nth r.pkgs i).name) (y:=⟨[(0,(.ptr 0 0)),(3,(.ptr 4 0)),(9,(.fp (Ar (nth r.pkgs i)))),(69,(Ac 12 Ar r.pkgs)),(70,(.int .i64 ((r.pkgs.length:Int)))),(71,(.int .i64 ((i:Int)))),(78,(.map 3)),(80,(.str ((nth r.pkgs i).name))),(84,(.map 3)),(86,(.str ((nth r.pkgs i).name))),(93,(.sl 6 0 1 1 false)),(87,(.own 7))],[(0,(.row [(.int .i64 st.kind),(.own 1),(.own 2),(.map 3)] 101)),(1,(.grow (st.repos.map Bb) 41 4)),(2,(.grow ((Ax st r i).map Be) 106 13)),(3,(.mm (Ba (Ax st r i)) (some ((nth r.pkgs i).name)) 3 1)),(4,(.row [(.str r.name),(.int .i64 r.prio),(.bool r.inst),(Ac 12 Ar r.pkgs)] 41)),(6,(.row [(.int .i64 ((((Ax st r i).map Be).length:Int)))] 3)),(7,(.grow ((Ba (Ax st r i)) ((nth r.pkgs i).name)) 3 1))],8⟩) (by kernel_rfl) (by kernel_rfl) (by kernel_rfl) Tryz.underlying99 Tryz.underlying9 (fun _=>by kernel_rfl) (by kernel_rfl) ?_
          refine B5 ⟨rfl,?_⟩
          refine Az [0,3,9,69,70,71,78,80,87,93] ?_
          exact Bg m1_4
         refine Cn false 4 (lsD 21 [0,1,2,3,4,5,6,7,8,9,10,11,12,13,14,15,16]) ⟨[(0,(.ptr 0 0)),(3,(.ptr 4 0)),(9,(.fp (Ar (nth r.pkgs i)))),(69,(Ac 12 Ar r.pkgs)),(70,(.int .i64 ((r.pkgs.length:Int)))),(71,(.int .i64 ((i:Int)))),(78,(.map 3)),(80,(.str ((nth r.pkgs i).name))),(87,(.own 6)),(91,(.own 2))],[(0,(.row [(.int .i64 st.kind),(.own 1),(.own 2),(.map 3)] 101)),(1,(.grow (st.repos.map Bb) 41 4)),(2,(.grow ((Ax st r i).map Be) 106 13)),(3,(.mm (Ba (Ax st r i)) (some ((nth r.pkgs i).name)) 3 1)),(4,(.row [(.str r.name),(.int .i64 r.prio),(.bool r.inst),(Ac 12 Ar r.pkgs)] 41)),(6,(.grow ((Ba (Ax st r i)) ((nth r.pkgs i).name)) 3 1))],7⟩ ?_ (fun m1_7=>?_)
         ·refine Dc (fuel:=3) 17 [] A2 ?_
          refine Az [0,3,9,69,70,71,78,80,87,92] ?_
          exact Bg m1_5
         refine Cn true 4 (lsD 21 [0,1,2,3,4,5,6,7,8,9,10,11,13,14,15,16,17]) ⟨[(0,(.ptr 0 0)),(3,(.ptr 4 0)),(9,(.fp (Ar (nth r.pkgs i)))),(69,(Ac 12 Ar r.pkgs)),(70,(.int .i64 ((r.pkgs.length:Int)))),(71,(.int .i64 ((i:Int)))),(78,(.map 3)),(80,(.str ((nth r.pkgs i).name))),(84,(.map 3)),(86,(.str ((nth r.pkgs i).name))),(92,(.int .i64 ((((Ax st r i).map Be).length:Int))))],[(0,(.row [(.int .i64 st.kind),(.own 1),(.own 2),(.map 3)] 101)),(1,(.grow (st.repos.map Bb) 41 4)),(2,(.grow ((Ax st r i).map Be) 106 13)),(3,(.mm (Ba (Ax st r i)) none 3 1)),(4,(.row [(.str r.name),(.int .i64 r.prio),(.bool r.inst),(Ac 12 Ar r.pkgs)] 41))],6⟩ ?_ (fun m1_8=>?_)
         ·refine Cp 12 18 (by kernel_rfl) ?_ ?_
          ·refine Dq (fuel:=3) 12 rfl ?_
           refine Fe (b:=3) (s:=(nth r.pkgs i).name) (y:=⟨[(0,(.ptr 0 0)),(3,(.ptr 4 0)),(9,(.fp (Ar (nth r.pkgs i)))),(69,(Ac 12 Ar r.pkgs)),(70,(.int .i64 ((r.pkgs.length:Int)))),(71,(.int .i64 ((i:Int)))),(78,(.map 3)),(80,(.str ((nth r.pkgs i).name))),(84,(.map 3)),(86,(.str ((nth r.pkgs i).name))),(92,(.int .i64 ((((Ax st r i).map Be).length:Int)))),(87,(.own 6))],[(0,(.row [(.int .i64 st.kind),(.own 1),(.own 2),(.map 3)] 101)),(1,(.grow (st.repos.map Bb) 41 4)),(2,(.grow ((Ax st r i).map Be) 106 13)),(3,(.mm (Ba (Ax st r i)) (some ((nth r.pkgs i).name)) 3 1)),(4,(.row [(.str r.name),(.int .i64 r.prio),(.bool r.inst),(Ac 12 Ar r.pkgs)] 41)),(6,(.grow ((Ba (Ax st r i)) ((nth r.pkgs i).name)) 3 1))],7⟩) (by kernel_rfl) (by kernel_rfl) (by kernel_rfl) Tryz.underlying99 Tryz.underlying9 (fun _=>by kernel_rfl) (by kernel_rfl) ?_
           refine B5 ⟨rfl,?_⟩
           refine Az [0,3,9,69,70,71,78,80,87,92] ?_
           exact Bg m1_5
          ·refine Bd (fuel:=3) 18 [] A2 ?_
           refine Az [0,3,9,69,70,71,78,80,84,86,93] ?_
           exact Bg m1_6
         refine Cn true 4 (lsD 21 [0,1,2,3,4,5,6,7,8,10,11,13,14,15,16,17,18]) ⟨[(0,(.ptr 0 0)),(3,(.ptr 4 0)),(9,(.fp (Ar (nth r.pkgs i)))),(69,(Ac 12 Ar r.pkgs)),(70,(.int .i64 ((r.pkgs.length:Int)))),(71,(.int .i64 ((i:Int)))),(78,(.map 3)),(80,(.str ((nth r.pkgs i).name))),(83,(.ptr 0 3)),(86,(.str ((nth r.pkgs i).name))),(93,(.sl 6 0 1 1 false))],[(0,(.row [(.int .i64 st.kind),(.own 1),(.own 2),(.map 3)] 101)),(1,(.grow (st.repos.map Bb) 41 4)),(2,(.grow ((Ax st r i).map Be) 106 13)),(3,(.mm (Ba (Ax st r i)) none 3 1)),(4,(.row [(.str r.name),(.int .i64 r.prio),(.bool r.inst),(Ac 12 Ar r.pkgs)] 41)),(6,(.row [(.int .i64 ((((Ax st r i).map Be).length:Int)))] 3))],7⟩ ?_ (fun m1_9=>?_)
         ·refine Dc (fuel:=3) 9 [] A2 ?_
          refine Az [0,3,9,69,70,71,78,80,84,86,93] ?_
          exact Bg m1_6
         refine Cn false 4 (lsD 21 [0,1,2,4,5,6,7,8,9,10,11,12,13,14,15,16,17]) ⟨[(0,(.ptr 0 0)),(3,(.ptr 4 0)),(9,(.fp (Ar (nth r.pkgs i)))),(69,(Ac 12 Ar r.pkgs)),(70,(.int .i64 ((r.pkgs.length:Int)))),(71,(.int .i64 ((i:Int)))),(77,(.ptr 0 3)),(80,(.str ((nth r.pkgs i).name))),(87,(.own 6)),(92,(.int .i64 ((((Ax st r i).map Be).length:Int))))],[(0,(.row [(.int .i64 st.kind),(.own 1),(.own 2),(.map 3)] 101)),(1,(.grow (st.repos.map Bb) 41 4)),(2,(.grow ((Ax st r i).map Be) 106 13)),(3,(.mm (Ba (Ax st r i)) (some ((nth r.pkgs i).name)) 3 1)),(4,(.row [(.str r.name),(.int .i64 r.prio),(.bool r.inst),(Ac 12 Ar r.pkgs)] 41)),(6,(.grow ((Ba (Ax st r i)) ((nth r.pkgs i).name)) 3 1))],7⟩ ?_ (fun m1_10=>?_)
         ·refine Cp 3 18 (by kernel_rfl) ?_ ?_
          ·refine Bd (fuel:=3) 3 [] A2 ?_
           refine Az [0,3,9,69,70,71,78,80,87,92] ?_
           exact Bg m1_5
          ·refine Bd (fuel:=3) 18 [] A2 ?_
           refine Az [0,3,9,69,70,71,77,80,87,93] ?_
           refine Cp 3 19 (by kernel_rfl) ?_ ?_
           ·refine Bd (fuel:=2) 3 [] A2 ?_
            refine Az [0,3,9,69,70,71,78,80,87,93] ?_
            exact Bg m1_3
           ·refine Bd (fuel:=2) 19 [] (hold (p:=((((Ba (Ax st r i)) ((nth r.pkgs i).name)).length+1)*8≤140737488355328)) (by omega)) ?_
            refine Az [0,3,9,69,70,71,77,80,94] ?_
            refine Dc (fuel:=1) 3 [] A2 ?_
            refine Az [0,3,9,69,70,71,78,80,94] ?_
            exact Bg m1_1
         refine Cn true 4 (lsD 21 [0,1,2,4,5,6,7,8,9,10,11,13,14,15,16,17,18]) ⟨[(0,(.ptr 0 0)),(3,(.ptr 4 0)),(9,(.fp (Ar (nth r.pkgs i)))),(69,(Ac 12 Ar r.pkgs)),(70,(.int .i64 ((r.pkgs.length:Int)))),(71,(.int .i64 ((i:Int)))),(77,(.ptr 0 3)),(80,(.str ((nth r.pkgs i).name))),(84,(.map 3)),(86,(.str ((nth r.pkgs i).name))),(93,(.sl 6 0 1 1 false))],[(0,(.row [(.int .i64 st.kind),(.own 1),(.own 2),(.map 3)] 101)),(1,(.grow (st.repos.map Bb) 41 4)),(2,(.grow ((Ax st r i).map Be) 106 13)),(3,(.mm (Ba (Ax st r i)) none 3 1)),(4,(.row [(.str r.name),(.int .i64 r.prio),(.bool r.inst),(Ac 12 Ar r.pkgs)] 41)),(6,(.row [(.int .i64 ((((Ax st r i).map Be).length:Int)))] 3))],7⟩ ?_ (fun m1_11=>?_)
         ·refine Cp 3 12 (by kernel_rfl) ?_ ?_
          ·refine Bd (fuel:=3) 3 [] A2 ?_
           refine Az [0,3,9,69,70,71,78,80,84,86,93] ?_
           exact Bg m1_6
          ·refine Dq (fuel:=3) 12 rfl ?_
           refine Fe (b:=3) (s:=(nth r.pkgs i).name) (y:=⟨[(0,(.ptr 0 0)),(3,(.ptr 4 0)),(9,(.fp (Ar (nth r.pkgs i)))),(69,(Ac 12 Ar r.pkgs)),(70,(.int .i64 ((r.pkgs.length:Int)))),(71,(.int .i64 ((i:Int)))),(77,(.ptr 0 3)),(80,(.str ((nth r.pkgs i).name))),(84,(.map 3)),(86,(.str ((nth r.pkgs i).name))),(93,(.sl 6 0 1 1 false)),(87,(.own 7))],[(0,(.row [(.int .i64 st.kind),(.own 1),(.own 2),(.map 3)] 101)),(1,(.grow (st.repos.map Bb) 41 4)),(2,(.grow ((Ax st r i).map Be) 106 13)),(3,(.mm (Ba (Ax st r i)) (some ((nth r.pkgs i).name)) 3 1)),(4,(.row [(.str r.name),(.int .i64 r.prio),(.bool r.inst),(Ac 12 Ar r.pkgs)] 41)),(6,(.row [(.int .i64 ((((Ax st r i).map Be).length:Int)))] 3)),(7,(.grow ((Ba (Ax st r i)) ((nth r.pkgs i).name)) 3 1))],8⟩) (by kernel_rfl) (by kernel_rfl) (by kernel_rfl) Tryz.underlying99 Tryz.underlying9 (fun _=>by kernel_rfl) (by kernel_rfl) ?_
           refine B5 ⟨rfl,?_⟩
           refine Az [0,3,9,69,70,71,77,80,87,93] ?_
           refine Cp 3 19 (by kernel_rfl) ?_ ?_
           ·refine Bd (fuel:=2) 3 [] A2 ?_
            refine Az [0,3,9,69,70,71,78,80,87,93] ?_
            exact Bg m1_4
           ·refine Bd (fuel:=2) 19 [] (hold (p:=((((Ba (Ax st r i)) ((nth r.pkgs i).name)).length+1)*8≤140737488355328)) (by omega)) ?_
            refine Az [0,3,9,69,70,71,77,80,94] ?_
            refine Dc (fuel:=1) 3 [] A2 ?_
            refine Az [0,3,9,69,70,71,78,80,94] ?_
            exact Bg m1_2
         refine Cn false 5 (lsD 21 [0,1,2,3,4,5,6,7,8,9,10,11,12,13,14,15]) ⟨[(0,(.ptr 0 0)),(3,(.ptr 4 0)),(9,(.fp (Ar (nth r.pkgs i)))),(69,(Ac 12 Ar r.pkgs)),(70,(.int .i64 ((r.pkgs.length:Int)))),(71,(.int .i64 ((i:Int)))),(78,(.map 3)),(80,(.str ((nth r.pkgs i).name))),(87,(.own 6)),(90,(.ptr 0 2))],[(0,(.row [(.int .i64 st.kind),(.own 1),(.own 2),(.map 3)] 101)),(1,(.grow (st.repos.map Bb) 41 4)),(2,(.grow ((Ax st r i).map Be) 106 13)),(3,(.mm (Ba (Ax st r i)) (some ((nth r.pkgs i).name)) 3 1)),(4,(.row [(.str r.name),(.int .i64 r.prio),(.bool r.inst),(Ac 12 Ar r.pkgs)] 41)),(6,(.grow ((Ba (Ax st r i)) ((nth r.pkgs i).name)) 3 1))],7⟩ ?_ (fun m1_12=>?_)
         ·refine Dc (fuel:=4) 16 [] A2 ?_
          refine Az [0,3,9,69,70,71,78,80,87,91] ?_
          exact Bg m1_7
         refine Cn true 5 (lsD 21 [0,1,2,3,4,5,6,7,8,9,10,11,13,14,15,16]) ⟨[(0,(.ptr 0 0)),(3,(.ptr 4 0)),(9,(.fp (Ar (nth r.pkgs i)))),(69,(Ac 12 Ar r.pkgs)),(70,(.int .i64 ((r.pkgs.length:Int)))),(71,(.int .i64 ((i:Int)))),(78,(.map 3)),(80,(.str ((nth r.pkgs i).name))),(84,(.map 3)),(86,(.str ((nth r.pkgs i).name))),(91,(.own 2))],[(0,(.row [(.int .i64 st.kind),(.own 1),(.own 2),(.map 3)] 101)),(1,(.grow (st.repos.map Bb) 41 4)),(2,(.grow ((Ax st r i).map Be) 106 13)),(3,(.mm (Ba (Ax st r i)) none 3 1)),(4,(.row [(.str r.name),(.int .i64 r.prio),(.bool r.inst),(Ac 12 Ar r.pkgs)] 41))],6⟩ ?_ (fun m1_13=>?_)
         ·refine Cp 12 17 (by kernel_rfl) ?_ ?_
          ·refine Dq (fuel:=4) 12 rfl ?_
           refine Fe (b:=3) (s:=(nth r.pkgs i).name) (y:=⟨[(0,(.ptr 0 0)),(3,(.ptr 4 0)),(9,(.fp (Ar (nth r.pkgs i)))),(69,(Ac 12 Ar r.pkgs)),(70,(.int .i64 ((r.pkgs.length:Int)))),(71,(.int .i64 ((i:Int)))),(78,(.map 3)),(80,(.str ((nth r.pkgs i).name))),(84,(.map 3)),(86,(.str ((nth r.pkgs i).name))),(91,(.own 2)),(87,(.own 6))],[(0,(.row [(.int .i64 st.kind),(.own 1),(.own 2),(.map 3)] 101)),(1,(.grow (st.repos.map Bb) 41 4)),(2,(.grow ((Ax st r i).map Be) 106 13)),(3,(.mm (Ba (Ax st r i)) (some ((nth r.pkgs i).name)) 3 1)),(4,(.row [(.str r.name),(.int .i64 r.prio),(.bool r.inst),(Ac 12 Ar r.pkgs)] 41)),(6,(.grow ((Ba (Ax st r i)) ((nth r.pkgs i).name)) 3 1))],7⟩) (by kernel_rfl) (by kernel_rfl) (by kernel_rfl) Tryz.underlying99 Tryz.underlying9 (fun _=>by kernel_rfl) (by kernel_rfl) ?_
           refine B5 ⟨rfl,?_⟩
           refine Az [0,3,9,69,70,71,78,80,87,91] ?_
           exact Bg m1_7
          ·refine Bd (fuel:=4) 17 [] A2 ?_
           refine Az [0,3,9,69,70,71,78,80,84,86,92] ?_
           exact Bg m1_8
         refine Cn true 5 (lsD 21 [0,1,2,3,4,5,6,7,8,10,11,13,14,15,16,17]) ⟨[(0,(.ptr 0 0)),(3,(.ptr 4 0)),(9,(.fp (Ar (nth r.pkgs i)))),(69,(Ac 12 Ar r.pkgs)),(70,(.int .i64 ((r.pkgs.length:Int)))),(71,(.int .i64 ((i:Int)))),(78,(.map 3)),(80,(.str ((nth r.pkgs i).name))),(83,(.ptr 0 3)),(86,(.str ((nth r.pkgs i).name))),(92,(.int .i64 ((((Ax st r i).map Be).length:Int))))],[(0,(.row [(.int .i64 st.kind),(.own 1),(.own 2),(.map 3)] 101)),(1,(.grow (st.repos.map Bb) 41 4)),(2,(.grow ((Ax st r i).map Be) 106 13)),(3,(.mm (Ba (Ax st r i)) none 3 1)),(4,(.row [(.str r.name),(.int .i64 r.prio),(.bool r.inst),(Ac 12 Ar r.pkgs)] 41))],6⟩ ?_ (fun m1_14=>?_)
         ·refine Cp 9 18 (by kernel_rfl) ?_ ?_
          ·refine Bd (fuel:=4) 9 [] A2 ?_
           refine Az [0,3,9,69,70,71,78,80,84,86,92] ?_
           exact Bg m1_8
          ·refine Bd (fuel:=4) 18 [] A2 ?_
           refine Az [0,3,9,69,70,71,78,80,83,86,93] ?_
           exact Bg m1_9
         refine Cn false 5 (lsD 21 [0,1,2,4,5,6,7,8,9,10,11,12,13,14,15,16]) ⟨[(0,(.ptr 0 0)),(3,(.ptr 4 0)),(9,(.fp (Ar (nth r.pkgs i)))),(69,(Ac 12 Ar r.pkgs)),(70,(.int .i64 ((r.pkgs.length:Int)))),(71,(.int .i64 ((i:Int)))),(77,(.ptr 0 3)),(80,(.str ((nth r.pkgs i).name))),(87,(.own 6)),(91,(.own 2))],[(0,(.row [(.int .i64 st.kind),(.own 1),(.own 2),(.map 3)] 101)),(1,(.grow (st.repos.map Bb) 41 4)),(2,(.grow ((Ax st r i).map Be) 106 13)),(3,(.mm (Ba (Ax st r i)) (some ((nth r.pkgs i).name)) 3 1)),(4,(.row [(.str r.name),(.int .i64 r.prio),(.bool r.inst),(Ac 12 Ar r.pkgs)] 41)),(6,(.grow ((Ba (Ax st r i)) ((nth r.pkgs i).name)) 3 1))],7⟩ ?_ (fun m1_15=>?_)
         ·refine Cp 3 17 (by kernel_rfl) ?_ ?_
          ·refine Bd (fuel:=4) 3 [] A2 ?_
           refine Az [0,3,9,69,70,71,78,80,87,91] ?_
           exact Bg m1_7
          ·refine Bd (fuel:=4) 17 [] A2 ?_
           refine Az [0,3,9,69,70,71,77,80,87,92] ?_
           exact Bg m1_10
         refine Cn true 5 (lsD 21 [0,1,2,4,5,6,7,8,9,10,11,13,14,15,16,17]) ⟨[(0,(.ptr 0 0)),(3,(.ptr 4 0)),(9,(.fp (Ar (nth r.pkgs i)))),(69,(Ac 12 Ar r.pkgs)),(70,(.int .i64 ((r.pkgs.length:Int)))),(71,(.int .i64 ((i:Int)))),(77,(.ptr 0 3)),(80,(.str ((nth r.pkgs i).name))),(84,(.map 3)),(86,(.str ((nth r.pkgs i).name))),(92,(.int .i64 ((((Ax st r i).map Be).length:Int))))],[(0,(.row [(.int .i64 st.kind),(.own 1),(.own 2),(.map 3)] 101)),(1,(.grow (st.repos.map Bb) 41 4)),(2,(.grow ((Ax st r i).map Be) 106 13)),(3,(.mm (Ba (Ax st r i)) none 3 1)),(4,(.row [(.str r.name),(.int .i64 r.prio),(.bool r.inst),(Ac 12 Ar r.pkgs)] 41))],6⟩ ?_ (fun m1_16=>?_)
         ·refine Ge 3 12 18 (by kernel_rfl) ?_ ?_ ?_
          ·refine Bd (fuel:=4) 3 [] A2 ?_
           refine Az [0,3,9,69,70,71,78,80,84,86,92] ?_
           exact Bg m1_8
          ·refine Dq (fuel:=4) 12 rfl ?_
           refine Fe (b:=3) (s:=(nth r.pkgs i).name) (y:=⟨[(0,(.ptr 0 0)),(3,(.ptr 4 0)),(9,(.fp (Ar (nth r.pkgs i)))),(69,(Ac 12 Ar r.pkgs)),(70,(.int .i64 ((r.pkgs.length:Int)))),(71,(.int .i64 ((i:Int)))),(77,(.ptr 0 3)),(80,(.str ((nth r.pkgs i).name))),(84,(.map 3)),(86,(.str ((nth r.pkgs i).name))),(92,(.int .i64 ((((Ax st r i).map Be).length:Int)))),(87,(.own 6))],[(0,(.row [(.int .i64 st.kind),(.own 1),(.own 2),(.map 3)] 101)),(1,(.grow (st.repos.map Bb) 41 4)),(2,(.grow ((Ax st r i).map Be) 106 13)),(3,(.mm (Ba (Ax st r i)) (some ((nth r.pkgs i).name)) 3 1)),(4,(.row [(.str r.name),(.int .i64 r.prio),(.bool r.inst),(Ac 12 Ar r.pkgs)] 41)),(6,(.grow ((Ba (Ax st r i)) ((nth r.pkgs i).name)) 3 1))],7⟩) (by kernel_rfl) (by kernel_rfl) (by kernel_rfl) Tryz.underlying99 Tryz.underlying9 (fun _=>by kernel_rfl) (by kernel_rfl) ?_
           refine B5 ⟨rfl,?_⟩
           refine Az [0,3,9,69,70,71,77,80,87,92] ?_
           exact Bg m1_10
          ·refine Bd (fuel:=4) 18 [] A2 ?_
           refine Az [0,3,9,69,70,71,77,80,84,86,93] ?_
           exact Bg m1_11
         refine Cn true 6 (lsD 21 [0,1,2,3,4,5,6,7,8,9,10,11,13,14,15]) ⟨[(0,(.ptr 0 0)),(3,(.ptr 4 0)),(9,(.fp (Ar (nth r.pkgs i)))),(69,(Ac 12 Ar r.pkgs)),(70,(.int .i64 ((r.pkgs.length:Int)))),(71,(.int .i64 ((i:Int)))),(78,(.map 3)),(80,(.str ((nth r.pkgs i).name))),(84,(.map 3)),(86,(.str ((nth r.pkgs i).name))),(90,(.ptr 0 2))],[(0,(.row [(.int .i64 st.kind),(.own 1),(.own 2),(.map 3)] 101)),(1,(.grow (st.repos.map Bb) 41 4)),(2,(.grow ((Ax st r i).map Be) 106 13)),(3,(.mm (Ba (Ax st r i)) none 3 1)),(4,(.row [(.str r.name),(.int .i64 r.prio),(.bool r.inst),(Ac 12 Ar r.pkgs)] 41))],6⟩ ?_ (fun m1_17=>?_)
         ·refine Cp 12 16 (by kernel_rfl) ?_ ?_
          ·refine Dq (fuel:=5) 12 rfl ?_
           refine Fe (b:=3) (s:=(nth r.pkgs i).name) (y:=⟨[(0,(.ptr 0 0)),(3,(.ptr 4 0)),(9,(.fp (Ar (nth r.pkgs i)))),(69,(Ac 12 Ar r.pkgs)),(70,(.int .i64 ((r.pkgs.length:Int)))),(71,(.int .i64 ((i:Int)))),(78,(.map 3)),(80,(.str ((nth r.pkgs i).name))),(84,(.map 3)),(86,(.str ((nth r.pkgs i).name))),(90,(.ptr 0 2)),(87,(.own 6))],[(0,(.row [(.int .i64 st.kind),(.own 1),(.own 2),(.map 3)] 101)),(1,(.grow (st.repos.map Bb) 41 4)),(2,(.grow ((Ax st r i).map Be) 106 13)),(3,(.mm (Ba (Ax st r i)) (some ((nth r.pkgs i).name)) 3 1)),(4,(.row [(.str r.name),(.int .i64 r.prio),(.bool r.inst),(Ac 12 Ar r.pkgs)] 41)),(6,(.grow ((Ba (Ax st r i)) ((nth r.pkgs i).name)) 3 1))],7⟩) (by kernel_rfl) (by kernel_rfl) (by kernel_rfl) Tryz.underlying99 Tryz.underlying9 (fun _=>by kernel_rfl) (by kernel_rfl) ?_
           refine B5 ⟨rfl,?_⟩
           refine Az [0,3,9,69,70,71,78,80,87,90] ?_
           exact Bg m1_12
          ·refine Bd (fuel:=5) 16 [] A2 ?_
           refine Az [0,3,9,69,70,71,78,80,84,86,91] ?_
           exact Bg m1_13
         refine Cn true 6 (lsD 21 [0,1,2,3,4,5,6,7,8,10,11,13,14,15,16]) ⟨[(0,(.ptr 0 0)),(3,(.ptr 4 0)),(9,(.fp (Ar (nth r.pkgs i)))),(69,(Ac 12 Ar r.pkgs)),(70,(.int .i64 ((r.pkgs.length:Int)))),(71,(.int .i64 ((i:Int)))),(78,(.map 3)),(80,(.str ((nth r.pkgs i).name))),(83,(.ptr 0 3)),(86,(.str ((nth r.pkgs i).name))),(91,(.own 2))],[(0,(.row [(.int .i64 st.kind),(.own 1),(.own 2),(.map 3)] 101)),(1,(.grow (st.repos.map Bb) 41 4)),(2,(.grow ((Ax st r i).map Be) 106 13)),(3,(.mm (Ba (Ax st r i)) none 3 1)),(4,(.row [(.str r.name),(.int .i64 r.prio),(.bool r.inst),(Ac 12 Ar r.pkgs)] 41))],6⟩ ?_ (fun m1_18=>?_)
         ·refine Cp 9 17 (by kernel_rfl) ?_ ?_
          ·refine Bd (fuel:=5) 9 [] A2 ?_
           refine Az [0,3,9,69,70,71,78,80,84,86,91] ?_
           exact Bg m1_13
          ·refine Bd (fuel:=5) 17 [] A2 ?_
           refine Az [0,3,9,69,70,71,78,80,83,86,92] ?_
           exact Bg m1_14
         refine Cn true 6 (lsD 21 [0,1,2,4,5,6,7,8,9,10,11,13,14,15,16]) ⟨[(0,(.ptr 0 0)),(3,(.ptr 4 0)),(9,(.fp (Ar (nth r.pkgs i)))),(69,(Ac 12 Ar r.pkgs)),(70,(.int .i64 ((r.pkgs.length:Int)))),(71,(.int .i64 ((i:Int)))),(77,(.ptr 0 3)),(80,(.str ((nth r.pkgs i).name))),(84,(.map 3)),(86,(.str ((nth r.pkgs i).name))),(91,(.own 2))],[(0,(.row [(.int .i64 st.kind),(.own 1),(.own 2),(.map 3)] 101)),(1,(.grow (st.repos.map Bb) 41 4)),(2,(.grow ((Ax st r i).map Be) 106 13)),(3,(.mm (Ba (Ax st r i)) none 3 1)),(4,(.row [(.str r.name),(.int .i64 r.prio),(.bool r.inst),(Ac 12 Ar r.pkgs)] 41))],6⟩ ?_ (fun m1_19=>?_)
         ·refine Ge 3 12 17 (by kernel_rfl) ?_ ?_ ?_
          ·refine Bd (fuel:=5) 3 [] A2 ?_
           refine Az [0,3,9,69,70,71,78,80,84,86,91] ?_
           exact Bg m1_13
          ·refine Dq (fuel:=5) 12 rfl ?_
           refine Fe (b:=3) (s:=(nth r.pkgs i).name) (y:=⟨[(0,(.ptr 0 0)),(3,(.ptr 4 0)),(9,(.fp (Ar (nth r.pkgs i)))),(69,(Ac 12 Ar r.pkgs)),(70,(.int .i64 ((r.pkgs.length:Int)))),(71,(.int .i64 ((i:Int)))),(77,(.ptr 0 3)),(80,(.str ((nth r.pkgs i).name))),(84,(.map 3)),(86,(.str ((nth r.pkgs i).name))),(91,(.own 2)),(87,(.own 6))],[(0,(.row [(.int .i64 st.kind),(.own 1),(.own 2),(.map 3)] 101)),(1,(.grow (st.repos.map Bb) 41 4)),(2,(.grow ((Ax st r i).map Be) 106 13)),(3,(.mm (Ba (Ax st r i)) (some ((nth r.pkgs i).name)) 3 1)),(4,(.row [(.str r.name),(.int .i64 r.prio),(.bool r.inst),(Ac 12 Ar r.pkgs)] 41)),(6,(.grow ((Ba (Ax st r i)) ((nth r.pkgs i).name)) 3 1))],7⟩) (by kernel_rfl) (by kernel_rfl) (by kernel_rfl) Tryz.underlying99 Tryz.underlying9 (fun _=>by kernel_rfl) (by kernel_rfl) ?_
           refine B5 ⟨rfl,?_⟩
           refine Az [0,3,9,69,70,71,77,80,87,91] ?_
           exact Bg m1_15
          ·refine Bd (fuel:=5) 17 [] A2 ?_
           refine Az [0,3,9,69,70,71,77,80,84,86,92] ?_
           exact Bg m1_16
         refine De (fuel:=8) [] [0,1,2,4,5,6,7,8,10,11,13,14,15] [0,3,9,69,70,71,77,80,83,86,90] A2 ?_
         refine Ge 3 9 16 (by kernel_rfl) ?_ ?_ ?_
         ·refine Bd (fuel:=7) 3 [] A2 ?_
          refine Az [0,3,9,69,70,71,78,80,83,86,90] ?_
          refine Cp 9 16 (by kernel_rfl) ?_ ?_
          ·refine Bd (fuel:=6) 9 [] A2 ?_
           refine Az [0,3,9,69,70,71,78,80,84,86,90] ?_
           exact Bg m1_17
          ·refine Bd (fuel:=6) 16 [] A2 ?_
           refine Az [0,3,9,69,70,71,78,80,83,86,91] ?_
           exact Bg m1_18
         ·refine Bd (fuel:=7) 9 [] A2 ?_
          refine Az [0,3,9,69,70,71,77,80,84,86,90] ?_
          refine Ge 3 12 16 (by kernel_rfl) ?_ ?_ ?_
          ·refine Bd (fuel:=6) 3 [] A2 ?_
           refine Az [0,3,9,69,70,71,78,80,84,86,90] ?_
           exact Bg m1_17
          ·refine Dq (fuel:=6) 12 rfl ?_
           refine Fe (b:=3) (s:=(nth r.pkgs i).name) (y:=⟨[(0,(.ptr 0 0)),(3,(.ptr 4 0)),(9,(.fp (Ar (nth r.pkgs i)))),(69,(Ac 12 Ar r.pkgs)),(70,(.int .i64 ((r.pkgs.length:Int)))),(71,(.int .i64 ((i:Int)))),(77,(.ptr 0 3)),(80,(.str ((nth r.pkgs i).name))),(84,(.map 3)),(86,(.str ((nth r.pkgs i).name))),(90,(.ptr 0 2)),(87,(.own 6))],[(0,(.row [(.int .i64 st.kind),(.own 1),(.own 2),(.map 3)] 101)),(1,(.grow (st.repos.map Bb) 41 4)),(2,(.grow ((Ax st r i).map Be) 106 13)),(3,(.mm (Ba (Ax st r i)) (some ((nth r.pkgs i).name)) 3 1)),(4,(.row [(.str r.name),(.int .i64 r.prio),(.bool r.inst),(Ac 12 Ar r.pkgs)] 41)),(6,(.grow ((Ba (Ax st r i)) ((nth r.pkgs i).name)) 3 1))],7⟩) (by kernel_rfl) (by kernel_rfl) (by kernel_rfl) Tryz.underlying99 Tryz.underlying9 (fun _=>by kernel_rfl) (by kernel_rfl) ?_
           refine B5 ⟨rfl,?_⟩
           refine Az [0,3,9,69,70,71,77,80,87,90] ?_
           refine Cp 3 16 (by kernel_rfl) ?_ ?_
           ·refine Bd (fuel:=5) 3 [] A2 ?_
            refine Az [0,3,9,69,70,71,78,80,87,90] ?_
            exact Bg m1_12
           ·refine Bd (fuel:=5) 16 [] A2 ?_
            refine Az [0,3,9,69,70,71,77,80,87,91] ?_
            exact Bg m1_15
          ·refine Bd (fuel:=6) 16 [] A2 ?_
           refine Az [0,3,9,69,70,71,77,80,84,86,91] ?_
           exact Bg m1_19
         ·refine Bd (fuel:=7) 16 [] A2 ?_
          refine Az [0,3,9,69,70,71,77,80,83,86,91] ?_
          refine Ge 3 9 17 (by kernel_rfl) ?_ ?_ ?_
          ·refine Bd (fuel:=6) 3 [] A2 ?_
           refine Az [0,3,9,69,70,71,78,80,83,86,91] ?_
           exact Bg m1_18
          ·refine Bd (fuel:=6) 9 [] A2 ?_
           refine Az [0,3,9,69,70,71,77,80,84,86,91] ?_
           exact Bg m1_19
          ·refine Bd (fuel:=6) 17 [] A2 ?_
           refine Az [0,3,9,69,70,71,77,80,83,86,92] ?_
           refine Ge 3 9 18 (by kernel_rfl) ?_ ?_ ?_
           ·refine Bd (fuel:=5) 3 [] A2 ?_
            refine Az [0,3,9,69,70,71,78,80,83,86,92] ?_
            exact Bg m1_14
           ·refine Bd (fuel:=5) 9 [] A2 ?_
            refine Az [0,3,9,69,70,71,77,80,84,86,92] ?_
            exact Bg m1_16
           ·refine Bd (fuel:=5) 18 [] A2 ?_
            refine Az [0,3,9,69,70,71,77,80,83,86,93] ?_
            refine Cp 3 9 (by kernel_rfl) ?_ ?_
            ·refine Bd (fuel:=4) 3 [] A2 ?_
             refine Az [0,3,9,69,70,71,78,80,83,86,93] ?_
             exact Bg m1_9
            ·refine Bd (fuel:=4) 9 [] A2 ?_
             refine Az [0,3,9,69,70,71,77,80,84,86,93] ?_
             exact Bg m1_11
        ·rintro y3 rfl
         refine Hc [] [0,3,69,70,71] [] (hk 6 Q1x (Q24 (nth r.pkgs i) (by have:=(nth r.pkgs i).sizes;have:=hp i (by omega);omega) (by have:=(nth r.pkgs i).sizes;have:=K1 (nth r.pkgs i).files;have:=hp i (by omega);omega))<|hk0) v0 (cc 14 (p:=((((Ax st r i).map Be).length+1)*264≤140737488355328)) (by omega)<|c0) ?_
         refine⟨by kernel_rfl,(Eq.trans (b:=(⟨[(0,(.ptr 0 0)),(3,(.ptr 4 0)),(69,(Ac 12 Ar r.pkgs)),(70,(.int .i64 ((r.pkgs.length:Int)))),(71,(.int .i64 ((i:Int))))],[(0,(.row [(.int .i64 st.kind),(.own 1),(.own 2),(.map 3)] 101)),(1,(.grow (st.repos.map Bb) 41 4)),(2,(.grow (((Ax st r i).map Be)++([(.agg [(.str ((nth r.pkgs i).name)),(.str ((nth r.pkgs i).evr)),(.str ((nth r.pkgs i).arch)),(.str ((nth r.pkgs i).vendor)),(Ac 5 Ak ((nth r.pkgs i).provides)),(Ac 5 Ak ((nth r.pkgs i).requires)),(Ac 5 Ak ((nth r.pkgs i).pre)),(Ac 5 Ak ((nth r.pkgs i).conflicts)),(Ac 5 Ak ((nth r.pkgs i).obsoletes)),(Ac 5 Ak ((nth r.pkgs i).recommends)),(Ac 5 Ak ((nth r.pkgs i).supplements)),(C4 ((nth r.pkgs i).files)),(.int .i64 (((st.repos.map Bb).length:Int)))])]:List AV)) 106 13)),(3,(.mm (Ba (Ax st r i++[(nth r.pkgs i,(st.repos.length:Int))])) none 3 1)),(4,(.row [(.str r.name),(.int .i64 r.prio),(.bool r.inst),(Ac 12 Ar r.pkgs)] 41))],5⟩:St)) (by kernel_rfl) (by rw[show(((Ax st r i).map Be)++([(.agg [(.str ((nth r.pkgs i).name)),(.str ((nth r.pkgs i).evr)),(.str ((nth r.pkgs i).arch)),(.str ((nth r.pkgs i).vendor)),(Ac 5 Ak ((nth r.pkgs i).provides)),(Ac 5 Ak ((nth r.pkgs i).requires)),(Ac 5 Ak ((nth r.pkgs i).pre)),(Ac 5 Ak ((nth r.pkgs i).conflicts)),(Ac 5 Ak ((nth r.pkgs i).obsoletes)),(Ac 5 Ak ((nth r.pkgs i).recommends)),(Ac 5 Ak ((nth r.pkgs i).supplements)),(C4 ((nth r.pkgs i).files)),(.int .i64 (((st.repos.map Bb).length:Int)))])]:List AV))=(Ax st r i++[(nth r.pkgs i,(st.repos.length:Int))]).map Be from by rw[List.map_append,List.length_map];rfl]<;>kernel_rfl))⟩
       ·rintro y2 rfl
        refine Ap ?_
        refine Av 0 [] [0,3,69,70,71] [] hk0 v0 (cc 0 (p:=(-9223372036854775808≤(i:Int)+1∧(i:Int)+1≤9223372036854775807)) (by omega)<|c0) ?_
        refine⟨by kernel_rfl,_,?_,i+1,?_,(Eq.trans (b:=(⟨[(0,(.ptr 0 0)),(3,(.ptr 4 0)),(69,(Ac 12 Ar r.pkgs)),(70,(.int .i64 ((r.pkgs.length:Int)))),(71,(.int .i64 ((i:Int)+1)))],[(0,(.row [(.int .i64 st.kind),(.own 1),(.own 2),(.map 3)] 101)),(1,(.grow (st.repos.map Bb) 41 4)),(2,(.grow ((Ax st r i++[(nth r.pkgs i,(st.repos.length:Int))]).map Be) 106 13)),(3,(.mm (Ba (Ax st r i++[(nth r.pkgs i,(st.repos.length:Int))])) none 3 1)),(4,(.row [(.str r.name),(.int .i64 r.prio),(.bool r.inst),(Ac 12 Ar r.pkgs)] 41))],5⟩:St)) (by kernel_rfl) (by rw[←X09 (by omega)]<;>kernel_rfl)),rfl⟩
        ·omega
        ·omega
      ·refine Bt ?_
       refine Aa [] [0,3] ?_
       refine D0 (fun y=>y=⟨[],[(0,(.row [(.int .i64 st.kind),(.own 1),(.own 2),(.map 3)] 101)),(1,(.grow ((st.repos++[r]).map Bb) 41 4)),(2,(.grow ((Ax st r i).map Be) 106 13)),(3,(.mm (Ba (Ax st r i)) none 3 1)),(4,(.row [(.str r.name),(.int .i64 r.prio),(.bool r.inst),.nils] 41))],5⟩) [] 5 (by omega) ?_ ?_
       ·refine Hc [] [] [] hk0 v0 (cc 7 (p:=(((st.repos.map Bb).length+1)*56≤140737488355328)) (by omega)<|c0) ?_
        refine⟨by kernel_rfl,(Eq.trans (b:=(⟨[],[(0,(.row [(.int .i64 st.kind),(.own 1),(.own 2),(.map 3)] 101)),(1,(.grow ((st.repos.map Bb)++([(.agg [(.str r.name),(.int .i64 r.prio),(.bool r.inst),.nils])]:List AV)) 41 4)),(2,(.grow ((Ax st r i).map Be) 106 13)),(3,(.mm (Ba (Ax st r i)) none 3 1)),(4,(.row [(.str r.name),(.int .i64 r.prio),(.bool r.inst),.nils] 41))],5⟩:St)) (by kernel_rfl) (by rw[show((st.repos.map Bb)++([(.agg [(.str r.name),(.int .i64 r.prio),(.bool r.inst),.nils])]:List AV))=(st.repos++[r]).map Bb from by rw[List.map_append];rfl]<;>kernel_rfl))⟩
       ·rintro y4 rfl
        refine Aa [] [4] ?_
        refine Ah ?_
        refine Ej (.inl rfl) (al:=[(.int .i64 0)]) (by kernel_rfl) ?_ ((by kernel_rfl:Dl 4 _=some [(0,(.row [(.int .i64 st.kind),(.own 1),(.own 2),(.map 3)] 101)),(1,(.grow ((st.repos++[r]).map Bb) 41 4)),(2,(.grow ((Ax st r i).map Be) 106 13)),(3,(.mm (Ba (Ax st r i)) none 3 1))]).trans ?_)
        all_goals have hE:Cj st r=0:=by unfold Cj;rw[if_neg (by simp only[not_or];simp_all),if_neg (by rintro⟨h1,h2⟩;rw[h1,h2] at c2;simp at c2),if_neg (by omega)];exact T0 fun j hj=>f1_2 j (by omega)
        ·rw[hE];rfl
        ·unfold Cd;rw[if_pos hE,show i=r.pkgs.length from by omega]
end Sv
end
section
open Go Go.RowKit
namespace Sv
attribute [local irreducible] SW SO Bn
set_option maxHeartbeats 1000000
set_option maxRecDepth 100000
theorem X29:Au Tryz.prog 41:=Ay Tryz.func41 (by kernel_rfl) rfl
noncomputable def atX (p:Int × Int):AV:=.agg [.int .i64 p.1,.int .i64 p.2]
def C8 (pl:List (Int × Int)) (st:PoolT) (r:RepoT) (i:Nat):List (Int × Int):=pl++(List.range i).map fun (k:Nat)=>((st.repos.length:Int),(k:Int))
def E4 (pl:List (Int × Int)) (st:PoolT) (r:RepoT):List (Int × Int):=if Cj st r=0 then C8 pl st r r.pkgs.length else pl
theorem Oj {pl:List (Int × Int)} {st:PoolT} {r:RepoT} {e:Int} (h:Cj st r=e) (he:e≠0):E4 pl st r=pl:=by unfold E4;rw[if_neg (by rw[h];exact he)]
theorem X54 {pl:List (Int × Int)} {st:PoolT} {r:RepoT} {i:Nat}:C8 pl st r (i+1)=C8 pl st r i++[((st.repos.length:Int),(i:Int))]:=by
 unfold C8
 rw[List.range_succ,List.map_append,List.append_assoc];rfl
theorem X55 {pl:List (Int × Int)} {st:PoolT} {r:RepoT} {i:Nat}:(C8 pl st r i).length=pl.length+i:=by unfold C8;simp
theorem Q37 {α:Type} [Inhabited α] {p:α→Bool} {l:List α} {i:Nat} (hi:i < l.length) (h:p (nth l i)=true):l.any p=true:=by
 rw[List.any_eq_true]
 exact⟨nth l i,by simp[nth,hi],h⟩
theorem K8 {α:Type} [Inhabited α] {p:α→Bool} {l:List α} (h:∀i,i < l.length→p (nth l i)=false):l.any p=false:=by
 rw[List.any_eq_false]
 intro x hx
 obtain⟨j,hj,rfl⟩:=List.getElem_of_mem hx
 have:=h j hj
 simpa [nth,hj] using this
theorem Q7u (st : PoolT) (pl : List (Int × Int)) (r : RepoT) (hr : st.repos.length ≤ 8) (ha : st.all.length ≤ 200) (hpa : pl.length = st.all.length) (hn : r.name.length ≤ 4194304) (hpl : r.pkgs.length ≤ 4194304) (hp : ∀ i, i < r.pkgs.length → (nth r.pkgs i).size ≤ 4194304) :
  Gf Tryz.prog 41 [(.ptr 0 0),(.agg [(.str r.name),(.int .i64 r.prio),(.bool r.inst),(Ac 12 Ar r.pkgs)])] [(0,(.row [(.int .i64 st.kind),(.own 1),(.own 2)] 116)),(1,(.grow (st.repos.map Bf) 41 4)),(2,(.grow (pl.map atX) 142 2))] 3 (.int .i64 (Cj st r)) [(0,(.row [(.int .i64 ((Cd st r).kind)),(.own 1),(.own 2)] 116)),(1,(.grow ((Cd st r).repos.map Bf) 41 4)),(2,(.grow ((E4 pl st r).map atX) 142 2))]:=by
 have hml:(st.repos.map Bf).length=st.repos.length:=List.length_map _
 have hma:(pl.map atX).length=pl.length:=List.length_map _
 refine Le [.tmp 4] Tryz.func41 rfl Tryz.ntmps41 rfl rfl (by kernel_rfl) (by kernel_rfl) (by kernel_rfl) (fun B F hF=>?_)
 refine Af [] [0,3] [(1,3)] hk0 v0 c0 ?_
 refine Af [] [0,3,5] [] (hk 2 N6 (Pf r.name (by omega))<|hk0) v0 c0 ?_
 refine Ad ?_
 refine Aa [] [0,3,15] ?_
 refine A8 (q:=!(Bq r.name)) (by kernel_rfl) (fun c1=>?_) (fun c1=>?_)
 ·try simp only[Ao] at c1
  refine Aa [] [4] ?_
  refine Ah ?_
  refine Ej (.inl rfl) (al:=[(.int .i64 66)]) (by kernel_rfl) ?_ ((by kernel_rfl:Dl 3 _=some [(0,(.row [(.int .i64 st.kind),(.own 1),(.own 2)] 116)),(1,(.grow (st.repos.map Bf) 41 4)),(2,(.grow (pl.map atX) 142 2))]).trans ?_)
  all_goals have hE:Cj st r=66:=by unfold Cj;rw[if_pos (.inl c1)]
  ·rw[hE];rfl
  ·rw[Ja hE (by decide),Oj hE (by decide)]
 ·try simp only[Ao] at c1
  refine Ai ?_
  refine Ad ?_
  refine Aa [] [0,3,6] ?_
  refine A1 ?_
  refine Bz (fun g y=>∃(i:Nat),i≤st.repos.length∧(∀j,j < i→¬(nth st.repos j).name=r.name)∧y=⟨[(0,(.ptr 0 0)),(3,(.fp (.agg [(.str r.name),(.int .i64 r.prio),(.bool r.inst),(Ac 12 Ar r.pkgs)]))),(6,(.int .i64 ((i:Int))))],[(0,(.row [(.int .i64 st.kind),(.own 1),(.own 2)] 116)),(1,(.grow (st.repos.map Bf) 41 4)),(2,(.grow (pl.map atX) 142 2))],4⟩∧g=st.repos.length-i) [0,3,6] 4 _ (by omega) ⟨0,(by omega),(by exact fun j hj=>by omega),(by kernel_rfl),rfl⟩ ?_
  rintro g1 y1 ⟨i,f1_1,f1_2,rfl,rfl⟩
  refine Ad ?_
  refine Aa [] [0,3,6,22] ?_
  refine A6 (p:=(i:Int) < ((st.repos.map Bf).length:Int)) (by kernel_rfl) (fun c2=>?_) (fun c2=>?_)
  ·refine Ai ?_
   refine Ad ?_
   refine A1 ?_
   refine Ad ?_
   refine J4 (by kernel_rfl) (fun F1 hF1=>?_)
   refine De (fuel:=5) [] [0,1,2,4,8,9] [0,3,6,27,29,34] A2 ?_
   refine Dc (fuel:=4) 3 [] A2 ?_
   refine Gx (fuel:=3) 5 (by kernel_rfl) ?_
   refine Dq (fuel:=3) 5 rfl ?_
   refine Mw (b:=1) (i:=i) (es:=st.repos.map Bf) (e:=41) (sz:=4) (k:=.i64) (s':=[(0,(.ptr 0 0)),(3,(.fp (.agg [(.str r.name),(.int .i64 r.prio),(.bool r.inst),(Ac 12 Ar r.pkgs)]))),(6,(.int .i64 ((i:Int)))),(27,(.ptr 0 1)),(29,(.int .i64 ((i:Int)))),(34,(.str r.name)),(28,(.own 1)),(30,(.op 1 (i*4)))]) (by kernel_rfl) (by kernel_rfl) (by kernel_rfl) (by kernel_rfl) (by kernel_rfl) (by kernel_rfl) (by(rw[List.length_map];omega)) (by kernel_rfl) ?_
   refine B5 ⟨rfl,?_⟩
   refine Gx (fuel:=2) 6 (by kernel_rfl) ?_
   refine Dq (fuel:=2) 6 rfl ?_
   refine Vt (b:=1) (o:=i*4) (off:=0) (s':=[(0,(.ptr 0 0)),(3,(.fp (.agg [(.str r.name),(.int .i64 r.prio),(.bool r.inst),(Ac 12 Ar r.pkgs)]))),(6,(.int .i64 ((i:Int)))),(27,(.ptr 0 1)),(29,(.int .i64 ((i:Int)))),(34,(.str r.name)),(28,(.own 1)),(30,(.op 1 (i*4))),(31,(.op 1 (i*4+0)))]) (by kernel_rfl) (by kernel_rfl) (by kernel_rfl) (by kernel_rfl) ?_
   refine B5 ⟨rfl,?_⟩
   refine Gx (fuel:=1) 7 (by kernel_rfl) ?_
   refine Dq (fuel:=1) 7 rfl ?_
   refine Ri (b:=1) (e:=41) (sz:=4) (es:=st.repos.map Bf) (o:=i*4+0) (i:=i) (j:=0) (a:=(.agg [(.str ((nth st.repos i).name)),(.int .i64 ((nth st.repos i).prio)),(.bool ((nth st.repos i).inst)),(Ac 12 Ar ((nth st.repos i).pkgs))])) (r:=(.str ((nth st.repos i).name))) (s':=[(0,(.ptr 0 0)),(3,(.fp (.agg [(.str r.name),(.int .i64 r.prio),(.bool r.inst),(Ac 12 Ar r.pkgs)]))),(6,(.int .i64 ((i:Int)))),(27,(.ptr 0 1)),(29,(.int .i64 ((i:Int)))),(34,(.str r.name)),(28,(.own 1)),(30,(.op 1 (i*4))),(31,(.op 1 (i*4+0))),(32,(.str ((nth st.repos i).name)))]) (by kernel_rfl) (by kernel_rfl) rfl (by kernel_rfl) (Mb (l:=st.repos) Bf (by omega)) (by kernel_rfl) (by kernel_rfl) ?_
   refine B5 ⟨rfl,?_⟩
   refine De (fuel:=0) [] [10] [0,3,6,35] A2 ?_
   refine Az [0,3,6,35] ?_
   refine Hd (by kernel_rfl) ?_
   refine A6 (p:=(nth st.repos i).name=r.name) (by kernel_rfl) (fun c3=>?_) (fun c3=>?_)
   ·refine Aa [] [4] ?_
    refine Ah ?_
    refine Ej (.inl rfl) (al:=[(.int .i64 66)]) (by kernel_rfl) ?_ ((by kernel_rfl:Dl 3 _=some [(0,(.row [(.int .i64 st.kind),(.own 1),(.own 2)] 116)),(1,(.grow (st.repos.map Bf) 41 4)),(2,(.grow (pl.map atX) 142 2))]).trans ?_)
    all_goals have hE:Cj st r=66:=by unfold Cj;rw[if_pos (.inr (Q37 (i:=i) (by omega) (decide_eq_true (by assumption))))]
    ·rw[hE];rfl
    ·rw[Ja hE (by decide),Oj hE (by decide)]
   ·refine Ai ?_
    refine Ap ?_
    refine Av 0 [] [0,3,6] [] hk0 v0 (cc 1 (p:=(-9223372036854775808≤(i:Int)+1∧(i:Int)+1≤9223372036854775807)) (by omega)<|c0) ?_
    refine⟨by kernel_rfl,_,?_,i+1,?_,?_,(by kernel_rfl),rfl⟩
    ·omega
    ·omega
    ·intro j hj
     by_cases h:j=i
     ·subst h;assumption
     ·exact f1_2 j (by omega)
  ·refine Bt ?_
   refine Ad ?_
   refine Aa [] [0,3,7] ?_
   refine A1 ?_
   refine Bz (fun g y=>∃(i:Nat),i≤st.repos.length∧(∀j,j < i→(r.inst&&(nth st.repos j).inst)=false)∧y=⟨[(0,(.ptr 0 0)),(3,(.fp (.agg [(.str r.name),(.int .i64 r.prio),(.bool r.inst),(Ac 12 Ar r.pkgs)]))),(7,(.int .i64 ((i:Int))))],[(0,(.row [(.int .i64 st.kind),(.own 1),(.own 2)] 116)),(1,(.grow (st.repos.map Bf) 41 4)),(2,(.grow (pl.map atX) 142 2))],4⟩∧g=st.repos.length-i) [0,3,7] 4 _ (by omega) ⟨0,(by omega),(by exact fun j hj=>by omega),(by kernel_rfl),rfl⟩ ?_
   rintro g2 y2 ⟨i,f2_1,f2_2,rfl,rfl⟩
   refine Ad ?_
   refine Aa [] [0,3,7,42] ?_
   refine A6 (p:=(i:Int) < ((st.repos.map Bf).length:Int)) (by kernel_rfl) (fun c4=>?_) (fun c4=>?_)
   ·refine Ai ?_
    refine Ad ?_
    refine A1 ?_
    refine Ad ?_
    refine Ap ?_
    refine Br 3 0 [] [0,3,7,47] [] hk0 v0 c0 ?_
    refine Q3 r.inst (fun c5=>?_) (fun c5=>?_)
    ·refine Ft 47 (a:=.bool r.inst) (.bool true) (by kernel_rfl) (Imp.of_eq (by rw[c5])) ?_
     refine Br 5 3 [] [0,3,7,47,51,52] [] hk0 v0 c0 ?_
     refine Mw (b:=1) (i:=i) (es:=st.repos.map Bf) (e:=41) (sz:=4) (k:=.i64) (s':=[(0,(.ptr 0 0)),(3,(.fp (.agg [(.str r.name),(.int .i64 r.prio),(.bool r.inst),(Ac 12 Ar r.pkgs)]))),(7,(.int .i64 ((i:Int)))),(47,(.bool true)),(51,(.own 1)),(52,(.int .i64 ((i:Int)))),(53,(.op 1 (i*4)))]) (by kernel_rfl) (by kernel_rfl) (by kernel_rfl) (by kernel_rfl) (by kernel_rfl) (by kernel_rfl) (by(rw[List.length_map];omega)) (by kernel_rfl) ?_
     refine Vt (b:=1) (o:=i*4) (off:=2) (s':=[(0,(.ptr 0 0)),(3,(.fp (.agg [(.str r.name),(.int .i64 r.prio),(.bool r.inst),(Ac 12 Ar r.pkgs)]))),(7,(.int .i64 ((i:Int)))),(47,(.bool true)),(51,(.own 1)),(52,(.int .i64 ((i:Int)))),(53,(.op 1 (i*4))),(54,(.op 1 (i*4+2)))]) (by kernel_rfl) (by kernel_rfl) (by kernel_rfl) (by kernel_rfl) ?_
     refine Ri (b:=1) (e:=41) (sz:=4) (es:=st.repos.map Bf) (o:=i*4+2) (i:=i) (j:=2) (a:=(.agg [(.str ((nth st.repos i).name)),(.int .i64 ((nth st.repos i).prio)),(.bool ((nth st.repos i).inst)),(Ac 12 Ar ((nth st.repos i).pkgs))])) (r:=(.bool ((nth st.repos i).inst))) (s':=[(0,(.ptr 0 0)),(3,(.fp (.agg [(.str r.name),(.int .i64 r.prio),(.bool r.inst),(Ac 12 Ar r.pkgs)]))),(7,(.int .i64 ((i:Int)))),(47,(.bool true)),(51,(.own 1)),(52,(.int .i64 ((i:Int)))),(53,(.op 1 (i*4))),(54,(.op 1 (i*4+2))),(55,(.bool ((nth st.repos i).inst)))]) (by kernel_rfl) (by kernel_rfl) rfl (by kernel_rfl) (Mb (l:=st.repos) Bf (by omega)) (by kernel_rfl) (by kernel_rfl) ?_
     refine Av 11 [] [0,3,7,56] [] hk0 v0 c0 ?_
     refine A8 (q:=(nth st.repos i).inst) (by kernel_rfl) (fun c6=>?_) (fun c6=>?_)
     ·try simp only[Ao] at c6
      refine Aa [] [4] ?_
      refine Ah ?_
      refine Ej (.inl rfl) (al:=[(.int .i64 67)]) (by kernel_rfl) ?_ ((by kernel_rfl:Dl 3 _=some [(0,(.row [(.int .i64 st.kind),(.own 1),(.own 2)] 116)),(1,(.grow (st.repos.map Bf) 41 4)),(2,(.grow (pl.map atX) 142 2))]).trans ?_)
      all_goals have hN:=K8 (l:=st.repos) (p:=fun o=>decide (o.name=r.name)) (fun j hj=>by simpa using f1_2 j (by omega))
      all_goals have hA:¬(Bq r.name=false∨st.repos.any (fun o=>decide (o.name=r.name))=true):=fun h=>h.elim (fun h=>by rw[c1] at h;cases h) (fun h=>by rw[hN] at h;cases h)
      all_goals have hE:Cj st r=67:=by unfold Cj;rw[if_neg hA,if_pos ⟨by assumption,Q37 (i:=i) (by omega) (by assumption)⟩]
      ·rw[hE];rfl
      ·rw[Ja hE (by decide),Oj hE (by decide)]
     ·try simp only[Ao] at c6
      refine Ai ?_
      refine Ap ?_
      refine Av 0 [] [0,3,7] [] hk0 v0 (cc 1 (p:=(-9223372036854775808≤(i:Int)+1∧(i:Int)+1≤9223372036854775807)) (by omega)<|c0) ?_
      refine⟨by kernel_rfl,_,?_,i+1,?_,?_,(by kernel_rfl),rfl⟩
      ·omega
      ·omega
      ·intro j hj
       by_cases h:j=i
       ·subst h;simp_all
       ·exact f2_2 j (by omega)
    ·refine Ft 47 (a:=.bool r.inst) (.bool false) (by kernel_rfl) (Imp.of_eq (by rw[c5])) ?_
     refine Av 3 [] [0,3,7,56] [] hk0 v0 c0 ?_
     refine Eh (by kernel_rfl) ?_
     refine Ai ?_
     refine Ap ?_
     refine Av 0 [] [0,3,7] [] hk0 v0 (cc 1 (p:=(-9223372036854775808≤(i:Int)+1∧(i:Int)+1≤9223372036854775807)) (by omega)<|c0) ?_
     refine⟨by kernel_rfl,_,?_,i+1,?_,?_,(by kernel_rfl),rfl⟩
     ·omega
     ·omega
     ·intro j hj
      by_cases h:j=i
      ·subst h;simp_all
      ·exact f2_2 j (by omega)
   ·refine Bt ?_
    refine Ad ?_
    refine D0 (fun y=>y=⟨[(0,(.ptr 0 0)),(3,(.fp (.agg [(.str r.name),(.int .i64 r.prio),(.bool r.inst),(Ac 12 Ar r.pkgs)]))),(74,(.bool (decide ((8:Int)≤((st.repos.map Bf).length:Int))||decide ((200:Int) < ((pl.map atX).length:Int)+(r.pkgs.length:Int)))))],[(0,(.row [(.int .i64 st.kind),(.own 1),(.own 2)] 116)),(1,(.grow (st.repos.map Bf) 41 4)),(2,(.grow (pl.map atX) 142 2))],4⟩) [0,3,74] 4 (by omega) ?_ ?_
    ·refine Hc (CS:=[(8,((!(decide (8≤((st.repos.map Bf).length:Int))))=true→(!(decide (8≤((st.repos.map Bf).length:Int))))=true)),(9,((!(decide (8≤((st.repos.map Bf).length:Int))))=true→(!(decide (8≤((st.repos.map Bf).length:Int))))=true)),(10,((!(decide (8≤((st.repos.map Bf).length:Int))))=true→(!(decide (8≤((st.repos.map Bf).length:Int))))=true)),(11,((!(decide (8≤((st.repos.map Bf).length:Int))))=true→(!(decide (8≤((st.repos.map Bf).length:Int))))=true)),(13,((!(decide (8≤((st.repos.map Bf).length:Int))))=true→(!(decide (8≤((st.repos.map Bf).length:Int))))=true)),(14,((!(decide (8≤((st.repos.map Bf).length:Int))))=true→(!(decide (8≤((st.repos.map Bf).length:Int))))=true)),(15,((!(decide (8≤((st.repos.map Bf).length:Int))))=true→((!(decide (8≤((st.repos.map Bf).length:Int))))=true∧(!(decide (8≤((st.repos.map Bf).length:Int))))=true)∧(-9223372036854775808≤((pl.map atX).length:Int)+(r.pkgs.length:Int)∧((pl.map atX).length:Int)+(r.pkgs.length:Int)≤9223372036854775807))),(16,((!(decide (8≤((st.repos.map Bf).length:Int))))=true→(!(decide (8≤((st.repos.map Bf).length:Int))))=true)),(17,((decide (8≤((st.repos.map Bf).length:Int)))=false→(!(decide (8≤((st.repos.map Bf).length:Int))))=true))]) [64,65,66,67,68,69,70,71,72,73] [0,3,74] [] hk0 v0 (by refine cc _ ?_<|cc _ ?_<|cc _ ?_<|cc _ ?_<|cc _ ?_<|cc _ ?_<|cc _ ?_<|cc _ ?_<|cc _ ?_ c0<;>first|omega|(simp;omega)|(simp;done)|(intros;simp_all;omega)|(intros;simp_all;done)) ?_
     refine⟨by kernel_rfl,(by kernel_rfl)⟩
    ·rintro y1 rfl
     refine A8 (q:=decide ((8:Int)≤((st.repos.map Bf).length:Int))||decide ((200:Int) < ((pl.map atX).length:Int)+(r.pkgs.length:Int))) (by kernel_rfl) (fun c7=>?_) (fun c7=>?_)
     ·try simp only[Ao] at c7
      refine Aa [] [4] ?_
      refine Ah ?_
      refine Ej (.inl rfl) (al:=[(.int .i64 68)]) (by kernel_rfl) ?_ ((by kernel_rfl:Dl 3 _=some [(0,(.row [(.int .i64 st.kind),(.own 1),(.own 2)] 116)),(1,(.grow (st.repos.map Bf) 41 4)),(2,(.grow (pl.map atX) 142 2))]).trans ?_)
      all_goals have hN:=K8 (l:=st.repos) (p:=fun o=>decide (o.name=r.name)) (fun j hj=>by simpa using f1_2 j (by omega))
      all_goals have hA:¬(Bq r.name=false∨st.repos.any (fun o=>decide (o.name=r.name))=true):=fun h=>h.elim (fun h=>by rw[c1] at h;cases h) (fun h=>by rw[hN] at h;cases h)
      all_goals have hI:¬(r.inst=true∧st.repos.any (fun o=>o.inst)=true):=fun⟨h1,h2⟩=>by rw[K8 (fun j hj=>by have:=f2_2 j (by omega);simpa [h1] using this)] at h2;cases h2
      all_goals have hE:Cj st r=68:=by unfold Cj;rw[if_neg hA,if_neg hI,if_pos (by omega)]
      ·rw[hE];rfl
      ·rw[Ja hE (by decide),Oj hE (by decide)]
     ·try simp only[Ao] at c7
      refine Ai ?_
      refine Ad ?_
      refine Aa [] [0,3,8] ?_
      refine A1 ?_
      refine Bz (fun g y=>∃(i:Nat),i≤r.pkgs.length∧(∀j,j < i→C0 (nth r.pkgs j)=0)∧y=⟨[(0,(.ptr 0 0)),(3,(.fp (.agg [(.str r.name),(.int .i64 r.prio),(.bool r.inst),(Ac 12 Ar r.pkgs)]))),(8,(.int .i64 ((i:Int))))],[(0,(.row [(.int .i64 st.kind),(.own 1),(.own 2)] 116)),(1,(.grow (st.repos.map Bf) 41 4)),(2,(.grow (pl.map atX) 142 2))],4⟩∧g=r.pkgs.length-i) [0,3,8] 4 _ (by omega) ⟨0,(by omega),(by exact fun j hj=>by omega),(by kernel_rfl),rfl⟩ ?_
      rintro g3 y3 ⟨i,f3_1,f3_2,rfl,rfl⟩
      refine Ad ?_
      refine Aa [] [0,3,8,79] ?_
      refine A6 (p:=(i:Int) < (r.pkgs.length:Int)) (by kernel_rfl) (fun c8=>?_) (fun c8=>?_)
      ·refine Ai ?_
       refine Ad ?_
       refine A1 ?_
       refine Af [] [0,3,8,9] [] (hk 5 X2v (Q7r (nth r.pkgs i) (hp i (by omega)))<|hk0) v0 (cc 3 (p:=(0≤(i:Int)∧i < r.pkgs.length)) (by omega)<|c0) ?_
       refine Aa [] [0,3,8,9,89] ?_
       refine Dt (p:=(C0 (nth r.pkgs i))=0) (by kernel_rfl) (fun c9=>?_) (fun c9=>?_)
       ·refine Aa [] [4] ?_
        refine Ah ?_
        refine Ej (.inl rfl) (al:=[(.int .i64 (C0 (nth r.pkgs i)))]) (by kernel_rfl) ?_ ((by kernel_rfl:Dl 3 _=some [(0,(.row [(.int .i64 st.kind),(.own 1),(.own 2)] 116)),(1,(.grow (st.repos.map Bf) 41 4)),(2,(.grow (pl.map atX) 142 2))]).trans ?_)
        all_goals have hN:=K8 (l:=st.repos) (p:=fun o=>decide (o.name=r.name)) (fun j hj=>by simpa using f1_2 j (by omega))
        all_goals have hA:¬(Bq r.name=false∨st.repos.any (fun o=>decide (o.name=r.name))=true):=fun h=>h.elim (fun h=>by rw[c1] at h;cases h) (fun h=>by rw[hN] at h;cases h)
        all_goals have hI:¬(r.inst=true∧st.repos.any (fun o=>o.inst)=true):=fun⟨h1,h2⟩=>by rw[K8 (fun j hj=>by have:=f2_2 j (by omega);simpa [h1] using this)] at h2;cases h2
        all_goals have hE:Cj st r=C0 (nth r.pkgs i):=by unfold Cj;rw[if_neg hA,if_neg hI,if_neg (by omega)];exact T1 (by omega) f3_2 (by assumption)
        ·rw[hE];rfl
        ·rw[Ja hE (by assumption),Oj hE (by assumption)]
       ·refine Ai ?_
        refine Ap ?_
        refine Av 0 [] [0,3,8] [] hk0 v0 (cc 1 (p:=(-9223372036854775808≤(i:Int)+1∧(i:Int)+1≤9223372036854775807)) (by omega)<|c0) ?_
        refine⟨by kernel_rfl,_,?_,i+1,?_,?_,(by kernel_rfl),rfl⟩
        ·omega
        ·omega
        ·intro j hj
         by_cases h:j=i
         ·subst h;simp_all
         ·exact f3_2 j (by omega)
      ·refine Bt ?_
       refine Ad ?_
       refine Aa [] [0,3,10] ?_
       refine A1 ?_
       refine Bz (fun g y=>∃(i:Nat),i≤r.pkgs.length∧y=⟨[(0,(.ptr 0 0)),(3,(.fp (.agg [(.str r.name),(.int .i64 r.prio),(.bool r.inst),(Ac 12 Ar r.pkgs)]))),(10,(.int .i64 ((i:Int))))],[(0,(.row [(.int .i64 st.kind),(.own 1),(.own 2)] 116)),(1,(.grow (st.repos.map Bf) 41 4)),(2,(.grow ((C8 pl st r i).map atX) 142 2))],4⟩∧g=r.pkgs.length-i) [0,3,10] 4 _ (by omega) ⟨0,(by omega),(Eq.trans (b:=(⟨[(0,(.ptr 0 0)),(3,(.fp (.agg [(.str r.name),(.int .i64 r.prio),(.bool r.inst),(Ac 12 Ar r.pkgs)]))),(10,(.int .i64 0))],[(0,(.row [(.int .i64 st.kind),(.own 1),(.own 2)] 116)),(1,(.grow (st.repos.map Bf) 41 4)),(2,(.grow (pl.map atX) 142 2))],4⟩:St)) (by kernel_rfl) (by rw[show C8 pl st r 0=pl from by simp[C8]]<;>rfl)),rfl⟩ ?_
       rintro g4 y4 ⟨i,f4_1,rfl,rfl⟩
       have hkl:((C8 pl st r i).map atX).length≤200:=by rw[List.length_map,X55];omega
       refine Ad ?_
       refine Aa [] [0,3,10,95] ?_
       refine A6 (p:=(i:Int) < (r.pkgs.length:Int)) (by kernel_rfl) (fun c10=>?_) (fun c10=>?_)
       ·refine Ai ?_
        refine D0 (fun y=>y=⟨[(0,(.ptr 0 0)),(3,(.fp (.agg [(.str r.name),(.int .i64 r.prio),(.bool r.inst),(Ac 12 Ar r.pkgs)]))),(10,(.int .i64 ((i:Int))))],[(0,(.row [(.int .i64 st.kind),(.own 1),(.own 2)] 116)),(1,(.grow (st.repos.map Bf) 41 4)),(2,(.grow ((C8 pl st r (i+1)).map atX) 142 2))],4⟩) [0,3,10] 4 (by omega) ?_ ?_
        ·refine A1 ?_
         refine Hc [] [0,3,10] [] hk0 v0 (cc 13 (p:=((((C8 pl st r i).map atX).length+1)*16≤140737488355328)) (by omega)<|c0) ?_
         refine⟨by kernel_rfl,(Eq.trans (b:=(⟨[(0,(.ptr 0 0)),(3,(.fp (.agg [(.str r.name),(.int .i64 r.prio),(.bool r.inst),(Ac 12 Ar r.pkgs)]))),(10,(.int .i64 ((i:Int))))],[(0,(.row [(.int .i64 st.kind),(.own 1),(.own 2)] 116)),(1,(.grow (st.repos.map Bf) 41 4)),(2,(.grow (((C8 pl st r i).map atX)++([(.agg [(.int .i64 (((st.repos.map Bf).length:Int))),(.int .i64 ((i:Int)))])]:List AV)) 142 2))],4⟩:St)) (by kernel_rfl) (by rw[show(((C8 pl st r i).map atX)++([(.agg [(.int .i64 (((st.repos.map Bf).length:Int))),(.int .i64 ((i:Int)))])]:List AV))=(C8 pl st r (i+1)).map atX from by rw[X54,List.map_append,List.length_map];rfl]<;>kernel_rfl))⟩
        ·rintro y2 rfl
         refine Ap ?_
         refine Av 0 [] [0,3,10] [] hk0 v0 (cc 1 (p:=(-9223372036854775808≤(i:Int)+1∧(i:Int)+1≤9223372036854775807)) (by omega)<|c0) ?_
         refine⟨by kernel_rfl,_,?_,i+1,?_,(by kernel_rfl),rfl⟩
         ·omega
         ·omega
       ·refine Bt ?_
        refine D0 (fun y=>y=⟨[],[(0,(.row [(.int .i64 st.kind),(.own 1),(.own 2)] 116)),(1,(.grow ((st.repos++[r]).map Bf) 41 4)),(2,(.grow ((C8 pl st r i).map atX) 142 2))],4⟩) [] 4 (by omega) ?_ ?_
        ·refine Hc [] [] [] hk0 v0 (cc 7 (p:=(((st.repos.map Bf).length+1)*56≤140737488355328)) (by omega)<|c0) ?_
         refine⟨by kernel_rfl,(Eq.trans (b:=(⟨[],[(0,(.row [(.int .i64 st.kind),(.own 1),(.own 2)] 116)),(1,(.grow ((st.repos.map Bf)++([(.agg [(.str r.name),(.int .i64 r.prio),(.bool r.inst),(Ac 12 Ar r.pkgs)])]:List AV)) 41 4)),(2,(.grow ((C8 pl st r i).map atX) 142 2))],4⟩:St)) (by kernel_rfl) (by rw[show((st.repos.map Bf)++([(.agg [(.str r.name),(.int .i64 r.prio),(.bool r.inst),(Ac 12 Ar r.pkgs)])]:List AV))=(st.repos++[r]).map Bf from by rw[List.map_append];rfl]<;>kernel_rfl))⟩
        ·rintro y3 rfl
         refine Aa [] [4] ?_
         refine Ah ?_
         refine Ej (.inl rfl) (al:=[(.int .i64 0)]) (by kernel_rfl) ?_ ((by kernel_rfl:Dl 3 _=some [(0,(.row [(.int .i64 st.kind),(.own 1),(.own 2)] 116)),(1,(.grow ((st.repos++[r]).map Bf) 41 4)),(2,(.grow ((C8 pl st r i).map atX) 142 2))]).trans ?_)
         all_goals have hN:=K8 (l:=st.repos) (p:=fun o=>decide (o.name=r.name)) (fun j hj=>by simpa using f1_2 j (by omega))
         all_goals have hA:¬(Bq r.name=false∨st.repos.any (fun o=>decide (o.name=r.name))=true):=fun h=>h.elim (fun h=>by rw[c1] at h;cases h) (fun h=>by rw[hN] at h;cases h)
         all_goals have hI:¬(r.inst=true∧st.repos.any (fun o=>o.inst)=true):=fun⟨h1,h2⟩=>by rw[K8 (fun j hj=>by have:=f2_2 j (by omega);simpa [h1] using this)] at h2;cases h2
         all_goals have hE:Cj st r=0:=by unfold Cj;rw[if_neg hA,if_neg hI,if_neg (by omega)];exact T0 fun j hj=>f3_2 j (by omega)
         ·rw[hE];rfl
         ·unfold Cd E4;rw[if_pos hE,if_pos hE,show i=r.pkgs.length from by omega]
end Sv
end
section
open Go Go.RowKit
namespace Sv
attribute [local irreducible] SW SO Bn
set_option maxHeartbeats 1000000
set_option maxRecDepth 100000
theorem Uc:Au Tryz.prog 9:=Ay Tryz.func9 (by kernel_rfl) rfl
theorem X3b:Au Tryz.prog 39:=Ay Tryz.func39 (by kernel_rfl) rfl
theorem X3a:Au Tryz.prog 40:=Ay Tryz.func40 (by kernel_rfl) rfl
def Am (k:Int):Int:=if k=2 then 2 else 1
theorem Q0f (k:Int):Am k=1∨Am k=2:=by unfold Am;split<;>simp
theorem X08 {k:Int} (h:k=2):Am k=k:=by unfold Am;rw[if_pos h,h]
def Fy:List PkgT→Nat
 |[]=>0
 |p::r=>1+p.size+Fy r
theorem Xx:∀l:List PkgT,l.length≤Fy l
 |[]=>Nat.zero_le _
 |p::r=>by have:=Xx r;simp only[Fy,List.length_cons];omega
theorem Xz:∀{l:List PkgT} {i:Nat},i < l.length→(nth l i).size≤Fy l
 |[],_,h=>by simp at h
 |p::r,0,_=>by simp only[Fy];show p.size≤_;omega
 |p::r,i+1,h=>by
  have:=Xz (l:=r) (i:=i) (by simpa using h)
  simp only[Fy];show(nth r i).size≤_;omega
def _root_.Go.Proofs.YtlmloohlmlahfaaGreatDoor.RepoT.size (r:RepoT):Nat:=1+r.name.length+Fy r.pkgs
theorem _root_.Go.Proofs.YtlmloohlmlahfaaGreatDoor.RepoT.sizes (r:RepoT):r.name.length≤r.size∧r.pkgs.length≤r.size:=by
 have:=Xx r.pkgs
 unfold RepoT.size;omega
theorem _root_.Go.Proofs.YtlmloohlmlahfaaGreatDoor.RepoT.size_pkg {r:RepoT} {i:Nat} (h:i < r.pkgs.length):(nth r.pkgs i).size≤r.size:=by
 have:=Xz h
 unfold RepoT.size;omega
def Aq (k:Int) (l:List RepoT):PoolT × List (Int × Int):=l.foldl (fun s r=>(Cd s.1 r,E4 s.2 s.1 r)) (⟨k,[],[]⟩,[])
def K4 (s:PoolT × List (Int × Int)):Prop:=s.1.repos.length≤8∧s.1.all.length≤200∧s.2.length=s.1.all.length
theorem X5x {s:PoolT × List (Int × Int)} {r:RepoT} (h:K4 s):K4 (Cd s.1 r,E4 s.2 s.1 r):=by
 obtain⟨h1,h2,h3⟩:=h
 by_cases he:Cj s.1 r=0
 ·have hm : ¬ (8 ≤ s.1.repos.length ∨ 200 < s.1.all.length + r.pkgs.length) := by
   intro q
   unfold Cj at he
   rw[if_pos q] at he
   split at he<;>first|omega|(split at he<;>omega)
  unfold K4 Cd E4
  simp only[if_pos he,List.length_append,List.length_singleton,Ax,C8,List.length_map,List.length_take,List.length_range]
  omega
 ·unfold K4 Cd E4
  rw[if_neg he,if_neg he];exact⟨h1,h2,h3⟩
theorem Q3o (k:Int) (l:List RepoT):K4 (Aq k l):=by
 have key:∀(l:List RepoT) (s:PoolT × List (Int × Int)),K4 s→K4 (l.foldl (fun s r=>(Cd s.1 r,E4 s.2 s.1 r)) s):=by
  intro l
  induction l with
  |nil=>exact fun s h=>h
  |cons r l ih=>exact fun s h=>ih _ (X5x h)
 exact key l _ ⟨by simp,by simp,by simp⟩
theorem X5u {k:Int} {l:List RepoT} {i:Nat} (h:i < l.length):Aq k (l.take (i+1))=(Cd (Aq k (l.take i)).1 (nth l i),E4 (Aq k (l.take i)).2 (Aq k (l.take i)).1 (nth l i)):=by
 unfold Aq
 rw[List.take_add_one,List.getElem?_eq_getElem h,List.foldl_append]
 simp[nth,h]
noncomputable def Bm (st:PoolT):AV:=.agg [.int .i64 st.kind,Ac 4 Bb st.repos,Ac 13 Be st.all,.smap (.slice none 0 0) (fun s => .row 1 (Ba st.all s).length (fun i=>(Ba st.all s).getD i Bp))]
noncomputable def Kh (st:PoolT) (pl:List (Int × Int)):AV:=.agg [.int .i64 st.kind,Ac 4 Bf st.repos,Ac 2 atX pl]
theorem Vz (kind : Int) (l : List RepoT) (hll : l.length ≤ 4611686018427387904) (hl : ∀ i, i < l.length → (nth l i).size ≤ 4194304) :
  FnV Tryz.prog 9 [(.int .i64 kind),(Ac 4 Bf l)] (.tup [.fp (Bm (Aq (Am kind) l).1),.fp (Kh (Aq (Am kind) l).1 (Aq (Am kind) l).2)]):=by
 refine A5 [.tmp 4,.tmp 5] Tryz.func9 rfl Tryz.ntmps9 rfl rfl (fun B F hF=>?_)
 refine Aa [] [0,1] ?_
 refine D0 (fun y=>y=⟨[(0,(.int .i64 ((Am kind)))),(1,(Ac 4 Bf l))],[],0⟩) [0,1] 0 (by omega) ?_ ?_
 ·refine Aa [] [0,1,12] ?_
  refine Dt (p:=kind=2) (by kernel_rfl) (fun c1=>?_) (fun c1=>?_)
  ·refine Ap ?_
   refine Ey [] [0,1] ?_
   refine⟨by kernel_rfl,(Eq.trans (b:=(⟨[(0,(.int .i64 1)),(1,(Ac 4 Bf l))],[],0⟩:St)) (by kernel_rfl) (by rw[show Am kind=1 from if_neg (by assumption)]<;>rfl))⟩
  ·refine Ai ?_
   refine⟨by kernel_rfl,(Eq.trans (b:=(⟨[(0,(.int .i64 kind)),(1,(Ac 4 Bf l))],[],0⟩:St)) (by kernel_rfl) (by rw[show Am kind=kind from X08 (by omega)]<;>rfl))⟩
 ·rintro y1 rfl
  refine Ad ?_
  refine Ap ?_
  refine Br 1 0 [] [0,1,14] [] hk0 v0 c0 ?_
  refine J7 [.tmp 2,.tmp 3] (al:=[(.int .i64 ((Am kind)))]) (s0:=[(0,(.int .i64 ((Am kind)))),(1,(Ac 4 Bf l)),(14,(.int .i64 ((Am kind))))]) (by kernel_rfl) (by exact X3b) (by kernel_rfl) Tryz.func39 rfl Tryz.ntmps39 rfl (by kernel_rfl) (by kernel_rfl) (fun F1 hF1 hle1=>?_)
  refine Aa [] [0] ?_
  refine Ad ?_
  obtain⟨b1_1,hb1_1⟩:∃b,b=(!decide ((Am kind)=1)):=⟨_,rfl⟩
  refine Af (CS:=[(4,(b1_1=true→b1_1=true)),(5,(b1_1=true→b1_1=true))]) [7,8] [0,9] [] hk0 (vk 3 6 (a:=.bool (!decide ((Am kind)=1))) (b:=.bool b1_1) (Imp.of_eq (by rw[hb1_1]))<|v0) (by refine cc _ ?_<|cc _ ?_ c0<;>simp) ?_
  refine A8 (q:=b1_1&&(!decide ((Am kind)=2))) (by kernel_rfl) (fun c2=>?_) (fun c2=>?_)
  ·subst hb1_1
   try simp only[Ao] at c2
   exact absurd (Q0f kind) fun h=>h.elim c2.1 c2.2
  ·subst hb1_1
   try simp only[Ao] at c2
   refine Ai ?_
   refine Aa [] [2,3] ?_
   refine Ah ?_
   refine G4 (.inl rfl) (al:=[(.ptr 1 0),(.int .i64 0)]) (s':=[(0,(.int .i64 ((Am kind)))),(1,(Ac 4 Bf l)),(14,(.int .i64 ((Am kind)))),(15,(.tup [(.ptr 1 0),(.int .i64 0)]))]) (by kernel_rfl) (by kernel_rfl) ?_
   refine Av 2 [] [0,1,6,7] [] hk0 v0 c0 ?_
   refine Ad ?_
   refine Ap ?_
   refine Br 1 0 [] [1,6,7,19] [] hk0 v0 c0 ?_
   refine J7 [.tmp 2,.tmp 3] (al:=[(.int .i64 ((Am kind)))]) (s0:=[(1,(Ac 4 Bf l)),(6,(.ptr 1 0)),(7,(.int .i64 0)),(19,(.int .i64 ((Am kind))))]) (by kernel_rfl) (by exact X3a) (by kernel_rfl) Tryz.func40 rfl Tryz.ntmps40 rfl (by kernel_rfl) (by kernel_rfl) (fun F2 hF2 hle2=>?_)
   refine Aa [] [0] ?_
   refine Ad ?_
   obtain⟨b2_1,hb2_1⟩:∃b,b=(!decide ((Am kind)=1)):=⟨_,rfl⟩
   refine Af (CS:=[(4,(b2_1=true→b2_1=true)),(5,(b2_1=true→b2_1=true))]) [7,8] [0,9] [] hk0 (vk 3 6 (a:=.bool (!decide ((Am kind)=1))) (b:=.bool b2_1) (Imp.of_eq (by rw[hb2_1]))<|v0) (by refine cc _ ?_<|cc _ ?_ c0<;>simp) ?_
   refine A8 (q:=b2_1&&(!decide ((Am kind)=2))) (by kernel_rfl) (fun c3=>?_) (fun c3=>?_)
   ·subst hb2_1
    try simp only[Ao] at c3
    exact absurd (Q0f kind) fun h=>h.elim c3.1 c3.2
   ·subst hb2_1
    try simp only[Ao] at c3
    refine Ai ?_
    refine Aa [] [2,3] ?_
    refine Ah ?_
    refine G4 (.inl rfl) (al:=[(.ptr 2 0),(.int .i64 0)]) (s':=[(1,(Ac 4 Bf l)),(6,(.ptr 1 0)),(7,(.int .i64 0)),(19,(.int .i64 ((Am kind)))),(20,(.tup [(.ptr 2 0),(.int .i64 0)]))]) (by kernel_rfl) (by kernel_rfl) ?_
    refine Av 2 [] [1,6,7,8] [] hk0 v0 c0 ?_
    refine Ad ?_
    refine Aa [] [1,6,8,28] ?_
    refine Eh (by kernel_rfl) ?_
    refine Ai ?_
    refine Ad ?_
    refine Aa [] [1,6,8,10] ?_
    refine A1 ?_
    refine Mt 41 4 1 1 (y:=⟨[(1,(Ac 4 Bf l)),(6,(.ptr 1 0)),(8,(.ptr 2 0)),(10,(.int .i64 0))],[(0,(.map [] 0)),(1,(.row [(.int .i64 ((Am kind))),(.own 3),.nils,(.map 0)] 101)),(2,(.row [(.int .i64 ((Am kind))),.nils,.nils] 116)),(3,(.grow [] 41 4))],4⟩) (by kernel_rfl) (by kernel_rfl) ?_
    refine Mt 106 13 1 2 (y:=⟨[(1,(Ac 4 Bf l)),(6,(.ptr 1 0)),(8,(.ptr 2 0)),(10,(.int .i64 0))],[(0,(.map [] 0)),(1,(.row [(.int .i64 ((Am kind))),(.own 3),(.own 4),(.map 0)] 101)),(2,(.row [(.int .i64 ((Am kind))),.nils,.nils] 116)),(3,(.grow [] 41 4)),(4,(.grow [] 106 13))],5⟩) (by kernel_rfl) (by kernel_rfl) ?_
    refine Mt 41 4 2 1 (y:=⟨[(1,(Ac 4 Bf l)),(6,(.ptr 1 0)),(8,(.ptr 2 0)),(10,(.int .i64 0))],[(0,(.map [] 0)),(1,(.row [(.int .i64 ((Am kind))),(.own 3),(.own 4),(.map 0)] 101)),(2,(.row [(.int .i64 ((Am kind))),(.own 5),.nils] 116)),(3,(.grow [] 41 4)),(4,(.grow [] 106 13)),(5,(.grow [] 41 4))],6⟩) (by kernel_rfl) (by kernel_rfl) ?_
    refine Mt 142 2 2 2 (y:=⟨[(1,(Ac 4 Bf l)),(6,(.ptr 1 0)),(8,(.ptr 2 0)),(10,(.int .i64 0))],[(0,(.map [] 0)),(1,(.row [(.int .i64 ((Am kind))),(.own 3),(.own 4),(.map 0)] 101)),(2,(.row [(.int .i64 ((Am kind))),(.own 5),(.own 6)] 116)),(3,(.grow [] 41 4)),(4,(.grow [] 106 13)),(5,(.grow [] 41 4)),(6,(.grow [] 142 2))],7⟩) (by kernel_rfl) (by kernel_rfl) ?_
    refine Q40 0 3 1 (y:=⟨[(1,(Ac 4 Bf l)),(6,(.ptr 1 0)),(8,(.ptr 2 0)),(10,(.int .i64 0))],[(0,(.mm (fun _=>[]) none 3 1)),(1,(.row [(.int .i64 ((Am kind))),(.own 3),(.own 4),(.map 0)] 101)),(2,(.row [(.int .i64 ((Am kind))),(.own 5),(.own 6)] 116)),(3,(.grow [] 41 4)),(4,(.grow [] 106 13)),(5,(.grow [] 41 4)),(6,(.grow [] 142 2))],7⟩) (by kernel_rfl) ?_
    refine Bz (fun g y=>∃(i:Nat),i≤l.length∧y=⟨[(1,(Ac 4 Bf l)),(6,(.ptr 1 0)),(8,(.ptr 2 0)),(10,(.int .i64 ((i:Int))))],[(0,(.mm (Ba ((Aq (Am kind) (l.take i)).1).all) none 3 1)),(1,(.row [(.int .i64 ((Aq (Am kind) (l.take i)).1.kind)),(.own 3),(.own 4),(.map 0)] 101)),(2,(.row [(.int .i64 ((Aq (Am kind) (l.take i)).1.kind)),(.own 5),(.own 6)] 116)),(3,(.grow (((Aq (Am kind) (l.take i)).1).repos.map Bb) 41 4)),(4,(.grow (((Aq (Am kind) (l.take i)).1).all.map Be) 106 13)),(5,(.grow (((Aq (Am kind) (l.take i)).1).repos.map Bf) 41 4)),(6,(.grow (((Aq (Am kind) (l.take i)).2).map atX) 142 2))],7⟩∧g=l.length-i) [1,6,8,10] 7 _ (by omega) ⟨0,(by omega),(by kernel_rfl),rfl⟩ ?_
    rintro g1 y1 ⟨i,f1_1,rfl,rfl⟩
    have hb:=Q3o (Am kind) (l.take i)
    refine Ad ?_
    refine Aa [] [1,6,8,10,32] ?_
    refine A6 (p:=(i:Int) < (l.length:Int)) (by kernel_rfl) (fun c4=>?_) (fun c4=>?_)
    ·have hz:=RepoT.sizes (nth l i)
     have hw:=hl i (by omega)
     refine Ai ?_
     refine Ad ?_
     refine A1 ?_
     refine Ad ?_
     refine J4 (by kernel_rfl) (fun F1 hF1=>?_)
     refine De (fuel:=3) [] [0,1,2,3,4,6,7,8,9,10] [1,6,8,10,35,39,41,45] (hold (p:=(0≤(i:Int)∧i < l.length)∧(0≤(i:Int)∧i < l.length)) (by omega)) ?_
     refine Gx (fuel:=2) 5 (by kernel_rfl) ?_
     refine Dq (fuel:=2) 5 rfl ?_
     refine Mx [1,3,4,0] (al:=[(.ptr 1 0),(.agg [(.str ((nth l i).name)),(.int .i64 ((nth l i).prio)),(.bool ((nth l i).inst)),(Ac 12 Ar ((nth l i).pkgs))])]) (al':=[(.ptr 0 0),(.agg [(.str ((nth l i).name)),(.int .i64 ((nth l i).prio)),(.bool ((nth l i).inst)),(Ac 12 Ar ((nth l i).pkgs))])]) (r:=(.int .i64 (Cj (Aq (Am kind) (l.take i)).1 (nth l i)))) (r':=(.int .i64 (Cj (Aq (Am kind) (l.take i)).1 (nth l i)))) (s':=[(1,(Ac 4 Bf l)),(6,(.ptr 1 0)),(8,(.ptr 2 0)),(10,(.int .i64 ((i:Int)))),(35,(.ptr 1 0)),(39,(.agg [(.str ((nth l i).name)),(.int .i64 ((nth l i).prio)),(.bool ((nth l i).inst)),(Ac 12 Ar ((nth l i).pkgs))])),(41,(.ptr 2 0)),(45,(.agg [(.str ((nth l i).name)),(.int .i64 ((nth l i).prio)),(.bool ((nth l i).inst)),(Ac 12 Ar ((nth l i).pkgs))])),(40,(.int .i64 (Cj (Aq (Am kind) (l.take i)).1 (nth l i))))]) (H:=[(0,(.row [(.int .i64 ((Aq (Am kind) (l.take i)).1.kind)),(.own 1),(.own 2),(.map 3)] 101)),(1,(.grow (((Aq (Am kind) (l.take i)).1).repos.map Bb) 41 4)),(2,(.grow (((Aq (Am kind) (l.take i)).1).all.map Be) 106 13)),(3,(.mm (Ba ((Aq (Am kind) (l.take i)).1).all) none 3 1))]) (H':=[(0,(.row [(.int .i64 ((Cd (Aq (Am kind) (l.take i)).1 (nth l i)).kind)),(.own 1),(.own 2),(.map 3)] 101)),(1,(.grow ((Cd (Aq (Am kind) (l.take i)).1 (nth l i)).repos.map Bb) 41 4)),(2,(.grow ((Cd (Aq (Am kind) (l.take i)).1 (nth l i)).all.map Be) 106 13)),(3,(.mm (Ba (Cd (Aq (Am kind) (l.take i)).1 (nth l i)).all) none 3 1))]) (h2:=[(0,(.mm (Ba (Cd (Aq (Am kind) (l.take i)).1 (nth l i)).all) none 3 1)),(1,(.row [(.int .i64 ((Cd (Aq (Am kind) (l.take i)).1 (nth l i)).kind)),(.own 3),(.own 4),(.map 0)] 101)),(2,(.row [(.int .i64 ((Aq (Am kind) (l.take i)).1.kind)),(.own 5),(.own 6)] 116)),(3,(.grow ((Cd (Aq (Am kind) (l.take i)).1 (nth l i)).repos.map Bb) 41 4)),(4,(.grow ((Cd (Aq (Am kind) (l.take i)).1 (nth l i)).all.map Be) 106 13)),(5,(.grow (((Aq (Am kind) (l.take i)).1).repos.map Bf) 41 4)),(6,(.grow (((Aq (Am kind) (l.take i)).2).map atX) 142 2))]) (by kernel_rfl) (by exact X4o) (by kernel_rfl) (by kernel_rfl) (by kernel_rfl) (by kernel_rfl) (by kernel_rfl) (X8p (Aq (Am kind) (l.take i)).1 (nth l i) hb.1 hb.2.1 (by omega) (by omega) (fun j hj=>Nat.le_trans (RepoT.size_pkg hj) (hl i (by omega)))) (by kernel_rfl) (by kernel_rfl) (by kernel_rfl) ?_
     refine B5 ⟨rfl,?_⟩
     refine Gx (fuel:=1) 11 (by kernel_rfl) ?_
     refine Dq (fuel:=1) 11 rfl ?_
     refine Mx [2,5,6] (al:=[(.ptr 2 0),(.agg [(.str ((nth l i).name)),(.int .i64 ((nth l i).prio)),(.bool ((nth l i).inst)),(Ac 12 Ar ((nth l i).pkgs))])]) (al':=[(.ptr 0 0),(.agg [(.str ((nth l i).name)),(.int .i64 ((nth l i).prio)),(.bool ((nth l i).inst)),(Ac 12 Ar ((nth l i).pkgs))])]) (r:=(.int .i64 (Cj (Aq (Am kind) (l.take i)).1 (nth l i)))) (r':=(.int .i64 (Cj (Aq (Am kind) (l.take i)).1 (nth l i)))) (s':=[(1,(Ac 4 Bf l)),(6,(.ptr 1 0)),(8,(.ptr 2 0)),(10,(.int .i64 ((i:Int)))),(35,(.ptr 1 0)),(39,(.agg [(.str ((nth l i).name)),(.int .i64 ((nth l i).prio)),(.bool ((nth l i).inst)),(Ac 12 Ar ((nth l i).pkgs))])),(41,(.ptr 2 0)),(45,(.agg [(.str ((nth l i).name)),(.int .i64 ((nth l i).prio)),(.bool ((nth l i).inst)),(Ac 12 Ar ((nth l i).pkgs))])),(40,(.int .i64 (Cj (Aq (Am kind) (l.take i)).1 (nth l i)))),(46,(.int .i64 (Cj (Aq (Am kind) (l.take i)).1 (nth l i))))]) (H:=[(0,(.row [(.int .i64 ((Aq (Am kind) (l.take i)).1.kind)),(.own 1),(.own 2)] 116)),(1,(.grow (((Aq (Am kind) (l.take i)).1).repos.map Bf) 41 4)),(2,(.grow (((Aq (Am kind) (l.take i)).2).map atX) 142 2))]) (H':=[(0,(.row [(.int .i64 ((Cd (Aq (Am kind) (l.take i)).1 (nth l i)).kind)),(.own 1),(.own 2)] 116)),(1,(.grow ((Cd (Aq (Am kind) (l.take i)).1 (nth l i)).repos.map Bf) 41 4)),(2,(.grow ((E4 (Aq (Am kind) (l.take i)).2 (Aq (Am kind) (l.take i)).1 (nth l i)).map atX) 142 2))]) (h2:=[(0,(.mm (Ba (Cd (Aq (Am kind) (l.take i)).1 (nth l i)).all) none 3 1)),(1,(.row [(.int .i64 ((Cd (Aq (Am kind) (l.take i)).1 (nth l i)).kind)),(.own 3),(.own 4),(.map 0)] 101)),(2,(.row [(.int .i64 ((Cd (Aq (Am kind) (l.take i)).1 (nth l i)).kind)),(.own 5),(.own 6)] 116)),(3,(.grow ((Cd (Aq (Am kind) (l.take i)).1 (nth l i)).repos.map Bb) 41 4)),(4,(.grow ((Cd (Aq (Am kind) (l.take i)).1 (nth l i)).all.map Be) 106 13)),(5,(.grow ((Cd (Aq (Am kind) (l.take i)).1 (nth l i)).repos.map Bf) 41 4)),(6,(.grow ((E4 (Aq (Am kind) (l.take i)).2 (Aq (Am kind) (l.take i)).1 (nth l i)).map atX) 142 2))]) (by kernel_rfl) (by exact X29) (by kernel_rfl) (by kernel_rfl) (by kernel_rfl) (by kernel_rfl) (by kernel_rfl) (Q7u (Aq (Am kind) (l.take i)).1 (Aq (Am kind) (l.take i)).2 (nth l i) hb.1 hb.2.1 hb.2.2 (by omega) (by omega) (fun j hj=>Nat.le_trans (RepoT.size_pkg hj) (hl i (by omega)))) (by kernel_rfl) (by kernel_rfl) (by kernel_rfl) ?_
     refine B5 ⟨rfl,?_⟩
     refine De (fuel:=0) [] [12] [1,6,8,10,47] A2 ?_
     refine Az [1,6,8,10,47] ?_
     refine Hd (by kernel_rfl) ?_
     refine Dt (p:=(Cj (Aq (Am kind) (l.take i)).1 (nth l i))=(Cj (Aq (Am kind) (l.take i)).1 (nth l i))) (by kernel_rfl) (fun c5=>?_) (fun c5=>?_)
     ·exact absurd rfl c5
     ·refine Ai ?_
      refine Ap ?_
      refine Av 0 [] [1,6,8,10] [] hk0 v0 (cc 1 (p:=(-9223372036854775808≤(i:Int)+1∧(i:Int)+1≤9223372036854775807)) (by omega)<|c0) ?_
      refine⟨by kernel_rfl,_,?_,i+1,?_,(Eq.trans (b:=(⟨[(1,(Ac 4 Bf l)),(6,(.ptr 1 0)),(8,(.ptr 2 0)),(10,(.int .i64 ((i:Int)+1)))],[(0,(.mm (Ba (Cd (Aq (Am kind) (l.take i)).1 (nth l i)).all) none 3 1)),(1,(.row [(.int .i64 ((Cd (Aq (Am kind) (l.take i)).1 (nth l i)).kind)),(.own 3),(.own 4),(.map 0)] 101)),(2,(.row [(.int .i64 ((Cd (Aq (Am kind) (l.take i)).1 (nth l i)).kind)),(.own 5),(.own 6)] 116)),(3,(.grow ((Cd (Aq (Am kind) (l.take i)).1 (nth l i)).repos.map Bb) 41 4)),(4,(.grow ((Cd (Aq (Am kind) (l.take i)).1 (nth l i)).all.map Be) 106 13)),(5,(.grow ((Cd (Aq (Am kind) (l.take i)).1 (nth l i)).repos.map Bf) 41 4)),(6,(.grow ((E4 (Aq (Am kind) (l.take i)).2 (Aq (Am kind) (l.take i)).1 (nth l i)).map atX) 142 2))],7⟩:St)) (by kernel_rfl) (by rw[X5u (by omega)]<;>kernel_rfl)),rfl⟩
      ·omega
      ·omega
    ·refine Bt ?_
     refine Ad ?_
     refine Ap ?_
     refine J6 1 1 (y:=⟨[(1,(Ac 4 Bf l)),(6,(.ptr 1 0)),(8,(.ptr 2 0)),(10,(.int .i64 ((i:Int)))),(32,(.bool (decide ((i:Int) < (l.length:Int)))))],[(0,(.mm (Ba ((Aq (Am kind) (l.take i)).1).all) none 3 1)),(1,(.row [(.int .i64 ((Aq (Am kind) (l.take i)).1.kind)),(.row 4 (((Aq (Am kind) (l.take i)).1).repos.map Bb).length (fun ix=>(((Aq (Am kind) (l.take i)).1).repos.map Bb).getD ix Bp)),(.own 4),(.map 0)] 101)),(2,(.row [(.int .i64 ((Aq (Am kind) (l.take i)).1.kind)),(.own 5),(.own 6)] 116)),(4,(.grow (((Aq (Am kind) (l.take i)).1).all.map Be) 106 13)),(5,(.grow (((Aq (Am kind) (l.take i)).1).repos.map Bf) 41 4)),(6,(.grow (((Aq (Am kind) (l.take i)).2).map atX) 142 2))],7⟩) (by kernel_rfl) ?_
     refine J6 1 2 (y:=⟨[(1,(Ac 4 Bf l)),(6,(.ptr 1 0)),(8,(.ptr 2 0)),(10,(.int .i64 ((i:Int)))),(32,(.bool (decide ((i:Int) < (l.length:Int)))))],[(0,(.mm (Ba ((Aq (Am kind) (l.take i)).1).all) none 3 1)),(1,(.row [(.int .i64 ((Aq (Am kind) (l.take i)).1.kind)),(.row 4 (((Aq (Am kind) (l.take i)).1).repos.map Bb).length (fun ix=>(((Aq (Am kind) (l.take i)).1).repos.map Bb).getD ix Bp)),(.row 13 (((Aq (Am kind) (l.take i)).1).all.map Be).length (fun ix=>(((Aq (Am kind) (l.take i)).1).all.map Be).getD ix Bp)),(.map 0)] 101)),(2,(.row [(.int .i64 ((Aq (Am kind) (l.take i)).1.kind)),(.own 5),(.own 6)] 116)),(5,(.grow (((Aq (Am kind) (l.take i)).1).repos.map Bf) 41 4)),(6,(.grow (((Aq (Am kind) (l.take i)).2).map atX) 142 2))],7⟩) (by kernel_rfl) ?_
     refine J6 1 3 (y:=⟨[(1,(Ac 4 Bf l)),(6,(.ptr 1 0)),(8,(.ptr 2 0)),(10,(.int .i64 ((i:Int)))),(32,(.bool (decide ((i:Int) < (l.length:Int)))))],[(1,(.row [(.int .i64 ((Aq (Am kind) (l.take i)).1.kind)),(.row 4 (((Aq (Am kind) (l.take i)).1).repos.map Bb).length (fun ix=>(((Aq (Am kind) (l.take i)).1).repos.map Bb).getD ix Bp)),(.row 13 (((Aq (Am kind) (l.take i)).1).all.map Be).length (fun ix=>(((Aq (Am kind) (l.take i)).1).all.map Be).getD ix Bp)),(.smap (.slice none 0 0) (fun kq => .row 1 ((Ba ((Aq (Am kind) (l.take i)).1).all) kq).length (fun ix=>((Ba ((Aq (Am kind) (l.take i)).1).all) kq).getD ix Bp)))] 101)),(2,(.row [(.int .i64 ((Aq (Am kind) (l.take i)).1.kind)),(.own 5),(.own 6)] 116)),(5,(.grow (((Aq (Am kind) (l.take i)).1).repos.map Bf) 41 4)),(6,(.grow (((Aq (Am kind) (l.take i)).2).map atX) 142 2))],7⟩) (by kernel_rfl) ?_
     refine J6 2 1 (y:=⟨[(1,(Ac 4 Bf l)),(6,(.ptr 1 0)),(8,(.ptr 2 0)),(10,(.int .i64 ((i:Int)))),(32,(.bool (decide ((i:Int) < (l.length:Int)))))],[(1,(.row [(.int .i64 ((Aq (Am kind) (l.take i)).1.kind)),(.row 4 (((Aq (Am kind) (l.take i)).1).repos.map Bb).length (fun ix=>(((Aq (Am kind) (l.take i)).1).repos.map Bb).getD ix Bp)),(.row 13 (((Aq (Am kind) (l.take i)).1).all.map Be).length (fun ix=>(((Aq (Am kind) (l.take i)).1).all.map Be).getD ix Bp)),(.smap (.slice none 0 0) (fun kq => .row 1 ((Ba ((Aq (Am kind) (l.take i)).1).all) kq).length (fun ix=>((Ba ((Aq (Am kind) (l.take i)).1).all) kq).getD ix Bp)))] 101)),(2,(.row [(.int .i64 ((Aq (Am kind) (l.take i)).1.kind)),(.row 4 (((Aq (Am kind) (l.take i)).1).repos.map Bf).length (fun ix=>(((Aq (Am kind) (l.take i)).1).repos.map Bf).getD ix Bp)),(.own 6)] 116)),(6,(.grow (((Aq (Am kind) (l.take i)).2).map atX) 142 2))],7⟩) (by kernel_rfl) ?_
     refine J6 2 2 (y:=⟨[(1,(Ac 4 Bf l)),(6,(.ptr 1 0)),(8,(.ptr 2 0)),(10,(.int .i64 ((i:Int)))),(32,(.bool (decide ((i:Int) < (l.length:Int)))))],[(1,(.row [(.int .i64 ((Aq (Am kind) (l.take i)).1.kind)),(.row 4 (((Aq (Am kind) (l.take i)).1).repos.map Bb).length (fun ix=>(((Aq (Am kind) (l.take i)).1).repos.map Bb).getD ix Bp)),(.row 13 (((Aq (Am kind) (l.take i)).1).all.map Be).length (fun ix=>(((Aq (Am kind) (l.take i)).1).all.map Be).getD ix Bp)),(.smap (.slice none 0 0) (fun kq => .row 1 ((Ba ((Aq (Am kind) (l.take i)).1).all) kq).length (fun ix=>((Ba ((Aq (Am kind) (l.take i)).1).all) kq).getD ix Bp)))] 101)),(2,(.row [(.int .i64 ((Aq (Am kind) (l.take i)).1.kind)),(.row 4 (((Aq (Am kind) (l.take i)).1).repos.map Bf).length (fun ix=>(((Aq (Am kind) (l.take i)).1).repos.map Bf).getD ix Bp)),(.row 2 (((Aq (Am kind) (l.take i)).2).map atX).length (fun ix=>(((Aq (Am kind) (l.take i)).2).map atX).getD ix Bp))] 116))],7⟩) (by kernel_rfl) ?_
     refine Ey [] [4,5] ?_
     refine Ah ?_
     refine RK wR [(.fp (.agg [(.int .i64 ((Aq (Am kind) (l.take i)).1.kind)),(.row 4 (((Aq (Am kind) (l.take i)).1).repos.map Bb).length (fun ix=>(((Aq (Am kind) (l.take i)).1).repos.map Bb).getD ix Bp)),(.row 13 (((Aq (Am kind) (l.take i)).1).all.map Be).length (fun ix=>(((Aq (Am kind) (l.take i)).1).all.map Be).getD ix Bp)),(.smap (.slice none 0 0) (fun kq => .row 1 ((Ba ((Aq (Am kind) (l.take i)).1).all) kq).length (fun ix=>((Ba ((Aq (Am kind) (l.take i)).1).all) kq).getD ix Bp)))])),(.fp (.agg [(.int .i64 ((Aq (Am kind) (l.take i)).1.kind)),(.row 4 (((Aq (Am kind) (l.take i)).1).repos.map Bf).length (fun ix=>(((Aq (Am kind) (l.take i)).1).repos.map Bf).getD ix Bp)),(.row 2 (((Aq (Am kind) (l.take i)).2).map atX).length (fun ix=>(((Aq (Am kind) (l.take i)).2).map atX).getD ix Bp))]))] ?_
     rw[show i=l.length from by omega,List.take_length]
     simp only[An]
     exact(Imp.tups (ImpL.cons (Imp.fp (Imp.aggs (ImpL.cons Imp.refl (ImpL.cons (Imp.list (f:=Bb) (List.length_map _)) (ImpL.cons (Imp.list (f:=Be) (List.length_map _)) (ImpL.cons Imp.refl ImpL.nil)))))) (ImpL.cons (Imp.fp (Imp.aggs (ImpL.cons Imp.refl (ImpL.cons (Imp.list (f:=Bf) (List.length_map _)) (ImpL.cons (Imp.list (f:=atX) (List.length_map _)) ImpL.nil))))) ImpL.nil))).same
end Sv
end
section
open Go Go.RowKit
namespace Sv
attribute [local irreducible] SW SO Bn
set_option maxHeartbeats 400000
set_option maxRecDepth 100000
theorem Q10:Au Tryz.prog 42:=Ay Tryz.func42 (by kernel_rfl) rfl
theorem Q1z:Au Tryz.prog 43:=Ay Tryz.func43 (by kernel_rfl) rfl
theorem I3:Au Tryz.prog 32:=Ay Tryz.func32 (by kernel_rfl) rfl
theorem Q5i (st : PoolT) :
  FnV Tryz.prog 42 [(.fp (Bm st))] (.int .i64 st.kind):=by
 refine A5 [.tmp 2] Tryz.func42 rfl Tryz.ntmps42 rfl rfl (fun B F hF=>?_)
 refine Aa [] [0] ?_
 refine Ad ?_
 refine Aa [] [0,4] ?_
 refine Eh (by kernel_rfl) ?_
 refine Ai ?_
 refine Aa [] [2] ?_
 refine Ah ?_
 refine RK wR [(.int .i64 st.kind)] ?_
 exact Same.of_eq (by first|rfl|(simp only[An];simp_all))
theorem Q5h (st : PoolT) :
  FnV Tryz.prog 43 [(.fp (Bm st))] (.int .i64 ((st.all.length:Int))):=by
 refine A5 [.tmp 2] Tryz.func43 rfl Tryz.ntmps43 rfl rfl (fun B F hF=>?_)
 refine Aa [] [0] ?_
 refine Ad ?_
 refine Aa [] [0,4] ?_
 refine Eh (by kernel_rfl) ?_
 refine Ai ?_
 refine Aa [] [2] ?_
 refine Ah ?_
 refine RK wR [(.int .i64 ((st.all.length:Int)))] ?_
 exact Same.of_eq (by first|rfl|(simp only[An];simp_all))
theorem Je (st : PoolT) (i : Nat) (hi : i < st.all.length) (hs : (nth st.all i).1.size ≤ 4194304) :
  FnV Tryz.prog 32 [(.fp (Bm st)),(.int .i64 ((i:Int)))] (.tup [Ar (nth st.all i).1,.int .i64 (nth st.all i).2,.int .i64 0]):=by
 refine A5 [.cell 4 38,.tmp 5,.tmp 6] Tryz.func32 rfl Tryz.ntmps32 rfl rfl (fun B F hF=>?_)
 refine Aa [] [0,1,4] ?_
 refine Ad ?_
 refine A1 ?_
 refine Aa [] [0,1,4,7] ?_
 refine Eh (by kernel_rfl) ?_
 obtain⟨b1,hb1⟩:∃b,b=(decide ((i:Int) < 0)):=⟨_,rfl⟩
 obtain⟨b2,hb2⟩:∃b,b=(b1||(decide ((st.all.length:Int)≤(i:Int)))):=⟨_,rfl⟩
 refine Af (CS:=[(5,((!b1)=true→(!b1)=true)),(6,((!b1)=true→(!b1)=true)),(7,((!b1)=true→(!b1)=true)),(8,((!b1)=true→(!b1)=true)),(9,((!b1)=true→(!b1)=true∧(!b1)=true)),(10,(b1=false→(!b1)=true))]) [15,16,17,18,19,20,21] [0,1,4,11] [] hk0 (vk 3 14 (a:=.bool (decide ((i:Int) < 0))) (b:=.bool b1) (Imp.of_eq (by rw[hb1]))<|vk 11 22 (a:=.bool (b1||(decide ((st.all.length:Int)≤(i:Int))))) (b:=.bool b2) (Imp.of_eq (by rw[hb2]))<|v0) (by refine cc _ ?_<|cc _ ?_<|cc _ ?_<|cc _ ?_<|cc _ ?_<|cc _ ?_ c0<;>simp) ?_
 refine A8 (q:=b2) (by kernel_rfl) (fun c1=>?_) (fun c1=>?_)
 ·subst hb2 hb1
  try simp only[Ao] at c1
  exfalso;simp at c1;omega
 ·subst hb2 hb1
  try simp only[Ao] at c1
  refine Ai ?_
  refine C2 (CS:=[(5,(0≤(i:Int)∧i < st.all.length)),(14,(0≤(i:Int)∧i < st.all.length))]) [] [4,5,6] [] (hk 8 Q1x (Q24 (nth st.all i).1 (by have:=(nth st.all i).1.sizes;omega) (by have:=(nth st.all i).1.sizes;have:=K1 (nth st.all i).1.files;omega))<|hk0) v0 (by refine cc _ ?_<|cc _ ?_ c0<;>omega) ?_
  refine Ah ?_
  refine RK wR [(Ar ((nth st.all i).1)),(.int .i64 ((nth st.all i).2)),(.int .i64 0)] ?_
  exact Same.of_eq (by first|rfl|(simp only[An];simp_all))
end Sv
end
end Go.Proofs.YtlmloohlmlahfaaGreatDoor
