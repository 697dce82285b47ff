/- The texts EvrV, EvrW, PkgV, FormV, Pool1, RuneV, NextV, OneV, ParseL, Pool2, Pool3, Pool4, Pool5, Pool6, Pool7 of the proof, joined. Each says at its theorems what it proves. -/
import Derived.Test.YtlmloohlmlahfaaGreatDoorJ1
set_option linter.unusedSimpArgs false
set_option linter.unusedVariables false
namespace Go.Proofs.YtlmloohlmlahfaaGreatDoor
section
open Go Go.RowKit
namespace Sv
attribute [local irreducible] SW SO Bs
set_option maxHeartbeats 1000000
set_option maxRecDepth 100000
theorem FnV.of_plain {P:Program} {f:Nat} {al:List AV} {r:AV} (vs0:List Value) (rv:Value) (ha:∀F vs,VRl (ofF F) al vs→vs=vs0) (hr:∀F,VR (ofF F) r rv) (h:∀w:World,Calls P f vs0.toArray w (Ret fun v w'=>v=rv∧Below w.heap.size w w')):FnV P f al r:=by
 intro F w vs hF hv
 rw[ha F vs hv]
 refine(h w).mono ?_
 rintro e w' ⟨v,he,rfl,hb⟩
 exact⟨_,he,hb,F,fun _ _ e=>e,fun b o e=>(hb.block b (Ft (hF b o e))).trans (hF b o e),fun _ _ e => .inl e,hr F⟩
theorem Tf {P:Program} {f:Nat} {vs:Array Value} {w:World} {rv:Value} (h:Calls P f vs w (Ret fun v w'=>v=rv∧w=w')):Calls P f vs w (Ret fun v w'=>v=rv∧Below w.heap.size w w') :=
 h.mono fun e w' hh=>by
  obtain⟨v,he,h1,rfl⟩:=hh
  exact⟨v,he,h1,Below.refl _ _⟩
theorem Pf {F:Nat→Option Obj} {a b:AV} {x y:Value} (ha:∀F v,VR (ofF F) a v→v=x) (hb:∀F v,VR (ofF F) b v→v=y) {vs:List Value} (h:VRl (ofF F) [a,b] vs):vs=[x,y]:=by
 obtain⟨v,r1,rfl,h1,hv⟩:=h.cons_inv
 obtain⟨v2,rfl,h2⟩:=hv.single_inv
 rw[ha _ _ h1,hb _ _ h2]
theorem L0 {l:List UInt8}:∀F v,VR (ofF F) (.str l) v→v=Go.Proofs.YtlmloohlmlahfaaGreatDoor.S l:=fun F v h=>by simpa only [VR] using h
theorem Q1h {k:IntKind} {n:Int}:∀F v,VR (ofF F) (.int k n) v→v = .int k n:=fun F v h=>by simpa only [VR] using h
theorem X95 (l:List UInt8) (c:UInt8):FnV Tryz.prog 162 [.str l,.int .u8 (c.toNat:Int)] (.int .i64 (Lib.indexByte l c)) :=
 FnV.of_plain [S l,.int .u8 (c.toNat:Int)] (.int .i64 (Lib.indexByte l c)) (fun _ _ h=>Pf L0 Q1h h) (fun _=>by simp only[VR]) fun w=>Tf (X94 l c w)
theorem X92 (l:List UInt8) (hl:l.length≤9223372036854775807):FnV Tryz.prog 165 [.str l,.int .u8 45] (.int .i64 (Ca l 45 l.length)) :=
 FnV.of_plain [S l,.int .u8 45] (.int .i64 (Ca l 45 l.length)) (fun _ _ h=>Pf L0 Q1h h) (fun _=>by simp only[VR]) fun w=>Tf (X91 l 45 w hl)
theorem Y0d (l:List UInt8):FnV Tryz.prog 166 [.str l,.str [58]] (.bool (l.contains 58)) :=
 FnV.of_plain [S l,S [58]] (.bool (l.contains 58)) (fun _ _ h=>Pf L0 L0 h) (fun _=>by simp only[VR]) fun w=>Tf (Y0c l 58 w)
theorem Y0b (l:List UInt8) (hl:l.length≤9223372036854775807):FnV Tryz.prog 164 [.str l,.str [58]] (.tup [.str (if 0≤Lib.indexByte l 58 then l.take (Lib.indexByte l 58).toNat else l),.str (if 0≤Lib.indexByte l 58 then l.drop ((Lib.indexByte l 58).toNat+1) else []),.bool (decide (0≤Lib.indexByte l 58))]):=by
 refine FnV.of_plain [S l,S [58]] (Ix l 58) (fun _ _ h=>Pf L0 L0 h) (fun F=>?_) fun w=>?_
 ·unfold Ix
  by_cases h:0≤Lib.indexByte l 58
  ·rw[if_pos h,if_pos h,if_pos h,decide_eq_true h]
   simp only[VR];exact⟨_,.cons (by simp only[VR]) (.cons (by simp only[VR]) (.cons (by simp only[VR]) .nil)),rfl⟩
  ·rw[if_neg h,if_neg h,if_neg h,decide_eq_false h]
   simp only[VR];exact⟨_,.cons (by simp only[VR]) (.cons (by simp only[VR]) (.cons (by simp only[VR]) .nil)),rfl⟩
 ·exact Y0a l 58 w hl
theorem X2i (r:List UInt8) (c:UInt8) : -1≤Ca r c r.length∧Ca r c r.length < r.length:=by
 rcases Q09 r c r.length with h|⟨q,h,hq⟩<;>omega
theorem Q6 {l r ep v rl : List UInt8} (hh : Il l = true) (hr : r = (if 0 ≤ Lib.indexByte l 58 then l.drop ((Lib.indexByte l 58).toNat + 1) else l)) (he : ep = (if 0 ≤ Lib.indexByte l 58 then l.take (Lib.indexByte l 58).toNat else [])) (hd : 0 ≤ Lib.indexByte l 58 → Gk (l.take (Lib.indexByte l 58).toNat) = true)
  (hv:v=(if 0≤Ca r 45 r.length then r.take (Ca r 45 r.length).toNat else r)) (hrl:rl=(if 0≤Ca r 45 r.length then r.drop ((Ca r 45 r.length).toNat+1) else [])) (hn:0≤Ca r 45 r.length→¬rl=[]):Cj l=(if v=[]∨r.contains 58=true then 30 else 0)∧Ol l=(ep,v,rl):=by
 constructor
 ·have ht : J8 l = Le r := by
   unfold J8
   rw[hh,Bool.true_and]
   by_cases h:0≤Lib.indexByte l 58
   ·rw[if_pos h,hd h,Bool.true_and,hr,if_pos h]
   ·rw[if_neg h,hr,if_neg h]
  have ht2:Le r = !(decide (v=[])||r.contains 58):=by
   unfold Le
   by_cases h:0≤Ca r 45 r.length
   ·have:=hn h
    rw[if_pos h] at hv hrl ⊢
    rw[←hrl,←hv,decide_eq_false this,Bool.not_or];rfl
   ·rw[if_neg h] at hv ⊢
    rw[hv,Bool.not_or]
  unfold Cj
  rw[ht,ht2]
  by_cases h1:v=[]<;>by_cases h2:r.contains 58=true<;>simp[h1,h2]
 ·unfold Ol
  simp only[←hr]
  rw[←he,←hv,←hrl]
theorem X2b (c : UInt8) :
  FnV Tryz.prog 159 [(.int .u8 ((c.toNat:Int)))] (.bool (Gh c)):=by
 refine A8 [.tmp 2] Tryz.func159 rfl Tryz.ntmps159 rfl rfl (fun B F hF=>?_)
 refine Ab [] [0] ?_
 obtain⟨b1,hb1⟩:∃b,b=((Aq c)||(B7 c)):=⟨_,rfl⟩
 refine Af (CS:=[(4,(!(Aq c))=true→(!(Aq c))=true),(5,((Aq c)=false→(!(Aq c))=true)),(8,(!b1)=true→(!b1)=true),(9,((!b1)=true→(!b1)=true)),(10,(b1=false→(!b1)=true))]) [6,10,12] [2] [] (hk 1 Iv (Jk c)<|hkg 4 (!(Aq c)) Mw (fun cg=>Ob c)<|hkg 8 (!b1) X5l (fun cg=>X95 midL c)<|hk0) (vk 7 9 (a:=.bool ((Aq c)||(B7 c))) (b:=.bool b1) (Imp.of_eq (by rw[hb1]))<|v0) (by refine cc _ ?_<|cc _ ?_<|cc _ ?_<|cc _ ?_<|cc _ ?_ c0<;>simp) ?_
 refine Ag ?_
 refine RK wR [(.bool (b1||(decide (0≤(Lib.indexByte midL c)))))] ?_
 subst hb1
 refine Same.of_eq ?_
 simp only[Ak]
 rw[Q1n,Bool.or_assoc];rfl
theorem X38 {l:List UInt8} (c:(l=[]∨(60:Int) < (l.length:Int))∨¬(Ar Gh l:Int)=(l.length:Int)):Cj l=30:=by
 refine Q2w ?_
 unfold Il
 rcases c with (h|h)|h
 ·rw[h];rfl
 ·rw[decide_eq_false (show ¬l.length≤60 by omega)];simp
 ·rw[show l.all Gh=false from by cases hq:l.all Gh with|false=>rfl|true=>exact absurd ((Rt Gh l).2 hq) h];rfl
theorem X39 {l:List UInt8} (hh:Il l=true) (h0:0≤Lib.indexByte l 58) (c:(l.take (Lib.indexByte l 58).toNat=[]∨(9:Int) < ((l.take (Lib.indexByte l 58).toNat).length:Int))∨¬(Ar Aq (l.take (Lib.indexByte l 58).toNat):Int)=((l.take (Lib.indexByte l 58).toNat).length:Int)):Cj l=30:=by
 have hb:Gk (l.take (Lib.indexByte l 58).toNat)=false:=by
  unfold Gk
  rcases c with (h|h)|h
  ·rw[h];rfl
  ·rw[decide_eq_false (show ¬(l.take (Lib.indexByte l 58).toNat).length≤9 by omega)];simp
  ·rw[show(l.take (Lib.indexByte l 58).toNat).all Iw=false from by cases hq:(l.take (Lib.indexByte l 58).toNat).all Iw with|false=>rfl|true=>exact absurd ((Rt Iw _).2 hq) h];rfl
 unfold Cj J8
 rw[hh,Bool.true_and,if_pos h0,hb];rfl
theorem Q2s {l r:List UInt8} (hh:Il l=true) (hr:r=(if 0≤Lib.indexByte l 58 then l.drop ((Lib.indexByte l 58).toNat+1) else l)) (hd:0≤Lib.indexByte l 58→Gk (l.take (Lib.indexByte l 58).toNat)=true) (hy:0≤Ca r 45 r.length) (h:r.drop ((Ca r 45 r.length).toNat+1)=[]):Cj l=30:=by
 have ht:J8 l=Le r:=by
  unfold J8
  rw[hh,Bool.true_and]
  by_cases h:0≤Lib.indexByte l 58
  ·rw[if_pos h,hd h,Bool.true_and,hr,if_pos h]
  ·rw[if_neg h,hr,if_neg h]
 unfold Cj
 rw[ht]
 unfold Le
 rw[if_pos hy,h];rfl
theorem Q7 (l : List UInt8) (hl : l.length ≤ 4611686018427387904) :
  FnV Tryz.prog 107 [(.str l)] (.tup [.agg [.str (Ct l).1,.str (Ct l).2.1,.str (Ct l).2.2],.int .i64 (Cj l)]):=by
 refine A8 [.cell 2 150,.tmp 3] Tryz.func107 rfl Tryz.ntmps107 rfl rfl (fun B F hF=>?_)
 refine Ab [] [0,2] ?_
 refine Ab [] [0,2,4] ?_
 refine Ac ?_
 obtain⟨b1,hb1⟩:∃b,b=(decide (l=[])):=⟨_,rfl⟩
 obtain⟨b2,hb2⟩:∃b,b=(b1||(decide (60 < (l.length:Int)))):=⟨_,rfl⟩
 refine Af (CS:=[(4,((!b1)=true→(!b1)=true)),(5,((!b1)=true→(!b1)=true)),(6,(b1=false→(!b1)=true)),(10,(!b2)=true→(!b2)=true∧(!b2)=true),(12,((!b2)=true→(!b2)=true)),(13,((!b2)=true→(!b2)=true∧(!b2)=true)),(14,(b2=false→(!b2)=true))]) [14,15,16,19,20,22,23,24] [0,2,25] [] (hkg 10 (!b2) (al:=[(.str l),(.fn 159 [] [])]) Hz (fun cg=>(Iy l (.fn 159 [] []) Gh (by first|omega|(split<;>simp<;>omega)) (fun c=>FunV.of (by exact X5m) (X2b c))).of_args (ImpL.cons Imp.refl (ImpL.cons (Imp.clo rfl) ImpL.nil)))<|hk0) (vk 3 13 (a:=.bool (decide (l=[]))) (b:=.bool b1) (Imp.of_eq (by rw[hb1]))<|vk 8 18 (a:=.bool (b1||(decide (60 < (l.length:Int))))) (b:=.bool b2) (Imp.of_eq (by rw[hb2]))<|v0) (by refine cc _ ?_<|cc _ ?_<|cc _ ?_<|cc _ ?_<|cc _ ?_<|cc _ ?_<|cc _ ?_ c0<;>simp) ?_
 refine Bd (q:=b2||(!decide ((Ar Gh l:Int)=(l.length:Int)))) (by kernel_rfl) (fun c1=>?_) (fun c1=>?_)
 ·subst hb2 hb1
  try simp only[Am] at c1
  refine Ab [] [2,3] ?_
  refine Ag ?_
  refine RK wR [(.agg [(.str []),(.str []),(.str [])]),(.int .i64 30)] ?_
  refine Same.of_eq ?_
  simp only[Ak]
  have h0:Cj l=30:=X38 c1
  have h1:Ct l=([],[],[]):=Hk h0.symm
  rw[h0,h1]
 ·subst hb2 hb1
  try simp only[Am] at c1
  have hh:Il l=true:=by
   unfold Il
   rw[show l.all Gh=true from (Rt Gh l).1 c1.2,decide_eq_true (show 1≤l.length by have:=List.length_pos_iff.2 c1.1.1;omega),decide_eq_true (by omega)];rfl
  refine Ai ?_
  refine Ab [] [0,2,5] ?_
  refine Ab [] [0,2,5,6] ?_
  refine Dm (fun y=>∃(r:List UInt8) (ep:List UInt8),r=(if 0≤Lib.indexByte l 58 then l.drop ((Lib.indexByte l 58).toNat+1) else l)∧ep=(if 0≤Lib.indexByte l 58 then l.take (Lib.indexByte l 58).toNat else [])∧(0≤Lib.indexByte l 58→Gk (l.take (Lib.indexByte l 58).toNat)=true)∧y=⟨[(2,(.ptr 0 0)),(5,(.ptr 1 0)),(6,(.str r))],[(0,(.row [(.str []),(.str []),(.str [])] 150)),(1,(.row [(.str ep),(.str []),(.str [])] 150))],2⟩) [2,5,6] 2 (by omega) ?_ ?_
  ·refine Af [] [2,5,6,7,8,9] [] (hk 1 X5k (Y0b l (by omega))<|hk0) v0 c0 ?_
   refine Ab [] [2,5,6,7,8,34] ?_
   refine A5 (p:=0≤Lib.indexByte l 58) (by kernel_rfl) (fun c2=>?_) (fun c2=>?_)
   ·refine Ac ?_
    obtain⟨b3,hb3⟩:∃b,b=(decide ((if 0≤Lib.indexByte l 58 then l.take (Lib.indexByte l 58).toNat else l)=[])):=⟨_,rfl⟩
    obtain⟨b4,hb4⟩:∃b,b=(b3||(decide (9 < ((if 0≤Lib.indexByte l 58 then l.take (Lib.indexByte l 58).toNat else l).length:Int)))):=⟨_,rfl⟩
    refine Af (CS:=[(4,((!b3)=true→(!b3)=true)),(5,((!b3)=true→(!b3)=true)),(6,(b3=false→(!b3)=true)),(9,(!b4)=true→(!b4)=true),(11,((!b4)=true→(!b4)=true)),(12,((!b4)=true→(!b4)=true∧(!b4)=true)),(13,(b4=false→(!b4)=true))]) [38,39,40,43,45,46,47] [2,5,7,8,48] [] (hkg 9 (!b4) (al:=[(.str ((if 0≤Lib.indexByte l 58 then l.take (Lib.indexByte l 58).toNat else l))),(.fn 160 [] [])]) Hz (fun cg=>(Iy (if 0≤Lib.indexByte l 58 then l.take (Lib.indexByte l 58).toNat else l) (.fn 160 [] []) Aq (by first|omega|(split<;>simp<;>omega)) (fun c=>FunV.of (by exact Iv) (Jk c))).of_args (ImpL.cons Imp.refl (ImpL.cons (Imp.clo rfl) ImpL.nil)))<|hk0) (vk 3 37 (a:=.bool (decide ((if 0≤Lib.indexByte l 58 then l.take (Lib.indexByte l 58).toNat else l)=[]))) (b:=.bool b3) (Imp.of_eq (by rw[hb3]))<|vk 7 41 (a:=.bool (b3||(decide (9 < ((if 0≤Lib.indexByte l 58 then l.take (Lib.indexByte l 58).toNat else l).length:Int))))) (b:=.bool b4) (Imp.of_eq (by rw[hb4]))<|v0) (by refine cc _ ?_<|cc _ ?_<|cc _ ?_<|cc _ ?_<|cc _ ?_<|cc _ ?_<|cc _ ?_ c0<;>simp) ?_
    refine Bd (q:=b4||(!decide ((Ar Aq (if 0≤Lib.indexByte l 58 then l.take (Lib.indexByte l 58).toNat else l):Int)=((if 0≤Lib.indexByte l 58 then l.take (Lib.indexByte l 58).toNat else l).length:Int)))) (by kernel_rfl) (fun c3=>?_) (fun c3=>?_)
    ·subst hb4 hb3
     try simp only[Am] at c3
     refine Ab [] [2,3] ?_
     refine Ag ?_
     refine RK wR [(.agg [(.str []),(.str []),(.str [])]),(.int .i64 30)] ?_
     refine Same.of_eq ?_
     simp only[Ak]
     have h0:Cj l=30:=X39 hh c2 (by rw[if_pos c2] at c3;exact c3)
     have h1:Ct l=([],[],[]):=Hk h0.symm
     rw[h0,h1]
    ·subst hb4 hb3
     try simp only[Am] at c3
     have hdg:Gk (l.take (Lib.indexByte l 58).toNat)=true:=by
      rw[if_pos c2] at c3
      unfold Gk
      rw[show(l.take (Lib.indexByte l 58).toNat).all Iw=true from (Rt Iw _).1 c3.2,decide_eq_true (show 1≤_ by have:=List.length_pos_iff.2 c3.1.1;omega),decide_eq_true (by omega)];rfl
     refine Ai ?_
     refine An ?_
     refine Ei [] [2,5,6] ?_
     refine⟨by kernel_rfl,(if 0≤Lib.indexByte l 58 then l.drop ((Lib.indexByte l 58).toNat+1) else []),(if 0≤Lib.indexByte l 58 then l.take (Lib.indexByte l 58).toNat else l),?_,?_,?_,(by kernel_rfl)⟩
     ·simp only[if_pos c2]
     ·simp only[if_pos c2]
     ·exact fun _=>hdg
   ·refine Ai ?_
    refine⟨by kernel_rfl,l,[],?_,?_,?_,(by kernel_rfl)⟩
    ·simp only[if_neg c2]
    ·simp only[if_neg c2]
    ·exact fun h=>absurd h c2
  ·rintro y1 ⟨r,ep,hr,hep,hdg,rfl⟩
   have hrl:r.length≤l.length:=by rw[hr];split<;>simp
   have hyb:=X2i r 45
   have hi58:=Q1m l 58
   refine Ab [] [2,5,6] ?_
   refine Dm (fun y=>∃(v:List UInt8) (rl:List UInt8),v=(if 0≤Ca r 45 r.length then r.take (Ca r 45 r.length).toNat else r)∧rl=(if 0≤Ca r 45 r.length then r.drop ((Ca r 45 r.length).toNat+1) else [])∧(0≤Ca r 45 r.length→¬rl=[])∧y=⟨[(2,(.ptr 0 0)),(5,(.ptr 1 0)),(6,(.str r))],[(0,(.row [(.str []),(.str []),(.str [])] 150)),(1,(.row [(.str ep),(.str v),(.str rl)] 150))],2⟩) [2,5,6] 2 (by omega) ?_ ?_
   ·refine Af [] [2,5,6,10] [] (hk 1 X5j (X92 r (by omega))<|hk0) v0 c0 ?_
    refine Ab [] [2,5,6,10,58] ?_
    refine A5 (p:=0≤(Ca r 45 r.length)) (by kernel_rfl) (fun c4=>?_) (fun c4=>?_)
    ·refine Cr (CS:=[(2,(0≤(0:Int)∧(0:Int)≤Ca r 45 r.length∧Ca r 45 r.length≤(r.length:Int))),(5,(-9223372036854775808≤(Ca r 45 r.length)+1∧(Ca r 45 r.length)+1≤9223372036854775807)),(6,(0≤(Ca r 45 r.length)+1∧(Ca r 45 r.length)+1≤(r.length:Int)∧(r.length:Int)≤(r.length:Int)))]) [] [2,5,6] [] hk0 v0 (by refine cc _ ?_<|cc _ ?_<|cc _ ?_ c0<;>omega) ?_
     refine Ab [] [2,5,6,70] ?_
     refine A5 (p:=(r.take r.length).drop (((Ca r 45 r.length)+1).toNat)=[]) (by kernel_rfl) (fun c5=>?_) (fun c5=>?_)
     ·refine Ab [] [2,3] ?_
      refine Ag ?_
      refine RK wR [(.agg [(.str []),(.str []),(.str [])]),(.int .i64 30)] ?_
      refine Same.of_eq ?_
      simp only[Ak]
      have h0:Cj l=30:=Q2s hh hr hdg c4 (by have h:=c5;rw[List.take_length] at h;rw[←h];congr 1;omega)
      have h1:Ct l=([],[],[]):=Hk h0.symm
      rw[h0,h1]
     ·refine Ai ?_
      refine⟨by kernel_rfl,((r.take ((Ca r 45 r.length:Int).toNat)).drop 0),((r.take r.length).drop (((Ca r 45 r.length)+1).toNat)),?_,?_,?_,(by kernel_rfl)⟩
      ·rw[if_pos c4];simp
      ·rw[if_pos c4];try rw[List.take_length];congr 1;omega
      ·intro _;exact c5
    ·refine Ai ?_
     refine⟨by kernel_rfl,r,[],?_,?_,?_,(by kernel_rfl)⟩
     ·rw[if_neg c4]
     ·rw[if_neg c4]
     ·exact fun h=>absurd h c4
   ·rintro y2 ⟨v,rl,hv,hrr,hnn,rfl⟩
    refine Ac ?_
    obtain⟨b5,hb5⟩:∃b,b=(decide (v=[])):=⟨_,rfl⟩
    refine Af (CS:=[(5,(!b5)=true→(!b5)=true),(6,(b5=false→(!b5)=true))]) [76] [2,5,78] [] (hkg 5 (!b5) X5i (fun cg=>Y0d r)<|hk0) (vk 4 75 (a:=.bool (decide (v=[]))) (b:=.bool b5) (Imp.of_eq (by rw[hb5]))<|v0) (by refine cc _ ?_<|cc _ ?_ c0<;>simp) ?_
    refine Bd (q:=b5||(r.contains 58)) (by kernel_rfl) (fun c6=>?_) (fun c6=>?_)
    ·subst hb5
     try simp only[Am] at c6
     refine Ab [] [2,3] ?_
     refine Ag ?_
     refine RK wR [(.agg [(.str []),(.str []),(.str [])]),(.int .i64 30)] ?_
     refine Same.of_eq ?_
     simp only[Ak]
     have h0:Cj l=30:=by rw[(Q6 hh hr hep hdg hv hrr hnn).1,if_pos (by simpa using c6)]
     have h1:Ct l=([],[],[]):=Hk h0.symm
     rw[h0,h1]
    ·subst hb5
     try simp only[Am] at c6
     refine Ai ?_
     refine Ab [] [2,3] ?_
     refine Ag ?_
     refine RK wR [(.agg [(.str ep),(.str v),(.str rl)]),(.int .i64 0)] ?_
     have hf:=Q6 hh hr hep hdg hv hrr hnn
     have h0:Cj l=0:=by rw[hf.1,if_neg (by simpa using c6)]
     exact Same.of_eq (by simp only[Ak];rw[Q2u h0.symm,hf.2,h0])
end Sv
end
section
open Go Go.RowKit
namespace Sv
attribute [local irreducible] SW SO Bs
set_option maxHeartbeats 1000000
set_option maxRecDepth 100000
theorem Pw (c : UInt8) :
  FnV Tryz.prog 226 [(.int .u8 ((c.toNat:Int)))] (.bool (B7 c)):=by
 refine A8 [.tmp 2] Tryz.func226 rfl Tryz.ntmps226 rfl rfl (fun B F hF=>?_)
 refine Ab [] [0] ?_
 obtain⟨b1,hb1⟩:∃b,b=(decide (97≤(c.toNat:Int))):=⟨_,rfl⟩
 obtain⟨b2,hb2⟩:∃b,b=(b1&&(decide ((c.toNat:Int)≤122))):=⟨_,rfl⟩
 obtain⟨b3,hb3⟩:∃b,b=(b2||((decide (65≤(c.toNat:Int)))&&(decide ((c.toNat:Int)≤90)))):=⟨_,rfl⟩
 refine Af (CS:=[(4,(b1=true→b1=true)),(5,(b1=true→b1=true)),(8,((!b2)=true→(!b2)=true)),(9,((!b2)=true→(!b2)=true)),(11,(((!b2)&&(decide (65≤(c.toNat:Int))))=true→((!b2)&&(decide (65≤(c.toNat:Int))))=true)),(12,((!b2)=true→((!b2)=true)∧((decide (65≤(c.toNat:Int)))=true→((!b2)&&(decide (65≤(c.toNat:Int))))=true))),(13,(b2=false→(!b2)=true))]) [6,7,10,11,12,13,14,15] [2] [] hk0 (vk 3 5 (a:=.bool (decide (97≤(c.toNat:Int)))) (b:=.bool b1) (Imp.of_eq (by rw[hb1]))<|vk 7 9 (a:=.bool (b1&&(decide ((c.toNat:Int)≤122)))) (b:=.bool b2) (Imp.of_eq (by rw[hb2]))<|vk 14 16 (a:=.bool (b2||((decide (65≤(c.toNat:Int)))&&(decide ((c.toNat:Int)≤90))))) (b:=.bool b3) (Imp.of_eq (by rw[hb3]))<|v0) (by refine cc _ ?_<|cc _ ?_<|cc _ ?_<|cc _ ?_<|cc _ ?_<|cc _ ?_<|cc _ ?_ c0<;>(intros;simp_all;done)) ?_
 refine Ag ?_
 refine RK wR [(.bool b3)] ?_
 subst hb3 hb2 hb1
 refine Same.of_eq ?_
 simp only[Ak]
 congr 1
 unfold B7
 rw[Bool.eq_iff_iff]
 simp only[Bool.and_eq_true,Bool.or_eq_true,decide_eq_true_eq]
 omega
theorem Kx (c : UInt8) :
  FnV Tryz.prog 227 [(.int .u8 ((c.toNat:Int)))] (.bool (Aq c)):=by
 refine A8 [.tmp 2] Tryz.func227 rfl Tryz.ntmps227 rfl rfl (fun B F hF=>?_)
 refine Ab [] [0] ?_
 obtain⟨b1,hb1⟩:∃b,b=(decide (48≤(c.toNat:Int))):=⟨_,rfl⟩
 refine Af (CS:=[(4,(b1=true→b1=true)),(5,(b1=true→b1=true))]) [6,7] [2] [] hk0 (vk 3 5 (a:=.bool (decide (48≤(c.toNat:Int)))) (b:=.bool b1) (Imp.of_eq (by rw[hb1]))<|v0) (by refine cc _ ?_<|cc _ ?_ c0<;>simp) ?_
 refine Ag ?_
 refine RK wR [(.bool (b1&&(decide ((c.toNat:Int)≤57))))] ?_
 subst hb1
 refine Same.of_eq ?_
 simp only[Ak]
 congr 1
 unfold Aq
 rw[Bool.eq_iff_iff]
 simp only[Bool.and_eq_true,Bool.or_eq_true,decide_eq_true_eq]
 omega
theorem inV (c : UInt8) (l : List UInt8) (hl : l.length ≤ 4611686018427387904) :
  FnV Tryz.prog 193 [(.int .u8 ((c.toNat:Int))),(.str l)] (.bool (l.contains c)):=by
 refine A8 [.tmp 4] Tryz.func193 rfl Tryz.ntmps193 rfl rfl (fun B F hF=>?_)
 refine Ab [] [0,1] ?_
 refine Ac ?_
 refine Ab [] [0,1,5] ?_
 refine Ay ?_
 refine Bz (fun g y=>∃(k:Nat),k≤l.length∧l.contains c=(l.drop k).contains c∧y=⟨[(0,(.int .u8 ((c.toNat:Int)))),(1,(.str l)),(5,(.int .i64 ((k:Int))))],[],0⟩∧g=l.length-k) [0,1,5] 0 _ (by omega) ⟨0,(by omega),(by rfl),(by kernel_rfl),rfl⟩ ?_
 rintro g1 y1 ⟨k,f1_1,f1_2,rfl,rfl⟩
 refine Ac ?_
 refine Ab [] [0,1,5,9] ?_
 refine A5 (p:=(k:Int) < (l.length:Int)) (by kernel_rfl) (fun c1=>?_) (fun c1=>?_)
 ·refine Ai ?_
  refine Ac ?_
  refine Ay ?_
  refine Af [] [0,1,5,16] [] hk0 v0 (cc 2 (p:=(0≤(k:Int)∧k < l.length)) (by omega)<|c0) ?_
  refine A5 (p:=((Aj l k).toNat:Int)=(c.toNat:Int)) (by kernel_rfl) (fun c2=>?_) (fun c2=>?_)
  ·refine Ab [] [4] ?_
   refine Ag ?_
   refine RK wR [(.bool true)] ?_
   exact Same.of_eq (by rw[f1_2,Ka (by omega),show Aj l k=c from UInt8.toNat_inj.1 (by omega)];simp[Ak])
  ·refine Ai ?_
   refine An ?_
   refine Au 0 [] [0,1,5] [] hk0 v0 (cc 1 (p:=(-9223372036854775808≤(k:Int)+1∧(k:Int)+1≤9223372036854775807)) (by omega)<|c0) ?_
   refine⟨by kernel_rfl,_,?_,k+1,?_,?_,(by kernel_rfl),rfl⟩
   ·omega
   ·omega
   ·rw[f1_2,Ka (by omega),List.contains_cons];have:¬c=Aj l k:=fun e=>c2 (by rw[e]);simp[this]
 ·refine Bp ?_
  refine Ab [] [4] ?_
  refine Ag ?_
  refine RK wR [(.bool false)] ?_
  exact Same.of_eq (by rw[f1_2,List.drop_of_length_le (by omega)];rfl)
theorem Q8y (l : List UInt8) (hl : l.length ≤ 4611686018427387904) :
  FnV Tryz.prog 191 [(.str l)] (.bool (l.all Gh&&(decide (1≤l.length)&&decide (l.length≤60)))):=by
 refine A8 [.tmp 2] Tryz.func191 rfl Tryz.ntmps191 rfl rfl (fun B F hF=>?_)
 refine Ab [] [0] ?_
 refine Ac ?_
 refine Ab [] [0,3] ?_
 refine Ay ?_
 refine Bz (fun g y=>∃(k:Nat),k≤l.length∧(l.take k).all Gh=true∧y=⟨[(0,(.str l)),(3,(.int .i64 ((k:Int))))],[],0⟩∧g=l.length-k) [0,3] 0 _ (by omega) ⟨0,(by omega),(by rfl),(by kernel_rfl),rfl⟩ ?_
 rintro g1 y1 ⟨k,f1_1,f1_2,rfl,rfl⟩
 refine Ac ?_
 refine Ab [] [0,3,9] ?_
 refine A5 (p:=(k:Int) < (l.length:Int)) (by kernel_rfl) (fun c1=>?_) (fun c1=>?_)
 ·refine Ai ?_
  refine Ac ?_
  refine Ay ?_
  refine Af [] [0,3,4] [] (hk 3 Rh (Pw (Aj l k))<|hk0) v0 (cc 2 (p:=(0≤(k:Int)∧k < l.length)) (by omega)<|c0) ?_
  refine Af [] [0,3,4,5] [] (hk 3 Lg (Kx (Aj l k))<|hk0) v0 (cc 2 (p:=(0≤(k:Int)∧k < l.length)) (by omega)<|c0) ?_
  obtain⟨b1,hb1⟩:∃b,b=(!(B7 (Aj l k))):=⟨_,rfl⟩
  obtain⟨b2,hb2⟩:∃b,b=(b1&&(!(Aq (Aj l k)))):=⟨_,rfl⟩
  refine Af (CS:=[(4,(b1=true→b1=true)),(5,(b1=true→b1=true)),(9,(b2=true→(b2=true∧b2=true)∧(0≤(k:Int)∧k < l.length))),(10,b2=true→b2=true),(11,(b2=true→b2=true)),(12,(b2=true→b2=true))]) [23,24,27,28,29,31] [0,3,32] [] (hkg 10 b2 Q3p (fun cg=>inV (Aj l k) midL (by decide))<|hk0) (vk 3 22 (a:=.bool (!(B7 (Aj l k)))) (b:=.bool b1) (Imp.of_eq (by rw[hb1]))<|vk 7 26 (a:=.bool (b1&&(!(Aq (Aj l k))))) (b:=.bool b2) (Imp.of_eq (by rw[hb2]))<|v0) (by refine cc _ ?_<|cc _ ?_<|cc _ ?_<|cc _ ?_<|cc _ ?_<|cc _ ?_ c0<;>(intros;simp_all;done)) ?_
  refine Bd (q:=b2&&(!(midL.contains (Aj l k)))) (by kernel_rfl) (fun c2=>?_) (fun c2=>?_)
  ·subst hb2 hb1
   try simp only[Am] at c2
   refine Ab [] [2] ?_
   refine Ag ?_
   refine RK wR [(.bool false)] ?_
   exact Same.of_eq (by simp only[Ak];rw[Q5u (p:=Gh) (k:=k) (by omega) (by show(Aq _||(B7 _||_))=false;simp_all)];rfl)
  ·subst hb2 hb1
   try simp only[Am] at c2
   refine Ai ?_
   refine An ?_
   refine Au 0 [] [0,3] [] hk0 v0 (cc 1 (p:=(-9223372036854775808≤(k:Int)+1∧(k:Int)+1≤9223372036854775807)) (by omega)<|c0) ?_
   refine⟨by kernel_rfl,_,?_,k+1,?_,?_,(by kernel_rfl),rfl⟩
   ·omega
   ·omega
   ·refine Q5s (by omega) f1_2 ?_
    show(Aq _||(B7 _||_))=true;simp only[Bool.or_eq_true];by_cases a1:Aq (Aj l k)=true<;>by_cases a2:B7 (Aj l k)=true<;>simp_all
 ·refine Bp ?_
  obtain⟨b3,hb3⟩:∃b,b=(decide (1≤(l.length:Int))):=⟨_,rfl⟩
  refine Af (CS:=[(5,(b3=true→b3=true)),(6,(b3=true→b3=true)),(7,(b3=true→b3=true))]) [37,38,39] [2] [] hk0 (vk 4 36 (a:=.bool (decide (1≤(l.length:Int)))) (b:=.bool b3) (Imp.of_eq (by rw[hb3]))<|v0) (by refine cc _ ?_<|cc _ ?_<|cc _ ?_ c0<;>simp) ?_
  refine Ag ?_
  refine RK wR [(.bool (b3&&(decide ((l.length:Int)≤60))))] ?_
  subst hb3
  have hall:l.all Gh=true:=by rw[List.take_of_length_le (by omega)] at f1_2;exact f1_2
  exact Same.of_eq (by simp only[Ak];rw[hall,show decide ((1:Int)≤(l.length:Int))=decide (1≤l.length) from decide_eq_decide.2 (by omega),show decide ((l.length:Int)≤60)=decide (l.length≤60) from decide_eq_decide.2 (by omega)];rfl)
theorem Q9e (l : List UInt8) (hl : l.length ≤ 4611686018427387904) :
  FnV Tryz.prog 192 [(.str l)] (.bool (Gk l)):=by
 refine A8 [.tmp 2] Tryz.func192 rfl Tryz.ntmps192 rfl rfl (fun B F hF=>?_)
 refine Ab [] [0] ?_
 refine Ac ?_
 refine Ab [] [0,3] ?_
 refine Ay ?_
 refine Bz (fun g y=>∃(k:Nat),k≤l.length∧(l.take k).all Iw=true∧y=⟨[(0,(.str l)),(3,(.int .i64 ((k:Int))))],[],0⟩∧g=l.length-k) [0,3] 0 _ (by omega) ⟨0,(by omega),(by rfl),(by kernel_rfl),rfl⟩ ?_
 rintro g1 y1 ⟨k,f1_1,f1_2,rfl,rfl⟩
 refine Ac ?_
 refine Ab [] [0,3,8] ?_
 refine A5 (p:=(k:Int) < (l.length:Int)) (by kernel_rfl) (fun c1=>?_) (fun c1=>?_)
 ·refine Ai ?_
  refine Ac ?_
  refine Ay ?_
  refine Af [] [0,3,4] [] (hk 3 Lg (Kx (Aj l k))<|hk0) v0 (cc 2 (p:=(0≤(k:Int)∧k < l.length)) (by omega)<|c0) ?_
  refine Ab [] [0,3,16] ?_
  refine Bd (q:=!(Aq (Aj l k))) (by kernel_rfl) (fun c2=>?_) (fun c2=>?_)
  ·try simp only[Am] at c2
   refine Ab [] [2] ?_
   refine Ag ?_
   refine RK wR [(.bool false)] ?_
   exact Same.of_eq (by simp only[Ak];unfold Gk;rw[Q5u (p:=Iw) (k:=k) (by omega) (by show Aq _=false;simp_all)];rfl)
  ·try simp only[Am] at c2
   refine Ai ?_
   refine An ?_
   refine Au 0 [] [0,3] [] hk0 v0 (cc 1 (p:=(-9223372036854775808≤(k:Int)+1∧(k:Int)+1≤9223372036854775807)) (by omega)<|c0) ?_
   refine⟨by kernel_rfl,_,?_,k+1,?_,?_,(by kernel_rfl),rfl⟩
   ·omega
   ·omega
   ·refine Q5s (by omega) f1_2 ?_
    show Aq _=true;simp_all
 ·refine Bp ?_
  obtain⟨b1,hb1⟩:∃b,b=(decide (1≤(l.length:Int))):=⟨_,rfl⟩
  refine Af (CS:=[(5,(b1=true→b1=true)),(6,(b1=true→b1=true)),(7,(b1=true→b1=true))]) [21,22,23] [2] [] hk0 (vk 4 20 (a:=.bool (decide (1≤(l.length:Int)))) (b:=.bool b1) (Imp.of_eq (by rw[hb1]))<|v0) (by refine cc _ ?_<|cc _ ?_<|cc _ ?_ c0<;>simp) ?_
  refine Ag ?_
  refine RK wR [(.bool (b1&&(decide ((l.length:Int)≤9))))] ?_
  subst hb1
  have hall:l.all Iw=true:=by rw[List.take_of_length_le (by omega)] at f1_2;exact f1_2
  exact Same.of_eq (by simp only[Ak];unfold Gk;rw[hall,show decide ((1:Int)≤(l.length:Int))=decide (1≤l.length) from decide_eq_decide.2 (by omega),show decide ((l.length:Int)≤9)=decide (l.length≤9) from decide_eq_decide.2 (by omega)];rfl)
theorem P0 (l : List UInt8) (hl : l.length ≤ 4611686018427387904) :
  FnV Tryz.prog 153 [(.str l)] (.tup [.agg [.str (Ct l).1,.str (Ct l).2.1,.str (Ct l).2.2],.int .i64 (Cj l)]):=by
 refine A8 [.cell 2 150,.tmp 3] Tryz.func153 rfl Tryz.ntmps153 rfl rfl (fun B F hF=>?_)
 refine Ab [] [0,2] ?_
 refine Af [] [0,2,4] [] (hk 1 X5a (Q8y l hl)<|hk0) v0 c0 ?_
 refine Ac ?_
 refine Ab [] [0,2,12] ?_
 refine Bd (q:=!(Il l)) (by kernel_rfl) (fun c1=>?_) (fun c1=>?_)
 ·try simp only[Am] at c1
  refine Ab [] [2,3] ?_
  refine Ag ?_
  refine RK wR [(.agg [(.str []),(.str []),(.str [])]),(.int .i64 30)] ?_
  refine Same.of_eq ?_
  simp only[Ak]
  have h0:Cj l=30:=Q2w (by simpa using c1)
  have h1:Ct l=([],[],[]):=Hk h0.symm
  rw[h0,h1]
 ·try simp only[Am] at c1
  have hh:Il l=true:=by simpa using c1
  refine Ai ?_
  refine Ab [] [0,2,5] ?_
  refine Dm (fun y=>∃(r:List UInt8) (ep:List UInt8),r=(if 0≤Lib.indexByte l 58 then l.drop ((Lib.indexByte l 58).toNat+1) else l)∧ep=(if 0≤Lib.indexByte l 58 then l.take (Lib.indexByte l 58).toNat else [])∧(0≤Lib.indexByte l 58→Gk (l.take (Lib.indexByte l 58).toNat)=true)∧y=⟨[(0,(.str r)),(2,(.ptr 0 0)),(5,(.ptr 1 0))],[(0,(.row [(.str []),(.str []),(.str [])] 150)),(1,(.row [(.str ep),(.str []),(.str [])] 150))],2⟩) [0,2,5] 2 (by omega) ?_ ?_
  ·refine Ab [] [0,2,5,6] ?_
   refine Ay ?_
   refine Bz (fun g y=>∃(i:Nat),i≤l.length∧I1 l 58 i∧y=⟨[(0,(.str l)),(2,(.ptr 0 0)),(5,(.ptr 1 0)),(6,(.int .i64 ((i:Int))))],[(0,(.row [(.str []),(.str []),(.str [])] 150)),(1,(.row [(.str []),(.str []),(.str [])] 150))],2⟩∧g=l.length-i) [0,2,5,6] 2 _ (by omega) ⟨0,(by omega),(by exact X25 l 58),(by kernel_rfl),rfl⟩ ?_
   rintro g1 y1 ⟨i,f1_1,f1_2,rfl,rfl⟩
   refine Ac ?_
   refine Ab [] [0,2,5,6,17] ?_
   refine A5 (p:=(i:Int) < (l.length:Int)) (by kernel_rfl) (fun c2=>?_) (fun c2=>?_)
   ·refine Ai ?_
    refine Ac ?_
    refine Ay ?_
    refine Ac ?_
    refine Af [] [0,2,5,6,23] [] hk0 v0 (cc 2 (p:=(0≤(i:Int)∧i < l.length)) (by omega)<|c0) ?_
    refine Da (p:=((Aj l i).toNat:Int)=58) (by kernel_rfl) (fun c3=>?_) (fun c3=>?_)
    ·refine Bp ?_
     refine An ?_
     refine Au 0 [] [0,2,5,6] [] hk0 v0 (cc 1 (p:=(-9223372036854775808≤(i:Int)+1∧(i:Int)+1≤9223372036854775807)) (by omega)<|c0) ?_
     refine⟨by kernel_rfl,_,?_,i+1,?_,?_,(by kernel_rfl),rfl⟩
     ·omega
     ·omega
     ·exact X24 f1_2 (by omega) (fun e=>by rw[e] at c3;simp at c3)
    ·refine Ai ?_
     refine Af [] [0,2,5,6,7] [] (hk 3 X49 (Q9e ((l.take i).drop 0) (by simp;omega))<|hk0) v0 (cc 2 (p:=(0≤(0:Int)∧(0:Int)≤(i:Int)∧(i:Int)≤(l.length:Int))) (by omega)<|c0) ?_
     refine Ac ?_
     refine Ab [] [0,2,5,6,29] ?_
     refine Bd (q:=!(Gk ((l.take i).drop 0))) (by kernel_rfl) (fun c4=>?_) (fun c4=>?_)
     ·try simp only[Am] at c4
      refine Ab [] [2,3] ?_
      refine Ag ?_
      refine RK wR [(.agg [(.str []),(.str []),(.str [])]),(.int .i64 30)] ?_
      refine Same.of_eq ?_
      simp only[Ak]
      have h0:Cj l=30:=X4a (Q1p f1_2 (by omega) (UInt8.toNat_inj.1 (by show _=58;omega))) (by simpa using c4)
      have h1:Ct l=([],[],[]):=Hk h0.symm
      rw[h0,h1]
     ·try simp only[Am] at c4
      refine Ai ?_
      refine Af [] [0,2,5,6] [] hk0 v0 (cc 2 (p:=(0≤(0:Int)∧(0:Int)≤(i:Int)∧(i:Int)≤(l.length:Int))) (by omega)<|c0) ?_
      refine Af (CS:=[(2,(-9223372036854775808≤(i:Int)+1∧(i:Int)+1≤9223372036854775807)),(3,(0≤(i:Int)+1∧(i:Int)+1≤(l.length:Int)∧(l.length:Int)≤(l.length:Int)))]) [] [0,2,5] [] hk0 v0 (by refine cc _ ?_<|cc _ ?_ c0<;>omega) ?_
      refine Bp ?_
      refine⟨by kernel_rfl,((l.take l.length).drop (i+1)),((l.take i).drop 0),?_,?_,?_,(by kernel_rfl)⟩
      all_goals have hz:Lib.indexByte l 58=(i:Int):=Q1p f1_2 (by omega) (UInt8.toNat_inj.1 (by show _=58;omega))
      all_goals rw[hz]
      ·rw[if_pos (by omega),List.take_length,Int.toNat_natCast];try (congr 1;omega)
      ·rw[if_pos (by omega),Int.toNat_natCast];simp
      ·intro _;rw[Int.toNat_natCast];simpa using c4
   ·refine Bp ?_
    refine⟨by kernel_rfl,l,[],?_,?_,?_,(by kernel_rfl)⟩
    all_goals have hz:Lib.indexByte l 58 = -1:=X26 f1_2 (by omega)
    all_goals rw[hz]
    ·rw[if_neg (by omega)]
    ·rw[if_neg (by omega)]
    ·intro h;exact absurd h (by omega)
  ·rintro y1 ⟨r,ep,hr,hep,hdg,rfl⟩
   have hrl:r.length≤l.length:=by rw[hr];split<;>simp
   refine Ab [] [0,2,5] ?_
   refine Dm (fun y=>∃(v:List UInt8) (rl:List UInt8),v=(if 0≤Ca r 45 r.length then r.take (Ca r 45 r.length).toNat else r)∧rl=(if 0≤Ca r 45 r.length then r.drop ((Ca r 45 r.length).toNat+1) else [])∧(0≤Ca r 45 r.length→¬rl=[])∧y=⟨[(0,(.str r)),(2,(.ptr 0 0)),(5,(.ptr 1 0))],[(0,(.row [(.str []),(.str []),(.str [])] 150)),(1,(.row [(.str ep),(.str v),(.str rl)] 150))],2⟩) [0,2,5] 2 (by omega) ?_ ?_
   ·refine Af [] [0,2,5,8] [] hk0 v0 (cc 2 (p:=(-9223372036854775808≤(r.length:Int)-1∧(r.length:Int)-1≤9223372036854775807)) (by omega)<|c0) ?_
    refine Ay ?_
    refine Bz (fun g y=>∃(k:Nat),k≤r.length∧Ca r 45 r.length=Ca r 45 k∧y=⟨[(0,(.str r)),(2,(.ptr 0 0)),(5,(.ptr 1 0)),(8,(.int .i64 ((k:Int)-1)))],[(0,(.row [(.str []),(.str []),(.str [])] 150)),(1,(.row [(.str ep),(.str r),(.str [])] 150))],2⟩∧g=k+1) [0,2,5,8] 2 _ (by omega) ⟨r.length,(by omega),(by rfl),(by kernel_rfl),rfl⟩ ?_
    rintro g2 y2 ⟨k,f2_1,f2_2,rfl,rfl⟩
    refine Ac ?_
    refine Ab [] [0,2,5,8,45] ?_
    refine A5 (p:=0≤((k:Int)-1)) (by kernel_rfl) (fun c5=>?_) (fun c5=>?_)
    ·refine Ai ?_
     refine Ac ?_
     refine Ay ?_
     refine Af [] [0,2,5,8,51] [] hk0 v0 (cc 2 (p:=(0≤(k:Int)-1∧((k:Int)-1).toNat < r.length)) (by omega)<|c0) ?_
     refine A5 (p:=((Aj r (((k:Int)-1).toNat)).toNat:Int)=45) (by kernel_rfl) (fun c6=>?_) (fun c6=>?_)
     ·have hk1:((k:Int)-1).toNat=k-1:=by omega
      rw[hk1] at c6
      refine Af [] [0,2,5,8] [] hk0 v0 (cc 2 (p:=(0≤(0:Int)∧(0:Int)≤(k:Int)-1∧(k:Int)-1≤(r.length:Int))) (by omega)<|c0) ?_
      refine Af (CS:=[(2,(-9223372036854775808≤((k:Int)-1)+1∧((k:Int)-1)+1≤9223372036854775807)),(3,(0≤((k:Int)-1)+1∧((k:Int)-1)+1≤(r.length:Int)∧(r.length:Int)≤(r.length:Int)))]) [] [0,2,5] [] hk0 v0 (by refine cc _ ?_<|cc _ ?_ c0<;>omega) ?_
      refine Ac ?_
      refine Ab [] [0,2,5,63] ?_
      refine A5 (p:=(r.take r.length).drop ((((k:Int)-1)+1).toNat)=[]) (by kernel_rfl) (fun c7=>?_) (fun c7=>?_)
      ·refine Ab [] [2,3] ?_
       refine Ag ?_
       refine RK wR [(.agg [(.str []),(.str []),(.str [])]),(.int .i64 30)] ?_
       refine Same.of_eq ?_
       simp only[Ak]
       have h0:Cj l=30:=by
        have hy:Ca r 45 r.length=((k-1:Nat):Int):=by rw[f2_2,Oc (by omega),if_pos (UInt8.toNat_inj.1 (by show _=45;omega))]
        exact Q2s hh hr hdg (by omega) (by rw[hy,Int.toNat_natCast,←c7];simp;congr 1;omega)
       have h1:Ct l=([],[],[]):=Hk h0.symm
       rw[h0,h1]
      ·refine Ai ?_
       refine Bp ?_
       refine⟨by kernel_rfl,((r.take (((k:Int)-1).toNat)).drop 0),((r.take r.length).drop ((((k:Int)-1)+1).toNat)),?_,?_,?_,(by kernel_rfl)⟩
       all_goals have hy:Ca r 45 r.length=((k-1:Nat):Int):=by rw[f2_2,Oc (by omega),if_pos (UInt8.toNat_inj.1 (by show _=45;omega))]
       all_goals rw[hy]
       ·rw[if_pos (by omega),Int.toNat_natCast];simp;try (congr 1;omega)
       ·rw[if_pos (by omega),Int.toNat_natCast];simp;try (congr 1;omega)
       ·exact fun _=>c7
     ·have hk1:((k:Int)-1).toNat=k-1:=by omega
      rw[hk1] at c6
      refine Ai ?_
      refine An ?_
      refine Au 0 [] [0,2,5,8] [] hk0 v0 (cc 1 (p:=(-9223372036854775808≤((k:Int)-1)-1∧((k:Int)-1)-1≤9223372036854775807)) (by omega)<|c0) ?_
      refine⟨by kernel_rfl,_,?_,(k-1),?_,?_,(Eq.trans (b:=(⟨[(0,(.str r)),(2,(.ptr 0 0)),(5,(.ptr 1 0)),(8,(.int .i64 (((k:Int)-1)-1)))],[(0,(.row [(.str []),(.str []),(.str [])] 150)),(1,(.row [(.str ep),(.str r),(.str [])] 150))],2⟩:St)) (by kernel_rfl) (by rw[show(k:Int)-1-1=((k-1:Nat):Int)-1 from by omega])),rfl⟩
      ·omega
      ·omega
      ·rw[f2_2,Oc (by omega),if_neg (fun e=>c6 (by rw[e];rfl))]
    ·refine Bp ?_
     refine⟨by kernel_rfl,r,[],?_,?_,?_,(by kernel_rfl)⟩
     all_goals have hy:Ca r 45 r.length = -1:=by rw[f2_2,show k=0 by omega];rfl
     all_goals rw[hy]
     ·rw[if_neg (by omega)]
     ·rw[if_neg (by omega)]
     ·intro h;exact absurd h (by omega)
   ·rintro y2 ⟨v,rl,hv,hrr,hnn,rfl⟩
    refine Ac ?_
    obtain⟨b1,hb1⟩:∃b,b=(decide (v=[])):=⟨_,rfl⟩
    refine Af (CS:=[(5,(!b1)=true→(!b1)=true),(6,(b1=false→(!b1)=true))]) [69] [2,5,71] [] (hkg 5 (!b1) Q3p (fun cg=>inV 58 r (by omega))<|hk0) (vk 4 68 (a:=.bool (decide (v=[]))) (b:=.bool b1) (Imp.of_eq (by rw[hb1]))<|v0) (by refine cc _ ?_<|cc _ ?_ c0<;>simp) ?_
    refine Bd (q:=b1||(r.contains 58)) (by kernel_rfl) (fun c8=>?_) (fun c8=>?_)
    ·subst hb1
     try simp only[Am] at c8
     refine Ab [] [2,3] ?_
     refine Ag ?_
     refine RK wR [(.agg [(.str []),(.str []),(.str [])]),(.int .i64 30)] ?_
     refine Same.of_eq ?_
     simp only[Ak]
     have h0:Cj l=30:=by rw[(Q6 hh hr hep hdg hv hrr hnn).1,if_pos (by simpa using c8)]
     have h1:Ct l=([],[],[]):=Hk h0.symm
     rw[h0,h1]
    ·subst hb1
     try simp only[Am] at c8
     refine Ai ?_
     refine Ab [] [2,3] ?_
     refine Ag ?_
     refine RK wR [(.agg [(.str ep),(.str v),(.str rl)]),(.int .i64 0)] ?_
     have hf:=Q6 hh hr hep hdg hv hrr hnn
     have h0:Cj l=0:=by rw[hf.1,if_neg (by simpa using c8)]
     exact Same.of_eq (by simp only[Ak];rw[Q2u h0.symm,hf.2,h0])
end Sv
end
section
open Go Go.RowKit
structure PkgT where
  name:List UInt8
  evr:List UInt8
  arch:List UInt8
  vendor:List UInt8
  provides:List DepT
  requires:List DepT
  pre:List DepT
  conflicts:List DepT
  obsoletes:List DepT
  recommends:List DepT
  supplements:List DepT
  files:List (List UInt8)
  deriving Inhabited
structure RepoT where
  name:List UInt8
  prio:Int
  inst:Bool
  pkgs:List PkgT
  deriving Inhabited
def PkgT.depSize (p:PkgT):Nat:=argsSize p.provides+argsSize p.requires+argsSize p.pre+argsSize p.conflicts+argsSize p.obsoletes+argsSize p.recommends+argsSize p.supplements
def Hj:List (List UInt8)→Nat
  |[]=>0
  |x::r=>1+x.length+Hj r
theorem J7:∀l:List (List UInt8),l.length≤Hj l
  |[]=>Nat.zero_le _
  |x::r=>by have:=J7 r;simp only[Hj,List.length_cons];omega
theorem Uz:∀{l:List (List UInt8)} {i:Nat},i < l.length→(nth l i).length≤Hj l
  |[],_,h=>by simp at h
  |x::r,0,_=>by simp only[Hj];show x.length≤_;omega
  |x::r,i+1,h=>by
    have:=Uz (l:=r) (i:=i) (by simpa using h)
    simp only[Hj];show(nth r i).length≤_;omega
def PkgT.size (p:PkgT):Nat:=1+p.name.length+p.evr.length+p.arch.length+p.vendor.length+p.depSize+Hj p.files
theorem PkgT.sizes (p:PkgT):p.name.length≤p.size∧p.evr.length≤p.size∧p.arch.length≤p.size∧p.vendor.length≤p.size∧p.depSize≤p.size∧Hj p.files≤p.size:=by
  unfold PkgT.size;omega
namespace Sv
noncomputable def Av (p:PkgT):AV:=.agg [.str p.name,.str p.evr,.str p.arch,.str p.vendor,D4 p.provides,D4 p.requires,D4 p.pre,D4 p.conflicts,D4 p.obsoletes,D4 p.recommends,D4 p.supplements,Di p.files]
noncomputable def Bm (r:RepoT):AV:=.agg [.str r.name,.int .i64 r.prio,.bool r.inst,Ae 12 Av r.pkgs]
theorem Q77 {α β:Type} [Inhabited α] (f:α→β) (l:List α) (i:Nat):(l.map f).set i (f (nth l i))=l.map f:=by
  refine List.ext_getElem? fun j=>?_
  rw[List.getElem?_set]
  by_cases h:i=j
  · subst h
    by_cases hi:i < l.length
    · simp[hi,nth]
    · rw[if_pos rfl,if_neg (by simpa using hi),List.getElem?_eq_none (by simpa using hi)]
  · rw[if_neg h]
theorem Mm {α β:Type} [Inhabited α] (f:α→β) {l:List α} {i:Nat} (h:i < l.length):(l.map f)[i]? = some (f (nth l i)):=by simp[nth,h]
theorem El (d:DepT):argsSize d.args+1+d.name.length+d.evr.length=d.size:=by cases d;simp only[DepT.size,DepT.args,DepT.name,DepT.evr]
theorem Dw:∀l:List DepT,l.length≤argsSize l
  |[]=>Nat.zero_le _
  |d::r=>by
    have:=Dw r
    have:1≤d.size:=by cases d;simp only[DepT.size];omega
    simp only[argsSize,List.length_cons];omega
theorem Q5f {l:List DepT} {i:Nat} (h:i < l.length):argsSize (nth l i).args < argsSize l:=by
  have h1:=Ke (l:=l) (i:=i) h
  have h2:=El (nth l i)
  omega
theorem Ky {α β:Type} [Inhabited α] {l:List α} (f:α→β):(List.range l.length).map (fun k=>f (nth l k))=l.map f:=by
  refine List.ext_getElem (by simp) fun j h1 h2=>?_
  simp only[List.length_map,List.length_range] at h1
  simp[nth,h1]
theorem X0g {α:Type} [Inhabited α] (f:α→AV) (l:List α):([]:List AV)++(List.range l.length).map (fun k=>f (nth l k))=l.map f:=by rw[List.nil_append,Ky]
end Sv
end
section
open Go Go.RowKit
namespace Sv
attribute [local irreducible] SW SO Bs
set_option maxHeartbeats 1000000
set_option maxRecDepth 100000
def B8 {α:Type} (p:α→Bool):List α→Int
 |[] => -1
 |x::r=>if p x then 0 else if B8 p r < 0 then -1 else B8 p r+1
theorem La {α:Type} (p:α→Bool):∀l:List α,-1≤B8 p l∧B8 p l < l.length
 |[]=>by simp[B8]
 |x::r=>by
  have:=La p r
  unfold B8
  simp only[List.length_cons]
  split
  ·omega
  ·split<;>omega
theorem J5 {α:Type} [Inhabited α] {p:α→Bool}:∀{l:List α} {i:Nat},i < l.length→(∀j,j < i→p (nth l j)=false)→p (nth l i)=true→B8 p l=(i:Int)
 |[],_,h,_,_=>by simp at h
 |x::r,0,_,_,h=>by
  have:p x=true:=h
  simp[B8,this]
 |x::r,i+1,hi,h,hp=>by
  have h0:p x=false:=h 0 (by omega)
  have:=J5 (l:=r) (i:=i) (by simpa using hi) (fun j hj=>h (j+1) (by omega)) hp
  unfold B8
  rw[if_neg (by simp[h0]),this,if_neg (by omega)];omega
theorem J4 {α:Type} [Inhabited α] {p:α→Bool}:∀{l:List α},(∀j,j < l.length→p (nth l j)=false)→B8 p l = -1
 |[],_=>rfl
 |x::r,h=>by
  have h0:p x=false:=h 0 (by simp)
  have:=J4 (l:=r) (fun j hj=>h (j+1) (by simpa using hj))
  unfold B8
  rw[if_neg (by simp[h0]),this];rfl
theorem Lb {α:Type} (p:α→Bool):∀l:List α,decide (0≤B8 p l)=l.any p
 |[]=>rfl
 |x::r=>by
  have:=Lb p r
  unfold B8
  rw[List.any_cons,←this]
  split
  ·rename_i h;simp[h]
  ·rename_i h
   have h':p x=false:=by simpa using h
   rw[h',Bool.false_or]
   split
   ·rename_i h2;rw[decide_eq_false (by omega),decide_eq_false (by omega)]
   ·rename_i h2;rw[decide_eq_true (by omega),decide_eq_true (by omega)]
theorem Q0 {d:DepT} (h:d.kind=1):Cq d=Iq d.name d.op d.evr d.args.length:=by cases d;unfold Cq;exact if_pos h
theorem Jf {d:DepT} (h:¬d.kind=1):Cq d=(!Gj d.kind d.name d.op d.evr d.args.length&&argsForm d.kind d.args):=by cases d;unfold Cq;exact if_neg h
theorem X0d {d:DepT} (h:d.kind=1):Es d=1:=by cases d;unfold Es;exact if_pos h
theorem X0e {d:DepT} (h:¬d.kind=1):Es d=argsParts d.args:=by cases d;unfold Es;exact if_neg h
theorem X1q (d:DepT):E7 d=(if d.kind=1 then 1 else 0)+argsNames d.args:=by cases d;unfold E7;rfl
theorem X1w (k:Int):(B6 [((4:Int),(3:Int)),(6,2)] k).getD 0=E8 k:=by
 have:=X1v k
 have e:Eh (Eh ([]:List (Int × Int)) 4 3) 6 2=[(4,3),(6,2)]:=rfl
 rw[e] at this
 cases h:B6 [((4:Int),(3:Int)),(6,2)] k<;>simp_all
theorem Vm (l : List DepT) (a : AV) (p : DepT → Bool) (hl : l.length ≤ 4611686018427387904) (ha : ∀ i, i < l.length → FunV Tryz.prog a [(.agg [(.int .i64 ((nth l i).kind)), (.str ((nth l i).name)), (.int .i64 ((nth l i).op)), (.str ((nth l i).evr)), (.row 5 (nth l i).args.length (depAt (nth l i).args))])] (.bool (p (nth l i)))) :
  FnV Tryz.prog 133 [(Ae 5 Ao l),(.clo a)] (.int .i64 (B8 p l)):=by
 refine A8 [.tmp 4] Tryz.func133 rfl Tryz.ntmps133 rfl rfl (fun B F hF=>?_)
 refine Ab [] [0,1] ?_
 refine Ac ?_
 refine Ab [] [0,1,7,8] ?_
 refine Ay ?_
 refine Bz (fun g y=>∃(i:Nat),i≤l.length∧(∀j,j < i→p (nth l j)=false)∧y=⟨[(0,(Ae 5 Ao l)),(1,(.clo a)),(7,(.int .i64 ((l.length:Int)))),(8,(.int .i64 ((i:Int))))],[],0⟩∧g=l.length-i) [0,1,7,8] 0 _ (by omega) ⟨0,(by omega),(by exact fun j hj=>by omega),(by kernel_rfl),rfl⟩ ?_
 rintro g1 y1 ⟨i,f1_1,f1_2,rfl,rfl⟩
 refine Ab [] [0,1,7,8,9] ?_
 refine Ac ?_
 refine A5 (p:=(i:Int) < (l.length:Int)) (by kernel_rfl) (fun c1=>?_) (fun c1=>?_)
 ·refine Ai ?_
  refine Ac ?_
  refine Ay ?_
  refine Ab [] [0,1,5,7,8] ?_
  refine Ac ?_
  refine An ?_
  refine B2 5 0 [] [0,1,5,7,8,11,15] [] hk0 v0 (cc 3 (p:=(0≤(i:Int)∧i < l.length)) (by omega)<|c0) ?_
  refine F9 (s':=[(0,(Ae 5 Ao l)),(1,(.clo a)),(5,(.int .i64 ((i:Int)))),(7,(.int .i64 ((l.length:Int)))),(8,(.int .i64 ((i:Int)))),(11,(.clo a)),(15,(.agg [(.int .i64 ((nth l i).kind)),(.str ((nth l i).name)),(.int .i64 ((nth l i).op)),(.str ((nth l i).evr)),(.row 5 (nth l i).args.length (depAt (nth l i).args))])),(16,(.bool (p (nth l i))))]) (a:=(.clo a)) (al:=[(.agg [(.int .i64 ((nth l i).kind)),(.str ((nth l i).name)),(.int .i64 ((nth l i).op)),(.str ((nth l i).evr)),(.row 5 (nth l i).args.length (depAt (nth l i).args))])]) (r:=(.bool (p (nth l i)))) (by kernel_rfl) (by kernel_rfl) (by kernel_rfl) (by kernel_rfl) (by kernel_rfl) ((ha i (by omega)).clo) (by kernel_rfl) ?_
  refine Cd ?_
  refine Bd (q:=p (nth l i)) (by kernel_rfl) (fun c2=>?_) (fun c2=>?_)
  ·try simp only[Am] at c2
   refine Ab [] [4] ?_
   refine Ag ?_
   refine RK wR [(.int .i64 ((i:Int)))] ?_
   exact Same.of_eq (by rw[J5 (by omega) f1_2 (by simp_all)];rfl)
  ·try simp only[Am] at c2
   refine Ai ?_
   refine An ?_
   refine Au 0 [] [0,1,7,8] [] hk0 v0 (cc 0 (p:=(-9223372036854775808≤(i:Int)+1∧(i:Int)+1≤9223372036854775807)) (by omega)<|c0) ?_
   refine⟨by kernel_rfl,_,?_,i+1,?_,?_,(by kernel_rfl),rfl⟩
   ·omega
   ·omega
   ·intro j hj
    by_cases h:j=i
    ·subst h;simp_all
    ·exact f1_2 j (by omega)
 ·refine Bp ?_
  refine Ab [] [4] ?_
  refine Ag ?_
  refine RK wR [(.int .i64 (-1))] ?_
  exact Same.of_eq (by rw[J4 (fun j hj=>f1_2 j (by omega))];rfl)
theorem Rq (l : List DepT) (a : AV) (p : DepT → Bool) (hl : l.length ≤ 4611686018427387904) (ha : ∀ i, i < l.length → FunV Tryz.prog a [(.agg [(.int .i64 ((nth l i).kind)), (.str ((nth l i).name)), (.int .i64 ((nth l i).op)), (.str ((nth l i).evr)), (.row 5 (nth l i).args.length (depAt (nth l i).args))])] (.bool (p (nth l i)))) :
  FnV Tryz.prog 88 [(Ae 5 Ao l),(.clo a)] (.bool (l.any p)):=by
 refine A8 [.tmp 4] Tryz.func88 rfl Tryz.ntmps88 rfl rfl (fun B F hF=>?_)
 refine Ab [] [0,1] ?_
 refine Af [] [4] [] (hk 2 Vh (Vm l a p hl ha)<|hk0) v0 c0 ?_
 refine Ag ?_
 refine RK wR [(.bool (decide (0≤(B8 p l))))] ?_
 exact Same.of_eq (by simp only[Ak];rw[Lb])
theorem X3q (a d : DepT) (ih : FnV Tryz.prog 148 [Ao a] (.bool (Cq a))) :
  FnV Tryz.prog 190 [(.agg [(.int .i64 a.kind),(.str a.name),(.int .i64 a.op),(.str a.evr),(.row 5 a.args.length (depAt a.args))]),(.fp (.agg [(.int .i64 d.kind),(.str d.name),(.int .i64 d.op),(.str d.evr),(.row 5 d.args.length (depAt d.args))]))] (.bool (Mp d.kind a)):=by
 refine A8 [.tmp 3] Tryz.func190 rfl Tryz.ntmps190 rfl rfl (fun B F hF=>?_)
 refine Af [] [1,2] [(1,2)] hk0 v0 c0 ?_
 obtain⟨b1,hb1⟩:∃b,b=(decide (a.kind=1)):=⟨_,rfl⟩
 obtain⟨b2,hb2⟩:∃b,b=(b1||(decide (a.kind=5))):=⟨_,rfl⟩
 refine Af (CS:=[(5,((!b1)=true→(!b1)=true)),(6,((!b1)=true→(!b1)=true)),(7,(b1=false→(!b1)=true)),(10,((!b2)=true→(!b2)=true)),(11,((!b2)=true→(!b2)=true)),(12,(b2=false→(!b2)=true))]) [9,10,11,14,15,16] [1,2,4] [] hk0 (vk 4 8 (a:=.bool (decide (a.kind=1))) (b:=.bool b1) (Imp.of_eq (by rw[hb1]))<|vk 9 13 (a:=.bool (b1||(decide (a.kind=5)))) (b:=.bool b2) (Imp.of_eq (by rw[hb2]))<|v0) (by refine cc _ ?_<|cc _ ?_<|cc _ ?_<|cc _ ?_<|cc _ ?_<|cc _ ?_ c0<;>simp) ?_
 obtain⟨b3,hb3⟩:∃b,b=(decide (5≤d.kind)):=⟨_,rfl⟩
 obtain⟨b4,hb4⟩:∃b,b=(b3&&(!(b2||(decide (a.kind=6))))):=⟨_,rfl⟩
 refine Af (CS:=[(5,(b3=true→b3=true)),(6,(b3=true→b3=true)),(9,(!b4)=true→(!b4)=true),(10,((!b4)=true→(!b4)=true)),(11,(b4=false→(!b4)=true))]) [22,23,26,28] [3] [] (hkg 9 (!b4) Q3w (fun cg=>ih)<|hk0) (vk 4 21 (a:=.bool (decide (5≤d.kind))) (b:=.bool b3) (Imp.of_eq (by rw[hb3]))<|vk 8 25 (a:=.bool (b3&&(!(b2||(decide (a.kind=6)))))) (b:=.bool b4) (Imp.of_eq (by rw[hb4]))<|v0) (by refine cc _ ?_<|cc _ ?_<|cc _ ?_<|cc _ ?_<|cc _ ?_ c0<;>simp) ?_
 refine Ag ?_
 refine RK wR [(.bool (b4||(!(Cq a))))] ?_
 subst hb4 hb3 hb2 hb1
 refine Same.of_eq ?_
 simp only[Ak]
 congr 1
 unfold Mp Ik
 rw[Bool.eq_iff_iff]
 simp only[Bool.and_eq_true,Bool.or_eq_true,Bool.not_eq_true',Bool.and_eq_false_iff,Bool.or_eq_false_iff,decide_eq_true_eq,decide_eq_false_iff_not]
 cases Cq a<;>simp<;>omega
theorem X3t (d : DepT) (hs : d.size ≤ 4194304) (ih : ∀ i, i < d.args.length → FnV Tryz.prog 148 [Ao (nth d.args i)] (.bool (Cq (nth d.args i)))) :
  FnV Tryz.prog 148 [(.agg [(.int .i64 d.kind),(.str d.name),(.int .i64 d.op),(.str d.evr),(.row 5 d.args.length (depAt d.args))])] (.bool (Cq d)):=by
 have hda:=El d
 have hal:=Dw d.args
 refine A8 [.tmp 2] Tryz.func148 rfl Tryz.ntmps148 rfl rfl (fun B F hF=>?_)
 refine Af [] [1] [(1,1)] hk0 v0 c0 ?_
 refine Ac ?_
 refine Ab [] [1,8] ?_
 refine A5 (p:=d.kind=1) (by kernel_rfl) (fun c1=>?_) (fun c1=>?_)
 ·refine Af [] [1,4] [(8,3)] (hk 2 Ou (Q7 d.evr (by omega))<|hk0) v0 c0 ?_
  obtain⟨b1,hb1⟩:∃b,b=((B1 d.name)&&(decide ((d.args.length:Int)=0))):=⟨_,rfl⟩
  obtain⟨b2,hb2⟩:∃b,b=(b1&&(((decide (d.op=0))&&(decide (d.evr=[])))||(((decide (1≤d.op))&&(decide (d.op≤7)))&&(decide ((Cj d.evr)=0))))):=⟨_,rfl⟩
  have qh1:(((B1 d.name)=true→(B1 d.name)=true))∧(((B1 d.name)=true→(B1 d.name)=true))∧(((B1 d.name)=true→(B1 d.name)=true))∧(((B1 d.name)=true→(B1 d.name)=true))∧((b1=true→b1=true))∧((b1=true→b1=true))∧((b1=true→b1=true))∧(((b1&&(decide (d.op=0)))=true→(b1&&(decide (d.op=0)))=true))∧(((b1&&(decide (d.op=0)))=true→(b1&&(decide (d.op=0)))=true))∧((b1=true→(b1=true)∧((decide (d.op=0))=true→(b1&&(decide (d.op=0)))=true)))∧((b1=true→b1=true))∧(((b1&&(!((decide (d.op=0))&&(decide (d.evr=[])))))=true→(b1&&(!((decide (d.op=0))&&(decide (d.evr=[])))))=true))∧(((b1&&(!((decide (d.op=0))&&(decide (d.evr=[])))))=true→(b1&&(!((decide (d.op=0))&&(decide (d.evr=[])))))=true))∧(((b1&&(!((decide (d.op=0))&&(decide (d.evr=[])))))=true→(b1&&(!((decide (d.op=0))&&(decide (d.evr=[])))))=true))∧((((b1&&(!((decide (d.op=0))&&(decide (d.evr=[])))))&&(decide (1≤d.op)))=true→((b1&&(!((decide (d.op=0))&&(decide (d.evr=[])))))&&(decide (1≤d.op)))=true))∧((((b1&&(!((decide (d.op=0))&&(decide (d.evr=[])))))&&(decide (1≤d.op)))=true→((b1&&(!((decide (d.op=0))&&(decide (d.evr=[])))))&&(decide (1≤d.op)))=true))∧(((b1&&(!((decide (d.op=0))&&(decide (d.evr=[])))))=true→((b1&&(!((decide (d.op=0))&&(decide (d.evr=[])))))=true)∧((decide (1≤d.op))=true→((b1&&(!((decide (d.op=0))&&(decide (d.evr=[])))))&&(decide (1≤d.op)))=true)))∧(((b1&&(!((decide (d.op=0))&&(decide (d.evr=[])))))=true→(b1&&(!((decide (d.op=0))&&(decide (d.evr=[])))))=true))∧((((b1&&(!((decide (d.op=0))&&(decide (d.evr=[])))))&&((decide (1≤d.op))&&(decide (d.op≤7))))=true→((b1&&(!((decide (d.op=0))&&(decide (d.evr=[])))))&&((decide (1≤d.op))&&(decide (d.op≤7))))=true))∧(((b1&&(!((decide (d.op=0))&&(decide (d.evr=[])))))=true→((b1&&(!((decide (d.op=0))&&(decide (d.evr=[])))))=true)∧(((decide (1≤d.op))&&(decide (d.op≤7)))=true→((b1&&(!((decide (d.op=0))&&(decide (d.evr=[])))))&&((decide (1≤d.op))&&(decide (d.op≤7))))=true)))∧((b1=true→(b1=true)∧(((decide (d.op=0))&&(decide (d.evr=[])))=false→(b1&&(!((decide (d.op=0))&&(decide (d.evr=[])))))=true)))∧((b1=true→b1=true)):=by
   first|omega|(simp;omega)|(simp;done)|(intros;simp_all;omega)|(intros;simp_all;done)|(intros;simp_all;by_cases h:d.op=0<;>simp_all)
  refine Af [19,20,21,22,25,26,27,28,29,30,31,32,33,34,35,36,37,38,39,40,41,42,43,44,45,46] [2] [] (hk 2 Os (Sg d.name (by omega))<|hk0) (vk 9 23 (a:=.bool ((B1 d.name)&&(decide ((d.args.length:Int)=0)))) (b:=.bool b1) (Imp.of_eq (by rw[hb1]))<|vk 33 47 (a:=.bool (b1&&(((decide (d.op=0))&&(decide (d.evr=[])))||(((decide (1≤d.op))&&(decide (d.op≤7)))&&(decide ((Cj d.evr)=0)))))) (b:=.bool b2) (Imp.of_eq (by rw[hb2]))<|v0) (cc 5 (p:=((B1 d.name)=true→(B1 d.name)=true)) qh1.1<|cc 6 (p:=((B1 d.name)=true→(B1 d.name)=true)) qh1.2.1<|cc 7 (p:=((B1 d.name)=true→(B1 d.name)=true)) qh1.2.2.1<|cc 8 (p:=((B1 d.name)=true→(B1 d.name)=true)) qh1.2.2.2.1<|cc 11 (p:=(b1=true→b1=true)) qh1.2.2.2.2.1<|cc 12 (p:=(b1=true→b1=true)) qh1.2.2.2.2.2.1<|cc 13 (p:=(b1=true→b1=true)) qh1.2.2.2.2.2.2.1<|cc 15 (p:=((b1&&(decide (d.op=0)))=true→(b1&&(decide (d.op=0)))=true)) qh1.2.2.2.2.2.2.2.1<|cc 16 (p:=((b1&&(decide (d.op=0)))=true→(b1&&(decide (d.op=0)))=true)) qh1.2.2.2.2.2.2.2.2.1<|cc 17 (p:=(b1=true→(b1=true)∧((decide (d.op=0))=true→(b1&&(decide (d.op=0)))=true))) qh1.2.2.2.2.2.2.2.2.2.1<|cc 18 (p:=(b1=true→b1=true)) qh1.2.2.2.2.2.2.2.2.2.2.1<|cc 20 (p:=((b1&&(!((decide (d.op=0))&&(decide (d.evr=[])))))=true→(b1&&(!((decide (d.op=0))&&(decide (d.evr=[])))))=true)) qh1.2.2.2.2.2.2.2.2.2.2.2.1<|cc 21 (p:=((b1&&(!((decide (d.op=0))&&(decide (d.evr=[])))))=true→(b1&&(!((decide (d.op=0))&&(decide (d.evr=[])))))=true)) qh1.2.2.2.2.2.2.2.2.2.2.2.2.1<|cc 22 (p:=((b1&&(!((decide (d.op=0))&&(decide (d.evr=[])))))=true→(b1&&(!((decide (d.op=0))&&(decide (d.evr=[])))))=true)) qh1.2.2.2.2.2.2.2.2.2.2.2.2.2.1<|cc 24 (p:=(((b1&&(!((decide (d.op=0))&&(decide (d.evr=[])))))&&(decide (1≤d.op)))=true→((b1&&(!((decide (d.op=0))&&(decide (d.evr=[])))))&&(decide (1≤d.op)))=true)) qh1.2.2.2.2.2.2.2.2.2.2.2.2.2.2.1<|cc 25 (p:=(((b1&&(!((decide (d.op=0))&&(decide (d.evr=[])))))&&(decide (1≤d.op)))=true→((b1&&(!((decide (d.op=0))&&(decide (d.evr=[])))))&&(decide (1≤d.op)))=true)) qh1.2.2.2.2.2.2.2.2.2.2.2.2.2.2.2.1<|cc 26 (p:=((b1&&(!((decide (d.op=0))&&(decide (d.evr=[])))))=true→((b1&&(!((decide (d.op=0))&&(decide (d.evr=[])))))=true)∧((decide (1≤d.op))=true→((b1&&(!((decide (d.op=0))&&(decide (d.evr=[])))))&&(decide (1≤d.op)))=true))) qh1.2.2.2.2.2.2.2.2.2.2.2.2.2.2.2.2.1<|cc 27 (p:=((b1&&(!((decide (d.op=0))&&(decide (d.evr=[])))))=true→(b1&&(!((decide (d.op=0))&&(decide (d.evr=[])))))=true)) qh1.2.2.2.2.2.2.2.2.2.2.2.2.2.2.2.2.2.1<|cc 29 (p:=(((b1&&(!((decide (d.op=0))&&(decide (d.evr=[])))))&&((decide (1≤d.op))&&(decide (d.op≤7))))=true→((b1&&(!((decide (d.op=0))&&(decide (d.evr=[])))))&&((decide (1≤d.op))&&(decide (d.op≤7))))=true)) qh1.2.2.2.2.2.2.2.2.2.2.2.2.2.2.2.2.2.2.1<|cc 30 (p:=((b1&&(!((decide (d.op=0))&&(decide (d.evr=[])))))=true→((b1&&(!((decide (d.op=0))&&(decide (d.evr=[])))))=true)∧(((decide (1≤d.op))&&(decide (d.op≤7)))=true→((b1&&(!((decide (d.op=0))&&(decide (d.evr=[])))))&&((decide (1≤d.op))&&(decide (d.op≤7))))=true))) qh1.2.2.2.2.2.2.2.2.2.2.2.2.2.2.2.2.2.2.2.1<|cc 31 (p:=(b1=true→(b1=true)∧(((decide (d.op=0))&&(decide (d.evr=[])))=false→(b1&&(!((decide (d.op=0))&&(decide (d.evr=[])))))=true))) qh1.2.2.2.2.2.2.2.2.2.2.2.2.2.2.2.2.2.2.2.2.1<|cc 32 (p:=(b1=true→b1=true)) qh1.2.2.2.2.2.2.2.2.2.2.2.2.2.2.2.2.2.2.2.2.2<|c0) ?_
  refine Ag ?_
  refine RK wR [(.bool b2)] ?_
  subst hb2 hb1
  refine Same.of_eq ?_
  simp only[Ak]
  rw[Q0 c1,Q14]
  congr 1
  rw[Bool.eq_iff_iff]
  simp only[Bool.and_eq_true,Bool.or_eq_true,decide_eq_true_eq,and_assoc]
  rw[show((d.args.length:Int)=0)=(d.args.length=0) from propext (by omega)]
 ·refine Ai ?_
  refine Ac ?_
  refine An ?_
  refine B2 1 0 [] [1,48] [] hk0 v0 c0 ?_
  refine Q6d (b:=1) (k:=4) (a:=3) (c:=0) (es:=[]) (m:=[]) (by kernel_rfl) (by kernel_rfl) (by kernel_rfl) (by kernel_rfl) (by kernel_rfl) (by kernel_rfl) (by kernel_rfl) Tryz.underlying218 Tryz.underlying3 ?_
  refine Q6d (b:=1) (k:=6) (a:=2) (c:=1) (es:=[(.int .i64 4,.int .i64 3,0)]) (m:=[(4,3)]) (by kernel_rfl) (by kernel_rfl) (by kernel_rfl) (by kernel_rfl) (by kernel_rfl) (by kernel_rfl) (by kernel_rfl) Tryz.underlying218 Tryz.underlying3 ?_
  refine B2 3 3 [] [1,49,51] [] hk0 v0 c0 ?_
  refine X86 (b:=1) (c:=2) (es:=[(.int .i64 4,.int .i64 3,0),(.int .i64 6,.int .i64 2,1)]) (m:=[(4,3),(6,2)]) (s':=[(1,(.fp (.agg [(.int .i64 d.kind),(.str d.name),(.int .i64 d.op),(.str d.evr),(.row 5 d.args.length (depAt d.args))]))),(49,(.map 1)),(51,(.int .i64 d.kind)),(52,(.int .i64 (E8 d.kind)))]) (by kernel_rfl) (by kernel_rfl) (by kernel_rfl) (by kernel_rfl) (by kernel_rfl) Tryz.underlying218 Tryz.underlying3 (fun _=>by kernel_rfl) (X1w d.kind) (by kernel_rfl) ?_
  refine Au 7 [] [1,5] [] hk0 v0 c0 ?_
  refine Ac ?_
  obtain⟨b3,hb3⟩:∃b,b=(decide (d.kind < 2)):=⟨_,rfl⟩
  obtain⟨b4,hb4⟩:∃b,b=(b3||(decide (6 < d.kind))):=⟨_,rfl⟩
  obtain⟨b5,hb5⟩:∃b,b=(b4||(!decide (d.name=[]))):=⟨_,rfl⟩
  obtain⟨b6,hb6⟩:∃b,b=(b5||(!decide (d.op=0))):=⟨_,rfl⟩
  obtain⟨b7,hb7⟩:∃b,b=(b6||(!decide (d.evr=[]))):=⟨_,rfl⟩
  obtain⟨b8,hb8⟩:∃b,b=(b7||(decide ((d.args.length:Int) < 2))):=⟨_,rfl⟩
  refine Af (CS:=[(5,((!b3)=true→(!b3)=true)),(6,((!b3)=true→(!b3)=true)),(7,(b3=false→(!b3)=true)),(10,((!b4)=true→(!b4)=true)),(11,((!b4)=true→(!b4)=true)),(12,(b4=false→(!b4)=true)),(15,((!b5)=true→(!b5)=true)),(16,((!b5)=true→(!b5)=true)),(17,(b5=false→(!b5)=true)),(20,((!b6)=true→(!b6)=true)),(21,((!b6)=true→(!b6)=true)),(22,(b6=false→(!b6)=true)),(25,((!b7)=true→(!b7)=true)),(26,((!b7)=true→(!b7)=true)),(27,((!b7)=true→(!b7)=true)),(28,(b7=false→(!b7)=true)),(31,((!b8)=true→(!b8)=true)),(32,((!b8)=true→(!b8)=true)),(34,(((!b8)&&(decide (0 < (E8 d.kind))))=true→((!b8)&&(decide (0 < (E8 d.kind))))=true)),(35,(((!b8)&&(decide (0 < (E8 d.kind))))=true→((!b8)&&(decide (0 < (E8 d.kind))))=true)),(37,(((!b8)&&(decide (0 < (E8 d.kind))))=true→((!b8)&&(decide (0 < (E8 d.kind))))=true∧((!b8)&&(decide (0 < (E8 d.kind))))=true)),(38,((!b8)=true→((!b8)=true)∧((decide (0 < (E8 d.kind)))=true→((!b8)&&(decide (0 < (E8 d.kind))))=true))),(39,(b8=false→(!b8)=true))]) [57,58,59,62,63,64,67,68,69,72,73,74,77,78,79,80,83,84,85,86,87,88,89,90,91] [1,92] [] hk0 (vk 4 56 (a:=.bool (decide (d.kind < 2))) (b:=.bool b3) (Imp.of_eq (by rw[hb3]))<|vk 9 61 (a:=.bool (b3||(decide (6 < d.kind)))) (b:=.bool b4) (Imp.of_eq (by rw[hb4]))<|vk 14 66 (a:=.bool (b4||(!decide (d.name=[])))) (b:=.bool b5) (Imp.of_eq (by rw[hb5]))<|vk 19 71 (a:=.bool (b5||(!decide (d.op=0)))) (b:=.bool b6) (Imp.of_eq (by rw[hb6]))<|vk 24 76 (a:=.bool (b6||(!decide (d.evr=[])))) (b:=.bool b7) (Imp.of_eq (by rw[hb7]))<|vk 30 82 (a:=.bool (b7||(decide ((d.args.length:Int) < 2)))) (b:=.bool b8) (Imp.of_eq (by rw[hb8]))<|v0) (by refine cc _ ?_<|cc _ ?_<|cc _ ?_<|cc _ ?_<|cc _ ?_<|cc _ ?_<|cc _ ?_<|cc _ ?_<|cc _ ?_<|cc _ ?_<|cc _ ?_<|cc _ ?_<|cc _ ?_<|cc _ ?_<|cc _ ?_<|cc _ ?_<|cc _ ?_<|cc _ ?_<|cc _ ?_<|cc _ ?_<|cc _ ?_<|cc _ ?_<|cc _ ?_ c0<;>(intros;simp_all;done)) ?_
  refine Bd (q:=b8||((decide (0 < (E8 d.kind)))&&(decide ((E8 d.kind) < (d.args.length:Int))))) (by kernel_rfl) (fun c2=>?_) (fun c2=>?_)
  ·subst hb8 hb7 hb6 hb5 hb4 hb3
   try simp only[Am] at c2
   refine Ab [] [2] ?_
   refine Ag ?_
   refine RK wR [(.bool false)] ?_
   refine Same.of_eq ?_
   simp only[Ak]
   rw[Jf c1,Q17,decide_eq_true (by rcases c2 with (((((h|h)|h)|h)|h)|h)|h<;>first|(simp[h];done)|(have h':d.args.length < 2:=(by omega);simp[h']))]
   rfl
  ·subst hb8 hb7 hb6 hb5 hb4 hb3
   try simp only[Am] at c2
   refine Ai ?_
   refine Af [] [2] [] (hk 3 (al:=[(Ae 5 Ao d.args),(.fn 190 [] [(.fp (.agg [(.int .i64 d.kind),(.str d.name),(.int .i64 d.op),(.str d.evr),(.row 5 d.args.length (depAt d.args))]))])]) Q9 ((Rq d.args (.fn 190 [] [.fp (Ao d)]) (Mp d.kind) (by omega) (fun i hi=>FunV.of (by exact X5b) (X3q (nth d.args i) d (ih i hi)))).of_args (ImpL.cons Imp.refl (ImpL.cons (Imp.clo (by kernel_rfl)) ImpL.nil)))<|hk0) (vk 3 94 (Ew d.args)<|v0) c0 ?_
   refine Ag ?_
   refine RK wR [(.bool (!(d.args.any (Mp d.kind))))] ?_
   refine Same.of_eq ?_
   simp only[Ak]
   rw[Jf c1,Q17,decide_eq_false (by rcases c2 with⟨⟨⟨⟨⟨⟨h1,h2⟩,h3⟩,h4⟩,h5⟩,h6⟩,h7⟩;simp[h3,h4,h5];omega),Q5g]
   simp
theorem X3s (d:DepT):d.size≤4194304→FnV Tryz.prog 148 [Ao d] (.bool (Cq d)) :=
 Rp (C:=fun d=>d.size≤4194304→FnV Tryz.prog 148 [Ao d] (.bool (Cq d))) (fun d ih hs=>X3t d hs fun i hi=>ih i hi (by have:=Fl hi;omega)) d
theorem Q87 (d : DepT) (hs : d.size ≤ 4194304) (ih : ∀ i, i < d.args.length → FnV Tryz.prog 115 [Ao (nth d.args i)] (.bool (Cq (nth d.args i)))) :
  FnV Tryz.prog 115 [(.agg [(.int .i64 d.kind),(.str d.name),(.int .i64 d.op),(.str d.evr),(.row 5 d.args.length (depAt d.args))])] (.bool (Cq d)):=by
 have hda:=El d
 have hal:=Dw d.args
 refine A8 [.tmp 2] Tryz.func115 rfl Tryz.ntmps115 rfl rfl (fun B F hF=>?_)
 refine Af [] [1] [(1,1)] hk0 v0 c0 ?_
 refine Ac ?_
 refine Ab [] [1,12] ?_
 refine A5 (p:=d.kind=1) (by kernel_rfl) (fun c1=>?_) (fun c1=>?_)
 ·refine Af [] [1,3] [] (hk 2 On (Py d.name (by omega))<|hk0) v0 c0 ?_
  refine Ac ?_
  obtain⟨b1,hb1⟩:∃b,b=(!(B1 d.name)):=⟨_,rfl⟩
  obtain⟨b2,hb2⟩:∃b,b=(b1||(decide (d.op < 0))):=⟨_,rfl⟩
  obtain⟨b3,hb3⟩:∃b,b=(b2||(decide (7 < d.op))):=⟨_,rfl⟩
  refine Af (CS:=[(4,((!b1)=true→(!b1)=true)),(5,((!b1)=true→(!b1)=true)),(6,(b1=false→(!b1)=true)),(9,((!b2)=true→(!b2)=true)),(10,((!b2)=true→(!b2)=true)),(11,(b2=false→(!b2)=true)),(14,((!b3)=true→(!b3)=true)),(15,((!b3)=true→(!b3)=true)),(16,((!b3)=true→(!b3)=true)),(17,(b3=false→(!b3)=true))]) [19,20,21,24,25,26,29,30,31,32] [1,33] [] hk0 (vk 3 18 (a:=.bool (!(B1 d.name))) (b:=.bool b1) (Imp.of_eq (by rw[hb1]))<|vk 8 23 (a:=.bool (b1||(decide (d.op < 0)))) (b:=.bool b2) (Imp.of_eq (by rw[hb2]))<|vk 13 28 (a:=.bool (b2||(decide (7 < d.op)))) (b:=.bool b3) (Imp.of_eq (by rw[hb3]))<|v0) (by refine cc _ ?_<|cc _ ?_<|cc _ ?_<|cc _ ?_<|cc _ ?_<|cc _ ?_<|cc _ ?_<|cc _ ?_<|cc _ ?_<|cc _ ?_ c0<;>simp) ?_
  refine Bd (q:=b3||(decide (0 < (d.args.length:Int)))) (by kernel_rfl) (fun c2=>?_) (fun c2=>?_)
  ·subst hb3 hb2 hb1
   try simp only[Am] at c2
   refine Ab [] [2] ?_
   refine Ag ?_
   refine RK wR [(.bool false)] ?_
   refine Same.of_eq ?_
   simp only[Ak]
   rw[Q0 c1,Ut (by rcases c2 with ((h|h)|h)|h<;>first|omega|simp_all)]
  ·subst hb3 hb2 hb1
   try simp only[Am] at c2
   refine Ai ?_
   refine Ac ?_
   refine Ab [] [1,36] ?_
   refine A5 (p:=d.op=0) (by kernel_rfl) (fun c3=>?_) (fun c3=>?_)
   ·refine Ab [] [2] ?_
    refine Ag ?_
    refine RK wR [(.bool (decide (d.evr=[])))] ?_
    refine Same.of_eq ?_
    simp only[Ak]
    rw[Q0 c1,X3u ⟨c2.1.1.1,by omega,by omega,by omega⟩ c3]
   ·refine Ai ?_
    refine Af [] [5] [(8,4)] (hk 2 Ot (P0 d.evr (by omega))<|hk0) v0 c0 ?_
    refine Ab [] [2] ?_
    refine Ag ?_
    refine RK wR [(.bool (decide ((Cj d.evr)=0)))] ?_
    refine Same.of_eq ?_
    simp only[Ak]
    rw[Q0 c1,X3v ⟨c2.1.1.1,by omega,by omega,by omega⟩ c3]
 ·refine Ai ?_
  refine Ab [] [1,6] ?_
  refine Ac ?_
  obtain⟨b4,hb4⟩:∃b,b=(decide (d.kind < 2)):=⟨_,rfl⟩
  obtain⟨b5,hb5⟩:∃b,b=(b4||(decide (6 < d.kind))):=⟨_,rfl⟩
  obtain⟨b6,hb6⟩:∃b,b=(b5||(!decide (d.name=[]))):=⟨_,rfl⟩
  obtain⟨b7,hb7⟩:∃b,b=(b6||(!decide (d.op=0))):=⟨_,rfl⟩
  obtain⟨b8,hb8⟩:∃b,b=(b7||(!decide (d.evr=[]))):=⟨_,rfl⟩
  refine Af (CS:=[(5,((!b4)=true→(!b4)=true)),(6,((!b4)=true→(!b4)=true)),(7,(b4=false→(!b4)=true)),(10,((!b5)=true→(!b5)=true)),(11,((!b5)=true→(!b5)=true)),(12,(b5=false→(!b5)=true)),(15,((!b6)=true→(!b6)=true)),(16,((!b6)=true→(!b6)=true)),(17,(b6=false→(!b6)=true)),(20,((!b7)=true→(!b7)=true)),(21,((!b7)=true→(!b7)=true)),(22,(b7=false→(!b7)=true)),(25,((!b8)=true→(!b8)=true)),(26,(b8=false→(!b8)=true))]) [55,56,57,60,61,62,65,66,67,70,71,72,75,76] [1,6,77] [] hk0 (vk 4 54 (a:=.bool (decide (d.kind < 2))) (b:=.bool b4) (Imp.of_eq (by rw[hb4]))<|vk 9 59 (a:=.bool (b4||(decide (6 < d.kind)))) (b:=.bool b5) (Imp.of_eq (by rw[hb5]))<|vk 14 64 (a:=.bool (b5||(!decide (d.name=[])))) (b:=.bool b6) (Imp.of_eq (by rw[hb6]))<|vk 19 69 (a:=.bool (b6||(!decide (d.op=0)))) (b:=.bool b7) (Imp.of_eq (by rw[hb7]))<|vk 24 74 (a:=.bool (b7||(!decide (d.evr=[])))) (b:=.bool b8) (Imp.of_eq (by rw[hb8]))<|v0) (by refine cc _ ?_<|cc _ ?_<|cc _ ?_<|cc _ ?_<|cc _ ?_<|cc _ ?_<|cc _ ?_<|cc _ ?_<|cc _ ?_<|cc _ ?_<|cc _ ?_<|cc _ ?_<|cc _ ?_<|cc _ ?_ c0<;>simp) ?_
  refine Bd (q:=b8||(decide ((d.args.length:Int) < 2))) (by kernel_rfl) (fun c4=>?_) (fun c4=>?_)
  ·subst hb8 hb7 hb6 hb5 hb4
   try simp only[Am] at c4
   refine Ab [] [2] ?_
   refine Ag ?_
   refine RK wR [(.bool false)] ?_
   refine Same.of_eq ?_
   simp only[Ak]
   rw[Jf c1,X34 (by rcases c4 with ((((h|h)|h)|h)|h)|h<;>first|(simp[h];done)|(have h':d.args.length < 2:=(by omega);simp[h']))]
   rfl
  ·subst hb8 hb7 hb6 hb5 hb4
   try simp only[Am] at c4
   refine Ai ?_
   refine Ac ?_
   obtain⟨b9,hb9⟩:∃b,b=(decide (d.kind=4)):=⟨_,rfl⟩
   obtain⟨b10,hb10⟩:∃b,b=(b9&&(decide (3 < (d.args.length:Int)))):=⟨_,rfl⟩
   refine Af (CS:=[(5,(b9=true→b9=true)),(6,(b9=true→b9=true)),(9,((!b10)=true→(!b10)=true)),(10,((!b10)=true→(!b10)=true)),(11,((!b10)=true→(!b10)=true)),(13,(((!b10)&&(decide (d.kind=6)))=true→((!b10)&&(decide (d.kind=6)))=true)),(14,((!b10)=true→((!b10)=true)∧((decide (d.kind=6))=true→((!b10)&&(decide (d.kind=6)))=true))),(15,(b10=false→(!b10)=true))]) [82,83,86,87,88,89,90,91,92] [1,6,93] [] hk0 (vk 4 81 (a:=.bool (decide (d.kind=4))) (b:=.bool b9) (Imp.of_eq (by rw[hb9]))<|vk 8 85 (a:=.bool (b9&&(decide (3 < (d.args.length:Int))))) (b:=.bool b10) (Imp.of_eq (by rw[hb10]))<|v0) (by refine cc _ ?_<|cc _ ?_<|cc _ ?_<|cc _ ?_<|cc _ ?_<|cc _ ?_<|cc _ ?_<|cc _ ?_ c0<;>(intros;simp_all;done)) ?_
   refine Bd (q:=b10||((decide (d.kind=6))&&(decide (2 < (d.args.length:Int))))) (by kernel_rfl) (fun c5=>?_) (fun c5=>?_)
   ·subst hb10 hb9
    try simp only[Am] at c5
    refine Ab [] [2] ?_
    refine Ag ?_
    refine RK wR [(.bool false)] ?_
    refine Same.of_eq ?_
    simp only[Ak]
    rw[Jf c1,X33 (by omega)]
    rfl
   ·subst hb10 hb9
    try simp only[Am] at c5
    have hfb:Gj d.kind d.name d.op d.evr d.args.length=false:=X32 (by rcases c4 with⟨⟨⟨⟨⟨h1,h2⟩,h3⟩,h4⟩,h5⟩,h6⟩;simp[h3,h4,h5];omega) (by omega)
    refine Ai ?_
    refine Ac ?_
    refine Ab [] [1,6,7] ?_
    refine Ay ?_
    refine Bz (fun g y=>∃(i:Nat),i≤d.args.length∧argsForm d.kind d.args=argsForm d.kind (d.args.drop i)∧y=⟨[(1,(.fp (.agg [(.int .i64 d.kind),(.str d.name),(.int .i64 d.op),(.str d.evr),(.row 5 d.args.length (depAt d.args))]))),(6,(.int .i64 ((d.args.length:Int)))),(7,(.int .i64 ((i:Int))))],[],1⟩∧g=d.args.length-i) [1,6,7] 1 _ (by omega) ⟨0,(by omega),(by rfl),(by kernel_rfl),rfl⟩ ?_
    rintro g1 y1 ⟨i,f1_1,f1_2,rfl,rfl⟩
    refine Ac ?_
    refine Ab [] [1,6,7,96] ?_
    refine A5 (p:=(i:Int) < (d.args.length:Int)) (by kernel_rfl) (fun c6=>?_) (fun c6=>?_)
    ·refine Ai ?_
     refine Ac ?_
     refine Ay ?_
     refine Af [] [1,6,7,8] [] hk0 (vk 3 100 (Ew d.args)<|v0) (cc 3 (p:=(0≤(i:Int)∧i < d.args.length)) (by omega)<|c0) ?_
     refine Ac ?_
     obtain⟨b11,hb11⟩:∃b,b=(decide (5≤d.kind)):=⟨_,rfl⟩
     obtain⟨b12,hb12⟩:∃b,b=(b11&&(!decide (((nth d.args i).kind)=1))):=⟨_,rfl⟩
     obtain⟨b13,hb13⟩:∃b,b=(b12&&(!decide (((nth d.args i).kind)=5))):=⟨_,rfl⟩
     refine Af (CS:=[(5,(b11=true→b11=true)),(6,(b11=true→b11=true)),(9,(b12=true→b12=true)),(10,(b12=true→b12=true)),(13,(b13=true→b13=true)),(14,(b13=true→b13=true))]) [109,110,113,114,117,118] [1,6,7,119] [] hk0 (vk 4 108 (a:=.bool (decide (5≤d.kind))) (b:=.bool b11) (Imp.of_eq (by rw[hb11]))<|vk 8 112 (a:=.bool (b11&&(!decide (((nth d.args i).kind)=1)))) (b:=.bool b12) (Imp.of_eq (by rw[hb12]))<|vk 12 116 (a:=.bool (b12&&(!decide (((nth d.args i).kind)=5)))) (b:=.bool b13) (Imp.of_eq (by rw[hb13]))<|v0) (by refine cc _ ?_<|cc _ ?_<|cc _ ?_<|cc _ ?_<|cc _ ?_<|cc _ ?_ c0<;>simp) ?_
     refine Bd (q:=b13&&(!decide (((nth d.args i).kind)=6))) (by kernel_rfl) (fun c7=>?_) (fun c7=>?_)
     ·subst hb13 hb12 hb11
      try simp only[Am] at c7
      refine Ab [] [2] ?_
      refine Ag ?_
      refine RK wR [(.bool false)] ?_
      refine Same.of_eq ?_
      simp only[Ak]
      rw[Jf c1,hfb,f1_2,V8 (by omega),X2s (by omega)]
      rfl
     ·subst hb13 hb12 hb11
      try simp only[Am] at c7
      refine Ai ?_
      refine Af [] [1,6,7,9] [] (hk 5 Q34 (ih i (by omega))<|hk0) (vk 3 121 (Ew d.args)<|v0) (cc 3 (p:=(0≤(i:Int)∧i < d.args.length)) (by omega)<|c0) ?_
      refine Ab [] [1,6,7,127] ?_
      refine Bd (q:=!(Cq (nth d.args i))) (by kernel_rfl) (fun c8=>?_) (fun c8=>?_)
      ·try simp only[Am] at c8
       refine Ab [] [2] ?_
       refine Ag ?_
       refine RK wR [(.bool false)] ?_
       refine Same.of_eq ?_
       simp only[Ak]
       rw[Jf c1,hfb,f1_2,V8 (by omega),Q1c (by omega),c8]
       rfl
      ·try simp only[Am] at c8
       refine Ai ?_
       refine An ?_
       refine Au 0 [] [1,6,7] [] hk0 v0 (cc 1 (p:=(-9223372036854775808≤(i:Int)+1∧(i:Int)+1≤9223372036854775807)) (by omega)<|c0) ?_
       refine⟨by kernel_rfl,_,?_,i+1,?_,?_,(by kernel_rfl),rfl⟩
       ·omega
       ·omega
       ·rw[f1_2,V8 (by omega),Q1c (by omega),c8];rfl
    ·refine Bp ?_
     refine Ab [] [2] ?_
     refine Ag ?_
     refine RK wR [(.bool true)] ?_
     refine Same.of_eq ?_
     simp only[Ak]
     rw[Jf c1,hfb,f1_2,List.drop_of_length_le (by omega)]
     rfl
theorem Q86 (d:DepT):d.size≤4194304→FnV Tryz.prog 115 [Ao d] (.bool (Cq d)) :=
 Rp (C:=fun d=>d.size≤4194304→FnV Tryz.prog 115 [Ao d] (.bool (Cq d))) (fun d ih hs=>Q87 d hs fun i hi=>ih i hi (by have:=Fl hi;omega)) d
theorem X0b (d : DepT) (hs : d.size ≤ 4194304) (ih : ∀ i, i < d.args.length → FnV Tryz.prog 116 [Ao (nth d.args i)] (.int .i64 (Es (nth d.args i) : Int))) :
  FnV Tryz.prog 116 [(.agg [(.int .i64 d.kind),(.str d.name),(.int .i64 d.op),(.str d.evr),(.row 5 d.args.length (depAt d.args))])] (.int .i64 ((Es d:Int))):=by
 have hda:=El d
 have hal:=Dw d.args
 refine A8 [.tmp 2] Tryz.func116 rfl Tryz.ntmps116 rfl rfl (fun B F hF=>?_)
 refine Af [] [1] [(1,1)] hk0 v0 c0 ?_
 refine Ac ?_
 refine Ab [] [1,7] ?_
 refine A5 (p:=d.kind=1) (by kernel_rfl) (fun c1=>?_) (fun c1=>?_)
 ·refine Ab [] [2] ?_
  refine Ag ?_
  refine RK wR [(.int .i64 1)] ?_
  refine Same.of_eq ?_
  simp only[Ak]
  rw[X0d c1]
  rfl
 ·refine Ai ?_
  refine Ab [] [1,3] ?_
  refine Ac ?_
  refine Ab [] [1,3,4] ?_
  refine Ay ?_
  refine Bz (fun g y=>∃(i:Nat),i≤d.args.length∧y=⟨[(1,(.fp (.agg [(.int .i64 d.kind),(.str d.name),(.int .i64 d.op),(.str d.evr),(.row 5 d.args.length (depAt d.args))]))),(3,(.int .i64 ((argsParts (d.args.take i):Int)))),(4,(.int .i64 ((i:Int))))],[],1⟩∧g=d.args.length-i) [1,3,4] 1 _ (by omega) ⟨0,(by omega),(by kernel_rfl),rfl⟩ ?_
  rintro g1 y1 ⟨i,f1_1,rfl,rfl⟩
  have hb1:=argsParts_le (d.args.take i)
  have hb2:=fun h=>Q5h (l:=d.args) (i:=i) h
  have hb3:=Y8 (nth d.args i)
  refine Ac ?_
  refine Ab [] [1,3,4,12] ?_
  refine A5 (p:=(i:Int) < (d.args.length:Int)) (by kernel_rfl) (fun c2=>?_) (fun c2=>?_)
  ·refine Ai ?_
   refine Ac ?_
   refine Ay ?_
   refine An ?_
   refine Au (CS:=[(4,(0≤(i:Int)∧i < d.args.length)),(7,(-9223372036854775808≤(argsParts (d.args.take i):Int)+(Es (nth d.args i):Int)∧(argsParts (d.args.take i):Int)+(Es (nth d.args i):Int)≤9223372036854775807))]) 0 [] [1,3,4] [] (hk 6 Q33 (ih i (by omega))<|hk0) (vk 4 17 (Ew d.args)<|v0) (by refine cc _ ?_<|cc _ ?_ c0<;>omega) ?_
   refine An ?_
   refine Au 0 [] [1,3,4] [] hk0 v0 (cc 1 (p:=(-9223372036854775808≤(i:Int)+1∧(i:Int)+1≤9223372036854775807)) (by omega)<|c0) ?_
   refine⟨by kernel_rfl,_,?_,i+1,?_,(Eq.trans (b:=(⟨[(1,(.fp (.agg [(.int .i64 d.kind),(.str d.name),(.int .i64 d.op),(.str d.evr),(.row 5 d.args.length (depAt d.args))]))),(3,(.int .i64 ((argsParts (d.args.take i):Int)+(Es (nth d.args i):Int)))),(4,(.int .i64 ((i:Int)+1)))],[],1⟩:St)) (by kernel_rfl) (by rw[X7w (by omega)];rfl)),rfl⟩
   ·omega
   ·omega
  ·refine Bp ?_
   refine Ab [] [2] ?_
   refine Ag ?_
   refine RK wR [(.int .i64 ((argsParts (d.args.take i):Int)))] ?_
   refine Same.of_eq ?_
   simp only[Ak]
   rw[X0e c1,List.take_of_length_le (by omega)]
theorem X0c (d:DepT):d.size≤4194304→FnV Tryz.prog 116 [Ao d] (.int .i64 (Es d:Int)) :=
 Rp (C:=fun d=>d.size≤4194304→FnV Tryz.prog 116 [Ao d] (.int .i64 (Es d:Int))) (fun d ih hs=>X0b d hs fun i hi=>ih i hi (by have:=Fl hi;omega)) d
def Gf (d:DepT):Nat:=if d.kind=1 then 1 else 0
theorem X6z (l : List UInt8) (m : Nat) (hm : m ≤ 9000000) :
  Gp Tryz.prog 150 [(.str l),(.ptr 0 0)] [(0,(.row [(.int .i64 (((m:Nat):Int)))] 3))] 1 (.tup []) [(0,(.row [(.int .i64 (((m+1:Nat):Int)))] 3))]:=by
 refine Lt [] Tryz.func150 rfl Tryz.ntmps150 rfl rfl (by kernel_rfl) (by kernel_rfl) (by kernel_rfl) (fun B F hF=>?_)
 refine An ?_
 refine Au 0 [] [] [] hk0 v0 (cc 1 (p:=(-9223372036854775808≤((m:Nat):Int)+1∧((m:Nat):Int)+1≤9223372036854775807)) (by omega)<|c0) ?_
 refine Er (.inr rfl) (al:=[]) (by kernel_rfl) ?_ ((by kernel_rfl:Dr 1 _=some [(0,(.row [(.int .i64 (((m:Nat):Int)+1))] 3))]).trans ?_)
 ·rfl
 ·rfl
theorem X8g (d : DepT) (m : Nat) (hs : m + d.size ≤ 8388608) (ih : ∀ i m, i < d.args.length → m + (nth d.args i).size ≤ 8388608 → Gp Tryz.prog 149 [Ao (nth d.args i), .fn 150 [] [.ptr 0 0]] [(0, .row [.int .i64 ((m : Nat) : Int)] 3)] 1 (.tup []) [(0, .row [.int .i64 ((m + E7 (nth d.args i) : Nat) : Int)] 3)]) :
  Gp Tryz.prog 149 [(.agg [(.int .i64 d.kind),(.str d.name),(.int .i64 d.op),(.str d.evr),(.row 5 d.args.length (depAt d.args))]),(.fn 150 [] [(.ptr 0 0)])] [(0,(.row [(.int .i64 (((m:Nat):Int)))] 3))] 1 (.tup []) [(0,(.row [(.int .i64 (((m+E7 d:Nat):Int)))] 3))]:=by
 have hda:=El d
 have hal:=Dw d.args
 have ho:Gf d≤1:=by unfold Gf;split<;>omega
 refine Lt [] Tryz.func149 rfl Tryz.ntmps149 rfl rfl (by kernel_rfl) (by kernel_rfl) (by kernel_rfl) (fun B F hF=>?_)
 refine Ab [] [1,2] ?_
 refine Sa 2 (y:=⟨[(1,(.fn 150 [] [(.ptr 0 0)])),(2,(.fp (.agg [(.int .i64 d.kind),(.str d.name),(.int .i64 d.op),(.str d.evr),(.row 5 d.args.length (depAt d.args))])))],[(0,(.row [(.int .i64 (((m:Nat):Int)))] 3))],2⟩) (by kernel_rfl) ?_
 refine Dm (fun y=>y=⟨[(1,(.fn 150 [] [(.ptr 0 0)])),(2,(.fp (.agg [(.int .i64 d.kind),(.str d.name),(.int .i64 d.op),(.str d.evr),(.row 5 d.args.length (depAt d.args))])))],[(0,(.row [(.int .i64 (((m+Gf d:Nat):Int)))] 3))],2⟩) [1,2] 2 (by omega) ?_ ?_
 ·refine Ab [] [1,2,8] ?_
  refine A5 (p:=d.kind=1) (by kernel_rfl) (fun c1=>?_) (fun c1=>?_)
  ·refine An ?_
   refine B2 3 0 [] [1,2,9,11] [] hk0 v0 c0 ?_
   refine H5 [0] (f:=150) (cap:=[(.ptr 0 0)]) (al:=[(.str d.name)]) (al':=[(.str d.name),(.ptr 0 0)]) (r:=(.tup [])) (r':=(.tup [])) (s':=[(1,(.fn 150 [] [(.ptr 0 0)])),(2,(.fp (.agg [(.int .i64 d.kind),(.str d.name),(.int .i64 d.op),(.str d.evr),(.row 5 d.args.length (depAt d.args))]))),(9,(.fn 150 [] [(.ptr 0 0)])),(11,(.str d.name)),(12,(.tup []))]) (H:=[(0,(.row [(.int .i64 (((m:Nat):Int)))] 3))]) (H':=[(0,(.row [(.int .i64 (((m+1:Nat):Int)))] 3))]) (h2:=[(0,(.row [(.int .i64 (((m+1:Nat):Int)))] 3))]) (by kernel_rfl) (by kernel_rfl) (by exact X5t) (by kernel_rfl) (by kernel_rfl) (by kernel_rfl) (by kernel_rfl) (by kernel_rfl) (X6z d.name m (by omega)) (by kernel_rfl) (by kernel_rfl) (by kernel_rfl) ?_
   refine Cd ?_
   refine⟨by kernel_rfl,(Eq.trans (b:=(⟨[(1,(.fn 150 [] [(.ptr 0 0)])),(2,(.fp (.agg [(.int .i64 d.kind),(.str d.name),(.int .i64 d.op),(.str d.evr),(.row 5 d.args.length (depAt d.args))])))],[(0,(.row [(.int .i64 (((m+1:Nat):Int)))] 3))],2⟩:St)) (by kernel_rfl) (by unfold Gf;rw[if_pos c1]))⟩
  ·refine Ai ?_
   refine⟨by kernel_rfl,(Eq.trans (b:=(⟨[(1,(.fn 150 [] [(.ptr 0 0)])),(2,(.fp (.agg [(.int .i64 d.kind),(.str d.name),(.int .i64 d.op),(.str d.evr),(.row 5 d.args.length (depAt d.args))])))],[(0,(.row [(.int .i64 (((m:Nat):Int)))] 3))],2⟩:St)) (by kernel_rfl) (by unfold Gf;rw[if_neg c1];rfl))⟩
 ·rintro y1 rfl
  refine Ab [] [1,14,15,16] ?_
  refine Ay ?_
  refine Wg 14 (Ae 5 Ao d.args) (by kernel_rfl) (Ew d.args) ?_
  refine Bz (fun g y=>∃(i:Nat),i≤d.args.length∧y=⟨[(1,(.fn 150 [] [(.ptr 0 0)])),(14,(Ae 5 Ao d.args)),(15,(.int .i64 ((d.args.length:Int)))),(16,(.int .i64 ((i:Int))))],[(0,(.row [(.int .i64 (((m+Gf d+argsNames (d.args.take i):Nat):Int)))] 3))],2⟩∧g=d.args.length-i) [1,14,15,16] 2 _ (by omega) ⟨0,(by omega),(Eq.trans (b:=(⟨[(1,(.fn 150 [] [(.ptr 0 0)])),(14,(Ae 5 Ao d.args)),(15,(.int .i64 ((d.args.length:Int)))),(16,(.int .i64 0))],[(0,(.row [(.int .i64 (((m+Gf d:Nat):Int)))] 3))],2⟩:St)) (by kernel_rfl) (by simp only[List.take_zero,argsNames,Nat.add_zero];rfl)),rfl⟩ ?_
  rintro g1 y1 ⟨i,f1_1,rfl,rfl⟩
  have hb1:=argsNames_le (d.args.take i)
  have hb2:=fun h=>Q5h (l:=d.args) (i:=i) h
  refine Ab [] [1,14,15,16,17] ?_
  refine Ac ?_
  refine A5 (p:=(i:Int) < (d.args.length:Int)) (by kernel_rfl) (fun c2=>?_) (fun c2=>?_)
  ·refine Ai ?_
   refine Ac ?_
   refine Ay ?_
   refine Af [] [1,5,14,15,16] [] hk0 v0 (cc 0 (p:=(0≤(i:Int)∧i < d.args.length)) (by omega)<|c0) ?_
   refine An ?_
   refine B2 2 0 [] [1,14,15,16,20,21] [(0,5)] hk0 v0 c0 ?_
   refine Nb [0] (al:=[(.agg [(.int .i64 ((nth d.args i).kind)),(.str ((nth d.args i).name)),(.int .i64 ((nth d.args i).op)),(.str ((nth d.args i).evr)),(.row 5 (nth d.args i).args.length (depAt (nth d.args i).args))]),(.fn 150 [] [(.ptr 0 0)])]) (al':=[(.agg [(.int .i64 ((nth d.args i).kind)),(.str ((nth d.args i).name)),(.int .i64 ((nth d.args i).op)),(.str ((nth d.args i).evr)),(.row 5 (nth d.args i).args.length (depAt (nth d.args i).args))]),(.fn 150 [] [(.ptr 0 0)])]) (r:=(.tup [])) (r':=(.tup [])) (s':=[(1,(.fn 150 [] [(.ptr 0 0)])),(14,(Ae 5 Ao d.args)),(15,(.int .i64 ((d.args.length:Int)))),(16,(.int .i64 ((i:Int)))),(20,(.agg [(.int .i64 ((nth d.args i).kind)),(.str ((nth d.args i).name)),(.int .i64 ((nth d.args i).op)),(.str ((nth d.args i).evr)),(.row 5 (nth d.args i).args.length (depAt (nth d.args i).args))])),(21,(.fn 150 [] [(.ptr 0 0)])),(22,(.tup []))]) (H:=[(0,(.row [(.int .i64 (((m+Gf d+argsNames (d.args.take i):Nat):Int)))] 3))]) (H':=[(0,(.row [(.int .i64 (((m+Gf d+argsNames (d.args.take i)+E7 (nth d.args i):Nat):Int)))] 3))]) (h2:=[(0,(.row [(.int .i64 (((m+Gf d+argsNames (d.args.take i)+E7 (nth d.args i):Nat):Int)))] 3))]) (by kernel_rfl) (by exact Q3v) (by kernel_rfl) (by kernel_rfl) (by kernel_rfl) (by kernel_rfl) (by kernel_rfl) (ih i (m+Gf d+argsNames (d.args.take i)) (by omega) (by have:=hb2 (by omega);omega)) (by kernel_rfl) (by kernel_rfl) (by kernel_rfl) ?_
   refine Cd ?_
   refine An ?_
   refine Au 0 [] [1,14,15,16] [] hk0 v0 (cc 0 (p:=(-9223372036854775808≤(i:Int)+1∧(i:Int)+1≤9223372036854775807)) (by omega)<|c0) ?_
   refine⟨by kernel_rfl,_,?_,i+1,?_,(Eq.trans (b:=(⟨[(1,(.fn 150 [] [(.ptr 0 0)])),(14,(Ae 5 Ao d.args)),(15,(.int .i64 ((d.args.length:Int)))),(16,(.int .i64 ((i:Int)+1)))],[(0,(.row [(.int .i64 (((m+Gf d+argsNames (d.args.take i)+E7 (nth d.args i):Nat):Int)))] 3))],2⟩:St)) (by kernel_rfl) (by rw[X7x (by omega)];simp only[Nat.add_assoc];rfl)),rfl⟩
   all_goals omega
  ·refine Bp ?_
   refine Er (.inr rfl) (al:=[]) (by kernel_rfl) ?_ ((by kernel_rfl:Dr 1 _=some [(0,(.row [(.int .i64 (((m+Gf d+argsNames (d.args.take i):Nat):Int)))] 3))]).trans ?_)
   ·rfl
   ·rw[X1q,List.take_of_length_le (by omega)];simp only[Gf,Nat.add_assoc]
theorem X8f (d:DepT):∀m,m+d.size≤8388608→Gp Tryz.prog 149 [Ao d,.fn 150 [] [.ptr 0 0]] [(0,.row [.int .i64 ((m:Nat):Int)] 3)] 1 (.tup []) [(0,.row [.int .i64 ((m+E7 d:Nat):Int)] 3)] :=
 Rp (C:=fun d=>∀m,m+d.size≤8388608→Gp Tryz.prog 149 [Ao d,.fn 150 [] [.ptr 0 0]] [(0,.row [.int .i64 ((m:Nat):Int)] 3)] 1 (.tup []) [(0,.row [.int .i64 ((m+E7 d:Nat):Int)] 3)]) (fun d ih m hs=>X8g d m hs fun i m hi h=>ih i hi m h) d
theorem Q6v (d : DepT) (hs : d.size ≤ 4194304) :
  FnV Tryz.prog 95 [(.agg [(.int .i64 d.kind),(.str d.name),(.int .i64 d.op),(.str d.evr),(.row 5 d.args.length (depAt d.args))])] (.int .i64 (Cu d)):=by
 refine A8 [.tmp 2] Tryz.func95 rfl Tryz.ntmps95 rfl rfl (fun B F hF=>?_)
 refine Af [] [1] [(1,1)] hk0 v0 c0 ?_
 refine Ac ?_
 refine Af [] [1,6] [] (hk 1 Q3w (X3s d hs)<|hk0) v0 c0 ?_
 refine Bd (q:=!(Cq d)) (by kernel_rfl) (fun c1=>?_) (fun c1=>?_)
 ·try simp only[Am] at c1
  refine Ab [] [2] ?_
  refine Ag ?_
  refine RK wR [(.int .i64 50)] ?_
  refine Same.of_eq ?_
  simp only[Ak]
  rw[Cu,c1]
  rfl
 ·try simp only[Am] at c1
  refine Ai ?_
  refine Ab [] [1,3] ?_
  refine Ac ?_
  refine An ?_
  refine B2 2 0 [] [3,7,8] [] hk0 v0 c0 ?_
  refine Nb [1] (al:=[(.agg [(.int .i64 d.kind),(.str d.name),(.int .i64 d.op),(.str d.evr),(.row 5 d.args.length (depAt d.args))]),(.fn 150 [] [(.ptr 1 0)])]) (al':=[(.agg [(.int .i64 d.kind),(.str d.name),(.int .i64 d.op),(.str d.evr),(.row 5 d.args.length (depAt d.args))]),(.fn 150 [] [(.ptr 0 0)])]) (r:=(.tup [])) (r':=(.tup [])) (s':=[(3,(.ptr 1 0)),(7,(.agg [(.int .i64 d.kind),(.str d.name),(.int .i64 d.op),(.str d.evr),(.row 5 d.args.length (depAt d.args))])),(8,(.fn 150 [] [(.ptr 1 0)])),(9,(.tup []))]) (H:=[(0,(.row [(.int .i64 0)] 3))]) (H':=[(0,(.row [(.int .i64 (((0+E7 d:Nat):Int)))] 3))]) (h2:=[(1,(.row [(.int .i64 (((0+E7 d:Nat):Int)))] 3))]) (by kernel_rfl) (by exact Q3v) (by kernel_rfl) (by kernel_rfl) (by kernel_rfl) (by kernel_rfl) (by kernel_rfl) (X8f d 0 (by omega)) (by kernel_rfl) (by kernel_rfl) (by kernel_rfl) ?_
  refine Cd ?_
  refine Ac ?_
  refine Ab [] [11] ?_
  refine A5 (p:=16 < ((0+E7 d:Nat):Int)) (by kernel_rfl) (fun c2=>?_) (fun c2=>?_)
  ·refine Ab [] [2] ?_
   refine Ag ?_
   refine RK wR [(.int .i64 51)] ?_
   refine Same.of_eq ?_
   simp only[Ak]
   rw[Cu,c1,if_pos rfl,if_pos (by have:=T8 d c1;omega)]
  ·refine Ai ?_
   refine Ab [] [2] ?_
   refine Ag ?_
   refine RK wR [(.int .i64 0)] ?_
   refine Same.of_eq ?_
   simp only[Ak]
   rw[Cu,c1,if_pos rfl,if_neg (by have:=T8 d c1;omega)]
theorem Q9b (d : DepT) (hs : d.size ≤ 4194304) :
  FnV Tryz.prog 51 [(.agg [(.int .i64 d.kind),(.str d.name),(.int .i64 d.op),(.str d.evr),(.row 5 d.args.length (depAt d.args))])] (.int .i64 (Cu d)):=by
 refine A8 [.tmp 2] Tryz.func51 rfl Tryz.ntmps51 rfl rfl (fun B F hF=>?_)
 refine Af [] [1] [(1,1)] hk0 v0 c0 ?_
 refine Af [] [1,3] [] (hk 1 Q34 (Q86 d hs)<|hk0) v0 c0 ?_
 refine Ac ?_
 refine Ab [] [1,7] ?_
 refine Bd (q:=!(Cq d)) (by kernel_rfl) (fun c1=>?_) (fun c1=>?_)
 ·try simp only[Am] at c1
  refine Ab [] [2] ?_
  refine Ag ?_
  refine RK wR [(.int .i64 50)] ?_
  refine Same.of_eq ?_
  simp only[Ak]
  rw[Cu,c1]
  rfl
 ·try simp only[Am] at c1
  refine Ai ?_
  refine Ac ?_
  refine Af [] [10] [] (hk 1 Q33 (X0c d hs)<|hk0) v0 c0 ?_
  refine A5 (p:=16 < (Es d:Int)) (by kernel_rfl) (fun c2=>?_) (fun c2=>?_)
  ·refine Ab [] [2] ?_
   refine Ag ?_
   refine RK wR [(.int .i64 51)] ?_
   refine Same.of_eq ?_
   simp only[Ak]
   rw[Cu,c1,if_pos rfl,if_pos (by omega)]
  ·refine Ai ?_
   refine Ab [] [2] ?_
   refine Ag ?_
   refine RK wR [(.int .i64 0)] ?_
   refine Same.of_eq ?_
   simp only[Ak]
   rw[Cu,c1,if_pos rfl,if_neg (by omega)]
end Sv
end
section
open Go Go.RowKit
namespace Sv
attribute [local irreducible] SW SO Bs
set_option maxHeartbeats 400000
set_option maxRecDepth 100000
theorem Q2z:As Tryz.prog 71:=Az Tryz.func71 (by kernel_rfl) rfl
theorem X6d:As Tryz.prog 114:=Az Tryz.func114 (by kernel_rfl) rfl
theorem J9:As Tryz.prog 113:=Az Tryz.func113 (by kernel_rfl) rfl
theorem Q35:As Tryz.prog 112:=Az Tryz.func112 (by kernel_rfl) rfl
theorem Q26:As Tryz.prog 50:=Az Tryz.func50 (by kernel_rfl) rfl
theorem X6m:As Tryz.prog 101:=Az Tryz.func101 (by kernel_rfl) rfl
theorem Q27:As Tryz.prog 46:=Az Tryz.func46 (by kernel_rfl) rfl
theorem X7a (l : List (List UInt8)) (hl : l.length ≤ 4611686018427) :
  FnV Tryz.prog 114 [(Di l)] (Di l):=by
 refine A8 [.tmp 2] Tryz.func114 rfl Tryz.ntmps114 rfl rfl (fun B F hF=>?_)
 refine Ab [] [0] ?_
 refine Ac ?_
 refine Ac ?_
 refine An ?_
 refine B2 1 0 [] [0,3] [] hk0 v0 c0 ?_
 refine Sf (G:=Jy (Di l)) (sz:=1) (m:=l.length) (e:=9) (by kernel_rfl) (by kernel_rfl) (by kernel_rfl) (by kernel_rfl) (fun nq1=>⟨[(0,(Di l)),(3,(Di l)),(4,(.bool nq1))],by kernel_rfl,fun hnq1=>?_⟩)
 refine Cd ?_
 refine Bd (q:=nq1) (by kernel_rfl) (fun c1=>?_) (fun c1=>?_)
 ·try simp only[Am] at c1
  refine Ab [] [2] ?_
  refine Ag ?_
  refine RK wR [.nils] ?_
  simp only[Ak]
  exact(Same.of_eq rfl).trans (Imp.same (by have:=hnq1 (by simp_all);have:l=[]:=List.length_eq_zero_iff.1 this;subst this;exact Imp.nil))
 ·try simp only[Am] at c1
  refine Ai ?_
  refine Af [] [2] [] hk0 v0 (cc 2 (p:=((([]:List AV).length+l.length)*16≤140737488355328)) (by(simp;omega))<|c0) ?_
  refine Ag ?_
  refine RK wR [(.row 1 (([]:List AV)++((List.range l.length).map (fun kx=>((.str (nth l kx)):AV)))).length (fun ix=>(([]:List AV)++((List.range l.length).map (fun kx=>((.str (nth l kx)):AV)))).getD ix Br))] ?_
  simp only[Ak]
  exact Same.grown (f:=AV.str) (l:=l) (by simp[Ky])
theorem Zr (l : List DepT) (hs : argsSize l ≤ 4194304) (ih : ∀ i, i < l.length → FnV Tryz.prog 113 [D4 (nth l i).args] (.row 5 (nth l i).args.length (depAt (nth l i).args))) :
  FnV Tryz.prog 113 [(Ae 5 Ao l)] (.row 5 l.length (depAt l)):=by
 have hal:=Dw l
 refine A8 [.tmp 2] Tryz.func113 rfl Tryz.ntmps113 rfl rfl (fun B F hF=>?_)
 refine Ab [] [0] ?_
 refine Ac ?_
 refine An ?_
 refine B2 1 0 [] [5] [] hk0 v0 c0 ?_
 refine Km [.tmp 2] (al:=[(Ae 5 Ao l)]) (s0:=[(5,(Ae 5 Ao l))]) (by kernel_rfl) (by exact Q2z) (by kernel_rfl) Tryz.func71 rfl Tryz.ntmps71 rfl (by kernel_rfl) (by kernel_rfl) (fun F1 hF1 hle1=>?_)
 refine Ab [] [0] ?_
 refine Ac ?_
 refine Ac ?_
 refine An ?_
 refine B2 1 0 [] [0,3] [] hk0 v0 c0 ?_
 refine Sf (G:=Jy (Ae 5 Ao l)) (sz:=5) (m:=l.length) (e:=25) (by kernel_rfl) (by kernel_rfl) (by kernel_rfl) (by kernel_rfl) (fun nq1_1=>⟨[(0,(Ae 5 Ao l)),(3,(Ae 5 Ao l)),(4,(.bool nq1_1))],by kernel_rfl,fun hnq1_1=>?_⟩)
 refine Cd ?_
 refine Bd (q:=nq1_1) (by kernel_rfl) (fun c1=>?_) (fun c1=>?_)
 ·try simp only[Am] at c1
  refine Ab [] [2] ?_
  refine Ag ?_
  refine Hh (.inl rfl) (al:=[.nils]) (s':=[(5,(Ae 5 Ao l)),(6,.nils)]) (by kernel_rfl) (by kernel_rfl) ?_
  refine Au 2 [] [0] [] hk0 v0 c0 ?_
  refine Ac ?_
  refine Ab [] [0,7,8,9] ?_
  refine Ay ?_
  refine Sb 1 ?_
  refine F8 ?_
  refine Ab [] [0,7,8,9,10] ?_
  refine Ac ?_
  refine Fc (by kernel_rfl) ?_
  refine Bp ?_
  refine Ab [] [2] ?_
  refine Ag ?_
  refine RK wR [.nils] ?_
  have h0:l=[]:=List.length_eq_zero_iff.1 (hnq1_1 c1)
  subst h0
  exact(Same.nil (f:=Ao)).trans (Rn []).same
 ·try simp only[Am] at c1
  refine Ai ?_
  refine Af [] [2] [] hk0 v0 (cc 2 (p:=((([]:List AV).length+l.length)*72≤140737488355328)) (by(simp;omega))<|c0) ?_
  refine Ag ?_
  refine Hh (.inl rfl) (al:=[(.own 1)]) (s':=[(5,(Ae 5 Ao l)),(6,(.own 1))]) (by kernel_rfl) (by kernel_rfl) ?_
  refine Au 2 [] [0] [] hk0 v0 c0 ?_
  refine Ac ?_
  refine Ab [] [0,7,8,9] ?_
  refine Ay ?_
  refine Bz (fun g y=>∃(i:Nat),i≤l.length∧y=⟨[(0,(.own 1)),(7,(.own 1)),(8,(.int .i64 (((l.map Ao).length:Int)))),(9,(.int .i64 ((i:Int))))],[(1,(.grow (l.map Ao) 25 5))],2⟩∧g=l.length-i) [0,7,8,9] 2 _ (by omega) ⟨0,(by omega),(Eq.trans (b:=(⟨[(0,(.own 1)),(7,(.own 1)),(8,(.int .i64 (((([]:List AV)++((List.range l.length).map (fun kx=>((.agg [(.int .i64 ((nth l kx).kind)),(.str ((nth l kx).name)),(.int .i64 ((nth l kx).op)),(.str ((nth l kx).evr)),(.row 5 (nth l kx).args.length (depAt (nth l kx).args))]):AV)))).length:Int)))),(9,(.int .i64 0))],[(1,(.grow (([]:List AV)++((List.range l.length).map (fun kx=>((.agg [(.int .i64 ((nth l kx).kind)),(.str ((nth l kx).name)),(.int .i64 ((nth l kx).op)),(.str ((nth l kx).evr)),(.row 5 (nth l kx).args.length (depAt (nth l kx).args))]):AV)))) 25 5))],2⟩:St)) (by kernel_rfl) (by rw[show(([]:List AV)++((List.range l.length).map (fun kx=>((.agg [(.int .i64 ((nth l kx).kind)),(.str ((nth l kx).name)),(.int .i64 ((nth l kx).op)),(.str ((nth l kx).evr)),(.row 5 (nth l kx).args.length (depAt (nth l kx).args))]):AV))))=l.map Ao from X0g Ao l];rfl)),rfl⟩ ?_
  rintro g2 y2 ⟨i,f2_1,rfl,rfl⟩
  have hlm:(l.map Ao).length=l.length:=List.length_map _
  refine Ab [] [0,7,8,9,10] ?_
  refine Ac ?_
  refine A5 (p:=(i:Int) < ((l.map Ao).length:Int)) (by kernel_rfl) (fun c2=>?_) (fun c2=>?_)
  ·refine Ai ?_
   refine Ac ?_
   refine Ay ?_
   refine Ac ?_
   refine An ?_
   refine B2 1 0 [] [0,7,8,9,11] [] hk0 v0 c0 ?_
   refine Na (b:=1) (i:=i) (es:=l.map Ao) (e:=25) (sz:=5) (k:=.i64) (s':=[(0,(.own 1)),(7,(.own 1)),(8,(.int .i64 (((l.map Ao).length:Int)))),(9,(.int .i64 ((i:Int)))),(11,(.int .i64 ((i:Int)))),(12,(.op 1 (i*5)))]) (by kernel_rfl) (by kernel_rfl) (by kernel_rfl) (by kernel_rfl) (by kernel_rfl) (by kernel_rfl) (by first|(rw[List.length_map];omega)|simp_all) (by kernel_rfl) ?_
   refine Se (b:=1) (e:=25) (sz:=5) (es:=l.map Ao) (o:=i*5) (i:=i) (j:=0) (a:=(.agg [(.int .i64 ((nth l i).kind)),(.str ((nth l i).name)),(.int .i64 ((nth l i).op)),(.str ((nth l i).evr)),(.row 5 (nth l i).args.length (depAt (nth l i).args))])) (r:=(.agg [(.int .i64 ((nth l i).kind)),(.str ((nth l i).name)),(.int .i64 ((nth l i).op)),(.str ((nth l i).evr)),(.row 5 (nth l i).args.length (depAt (nth l i).args))])) (s':=[(0,(.own 1)),(7,(.own 1)),(8,(.int .i64 (((l.map Ao).length:Int)))),(9,(.int .i64 ((i:Int)))),(11,(.int .i64 ((i:Int)))),(12,(.op 1 (i*5))),(13,(.agg [(.int .i64 ((nth l i).kind)),(.str ((nth l i).name)),(.int .i64 ((nth l i).op)),(.str ((nth l i).evr)),(.row 5 (nth l i).args.length (depAt (nth l i).args))]))]) (by kernel_rfl) (by kernel_rfl) rfl (by kernel_rfl) (Mm (l:=l) Ao (by omega)) (by kernel_rfl) (by kernel_rfl) ?_
   refine Au 3 [] [0,3,4,7,8,9] [] hk0 v0 c0 ?_
   refine An ?_
   refine B2 5 0 [] [0,7,8,9,14,15,18] [(0,4)] (hk 4 J9 (ih i (by omega))<|hk0) (vk 4 17 (Ew (nth l i).args)<|v0) c0 ?_
   refine Na (b:=1) (i:=i) (es:=l.map Ao) (e:=25) (sz:=5) (k:=.i64) (s':=[(0,(.own 1)),(7,(.own 1)),(8,(.int .i64 (((l.map Ao).length:Int)))),(9,(.int .i64 ((i:Int)))),(14,(.own 1)),(15,(.int .i64 ((i:Int)))),(18,(.row 5 ((nth l i).args).length (depAt ((nth l i).args)))),(19,(.op 1 (i*5)))]) (by kernel_rfl) (by kernel_rfl) (by kernel_rfl) (by kernel_rfl) (by kernel_rfl) (by kernel_rfl) (by first|(rw[List.length_map];omega)|simp_all) (by kernel_rfl) ?_
   refine Wi (b:=1) (o:=i*5) (off:=4) (s':=[(0,(.own 1)),(7,(.own 1)),(8,(.int .i64 (((l.map Ao).length:Int)))),(9,(.int .i64 ((i:Int)))),(14,(.own 1)),(15,(.int .i64 ((i:Int)))),(18,(.row 5 ((nth l i).args).length (depAt ((nth l i).args)))),(19,(.op 1 (i*5))),(20,(.op 1 (i*5+4)))]) (by kernel_rfl) (by kernel_rfl) (by kernel_rfl) (by kernel_rfl) ?_
   refine Q6c (b:=1) (e:=25) (sz:=5) (es:=l.map Ao) (o:=i*5+4) (i:=i) (j:=4) (a:=(.agg [(.int .i64 ((nth l i).kind)),(.str ((nth l i).name)),(.int .i64 ((nth l i).op)),(.str ((nth l i).evr)),(.row 5 (nth l i).args.length (depAt (nth l i).args))])) (r:=(.agg [(.int .i64 ((nth l i).kind)),(.str ((nth l i).name)),(.int .i64 ((nth l i).op)),(.str ((nth l i).evr)),(.row 5 ((nth l i).args).length (depAt ((nth l i).args)))])) (v:=(.row 5 ((nth l i).args).length (depAt ((nth l i).args)))) (s':=[(0,(.own 1)),(7,(.own 1)),(8,(.int .i64 (((l.map Ao).length:Int)))),(9,(.int .i64 ((i:Int)))),(14,(.own 1)),(15,(.int .i64 ((i:Int)))),(18,(.row 5 ((nth l i).args).length (depAt ((nth l i).args)))),(19,(.op 1 (i*5))),(20,(.op 1 (i*5+4)))]) (by kernel_rfl) (by kernel_rfl) rfl (by kernel_rfl) (by kernel_rfl) (Mm (l:=l) Ao (by omega)) (by kernel_rfl) (by kernel_rfl) ?_
   refine Cd ?_
   refine An ?_
   refine Au 0 [] [0,7,8,9] [] hk0 v0 (cc 0 (p:=(-9223372036854775808≤(i:Int)+1∧(i:Int)+1≤9223372036854775807)) (by omega)<|c0) ?_
   refine⟨by kernel_rfl,_,?_,i+1,?_,(Eq.trans (b:=(⟨[(0,(.own 1)),(7,(.own 1)),(8,(.int .i64 (((l.map Ao).length:Int)))),(9,(.int .i64 ((i:Int)+1)))],[(1,(.grow ((l.map Ao).set i (.agg [(.int .i64 ((nth l i).kind)),(.str ((nth l i).name)),(.int .i64 ((nth l i).op)),(.str ((nth l i).evr)),(.row 5 ((nth l i).args).length (depAt ((nth l i).args)))])) 25 5))],2⟩:St)) (by kernel_rfl) (congrArg (fun es=>St.mk _ [(1,AO.grow es _ _)] _) (Q77 Ao l i))),rfl⟩
   all_goals omega
  ·refine Bp ?_
   refine Ab [] [2] ?_
   refine Ag ?_
   refine RK wR [(.row 5 (l.map Ao).length (fun ix=>(l.map Ao).getD ix Br))] ?_
   simp only[Ak]
   exact(Same.grown (f:=Ao) (l:=l) rfl).trans (Rn l).same
theorem X0h (l:List DepT):argsSize l≤4194304→FnV Tryz.prog 113 [D4 l] (.row 5 l.length (depAt l)):=by
 have key:∀n (l:List DepT),argsSize l≤n→argsSize l≤4194304→FnV Tryz.prog 113 [D4 l] (.row 5 l.length (depAt l)):=by
  intro n
  induction n with
  |zero=>exact fun l h hs=>Zr l hs fun i hi=>by have:=Q5f hi;omega
  |succ n ih=>exact fun l h hs=>Zr l hs fun i hi=>by have:=Q5f hi;exact ih _ (by omega) (by omega)
 exact key _ l (Nat.le_refl _)
theorem K2 (l:List DepT) (hs:argsSize l≤4194304):FnV Tryz.prog 113 [D4 l] (D4 l):=(X0h l hs).to (Ew l).same
theorem Q4l (p : PkgT) (hs : p.depSize ≤ 4194304) (hf : p.files.length ≤ 4611686018427) :
  FnV Tryz.prog 50 [(Av p)] (Av p):=by
 unfold PkgT.depSize at hs
 refine A8 [.cell 2 38] Tryz.func50 rfl Tryz.ntmps50 rfl rfl (fun B F hF=>?_)
 refine Ab [] [1,2] ?_
 refine Ac ?_
 refine Ac ?_
 refine An ?_
 refine Km [.tmp 2] (al:=[(.ptr 0 0)]) (s0:=[(1,(.ptr 0 0)),(2,(.ptr 1 0))]) (by kernel_rfl) (by exact Q35) (by kernel_rfl) Tryz.func112 rfl Tryz.ntmps112 rfl (by kernel_rfl) (by kernel_rfl) (fun F1 hF1 hle1=>?_)
 refine Ab [] [0] ?_
 refine Cr [] [2] [] hk0 v0 c0 ?_
 refine Ag ?_
 refine Hh (.inl rfl) (al:=[(.sl 2 0 7 7 false)]) (s':=[(1,(.ptr 0 0)),(2,(.ptr 1 0)),(5,(.sl 2 0 7 7 false))]) (by kernel_rfl) (by kernel_rfl) ?_
 refine Au 1 [] [1,2,5,6,7] [] hk0 v0 c0 ?_
 refine Ay ?_
 refine Sb 8 ?_
 refine F8 ?_
 refine Ab [] [1,2,5,6,7,8] ?_
 refine Ac ?_
 refine G8 (by kernel_rfl) ?_
 refine Ai ?_
 refine Ac ?_
 refine Ay ?_
 refine Ab [] [1,2,4,5,6,7] ?_
 refine An ?_
 refine Au 0 [] [1,2,5,6,7] [] (hk 4 J9 (K2 p.provides (by omega))<|hk0) v0 c0 ?_
 refine An ?_
 refine Au 0 [] [1,2,5,6,7] [] hk0 v0 (cc 0 (p:=(-9223372036854775808≤(1:Int)∧(1:Int)≤9223372036854775807)) (by omega)<|c0) ?_
 refine F8 ?_
 refine Ab [] [1,2,5,6,7,8] ?_
 refine Ac ?_
 refine G8 (by kernel_rfl) ?_
 refine Ai ?_
 refine Ac ?_
 refine Ay ?_
 refine Ab [] [1,2,4,5,6,7] ?_
 refine An ?_
 refine Au 0 [] [1,2,5,6,7] [] (hk 4 J9 (K2 p.requires (by omega))<|hk0) v0 c0 ?_
 refine An ?_
 refine Au 0 [] [1,2,5,6,7] [] hk0 v0 (cc 0 (p:=(-9223372036854775808≤(2:Int)∧(2:Int)≤9223372036854775807)) (by omega)<|c0) ?_
 refine F8 ?_
 refine Ab [] [1,2,5,6,7,8] ?_
 refine Ac ?_
 refine G8 (by kernel_rfl) ?_
 refine Ai ?_
 refine Ac ?_
 refine Ay ?_
 refine Ab [] [1,2,4,5,6,7] ?_
 refine An ?_
 refine Au 0 [] [1,2,5,6,7] [] (hk 4 J9 (K2 p.pre (by omega))<|hk0) v0 c0 ?_
 refine An ?_
 refine Au 0 [] [1,2,5,6,7] [] hk0 v0 (cc 0 (p:=(-9223372036854775808≤(3:Int)∧(3:Int)≤9223372036854775807)) (by omega)<|c0) ?_
 refine F8 ?_
 refine Ab [] [1,2,5,6,7,8] ?_
 refine Ac ?_
 refine G8 (by kernel_rfl) ?_
 refine Ai ?_
 refine Ac ?_
 refine Ay ?_
 refine Ab [] [1,2,4,5,6,7] ?_
 refine An ?_
 refine Au 0 [] [1,2,5,6,7] [] (hk 4 J9 (K2 p.conflicts (by omega))<|hk0) v0 c0 ?_
 refine An ?_
 refine Au 0 [] [1,2,5,6,7] [] hk0 v0 (cc 0 (p:=(-9223372036854775808≤(4:Int)∧(4:Int)≤9223372036854775807)) (by omega)<|c0) ?_
 refine F8 ?_
 refine Ab [] [1,2,5,6,7,8] ?_
 refine Ac ?_
 refine G8 (by kernel_rfl) ?_
 refine Ai ?_
 refine Ac ?_
 refine Ay ?_
 refine Ab [] [1,2,4,5,6,7] ?_
 refine An ?_
 refine Au 0 [] [1,2,5,6,7] [] (hk 4 J9 (K2 p.obsoletes (by omega))<|hk0) v0 c0 ?_
 refine An ?_
 refine Au 0 [] [1,2,5,6,7] [] hk0 v0 (cc 0 (p:=(-9223372036854775808≤(5:Int)∧(5:Int)≤9223372036854775807)) (by omega)<|c0) ?_
 refine F8 ?_
 refine Ab [] [1,2,5,6,7,8] ?_
 refine Ac ?_
 refine G8 (by kernel_rfl) ?_
 refine Ai ?_
 refine Ac ?_
 refine Ay ?_
 refine Ab [] [1,2,4,5,6,7] ?_
 refine An ?_
 refine Au 0 [] [1,2,5,6,7] [] (hk 4 J9 (K2 p.recommends (by omega))<|hk0) v0 c0 ?_
 refine An ?_
 refine Au 0 [] [1,2,5,6,7] [] hk0 v0 (cc 0 (p:=(-9223372036854775808≤(6:Int)∧(6:Int)≤9223372036854775807)) (by omega)<|c0) ?_
 refine F8 ?_
 refine Ab [] [1,2,5,6,7,8] ?_
 refine Ac ?_
 refine G8 (by kernel_rfl) ?_
 refine Ai ?_
 refine Ac ?_
 refine Ay ?_
 refine Ab [] [1,2,4,5,6,7] ?_
 refine An ?_
 refine Au 0 [] [1,2,5,6,7] [] (hk 4 J9 (K2 p.supplements (by omega))<|hk0) v0 c0 ?_
 refine An ?_
 refine Au 0 [] [1,2,5,6,7] [] hk0 v0 (cc 0 (p:=(-9223372036854775808≤(7:Int)∧(7:Int)≤9223372036854775807)) (by omega)<|c0) ?_
 refine F8 ?_
 refine Ab [] [1,2,5,6,7,8] ?_
 refine Ac ?_
 refine Fc (by kernel_rfl) ?_
 refine Bp ?_
 refine Af [] [1,2] [] (hk 2 X6d (X7a p.files hf)<|hk0) v0 c0 ?_
 refine Ab [] [2] ?_
 refine Ag ?_
 refine RK wR [(Av p)] ?_
 exact Same.of_eq rfl
end Sv
end
section
open Go Go.RowKit
namespace Sv
theorem Q1r {l:List UInt8} {p:Nat→Bool} (hp:∀r,128≤r→p r=true):∀(fuel pos:Nat),l.length≤pos+fuel→decide (Lib.idxFuncFrom p true ⟨l.toArray⟩ fuel pos < 0)=(l.drop pos).all (fun b => !p b.toNat)
  |0,pos,h=>by
    rw[List.drop_of_length_le (by omega)];rfl
  |fuel+1,pos,h=>by
    have hsz:(⟨l.toArray⟩:ByteArray).size=l.length:=Hn l
    by_cases hpos:pos < l.length
    · have hdrop : l.drop pos = Aj l pos :: l.drop (pos + 1) := by
        rw[List.drop_eq_getElem_cons hpos,Kc hpos]
      rw[hdrop,List.all_cons]
      simp only[Lib.idxFuncFrom,hsz,hpos,if_true]
      by_cases ha:(Aj l pos).toNat < 128
      · rw[X6v hpos ha]
        simp only
        cases hc:p (Aj l pos).toNat with
        |true=>simp
        |false =>
          have:=Q1r (l:=l) hp fuel (pos+1) (by omega)
          simpa using this
      · have hh:=X6u hpos (by omega)
        have h1:=hp _ hh.1
        have h2:=hp (Aj l pos).toNat (by omega)
        rw[h1,h2];simp
    · rw[List.drop_of_length_le (by omega)]
      have:¬pos < (⟨l.toArray⟩:ByteArray).size:=by rw[hsz];exact hpos
      simp[Lib.idxFuncFrom,this]
theorem X27 {l:List UInt8} {p:Nat→Bool} (hp:∀r,128≤r→p r=true):decide (Lib.idxFunc p true ⟨l.toArray⟩ < 0)=l.all (fun b => !p b.toNat):=by
  have:=Q1r (l:=l) hp l.length 0 (by omega)
  rw[List.drop_zero] at this
  rw[←this]
  unfold Lib.idxFunc
  rw[show(⟨l.toArray⟩:ByteArray).size=l.length from Hn l]
theorem X93 (s : List UInt8) (g : Nat) (cap : List AV) (p : Nat → Bool) (he : As Tryz.prog g) (hc : frzl cap = true) (h : ∀ x : Nat, x ≤ 1114111 → FnV Tryz.prog g (.int .i32 x :: cap) (.bool (p x))) :
    FnV Tryz.prog 105 [.str s,.fn g [] cap] (.int .i64 (Lib.idxFunc p true ⟨s.toArray⟩)):=by
  intro F w vs hF hv
  obtain⟨v,r1,rfl,h1,hv⟩:=hv.cons_inv
  obtain⟨v2,rfl,h2⟩:=hv.single_inv
  simp only[VR] at h1 h2
  subst h1
  obtain⟨vf,vc,q1,q2,rfl⟩:=h2
  rw[q1.nil_inv]
  refine(Tryz.strings_IndexFunc_grows g vc.toArray (fun args w=>he args w) p ⟨s.toArray⟩ w ?_).mono ?_
  · intro W x hx hb
    have hF':Fro F W:=fun b o e=>(hb.block b (Ft (hF b o e))).trans (hF b o e)
    have key:Calls Tryz.prog g (Value.int .i32 x::vc).toArray W (fun e w'=>e = .returned (.bool (p x))∧Below W.heap.size W w'):=by
      refine(h x hx F W (.int .i32 x::vc) hF' (.cons (by simp only[VR]) q2)).mono ?_
      rintro e w' ⟨v,he,hb',F',_,_,_,hr⟩
      simp only[VR] at hr;subst hr
      exact⟨he,hb'⟩
    have e:(#[Proofs.encR x]++vc.toArray)=(Value.int .i32 x::vc).toArray:=by apply Array.ext';simp[Proofs.encR]
    rw[e];exact key
  · rintro e w' ⟨he,hb⟩
    exact⟨_,he,hb,F,fun _ _ e=>e,fun b o e=>(hb.block b (Ft (hF b o e))).trans (hF b o e),fun _ _ e => .inl e,by simp only[VR]⟩
theorem Pd (s:List UInt8) (c:UInt8) (hl:s.length≤9223372036854775807):FnV Tryz.prog 111 [.str s,.str [c]] (.bool (Bb s c)):=by
  intro F w vs hF hv
  obtain⟨v,r1,rfl,h1,hv⟩:=hv.cons_inv
  obtain⟨v2,rfl,h2⟩:=hv.single_inv
  simp only[VR] at h1 h2
  subst h1 h2
  refine(X97 s c w hl).mono ?_
  rintro e w' ⟨v,he,rfl,rfl⟩
  exact⟨_,he,Below.refl _ _,F,fun _ _ e=>e,hF,fun _ _ e => .inl e,by simp only[VR]⟩
theorem X1t {l:List UInt8} (h:B1 l=true):0 < l.length:=by
  cases l with
  |nil=>exact absurd h (by decide)
  |cons a r=>simp
theorem X73 {α:Type} {l:List α} (p:α→Bool):(l.any fun x => !p x) = !l.all p:=by
  induction l with
  |nil=>rfl
  |cons a r ih=>simp only[List.any_cons,List.all_cons,ih,Bool.not_and]
end Sv
end
section
open Go Go.RowKit
namespace Sv
attribute [local irreducible] SW SO Bs
set_option maxHeartbeats 1000000
set_option maxRecDepth 100000
end Sv
end
section
open Go Go.RowKit
namespace Sv
attribute [local irreducible] SW SO Bs
set_option maxHeartbeats 400000
set_option maxRecDepth 100000
end Sv
end
section
open Go Go.RowKit
namespace Sv
set_option maxHeartbeats 400000
set_option maxRecDepth 100000
section
variable {P : Program} {ds : List Deferred}
variable {B : Bas} {F : Cx} {n : Nat} {K : Exit → St → Prop} {x : St}
def SWD (P:Program) (ds:List Deferred) (n:Nat) (c:Code) (B:Bas) (F:Cx) (K:Exit→St→Prop) (x:St):Prop:=∀φ σ w,Holds B F n x φ σ w→D.W P ds n c (Mz B F n K) σ w
end
attribute [local irreducible] SW SO SWD Bs
end Sv
end
section
open Go Go.RowKit
namespace Sv
attribute [local irreducible] SW SO Bs
set_option maxHeartbeats 1000000
set_option maxRecDepth 100000
theorem X5h:As Tryz.prog 167:=Az Tryz.func167 (by kernel_rfl) rfl
theorem X6g:As Tryz.prog 109:=Az Tryz.func109 (by kernel_rfl) rfl
theorem Q3u:As Tryz.prog 168:=Az Tryz.func168 (by kernel_rfl) rfl
theorem Mx:As Tryz.prog 111:=Az Tryz.func111 (by kernel_rfl) rfl
theorem X6j:As Tryz.prog 105:=Az Tryz.func105 (by kernel_rfl) rfl
theorem Os:As Tryz.prog 45:=Az Tryz.func45 (by kernel_rfl) rfl
theorem On:As Tryz.prog 96:=Az Tryz.func96 (by kernel_rfl) rfl
theorem Ou:As Tryz.prog 107:=Az Tryz.func107 (by kernel_rfl) rfl
theorem Ot:As Tryz.prog 153:=Az Tryz.func153 (by kernel_rfl) rfl
theorem U3:As Tryz.prog 95:=Az Tryz.func95 (by kernel_rfl) rfl
theorem Q25:As Tryz.prog 51:=Az Tryz.func51 (by kernel_rfl) rfl
theorem X6h:As Tryz.prog 108:=Az Tryz.func108 (by kernel_rfl) rfl
theorem X4t:As Tryz.prog 49:=Az Tryz.func49 (by kernel_rfl) rfl
theorem X6l:As Tryz.prog 102:=Az Tryz.func102 (by kernel_rfl) rfl
theorem X6k:As Tryz.prog 103:=Az Tryz.func103 (by kernel_rfl) rfl
theorem Q36:As Tryz.prog 104:=Az Tryz.func104 (by kernel_rfl) rfl
theorem X6i:As Tryz.prog 106:=Az Tryz.func106 (by kernel_rfl) rfl
theorem X6e:As Tryz.prog 110:=Az Tryz.func110 (by kernel_rfl) rfl
theorem X5q:As Tryz.prog 154:=Az Tryz.func154 (by kernel_rfl) rfl
theorem X5p:As Tryz.prog 155:=Az Tryz.func155 (by kernel_rfl) rfl
theorem X48:As Tryz.prog 194:=Az Tryz.func194 (by kernel_rfl) rfl
theorem X5o:As Tryz.prog 156:=Az Tryz.func156 (by kernel_rfl) rfl
theorem X5n:As Tryz.prog 157:=Az Tryz.func157 (by kernel_rfl) rfl
theorem X4c:As Tryz.prog 97:=Az Tryz.func97 (by kernel_rfl) rfl
theorem Q7g (l : List (List UInt8)) (a : AV) (p : (List UInt8) → Bool) (hl : l.length ≤ 4611686018427387904) (ha : ∀ i, i < l.length → FunV Tryz.prog a [(.str (nth l i))] (.bool (p (nth l i)))) :
  FnV Tryz.prog 167 [(Di l),(.clo a)] (.int .i64 (B8 p l)):=by
 refine A8 [.tmp 4] Tryz.func167 rfl Tryz.ntmps167 rfl rfl (fun B F hF=>?_)
 refine Ab [] [0,1] ?_
 refine Ac ?_
 refine Ab [] [0,1,7,8] ?_
 refine Ay ?_
 refine Bz (fun g y=>∃(i:Nat),i≤l.length∧(∀j,j < i→p (nth l j)=false)∧y=⟨[(0,(Di l)),(1,(.clo a)),(7,(.int .i64 ((l.length:Int)))),(8,(.int .i64 ((i:Int))))],[],0⟩∧g=l.length-i) [0,1,7,8] 0 _ (by omega) ⟨0,(by omega),(by exact fun j hj=>by omega),(by kernel_rfl),rfl⟩ ?_
 rintro g1 y1 ⟨i,f1_1,f1_2,rfl,rfl⟩
 refine Ab [] [0,1,7,8,9] ?_
 refine Ac ?_
 refine A5 (p:=(i:Int) < (l.length:Int)) (by kernel_rfl) (fun c1=>?_) (fun c1=>?_)
 ·refine Ai ?_
  refine Ac ?_
  refine Ay ?_
  refine Ab [] [0,1,5,7,8] ?_
  refine Ac ?_
  refine An ?_
  refine B2 5 0 [] [0,1,5,7,8,11,15] [] hk0 v0 (cc 3 (p:=(0≤(i:Int)∧i < l.length)) (by omega)<|c0) ?_
  refine F9 (s':=[(0,(Di l)),(1,(.clo a)),(5,(.int .i64 ((i:Int)))),(7,(.int .i64 ((l.length:Int)))),(8,(.int .i64 ((i:Int)))),(11,(.clo a)),(15,(.str (nth l i))),(16,(.bool (p (nth l i))))]) (a:=(.clo a)) (al:=[(.str (nth l i))]) (r:=(.bool (p (nth l i)))) (by kernel_rfl) (by kernel_rfl) (by kernel_rfl) (by kernel_rfl) (by kernel_rfl) ((ha i (by omega)).clo) (by kernel_rfl) ?_
  refine Cd ?_
  refine Bd (q:=p (nth l i)) (by kernel_rfl) (fun c2=>?_) (fun c2=>?_)
  ·try simp only[Am] at c2
   refine Ab [] [4] ?_
   refine Ag ?_
   refine RK wR [(.int .i64 ((i:Int)))] ?_
   exact Same.of_eq (by rw[J5 (by omega) f1_2 (by simp_all)];rfl)
  ·try simp only[Am] at c2
   refine Ai ?_
   refine An ?_
   refine Au 0 [] [0,1,7,8] [] hk0 v0 (cc 0 (p:=(-9223372036854775808≤(i:Int)+1∧(i:Int)+1≤9223372036854775807)) (by omega)<|c0) ?_
   refine⟨by kernel_rfl,_,?_,i+1,?_,?_,(by kernel_rfl),rfl⟩
   ·omega
   ·omega
   ·intro j hj
    by_cases h:j=i
    ·subst h;simp_all
    ·exact f1_2 j (by omega)
 ·refine Bp ?_
  refine Ab [] [4] ?_
  refine Ag ?_
  refine RK wR [(.int .i64 (-1))] ?_
  exact Same.of_eq (by rw[J4 (fun j hj=>f1_2 j (by omega))];rfl)
theorem Q7h (l : List (List UInt8)) (a : AV) (p : (List UInt8) → Bool) (hl : l.length ≤ 4611686018427387904) (ha : ∀ i, i < l.length → FunV Tryz.prog a [(.str (nth l i))] (.bool (p (nth l i)))) :
  FnV Tryz.prog 109 [(Di l),(.clo a)] (.bool (l.any p)):=by
 refine A8 [.tmp 4] Tryz.func109 rfl Tryz.ntmps109 rfl rfl (fun B F hF=>?_)
 refine Ab [] [0,1] ?_
 refine Af [] [4] [] (hk 2 X5h (Q7g l a p hl ha)<|hk0) v0 c0 ?_
 refine Ag ?_
 refine RK wR [(.bool (decide (0≤(B8 p l))))] ?_
 exact Same.of_eq (by simp only[Ak];rw[Lb])
def F5 (i:Nat) (d:DepT):Bool:=decide (Cu d=0)&&((!(i == 0||i == 4))||decide (d.kind=1))&&((!(i == 0))||decide (d.op=0)||decide (d.op=2))
def Dz (i:Nat) (l:List DepT):Bool:=decide (l.length≤16)&&l.all (F5 i)
def Ex (p:PkgT):Bool:=Dz 0 p.provides&&Dz 1 p.requires&&Dz 2 p.pre&&Dz 3 p.conflicts&&Dz 4 p.obsoletes&&Dz 5 p.recommends&&Dz 6 p.supplements
theorem all_nth {α:Type} [Inhabited α] {p:α→Bool} {l:List α}:l.all p=true↔∀j,j < l.length→p (nth l j)=true:=by
 constructor
 ·intro h j hj
  rw[show nth l j=l[j] by simp[nth,hj]];exact List.all_eq_true.1 h _ (List.getElem_mem hj)
 ·intro h
  refine List.all_eq_true.2 fun x hx=>?_
  obtain⟨j,hj,rfl⟩:=List.getElem_of_mem hx
  have:=h j hj
  rwa [show nth l j=l[j] by simp[nth,hj]] at this
theorem Q06 {i:Nat} {l:List DepT} {k:Nat} (h:l.length≤16) (hk:l.length≤k) (h2:∀j,j < k→F5 i (nth l j)=true):Dz i l=true:=by
 unfold Dz
 rw[all_nth.2 fun j hj=>h2 j (by omega),decide_eq_true h];rfl
def PkgT.list (p:PkgT):Nat→List DepT
 |0=>p.provides
 |1=>p.requires
 |2=>p.pre
 |3=>p.conflicts
 |4=>p.obsoletes
 |5=>p.recommends
 |_=>p.supplements
theorem Q4c {p:PkgT} (i:Nat) (hi:i < 7) (h:Dz i (PkgT.list p i)=false):Ex p=false:=by
 have:i=0∨i=1∨i=2∨i=3∨i=4∨i=5∨i=6:=by omega
 rcases this with rfl|rfl|rfl|rfl|rfl|rfl|rfl<;>(unfold Ex;simp only[PkgT.list] at h;simp[h])
theorem Q4d {p:PkgT} (i:Nat) (hi:i < 7) (h:16 < (PkgT.list p i).length):Ex p=false:=Q4c i hi (by unfold Dz;rw[decide_eq_false (by omega)];rfl)
theorem Ro {p:PkgT} (i:Nat) {j:Nat} (hi:i < 7) (hj:j < (PkgT.list p i).length) (h:F5 i (nth (PkgT.list p i) j)=false):Ex p=false:=Q4c i hi (by
 unfold Dz
 have:(PkgT.list p i).all (F5 i)=false:=by
  cases hq:(PkgT.list p i).all (F5 i) with
  |false=>rfl
  |true=>rw[all_nth.1 hq j hj] at h;cases h
 rw[this,Bool.and_false])
theorem X6q {p:PkgT} (h0:Dz 0 p.provides=true) (h1:Dz 1 p.requires=true) (h2:Dz 2 p.pre=true) (h3:Dz 3 p.conflicts=true) (h4:Dz 4 p.obsoletes=true) (h5:Dz 5 p.recommends=true) (h6:Dz 6 p.supplements=true):Ex p=true:=by
 unfold Ex;rw[h0,h1,h2,h3,h4,h5,h6];rfl
theorem Pp {i:Nat} (h:i < 7):i=0∨i=1∨i=2∨i=3∨i=4∨i=5∨i=6:=by omega
theorem Q4e {p:PkgT} (h:∀j,j < 7→Dz j (PkgT.list p j)=true):Ex p=true:=X6q (h 0 (by omega)) (h 1 (by omega)) (h 2 (by omega)) (h 3 (by omega)) (h 4 (by omega)) (h 5 (by omega)) (h 6 (by omega))
theorem Q04 {p:PkgT} (h:p.depSize≤4194304) {i k:Nat} (hi:i < 7) (hk:k < (PkgT.list p i).length):(nth (PkgT.list p i) k).size≤4194304:=by
 have h1:=Ke hk
 unfold PkgT.depSize at h
 rcases Pp hi with rfl|rfl|rfl|rfl|rfl|rfl|rfl<;>(simp only[PkgT.list] at h1 ⊢;omega)
theorem Q05 {p:PkgT} (h:p.depSize≤4194304) {i:Nat} (hi:i < 7):(PkgT.list p i).length≤4194304:=by
 unfold PkgT.depSize at h
 have h0:=Dw p.provides
 have h1:=Dw p.requires
 have h2:=Dw p.pre
 have h3:=Dw p.conflicts
 have h4:=Dw p.obsoletes
 have h5:=Dw p.recommends
 have h6:=Dw p.supplements
 rcases Pp hi with rfl|rfl|rfl|rfl|rfl|rfl|rfl<;>(simp only[PkgT.list];omega)
theorem X2g (p : PkgT) :
  FnV Tryz.prog 112 [(.fp (Av p))] (.row 1 7 (fun i => .fp (Ae 5 Ao (PkgT.list p i)))):=by
 refine A8 [.tmp 2] Tryz.func112 rfl Tryz.ntmps112 rfl rfl (fun B F hF=>?_)
 refine Ab [] [0] ?_
 refine Cr [] [2] [] hk0 v0 c0 ?_
 refine Ag ?_
 refine RK wR [(.row 1 7 (fun ix=>(Fh 1 7 [(.fp (Ae 5 Ao p.provides)),(.fp (Ae 5 Ao p.requires)),(.fp (Ae 5 Ao p.pre)),(.fp (Ae 5 Ao p.conflicts)),(.fp (Ae 5 Ao p.obsoletes)),(.fp (Ae 5 Ao p.recommends)),(.fp (Ae 5 Ao p.supplements))]).getD ix Br))] ?_
 simp only[Ak]
 exact(Imp.row fun i hi=>Imp.of_eq (by rcases Pp hi with rfl|rfl|rfl|rfl|rfl|rfl|rfl<;>rfl)).same
theorem Q85 (p : PkgT) :
  FnV Tryz.prog 194 [(Av p)] (.row 1 7 (fun i=>Ae 5 Ao (PkgT.list p i))):=by
 refine A8 [.tmp 2] Tryz.func194 rfl Tryz.ntmps194 rfl rfl (fun B F hF=>?_)
 refine Af [] [1] [(1,1)] hk0 v0 c0 ?_
 refine Ab [] [2] ?_
 refine Ag ?_
 refine RK wR [(.row 1 7 (fun ix=>(Fh 1 7 [(Ae 5 Ao p.provides),(Ae 5 Ao p.requires),(Ae 5 Ao p.pre),(Ae 5 Ao p.conflicts),(Ae 5 Ao p.obsoletes),(Ae 5 Ao p.recommends),(Ae 5 Ao p.supplements)]).getD ix Br))] ?_
 simp only[Ak]
 exact(Imp.row fun i hi=>Imp.of_eq (by rcases Pp hi with rfl|rfl|rfl|rfl|rfl|rfl|rfl<;>rfl)).same
theorem X6p (p : PkgT) (hs : p.depSize ≤ 4194304) :
  FnV Tryz.prog 108 [(Av p)] (.bool (Ex p)):=by
 refine A8 [.tmp 2] Tryz.func108 rfl Tryz.ntmps108 rfl rfl (fun B F hF=>?_)
 refine Af [] [1] [(1,1)] hk0 v0 c0 ?_
 refine Ac ?_
 refine Af [] [8,9,10] [] (hk 0 Q35 (X2g p)<|hk0) v0 c0 ?_
 refine Ay ?_
 refine Bz (fun g y=>∃(i:Nat),i≤7∧(∀j,j < i→Dz j (PkgT.list p j)=true)∧y=⟨[(8,(.row 1 7 (fun i => .fp (Ae 5 Ao (PkgT.list p i))))),(9,(.int .i64 7)),(10,(.int .i64 ((i:Int))))],[],1⟩∧g=7-i) [8,9,10] 1 _ (by omega) ⟨0,(by omega),(by exact fun j hj=>by omega),(by kernel_rfl),rfl⟩ ?_
 rintro g1 y1 ⟨i,f1_1,f1_2,rfl,rfl⟩
 refine Ab [] [8,9,10,11] ?_
 refine Ac ?_
 refine A5 (p:=(i:Int) < 7) (by kernel_rfl) (fun c1=>?_) (fun c1=>?_)
 ·have hi0:((i:Int)=0)=(i=0):=by rw[eq_iff_iff];omega
  have hi4:((i:Int)=4)=(i=4):=by rw[eq_iff_iff];omega
  have hll:=Q05 hs (i:=i) (by omega)
  refine Ai ?_
  refine Ac ?_
  refine Ay ?_
  refine Af [] [3,4,8,9,10] [] hk0 v0 (cc 1 (p:=(0≤(i:Int)∧i < 7)) (by omega)<|c0) ?_
  refine Ac ?_
  refine Ab [] [3,4,8,9,10,19] ?_
  refine A5 (p:=16 < ((PkgT.list p i).length:Int)) (by kernel_rfl) (fun c2=>?_) (fun c2=>?_)
  ·refine Ab [] [2] ?_
   refine Ag ?_
   refine RK wR [(.bool false)] ?_
   exact Same.of_eq (by rw[Q4d i (by omega) (by omega)];rfl)
  ·refine Ai ?_
   refine Ab [] [3,8,9,10,22,23,24] ?_
   refine Ay ?_
   refine Bz (fun g y=>∃(k:Nat),k≤(PkgT.list p i).length∧(∀j,j < k→F5 i (nth (PkgT.list p i) j)=true)∧y=⟨[(3,(.int .i64 ((i:Int)))),(8,(.row 1 7 (fun i => .fp (Ae 5 Ao (PkgT.list p i))))),(9,(.int .i64 7)),(10,(.int .i64 ((i:Int)))),(22,(Ae 5 Ao (PkgT.list p i))),(23,(.int .i64 (((PkgT.list p i).length:Int)))),(24,(.int .i64 ((k:Int))))],[],1⟩∧g=(PkgT.list p i).length-k) [3,8,9,10,22,23,24] 1 _ (by omega) ⟨0,(by omega),(by exact fun j hj=>by omega),(by kernel_rfl),rfl⟩ ?_
   rintro g2 y2 ⟨k,f2_1,f2_2,rfl,rfl⟩
   refine Ab [] [3,8,9,10,22,23,24,25] ?_
   refine Ac ?_
   refine A5 (p:=(k:Int) < ((PkgT.list p i).length:Int)) (by kernel_rfl) (fun c3=>?_) (fun c3=>?_)
   ·refine Ai ?_
    refine Ac ?_
    refine Ay ?_
    refine Af [] [3,6,8,9,10,22,23,24] [] hk0 v0 (cc 0 (p:=(0≤(k:Int)∧k < (PkgT.list p i).length)) (by omega)<|c0) ?_
    obtain⟨b1,hb1⟩:∃b,b=(!decide ((i:Int)=0)):=⟨_,rfl⟩
    obtain⟨b2,hb2⟩:∃b,b=(b1&&(!decide ((i:Int)=4))):=⟨_,rfl⟩
    obtain⟨b3,hb3⟩:∃b,b=(b2||(decide (((nth (PkgT.list p i) k).kind)=1))):=⟨_,rfl⟩
    have qh1:((b1=true→b1=true))∧((b1=true→b1=true))∧(((!b2)=true→(!b2)=true))∧(((!b2)=true→(!b2)=true))∧((b2=false→(!b2)=true)):=by
     first|omega|(simp;done)|(by_cases a1:Cu (nth (PkgT.list p i) k)=0<;>by_cases a2:DepT.kind (nth (PkgT.list p i) k)=1<;>by_cases a3:DepT.op (nth (PkgT.list p i) k)=0<;>by_cases a4:DepT.op (nth (PkgT.list p i) k)=2<;>by_cases b0:i=0<;>by_cases b4:i=4<;>simp_all)
    refine Af [31,32,35,36,37] [3,6,7,8,9,10,22,23,24] [(0,6)] hk0 (vk 3 30 (a:=.bool (!decide ((i:Int)=0))) (b:=.bool b1) (Imp.of_eq (by rw[hb1]))<|vk 7 34 (a:=.bool (b1&&(!decide ((i:Int)=4)))) (b:=.bool b2) (Imp.of_eq (by rw[hb2]))<|vk 11 38 (a:=.bool (b2||(decide (((nth (PkgT.list p i) k).kind)=1)))) (b:=.bool b3) (Imp.of_eq (by rw[hb3]))<|v0) (cc 4 (p:=(b1=true→b1=true)) qh1.1<|cc 5 (p:=(b1=true→b1=true)) qh1.2.1<|cc 8 (p:=((!b2)=true→(!b2)=true)) qh1.2.2.1<|cc 9 (p:=((!b2)=true→(!b2)=true)) qh1.2.2.2.1<|cc 10 (p:=(b2=false→(!b2)=true)) qh1.2.2.2.2<|c0) ?_
    obtain⟨b4,hb4⟩:∃b,b=((!b3)||(!decide ((Cu (nth (PkgT.list p i) k))=0))):=⟨_,rfl⟩
    have qh2:(((!(!b3))=true→(!(!b3))=true))∧(((!b3)=false→(!(!b3))=true))∧(((!b4)=true→(!b4)=true))∧(((!b4)=true→(!b4)=true))∧((((!b4)&&(decide ((i:Int)=0)))=true→((!b4)&&(decide ((i:Int)=0)))=true))∧((((!b4)&&(decide ((i:Int)=0)))=true→((!b4)&&(decide ((i:Int)=0)))=true))∧(((!b4)=true→((!b4)=true)∧((decide ((i:Int)=0))=true→((!b4)&&(decide ((i:Int)=0)))=true)))∧(((!b4)=true→(!b4)=true))∧((((!b4)&&((decide ((i:Int)=0))&&(!decide (((nth (PkgT.list p i) k).op)=0))))=true→((!b4)&&((decide ((i:Int)=0))&&(!decide (((nth (PkgT.list p i) k).op)=0))))=true))∧((((!b4)&&((decide ((i:Int)=0))&&(!decide (((nth (PkgT.list p i) k).op)=0))))=true→((!b4)&&((decide ((i:Int)=0))&&(!decide (((nth (PkgT.list p i) k).op)=0))))=true))∧(((!b4)=true→((!b4)=true)∧(((decide ((i:Int)=0))&&(!decide (((nth (PkgT.list p i) k).op)=0)))=true→((!b4)&&((decide ((i:Int)=0))&&(!decide (((nth (PkgT.list p i) k).op)=0))))=true)))∧((b4=false→(!b4)=true)):=by
     first|omega|(simp;done)|(by_cases a1:Cu (nth (PkgT.list p i) k)=0<;>by_cases a2:DepT.kind (nth (PkgT.list p i) k)=1<;>by_cases a3:DepT.op (nth (PkgT.list p i) k)=0<;>by_cases a4:DepT.op (nth (PkgT.list p i) k)=2<;>by_cases b0:i=0<;>by_cases b4:i=4<;>simp_all)
    refine Af [42,44,47,48,49,50,51,52,53,54,55,56,57,58] [3,8,9,10,22,23,24,59] [] (hkg 4 (!(!b3)) U3 (fun cg=>Q6v (nth (PkgT.list p i) k) (Q04 hs (by omega) (by omega)))<|hk0) (vk 7 45 (a:=.bool ((!b3)||(!decide ((Cu (nth (PkgT.list p i) k))=0)))) (b:=.bool b4) (Imp.of_eq (by rw[hb4]))<|v0) (cc 4 (p:=(!(!b3))=true→(!(!b3))=true) (by simp)<|cc 5 (p:=((!(!b3))=true→(!(!b3))=true)) qh2.1<|cc 6 (p:=((!b3)=false→(!(!b3))=true)) qh2.2.1<|cc 9 (p:=((!b4)=true→(!b4)=true)) qh2.2.2.1<|cc 10 (p:=((!b4)=true→(!b4)=true)) qh2.2.2.2.1<|cc 12 (p:=(((!b4)&&(decide ((i:Int)=0)))=true→((!b4)&&(decide ((i:Int)=0)))=true)) qh2.2.2.2.2.1<|cc 13 (p:=(((!b4)&&(decide ((i:Int)=0)))=true→((!b4)&&(decide ((i:Int)=0)))=true)) qh2.2.2.2.2.2.1<|cc 14 (p:=((!b4)=true→((!b4)=true)∧((decide ((i:Int)=0))=true→((!b4)&&(decide ((i:Int)=0)))=true))) qh2.2.2.2.2.2.2.1<|cc 15 (p:=((!b4)=true→(!b4)=true)) qh2.2.2.2.2.2.2.2.1<|cc 17 (p:=(((!b4)&&((decide ((i:Int)=0))&&(!decide (((nth (PkgT.list p i) k).op)=0))))=true→((!b4)&&((decide ((i:Int)=0))&&(!decide (((nth (PkgT.list p i) k).op)=0))))=true)) qh2.2.2.2.2.2.2.2.2.1<|cc 18 (p:=(((!b4)&&((decide ((i:Int)=0))&&(!decide (((nth (PkgT.list p i) k).op)=0))))=true→((!b4)&&((decide ((i:Int)=0))&&(!decide (((nth (PkgT.list p i) k).op)=0))))=true)) qh2.2.2.2.2.2.2.2.2.2.1<|cc 19 (p:=((!b4)=true→((!b4)=true)∧(((decide ((i:Int)=0))&&(!decide (((nth (PkgT.list p i) k).op)=0)))=true→((!b4)&&((decide ((i:Int)=0))&&(!decide (((nth (PkgT.list p i) k).op)=0))))=true))) qh2.2.2.2.2.2.2.2.2.2.2.1<|cc 20 (p:=(b4=false→(!b4)=true)) qh2.2.2.2.2.2.2.2.2.2.2.2<|c0) ?_
    refine Bd (q:=b4||(((decide ((i:Int)=0))&&(!decide (((nth (PkgT.list p i) k).op)=0)))&&(!decide (((nth (PkgT.list p i) k).op)=2)))) (by kernel_rfl) (fun c4=>?_) (fun c4=>?_)
    ·subst hb4 hb3 hb2 hb1
     try simp only[Am] at c4
     refine Ab [] [2] ?_
     refine Ag ?_
     refine RK wR [(.bool false)] ?_
     exact Same.of_eq (by rw[Ro i (j:=k) (by omega) (by omega) (by unfold F5;by_cases a1:Cu (nth (PkgT.list p i) k)=0<;>by_cases a2:DepT.kind (nth (PkgT.list p i) k)=1<;>by_cases a3:DepT.op (nth (PkgT.list p i) k)=0<;>by_cases a4:DepT.op (nth (PkgT.list p i) k)=2<;>by_cases b0:i=0<;>by_cases b4:i=4<;>simp_all)];rfl)
    ·subst hb4 hb3 hb2 hb1
     try simp only[Am] at c4
     refine Ai ?_
     refine An ?_
     refine Au 0 [] [3,8,9,10,22,23,24] [] hk0 v0 (cc 0 (p:=(-9223372036854775808≤(k:Int)+1∧(k:Int)+1≤9223372036854775807)) (by omega)<|c0) ?_
     refine⟨by kernel_rfl,_,?_,k+1,?_,?_,(by kernel_rfl),rfl⟩
     ·omega
     ·omega
     ·intro j hj
      by_cases h:j=k
      ·subst h;unfold F5;by_cases a1:Cu (nth (PkgT.list p i) j)=0<;>by_cases a2:DepT.kind (nth (PkgT.list p i) j)=1<;>by_cases a3:DepT.op (nth (PkgT.list p i) j)=0<;>by_cases a4:DepT.op (nth (PkgT.list p i) j)=2<;>by_cases b0:i=0<;>by_cases b4:i=4<;>simp_all
      ·exact f2_2 j (by omega)
   ·refine Bp ?_
    refine An ?_
    refine Au 0 [] [8,9,10] [] hk0 v0 (cc 0 (p:=(-9223372036854775808≤(i:Int)+1∧(i:Int)+1≤9223372036854775807)) (by omega)<|c0) ?_
    refine⟨by kernel_rfl,_,?_,i+1,?_,?_,(by kernel_rfl),rfl⟩
    ·omega
    ·omega
    ·intro j hj
     by_cases h:j=i
     ·subst h;exact Q06 (k:=k) (by omega) (by omega) f2_2
     ·exact f1_2 j (by omega)
 ·refine Bp ?_
  refine Ab [] [2] ?_
  refine Ag ?_
  refine RK wR [(.bool true)] ?_
  exact Same.of_eq (by rw[Q4e fun j hj=>f1_2 j (by omega)];rfl)
theorem Q89 (p : PkgT) (hs : p.depSize ≤ 4194304) :
  FnV Tryz.prog 156 [(Av p)] (.bool (Ex p)):=by
 refine A8 [.tmp 2] Tryz.func156 rfl Tryz.ntmps156 rfl rfl (fun B F hF=>?_)
 refine Af [] [1] [(1,1)] hk0 v0 c0 ?_
 refine Af [] [3] [] (hk 1 X48 (Q85 p)<|hk0) v0 c0 ?_
 refine Ac ?_
 refine Ab [] [3,4] ?_
 refine Ay ?_
 refine Bz (fun g y=>∃(i:Nat),i≤7∧(∀j,j < i→Dz j (PkgT.list p j)=true)∧y=⟨[(3,(.row 1 7 (fun i=>Ae 5 Ao (PkgT.list p i)))),(4,(.int .i64 ((i:Int))))],[],1⟩∧g=7-i) [3,4] 1 _ (by omega) ⟨0,(by omega),(by exact fun j hj=>by omega),(by kernel_rfl),rfl⟩ ?_
 rintro g1 y1 ⟨i,f1_1,f1_2,rfl,rfl⟩
 refine Ac ?_
 refine Ab [] [3,4,12] ?_
 refine A5 (p:=(i:Int) < 7) (by kernel_rfl) (fun c1=>?_) (fun c1=>?_)
 ·have hi0:((i:Int)=0)=(i=0):=by rw[eq_iff_iff];omega
  have hi4:((i:Int)=4)=(i=4):=by rw[eq_iff_iff];omega
  have hll:=Q05 hs (i:=i) (by omega)
  refine Ai ?_
  refine Ac ?_
  refine Ay ?_
  refine Ac ?_
  refine Af [] [3,4,20] [] hk0 v0 (cc 2 (p:=(0≤(i:Int)∧i < 7)) (by omega)<|c0) ?_
  refine A5 (p:=16 < ((PkgT.list p i).length:Int)) (by kernel_rfl) (fun c2=>?_) (fun c2=>?_)
  ·refine Ab [] [2] ?_
   refine Ag ?_
   refine RK wR [(.bool false)] ?_
   exact Same.of_eq (by rw[Q4d i (by omega) (by omega)];rfl)
  ·refine Ai ?_
   refine Ab [] [3,4,5] ?_
   refine Ay ?_
   refine Bz (fun g y=>∃(k:Nat),k≤(PkgT.list p i).length∧(∀j,j < k→F5 i (nth (PkgT.list p i) j)=true)∧y=⟨[(3,(.row 1 7 (fun i=>Ae 5 Ao (PkgT.list p i)))),(4,(.int .i64 ((i:Int)))),(5,(.int .i64 ((k:Int))))],[],1⟩∧g=(PkgT.list p i).length-k) [3,4,5] 1 _ (by omega) ⟨0,(by omega),(by exact fun j hj=>by omega),(by kernel_rfl),rfl⟩ ?_
   rintro g2 y2 ⟨k,f2_1,f2_2,rfl,rfl⟩
   refine Ac ?_
   refine Af [] [3,4,5,27] [] hk0 v0 (cc 3 (p:=(0≤(i:Int)∧i < 7)) (by omega)<|c0) ?_
   refine A5 (p:=(k:Int) < ((PkgT.list p i).length:Int)) (by kernel_rfl) (fun c3=>?_) (fun c3=>?_)
   ·refine Ai ?_
    refine Ac ?_
    refine Ay ?_
    refine Af (CS:=[(2,(0≤(i:Int)∧i < 7)),(5,(0≤(k:Int)∧k < (PkgT.list p i).length))]) [] [3,4,5,6] [] hk0 v0 (by refine cc _ ?_<|cc _ ?_ c0<;>omega) ?_
    refine Ac ?_
    refine Af [] [3,4,5,6,39] [(0,6)] (hk 1 Q25 (Q9b (nth (PkgT.list p i) k) (Q04 hs (by omega) (by omega)))<|hk0) v0 c0 ?_
    refine Da (p:=(Cu (nth (PkgT.list p i) k))=0) (by kernel_rfl) (fun c4=>?_) (fun c4=>?_)
    ·refine Ab [] [2] ?_
     refine Ag ?_
     refine RK wR [(.bool false)] ?_
     exact Same.of_eq (by rw[Ro i (j:=k) (by omega) (by omega) (by unfold F5;by_cases a1:Cu (nth (PkgT.list p i) k)=0<;>by_cases a2:DepT.kind (nth (PkgT.list p i) k)=1<;>by_cases a3:DepT.op (nth (PkgT.list p i) k)=0<;>by_cases a4:DepT.op (nth (PkgT.list p i) k)=2<;>by_cases b0:i=0<;>by_cases b4:i=4<;>simp_all)];rfl)
    ·refine Ai ?_
     refine Ac ?_
     obtain⟨b1,hb1⟩:∃b,b=(decide ((i:Int)=0)):=⟨_,rfl⟩
     obtain⟨b2,hb2⟩:∃b,b=(b1||(decide ((i:Int)=4))):=⟨_,rfl⟩
     have qh1:(((!b1)=true→(!b1)=true))∧((b1=false→(!b1)=true))∧((b2=true→b2=true))∧((b2=true→b2=true))∧((b2=true→b2=true)):=by
      first|omega|(simp;done)|(by_cases a1:Cu (nth (PkgT.list p i) k)=0<;>by_cases a2:DepT.kind (nth (PkgT.list p i) k)=1<;>by_cases a3:DepT.op (nth (PkgT.list p i) k)=0<;>by_cases a4:DepT.op (nth (PkgT.list p i) k)=2<;>by_cases b0:i=0<;>by_cases b4:i=4<;>simp_all)
     refine Af [43,44,47,48,49] [3,4,5,6,50] [] hk0 (vk 3 42 (a:=.bool (decide ((i:Int)=0))) (b:=.bool b1) (Imp.of_eq (by rw[hb1]))<|vk 7 46 (a:=.bool (b1||(decide ((i:Int)=4)))) (b:=.bool b2) (Imp.of_eq (by rw[hb2]))<|v0) (cc 4 (p:=((!b1)=true→(!b1)=true)) qh1.1<|cc 5 (p:=(b1=false→(!b1)=true)) qh1.2.1<|cc 8 (p:=(b2=true→b2=true)) qh1.2.2.1<|cc 9 (p:=(b2=true→b2=true)) qh1.2.2.2.1<|cc 10 (p:=(b2=true→b2=true)) qh1.2.2.2.2<|c0) ?_
     refine Bd (q:=b2&&(!decide (((nth (PkgT.list p i) k).kind)=1))) (by kernel_rfl) (fun c5=>?_) (fun c5=>?_)
     ·subst hb2 hb1
      try simp only[Am] at c5
      refine Ab [] [2] ?_
      refine Ag ?_
      refine RK wR [(.bool false)] ?_
      exact Same.of_eq (by rw[Ro i (j:=k) (by omega) (by omega) (by unfold F5;by_cases a1:Cu (nth (PkgT.list p i) k)=0<;>by_cases a2:DepT.kind (nth (PkgT.list p i) k)=1<;>by_cases a3:DepT.op (nth (PkgT.list p i) k)=0<;>by_cases a4:DepT.op (nth (PkgT.list p i) k)=2<;>by_cases b0:i=0<;>by_cases b4:i=4<;>simp_all)];rfl)
     ·subst hb2 hb1
      try simp only[Am] at c5
      refine Ai ?_
      obtain⟨b3,hb3⟩:∃b,b=(decide ((i:Int)=0)):=⟨_,rfl⟩
      obtain⟨b4,hb4⟩:∃b,b=(b3&&(!decide (((nth (PkgT.list p i) k).op)=0))):=⟨_,rfl⟩
      have qh2:((b3=true→b3=true))∧((b3=true→b3=true))∧((b3=true→b3=true))∧((b4=true→b4=true))∧((b4=true→b4=true))∧((b4=true→b4=true)):=by
       first|omega|(simp;done)|(by_cases a1:Cu (nth (PkgT.list p i) k)=0<;>by_cases a2:DepT.kind (nth (PkgT.list p i) k)=1<;>by_cases a3:DepT.op (nth (PkgT.list p i) k)=0<;>by_cases a4:DepT.op (nth (PkgT.list p i) k)=2<;>by_cases b0:i=0<;>by_cases b4:i=4<;>simp_all)
      refine Af [54,55,56,59,60,61] [3,4,5,62] [] hk0 (vk 3 53 (a:=.bool (decide ((i:Int)=0))) (b:=.bool b3) (Imp.of_eq (by rw[hb3]))<|vk 7 57 (a:=.bool (b3&&(!decide (((nth (PkgT.list p i) k).op)=0)))) (b:=.bool b4) (Imp.of_eq (by rw[hb4]))<|v0) (cc 4 (p:=(b3=true→b3=true)) qh2.1<|cc 5 (p:=(b3=true→b3=true)) qh2.2.1<|cc 6 (p:=(b3=true→b3=true)) qh2.2.2.1<|cc 9 (p:=(b4=true→b4=true)) qh2.2.2.2.1<|cc 10 (p:=(b4=true→b4=true)) qh2.2.2.2.2.1<|cc 11 (p:=(b4=true→b4=true)) qh2.2.2.2.2.2<|c0) ?_
      refine Bd (q:=b4&&(!decide (((nth (PkgT.list p i) k).op)=2))) (by kernel_rfl) (fun c6=>?_) (fun c6=>?_)
      ·subst hb4 hb3
       try simp only[Am] at c6
       refine Ab [] [2] ?_
       refine Ag ?_
       refine RK wR [(.bool false)] ?_
       exact Same.of_eq (by rw[Ro i (j:=k) (by omega) (by omega) (by unfold F5;by_cases a1:Cu (nth (PkgT.list p i) k)=0<;>by_cases a2:DepT.kind (nth (PkgT.list p i) k)=1<;>by_cases a3:DepT.op (nth (PkgT.list p i) k)=0<;>by_cases a4:DepT.op (nth (PkgT.list p i) k)=2<;>by_cases b0:i=0<;>by_cases b4:i=4<;>simp_all)];rfl)
      ·subst hb4 hb3
       try simp only[Am] at c6
       refine Ai ?_
       refine An ?_
       refine Au 0 [] [3,4,5] [] hk0 v0 (cc 1 (p:=(-9223372036854775808≤(k:Int)+1∧(k:Int)+1≤9223372036854775807)) (by omega)<|c0) ?_
       refine⟨by kernel_rfl,_,?_,k+1,?_,?_,(by kernel_rfl),rfl⟩
       ·omega
       ·omega
       ·intro j hj
        by_cases h:j=k
        ·subst h;unfold F5;by_cases a1:Cu (nth (PkgT.list p i) j)=0<;>by_cases a2:DepT.kind (nth (PkgT.list p i) j)=1<;>by_cases a3:DepT.op (nth (PkgT.list p i) j)=0<;>by_cases a4:DepT.op (nth (PkgT.list p i) j)=2<;>by_cases b0:i=0<;>by_cases b4:i=4<;>simp_all
        ·exact f2_2 j (by omega)
   ·refine Bp ?_
    refine An ?_
    refine Au 0 [] [3,4] [] hk0 v0 (cc 1 (p:=(-9223372036854775808≤(i:Int)+1∧(i:Int)+1≤9223372036854775807)) (by omega)<|c0) ?_
    refine⟨by kernel_rfl,_,?_,i+1,?_,?_,(by kernel_rfl),rfl⟩
    ·omega
    ·omega
    ·intro j hj
     by_cases h:j=i
     ·subst h;exact Q06 (k:=k) (by omega) (by omega) f2_2
     ·exact f1_2 j (by omega)
 ·refine Bp ?_
  refine Ab [] [2] ?_
  refine Ag ?_
  refine RK wR [(.bool true)] ?_
  exact Same.of_eq (by rw[Q4e fun j hj=>f1_2 j (by omega)];rfl)
end Sv
end
section
open Go Go.RowKit
namespace Sv
attribute [local irreducible] SW SO Bs
set_option maxHeartbeats 1000000
set_option maxRecDepth 100000
def Fw (x:Nat):Bool:=(decide (97≤x)&&decide (x≤122))||(decide (48≤x)&&decide (x≤57))||decide (x=95)
def Fy (x:Nat):Bool:=decide (32≤x)&&decide (x≤126)
def G7 (s:List UInt8) (most:Int) (q:Nat→Bool):Bool:=decide ((s.length:Int)≤most)&&decide (Lib.idxFunc (fun x => !q x) true ⟨s.toArray⟩ < 0)
theorem Q5y (s:List UInt8) (most:Int) {q:Nat→Bool} (hq:∀r,128≤r→q r=false):G7 s most q=(decide ((s.length:Int)≤most)&&s.all fun b=>q b.toNat):=by
 unfold G7;rw[X27 (fun r hr=>by rw[hq r hr];rfl)];simp
theorem Q7y (r:Nat) (h:128≤r):Fw r=false:=by unfold Fw;simp;omega
theorem Q8c (r:Nat) (h:128≤r):Fy r=false:=by unfold Fy;simp;omega
theorem Q5w {s:List UInt8} {q:Nat→Bool} {i:Nat} (hi:i < s.length) (h:q (Aj s i).toNat=false):(s.all fun b=>q b.toNat)=false:=by
 rw[List.all_eq_false]
 rw[Kc hi] at h
 exact⟨s[i],List.getElem_mem hi,by simp[h]⟩
theorem Q5v {s:List UInt8} {q:Nat→Bool} {i:Nat} (hi:s.length≤i) (h:∀j,j < i→q (Aj s j).toNat=true):(s.all fun b=>q b.toNat)=true:=by
 rw[List.all_eq_true]
 intro x hx
 obtain⟨j,hj,rfl⟩:=List.getElem_of_mem hx
 have:=h j (by omega)
 rwa [Kc hj] at this
def Kf (s:List UInt8):Bool:=decide (1≤s.length)&&decide (s.length≤20)&&s.all fun b=>Fw b.toNat
def It (f:List UInt8):Bool:=Bb f 47&&B1 f
def Hr (s:List UInt8):Bool:=s.all fun b=>Fy b.toNat
def Ir (l:List (List UInt8)):Bool:=decide (l.length≤16)&&l.all It
def R4 (l:List (List UInt8)):Bool:=l.any fun x => !It x
def Dp (p:PkgT):Int :=
 if B1 p.name=false then 60
 else if Cj p.evr≠0 then 61
 else if Kf p.arch=false then 62
 else if (decide (p.vendor.length≤60)&&Hr p.vendor)=false then 63
 else if Ex p=false then 64
 else if Ir p.files=false then 65
 else 0
def I8 (p:PkgT):Int :=
 if B1 p.name=false then 60
 else if ¬Cj p.evr=0 then 61
 else if p.arch=[]∨G7 p.arch 20 Fw=false then 62
 else if G7 p.vendor 60 Fy=false then 63
 else if Ex p=false then 64
 else if (16:Int) < (p.files.length:Int)∨R4 p.files=true then 65
 else 0
theorem K1 (p:PkgT):I8 p=Dp p:=by
 have ha1:(p.arch=[]∨G7 p.arch 20 Fw=false)↔Kf p.arch=false:=by
  rw[Q5y p.arch 20 Q7y]
  unfold Kf
  cases h:p.arch with
  |nil=>simp
  |cons a r =>
   rw[show decide (1≤(a::r).length)=true by simp,Bool.true_and]
   rw[show decide (((a::r).length:Int)≤20)=decide ((a::r).length≤20) from decide_eq_decide.2 (by omega)]
   simp
 have ha2:G7 p.vendor 60 Fy=(decide (p.vendor.length≤60)&&Hr p.vendor):=by
  unfold Hr
  rw[Q5y p.vendor 60 Q8c,show decide ((p.vendor.length:Int)≤60)=decide (p.vendor.length≤60) from decide_eq_decide.2 (by omega)]
 have ha3:((16:Int) < (p.files.length:Int)∨R4 p.files=true)↔Ir p.files=false:=by
  unfold R4 Ir
  rw[X73]
  simp only[Bool.and_eq_false_iff,decide_eq_false_iff_not,Bool.not_eq_true']
  constructor
  ·rintro (h|h)
   ·left;omega
   ·exact .inr h
  ·rintro (h|h)
   ·left;omega
   ·exact .inr h
 unfold I8 Dp
 simp only[ha1,ha2,ha3]
def I7 (p:PkgT):Int :=
 if B1 p.name=false then 60
 else if ¬Cj p.evr=0 then 61
 else if Kf p.arch=false then 62
 else if Hr p.vendor=false∨(60:Int) < (p.vendor.length:Int) then 63
 else if Ex p=false then 64
 else if Ir p.files=false then 65
 else 0
theorem K0 (p:PkgT):I7 p=Dp p:=by
 have ha:(Hr p.vendor=false∨(60:Int) < (p.vendor.length:Int))↔(decide (p.vendor.length≤60)&&Hr p.vendor)=false:=by
  simp only[Bool.and_eq_false_iff,decide_eq_false_iff_not]
  constructor
  ·rintro (h|h)
   ·exact .inr h
   ·left;omega
  ·rintro (h|h)
   ·right;omega
   ·exact .inl h
 unfold I7 Dp
 simp only[ha]
theorem Q2r {f:List UInt8}:It f=(B1 f&&decide (((Aj f 0).toNat:Int)=47)):=by
 unfold It
 cases f with
 |nil=>rw[show B1 []=false by decide];simp
 |cons a r =>
  have h1:Bb (a::r) 47=decide (a=47):=by simp[Bb]
  have h2:Aj (a::r) 0=a:=by simp[Aj]
  rw[h1,h2,Bool.and_comm]
  congr 1
  refine decide_eq_decide.2 ⟨fun h=>by rw[h];rfl,fun h=>UInt8.toNat_inj.1 (by show _=47;omega)⟩
theorem Q7z (x : Nat) :
  FnV Tryz.prog 102 [(.int .i32 ((x:Int)))] (.bool (Fw x)):=by
 refine A8 [.tmp 2] Tryz.func102 rfl Tryz.ntmps102 rfl rfl (fun B F hF=>?_)
 refine Ab [] [0] ?_
 obtain⟨b1,hb1⟩:∃b,b=(decide (97≤(x:Int))):=⟨_,rfl⟩
 obtain⟨b2,hb2⟩:∃b,b=(b1&&(decide ((x:Int)≤122))):=⟨_,rfl⟩
 obtain⟨b3,hb3⟩:∃b,b=(b2||((decide (48≤(x:Int)))&&(decide ((x:Int)≤57)))):=⟨_,rfl⟩
 refine Af (CS:=[(4,(b1=true→b1=true)),(5,(b1=true→b1=true)),(8,((!b2)=true→(!b2)=true)),(9,((!b2)=true→(!b2)=true)),(11,(((!b2)&&(decide (48≤(x:Int))))=true→((!b2)&&(decide (48≤(x:Int))))=true)),(12,((!b2)=true→((!b2)=true)∧((decide (48≤(x:Int)))=true→((!b2)&&(decide (48≤(x:Int))))=true))),(13,(b2=false→(!b2)=true)),(16,((!b3)=true→(!b3)=true)),(17,(b3=false→(!b3)=true))]) [6,7,10,11,12,13,14,15,18,19] [2] [] hk0 (vk 3 5 (a:=.bool (decide (97≤(x:Int)))) (b:=.bool b1) (Imp.of_eq (by rw[hb1]))<|vk 7 9 (a:=.bool (b1&&(decide ((x:Int)≤122)))) (b:=.bool b2) (Imp.of_eq (by rw[hb2]))<|vk 14 16 (a:=.bool (b2||((decide (48≤(x:Int)))&&(decide ((x:Int)≤57))))) (b:=.bool b3) (Imp.of_eq (by rw[hb3]))<|v0) (by refine cc _ ?_<|cc _ ?_<|cc _ ?_<|cc _ ?_<|cc _ ?_<|cc _ ?_<|cc _ ?_<|cc _ ?_<|cc _ ?_ c0<;>(intros;simp_all;done)) ?_
 refine Ag ?_
 refine RK wR [(.bool (b3||(decide ((x:Int)=95))))] ?_
 subst hb3 hb2 hb1
 refine Same.of_eq ?_
 simp only[Ak]
 congr 1
 unfold Fw
 rw[Bool.eq_iff_iff]
 simp only[Bool.and_eq_true,Bool.or_eq_true,decide_eq_true_eq]
 omega
theorem Q8d (x : Nat) :
  FnV Tryz.prog 103 [(.int .i32 ((x:Int)))] (.bool (Fy x)):=by
 refine A8 [.tmp 2] Tryz.func103 rfl Tryz.ntmps103 rfl rfl (fun B F hF=>?_)
 refine Ab [] [0] ?_
 obtain⟨b1,hb1⟩:∃b,b=(decide (32≤(x:Int))):=⟨_,rfl⟩
 refine Af (CS:=[(4,(b1=true→b1=true)),(5,(b1=true→b1=true))]) [6,7] [2] [] hk0 (vk 3 5 (a:=.bool (decide (32≤(x:Int)))) (b:=.bool b1) (Imp.of_eq (by rw[hb1]))<|v0) (by refine cc _ ?_<|cc _ ?_ c0<;>simp) ?_
 refine Ag ?_
 refine RK wR [(.bool (b1&&(decide ((x:Int)≤126))))] ?_
 subst hb1
 refine Same.of_eq ?_
 simp only[Ak]
 congr 1
 unfold Fy
 rw[Bool.eq_iff_iff]
 simp only[Bool.and_eq_true,Bool.or_eq_true,decide_eq_true_eq]
 omega
theorem X1h (x : Nat) (a : AV) (q : Nat → Bool) (hx : x ≤ 1114111) (ha : ∀ x : Nat, x ≤ 1114111 → FunV Tryz.prog a [.int .i32 (x : Int)] (.bool (q x))) :
  FnV Tryz.prog 106 [(.int .i32 ((x:Int))),(.fp (.agg [(.clo a)]))] (.bool (!q x)):=by
 refine A8 [.tmp 3] Tryz.func106 rfl Tryz.ntmps106 rfl rfl (fun B F hF=>?_)
 refine Ab [] [0,1] ?_
 refine Ac ?_
 refine An ?_
 refine B2 2 0 [] [4,5] [] hk0 v0 c0 ?_
 refine F9 (s':=[(4,(.clo a)),(5,(.int .i32 ((x:Int)))),(6,(.bool (q x)))]) (a:=(.clo a)) (al:=[(.int .i32 ((x:Int)))]) (r:=(.bool (q x))) (by kernel_rfl) (by kernel_rfl) (by kernel_rfl) (by kernel_rfl) (by kernel_rfl) ((ha x hx).clo) (by kernel_rfl) ?_
 refine Au 3 [] [3] [] hk0 v0 c0 ?_
 refine Ag ?_
 refine RK wR [(.bool (!(q x)))] ?_
 exact Same.of_eq (by first|rfl|(simp only[Ak];simp_all))
theorem Q5t (s : List UInt8) (most : Int) (a : AV) (q : Nat → Bool) (hl : s.length ≤ 9223372036854775807) (ha : ∀ x : Nat, x ≤ 1114111 → FunV Tryz.prog a [.int .i32 (x : Int)] (.bool (q x))) :
  FnV Tryz.prog 104 [(.str s),(.int .i64 most),(.clo a)] (.bool (G7 s most q)):=by
 refine A8 [.tmp 6] Tryz.func104 rfl Tryz.ntmps104 rfl rfl (fun B F hF=>?_)
 refine Ab [] [0,1,5] ?_
 refine Ac ?_
 refine An ?_
 obtain⟨b2,hb2⟩:∃b,b=(decide ((s.length:Int)≤most)):=⟨_,rfl⟩
 refine B2 7 0 [12,13] [11,12,13] [] hk0 (vk 5 11 (a:=.bool (decide ((s.length:Int)≤most))) (b:=.bool b2) (Imp.of_eq (by rw[hb2]))<|v0) c0 ?_
 refine Wj (s':=[(11,(.bool b2)),(12,(.cond b2 (.str s))),(13,(.cond b2 (.fn 106 [] [(.ptr 0 0)]))),(14,(.cond b2 (.int .i64 (Lib.idxFunc (fun x => !q x) true ⟨s.toArray⟩))))]) (q:=b2) (al:=[(.str s),(.fn 106 [] [(.ptr 0 0)])]) (al':=[(.str s),(.fn 106 [] [(.fp (.agg [(.clo a)]))])]) (h':=[]) (r:=(.int .i64 (Lib.idxFunc (fun x => !q x) true ⟨s.toArray⟩))) (by kernel_rfl) (by exact X6j) (by kernel_rfl) (Qo (some (b2=true∧b2=true)) (by kernel_rfl) fun cg=>hold (by(simp;omega))) (by kernel_rfl) (fun cg=>X93 s 106 [.fp (.agg [.clo a])] (fun x => !q x) (by exact X6i) rfl (fun x hx=>X1h x a q hx ha)) rfl (by kernel_rfl) ?_
 obtain⟨b3,hb3⟩:∃b,b=(b2&&(decide ((Lib.idxFunc (fun x => !q x) true ⟨s.toArray⟩) < 0))):=⟨_,rfl⟩
 refine Au (CS:=[(8,(b2=true→b2=true)),(9,(b2=true→b2=true))]) 8 [15] [6] [] hk0 (vk 10 16 (a:=.bool (b2&&(decide ((Lib.idxFunc (fun x => !q x) true ⟨s.toArray⟩) < 0)))) (b:=.bool b3) (Imp.of_eq (by rw[hb3]))<|v0) (by refine cc _ ?_<|cc _ ?_ c0<;>simp) ?_
 refine Ag ?_
 refine RK wR [(.bool b3)] ?_
 subst hb3 hb2
 exact Same.of_eq (by first|rfl|(simp only[Ak];simp_all))
theorem X31 (s : List UInt8) (hl : s.length ≤ 9223372036854775807) :
  FnV Tryz.prog 110 [(.str s)] (.bool (!It s)):=by
 refine A8 [.tmp 2] Tryz.func110 rfl Tryz.ntmps110 rfl rfl (fun B F hF=>?_)
 refine Ab [] [0] ?_
 refine Af (CS:=[(5,(!(!(Bb s 47)))=true→(!(!(Bb s 47)))=true),(6,((!(!(Bb s 47)))=true→(!(!(Bb s 47)))=true)),(7,((!(Bb s 47))=false→(!(!(Bb s 47)))=true))]) [7,9] [2] [] (hk 1 Mx (Pd s 47 hl)<|hkg 5 (!(!(Bb s 47))) Os (fun cg=>Sg s hl)<|hk0) v0 (by refine cc _ ?_<|cc _ ?_<|cc _ ?_ c0<;>simp) ?_
 refine Ag ?_
 refine RK wR [(.bool ((!(Bb s 47))||(!(B1 s))))] ?_
 exact Same.of_eq (by simp only[Ak];congr 1;unfold It;cases Bb s 47<;>cases B1 s<;>rfl)
theorem Y0e (p : PkgT) (hs : p.size ≤ 4194304) :
  FnV Tryz.prog 49 [(Av p)] (.int .i64 (Dp p)):=by
 have hsz:=p.sizes
 have hfl:=J7 p.files
 refine A8 [.tmp 2] Tryz.func49 rfl Tryz.ntmps49 rfl rfl (fun B F hF=>?_)
 refine Af [] [1] [(1,1)] hk0 v0 c0 ?_
 refine Ab [] [1,3] ?_
 refine Ab [] [1,3,4] ?_
 refine Ab [] [1,3,4,5] ?_
 refine Af [] [1,3,4,5,7] [(8,6)] (hk 2 Ou (Q7 p.evr (by omega))<|hk0) v0 c0 ?_
 refine Ac ?_
 refine Ay ?_
 refine Af [] [1,3,4,5,7,14] [] (hk 2 Os (Sg p.name (by omega))<|hk0) v0 c0 ?_
 refine Bd (q:=!(B1 p.name)) (by kernel_rfl) (fun c1=>?_) (fun c1=>?_)
 ·try simp only[Am] at c1
  refine Ab [] [2] ?_
  refine Ag ?_
  refine RK wR [(.int .i64 60)] ?_
  refine Same.of_eq ?_
  simp only[Ak]
  congr 1
  rw[←K1]
  unfold I8
  simp_all
 ·try simp only[Am] at c1
  refine Ab [] [1,3,4,5,19] ?_
  refine Da (p:=(Cj p.evr)=0) (by kernel_rfl) (fun c2=>?_) (fun c2=>?_)
  ·refine Ab [] [2] ?_
   refine Ag ?_
   refine RK wR [(.int .i64 61)] ?_
   refine Same.of_eq ?_
   simp only[Ak]
   congr 1
   rw[←K1]
   unfold I8
   simp_all
  ·refine Ac ?_
   refine An ?_
   obtain⟨b2,hb2⟩:∃b,b=(decide (p.arch=[])):=⟨_,rfl⟩
   refine B2 8 0 [27,28,29,30] [1,4,5,26,27,29,30] [] hk0 (vk 4 26 (a:=.bool (decide (p.arch=[]))) (b:=.bool b2) (Imp.of_eq (by rw[hb2]))<|v0) (cc 6 (p:=((!b2)=true→(!b2)=true)) (by simp)<|c0) ?_
   refine X9a (s':=[(1,(.fp (Av p))),(4,(.fn 103 [] [])),(5,(.fn 104 [] [])),(26,(.bool b2)),(27,(.cond (!b2) (.fn 104 [] []))),(29,(.cond (!b2) (.str p.arch))),(30,(.cond (!b2) (.fn 102 [] []))),(31,(.cond (!b2) (.bool (G7 p.arch 20 Fw))))]) (q:=!b2) (al:=[(.str p.arch),(.int .i64 20),(.fn 102 [] [])]) (f:=104) (cap:=[]) (r:=(.bool (G7 p.arch 20 Fw))) (by kernel_rfl) (fun cg => .inr ⟨!b2,by kernel_rfl,by first|exact cg|simp_all⟩) (by exact Q36) (by kernel_rfl) (Qo (some ((!b2)=true∧(!b2)=true)) (by kernel_rfl) fun cg=>hold (by(intros;simp_all;done))) (by kernel_rfl) (fun cg=>(Q5t p.arch 20 (.fn 102 [] []) Fw (by omega) (fun x _=>FunV.of (by exact X6l) (Q7z x))).of_args (ImpL.cons Imp.refl (ImpL.cons Imp.refl (ImpL.cons (Imp.clo rfl) ImpL.nil)))) (by kernel_rfl) ?_
   refine Au (CS:=[(9,((!b2)=true→(!b2)=true)),(10,(b2=false→(!b2)=true))]) 9 [32] [1,4,5,22] [] hk0 v0 (by refine cc _ ?_<|cc _ ?_ c0<;>simp) ?_
   refine Bd (q:=b2||(!(G7 p.arch 20 Fw))) (by kernel_rfl) (fun c3=>?_) (fun c3=>?_)
   ·subst hb2
    try simp only[Am] at c3
    refine Ab [] [2] ?_
    refine Ag ?_
    refine RK wR [(.int .i64 62)] ?_
    refine Same.of_eq ?_
    simp only[Ak]
    congr 1
    rw[←K1]
    unfold I8
    simp_all
   ·subst hb2
    try simp only[Am] at c3
    refine Ac ?_
    refine An ?_
    refine B2 4 0 [] [1,35,37,38] [] hk0 v0 c0 ?_
    refine Q6e (f:=104) (cap:=[]) (s':=[(1,(.fp (Av p))),(35,(.fn 104 [] [])),(37,(.str p.vendor)),(38,(.fn 103 [] [])),(39,(.bool (G7 p.vendor 60 Fy)))]) (al:=[(.str p.vendor),(.int .i64 60),(.fn 103 [] [])]) (r:=(.bool (G7 p.vendor 60 Fy))) (by kernel_rfl) (by kernel_rfl) (by exact Q36) (by kernel_rfl) (by kernel_rfl) ((Q5t p.vendor 60 (.fn 103 [] []) Fy (by omega) (fun x _=>FunV.of (by exact X6k) (Q8d x))).of_args (ImpL.cons Imp.refl (ImpL.cons Imp.refl (ImpL.cons (Imp.clo rfl) ImpL.nil)))) (by kernel_rfl) ?_
    refine Au 5 [] [1,34] [] hk0 v0 c0 ?_
    refine Bd (q:=!(G7 p.vendor 60 Fy)) (by kernel_rfl) (fun c4=>?_) (fun c4=>?_)
    ·try simp only[Am] at c4
     refine Ab [] [2] ?_
     refine Ag ?_
     refine RK wR [(.int .i64 63)] ?_
     refine Same.of_eq ?_
     simp only[Ak]
     congr 1
     rw[←K1]
     unfold I8
     simp_all
    ·try simp only[Am] at c4
     refine Af [] [1,41] [] (hk 1 X6h (X6p p (by omega))<|hk0) v0 c0 ?_
     refine Bd (q:=!(Ex p)) (by kernel_rfl) (fun c5=>?_) (fun c5=>?_)
     ·try simp only[Am] at c5
      refine Ab [] [2] ?_
      refine Ag ?_
      refine RK wR [(.int .i64 64)] ?_
      refine Same.of_eq ?_
      simp only[Ak]
      congr 1
      rw[←K1]
      unfold I8
      simp_all
     ·try simp only[Am] at c5
      obtain⟨b3,hb3⟩:∃b,b=(decide (16 < (p.files.length:Int))):=⟨_,rfl⟩
      refine Af (CS:=[(6,((!b3)=true→(!b3)=true)),(7,(!b3)=true→(!b3)=true),(8,(b3=false→(!b3)=true))]) [51,52] [45] [] (hkg 7 (!b3) (al:=[(Di p.files),(.fn 110 [] [])]) X6g (fun cg=>(Q7h p.files (.fn 110 [] []) (fun x => !It x) (by omega) (fun i hi=>FunV.of (by exact X6e) (X31 (nth p.files i) (by have:=Uz hi;omega)))).of_args (ImpL.cons Imp.refl (ImpL.cons (Imp.clo rfl) ImpL.nil)))<|hk0) (vk 5 50 (a:=.bool (decide (16 < (p.files.length:Int)))) (b:=.bool b3) (Imp.of_eq (by rw[hb3]))<|v0) (by refine cc _ ?_<|cc _ ?_<|cc _ ?_ c0<;>simp) ?_
      refine Bd (q:=b3||(R4 p.files)) (by kernel_rfl) (fun c6=>?_) (fun c6=>?_)
      ·subst hb3
       try simp only[Am] at c6
       refine Ab [] [2] ?_
       refine Ag ?_
       refine RK wR [(.int .i64 65)] ?_
       refine Same.of_eq ?_
       simp only[Ak]
       congr 1
       rw[←K1]
       unfold I8
       simp_all
      ·subst hb3
       try simp only[Am] at c6
       refine Ai ?_
       refine Ab [] [2] ?_
       refine Ag ?_
       refine RK wR [(.int .i64 0)] ?_
       refine Same.of_eq ?_
       simp only[Ak]
       congr 1
       rw[←K1]
       unfold I8
       simp_all
theorem Q9c (s : List UInt8) (hl : s.length ≤ 9223372036854775807) :
  FnV Tryz.prog 154 [(.str s)] (.bool (Kf s)):=by
 refine A8 [.tmp 2] Tryz.func154 rfl Tryz.ntmps154 rfl rfl (fun B F hF=>?_)
 refine Ab [] [0] ?_
 refine Ac ?_
 refine Ab [] [0,3] ?_
 refine Ay ?_
 refine Bz (fun g y=>∃(i:Nat),i≤s.length∧(∀j,j < i→Fw (Aj s j).toNat=true)∧y=⟨[(0,(.str s)),(3,(.int .i64 ((i:Int))))],[],0⟩∧g=s.length-i) [0,3] 0 _ (by omega) ⟨0,(by omega),(by exact fun j hj=>by omega),(by kernel_rfl),rfl⟩ ?_
 rintro g1 y1 ⟨i,f1_1,f1_2,rfl,rfl⟩
 refine Ac ?_
 refine Ab [] [0,3,8] ?_
 refine A5 (p:=(i:Int) < (s.length:Int)) (by kernel_rfl) (fun c1=>?_) (fun c1=>?_)
 ·refine Ai ?_
  refine Ac ?_
  refine Ay ?_
  refine Af [] [0,3,4] [] hk0 v0 (cc 2 (p:=(0≤(i:Int)∧i < s.length)) (by omega)<|c0) ?_
  obtain⟨b1,hb1⟩:∃b,b=(decide (((Aj s i).toNat:Int) < 97)):=⟨_,rfl⟩
  obtain⟨b2,hb2⟩:∃b,b=(b1||(decide (122 < ((Aj s i).toNat:Int)))):=⟨_,rfl⟩
  obtain⟨b3,hb3⟩:∃b,b=(b2&&((decide (((Aj s i).toNat:Int) < 48))||(decide (57 < ((Aj s i).toNat:Int))))):=⟨_,rfl⟩
  refine Af (CS:=[(4,((!b1)=true→(!b1)=true)),(5,(b1=false→(!b1)=true)),(8,(b2=true→b2=true)),(9,(b2=true→b2=true)),(11,((b2&&(!(decide (((Aj s i).toNat:Int) < 48))))=true→(b2&&(!(decide (((Aj s i).toNat:Int) < 48))))=true)),(12,(b2=true→(b2=true)∧((decide (((Aj s i).toNat:Int) < 48))=false→(b2&&(!(decide (((Aj s i).toNat:Int) < 48))))=true))),(13,(b2=true→b2=true)),(16,(b3=true→b3=true)),(17,(b3=true→b3=true))]) [17,18,21,22,23,24,25,26,29,30] [0,3,31] [] hk0 (vk 3 16 (a:=.bool (decide (((Aj s i).toNat:Int) < 97))) (b:=.bool b1) (Imp.of_eq (by rw[hb1]))<|vk 6 19 (a:=.bool (b1||(decide (122 < ((Aj s i).toNat:Int))))) (b:=.bool b2) (Imp.of_eq (by rw[hb2]))<|vk 14 27 (a:=.bool (b2&&((decide (((Aj s i).toNat:Int) < 48))||(decide (57 < ((Aj s i).toNat:Int)))))) (b:=.bool b3) (Imp.of_eq (by rw[hb3]))<|v0) (by refine cc _ ?_<|cc _ ?_<|cc _ ?_<|cc _ ?_<|cc _ ?_<|cc _ ?_<|cc _ ?_<|cc _ ?_<|cc _ ?_ c0<;>(intros;simp_all;done)) ?_
  refine Bd (q:=b3&&(!decide (((Aj s i).toNat:Int)=95))) (by kernel_rfl) (fun c2=>?_) (fun c2=>?_)
  ·subst hb3 hb2 hb1
   try simp only[Am] at c2
   refine Ab [] [2] ?_
   refine Ag ?_
   refine RK wR [(.bool false)] ?_
   refine Same.of_eq ?_
   have:s.all (fun b=>Fw b.toNat)=false:=Q5w (i:=i) (by omega) (by unfold Fw;simp only[Bool.and_eq_false_iff,Bool.or_eq_false_iff,decide_eq_false_iff_not];omega)
   unfold Kf;rw[this,Bool.and_false];rfl
  ·subst hb3 hb2 hb1
   try simp only[Am] at c2
   refine Ai ?_
   refine An ?_
   refine Au 0 [] [0,3] [] hk0 v0 (cc 1 (p:=(-9223372036854775808≤(i:Int)+1∧(i:Int)+1≤9223372036854775807)) (by omega)<|c0) ?_
   refine⟨by kernel_rfl,_,?_,i+1,?_,?_,(by kernel_rfl),rfl⟩
   ·omega
   ·omega
   ·intro j hj
    by_cases h:j=i
    ·subst h;unfold Fw;simp only[Bool.and_eq_true,Bool.or_eq_true,decide_eq_true_eq];omega
    ·exact f1_2 j (by omega)
 ·refine Bp ?_
  obtain⟨b4,hb4⟩:∃b,b=(decide (1≤(s.length:Int))):=⟨_,rfl⟩
  refine Af (CS:=[(5,(b4=true→b4=true)),(6,(b4=true→b4=true)),(7,(b4=true→b4=true))]) [36,37,38] [2] [] hk0 (vk 4 35 (a:=.bool (decide (1≤(s.length:Int)))) (b:=.bool b4) (Imp.of_eq (by rw[hb4]))<|v0) (by refine cc _ ?_<|cc _ ?_<|cc _ ?_ c0<;>simp) ?_
  refine Ag ?_
  refine RK wR [(.bool (b4&&(decide ((s.length:Int)≤20))))] ?_
  subst hb4
  refine Same.of_eq ?_
  simp only[Ak]
  congr 1
  unfold Kf
  rw[Q5v (by omega) f1_2,show decide ((1:Int)≤(s.length:Int))=decide (1≤s.length) from decide_eq_decide.2 (by omega),show decide ((s.length:Int)≤20)=decide (s.length≤20) from decide_eq_decide.2 (by omega)]
  simp
theorem Q84 (s : List UInt8) (hl : s.length ≤ 9223372036854775807) :
  FnV Tryz.prog 155 [(.str s)] (.bool (Hr s)):=by
 refine A8 [.tmp 2] Tryz.func155 rfl Tryz.ntmps155 rfl rfl (fun B F hF=>?_)
 refine Ab [] [0] ?_
 refine Ac ?_
 refine Ab [] [0,3] ?_
 refine Ay ?_
 refine Bz (fun g y=>∃(i:Nat),i≤s.length∧(∀j,j < i→Fy (Aj s j).toNat=true)∧y=⟨[(0,(.str s)),(3,(.int .i64 ((i:Int))))],[],0⟩∧g=s.length-i) [0,3] 0 _ (by omega) ⟨0,(by omega),(by exact fun j hj=>by omega),(by kernel_rfl),rfl⟩ ?_
 rintro g1 y1 ⟨i,f1_1,f1_2,rfl,rfl⟩
 refine Ac ?_
 refine Ab [] [0,3,7] ?_
 refine A5 (p:=(i:Int) < (s.length:Int)) (by kernel_rfl) (fun c1=>?_) (fun c1=>?_)
 ·refine Ai ?_
  refine Ac ?_
  refine Ay ?_
  obtain⟨b1,hb1⟩:∃b,b=(decide (((Aj s i).toNat:Int) < 32)):=⟨_,rfl⟩
  refine Af (CS:=[(2,(0≤(i:Int)∧i < s.length)),(7,((!b1)=true→((!b1)=true∧(!b1)=true)∧(0≤(i:Int)∧i < s.length))),(8,((!b1)=true→(!b1)=true)),(9,(b1=false→(!b1)=true))]) [15,16,17,18] [0,3,19] [] hk0 (vk 5 14 (a:=.bool (decide (((Aj s i).toNat:Int) < 32))) (b:=.bool b1) (Imp.of_eq (by rw[hb1]))<|v0) (by refine cc _ ?_<|cc _ ?_<|cc _ ?_<|cc _ ?_ c0<;>(intros;simp_all;done)) ?_
  refine Bd (q:=b1||(decide (126 < ((Aj s i).toNat:Int)))) (by kernel_rfl) (fun c2=>?_) (fun c2=>?_)
  ·subst hb1
   try simp only[Am] at c2
   refine Ab [] [2] ?_
   refine Ag ?_
   refine RK wR [(.bool false)] ?_
   refine Same.of_eq ?_
   have:s.all (fun b=>Fy b.toNat)=false:=Q5w (i:=i) (by omega) (by unfold Fy;simp only[Bool.and_eq_false_iff,Bool.or_eq_false_iff,decide_eq_false_iff_not];omega)
   unfold Hr;rw[this];rfl
  ·subst hb1
   try simp only[Am] at c2
   refine Ai ?_
   refine An ?_
   refine Au 0 [] [0,3] [] hk0 v0 (cc 1 (p:=(-9223372036854775808≤(i:Int)+1∧(i:Int)+1≤9223372036854775807)) (by omega)<|c0) ?_
   refine⟨by kernel_rfl,_,?_,i+1,?_,?_,(by kernel_rfl),rfl⟩
   ·omega
   ·omega
   ·intro j hj
    by_cases h:j=i
    ·subst h;unfold Fy;simp only[Bool.and_eq_true,Bool.or_eq_true,decide_eq_true_eq];omega
    ·exact f1_2 j (by omega)
 ·refine Bp ?_
  refine Ab [] [2] ?_
  refine Ag ?_
  refine RK wR [(.bool true)] ?_
  exact Same.of_eq (by unfold Hr;rw[Q5v (by omega) f1_2];rfl)
theorem Q88 (l : List (List UInt8)) (hl : Hj l ≤ 4194304) :
  FnV Tryz.prog 157 [(Di l)] (.bool (Ir l)):=by
 have hfl:=J7 l
 refine A8 [.tmp 2] Tryz.func157 rfl Tryz.ntmps157 rfl rfl (fun B F hF=>?_)
 refine Ab [] [0] ?_
 refine Ac ?_
 refine Ab [] [0,7] ?_
 refine A5 (p:=16 < (l.length:Int)) (by kernel_rfl) (fun c1=>?_) (fun c1=>?_)
 ·refine Ab [] [2] ?_
  refine Ag ?_
  refine RK wR [(.bool false)] ?_
  exact Same.of_eq (by unfold Ir;rw[decide_eq_false (by omega)];rfl)
 ·refine Ai ?_
  refine Ac ?_
  refine Ab [] [0,3] ?_
  refine Ay ?_
  refine Bz (fun g y=>∃(i:Nat),i≤l.length∧(∀j,j < i→It (nth l j)=true)∧y=⟨[(0,(Di l)),(3,(.int .i64 ((i:Int))))],[],0⟩∧g=l.length-i) [0,3] 0 _ (by omega) ⟨0,(by omega),(by exact fun j hj=>by omega),(by kernel_rfl),rfl⟩ ?_
  rintro g1 y1 ⟨i,f1_1,f1_2,rfl,rfl⟩
  refine Ac ?_
  refine Ab [] [0,3,11] ?_
  refine A5 (p:=(i:Int) < (l.length:Int)) (by kernel_rfl) (fun c2=>?_) (fun c2=>?_)
  ·refine Ai ?_
   refine Ac ?_
   refine Ay ?_
   refine Af [] [0,3,4] [] (hk 4 On (Py (nth l i) (by have:=Uz (l:=l) (i:=i) (by omega);omega))<|hk0) v0 (cc 2 (p:=(0≤(i:Int)∧i < l.length)) (by omega)<|c0) ?_
   have qh1:(((!(!(B1 (nth l i))))=true→((!(!(B1 (nth l i))))=true∧(!(!(B1 (nth l i))))=true)∧(0≤(i:Int)∧i < l.length)))∧(((!(!(B1 (nth l i))))=true→(!(!(B1 (nth l i))))=true))∧(((!(!(B1 (nth l i))))=true→((!(!(B1 (nth l i))))=true)∧(0≤(0:Int)∧0 < (nth l i).length)))∧(((!(!(B1 (nth l i))))=true→(!(!(B1 (nth l i))))=true))∧(((!(B1 (nth l i)))=false→(!(!(B1 (nth l i))))=true)):=by
    have hp:=fun h=>X1t (l:=nth l i) h;simp only[Bool.not_not,Bool.not_eq_false'];exact⟨fun hq=>⟨⟨hq,hq⟩,by omega,by omega⟩,fun hq=>hq,fun hq=>⟨hq,by omega,hp hq⟩,fun hq=>hq,fun hq=>hq⟩
   refine Af [22,23,24,25,26,27] [0,3,28] [] hk0 v0 (cc 5 (p:=((!(!(B1 (nth l i))))=true→((!(!(B1 (nth l i))))=true∧(!(!(B1 (nth l i))))=true)∧(0≤(i:Int)∧i < l.length))) qh1.1<|cc 6 (p:=((!(!(B1 (nth l i))))=true→(!(!(B1 (nth l i))))=true)) qh1.2.1<|cc 7 (p:=((!(!(B1 (nth l i))))=true→((!(!(B1 (nth l i))))=true)∧(0≤(0:Int)∧0 < (nth l i).length))) qh1.2.2.1<|cc 8 (p:=((!(!(B1 (nth l i))))=true→(!(!(B1 (nth l i))))=true)) qh1.2.2.2.1<|cc 9 (p:=((!(B1 (nth l i)))=false→(!(!(B1 (nth l i))))=true)) qh1.2.2.2.2<|c0) ?_
   refine Bd (q:=(!(B1 (nth l i)))||(!decide (((Aj (nth l i) 0).toNat:Int)=47))) (by kernel_rfl) (fun c3=>?_) (fun c3=>?_)
   ·try simp only[Am] at c3
    refine Ab [] [2] ?_
    refine Ag ?_
    refine RK wR [(.bool false)] ?_
    refine Same.of_eq ?_
    unfold Ir
    have:l.all It=false:=by
     cases hq:l.all It with
     |false=>rfl
     |true=>have h1:=all_nth.1 hq i (by omega);rw[Q2r] at h1;simp_all
    rw[this,Bool.and_false];rfl
   ·try simp only[Am] at c3
    refine Ai ?_
    refine An ?_
    refine Au 0 [] [0,3] [] hk0 v0 (cc 1 (p:=(-9223372036854775808≤(i:Int)+1∧(i:Int)+1≤9223372036854775807)) (by omega)<|c0) ?_
    refine⟨by kernel_rfl,_,?_,i+1,?_,?_,(by kernel_rfl),rfl⟩
    ·omega
    ·omega
    ·intro j hj
     by_cases h:j=i
     ·subst h;rw[Q2r];simp_all
     ·exact f1_2 j (by omega)
  ·refine Bp ?_
   refine Ab [] [2] ?_
   refine Ag ?_
   refine RK wR [(.bool true)] ?_
   exact Same.of_eq (by unfold Ir;rw[all_nth.2 (fun j hj=>f1_2 j (by omega)),decide_eq_true (by omega)];rfl)
theorem Q9a (p : PkgT) (hs : p.size ≤ 4194304) :
  FnV Tryz.prog 97 [(Av p)] (.int .i64 (Dp p)):=by
 have hsz:=p.sizes
 refine A8 [.tmp 2] Tryz.func97 rfl Tryz.ntmps97 rfl rfl (fun B F hF=>?_)
 refine Af [] [1] [(1,1)] hk0 v0 c0 ?_
 refine Af [] [1,3] [] (hk 2 On (Py p.name (by omega))<|hk0) v0 c0 ?_
 refine Ac ?_
 refine Ab [] [1,14] ?_
 refine Bd (q:=!(B1 p.name)) (by kernel_rfl) (fun c1=>?_) (fun c1=>?_)
 ·try simp only[Am] at c1
  refine Ab [] [2] ?_
  refine Ag ?_
  refine RK wR [(.int .i64 60)] ?_
  refine Same.of_eq ?_
  simp only[Ak]
  congr 1
  rw[←K0]
  unfold I7
  simp_all
 ·try simp only[Am] at c1
  refine Ai ?_
  refine Af [] [1,5] [(8,4)] (hk 2 Ot (P0 p.evr (by omega))<|hk0) v0 c0 ?_
  refine Ac ?_
  refine Ab [] [1,22] ?_
  refine Da (p:=(Cj p.evr)=0) (by kernel_rfl) (fun c2=>?_) (fun c2=>?_)
  ·refine Ab [] [2] ?_
   refine Ag ?_
   refine RK wR [(.int .i64 61)] ?_
   refine Same.of_eq ?_
   simp only[Ak]
   congr 1
   rw[←K0]
   unfold I7
   simp_all
  ·refine Ai ?_
   refine Af [] [1,6] [] (hk 2 X5q (Q9c p.arch (by omega))<|hk0) v0 c0 ?_
   refine Ac ?_
   refine Ab [] [1,27] ?_
   refine Bd (q:=!(Kf p.arch)) (by kernel_rfl) (fun c3=>?_) (fun c3=>?_)
   ·try simp only[Am] at c3
    refine Ab [] [2] ?_
    refine Ag ?_
    refine RK wR [(.int .i64 62)] ?_
    refine Same.of_eq ?_
    simp only[Ak]
    congr 1
    rw[←K0]
    unfold I7
    simp_all
   ·try simp only[Am] at c3
    refine Ai ?_
    refine Af [] [1,7] [] (hk 2 X5p (Q84 p.vendor (by omega))<|hk0) v0 c0 ?_
    refine Ac ?_
    obtain⟨b1,hb1⟩:∃b,b=(!(Hr p.vendor)):=⟨_,rfl⟩
    refine Af (CS:=[(4,((!b1)=true→(!b1)=true)),(5,((!b1)=true→(!b1)=true)),(6,((!b1)=true→(!b1)=true)),(7,(b1=false→(!b1)=true))]) [34,35,36,37] [1,38] [] hk0 (vk 3 33 (a:=.bool (!(Hr p.vendor))) (b:=.bool b1) (Imp.of_eq (by rw[hb1]))<|v0) (by refine cc _ ?_<|cc _ ?_<|cc _ ?_<|cc _ ?_ c0<;>simp) ?_
    refine Bd (q:=b1||(decide (60 < (p.vendor.length:Int)))) (by kernel_rfl) (fun c4=>?_) (fun c4=>?_)
    ·subst hb1
     try simp only[Am] at c4
     refine Ab [] [2] ?_
     refine Ag ?_
     refine RK wR [(.int .i64 63)] ?_
     refine Same.of_eq ?_
     simp only[Ak]
     congr 1
     rw[←K0]
     unfold I7
     simp_all
    ·subst hb1
     try simp only[Am] at c4
     refine Ai ?_
     refine Af [] [1,8] [] (hk 1 X5o (Q89 p (by omega))<|hk0) v0 c0 ?_
     refine Ac ?_
     refine Ab [] [1,42] ?_
     refine Bd (q:=!(Ex p)) (by kernel_rfl) (fun c5=>?_) (fun c5=>?_)
     ·try simp only[Am] at c5
      refine Ab [] [2] ?_
      refine Ag ?_
      refine RK wR [(.int .i64 64)] ?_
      refine Same.of_eq ?_
      simp only[Ak]
      congr 1
      rw[←K0]
      unfold I7
      simp_all
     ·try simp only[Am] at c5
      refine Ai ?_
      refine Af [] [9] [] (hk 2 X5n (Q88 p.files (by omega))<|hk0) v0 c0 ?_
      refine Ac ?_
      refine Ab [] [47] ?_
      refine Bd (q:=!(Ir p.files)) (by kernel_rfl) (fun c6=>?_) (fun c6=>?_)
      ·try simp only[Am] at c6
       refine Ab [] [2] ?_
       refine Ag ?_
       refine RK wR [(.int .i64 65)] ?_
       refine Same.of_eq ?_
       simp only[Ak]
       congr 1
       rw[←K0]
       unfold I7
       simp_all
      ·try simp only[Am] at c6
       refine Ai ?_
       refine Ab [] [2] ?_
       refine Ag ?_
       refine RK wR [(.int .i64 0)] ?_
       refine Same.of_eq ?_
       simp only[Ak]
       congr 1
       rw[←K0]
       unfold I7
       simp_all
end Sv
end
section
open Go Go.RowKit
namespace Sv
attribute [local irreducible] SW SO Bs
set_option maxHeartbeats 1000000
set_option maxRecDepth 100000
theorem X6f:As Tryz.prog 11:=Az Tryz.func11 (by kernel_rfl) rfl
theorem X4v:As Tryz.prog 47:=Az Tryz.func47 (by kernel_rfl) rfl
theorem X4u:As Tryz.prog 48:=Az Tryz.func48 (by kernel_rfl) rfl
noncomputable def Bh (r:RepoT):AV:=.agg [.str r.name,.int .i64 r.prio,.bool r.inst,.nils]
noncomputable def Bj (k:PkgT × Int):AV:=.agg [.str k.1.name,.str k.1.evr,.str k.1.arch,.str k.1.vendor,D4 k.1.provides,D4 k.1.requires,D4 k.1.pre,D4 k.1.conflicts,D4 k.1.obsoletes,D4 k.1.recommends,D4 k.1.supplements,Di k.1.files,.int .i64 k.2]
structure PoolT where
 kind:Int
 repos:List RepoT
 all:List (PkgT × Int)
 deriving Inhabited
def J6 (l:List PkgT):Int:=match l.find? (fun p=>decide (Dp p≠0)) with
 |some p=>Dp p
 |none=>0
def Cv (st:PoolT) (r:RepoT):Int :=
 if B1 r.name=false∨st.repos.any (fun o=>decide (o.name=r.name))=true then 66
 else if r.inst=true∧st.repos.any (fun o=>o.inst)=true then 67
 else if 8≤st.repos.length∨200 < st.all.length+r.pkgs.length then 68
 else J6 r.pkgs
def A6 (st:PoolT) (r:RepoT) (i:Nat):List (PkgT × Int):=st.all++(r.pkgs.take i).map fun p=>(p,(st.repos.length:Int))
def Cn (st:PoolT) (r:RepoT):PoolT:=if Cv st r=0 then ⟨st.kind,st.repos++[r],A6 st r r.pkgs.length⟩ else st
def N6 (l:List (PkgT × Int)) (s:List UInt8):List Nat:=(List.range l.length).filter fun i=>decide ((nth l i).1.name=s)
noncomputable def Bg (l:List (PkgT × Int)) (s:List UInt8):List AV:=(N6 l s).map fun (i:Nat)=>AV.int .i64 (i:Int)
theorem Jp {st:PoolT} {r:RepoT} {e:Int} (h:Cv st r=e) (he:e≠0):Cn st r=st:=by unfold Cn;rw[if_neg (by rw[h];exact he)]
theorem Q2g {l:List PkgT} (h:∀j,j < l.length→Dp (nth l j)=0):J6 l=0:=by
 unfold J6
 rw[List.find?_eq_none.2]
 intro x hx
 obtain⟨j,hj,rfl⟩:=List.getElem_of_mem hx
 have:=h j hj
 simpa [nth,hj] using this
theorem Uv:∀{l:List PkgT} {i:Nat},i < l.length→(∀j,j < i→Dp (nth l j)=0)→Dp (nth l i)≠0→J6 l=Dp (nth l i)
 |[],_,h,_,_=>by simp at h
 |x::r,0,_,_,h=>by
  have h:Dp x≠0:=h
  unfold J6;rw[List.find?_cons_of_pos (by simpa using h)];rfl
 |x::r,i+1,hi,h,hp=>by
  have h0:Dp x=0:=h 0 (by omega)
  have:=Uv (l:=r) (i:=i) (by simpa using hi) (fun j hj=>h (j+1) (by omega)) hp
  unfold J6 at this ⊢
  rw[List.find?_cons_of_neg (by simp[h0])];exact this
theorem X2u {st:PoolT} {r:RepoT} {i:Nat} (h:i < r.pkgs.length):A6 st r (i+1)=A6 st r i++[(nth r.pkgs i,(st.repos.length:Int))]:=by
 unfold A6
 rw[List.take_add_one,List.getElem?_eq_getElem h,List.map_append,List.append_assoc]
 simp[nth,h]
theorem X2v {st:PoolT} {r:RepoT} {i:Nat}:(A6 st r i).length≤st.all.length+i:=by unfold A6;simp;omega
theorem Q0o (l:List (PkgT × Int)) (k:PkgT × Int):D8 (Bg l) k.1.name (Bg l k.1.name++[.int .i64 (l.length:Int)])=Bg (l++[k]):=by
 funext s
 have e:N6 (l++[k]) s=N6 l s++(if k.1.name=s then [l.length] else []):=by
  unfold N6
  rw[List.length_append,List.length_singleton,List.range_succ,List.filter_append]
  congr 1
  ·refine List.filter_congr fun i hi=>?_
   have:i < l.length:=by simpa using hi
   have:nth (l++[k]) i=nth l i:=by simp[nth,List.getElem?_append_left this]
   rw[this]
  ·have:nth (l++[k]) l.length=k:=by simp[nth]
   by_cases h:k.1.name=s<;>simp[this,h]
 unfold D8 Bg
 rw[e]
 by_cases h:s=k.1.name
 ·subst h;rw[if_pos rfl,if_pos rfl,List.map_append];rfl
 ·rw[if_neg h,if_neg (fun q=>h q.symm),List.append_nil]
theorem X1r (l:List (PkgT × Int)) (s:List UInt8):(Bg l s).length≤l.length:=by
 unfold Bg N6
 rw[List.length_map]
 exact Nat.le_trans (List.length_filter_le _ _) (by simp)
theorem Q81 (l : List RepoT) (a : AV) (p : RepoT → Bool) (hl : l.length ≤ 4611686018427387904) (ha : ∀ i, i < l.length → FunV Tryz.prog a [(.agg [(.str ((nth l i).name)), (.int .i64 ((nth l i).prio)), (.bool ((nth l i).inst)), .nils])] (.bool (p (nth l i)))) :
  FnV Tryz.prog 101 [(Ae 4 Bh l),(.clo a)] (.int .i64 (B8 p l)):=by
 refine A8 [.tmp 4] Tryz.func101 rfl Tryz.ntmps101 rfl rfl (fun B F hF=>?_)
 refine Ab [] [0,1] ?_
 refine Ac ?_
 refine Ab [] [0,1,7,8] ?_
 refine Ay ?_
 refine Bz (fun g y=>∃(i:Nat),i≤l.length∧(∀j,j < i→p (nth l j)=false)∧y=⟨[(0,(Ae 4 Bh l)),(1,(.clo a)),(7,(.int .i64 ((l.length:Int)))),(8,(.int .i64 ((i:Int))))],[],0⟩∧g=l.length-i) [0,1,7,8] 0 _ (by omega) ⟨0,(by omega),(by exact fun j hj=>by omega),(by kernel_rfl),rfl⟩ ?_
 rintro g1 y1 ⟨i,f1_1,f1_2,rfl,rfl⟩
 refine Ab [] [0,1,7,8,9] ?_
 refine Ac ?_
 refine A5 (p:=(i:Int) < (l.length:Int)) (by kernel_rfl) (fun c1=>?_) (fun c1=>?_)
 ·refine Ai ?_
  refine Ac ?_
  refine Ay ?_
  refine Ab [] [0,1,5,7,8] ?_
  refine Ac ?_
  refine An ?_
  refine B2 5 0 [] [0,1,5,7,8,11,15] [] hk0 v0 (cc 3 (p:=(0≤(i:Int)∧i < l.length)) (by omega)<|c0) ?_
  refine F9 (s':=[(0,(Ae 4 Bh l)),(1,(.clo a)),(5,(.int .i64 ((i:Int)))),(7,(.int .i64 ((l.length:Int)))),(8,(.int .i64 ((i:Int)))),(11,(.clo a)),(15,(.agg [(.str ((nth l i).name)),(.int .i64 ((nth l i).prio)),(.bool ((nth l i).inst)),.nils])),(16,(.bool (p (nth l i))))]) (a:=(.clo a)) (al:=[(.agg [(.str ((nth l i).name)),(.int .i64 ((nth l i).prio)),(.bool ((nth l i).inst)),.nils])]) (r:=(.bool (p (nth l i)))) (by kernel_rfl) (by kernel_rfl) (by kernel_rfl) (by kernel_rfl) (by kernel_rfl) ((ha i (by omega)).clo) (by kernel_rfl) ?_
  refine Cd ?_
  refine Bd (q:=p (nth l i)) (by kernel_rfl) (fun c2=>?_) (fun c2=>?_)
  ·try simp only[Am] at c2
   refine Ab [] [4] ?_
   refine Ag ?_
   refine RK wR [(.int .i64 ((i:Int)))] ?_
   exact Same.of_eq (by rw[J5 (by omega) f1_2 (by simp_all)];rfl)
  ·try simp only[Am] at c2
   refine Ai ?_
   refine An ?_
   refine Au 0 [] [0,1,7,8] [] hk0 v0 (cc 0 (p:=(-9223372036854775808≤(i:Int)+1∧(i:Int)+1≤9223372036854775807)) (by omega)<|c0) ?_
   refine⟨by kernel_rfl,_,?_,i+1,?_,?_,(by kernel_rfl),rfl⟩
   ·omega
   ·omega
   ·intro j hj
    by_cases h:j=i
    ·subst h;simp_all
    ·exact f1_2 j (by omega)
 ·refine Bp ?_
  refine Ab [] [4] ?_
  refine Ag ?_
  refine RK wR [(.int .i64 (-1))] ?_
  exact Same.of_eq (by rw[J4 (fun j hj=>f1_2 j (by omega))];rfl)
theorem X8 (l : List RepoT) (a : AV) (p : RepoT → Bool) (hl : l.length ≤ 4611686018427387904) (ha : ∀ i, i < l.length → FunV Tryz.prog a [(.agg [(.str ((nth l i).name)), (.int .i64 ((nth l i).prio)), (.bool ((nth l i).inst)), .nils])] (.bool (p (nth l i)))) :
  FnV Tryz.prog 46 [(Ae 4 Bh l),(.clo a)] (.bool (l.any p)):=by
 refine A8 [.tmp 4] Tryz.func46 rfl Tryz.ntmps46 rfl rfl (fun B F hF=>?_)
 refine Ab [] [0,1] ?_
 refine Af [] [4] [] (hk 2 X6m (Q81 l a p hl ha)<|hk0) v0 c0 ?_
 refine Ag ?_
 refine RK wR [(.bool (decide (0≤(B8 p l))))] ?_
 exact Same.of_eq (by simp only[Ak];rw[Lb])
theorem Q8i (o r : RepoT) :
  FnV Tryz.prog 47 [(.agg [(.str o.name),(.int .i64 o.prio),(.bool o.inst),.nils]),(.fp (.agg [(.str r.name),(.int .i64 r.prio),(.bool r.inst),(Ae 12 Av r.pkgs)]))] (.bool (decide (o.name=r.name))):=by
 refine A8 [.tmp 3] Tryz.func47 rfl Tryz.ntmps47 rfl rfl (fun B F hF=>?_)
 refine Af [] [1,2] [(1,2)] hk0 v0 c0 ?_
 refine Ab [] [3] ?_
 refine Ag ?_
 refine RK wR [(.bool (decide (o.name=r.name)))] ?_
 exact Same.of_eq (by first|rfl|(simp only[Ak];simp_all))
theorem X21 (o : RepoT) :
  FnV Tryz.prog 48 [(.agg [(.str o.name),(.int .i64 o.prio),(.bool o.inst),.nils])] (.bool o.inst):=by
 refine A8 [.tmp 2] Tryz.func48 rfl Tryz.ntmps48 rfl rfl (fun B F hF=>?_)
 refine Af [] [1] [(1,1)] hk0 v0 c0 ?_
 refine Ab [] [2] ?_
 refine Ag ?_
 refine RK wR [(.bool o.inst)] ?_
 exact Same.of_eq (by first|rfl|(simp only[Ak];simp_all))
theorem Y0g (st : PoolT) (r : RepoT) (hr : st.repos.length ≤ 8) (ha : st.all.length ≤ 200) (hn : r.name.length ≤ 4194304) (hpl : r.pkgs.length ≤ 4194304) (hp : ∀ i, i < r.pkgs.length → (nth r.pkgs i).size ≤ 4194304) :
  Gp Tryz.prog 11 [(.ptr 0 0),(.agg [(.str r.name),(.int .i64 r.prio),(.bool r.inst),(Ae 12 Av r.pkgs)])] [(0,(.row [(.int .i64 st.kind),(.own 1),(.own 2),(.map 3)] 101)),(1,(.grow (st.repos.map Bh) 41 4)),(2,(.grow (st.all.map Bj) 106 13)),(3,(.mm (Bg st.all) none 3 1))] 4 (.int .i64 (Cv st r)) [(0,(.row [(.int .i64 ((Cn st r).kind)),(.own 1),(.own 2),(.map 3)] 101)),(1,(.grow ((Cn st r).repos.map Bh) 41 4)),(2,(.grow ((Cn st r).all.map Bj) 106 13)),(3,(.mm (Bg (Cn st r).all) none 3 1))]:=by
 have hml:(st.repos.map Bh).length=st.repos.length:=List.length_map _
 have hma:(st.all.map Bj).length=st.all.length:=List.length_map _
 refine Lt [.tmp 4] Tryz.func11 rfl Tryz.ntmps11 rfl rfl (by kernel_rfl) (by kernel_rfl) (by kernel_rfl) (fun B F hF=>?_)
 refine Ab [] [0,3] ?_
 refine Ac ?_
 refine Ay ?_
 refine Ab [] [0,3,10] ?_
 refine Fc (by kernel_rfl) ?_
 refine Ac ?_
 refine An ?_
 obtain⟨b2,hb2⟩:∃b,b=(!(B1 r.name)):=⟨_,rfl⟩
 refine B2 (CS:=[(6,((!b2)=true→(!b2)=true)),(7,((!b2)=true→(!b2)=true)),(8,((!b2)=true→(!b2)=true))]) 10 0 [19,20,21,22,23] [0,3,18,22,23] [] (hk 2 Os (Sg r.name (by omega))<|hk0) (vk 5 18 (a:=.bool (!(B1 r.name))) (b:=.bool b2) (Imp.of_eq (by rw[hb2]))<|v0) (by refine cc _ ?_<|cc _ ?_<|cc _ ?_ c0<;>simp) ?_
 refine Wj (s':=[(0,(.ptr 0 0)),(3,(.ptr 4 0)),(18,(.bool b2)),(22,(.cond (!b2) (.own 1))),(23,(.cond (!b2) (.fn 47 [] [(.ptr 4 0)]))),(24,(.cond (!b2) (.bool (st.repos.any (fun o=>decide (o.name=r.name))))))]) (q:=!b2) (al:=[(.own 1),(.fn 47 [] [(.ptr 4 0)])]) (al':=[(.row 4 (st.repos.map Bh).length (fun ix=>(st.repos.map Bh).getD ix Br)),(.fn 47 [] [(.fp (.agg [(.str r.name),(.int .i64 r.prio),(.bool r.inst),(Ae 12 Av r.pkgs)]))])]) (h':=[(0,(.row [(.int .i64 st.kind),(.own 1),(.own 2),(.map 3)] 101)),(2,(.grow (st.all.map Bj) 106 13)),(3,(.mm (Bg st.all) none 3 1))]) (r:=(.bool (st.repos.any (fun o=>decide (o.name=r.name))))) (by kernel_rfl) (by exact Q27) (by kernel_rfl) (Qo (some ((!b2)=true∧(!b2)=true)) (by kernel_rfl) fun cg=>hold (by(intros;simp_all;done))) (by kernel_rfl) (fun cg=>(X8 st.repos (.fn 47 [] [.fp (.agg [(.str r.name),(.int .i64 r.prio),(.bool r.inst),(Ae 12 Av r.pkgs)])]) (fun o=>decide (o.name=r.name)) (by omega) (fun i hi=>FunV.of (by exact X4v) (Q8i (nth st.repos i) r))).of_args (ImpL.cons (Imp.list (f:=Bh) (List.length_map _)) (ImpL.cons (Imp.clo (by kernel_rfl)) ImpL.nil))) rfl (by kernel_rfl) ?_
 obtain⟨b3,hb3⟩:∃b,b=(b2||(st.repos.any (fun o=>decide (o.name=r.name)))):=⟨_,rfl⟩
 refine Au 11 [] [0,3,13] [] hk0 (vk 12 25 (a:=.bool (b2||(st.repos.any (fun o=>decide (o.name=r.name))))) (b:=.bool b3) (Imp.of_eq (by rw[hb3]))<|v0) (cc 11 (p:=(b2=false→(!b2)=true)) (by simp)<|c0) ?_
 refine Bd (q:=b3) (by kernel_rfl) (fun c1=>?_) (fun c1=>?_)
 ·subst hb3 hb2
  try simp only[Am] at c1
  refine Ab [] [4] ?_
  refine Ag ?_
  refine Er (.inl rfl) (al:=[(.int .i64 66)]) (by kernel_rfl) ?_ ((by kernel_rfl:Dr 4 _=some [(0,(.row [(.int .i64 st.kind),(.own 1),(.own 2),(.map 3)] 101)),(1,(.grow (st.repos.map Bh) 41 4)),(2,(.grow (st.all.map Bj) 106 13)),(3,(.mm (Bg st.all) none 3 1))]).trans ?_)
  all_goals have hE:Cv st r=66:=by unfold Cv;rw[if_pos c1]
  ·rw[hE];rfl
  ·rw[Jp hE (by decide)]
 ·subst hb3 hb2
  try simp only[Am] at c1
  refine Ac ?_
  refine An ?_
  refine B2 (CS:=[(4,(r.inst=true→r.inst=true)),(5,(r.inst=true→r.inst=true)),(6,(r.inst=true→r.inst=true))]) 7 0 [30,31,32,33] [0,3,29,33] [] hk0 v0 (by refine cc _ ?_<|cc _ ?_<|cc _ ?_ c0<;>simp) ?_
  refine Wj (s':=[(0,(.ptr 0 0)),(3,(.ptr 4 0)),(29,(.bool r.inst)),(33,(.cond r.inst (.own 1))),(34,(.cond r.inst (.bool (st.repos.any (fun o=>o.inst)))))]) (q:=r.inst) (al:=[(.own 1),(.fn 48 [] [])]) (al':=[(.row 4 (st.repos.map Bh).length (fun ix=>(st.repos.map Bh).getD ix Br)),(.fn 48 [] [])]) (h':=[(0,(.row [(.int .i64 st.kind),(.own 1),(.own 2),(.map 3)] 101)),(2,(.grow (st.all.map Bj) 106 13)),(3,(.mm (Bg st.all) none 3 1)),(4,(.row [(.str r.name),(.int .i64 r.prio),(.bool r.inst),(Ae 12 Av r.pkgs)] 41))]) (r:=(.bool (st.repos.any (fun o=>o.inst)))) (by kernel_rfl) (by exact Q27) (by kernel_rfl) (Qo (some (r.inst=true)) (by kernel_rfl) fun cg=>hold (by omega)) (by kernel_rfl) (fun cg=>(X8 st.repos (.fn 48 [] []) (fun o=>o.inst) (by omega) (fun i hi=>FunV.of (by exact X4u) (X21 (nth st.repos i)))).of_args (ImpL.cons (Imp.list (f:=Bh) (List.length_map _)) (ImpL.cons (Imp.clo (by kernel_rfl)) ImpL.nil))) rfl (by kernel_rfl) ?_
  refine Au 8 [] [0,3,26] [] hk0 v0 (cc 8 (p:=(r.inst=true→r.inst=true)) (by simp)<|c0) ?_
  refine Bd (q:=r.inst&&(st.repos.any (fun o=>o.inst))) (by kernel_rfl) (fun c2=>?_) (fun c2=>?_)
  ·try simp only[Am] at c2
   refine Ab [] [4] ?_
   refine Ag ?_
   refine Er (.inl rfl) (al:=[(.int .i64 67)]) (by kernel_rfl) ?_ ((by kernel_rfl:Dr 4 _=some [(0,(.row [(.int .i64 st.kind),(.own 1),(.own 2),(.map 3)] 101)),(1,(.grow (st.repos.map Bh) 41 4)),(2,(.grow (st.all.map Bj) 106 13)),(3,(.mm (Bg st.all) none 3 1))]).trans ?_)
   all_goals have hE:Cv st r=67:=by unfold Cv;rw[if_neg (by simp only[not_or];simp_all),if_pos (by simp_all)]
   ·rw[hE];rfl
   ·rw[Jp hE (by decide)]
  ·try simp only[Am] at c2
   refine Dm (fun y=>y=⟨[(0,(.ptr 0 0)),(3,(.ptr 4 0)),(36,(.bool (decide ((8:Int)≤((st.repos.map Bh).length:Int))||decide ((200:Int) < ((st.all.map Bj).length:Int)+(r.pkgs.length:Int)))))],[(0,(.row [(.int .i64 st.kind),(.own 1),(.own 2),(.map 3)] 101)),(1,(.grow (st.repos.map Bh) 41 4)),(2,(.grow (st.all.map Bj) 106 13)),(3,(.mm (Bg st.all) none 3 1)),(4,(.row [(.str r.name),(.int .i64 r.prio),(.bool r.inst),(Ae 12 Av r.pkgs)] 41))],5⟩) [0,3,36] 5 (by omega) ?_ ?_
   ·refine G9 (CS:=[(8,((!(decide (8≤((st.repos.map Bh).length:Int))))=true→(!(decide (8≤((st.repos.map Bh).length:Int))))=true)),(9,((!(decide (8≤((st.repos.map Bh).length:Int))))=true→(!(decide (8≤((st.repos.map Bh).length:Int))))=true)),(10,((!(decide (8≤((st.repos.map Bh).length:Int))))=true→(!(decide (8≤((st.repos.map Bh).length:Int))))=true)),(11,((!(decide (8≤((st.repos.map Bh).length:Int))))=true→(!(decide (8≤((st.repos.map Bh).length:Int))))=true)),(13,((!(decide (8≤((st.repos.map Bh).length:Int))))=true→(!(decide (8≤((st.repos.map Bh).length:Int))))=true)),(14,((!(decide (8≤((st.repos.map Bh).length:Int))))=true→(!(decide (8≤((st.repos.map Bh).length:Int))))=true)),(15,((!(decide (8≤((st.repos.map Bh).length:Int))))=true→((!(decide (8≤((st.repos.map Bh).length:Int))))=true∧(!(decide (8≤((st.repos.map Bh).length:Int))))=true)∧(-9223372036854775808≤((st.all.map Bj).length:Int)+(r.pkgs.length:Int)∧((st.all.map Bj).length:Int)+(r.pkgs.length:Int)≤9223372036854775807))),(16,((!(decide (8≤((st.repos.map Bh).length:Int))))=true→(!(decide (8≤((st.repos.map Bh).length:Int))))=true)),(17,((decide (8≤((st.repos.map Bh).length:Int)))=false→(!(decide (8≤((st.repos.map Bh).length:Int))))=true))]) [44,45,46,47,48,49,50,51,52,53] [0,3,36] [] hk0 v0 (by refine cc _ ?_<|cc _ ?_<|cc _ ?_<|cc _ ?_<|cc _ ?_<|cc _ ?_<|cc _ ?_<|cc _ ?_<|cc _ ?_ c0<;>first|omega|(simp;omega)|(simp;done)|(intros;simp_all;omega)|(intros;simp_all;done)) ?_
    refine⟨by kernel_rfl,(by kernel_rfl)⟩
   ·rintro y1 rfl
    refine Bd (q:=decide ((8:Int)≤((st.repos.map Bh).length:Int))||decide ((200:Int) < ((st.all.map Bj).length:Int)+(r.pkgs.length:Int))) (by kernel_rfl) (fun c3=>?_) (fun c3=>?_)
    ·try simp only[Am] at c3
     refine Ab [] [4] ?_
     refine Ag ?_
     refine Er (.inl rfl) (al:=[(.int .i64 68)]) (by kernel_rfl) ?_ ((by kernel_rfl:Dr 4 _=some [(0,(.row [(.int .i64 st.kind),(.own 1),(.own 2),(.map 3)] 101)),(1,(.grow (st.repos.map Bh) 41 4)),(2,(.grow (st.all.map Bj) 106 13)),(3,(.mm (Bg st.all) none 3 1))]).trans ?_)
     all_goals have hE:Cv st r=68:=by unfold Cv;rw[if_neg (by simp only[not_or];simp_all),if_neg (by rintro⟨h1,h2⟩;rw[h1,h2] at c2;simp at c2),if_pos (by omega)]
     ·rw[hE];rfl
     ·rw[Jp hE (by decide)]
    ·try simp only[Am] at c3
     refine Ai ?_
     refine Ac ?_
     refine Ab [] [0,3,56,57,58] ?_
     refine Ay ?_
     refine Bz (fun g y=>∃(i:Nat),i≤r.pkgs.length∧(∀j,j < i→Dp (nth r.pkgs j)=0)∧y=⟨[(0,(.ptr 0 0)),(3,(.ptr 4 0)),(56,(Ae 12 Av r.pkgs)),(57,(.int .i64 ((r.pkgs.length:Int)))),(58,(.int .i64 ((i:Int))))],[(0,(.row [(.int .i64 st.kind),(.own 1),(.own 2),(.map 3)] 101)),(1,(.grow (st.repos.map Bh) 41 4)),(2,(.grow (st.all.map Bj) 106 13)),(3,(.mm (Bg st.all) none 3 1)),(4,(.row [(.str r.name),(.int .i64 r.prio),(.bool r.inst),(Ae 12 Av r.pkgs)] 41))],5⟩∧g=r.pkgs.length-i) [0,3,56,57,58] 5 _ (by omega) ⟨0,(by omega),(by exact fun j hj=>by omega),(by kernel_rfl),rfl⟩ ?_
     rintro g1 y1 ⟨i,f1_1,f1_2,rfl,rfl⟩
     refine Ab [] [0,3,56,57,58,59] ?_
     refine Ac ?_
     refine A5 (p:=(i:Int) < (r.pkgs.length:Int)) (by kernel_rfl) (fun c4=>?_) (fun c4=>?_)
     ·refine Ai ?_
      refine Ac ?_
      refine Ay ?_
      refine Af [] [0,3,6,56,57,58] [] hk0 v0 (cc 0 (p:=(0≤(i:Int)∧i < r.pkgs.length)) (by omega)<|c0) ?_
      refine Af [] [0,3,7,56,57,58] [(0,6)] (hk 1 X4t (Y0e (nth r.pkgs i) (hp i (by omega)))<|hk0) v0 c0 ?_
      refine Ab [] [0,3,7,56,57,58,65] ?_
      refine Da (p:=(Dp (nth r.pkgs i))=0) (by kernel_rfl) (fun c5=>?_) (fun c5=>?_)
      ·refine Ab [] [4] ?_
       refine Ag ?_
       refine Er (.inl rfl) (al:=[(.int .i64 (Dp (nth r.pkgs i)))]) (by kernel_rfl) ?_ ((by kernel_rfl:Dr 4 _=some [(0,(.row [(.int .i64 st.kind),(.own 1),(.own 2),(.map 3)] 101)),(1,(.grow (st.repos.map Bh) 41 4)),(2,(.grow (st.all.map Bj) 106 13)),(3,(.mm (Bg st.all) none 3 1))]).trans ?_)
       all_goals have hE:Cv st r=Dp (nth r.pkgs i):=by unfold Cv;rw[if_neg (by simp only[not_or];simp_all),if_neg (by rintro⟨h1,h2⟩;rw[h1,h2] at c2;simp at c2),if_neg (by omega)];exact Uv (by omega) f1_2 (by assumption)
       ·rw[hE];rfl
       ·rw[Jp hE (by assumption)]
      ·refine Ai ?_
       refine An ?_
       refine Au 0 [] [0,3,56,57,58] [] hk0 v0 (cc 0 (p:=(-9223372036854775808≤(i:Int)+1∧(i:Int)+1≤9223372036854775807)) (by omega)<|c0) ?_
       refine⟨by kernel_rfl,_,?_,i+1,?_,?_,(by kernel_rfl),rfl⟩
       ·omega
       ·omega
       ·intro j hj
        by_cases h:j=i
        ·subst h;simp_all
        ·exact f1_2 j (by omega)
     ·refine Bp ?_
      refine Ac ?_
      refine Ab [] [0,3,69,70,71] ?_
      refine Ay ?_
      refine Bz (fun g y=>∃(i:Nat),i≤r.pkgs.length∧y=⟨[(0,(.ptr 0 0)),(3,(.ptr 4 0)),(69,(Ae 12 Av r.pkgs)),(70,(.int .i64 ((r.pkgs.length:Int)))),(71,(.int .i64 ((i:Int))))],[(0,(.row [(.int .i64 st.kind),(.own 1),(.own 2),(.map 3)] 101)),(1,(.grow (st.repos.map Bh) 41 4)),(2,(.grow ((A6 st r i).map Bj) 106 13)),(3,(.mm (Bg (A6 st r i)) none 3 1)),(4,(.row [(.str r.name),(.int .i64 r.prio),(.bool r.inst),(Ae 12 Av r.pkgs)] 41))],5⟩∧g=r.pkgs.length-i) [0,3,69,70,71] 5 _ (by omega) ⟨0,(by omega),(Eq.trans (b:=(⟨[(0,(.ptr 0 0)),(3,(.ptr 4 0)),(69,(Ae 12 Av r.pkgs)),(70,(.int .i64 ((r.pkgs.length:Int)))),(71,(.int .i64 0))],[(0,(.row [(.int .i64 st.kind),(.own 1),(.own 2),(.map 3)] 101)),(1,(.grow (st.repos.map Bh) 41 4)),(2,(.grow (st.all.map Bj) 106 13)),(3,(.mm (Bg st.all) none 3 1)),(4,(.row [(.str r.name),(.int .i64 r.prio),(.bool r.inst),(Ae 12 Av r.pkgs)] 41))],5⟩:St)) (by kernel_rfl) (by rw[show A6 st r 0=st.all from by simp[A6]]<;>rfl)),rfl⟩ ?_
      rintro g2 y2 ⟨i,f2_1,rfl,rfl⟩
      have hkl:((A6 st r i).map Bj).length≤200:=by have:=X2v (st:=st) (r:=r) (i:=i);rw[List.length_map];omega
      have hgl:(Bg (A6 st r i) (nth r.pkgs i).name).length≤200:=Nat.le_trans (X1r _ _) (by rwa [List.length_map] at hkl)
      refine Ab [] [0,3,69,70,71,72] ?_
      refine Ac ?_
      refine A5 (p:=(i:Int) < (r.pkgs.length:Int)) (by kernel_rfl) (fun c6=>?_) (fun c6=>?_)
      ·refine Ai ?_
       refine Dm (fun y=>y=⟨[(0,(.ptr 0 0)),(3,(.ptr 4 0)),(69,(Ae 12 Av r.pkgs)),(70,(.int .i64 ((r.pkgs.length:Int)))),(71,(.int .i64 ((i:Int))))],[(0,(.row [(.int .i64 st.kind),(.own 1),(.own 2),(.map 3)] 101)),(1,(.grow (st.repos.map Bh) 41 4)),(2,(.grow ((A6 st r i++[(nth r.pkgs i,(st.repos.length:Int))]).map Bj) 106 13)),(3,(.mm (Bg (A6 st r i++[(nth r.pkgs i,(st.repos.length:Int))])) none 3 1)),(4,(.row [(.str r.name),(.int .i64 r.prio),(.bool r.inst),(Ae 12 Av r.pkgs)] 41))],5⟩) [0,3,69,70,71] 5 (by omega) ?_ ?_
       ·refine Ay ?_
        refine Af [] [0,3,9,69,70,71] [] hk0 v0 (cc 0 (p:=(0≤(i:Int)∧i < r.pkgs.length)) (by omega)<|c0) ?_
        refine Sa 9 (y:=⟨[(0,(.ptr 0 0)),(3,(.ptr 4 0)),(9,(.fp (Av (nth r.pkgs i)))),(69,(Ae 12 Av r.pkgs)),(70,(.int .i64 ((r.pkgs.length:Int)))),(71,(.int .i64 ((i:Int))))],[(0,(.row [(.int .i64 st.kind),(.own 1),(.own 2),(.map 3)] 101)),(1,(.grow (st.repos.map Bh) 41 4)),(2,(.grow ((A6 st r i).map Bj) 106 13)),(3,(.mm (Bg (A6 st r i)) none 3 1)),(4,(.row [(.str r.name),(.int .i64 r.prio),(.bool r.inst),(Ae 12 Av r.pkgs)] 41))],6⟩) (by kernel_rfl) ?_
        refine Dm (fun y=>y=⟨[(0,(.ptr 0 0)),(3,(.ptr 4 0)),(9,(.fp (Av (nth r.pkgs i)))),(69,(Ae 12 Av r.pkgs)),(70,(.int .i64 ((r.pkgs.length:Int)))),(71,(.int .i64 ((i:Int))))],[(0,(.row [(.int .i64 st.kind),(.own 1),(.own 2),(.map 3)] 101)),(1,(.grow (st.repos.map Bh) 41 4)),(2,(.grow ((A6 st r i).map Bj) 106 13)),(3,(.mm (Bg (A6 st r i++[(nth r.pkgs i,(st.repos.length:Int))])) none 3 1)),(4,(.row [(.str r.name),(.int .i64 r.prio),(.bool r.inst),(Ae 12 Av r.pkgs)] 41))],6⟩) [0,3,9,69,70,71] 6 (by omega) ?_ ?_
        ·refine Kk (by kernel_rfl) (fun F1 hF1=>?_)
         refine Cy false 1 (lsD 21 [0,1,2,3,4,5,6,7,8,9,10,11,12,13,14,15,16,17,18,19]) ⟨[(0,(.ptr 0 0)),(3,(.ptr 4 0)),(9,(.fp (Av (nth r.pkgs i)))),(69,(Ae 12 Av r.pkgs)),(70,(.int .i64 ((r.pkgs.length:Int)))),(71,(.int .i64 ((i:Int)))),(78,(.map 3)),(80,(.str ((nth r.pkgs i).name))),(94,(.own 6))],[(0,(.row [(.int .i64 st.kind),(.own 1),(.own 2),(.map 3)] 101)),(1,(.grow (st.repos.map Bh) 41 4)),(2,(.grow ((A6 st r i).map Bj) 106 13)),(3,(.mm (Bg (A6 st r i)) (some ((nth r.pkgs i).name)) 3 1)),(4,(.row [(.str r.name),(.int .i64 r.prio),(.bool r.inst),(Ae 12 Av r.pkgs)] 41)),(6,(.grow (((Bg (A6 st r i)) ((nth r.pkgs i).name))++([(.int .i64 ((((A6 st r i).map Bj).length:Int)))]:List AV)) 3 1)),(7,(.row [(.int .i64 ((((A6 st r i).map Bj).length:Int)))] 3))],8⟩ ?_ (fun m1_1=>?_)
         ·refine Ha (fuel:=0) 20 (by kernel_rfl) ?_
          refine Dt (fuel:=0) 20 rfl ?_
          refine Sd (b:=3) (c:=6) (s:=(nth r.pkgs i).name) (s1:=(nth r.pkgs i).name) (y:=⟨[(0,(.ptr 0 0)),(3,(.ptr 4 0)),(9,(.fp (Av (nth r.pkgs i)))),(69,(Ae 12 Av r.pkgs)),(70,(.int .i64 ((r.pkgs.length:Int)))),(71,(.int .i64 ((i:Int)))),(78,(.map 3)),(80,(.str ((nth r.pkgs i).name))),(94,(.own 6))],[(0,(.row [(.int .i64 st.kind),(.own 1),(.own 2),(.map 3)] 101)),(1,(.grow (st.repos.map Bh) 41 4)),(2,(.grow ((A6 st r i).map Bj) 106 13)),(3,(.mm (D8 (Bg (A6 st r i)) ((nth r.pkgs i).name) (((Bg (A6 st r i)) ((nth r.pkgs i).name))++([(.int .i64 ((((A6 st r i).map Bj).length:Int)))]:List AV))) none 3 1)),(4,(.row [(.str r.name),(.int .i64 r.prio),(.bool r.inst),(Ae 12 Av r.pkgs)] 41)),(7,(.row [(.int .i64 ((((A6 st r i).map Bj).length:Int)))] 3))],8⟩) (by kernel_rfl) (by kernel_rfl) (by kernel_rfl) (by kernel_rfl) (by kernel_rfl) rfl Tryz.underlying99 Tryz.underlying9 (by kernel_rfl) rfl ?_
          refine Cd ⟨rfl,?_⟩
          refine A9 [0,3,9,69,70,71] ?_
          refine Ho (by kernel_rfl) ?_
          refine⟨by kernel_rfl,(Eq.trans (b:=(⟨[(0,(.ptr 0 0)),(3,(.ptr 4 0)),(9,(.fp (Av (nth r.pkgs i)))),(69,(Ae 12 Av r.pkgs)),(70,(.int .i64 ((r.pkgs.length:Int)))),(71,(.int .i64 ((i:Int))))],[(0,(.row [(.int .i64 st.kind),(.own 1),(.own 2),(.map 3)] 101)),(1,(.grow (st.repos.map Bh) 41 4)),(2,(.grow ((A6 st r i).map Bj) 106 13)),(3,(.mm (D8 (Bg (A6 st r i)) ((nth r.pkgs i).name) (((Bg (A6 st r i)) ((nth r.pkgs i).name))++([(.int .i64 ((((A6 st r i).map Bj).length:Int)))]:List AV))) none 3 1)),(4,(.row [(.str r.name),(.int .i64 r.prio),(.bool r.inst),(Ae 12 Av r.pkgs)] 41))],6⟩:St)) (by kernel_rfl) (by rw[show(D8 (Bg (A6 st r i)) ((nth r.pkgs i).name) (((Bg (A6 st r i)) ((nth r.pkgs i).name))++([(.int .i64 ((((A6 st r i).map Bj).length:Int)))]:List AV)))=Bg (A6 st r i++[(nth r.pkgs i,(st.repos.length:Int))]) from by(try rw[List.length_map]);exact Q0o (A6 st r i) (nth r.pkgs i,(st.repos.length:Int))]<;>kernel_rfl))⟩
         refine Cy false 1 (lsD 21 [0,1,2,3,4,5,6,7,8,9,10,11,12,13,14,15,16,17,18,19]) ⟨[(0,(.ptr 0 0)),(3,(.ptr 4 0)),(9,(.fp (Av (nth r.pkgs i)))),(69,(Ae 12 Av r.pkgs)),(70,(.int .i64 ((r.pkgs.length:Int)))),(71,(.int .i64 ((i:Int)))),(78,(.map 3)),(80,(.str ((nth r.pkgs i).name))),(94,(.own 7))],[(0,(.row [(.int .i64 st.kind),(.own 1),(.own 2),(.map 3)] 101)),(1,(.grow (st.repos.map Bh) 41 4)),(2,(.grow ((A6 st r i).map Bj) 106 13)),(3,(.mm (Bg (A6 st r i)) (some ((nth r.pkgs i).name)) 3 1)),(4,(.row [(.str r.name),(.int .i64 r.prio),(.bool r.inst),(Ae 12 Av r.pkgs)] 41)),(6,(.row [(.int .i64 ((((A6 st r i).map Bj).length:Int)))] 3)),(7,(.grow (((Bg (A6 st r i)) ((nth r.pkgs i).name))++([(.int .i64 ((((A6 st r i).map Bj).length:Int)))]:List AV)) 3 1))],8⟩ ?_ (fun m1_2=>?_)
         ·refine Ha (fuel:=0) 20 (by kernel_rfl) ?_
          refine Dt (fuel:=0) 20 rfl ?_
          refine Sd (b:=3) (c:=7) (s:=(nth r.pkgs i).name) (s1:=(nth r.pkgs i).name) (y:=⟨[(0,(.ptr 0 0)),(3,(.ptr 4 0)),(9,(.fp (Av (nth r.pkgs i)))),(69,(Ae 12 Av r.pkgs)),(70,(.int .i64 ((r.pkgs.length:Int)))),(71,(.int .i64 ((i:Int)))),(78,(.map 3)),(80,(.str ((nth r.pkgs i).name))),(94,(.own 7))],[(0,(.row [(.int .i64 st.kind),(.own 1),(.own 2),(.map 3)] 101)),(1,(.grow (st.repos.map Bh) 41 4)),(2,(.grow ((A6 st r i).map Bj) 106 13)),(3,(.mm (D8 (Bg (A6 st r i)) ((nth r.pkgs i).name) (((Bg (A6 st r i)) ((nth r.pkgs i).name))++([(.int .i64 ((((A6 st r i).map Bj).length:Int)))]:List AV))) none 3 1)),(4,(.row [(.str r.name),(.int .i64 r.prio),(.bool r.inst),(Ae 12 Av r.pkgs)] 41)),(6,(.row [(.int .i64 ((((A6 st r i).map Bj).length:Int)))] 3))],8⟩) (by kernel_rfl) (by kernel_rfl) (by kernel_rfl) (by kernel_rfl) (by kernel_rfl) rfl Tryz.underlying99 Tryz.underlying9 (by kernel_rfl) rfl ?_
          refine Cd ⟨rfl,?_⟩
          refine A9 [0,3,9,69,70,71] ?_
          refine Ho (by kernel_rfl) ?_
          refine⟨by kernel_rfl,(Eq.trans (b:=(⟨[(0,(.ptr 0 0)),(3,(.ptr 4 0)),(9,(.fp (Av (nth r.pkgs i)))),(69,(Ae 12 Av r.pkgs)),(70,(.int .i64 ((r.pkgs.length:Int)))),(71,(.int .i64 ((i:Int))))],[(0,(.row [(.int .i64 st.kind),(.own 1),(.own 2),(.map 3)] 101)),(1,(.grow (st.repos.map Bh) 41 4)),(2,(.grow ((A6 st r i).map Bj) 106 13)),(3,(.mm (D8 (Bg (A6 st r i)) ((nth r.pkgs i).name) (((Bg (A6 st r i)) ((nth r.pkgs i).name))++([(.int .i64 ((((A6 st r i).map Bj).length:Int)))]:List AV))) none 3 1)),(4,(.row [(.str r.name),(.int .i64 r.prio),(.bool r.inst),(Ae 12 Av r.pkgs)] 41))],6⟩:St)) (by kernel_rfl) (by rw[show(D8 (Bg (A6 st r i)) ((nth r.pkgs i).name) (((Bg (A6 st r i)) ((nth r.pkgs i).name))++([(.int .i64 ((((A6 st r i).map Bj).length:Int)))]:List AV)))=Bg (A6 st r i++[(nth r.pkgs i,(st.repos.length:Int))]) from by(try rw[List.length_map]);exact Q0o (A6 st r i) (nth r.pkgs i,(st.repos.length:Int))]<;>kernel_rfl))⟩
         refine Cy false 2 (lsD 21 [0,1,2,3,4,5,6,7,8,9,10,11,12,13,14,15,16,17,18]) ⟨[(0,(.ptr 0 0)),(3,(.ptr 4 0)),(9,(.fp (Av (nth r.pkgs i)))),(69,(Ae 12 Av r.pkgs)),(70,(.int .i64 ((r.pkgs.length:Int)))),(71,(.int .i64 ((i:Int)))),(78,(.map 3)),(80,(.str ((nth r.pkgs i).name))),(87,(.own 6)),(93,(.sl 7 0 1 1 false))],[(0,(.row [(.int .i64 st.kind),(.own 1),(.own 2),(.map 3)] 101)),(1,(.grow (st.repos.map Bh) 41 4)),(2,(.grow ((A6 st r i).map Bj) 106 13)),(3,(.mm (Bg (A6 st r i)) (some ((nth r.pkgs i).name)) 3 1)),(4,(.row [(.str r.name),(.int .i64 r.prio),(.bool r.inst),(Ae 12 Av r.pkgs)] 41)),(6,(.grow ((Bg (A6 st r i)) ((nth r.pkgs i).name)) 3 1)),(7,(.row [(.int .i64 ((((A6 st r i).map Bj).length:Int)))] 3))],8⟩ ?_ (fun m1_3=>?_)
         ·refine Dg (fuel:=1) 19 [] (hold (p:=((((Bg (A6 st r i)) ((nth r.pkgs i).name)).length+1)*8≤140737488355328)) (by omega)) ?_
          refine A9 [0,3,9,69,70,71,78,80,94] ?_
          exact Bl m1_1
         refine Cy false 2 (lsD 21 [0,1,2,3,4,5,6,7,8,9,10,11,12,13,14,15,16,17,18]) ⟨[(0,(.ptr 0 0)),(3,(.ptr 4 0)),(9,(.fp (Av (nth r.pkgs i)))),(69,(Ae 12 Av r.pkgs)),(70,(.int .i64 ((r.pkgs.length:Int)))),(71,(.int .i64 ((i:Int)))),(78,(.map 3)),(80,(.str ((nth r.pkgs i).name))),(87,(.own 7)),(93,(.sl 6 0 1 1 false))],[(0,(.row [(.int .i64 st.kind),(.own 1),(.own 2),(.map 3)] 101)),(1,(.grow (st.repos.map Bh) 41 4)),(2,(.grow ((A6 st r i).map Bj) 106 13)),(3,(.mm (Bg (A6 st r i)) (some ((nth r.pkgs i).name)) 3 1)),(4,(.row [(.str r.name),(.int .i64 r.prio),(.bool r.inst),(Ae 12 Av r.pkgs)] 41)),(6,(.row [(.int .i64 ((((A6 st r i).map Bj).length:Int)))] 3)),(7,(.grow ((Bg (A6 st r i)) ((nth r.pkgs i).name)) 3 1))],8⟩ ?_ (fun m1_4=>?_)
         ·refine Dg (fuel:=1) 19 [] (hold (p:=((((Bg (A6 st r i)) ((nth r.pkgs i).name)).length+1)*8≤140737488355328)) (by omega)) ?_
          refine A9 [0,3,9,69,70,71,78,80,94] ?_
          exact Bl m1_2
         refine Cy false 3 (lsD 21 [0,1,2,3,4,5,6,7,8,9,10,11,12,13,14,15,16,17]) ⟨[(0,(.ptr 0 0)),(3,(.ptr 4 0)),(9,(.fp (Av (nth r.pkgs i)))),(69,(Ae 12 Av r.pkgs)),(70,(.int .i64 ((r.pkgs.length:Int)))),(71,(.int .i64 ((i:Int)))),(78,(.map 3)),(80,(.str ((nth r.pkgs i).name))),(87,(.own 6)),(92,(.int .i64 ((((A6 st r i).map Bj).length:Int))))],[(0,(.row [(.int .i64 st.kind),(.own 1),(.own 2),(.map 3)] 101)),(1,(.grow (st.repos.map Bh) 41 4)),(2,(.grow ((A6 st r i).map Bj) 106 13)),(3,(.mm (Bg (A6 st r i)) (some ((nth r.pkgs i).name)) 3 1)),(4,(.row [(.str r.name),(.int .i64 r.prio),(.bool r.inst),(Ae 12 Av r.pkgs)] 41)),(6,(.grow ((Bg (A6 st r i)) ((nth r.pkgs i).name)) 3 1))],7⟩ ?_ (fun m1_5=>?_)
         ·refine Dg (fuel:=2) 18 [] Bc ?_
          refine A9 [0,3,9,69,70,71,78,80,87,93] ?_
          exact Bl m1_3
         refine Cy true 3 (lsD 21 [0,1,2,3,4,5,6,7,8,9,10,11,13,14,15,16,17,18]) ⟨[(0,(.ptr 0 0)),(3,(.ptr 4 0)),(9,(.fp (Av (nth r.pkgs i)))),(69,(Ae 12 Av r.pkgs)),(70,(.int .i64 ((r.pkgs.length:Int)))),(71,(.int .i64 ((i:Int)))),(78,(.map 3)),(80,(.str ((nth r.pkgs i).name))),(84,(.map 3)),(86,(.str ((nth r.pkgs i).name))),(93,(.sl 6 0 1 1 false))],[(0,(.row [(.int .i64 st.kind),(.own 1),(.own 2),(.map 3)] 101)),(1,(.grow (st.repos.map Bh) 41 4)),(2,(.grow ((A6 st r i).map Bj) 106 13)),(3,(.mm (Bg (A6 st r i)) none 3 1)),(4,(.row [(.str r.name),(.int .i64 r.prio),(.bool r.inst),(Ae 12 Av r.pkgs)] 41)),(6,(.row [(.int .i64 ((((A6 st r i).map Bj).length:Int)))] 3))],7⟩ ?_ (fun m1_6=>?_)
         ·refine Ha (fuel:=2) 12 (by kernel_rfl) ?_
          refine Dt (fuel:=2) 12 rfl ?_
          refine Fv (b:=3) (s:=(nth r.pkgs i).name) (y:=⟨[(0,(.ptr 0 0)),(3,(.ptr 4 0)),(9,(.fp (Av (nth r.pkgs i)))),(69,(Ae 12 Av r.pkgs)),(70,(.int .i64 ((r.pkgs.length:Int)))),(71,(.int .i64 ((i:Int)))),(78,(.map 3)),(80,(.str ((nth r.pkgs i).name))),(84,(.map 3)),(86,(.str ((nth r.pkgs i).name))),(93,(.sl 6 0 1 1 false)),(87,(.own 7))],[(0,(.row [(.int .i64 st.kind),(.own 1),(.own 2),(.map 3)] 101)),(1,(.grow (st.repos.map Bh) 41 4)),(2,(.grow ((A6 st r i).map Bj) 106 13)),(3,(.mm (Bg (A6 st r i)) (some ((nth r.pkgs i).name)) 3 1)),(4,(.row [(.str r.name),(.int .i64 r.prio),(.bool r.inst),(Ae 12 Av r.pkgs)] 41)),(6,(.row [(.int .i64 ((((A6 st r i).map Bj).length:Int)))] 3)),(7,(.grow ((Bg (A6 st r i)) ((nth r.pkgs i).name)) 3 1))],8⟩) (by kernel_rfl) (by kernel_rfl) (by kernel_rfl) Tryz.underlying99 Tryz.underlying9 (fun _=>by kernel_rfl) (by kernel_rfl) ?_
          refine Cd ⟨rfl,?_⟩
          refine A9 [0,3,9,69,70,71,78,80,87,93] ?_
          exact Bl m1_4
         refine Cy false 4 (lsD 21 [0,1,2,3,4,5,6,7,8,9,10,11,12,13,14,15,16]) ⟨[(0,(.ptr 0 0)),(3,(.ptr 4 0)),(9,(.fp (Av (nth r.pkgs i)))),(69,(Ae 12 Av r.pkgs)),(70,(.int .i64 ((r.pkgs.length:Int)))),(71,(.int .i64 ((i:Int)))),(78,(.map 3)),(80,(.str ((nth r.pkgs i).name))),(87,(.own 6)),(91,(.own 2))],[(0,(.row [(.int .i64 st.kind),(.own 1),(.own 2),(.map 3)] 101)),(1,(.grow (st.repos.map Bh) 41 4)),(2,(.grow ((A6 st r i).map Bj) 106 13)),(3,(.mm (Bg (A6 st r i)) (some ((nth r.pkgs i).name)) 3 1)),(4,(.row [(.str r.name),(.int .i64 r.prio),(.bool r.inst),(Ae 12 Av r.pkgs)] 41)),(6,(.grow ((Bg (A6 st r i)) ((nth r.pkgs i).name)) 3 1))],7⟩ ?_ (fun m1_7=>?_)
         ·refine Dg (fuel:=3) 17 [] Bc ?_
          refine A9 [0,3,9,69,70,71,78,80,87,92] ?_
          exact Bl m1_5
         refine Cy true 4 (lsD 21 [0,1,2,3,4,5,6,7,8,9,10,11,13,14,15,16,17]) ⟨[(0,(.ptr 0 0)),(3,(.ptr 4 0)),(9,(.fp (Av (nth r.pkgs i)))),(69,(Ae 12 Av r.pkgs)),(70,(.int .i64 ((r.pkgs.length:Int)))),(71,(.int .i64 ((i:Int)))),(78,(.map 3)),(80,(.str ((nth r.pkgs i).name))),(84,(.map 3)),(86,(.str ((nth r.pkgs i).name))),(92,(.int .i64 ((((A6 st r i).map Bj).length:Int))))],[(0,(.row [(.int .i64 st.kind),(.own 1),(.own 2),(.map 3)] 101)),(1,(.grow (st.repos.map Bh) 41 4)),(2,(.grow ((A6 st r i).map Bj) 106 13)),(3,(.mm (Bg (A6 st r i)) none 3 1)),(4,(.row [(.str r.name),(.int .i64 r.prio),(.bool r.inst),(Ae 12 Av r.pkgs)] 41))],6⟩ ?_ (fun m1_8=>?_)
         ·refine C2 12 18 (by kernel_rfl) ?_ ?_
          ·refine Dt (fuel:=3) 12 rfl ?_
           refine Fv (b:=3) (s:=(nth r.pkgs i).name) (y:=⟨[(0,(.ptr 0 0)),(3,(.ptr 4 0)),(9,(.fp (Av (nth r.pkgs i)))),(69,(Ae 12 Av r.pkgs)),(70,(.int .i64 ((r.pkgs.length:Int)))),(71,(.int .i64 ((i:Int)))),(78,(.map 3)),(80,(.str ((nth r.pkgs i).name))),(84,(.map 3)),(86,(.str ((nth r.pkgs i).name))),(92,(.int .i64 ((((A6 st r i).map Bj).length:Int)))),(87,(.own 6))],[(0,(.row [(.int .i64 st.kind),(.own 1),(.own 2),(.map 3)] 101)),(1,(.grow (st.repos.map Bh) 41 4)),(2,(.grow ((A6 st r i).map Bj) 106 13)),(3,(.mm (Bg (A6 st r i)) (some ((nth r.pkgs i).name)) 3 1)),(4,(.row [(.str r.name),(.int .i64 r.prio),(.bool r.inst),(Ae 12 Av r.pkgs)] 41)),(6,(.grow ((Bg (A6 st r i)) ((nth r.pkgs i).name)) 3 1))],7⟩) (by kernel_rfl) (by kernel_rfl) (by kernel_rfl) Tryz.underlying99 Tryz.underlying9 (fun _=>by kernel_rfl) (by kernel_rfl) ?_
           refine Cd ⟨rfl,?_⟩
           refine A9 [0,3,9,69,70,71,78,80,87,92] ?_
           exact Bl m1_5
          ·refine Bi (fuel:=3) 18 [] Bc ?_
           refine A9 [0,3,9,69,70,71,78,80,84,86,93] ?_
           exact Bl m1_6
         refine Cy true 4 (lsD 21 [0,1,2,3,4,5,6,7,8,10,11,13,14,15,16,17,18]) ⟨[(0,(.ptr 0 0)),(3,(.ptr 4 0)),(9,(.fp (Av (nth r.pkgs i)))),(69,(Ae 12 Av r.pkgs)),(70,(.int .i64 ((r.pkgs.length:Int)))),(71,(.int .i64 ((i:Int)))),(78,(.map 3)),(80,(.str ((nth r.pkgs i).name))),(83,(.ptr 0 3)),(86,(.str ((nth r.pkgs i).name))),(93,(.sl 6 0 1 1 false))],[(0,(.row [(.int .i64 st.kind),(.own 1),(.own 2),(.map 3)] 101)),(1,(.grow (st.repos.map Bh) 41 4)),(2,(.grow ((A6 st r i).map Bj) 106 13)),(3,(.mm (Bg (A6 st r i)) none 3 1)),(4,(.row [(.str r.name),(.int .i64 r.prio),(.bool r.inst),(Ae 12 Av r.pkgs)] 41)),(6,(.row [(.int .i64 ((((A6 st r i).map Bj).length:Int)))] 3))],7⟩ ?_ (fun m1_9=>?_)
         ·refine Dg (fuel:=3) 9 [] Bc ?_
          refine A9 [0,3,9,69,70,71,78,80,84,86,93] ?_
          exact Bl m1_6
         refine Cy false 4 (lsD 21 [0,1,2,4,5,6,7,8,9,10,11,12,13,14,15,16,17]) ⟨[(0,(.ptr 0 0)),(3,(.ptr 4 0)),(9,(.fp (Av (nth r.pkgs i)))),(69,(Ae 12 Av r.pkgs)),(70,(.int .i64 ((r.pkgs.length:Int)))),(71,(.int .i64 ((i:Int)))),(77,(.ptr 0 3)),(80,(.str ((nth r.pkgs i).name))),(87,(.own 6)),(92,(.int .i64 ((((A6 st r i).map Bj).length:Int))))],[(0,(.row [(.int .i64 st.kind),(.own 1),(.own 2),(.map 3)] 101)),(1,(.grow (st.repos.map Bh) 41 4)),(2,(.grow ((A6 st r i).map Bj) 106 13)),(3,(.mm (Bg (A6 st r i)) (some ((nth r.pkgs i).name)) 3 1)),(4,(.row [(.str r.name),(.int .i64 r.prio),(.bool r.inst),(Ae 12 Av r.pkgs)] 41)),(6,(.grow ((Bg (A6 st r i)) ((nth r.pkgs i).name)) 3 1))],7⟩ ?_ (fun m1_10=>?_)
         ·refine C2 3 18 (by kernel_rfl) ?_ ?_
          ·refine Bi (fuel:=3) 3 [] Bc ?_
           refine A9 [0,3,9,69,70,71,78,80,87,92] ?_
           exact Bl m1_5
          ·refine Bi (fuel:=3) 18 [] Bc ?_
           refine A9 [0,3,9,69,70,71,77,80,87,93] ?_
           refine C2 3 19 (by kernel_rfl) ?_ ?_
           ·refine Bi (fuel:=2) 3 [] Bc ?_
            refine A9 [0,3,9,69,70,71,78,80,87,93] ?_
            exact Bl m1_3
           ·refine Bi (fuel:=2) 19 [] (hold (p:=((((Bg (A6 st r i)) ((nth r.pkgs i).name)).length+1)*8≤140737488355328)) (by omega)) ?_
            refine A9 [0,3,9,69,70,71,77,80,94] ?_
            refine Dg (fuel:=1) 3 [] Bc ?_
            refine A9 [0,3,9,69,70,71,78,80,94] ?_
            exact Bl m1_1
         refine Cy true 4 (lsD 21 [0,1,2,4,5,6,7,8,9,10,11,13,14,15,16,17,18]) ⟨[(0,(.ptr 0 0)),(3,(.ptr 4 0)),(9,(.fp (Av (nth r.pkgs i)))),(69,(Ae 12 Av r.pkgs)),(70,(.int .i64 ((r.pkgs.length:Int)))),(71,(.int .i64 ((i:Int)))),(77,(.ptr 0 3)),(80,(.str ((nth r.pkgs i).name))),(84,(.map 3)),(86,(.str ((nth r.pkgs i).name))),(93,(.sl 6 0 1 1 false))],[(0,(.row [(.int .i64 st.kind),(.own 1),(.own 2),(.map 3)] 101)),(1,(.grow (st.repos.map Bh) 41 4)),(2,(.grow ((A6 st r i).map Bj) 106 13)),(3,(.mm (Bg (A6 st r i)) none 3 1)),(4,(.row [(.str r.name),(.int .i64 r.prio),(.bool r.inst),(Ae 12 Av r.pkgs)] 41)),(6,(.row [(.int .i64 ((((A6 st r i).map Bj).length:Int)))] 3))],7⟩ ?_ (fun m1_11=>?_)
         ·refine C2 3 12 (by kernel_rfl) ?_ ?_
          ·refine Bi (fuel:=3) 3 [] Bc ?_
           refine A9 [0,3,9,69,70,71,78,80,84,86,93] ?_
           exact Bl m1_6
          ·refine Dt (fuel:=3) 12 rfl ?_
           refine Fv (b:=3) (s:=(nth r.pkgs i).name) (y:=⟨[(0,(.ptr 0 0)),(3,(.ptr 4 0)),(9,(.fp (Av (nth r.pkgs i)))),(69,(Ae 12 Av r.pkgs)),(70,(.int .i64 ((r.pkgs.length:Int)))),(71,(.int .i64 ((i:Int)))),(77,(.ptr 0 3)),(80,(.str ((nth r.pkgs i).name))),(84,(.map 3)),(86,(.str ((nth r.pkgs i).name))),(93,(.sl 6 0 1 1 false)),(87,(.own 7))],[(0,(.row [(.int .i64 st.kind),(.own 1),(.own 2),(.map 3)] 101)),(1,(.grow (st.repos.map Bh) 41 4)),(2,(.grow ((A6 st r i).map Bj) 106 13)),(3,(.mm (Bg (A6 st r i)) (some ((nth r.pkgs i).name)) 3 1)),(4,(.row [(.str r.name),(.int .i64 r.prio),(.bool r.inst),(Ae 12 Av r.pkgs)] 41)),(6,(.row [(.int .i64 ((((A6 st r i).map Bj).length:Int)))] 3)),(7,(.grow ((Bg (A6 st r i)) ((nth r.pkgs i).name)) 3 1))],8⟩) (by kernel_rfl) (by kernel_rfl) (by kernel_rfl) Tryz.underlying99 Tryz.underlying9 (fun _=>by kernel_rfl) (by kernel_rfl) ?_
           refine Cd ⟨rfl,?_⟩
           refine A9 [0,3,9,69,70,71,77,80,87,93] ?_
           refine C2 3 19 (by kernel_rfl) ?_ ?_
           ·refine Bi (fuel:=2) 3 [] Bc ?_
            refine A9 [0,3,9,69,70,71,78,80,87,93] ?_
            exact Bl m1_4
           ·refine Bi (fuel:=2) 19 [] (hold (p:=((((Bg (A6 st r i)) ((nth r.pkgs i).name)).length+1)*8≤140737488355328)) (by omega)) ?_
            refine A9 [0,3,9,69,70,71,77,80,94] ?_
            refine Dg (fuel:=1) 3 [] Bc ?_
            refine A9 [0,3,9,69,70,71,78,80,94] ?_
            exact Bl m1_2
         refine Cy false 5 (lsD 21 [0,1,2,3,4,5,6,7,8,9,10,11,12,13,14,15]) ⟨[(0,(.ptr 0 0)),(3,(.ptr 4 0)),(9,(.fp (Av (nth r.pkgs i)))),(69,(Ae 12 Av r.pkgs)),(70,(.int .i64 ((r.pkgs.length:Int)))),(71,(.int .i64 ((i:Int)))),(78,(.map 3)),(80,(.str ((nth r.pkgs i).name))),(87,(.own 6)),(90,(.ptr 0 2))],[(0,(.row [(.int .i64 st.kind),(.own 1),(.own 2),(.map 3)] 101)),(1,(.grow (st.repos.map Bh) 41 4)),(2,(.grow ((A6 st r i).map Bj) 106 13)),(3,(.mm (Bg (A6 st r i)) (some ((nth r.pkgs i).name)) 3 1)),(4,(.row [(.str r.name),(.int .i64 r.prio),(.bool r.inst),(Ae 12 Av r.pkgs)] 41)),(6,(.grow ((Bg (A6 st r i)) ((nth r.pkgs i).name)) 3 1))],7⟩ ?_ (fun m1_12=>?_)
         ·refine Dg (fuel:=4) 16 [] Bc ?_
          refine A9 [0,3,9,69,70,71,78,80,87,91] ?_
          exact Bl m1_7
         refine Cy true 5 (lsD 21 [0,1,2,3,4,5,6,7,8,9,10,11,13,14,15,16]) ⟨[(0,(.ptr 0 0)),(3,(.ptr 4 0)),(9,(.fp (Av (nth r.pkgs i)))),(69,(Ae 12 Av r.pkgs)),(70,(.int .i64 ((r.pkgs.length:Int)))),(71,(.int .i64 ((i:Int)))),(78,(.map 3)),(80,(.str ((nth r.pkgs i).name))),(84,(.map 3)),(86,(.str ((nth r.pkgs i).name))),(91,(.own 2))],[(0,(.row [(.int .i64 st.kind),(.own 1),(.own 2),(.map 3)] 101)),(1,(.grow (st.repos.map Bh) 41 4)),(2,(.grow ((A6 st r i).map Bj) 106 13)),(3,(.mm (Bg (A6 st r i)) none 3 1)),(4,(.row [(.str r.name),(.int .i64 r.prio),(.bool r.inst),(Ae 12 Av r.pkgs)] 41))],6⟩ ?_ (fun m1_13=>?_)
         ·refine C2 12 17 (by kernel_rfl) ?_ ?_
          ·refine Dt (fuel:=4) 12 rfl ?_
           refine Fv (b:=3) (s:=(nth r.pkgs i).name) (y:=⟨[(0,(.ptr 0 0)),(3,(.ptr 4 0)),(9,(.fp (Av (nth r.pkgs i)))),(69,(Ae 12 Av r.pkgs)),(70,(.int .i64 ((r.pkgs.length:Int)))),(71,(.int .i64 ((i:Int)))),(78,(.map 3)),(80,(.str ((nth r.pkgs i).name))),(84,(.map 3)),(86,(.str ((nth r.pkgs i).name))),(91,(.own 2)),(87,(.own 6))],[(0,(.row [(.int .i64 st.kind),(.own 1),(.own 2),(.map 3)] 101)),(1,(.grow (st.repos.map Bh) 41 4)),(2,(.grow ((A6 st r i).map Bj) 106 13)),(3,(.mm (Bg (A6 st r i)) (some ((nth r.pkgs i).name)) 3 1)),(4,(.row [(.str r.name),(.int .i64 r.prio),(.bool r.inst),(Ae 12 Av r.pkgs)] 41)),(6,(.grow ((Bg (A6 st r i)) ((nth r.pkgs i).name)) 3 1))],7⟩) (by kernel_rfl) (by kernel_rfl) (by kernel_rfl) Tryz.underlying99 Tryz.underlying9 (fun _=>by kernel_rfl) (by kernel_rfl) ?_
           refine Cd ⟨rfl,?_⟩
           refine A9 [0,3,9,69,70,71,78,80,87,91] ?_
           exact Bl m1_7
          ·refine Bi (fuel:=4) 17 [] Bc ?_
           refine A9 [0,3,9,69,70,71,78,80,84,86,92] ?_
           exact Bl m1_8
         refine Cy true 5 (lsD 21 [0,1,2,3,4,5,6,7,8,10,11,13,14,15,16,17]) ⟨[(0,(.ptr 0 0)),(3,(.ptr 4 0)),(9,(.fp (Av (nth r.pkgs i)))),(69,(Ae 12 Av r.pkgs)),(70,(.int .i64 ((r.pkgs.length:Int)))),(71,(.int .i64 ((i:Int)))),(78,(.map 3)),(80,(.str ((nth r.pkgs i).name))),(83,(.ptr 0 3)),(86,(.str ((nth r.pkgs i).name))),(92,(.int .i64 ((((A6 st r i).map Bj).length:Int))))],[(0,(.row [(.int .i64 st.kind),(.own 1),(.own 2),(.map 3)] 101)),(1,(.grow (st.repos.map Bh) 41 4)),(2,(.grow ((A6 st r i).map Bj) 106 13)),(3,(.mm (Bg (A6 st r i)) none 3 1)),(4,(.row [(.str r.name),(.int .i64 r.prio),(.bool r.inst),(Ae 12 Av r.pkgs)] 41))],6⟩ ?_ (fun m1_14=>?_)
         ·refine C2 9 18 (by kernel_rfl) ?_ ?_
          ·refine Bi (fuel:=4) 9 [] Bc ?_
           refine A9 [0,3,9,69,70,71,78,80,84,86,92] ?_
           exact Bl m1_8
          ·refine Bi (fuel:=4) 18 [] Bc ?_
           refine A9 [0,3,9,69,70,71,78,80,83,86,93] ?_
           exact Bl m1_9
         refine Cy false 5 (lsD 21 [0,1,2,4,5,6,7,8,9,10,11,12,13,14,15,16]) ⟨[(0,(.ptr 0 0)),(3,(.ptr 4 0)),(9,(.fp (Av (nth r.pkgs i)))),(69,(Ae 12 Av r.pkgs)),(70,(.int .i64 ((r.pkgs.length:Int)))),(71,(.int .i64 ((i:Int)))),(77,(.ptr 0 3)),(80,(.str ((nth r.pkgs i).name))),(87,(.own 6)),(91,(.own 2))],[(0,(.row [(.int .i64 st.kind),(.own 1),(.own 2),(.map 3)] 101)),(1,(.grow (st.repos.map Bh) 41 4)),(2,(.grow ((A6 st r i).map Bj) 106 13)),(3,(.mm (Bg (A6 st r i)) (some ((nth r.pkgs i).name)) 3 1)),(4,(.row [(.str r.name),(.int .i64 r.prio),(.bool r.inst),(Ae 12 Av r.pkgs)] 41)),(6,(.grow ((Bg (A6 st r i)) ((nth r.pkgs i).name)) 3 1))],7⟩ ?_ (fun m1_15=>?_)
         ·refine C2 3 17 (by kernel_rfl) ?_ ?_
          ·refine Bi (fuel:=4) 3 [] Bc ?_
           refine A9 [0,3,9,69,70,71,78,80,87,91] ?_
           exact Bl m1_7
          ·refine Bi (fuel:=4) 17 [] Bc ?_
           refine A9 [0,3,9,69,70,71,77,80,87,92] ?_
           exact Bl m1_10
         refine Cy true 5 (lsD 21 [0,1,2,4,5,6,7,8,9,10,11,13,14,15,16,17]) ⟨[(0,(.ptr 0 0)),(3,(.ptr 4 0)),(9,(.fp (Av (nth r.pkgs i)))),(69,(Ae 12 Av r.pkgs)),(70,(.int .i64 ((r.pkgs.length:Int)))),(71,(.int .i64 ((i:Int)))),(77,(.ptr 0 3)),(80,(.str ((nth r.pkgs i).name))),(84,(.map 3)),(86,(.str ((nth r.pkgs i).name))),(92,(.int .i64 ((((A6 st r i).map Bj).length:Int))))],[(0,(.row [(.int .i64 st.kind),(.own 1),(.own 2),(.map 3)] 101)),(1,(.grow (st.repos.map Bh) 41 4)),(2,(.grow ((A6 st r i).map Bj) 106 13)),(3,(.mm (Bg (A6 st r i)) none 3 1)),(4,(.row [(.str r.name),(.int .i64 r.prio),(.bool r.inst),(Ae 12 Av r.pkgs)] 41))],6⟩ ?_ (fun m1_16=>?_)
         ·refine Gn 3 12 18 (by kernel_rfl) ?_ ?_ ?_
          ·refine Bi (fuel:=4) 3 [] Bc ?_
           refine A9 [0,3,9,69,70,71,78,80,84,86,92] ?_
           exact Bl m1_8
          ·refine Dt (fuel:=4) 12 rfl ?_
           refine Fv (b:=3) (s:=(nth r.pkgs i).name) (y:=⟨[(0,(.ptr 0 0)),(3,(.ptr 4 0)),(9,(.fp (Av (nth r.pkgs i)))),(69,(Ae 12 Av r.pkgs)),(70,(.int .i64 ((r.pkgs.length:Int)))),(71,(.int .i64 ((i:Int)))),(77,(.ptr 0 3)),(80,(.str ((nth r.pkgs i).name))),(84,(.map 3)),(86,(.str ((nth r.pkgs i).name))),(92,(.int .i64 ((((A6 st r i).map Bj).length:Int)))),(87,(.own 6))],[(0,(.row [(.int .i64 st.kind),(.own 1),(.own 2),(.map 3)] 101)),(1,(.grow (st.repos.map Bh) 41 4)),(2,(.grow ((A6 st r i).map Bj) 106 13)),(3,(.mm (Bg (A6 st r i)) (some ((nth r.pkgs i).name)) 3 1)),(4,(.row [(.str r.name),(.int .i64 r.prio),(.bool r.inst),(Ae 12 Av r.pkgs)] 41)),(6,(.grow ((Bg (A6 st r i)) ((nth r.pkgs i).name)) 3 1))],7⟩) (by kernel_rfl) (by kernel_rfl) (by kernel_rfl) Tryz.underlying99 Tryz.underlying9 (fun _=>by kernel_rfl) (by kernel_rfl) ?_
           refine Cd ⟨rfl,?_⟩
           refine A9 [0,3,9,69,70,71,77,80,87,92] ?_
           exact Bl m1_10
          ·refine Bi (fuel:=4) 18 [] Bc ?_
           refine A9 [0,3,9,69,70,71,77,80,84,86,93] ?_
           exact Bl m1_11
         refine Cy true 6 (lsD 21 [0,1,2,3,4,5,6,7,8,9,10,11,13,14,15]) ⟨[(0,(.ptr 0 0)),(3,(.ptr 4 0)),(9,(.fp (Av (nth r.pkgs i)))),(69,(Ae 12 Av r.pkgs)),(70,(.int .i64 ((r.pkgs.length:Int)))),(71,(.int .i64 ((i:Int)))),(78,(.map 3)),(80,(.str ((nth r.pkgs i).name))),(84,(.map 3)),(86,(.str ((nth r.pkgs i).name))),(90,(.ptr 0 2))],[(0,(.row [(.int .i64 st.kind),(.own 1),(.own 2),(.map 3)] 101)),(1,(.grow (st.repos.map Bh) 41 4)),(2,(.grow ((A6 st r i).map Bj) 106 13)),(3,(.mm (Bg (A6 st r i)) none 3 1)),(4,(.row [(.str r.name),(.int .i64 r.prio),(.bool r.inst),(Ae 12 Av r.pkgs)] 41))],6⟩ ?_ (fun m1_17=>?_)
         ·refine C2 12 16 (by kernel_rfl) ?_ ?_
          ·refine Dt (fuel:=5) 12 rfl ?_
           refine Fv (b:=3) (s:=(nth r.pkgs i).name) (y:=⟨[(0,(.ptr 0 0)),(3,(.ptr 4 0)),(9,(.fp (Av (nth r.pkgs i)))),(69,(Ae 12 Av r.pkgs)),(70,(.int .i64 ((r.pkgs.length:Int)))),(71,(.int .i64 ((i:Int)))),(78,(.map 3)),(80,(.str ((nth r.pkgs i).name))),(84,(.map 3)),(86,(.str ((nth r.pkgs i).name))),(90,(.ptr 0 2)),(87,(.own 6))],[(0,(.row [(.int .i64 st.kind),(.own 1),(.own 2),(.map 3)] 101)),(1,(.grow (st.repos.map Bh) 41 4)),(2,(.grow ((A6 st r i).map Bj) 106 13)),(3,(.mm (Bg (A6 st r i)) (some ((nth r.pkgs i).name)) 3 1)),(4,(.row [(.str r.name),(.int .i64 r.prio),(.bool r.inst),(Ae 12 Av r.pkgs)] 41)),(6,(.grow ((Bg (A6 st r i)) ((nth r.pkgs i).name)) 3 1))],7⟩) (by kernel_rfl) (by kernel_rfl) (by kernel_rfl) Tryz.underlying99 Tryz.underlying9 (fun _=>by kernel_rfl) (by kernel_rfl) ?_
           refine Cd ⟨rfl,?_⟩
           refine A9 [0,3,9,69,70,71,78,80,87,90] ?_
           exact Bl m1_12
          ·refine Bi (fuel:=5) 16 [] Bc ?_
           refine A9 [0,3,9,69,70,71,78,80,84,86,91] ?_
           exact Bl m1_13
         refine Cy true 6 (lsD 21 [0,1,2,3,4,5,6,7,8,10,11,13,14,15,16]) ⟨[(0,(.ptr 0 0)),(3,(.ptr 4 0)),(9,(.fp (Av (nth r.pkgs i)))),(69,(Ae 12 Av r.pkgs)),(70,(.int .i64 ((r.pkgs.length:Int)))),(71,(.int .i64 ((i:Int)))),(78,(.map 3)),(80,(.str ((nth r.pkgs i).name))),(83,(.ptr 0 3)),(86,(.str ((nth r.pkgs i).name))),(91,(.own 2))],[(0,(.row [(.int .i64 st.kind),(.own 1),(.own 2),(.map 3)] 101)),(1,(.grow (st.repos.map Bh) 41 4)),(2,(.grow ((A6 st r i).map Bj) 106 13)),(3,(.mm (Bg (A6 st r i)) none 3 1)),(4,(.row [(.str r.name),(.int .i64 r.prio),(.bool r.inst),(Ae 12 Av r.pkgs)] 41))],6⟩ ?_ (fun m1_18=>?_)
         ·refine C2 9 17 (by kernel_rfl) ?_ ?_
          ·refine Bi (fuel:=5) 9 [] Bc ?_
           refine A9 [0,3,9,69,70,71,78,80,84,86,91] ?_
           exact Bl m1_13
          ·refine Bi (fuel:=5) 17 [] Bc ?_
           refine A9 [0,3,9,69,70,71,78,80,83,86,92] ?_
           exact Bl m1_14
         refine Cy true 6 (lsD 21 [0,1,2,4,5,6,7,8,9,10,11,13,14,15,16]) ⟨[(0,(.ptr 0 0)),(3,(.ptr 4 0)),(9,(.fp (Av (nth r.pkgs i)))),(69,(Ae 12 Av r.pkgs)),(70,(.int .i64 ((r.pkgs.length:Int)))),(71,(.int .i64 ((i:Int)))),(77,(.ptr 0 3)),(80,(.str ((nth r.pkgs i).name))),(84,(.map 3)),(86,(.str ((nth r.pkgs i).name))),(91,(.own 2))],[(0,(.row [(.int .i64 st.kind),(.own 1),(.own 2),(.map 3)] 101)),(1,(.grow (st.repos.map Bh) 41 4)),(2,(.grow ((A6 st r i).map Bj) 106 13)),(3,(.mm (Bg (A6 st r i)) none 3 1)),(4,(.row [(.str r.name),(.int .i64 r.prio),(.bool r.inst),(Ae 12 Av r.pkgs)] 41))],6⟩ ?_ (fun m1_19=>?_)
         ·refine Gn 3 12 17 (by kernel_rfl) ?_ ?_ ?_
          ·refine Bi (fuel:=5) 3 [] Bc ?_
           refine A9 [0,3,9,69,70,71,78,80,84,86,91] ?_
           exact Bl m1_13
          ·refine Dt (fuel:=5) 12 rfl ?_
           refine Fv (b:=3) (s:=(nth r.pkgs i).name) (y:=⟨[(0,(.ptr 0 0)),(3,(.ptr 4 0)),(9,(.fp (Av (nth r.pkgs i)))),(69,(Ae 12 Av r.pkgs)),(70,(.int .i64 ((r.pkgs.length:Int)))),(71,(.int .i64 ((i:Int)))),(77,(.ptr 0 3)),(80,(.str ((nth r.pkgs i).name))),(84,(.map 3)),(86,(.str ((nth r.pkgs i).name))),(91,(.own 2)),(87,(.own 6))],[(0,(.row [(.int .i64 st.kind),(.own 1),(.own 2),(.map 3)] 101)),(1,(.grow (st.repos.map Bh) 41 4)),(2,(.grow ((A6 st r i).map Bj) 106 13)),(3,(.mm (Bg (A6 st r i)) (some ((nth r.pkgs i).name)) 3 1)),(4,(.row [(.str r.name),(.int .i64 r.prio),(.bool r.inst),(Ae 12 Av r.pkgs)] 41)),(6,(.grow ((Bg (A6 st r i)) ((nth r.pkgs i).name)) 3 1))],7⟩) (by kernel_rfl) (by kernel_rfl) (by kernel_rfl) Tryz.underlying99 Tryz.underlying9 (fun _=>by kernel_rfl) (by kernel_rfl) ?_
           refine Cd ⟨rfl,?_⟩
           refine A9 [0,3,9,69,70,71,77,80,87,91] ?_
           exact Bl m1_15
          ·refine Bi (fuel:=5) 17 [] Bc ?_
           refine A9 [0,3,9,69,70,71,77,80,84,86,92] ?_
           exact Bl m1_16
         refine Dh (fuel:=8) [] [0,1,2,4,5,6,7,8,10,11,13,14,15] [0,3,9,69,70,71,77,80,83,86,90] Bc ?_
         refine Gn 3 9 16 (by kernel_rfl) ?_ ?_ ?_
         ·refine Bi (fuel:=7) 3 [] Bc ?_
          refine A9 [0,3,9,69,70,71,78,80,83,86,90] ?_
          refine C2 9 16 (by kernel_rfl) ?_ ?_
          ·refine Bi (fuel:=6) 9 [] Bc ?_
           refine A9 [0,3,9,69,70,71,78,80,84,86,90] ?_
           exact Bl m1_17
          ·refine Bi (fuel:=6) 16 [] Bc ?_
           refine A9 [0,3,9,69,70,71,78,80,83,86,91] ?_
           exact Bl m1_18
         ·refine Bi (fuel:=7) 9 [] Bc ?_
          refine A9 [0,3,9,69,70,71,77,80,84,86,90] ?_
          refine Gn 3 12 16 (by kernel_rfl) ?_ ?_ ?_
          ·refine Bi (fuel:=6) 3 [] Bc ?_
           refine A9 [0,3,9,69,70,71,78,80,84,86,90] ?_
           exact Bl m1_17
          ·refine Dt (fuel:=6) 12 rfl ?_
           refine Fv (b:=3) (s:=(nth r.pkgs i).name) (y:=⟨[(0,(.ptr 0 0)),(3,(.ptr 4 0)),(9,(.fp (Av (nth r.pkgs i)))),(69,(Ae 12 Av r.pkgs)),(70,(.int .i64 ((r.pkgs.length:Int)))),(71,(.int .i64 ((i:Int)))),(77,(.ptr 0 3)),(80,(.str ((nth r.pkgs i).name))),(84,(.map 3)),(86,(.str ((nth r.pkgs i).name))),(90,(.ptr 0 2)),(87,(.own 6))],[(0,(.row [(.int .i64 st.kind),(.own 1),(.own 2),(.map 3)] 101)),(1,(.grow (st.repos.map Bh) 41 4)),(2,(.grow ((A6 st r i).map Bj) 106 13)),(3,(.mm (Bg (A6 st r i)) (some ((nth r.pkgs i).name)) 3 1)),(4,(.row [(.str r.name),(.int .i64 r.prio),(.bool r.inst),(Ae 12 Av r.pkgs)] 41)),(6,(.grow ((Bg (A6 st r i)) ((nth r.pkgs i).name)) 3 1))],7⟩) (by kernel_rfl) (by kernel_rfl) (by kernel_rfl) Tryz.underlying99 Tryz.underlying9 (fun _=>by kernel_rfl) (by kernel_rfl) ?_
           refine Cd ⟨rfl,?_⟩
           refine A9 [0,3,9,69,70,71,77,80,87,90] ?_
           refine C2 3 16 (by kernel_rfl) ?_ ?_
           ·refine Bi (fuel:=5) 3 [] Bc ?_
            refine A9 [0,3,9,69,70,71,78,80,87,90] ?_
            exact Bl m1_12
           ·refine Bi (fuel:=5) 16 [] Bc ?_
            refine A9 [0,3,9,69,70,71,77,80,87,91] ?_
            exact Bl m1_15
          ·refine Bi (fuel:=6) 16 [] Bc ?_
           refine A9 [0,3,9,69,70,71,77,80,84,86,91] ?_
           exact Bl m1_19
         ·refine Bi (fuel:=7) 16 [] Bc ?_
          refine A9 [0,3,9,69,70,71,77,80,83,86,91] ?_
          refine Gn 3 9 17 (by kernel_rfl) ?_ ?_ ?_
          ·refine Bi (fuel:=6) 3 [] Bc ?_
           refine A9 [0,3,9,69,70,71,78,80,83,86,91] ?_
           exact Bl m1_18
          ·refine Bi (fuel:=6) 9 [] Bc ?_
           refine A9 [0,3,9,69,70,71,77,80,84,86,91] ?_
           exact Bl m1_19
          ·refine Bi (fuel:=6) 17 [] Bc ?_
           refine A9 [0,3,9,69,70,71,77,80,83,86,92] ?_
           refine Gn 3 9 18 (by kernel_rfl) ?_ ?_ ?_
           ·refine Bi (fuel:=5) 3 [] Bc ?_
            refine A9 [0,3,9,69,70,71,78,80,83,86,92] ?_
            exact Bl m1_14
           ·refine Bi (fuel:=5) 9 [] Bc ?_
            refine A9 [0,3,9,69,70,71,77,80,84,86,92] ?_
            exact Bl m1_16
           ·refine Bi (fuel:=5) 18 [] Bc ?_
            refine A9 [0,3,9,69,70,71,77,80,83,86,93] ?_
            refine C2 3 9 (by kernel_rfl) ?_ ?_
            ·refine Bi (fuel:=4) 3 [] Bc ?_
             refine A9 [0,3,9,69,70,71,78,80,83,86,93] ?_
             exact Bl m1_9
            ·refine Bi (fuel:=4) 9 [] Bc ?_
             refine A9 [0,3,9,69,70,71,77,80,84,86,93] ?_
             exact Bl m1_11
        ·rintro y3 rfl
         refine G9 [] [0,3,69,70,71] [] (hk 6 Q26 (Q4l (nth r.pkgs i) (by have:=(nth r.pkgs i).sizes;have:=hp i (by omega);omega) (by have:=(nth r.pkgs i).sizes;have:=J7 (nth r.pkgs i).files;have:=hp i (by omega);omega))<|hk0) v0 (cc 14 (p:=((((A6 st r i).map Bj).length+1)*264≤140737488355328)) (by omega)<|c0) ?_
         refine⟨by kernel_rfl,(Eq.trans (b:=(⟨[(0,(.ptr 0 0)),(3,(.ptr 4 0)),(69,(Ae 12 Av r.pkgs)),(70,(.int .i64 ((r.pkgs.length:Int)))),(71,(.int .i64 ((i:Int))))],[(0,(.row [(.int .i64 st.kind),(.own 1),(.own 2),(.map 3)] 101)),(1,(.grow (st.repos.map Bh) 41 4)),(2,(.grow (((A6 st r i).map Bj)++([(.agg [(.str ((nth r.pkgs i).name)),(.str ((nth r.pkgs i).evr)),(.str ((nth r.pkgs i).arch)),(.str ((nth r.pkgs i).vendor)),(Ae 5 Ao ((nth r.pkgs i).provides)),(Ae 5 Ao ((nth r.pkgs i).requires)),(Ae 5 Ao ((nth r.pkgs i).pre)),(Ae 5 Ao ((nth r.pkgs i).conflicts)),(Ae 5 Ao ((nth r.pkgs i).obsoletes)),(Ae 5 Ao ((nth r.pkgs i).recommends)),(Ae 5 Ao ((nth r.pkgs i).supplements)),(Di ((nth r.pkgs i).files)),(.int .i64 (((st.repos.map Bh).length:Int)))])]:List AV)) 106 13)),(3,(.mm (Bg (A6 st r i++[(nth r.pkgs i,(st.repos.length:Int))])) none 3 1)),(4,(.row [(.str r.name),(.int .i64 r.prio),(.bool r.inst),(Ae 12 Av r.pkgs)] 41))],5⟩:St)) (by kernel_rfl) (by rw[show(((A6 st r i).map Bj)++([(.agg [(.str ((nth r.pkgs i).name)),(.str ((nth r.pkgs i).evr)),(.str ((nth r.pkgs i).arch)),(.str ((nth r.pkgs i).vendor)),(Ae 5 Ao ((nth r.pkgs i).provides)),(Ae 5 Ao ((nth r.pkgs i).requires)),(Ae 5 Ao ((nth r.pkgs i).pre)),(Ae 5 Ao ((nth r.pkgs i).conflicts)),(Ae 5 Ao ((nth r.pkgs i).obsoletes)),(Ae 5 Ao ((nth r.pkgs i).recommends)),(Ae 5 Ao ((nth r.pkgs i).supplements)),(Di ((nth r.pkgs i).files)),(.int .i64 (((st.repos.map Bh).length:Int)))])]:List AV))=(A6 st r i++[(nth r.pkgs i,(st.repos.length:Int))]).map Bj from by rw[List.map_append,List.length_map];rfl]<;>kernel_rfl))⟩
       ·rintro y2 rfl
        refine An ?_
        refine Au 0 [] [0,3,69,70,71] [] hk0 v0 (cc 0 (p:=(-9223372036854775808≤(i:Int)+1∧(i:Int)+1≤9223372036854775807)) (by omega)<|c0) ?_
        refine⟨by kernel_rfl,_,?_,i+1,?_,(Eq.trans (b:=(⟨[(0,(.ptr 0 0)),(3,(.ptr 4 0)),(69,(Ae 12 Av r.pkgs)),(70,(.int .i64 ((r.pkgs.length:Int)))),(71,(.int .i64 ((i:Int)+1)))],[(0,(.row [(.int .i64 st.kind),(.own 1),(.own 2),(.map 3)] 101)),(1,(.grow (st.repos.map Bh) 41 4)),(2,(.grow ((A6 st r i++[(nth r.pkgs i,(st.repos.length:Int))]).map Bj) 106 13)),(3,(.mm (Bg (A6 st r i++[(nth r.pkgs i,(st.repos.length:Int))])) none 3 1)),(4,(.row [(.str r.name),(.int .i64 r.prio),(.bool r.inst),(Ae 12 Av r.pkgs)] 41))],5⟩:St)) (by kernel_rfl) (by rw[←X2u (by omega)]<;>kernel_rfl)),rfl⟩
        ·omega
        ·omega
      ·refine Bp ?_
       refine Ab [] [0,3] ?_
       refine Dm (fun y=>y=⟨[],[(0,(.row [(.int .i64 st.kind),(.own 1),(.own 2),(.map 3)] 101)),(1,(.grow ((st.repos++[r]).map Bh) 41 4)),(2,(.grow ((A6 st r i).map Bj) 106 13)),(3,(.mm (Bg (A6 st r i)) none 3 1)),(4,(.row [(.str r.name),(.int .i64 r.prio),(.bool r.inst),.nils] 41))],5⟩) [] 5 (by omega) ?_ ?_
       ·refine G9 [] [] [] hk0 v0 (cc 7 (p:=(((st.repos.map Bh).length+1)*56≤140737488355328)) (by omega)<|c0) ?_
        refine⟨by kernel_rfl,(Eq.trans (b:=(⟨[],[(0,(.row [(.int .i64 st.kind),(.own 1),(.own 2),(.map 3)] 101)),(1,(.grow ((st.repos.map Bh)++([(.agg [(.str r.name),(.int .i64 r.prio),(.bool r.inst),.nils])]:List AV)) 41 4)),(2,(.grow ((A6 st r i).map Bj) 106 13)),(3,(.mm (Bg (A6 st r i)) none 3 1)),(4,(.row [(.str r.name),(.int .i64 r.prio),(.bool r.inst),.nils] 41))],5⟩:St)) (by kernel_rfl) (by rw[show((st.repos.map Bh)++([(.agg [(.str r.name),(.int .i64 r.prio),(.bool r.inst),.nils])]:List AV))=(st.repos++[r]).map Bh from by rw[List.map_append];rfl]<;>kernel_rfl))⟩
       ·rintro y4 rfl
        refine Ab [] [4] ?_
        refine Ag ?_
        refine Er (.inl rfl) (al:=[(.int .i64 0)]) (by kernel_rfl) ?_ ((by kernel_rfl:Dr 4 _=some [(0,(.row [(.int .i64 st.kind),(.own 1),(.own 2),(.map 3)] 101)),(1,(.grow ((st.repos++[r]).map Bh) 41 4)),(2,(.grow ((A6 st r i).map Bj) 106 13)),(3,(.mm (Bg (A6 st r i)) none 3 1))]).trans ?_)
        all_goals have hE:Cv st r=0:=by unfold Cv;rw[if_neg (by simp only[not_or];simp_all),if_neg (by rintro⟨h1,h2⟩;rw[h1,h2] at c2;simp at c2),if_neg (by omega)];exact Q2g fun j hj=>f1_2 j (by omega)
        ·rw[hE];rfl
        ·unfold Cn;rw[if_pos hE,show i=r.pkgs.length from by omega]
end Sv
end
section
open Go Go.RowKit
namespace Sv
attribute [local irreducible] SW SO Bs
set_option maxHeartbeats 1000000
set_option maxRecDepth 100000
theorem X4w:As Tryz.prog 41:=Az Tryz.func41 (by kernel_rfl) rfl
noncomputable def atX (p:Int × Int):AV:=.agg [.int .i64 p.1,.int .i64 p.2]
def Dc (pl:List (Int × Int)) (st:PoolT) (r:RepoT) (i:Nat):List (Int × Int):=pl++(List.range i).map fun (k:Nat)=>((st.repos.length:Int),(k:Int))
def Fi (pl:List (Int × Int)) (st:PoolT) (r:RepoT):List (Int × Int):=if Cv st r=0 then Dc pl st r r.pkgs.length else pl
theorem O5 {pl:List (Int × Int)} {st:PoolT} {r:RepoT} {e:Int} (h:Cv st r=e) (he:e≠0):Fi pl st r=pl:=by unfold Fi;rw[if_neg (by rw[h];exact he)]
theorem X7u {pl:List (Int × Int)} {st:PoolT} {r:RepoT} {i:Nat}:Dc pl st r (i+1)=Dc pl st r i++[((st.repos.length:Int),(i:Int))]:=by
 unfold Dc
 rw[List.range_succ,List.map_append,List.append_assoc];rfl
theorem X7v {pl:List (Int × Int)} {st:PoolT} {r:RepoT} {i:Nat}:(Dc pl st r i).length=pl.length+i:=by unfold Dc;simp
theorem Q5m {α:Type} [Inhabited α] {p:α→Bool} {l:List α} {i:Nat} (hi:i < l.length) (h:p (nth l i)=true):l.any p=true:=by
 rw[List.any_eq_true]
 exact⟨nth l i,by simp[nth,hi],h⟩
theorem Ll {α:Type} [Inhabited α] {p:α→Bool} {l:List α} (h:∀i,i < l.length→p (nth l i)=false):l.any p=false:=by
 rw[List.any_eq_false]
 intro x hx
 obtain⟨j,hj,rfl⟩:=List.getElem_of_mem hx
 have:=h j hj
 simpa [nth,hj] using this
theorem Q9d (st : PoolT) (pl : List (Int × Int)) (r : RepoT) (hr : st.repos.length ≤ 8) (ha : st.all.length ≤ 200) (hpa : pl.length = st.all.length) (hn : r.name.length ≤ 4194304) (hpl : r.pkgs.length ≤ 4194304) (hp : ∀ i, i < r.pkgs.length → (nth r.pkgs i).size ≤ 4194304) :
  Gp Tryz.prog 41 [(.ptr 0 0),(.agg [(.str r.name),(.int .i64 r.prio),(.bool r.inst),(Ae 12 Av r.pkgs)])] [(0,(.row [(.int .i64 st.kind),(.own 1),(.own 2)] 116)),(1,(.grow (st.repos.map Bm) 41 4)),(2,(.grow (pl.map atX) 142 2))] 3 (.int .i64 (Cv st r)) [(0,(.row [(.int .i64 ((Cn st r).kind)),(.own 1),(.own 2)] 116)),(1,(.grow ((Cn st r).repos.map Bm) 41 4)),(2,(.grow ((Fi pl st r).map atX) 142 2))]:=by
 have hml:(st.repos.map Bm).length=st.repos.length:=List.length_map _
 have hma:(pl.map atX).length=pl.length:=List.length_map _
 refine Lt [.tmp 4] Tryz.func41 rfl Tryz.ntmps41 rfl rfl (by kernel_rfl) (by kernel_rfl) (by kernel_rfl) (fun B F hF=>?_)
 refine Af [] [0,3] [(1,3)] hk0 v0 c0 ?_
 refine Af [] [0,3,5] [] (hk 2 On (Py r.name (by omega))<|hk0) v0 c0 ?_
 refine Ac ?_
 refine Ab [] [0,3,15] ?_
 refine Bd (q:=!(B1 r.name)) (by kernel_rfl) (fun c1=>?_) (fun c1=>?_)
 ·try simp only[Am] at c1
  refine Ab [] [4] ?_
  refine Ag ?_
  refine Er (.inl rfl) (al:=[(.int .i64 66)]) (by kernel_rfl) ?_ ((by kernel_rfl:Dr 3 _=some [(0,(.row [(.int .i64 st.kind),(.own 1),(.own 2)] 116)),(1,(.grow (st.repos.map Bm) 41 4)),(2,(.grow (pl.map atX) 142 2))]).trans ?_)
  all_goals have hE:Cv st r=66:=by unfold Cv;rw[if_pos (.inl c1)]
  ·rw[hE];rfl
  ·rw[Jp hE (by decide),O5 hE (by decide)]
 ·try simp only[Am] at c1
  refine Ai ?_
  refine Ac ?_
  refine Ab [] [0,3,6] ?_
  refine Ay ?_
  refine Bz (fun g y=>∃(i:Nat),i≤st.repos.length∧(∀j,j < i→¬(nth st.repos j).name=r.name)∧y=⟨[(0,(.ptr 0 0)),(3,(.fp (.agg [(.str r.name),(.int .i64 r.prio),(.bool r.inst),(Ae 12 Av r.pkgs)]))),(6,(.int .i64 ((i:Int))))],[(0,(.row [(.int .i64 st.kind),(.own 1),(.own 2)] 116)),(1,(.grow (st.repos.map Bm) 41 4)),(2,(.grow (pl.map atX) 142 2))],4⟩∧g=st.repos.length-i) [0,3,6] 4 _ (by omega) ⟨0,(by omega),(by exact fun j hj=>by omega),(by kernel_rfl),rfl⟩ ?_
  rintro g1 y1 ⟨i,f1_1,f1_2,rfl,rfl⟩
  refine Ac ?_
  refine Ab [] [0,3,6,22] ?_
  refine A5 (p:=(i:Int) < ((st.repos.map Bm).length:Int)) (by kernel_rfl) (fun c2=>?_) (fun c2=>?_)
  ·refine Ai ?_
   refine Ac ?_
   refine Ay ?_
   refine Ac ?_
   refine Kk (by kernel_rfl) (fun F1 hF1=>?_)
   refine Dh (fuel:=5) [] [0,1,2,4,8,9] [0,3,6,27,29,34] Bc ?_
   refine Dg (fuel:=4) 3 [] Bc ?_
   refine Ha (fuel:=3) 5 (by kernel_rfl) ?_
   refine Dt (fuel:=3) 5 rfl ?_
   refine Na (b:=1) (i:=i) (es:=st.repos.map Bm) (e:=41) (sz:=4) (k:=.i64) (s':=[(0,(.ptr 0 0)),(3,(.fp (.agg [(.str r.name),(.int .i64 r.prio),(.bool r.inst),(Ae 12 Av r.pkgs)]))),(6,(.int .i64 ((i:Int)))),(27,(.ptr 0 1)),(29,(.int .i64 ((i:Int)))),(34,(.str r.name)),(28,(.own 1)),(30,(.op 1 (i*4)))]) (by kernel_rfl) (by kernel_rfl) (by kernel_rfl) (by kernel_rfl) (by kernel_rfl) (by kernel_rfl) (by(rw[List.length_map];omega)) (by kernel_rfl) ?_
   refine Cd ⟨rfl,?_⟩
   refine Ha (fuel:=2) 6 (by kernel_rfl) ?_
   refine Dt (fuel:=2) 6 rfl ?_
   refine Wi (b:=1) (o:=i*4) (off:=0) (s':=[(0,(.ptr 0 0)),(3,(.fp (.agg [(.str r.name),(.int .i64 r.prio),(.bool r.inst),(Ae 12 Av r.pkgs)]))),(6,(.int .i64 ((i:Int)))),(27,(.ptr 0 1)),(29,(.int .i64 ((i:Int)))),(34,(.str r.name)),(28,(.own 1)),(30,(.op 1 (i*4))),(31,(.op 1 (i*4+0)))]) (by kernel_rfl) (by kernel_rfl) (by kernel_rfl) (by kernel_rfl) ?_
   refine Cd ⟨rfl,?_⟩
   refine Ha (fuel:=1) 7 (by kernel_rfl) ?_
   refine Dt (fuel:=1) 7 rfl ?_
   refine Se (b:=1) (e:=41) (sz:=4) (es:=st.repos.map Bm) (o:=i*4+0) (i:=i) (j:=0) (a:=(.agg [(.str ((nth st.repos i).name)),(.int .i64 ((nth st.repos i).prio)),(.bool ((nth st.repos i).inst)),(Ae 12 Av ((nth st.repos i).pkgs))])) (r:=(.str ((nth st.repos i).name))) (s':=[(0,(.ptr 0 0)),(3,(.fp (.agg [(.str r.name),(.int .i64 r.prio),(.bool r.inst),(Ae 12 Av r.pkgs)]))),(6,(.int .i64 ((i:Int)))),(27,(.ptr 0 1)),(29,(.int .i64 ((i:Int)))),(34,(.str r.name)),(28,(.own 1)),(30,(.op 1 (i*4))),(31,(.op 1 (i*4+0))),(32,(.str ((nth st.repos i).name)))]) (by kernel_rfl) (by kernel_rfl) rfl (by kernel_rfl) (Mm (l:=st.repos) Bm (by omega)) (by kernel_rfl) (by kernel_rfl) ?_
   refine Cd ⟨rfl,?_⟩
   refine Dh (fuel:=0) [] [10] [0,3,6,35] Bc ?_
   refine A9 [0,3,6,35] ?_
   refine Ho (by kernel_rfl) ?_
   refine A5 (p:=(nth st.repos i).name=r.name) (by kernel_rfl) (fun c3=>?_) (fun c3=>?_)
   ·refine Ab [] [4] ?_
    refine Ag ?_
    refine Er (.inl rfl) (al:=[(.int .i64 66)]) (by kernel_rfl) ?_ ((by kernel_rfl:Dr 3 _=some [(0,(.row [(.int .i64 st.kind),(.own 1),(.own 2)] 116)),(1,(.grow (st.repos.map Bm) 41 4)),(2,(.grow (pl.map atX) 142 2))]).trans ?_)
    all_goals have hE:Cv st r=66:=by unfold Cv;rw[if_pos (.inr (Q5m (i:=i) (by omega) (decide_eq_true (by assumption))))]
    ·rw[hE];rfl
    ·rw[Jp hE (by decide),O5 hE (by decide)]
   ·refine Ai ?_
    refine An ?_
    refine Au 0 [] [0,3,6] [] hk0 v0 (cc 1 (p:=(-9223372036854775808≤(i:Int)+1∧(i:Int)+1≤9223372036854775807)) (by omega)<|c0) ?_
    refine⟨by kernel_rfl,_,?_,i+1,?_,?_,(by kernel_rfl),rfl⟩
    ·omega
    ·omega
    ·intro j hj
     by_cases h:j=i
     ·subst h;assumption
     ·exact f1_2 j (by omega)
  ·refine Bp ?_
   refine Ac ?_
   refine Ab [] [0,3,7] ?_
   refine Ay ?_
   refine Bz (fun g y=>∃(i:Nat),i≤st.repos.length∧(∀j,j < i→(r.inst&&(nth st.repos j).inst)=false)∧y=⟨[(0,(.ptr 0 0)),(3,(.fp (.agg [(.str r.name),(.int .i64 r.prio),(.bool r.inst),(Ae 12 Av r.pkgs)]))),(7,(.int .i64 ((i:Int))))],[(0,(.row [(.int .i64 st.kind),(.own 1),(.own 2)] 116)),(1,(.grow (st.repos.map Bm) 41 4)),(2,(.grow (pl.map atX) 142 2))],4⟩∧g=st.repos.length-i) [0,3,7] 4 _ (by omega) ⟨0,(by omega),(by exact fun j hj=>by omega),(by kernel_rfl),rfl⟩ ?_
   rintro g2 y2 ⟨i,f2_1,f2_2,rfl,rfl⟩
   refine Ac ?_
   refine Ab [] [0,3,7,42] ?_
   refine A5 (p:=(i:Int) < ((st.repos.map Bm).length:Int)) (by kernel_rfl) (fun c4=>?_) (fun c4=>?_)
   ·refine Ai ?_
    refine Ac ?_
    refine Ay ?_
    refine Ac ?_
    refine An ?_
    refine B2 3 0 [] [0,3,7,47] [] hk0 v0 c0 ?_
    refine Oy r.inst (fun c5=>?_) (fun c5=>?_)
    ·refine Fd 47 (a:=.bool r.inst) (.bool true) (by kernel_rfl) (Imp.of_eq (by rw[c5])) ?_
     refine B2 5 3 [] [0,3,7,47,51,52] [] hk0 v0 c0 ?_
     refine Na (b:=1) (i:=i) (es:=st.repos.map Bm) (e:=41) (sz:=4) (k:=.i64) (s':=[(0,(.ptr 0 0)),(3,(.fp (.agg [(.str r.name),(.int .i64 r.prio),(.bool r.inst),(Ae 12 Av r.pkgs)]))),(7,(.int .i64 ((i:Int)))),(47,(.bool true)),(51,(.own 1)),(52,(.int .i64 ((i:Int)))),(53,(.op 1 (i*4)))]) (by kernel_rfl) (by kernel_rfl) (by kernel_rfl) (by kernel_rfl) (by kernel_rfl) (by kernel_rfl) (by(rw[List.length_map];omega)) (by kernel_rfl) ?_
     refine Wi (b:=1) (o:=i*4) (off:=2) (s':=[(0,(.ptr 0 0)),(3,(.fp (.agg [(.str r.name),(.int .i64 r.prio),(.bool r.inst),(Ae 12 Av r.pkgs)]))),(7,(.int .i64 ((i:Int)))),(47,(.bool true)),(51,(.own 1)),(52,(.int .i64 ((i:Int)))),(53,(.op 1 (i*4))),(54,(.op 1 (i*4+2)))]) (by kernel_rfl) (by kernel_rfl) (by kernel_rfl) (by kernel_rfl) ?_
     refine Se (b:=1) (e:=41) (sz:=4) (es:=st.repos.map Bm) (o:=i*4+2) (i:=i) (j:=2) (a:=(.agg [(.str ((nth st.repos i).name)),(.int .i64 ((nth st.repos i).prio)),(.bool ((nth st.repos i).inst)),(Ae 12 Av ((nth st.repos i).pkgs))])) (r:=(.bool ((nth st.repos i).inst))) (s':=[(0,(.ptr 0 0)),(3,(.fp (.agg [(.str r.name),(.int .i64 r.prio),(.bool r.inst),(Ae 12 Av r.pkgs)]))),(7,(.int .i64 ((i:Int)))),(47,(.bool true)),(51,(.own 1)),(52,(.int .i64 ((i:Int)))),(53,(.op 1 (i*4))),(54,(.op 1 (i*4+2))),(55,(.bool ((nth st.repos i).inst)))]) (by kernel_rfl) (by kernel_rfl) rfl (by kernel_rfl) (Mm (l:=st.repos) Bm (by omega)) (by kernel_rfl) (by kernel_rfl) ?_
     refine Au 11 [] [0,3,7,56] [] hk0 v0 c0 ?_
     refine Bd (q:=(nth st.repos i).inst) (by kernel_rfl) (fun c6=>?_) (fun c6=>?_)
     ·try simp only[Am] at c6
      refine Ab [] [4] ?_
      refine Ag ?_
      refine Er (.inl rfl) (al:=[(.int .i64 67)]) (by kernel_rfl) ?_ ((by kernel_rfl:Dr 3 _=some [(0,(.row [(.int .i64 st.kind),(.own 1),(.own 2)] 116)),(1,(.grow (st.repos.map Bm) 41 4)),(2,(.grow (pl.map atX) 142 2))]).trans ?_)
      all_goals have hN:=Ll (l:=st.repos) (p:=fun o=>decide (o.name=r.name)) (fun j hj=>by simpa using f1_2 j (by omega))
      all_goals have hA:¬(B1 r.name=false∨st.repos.any (fun o=>decide (o.name=r.name))=true):=fun h=>h.elim (fun h=>by rw[c1] at h;cases h) (fun h=>by rw[hN] at h;cases h)
      all_goals have hE:Cv st r=67:=by unfold Cv;rw[if_neg hA,if_pos ⟨by assumption,Q5m (i:=i) (by omega) (by assumption)⟩]
      ·rw[hE];rfl
      ·rw[Jp hE (by decide),O5 hE (by decide)]
     ·try simp only[Am] at c6
      refine Ai ?_
      refine An ?_
      refine Au 0 [] [0,3,7] [] hk0 v0 (cc 1 (p:=(-9223372036854775808≤(i:Int)+1∧(i:Int)+1≤9223372036854775807)) (by omega)<|c0) ?_
      refine⟨by kernel_rfl,_,?_,i+1,?_,?_,(by kernel_rfl),rfl⟩
      ·omega
      ·omega
      ·intro j hj
       by_cases h:j=i
       ·subst h;simp_all
       ·exact f2_2 j (by omega)
    ·refine Fd 47 (a:=.bool r.inst) (.bool false) (by kernel_rfl) (Imp.of_eq (by rw[c5])) ?_
     refine Au 3 [] [0,3,7,56] [] hk0 v0 c0 ?_
     refine Fc (by kernel_rfl) ?_
     refine Ai ?_
     refine An ?_
     refine Au 0 [] [0,3,7] [] hk0 v0 (cc 1 (p:=(-9223372036854775808≤(i:Int)+1∧(i:Int)+1≤9223372036854775807)) (by omega)<|c0) ?_
     refine⟨by kernel_rfl,_,?_,i+1,?_,?_,(by kernel_rfl),rfl⟩
     ·omega
     ·omega
     ·intro j hj
      by_cases h:j=i
      ·subst h;simp_all
      ·exact f2_2 j (by omega)
   ·refine Bp ?_
    refine Ac ?_
    refine Dm (fun y=>y=⟨[(0,(.ptr 0 0)),(3,(.fp (.agg [(.str r.name),(.int .i64 r.prio),(.bool r.inst),(Ae 12 Av r.pkgs)]))),(74,(.bool (decide ((8:Int)≤((st.repos.map Bm).length:Int))||decide ((200:Int) < ((pl.map atX).length:Int)+(r.pkgs.length:Int)))))],[(0,(.row [(.int .i64 st.kind),(.own 1),(.own 2)] 116)),(1,(.grow (st.repos.map Bm) 41 4)),(2,(.grow (pl.map atX) 142 2))],4⟩) [0,3,74] 4 (by omega) ?_ ?_
    ·refine G9 (CS:=[(8,((!(decide (8≤((st.repos.map Bm).length:Int))))=true→(!(decide (8≤((st.repos.map Bm).length:Int))))=true)),(9,((!(decide (8≤((st.repos.map Bm).length:Int))))=true→(!(decide (8≤((st.repos.map Bm).length:Int))))=true)),(10,((!(decide (8≤((st.repos.map Bm).length:Int))))=true→(!(decide (8≤((st.repos.map Bm).length:Int))))=true)),(11,((!(decide (8≤((st.repos.map Bm).length:Int))))=true→(!(decide (8≤((st.repos.map Bm).length:Int))))=true)),(13,((!(decide (8≤((st.repos.map Bm).length:Int))))=true→(!(decide (8≤((st.repos.map Bm).length:Int))))=true)),(14,((!(decide (8≤((st.repos.map Bm).length:Int))))=true→(!(decide (8≤((st.repos.map Bm).length:Int))))=true)),(15,((!(decide (8≤((st.repos.map Bm).length:Int))))=true→((!(decide (8≤((st.repos.map Bm).length:Int))))=true∧(!(decide (8≤((st.repos.map Bm).length:Int))))=true)∧(-9223372036854775808≤((pl.map atX).length:Int)+(r.pkgs.length:Int)∧((pl.map atX).length:Int)+(r.pkgs.length:Int)≤9223372036854775807))),(16,((!(decide (8≤((st.repos.map Bm).length:Int))))=true→(!(decide (8≤((st.repos.map Bm).length:Int))))=true)),(17,((decide (8≤((st.repos.map Bm).length:Int)))=false→(!(decide (8≤((st.repos.map Bm).length:Int))))=true))]) [64,65,66,67,68,69,70,71,72,73] [0,3,74] [] hk0 v0 (by refine cc _ ?_<|cc _ ?_<|cc _ ?_<|cc _ ?_<|cc _ ?_<|cc _ ?_<|cc _ ?_<|cc _ ?_<|cc _ ?_ c0<;>first|omega|(simp;omega)|(simp;done)|(intros;simp_all;omega)|(intros;simp_all;done)) ?_
     refine⟨by kernel_rfl,(by kernel_rfl)⟩
    ·rintro y1 rfl
     refine Bd (q:=decide ((8:Int)≤((st.repos.map Bm).length:Int))||decide ((200:Int) < ((pl.map atX).length:Int)+(r.pkgs.length:Int))) (by kernel_rfl) (fun c7=>?_) (fun c7=>?_)
     ·try simp only[Am] at c7
      refine Ab [] [4] ?_
      refine Ag ?_
      refine Er (.inl rfl) (al:=[(.int .i64 68)]) (by kernel_rfl) ?_ ((by kernel_rfl:Dr 3 _=some [(0,(.row [(.int .i64 st.kind),(.own 1),(.own 2)] 116)),(1,(.grow (st.repos.map Bm) 41 4)),(2,(.grow (pl.map atX) 142 2))]).trans ?_)
      all_goals have hN:=Ll (l:=st.repos) (p:=fun o=>decide (o.name=r.name)) (fun j hj=>by simpa using f1_2 j (by omega))
      all_goals have hA:¬(B1 r.name=false∨st.repos.any (fun o=>decide (o.name=r.name))=true):=fun h=>h.elim (fun h=>by rw[c1] at h;cases h) (fun h=>by rw[hN] at h;cases h)
      all_goals have hI:¬(r.inst=true∧st.repos.any (fun o=>o.inst)=true):=fun⟨h1,h2⟩=>by rw[Ll (fun j hj=>by have:=f2_2 j (by omega);simpa [h1] using this)] at h2;cases h2
      all_goals have hE:Cv st r=68:=by unfold Cv;rw[if_neg hA,if_neg hI,if_pos (by omega)]
      ·rw[hE];rfl
      ·rw[Jp hE (by decide),O5 hE (by decide)]
     ·try simp only[Am] at c7
      refine Ai ?_
      refine Ac ?_
      refine Ab [] [0,3,8] ?_
      refine Ay ?_
      refine Bz (fun g y=>∃(i:Nat),i≤r.pkgs.length∧(∀j,j < i→Dp (nth r.pkgs j)=0)∧y=⟨[(0,(.ptr 0 0)),(3,(.fp (.agg [(.str r.name),(.int .i64 r.prio),(.bool r.inst),(Ae 12 Av r.pkgs)]))),(8,(.int .i64 ((i:Int))))],[(0,(.row [(.int .i64 st.kind),(.own 1),(.own 2)] 116)),(1,(.grow (st.repos.map Bm) 41 4)),(2,(.grow (pl.map atX) 142 2))],4⟩∧g=r.pkgs.length-i) [0,3,8] 4 _ (by omega) ⟨0,(by omega),(by exact fun j hj=>by omega),(by kernel_rfl),rfl⟩ ?_
      rintro g3 y3 ⟨i,f3_1,f3_2,rfl,rfl⟩
      refine Ac ?_
      refine Ab [] [0,3,8,79] ?_
      refine A5 (p:=(i:Int) < (r.pkgs.length:Int)) (by kernel_rfl) (fun c8=>?_) (fun c8=>?_)
      ·refine Ai ?_
       refine Ac ?_
       refine Ay ?_
       refine Af [] [0,3,8,9] [] (hk 5 X4c (Q9a (nth r.pkgs i) (hp i (by omega)))<|hk0) v0 (cc 3 (p:=(0≤(i:Int)∧i < r.pkgs.length)) (by omega)<|c0) ?_
       refine Ab [] [0,3,8,9,89] ?_
       refine Da (p:=(Dp (nth r.pkgs i))=0) (by kernel_rfl) (fun c9=>?_) (fun c9=>?_)
       ·refine Ab [] [4] ?_
        refine Ag ?_
        refine Er (.inl rfl) (al:=[(.int .i64 (Dp (nth r.pkgs i)))]) (by kernel_rfl) ?_ ((by kernel_rfl:Dr 3 _=some [(0,(.row [(.int .i64 st.kind),(.own 1),(.own 2)] 116)),(1,(.grow (st.repos.map Bm) 41 4)),(2,(.grow (pl.map atX) 142 2))]).trans ?_)
        all_goals have hN:=Ll (l:=st.repos) (p:=fun o=>decide (o.name=r.name)) (fun j hj=>by simpa using f1_2 j (by omega))
        all_goals have hA:¬(B1 r.name=false∨st.repos.any (fun o=>decide (o.name=r.name))=true):=fun h=>h.elim (fun h=>by rw[c1] at h;cases h) (fun h=>by rw[hN] at h;cases h)
        all_goals have hI:¬(r.inst=true∧st.repos.any (fun o=>o.inst)=true):=fun⟨h1,h2⟩=>by rw[Ll (fun j hj=>by have:=f2_2 j (by omega);simpa [h1] using this)] at h2;cases h2
        all_goals have hE:Cv st r=Dp (nth r.pkgs i):=by unfold Cv;rw[if_neg hA,if_neg hI,if_neg (by omega)];exact Uv (by omega) f3_2 (by assumption)
        ·rw[hE];rfl
        ·rw[Jp hE (by assumption),O5 hE (by assumption)]
       ·refine Ai ?_
        refine An ?_
        refine Au 0 [] [0,3,8] [] hk0 v0 (cc 1 (p:=(-9223372036854775808≤(i:Int)+1∧(i:Int)+1≤9223372036854775807)) (by omega)<|c0) ?_
        refine⟨by kernel_rfl,_,?_,i+1,?_,?_,(by kernel_rfl),rfl⟩
        ·omega
        ·omega
        ·intro j hj
         by_cases h:j=i
         ·subst h;simp_all
         ·exact f3_2 j (by omega)
      ·refine Bp ?_
       refine Ac ?_
       refine Ab [] [0,3,10] ?_
       refine Ay ?_
       refine Bz (fun g y=>∃(i:Nat),i≤r.pkgs.length∧y=⟨[(0,(.ptr 0 0)),(3,(.fp (.agg [(.str r.name),(.int .i64 r.prio),(.bool r.inst),(Ae 12 Av r.pkgs)]))),(10,(.int .i64 ((i:Int))))],[(0,(.row [(.int .i64 st.kind),(.own 1),(.own 2)] 116)),(1,(.grow (st.repos.map Bm) 41 4)),(2,(.grow ((Dc pl st r i).map atX) 142 2))],4⟩∧g=r.pkgs.length-i) [0,3,10] 4 _ (by omega) ⟨0,(by omega),(Eq.trans (b:=(⟨[(0,(.ptr 0 0)),(3,(.fp (.agg [(.str r.name),(.int .i64 r.prio),(.bool r.inst),(Ae 12 Av r.pkgs)]))),(10,(.int .i64 0))],[(0,(.row [(.int .i64 st.kind),(.own 1),(.own 2)] 116)),(1,(.grow (st.repos.map Bm) 41 4)),(2,(.grow (pl.map atX) 142 2))],4⟩:St)) (by kernel_rfl) (by rw[show Dc pl st r 0=pl from by simp[Dc]]<;>rfl)),rfl⟩ ?_
       rintro g4 y4 ⟨i,f4_1,rfl,rfl⟩
       have hkl:((Dc pl st r i).map atX).length≤200:=by rw[List.length_map,X7v];omega
       refine Ac ?_
       refine Ab [] [0,3,10,95] ?_
       refine A5 (p:=(i:Int) < (r.pkgs.length:Int)) (by kernel_rfl) (fun c10=>?_) (fun c10=>?_)
       ·refine Ai ?_
        refine Dm (fun y=>y=⟨[(0,(.ptr 0 0)),(3,(.fp (.agg [(.str r.name),(.int .i64 r.prio),(.bool r.inst),(Ae 12 Av r.pkgs)]))),(10,(.int .i64 ((i:Int))))],[(0,(.row [(.int .i64 st.kind),(.own 1),(.own 2)] 116)),(1,(.grow (st.repos.map Bm) 41 4)),(2,(.grow ((Dc pl st r (i+1)).map atX) 142 2))],4⟩) [0,3,10] 4 (by omega) ?_ ?_
        ·refine Ay ?_
         refine G9 [] [0,3,10] [] hk0 v0 (cc 13 (p:=((((Dc pl st r i).map atX).length+1)*16≤140737488355328)) (by omega)<|c0) ?_
         refine⟨by kernel_rfl,(Eq.trans (b:=(⟨[(0,(.ptr 0 0)),(3,(.fp (.agg [(.str r.name),(.int .i64 r.prio),(.bool r.inst),(Ae 12 Av r.pkgs)]))),(10,(.int .i64 ((i:Int))))],[(0,(.row [(.int .i64 st.kind),(.own 1),(.own 2)] 116)),(1,(.grow (st.repos.map Bm) 41 4)),(2,(.grow (((Dc pl st r i).map atX)++([(.agg [(.int .i64 (((st.repos.map Bm).length:Int))),(.int .i64 ((i:Int)))])]:List AV)) 142 2))],4⟩:St)) (by kernel_rfl) (by rw[show(((Dc pl st r i).map atX)++([(.agg [(.int .i64 (((st.repos.map Bm).length:Int))),(.int .i64 ((i:Int)))])]:List AV))=(Dc pl st r (i+1)).map atX from by rw[X7u,List.map_append,List.length_map];rfl]<;>kernel_rfl))⟩
        ·rintro y2 rfl
         refine An ?_
         refine Au 0 [] [0,3,10] [] hk0 v0 (cc 1 (p:=(-9223372036854775808≤(i:Int)+1∧(i:Int)+1≤9223372036854775807)) (by omega)<|c0) ?_
         refine⟨by kernel_rfl,_,?_,i+1,?_,(by kernel_rfl),rfl⟩
         ·omega
         ·omega
       ·refine Bp ?_
        refine Dm (fun y=>y=⟨[],[(0,(.row [(.int .i64 st.kind),(.own 1),(.own 2)] 116)),(1,(.grow ((st.repos++[r]).map Bm) 41 4)),(2,(.grow ((Dc pl st r i).map atX) 142 2))],4⟩) [] 4 (by omega) ?_ ?_
        ·refine G9 [] [] [] hk0 v0 (cc 7 (p:=(((st.repos.map Bm).length+1)*56≤140737488355328)) (by omega)<|c0) ?_
         refine⟨by kernel_rfl,(Eq.trans (b:=(⟨[],[(0,(.row [(.int .i64 st.kind),(.own 1),(.own 2)] 116)),(1,(.grow ((st.repos.map Bm)++([(.agg [(.str r.name),(.int .i64 r.prio),(.bool r.inst),(Ae 12 Av r.pkgs)])]:List AV)) 41 4)),(2,(.grow ((Dc pl st r i).map atX) 142 2))],4⟩:St)) (by kernel_rfl) (by rw[show((st.repos.map Bm)++([(.agg [(.str r.name),(.int .i64 r.prio),(.bool r.inst),(Ae 12 Av r.pkgs)])]:List AV))=(st.repos++[r]).map Bm from by rw[List.map_append];rfl]<;>kernel_rfl))⟩
        ·rintro y3 rfl
         refine Ab [] [4] ?_
         refine Ag ?_
         refine Er (.inl rfl) (al:=[(.int .i64 0)]) (by kernel_rfl) ?_ ((by kernel_rfl:Dr 3 _=some [(0,(.row [(.int .i64 st.kind),(.own 1),(.own 2)] 116)),(1,(.grow ((st.repos++[r]).map Bm) 41 4)),(2,(.grow ((Dc pl st r i).map atX) 142 2))]).trans ?_)
         all_goals have hN:=Ll (l:=st.repos) (p:=fun o=>decide (o.name=r.name)) (fun j hj=>by simpa using f1_2 j (by omega))
         all_goals have hA:¬(B1 r.name=false∨st.repos.any (fun o=>decide (o.name=r.name))=true):=fun h=>h.elim (fun h=>by rw[c1] at h;cases h) (fun h=>by rw[hN] at h;cases h)
         all_goals have hI:¬(r.inst=true∧st.repos.any (fun o=>o.inst)=true):=fun⟨h1,h2⟩=>by rw[Ll (fun j hj=>by have:=f2_2 j (by omega);simpa [h1] using this)] at h2;cases h2
         all_goals have hE:Cv st r=0:=by unfold Cv;rw[if_neg hA,if_neg hI,if_neg (by omega)];exact Q2g fun j hj=>f3_2 j (by omega)
         ·rw[hE];rfl
         ·unfold Cn Fi;rw[if_pos hE,if_pos hE,show i=r.pkgs.length from by omega]
end Sv
end
section
open Go Go.RowKit
namespace Sv
attribute [local irreducible] SW SO Bs
set_option maxHeartbeats 1000000
set_option maxRecDepth 100000
theorem Q2y:As Tryz.prog 9:=Az Tryz.func9 (by kernel_rfl) rfl
theorem X4y:As Tryz.prog 39:=Az Tryz.func39 (by kernel_rfl) rfl
theorem X4x:As Tryz.prog 40:=Az Tryz.func40 (by kernel_rfl) rfl
def A4 (k:Int):Int:=if k=2 then 2 else 1
theorem Q1e (k:Int):A4 k=1∨A4 k=2:=by unfold A4;split<;>simp
theorem X2t {k:Int} (h:k=2):A4 k=k:=by unfold A4;rw[if_pos h,h]
def Ig:List PkgT→Nat
 |[]=>0
 |p::r=>1+p.size+Ig r
theorem Y2:∀l:List PkgT,l.length≤Ig l
 |[]=>Nat.zero_le _
 |p::r=>by have:=Y2 r;simp only[Ig,List.length_cons];omega
theorem Y4:∀{l:List PkgT} {i:Nat},i < l.length→(nth l i).size≤Ig l
 |[],_,h=>by simp at h
 |p::r,0,_=>by simp only[Ig];show p.size≤_;omega
 |p::r,i+1,h=>by
  have:=Y4 (l:=r) (i:=i) (by simpa using h)
  simp only[Ig];show(nth r i).size≤_;omega
def _root_.Go.Proofs.YtlmloohlmlahfaaGreatDoor.RepoT.size (r:RepoT):Nat:=1+r.name.length+Ig r.pkgs
theorem _root_.Go.Proofs.YtlmloohlmlahfaaGreatDoor.RepoT.sizes (r:RepoT):r.name.length≤r.size∧r.pkgs.length≤r.size:=by
 have:=Y2 r.pkgs
 unfold RepoT.size;omega
theorem _root_.Go.Proofs.YtlmloohlmlahfaaGreatDoor.RepoT.size_pkg {r:RepoT} {i:Nat} (h:i < r.pkgs.length):(nth r.pkgs i).size≤r.size:=by
 have:=Y4 h
 unfold RepoT.size;omega
def A1 (k:Int) (l:List RepoT):PoolT × List (Int × Int):=l.foldl (fun s r=>(Cn s.1 r,Fi s.2 s.1 r)) (⟨k,[],[]⟩,[])
def Lh (s:PoolT × List (Int × Int)):Prop:=s.1.repos.length≤8∧s.1.all.length≤200∧s.2.length=s.1.all.length
theorem X7l {s:PoolT × List (Int × Int)} {r:RepoT} (h:Lh s):Lh (Cn s.1 r,Fi s.2 s.1 r):=by
 obtain⟨h1,h2,h3⟩:=h
 by_cases he:Cv s.1 r=0
 ·have hm : ¬ (8 ≤ s.1.repos.length ∨ 200 < s.1.all.length + r.pkgs.length) := by
   intro q
   unfold Cv at he
   rw[if_pos q] at he
   split at he<;>first|omega|(split at he<;>omega)
  unfold Lh Cn Fi
  simp only[if_pos he,List.length_append,List.length_singleton,A6,Dc,List.length_map,List.length_take,List.length_range]
  omega
 ·unfold Lh Cn Fi
  rw[if_neg he,if_neg he];exact⟨h1,h2,h3⟩
theorem Q44 (k:Int) (l:List RepoT):Lh (A1 k l):=by
 have key:∀(l:List RepoT) (s:PoolT × List (Int × Int)),Lh s→Lh (l.foldl (fun s r=>(Cn s.1 r,Fi s.2 s.1 r)) s):=by
  intro l
  induction l with
  |nil=>exact fun s h=>h
  |cons r l ih=>exact fun s h=>ih _ (X7l h)
 exact key l _ ⟨by simp,by simp,by simp⟩
theorem X7i {k:Int} {l:List RepoT} {i:Nat} (h:i < l.length):A1 k (l.take (i+1))=(Cn (A1 k (l.take i)).1 (nth l i),Fi (A1 k (l.take i)).2 (A1 k (l.take i)).1 (nth l i)):=by
 unfold A1
 rw[List.take_add_one,List.getElem?_eq_getElem h,List.foldl_append]
 simp[nth,h]
noncomputable def Bx (st:PoolT):AV:=.agg [.int .i64 st.kind,Ae 4 Bh st.repos,Ae 13 Bj st.all,.smap (.slice none 0 0) (fun s => .row 1 (Bg st.all s).length (fun i=>(Bg st.all s).getD i Br))]
noncomputable def B9 (st:PoolT) (pl:List (Int × Int)):AV:=.agg [.int .i64 st.kind,Ae 4 Bm st.repos,Ae 2 atX pl]
theorem Q6q (kind : Int) (l : List RepoT) (hll : l.length ≤ 4611686018427387904) (hl : ∀ i, i < l.length → (nth l i).size ≤ 4194304) :
  FnV Tryz.prog 9 [(.int .i64 kind),(Ae 4 Bm l)] (.tup [.fp (Bx (A1 (A4 kind) l).1),.fp (B9 (A1 (A4 kind) l).1 (A1 (A4 kind) l).2)]):=by
 refine A8 [.tmp 4,.tmp 5] Tryz.func9 rfl Tryz.ntmps9 rfl rfl (fun B F hF=>?_)
 refine Ab [] [0,1] ?_
 refine Dm (fun y=>y=⟨[(0,(.int .i64 ((A4 kind)))),(1,(Ae 4 Bm l))],[],0⟩) [0,1] 0 (by omega) ?_ ?_
 ·refine Ab [] [0,1,12] ?_
  refine Da (p:=kind=2) (by kernel_rfl) (fun c1=>?_) (fun c1=>?_)
  ·refine An ?_
   refine Ei [] [0,1] ?_
   refine⟨by kernel_rfl,(Eq.trans (b:=(⟨[(0,(.int .i64 1)),(1,(Ae 4 Bm l))],[],0⟩:St)) (by kernel_rfl) (by rw[show A4 kind=1 from if_neg (by assumption)]<;>rfl))⟩
  ·refine Ai ?_
   refine⟨by kernel_rfl,(Eq.trans (b:=(⟨[(0,(.int .i64 kind)),(1,(Ae 4 Bm l))],[],0⟩:St)) (by kernel_rfl) (by rw[show A4 kind=kind from X2t (by omega)]<;>rfl))⟩
 ·rintro y1 rfl
  refine Ac ?_
  refine An ?_
  refine B2 1 0 [] [0,1,14] [] hk0 v0 c0 ?_
  refine Km [.tmp 2,.tmp 3] (al:=[(.int .i64 ((A4 kind)))]) (s0:=[(0,(.int .i64 ((A4 kind)))),(1,(Ae 4 Bm l)),(14,(.int .i64 ((A4 kind))))]) (by kernel_rfl) (by exact X4y) (by kernel_rfl) Tryz.func39 rfl Tryz.ntmps39 rfl (by kernel_rfl) (by kernel_rfl) (fun F1 hF1 hle1=>?_)
  refine Ab [] [0] ?_
  refine Ac ?_
  obtain⟨b1_1,hb1_1⟩:∃b,b=(!decide ((A4 kind)=1)):=⟨_,rfl⟩
  refine Af (CS:=[(4,(b1_1=true→b1_1=true)),(5,(b1_1=true→b1_1=true))]) [7,8] [0,9] [] hk0 (vk 3 6 (a:=.bool (!decide ((A4 kind)=1))) (b:=.bool b1_1) (Imp.of_eq (by rw[hb1_1]))<|v0) (by refine cc _ ?_<|cc _ ?_ c0<;>simp) ?_
  refine Bd (q:=b1_1&&(!decide ((A4 kind)=2))) (by kernel_rfl) (fun c2=>?_) (fun c2=>?_)
  ·subst hb1_1
   try simp only[Am] at c2
   exact absurd (Q1e kind) fun h=>h.elim c2.1 c2.2
  ·subst hb1_1
   try simp only[Am] at c2
   refine Ai ?_
   refine Ab [] [2,3] ?_
   refine Ag ?_
   refine Hh (.inl rfl) (al:=[(.ptr 1 0),(.int .i64 0)]) (s':=[(0,(.int .i64 ((A4 kind)))),(1,(Ae 4 Bm l)),(14,(.int .i64 ((A4 kind)))),(15,(.tup [(.ptr 1 0),(.int .i64 0)]))]) (by kernel_rfl) (by kernel_rfl) ?_
   refine Au 2 [] [0,1,6,7] [] hk0 v0 c0 ?_
   refine Ac ?_
   refine An ?_
   refine B2 1 0 [] [1,6,7,19] [] hk0 v0 c0 ?_
   refine Km [.tmp 2,.tmp 3] (al:=[(.int .i64 ((A4 kind)))]) (s0:=[(1,(Ae 4 Bm l)),(6,(.ptr 1 0)),(7,(.int .i64 0)),(19,(.int .i64 ((A4 kind))))]) (by kernel_rfl) (by exact X4x) (by kernel_rfl) Tryz.func40 rfl Tryz.ntmps40 rfl (by kernel_rfl) (by kernel_rfl) (fun F2 hF2 hle2=>?_)
   refine Ab [] [0] ?_
   refine Ac ?_
   obtain⟨b2_1,hb2_1⟩:∃b,b=(!decide ((A4 kind)=1)):=⟨_,rfl⟩
   refine Af (CS:=[(4,(b2_1=true→b2_1=true)),(5,(b2_1=true→b2_1=true))]) [7,8] [0,9] [] hk0 (vk 3 6 (a:=.bool (!decide ((A4 kind)=1))) (b:=.bool b2_1) (Imp.of_eq (by rw[hb2_1]))<|v0) (by refine cc _ ?_<|cc _ ?_ c0<;>simp) ?_
   refine Bd (q:=b2_1&&(!decide ((A4 kind)=2))) (by kernel_rfl) (fun c3=>?_) (fun c3=>?_)
   ·subst hb2_1
    try simp only[Am] at c3
    exact absurd (Q1e kind) fun h=>h.elim c3.1 c3.2
   ·subst hb2_1
    try simp only[Am] at c3
    refine Ai ?_
    refine Ab [] [2,3] ?_
    refine Ag ?_
    refine Hh (.inl rfl) (al:=[(.ptr 2 0),(.int .i64 0)]) (s':=[(1,(Ae 4 Bm l)),(6,(.ptr 1 0)),(7,(.int .i64 0)),(19,(.int .i64 ((A4 kind)))),(20,(.tup [(.ptr 2 0),(.int .i64 0)]))]) (by kernel_rfl) (by kernel_rfl) ?_
    refine Au 2 [] [1,6,7,8] [] hk0 v0 c0 ?_
    refine Ac ?_
    refine Ab [] [1,6,8,28] ?_
    refine Fc (by kernel_rfl) ?_
    refine Ai ?_
    refine Ac ?_
    refine Ab [] [1,6,8,10] ?_
    refine Ay ?_
    refine M8 41 4 1 1 (y:=⟨[(1,(Ae 4 Bm l)),(6,(.ptr 1 0)),(8,(.ptr 2 0)),(10,(.int .i64 0))],[(0,(.map [] 0)),(1,(.row [(.int .i64 ((A4 kind))),(.own 3),.nils,(.map 0)] 101)),(2,(.row [(.int .i64 ((A4 kind))),.nils,.nils] 116)),(3,(.grow [] 41 4))],4⟩) (by kernel_rfl) (by kernel_rfl) ?_
    refine M8 106 13 1 2 (y:=⟨[(1,(Ae 4 Bm l)),(6,(.ptr 1 0)),(8,(.ptr 2 0)),(10,(.int .i64 0))],[(0,(.map [] 0)),(1,(.row [(.int .i64 ((A4 kind))),(.own 3),(.own 4),(.map 0)] 101)),(2,(.row [(.int .i64 ((A4 kind))),.nils,.nils] 116)),(3,(.grow [] 41 4)),(4,(.grow [] 106 13))],5⟩) (by kernel_rfl) (by kernel_rfl) ?_
    refine M8 41 4 2 1 (y:=⟨[(1,(Ae 4 Bm l)),(6,(.ptr 1 0)),(8,(.ptr 2 0)),(10,(.int .i64 0))],[(0,(.map [] 0)),(1,(.row [(.int .i64 ((A4 kind))),(.own 3),(.own 4),(.map 0)] 101)),(2,(.row [(.int .i64 ((A4 kind))),(.own 5),.nils] 116)),(3,(.grow [] 41 4)),(4,(.grow [] 106 13)),(5,(.grow [] 41 4))],6⟩) (by kernel_rfl) (by kernel_rfl) ?_
    refine M8 142 2 2 2 (y:=⟨[(1,(Ae 4 Bm l)),(6,(.ptr 1 0)),(8,(.ptr 2 0)),(10,(.int .i64 0))],[(0,(.map [] 0)),(1,(.row [(.int .i64 ((A4 kind))),(.own 3),(.own 4),(.map 0)] 101)),(2,(.row [(.int .i64 ((A4 kind))),(.own 5),(.own 6)] 116)),(3,(.grow [] 41 4)),(4,(.grow [] 106 13)),(5,(.grow [] 41 4)),(6,(.grow [] 142 2))],7⟩) (by kernel_rfl) (by kernel_rfl) ?_
    refine Q6b 0 3 1 (y:=⟨[(1,(Ae 4 Bm l)),(6,(.ptr 1 0)),(8,(.ptr 2 0)),(10,(.int .i64 0))],[(0,(.mm (fun _=>[]) none 3 1)),(1,(.row [(.int .i64 ((A4 kind))),(.own 3),(.own 4),(.map 0)] 101)),(2,(.row [(.int .i64 ((A4 kind))),(.own 5),(.own 6)] 116)),(3,(.grow [] 41 4)),(4,(.grow [] 106 13)),(5,(.grow [] 41 4)),(6,(.grow [] 142 2))],7⟩) (by kernel_rfl) ?_
    refine Bz (fun g y=>∃(i:Nat),i≤l.length∧y=⟨[(1,(Ae 4 Bm l)),(6,(.ptr 1 0)),(8,(.ptr 2 0)),(10,(.int .i64 ((i:Int))))],[(0,(.mm (Bg ((A1 (A4 kind) (l.take i)).1).all) none 3 1)),(1,(.row [(.int .i64 ((A1 (A4 kind) (l.take i)).1.kind)),(.own 3),(.own 4),(.map 0)] 101)),(2,(.row [(.int .i64 ((A1 (A4 kind) (l.take i)).1.kind)),(.own 5),(.own 6)] 116)),(3,(.grow (((A1 (A4 kind) (l.take i)).1).repos.map Bh) 41 4)),(4,(.grow (((A1 (A4 kind) (l.take i)).1).all.map Bj) 106 13)),(5,(.grow (((A1 (A4 kind) (l.take i)).1).repos.map Bm) 41 4)),(6,(.grow (((A1 (A4 kind) (l.take i)).2).map atX) 142 2))],7⟩∧g=l.length-i) [1,6,8,10] 7 _ (by omega) ⟨0,(by omega),(by kernel_rfl),rfl⟩ ?_
    rintro g1 y1 ⟨i,f1_1,rfl,rfl⟩
    have hb:=Q44 (A4 kind) (l.take i)
    refine Ac ?_
    refine Ab [] [1,6,8,10,32] ?_
    refine A5 (p:=(i:Int) < (l.length:Int)) (by kernel_rfl) (fun c4=>?_) (fun c4=>?_)
    ·have hz:=RepoT.sizes (nth l i)
     have hw:=hl i (by omega)
     refine Ai ?_
     refine Ac ?_
     refine Ay ?_
     refine Ac ?_
     refine Kk (by kernel_rfl) (fun F1 hF1=>?_)
     refine Dh (fuel:=3) [] [0,1,2,3,4,6,7,8,9,10] [1,6,8,10,35,39,41,45] (hold (p:=(0≤(i:Int)∧i < l.length)∧(0≤(i:Int)∧i < l.length)) (by omega)) ?_
     refine Ha (fuel:=2) 5 (by kernel_rfl) ?_
     refine Dt (fuel:=2) 5 rfl ?_
     refine Nb [1,3,4,0] (al:=[(.ptr 1 0),(.agg [(.str ((nth l i).name)),(.int .i64 ((nth l i).prio)),(.bool ((nth l i).inst)),(Ae 12 Av ((nth l i).pkgs))])]) (al':=[(.ptr 0 0),(.agg [(.str ((nth l i).name)),(.int .i64 ((nth l i).prio)),(.bool ((nth l i).inst)),(Ae 12 Av ((nth l i).pkgs))])]) (r:=(.int .i64 (Cv (A1 (A4 kind) (l.take i)).1 (nth l i)))) (r':=(.int .i64 (Cv (A1 (A4 kind) (l.take i)).1 (nth l i)))) (s':=[(1,(Ae 4 Bm l)),(6,(.ptr 1 0)),(8,(.ptr 2 0)),(10,(.int .i64 ((i:Int)))),(35,(.ptr 1 0)),(39,(.agg [(.str ((nth l i).name)),(.int .i64 ((nth l i).prio)),(.bool ((nth l i).inst)),(Ae 12 Av ((nth l i).pkgs))])),(41,(.ptr 2 0)),(45,(.agg [(.str ((nth l i).name)),(.int .i64 ((nth l i).prio)),(.bool ((nth l i).inst)),(Ae 12 Av ((nth l i).pkgs))])),(40,(.int .i64 (Cv (A1 (A4 kind) (l.take i)).1 (nth l i))))]) (H:=[(0,(.row [(.int .i64 ((A1 (A4 kind) (l.take i)).1.kind)),(.own 1),(.own 2),(.map 3)] 101)),(1,(.grow (((A1 (A4 kind) (l.take i)).1).repos.map Bh) 41 4)),(2,(.grow (((A1 (A4 kind) (l.take i)).1).all.map Bj) 106 13)),(3,(.mm (Bg ((A1 (A4 kind) (l.take i)).1).all) none 3 1))]) (H':=[(0,(.row [(.int .i64 ((Cn (A1 (A4 kind) (l.take i)).1 (nth l i)).kind)),(.own 1),(.own 2),(.map 3)] 101)),(1,(.grow ((Cn (A1 (A4 kind) (l.take i)).1 (nth l i)).repos.map Bh) 41 4)),(2,(.grow ((Cn (A1 (A4 kind) (l.take i)).1 (nth l i)).all.map Bj) 106 13)),(3,(.mm (Bg (Cn (A1 (A4 kind) (l.take i)).1 (nth l i)).all) none 3 1))]) (h2:=[(0,(.mm (Bg (Cn (A1 (A4 kind) (l.take i)).1 (nth l i)).all) none 3 1)),(1,(.row [(.int .i64 ((Cn (A1 (A4 kind) (l.take i)).1 (nth l i)).kind)),(.own 3),(.own 4),(.map 0)] 101)),(2,(.row [(.int .i64 ((A1 (A4 kind) (l.take i)).1.kind)),(.own 5),(.own 6)] 116)),(3,(.grow ((Cn (A1 (A4 kind) (l.take i)).1 (nth l i)).repos.map Bh) 41 4)),(4,(.grow ((Cn (A1 (A4 kind) (l.take i)).1 (nth l i)).all.map Bj) 106 13)),(5,(.grow (((A1 (A4 kind) (l.take i)).1).repos.map Bm) 41 4)),(6,(.grow (((A1 (A4 kind) (l.take i)).2).map atX) 142 2))]) (by kernel_rfl) (by exact X6f) (by kernel_rfl) (by kernel_rfl) (by kernel_rfl) (by kernel_rfl) (by kernel_rfl) (Y0g (A1 (A4 kind) (l.take i)).1 (nth l i) hb.1 hb.2.1 (by omega) (by omega) (fun j hj=>Nat.le_trans (RepoT.size_pkg hj) (hl i (by omega)))) (by kernel_rfl) (by kernel_rfl) (by kernel_rfl) ?_
     refine Cd ⟨rfl,?_⟩
     refine Ha (fuel:=1) 11 (by kernel_rfl) ?_
     refine Dt (fuel:=1) 11 rfl ?_
     refine Nb [2,5,6] (al:=[(.ptr 2 0),(.agg [(.str ((nth l i).name)),(.int .i64 ((nth l i).prio)),(.bool ((nth l i).inst)),(Ae 12 Av ((nth l i).pkgs))])]) (al':=[(.ptr 0 0),(.agg [(.str ((nth l i).name)),(.int .i64 ((nth l i).prio)),(.bool ((nth l i).inst)),(Ae 12 Av ((nth l i).pkgs))])]) (r:=(.int .i64 (Cv (A1 (A4 kind) (l.take i)).1 (nth l i)))) (r':=(.int .i64 (Cv (A1 (A4 kind) (l.take i)).1 (nth l i)))) (s':=[(1,(Ae 4 Bm l)),(6,(.ptr 1 0)),(8,(.ptr 2 0)),(10,(.int .i64 ((i:Int)))),(35,(.ptr 1 0)),(39,(.agg [(.str ((nth l i).name)),(.int .i64 ((nth l i).prio)),(.bool ((nth l i).inst)),(Ae 12 Av ((nth l i).pkgs))])),(41,(.ptr 2 0)),(45,(.agg [(.str ((nth l i).name)),(.int .i64 ((nth l i).prio)),(.bool ((nth l i).inst)),(Ae 12 Av ((nth l i).pkgs))])),(40,(.int .i64 (Cv (A1 (A4 kind) (l.take i)).1 (nth l i)))),(46,(.int .i64 (Cv (A1 (A4 kind) (l.take i)).1 (nth l i))))]) (H:=[(0,(.row [(.int .i64 ((A1 (A4 kind) (l.take i)).1.kind)),(.own 1),(.own 2)] 116)),(1,(.grow (((A1 (A4 kind) (l.take i)).1).repos.map Bm) 41 4)),(2,(.grow (((A1 (A4 kind) (l.take i)).2).map atX) 142 2))]) (H':=[(0,(.row [(.int .i64 ((Cn (A1 (A4 kind) (l.take i)).1 (nth l i)).kind)),(.own 1),(.own 2)] 116)),(1,(.grow ((Cn (A1 (A4 kind) (l.take i)).1 (nth l i)).repos.map Bm) 41 4)),(2,(.grow ((Fi (A1 (A4 kind) (l.take i)).2 (A1 (A4 kind) (l.take i)).1 (nth l i)).map atX) 142 2))]) (h2:=[(0,(.mm (Bg (Cn (A1 (A4 kind) (l.take i)).1 (nth l i)).all) none 3 1)),(1,(.row [(.int .i64 ((Cn (A1 (A4 kind) (l.take i)).1 (nth l i)).kind)),(.own 3),(.own 4),(.map 0)] 101)),(2,(.row [(.int .i64 ((Cn (A1 (A4 kind) (l.take i)).1 (nth l i)).kind)),(.own 5),(.own 6)] 116)),(3,(.grow ((Cn (A1 (A4 kind) (l.take i)).1 (nth l i)).repos.map Bh) 41 4)),(4,(.grow ((Cn (A1 (A4 kind) (l.take i)).1 (nth l i)).all.map Bj) 106 13)),(5,(.grow ((Cn (A1 (A4 kind) (l.take i)).1 (nth l i)).repos.map Bm) 41 4)),(6,(.grow ((Fi (A1 (A4 kind) (l.take i)).2 (A1 (A4 kind) (l.take i)).1 (nth l i)).map atX) 142 2))]) (by kernel_rfl) (by exact X4w) (by kernel_rfl) (by kernel_rfl) (by kernel_rfl) (by kernel_rfl) (by kernel_rfl) (Q9d (A1 (A4 kind) (l.take i)).1 (A1 (A4 kind) (l.take i)).2 (nth l i) hb.1 hb.2.1 hb.2.2 (by omega) (by omega) (fun j hj=>Nat.le_trans (RepoT.size_pkg hj) (hl i (by omega)))) (by kernel_rfl) (by kernel_rfl) (by kernel_rfl) ?_
     refine Cd ⟨rfl,?_⟩
     refine Dh (fuel:=0) [] [12] [1,6,8,10,47] Bc ?_
     refine A9 [1,6,8,10,47] ?_
     refine Ho (by kernel_rfl) ?_
     refine Da (p:=(Cv (A1 (A4 kind) (l.take i)).1 (nth l i))=(Cv (A1 (A4 kind) (l.take i)).1 (nth l i))) (by kernel_rfl) (fun c5=>?_) (fun c5=>?_)
     ·exact absurd rfl c5
     ·refine Ai ?_
      refine An ?_
      refine Au 0 [] [1,6,8,10] [] hk0 v0 (cc 1 (p:=(-9223372036854775808≤(i:Int)+1∧(i:Int)+1≤9223372036854775807)) (by omega)<|c0) ?_
      refine⟨by kernel_rfl,_,?_,i+1,?_,(Eq.trans (b:=(⟨[(1,(Ae 4 Bm l)),(6,(.ptr 1 0)),(8,(.ptr 2 0)),(10,(.int .i64 ((i:Int)+1)))],[(0,(.mm (Bg (Cn (A1 (A4 kind) (l.take i)).1 (nth l i)).all) none 3 1)),(1,(.row [(.int .i64 ((Cn (A1 (A4 kind) (l.take i)).1 (nth l i)).kind)),(.own 3),(.own 4),(.map 0)] 101)),(2,(.row [(.int .i64 ((Cn (A1 (A4 kind) (l.take i)).1 (nth l i)).kind)),(.own 5),(.own 6)] 116)),(3,(.grow ((Cn (A1 (A4 kind) (l.take i)).1 (nth l i)).repos.map Bh) 41 4)),(4,(.grow ((Cn (A1 (A4 kind) (l.take i)).1 (nth l i)).all.map Bj) 106 13)),(5,(.grow ((Cn (A1 (A4 kind) (l.take i)).1 (nth l i)).repos.map Bm) 41 4)),(6,(.grow ((Fi (A1 (A4 kind) (l.take i)).2 (A1 (A4 kind) (l.take i)).1 (nth l i)).map atX) 142 2))],7⟩:St)) (by kernel_rfl) (by rw[X7i (by omega)]<;>kernel_rfl)),rfl⟩
      ·omega
      ·omega
    ·refine Bp ?_
     refine Ac ?_
     refine An ?_
     refine Kl 1 1 (y:=⟨[(1,(Ae 4 Bm l)),(6,(.ptr 1 0)),(8,(.ptr 2 0)),(10,(.int .i64 ((i:Int)))),(32,(.bool (decide ((i:Int) < (l.length:Int)))))],[(0,(.mm (Bg ((A1 (A4 kind) (l.take i)).1).all) none 3 1)),(1,(.row [(.int .i64 ((A1 (A4 kind) (l.take i)).1.kind)),(.row 4 (((A1 (A4 kind) (l.take i)).1).repos.map Bh).length (fun ix=>(((A1 (A4 kind) (l.take i)).1).repos.map Bh).getD ix Br)),(.own 4),(.map 0)] 101)),(2,(.row [(.int .i64 ((A1 (A4 kind) (l.take i)).1.kind)),(.own 5),(.own 6)] 116)),(4,(.grow (((A1 (A4 kind) (l.take i)).1).all.map Bj) 106 13)),(5,(.grow (((A1 (A4 kind) (l.take i)).1).repos.map Bm) 41 4)),(6,(.grow (((A1 (A4 kind) (l.take i)).2).map atX) 142 2))],7⟩) (by kernel_rfl) ?_
     refine Kl 1 2 (y:=⟨[(1,(Ae 4 Bm l)),(6,(.ptr 1 0)),(8,(.ptr 2 0)),(10,(.int .i64 ((i:Int)))),(32,(.bool (decide ((i:Int) < (l.length:Int)))))],[(0,(.mm (Bg ((A1 (A4 kind) (l.take i)).1).all) none 3 1)),(1,(.row [(.int .i64 ((A1 (A4 kind) (l.take i)).1.kind)),(.row 4 (((A1 (A4 kind) (l.take i)).1).repos.map Bh).length (fun ix=>(((A1 (A4 kind) (l.take i)).1).repos.map Bh).getD ix Br)),(.row 13 (((A1 (A4 kind) (l.take i)).1).all.map Bj).length (fun ix=>(((A1 (A4 kind) (l.take i)).1).all.map Bj).getD ix Br)),(.map 0)] 101)),(2,(.row [(.int .i64 ((A1 (A4 kind) (l.take i)).1.kind)),(.own 5),(.own 6)] 116)),(5,(.grow (((A1 (A4 kind) (l.take i)).1).repos.map Bm) 41 4)),(6,(.grow (((A1 (A4 kind) (l.take i)).2).map atX) 142 2))],7⟩) (by kernel_rfl) ?_
     refine Kl 1 3 (y:=⟨[(1,(Ae 4 Bm l)),(6,(.ptr 1 0)),(8,(.ptr 2 0)),(10,(.int .i64 ((i:Int)))),(32,(.bool (decide ((i:Int) < (l.length:Int)))))],[(1,(.row [(.int .i64 ((A1 (A4 kind) (l.take i)).1.kind)),(.row 4 (((A1 (A4 kind) (l.take i)).1).repos.map Bh).length (fun ix=>(((A1 (A4 kind) (l.take i)).1).repos.map Bh).getD ix Br)),(.row 13 (((A1 (A4 kind) (l.take i)).1).all.map Bj).length (fun ix=>(((A1 (A4 kind) (l.take i)).1).all.map Bj).getD ix Br)),(.smap (.slice none 0 0) (fun kq => .row 1 ((Bg ((A1 (A4 kind) (l.take i)).1).all) kq).length (fun ix=>((Bg ((A1 (A4 kind) (l.take i)).1).all) kq).getD ix Br)))] 101)),(2,(.row [(.int .i64 ((A1 (A4 kind) (l.take i)).1.kind)),(.own 5),(.own 6)] 116)),(5,(.grow (((A1 (A4 kind) (l.take i)).1).repos.map Bm) 41 4)),(6,(.grow (((A1 (A4 kind) (l.take i)).2).map atX) 142 2))],7⟩) (by kernel_rfl) ?_
     refine Kl 2 1 (y:=⟨[(1,(Ae 4 Bm l)),(6,(.ptr 1 0)),(8,(.ptr 2 0)),(10,(.int .i64 ((i:Int)))),(32,(.bool (decide ((i:Int) < (l.length:Int)))))],[(1,(.row [(.int .i64 ((A1 (A4 kind) (l.take i)).1.kind)),(.row 4 (((A1 (A4 kind) (l.take i)).1).repos.map Bh).length (fun ix=>(((A1 (A4 kind) (l.take i)).1).repos.map Bh).getD ix Br)),(.row 13 (((A1 (A4 kind) (l.take i)).1).all.map Bj).length (fun ix=>(((A1 (A4 kind) (l.take i)).1).all.map Bj).getD ix Br)),(.smap (.slice none 0 0) (fun kq => .row 1 ((Bg ((A1 (A4 kind) (l.take i)).1).all) kq).length (fun ix=>((Bg ((A1 (A4 kind) (l.take i)).1).all) kq).getD ix Br)))] 101)),(2,(.row [(.int .i64 ((A1 (A4 kind) (l.take i)).1.kind)),(.row 4 (((A1 (A4 kind) (l.take i)).1).repos.map Bm).length (fun ix=>(((A1 (A4 kind) (l.take i)).1).repos.map Bm).getD ix Br)),(.own 6)] 116)),(6,(.grow (((A1 (A4 kind) (l.take i)).2).map atX) 142 2))],7⟩) (by kernel_rfl) ?_
     refine Kl 2 2 (y:=⟨[(1,(Ae 4 Bm l)),(6,(.ptr 1 0)),(8,(.ptr 2 0)),(10,(.int .i64 ((i:Int)))),(32,(.bool (decide ((i:Int) < (l.length:Int)))))],[(1,(.row [(.int .i64 ((A1 (A4 kind) (l.take i)).1.kind)),(.row 4 (((A1 (A4 kind) (l.take i)).1).repos.map Bh).length (fun ix=>(((A1 (A4 kind) (l.take i)).1).repos.map Bh).getD ix Br)),(.row 13 (((A1 (A4 kind) (l.take i)).1).all.map Bj).length (fun ix=>(((A1 (A4 kind) (l.take i)).1).all.map Bj).getD ix Br)),(.smap (.slice none 0 0) (fun kq => .row 1 ((Bg ((A1 (A4 kind) (l.take i)).1).all) kq).length (fun ix=>((Bg ((A1 (A4 kind) (l.take i)).1).all) kq).getD ix Br)))] 101)),(2,(.row [(.int .i64 ((A1 (A4 kind) (l.take i)).1.kind)),(.row 4 (((A1 (A4 kind) (l.take i)).1).repos.map Bm).length (fun ix=>(((A1 (A4 kind) (l.take i)).1).repos.map Bm).getD ix Br)),(.row 2 (((A1 (A4 kind) (l.take i)).2).map atX).length (fun ix=>(((A1 (A4 kind) (l.take i)).2).map atX).getD ix Br))] 116))],7⟩) (by kernel_rfl) ?_
     refine Ei [] [4,5] ?_
     refine Ag ?_
     refine RK wR [(.fp (.agg [(.int .i64 ((A1 (A4 kind) (l.take i)).1.kind)),(.row 4 (((A1 (A4 kind) (l.take i)).1).repos.map Bh).length (fun ix=>(((A1 (A4 kind) (l.take i)).1).repos.map Bh).getD ix Br)),(.row 13 (((A1 (A4 kind) (l.take i)).1).all.map Bj).length (fun ix=>(((A1 (A4 kind) (l.take i)).1).all.map Bj).getD ix Br)),(.smap (.slice none 0 0) (fun kq => .row 1 ((Bg ((A1 (A4 kind) (l.take i)).1).all) kq).length (fun ix=>((Bg ((A1 (A4 kind) (l.take i)).1).all) kq).getD ix Br)))])),(.fp (.agg [(.int .i64 ((A1 (A4 kind) (l.take i)).1.kind)),(.row 4 (((A1 (A4 kind) (l.take i)).1).repos.map Bm).length (fun ix=>(((A1 (A4 kind) (l.take i)).1).repos.map Bm).getD ix Br)),(.row 2 (((A1 (A4 kind) (l.take i)).2).map atX).length (fun ix=>(((A1 (A4 kind) (l.take i)).2).map atX).getD ix Br))]))] ?_
     rw[show i=l.length from by omega,List.take_length]
     simp only[Ak]
     exact(Imp.tups (ImpL.cons (Imp.fp (Imp.aggs (ImpL.cons Imp.refl (ImpL.cons (Imp.list (f:=Bh) (List.length_map _)) (ImpL.cons (Imp.list (f:=Bj) (List.length_map _)) (ImpL.cons Imp.refl ImpL.nil)))))) (ImpL.cons (Imp.fp (Imp.aggs (ImpL.cons Imp.refl (ImpL.cons (Imp.list (f:=Bm) (List.length_map _)) (ImpL.cons (Imp.list (f:=atX) (List.length_map _)) ImpL.nil))))) ImpL.nil))).same
end Sv
end
section
open Go Go.RowKit
namespace Sv
attribute [local irreducible] SW SO Bs
set_option maxHeartbeats 400000
set_option maxRecDepth 100000
theorem Q29:As Tryz.prog 42:=Az Tryz.func42 (by kernel_rfl) rfl
theorem Q28:As Tryz.prog 43:=Az Tryz.func43 (by kernel_rfl) rfl
theorem Lf:As Tryz.prog 32:=Az Tryz.func32 (by kernel_rfl) rfl
theorem Q6t (st : PoolT) :
  FnV Tryz.prog 42 [(.fp (Bx st))] (.int .i64 st.kind):=by
 refine A8 [.tmp 2] Tryz.func42 rfl Tryz.ntmps42 rfl rfl (fun B F hF=>?_)
 refine Ab [] [0] ?_
 refine Ac ?_
 refine Ab [] [0,4] ?_
 refine Fc (by kernel_rfl) ?_
 refine Ai ?_
 refine Ab [] [2] ?_
 refine Ag ?_
 refine RK wR [(.int .i64 st.kind)] ?_
 exact Same.of_eq (by first|rfl|(simp only[Ak];simp_all))
theorem Q6s (st : PoolT) :
  FnV Tryz.prog 43 [(.fp (Bx st))] (.int .i64 ((st.all.length:Int))):=by
 refine A8 [.tmp 2] Tryz.func43 rfl Tryz.ntmps43 rfl rfl (fun B F hF=>?_)
 refine Ab [] [0] ?_
 refine Ac ?_
 refine Ab [] [0,4] ?_
 refine Fc (by kernel_rfl) ?_
 refine Ai ?_
 refine Ab [] [2] ?_
 refine Ag ?_
 refine RK wR [(.int .i64 ((st.all.length:Int)))] ?_
 exact Same.of_eq (by first|rfl|(simp only[Ak];simp_all))
theorem Lq (st : PoolT) (i : Nat) (hi : i < st.all.length) (hs : (nth st.all i).1.size ≤ 4194304) :
  FnV Tryz.prog 32 [(.fp (Bx st)),(.int .i64 ((i:Int)))] (.tup [Av (nth st.all i).1,.int .i64 (nth st.all i).2,.int .i64 0]):=by
 refine A8 [.cell 4 38,.tmp 5,.tmp 6] Tryz.func32 rfl Tryz.ntmps32 rfl rfl (fun B F hF=>?_)
 refine Ab [] [0,1,4] ?_
 refine Ac ?_
 refine Ay ?_
 refine Ab [] [0,1,4,7] ?_
 refine Fc (by kernel_rfl) ?_
 obtain⟨b1,hb1⟩:∃b,b=(decide ((i:Int) < 0)):=⟨_,rfl⟩
 obtain⟨b2,hb2⟩:∃b,b=(b1||(decide ((st.all.length:Int)≤(i:Int)))):=⟨_,rfl⟩
 refine Af (CS:=[(5,((!b1)=true→(!b1)=true)),(6,((!b1)=true→(!b1)=true)),(7,((!b1)=true→(!b1)=true)),(8,((!b1)=true→(!b1)=true)),(9,((!b1)=true→(!b1)=true∧(!b1)=true)),(10,(b1=false→(!b1)=true))]) [15,16,17,18,19,20,21] [0,1,4,11] [] hk0 (vk 3 14 (a:=.bool (decide ((i:Int) < 0))) (b:=.bool b1) (Imp.of_eq (by rw[hb1]))<|vk 11 22 (a:=.bool (b1||(decide ((st.all.length:Int)≤(i:Int))))) (b:=.bool b2) (Imp.of_eq (by rw[hb2]))<|v0) (by refine cc _ ?_<|cc _ ?_<|cc _ ?_<|cc _ ?_<|cc _ ?_<|cc _ ?_ c0<;>simp) ?_
 refine Bd (q:=b2) (by kernel_rfl) (fun c1=>?_) (fun c1=>?_)
 ·subst hb2 hb1
  try simp only[Am] at c1
  exfalso;simp at c1;omega
 ·subst hb2 hb1
  try simp only[Am] at c1
  refine Ai ?_
  refine Cr (CS:=[(5,(0≤(i:Int)∧i < st.all.length)),(14,(0≤(i:Int)∧i < st.all.length))]) [] [4,5,6] [] (hk 8 Q26 (Q4l (nth st.all i).1 (by have:=(nth st.all i).1.sizes;omega) (by have:=(nth st.all i).1.sizes;have:=J7 (nth st.all i).1.files;omega))<|hk0) v0 (by refine cc _ ?_<|cc _ ?_ c0<;>omega) ?_
  refine Ag ?_
  refine RK wR [(Av ((nth st.all i).1)),(.int .i64 ((nth st.all i).2)),(.int .i64 0)] ?_
  exact Same.of_eq (by first|rfl|(simp only[Ak];simp_all))
end Sv
end
end Go.Proofs.YtlmloohlmlahfaaGreatDoor
