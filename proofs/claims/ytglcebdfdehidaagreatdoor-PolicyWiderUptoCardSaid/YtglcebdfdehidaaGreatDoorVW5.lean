/- The texts OpenQ, Pol6, Pol7 of the proof, joined. Each says at its theorems what it proves. -/
import Derived.Test.YtglcebdfdehidaaGreatDoorVW4
set_option linter.unusedSimpArgs false
set_option linter.unusedVariables false
open Go.Proofs.Tryz
set_option maxHeartbeats 2000000
set_option maxRecDepth 100000
namespace Go.Proofs.YtglcebdfdehidaaGreatDoor
open Go Go.RowKit
namespace Sv
section
variable {H : Type} {enc : TypeId × Value → H} {W : World}
theorem X33 {fuel:Nat} {cs:List Value} {x:DataW H × List MemPlace} (h:DataW.trod enc prog W 0 (fun _=>true) true fuel 45 cs=some x):∃d:JobT,(VR (ofF (allF W)) (Ga d) (.agg cs.toArray)∧∀c∈cs,c.oneCell'=true)∧d.text.length+1≤Rows.uptoBulk x.1:=by
 obtain⟨xs,n,hf,rfl,hl,hxs,hfs⟩:=DataW.trod_struct underlying45 h;have hl':cs.length=3:=hl.trans (by kernel_rfl)
 match cs,hl' with
 |[c0,c1,c2],_ =>
 match xs,hxs with
 |[y0,y1,y2],_ =>
 have g0:DataW.trod enc prog W 0 (fun _=>true) true n 3 [c0]=some y0:=by
  have g:DataW.trod enc prog W 0 (fun _=>true) true n 3 (([c0,c1,c2].drop 0).take (prog.cellsOf 3))=some y0:=hfs 0 _ rfl;rw[show prog.cellsOf 3=1 by kernel_rfl] at g;exact g
 have g1:DataW.trod enc prog W 0 (fun _=>true) true n 3 [c1]=some y1:=by
  have g:DataW.trod enc prog W 0 (fun _=>true) true n 3 (([c0,c1,c2].drop 1).take (prog.cellsOf 3))=some y1:=hfs 1 _ rfl;rw[show prog.cellsOf 3=1 by kernel_rfl] at g;exact g
 have g2:DataW.trod enc prog W 0 (fun _=>true) true n 9 [c2]=some y2:=by
  have g:DataW.trod enc prog W 0 (fun _=>true) true n 9 (([c0,c1,c2].drop 2).take (prog.cellsOf 9))=some y2:=hfs 2 _ rfl;rw[show prog.cellsOf 9=1 by kernel_rfl] at g;exact g
 obtain⟨s0,e0,rfl,_⟩:=DataW.trod_int underlying3 g0;obtain⟨s1,e1,rfl,_⟩:=DataW.trod_int underlying3 g1;obtain⟨s2,e2,rfl,_⟩:=DataW.trod_string underlying9 g2;simp only[List.cons.injEq,and_true] at e0 e1 e2;subst e0 e1 e2;refine⟨⟨s0,s1,s2.data.toList⟩,⟨?_,?_⟩,?_⟩
 ·unfold Ga;simp only[VR];exact⟨_,.cons (by simp only[VR]) (.cons (by simp only[VR]) (.cons (by first|(simp only[VR];done)|(simp only[VR];exact J2 s2)) (.nil))),rfl⟩
 ·intro c hc;simp only[List.mem_cons,List.not_mem_nil,or_false] at hc;rcases hc with rfl|rfl|rfl
  ·exact rfl
  ·exact rfl
  ·exact rfl
 ·simp only[List.map_cons,List.map_nil,Rows.uptoBulk,Rows.uptoBulkAll];omega
theorem X6n (l:List JobT):l.length≤(l.map fun j=>j.text.length+1).sum∧∀i,i < l.length→(nth l i).text.length≤(l.map fun j=>j.text.length+1).sum:=by
 induction l with
 |nil=>exact⟨Nat.le_refl _,fun i hi=>by simp at hi⟩
 |cons d r ih =>
  simp only[List.map_cons,List.sum_cons,List.length_cons];refine⟨by omega,fun i hi=>?_⟩
  cases i with
  |zero=>show d.text.length≤_;omega
  |succ i=>have:=ih.2 i (by omega);show(nth r i).text.length≤_;omega
theorem X32 {fuel:Nat} {cs:List Value} {y:DataW H × List MemPlace} (h:DataW.trod enc prog W 0 (fun _=>true) true fuel 25 cs=some y) :
  ∃(v:Value) (l:List JobT),cs=[v]∧VR (ofF (allF W)) (Ak 3 Ga l) v∧l.length≤Rows.uptoBulk y.1∧∀i,i < l.length→(nth l i).text.length≤Rows.uptoBulk y.1:=by
 obtain⟨v,l,h1,h2,h3⟩:=Mi (f:=Ga) (size:=fun j=>j.text.length+1) (sz:=3) underlying25 (show prog.cellsOf 45=3 by kernel_rfl) (by omega) (fun cs => .agg cs.toArray) (fun cs' _ _=>by simp[Value.cells]) (fun n cs' y _ _ hy=>X33 hy) h;have hs:=X6n l;exact⟨v,l,h1,h2,by omega,fun i hi=>by have:=hs.2 i hi;omega⟩
theorem X34 {fuel:Nat} {cs:List Value} {x:DataW H × List MemPlace} (h:DataW.trod enc prog W 0 (fun _=>true) true fuel 24 cs=some x):∃a b c d:Bool,cs=[.bool a,.bool b,.bool c,.bool d]:=by
 obtain⟨xs,n,hf,rfl,hl,hxs,hfs⟩:=DataW.trod_struct underlying24 h;have hl':cs.length=4:=hl.trans (by kernel_rfl)
 match cs,hl' with
 |[c0,c1,c2,c3],_ =>
 match xs,hxs with
 |[y0,y1,y2,y3],_ =>
 have g0:DataW.trod enc prog W 0 (fun _=>true) true n 4 (([c0,c1,c2,c3].drop 0).take (prog.cellsOf 4))=some y0:=hfs 0 _ rfl;have g1:DataW.trod enc prog W 0 (fun _=>true) true n 4 (([c0,c1,c2,c3].drop 1).take (prog.cellsOf 4))=some y1:=hfs 1 _ rfl;have g2:DataW.trod enc prog W 0 (fun _=>true) true n 4 (([c0,c1,c2,c3].drop 2).take (prog.cellsOf 4))=some y2:=hfs 2 _ rfl;have g3:DataW.trod enc prog W 0 (fun _=>true) true n 4 (([c0,c1,c2,c3].drop 3).take (prog.cellsOf 4))=some y3:=hfs 3 _ rfl;rw[show prog.cellsOf 4=1 by kernel_rfl] at g0 g1 g2 g3;simp only[List.drop_zero,List.drop_succ_cons,List.take_succ_cons,List.take_zero] at g0 g1 g2 g3;obtain⟨s0,e0,rfl⟩:=DataW.trod_bool underlying4 g0;obtain⟨s1,e1,rfl⟩:=DataW.trod_bool underlying4 g1;obtain⟨s2,e2,rfl⟩:=DataW.trod_bool underlying4 g2;obtain⟨s3,e3,rfl⟩:=DataW.trod_bool underlying4 g3;simp only[List.cons.injEq,and_true] at e0 e1 e2 e3;subst e0 e1 e2 e3;exact⟨s0,s1,s2,s3,rfl⟩
theorem open_req {r:Reach} {b0:Nat} {v:Value} {d:DataW H} {p:List MemPlace} (hv:Value.okWide prog W r b0 28 v) (h:DataW.Trod enc prog W 0 (fun _=>true) true 28 v d p) :
  ∃q:ReqT,VR (ofF (allF W)) (Fx q) v∧q.arch.length≤Rows.uptoBulk d∧(∀i,i < q.jobs.length→(nth q.jobs i).text.length≤Rows.uptoBulk d)∧q.jobs.length≤Rows.uptoBulk d∧q.permits.length≤Rows.uptoBulk d:=by
 obtain⟨cs,rfl,_⟩:=Go.WideShapes.okWide_struct underlying28 hv;obtain⟨fuel,h⟩:=h;obtain⟨xs,n,hf,he,hl,hxs,hfs⟩:=DataW.trod_struct underlying28 h;obtain⟨rfl,rfl⟩:=Prod.mk.inj he;have hl':cs.size=7:=hl.trans (by kernel_rfl);obtain⟨cs⟩:=cs;have hl2:cs.length=7:=hl'
 match cs,hl2 with
 |[c0,c1,c2,c3,c4,c5,c6],_ =>
 match xs,hxs with
 |[y0,y1,y2,y3],_ =>
 have g0:DataW.trod enc prog W 0 (fun _=>true) true n 9 (([c0,c1,c2,c3,c4,c5,c6].drop 0).take (prog.cellsOf 9))=some y0:=hfs 0 _ rfl;have g1:DataW.trod enc prog W 0 (fun _=>true) true n 24 (([c0,c1,c2,c3,c4,c5,c6].drop 1).take (prog.cellsOf 24))=some y1:=hfs 1 _ rfl;have g2:DataW.trod enc prog W 0 (fun _=>true) true n 25 (([c0,c1,c2,c3,c4,c5,c6].drop 5).take (prog.cellsOf 25))=some y2:=hfs 2 _ rfl;have g3:DataW.trod enc prog W 0 (fun _=>true) true n 26 (([c0,c1,c2,c3,c4,c5,c6].drop 6).take (prog.cellsOf 26))=some y3:=hfs 3 _ rfl;rw[show prog.cellsOf 9=1 by kernel_rfl] at g0;rw[show prog.cellsOf 24=4 by kernel_rfl] at g1;rw[show prog.cellsOf 25=1 by kernel_rfl] at g2;rw[show prog.cellsOf 26=1 by kernel_rfl] at g3;simp only[List.drop_zero,List.drop_succ_cons,List.take_succ_cons,List.take_zero] at g0 g1 g2 g3;obtain⟨s,e0,rfl,_⟩:=DataW.trod_string underlying9 g0;obtain⟨fa,fb,fc,fd,e1⟩:=X34 g1;obtain⟨w2,jl,e2,r2,b2,k2⟩:=X32 g2;obtain⟨w3,nl,e3,r3,b3,_⟩:=X30 g3;simp only[List.cons.injEq,and_true] at e0 e1 e2 e3;obtain⟨rfl,rfl,rfl,rfl⟩:=e1;subst e0 e2 e3;refine⟨⟨s.data.toList,fa,fb,fc,fd,jl,nl⟩,?_,?_,fun i hi=>?_,?_,?_⟩
 ·unfold Fx;simp only[VR];exact⟨_,.cons (by first|(simp only[VR];done)|(simp only[VR];exact J2 s)) (.cons (by simp only[VR]) (.cons (by simp only[VR]) (.cons (by simp only[VR]) (.cons (by simp only[VR]) (.cons r2 (.cons r3 .nil)))))),rfl⟩
 ·simp only[List.map_cons,List.map_nil,Rows.uptoBulk,Rows.uptoBulkAll];omega
 ·have:=k2 i hi;simp only[List.map_cons,List.map_nil,Rows.uptoBulk,Rows.uptoBulkAll];omega
 ·simp only[List.map_cons,List.map_nil,Rows.uptoBulk,Rows.uptoBulkAll];omega
 ·simp only[List.map_cons,List.map_nil,Rows.uptoBulk,Rows.uptoBulkAll];omega
end
section
attribute [local irreducible] SW SO Bk
theorem Q5e:Ai prog 6:=Am func6
theorem X6h {x:PolT} {id:Int} (h:(B9 x id).2=true):Bm x id=true:=by
 unfold B9 at h;split at h
 ·rename_i q;simp only[Bool.and_eq_true] at q;exact q.1
 ·cases h
theorem Q3u {x:PolT} {id:Int} (h:x.all.length≤200):(B9 x id).1.length≤400:=by
 unfold B9;split
 ·show(Cj (G8 x id)).length≤400;rw[Vg];unfold G8;rw[List.length_append];have h1:=Ot (n:=x.all.length) (p:=Bx x id);have h2:=Ot (n:=x.all.length) (p:=B2 x id);have h3:=Ot (n:=x.all.length) (p:=B6 x id);split<;>omega
 ·exact Nat.zero_le _
theorem Q9x (l:List RepoT) (hll:l.length≤1048576) (hl:∀i,i < l.length→(nth l i).size≤1048576) (q:ReqT) (ha:q.arch.length≤1048576) (hj:∀i,i < q.jobs.length→(nth q.jobs i).text.length≤1048576) (hjl:q.jobs.length≤1048576) (hp:q.permits.length≤1048576) (hc:¬D7 (As (Ar 1) l).1 q=0) :
  FnV prog 5 [(Ak 4 Bp l),(Fx q)] (.bool true):=by
 have hl4:∀i,i < l.length→(nth l i).size≤4194304:=fun i hi=>Nat.le_trans (hl i hi) (by decide);have hi:=X7 (k:=Ar 1) hl4;have hr:=Q7b (k:=Ar 1) hll;have hat:=Yb (X8 (Ar 1) l);have h200:=hi.1;refine Ax [.tmp 4] func5 ntmps5 fun B F hF=>?_;refine Aa [] [0,3] (Ac [] [0,3,5] [] (hk 0 Q5e Q7p<|hk0) v0 c0 ?_);refine Ac [] [3,5,6] [] (hk 1 Xh (Yx 1 l (by omega) hl4)<|hk0) v0 c0 ?_;refine Ab (Aa [] [3,6,36] ?_);refine Cy (Ae ?_);refine Aa [] [3,6] (Ac [] [3,6,8,9] [(0,3)] (hk 2 Ou (Q2w (As (Ar 1) l).1 hi.1 hat (De q) ha hj hp hc)<|hk0) v0 c0 ?_);refine Aa [] [3,6,8,9,10] ?_;refine Aa [] [3,6,8,9,10] (Ac [] [3,6,8,9,11,12] [] (hk 2 Ou (Q2w (As (Ar 1) l).1 hi.1 hat (Ea q) ha hj hp hc)<|hk0) v0 c0 ?_);refine Ab (Aa [] [3,6,8,9,11,56] ?_);refine C7 (p:=(D7 (As (Ar 1) l).1 q)=(D7 (As (Ar 1) l).1 q)) (fun c1=>?_) fun c1=>?_
 ·exact absurd rfl c1
 ·refine Ae ?_;refine Ab (Aa [] [3,6,8,9,11,62] ?_);refine Dz (Aa [] [4] ?_);refine Ad (RK wR [(.bool (!decide ((D7 (As (Ar 1) l).1 q)=0)))] ?_);exact Same.of_eq (by simp only[Ag];simp[hc])
theorem Q9w (l:List RepoT) (hll:l.length≤1048576) (hl:∀i,i < l.length→(nth l i).size≤1048576) (q:ReqT) (ha:q.arch.length≤1048576) (hj:∀i,i < q.jobs.length→(nth q.jobs i).text.length≤1048576) (hjl:q.jobs.length≤1048576) (hp:q.permits.length≤1048576) (hc:D7 (As (Ar 1) l).1 q=0) (m:C3) (htm:Il q.arch=some m) :
  FnV prog 5 [(Ak 4 Bp l),(Fx q)] (.bool true):=by
 have hl4:∀i,i < l.length→(nth l i).size≤4194304:=fun i hi=>Nat.le_trans (hl i hi) (by decide);have hi:=X7 (k:=Ar 1) hl4;have hr:=Q7b (k:=Ar 1) hll;have hat:=Yb (X8 (Ar 1) l);have h200:=hi.1
 have hxl:(B5 (As (Ar 1) l).1 (De q) m).all.length≤200:=by rw[Ml];exact h200
 have hyl:(B5 (As (Ar 1) l).1 (Ea q) m).all.length≤200:=by rw[Ml];exact h200
 have hil:(Ca (As (Ar 1) l).1).length≤(As (Ar 1) l).1.all.length:=Wv;refine Ax [.tmp 4] func5 ntmps5 fun B F hF=>?_;refine Aa [] [0,3] (Ac [] [0,3,5] [] (hk 0 Q5e Q7p<|hk0) v0 c0 ?_);refine Ac [] [3,5,6] [] (hk 1 Xh (Yx 1 l (by omega) hl4)<|hk0) v0 c0 ?_;refine Ab (Aa [] [3,6,36] ?_);refine Cy (Ae ?_);refine Aa [] [3,6] (Ac [] [3,6,8,9] [(0,3)] (hk 2 Ou (S6 (As (Ar 1) l).1 hi hr hat (De q) ha hj hp hc m htm)<|hk0) v0 c0 ?_);refine Aa [] [3,6,8,9,10] ?_;refine Aa [] [3,6,8,9,10] (Ac [] [3,6,8,9,11,12] [] (hk 2 Ou (S6 (As (Ar 1) l).1 hi hr hat (Ea q) ha hj hp hc m htm)<|hk0) v0 c0 ?_);refine Ab (Aa [] [3,6,8,9,11,56] ?_);refine Cy (Ae ?_);refine Ab (Aa [] [3,6,8,9,11,62] ?_);refine Cy (Ae ?_);refine Aa [] [3,6,8,11,13] (Ab ?_);refine Aa [] [3,6,8,11,13,14] (Au ?_)
 refine B4 (fun g y=>∃(j:Nat) (dp:Bool),j≤q.jobs.length∧(dp=false→∀z,z < j→(nth q.jobs z).kind≠4)∧y=⟨[(3,(.fp (.agg [(.str q.arch),(.bool q.fd),(.bool q.fa),(.bool q.fv),(.bool false),(Ak 3 Ga q.jobs),(Bi q.permits)]))),(6,(.fp (Co ((As (Ar 1) l).1)))),(8,(.fp (Dv (B5 (As (Ar 1) l).1 (De q) m)))),(11,(.fp (Dv (B5 (As (Ar 1) l).1 (Ea q) m)))),(13,(.bool dp)),(14,(.int .i64 ((j:Int))))],[(1,(.row [(.str q.arch),(.bool true),(.bool true),(.bool true),(.bool false),(Ak 3 Ga q.jobs),(Bi q.permits)] 28))],2⟩∧g=q.jobs.length-j) [3,6,8,11,13,14] 2 _ (by omega) ⟨0,false,(by omega),(by exact fun _ z hz=>by omega),(by kernel_rfl),rfl⟩ ?_;rintro g1 y1 ⟨j,dp,f1_1,f1_2,rfl,rfl⟩;refine Ab (Aa [] [3,6,8,11,13,14,69] ?_);refine A4 (p:=(j:Int) < (q.jobs.length:Int)) (fun c1=>?_) fun c1=>?_
 ·refine Ae (Ab ?_);refine Au (Ac [] [3,6,8,11,13,14,78] [] hk0 v0 (cc 3 (p:=(0≤(j:Int)∧j < q.jobs.length)) (by omega)<|c0) ?_);refine A4 (p:=((nth q.jobs j).kind)=4) (fun c2=>?_) fun c2=>?_
  ·refine Aj (Ex [] [3,6,8,11,13,14] ?_);refine Aj (An 0 [] [3,6,8,11,13,14] [] hk0 v0 (cc 1 (p:=(-9223372036854775808≤(j:Int)+1∧(j:Int)+1≤9223372036854775807)) (by omega)<|c0) ?_);refine⟨by kernel_rfl,_,?_,j+1,true,?_,?_,(by kernel_rfl),rfl⟩
   ·omega
   ·omega
   ·exact fun h=>by cases h
  ·refine Ae ?_;refine Aj (An 0 [] [3,6,8,11,13,14] [] hk0 v0 (cc 1 (p:=(-9223372036854775808≤(j:Int)+1∧(j:Int)+1≤9223372036854775807)) (by omega)<|c0) ?_);refine⟨by kernel_rfl,_,?_,j+1,dp,?_,?_,(by kernel_rfl),rfl⟩
   ·omega
   ·omega
   ·intro h z hz;by_cases e:z=j
    ·subst e;exact c2
    ·exact f1_2 h z (by omega)
 ·refine Br (Ac [] [8,11,13,15] [] (hk 1 Q59 (Q9c (As (Ar 1) l).1 h200 hat)<|hk0) v0 c0 ?_);refine Ab (Aa [] [8,11,13,15,16] ?_);refine Au (B4 (fun g y=>∃(i:Nat),i≤(Ca (As (Ar 1) l).1).length∧y=⟨[(8,(.fp (Dv (B5 (As (Ar 1) l).1 (De q) m)))),(11,(.fp (Dv (B5 (As (Ar 1) l).1 (Ea q) m)))),(13,(.bool dp)),(15,(Bi (Ca (As (Ar 1) l).1))),(16,(.int .i64 ((i:Int))))],[(1,(.row [(.str q.arch),(.bool true),(.bool true),(.bool true),(.bool false),(Ak 3 Ga q.jobs),(Bi q.permits)] 28))],2⟩∧g=(Ca (As (Ar 1) l).1).length-i) [8,11,13,15,16] 2 _ (by omega) ⟨0,(by omega),(by kernel_rfl),rfl⟩ ?_);rintro g2 y2 ⟨i,f2_1,rfl,rfl⟩;have hka:=Q3u (id:=(nth (Ca (As (Ar 1) l).1) i)) hxl;have hkb:=Q3u (id:=(nth (Ca (As (Ar 1) l).1) i)) hyl
  have hmw:Kh (B9 (B5 (As (Ar 1) l).1 (De q) m) (nth (Ca (As (Ar 1) l).1) i)).1 (B9 (B5 (As (Ar 1) l).1 (Ea q) m) (nth (Ca (As (Ar 1) l).1) i)).1=(B9 (B5 (As (Ar 1) l).1 (De q) m) (nth (Ca (As (Ar 1) l).1) i)).1:=by rw[Q2u];exact X5a
  have hsn:(B9 (B5 (As (Ar 1) l).1 (Ea q) m) (nth (Ca (As (Ar 1) l).1) i)).2=(B9 (B5 (As (Ar 1) l).1 (De q) m) (nth (Ca (As (Ar 1) l).1) i)).2:=by rw[Q2u];exact X6e
  refine Ab (Aa [] [8,11,13,15,16,84] ?_);refine A4 (p:=(i:Int) < ((Ca (As (Ar 1) l).1).length:Int)) (fun c3=>?_) fun c3=>?_
  ·refine Ae (Ab ?_);refine Au (Ac [] [8,11,13,15,16,17,18] [] (hk 5 Xn (Wq (B5 (As (Ar 1) l).1 (De q) m) (Ui htm) (by rw[Ml];exact h200) (P4 hi _ m) (Wf hi _ m) (nth (Ca (As (Ar 1) l).1) i))<|hk0) v0 (cc 3 (p:=(0≤(i:Int)∧i < (Ca (As (Ar 1) l).1).length)) (by omega)<|c0) ?_);refine Ac [] [8,11,13,15,16,17,18,19,20] [] (hk 5 Xn (Wq (B5 (As (Ar 1) l).1 (Ea q) m) (Ui htm) (by rw[Ml];exact h200) (P4 hi _ m) (Wf hi _ m) (nth (Ca (As (Ar 1) l).1) i))<|hk0) v0 (cc 3 (p:=(0≤(i:Int)∧i < (Ca (As (Ar 1) l).1).length)) (by omega)<|c0) ?_;refine Ac [] [8,11,13,15,16,17,18,19,20,21] [] (hk 2 Y0j (X7c (B9 (B5 (As (Ar 1) l).1 (De q) m) (nth (Ca (As (Ar 1) l).1) i)).1 (B9 (B5 (As (Ar 1) l).1 (Ea q) m) (nth (Ca (As (Ar 1) l).1) i)).1 (by omega) (by omega))<|hk 4 Q54 ((Q0w (Kh (B9 (B5 (As (Ar 1) l).1 (De q) m) (nth (Ca (As (Ar 1) l).1) i)).1 (B9 (B5 (As (Ar 1) l).1 (Ea q) m) (nth (Ca (As (Ar 1) l).1) i)).1) (B9 (B5 (As (Ar 1) l).1 (De q) m) (nth (Ca (As (Ar 1) l).1) i)).1 (by rw[hmw];omega)).to (Same.of_eq (congrArg AV.bool (decide_eq_true hmw))))<|hk0) v0 c0 ?_;refine Ab (Aa [] [8,11,13,15,16,17,18,19,116] ?_)
   refine A7 (q:=!(((B9 (B5 (As (Ar 1) l).1 (De q) m) (nth (Ca (As (Ar 1) l).1) i)).2) == ((B9 (B5 (As (Ar 1) l).1 (Ea q) m) (nth (Ca (As (Ar 1) l).1) i)).2))) (fun c4=>?_) fun c4=>?_
   ·try simp only[Aq] at c4
    rw[hsn] at c4;simp at c4
   ·try simp only[Aq] at c4
    refine Ae (Ac [] [8,11,13,15,16,18,19,22] [] (hk 5 Y03 (X2z (B9 (B5 (As (Ar 1) l).1 (De q) m) (nth (Ca (As (Ar 1) l).1) i)).1 (nth (Ca (As (Ar 1) l).1) i) (by omega))<|hk0) v0 (cc 3 (p:=(0≤(i:Int)∧i < (Ca (As (Ar 1) l).1).length)) (by omega)<|c0) ?_);refine Ab (Ac (CS:=[(3,(((B9 (B5 (As (Ar 1) l).1 (De q) m) (nth (Ca (As (Ar 1) l).1) i)).2)=true→((B9 (B5 (As (Ar 1) l).1 (De q) m) (nth (Ca (As (Ar 1) l).1) i)).2)=true)),(4,(((B9 (B5 (As (Ar 1) l).1 (De q) m) (nth (Ca (As (Ar 1) l).1) i)).2)=true→((B9 (B5 (As (Ar 1) l).1 (De q) m) (nth (Ca (As (Ar 1) l).1) i)).2)=true)),(7,((((B9 (B5 (As (Ar 1) l).1 (De q) m) (nth (Ca (As (Ar 1) l).1) i)).2)&&(!dp))=true→(((B9 (B5 (As (Ar 1) l).1 (De q) m) (nth (Ca (As (Ar 1) l).1) i)).2)&&(!dp))=true)),(8,((((B9 (B5 (As (Ar 1) l).1 (De q) m) (nth (Ca (As (Ar 1) l).1) i)).2)&&(!dp))=true→(((B9 (B5 (As (Ar 1) l).1 (De q) m) (nth (Ca (As (Ar 1) l).1) i)).2)&&(!dp))=true))]) [125,126,129,130] [8,11,13,15,16,19,131] [] hk0 v0 (by refine cc _ ?_<|cc _ ?_<|cc _ ?_<|cc _ ?_ c0<;>(simp;done)) ?_)
    refine A7 (q:=(((B9 (B5 (As (Ar 1) l).1 (De q) m) (nth (Ca (As (Ar 1) l).1) i)).2)&&(!dp))&&(!(decide ((nth (Ca (As (Ar 1) l).1) i)∈(B9 (B5 (As (Ar 1) l).1 (De q) m) (nth (Ca (As (Ar 1) l).1) i)).1)))) (fun c5=>?_) fun c5=>?_
    ·try simp only[Aq] at c5
     have hnd:∀z,z < (De q).jobs.length→(nth (De q).jobs z).kind≠4:=fun z (hz:z < q.jobs.length)=>f1_2 c5.1.2 z (by clear hka hkb hmw hsn hxl hyl;omega);exact absurd (X6f (x:=(B5 (As (Ar 1) l).1 (De q) m)) (id:=(nth (Ca (As (Ar 1) l).1) i)) c5.1.1 (X4m hnd (X6h c5.1.1))) c5.2
    ·try simp only[Aq] at c5
     refine Ae (Aa [] [8,11,13,15,16,19,23] ?_);refine Au (B4 (fun g y=>∃(k:Nat),k≤(B9 (B5 (As (Ar 1) l).1 (Ea q) m) (nth (Ca (As (Ar 1) l).1) i)).1.length∧y=⟨[(8,(.fp (Dv (B5 (As (Ar 1) l).1 (De q) m)))),(11,(.fp (Dv (B5 (As (Ar 1) l).1 (Ea q) m)))),(13,(.bool dp)),(15,(Bi (Ca (As (Ar 1) l).1))),(16,(.int .i64 ((i:Int)))),(19,(Bi ((B9 (B5 (As (Ar 1) l).1 (Ea q) m) (nth (Ca (As (Ar 1) l).1) i)).1))),(23,(.int .i64 ((k:Int))))],[(1,(.row [(.str q.arch),(.bool true),(.bool true),(.bool true),(.bool false),(Ak 3 Ga q.jobs),(Bi q.permits)] 28))],2⟩∧g=(B9 (B5 (As (Ar 1) l).1 (Ea q) m) (nth (Ca (As (Ar 1) l).1) i)).1.length-k) [8,11,13,15,16,19,23] 2 _ (by omega) ⟨0,(by omega),(by kernel_rfl),rfl⟩ ?_);rintro g3 y3 ⟨k,f3_1,rfl,rfl⟩;refine Ab (Aa [] [8,11,13,15,16,19,23,135] ?_);refine A4 (p:=(k:Int) < (((B9 (B5 (As (Ar 1) l).1 (Ea q) m) (nth (Ca (As (Ar 1) l).1) i)).1).length:Int)) (fun c6=>?_) fun c6=>?_
     ·refine Ae (Ab ?_);refine Au (Ac [] [8,11,13,15,16,19,23,24] [] (hk 5 Qz ((P6 (B5 (As (Ar 1) l).1 (Ea q) m) (Ui htm) (nth (B9 (B5 (As (Ar 1) l).1 (Ea q) m) (nth (Ca (As (Ar 1) l).1) i)).1 k)).to (Same.of_eq (congrArg AV.bool (X6g (P2 (by omega))))))<|hk0) v0 (cc 3 (p:=(0≤(k:Int)∧k < ((B9 (B5 (As (Ar 1) l).1 (Ea q) m) (nth (Ca (As (Ar 1) l).1) i)).1).length)) (by omega)<|c0) ?_);refine Aa [] [8,11,13,15,16,19,23,145] ?_;refine Cy (Ae ?_);refine Aj (An 0 [] [8,11,13,15,16,19,23] [] hk0 v0 (cc 1 (p:=(-9223372036854775808≤(k:Int)+1∧(k:Int)+1≤9223372036854775807)) (by omega)<|c0) ?_);refine⟨by kernel_rfl,_,?_,k+1,?_,(by kernel_rfl),rfl⟩
      ·omega
      ·omega
     ·refine Br ?_;refine Aj (An 0 [] [8,11,13,15,16] [] hk0 v0 (cc 1 (p:=(-9223372036854775808≤(i:Int)+1∧(i:Int)+1≤9223372036854775807)) (by omega)<|c0) ?_);refine⟨by kernel_rfl,_,?_,i+1,?_,(by kernel_rfl),rfl⟩
      ·omega
      ·omega
  ·refine Br (Aa [] [4] ?_);refine Ad (RK wR [(.bool true)] ?_);exact Same.of_eq (by first|rfl|(simp only[Ag];simp_all))
theorem wider_ok (l:List RepoT) (hll:l.length≤1048576) (hl:∀i,i < l.length→(nth l i).size≤1048576) (q:ReqT) (ha:q.arch.length≤1048576) (hj:∀i,i < q.jobs.length→(nth q.jobs i).text.length≤1048576) (hjl:q.jobs.length≤1048576) (hp:q.permits.length≤1048576):FnV prog 5 [(Ak 4 Bp l),Fx q] (.bool true):=by
 by_cases h:D7 (As (Ar 1) l).1 q=0
 ·obtain⟨⟨m,hm⟩,_⟩:=Q6x h;exact Q9w l hll hl q ha hj hjl hp h m hm
 ·exact Q9x l hll hl q ha hj hjl hp h
end
end Sv
end Go.Proofs.YtglcebdfdehidaaGreatDoor
